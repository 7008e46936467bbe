
import Derived.Test.YtmmgjlgoggielaaGreatElFn
import Derived.Test.YtmmgjlgoggielaaGreatDwShort
import Derived.Test.YtmmgjlgoggielaaGreatDwNest
import Derived.Test.YtmmgjlgoggielaaGreatProg
import Derived.Test.YtmmgjlgoggielaaGreatDwClone
import Derived.Test.YtmmgjlgoggielaaGreatDwSortI
import Derived.Test.YtmmgjlgoggielaaGreatDwSort

set_option maxRecDepth 100000
set_option maxHeartbeats 4000000
namespace Go.Dw.El
open Go.Proofs Go.Proofs.Tryz Go.Dw
@[reducible] def rW(n:Int):Int:=IntKind.wrap .i64 n
@[reducible] def rI(n:Int):RV:= .d (.int .i64 n)
@[reducible] def r0:RV:= .d (.int .i64 0)
@[reducible] def rS(s:List UInt8):RV:= .d (.str s)
@[reducible] def rB(b:Bool):RV:= .d (.bool b)
@[reducible] def rM{α:Type}(g:α->PD)(l:List α):RV:= .d (.lst (l.map g))
@[reducible] def rL(l:List Int):RV:= .d (.lst (l.map (PD.int .i64)))
@[reducible] def zZ0:List RV:=[.ng,.d (.int .i64 0),.d (.int .i64 0),.d (.int .i64 0),.d (.int .i64 0),.d (.int .i64 0),.d (.int .i64 0),.d (.int .i64 0),.d (.int .i64 0),.d (.int .i64 0),.d (.int .i64 0),.d (.int .i64 0),.d (.int .i64 0),.d (.int .i64 0),.d (.int .i64 0),.d (.int .i64 0)]
@[reducible] def zZ1:List RV:=[.d (.int .i64 0),.d (.int .i64 0),.d (.int .i64 0),.d (.int .i64 0),.d (.int .i64 0),.d (.int .i64 0),.d (.int .i64 0),.d (.int .i64 0),.d (.int .i64 0),.d (.int .i64 0),.d (.int .i64 0),.d (.int .i64 0)]
@[reducible] def zZ2:List RV:=[.d (.str []),.d (.str []),.d (.str []),.d (.str []),.d (.int .i64 0),.d (.int .i64 0),.d (.int .i64 0),.d (.int .i64 0),.d (.int .i64 0)]
@[reducible] def zZ3:List RV:=[.d (.int .i64 0),.d (.int .i64 0),.d (.int .i64 0),.d (.int .i64 0),.d (.int .i64 0),.d (.int .i64 0),.d (.int .i64 0),.ng]
@[reducible] def zZ4:List RV:=[.d (.int .i64 0),.d (.int .i64 0),.d (.int .i64 0),.d (.int .i64 0),.d (.int .i64 0),.d (.int .i64 0)]
@[reducible] def aq.rc(x:aq):List RV:=[.d (.int .i64 x.ai.aN.aK.fX),.d (.int .i64 x.ai.aN.aK.fY),.d (.int .i64 x.ai.aN.aK.fZ),.d (.int .i64 x.ai.aN.aF.fX),.d (.int .i64 x.ai.aN.aF.fY),.d (.int .i64 x.ai.aN.aF.fZ),.d (.int .i64 x.ai.bi.bn),.d (.lst (x.ai.bi.aK.map (PD.int .i64))),.d (.lst (x.ai.bi.aF.map (PD.int .i64))),.d (.int .i64 x.ai.cW),.d (.int .i64 x.ai.bR),.d (.int .i64 x.ai.dF),.d (.int .i64 x.ai.lw),.d (.int .i64 x.ai.cv),.d (.int .i64 x.eZ.bY.bn),.d (.lst (x.eZ.bY.aK.map (PD.int .i64))),.d (.lst (x.eZ.bY.aF.map (PD.int .i64))),.d (.int .i64 x.eZ.bG),.d (.int .i64 x.eZ.bw),.d (.int .i64 x.bR)]
@[reducible] def aJ.rc(x:aJ):List RV:=[.d (.int .i64 x.aN.aK.fX),.d (.int .i64 x.aN.aK.fY),.d (.int .i64 x.aN.aK.fZ),.d (.int .i64 x.aN.aF.fX),.d (.int .i64 x.aN.aF.fY),.d (.int .i64 x.aN.aF.fZ),.d (.int .i64 x.bi.bn),.d (.lst (x.bi.aK.map (PD.int .i64))),.d (.lst (x.bi.aF.map (PD.int .i64))),.d (.int .i64 x.cW),.d (.int .i64 x.bR),.d (.int .i64 x.dF),.d (.int .i64 x.lw),.d (.int .i64 x.cv)]
@[reducible] def aH.rc(x:aH):List RV:=[.d (.int .i64 x.fM),.d (.int .i64 x.bG.a0),.d (.int .i64 x.bG.a1),.d (.int .i64 x.bG.a2),.d (.int .i64 x.bw.a0),.d (.int .i64 x.bw.a1),.d (.int .i64 x.bw.a2),.d (.lst (x.dG.map (PD.int .i64))),.d (.int .i64 x.dt),.d (.int .i64 x.dI)]
@[reducible] def ae.rc(x:ae):List RV:=[.d (.str x.aD.bc),.d (.str x.aD.aO),.d (.str x.aD.ap),.d (.str x.aD.bd),.d (.int .i64 x.aX),.d (.int .i64 x.aM),.d (.int .i64 x.bf),.d (.int .i64 x.aP),.d (.int .i64 x.aT)]
@[reducible] def av.rc(x:av):List RV:=[.d (.int .i64 x.bp),.d (.int .i64 x.fTo),.d (.int .i64 x.gm.bG),.d (.int .i64 x.gm.bw),.d (.int .i64 x.bj.fX),.d (.int .i64 x.bj.fY),.d (.int .i64 x.bj.fZ),.d (.lst (x.bL.bC.map aH.pd))]
@[reducible] def ah.rc(x:ah):List RV:=[.d (.int .i64 x.aK.fX),.d (.int .i64 x.aK.fY),.d (.int .i64 x.aK.fZ),.d (.int .i64 x.aF.fX),.d (.int .i64 x.aF.fY),.d (.int .i64 x.aF.fZ)]
@[reducible] def al.rc(x:al):List RV:=[.d (.int .i64 x.aO.fX),.d (.int .i64 x.aO.fY),.d (.int .i64 x.aO.fZ),.d (.int .i64 x.aM),.d (.int .i64 x.bf),.d (.int .i64 x.bF)]
@[reducible] def bu.rc(x:bu):List RV:=[.d (.int .i64 x.bY.bn),.d (.lst (x.bY.aK.map (PD.int .i64))),.d (.lst (x.bY.aF.map (PD.int .i64))),.d (.int .i64 x.bG),.d (.int .i64 x.bw)]
@[reducible] def aA.rc(x:aA):List RV:=[.d (.str x.aD.bc),.d (.str x.aD.aO),.d (.str x.aD.ap),.d (.str x.aD.bd),.d (.lst (x.bM.map av.pd))]
@[reducible] def bP.rc(x:bP):List RV:=[.d (.int .i64 x.fp.aN.aK.fX),.d (.int .i64 x.fp.aN.aK.fY),.d (.int .i64 x.fp.aN.aK.fZ),.d (.int .i64 x.fp.aN.aF.fX),.d (.int .i64 x.fp.aN.aF.fY),.d (.int .i64 x.fp.aN.aF.fZ),.d (.int .i64 x.fp.bi.bn),.d (.lst (x.fp.bi.aK.map (PD.int .i64))),.d (.lst (x.fp.bi.aF.map (PD.int .i64))),.d (.lst (x.fp.a8.map al.pd)),.d (.int .i64 x.fp.cW),.d (.lst (x.kb.map ak.pd)),.d (.int .i64 x.gt),.d (.int .i64 x.ftaken),.d (.bool x.ffound),.d (.int .i64 x.bS.aV.fX),.d (.int .i64 x.bS.aV.fY),.d (.int .i64 x.bS.aV.fZ),.d (.int .i64 x.bS.aX),.d (.int .i64 x.bS.bh),.d (.int .i64 x.bS.dW),.d (.int .i64 x.bS.aY.aK.fX),.d (.int .i64 x.bS.aY.aK.fY),.d (.int .i64 x.bS.aY.aK.fZ),.d (.int .i64 x.bS.aY.aF.fX),.d (.int .i64 x.bS.aY.aF.fY),.d (.int .i64 x.bS.aY.aF.fZ)]
@[reducible] def aj.rc(x:aj):List RV:=[.d (.int .i64 x.aV.fX),.d (.int .i64 x.aV.fY),.d (.int .i64 x.aV.fZ),.d (.int .i64 x.aX),.d (.int .i64 x.bh),.d (.int .i64 x.dW),.d (.int .i64 x.aY.aK.fX),.d (.int .i64 x.aY.aK.fY),.d (.int .i64 x.aY.aK.fZ),.d (.int .i64 x.aY.aF.fX),.d (.int .i64 x.aY.aF.fY),.d (.int .i64 x.aY.aF.fZ)]
@[reducible] def ag.rc(x:ag):List RV:=[.d (.int .i64 x.aN.aK.fX),.d (.int .i64 x.aN.aK.fY),.d (.int .i64 x.aN.aK.fZ),.d (.int .i64 x.aN.aF.fX),.d (.int .i64 x.aN.aF.fY),.d (.int .i64 x.aN.aF.fZ),.d (.int .i64 x.bi.bn),.d (.lst (x.bi.aK.map (PD.int .i64))),.d (.lst (x.bi.aF.map (PD.int .i64))),.d (.lst (x.a8.map al.pd)),.d (.int .i64 x.cW)]
@[reducible] def ak.rc(x:ak):List RV:=[.d (.int .i64 x.jw.aK.fX),.d (.int .i64 x.jw.aK.fY),.d (.int .i64 x.jw.aK.fZ),.d (.int .i64 x.jw.aF.fX),.d (.int .i64 x.jw.aF.fY),.d (.int .i64 x.jw.aF.fZ),.d (.int .i64 x.cf),.d (.int .i64 x.gt)]
@[reducible] def au.rc(x:au):List RV:=[.d (.str x.aZ.aD.bc),.d (.str x.aZ.aD.aO),.d (.str x.aZ.aD.ap),.d (.str x.aZ.aD.bd),.d (.int .i64 x.aZ.aX),.d (.int .i64 x.aZ.aM),.d (.int .i64 x.aZ.bf),.d (.int .i64 x.aZ.aP),.d (.int .i64 x.aZ.aT),.d (.lst (x.aB.ce.map ae.pd)),.d (.int .i64 x.aB.ap.aV.fX),.d (.int .i64 x.aB.ap.aV.fY),.d (.int .i64 x.aB.ap.aV.fZ),.d (.int .i64 x.aB.ap.aX),.d (.int .i64 x.aB.ap.bh),.d (.int .i64 x.aB.ap.dW),.d (.int .i64 x.aB.ap.aY.aK.fX),.d (.int .i64 x.aB.ap.aY.aK.fY),.d (.int .i64 x.aB.ap.aY.aK.fZ),.d (.int .i64 x.aB.ap.aY.aF.fX),.d (.int .i64 x.aB.ap.aY.aF.fY),.d (.int .i64 x.aB.ap.aY.aF.fZ),.d (.int .i64 x.aB.bt.aK),.d (.int .i64 x.aB.bt.aF),.d (.int .i64 x.aB.gr)]
@[reducible] def ba.rc(x:ba):List RV:=[.d (.lst (x.ce.map ae.pd)),.d (.int .i64 x.ap.aV.fX),.d (.int .i64 x.ap.aV.fY),.d (.int .i64 x.ap.aV.fZ),.d (.int .i64 x.ap.aX),.d (.int .i64 x.ap.bh),.d (.int .i64 x.ap.dW),.d (.int .i64 x.ap.aY.aK.fX),.d (.int .i64 x.ap.aY.aK.fY),.d (.int .i64 x.ap.aY.aK.fZ),.d (.int .i64 x.ap.aY.aF.fX),.d (.int .i64 x.ap.aY.aF.fY),.d (.int .i64 x.ap.aY.aF.fZ),.d (.int .i64 x.bt.aK),.d (.int .i64 x.bt.aF),.d (.int .i64 x.gr)]
@[reducible] def a7.rc(x:a7):List RV:=[.d (.lst (x.cm.map (PD.int .i64))),.d (.int .i64 x.aV.fX),.d (.int .i64 x.aV.fY),.d (.int .i64 x.aV.fZ),.d (.int .i64 x.aX)]
@[reducible] def aw.rc(x:aw):List RV:=[.d (.str x.bc),.d (.str x.aO),.d (.str x.ap),.d (.str x.bd)]
@[reducible] def ac.rc(x:ac):List RV:=[.d (.lst (x.fL.map (PD.int .i64))),.d (.int .i64 x.fAt)]
@[reducible] def aa.rc(x:aa):List RV:=[.d (.int .i64 x.fX),.d (.int .i64 x.fY),.d (.int .i64 x.fZ)]
@[reducible] def aI.rc(x:aI):List RV:=[.d (.int .i64 x.bn),.d (.lst (x.aK.map (PD.int .i64))),.d (.lst (x.aF.map (PD.int .i64)))]
@[reducible] def bg.rc(x:bg):List RV:=[.d (.lst (x.nl.map (PD.int .i64))),.d (.lst (x.fback.map (PD.int .i64)))]
@[reducible] def aS.rc(x:aS):List RV:=[.d (.lst (x.dl.map ae.pd)),.d (.lst (x.c7.map al.pd)),.d (.lst (x.jn.map av.pd))]
@[reducible] def aL.rc(x:aL):List RV:=[.d (.lst (x.bG.map (PD.int .i64))),.d (.lst (x.bw.map (PD.int .i64)))]
@[reducible] def az.rc(x:az):List RV:=[.d (.int .i64 x.aK),.d (.int .i64 x.aF)]
def hintAt:FuncId->Nat->Nat->List yF:=fun f nb id=>
  if f=4 then(if nb=0 then(if id=5 then [.qv [4,5,6,7,33,34] [64,80,432,496]]else if id=9 then [.frz (.reg 6),.qv [4,5,6,7] [64,80,496]]else if id=10 then [.frz (.reg 7),.qv [4,5,6,7,9,11] [64,80]]else [])else [])else if f=13 then(if nb=1 then(if id=3 then [.ownp (.cell 80 0) 1104 116,.qv [0,1,4,5,6] [0,64,80,1104]]else if id=16 then [.qv [4,5] [0,64,80,1104]]else [])else [])else if f=14 then(if nb=1 then(if id=4 then [.own 9 2192 66,.qv [0,5,6,9,10,11,12] [0,80,96,160,2192]]else if id=12 then [.qv [0,5,6,9,10,11,12,13,14,16] [0,80,96,160,208,224,2192]]else if id=14 then [.qv [0,5,6,9,10,11,12,13,16] [0,80,96,160,208,2192]]else if id=18 then [.qv [0,5,6,9,10,11,12,13] [0,80,96,160,208,2192]]else if id=21 then [.qv [9] [0,2192]]else [])else [])else if f=20 then(if nb=0 then(if id=9 then [.own 14 1360 86,.qv [3,4,9,13,14,47,48,49] [48,64,1360]]else if id=13 then [.own 17 1056 66,.qv [3,4,9,13,14,17,47,48,49,54,55,56] [48,64,1056,1360]]else if id=17 then [.qv [3,4,9,13,14,17,47,48,49] [48,64,1056,1360]]else if id=22 then [.qv [9,13,14] [1360]]else if id=25 then [.own 22 1648 66,.qv [9,14,22,91,92,93] [1360,1648]]else if id=29 then [.qv [14,22] [1360,1648]]else [])else [])else if f=21 then(if nb=0 then(if id=4 then [.qv [0,1,5] []]else if id=8 then [.qv [] []]else [])else [])else if f=22 then(if nb=0 then(if id=2 then [.qv [0,1,5] []]else if id=5 then [.qv [0] []]else [])else [])else if f=26 then(if nb=0 then(if id=4 then [.qv [0,1,5] []]else if id=8 then [.qv [] []]else [])else [])else if f=49 then(if nb=1 then(if id=3 then [.qv [2,3,16,17] [0,32,48,96,97]]else if id=7 then [.qv [2,3] [0,32,48,96,97]]else [])else [])else if f=52 then(if nb=1 then(if id=3 then [.ownp (.cell 48 0) 1040 184,.qv [0,2,3,4] [0,32,48,1040]]else if id=13 then [.qv [2,3] [0,32,48,1040]]else [])else [])else if f=53 then(if nb=0 then(if id=2 then [.qv [2,4,6,13,14,15] [64,96]]else if id=5 then [.qv [2,4,6,9,13,14,15,20,21,22] [64,96,144]]else if id=10 then [.qv [2,4,6,13,14,15] [64,96]]else if id=11 then [.qv [6] [96]]else [])else [])else if f=55 then(if nb=0 then(if id=7 then [.ownp (.cell 128 0) 704 66,.ownp (.cell 128 1) 784 81,.ownp (.cell 128 2) 864 113,.qv [3,4,6,8,25,26,27] [48,64,96,128,704,784,864]]else if id=13 then [.qv [6,8] [96,128,704,784,864]]else [])else [])else if f=57 then(if nb=0 then(if id=7 then [.qv [4,8,37,38,39] [64,128]]else if id=13 then [.qv [4,8] [64,128]]else [])else [])else if f=58 then(if nb=0 then(if id=3 then [.own 7 816 47,.qv [3,4,5,7,13,14,15] [48,64,80,816]]else if id=9 then [.qv [7] [816]]else [])else [])else if f=62 then(if nb=0 then(if id=3 then [.qv [1,2,6,18,19,20] [32,272]]else if id=7 then [.qv [1,2,6] [32,272]]else if id=11 then [.qv [1,2,9,10,45,46,47] [32,272]]else if id=17 then [.qv [9,10] []]else [])else [])else if f=65 then(if nb=0 then(if id=8 then [.own 9 656 66,.own 10 720 81,.qv [3,4,9,10,24,25,26] [48,64,656,720]]else if id=14 then [.qv [9,10] [656,720]]else [])else [])else if f=66 then(if nb=0 then(if id=8 then [.own 8 2432 142,.own 9 2576 3,.qv [1,2,8,9,10,11] [32,176,560,561,2432,2576]]else if id=13 then [.own 13 1120 81,.qv [1,2,8,9,10,11,12,13,55,56,57] [32,176,560,561,1120,2432,2576]]else if id=17 then [.frz (.reg 13),.qv [1,2,8,9,10,11,12,13] [32,176,560,561,2432,2576]]else if id=25 then [.own 19 1840 3,.qv [1,2,8,9,10,11,12,16,18,19,98,99,100] [32,176,256,560,561,1840,2432,2576]]else if id=30 then [.qv [1,2,8,9,10,11,12,16,19] [32,176,256,560,561,1840,2432,2576]]else if id=33 then [.ownp (.cell 352 0) 2288 3,.qv [1,2,8,9,10,11,22,127,128,129] [32,176,352,560,561,1840,2288,2432,2576]]else if id=38 then [.qv [1,2,8,9,10,11,22] [32,176,352,560,561,2288,2432,2576]]else if id=40 then [.qv [1,2,8,9,10,11,12] [32,176,560,561,2432,2576]]else if id=42 then [.qv [8,9] [2432,2576]]else [])else [])else if f=71 then(if nb=0 then(if id=2 then [.qv [0,3,5] [48]]else if id=4 then [.qv [0,3,5] [48]]else [])else [])else if f=78 then(if nb=0 then(if id=3 then [.qv [1,3,9,10] [16,112]]else if id=7 then [.qv [1,3] [16,112]]else [])else [])else if f=81 then(if nb=0 then(if id=5 then [.qv [41,42] []]else [])else [])else if f=83 then(if nb=0 then(if id=2 then [.qv [1,6,7,8] [16]]else if id=7 then [.qv [1] [16]]else [])else [])else if f=90 then(if nb=1 then(if id=2 then [.qv [0,1,7,8] [0]]else if id=7 then [.qv [] [0]]else [])else [])else if f=95 then(if nb=0 then(if id=3 then [.qv [3,6,7,8] []]else if id=8 then [.qv [3] []]else [])else [])else if f=105 then(if nb=1 then(if id=4 then [.ownp (.cell 48 1) 432 3,.ownp (.cell 48 2) 512 3,.qv [0,2,3,4,5,6] [0,32,48,432,512]]else if id=9 then [.qv [2,3] [0,32,48,432,512]]else [])else [])else if f=108 then(if nb=0 then(if id=10 then [.qv [1,7] [304,368]]else if id=14 then [.frz (.cell 304 11),.qv [7] [304]]else [])else [])else if f=109 then(if nb=0 then(if id=5 then [.qv [4,5,6,7,8,31] [64,80,96,112,128]]else [])else [])else if f=115 then(if nb=0 then(if id=3 then [.own 5 304 3,.qv [1,5,8,9,10] [304]]else if id=7 then [.qv [5] [304]]else [])else [])else if f=118 then(if nb=0 then(if id=6 then [.qv [2,52,53,54] [32]]else if id=12 then [.qv [] []]else [])else [])else if f=120 then(if nb=0 then(if id=14 then [.qv [1,38,39,40] [16]]else if id=20 then [.qv [] []]else [])else [])else if f=122 then(if nb=0 then(if id=3 then [.qv [2,3,6,16,17,18] [32,48,224]]else if id=10 then [.qv [6] [224]]else [])else [])else if f=123 then(if nb=0 then(if id=3 then [.qv [1,2,3,7,11,12,13] [48]]else if id=8 then [.qv [7] []]else [])else [])else if f=127 then(if nb=0 then(if id=3 then [.qv [0,2,3,13,14] [32,48,112,160]]else if id=7 then [.qv [2,3] [32,48,112,160]]else [])else [])else if f=129 then(if nb=0 then(if id=4 then [.own 9 928 3,.qv [2,3,4,5,9,10,11] [64,80,928]]else if id=7 then [.qv [9] [928]]else [])else if nb=2 then(if id=4 then [.own 9 928 3,.qv [2,3,4,5,9,10,11] [0,1,64,80,928]]else if id=7 then [.qv [9] [0,1,928]]else [])else [])else if f=131 then(if nb=0 then(if id=8 then [.qv [2,10,33,34,35] [512]]else if id=12 then [.qv [10] [512]]else [])else [])else if f=134 then(if nb=0 then(if id=5 then [.qv [0,1,4,5,6] [64,80]]else if id=9 then [.qv [4,5] [64,80]]else [])else [])else if f=135 then(if nb=1 then(if id=2 then [.qv [0,1,2,3,4,10,11] [0]]else [])else [])else if f=156 then(if nb=0 then(if id=2 then [.qv [0,5,6,7] []]else if id=7 then [.qv [0] []]else [])else [])else if f=175 then(if nb=0 then(if id=2 then [.qv [3,4,9,10,11] [48,64]]else if id=7 then [.qv [4] [64]]else [])else [])else if f=176 then(if nb=0 then(if id=2 then [.qv [1,4,9,10,11] [64]]else if id=7 then [.qv [4] [64]]else [])else [])else if f=183 then(if nb=1 then(if id=4 then [.qv [0,3] [0]]else if id=9 then [.qv [0,3,4,5] [0]]else if id=14 then [.qv [0,3] [0]]else if id=16 then [.qv [0] [0]]else [])else [])else if f=184 then(if nb=1 then(if id=5 then [.ownp (.cell 0 11) 80176 194,.mv (.cell 0 11) 90081,.qv [6] [0,90081]]else [])else if nb=2 then(if id=5 then [.ownp (.cell 0 11) 80176 194,.bumpp (.cell 0 11),.qv [6] [0,1]]else [])else [])else if f=186 then(if nb=2 then(if id=2 then [.bumpp (.cell 0 11),.qv [] [0,1]]else [])else [])else if f=195 then(if nb=0 then(if id=5 then [.qv [2,7,8,9,28,29] [128,144]]else [])else [])else if f=198 then(if nb=0 then(if id=2 then [.qv [0,1,7,8] []]else if id=7 then [.qv [] []]else [])else [])else if f=199 then(if nb=0 then(if id=6 then [.qv [1,4,5,33,34] [16]]else if id=12 then [.qv [] []]else [])else [])else if f=208 then(if nb=1 then(if id=1 then [.qv [0,1,2,3,8] [0]]else if id=2 then [.qv [0,1,2,3,8] [0]]else if id=4 then [.qv [0,1,2,3,8,9] [0]]else [])else [])else if f=217 then(if nb=0 then(if id=4 then [.qv [0,2] []]else if id=7 then [.qv [0,2] []]else [])else [])else if f=229 then(if nb=2 then(if id=2 then [.qv [0,1,2,6,7,8] [0,1]]else if id=6 then [.qv [0,1,2,6,7] [0,1]]else if id=7 then [.qv [0,1,2,6] [0,1]]else if id=9 then [.qv [0,1,2,6,7,8] [0,1]]else if id=13 then [.qv [0,1,2,6,7] [0,1]]else [])else [])else if f=241 then(if nb=0 then(if id=2 then [.qv [0,1,2,9,10] []]else if id=7 then [.qv [0,1,2] []]else [])else [])else if f=257 then(if nb=0 then(if id=3 then [.qv [1,2,10,11,12] [16,32,112]]else if id=7 then [.qv [1,2] [16,32,112]]else [])else [])else if f=273 then(if nb=0 then(if id=7 then [.qv [1,2,6,8,31,32,33] [96,128]]else if id=17 then [.qv [6,8] [96,128]]else [])else [])else if f=278 then(if nb=2 then(if id=2 then [.qv [1,5,6] [0,1]]else if id=7 then [.qv [5] [0,1]]else [])else [])else if f=280 then(if nb=0 then(if id=5 then [.qv [0,3,4] []]else if id=10 then [.qv [3] []]else [])else [])else if f=301 then(if nb=2 then(if id=1 then [.qv [0,1,2,3,8] [0,1]]else if id=2 then [.qv [0,1,2,3,8] [0,1]]else if id=4 then [.qv [0,1,2,3,8,9] [0,1]]else [])else [])else if f=326 then(if nb=0 then(if id=3 then [.qv [1,2,13,14] [16,32,112]]else if id=7 then [.qv [1,2] [16,32,112]]else [])else [])else if f=330 then(if nb=2 then(if id=0 then [.qv [0,1] [0,1]]else [])else [])else if f=331 then(if nb=2 then(if id=2 then [.qv [0,1,2,7] [0,1]]else if id=8 then [.qv [0,1,2,7,9] [0,1]]else if id=11 then [.qv [1,7] [0,1]]else [])else [])else if f=332 then(if nb=0 then(if id=5 then [.qv [2,3,4,16] [32,48,64]]else [])else [])else if f=339 then(if nb=0 then(if id=9 then [.qv [0,1,5,6] []]else [])else [])else if f=350 then(if nb=0 then(if id=1 then [.qv [0,1] []]else if id=3 then [.qv [0] []]else [])else [])else if f=353 then(if nb=0 then(if id=6 then [.fixv 16,.qv [1,3] []]else [])else [])else if f=354 then(if nb=0 then(if id=3 then [.qv [3,6,7,8] []]else if id=10 then [.qv [3] []]else [])else [])else if f=383 then(if nb=0 then(if id=3 then [.qv [3,6,7,8] []]else if id=7 then [.qv [3] []]else [])else [])else if f=386 then(if nb=0 then(if id=3 then [.qv [1,5,16,17,18] [240]]else if id=7 then [.qv [1,5,6,7,8,16,17,18,25,26] [240]]else if id=14 then [.qv [1,5,16,17,18] [240]]else if id=15 then [.qv [5] [240]]else [])else [])else if f=393 then(if nb=0 then(if id=2 then [.qv [0,1,7,8] []]else if id=7 then [.qv [] []]else [])else [])else if f=406 then(if nb=0 then(if id=4 then [.own 4 240 3,.qv [0,4] [240]]else if id=7 then [.qv [4] [240]]else [])else [])else if f=408 then(if nb=0 then(if id=6 then [.own 6 560 3,.qv [0,1,6,7,18,19] [560]]else if id=12 then [.qv [6] [560]]else [])else [])else if f=409 then(if nb=0 then(if id=1 then [.qv [0] []]else if id=3 then [.qv [0] []]else [])else [])else if f=411 then(if nb=0 then(if id=2 then [.qv [0,1,7,8] []]else if id=7 then [.qv [] []]else [])else [])else if f=421 then(if nb=0 then(if id=2 then [.qv [0,1,7,8] []]else if id=7 then [.qv [] []]else [])else [])else []
def aC:Hints:={ at_:=hintAt,mt:=fun f i=>(f==4&&i==92)||(f==13&&i==28)||(f==71&&i==24)||(f==443&&i==19),by_:=fun f i=>(f==68&&i==0)||(f==79&&i==0)||(f==129&&i==0)||(f==132&&i==0)||(f==133&&i==0)||(f==135&&i==0)||(f==149&&i==0)||(f==183&&i==0)||(f==208&&i==0)||(f==229&&i==0)||(f==301&&i==0)||(f==442&&i==0),own:=fun f i=>(f==14&&i==0)||(f==105&&i==0)||(f==107&&i==0)||(f==127&&i==0)||(f==182&&i==0)||(f==257&&i==0)||(f==325&&i==0)||(f==364&&i==0) }
theorem eqE_45(a b:aj):wP prog .eql 45 (.d a.pd) (.d b.pd)=some (.bool (((a.aV.fX==b.aV.fX)&&((a.aV.fY==b.aV.fY)&&((a.aV.fZ==b.aV.fZ)&&true)))&&((a.aX==b.aX)&&((a.bh==b.bh)&&((a.dW==b.dW)&&((((a.aY.aK.fX==b.aY.aK.fX)&&((a.aY.aK.fY==b.aY.aK.fY)&&((a.aY.aK.fZ==b.aY.aK.fZ)&&true)))&&(((a.aY.aF.fX==b.aY.aF.fX)&&((a.aY.aF.fY==b.aY.aF.fY)&&((a.aY.aF.fZ==b.aY.aF.fZ)&&true)))&&true))&&true))))),true):=by kernel_rfl
theorem eqE_47(a b:az):wP prog .eql 47 (.d a.pd) (.d b.pd)=some (.bool ((a.aK==b.aK)&&((a.aF==b.aF)&&true)),true):=by kernel_rfl
theorem eqE_64(a b:aw):wP prog .eql 64 (.d a.pd) (.d b.pd)=some (.bool ((a.bc==b.bc)&&((a.aO==b.aO)&&((a.ap==b.ap)&&((a.bd==b.bd)&&true)))),true):=by kernel_rfl
theorem eqE_66(a b:ae):wP prog .eql 66 (.d a.pd) (.d b.pd)=some (.bool (((a.aD.bc==b.aD.bc)&&((a.aD.aO==b.aD.aO)&&((a.aD.ap==b.aD.ap)&&((a.aD.bd==b.aD.bd)&&true))))&&((a.aX==b.aX)&&((a.aM==b.aM)&&((a.bf==b.bf)&&((a.aP==b.aP)&&((a.aT==b.aT)&&true)))))),true):=by kernel_rfl
theorem eqN_66(a b:ae):wP prog .neq 66 (.d a.pd) (.d b.pd)=some (.bool (!(((a.aD.bc==b.aD.bc)&&((a.aD.aO==b.aD.aO)&&((a.aD.ap==b.aD.ap)&&((a.aD.bd==b.aD.bd)&&true))))&&((a.aX==b.aX)&&((a.aM==b.aM)&&((a.bf==b.bf)&&((a.aP==b.aP)&&((a.aT==b.aT)&&true))))))),true):=by kernel_rfl
theorem jW(a b:aW):wP prog .eql 182 (.d a.pd) (.d b.pd)=some (.bool ((a.a0==b.a0)&&((a.a1==b.a1)&&((a.a2==b.a2)&&true))),true):=by kernel_rfl
theorem T_api_Pick_inj:∀x y:ae,x.pd=y.pd->x=y:=by
  rintro⟨⟨z1,z2,z3,z4⟩,z5,z6,z7,z8,z9⟩ ⟨⟨z10,z11,z12,z13⟩,z14,z15,z16,z17,z18⟩ h
  cases h;rfl
def ext0:FuncId->Option qU:=fun _=>none
theorem lf{a0:(List UInt8)}{r:Bool}(h:f7 a0=some r):EvP prog aC ext0 306 [rS a0] [] (rB r,[]):=by
 refine Ev.body rfl Tryz.func306 rfl (by kernel_rfl)<|gS rfl rfl<|sU<|sN<|gS rfl rfl<|sM rfl<|sM rfl<|sV (rB (!(a0==a0)))<|sA rfl<|sN<|qR ?_
 exact oI h▸qD
theorem eE{a0:(List UInt8)}{a1:(List UInt8)}{r:Int}(h:bW a0 a1=some r):EvP prog aC ext0 239 [rS a0,rS a1] [] (rI r,[]):=by
 refine Ev.body rfl Tryz.func239 rfl (by kernel_rfl)<|gS rfl rfl<|sV (r0)<|sN<|gS rfl rfl<|sM rfl<|bE h fun x1 hx1 h=>cD (lf hx1)<|sA rfl<|sN<|gS rfl rfl<|sM rfl<|bE h fun x2 hx2 h=>cD (lf hx2)<|sA rfl ?_
 refine sN<|qS<|gS rfl rfl<|sF h (fun h=>?_) fun h=>?_
 ·refine sN<|cT<|qS<|gS rfl rfl<|sF h (fun h=>?_) fun h=>?_
  ·refine sN<|cT<|gS rfl rfl<|sV (r0)<|sN<|qR ?_
   exact oI h▸qD
  refine sN<|cF<|qK<|gS rfl rfl<|sV (rI (-1))<|sN<|qR ?_
  exact oI h▸qD
 refine sN<|cF<|qK<|qS<|gS rfl rfl<|sF h (fun h=>?_) fun h=>?_
 ·refine sN<|cT<|gS rfl rfl<|sV (rI 1)<|sN<|qR ?_
  exact oI h▸qD
 refine sN<|cF<|qK<|qS<|gS rfl rfl<|sM rfl<|sM rfl<|sF h (fun h=>?_) fun h=>?_
 ·refine sN<|cT<|gS rfl rfl<|sV (rI (-1))<|sN<|qR ?_
  exact oI h▸qD
 refine sN<|cF<|qK<|qS<|gS rfl rfl<|sM rfl<|sM rfl<|sF h (fun h=>?_) fun h=>?_
 ·refine sN<|cT<|gS rfl rfl<|sV (rI 1)<|sN<|qR ?_
  exact oI h▸qD
 refine sN<|cF<|qK<|gS rfl rfl<|sV (r0)<|sN<|qR ?_
 exact oI h▸qD
theorem ov{a0:(List Int)}{r:Int}(h:cu a0=some r):EvP prog aC ext0 95 [rL a0] [] (rI r,[]):=by
 refine Ev.body rfl Tryz.func95 rfl (by kernel_rfl)<|gS rfl rfl<|sV (r0)<|sN<|gS rfl rfl<|sV (r0)<|sN<|qS<|gS rfl rfl<|sM rfl<|sE (rI (a0.length:Int)) (qt _ _)<|sV (r0)<|sN<|bE h fun o7 ho7 h=>WC.block (WC.loop (WL.qx ho7 (fun s R' B'=>hY prog 0 (A R' B') (aC.at_ 95 0 3)=some (A [(3,r0),(6,rL a0),(7,rI (a0.length:Int)),(8,rI s)] [])) (fun o e R' B'=>match o with| .inl y=>e= .exit 0∧hY prog 0 (A R' B') (aC.at_ 95 0 8)=some (A [(3,r0)] [])| .inr r=>e= .ret∧finish prog (aC.own 95) Tryz.f95 0 (A R' B')=some (rI r,[])) rfl ?_ ?_))
 ·rintro s1 R' B' q2 hI h
  refine gS rfl hI<|sF h (fun h=>?_) fun h=>?_
  ·refine sN<|qS<|cT<|qK<|qS<|qB<|gS rfl rfl<|bE h fun x4 hx4 h=>eG hx4 rfl<|sC rfl<|sA rfl<|sN<|gS rfl rfl<|sM rfl<|sM rfl ?_
   refine sF h (fun h=>?_) fun h=>?_
   ·refine sN<|cT<|gS rfl rfl<|sM rfl<|sA rfl<|sN<|qR ?_
    cases oI h
    exact⟨nofun,rfl,rfl⟩
   refine sN<|cF<|qK<|WC.region rfl rfl<|sV (rI (rW (s1+(1:Int))))<|sM rfl<|sN ?_
   cases oI h
   exact⟨rfl,rfl⟩
  refine sN<|qS<|cF<|qX ?_
  cases oI h
  exact⟨nofun,rfl,rfl⟩
 intro e R' B' he hq
 rcases o7 with y8|r9
 ·obtain⟨rfl,hI⟩:=hq
  refine qE<|gS rfl hI<|sM rfl<|sA rfl<|sN<|qR ?_
  exact oI h▸qD
 obtain⟨rfl,hf⟩:=hq
 cases oI h
 exact hf
theorem pW{a0:aw}{a1:aw}{r:Int}(h:eh a0 a1=some r):EvP prog aC ext0 153 [.d (aw.pd a0),.d (aw.pd a1)] [] (rI r,[]):=by
 refine Ev.body rfl Tryz.func153 rfl (by kernel_rfl)<|gS rfl rfl<|sB (.ptr 32 0) 32 (.var (aw.rc a0))<|sB (.ptr 48 0) 48 (.var (aw.rc a1))<|sV (r0)<|sN<|WC.cI rfl rfl<|sV (.ptr 32 0)<|sL rfl<|sV (.ptr 48 0)<|sL rfl<|bE h fun x1 hx1 h=>cD (eE hx1)<|sV (.ptr 32 1)<|sL rfl ?_
 refine sV (.ptr 48 1)<|sL rfl<|bE h fun x2 hx2 h=>cD (eE hx2)<|sV (.ptr 32 2)<|sL rfl<|sV (.ptr 48 2)<|sL rfl<|bE h fun x3 hx3 h=>cD (eE hx3)<|sV (.ptr 32 3)<|sL rfl<|sV (.ptr 48 3)<|sL rfl<|bE h fun x4 hx4 h=>?_
 refine cD (eE hx4)<|sV (.d (.lst ([x1,x2,x3,x4].map (PD.int .i64))))<|bE h fun x5 hx5 h=>cD (ov hx5)<|sA rfl ?_
 refine sN<|sO<|qR ?_
 exact oI h▸qD
theorem mC{a0:Int}{r:Bool}(h:je a0=some r):EvP prog aC ext0 170 [rI a0] [] (rB r,[]):=by
 refine Ev.body rfl Tryz.func170 rfl (by kernel_rfl)<|gS rfl rfl<|sU<|sN<|gS rfl rfl<|sM rfl<|sM rfl<|sV (rB (a0 != a0))<|sA rfl<|sN<|qR ?_
 exact oI h▸qD
theorem ev{a0:Int}{a1:Int}{r:Int}(h:bH a0 a1=some r):EvP prog aC ext0 96 [rI a0,rI a1] [] (rI r,[]):=by
 refine Ev.body rfl Tryz.func96 rfl (by kernel_rfl)<|gS rfl rfl<|sV (r0)<|sN<|gS rfl rfl<|sM rfl<|bE h fun x1 hx1 h=>cD (mC hx1)<|sA rfl<|sN<|gS rfl rfl<|sM rfl<|bE h fun x2 hx2 h=>cD (mC hx2)<|sA rfl ?_
 refine sN<|qS<|gS rfl rfl<|sF h (fun h=>?_) fun h=>?_
 ·refine sN<|cT<|qS<|gS rfl rfl<|sF h (fun h=>?_) fun h=>?_
  ·refine sN<|cT<|gS rfl rfl<|sV (r0)<|sN<|qR ?_
   exact oI h▸qD
  refine sN<|cF<|qK<|gS rfl rfl<|sV (rI (-1))<|sN<|qR ?_
  exact oI h▸qD
 refine sN<|cF<|qK<|qS<|gS rfl rfl<|sF h (fun h=>?_) fun h=>?_
 ·refine sN<|cT<|gS rfl rfl<|sV (rI 1)<|sN<|qR ?_
  exact oI h▸qD
 refine sN<|cF<|qK<|qS<|gS rfl rfl<|sM rfl<|sM rfl<|sF h (fun h=>?_) fun h=>?_
 ·refine sN<|cT<|gS rfl rfl<|sV (rI (-1))<|sN<|qR ?_
  exact oI h▸qD
 refine sN<|cF<|qK<|qS<|gS rfl rfl<|sM rfl<|sM rfl<|sF h (fun h=>?_) fun h=>?_
 ·refine sN<|cT<|gS rfl rfl<|sV (rI 1)<|sN<|qR ?_
  exact oI h▸qD
 refine sN<|cF<|qK<|gS rfl rfl<|sV (r0)<|sN<|qR ?_
 exact oI h▸qD
theorem pN{a0:ae}{a1:ae}{r:Int}(h:cn a0 a1=some r):EvP prog aC ext0 80 [.d (ae.pd a0),.d (ae.pd a1)] [] (rI r,[]):=by
 refine Ev.body rfl Tryz.func80 rfl (by kernel_rfl)<|gS rfl rfl<|sB (.ptr 32 0) 32 (.var (ae.rc a0))<|sB (.ptr 48 0) 48 (.var (ae.rc a1))<|sV (r0)<|sN<|WC.cI rfl rfl<|sV (.ptr 32 0)<|sV (.d (aw.pd a0.aD))<|sV (.ptr 48 0)<|sV (.d (aw.pd a1.aD))<|bE h fun x1 hx1 h=>cD (pW hx1)<|sV (.ptr 32 4)<|sL rfl ?_
 refine sV (.ptr 48 4)<|sL rfl<|bE h fun x2 hx2 h=>cD (ev hx2)<|sV (.ptr 32 5)<|sL rfl<|sV (.ptr 48 5)<|sL rfl<|bE h fun x3 hx3 h=>cD (ev hx3)<|sV (.ptr 32 6)<|sL rfl<|sV (.ptr 48 6)<|sL rfl<|bE h fun x4 hx4 h=>?_
 refine cD (ev hx4)<|sV (.ptr 32 7)<|sL rfl<|sV (.ptr 48 7)<|sL rfl<|bE h fun x5 hx5 h=>cD (ev hx5)<|sV (.ptr 32 8)<|sL rfl<|sV (.ptr 48 8)<|sL rfl<|bE h fun x6 hx6 h=>cD (ev hx6)<|sV (.d (.lst ([x1,x2,x3,x4,x5,x6].map (PD.int .i64))))<|bE h fun x7 hx7 h=>?_
 refine cD (ov hx7)<|sA rfl ?_
 refine sN<|sO<|qR ?_
 cases oI h
 exact qG
noncomputable def ext:FuncId->Option qU:=fun f=>if f=79 then some (A7 80 66 ae.pd cn)else if f=182 then some (v8 66 9 104)else if f=325 then some (v8 113 8 80)else if f=364 then some (v8 184 10 96)else if f=107 then some (v8 3 1 8)else if f=133 then some (xX 3)else none
theorem sort_79_80{l r:List ae}(h:wK cn l=some r):EvP prog aC ext 79 [.ref 0 0,.d (.raw (.func (.func 80) #[] #[]))] [.arr 0 66 (l.map ae.pd)] (.tup [],[.arr 0 66 (r.map ae.pd)]):=sort_ev rfl (sortD_of T_api_Pick_inj h)
theorem pe{l r:List Int}(h:tn l=some r):EvP prog aC ext 133 [.ref 0 0] [.arr 0 3 (l.map (PD.int .i64))] (.tup [],[.arr 0 3 (r.map (PD.int .i64))]):=sortI_ev rfl h
theorem clone_182{l r:List ae}(h:sg 104 l=some r):EvP prog aC ext 182 [rM ae.pd l] [] (.ref 0 0,[.arr 0 66 (r.map ae.pd)]):=xe (g:=ae.pd) rfl (fun _=>rfl) h
theorem clone_325{l r:List av}(h:sg 80 l=some r):EvP prog aC ext 325 [rM av.pd l] [] (.ref 0 0,[.arr 0 113 (r.map av.pd)]):=xe (g:=av.pd) rfl (fun _=>rfl) h
theorem clone_364{l r:List aH}(h:sg 96 l=some r):EvP prog aC ext 364 [rM aH.pd l] [] (.ref 0 0,[.arr 0 184 (r.map aH.pd)]):=xe (g:=aH.pd) rfl (fun _=>rfl) h
theorem clone_107{l r:List Int}(h:sg 8 l=some r):EvP prog aC ext 107 [rL l] [] (.ref 0 0,[.arr 0 3 (r.map (PD.int .i64))]):=xe (g:=(PD.int .i64)) rfl (fun _=>rfl) h
theorem keep_New_ev{a0:(List Int)}{r:ac}(h:kd a0=some r):EvP prog aC ext 11 [rL a0] [] (.ptr 0 0,[.var (ac.rc r)]):=by
 refine Ev.body rfl Tryz.func11 rfl (by kernel_rfl)<|gS rfl rfl<|sV (.d (.raw (.pointer none)))<|sN<|gS rfl rfl<|sM rfl<|sM rfl<|sE (rI (a0.length:Int)) (qt _ _)<|sV (rI (if(2000:Int)<(a0.length:Int)then(2000:Int)else(a0.length:Int)))<|bE h fun x1 hx1 h=>WO.cutL (sz:=1) (g:=(PD.int .i64)) hx1 (fun _=>rfl) rfl rfl rfl rfl rfl rfl rfl rfl rfl rfl rfl<|sV (.d (ac.pd (ac.mk x1 0)))<|sB (.ptr 144 0) 144 (.var [rL x1,r0])<|sA rfl<|sN ?_
 refine qR ?_
 exact oI h▸qD
theorem Src_Raw_ev{d0:ac}{r:Int×ac}(h:Src_Raw d0=some r):EvP prog aC ext 72 [.ptr 0 0] [.var (ac.rc d0)] (rI r.1,[.var (ac.rc r.2)]):=by
 refine Ev.body rfl Tryz.func72 rfl (by kernel_rfl)<|gS rfl rfl<|sV (r0)<|sN<|qS<|WC.cI rfl rfl<|sM rfl<|sV (.ptr 0 0)<|sV (.ptr 0 1)<|sL rfl<|sM rfl<|sV (.ptr 0 0)<|sV (.ptr 0 0)<|sL rfl<|sE (rI (d0.fL.length:Int)) (qt _ _) ?_
 refine sF h (fun h=>?_) fun h=>?_
 ·refine sN<|sO<|cT<|gS rfl rfl<|sV (r0)<|sN<|qR ?_
  exact oI h▸qD
 refine sN<|sO<|cF<|qK<|gS rfl rfl<|sM rfl<|sV (.ptr 0 0)<|sV (.ptr 0 1)<|sL rfl<|sV (rI (rW (d0.fAt+(1:Int))))<|sV (.ptr 0 0)<|sV (.ptr 0 1)<|sS 0 (.var [rL d0.fL,rI (rW (d0.fAt+(1:Int)))])<|sN<|WC.cI rfl rfl<|sM rfl ?_
 refine sV (.ptr 0 0)<|sV (.ptr 0 0)<|sL rfl<|sM rfl<|sV (.ptr 0 0)<|sV (.ptr 0 1)<|sL rfl<|sV (rI (rW ((rW (d0.fAt+(1:Int)))-(1:Int))))<|bE h fun x2 hx2 h=>eG hx2 rfl<|sC rfl<|sA rfl ?_
 refine sN<|sO<|qR ?_
 exact oI h▸qD
theorem keep_Mod_ev{a0:Int}{a1:Int}{r:Int}(h:nr a0 a1=some r):EvP prog aC ext 24 [rI a0,rI a1] [] (rI r,[]):=by
 refine Ev.body rfl Tryz.func24 rfl (by kernel_rfl)<|gS rfl rfl<|sV (r0)<|sN<|qS<|gS rfl rfl<|sM rfl<|sF h (fun h=>?_) fun h=>?_
 ·refine sN<|cT<|gS rfl rfl<|sV (r0)<|sN<|qR ?_
  exact oI h▸qD
 refine sN<|cF<|qK<|gS rfl rfl<|sM rfl<|sM rfl<|bE h fun x2 hx2 h=>WO.remG hx2 rfl rfl rfl rfl rfl rfl<|sA rfl<|sN<|qS<|gS rfl rfl<|sM rfl<|sF h (fun h=>?_) fun h=>?_
 ·refine sN<|cT<|WC.region rfl rfl<|sM rfl<|sM rfl<|sV (rI (rW (x2+a1)))<|sA rfl<|sN<|gS rfl rfl<|sM rfl<|sA rfl<|sN<|qR ?_
  exact oI h▸qD
 refine sN<|cF<|qK<|gS rfl rfl<|sM rfl<|sA rfl<|sN<|qR ?_
 exact oI h▸qD
theorem bO{a1:Int}{d0:ac}{r:Int×ac}(h:cH a1 d0=some r):EvP prog aC ext 25 [.ptr 0 0,rI a1] [.var (ac.rc d0)] (rI r.1,[.var (ac.rc r.2)]):=by
 refine Ev.body rfl Tryz.func25 rfl (by kernel_rfl)<|gS rfl rfl<|sV (r0)<|sN<|gS rfl rfl<|sM rfl<|bE h fun x1 hx1 h=>cR (rI x1.1) [(0,.var (ac.rc x1.2))] (Src_Raw_ev hx1)<|sM rfl<|bE h fun x2 hx2 h=>cD (keep_Mod_ev hx2)<|sA rfl<|sN<|qR ?_
 exact oI h▸qD
theorem nE{a1:Int}{d0:ac}{r:aa×ac}(h:jC a1 d0=some r):EvP prog aC ext 51 [.ptr 0 0,rI a1] [.var (ac.rc d0)] (.d (aa.pd r.1),[.var (ac.rc r.2)]):=by
 refine Ev.body rfl Tryz.func51 rfl (by kernel_rfl)<|gS rfl rfl<|sB (.ptr 64 0) 64 (.var [r0,r0,r0])<|sN<|gS rfl rfl<|sM rfl<|sM rfl<|sV (rI (rW ((2:Int)*a1)))<|sV (rI (rW ((rW ((2:Int)*a1))+(1:Int))))<|bE h fun x1 hx1 h=>cR (rI x1.1) [(0,.var (ac.rc x1.2))] (bO hx1)<|sM rfl<|sV (rI (rW (x1.1-a1)))<|sM rfl<|sM rfl ?_
 refine sV (rI (rW ((2:Int)*a1)))<|sV (rI (rW ((rW ((2:Int)*a1))+(1:Int))))<|bE h fun x2 hx2 h=>cR (rI x2.1) [(0,.var (ac.rc x2.2))] (bO hx2)<|sM rfl<|sV (rI (rW (x2.1-a1)))<|sM rfl<|sM rfl<|sV (rI (rW (a1+(1:Int))))<|bE h fun x3 hx3 h=>cR (rI x3.1) [(0,.var (ac.rc x3.2))] (bO hx3)<|sV (.d (aa.pd (aa.mk (rW (x1.1-a1)) (rW (x2.1-a1)) x3.1)))<|sS 64 (.var [rI (rW (x1.1-a1)),rI (rW (x2.1-a1)),rI x3.1])<|sN<|qR ?_
 exact oI h▸qD
theorem Src_Box_ev{a1:Int}{a2:Int}{d0:ac}{r:ah×ac}(h:nD a1 a2 d0=some r):EvP prog aC ext 104 [.ptr 0 0,rI a1,rI a2] [.var (ac.rc d0)] (.d (ah.pd r.1),[.var (ac.rc r.2)]):=by
 refine Ev.body rfl Tryz.func104 rfl (by kernel_rfl)<|gS rfl rfl<|sB (.ptr 96 0) 96 (.var zZ4)<|sN<|gS rfl rfl<|sM rfl<|sM rfl<|bE h fun x1 hx1 h=>cR (.d (aa.pd x1.1)) [(0,.var (ac.rc x1.2))] (nE hx1)<|sB (.ptr 112 0) 112 (.var [r0,r0,r0])<|sS 112 (.var (aa.rc x1.1))<|sN<|WC.cI rfl rfl<|sV (.d (aa.pd x1.1))<|sV (.ptr 112 0) ?_
 refine sL rfl<|sM rfl<|sM rfl<|sV (rI (rW (a2+(1:Int))))<|bE h fun x2 hx2 h=>cR (rI x2.1) [(0,.var (ac.rc x2.2))] (bO hx2)<|sV (rI (rW (x1.1.fX+x2.1)))<|sV (.ptr 112 1)<|sL rfl<|sM rfl<|sM rfl<|sV (rI (rW (a2+(1:Int))))<|bE h fun x3 hx3 h=>cR (rI x3.1) [(0,.var (ac.rc x3.2))] (bO hx3)<|sV (rI (rW (x1.1.fY+x3.1))) ?_
 refine sV (.ptr 112 2)<|sL rfl<|sM rfl<|sM rfl<|sV (rI (rW (a2+(1:Int))))<|bE h fun x4 hx4 h=>cR (rI x4.1) [(0,.var (ac.rc x4.2))] (bO hx4)<|sV (rI (rW (x1.1.fZ+x4.1)))<|sV (.d (aa.pd (aa.mk (rW (x1.1.fX+x2.1)) (rW (x1.1.fY+x3.1)) (rW (x1.1.fZ+x4.1)))))<|sG (.d (ah.pd (ah.mk x1.1 (aa.mk (rW (x1.1.fX+x2.1)) (rW (x1.1.fY+x3.1)) (rW (x1.1.fZ+x4.1))))))<|sH 96 (.var (aa.rc x1.1++[rI (rW (x1.1.fX+x2.1)),rI (rW (x1.1.fY+x3.1)),rI (rW (x1.1.fZ+x4.1))])) ?_
 refine sN<|sO<|qR ?_
 cases oI h
 exact qG
theorem dV{a1:(List Int)}{d0:ac}{r:Int×ac}(h:de a1 d0=some r):EvP prog aC ext 50 [.ptr 0 0,rL a1] [.var (ac.rc d0)] (rI r.1,[.var (ac.rc r.2)]):=by
 refine Ev.body rfl Tryz.func50 rfl (by kernel_rfl)<|gS rfl rfl<|sV (r0)<|sN<|gS rfl rfl<|sM rfl<|sM rfl<|sM rfl<|sE (rI (a1.length:Int)) (qt _ _)<|bE h fun x1 hx1 h=>cR (rI x1.1) [(0,.var (ac.rc x1.2))] (bO hx1)<|bE h fun x2 hx2 h=>eG hx2 rfl<|sC rfl<|sA rfl ?_
 refine sN<|qR ?_
 exact oI h▸qD
theorem qd{d0:ac}{r:aI×ac}(h:iI d0=some r):EvP prog aC ext 105 [.ptr 0 0] [.var (ac.rc d0)] (.agg [rI r.1.bn,.ref 1 0,.ref 2 0],[.var (ac.rc r.2),.arr 0 3 (r.1.aK.map (PD.int .i64)),.arr 0 3 (r.1.aF.map (PD.int .i64))]):=by
 refine Ev.body rfl Tryz.func105 rfl (by kernel_rfl)<|gS rfl rfl<|sB (.ptr 32 0) 32 (.var [r0,.ng,.ng])<|sN<|gS rfl rfl<|sM rfl<|sV (.d (.lst ([20,25,40,100].map (PD.int .i64))))<|bE h fun x1 hx1 h=>cR (rI x1.1) [(0,.var (ac.rc x1.2))] (dV hx1)<|sV (.agg [rI x1.1,.ng,.ng])<|sB (.ptr 48 0) 48 (.var [r0,.ng,.ng])<|sS 48 (.var [rI x1.1,.ng,.ng])<|sN<|gS rfl rfl<|sM rfl ?_
 refine bE h fun x2 hx2 h=>cR (rI x2.1) [(0,.var (ac.rc x2.2))] (bO hx2)<|sV (r0)<|sA rfl<|sN<|qS<|gS rfl rfl<|sV (r0)<|sN<|bE h fun o24 ho24 h=>WC.block (WC.loop (WL.qx ho24 (fun s R' B'=>hY prog 1 (A R' B') (aC.at_ 105 1 4)=some (A [(0,.ptr 0 0),(2,.ptr 32 0),(3,.ptr 48 0),(4,rI s.1),(5,rI s.2.1),(6,rI s.2.2.1)] [(0,.var [rL s.2.2.2.1,rI s.2.2.2.2.1]),(32,.var [r0,.ng,.ng]),(48,.var [rI x1.1,.ref 432 0,.ref 512 0]),(432,.arr 0 3 (s.2.2.2.2.2.1.map (PD.int .i64))),(512,.arr 0 3 (s.2.2.2.2.2.2.map (PD.int .i64)))])) (fun o e R' B'=>e= .exit 0∧hY prog 1 (A R' B') (aC.at_ 105 1 9)=some (A [(2,.ptr 32 0),(3,.ptr 48 0)] [(0,.var [rL o.1,rI o.2.1]),(32,.var [r0,.ng,.ng]),(48,.var [rI x1.1,.ref 432 0,.ref 512 0]),(432,.arr 0 3 (o.2.2.1.map (PD.int .i64))),(512,.arr 0 3 (o.2.2.2.map (PD.int .i64)))])) rfl ?_ ?_))
 ·rintro⟨s3,s4,s5,s6,s7,s8,s9⟩ R' B' q14 hI h
  unfold jc at h
  refine qS<|WC.cI hI rfl<|sM rfl<|sV (.ptr 48 0)<|sL rfl<|bE h fun x15 hx15 h=>WO.uV hx15 rfl rfl rfl rfl rfl rfl<|sM rfl<|bE h fun x16 hx16 h=>cR (rI x16.1) [(0,.var (ac.rc x16.2))] (bO hx16)<|sV (rI (rW (x15+x16.1)))<|sF h (fun h=>?_) fun h=>?_
  ·refine sN<|sO<|cT<|qK<|qS<|qB<|WC.cI rfl rfl<|sV (.ptr 48 1)<|sL rfl<|sM rfl<|sV (.d (.lst ([s3].map (PD.int .i64))))<|bE h fun x18 hx18 h=>aR hx18 (fun _=>rfl) rfl<|sV (.ptr 48 2)<|sL rfl<|sM rfl ?_
   refine sV (.d (.lst ([s4].map (PD.int .i64))))<|bE h fun x19 hx19 h=>aR hx19 (fun _=>rfl) rfl<|sV (.ptr 48 1)<|sS 48 (.var [rI x1.1,.ref 432 1,.ref 512 0])<|sV (.ptr 48 2)<|sS 48 (.var [rI x1.1,.ref 432 1,.ref 512 1]) ?_
   refine sN<|sO<|WC.cI rfl rfl<|sM rfl<|sM rfl<|sV (.d (.lst ([0,10,20,35].map (PD.int .i64))))<|bE h fun x20 hx20 h=>cR (rI x20.1) [(0,.var (ac.rc x20.2))] (dV hx20)<|sV (.ptr 48 0)<|sL rfl<|bE h fun x21 hx21 h=>WO.uV hx21 rfl rfl rfl rfl rfl rfl<|sV (rI (rW (x20.1+x21)))<|sV (rI (rW (s3+(rW (x20.1+x21)))))<|sA rfl ?_
   refine sN<|sO<|WC.region rfl rfl<|sM rfl<|sM rfl<|sV (rI (if(rW (s3+(rW (x20.1+x21))))>s4 then(rW (s3+(rW (x20.1+x21))))else s4))<|sM rfl<|sV (.d (.lst ([0,0,5,30].map (PD.int .i64))))<|bE h fun x22 hx22 h=>cR (rI x22.1) [(0,.var (ac.rc x22.2))] (dV hx22)<|sV (rI (rW ((if(rW (s3+(rW (x20.1+x21))))>s4 then(rW (s3+(rW (x20.1+x21))))else s4)+x22.1)))<|sA rfl<|sN<|WC.region rfl rfl<|sM rfl<|sV (rI (rW (s5+(1:Int)))) ?_
   refine sA rfl<|sN ?_
   cases oI h
   exact⟨rfl,rfl⟩
  refine sN<|sO<|cF<|qX ?_
  cases oI h
  exact⟨nofun,rfl,rfl⟩
 intro e R' B' he hq
 obtain⟨rfl,hI⟩:=hq
 refine qE<|gS rfl hI<|sV (.agg [rI x1.1,.ref 432 0,.ref 512 0])<|sS 32 (.var [rI x1.1,.ref 432 0,.ref 512 0])<|sN<|qR ?_
 exact oI h▸qD
theorem pE{a1:Int}{d0:ac}{r:aJ×ac}(h:dE a1 d0=some r):EvP prog aC ext 48 [.ptr 0 0,rI a1] [.var (ac.rc d0)] (.d (aJ.pd r.1),[.var (ac.rc r.2)]):=by
 refine Ev.body rfl Tryz.func48 rfl (by kernel_rfl)<|gS rfl rfl<|sB (.ptr 64 0) 64 (.var [r0,r0,r0,r0,r0,r0,r0,.ng,.ng,r0,r0,r0,r0,r0])<|sN<|gS rfl rfl<|sM rfl<|sM rfl<|bE h fun x1 hx1 h=>cR (.d (ah.pd x1.1)) [(0,.var (ac.rc x1.2))] (Src_Box_ev hx1)<|sM rfl<|bE h fun x2 hx2 h=>cR (.agg [rI x2.1.bn,.ref 144 0,.ref 145 0]) [(0,.var (ac.rc x2.2)),(144,.arr 0 3 (x2.1.aK.map (PD.int .i64))),(145,.arr 0 3 (x2.1.aF.map (PD.int .i64)))] (qd hx2)<|sM rfl<|sV (.d (.lst ([10,50,200].map (PD.int .i64))))<|bE h fun x3 hx3 h=>?_
 refine cR (rI x3.1) [(0,.var (ac.rc x3.2))] (dV hx3)<|sM rfl<|sV (.d (.lst ([0,0,10,40].map (PD.int .i64))))<|bE h fun x4 hx4 h=>cR (rI x4.1) [(0,.var (ac.rc x4.2))] (dV hx4)<|sM rfl<|sV (.d (.lst ([0,50,200,400].map (PD.int .i64))))<|bE h fun x5 hx5 h=>cR (rI x5.1) [(0,.var (ac.rc x5.2))] (dV hx5)<|sM rfl<|sV (.d (.lst ([0,5,20].map (PD.int .i64))))<|bE h fun x6 hx6 h=>cR (rI x6.1) [(0,.var (ac.rc x6.2))] (dV hx6)<|sM rfl<|bE h fun x7 hx7 h=>?_
 refine cR (rI x7.1) [(0,.var (ac.rc x7.2))] (bO hx7)<|sV (rI (rW ((2:Int)+x7.1)))<|sG (.agg (ah.rc x1.1++[rI x2.1.bn,.ref 144 0,.ref 145 0,rI x3.1,rI x4.1,rI x5.1,rI x6.1,rI (rW ((2:Int)+x7.1))]))<|sH 64 (.var (ah.rc x1.1++[rI x2.1.bn,.ref 144 0,.ref 145 0,rI x3.1,rI x4.1,rI x5.1,rI x6.1,rI (rW ((2:Int)+x7.1))]))<|sN<|qR ?_
 cases oI h
 exact qG
theorem Src_Scale_ev{d0:ac}{r:bu×ac}(h:jD d0=some r):EvP prog aC ext 49 [.ptr 0 0] [.var (ac.rc d0)] (.d (bu.pd r.1),[.var (ac.rc r.2)]):=by
 refine Ev.body rfl Tryz.func49 rfl (by kernel_rfl)<|gS rfl rfl<|sB (.ptr 32 0) 32 (.var [r0,.ng,.ng,r0,r0])<|sN<|gS rfl rfl<|sM rfl<|bE h fun x1 hx1 h=>cR (.agg [rI x1.1.bn,.ref 96 0,.ref 97 0]) [(0,.var (ac.rc x1.2)),(96,.arr 0 3 (x1.1.aK.map (PD.int .i64))),(97,.arr 0 3 (x1.1.aF.map (PD.int .i64)))] (qd hx1)<|sM rfl<|bE h fun x2 hx2 h=>cR (rI x2.1) [(0,.var (ac.rc x2.2))] (bO hx2)<|sM rfl<|bE h fun x3 hx3 h=>cR (rI x3.1) [(0,.var (ac.rc x3.2))] (bO hx3)<|sV (rI (rW ((1:Int)+x3.1))) ?_
 refine sV (.agg [rI x1.1.bn,.ref 96 0,.ref 97 0,rI x2.1,rI (rW ((1:Int)+x3.1))])<|sB (.ptr 48 0) 48 (.var [r0,.ng,.ng,r0,r0])<|sS 48 (.var [rI x1.1.bn,.ref 96 0,.ref 97 0,rI x2.1,rI (rW ((1:Int)+x3.1))])<|sN<|qS<|gS rfl rfl<|sV (.ptr 48 0)<|sV (.ptr 48 1)<|sL rfl<|WO.u9 rfl rfl rfl rfl rfl rfl rfl rfl rfl<|sV (r0)<|sN<|bE h fun o26 ho26 h=>WC.block (WC.loop (WL.qx ho26 (fun s R' B'=>hY prog 1 (A R' B') (aC.at_ 49 1 3)=some (A [(2,.ptr 32 0),(3,.ptr 48 0),(16,rI (x1.1.aK.length:Int)),(17,rI s.1)] [(0,.var (ac.rc x3.2)),(32,.var [r0,.ng,.ng,r0,r0]),(48,.var [rI x1.1.bn,.ref 96 0,.ref 97 0,rI x2.1,rI (rW ((1:Int)+x3.1))]),(96,.arr 0 3 (s.2.1.map (PD.int .i64))),(97,.arr 0 3 (s.2.2.map (PD.int .i64)))])) (fun o e R' B'=>e= .exit 0∧hY prog 1 (A R' B') (aC.at_ 49 1 7)=some (A [(2,.ptr 32 0),(3,.ptr 48 0)] [(0,.var (ac.rc x3.2)),(32,.var [r0,.ng,.ng,r0,r0]),(48,.var [rI x1.1.bn,.ref 96 0,.ref 97 0,rI x2.1,rI (rW ((1:Int)+x3.1))]),(96,.arr 0 3 (o.1.map (PD.int .i64))),(97,.arr 0 3 (o.2.map (PD.int .i64)))])) rfl ?_ ?_))
 ·rintro⟨s4,s5,s6⟩ R' B' q9 hI h
  refine gS rfl hI<|sF h (fun h=>?_) fun h=>?_
  ·refine sN<|qS<|cT<|qK<|qS<|qB<|gS rfl rfl<|sM rfl<|sA rfl<|sN<|WC.rb rfl rfl<|sV (.ptr 48 0)<|sV (.ptr 48 1)<|sL rfl<|sM rfl ?_
   refine sV (.ptr 48 0)<|sV (.ptr 48 2)<|sL rfl<|sM rfl<|sV (.ptr 48 0)<|sV (.ptr 48 1)<|sL rfl<|sM rfl<|bE h fun x12 hx12 h=>WO.rG hx12 rfl rfl rfl rfl rfl rfl rfl rfl<|bE h fun x13 hx13 h=>WO.rC hx13 rfl rfl rfl rfl rfl rfl<|bE h fun x14 hx14 h=>WO.uV hx14 rfl rfl rfl rfl rfl rfl<|sV (.ptr 48 0) ?_
   refine sV (.ptr 48 2)<|sL rfl<|sM rfl<|bE h fun x16 hx16 h=>WO.rG hx16 rfl rfl rfl rfl rfl rfl rfl rfl<|bE h fun x17 hx17 h=>WO.rC hx17 rfl rfl rfl rfl rfl rfl<|bE h fun x18 hx18 h=>WO.uV hx18 rfl rfl rfl rfl rfl rfl<|bE h fun x20 hx20 h=>WO.rG hx20 rfl rfl rfl rfl rfl rfl rfl rfl<|bE h fun x21 hx21 h=>WO.sY (g:=(PD.int .i64)) (sz:=1) (p:= .int .i64 x14) hx21 (fun _=>rfl) (fun _=>rfl) rfl rfl rfl rfl rfl rfl rfl rfl rfl<|bE h fun x23 hx23 h=>WO.rG hx23 rfl rfl rfl rfl rfl rfl rfl rfl ?_
   refine bE h fun x24 hx24 h=>WO.sY (g:=(PD.int .i64)) (sz:=1) (p:= .int .i64 x18) hx24 (fun _=>rfl) (fun _=>rfl) rfl rfl rfl rfl rfl rfl rfl rfl rfl ?_
   refine sN<|sO<|WC.region rfl rfl<|sV (rI (rW (s4+(1:Int))))<|sM rfl<|sN ?_
   cases oI h
   exact⟨rfl,rfl⟩
  refine sN<|qS<|cF<|qX ?_
  cases oI h
  exact⟨nofun,rfl,rfl⟩
 intro e R' B' he hq
 obtain⟨rfl,hI⟩:=hq
 refine qE<|gS rfl hI<|sV (.agg [rI x1.1.bn,.ref 96 0,.ref 97 0,rI x2.1,rI (rW ((1:Int)+x3.1))])<|sS 32 (.var [rI x1.1.bn,.ref 96 0,.ref 97 0,rI x2.1,rI (rW ((1:Int)+x3.1))])<|sN<|qR ?_
 exact oI h▸qD
theorem oc{a1:Int}{d0:ac}{r:aq×ac}(h:dp a1 d0=some r):EvP prog aC ext 12 [.ptr 0 0,rI a1] [.var (ac.rc d0)] (.d (aq.pd r.1),[.var (ac.rc r.2)]):=by
 refine Ev.body rfl Tryz.func12 rfl (by kernel_rfl)<|gS rfl rfl<|sB (.ptr 64 0) 64 (.var [r0,r0,r0,r0,r0,r0,r0,.ng,.ng,r0,r0,r0,r0,r0,r0,.ng,.ng,r0,r0,r0])<|sN<|gS rfl rfl<|sM rfl<|sM rfl<|bE h fun x1 hx1 h=>cR (.d (aJ.pd x1.1)) [(0,.var (ac.rc x1.2))] (pE hx1)<|sM rfl<|bE h fun x2 hx2 h=>cR (.d (bu.pd x2.1)) [(0,.var (ac.rc x2.2))] (Src_Scale_ev hx2)<|sM rfl<|sV (.d (.lst ([0,0,10,40].map (PD.int .i64))))<|bE h fun x3 hx3 h=>?_
 refine cR (rI x3.1) [(0,.var (ac.rc x3.2))] (dV hx3)<|sG (.d (.agg [.int .i64 x1.1.aN.aK.fX,.int .i64 x1.1.aN.aK.fY,.int .i64 x1.1.aN.aK.fZ,.int .i64 x1.1.aN.aF.fX,.int .i64 x1.1.aN.aF.fY,.int .i64 x1.1.aN.aF.fZ,.int .i64 x1.1.bi.bn,.lst (x1.1.bi.aK.map (PD.int .i64)),.lst (x1.1.bi.aF.map (PD.int .i64)),.int .i64 x1.1.cW,.int .i64 x1.1.bR,.int .i64 x1.1.dF,.int .i64 x1.1.lw,.int .i64 x1.1.cv,.int .i64 x2.1.bY.bn,.lst (x2.1.bY.aK.map (PD.int .i64)),.lst (x2.1.bY.aF.map (PD.int .i64)),.int .i64 x2.1.bG,.int .i64 x2.1.bw,.int .i64 x3.1]))<|sH 64 (.var (aJ.rc x1.1++bu.rc x2.1++[rI x3.1]))<|sN<|qR ?_
 cases oI h
 exact qG
theorem oa{d0:ac}{r:aQ×ac}(h:eD d0=some r):EvP prog aC ext 52 [.ptr 0 0] [.var (ac.rc d0)] (.d (aQ.pd r.1),[.var (ac.rc r.2)]):=by
 refine Ev.body rfl Tryz.func52 rfl (by kernel_rfl)<|gS rfl rfl<|sB (.ptr 32 0) 32 (.var [.ng])<|sN<|gS rfl rfl<|sB (.ptr 48 0) 48 (.var [.ng])<|sN<|qS<|gS rfl rfl<|sM rfl<|bE h fun x1 hx1 h=>cR (rI x1.1) [(0,.var (ac.rc x1.2))] (bO hx1)<|sA rfl<|sN<|bE h fun o28 ho28 h=>?_
 refine WC.block (WC.loop (WL.qx ho28 (fun s R' B'=>hY prog 1 (A R' B') (aC.at_ 52 1 3)=some (A [(0,.ptr 0 0),(2,.ptr 32 0),(3,.ptr 48 0),(4,rI s.1)] [(0,.var [rL s.2.1,rI s.2.2.1]),(32,.var [.ng]),(48,.var [.ref 1040 0]),(1040,.arr 0 184 (s.2.2.2.map aH.pd))])) (fun o e R' B'=>e= .exit 0∧hY prog 1 (A R' B') (aC.at_ 52 1 13)=some (A [(2,.ptr 32 0),(3,.ptr 48 0)] [(0,.var [rL o.1,rI o.2.1]),(32,.var [.ng]),(48,.var [.ref 1040 0]),(1040,.arr 0 184 (o.2.2.map aH.pd))])) rfl ?_ ?_))
 ·rintro⟨s2,s3,s4,s5⟩ R' B' q9 hI h
  refine qS<|gS rfl hI<|sM rfl<|sF h (fun h=>?_) fun h=>?_
  ·refine sN<|cT<|qK<|qS<|qB<|gS rfl rfl<|sM rfl<|bE h fun x11 hx11 h=>cR (rI x11.1) [(0,.var (ac.rc x11.2))] (bO hx11)<|sG (.agg [rI x11.1,r0,r0,r0,r0,r0,r0,.ng,r0,r0])<|sB (.ptr 80 0) 80 (.var [r0,r0,r0,r0,r0,r0,r0,.ng,r0,r0])<|sH 80 (.var [rI x11.1,r0,r0,r0,r0,r0,r0,.ng,r0,r0])<|sN<|qS<|gS rfl rfl ?_
   refine sV (.ptr 80 0)<|sL rfl<|sN<|qB<|gS rfl rfl<|sF h (fun h=>?_) fun h=>?_
   ·refine sA rfl<|sN<|cT<|WC.region rfl rfl<|sM rfl<|sV (.d (.lst ([0,1,9,99,1048575].map (PD.int .i64))))<|bE h fun x13 hx13 h=>cR (rI x13.1) [(0,.var (ac.rc x13.2))] (dV hx13)<|sV (rI (rW ((1:Int)+x13.1)))<|sM rfl<|sV (.d (.lst ([0,0,2,9,999].map (PD.int .i64))))<|bE h fun x14 hx14 h=>cR (rI x14.1) [(0,.var (ac.rc x14.2))] (dV hx14)<|sV (rI (rW ((1:Int)+x14.1)))<|sV (.ptr 80 1) ?_
    refine sV (.ptr 80 1)<|sS 80 (.var [rI x11.1,rI (rW ((1:Int)+x13.1)),r0,r0,r0,r0,r0,.ng,r0,r0])<|sV (.ptr 80 4)<|sV (.ptr 80 4)<|sS 80 (.var [rI x11.1,rI (rW ((1:Int)+x13.1)),r0,r0,rI (rW ((1:Int)+x14.1)),r0,r0,.ng,r0,r0])<|sN<|WC.region rfl rfl<|sV (.ptr 48 0)<|sL rfl<|sV (.agg [rI x11.1,rI (rW ((1:Int)+x13.1)),r0,r0,rI (rW ((1:Int)+x14.1)),r0,r0,.ng,r0,r0])<|sG (.d (.lst ([(aH.mk x11.1 (aW.mk (rW ((1:Int)+x13.1)) 0 0) (aW.mk (rW ((1:Int)+x14.1)) 0 0) [] 0 0)].map aH.pd)))<|bE h fun x15 hx15 h=>aR hx15 (fun _=>rfl) rfl<|sV (.ptr 48 0)<|sS 48 (.var [.ref 1040 1]) ?_
    refine sN<|WC.region rfl rfl<|sM rfl<|sV (rI (rW (s2-(1:Int))))<|sA rfl<|sN ?_
    cases oI h
    exact⟨rfl,rfl⟩
   refine sA rfl<|sN<|cF<|gS rfl rfl<|sF h (fun h=>?_) fun h=>?_
   ·refine sA rfl<|sN<|cT<|WC.region rfl rfl<|sM rfl<|bE h fun x17 hx17 h=>cR (rI x17.1) [(0,.var (ac.rc x17.2))] (bO hx17)<|sM rfl<|bE h fun x18 hx18 h=>cR (rI x18.1) [(0,.var (ac.rc x18.2))] (bO hx18)<|sV (rI (rW (x18.1-(3:Int))))<|sM rfl<|bE h fun x19 hx19 h=>cR (rI x19.1) [(0,.var (ac.rc x19.2))] (bO hx19)<|sV (rI (rW (x19.1-(1:Int)))) ?_
    refine sV (.d (aW.pd (aW.mk x17.1 (rW (x18.1-(3:Int))) (rW (x19.1-(1:Int))))))<|sM rfl<|bE h fun x20 hx20 h=>cR (rI x20.1) [(0,.var (ac.rc x20.2))] (bO hx20)<|sV (rI (rW ((1:Int)+x20.1)))<|sM rfl<|bE h fun x21 hx21 h=>cR (rI x21.1) [(0,.var (ac.rc x21.2))] (bO hx21)<|sM rfl<|bE h fun x22 hx22 h=>cR (rI x22.1) [(0,.var (ac.rc x22.2))] (bO hx22)<|sV (.d (aW.pd (aW.mk (rW ((1:Int)+x20.1)) x21.1 x22.1)))<|sV (.ptr 80 1)<|sS 80 (.var [rI x11.1,rI x17.1,rI (rW (x18.1-(3:Int))),rI (rW (x19.1-(1:Int))),r0,r0,r0,.ng,r0,r0])<|sV (.ptr 80 4) ?_
    refine sS 80 (.var [rI x11.1,rI x17.1,rI (rW (x18.1-(3:Int))),rI (rW (x19.1-(1:Int))),rI (rW ((1:Int)+x20.1)),rI x21.1,rI x22.1,.ng,r0,r0])<|sN<|WC.region rfl rfl<|sV (.ptr 48 0)<|sL rfl<|sV (.agg [rI x11.1,rI x17.1,rI (rW (x18.1-(3:Int))),rI (rW (x19.1-(1:Int))),rI (rW ((1:Int)+x20.1)),rI x21.1,rI x22.1,.ng,r0,r0])<|sG (.d (.lst ([(aH.mk x11.1 (aW.mk x17.1 (rW (x18.1-(3:Int))) (rW (x19.1-(1:Int)))) (aW.mk (rW ((1:Int)+x20.1)) x21.1 x22.1) [] 0 0)].map aH.pd)))<|bE h fun x23 hx23 h=>aR hx23 (fun _=>rfl) rfl<|sV (.ptr 48 0)<|sS 48 (.var [.ref 1040 1])<|sN<|WC.region rfl rfl<|sM rfl<|sV (rI (rW (s2-(1:Int)))) ?_
    refine sA rfl<|sN ?_
    cases oI h
    exact⟨rfl,rfl⟩
   refine sA rfl<|sN<|cF<|WC.region rfl rfl<|sM rfl<|bE h fun x24 hx24 h=>cR (rI x24.1) [(0,.var (ac.rc x24.2))] (bO hx24)<|sV (rI (rW ((1:Int)+x24.1)))<|sV (.d (.lst ([(rW ((1:Int)+x24.1)),2,1].map (PD.int .i64))))<|sM rfl<|bE h fun x25 hx25 h=>cR (rI x25.1) [(0,.var (ac.rc x25.2))] (bO hx25)<|sV (.ptr 80 7)<|sS 80 (.var [rI x11.1,r0,r0,r0,r0,r0,r0,.d (.lst ([(rW ((1:Int)+x24.1)),2,1].map (PD.int .i64))),r0,r0])<|sV (.ptr 80 8) ?_
   refine sS 80 (.var [rI x11.1,r0,r0,r0,r0,r0,r0,.d (.lst ([(rW ((1:Int)+x24.1)),2,1].map (PD.int .i64))),rI 1,r0])<|sV (.ptr 80 9)<|sS 80 (.var [rI x11.1,r0,r0,r0,r0,r0,r0,.d (.lst ([(rW ((1:Int)+x24.1)),2,1].map (PD.int .i64))),rI 1,rI x25.1])<|sN<|WC.region rfl rfl<|sV (.ptr 48 0)<|sL rfl<|sV (.d (.agg [.int .i64 x11.1,.int .i64 0,.int .i64 0,.int .i64 0,.int .i64 0,.int .i64 0,.int .i64 0,.lst ([(rW ((1:Int)+x24.1)),2,1].map (PD.int .i64)),.int .i64 1,.int .i64 x25.1]))<|sG (.d (.lst ([(aH.mk x11.1 (aW.mk 0 0 0) (aW.mk 0 0 0) [(rW ((1:Int)+x24.1)),2,1] 1 x25.1)].map aH.pd)))<|bE h fun x26 hx26 h=>aR hx26 (fun _=>rfl) rfl<|sV (.ptr 48 0)<|sS 48 (.var [.ref 1040 1])<|sN<|WC.region rfl rfl ?_
   refine sM rfl<|sV (rI (rW (s2-(1:Int))))<|sA rfl<|sN ?_
   cases oI h
   exact⟨rfl,rfl⟩
  refine sN<|cF<|qX ?_
  cases oI h
  exact⟨nofun,rfl,rfl⟩
 intro e R' B' he hq
 obtain⟨rfl,hI⟩:=hq
 refine qE<|gS rfl hI<|sV (.agg [.ref 1040 0])<|sS 32 (.var [.ref 1040 0])<|sN<|qR ?_
 exact oI h▸qD
theorem mi{a0:Int}{r:aw}(h:dH a0=some r):EvP prog aC ext 29 [rI a0] [] (.d (aw.pd r),[]):=by
 refine Ev.body rfl Tryz.func29 rfl (by kernel_rfl)<|gS rfl rfl<|sB (.ptr 32 0) 32 (.var [rS [],rS [],rS [],rS []])<|sN<|gS rfl rfl<|sV (.d (.lst ([[83,49],[83,50],[83,51],[83,52],[83,53],[83,54]].map PD.str)))<|sM rfl<|bE h fun x1 hx1 h=>cD (keep_Mod_ev hx1)<|bE h fun x2 hx2 h=>eG hx2 rfl<|sC rfl<|sV (.d (aw.pd (aw.mk [65,66] x2 [48,48] [66,72,90])))<|sS 32 (.var [rS [65,66],rS x2,rS [48,48],rS [66,72,90]])<|sN ?_
 refine qR ?_
 exact oI h▸qD
theorem qc{a1:Int}{d0:ac}{r:ar×ac}(h:fT a1 d0=some r):EvP prog aC ext 13 [.ptr 0 0,rI a1] [.var (ac.rc d0)] (.d (ar.pd r.1),[.var (ac.rc r.2)]):=by
 refine Ev.body rfl Tryz.func13 rfl (by kernel_rfl)<|gS rfl rfl<|sB (.ptr 64 0) 64 (.var [.ng])<|sN<|gS rfl rfl<|sB (.ptr 80 0) 80 (.var [.ng])<|sN<|qS<|gS rfl rfl<|sV (r0)<|sN<|bE h fun o34 ho34 h=>WC.block (WC.loop (WL.qx ho34 (fun s R' B'=>hY prog 1 (A R' B') (aC.at_ 13 1 3)=some (A [(0,.ptr 0 0),(1,rI a1),(4,.ptr 64 0),(5,.ptr 80 0),(6,rI s.1)] [(0,.var [rL s.2.1,rI s.2.2.1]),(64,.var [.ng]),(80,.var [.ref 1104 0]),(1104,.arr 0 116 (s.2.2.2.map aA.pd))])) (fun o e R' B'=>e= .exit 0∧hY prog 1 (A R' B') (aC.at_ 13 1 16)=some (A [(4,.ptr 64 0),(5,.ptr 80 0)] [(0,.var [rL o.1,rI o.2.1]),(64,.var [.ng]),(80,.var [.ref 1104 0]),(1104,.arr 0 116 (o.2.2.map aA.pd))])) rfl ?_ ?_))
 ·rintro⟨s1,s2,s3,s4⟩ R' B' q8 hI h
  refine qS<|gS rfl hI<|sM rfl<|sM rfl<|sF h (fun h=>?_) fun h=>?_
  ·refine sM rfl<|sM rfl<|sV (rB (decide (s1<(6:Int))))<|sF h (fun h=>?_) fun h=>?_
   ·refine sN<|cT<|qK<|qS<|qB<|gS rfl rfl<|sV (.d (bo.pd (bo.mk 100 1)))<|sM rfl<|bE h fun x11 hx11 h=>cR (.d (aa.pd x11.1)) [(0,.var (ac.rc x11.2))] (nE hx11)<|sM rfl<|bE h fun x12 hx12 h=>cR (.d (aQ.pd x12.1)) [(0,.var (ac.rc x12.2))] (oa hx12)<|sG (.d (.agg [.int .i64 0,.int .i64 100000,.int .i64 100,.int .i64 1,.int .i64 x11.1.fX,.int .i64 x11.1.fY,.int .i64 x11.1.fZ,.lst (x12.1.bC.map aH.pd)]))<|sB (.ptr 112 0) 112 (.var zZ3) ?_
    refine sH 112 (.var (r0::rI 100000::rI 100::rI 1::aa.rc x11.1++[rM aH.pd x12.1.bC]))<|sN<|WC.cI rfl rfl<|sM rfl<|bE h fun x13 hx13 h=>cD (mi hx13)<|sV (.d (.agg [.int .i64 0,.int .i64 100000,.int .i64 100,.int .i64 1,.int .i64 x11.1.fX,.int .i64 x11.1.fY,.int .i64 x11.1.fZ,.lst (x12.1.bC.map aH.pd)]))<|sB (.ref 448 0) 448 (.arr 0 113 ([(av.mk 0 100000 (bo.mk 100 1) x11.1 x12.1)].map av.pd))<|sV (.agg (aw.rc x13++[.ref 448 0]))<|sB (.ptr 128 0) 128 (.var [rS [],rS [],rS [],rS [],.ng])<|sS 128 (.var (aw.rc x13++[.ref 448 0])) ?_
    refine sN<|sO<|qS<|gS rfl rfl<|sM rfl<|bE h fun x14 hx14 h=>cR (rI x14.1) [(0,.var (ac.rc x14.2))] (bO hx14)<|sN<|qB<|gS rfl rfl<|sF h (fun h=>?_) fun h=>?_
    ·refine sA rfl<|sN<|cT<|gS rfl rfl<|sV (.d (.agg [.int .i64 0,.int .i64 100000,.int .i64 100,.int .i64 1,.int .i64 x11.1.fX,.int .i64 x11.1.fY,.int .i64 x11.1.fZ,.lst (x12.1.bC.map aH.pd)]))<|sB (.ptr 144 0) 144 (.var zZ3)<|sH 144 (.var (r0::rI 100000::rI 100::rI 1::aa.rc x11.1++[rM aH.pd x12.1.bC]))<|sN<|gS rfl rfl<|sM rfl<|bE h fun x16 hx16 h=>cR (rI x16.1) [(0,.var (ac.rc x16.2))] (bO hx16)<|sV (rI (rW ((1500:Int)+x16.1)))<|sM rfl<|bE h fun x17 hx17 h=>?_
     refine cR (.d (aa.pd x17.1)) [(0,.var (ac.rc x17.2))] (nE hx17)<|sM rfl<|bE h fun x18 hx18 h=>cR (.d (aQ.pd x18.1)) [(0,.var (ac.rc x18.2))] (oa hx18)<|sV (.ptr 144 0)<|sS 144 (.var (rI (rW ((1500:Int)+x16.1))::rI 100000::rI 100::rI 1::aa.rc x11.1++[rM aH.pd x12.1.bC]))<|sV (.ptr 144 4)<|sS 144 (.var (rI (rW ((1500:Int)+x16.1))::rI 100000::rI 100::rI 1::aa.rc x17.1++[rM aH.pd x12.1.bC]))<|sV (.ptr 144 7)<|sS 144 (.var (rI (rW ((1500:Int)+x16.1))::rI 100000::rI 100::rI 1::aa.rc x17.1++[rM aH.pd x18.1.bC]))<|sN<|gS rfl rfl<|sV (.ptr 128 4)<|sL rfl<|sV (.ptr 144 0) ?_
     refine sL rfl<|bE h fun x20 hx20 h=>WO.rG hx20 rfl rfl rfl rfl rfl rfl rfl rfl<|sV (.elt 448 0 ((0:Int)).toNat 1)<|bE h fun x21 hx21 h=>WO.xY (g:=av.pd) (u:=[]) (sz:=1) hx21 (fun _=>rfl) (fun _=>Nat.le_of_ble_eq_true rfl) rfl rfl rfl rfl rfl rfl rfl rfl rfl rfl rfl<|sN<|WC.region rfl rfl<|sV (.ptr 128 4)<|sL rfl<|sV (.d (.agg [.int .i64 (rW ((1500:Int)+x16.1)),.int .i64 100000,.int .i64 100,.int .i64 1,.int .i64 x17.1.fX,.int .i64 x17.1.fY,.int .i64 x17.1.fZ,.lst (x18.1.bC.map aH.pd)]))<|sG (.d (.lst ([(av.mk (rW ((1500:Int)+x16.1)) 100000 (bo.mk 100 1) x17.1 x18.1)].map av.pd)))<|bE h fun x23 hx23 h=>aR hx23 (fun _=>rfl) rfl<|sV (.ptr 128 4) ?_
     refine sS 128 (.var (aw.rc x13++[.ref 448 1]))<|sN<|WC.region rfl rfl<|sV (.ptr 80 0)<|sL rfl<|sV (.agg (aw.rc x13++[.ref 448 1]))<|sB (.d (.lst [aA.pd (aA.mk x13 x23)])) 448 .dead<|bE h fun x24 hx24 h=>aR hx24 (fun _=>rfl) rfl<|sV (.ptr 80 0)<|sS 80 (.var [.ref 1104 1])<|sN<|WC.region rfl rfl<|sM rfl<|sV (rI (rW (s1+(1:Int)))) ?_
     refine sA rfl<|sN ?_
     cases oI h
     exact⟨rfl,rfl⟩
    refine sA rfl<|sN<|cF<|gS rfl rfl<|sF h (fun h=>?_) fun h=>?_
    ·refine sA rfl<|sN<|cT<|WC.rb rfl rfl<|sV (.ptr 128 4)<|sL rfl<|sM rfl<|bE h fun x26 hx26 h=>cR (rI x26.1) [(0,.var (ac.rc x26.2))] (bO hx26)<|bE h fun x28 hx28 h=>WO.rG hx28 rfl rfl rfl rfl rfl rfl rfl rfl<|sV (.elt 448 0 ((0:Int)).toNat 0)<|bE h fun x29 hx29 h=>WO.xY (g:=av.pd) (u:=[]) (sz:=1) hx29 (fun _=>rfl) (fun _=>Nat.le_of_ble_eq_true rfl) rfl rfl rfl rfl rfl rfl rfl rfl rfl rfl rfl ?_
     refine sN<|sO<|WC.region rfl rfl<|sV (.ptr 80 0)<|sL rfl<|sV (.agg (aw.rc x13++[.ref 448 0]))<|sB (.d (.lst [aA.pd (aA.mk x13 x29)])) 448 .dead<|bE h fun x31 hx31 h=>aR hx31 (fun _=>rfl) rfl<|sV (.ptr 80 0)<|sS 80 (.var [.ref 1104 1])<|sN<|WC.region rfl rfl<|sM rfl<|sV (rI (rW (s1+(1:Int))))<|sA rfl ?_
     refine sN ?_
     cases oI h
     exact⟨rfl,rfl⟩
    refine sA rfl<|sN<|cF<|qK<|WC.region rfl rfl<|sV (.ptr 80 0)<|sL rfl<|sV (.agg (aw.rc x13++[.ref 448 0]))<|sB (.d (.lst [aA.pd (aA.mk x13 [(av.mk 0 100000 (bo.mk 100 1) x11.1 x12.1)])])) 448 .dead<|bE h fun x32 hx32 h=>aR hx32 (fun _=>rfl) rfl<|sV (.ptr 80 0)<|sS 80 (.var [.ref 1104 1])<|sN<|WC.region rfl rfl ?_
    refine sM rfl<|sV (rI (rW (s1+(1:Int))))<|sA rfl<|sN ?_
    cases oI h
    exact⟨rfl,rfl⟩
   refine sN<|cF<|qX ?_
   cases oI h
   exact⟨nofun,rfl,rfl⟩
  refine sM rfl<|sK<|sK<|sU<|sN<|cF<|qX ?_
  cases oI h
  exact⟨nofun,rfl,rfl⟩
 intro e R' B' he hq
 obtain⟨rfl,hI⟩:=hq
 refine qE<|gS rfl hI<|sV (.agg [.ref 1104 0])<|sS 64 (.var [.ref 1104 0])<|sN<|qR ?_
 exact oI h▸qD
theorem nF{a1:Int}{a2:Int}{d0:ac}{r:Int×ac}(h:lZ a1 a2 d0=some r):EvP prog aC ext 73 [.ptr 0 0,rI a1,rI a2] [.var (ac.rc d0)] (rI r.1,[.var (ac.rc r.2)]):=by
 refine Ev.body rfl Tryz.func73 rfl (by kernel_rfl)<|gS rfl rfl<|sV (r0)<|sN<|gS rfl rfl<|sM rfl<|sM rfl<|sM rfl<|sM rfl<|sV (rI (rW (a2-a1)))<|sV (rI (rW ((rW (a2-a1))+(1:Int))))<|bE h fun x1 hx1 h=>cR (rI x1.1) [(0,.var (ac.rc x1.2))] (bO hx1)<|sV (rI (rW (a1+x1.1)))<|sA rfl ?_
 refine sN<|qR ?_
 exact oI h▸qD
theorem qb{a1:ah}{d0:ac}{r:aa×ac}(h:nc a1 d0=some r):EvP prog aC ext 27 [.ptr 0 0,.d (ah.pd a1)] [.var (ac.rc d0)] (.d (aa.pd r.1),[.var (ac.rc r.2)]):=by
 refine Ev.body rfl Tryz.func27 rfl (by kernel_rfl)<|gS rfl rfl<|sB (.ptr 48 0) 48 (.var (ah.rc a1))<|sB (.ptr 64 0) 64 (.var [r0,r0,r0])<|sN<|WC.cI rfl rfl<|sM rfl<|sV (.ptr 48 0)<|sV (.ptr 48 0)<|sL rfl<|sV (.ptr 48 3)<|sV (.ptr 48 3)<|sL rfl<|bE h fun x1 hx1 h=>cR (rI x1.1) [(0,.var (ac.rc x1.2))] (nF hx1) ?_
 refine sM rfl<|sV (.ptr 48 0)<|sV (.ptr 48 1)<|sL rfl<|sV (.ptr 48 3)<|sV (.ptr 48 4)<|sL rfl<|bE h fun x2 hx2 h=>cR (rI x2.1) [(0,.var (ac.rc x2.2))] (nF hx2)<|sM rfl<|sV (.ptr 48 0)<|sV (.ptr 48 2)<|sL rfl<|sV (.ptr 48 3)<|sV (.ptr 48 5) ?_
 refine sL rfl<|bE h fun x3 hx3 h=>cR (rI x3.1) [(0,.var (ac.rc x3.2))] (nF hx3)<|sV (.d (aa.pd (aa.mk x1.1 x2.1 x3.1)))<|sS 64 (.var [rI x1.1,rI x2.1,rI x3.1]) ?_
 refine sN<|sO<|qR ?_
 exact oI h▸qD
theorem keep_place_ev{a0:ar}{a1:aw}{a2:Int}{r:aa×Bool}(h:nS a0 a1 a2=some r):EvP prog aC ext 53 [.d (ar.pd a0),.d (aw.pd a1),rI a2] [] (.tup [.d (aa.pd r.1),rB r.2],[]):=by
 refine Ev.body rfl Tryz.func53 rfl (by kernel_rfl)<|gS rfl rfl<|sB (.ptr 48 0) 48 (.var [rM aA.pd a0.aU])<|sB (.ptr 64 0) 64 (.var (aw.rc a1))<|sB (.ptr 96 0) 96 (.var [r0,r0,r0])<|sU<|sN<|qS<|gS rfl rfl<|sV (.ptr 48 0)<|sL rfl<|sE (rI (a0.aU.length:Int)) (qt _ _)<|sV (r0)<|sN<|bE h fun o18 ho18 h=>?_
 refine WC.block (WC.loop (WL.qx ho18 (fun s R' B'=>hY prog 0 (A R' B') (aC.at_ 53 0 2)=some (A [(2,rI a2),(4,.ptr 64 0),(6,.ptr 96 0),(13,rM aA.pd a0.aU),(14,rI (a0.aU.length:Int)),(15,rI s)] [(64,.var (aw.rc a1)),(96,.var [r0,r0,r0])])) (fun o e R' B'=>match o with| .inl y=>e= .exit 0∧hY prog 0 (A R' B') (aC.at_ 53 0 11)=some (A [(6,.ptr 96 0)] [(96,.var [r0,r0,r0])])| .inr r=>e= .ret∧finish prog (aC.own 53) Tryz.f53 0 (A R' B')=some (.tup [.d (aa.pd r.1),rB r.2],[])) rfl ?_ ?_))
 ·rintro s1 R' B' q2 hI h
  refine gS rfl hI<|sF h (fun h=>?_) fun h=>?_
  ·refine sN<|qS<|cT<|qK<|qS<|qB<|gS rfl rfl<|bE h fun x4 hx4 h=>eG hx4 rfl<|sV (.d (aA.pd x4))<|sB (.ptr 144 0) 144 (.var [rS [],rS [],rS [],rS [],.ng])<|sS 144 (.var (aA.rc x4))<|sN<|gS rfl rfl<|sV (.ptr 144 4) ?_
   refine sL rfl<|sE (rI (x4.bM.length:Int)) (qt _ _)<|sV (r0)<|sN<|bE h fun o14 ho14 h=>WC.block (WC.loop (WL.qx ho14 (fun s R' B'=>hY prog 0 (A R' B') (aC.at_ 53 0 5)=some (A [(2,rI a2),(4,.ptr 64 0),(6,.ptr 96 0),(9,.ptr 144 0),(13,rM aA.pd a0.aU),(14,rI (a0.aU.length:Int)),(15,rI s1),(20,rM av.pd x4.bM),(21,rI (x4.bM.length:Int)),(22,rI s)] [(64,.var (aw.rc a1)),(96,.var [r0,r0,r0]),(144,.var (aA.rc x4))])) (fun o e R' B'=>match o with| .inl y=>e= .exit 2∧hY prog 0 (A R' B') (aC.at_ 53 0 10)=some (A [(2,rI a2),(4,.ptr 64 0),(6,.ptr 96 0),(13,rM aA.pd a0.aU),(14,rI (a0.aU.length:Int)),(15,rI y)] [(64,.var (aw.rc a1)),(96,.var [r0,r0,r0])])| .inr r=>e= .ret∧finish prog (aC.own 53) Tryz.f53 0 (A R' B')=some (.tup [.d (aa.pd r.1),rB r.2],[])) rfl ?_ ?_))
   ·rintro s5 R' B' q7 hI h
    refine gS rfl hI<|sF h (fun h=>?_) fun h=>?_
    ·refine sN<|qS<|cT<|qK<|qS<|qB<|gS rfl rfl<|bE h fun x9 hx9 h=>eG hx9 rfl<|sV (.d (av.pd x9))<|sB (.ptr 176 0) 176 (.var zZ3)<|sH 176 (.var (av.rc x9))<|sN<|gS rfl rfl<|sV (.ptr 144 0) ?_
     refine sV (.d (aw.pd x4.aD))<|sV (.d (aw.pd a1))<|qZ h (fun hb10 h=>?_) (fun hb10 h=>?_)
     ·refine WO.vS (eqE_64 x4.aD a1) hb10 rfl rfl rfl rfl rfl<|sM rfl<|sV (.ptr 176 0)<|sL rfl<|sM rfl<|sV (rB (decide (x9.bp<=a2)))<|sF h (fun h=>?_) fun h=>?_
      ·refine sM rfl<|sM rfl<|sV (.ptr 176 1)<|sL rfl<|sV (rB (decide (a2<x9.fTo)))<|sF h (fun h=>?_) fun h=>?_
       ·refine sN<|cT<|gS rfl rfl<|sV (.ptr 176 4)<|sV (.d (aa.pd x9.bj))<|sS 96 (.var (aa.rc x9.bj))<|sT<|sN<|qR ?_
        cases oI h
        exact⟨nofun,rfl,rfl⟩
       refine sN<|cF<|qK<|WC.region rfl rfl<|sV (rI (rW (s5+(1:Int))))<|sM rfl<|sN ?_
       cases oI h
       exact⟨rfl,rfl⟩
      refine sM rfl<|k3<|sK<|sU<|sN<|cF<|qK<|WC.region rfl rfl<|sV (rI (rW (s5+(1:Int))))<|sM rfl<|sN ?_
      cases oI h
      exact⟨rfl,rfl⟩
     refine WO.vS (eqE_64 x4.aD a1) hb10 rfl rfl rfl rfl rfl<|sM rfl<|k3<|sK<|sU<|sM rfl<|k3<|sK<|sU<|sN<|cF ?_
     refine qK<|WC.region rfl rfl<|sV (rI (rW (s5+(1:Int))))<|sM rfl<|sN ?_
     cases oI h
     exact⟨rfl,rfl⟩
    refine sN<|qS<|cF<|qX ?_
    cases oI h
    exact⟨nofun,rfl,rfl⟩
   intro e R' B' he hq
   rcases o14 with y15|r16
   ·obtain⟨rfl,hI⟩:=hq
    refine qE<|WC.region hI rfl<|sV (rI (rW (y15+(1:Int))))<|sM rfl<|sN ?_
    cases oI h
    exact⟨rfl,rfl⟩
   obtain⟨rfl,hf⟩:=hq
   cases oI h
   exact⟨nofun,rfl,hf⟩
  refine sN<|qS<|cF<|qX ?_
  cases oI h
  exact⟨nofun,rfl,rfl⟩
 intro e R' B' he hq
 rcases o18 with y19|r20
 ·obtain⟨rfl,hI⟩:=hq
  refine qE<|gS rfl hI<|sV (.d (aa.pd (aa.mk 0 0 0)))<|sS 96 (.var [r0,r0,r0])<|sU<|sN<|qR ?_
  exact oI h▸qD
 obtain⟨rfl,hf⟩:=hq
 cases oI h
 exact hf
theorem pL{a0:Int}{r:Int}(h:oZ a0=some r):EvP prog aC ext 54 [rI a0] [] (rI r,[]):=by
 refine Ev.body rfl Tryz.func54 rfl (by kernel_rfl)<|gS rfl rfl<|sV (r0)<|sN<|gS rfl rfl<|sM rfl<|sM rfl<|sV (rI (rW (a0*a0)))<|sA rfl<|sN<|qR ?_
 exact oI h▸qD
theorem qa{a1:aq}{a2:ar}{a3:Int}{d0:ac}{r:(List ae)×ac}(h:lY a1 a2 a3 d0=some r):EvP prog aC ext 14 [.ptr 0 0,.d (aq.pd a1),.d (ar.pd a2),rI a3] [.var (ac.rc d0)] (.ref 1 0,[.var (ac.rc r.2),.arr 0 66 (r.1.map ae.pd)]):=by
 refine Ev.body rfl Tryz.func14 rfl (by kernel_rfl)<|gS rfl rfl<|sB (.ptr 80 0) 80 (.var (aq.rc a1))<|sB (.ptr 96 0) 96 (.var [rM aA.pd a2.aU])<|sV .ng<|sN<|gS rfl rfl<|sV .ng<|sN<|gS rfl rfl<|sM rfl<|sV (.ptr 80 0)<|sV (.ptr 80 0)<|sV (.d (ah.pd a1.ai.aN))<|bE h fun x1 hx1 h=>?_
 refine cR (.d (aa.pd x1.1)) [(0,.var (ac.rc x1.2))] (qb hx1)<|sM rfl<|bE h fun x2 hx2 h=>cR (rI x2.1) [(0,.var (ac.rc x2.2))] (bO hx2)<|sV (rI (rW ((1000:Int)+x2.1)))<|sB (.ptr 160 0) 160 (.var [r0,r0,r0])<|sS 160 (.var (aa.rc x1.1))<|sA rfl<|sN<|qS<|gS rfl rfl<|sM rfl<|sM rfl<|sV (rI (rW (a3+(1:Int))))<|bE h fun x3 hx3 h=>?_
 refine cR (rI x3.1) [(0,.var (ac.rc x3.2))] (bO hx3)<|sA rfl<|sN<|bE h fun o61 ho61 h=>WC.block (WC.loop (WL.qx ho61 (fun s R' B'=>hY prog 1 (A R' B') (aC.at_ 14 1 4)=some (A [(0,.ptr 0 0),(5,.ptr 80 0),(6,.ptr 96 0),(9,.ref 2192 0),(10,.ptr 160 0),(11,rI s.1),(12,rI s.2.1)] [(0,.var [rL s.2.2.1,rI s.2.2.2.1]),(80,.var (aq.rc a1)),(96,.var [rM aA.pd a2.aU]),(160,.var [rI s.2.2.2.2.2.1,rI s.2.2.2.2.2.2.1,rI s.2.2.2.2.2.2.2]),(2192,.arr 0 66 (s.2.2.2.2.1.map ae.pd))])) (fun o e R' B'=>e= .exit 0∧hY prog 1 (A R' B') (aC.at_ 14 1 21)=some (A [(9,.ref 2192 0)] [(0,.var [rL o.2.1,rI o.2.2]),(2192,.arr 0 66 (o.1.map ae.pd))])) rfl ?_ ?_))
 ·rintro⟨s4,s5,s6,s7,s8,s9,s10,s11⟩ R' B' q15 hI h
  refine qS<|gS rfl hI<|sM rfl<|sF h (fun h=>?_) fun h=>?_
  ·refine sN<|cT<|qK<|qS<|qB<|gS rfl rfl<|sM rfl<|bE h fun x17 hx17 h=>cR (rI x17.1) [(0,.var (ac.rc x17.2))] (bO hx17)<|bE h fun x18 hx18 h=>cD (mi hx18)<|sM rfl<|sV (.d (.lst ([0,1,50,1000,1048576].map (PD.int .i64))))<|bE h fun x19 hx19 h=>cR (rI x19.1) [(0,.var (ac.rc x19.2))] (dV hx19) ?_
   refine sM rfl<|bE h fun x20 hx20 h=>cR (rI x20.1) [(0,.var (ac.rc x20.2))] (bO hx20)<|sV (rI (rW (x20.1-(1:Int))))<|sG (.d (ae.pd (ae.mk x18 0 0 0 x19.1 (rW (x20.1-(1:Int))))))<|sB (.ptr 208 0) 208 (.var zZ2)<|sH 208 (.var (aw.rc x18++[r0,r0,r0,rI x19.1,rI (rW (x20.1-(1:Int)))]))<|sN<|gS rfl rfl<|sM rfl<|bE h fun x21 hx21 h=>cR (rI x21.1) [(0,.var (ac.rc x21.2))] (bO hx21)<|sV (rI (rW ((1000:Int)+x21.1)))<|sV (.ptr 208 5)<|sS 208 (.var (aw.rc x18++[r0,rI (rW ((1000:Int)+x21.1)),r0,rI x19.1,rI (rW (x20.1-(1:Int)))])) ?_
   refine sN<|WC.join (α:=Int×Int×(List Int)×Int×(List ae)×Int×Int×Int×Int) (fun x R' B'=>hY prog 1 (A R' B') (aC.at_ 14 1 18)=some (A [(0,.ptr 0 0),(5,.ptr 80 0),(6,.ptr 96 0),(9,.ref 2192 0),(10,.ptr 160 0),(11,rI x.1),(12,rI x.2.1),(13,.ptr 208 0)] [(0,.var [rL x.2.2.1,rI x.2.2.2.1]),(80,.var (aq.rc a1)),(96,.var [rM aA.pd a2.aU]),(160,.var [rI x.2.2.2.2.2.1,rI x.2.2.2.2.2.2.1,rI x.2.2.2.2.2.2.2.1]),(208,.var (aw.rc x18++[r0,rI x.2.2.2.2.2.2.2.2,r0,rI x19.1,rI (rW (x20.1-(1:Int)))])),(2192,.arr 0 66 (x.2.2.2.2.1.map ae.pd))])) (fun x=>fH x18 x19 x20 x.1 x.2.1 x.2.2.1 x.2.2.2.1 x.2.2.2.2.1 x.2.2.2.2.2.1 x.2.2.2.2.2.2.1 x.2.2.2.2.2.2.2.1 x.2.2.2.2.2.2.2.2=some q15) ?_ ?_
   ·refine gS rfl rfl<|sM rfl<|bE h fun x35 hx35 h=>cR (rI x35.1) [(0,.var (ac.rc x35.2))] (bO hx35)<|sN<|qB<|gS rfl rfl<|sF h (fun h=>?_) fun h=>?_
    ·refine sA rfl<|sN<|cT<|WC.region rfl rfl<|sM rfl<|sV (.ptr 80 0)<|sV (.ptr 80 0)<|sV (.d (ah.pd a1.ai.aN))<|bE h fun x37 hx37 h=>cR (.d (aa.pd x37.1)) [(0,.var (ac.rc x37.2))] (qb hx37)<|sM rfl<|sM rfl<|bE h fun x38 hx38 h=>cR (rI x38.1) [(0,.var (ac.rc x38.2))] (bO hx38)<|sV (rI (rW (s4+x38.1))) ?_
     exact sS 160 (.var (aa.rc x37.1))<|sA rfl<|sN<|⟨((rW (s4+x38.1)),s5,x38.2.fL,x38.2.fAt,s8,x37.1.fX,x37.1.fY,x37.1.fZ,(rW ((1000:Int)+x21.1))),rfl,h⟩
    refine sA rfl<|sN<|cF<|gS rfl rfl<|sF h (fun h=>?_) fun h=>?_
    ·exact sA rfl<|sN<|cT<|qK<|⟨(s4,s5,x35.2.fL,x35.2.fAt,s8,s9,s10,s11,(rW ((1000:Int)+x21.1))),rfl,h⟩
    refine sA rfl<|sN<|cF<|gS rfl rfl<|sV (.d (ar.pd a2))<|sV (.ptr 208 0)<|sV (.d (aw.pd x18))<|sM rfl<|bE h fun x40 hx40 h=>cR (.tup [.d (aa.pd x40.1),rB x40.2]) [] (keep_place_ev hx40)<|sM rfl<|sV (.d (aa.pd x40.1))<|sV (rB x40.2)<|sB (.ptr 224 0) 224 (.var [r0,r0,r0])<|sS 224 (.var (aa.rc x40.1)) ?_
    refine sA rfl<|sN<|gS rfl rfl<|sF h (fun h=>?_) fun h=>?_
    ·refine sN<|cT<|gS rfl rfl<|sV (r0)<|sN<|qS<|bE h fun o56 ho56 h=>WC.block (WC.loop (WL.qx ho56 (fun s R' B'=>hY prog 1 (A R' B') (aC.at_ 14 1 12)=some (A [(0,.ptr 0 0),(5,.ptr 80 0),(6,.ptr 96 0),(9,.ref 2192 0),(10,.ptr 160 0),(11,rI s4),(12,rI s5),(13,.ptr 208 0),(14,.ptr 224 0),(16,rI s)] [(0,.var (ac.rc x35.2)),(80,.var (aq.rc a1)),(96,.var [rM aA.pd a2.aU]),(160,.var [rI s9,rI s10,rI s11]),(208,.var (aw.rc x18++[r0,rI (rW ((1000:Int)+x21.1)),r0,rI x19.1,rI (rW (x20.1-(1:Int)))])),(224,.var (aa.rc x40.1)),(2192,.arr 0 66 (s8.map ae.pd))])) (fun o e R' B'=>e= .exit 3∧hY prog 1 (A R' B') (aC.at_ 14 1 14)=some (A [(0,.ptr 0 0),(5,.ptr 80 0),(6,.ptr 96 0),(9,.ref 2192 0),(10,.ptr 160 0),(11,rI o.1),(12,rI o.2.1),(13,.ptr 208 0),(16,rI o.2.2.1)] [(0,.var (ac.rc x35.2)),(80,.var (aq.rc a1)),(96,.var [rM aA.pd a2.aU]),(160,.var [rI o.2.2.2.2.1,rI o.2.2.2.2.2.1,rI o.2.2.2.2.2.2]),(208,.var (aw.rc x18++[r0,rI (rW ((1000:Int)+x21.1)),r0,rI x19.1,rI (rW (x20.1-(1:Int)))])),(2192,.arr 0 66 (o.2.2.2.1.map ae.pd))])) rfl ?_ ?_))
     ·rintro s42 R' B' q50 hI h
      refine qS<|WC.cI hI rfl<|sM rfl<|sM rfl<|sV (rI (rW (s42*s42)))<|sV (.ptr 224 0)<|sL rfl<|sV (.ptr 160 0)<|sL rfl<|sV (rI (rW (x40.1.fX-s9)))<|bE h fun x51 hx51 h=>cD (pL hx51)<|sV (.ptr 224 1)<|sL rfl<|sV (.ptr 160 1) ?_
      refine sL rfl<|sV (rI (rW (x40.1.fY-s10)))<|bE h fun x52 hx52 h=>cD (pL hx52)<|sV (rI (rW (x51+x52)))<|sV (.ptr 224 2)<|sL rfl<|sV (.ptr 160 2)<|sL rfl<|sV (rI (rW (x40.1.fZ-s11)))<|bE h fun x53 hx53 h=>cD (pL hx53)<|sV (rI (rW ((rW (x51+x52))+x53)))<|sF h (fun h=>?_) fun h=>?_
      ·refine sN<|sO<|cT<|qK<|qB<|WC.region rfl rfl<|sM rfl<|sV (rI (rW (s42+(1:Int))))<|sA rfl<|sN ?_
       cases oI h
       exact⟨rfl,rfl⟩
      refine sN<|sO<|cF<|qX ?_
      cases oI h
      exact⟨nofun,rfl,rfl⟩
     intro e R' B' he hq
     obtain⟨rfl,hI⟩:=hq
     refine qE<|WC.rb hI rfl<|sM rfl<|sV (.ptr 80 0)<|sV (.ptr 80 6)<|sV (.ptr 80 7)<|sL rfl<|sM rfl<|sV (.ptr 80 0)<|sV (.ptr 80 6)<|sV (.ptr 80 6)<|sL rfl<|bE h fun x57 hx57 h=>WO.uV hx57 rfl rfl rfl rfl rfl rfl<|sV (.ptr 80 0) ?_
     refine sV (.ptr 80 6)<|sV (.ptr 80 7)<|sL rfl<|sE (rI (a1.ai.bi.aK.length:Int)) (qt _ _)<|sV (rI (rW ((a1.ai.bi.aK.length:Int)-(1:Int))))<|sV (rI (if(rW ((a1.ai.bi.aK.length:Int)-(1:Int)))<x57 then(rW ((a1.ai.bi.aK.length:Int)-(1:Int)))else x57))<|bE h fun x58 hx58 h=>eG hx58 rfl<|sC rfl<|sV (rI (rW (o56.1+x58)))<|sM rfl<|bE h fun x59 hx59 h=>cR (rI x59.1) [(0,.var (ac.rc x59.2))] (bO hx59)<|sV (rI (rW ((rW (o56.1+x58))+x59.1)))<|sV (.ptr 208 5) ?_
     refine sS 208 (.var (aw.rc x18++[r0,rI (rW ((rW (o56.1+x58))+x59.1)),r0,rI x19.1,rI (rW (x20.1-(1:Int)))])) ?_
     exact sN<|sO<|⟨(o56.1,o56.2.1,x59.2.fL,x59.2.fAt,o56.2.2.2.1,o56.2.2.2.2.1,o56.2.2.2.2.2.1,o56.2.2.2.2.2.2,(rW ((rW (o56.1+x58))+x59.1))),rfl,h⟩
    exact sN<|cF<|qK<|⟨(s4,s5,x35.2.fL,x35.2.fAt,s8,s9,s10,s11,(rW ((1000:Int)+x21.1))),rfl,h⟩
   rintro⟨j22,j23,j24,j25,j26,j27,j28,j29,j30⟩ R' B' hI h
   refine WC.cI hI rfl<|sV (.ptr 208 5)<|sL rfl<|sM rfl<|bE h fun x31 hx31 h=>cR (rI x31.1) [(0,.var (ac.rc x31.2))] (bO hx31)<|sV (rI (rW (j30+x31.1)))<|sV (.ptr 208 4)<|sS 208 (.var (aw.rc x18++[rI (rW (j30+x31.1)),rI j30,r0,rI x19.1,rI (rW (x20.1-(1:Int)))])) ?_
   refine sN<|sO<|WC.cI rfl rfl<|sV (.ptr 208 4)<|sL rfl<|sM rfl<|bE h fun x32 hx32 h=>cR (rI x32.1) [(0,.var (ac.rc x32.2))] (bO hx32)<|sV (rI (rW ((rW (j30+x31.1))+x32.1)))<|sV (.ptr 208 6)<|sS 208 (.var (aw.rc x18++[rI (rW (j30+x31.1)),rI j30,rI (rW ((rW (j30+x31.1))+x32.1)),rI x19.1,rI (rW (x20.1-(1:Int)))])) ?_
   refine sN<|sO<|WC.region rfl rfl<|sM rfl<|sV (.d (ae.pd (ae.mk x18 (rW (j30+x31.1)) j30 (rW ((rW (j30+x31.1))+x32.1)) x19.1 (rW (x20.1-(1:Int))))))<|sG (.d (.lst ([(ae.mk x18 (rW (j30+x31.1)) j30 (rW ((rW (j30+x31.1))+x32.1)) x19.1 (rW (x20.1-(1:Int))))].map ae.pd)))<|bE h fun x33 hx33 h=>aR hx33 (fun _=>rfl) rfl<|sA rfl<|sN<|WC.region rfl rfl<|sM rfl<|sV (rI (rW (j23-(1:Int))))<|sA rfl<|sN ?_
   cases oI h
   exact⟨rfl,rfl⟩
  refine sN<|cF<|qX ?_
  cases oI h
  exact⟨nofun,rfl,rfl⟩
 intro e R' B' he hq
 obtain⟨rfl,hI⟩:=hq
 refine qE<|gS rfl hI<|sM rfl<|sA rfl<|sN<|qR ?_
 exact oI h▸qD
theorem bJ{a0:aa}{r:aW}(h:bv a0=some r):EvP prog aC ext 188 [.d (aa.pd a0)] [] (.d (aW.pd r),[]):=by
 refine Ev.body rfl Tryz.func188 rfl (by kernel_rfl)<|gS rfl rfl<|sB (.ptr 16 0) 16 (.var (aa.rc a0))<|sB (.ptr 32 0) 32 (.var [r0,r0,r0])<|sN<|gS rfl rfl<|sV (.ptr 16 0)<|sL rfl<|sV (.ptr 16 1)<|sL rfl<|sV (.ptr 16 2)<|sL rfl<|sV (.d (aW.pd (aW.mk a0.fX a0.fY a0.fZ)))<|sS 32 (.var (aa.rc a0))<|sN ?_
 refine qR ?_
 exact oI h▸qD
theorem cU{a0:aa}{r:Bool}(h:cJ a0=some r):EvP prog aC ext 272 [.d (aa.pd a0)] [] (rB r,[]):=by
 refine Ev.body rfl Tryz.func272 rfl (by kernel_rfl)<|gS rfl rfl<|sB (.ptr 16 0) 16 (.var (aa.rc a0))<|sU<|sN<|gS rfl rfl<|sV (.d (aW.pd (aW.mk (-1048576) (-1048576) (-16384))))<|sB (.ptr 48 0) 48 (.var [r0,r0,r0])<|sS 48 (.var [rI (-1048576),rI (-1048576),rI (-16384)])<|sN<|qS<|gS rfl rfl<|sV (.d (aa.pd a0))<|bE h fun x1 hx1 h=>cD (bJ hx1) ?_
 refine sV (r0)<|sN<|WC.block (WC.loop ?_)
 refine WL.round<|gS rfl rfl<|sT<|sN<|qS<|cT<|qK<|qS<|qB<|gS rfl rfl<|sM rfl<|sV (rI x1.a0)<|sA rfl<|sA rfl<|sN ?_
 refine gS rfl rfl<|sM rfl<|sM rfl<|sV (.ptr 48 0)<|sL rfl<|sF h (fun h=>?_) fun h=>?_
 ·refine sM rfl<|sK<|sK<|sT<|sN<|cT<|gS rfl rfl<|sU<|sN<|qR ?_
  exact oI h▸qD
 refine sM rfl<|sM rfl<|sV (rB (decide (x1.a0>(1048576:Int))))<|sF h (fun h=>?_) fun h=>?_
 ·refine sN<|cT<|gS rfl rfl<|sU<|sN<|qR ?_
  exact oI h▸qD
 refine sN<|cF<|qK<|WC.region rfl rfl<|sV (rI 1)<|sM rfl<|sN<|WL.round<|gS rfl rfl<|sT<|sN<|qS<|cT<|qK<|qS ?_
 refine qB<|gS rfl rfl<|sM rfl<|sV (rI x1.a1)<|sA rfl<|sA rfl<|sN<|gS rfl rfl<|sM rfl<|sM rfl<|sV (.ptr 48 1)<|sL rfl<|sF h (fun h=>?_) fun h=>?_
 ·refine sM rfl<|sK<|sK<|sT<|sN<|cT<|gS rfl rfl<|sU<|sN<|qR ?_
  exact oI h▸qD
 refine sM rfl<|sM rfl<|sV (rB (decide (x1.a1>(1048576:Int))))<|sF h (fun h=>?_) fun h=>?_
 ·refine sN<|cT<|gS rfl rfl<|sU<|sN<|qR ?_
  exact oI h▸qD
 refine sN<|cF<|qK<|WC.region rfl rfl<|sV (rI 2)<|sM rfl<|sN<|WL.round<|gS rfl rfl<|sT<|sN<|qS<|cT<|qK<|qS ?_
 refine qB<|gS rfl rfl<|sM rfl<|sV (rI x1.a2)<|sA rfl<|sA rfl<|sN<|gS rfl rfl<|sM rfl<|sM rfl<|sV (.ptr 48 2)<|sL rfl<|sF h (fun h=>?_) fun h=>?_
 ·refine sM rfl<|sK<|sK<|sT<|sN<|cT<|gS rfl rfl<|sU<|sN<|qR ?_
  exact oI h▸qD
 refine sM rfl<|sM rfl<|sV (rB (decide (x1.a2>(1048576:Int))))<|sF h (fun h=>?_) fun h=>?_
 ·refine sN<|cT<|gS rfl rfl<|sU<|sN<|qR ?_
  exact oI h▸qD
 refine sN<|cF<|qK<|WC.region rfl rfl<|sV (rI 3)<|sM rfl<|sN<|WL.round<|gS rfl rfl<|sU<|sN<|qS<|cF<|qX<|qE ?_
 refine gS rfl rfl<|sT<|sN<|qR ?_
 exact oI h▸qD
theorem bA{a0:ah}{r:Bool}(h:bz a0=some r):EvP prog aC ext 187 [.d (ah.pd a0)] [] (rB r,[]):=by
 refine Ev.body rfl Tryz.func187 rfl (by kernel_rfl)<|gS rfl rfl<|sB (.ptr 16 0) 16 (.var (ah.rc a0))<|sU<|sN<|qS<|gS rfl rfl<|sV (.ptr 16 0)<|sV (.d (aa.pd a0.aK))<|bE h fun x1 hx1 h=>cD (cU hx1)<|sF h (fun h=>?_) fun h=>?_
 ·refine sM rfl<|k3<|sK<|sT<|sN<|cT<|gS rfl rfl<|sU<|sN<|qR ?_
  exact oI h▸qD
 refine sM rfl<|sV (.ptr 16 3)<|sV (.d (aa.pd a0.aF))<|bE h fun x3 hx3 h=>cD (cU hx3)<|sV (rB (!x3))<|sF h (fun h=>?_) fun h=>?_
 ·refine sN<|cT<|gS rfl rfl<|sU<|sN<|qR ?_
  exact oI h▸qD
 refine sN<|cF<|qK<|gS rfl rfl<|sV (.ptr 16 3)<|sV (.d (aa.pd a0.aF))<|bE h fun x5 hx5 h=>cD (bJ hx5)<|sB (.ptr 48 0) 48 (.var [r0,r0,r0])<|sS 48 (.var [rI x5.a0,rI x5.a1,rI x5.a2])<|sN<|qS<|gS rfl rfl<|sV (.ptr 16 0)<|sV (.d (aa.pd a0.aK)) ?_
 refine bE h fun x6 hx6 h=>cD (bJ hx6)<|sV (r0)<|sN<|WC.block (WC.loop ?_)
 refine WL.round<|gS rfl rfl<|sT<|sN<|qS<|cT<|qK<|qS<|qB<|gS rfl rfl<|sM rfl<|sV (rI x6.a0)<|sA rfl<|sA rfl<|sN ?_
 refine gS rfl rfl<|sM rfl<|sM rfl<|sV (.ptr 48 0)<|sL rfl<|sF h (fun h=>?_) fun h=>?_
 ·refine sN<|cT<|gS rfl rfl<|sU<|sN<|qR ?_
  exact oI h▸qD
 refine sN<|cF<|qK<|WC.region rfl rfl<|sV (rI 1)<|sM rfl<|sN<|WL.round<|gS rfl rfl<|sT<|sN<|qS<|cT<|qK<|qS ?_
 refine qB<|gS rfl rfl<|sM rfl<|sV (rI x6.a1)<|sA rfl<|sA rfl<|sN<|gS rfl rfl<|sM rfl<|sM rfl<|sV (.ptr 48 1)<|sL rfl<|sF h (fun h=>?_) fun h=>?_
 ·refine sN<|cT<|gS rfl rfl<|sU<|sN<|qR ?_
  exact oI h▸qD
 refine sN<|cF<|qK<|WC.region rfl rfl<|sV (rI 2)<|sM rfl<|sN<|WL.round<|gS rfl rfl<|sT<|sN<|qS<|cT<|qK<|qS ?_
 refine qB<|gS rfl rfl<|sM rfl<|sV (rI x6.a2)<|sA rfl<|sA rfl<|sN<|gS rfl rfl<|sM rfl<|sM rfl<|sV (.ptr 48 2)<|sL rfl<|sF h (fun h=>?_) fun h=>?_
 ·refine sN<|cT<|gS rfl rfl<|sU<|sN<|qR ?_
  exact oI h▸qD
 refine sN<|cF<|qK<|WC.region rfl rfl<|sV (rI 3)<|sM rfl<|sN<|WL.round<|gS rfl rfl<|sU<|sN<|qS<|cF<|qX<|qE ?_
 refine gS rfl rfl<|sT<|sN<|qR ?_
 exact oI h▸qD
theorem dQ{a0:aI}{r:Int}(h:cy a0=some r):EvP prog aC ext 199 [.d (aI.pd a0)] [] (rI r,[]):=by
 refine Ev.body rfl Tryz.func199 rfl (by kernel_rfl)<|gS rfl rfl<|sB (.ptr 16 0) 16 (.var (aI.rc a0))<|sV (r0)<|sN<|gS rfl rfl<|sV (.ptr 16 1)<|sL rfl<|sE (rI (a0.aK.length:Int)) (qt _ _)<|sA rfl<|sN<|qS<|gS rfl rfl<|sV (.ptr 16 0)<|sL rfl ?_
 refine sF h (fun h=>?_) fun h=>?_
 ·refine sM rfl<|k3<|sT<|sM rfl<|k3<|sK<|sK<|sT<|sM rfl<|sK<|sK ?_
  refine sT<|sM rfl<|sK<|sK<|sT<|sN<|cT<|gS rfl rfl<|sV (rI 21)<|sN<|qR ?_
  exact oI h▸qD
 refine sM rfl<|sV (.ptr 16 0)<|sL rfl<|sV (rB (decide (a0.bn>(1048576:Int))))<|sF h (fun h=>?_) fun h=>?_
 ·refine sM rfl<|k3<|sK<|sK<|sT<|sM rfl<|sK<|sK<|sT<|sM rfl<|sK<|sK<|sT ?_
  refine sN<|cT<|gS rfl rfl<|sV (rI 21)<|sN<|qR ?_
  exact oI h▸qD
 refine sM rfl<|sM rfl<|sV (.ptr 16 2)<|sL rfl<|sE (rI (a0.aF.length:Int)) (qt _ _)<|sV (rB ((a0.aK.length:Int) != (a0.aF.length:Int)))<|sF h (fun h=>?_) fun h=>?_
 ·refine sM rfl<|sK<|sK<|sT<|sM rfl<|sK<|sK<|sT<|sN<|cT<|gS rfl rfl<|sV (rI 21)<|sN<|qR ?_
  exact oI h▸qD
 refine sM rfl<|sM rfl<|sV (rB (decide ((a0.aK.length:Int)<(2:Int))))<|sF h (fun h=>?_) fun h=>?_
 ·refine sM rfl<|sK<|sK<|sT<|sN<|cT<|gS rfl rfl<|sV (rI 21)<|sN<|qR ?_
  exact oI h▸qD
 refine sM rfl<|sM rfl<|sV (rB (decide ((a0.aK.length:Int)>(256:Int))))<|sF h (fun h=>?_) fun h=>?_
 ·refine sN<|cT<|gS rfl rfl<|sV (rI 21)<|sN<|qR ?_
  exact oI h▸qD
 refine sN<|cF<|qK<|gS rfl rfl<|sV (r0)<|sV (r0)<|sN<|qS<|gS rfl rfl<|sM rfl<|sV (r0)<|sN<|bE h fun o23 ho23 h=>WC.block (WC.loop (WL.qx ho23 (fun s R' B'=>hY prog 0 (A R' B') (aC.at_ 199 0 6)=some (A [(1,.ptr 16 0),(4,rI s.1),(5,rI s.2.1),(33,rI (a0.aK.length:Int)),(34,rI s.2.2)] [(16,.var (aI.rc a0))])) (fun o e R' B'=>match o with| .inl y=>e= .exit 0∧hY prog 0 (A R' B') (aC.at_ 199 0 12)=some (A [] [])| .inr r=>e= .ret∧finish prog (aC.own 199) Tryz.f199 0 (A R' B')=some (rI r,[])) rfl ?_ ?_))
 ·rintro⟨s6,s7,s8⟩ R' B' q9 hI h
  refine gS rfl hI<|sF h (fun h=>?_) fun h=>?_
  ·refine sN<|qS<|cT<|qK<|qS<|qB<|gS rfl rfl<|sM rfl<|sA rfl<|sN<|qS<|WC.cI rfl rfl<|sV (.ptr 16 1)<|sL rfl<|sM rfl ?_
   refine bE h fun x11 hx11 h=>eG hx11 rfl<|sC rfl<|sM rfl<|sF h (fun h=>?_) fun h=>?_
   ·refine sM rfl<|k3<|k3<|sK<|sT<|sM rfl<|k3<|sK<|sK ?_
    refine k3<|k3<|sT<|sM rfl<|k3<|k3<|sT ?_
    refine sN<|sO<|cT<|gS rfl rfl<|sV (rI 21)<|sN<|qR ?_
    cases oI h
    exact⟨nofun,rfl,rfl⟩
   refine sM rfl<|sV (.ptr 16 2)<|sL rfl<|sM rfl<|bE h fun x13 hx13 h=>eG hx13 rfl<|sC rfl<|sM rfl<|sV (rB (decide (x13<s7)))<|sF h (fun h=>?_) fun h=>?_
   ·refine sM rfl<|k3<|k3<|k3<|sK<|sK<|sT<|sM rfl<|sK ?_
    refine k3<|sK<|sK<|sT ?_
    refine sN<|sO<|cT<|gS rfl rfl<|sV (rI 21)<|sN<|qR ?_
    cases oI h
    exact⟨nofun,rfl,rfl⟩
   refine sM rfl<|sV (.ptr 16 1)<|sL rfl<|sM rfl<|bE h fun x15 hx15 h=>eG hx15 rfl<|sC rfl<|sV (.ptr 16 2)<|sL rfl<|sM rfl<|bE h fun x16 hx16 h=>eG hx16 rfl<|sC rfl<|sV (rB (decide (x15>x16)))<|sF h (fun h=>?_) fun h=>?_
   ·refine sM rfl<|k3<|k3<|sT ?_
    refine sN<|sO<|cT<|gS rfl rfl<|sV (rI 21)<|sN<|qR ?_
    cases oI h
    exact⟨nofun,rfl,rfl⟩
   refine sM rfl<|sV (.ptr 16 2)<|sL rfl<|sM rfl<|bE h fun x18 hx18 h=>eG hx18 rfl<|sC rfl<|sV (rB (decide (x18>(1099511627776:Int))))<|sF h (fun h=>?_) fun h=>?_
   ·refine sN<|sO<|cT<|gS rfl rfl<|sV (rI 21)<|sN<|qR ?_
    cases oI h
    exact⟨nofun,rfl,rfl⟩
   refine sN<|sO<|cF<|qK<|WC.rb rfl rfl<|sV (.ptr 16 1)<|sL rfl<|sM rfl<|bE h fun x20 hx20 h=>eG hx20 rfl<|sC rfl<|sV (.ptr 16 2)<|sL rfl<|sM rfl<|bE h fun x21 hx21 h=>eG hx21 rfl ?_
   refine sC rfl<|sA rfl<|sA rfl ?_
   refine sN<|sO<|WC.region rfl rfl<|sV (rI (rW (s8+(1:Int))))<|sM rfl<|sN ?_
   cases oI h
   exact⟨rfl,rfl⟩
  refine sN<|qS<|cF<|qX ?_
  cases oI h
  exact⟨nofun,rfl,rfl⟩
 intro e R' B' he hq
 rcases o23 with y24|r25
 ·obtain⟨rfl,hI⟩:=hq
  refine qE<|gS rfl hI<|sV (r0)<|sN<|qR ?_
  exact oI h▸qD
 obtain⟨rfl,hf⟩:=hq
 cases oI h
 exact hf
theorem gI{a0:Int}{a1:Int}{a2:Int}{r:Bool}(h:dS a0 a1 a2=some r):EvP prog aC ext 200 [rI a0,rI a1,rI a2] [] (rB r,[]):=by
 refine Ev.body rfl Tryz.func200 rfl (by kernel_rfl)<|gS rfl rfl<|sU<|sN<|gS rfl rfl<|sM rfl<|sM rfl<|sF h (fun h=>?_) fun h=>?_
 ·refine sM rfl<|sM rfl<|sM rfl<|sV (rB (decide (a0<=a2)))<|sV (rB (decide (a0<=a2)))<|sA rfl<|sN<|qR ?_
  exact oI h▸qD
 refine sM rfl<|k3<|sU<|sA rfl<|sN<|qR ?_
 exact oI h▸qD
theorem pg{a0:al}{r:Bool}(h:dK a0=some r):EvP prog aC ext 245 [.d (al.pd a0)] [] (rB r,[]):=by
 refine Ev.body rfl Tryz.func245 rfl (by kernel_rfl)<|gS rfl rfl<|sB (.ptr 16 0) 16 (.var (al.rc a0))<|sU<|sN<|gS rfl rfl<|sV (.ptr 16 0)<|sV (.d (aa.pd a0.aO))<|bE h fun x1 hx1 h=>qZ h (fun hb2 h=>?_) (fun hb2 h=>?_)
 ·refine WO.rN (v:=rB true) (u:=[]) rfl rfl (fun _=>rfl) rfl rfl rfl rfl rfl (cU hx1) rfl rfl (congrArg (fun b=>RV.d (.bool b)) hb2) rfl<|sM rfl<|sV (.ptr 16 3)<|sL rfl<|sV (rB (decide (a0.aM>=(0:Int))))<|sF h (fun h=>?_) fun h=>?_
  ·refine sM rfl<|sV (.ptr 16 3)<|sL rfl<|sV (.ptr 16 4)<|sL rfl<|sV (rB (decide (a0.aM<=a0.bf)))<|sF h (fun h=>?_) fun h=>?_
   ·refine sM rfl<|sV (.ptr 16 4)<|sL rfl<|sV (rB (decide (a0.bf<=(18014398509481984:Int))))<|sF h (fun h=>?_) fun h=>?_
    ·refine sM rfl<|sV (.ptr 16 5)<|sL rfl<|sV (rB (decide (a0.bF>=(1:Int))))<|sF h (fun h=>?_) fun h=>?_
     ·refine sM rfl<|sV (.ptr 16 5)<|sL rfl<|sV (rB (decide (a0.bF<=(100:Int))))<|sV (rB (decide (a0.bF<=(100:Int))))<|sA rfl<|sN<|qR ?_
      exact oI h▸qD
     refine sM rfl<|k3<|sU<|sA rfl<|sN<|qR ?_
     exact oI h▸qD
    refine sM rfl<|k3<|sU<|sM rfl<|k3<|sU<|sA rfl<|sN<|qR ?_
    exact oI h▸qD
   refine sM rfl<|k3<|sU<|sM rfl<|k3<|sU<|sM rfl<|k3<|sU ?_
   refine sA rfl<|sN<|qR ?_
   exact oI h▸qD
  refine sM rfl<|k3<|sK<|sK<|sU<|sM rfl<|k3<|sU<|sM rfl<|sK<|sK ?_
  refine sK<|sU<|sM rfl<|k3<|sU<|sA rfl<|sN<|qR ?_
  exact oI h▸qD
 refine WO.rN (v:=rB false) (u:=[]) rfl rfl (fun _=>rfl) rfl rfl rfl rfl rfl (cU hx1) rfl rfl (congrArg (fun b=>RV.d (.bool b)) hb2) rfl<|sM rfl<|k3<|sU<|sM rfl<|k3<|sK<|sK<|sU<|sM rfl<|sK ?_
 refine sK<|sK<|sU<|sM rfl<|k3<|sU<|sM rfl<|k3<|sU<|sA rfl<|sN ?_
 refine qR ?_
 exact oI h▸qD
theorem iW{a0:Int}{a1:Int}{a2:Int}{r:Int}(h:eT a0 a1 a2=some r):EvP prog aC ext 196 [rI a0,rI a1,rI a2] [] (rI r,[]):=by
 refine Ev.body rfl Tryz.func196 rfl (by kernel_rfl)<|gS rfl rfl<|sV (r0)<|sN<|gS rfl rfl<|sM rfl<|sM rfl<|sV (rI (rW (a1-a0)))<|sM rfl<|sM rfl<|sV (rI (rW (a0-a2)))<|sV (rI (if(0:Int)>(if(rW (a0-a2))>(rW (a1-a0))then(rW (a0-a2))else(rW (a1-a0)))then(0:Int)else(if(rW (a0-a2))>(rW (a1-a0))then(rW (a0-a2))else(rW (a1-a0)))))<|sA rfl<|sN<|qR ?_
 exact oI h▸qD
theorem mw{a0:ah}{a1:aa}{r:Int}(h:gx a0 a1=some r):EvP prog aC ext 195 [.d (ah.pd a0),.d (aa.pd a1),.d (.raw (.func (.func 196) #[] #[]))] [] (rI r,[]):=by
 refine Ev.body rfl Tryz.func195 rfl (by kernel_rfl)<|gS rfl rfl<|sB (.ptr 48 0) 48 (.var (ah.rc a0))<|sB (.ptr 64 0) 64 (.var (aa.rc a1))<|sV (r0)<|sN<|qS<|gS rfl rfl<|sV (.d (ah.pd a0))<|bE h fun x1 hx1 h=>cD (bA hx1)<|sF h (fun h=>?_) fun h=>?_
 ·refine sM rfl<|k3<|sT<|sN<|cT<|gS rfl rfl<|sV (r0)<|sN<|qR ?_
  exact oI h▸qD
 refine sM rfl<|sV (.d (aa.pd a1))<|bE h fun x3 hx3 h=>cD (cU hx3)<|sV (rB (!x3))<|sF h (fun h=>?_) fun h=>?_
 ·refine sN<|cT<|gS rfl rfl<|sV (r0)<|sN<|qR ?_
  exact oI h▸qD
 refine sN<|cF<|qK<|WC.cI rfl rfl<|sV (.ptr 48 0)<|sV (.d (aa.pd a0.aK))<|bE h fun x5 hx5 h=>cD (bJ hx5)<|sV (.ptr 48 3)<|sV (.d (aa.pd a0.aF))<|bE h fun x6 hx6 h=>cD (bJ hx6)<|sB (.ptr 128 0) 128 (.var [r0,r0,r0])<|sB (.ptr 144 0) 144 (.var [r0,r0,r0])<|sV (r0) ?_
 refine sS 128 (.var [rI x5.a0,rI x5.a1,rI x5.a2])<|sS 144 (.var [rI x6.a0,rI x6.a1,rI x6.a2]) ?_
 refine sN<|sO<|qS<|gS rfl rfl<|sV (.d (aa.pd a1))<|bE h fun x7 hx7 h=>cD (bJ hx7)<|sV (r0)<|sN<|WC.block (WC.loop ?_)
 refine WL.round<|WC.qH (R0:=[(2,.d (.raw (.func (.func 196) #[] #[]))),(7,r0),(8,.ptr 128 0),(9,.ptr 144 0),(28,.d (aW.pd x7)),(29,r0)]) (B0:=[(128,.var [rI x5.a0,rI x5.a1,rI x5.a2]),(144,.var [rI x6.a0,rI x6.a1,rI x6.a2])]) rfl rfl<|sT<|sN<|qS<|cT<|qK<|qS<|qB<|gS rfl rfl<|sM rfl<|sV (rI x7.a0)<|sA rfl<|sA rfl<|sN ?_
 refine WC.cI rfl rfl<|sM rfl<|sM rfl<|sM rfl<|sV (.ptr 128 0)<|sL rfl<|sM rfl<|sV (.ptr 144 0)<|sL rfl<|bE h fun x8 hx8 h=>cD (iW hx8)<|sA rfl ?_
 refine sN<|sO<|WC.region rfl rfl<|sM rfl<|sM rfl<|sM rfl<|sV (rI (rW (x8*x8)))<|sV (rI (rW ((0:Int)+(rW (x8*x8)))))<|sA rfl<|sN<|WC.region rfl rfl<|sV (rI 1)<|sM rfl<|sN<|WL.round<|WC.qH (R0:=[(2,.d (.raw (.func (.func 196) #[] #[]))),(7,rI (rW ((0:Int)+(rW (x8*x8))))),(8,.ptr 128 0),(9,.ptr 144 0),(28,.d (aW.pd x7)),(29,rI 1)]) (B0:=[(128,.var [rI x5.a0,rI x5.a1,rI x5.a2]),(144,.var [rI x6.a0,rI x6.a1,rI x6.a2])]) rfl rfl ?_
 refine sT<|sN<|qS<|cT<|qK<|qS<|qB<|gS rfl rfl<|sM rfl<|sV (rI x7.a1)<|sA rfl<|sA rfl<|sN<|WC.cI rfl rfl<|sM rfl ?_
 refine sM rfl<|sM rfl<|sV (.ptr 128 1)<|sL rfl<|sM rfl<|sV (.ptr 144 1)<|sL rfl<|bE h fun x9 hx9 h=>cD (iW hx9)<|sA rfl ?_
 refine sN<|sO<|WC.region rfl rfl<|sM rfl<|sM rfl<|sM rfl<|sV (rI (rW (x9*x9)))<|sV (rI (rW ((rW ((0:Int)+(rW (x8*x8))))+(rW (x9*x9)))))<|sA rfl<|sN<|WC.region rfl rfl<|sV (rI 2)<|sM rfl<|sN<|WL.round<|WC.qH (R0:=[(2,.d (.raw (.func (.func 196) #[] #[]))),(7,rI (rW ((rW ((0:Int)+(rW (x8*x8))))+(rW (x9*x9))))),(8,.ptr 128 0),(9,.ptr 144 0),(28,.d (aW.pd x7)),(29,rI 2)]) (B0:=[(128,.var [rI x5.a0,rI x5.a1,rI x5.a2]),(144,.var [rI x6.a0,rI x6.a1,rI x6.a2])]) rfl rfl ?_
 refine sT<|sN<|qS<|cT<|qK<|qS<|qB<|gS rfl rfl<|sM rfl<|sV (rI x7.a2)<|sA rfl<|sA rfl<|sN<|WC.cI rfl rfl<|sM rfl ?_
 refine sM rfl<|sM rfl<|sV (.ptr 128 2)<|sL rfl<|sM rfl<|sV (.ptr 144 2)<|sL rfl<|bE h fun x10 hx10 h=>cD (iW hx10)<|sA rfl ?_
 refine sN<|sO<|WC.region rfl rfl<|sM rfl<|sM rfl<|sM rfl<|sV (rI (rW (x10*x10)))<|sV (rI (rW ((rW ((rW ((0:Int)+(rW (x8*x8))))+(rW (x9*x9))))+(rW (x10*x10)))))<|sA rfl<|sN<|WC.region rfl rfl<|sV (rI 3)<|sM rfl<|sN<|WL.round<|WC.qH (R0:=[(2,.d (.raw (.func (.func 196) #[] #[]))),(7,rI (rW ((rW ((rW ((0:Int)+(rW (x8*x8))))+(rW (x9*x9))))+(rW (x10*x10))))),(8,.ptr 128 0),(9,.ptr 144 0),(28,.d (aW.pd x7)),(29,rI 3)]) (B0:=[(128,.var [rI x5.a0,rI x5.a1,rI x5.a2]),(144,.var [rI x6.a0,rI x6.a1,rI x6.a2])]) rfl rfl ?_
 refine sU<|sN<|qS<|cF<|qX<|qE<|gS rfl rfl<|sM rfl<|sA rfl<|sN<|qR ?_
 exact oI h▸qD
theorem kC{a0:ah}{a1:aa}{r:Int}(h:eQ a0 a1=some r):EvP prog aC ext 111 [.d (ah.pd a0),.d (aa.pd a1)] [] (rI r,[]):=by
 refine Ev.body rfl Tryz.func111 rfl (by kernel_rfl)<|gS rfl rfl<|sB (.ptr 32 0) 32 (.var (ah.rc a0))<|sB (.ptr 48 0) 48 (.var (aa.rc a1))<|sV (r0)<|sN<|gS rfl rfl<|sV (.d (ah.pd a0))<|sV (.d (aa.pd a1))<|bE h fun x1 hx1 h=>cD (mw hx1)<|sA rfl<|sN<|qR ?_
 exact oI h▸qD
theorem im{a0:Int}{a1:Int}{a2:Int}{r:Int}(h:ek a0 a1 a2=some r):EvP prog aC ext 197 [rI a0,rI a1,rI a2] [] (rI r,[]):=by
 refine Ev.body rfl Tryz.func197 rfl (by kernel_rfl)<|gS rfl rfl<|sV (r0)<|sN<|gS rfl rfl<|sM rfl<|sM rfl<|sV (rI (rW (a2-a0)))<|sM rfl<|sM rfl<|sV (rI (rW (a0-a1)))<|sV (rI (if(rW (a0-a1))>(rW (a2-a0))then(rW (a0-a1))else(rW (a2-a0))))<|sA rfl<|sN<|qR ?_
 exact oI h▸qD
theorem me{a0:ah}{a1:aa}{r:Int}(h:f8 a0 a1=some r):EvP prog aC ext 195 [.d (ah.pd a0),.d (aa.pd a1),.d (.raw (.func (.func 197) #[] #[]))] [] (rI r,[]):=by
 refine Ev.body rfl Tryz.func195 rfl (by kernel_rfl)<|gS rfl rfl<|sB (.ptr 48 0) 48 (.var (ah.rc a0))<|sB (.ptr 64 0) 64 (.var (aa.rc a1))<|sV (r0)<|sN<|qS<|gS rfl rfl<|sV (.d (ah.pd a0))<|bE h fun x1 hx1 h=>cD (bA hx1)<|sF h (fun h=>?_) fun h=>?_
 ·refine sM rfl<|k3<|sT<|sN<|cT<|gS rfl rfl<|sV (r0)<|sN<|qR ?_
  exact oI h▸qD
 refine sM rfl<|sV (.d (aa.pd a1))<|bE h fun x3 hx3 h=>cD (cU hx3)<|sV (rB (!x3))<|sF h (fun h=>?_) fun h=>?_
 ·refine sN<|cT<|gS rfl rfl<|sV (r0)<|sN<|qR ?_
  exact oI h▸qD
 refine sN<|cF<|qK<|WC.cI rfl rfl<|sV (.ptr 48 0)<|sV (.d (aa.pd a0.aK))<|bE h fun x5 hx5 h=>cD (bJ hx5)<|sV (.ptr 48 3)<|sV (.d (aa.pd a0.aF))<|bE h fun x6 hx6 h=>cD (bJ hx6)<|sB (.ptr 128 0) 128 (.var [r0,r0,r0])<|sB (.ptr 144 0) 144 (.var [r0,r0,r0])<|sV (r0) ?_
 refine sS 128 (.var [rI x5.a0,rI x5.a1,rI x5.a2])<|sS 144 (.var [rI x6.a0,rI x6.a1,rI x6.a2]) ?_
 refine sN<|sO<|qS<|gS rfl rfl<|sV (.d (aa.pd a1))<|bE h fun x7 hx7 h=>cD (bJ hx7)<|sV (r0)<|sN<|WC.block (WC.loop ?_)
 refine WL.round<|WC.qH (R0:=[(2,.d (.raw (.func (.func 197) #[] #[]))),(7,r0),(8,.ptr 128 0),(9,.ptr 144 0),(28,.d (aW.pd x7)),(29,r0)]) (B0:=[(128,.var [rI x5.a0,rI x5.a1,rI x5.a2]),(144,.var [rI x6.a0,rI x6.a1,rI x6.a2])]) rfl rfl<|sT<|sN<|qS<|cT<|qK<|qS<|qB<|gS rfl rfl<|sM rfl<|sV (rI x7.a0)<|sA rfl<|sA rfl<|sN ?_
 refine WC.cI rfl rfl<|sM rfl<|sM rfl<|sM rfl<|sV (.ptr 128 0)<|sL rfl<|sM rfl<|sV (.ptr 144 0)<|sL rfl<|bE h fun x8 hx8 h=>cD (im hx8)<|sA rfl ?_
 refine sN<|sO<|WC.region rfl rfl<|sM rfl<|sM rfl<|sM rfl<|sV (rI (rW (x8*x8)))<|sV (rI (rW ((0:Int)+(rW (x8*x8)))))<|sA rfl<|sN<|WC.region rfl rfl<|sV (rI 1)<|sM rfl<|sN<|WL.round<|WC.qH (R0:=[(2,.d (.raw (.func (.func 197) #[] #[]))),(7,rI (rW ((0:Int)+(rW (x8*x8))))),(8,.ptr 128 0),(9,.ptr 144 0),(28,.d (aW.pd x7)),(29,rI 1)]) (B0:=[(128,.var [rI x5.a0,rI x5.a1,rI x5.a2]),(144,.var [rI x6.a0,rI x6.a1,rI x6.a2])]) rfl rfl ?_
 refine sT<|sN<|qS<|cT<|qK<|qS<|qB<|gS rfl rfl<|sM rfl<|sV (rI x7.a1)<|sA rfl<|sA rfl<|sN<|WC.cI rfl rfl<|sM rfl ?_
 refine sM rfl<|sM rfl<|sV (.ptr 128 1)<|sL rfl<|sM rfl<|sV (.ptr 144 1)<|sL rfl<|bE h fun x9 hx9 h=>cD (im hx9)<|sA rfl ?_
 refine sN<|sO<|WC.region rfl rfl<|sM rfl<|sM rfl<|sM rfl<|sV (rI (rW (x9*x9)))<|sV (rI (rW ((rW ((0:Int)+(rW (x8*x8))))+(rW (x9*x9)))))<|sA rfl<|sN<|WC.region rfl rfl<|sV (rI 2)<|sM rfl<|sN<|WL.round<|WC.qH (R0:=[(2,.d (.raw (.func (.func 197) #[] #[]))),(7,rI (rW ((rW ((0:Int)+(rW (x8*x8))))+(rW (x9*x9))))),(8,.ptr 128 0),(9,.ptr 144 0),(28,.d (aW.pd x7)),(29,rI 2)]) (B0:=[(128,.var [rI x5.a0,rI x5.a1,rI x5.a2]),(144,.var [rI x6.a0,rI x6.a1,rI x6.a2])]) rfl rfl ?_
 refine sT<|sN<|qS<|cT<|qK<|qS<|qB<|gS rfl rfl<|sM rfl<|sV (rI x7.a2)<|sA rfl<|sA rfl<|sN<|WC.cI rfl rfl<|sM rfl ?_
 refine sM rfl<|sM rfl<|sV (.ptr 128 2)<|sL rfl<|sM rfl<|sV (.ptr 144 2)<|sL rfl<|bE h fun x10 hx10 h=>cD (im hx10)<|sA rfl ?_
 refine sN<|sO<|WC.region rfl rfl<|sM rfl<|sM rfl<|sM rfl<|sV (rI (rW (x10*x10)))<|sV (rI (rW ((rW ((rW ((0:Int)+(rW (x8*x8))))+(rW (x9*x9))))+(rW (x10*x10)))))<|sA rfl<|sN<|WC.region rfl rfl<|sV (rI 3)<|sM rfl<|sN<|WL.round<|WC.qH (R0:=[(2,.d (.raw (.func (.func 197) #[] #[]))),(7,rI (rW ((rW ((rW ((0:Int)+(rW (x8*x8))))+(rW (x9*x9))))+(rW (x10*x10))))),(8,.ptr 128 0),(9,.ptr 144 0),(28,.d (aW.pd x7)),(29,rI 3)]) (B0:=[(128,.var [rI x5.a0,rI x5.a1,rI x5.a2]),(144,.var [rI x6.a0,rI x6.a1,rI x6.a2])]) rfl rfl ?_
 refine sU<|sN<|qS<|cF<|qX<|qE<|gS rfl rfl<|sM rfl<|sA rfl<|sN<|qR ?_
 exact oI h▸qD
theorem oe{a0:ah}{a1:aa}{r:Int}(h:gu a0 a1=some r):EvP prog aC ext 112 [.d (ah.pd a0),.d (aa.pd a1)] [] (rI r,[]):=by
 refine Ev.body rfl Tryz.func112 rfl (by kernel_rfl)<|gS rfl rfl<|sB (.ptr 32 0) 32 (.var (ah.rc a0))<|sB (.ptr 48 0) 48 (.var (aa.rc a1))<|sV (r0)<|sN<|gS rfl rfl<|sV (.d (ah.pd a0))<|sV (.d (aa.pd a1))<|bE h fun x1 hx1 h=>cD (me hx1)<|sA rfl<|sN<|qR ?_
 exact oI h▸qD
theorem bound_squares_ev{a0:aI}{a1:ah}{a2:aa}{r:aI×Int×Int}(h:jd a0 a1 a2=some r):EvP prog aC ext 310 [.d (aI.pd a0),.d (ah.pd a1),.d (aa.pd a2)] [] (.tup [.d (aI.pd r.1),rI r.2.1,rI r.2.2],[]):=by
 refine Ev.body rfl Tryz.func310 rfl (by kernel_rfl)<|gS rfl rfl<|sB (.ptr 48 0) 48 (.var (aI.rc a0))<|sB (.ptr 64 0) 64 (.var (ah.rc a1))<|sB (.ptr 80 0) 80 (.var (aa.rc a2))<|sB (.ptr 96 0) 96 (.var [r0,.ng,.ng])<|sV (r0)<|sV (r0)<|sN<|WC.cI rfl rfl<|sV (.d (aI.pd a0))<|sV (.d (ah.pd a1))<|sV (.d (aa.pd a2))<|bE h fun x1 hx1 h=>cD (kC hx1) ?_
 refine sV (.d (ah.pd a1))<|sV (.d (aa.pd a2))<|bE h fun x2 hx2 h=>cD (oe hx2)<|sS 96 (.var (aI.rc a0))<|sA rfl<|sA rfl ?_
 refine sN<|sO<|qR ?_
 exact oI h▸qD
theorem bits_Len64_ev{a0:Int}{r:Int}(h:md a0=some r):EvP prog aC ext 217 [.d (.int .u64 a0)] [] (rI r,[]):=by
 refine Ev.body rfl Tryz.func217 rfl (by kernel_rfl)<|gS rfl rfl<|sV (r0)<|sN<|WC.join (α:=Int×Int) (fun x R' B'=>hY prog 0 (A R' B') (aC.at_ 217 0 4)=some (A [(0,.d (.int .u64 x.1)),(2,rI x.2)] [])) (fun x=>fV x.1 x.2=some r) ?_ ?_
 ·refine gS rfl rfl<|sM rfl<|sF h (fun h=>?_) fun h=>?_
  ·exact sN<|cT<|gS rfl rfl<|sM rfl<|sV (.d (.int .u64 (qP .u64 a0 (32:Int))))<|sA rfl<|sN<|WC.region rfl rfl<|sV (rI 32)<|sN<|⟨((qP .u64 a0 (32:Int)),32),rfl,h⟩
  exact sN<|cF<|qK<|⟨(a0,0),rfl,h⟩
 rintro⟨j1,j2⟩ R' B' hI h
 refine WC.join (α:=Int×Int) (fun x R' B'=>hY prog 0 (A R' B') (aC.at_ 217 0 7)=some (A [(0,.d (.int .u64 x.1)),(2,rI x.2)] [])) (fun x=>gP x.1 x.2=some r) ?_ ?_
 ·refine gS rfl hI<|sM rfl<|sF h (fun h=>?_) fun h=>?_
  ·exact sN<|cT<|gS rfl rfl<|sM rfl<|sV (.d (.int .u64 (qP .u64 j1 (16:Int))))<|sA rfl<|sN<|WC.region rfl rfl<|sM rfl<|sV (rI (rW (j2+(16:Int))))<|sA rfl<|sN<|⟨((qP .u64 j1 (16:Int)),(rW (j2+(16:Int)))),rfl,h⟩
  exact sN<|cF<|qK<|⟨(j1,j2),rfl,h⟩
 rintro⟨j3,j4⟩ R' B' hI h
 refine qS<|gS rfl hI<|sM rfl<|sF h (fun h=>?_) fun h=>?_
 ·refine sN<|cT<|gS rfl rfl<|sM rfl<|sV (.d (.int .u64 (qP .u64 j3 (8:Int))))<|sA rfl<|sN<|WC.region rfl rfl<|sM rfl<|sV (rI (rW (j4+(8:Int))))<|sA rfl<|sN<|gS rfl rfl<|sM rfl<|sM rfl ?_
  refine sV (.d (.int .u8 (IntKind.wrap .u8 (qP .u64 j3 (8:Int)))))<|bE h fun x6 hx6 h=>WO.byteG hx6 rfl rfl rfl rfl rfl rfl<|sV (rI (IntKind.wrap .i64 x6))<|sV (rI (rW ((rW (j4+(8:Int)))+(IntKind.wrap .i64 x6))))<|sA rfl<|sN<|qR ?_
  exact oI h▸qD
 refine sN<|cF<|qK<|gS rfl rfl<|sM rfl<|sM rfl<|sV (.d (.int .u8 (IntKind.wrap .u8 j3)))<|bE h fun x7 hx7 h=>WO.byteG hx7 rfl rfl rfl rfl rfl rfl<|sV (rI (IntKind.wrap .i64 x7))<|sV (rI (rW (j4+(IntKind.wrap .i64 x7))))<|sA rfl<|sN<|qR ?_
 exact oI h▸qD
theorem ou{a0:Int}{r:Int}(h:fU a0=some r):EvP prog aC ext 136 [.d (.int .u64 a0)] [] (rI r,[]):=by
 refine Ev.body rfl Tryz.func136 rfl (by kernel_rfl)<|gS rfl rfl<|sV (r0)<|sN<|qS<|cF<|qK<|gS rfl rfl<|sM rfl<|bE h fun x1 hx1 h=>cD (bits_Len64_ev hx1)<|sA rfl<|sN<|qR ?_
 exact oI h▸qD
theorem mD{a0:Int}{r:Int}(h:e7 a0=some r):EvP prog aC ext 280 [rI a0] [] (rI r,[]):=by
 refine Ev.body rfl Tryz.func280 rfl (by kernel_rfl)<|gS rfl rfl<|sV (r0)<|sN<|qS<|gS rfl rfl<|sM rfl<|sF h (fun h=>?_) fun h=>?_
 ·refine sN<|cT<|gS rfl rfl<|sV (r0)<|sN<|qR ?_
  exact oI h▸qD
 refine sN<|cF<|qK<|gS rfl rfl<|sV (r0)<|sN<|qS<|gS rfl rfl<|sM rfl<|sV (.d (.int .u64 (IntKind.wrap .u64 a0)))<|bE h fun x2 hx2 h=>cD (ou hx2)<|sV (rI (rW (x2-(1:Int))))<|bE h fun x3 hx3 h=>WO.uV hx3 rfl rfl rfl rfl rfl rfl ?_
 refine bE h fun x4 hx4 h=>WO.shlG hx4 rfl rfl rfl rfl rfl<|sA rfl<|sN<|bE h fun o13 ho13 h=>WC.block (WC.loop (WL.qx ho13 (fun s R' B'=>hY prog 0 (A R' B') (aC.at_ 280 0 5)=some (A [(0,rI a0),(3,rI s.1),(4,rI s.2)] [])) (fun o e R' B'=>e= .exit 0∧hY prog 0 (A R' B') (aC.at_ 280 0 10)=some (A [(3,rI o)] [])) rfl ?_ ?_))
 ·rintro⟨s5,s6⟩ R' B' q8 hI h
  refine qS<|gS rfl hI<|sM rfl<|sF h (fun h=>?_) fun h=>?_
  ·refine sN<|cT<|qK<|qS<|qB<|gS rfl rfl<|sM rfl<|sM rfl<|sV (rI (orI .i64 s5 s6))<|sA rfl<|sN<|gS rfl rfl<|sM rfl<|sM rfl<|sM rfl ?_
   refine bE h fun x10 hx10 h=>WO.uV hx10 rfl rfl rfl rfl rfl rfl<|sF h (fun h=>?_) fun h=>?_
   ·refine sN<|cT<|WC.region rfl rfl<|sM rfl<|sA rfl<|sN<|WC.region rfl rfl<|sM rfl<|sV (rI (qP .i64 s6 (1:Int)))<|sA rfl<|sN ?_
    cases oI h
    exact⟨rfl,rfl⟩
   refine sN<|cF<|qK<|WC.region rfl rfl<|sM rfl<|sV (rI (qP .i64 s6 (1:Int)))<|sA rfl<|sN ?_
   cases oI h
   exact⟨rfl,rfl⟩
  refine sN<|cF<|qX ?_
  cases oI h
  exact⟨nofun,rfl,rfl⟩
 intro e R' B' he hq
 obtain⟨rfl,hI⟩:=hq
 refine qE<|gS rfl hI<|sM rfl<|sA rfl<|sN<|qR ?_
 exact oI h▸qD
theorem geometry_Ceil_ev{a0:Int}{r:Int}(h:gR a0=some r):EvP prog aC ext 276 [rI a0] [] (rI r,[]):=by
 refine Ev.body rfl Tryz.func276 rfl (by kernel_rfl)<|gS rfl rfl<|sV (r0)<|sN<|gS rfl rfl<|sM rfl<|bE h fun x1 hx1 h=>cD (mD hx1)<|sA rfl<|sN<|qS<|gS rfl rfl<|sM rfl<|sM rfl<|sV (rI (rW (x1*x1))) ?_
 refine sM rfl<|sF h (fun h=>?_) fun h=>?_
 ·refine sN<|cT<|WC.region rfl rfl<|sM rfl<|sV (rI (rW (x1+(1:Int))))<|sA rfl<|sN<|gS rfl rfl<|sM rfl<|sA rfl<|sN<|qR ?_
  exact oI h▸qD
 refine sN<|cF<|qK<|gS rfl rfl<|sM rfl<|sA rfl<|sN<|qR ?_
 exact oI h▸qD
theorem travel_reach_ev{a0:aI}{r:Int}(h:ku a0=some r):EvP prog aC ext 277 [.d (aI.pd a0)] [] (rI r,[]):=by
 refine Ev.body rfl Tryz.func277 rfl (by kernel_rfl)<|gS rfl rfl<|sB (.ptr 16 0) 16 (.var (aI.rc a0))<|sV (r0)<|sN<|gS rfl rfl<|sV (.ptr 16 0)<|sL rfl<|sV (.ptr 16 1)<|sL rfl<|sE (rI (a0.aK.length:Int)) (qt _ _)<|sV (rI (rW ((a0.aK.length:Int)-(1:Int))))<|sV (rI (rW (a0.bn*(rW ((a0.aK.length:Int)-(1:Int))))))<|sA rfl<|sN ?_
 refine qR ?_
 exact oI h▸qD
theorem n8{a0:Int}{d0:aI}{d1:Int}{r:Bool}(h:fS a0 d0 d1=some r):EvP prog aC ext 279 [rI a0,.ptr 0 0,.ptr 1 0] [.var (aI.rc d0),.var [rI d1]] (rB r,[.var (aI.rc d0),.var [rI d1]]):=by
 refine Ev.body rfl Tryz.func279 rfl (by kernel_rfl)<|gS rfl rfl<|sU<|sN<|gS rfl rfl<|sM rfl<|sV (.ptr 0 0)<|sL rfl<|sV (rI (rW (a0*d0.bn)))<|sL rfl<|sV (rB (decide ((rW (a0*d0.bn))>=d1)))<|sA rfl<|sN<|qR ?_
 exact oI h▸qD
theorem pz{a0:Int}{d0:aI}{d1:Int}{r:Int}(h:dj a0 d0 d1=some r):EvP prog aC ext 278 [rI a0,.clo 279 [.ptr 0 0,.ptr 1 0]] [.var (aI.rc d0),.var [rI d1]] (rI r,[.var (aI.rc d0),.var [rI d1]]):=by
 refine Ev.body rfl Tryz.func278 rfl (by kernel_rfl)<|gS rfl rfl<|sV (r0)<|sN<|gS rfl rfl<|sM rfl<|sV (r0)<|sA rfl<|sN<|qS<|bE h fun o9 ho9 h=>WC.block (WC.loop (WL.qx ho9 (fun s R' B'=>hY prog 2 (A R' B') (aC.at_ 278 2 2)=some (A [(1,.clo 279 [.ptr 0 0,.ptr 1 0]),(5,rI s.1),(6,rI s.2)] [(0,.var (aI.rc d0)),(1,.var [rI d1])])) (fun o e R' B'=>e= .exit 0∧hY prog 2 (A R' B') (aC.at_ 278 2 7)=some (A [(5,rI o)] [(0,.var (aI.rc d0)),(1,.var [rI d1])])) rfl ?_ ?_))
 ·rintro⟨s1,s2⟩ R' B' q4 hI h
  refine qS<|gS rfl hI<|sM rfl<|sM rfl<|sF h (fun h=>?_) fun h=>?_
  ·refine sN<|cT<|qK<|qB<|gS rfl rfl<|sM rfl<|sM rfl<|sV (rI (rW (s1+s2)))<|sV (.d (.int .u64 (IntKind.wrap .u64 (rW (s1+s2)))))<|sV (.d (.int .u64 (qP .u64 (IntKind.wrap .u64 (rW (s1+s2))) (1:Int))))<|sV (rI (rW (qP .u64 (IntKind.wrap .u64 (rW (s1+s2))) (1:Int))))<|sA rfl<|sN<|gS rfl rfl<|sM rfl ?_
   refine sM rfl<|bE h fun x6 hx6 h=>cR (rB x6) [(0,.var (aI.rc d0)),(1,.var [rI d1])] (n8 hx6)<|sF h (fun h=>?_) fun h=>?_
   ·refine sN<|cT<|WC.region rfl rfl<|sM rfl<|sV (rI (rW ((rW (qP .u64 (IntKind.wrap .u64 (rW (s1+s2))) (1:Int)))+(1:Int))))<|sA rfl<|sN ?_
    cases oI h
    exact⟨rfl,rfl⟩
   refine sN<|cF<|WC.region rfl rfl<|sM rfl<|sA rfl<|sN ?_
   cases oI h
   exact⟨rfl,rfl⟩
  refine sN<|cF<|qX ?_
  cases oI h
  exact⟨nofun,rfl,rfl⟩
 intro e R' B' he hq
 obtain⟨rfl,hI⟩:=hq
 refine qE<|gS rfl hI<|sM rfl<|sA rfl<|sN<|qR ?_
 exact oI h▸qD
theorem mQ{a0:aI}{a1:Int}{a2:Int}{r:Int×Int×Int}(h:b7 a0 a1 a2=some r):EvP prog aC ext 191 [.d (aI.pd a0),rI a1,rI a2] [] (.tup [rI r.1,rI r.2.1,rI r.2.2],[]):=by
 refine Ev.body rfl Tryz.func191 rfl (by kernel_rfl)<|gS rfl rfl<|sB (.ptr 48 0) 48 (.var (aI.rc a0))<|sV (r0)<|sV (r0)<|sV (r0)<|sN<|qS<|gS rfl rfl<|sV (.d (aI.pd a0))<|bE h fun x1 hx1 h=>cD (dQ hx1)<|sF h (fun h=>?_) fun h=>?_
 ·refine sN<|cT<|gS rfl rfl<|sV (r0)<|sV (r0)<|sV (rI 21)<|sN<|qR ?_
  exact oI h▸qD
 refine sN<|cF<|qK<|qS<|gS rfl rfl<|sM rfl<|sF h (fun h=>?_) fun h=>?_
 ·refine sM rfl<|k3<|sT<|sN<|cT<|gS rfl rfl<|sV (r0)<|sV (r0)<|sV (rI 2)<|sN<|qR ?_
  exact oI h▸qD
 refine sM rfl<|sM rfl<|sM rfl<|sV (rB (decide (a1>a2)))<|sF h (fun h=>?_) fun h=>?_
 ·refine sN<|cT<|gS rfl rfl<|sV (r0)<|sV (r0)<|sV (rI 2)<|sN<|qR ?_
  exact oI h▸qD
 refine sN<|cF<|qK<|gS rfl rfl<|sM rfl<|bE h fun x5 hx5 h=>cD (geometry_Ceil_ev hx5)<|sB (.ptr 144 0) 144 (.var [r0])<|sS 144 (.var [rI x5])<|sN<|qS<|WC.cI rfl rfl<|sL rfl<|sV (.d (aI.pd a0))<|bE h fun x6 hx6 h=>?_
 refine cD (travel_reach_ev hx6)<|sF h (fun h=>?_) fun h=>?_
 ·refine sN<|sO<|cT<|gS rfl rfl<|sV (r0)<|sV (r0)<|sV (rI 22)<|sN<|qR ?_
  exact oI h▸qD
 refine sN<|sO<|cF<|qK<|gS rfl rfl<|sV (.ptr 48 2)<|sL rfl<|sE (rI (a0.aF.length:Int)) (qt _ _)<|sV (.clo 279 [.ptr 48 0,.ptr 144 0])<|bE h fun x8 hx8 h=>cR (rI x8) [(48,.var (aI.rc a0)),(144,.var [rI x5])] (pz hx8)<|sA rfl<|sN<|WC.cI rfl rfl<|sV (.ptr 48 1)<|sL rfl ?_
 refine sM rfl<|bE h fun x9 hx9 h=>cD (mD hx9)<|sV (.ptr 48 0)<|sL rfl<|bE h fun x10 hx10 h=>WO.uV hx10 rfl rfl rfl rfl rfl rfl<|bE h fun x11 hx11 h=>eG hx11 rfl<|sC rfl<|sV (.ptr 48 2)<|sL rfl<|sM rfl<|bE h fun x12 hx12 h=>eG hx12 rfl ?_
 refine sC rfl<|sA rfl<|sA rfl<|sV (r0) ?_
 refine sN<|sO<|qR ?_
 exact oI h▸qD
theorem qe{a0:aI}{a1:ah}{a2:aa}{r:Int×Int×Int}(h:fW a0 a1 a2=some r):EvP prog aC ext 246 [.d (aI.pd a0),.d (ah.pd a1),.d (aa.pd a2)] [] (.tup [rI r.1,rI r.2.1,rI r.2.2],[]):=by
 refine Ev.body rfl Tryz.func246 rfl (by kernel_rfl)<|gS rfl rfl<|sB (.ptr 48 0) 48 (.var (aI.rc a0))<|sB (.ptr 64 0) 64 (.var (ah.rc a1))<|sB (.ptr 80 0) 80 (.var (aa.rc a2))<|sV (r0)<|sV (r0)<|sV (r0)<|sN<|qS<|gS rfl rfl<|sV (.d (aI.pd a0))<|bE h fun x1 hx1 h=>cD (dQ hx1)<|sA rfl ?_
 refine sN<|gS rfl rfl<|sM rfl<|sF h (fun h=>?_) fun h=>?_
 ·refine sN<|cT<|gS rfl rfl<|sM rfl<|sV (r0)<|sV (r0)<|sA rfl<|sN<|qR ?_
  exact oI h▸qD
 refine sN<|cF<|qK<|qS<|gS rfl rfl<|sV (.d (ah.pd a1))<|bE h fun x3 hx3 h=>cD (bA hx3)<|sF h (fun h=>?_) fun h=>?_
 ·refine sM rfl<|k3<|sT<|sN<|cT<|gS rfl rfl<|sV (r0)<|sV (r0)<|sV (rI 20)<|sN<|qR ?_
  exact oI h▸qD
 refine sM rfl<|sV (.d (aa.pd a2))<|bE h fun x5 hx5 h=>cD (cU hx5)<|sV (rB (!x5))<|sF h (fun h=>?_) fun h=>?_
 ·refine sN<|cT<|gS rfl rfl<|sV (r0)<|sV (r0)<|sV (rI 20)<|sN<|qR ?_
  exact oI h▸qD
 refine sN<|cF<|qK<|gS rfl rfl<|sV (.d (aI.pd a0))<|sV (.d (ah.pd a1))<|sV (.d (aa.pd a2))<|bE h fun x7 hx7 h=>cR (.tup [.d (aI.pd x7.1),rI x7.2.1,rI x7.2.2]) [] (bound_squares_ev hx7)<|sV (.d (aI.pd x7.1))<|sV (rI x7.2.1)<|sV (rI x7.2.2)<|bE h fun x8 hx8 h=>cR (.tup [rI x8.1,rI x8.2.1,rI x8.2.2]) [] (mQ hx8)<|sV (rI x8.1) ?_
 refine sV (rI x8.2.1)<|sV (rI x8.2.2)<|sA rfl<|sA rfl<|sA rfl<|sN<|qR ?_
 exact oI h▸qD
theorem kU{a0:aI}{a1:ah}{a2:al}{r:aG×Int}(h:dq a0 a1 a2=some r):EvP prog aC ext 158 [.d (aI.pd a0),.d (ah.pd a1),.d (al.pd a2)] [] (.tup [.d (aG.pd r.1),rI r.2],[]):=by
 refine Ev.body rfl Tryz.func158 rfl (by kernel_rfl)<|gS rfl rfl<|sB (.ptr 48 0) 48 (.var (aI.rc a0))<|sB (.ptr 64 0) 64 (.var (ah.rc a1))<|sB (.ptr 80 0) 80 (.var (al.rc a2))<|sB (.ptr 96 0) 96 (.var [r0,r0])<|sV (r0)<|sN<|qS<|gS rfl rfl<|sV (.d (aI.pd a0))<|bE h fun x1 hx1 h=>cD (dQ hx1)<|sA rfl<|sN ?_
 refine gS rfl rfl<|sM rfl<|sF h (fun h=>?_) fun h=>?_
 ·refine sN<|cT<|gS rfl rfl<|sV (.d (aG.pd (aG.mk 0 0)))<|sM rfl<|sS 96 (.var [r0,r0])<|sA rfl<|sN<|qR ?_
  exact oI h▸qD
 refine sN<|cF<|qK<|qS<|gS rfl rfl<|sV (.d (ah.pd a1))<|bE h fun x3 hx3 h=>cD (bA hx3)<|sF h (fun h=>?_) fun h=>?_
 ·refine sN<|cT<|gS rfl rfl<|sV (.d (aG.pd (aG.mk 0 0)))<|sS 96 (.var [r0,r0])<|sV (rI 20)<|sN<|qR ?_
  exact oI h▸qD
 refine sN<|cF<|qK<|qS<|gS rfl rfl<|sV (.d (al.pd a2))<|bE h fun x5 hx5 h=>cD (pg hx5)<|sF h (fun h=>?_) fun h=>?_
 ·refine sN<|cT<|gS rfl rfl<|sV (.d (aG.pd (aG.mk 0 0)))<|sS 96 (.var [r0,r0])<|sV (rI 23)<|sN<|qR ?_
  exact oI h▸qD
 refine sN<|cF<|qK<|gS rfl rfl<|sV (.d (aI.pd a0))<|sV (.d (ah.pd a1))<|sV (.ptr 80 0)<|sV (.d (aa.pd a2.aO))<|bE h fun x7 hx7 h=>cR (.tup [rI x7.1,rI x7.2.1,rI x7.2.2]) [] (qe hx7)<|sM rfl<|sV (rI x7.1)<|sV (rI x7.2.1)<|sV (rI x7.2.2)<|sA rfl ?_
 refine sA rfl<|sA rfl<|sN<|qS<|gS rfl rfl<|sM rfl<|sF h (fun h=>?_) fun h=>?_
 ·refine sN<|cT<|gS rfl rfl<|sV (.d (aG.pd (aG.mk 0 0)))<|sM rfl<|sS 96 (.var [r0,r0])<|sA rfl<|sN<|qR ?_
  exact oI h▸qD
 refine sN<|cF<|qK<|gS rfl rfl<|sV (.ptr 80 3)<|sL rfl<|sM rfl<|sV (rI (rW (a2.aM-x7.2.1)))<|sV (.ptr 80 4)<|sL rfl<|sM rfl<|sV (rI (rW (a2.bf-x7.1)))<|sV (.d (aG.pd (aG.mk (rW (a2.aM-x7.2.1)) (rW (a2.bf-x7.1)))))<|sS 96 (.var [rI (rW (a2.aM-x7.2.1)),rI (rW (a2.bf-x7.1))])<|sV (r0) ?_
 refine sN<|qR ?_
 exact oI h▸qD
theorem kx{a0:aJ}{a1:(List al)}{r:Int}(h:db a0 a1=some r):EvP prog aC ext 118 [.d (aJ.pd a0),rM al.pd a1] [] (rI r,[]):=by
 refine Ev.body rfl Tryz.func118 rfl (by kernel_rfl)<|gS rfl rfl<|sB (.ptr 32 0) 32 (.var (aJ.rc a0))<|sV (r0)<|sN<|qS<|gS rfl rfl<|sV (.ptr 32 0)<|sV (.d (ah.pd a0.aN))<|bE h fun x1 hx1 h=>cD (bA hx1)<|sF h (fun h=>?_) fun h=>?_
 ·refine sM rfl<|k3<|sK<|sT<|sM rfl<|k3<|sK<|sT<|sM rfl<|sK<|sK ?_
  refine sK<|sK<|sT<|sM rfl<|k3<|sK<|sT<|sM rfl<|k3<|sK<|sT ?_
  refine sM rfl<|k3<|sK<|sT<|sN<|cT<|gS rfl rfl<|sV (rI 27)<|sN<|qR ?_
  cases oI h
  exact qG
 refine sM rfl<|sV (.ptr 32 6)<|sV (.d (aI.pd a0.bi))<|bE h fun x3 hx3 h=>cD (dQ hx3)<|sV (rB (x3 != (0:Int)))<|sF h (fun h=>?_) fun h=>?_
 ·refine sM rfl<|k3<|sK<|sT<|sM rfl<|k3<|sK<|sT<|sM rfl<|sK<|sK ?_
  refine sK<|sK<|sT<|sM rfl<|k3<|sK<|sT<|sM rfl<|k3<|sK<|sT ?_
  refine sN<|cT<|gS rfl rfl<|sV (rI 27)<|sN<|qR ?_
  cases oI h
  exact qG
 refine sM rfl<|sV (.ptr 32 9)<|sL rfl<|bE h fun x5 hx5 h=>cD (gI hx5)<|sV (rB (!x5))<|sF h (fun h=>?_) fun h=>?_
 ·refine sM rfl<|k3<|sK<|sT<|sM rfl<|k3<|sK<|sT<|sM rfl<|sK<|sK ?_
  refine sK<|sK<|sT<|sM rfl<|k3<|sK<|sT<|sN<|cT<|gS rfl rfl<|sV (rI 27)<|sN<|qR ?_
  cases oI h
  exact qG
 refine sM rfl<|sV (.ptr 32 10)<|sL rfl<|bE h fun x7 hx7 h=>cD (gI hx7)<|sV (rB (!x7))<|sF h (fun h=>?_) fun h=>?_
 ·refine sM rfl<|k3<|sK<|sT<|sM rfl<|k3<|sK<|sT<|sM rfl<|sK<|sK ?_
  refine sK<|sK<|sT<|sN<|cT<|gS rfl rfl<|sV (rI 27)<|sN<|qR ?_
  cases oI h
  exact qG
 refine sM rfl<|sV (.ptr 32 12)<|sL rfl<|bE h fun x9 hx9 h=>cD (gI hx9)<|sV (rB (!x9))<|sF h (fun h=>?_) fun h=>?_
 ·refine sM rfl<|k3<|sK<|sT<|sM rfl<|k3<|sK<|sT<|sN<|cT<|gS rfl rfl ?_
  refine sV (rI 27)<|sN<|qR ?_
  cases oI h
  exact qG
 refine sM rfl<|sV (.ptr 32 11)<|sL rfl<|bE h fun x11 hx11 h=>cD (gI hx11)<|sV (rB (!x11))<|sF h (fun h=>?_) fun h=>?_
 ·refine sM rfl<|k3<|sK<|sT<|sN<|cT<|gS rfl rfl<|sV (rI 27)<|sN<|qR ?_
  cases oI h
  exact qG
 refine sM rfl<|sV (.ptr 32 13)<|sL rfl<|bE h fun x13 hx13 h=>cD (gI hx13)<|sV (rB (!x13))<|sF h (fun h=>?_) fun h=>?_
 ·refine sN<|cT<|gS rfl rfl<|sV (rI 27)<|sN<|qR ?_
  cases oI h
  exact qG
 refine sN<|cF<|qK<|qS<|gS rfl rfl<|sM rfl<|sE (rI (a1.length:Int)) (qt _ _)<|sF h (fun h=>?_) fun h=>?_
 ·refine sN<|cT<|gS rfl rfl<|sV (rI 8)<|sN<|qR ?_
  cases oI h
  exact qG
 refine sN<|cF<|qK<|qS<|gS rfl rfl<|sM rfl<|sE (rI (a1.length:Int)) (qt _ _)<|sV (r0)<|sN<|bE h fun o23 ho23 h=>WC.block (WC.loop (WL.qx ho23 (fun s R' B'=>hY prog 0 (A R' B') (aC.at_ 118 0 6)=some (A [(2,.ptr 32 0),(52,rM al.pd a1),(53,rI (a1.length:Int)),(54,rI s)] [(32,.var (aJ.rc a0))])) (fun o e R' B'=>match o with| .inl y=>e= .exit 0∧hY prog 0 (A R' B') (aC.at_ 118 0 12)=some (A [] [])| .inr r=>e= .ret∧finish prog (aC.own 118) Tryz.f118 0 (A R' B')=some (rI r,[])) rfl ?_ ?_))
 ·rintro s16 R' B' q17 hI h
  refine gS rfl hI<|sF h (fun h=>?_) fun h=>?_
  ·refine sN<|qS<|cT<|qK<|qS<|qB<|gS rfl rfl<|bE h fun x19 hx19 h=>eG hx19 rfl<|sV (.d (al.pd x19))<|sB (.ptr 96 0) 96 (.var zZ4)<|sH 96 (.var (al.rc x19))<|sN<|gS rfl rfl<|sV (.ptr 32 6) ?_
   refine sV (.d (aI.pd a0.bi))<|sV (.ptr 32 0)<|sV (.d (ah.pd a0.aN))<|sV (.d (al.pd x19))<|bE h fun x20 hx20 h=>cR (.tup [.d (aG.pd x20.1),rI x20.2]) [] (kU hx20)<|sM rfl<|sV (.d (aG.pd x20.1))<|sV (rI x20.2)<|sB (.ptr 112 0) 112 (.var [r0,r0])<|sS 112 (.var [rI x20.1.bp,rI x20.1.fTo])<|sA rfl<|sN<|gS rfl rfl<|sM rfl ?_
   refine sF h (fun h=>?_) fun h=>?_
   ·refine sN<|cT<|gS rfl rfl<|sM rfl<|sA rfl<|sN<|qR ?_
    cases oI h
    exact⟨nofun,rfl,rfl⟩
   refine sN<|cF<|qK<|WC.region rfl rfl<|sV (rI (rW (s16+(1:Int))))<|sM rfl<|sN ?_
   cases oI h
   exact⟨rfl,rfl⟩
  refine sN<|qS<|cF<|qX ?_
  cases oI h
  exact⟨nofun,rfl,rfl⟩
 intro e R' B' he hq
 rcases o23 with y24|r25
 ·obtain⟨rfl,hI⟩:=hq
  refine qE<|gS rfl hI<|sV (r0)<|sN<|qR ?_
  exact oI h▸qD
 obtain⟨rfl,hf⟩:=hq
 cases oI h
 exact hf
theorem jG{a0:bu}{r:Bool}(h:cK a0=some r):EvP prog aC ext 119 [.d (bu.pd a0)] [] (rB r,[]):=by
 refine Ev.body rfl Tryz.func119 rfl (by kernel_rfl)<|gS rfl rfl<|sB (.ptr 16 0) 16 (.var (bu.rc a0))<|sU<|sN<|gS rfl rfl<|sV (.ptr 16 0)<|sV (.d (aI.pd a0.bY))<|bE h fun x1 hx1 h=>cD (dQ hx1)<|sF h (fun h=>?_) fun h=>?_
 ·refine sM rfl<|sV (.ptr 16 3)<|sL rfl<|sV (rB (decide (a0.bG>=(0:Int))))<|sF h (fun h=>?_) fun h=>?_
  ·refine sM rfl<|sV (.ptr 16 3)<|sL rfl<|sV (rB (decide (a0.bG<=(65536:Int))))<|sF h (fun h=>?_) fun h=>?_
   ·refine sM rfl<|sV (.ptr 16 4)<|sL rfl<|sV (rB (decide (a0.bw>=(1:Int))))<|sF h (fun h=>?_) fun h=>?_
    ·refine sM rfl<|sV (.ptr 16 4)<|sL rfl<|sV (rB (decide (a0.bw<=(65536:Int))))<|sV (rB (decide (a0.bw<=(65536:Int))))<|sA rfl<|sN<|qR ?_
     exact oI h▸qD
    refine sM rfl<|k3<|sU<|sA rfl<|sN<|qR ?_
    exact oI h▸qD
   refine sM rfl<|k3<|sU<|sM rfl<|k3<|sU<|sA rfl<|sN<|qR ?_
   exact oI h▸qD
  refine sM rfl<|k3<|sU<|sM rfl<|k3<|sU<|sM rfl<|k3<|sU ?_
  refine sA rfl<|sN<|qR ?_
  exact oI h▸qD
 refine sM rfl<|k3<|sU<|sM rfl<|k3<|sU<|sM rfl<|k3<|sU ?_
 refine sM rfl<|k3<|sU<|sA rfl<|sN<|qR ?_
 exact oI h▸qD
theorem iE{a0:aq}{r:Int}(h:ep a0=some r):EvP prog aC ext 60 [.d (aq.pd a0)] [] (rI r,[]):=by
 refine Ev.body rfl Tryz.func60 rfl (by kernel_rfl)<|gS rfl rfl<|sB (.ptr 16 0) 16 (.var (aq.rc a0))<|sV (r0)<|sN<|qS<|gS rfl rfl<|sV (.ptr 16 0)<|sV (.d (aJ.pd a0.ai))<|bE h fun x1 hx1 h=>cD (kx hx1)<|sF h (fun h=>?_) fun h=>?_
 ·refine sM rfl<|k3<|sK<|sT<|sM rfl<|k3<|sT<|sM rfl<|sK<|sK<|sK ?_
  refine sT<|sN<|cT<|gS rfl rfl<|sV (rI 27)<|sN<|qR ?_
  cases oI h
  exact qG
 refine sM rfl<|sV (.ptr 16 14)<|sV (.d (bu.pd a0.eZ))<|bE h fun x3 hx3 h=>cD (jG hx3)<|sV (rB (!x3))<|sF h (fun h=>?_) fun h=>?_
 ·refine sM rfl<|k3<|sT<|sM rfl<|k3<|sT<|sN<|cT<|gS rfl rfl<|sV (rI 27)<|sN ?_
  refine qR ?_
  cases oI h
  exact qG
 refine sM rfl<|sV (.ptr 16 19)<|sL rfl<|sV (rB (decide (a0.bR<(0:Int))))<|sF h (fun h=>?_) fun h=>?_
 ·refine sM rfl<|k3<|sT<|sN<|cT<|gS rfl rfl<|sV (rI 27)<|sN<|qR ?_
  cases oI h
  exact qG
 refine sM rfl<|sV (.ptr 16 19)<|sL rfl<|sV (rB (decide (a0.bR>(1099511627776:Int))))<|sF h (fun h=>?_) fun h=>?_
 ·refine sN<|cT<|gS rfl rfl<|sV (rI 27)<|sN<|qR ?_
  cases oI h
  exact qG
 refine sN<|cF<|qK<|gS rfl rfl<|sV (r0)<|sN<|qR ?_
 cases oI h
 exact qG
theorem source_plain_ev{a0:Int}{r:Bool}(h:lW a0=some r):EvP prog aC ext 307 [.d (.int .u8 a0)] [] (rB r,[]):=by
 refine Ev.body rfl Tryz.func307 rfl (by kernel_rfl)<|gS rfl rfl<|sU<|sN<|gS rfl rfl<|sM rfl<|sF h (fun h=>?_) fun h=>?_
 ·refine sM rfl<|sM rfl<|sV (rB (decide (a0<=(90:Int))))<|sF h (fun h=>?_) fun h=>?_
  ·refine sM rfl<|k3<|k3<|sT<|sA rfl<|sN<|qR ?_
   exact oI h▸qD
  refine sM rfl<|sM rfl<|sF h (fun h=>?_) fun h=>?_
  ·refine sM rfl<|sM rfl<|sV (rB (decide (a0<=(57:Int))))<|sV (rB (decide (a0<=(57:Int))))<|sV (rB (decide (a0<=(57:Int))))<|sA rfl<|sN<|qR ?_
   exact oI h▸qD
  refine sM rfl<|sK<|sK<|sU<|sU<|sA rfl<|sN<|qR ?_
  exact oI h▸qD
 refine sM rfl<|sK<|sK<|sU<|sM rfl<|sM rfl<|sF h (fun h=>?_) fun h=>?_
 ·refine sM rfl<|sM rfl<|sV (rB (decide (a0<=(57:Int))))<|sV (rB (decide (a0<=(57:Int))))<|sV (rB (decide (a0<=(57:Int))))<|sA rfl<|sN<|qR ?_
  exact oI h▸qD
 refine sM rfl<|sK<|sK<|sU<|sU<|sA rfl<|sN<|qR ?_
 exact oI h▸qD
theorem iF{a0:(List UInt8)}{a1:Int}{a2:Int}{r:Bool}(h:fF a0 a1 a2=some r):EvP prog aC ext 241 [rS a0,rI a1,rI a2] [] (rB r,[]):=by
 refine Ev.body rfl Tryz.func241 rfl (by kernel_rfl)<|gS rfl rfl<|sU<|sN<|qS<|gS rfl rfl<|sM rfl<|sV (rI (a0.length:Int))<|sV (r0)<|sN<|bE h fun o8 ho8 h=>WC.block (WC.loop (WL.qx ho8 (fun s R' B'=>hY prog 0 (A R' B') (aC.at_ 241 0 2)=some (A [(0,rS a0),(1,rI a1),(2,rI a2),(9,rI (a0.length:Int)),(10,rI s)] [])) (fun o e R' B'=>match o with| .inl y=>e= .exit 0∧hY prog 0 (A R' B') (aC.at_ 241 0 7)=some (A [(0,rS a0),(1,rI a1),(2,rI a2)] [])| .inr r=>e= .ret∧finish prog (aC.own 241) Tryz.f241 0 (A R' B')=some (rB r,[])) rfl ?_ ?_))
 ·rintro s1 R' B' q2 hI h
  refine gS rfl hI<|sF h (fun h=>?_) fun h=>?_
  ·refine sN<|qS<|cT<|qK<|qS<|qB<|gS rfl rfl<|sM rfl<|sA rfl<|sN<|gS rfl rfl<|sM rfl<|sM rfl<|bE h fun x4 hx4 h=>WO.byteG hx4 rfl rfl rfl rfl rfl rfl ?_
   refine bE h fun x5 hx5 h=>cD (source_plain_ev hx5)<|sF h (fun h=>?_) fun h=>?_
   ·refine sN<|cT<|gS rfl rfl<|sU<|sN<|qR ?_
    cases oI h
    exact⟨nofun,rfl,rfl⟩
   refine sN<|cF<|qK<|WC.region rfl rfl<|sV (rI (rW (s1+(1:Int))))<|sM rfl<|sN ?_
   cases oI h
   exact⟨rfl,rfl⟩
  refine sN<|qS<|cF<|qX ?_
  cases oI h
  exact⟨nofun,rfl,rfl⟩
 intro e R' B' he hq
 rcases o8 with y9|r10
 ·obtain⟨rfl,hI⟩:=hq
  refine qE<|gS rfl hI<|sM rfl<|sV (rI (a0.length:Int))<|sM rfl<|sF h (fun h=>?_) fun h=>?_
  ·refine sM rfl<|sM rfl<|sV (rI (a0.length:Int))<|sM rfl<|sV (rB (decide ((a0.length:Int)<=a2)))<|sV (rB (decide ((a0.length:Int)<=a2)))<|sA rfl<|sN<|qR ?_
   exact oI h▸qD
  refine sM rfl<|k3<|sK<|sU<|sA rfl<|sN<|qR ?_
  exact oI h▸qD
 obtain⟨rfl,hf⟩:=hq
 cases oI h
 exact hf
theorem lG{a0:aw}{r:Bool}(h:gH a0=some r):EvP prog aC ext 155 [.d (aw.pd a0)] [] (rB r,[]):=by
 refine Ev.body rfl Tryz.func155 rfl (by kernel_rfl)<|gS rfl rfl<|sB (.ptr 16 0) 16 (.var (aw.rc a0))<|sU<|sN<|gS rfl rfl<|sV (.ptr 16 0)<|sL rfl<|bE h fun x1 hx1 h=>qZ h (fun hb2 h=>?_) (fun hb2 h=>?_)
 ·refine WO.rN (v:=rB true) (u:=[]) rfl rfl (fun _=>rfl) rfl rfl rfl rfl rfl (iF hx1) rfl rfl (congrArg (fun b=>RV.d (.bool b)) hb2) rfl<|sM rfl<|sV (.ptr 16 1)<|sL rfl<|bE h fun x3 hx3 h=>cD (iF hx3)<|sF h (fun h=>?_) fun h=>?_
  ·refine sM rfl<|sV (.ptr 16 2)<|sL rfl<|bE h fun x5 hx5 h=>cD (iF hx5)<|sF h (fun h=>?_) fun h=>?_
   ·refine sM rfl<|sV (.ptr 16 2)<|sL rfl<|sV (rI (a0.ap.length:Int))<|sV (rB ((a0.ap.length:Int) != (1:Int)))<|sF h (fun h=>?_) fun h=>?_
    ·refine sM rfl<|sV (.ptr 16 3)<|sL rfl<|bE h fun x8 hx8 h=>cD (iF hx8)<|sV (rB x8)<|sA rfl<|sN<|qR ?_
     exact oI h▸qD
    refine sM rfl<|k3<|sU<|sA rfl<|sN<|qR ?_
    exact oI h▸qD
   refine sM rfl<|k3<|sK<|sU<|sM rfl<|k3<|sU<|sA rfl<|sN<|qR ?_
   exact oI h▸qD
  refine sM rfl<|k3<|sU<|sM rfl<|k3<|sK<|sU<|sM rfl<|sK<|sK<|sK ?_
  refine sU<|sA rfl<|sN<|qR ?_
  exact oI h▸qD
 refine WO.rN (v:=rB false) (u:=[]) rfl rfl (fun _=>rfl) rfl rfl rfl rfl rfl (iF hx1) rfl rfl (congrArg (fun b=>RV.d (.bool b)) hb2) rfl<|sM rfl<|k3<|sU<|sM rfl<|k3<|sU<|sM rfl<|sK<|sK<|sK ?_
 refine sK<|sU<|sM rfl<|k3<|sU<|sA rfl<|sN<|qR ?_
 exact oI h▸qD
theorem pP{a0:Int}{a1:Int}{a2:Int}{r:Bool}(h:pc a0 a1 a2=some r):EvP prog aC ext 349 [rI a0,rI a1,rI a2] [] (rB r,[]):=by
 refine Ev.body rfl Tryz.func349 rfl (by kernel_rfl)<|gS rfl rfl<|sU<|sN<|gS rfl rfl<|sM rfl<|sM rfl<|sF h (fun h=>?_) fun h=>?_
 ·refine sM rfl<|sM rfl<|sM rfl<|sV (rB (decide (a0<=a2)))<|sV (rB (decide (a0<=a2)))<|sA rfl<|sN<|qR ?_
  exact oI h▸qD
 refine sM rfl<|k3<|sU<|sA rfl<|sN<|qR ?_
 exact oI h▸qD
theorem rate_gcd_ev{a0:Int}{a1:Int}{r:Int}(h:oQ a0 a1=some r):EvP prog aC ext 350 [rI a0,rI a1] [] (rI r,[]):=by
 refine Ev.body rfl Tryz.func350 rfl (by kernel_rfl)<|gS rfl rfl<|sV (r0)<|sN<|qS<|bE h fun o8 ho8 h=>WC.block (WC.loop (WL.qx ho8 (fun s R' B'=>hY prog 0 (A R' B') (aC.at_ 350 0 1)=some (A [(0,rI s.1),(1,rI s.2)] [])) (fun o e R' B'=>e= .exit 0∧hY prog 0 (A R' B') (aC.at_ 350 0 3)=some (A [(0,rI o)] [])) rfl ?_ ?_))
 ·rintro⟨s1,s2⟩ R' B' q4 hI h
  refine qS<|gS rfl hI<|sM rfl<|sF h (fun h=>?_) fun h=>?_
  ·refine sN<|cT<|qK<|qB<|WC.rb rfl rfl<|sM rfl<|sM rfl<|sM rfl<|bE h fun x6 hx6 h=>WO.remG hx6 rfl rfl rfl rfl rfl rfl<|sA rfl<|sA rfl ?_
   refine sN<|sO ?_
   cases oI h
   exact⟨rfl,rfl⟩
  refine sN<|cF<|qX ?_
  cases oI h
  exact⟨nofun,rfl,rfl⟩
 intro e R' B' he hq
 obtain⟨rfl,hI⟩:=hq
 refine qE<|gS rfl hI<|sM rfl<|sA rfl<|sN<|qR ?_
 exact oI h▸qD
theorem rate_Valid_ev{a0:bo}{r:Bool}(h:kL a0=some r):EvP prog aC ext 308 [.d (bo.pd a0)] [] (rB r,[]):=by
 refine Ev.body rfl Tryz.func308 rfl (by kernel_rfl)<|gS rfl rfl<|sB (.ptr 16 0) 16 (.var [rI a0.bG,rI a0.bw])<|sU<|sN<|gS rfl rfl<|sV (.ptr 16 0)<|sL rfl<|bE h fun x1 hx1 h=>qZ h (fun hb2 h=>?_) (fun hb2 h=>?_)
 ·refine WO.rN (v:=rB true) (u:=[]) rfl rfl (fun _=>rfl) rfl rfl rfl rfl rfl (pP hx1) rfl rfl (congrArg (fun b=>RV.d (.bool b)) hb2) rfl<|sM rfl<|sV (.ptr 16 1)<|sL rfl<|bE h fun x3 hx3 h=>cD (pP hx3)<|sF h (fun h=>?_) fun h=>?_
  ·refine sM rfl<|sV (.ptr 16 0)<|sL rfl<|sV (.ptr 16 1)<|sL rfl<|bE h fun x5 hx5 h=>cD (rate_gcd_ev hx5)<|sV (rB (x5==(1:Int)))<|sV (rB (x5==(1:Int)))<|sA rfl<|sN<|qR ?_
   exact oI h▸qD
  refine sM rfl<|k3<|k3<|sU<|sA rfl<|sN<|qR ?_
  exact oI h▸qD
 refine WO.rN (v:=rB false) (u:=[]) rfl rfl (fun _=>rfl) rfl rfl rfl rfl rfl (pP hx1) rfl rfl (congrArg (fun b=>RV.d (.bool b)) hb2) rfl<|sM rfl<|k3<|sU<|sM rfl<|k3<|k3<|sU<|sA rfl ?_
 refine sN<|qR ?_
 exact oI h▸qD
theorem b9{a0:Int}{a1:Int}{a2:Int}{r:Bool}(h:bq a0 a1 a2=some r):EvP prog aC ext 335 [rI a0,rI a1,rI a2] [] (rB r,[]):=by
 refine Ev.body rfl Tryz.func335 rfl (by kernel_rfl)<|gS rfl rfl<|sU<|sN<|gS rfl rfl<|sM rfl<|sM rfl<|sF h (fun h=>?_) fun h=>?_
 ·refine sM rfl<|sM rfl<|sM rfl<|sV (rB (decide (a0<=a2)))<|sV (rB (decide (a0<=a2)))<|sA rfl<|sN<|qR ?_
  exact oI h▸qD
 refine sM rfl<|k3<|sU<|sA rfl<|sN<|qR ?_
 exact oI h▸qD
theorem ko{a0:Int}{r:Bool}(h:iY a0=some r):EvP prog aC ext 413 [rI a0] [] (rB r,[]):=by
 refine Ev.body rfl Tryz.func413 rfl (by kernel_rfl)<|gS rfl rfl<|sU<|sN<|gS rfl rfl<|sM rfl<|bE h fun x1 hx1 h=>cD (b9 hx1)<|sV (rB (!x1))<|sA rfl<|sN<|qR ?_
 exact oI h▸qD
theorem lF{a0:(List Int)}{r:Int}(h:cS a0=some r):EvP prog aC ext 421 [rL a0,.d (.raw (.func (.func 413) #[] #[]))] [] (rI r,[]):=by
 refine Ev.body rfl Tryz.func421 rfl (by kernel_rfl)<|gS rfl rfl<|sV (r0)<|sN<|qS<|gS rfl rfl<|sM rfl<|sE (rI (a0.length:Int)) (qt _ _)<|sV (r0)<|sN<|bE h fun o8 ho8 h=>WC.block (WC.loop (WL.qx ho8 (fun s R' B'=>hY prog 0 (A R' B') (aC.at_ 421 0 2)=some (A [(0,rL a0),(1,.d (.raw (.func (.func 413) #[] #[]))),(7,rI (a0.length:Int)),(8,rI s)] [])) (fun o e R' B'=>match o with| .inl y=>e= .exit 0∧hY prog 0 (A R' B') (aC.at_ 421 0 7)=some (A [] [])| .inr r=>e= .ret∧finish prog (aC.own 421) Tryz.f421 0 (A R' B')=some (rI r,[])) rfl ?_ ?_))
 ·rintro s1 R' B' q2 hI h
  refine gS rfl hI<|sF h (fun h=>?_) fun h=>?_
  ·refine sN<|qS<|cT<|qK<|qS<|qB<|gS rfl rfl<|sM rfl<|sA rfl<|sN<|gS rfl rfl<|sM rfl<|sM rfl<|sM rfl<|bE h fun x4 hx4 h=>?_
   refine eG hx4 rfl<|sC rfl<|bE h fun x5 hx5 h=>qZ h (fun hb6 h=>?_) (fun hb6 h=>?_)
   ·refine WO.rN (v:=rB true) (u:=[]) rfl rfl (fun _=>rfl) rfl rfl rfl rfl rfl (ko hx5) rfl rfl (congrArg (fun b=>RV.d (.bool b)) hb6) rfl<|sN<|cT<|gS rfl rfl<|sM rfl<|sA rfl<|sN<|qR ?_
    cases oI h
    exact⟨nofun,rfl,rfl⟩
   refine WO.rN (v:=rB false) (u:=[]) rfl rfl (fun _=>rfl) rfl rfl rfl rfl rfl (ko hx5) rfl rfl (congrArg (fun b=>RV.d (.bool b)) hb6) rfl<|sN<|cF<|qK<|WC.region rfl rfl<|sV (rI (rW (s1+(1:Int))))<|sM rfl<|sN ?_
   cases oI h
   exact⟨rfl,rfl⟩
  refine sN<|qS<|cF<|qX ?_
  cases oI h
  exact⟨nofun,rfl,rfl⟩
 intro e R' B' he hq
 rcases o8 with y9|r10
 ·obtain⟨rfl,hI⟩:=hq
  refine qE<|gS rfl hI<|sV (rI (-1))<|sN<|qR ?_
  exact oI h▸qD
 obtain⟨rfl,hf⟩:=hq
 cases oI h
 exact hf
theorem kw{a0:(List Int)}{r:Bool}(h:cw a0=some r):EvP prog aC ext 412 [rL a0,.d (.raw (.func (.func 413) #[] #[]))] [] (rB r,[]):=by
 refine Ev.body rfl Tryz.func412 rfl (by kernel_rfl)<|gS rfl rfl<|sU<|sN<|gS rfl rfl<|sM rfl<|sM rfl<|bE h fun x1 hx1 h=>cD (lF hx1)<|sV (rB (decide (x1>=(0:Int))))<|sA rfl<|sN<|qR ?_
 exact oI h▸qD
theorem fB{a0:(List Int)}{r:Bool}(h:co a0=some r):EvP prog aC ext 394 [rL a0] [] (rB r,[]):=by
 refine Ev.body rfl Tryz.func394 rfl (by kernel_rfl)<|gS rfl rfl<|sU<|sN<|gS rfl rfl<|sM rfl<|bE h fun x1 hx1 h=>cD (kw hx1)<|sV (rB (!x1))<|sA rfl<|sN<|qR ?_
 exact oI h▸qD
theorem js{a0:(List Int)}{r:Int}(h:dv a0=some r):EvP prog aC ext 383 [rL a0] [] (rI r,[]):=by
 refine Ev.body rfl Tryz.func383 rfl (by kernel_rfl)<|gS rfl rfl<|sV (r0)<|sN<|gS rfl rfl<|sV (r0)<|sN<|qS<|gS rfl rfl<|sM rfl<|sE (rI (a0.length:Int)) (qt _ _)<|sV (r0)<|sN<|bE h fun o8 ho8 h=>WC.block (WC.loop (WL.qx ho8 (fun s R' B'=>hY prog 0 (A R' B') (aC.at_ 383 0 3)=some (A [(3,rI s.1),(6,rL a0),(7,rI (a0.length:Int)),(8,rI s.2)] [])) (fun o e R' B'=>e= .exit 0∧hY prog 0 (A R' B') (aC.at_ 383 0 7)=some (A [(3,rI o)] [])) rfl ?_ ?_))
 ·rintro⟨s1,s2⟩ R' B' q4 hI h
  refine gS rfl hI<|sF h (fun h=>?_) fun h=>?_
  ·refine sN<|qS<|cT<|qK<|qS<|qB<|gS rfl rfl<|bE h fun x6 hx6 h=>eG hx6 rfl<|sC rfl<|sA rfl<|sN<|WC.region rfl rfl<|sM rfl<|sM rfl ?_
   refine sV (rI (rW (s1+x6)))<|sA rfl<|sN<|WC.region rfl rfl<|sV (rI (rW (s2+(1:Int))))<|sM rfl<|sN ?_
   cases oI h
   exact⟨rfl,rfl⟩
  refine sN<|qS<|cF<|qX ?_
  cases oI h
  exact⟨nofun,rfl,rfl⟩
 intro e R' B' he hq
 obtain⟨rfl,hI⟩:=hq
 refine qE<|gS rfl hI<|sM rfl<|sA rfl<|sN<|qR ?_
 exact oI h▸qD
theorem n5{a0:aH}{r:Bool}(h:cB a0=some r):EvP prog aC ext 353 [.d (aH.pd a0)] [] (rB r,[]):=by
 refine Ev.body rfl Tryz.func353 rfl (by kernel_rfl)<|gS rfl rfl<|sB (.ptr 16 0) 16 (.var (aH.rc a0))<|sU<|sN<|gS rfl rfl<|sV (.ptr 16 7)<|sL rfl<|sE (rI (a0.dG.length:Int)) (qt _ _)<|sF h (fun h=>?_) fun h=>?_
 ·refine sM rfl<|sV (.ptr 16 8)<|sL rfl<|sV (rB (a0.dt==(0:Int)))<|sF h (fun h=>?_) fun h=>?_
  ·refine sM rfl<|sV (.ptr 16 9)<|sL rfl<|sV (rB (a0.dI==(0:Int)))<|sV (rB (a0.dI==(0:Int)))<|sA rfl<|sN<|qS<|gS rfl rfl<|sV (.ptr 16 0)<|sL rfl<|sN<|qB<|gS rfl rfl<|sF h (fun h=>?_) fun h=>?_
   ·refine sA rfl<|sN<|cT<|gS rfl rfl<|sF h (fun h=>?_) fun h=>?_
    ·refine sM rfl<|sV (.ptr 16 1)<|sV (.d (aW.pd a0.bG))<|sV (.ptr 16 1)<|sV (.ptr 16 1)<|sL rfl<|sV (.d (aW.pd (aW.mk a0.bG.a0 0 0)))<|WO.bin (jW a0.bG (aW.mk a0.bG.a0 0 0)) rfl rfl rfl rfl rfl<|sF h (fun h=>?_) fun h=>?_
     ·refine sM rfl<|sV (.ptr 16 4)<|sV (.d (aW.pd a0.bw))<|sV (.ptr 16 4)<|sV (.ptr 16 4)<|sL rfl<|sV (.d (aW.pd (aW.mk a0.bw.a0 0 0)))<|WO.bin (jW a0.bw (aW.mk a0.bw.a0 0 0)) rfl rfl rfl rfl rfl<|sF h (fun h=>?_) fun h=>?_
      ·refine sM rfl<|sV (.ptr 16 1)<|sV (.ptr 16 1)<|sL rfl<|bE h fun x7 hx7 h=>cD (b9 hx7)<|sF h (fun h=>?_) fun h=>?_
       ·refine sM rfl<|sV (.ptr 16 4)<|sV (.ptr 16 4)<|sL rfl<|bE h fun x9 hx9 h=>cD (b9 hx9)<|sV (rB x9)<|sA rfl<|sN<|qR ?_
        cases oI h
        exact qG
       refine sM rfl<|k3<|sK<|sU<|sA rfl<|sN<|qR ?_
       cases oI h
       exact qG
      refine sM rfl<|k3<|sK<|sU<|sM rfl<|k3<|sK<|sU<|sA rfl<|sN<|qR ?_
      cases oI h
      exact qG
     refine sM rfl<|k3<|k3<|sK<|sU<|sM rfl<|k3<|sK<|sU ?_
     refine sM rfl<|k3<|sK<|sU<|sA rfl<|sN<|qR ?_
     cases oI h
     exact qG
    refine sM rfl<|k3<|k3<|sK<|sU<|sM rfl<|k3<|sK<|sK ?_
    refine sK<|sK<|sU<|sM rfl<|k3<|sK<|sU<|sM rfl<|k3<|sK<|sU ?_
    refine sA rfl<|sN<|qR ?_
    cases oI h
    exact qG
   refine sA rfl<|sN<|cF<|gS rfl rfl<|sF h (fun h=>?_) fun h=>?_
   ·refine sA rfl<|sN<|cT<|WC.qH (R0:=[(1,.cptr [.int .i64 a0.fM,.int .i64 a0.bG.a0,.int .i64 a0.bG.a1,.int .i64 a0.bG.a2,.int .i64 a0.bw.a0,.int .i64 a0.bw.a1,.int .i64 a0.bw.a2,.lst (a0.dG.map (PD.int .i64)),.int .i64 a0.dt,.int .i64 a0.dI]),(3,rB (a0.dI==(0:Int)))]) (B0:=[]) rfl rfl<|sF h (fun h=>?_) fun h=>?_
    ·refine sM rfl<|sV (.cptr [.int .i64 a0.bG.a0,.int .i64 a0.bG.a1,.int .i64 a0.bG.a2,.int .i64 a0.bw.a0,.int .i64 a0.bw.a1,.int .i64 a0.bw.a2,.lst (a0.dG.map (PD.int .i64)),.int .i64 a0.dt,.int .i64 a0.dI])<|sV (.d (.lst ([a0.bG.a0,a0.bG.a1,a0.bG.a2].map (PD.int .i64))))<|bE h fun x12 hx12 h=>cD (fB hx12)<|sF h (fun h=>?_) fun h=>?_
     ·refine sM rfl<|sV (.cptr [.int .i64 a0.bw.a0,.int .i64 a0.bw.a1,.int .i64 a0.bw.a2,.lst (a0.dG.map (PD.int .i64)),.int .i64 a0.dt,.int .i64 a0.dI])<|sV (.d (.lst ([a0.bw.a0,a0.bw.a1,a0.bw.a2].map (PD.int .i64))))<|bE h fun x14 hx14 h=>cD (fB hx14)<|sF h (fun h=>?_) fun h=>?_
      ·refine sM rfl<|sV (.cptr [.int .i64 a0.bw.a0,.int .i64 a0.bw.a1,.int .i64 a0.bw.a2,.lst (a0.dG.map (PD.int .i64)),.int .i64 a0.dt,.int .i64 a0.dI])<|sV (.cptr [.int .i64 a0.bw.a0,.int .i64 a0.bw.a1,.int .i64 a0.bw.a2,.lst (a0.dG.map (PD.int .i64)),.int .i64 a0.dt,.int .i64 a0.dI])<|sC rfl<|sV (rB (a0.bw.a0 != (0:Int)))<|sV (rB (a0.bw.a0 != (0:Int)))<|sA rfl<|sN<|qR ?_
       exact oI h▸qD
      refine sM rfl<|k3<|sK<|sU<|sA rfl<|sN<|qR ?_
      exact oI h▸qD
     refine sM rfl<|k3<|sU<|sM rfl<|k3<|sK<|sU<|sA rfl<|sN<|qR ?_
     exact oI h▸qD
    refine sM rfl<|k3<|sU<|sM rfl<|k3<|sU<|sM rfl<|k3<|sK ?_
    refine sU<|sA rfl<|sN<|qR ?_
    exact oI h▸qD
   refine sA rfl<|sN<|cF<|gS rfl rfl<|sF h (fun h=>?_) fun h=>?_
   ·refine sA rfl<|sN<|cT<|gS rfl rfl<|sV (.ptr 16 1)<|sV (.d (aW.pd a0.bG))<|sV (.d (aW.pd (aW.mk 0 0 0)))<|qZ h (fun hb17 h=>?_) (fun hb17 h=>?_)
    ·refine WO.vS (jW a0.bG (aW.mk 0 0 0)) hb17 rfl rfl rfl rfl rfl<|sM rfl<|sV (.ptr 16 4)<|sV (.d (aW.pd a0.bw))<|sV (.d (aW.pd (aW.mk 0 0 0)))<|WO.bin (jW a0.bw (aW.mk 0 0 0)) rfl rfl rfl rfl rfl<|sF h (fun h=>?_) fun h=>?_
     ·refine sM rfl<|sV (.ptr 16 7)<|sL rfl<|sE (rI (a0.dG.length:Int)) (qt _ _)<|bE h fun x19 hx19 h=>cD (b9 hx19)<|sF h (fun h=>?_) fun h=>?_
      ·refine sM rfl<|sV (.ptr 16 7)<|sL rfl<|bE h fun x21 hx21 h=>cD (fB hx21)<|sF h (fun h=>?_) fun h=>?_
       ·refine sM rfl<|sV (.ptr 16 7)<|sL rfl<|bE h fun x23 hx23 h=>cD (js hx23)<|sV (rB (x23 != (0:Int)))<|sF h (fun h=>?_) fun h=>?_
        ·refine sM rfl<|sV (.ptr 16 8)<|sL rfl<|bE h fun x25 hx25 h=>cD (b9 hx25)<|sF h (fun h=>?_) fun h=>?_
         ·refine sM rfl<|sV (.ptr 16 9)<|sL rfl<|bE h fun x27 hx27 h=>cD (b9 hx27)<|sV (rB x27)<|sA rfl<|sN<|qR ?_
          cases oI h
          exact qG
         refine sM rfl<|k3<|sU<|sA rfl<|sN<|qR ?_
         cases oI h
         exact qG
        refine sM rfl<|k3<|sU<|sM rfl<|k3<|sU<|sA rfl<|sN<|qR ?_
        cases oI h
        exact qG
       refine sM rfl<|k3<|sK<|sU<|sM rfl<|k3<|sU<|sM rfl<|sK<|sK<|sK ?_
       refine sU<|sA rfl<|sN<|qR ?_
       cases oI h
       exact qG
      refine sM rfl<|k3<|sU<|sM rfl<|k3<|sK<|sU<|sM rfl<|sK<|sK<|sK ?_
      refine sU<|sM rfl<|k3<|sU<|sA rfl<|sN<|qR ?_
      cases oI h
      exact qG
     refine sM rfl<|k3<|sK<|sU<|sM rfl<|k3<|sU<|sM rfl<|sK<|sK<|sK ?_
     refine sK<|sU<|sM rfl<|k3<|sU<|sM rfl<|k3<|sU<|sA rfl<|sN<|qR ?_
     cases oI h
     exact qG
    refine WO.vS (jW a0.bG (aW.mk 0 0 0)) hb17 rfl rfl rfl rfl rfl<|sM rfl<|k3<|sK<|sU<|sM rfl<|k3<|sK<|sU<|sM rfl<|sK ?_
    refine sK<|sK<|sU<|sM rfl<|k3<|sK<|sU<|sM rfl<|k3<|sU<|sM rfl ?_
    refine k3<|sU<|sA rfl<|sN<|qR ?_
    cases oI h
    exact qG
   refine sA rfl<|sN<|cF<|qK<|gS rfl rfl<|sU<|sN<|qR ?_
   cases oI h
   exact qG
  refine sM rfl<|k3<|sU<|sA rfl<|sN<|qS<|gS rfl rfl<|sV (.ptr 16 0)<|sL rfl<|sN<|qB<|gS rfl rfl<|sF h (fun h=>?_) fun h=>?_
  ·refine sA rfl<|sN<|cT<|gS rfl rfl<|sM rfl<|sM rfl<|k3<|k3<|sK<|sU<|sM rfl ?_
   refine k3<|k3<|sK<|sU<|sM rfl<|k3<|sK<|sU<|sM rfl ?_
   refine k3<|sK<|sU<|sA rfl<|sN<|qR ?_
   cases oI h
   exact qG
  refine sA rfl<|sN<|cF<|gS rfl rfl<|sF h (fun h=>?_) fun h=>?_
  ·refine sA rfl<|sN<|cT<|WC.qH (R0:=[(1,.cptr [.int .i64 a0.fM,.int .i64 a0.bG.a0,.int .i64 a0.bG.a1,.int .i64 a0.bG.a2,.int .i64 a0.bw.a0,.int .i64 a0.bw.a1,.int .i64 a0.bw.a2,.lst (a0.dG.map (PD.int .i64)),.int .i64 a0.dt,.int .i64 a0.dI]),(3,rB false)]) (B0:=[]) rfl rfl<|sM rfl<|sM rfl<|k3<|sU<|sM rfl<|k3<|sU ?_
   refine sM rfl<|k3<|sK<|sU<|sA rfl<|sN<|qR ?_
   exact oI h▸qD
  refine sA rfl<|sN<|cF<|gS rfl rfl<|sF h (fun h=>?_) fun h=>?_
  ·refine sA rfl<|sN<|cT<|gS rfl rfl<|sV (.ptr 16 1)<|sV (.d (aW.pd a0.bG))<|sV (.d (aW.pd (aW.mk 0 0 0)))<|qZ h (fun hb31 h=>?_) (fun hb31 h=>?_)
   ·refine WO.vS (jW a0.bG (aW.mk 0 0 0)) hb31 rfl rfl rfl rfl rfl<|sM rfl<|sV (.ptr 16 4)<|sV (.d (aW.pd a0.bw))<|sV (.d (aW.pd (aW.mk 0 0 0)))<|WO.bin (jW a0.bw (aW.mk 0 0 0)) rfl rfl rfl rfl rfl<|sF h (fun h=>?_) fun h=>?_
    ·refine sM rfl<|sV (.ptr 16 7)<|sL rfl<|sE (rI (a0.dG.length:Int)) (qt _ _)<|bE h fun x33 hx33 h=>cD (b9 hx33)<|sF h (fun h=>?_) fun h=>?_
     ·refine sM rfl<|sV (.ptr 16 7)<|sL rfl<|bE h fun x35 hx35 h=>cD (fB hx35)<|sF h (fun h=>?_) fun h=>?_
      ·refine sM rfl<|sV (.ptr 16 7)<|sL rfl<|bE h fun x37 hx37 h=>cD (js hx37)<|sV (rB (x37 != (0:Int)))<|sF h (fun h=>?_) fun h=>?_
       ·refine sM rfl<|sV (.ptr 16 8)<|sL rfl<|bE h fun x39 hx39 h=>cD (b9 hx39)<|sF h (fun h=>?_) fun h=>?_
        ·refine sM rfl<|sV (.ptr 16 9)<|sL rfl<|bE h fun x41 hx41 h=>cD (b9 hx41)<|sV (rB x41)<|sA rfl<|sN<|qR ?_
         cases oI h
         exact qG
        refine sM rfl<|k3<|sU<|sA rfl<|sN<|qR ?_
        cases oI h
        exact qG
       refine sM rfl<|k3<|sU<|sM rfl<|k3<|sU<|sA rfl<|sN<|qR ?_
       cases oI h
       exact qG
      refine sM rfl<|k3<|sK<|sU<|sM rfl<|k3<|sU<|sM rfl<|sK<|sK<|sK ?_
      refine sU<|sA rfl<|sN<|qR ?_
      cases oI h
      exact qG
     refine sM rfl<|k3<|sU<|sM rfl<|k3<|sK<|sU<|sM rfl<|sK<|sK<|sK ?_
     refine sU<|sM rfl<|k3<|sU<|sA rfl<|sN<|qR ?_
     cases oI h
     exact qG
    refine sM rfl<|k3<|sK<|sU<|sM rfl<|k3<|sU<|sM rfl<|sK<|sK<|sK ?_
    refine sK<|sU<|sM rfl<|k3<|sU<|sM rfl<|k3<|sU<|sA rfl<|sN<|qR ?_
    cases oI h
    exact qG
   refine WO.vS (jW a0.bG (aW.mk 0 0 0)) hb31 rfl rfl rfl rfl rfl<|sM rfl<|k3<|sK<|sU<|sM rfl<|k3<|sK<|sU<|sM rfl<|sK ?_
   refine sK<|sK<|sU<|sM rfl<|k3<|sK<|sU<|sM rfl<|k3<|sU<|sM rfl ?_
   refine k3<|sU<|sA rfl<|sN<|qR ?_
   cases oI h
   exact qG
  refine sA rfl<|sN<|cF<|qK<|gS rfl rfl<|sU<|sN<|qR ?_
  cases oI h
  exact qG
 refine sM rfl<|k3<|sU<|sM rfl<|k3<|sU<|sA rfl<|sN<|qS<|gS rfl rfl<|sV (.ptr 16 0) ?_
 refine sL rfl<|sN<|qB<|gS rfl rfl<|sF h (fun h=>?_) fun h=>?_
 ·refine sA rfl<|sN<|cT<|gS rfl rfl<|sM rfl<|sM rfl<|k3<|k3<|sK<|sU<|sM rfl ?_
  refine k3<|k3<|sK<|sU<|sM rfl<|k3<|sK<|sU<|sM rfl ?_
  refine k3<|sK<|sU<|sA rfl<|sN<|qR ?_
  cases oI h
  exact qG
 refine sA rfl<|sN<|cF<|gS rfl rfl<|sF h (fun h=>?_) fun h=>?_
 ·refine sA rfl<|sN<|cT<|WC.qH (R0:=[(1,.cptr [.int .i64 a0.fM,.int .i64 a0.bG.a0,.int .i64 a0.bG.a1,.int .i64 a0.bG.a2,.int .i64 a0.bw.a0,.int .i64 a0.bw.a1,.int .i64 a0.bw.a2,.lst (a0.dG.map (PD.int .i64)),.int .i64 a0.dt,.int .i64 a0.dI]),(3,rB false)]) (B0:=[]) rfl rfl<|sM rfl<|sM rfl<|k3<|sU<|sM rfl<|k3<|sU ?_
  refine sM rfl<|k3<|sK<|sU<|sA rfl<|sN<|qR ?_
  exact oI h▸qD
 refine sA rfl<|sN<|cF<|gS rfl rfl<|sF h (fun h=>?_) fun h=>?_
 ·refine sA rfl<|sN<|cT<|gS rfl rfl<|sV (.ptr 16 1)<|sV (.d (aW.pd a0.bG))<|sV (.d (aW.pd (aW.mk 0 0 0)))<|qZ h (fun hb45 h=>?_) (fun hb45 h=>?_)
  ·refine WO.vS (jW a0.bG (aW.mk 0 0 0)) hb45 rfl rfl rfl rfl rfl<|sM rfl<|sV (.ptr 16 4)<|sV (.d (aW.pd a0.bw))<|sV (.d (aW.pd (aW.mk 0 0 0)))<|WO.bin (jW a0.bw (aW.mk 0 0 0)) rfl rfl rfl rfl rfl<|sF h (fun h=>?_) fun h=>?_
   ·refine sM rfl<|sV (.ptr 16 7)<|sL rfl<|sE (rI (a0.dG.length:Int)) (qt _ _)<|bE h fun x47 hx47 h=>cD (b9 hx47)<|sF h (fun h=>?_) fun h=>?_
    ·refine sM rfl<|sV (.ptr 16 7)<|sL rfl<|bE h fun x49 hx49 h=>cD (fB hx49)<|sF h (fun h=>?_) fun h=>?_
     ·refine sM rfl<|sV (.ptr 16 7)<|sL rfl<|bE h fun x51 hx51 h=>cD (js hx51)<|sV (rB (x51 != (0:Int)))<|sF h (fun h=>?_) fun h=>?_
      ·refine sM rfl<|sV (.ptr 16 8)<|sL rfl<|bE h fun x53 hx53 h=>cD (b9 hx53)<|sF h (fun h=>?_) fun h=>?_
       ·refine sM rfl<|sV (.ptr 16 9)<|sL rfl<|bE h fun x55 hx55 h=>cD (b9 hx55)<|sV (rB x55)<|sA rfl<|sN<|qR ?_
        cases oI h
        exact qG
       refine sM rfl<|k3<|sU<|sA rfl<|sN<|qR ?_
       cases oI h
       exact qG
      refine sM rfl<|k3<|sU<|sM rfl<|k3<|sU<|sA rfl<|sN<|qR ?_
      cases oI h
      exact qG
     refine sM rfl<|k3<|sK<|sU<|sM rfl<|k3<|sU<|sM rfl<|sK<|sK<|sK ?_
     refine sU<|sA rfl<|sN<|qR ?_
     cases oI h
     exact qG
    refine sM rfl<|k3<|sU<|sM rfl<|k3<|sK<|sU<|sM rfl<|sK<|sK<|sK ?_
    refine sU<|sM rfl<|k3<|sU<|sA rfl<|sN<|qR ?_
    cases oI h
    exact qG
   refine sM rfl<|k3<|sK<|sU<|sM rfl<|k3<|sU<|sM rfl<|sK<|sK<|sK ?_
   refine sK<|sU<|sM rfl<|k3<|sU<|sM rfl<|k3<|sU<|sA rfl<|sN<|qR ?_
   cases oI h
   exact qG
  refine WO.vS (jW a0.bG (aW.mk 0 0 0)) hb45 rfl rfl rfl rfl rfl<|sM rfl<|k3<|sK<|sU<|sM rfl<|k3<|sK<|sU<|sM rfl<|sK ?_
  refine sK<|sK<|sU<|sM rfl<|k3<|sK<|sU<|sM rfl<|k3<|sU<|sM rfl ?_
  refine k3<|sU<|sA rfl<|sN<|qR ?_
  cases oI h
  exact qG
 refine sA rfl<|sN<|cF<|qK<|gS rfl rfl<|sU<|sN<|qR ?_
 cases oI h
 exact qG
theorem kk{a0:aH}{r:Bool}(h:ex a0=some r):EvP prog aC ext 352 [.d (aH.pd a0)] [] (rB r,[]):=by
 refine Ev.body rfl Tryz.func352 rfl (by kernel_rfl)<|gS rfl rfl<|sB (.ptr 16 0) 16 (.var (aH.rc a0))<|sU<|sN<|gS rfl rfl<|sV (.d (aH.pd a0))<|bE h fun x1 hx1 h=>cD (n5 hx1)<|sV (rB (!x1))<|sA rfl<|sN<|qR ?_
 cases oI h
 exact qG
theorem kP{a0:(List aH)}{r:Int}(h:cG a0=some r):EvP prog aC ext 393 [rM aH.pd a0,.d (.raw (.func (.func 352) #[] #[]))] [] (rI r,[]):=by
 refine Ev.body rfl Tryz.func393 rfl (by kernel_rfl)<|gS rfl rfl<|sV (r0)<|sN<|qS<|gS rfl rfl<|sM rfl<|sE (rI (a0.length:Int)) (qt _ _)<|sV (r0)<|sN<|bE h fun o8 ho8 h=>WC.block (WC.loop (WL.qx ho8 (fun s R' B'=>hY prog 0 (A R' B') (aC.at_ 393 0 2)=some (A [(0,rM aH.pd a0),(1,.d (.raw (.func (.func 352) #[] #[]))),(7,rI (a0.length:Int)),(8,rI s)] [])) (fun o e R' B'=>match o with| .inl y=>e= .exit 0∧hY prog 0 (A R' B') (aC.at_ 393 0 7)=some (A [] [])| .inr r=>e= .ret∧finish prog (aC.own 393) Tryz.f393 0 (A R' B')=some (rI r,[])) rfl ?_ ?_))
 ·rintro s1 R' B' q2 hI h
  refine gS rfl hI<|sF h (fun h=>?_) fun h=>?_
  ·refine sN<|qS<|cT<|qK<|qS<|qB<|gS rfl rfl<|sM rfl<|sA rfl<|sN<|gS rfl rfl<|sM rfl<|sM rfl<|sM rfl<|bE h fun x4 hx4 h=>?_
   refine eG hx4 rfl<|sV (.d (aH.pd x4))<|bE h fun x5 hx5 h=>qZ h (fun hb6 h=>?_) (fun hb6 h=>?_)
   ·refine WO.rN (v:=rB true) (u:=[]) rfl rfl (fun _=>rfl) rfl rfl rfl rfl rfl (kk hx5) rfl rfl (congrArg (fun b=>RV.d (.bool b)) hb6) rfl<|sN<|cT<|gS rfl rfl<|sM rfl<|sA rfl<|sN<|qR ?_
    cases oI h
    exact⟨nofun,rfl,rfl⟩
   refine WO.rN (v:=rB false) (u:=[]) rfl rfl (fun _=>rfl) rfl rfl rfl rfl rfl (kk hx5) rfl rfl (congrArg (fun b=>RV.d (.bool b)) hb6) rfl<|sN<|cF<|qK<|WC.region rfl rfl<|sV (rI (rW (s1+(1:Int))))<|sM rfl<|sN ?_
   cases oI h
   exact⟨rfl,rfl⟩
  refine sN<|qS<|cF<|qX ?_
  cases oI h
  exact⟨nofun,rfl,rfl⟩
 intro e R' B' he hq
 rcases o8 with y9|r10
 ·obtain⟨rfl,hI⟩:=hq
  refine qE<|gS rfl hI<|sV (rI (-1))<|sN<|qR ?_
  exact oI h▸qD
 obtain⟨rfl,hf⟩:=hq
 cases oI h
 exact hf
theorem jL{a0:(List aH)}{r:Bool}(h:bZ a0=some r):EvP prog aC ext 351 [rM aH.pd a0,.d (.raw (.func (.func 352) #[] #[]))] [] (rB r,[]):=by
 refine Ev.body rfl Tryz.func351 rfl (by kernel_rfl)<|gS rfl rfl<|sU<|sN<|gS rfl rfl<|sM rfl<|sM rfl<|bE h fun x1 hx1 h=>cD (kP hx1)<|sV (rB (decide (x1>=(0:Int))))<|sA rfl<|sN<|qR ?_
 exact oI h▸qD
theorem pQ{a0:(List aH)}{r:Int}(h:fk a0=some r):EvP prog aC ext 354 [rM aH.pd a0] [] (rI r,[]):=by
 refine Ev.body rfl Tryz.func354 rfl (by kernel_rfl)<|gS rfl rfl<|sV (r0)<|sN<|gS rfl rfl<|sV (rI 1)<|sN<|qS<|gS rfl rfl<|sM rfl<|sE (rI (a0.length:Int)) (qt _ _)<|sV (r0)<|sN<|bE h fun o10 ho10 h=>WC.block (WC.loop (WL.qx ho10 (fun s R' B'=>hY prog 0 (A R' B') (aC.at_ 354 0 3)=some (A [(3,rI s.1),(6,rM aH.pd a0),(7,rI (a0.length:Int)),(8,rI s.2)] [])) (fun o e R' B'=>match o with| .inl y=>e= .exit 0∧hY prog 0 (A R' B') (aC.at_ 354 0 10)=some (A [(3,rI y)] [])| .inr r=>e= .ret∧finish prog (aC.own 354) Tryz.f354 0 (A R' B')=some (rI r,[])) rfl ?_ ?_))
 ·rintro⟨s1,s2⟩ R' B' q4 hI h
  refine gS rfl hI<|sF h (fun h=>?_) fun h=>?_
  ·refine sN<|qS<|cT<|qK<|qS<|qB<|gS rfl rfl<|bE h fun x6 hx6 h=>eG hx6 rfl<|sV (.d (aH.pd x6))<|sB (.ptr 80 0) 80 (.var [r0,r0,r0,r0,r0,r0,r0,.ng,r0,r0])<|sH 80 (.var (aH.rc x6))<|sN<|qS<|gS rfl rfl ?_
   refine sV (.ptr 80 0)<|sL rfl<|sF h (fun h=>?_) fun h=>?_
   ·refine sN<|cT<|qX<|qE<|WC.region rfl rfl<|sV (rI (rW (s2+(1:Int))))<|sM rfl<|sN ?_
    cases oI h
    exact⟨rfl,rfl⟩
   refine sN<|cF<|qK<|gS rfl rfl<|sM rfl<|sV (.ptr 80 8)<|sL rfl<|sV (rI (rW (s1*x6.dt)))<|sA rfl<|sN<|gS rfl rfl<|sM rfl<|sF h (fun h=>?_) fun h=>?_
   ·refine sN<|cT<|gS rfl rfl<|sV (r0)<|sN<|qR ?_
    cases oI h
    exact⟨nofun,rfl,rfl⟩
   refine sN<|cF<|qK<|WC.region rfl rfl<|sV (rI (rW (s2+(1:Int))))<|sM rfl<|sN ?_
   cases oI h
   exact⟨rfl,rfl⟩
  refine sN<|qS<|cF<|qX ?_
  cases oI h
  exact⟨nofun,rfl,rfl⟩
 intro e R' B' he hq
 rcases o10 with y11|r12
 ·obtain⟨rfl,hI⟩:=hq
  refine qE<|gS rfl hI<|sM rfl<|sA rfl<|sN<|qR ?_
  exact oI h▸qD
 obtain⟨rfl,hf⟩:=hq
 cases oI h
 exact hf
theorem mO{a0:aQ}{r:Bool}(h:fb a0=some r):EvP prog aC ext 309 [.d (aQ.pd a0)] [] (rB r,[]):=by
 refine Ev.body rfl Tryz.func309 rfl (by kernel_rfl)<|gS rfl rfl<|sB (.ptr 16 0) 16 (.var [rM aH.pd a0.bC])<|sU<|sN<|qS<|gS rfl rfl<|sV (.ptr 16 0)<|sL rfl<|sE (rI (a0.bC.length:Int)) (qt _ _)<|sF h (fun h=>?_) fun h=>?_
 ·refine sM rfl<|k3<|sT<|sN<|cT<|gS rfl rfl<|sU<|sN<|qR ?_
  exact oI h▸qD
 refine sM rfl<|sV (.ptr 16 0)<|sL rfl<|bE h fun x2 hx2 h=>cD (jL hx2)<|sF h (fun h=>?_) fun h=>?_
 ·refine sN<|cT<|gS rfl rfl<|sU<|sN<|qR ?_
  exact oI h▸qD
 refine sN<|cF<|qK<|gS rfl rfl<|sV (.ptr 16 0)<|sL rfl<|bE h fun x4 hx4 h=>cD (pQ hx4)<|sV (rB (decide (x4>(0:Int))))<|sA rfl<|sN<|qR ?_
 exact oI h▸qD
theorem jr{a0:Int}{a1:Int}{a2:Int}{r:Bool}(h:c8 a0 a1 a2=some r):EvP prog aC ext 243 [rI a0,rI a1,rI a2] [] (rB r,[]):=by
 refine Ev.body rfl Tryz.func243 rfl (by kernel_rfl)<|gS rfl rfl<|sU<|sN<|gS rfl rfl<|sM rfl<|sM rfl<|sF h (fun h=>?_) fun h=>?_
 ·refine sM rfl<|sM rfl<|sM rfl<|sV (rB (decide (a0<=a2)))<|sV (rB (decide (a0<=a2)))<|sA rfl<|sN<|qR ?_
  exact oI h▸qD
 refine sM rfl<|k3<|sU<|sA rfl<|sN<|qR ?_
 exact oI h▸qD
theorem nq{a0:av}{r:Bool}(h:dh a0=some r):EvP prog aC ext 242 [.d (av.pd a0)] [] (rB r,[]):=by
 refine Ev.body rfl Tryz.func242 rfl (by kernel_rfl)<|gS rfl rfl<|sB (.ptr 16 0) 16 (.var (av.rc a0))<|sU<|sN<|gS rfl rfl<|sV (.ptr 16 4)<|sV (.d (aa.pd a0.bj))<|sB (.ptr 48 0) 48 (.var [r0,r0,r0])<|sS 48 (.var (aa.rc a0.bj))<|sN<|gS rfl rfl<|sV (.ptr 16 0)<|sL rfl<|sF h (fun h=>?_) fun h=>?_
 ·refine sM rfl<|sV (.ptr 16 0)<|sL rfl<|sV (.ptr 16 1)<|sL rfl<|sV (rB (decide (a0.bp<a0.fTo)))<|sF h (fun h=>?_) fun h=>?_
  ·refine sM rfl<|sV (.ptr 16 1)<|sL rfl<|sV (rB (decide (a0.fTo<=(9007199254740992:Int))))<|sF h (fun h=>?_) fun h=>?_
   ·refine sM rfl<|sV (.ptr 16 2)<|sV (.d (bo.pd a0.gm))<|bE h fun x4 hx4 h=>cD (rate_Valid_ev hx4)<|sF h (fun h=>?_) fun h=>?_
    ·refine sM rfl<|sV (.ptr 16 7)<|sV (.d (aQ.pd a0.bL))<|bE h fun x6 hx6 h=>cD (mO hx6)<|sF h (fun h=>?_) fun h=>?_
     ·refine sM rfl<|sV (.ptr 48 0)<|sL rfl<|bE h fun x8 hx8 h=>cD (jr hx8)<|sF h (fun h=>?_) fun h=>?_
      ·refine sM rfl<|sV (.ptr 48 1)<|sL rfl<|bE h fun x10 hx10 h=>cD (jr hx10)<|sF h (fun h=>?_) fun h=>?_
       ·refine sM rfl<|sV (.ptr 48 2)<|sL rfl<|bE h fun x12 hx12 h=>cD (jr hx12)<|sV (rB x12)<|sA rfl<|sN<|qR ?_
        exact oI h▸qD
       refine sM rfl<|k3<|sU<|sA rfl<|sN<|qR ?_
       exact oI h▸qD
      refine sM rfl<|k3<|sU<|sM rfl<|k3<|sU<|sA rfl<|sN<|qR ?_
      exact oI h▸qD
     refine sM rfl<|k3<|sU<|sM rfl<|k3<|sU<|sM rfl<|k3<|sU ?_
     refine sA rfl<|sN<|qR ?_
     exact oI h▸qD
    refine sM rfl<|k3<|sU<|sM rfl<|k3<|sU<|sM rfl<|k3<|sU ?_
    refine sM rfl<|k3<|sU<|sA rfl<|sN<|qR ?_
    exact oI h▸qD
   refine sM rfl<|k3<|sU<|sM rfl<|k3<|sU<|sM rfl<|k3<|sU ?_
   refine sM rfl<|k3<|sU<|sM rfl<|k3<|sU<|sA rfl<|sN<|qR ?_
   exact oI h▸qD
  refine sM rfl<|k3<|sU<|sM rfl<|k3<|sU<|sM rfl<|k3<|sU ?_
  refine sM rfl<|k3<|sU<|sM rfl<|k3<|sU<|sM rfl<|k3<|sU ?_
  refine sA rfl<|sN<|qR ?_
  exact oI h▸qD
 refine sM rfl<|k3<|sK<|sK<|sU<|sM rfl<|k3<|sU<|sM rfl<|sK<|sK ?_
 refine sK<|sU<|sM rfl<|k3<|sU<|sM rfl<|k3<|sU<|sM rfl<|sK<|sK ?_
 refine sK<|sU<|sM rfl<|k3<|sU<|sA rfl<|sN<|qR ?_
 exact oI h▸qD
theorem pn{a0:(List av)}{r:Bool}(h:eX a0=some r):EvP prog aC ext 156 [rM av.pd a0] [] (rB r,[]):=by
 refine Ev.body rfl Tryz.func156 rfl (by kernel_rfl)<|gS rfl rfl<|sU<|sN<|qS<|gS rfl rfl<|sM rfl<|sE (rI (a0.length:Int)) (qt _ _)<|sV (r0)<|sN<|bE h fun o11 ho11 h=>WC.block (WC.loop (WL.qx ho11 (fun s R' B'=>hY prog 0 (A R' B') (aC.at_ 156 0 2)=some (A [(0,rM av.pd a0),(5,rM av.pd a0),(6,rI (a0.length:Int)),(7,rI s)] [])) (fun o e R' B'=>match o with| .inl y=>e= .exit 0∧hY prog 0 (A R' B') (aC.at_ 156 0 7)=some (A [(0,rM av.pd a0)] [])| .inr r=>e= .ret∧finish prog (aC.own 156) Tryz.f156 0 (A R' B')=some (rB r,[])) rfl ?_ ?_))
 ·rintro s1 R' B' q2 hI h
  refine gS rfl hI<|sF h (fun h=>?_) fun h=>?_
  ·refine sN<|qS<|cT<|qK<|qS<|qB<|gS rfl rfl<|sM rfl<|bE h fun x4 hx4 h=>eG hx4 rfl<|sV (.d (av.pd x4))<|sB (.ptr 64 0) 64 (.var zZ3)<|sA rfl<|sH 64 (.var (av.rc x4))<|sN ?_
   refine WC.cI rfl rfl<|sV (.d (av.pd x4))<|bE h fun x5 hx5 h=>cD (nq hx5)<|sF h (fun h=>?_) fun h=>?_
   ·refine sM rfl<|k3<|k3<|k3<|k3<|sK<|sT ?_
    refine sN<|sO<|cT<|gS rfl rfl<|sU<|sN<|qR ?_
    cases oI h
    exact⟨nofun,rfl,rfl⟩
   refine sM rfl<|sM rfl<|sF h (fun h=>?_) fun h=>?_
   ·refine sM rfl<|sV (.ptr 64 0)<|sL rfl<|sM rfl<|sM rfl<|sV (rI (rW (s1-(1:Int))))<|bE h fun x8 hx8 h=>eG hx8 rfl<|sV (.cptr [.int .i64 x8.fTo,.int .i64 x8.gm.bG,.int .i64 x8.gm.bw,.int .i64 x8.bj.fX,.int .i64 x8.bj.fY,.int .i64 x8.bj.fZ,.lst (x8.bL.bC.map aH.pd)])<|sC rfl<|sV (rB (decide (x4.bp<x8.fTo)))<|sV (rB (decide (x4.bp<x8.fTo)))<|sF h (fun h=>?_) fun h=>?_
    ·refine sN<|sO<|cT<|gS rfl rfl<|sU<|sN<|qR ?_
     cases oI h
     exact⟨nofun,rfl,rfl⟩
    refine sN<|sO<|cF<|qK<|WC.region rfl rfl<|sV (rI (rW (s1+(1:Int))))<|sM rfl<|sN ?_
    cases oI h
    exact⟨rfl,rfl⟩
   refine sM rfl<|k3<|k3<|k3<|sU<|sU ?_
   refine sN<|sO<|cF<|qK<|WC.region rfl rfl<|sV (rI (rW (s1+(1:Int))))<|sM rfl<|sN ?_
   cases oI h
   exact⟨rfl,rfl⟩
  refine sN<|qS<|cF<|qX ?_
  cases oI h
  exact⟨nofun,rfl,rfl⟩
 intro e R' B' he hq
 rcases o11 with y12|r13
 ·obtain⟨rfl,hI⟩:=hq
  refine qE<|gS rfl hI<|sM rfl<|sE (rI (a0.length:Int)) (qt _ _)<|bE h fun x14 hx14 h=>cD (jr hx14)<|sA rfl<|sN<|qR ?_
  exact oI h▸qD
 obtain⟨rfl,hf⟩:=hq
 cases oI h
 exact hf
theorem lJ{a0:(List UInt8)}{r:Bool}(h:f7 a0=some r):EvP prog aC ext 306 [rS a0] [] (rB r,[]):=by
 refine Ev.body rfl Tryz.func306 rfl (by kernel_rfl)<|gS rfl rfl<|sU<|sN<|gS rfl rfl<|sM rfl<|sM rfl<|sV (rB (!(a0==a0)))<|sA rfl<|sN<|qR ?_
 exact oI h▸qD
theorem fd{a0:(List UInt8)}{a1:(List UInt8)}{r:Int}(h:bW a0 a1=some r):EvP prog aC ext 239 [rS a0,rS a1] [] (rI r,[]):=by
 refine Ev.body rfl Tryz.func239 rfl (by kernel_rfl)<|gS rfl rfl<|sV (r0)<|sN<|gS rfl rfl<|sM rfl<|bE h fun x1 hx1 h=>cD (lJ hx1)<|sA rfl<|sN<|gS rfl rfl<|sM rfl<|bE h fun x2 hx2 h=>cD (lJ hx2)<|sA rfl ?_
 refine sN<|qS<|gS rfl rfl<|sF h (fun h=>?_) fun h=>?_
 ·refine sN<|cT<|qS<|gS rfl rfl<|sF h (fun h=>?_) fun h=>?_
  ·refine sN<|cT<|gS rfl rfl<|sV (r0)<|sN<|qR ?_
   exact oI h▸qD
  refine sN<|cF<|qK<|gS rfl rfl<|sV (rI (-1))<|sN<|qR ?_
  exact oI h▸qD
 refine sN<|cF<|qK<|qS<|gS rfl rfl<|sF h (fun h=>?_) fun h=>?_
 ·refine sN<|cT<|gS rfl rfl<|sV (rI 1)<|sN<|qR ?_
  exact oI h▸qD
 refine sN<|cF<|qK<|qS<|gS rfl rfl<|sM rfl<|sM rfl<|sF h (fun h=>?_) fun h=>?_
 ·refine sN<|cT<|gS rfl rfl<|sV (rI (-1))<|sN<|qR ?_
  exact oI h▸qD
 refine sN<|cF<|qK<|qS<|gS rfl rfl<|sM rfl<|sM rfl<|sF h (fun h=>?_) fun h=>?_
 ·refine sN<|cT<|gS rfl rfl<|sV (rI 1)<|sN<|qR ?_
  exact oI h▸qD
 refine sN<|cF<|qK<|gS rfl rfl<|sV (r0)<|sN<|qR ?_
 exact oI h▸qD
theorem gQ{a0:(List Int)}{r:Int}(h:cu a0=some r):EvP prog aC ext 95 [rL a0] [] (rI r,[]):=by
 refine Ev.body rfl Tryz.func95 rfl (by kernel_rfl)<|gS rfl rfl<|sV (r0)<|sN<|gS rfl rfl<|sV (r0)<|sN<|qS<|gS rfl rfl<|sM rfl<|sE (rI (a0.length:Int)) (qt _ _)<|sV (r0)<|sN<|bE h fun o7 ho7 h=>WC.block (WC.loop (WL.qx ho7 (fun s R' B'=>hY prog 0 (A R' B') (aC.at_ 95 0 3)=some (A [(3,r0),(6,rL a0),(7,rI (a0.length:Int)),(8,rI s)] [])) (fun o e R' B'=>match o with| .inl y=>e= .exit 0∧hY prog 0 (A R' B') (aC.at_ 95 0 8)=some (A [(3,r0)] [])| .inr r=>e= .ret∧finish prog (aC.own 95) Tryz.f95 0 (A R' B')=some (rI r,[])) rfl ?_ ?_))
 ·rintro s1 R' B' q2 hI h
  refine gS rfl hI<|sF h (fun h=>?_) fun h=>?_
  ·refine sN<|qS<|cT<|qK<|qS<|qB<|gS rfl rfl<|bE h fun x4 hx4 h=>eG hx4 rfl<|sC rfl<|sA rfl<|sN<|gS rfl rfl<|sM rfl<|sM rfl ?_
   refine sF h (fun h=>?_) fun h=>?_
   ·refine sN<|cT<|gS rfl rfl<|sM rfl<|sA rfl<|sN<|qR ?_
    cases oI h
    exact⟨nofun,rfl,rfl⟩
   refine sN<|cF<|qK<|WC.region rfl rfl<|sV (rI (rW (s1+(1:Int))))<|sM rfl<|sN ?_
   cases oI h
   exact⟨rfl,rfl⟩
  refine sN<|qS<|cF<|qX ?_
  cases oI h
  exact⟨nofun,rfl,rfl⟩
 intro e R' B' he hq
 rcases o7 with y8|r9
 ·obtain⟨rfl,hI⟩:=hq
  refine qE<|gS rfl hI<|sM rfl<|sA rfl<|sN<|qR ?_
  exact oI h▸qD
 obtain⟨rfl,hf⟩:=hq
 cases oI h
 exact hf
theorem mP{a0:aw}{a1:aw}{r:Int}(h:eh a0 a1=some r):EvP prog aC ext 153 [.d (aw.pd a0),.d (aw.pd a1)] [] (rI r,[]):=by
 refine Ev.body rfl Tryz.func153 rfl (by kernel_rfl)<|gS rfl rfl<|sB (.ptr 32 0) 32 (.var (aw.rc a0))<|sB (.ptr 48 0) 48 (.var (aw.rc a1))<|sV (r0)<|sN<|WC.cI rfl rfl<|sV (.ptr 32 0)<|sL rfl<|sV (.ptr 48 0)<|sL rfl<|bE h fun x1 hx1 h=>cD (fd hx1)<|sV (.ptr 32 1)<|sL rfl ?_
 refine sV (.ptr 48 1)<|sL rfl<|bE h fun x2 hx2 h=>cD (fd hx2)<|sV (.ptr 32 2)<|sL rfl<|sV (.ptr 48 2)<|sL rfl<|bE h fun x3 hx3 h=>cD (fd hx3)<|sV (.ptr 32 3)<|sL rfl<|sV (.ptr 48 3)<|sL rfl<|bE h fun x4 hx4 h=>?_
 refine cD (fd hx4)<|sV (.d (.lst ([x1,x2,x3,x4].map (PD.int .i64))))<|bE h fun x5 hx5 h=>cD (gQ hx5)<|sA rfl ?_
 refine sN<|sO<|qR ?_
 exact oI h▸qD
theorem gz{a0:ar}{r:Bool}(h:cM a0=some r):EvP prog aC ext 83 [.d (ar.pd a0)] [] (rB r,[]):=by
 refine Ev.body rfl Tryz.func83 rfl (by kernel_rfl)<|gS rfl rfl<|sB (.ptr 16 0) 16 (.var [rM aA.pd a0.aU])<|sU<|sN<|qS<|gS rfl rfl<|sV (.ptr 16 0)<|sL rfl<|sE (rI (a0.aU.length:Int)) (qt _ _)<|sV (r0)<|sN<|bE h fun o14 ho14 h=>WC.block (WC.loop (WL.qx ho14 (fun s R' B'=>hY prog 0 (A R' B') (aC.at_ 83 0 2)=some (A [(1,.ptr 16 0),(6,rM aA.pd a0.aU),(7,rI (a0.aU.length:Int)),(8,rI s)] [(16,.var [rM aA.pd a0.aU])])) (fun o e R' B'=>match o with| .inl y=>e= .exit 0∧hY prog 0 (A R' B') (aC.at_ 83 0 7)=some (A [(1,.ptr 16 0)] [(16,.var [rM aA.pd a0.aU])])| .inr r=>e= .ret∧finish prog (aC.own 83) Tryz.f83 0 (A R' B')=some (rB r,[])) rfl ?_ ?_))
 ·rintro s1 R' B' q2 hI h
  refine gS rfl hI<|sF h (fun h=>?_) fun h=>?_
  ·refine sN<|qS<|cT<|qK<|qS<|qB<|gS rfl rfl<|sM rfl<|bE h fun x4 hx4 h=>eG hx4 rfl<|sV (.d (aA.pd x4))<|sB (.ptr 64 0) 64 (.var [rS [],rS [],rS [],rS [],.ng])<|sA rfl<|sS 64 (.var (aA.rc x4))<|sN ?_
   refine WC.cI rfl rfl<|sV (.ptr 64 0)<|sV (.d (aw.pd x4.aD))<|bE h fun x5 hx5 h=>cD (lG hx5)<|sF h (fun h=>?_) fun h=>?_
   ·refine sM rfl<|k3<|sK<|sT<|sM rfl<|k3<|k3<|sK<|sK ?_
    refine k3<|k3<|sK<|sT ?_
    refine sN<|sO<|cT<|gS rfl rfl<|sU<|sN<|qR ?_
    cases oI h
    exact⟨nofun,rfl,rfl⟩
   refine sM rfl<|sV (.ptr 64 4)<|sL rfl<|bE h fun x7 hx7 h=>cD (pn hx7)<|sV (rB (!x7))<|sF h (fun h=>?_) fun h=>?_
   ·refine sM rfl<|k3<|k3<|k3<|k3<|sK<|sK ?_
    refine sK<|sT ?_
    refine sN<|sO<|cT<|gS rfl rfl<|sU<|sN<|qR ?_
    cases oI h
    exact⟨nofun,rfl,rfl⟩
   refine sM rfl<|sM rfl<|sF h (fun h=>?_) fun h=>?_
   ·refine sM rfl<|sV (.ptr 16 0)<|sL rfl<|sM rfl<|sV (rI (rW (s1-(1:Int))))<|bE h fun x10 hx10 h=>eG hx10 rfl<|sV (.cptr [.str x10.aD.bc,.str x10.aD.aO,.str x10.aD.ap,.str x10.aD.bd,.lst (x10.bM.map av.pd)])<|sV (.d (aw.pd x10.aD))<|sV (.ptr 64 0)<|sV (.d (aw.pd x4.aD))<|bE h fun x11 hx11 h=>cD (mP hx11)<|sV (rB (decide (x11>=(0:Int))))<|sV (rB (decide (x11>=(0:Int)))) ?_
    refine sF h (fun h=>?_) fun h=>?_
    ·refine sN<|sO<|cT<|gS rfl rfl<|sU<|sN<|qR ?_
     cases oI h
     exact⟨nofun,rfl,rfl⟩
    refine sN<|sO<|cF<|qK<|WC.region rfl rfl<|sV (rI (rW (s1+(1:Int))))<|sM rfl<|sN ?_
    cases oI h
    exact⟨rfl,rfl⟩
   refine sM rfl<|k3<|k3<|k3<|sK<|sK<|sU<|sU ?_
   refine sN<|sO<|cF<|qK<|WC.region rfl rfl<|sV (rI (rW (s1+(1:Int))))<|sM rfl<|sN ?_
   cases oI h
   exact⟨rfl,rfl⟩
  refine sN<|qS<|cF<|qX ?_
  cases oI h
  exact⟨nofun,rfl,rfl⟩
 intro e R' B' he hq
 rcases o14 with y15|r16
 ·obtain⟨rfl,hI⟩:=hq
  refine qE<|gS rfl hI<|sV (.ptr 16 0)<|sL rfl<|sE (rI (a0.aU.length:Int)) (qt _ _)<|sV (rB (decide ((a0.aU.length:Int)<=(128:Int))))<|sA rfl<|sN<|qR ?_
  exact oI h▸qD
 obtain⟨rfl,hf⟩:=hq
 cases oI h
 exact hf
theorem ni{a0:Int}{r:Bool}(h:je a0=some r):EvP prog aC ext 170 [rI a0] [] (rB r,[]):=by
 refine Ev.body rfl Tryz.func170 rfl (by kernel_rfl)<|gS rfl rfl<|sU<|sN<|gS rfl rfl<|sM rfl<|sM rfl<|sV (rB (a0 != a0))<|sA rfl<|sN<|qR ?_
 exact oI h▸qD
theorem bI{a0:Int}{a1:Int}{r:Int}(h:bH a0 a1=some r):EvP prog aC ext 96 [rI a0,rI a1] [] (rI r,[]):=by
 refine Ev.body rfl Tryz.func96 rfl (by kernel_rfl)<|gS rfl rfl<|sV (r0)<|sN<|gS rfl rfl<|sM rfl<|bE h fun x1 hx1 h=>cD (ni hx1)<|sA rfl<|sN<|gS rfl rfl<|sM rfl<|bE h fun x2 hx2 h=>cD (ni hx2)<|sA rfl ?_
 refine sN<|qS<|gS rfl rfl<|sF h (fun h=>?_) fun h=>?_
 ·refine sN<|cT<|qS<|gS rfl rfl<|sF h (fun h=>?_) fun h=>?_
  ·refine sN<|cT<|gS rfl rfl<|sV (r0)<|sN<|qR ?_
   exact oI h▸qD
  refine sN<|cF<|qK<|gS rfl rfl<|sV (rI (-1))<|sN<|qR ?_
  exact oI h▸qD
 refine sN<|cF<|qK<|qS<|gS rfl rfl<|sF h (fun h=>?_) fun h=>?_
 ·refine sN<|cT<|gS rfl rfl<|sV (rI 1)<|sN<|qR ?_
  exact oI h▸qD
 refine sN<|cF<|qK<|qS<|gS rfl rfl<|sM rfl<|sM rfl<|sF h (fun h=>?_) fun h=>?_
 ·refine sN<|cT<|gS rfl rfl<|sV (rI (-1))<|sN<|qR ?_
  exact oI h▸qD
 refine sN<|cF<|qK<|qS<|gS rfl rfl<|sM rfl<|sM rfl<|sF h (fun h=>?_) fun h=>?_
 ·refine sN<|cT<|gS rfl rfl<|sV (rI 1)<|sN<|qR ?_
  exact oI h▸qD
 refine sN<|cF<|qK<|gS rfl rfl<|sV (r0)<|sN<|qR ?_
 exact oI h▸qD
theorem qo{a0:ae}{a1:ae}{r:Int}(h:cn a0 a1=some r):EvP prog aC ext 80 [.d (ae.pd a0),.d (ae.pd a1)] [] (rI r,[]):=by
 refine Ev.body rfl Tryz.func80 rfl (by kernel_rfl)<|gS rfl rfl<|sB (.ptr 32 0) 32 (.var (ae.rc a0))<|sB (.ptr 48 0) 48 (.var (ae.rc a1))<|sV (r0)<|sN<|WC.cI rfl rfl<|sV (.ptr 32 0)<|sV (.d (aw.pd a0.aD))<|sV (.ptr 48 0)<|sV (.d (aw.pd a1.aD))<|bE h fun x1 hx1 h=>cD (mP hx1)<|sV (.ptr 32 4)<|sL rfl ?_
 refine sV (.ptr 48 4)<|sL rfl<|bE h fun x2 hx2 h=>cD (bI hx2)<|sV (.ptr 32 5)<|sL rfl<|sV (.ptr 48 5)<|sL rfl<|bE h fun x3 hx3 h=>cD (bI hx3)<|sV (.ptr 32 6)<|sL rfl<|sV (.ptr 48 6)<|sL rfl<|bE h fun x4 hx4 h=>?_
 refine cD (bI hx4)<|sV (.ptr 32 7)<|sL rfl<|sV (.ptr 48 7)<|sL rfl<|bE h fun x5 hx5 h=>cD (bI hx5)<|sV (.ptr 32 8)<|sL rfl<|sV (.ptr 48 8)<|sL rfl<|bE h fun x6 hx6 h=>cD (bI hx6)<|sV (.d (.lst ([x1,x2,x3,x4,x5,x6].map (PD.int .i64))))<|bE h fun x7 hx7 h=>?_
 refine cD (gQ hx7)<|sA rfl ?_
 refine sN<|sO<|qR ?_
 cases oI h
 exact qG
theorem n7{d0:(List ae)}{r:(List ae)}(h:ey d0=some r):EvP prog aC ext 183 [.ref 0 0] [.arr 0 66 (d0.map ae.pd)] (rM ae.pd r,[.dead]):=by
 refine Ev.body rfl Tryz.func183 rfl (by kernel_rfl)<|gS rfl rfl<|sV .ng<|sN<|qS<|gS rfl rfl<|sM rfl<|WO.u9 rfl rfl rfl rfl rfl rfl rfl rfl rfl<|sF h (fun h=>?_) fun h=>?_
 ·refine sN<|cT<|gS rfl rfl<|sM rfl<|sA rfl<|sN<|qR ?_
  exact oI h▸qD
 refine sN<|cF<|qK<|qS<|gS rfl rfl<|sV (rI 1)<|sN<|bE h fun o39 ho39 h=>WC.block (WC.loop (WL.qx ho39 (fun s R' B'=>hY prog 1 (A R' B') (aC.at_ 183 1 4)=some (A [(0,.ref 0 0),(3,rI s)] [(0,.arr 0 66 (d0.map ae.pd))])) (fun o e R' B'=>match o with| .inl y=>e= .exit 0∧hY prog 1 (A R' B') (aC.at_ 183 1 16)=some (A [(0,.ref 0 0)] [(0,.arr 0 66 (d0.map ae.pd))])| .inr r=>e= .ret∧finish prog (aC.own 183) Tryz.f183 1 (A R' B')=some (rM ae.pd r,[.dead])) rfl ?_ ?_))
 ·rintro s2 R' B' q3 hI h
  refine qS<|gS rfl hI<|sM rfl<|sM rfl<|WO.u9 rfl rfl rfl rfl rfl rfl rfl rfl rfl<|sF h (fun h=>?_) fun h=>?_
  ·refine sN<|cT<|qK<|qS<|qB<|WC.cI rfl rfl<|sM rfl<|sM rfl<|bE h fun x6 hx6 h=>WO.rG hx6 rfl rfl rfl rfl rfl rfl rfl rfl<|bE h fun x7 hx7 h=>WO.rC hx7 rfl rfl rfl rfl rfl rfl<|sM rfl<|sM rfl<|sV (rI (rW (s2-(1:Int)))) ?_
   refine bE h fun x9 hx9 h=>WO.rG hx9 rfl rfl rfl rfl rfl rfl rfl rfl<|bE h fun x10 hx10 h=>WO.rC hx10 rfl rfl rfl rfl rfl rfl<|qZ h (fun hb11 h=>?_) (fun hb11 h=>?_)
   ·refine WO.vS (eqE_66 x7 x10) hb11 rfl rfl rfl rfl rfl ?_
    refine sN<|sO<|cT<|gS rfl rfl<|sM rfl<|sM rfl<|bE h fun x12 hx12 h=>WO.subR hx12 rfl rfl rfl rfl rfl rfl rfl rfl rfl rfl rfl rfl<|sA rfl<|sN<|qS<|gS rfl rfl<|sV (rI 1)<|sN<|bE h fun o32 ho32 h=>WC.block (WC.loop (WL.qx ho32 (fun s R' B'=>hY prog 1 (A R' B') (aC.at_ 183 1 9)=some (A [(0,.ref 0 0),(3,rI s.1),(4,.view 0 0 (0+(s2:Int).toNat) (0+((d0.length:Int):Int).toNat)),(5,rI s.2.1)] [(0,.arr 0 66 (s.2.2.map ae.pd))])) (fun o e R' B'=>e= .exit 2∧hY prog 1 (A R' B') (aC.at_ 183 1 14)=some (A [(0,.ref 0 0),(3,rI o.1)] [(0,.arr 0 66 (o.2.map ae.pd))])) rfl ?_ ?_))
    ·rintro⟨s13,s14,s15⟩ R' B' q18 hI h
     unfold gg at h
     refine qS<|gS rfl hI<|sM rfl<|sM rfl<|bE h fun x19 hx19 h=>WO.lenVw hx19 rfl rfl rfl rfl rfl rfl rfl rfl rfl<|sF h (fun h=>?_) fun h=>?_
     ·refine sN<|cT<|qK<|qS<|qB<|WC.cI rfl rfl<|sM rfl<|sM rfl<|bE h fun x21 hx21 h=>WO.eltV hx21 rfl rfl rfl rfl rfl rfl rfl rfl<|bE h fun x22 hx22 h=>WO.rC hx22 rfl rfl rfl rfl rfl rfl<|sM rfl<|sM rfl<|sV (rI (rW (s14-(1:Int)))) ?_
      refine bE h fun x23 hx23 h=>WO.eltV hx23 rfl rfl rfl rfl rfl rfl rfl rfl<|bE h fun x24 hx24 h=>WO.rC hx24 rfl rfl rfl rfl rfl rfl<|qZ h (fun hb25 h=>?_) (fun hb25 h=>?_)
      ·refine WO.vS (eqN_66 x22 x24) hb25 rfl rfl rfl rfl rfl ?_
       refine sN<|sO<|cT<|gS rfl rfl<|sM rfl<|sM rfl<|sM rfl<|sM rfl<|bE h fun x26 hx26 h=>WO.eltV hx26 rfl rfl rfl rfl rfl rfl rfl rfl<|bE h fun x27 hx27 h=>WO.rC hx27 rfl rfl rfl rfl rfl rfl<|bE h fun x29 hx29 h=>WO.rG hx29 rfl rfl rfl rfl rfl rfl rfl rfl<|bE h fun x30 hx30 h=>WO.sY (g:=ae.pd) (sz:=9) (p:=ae.pd x27) hx30 (by intro _;kernel_rfl) (by intro _;kernel_rfl) rfl rfl rfl rfl rfl rfl rfl rfl rfl ?_
       refine sN<|WC.region rfl rfl<|sM rfl<|sV (rI (rW (s13+(1:Int))))<|sA rfl<|sN<|WC.region rfl rfl<|sM rfl<|sV (rI (rW (s14+(1:Int))))<|sA rfl<|sN ?_
       cases oI h
       exact⟨rfl,rfl⟩
      refine WO.vS (eqN_66 x22 x24) hb25 rfl rfl rfl rfl rfl ?_
      refine sN<|sO<|cF<|qK<|WC.region rfl rfl<|sM rfl<|sV (rI (rW (s14+(1:Int))))<|sA rfl<|sN ?_
      cases oI h
      exact⟨rfl,rfl⟩
     refine sN<|cF<|qX ?_
     cases oI h
     exact⟨nofun,rfl,rfl⟩
    intro e R' B' he hq
    obtain⟨rfl,hI⟩:=hq
    refine qE<|gS rfl hI<|sM rfl<|sM rfl<|bE h fun x33 hx33 h=>WO.subR hx33 rfl rfl rfl rfl rfl rfl rfl rfl rfl rfl rfl rfl<|bE h fun x34 hx34 h=>WO.clearN (z:=(ae.mk (aw.mk [] [] [] []) 0 0 0 0 0)) (g:=ae.pd) rfl rfl rfl rfl rfl rfl rfl (dst_view hx34 rfl) rfl rfl rfl rfl<|sN<|gS rfl rfl<|sM rfl<|sM rfl<|bE h fun x36 hx36 h=>WO.subR hx36 rfl rfl rfl rfl rfl rfl rfl rfl rfl rfl rfl rfl<|sA rfl ?_
    refine sN<|qR<|bE h fun x37 hx37 h=>?_
    cases oI h
    exact⟨nofun,rfl,(AT hx37 rfl rfl rfl rfl rfl)⟩
   refine WO.vS (eqE_66 x7 x10) hb11 rfl rfl rfl rfl rfl ?_
   refine sN<|sO<|cF<|qK<|WC.region rfl rfl<|sM rfl<|sV (rI (rW (s2+(1:Int))))<|sA rfl<|sN ?_
   cases oI h
   exact⟨rfl,rfl⟩
  refine sN<|cF<|qX ?_
  cases oI h
  exact⟨nofun,rfl,rfl⟩
 intro e R' B' he hq
 rcases o39 with y40|r41
 ·obtain⟨rfl,hI⟩:=hq
  refine qE<|gS rfl hI<|sM rfl<|sA rfl<|sN<|qR ?_
  exact oI h▸qD
 obtain⟨rfl,hf⟩:=hq
 cases oI h
 exact hf
theorem oP{a0:(List ae)}{r:(List ae)}(h:di a0=some r):EvP prog aC ext 106 [rM ae.pd a0] [] (rM ae.pd r,[]):=by
 refine Ev.body rfl Tryz.func106 rfl (by kernel_rfl)<|gS rfl rfl<|sV .ng<|sN<|gS rfl rfl<|sM rfl<|bE h fun x1 hx1 h=>cR (.ref 80 0) [(80,.arr 0 66 (x1.map ae.pd))] (clone_182 hx1)<|sA rfl<|sN<|gS rfl rfl<|sM rfl<|bE h fun x2 hx2 h=>cR (.tup []) [(80,.arr 0 66 (x2.map ae.pd))] (sort_79_80 hx2)<|sN ?_
 refine gS rfl rfl<|sM rfl<|bE h fun x3 hx3 h=>cR (rM ae.pd x3) [(80,.dead)] (n7 hx3)<|sA rfl<|sN<|qR ?_
 exact oI h▸qD
theorem qp{a0:Int}{a1:Int}{a2:Int}{r:Bool}(h:iR a0 a1 a2=some r):EvP prog aC ext 244 [rI a0,rI a1,rI a2] [] (rB r,[]):=by
 refine Ev.body rfl Tryz.func244 rfl (by kernel_rfl)<|gS rfl rfl<|sU<|sN<|gS rfl rfl<|sM rfl<|sM rfl<|sF h (fun h=>?_) fun h=>?_
 ·refine sM rfl<|sM rfl<|sM rfl<|sV (rB (decide (a0<=a2)))<|sV (rB (decide (a0<=a2)))<|sA rfl<|sN<|qR ?_
  exact oI h▸qD
 refine sM rfl<|k3<|sU<|sA rfl<|sN<|qR ?_
 exact oI h▸qD
theorem px{a0:ae}{r:Bool}(h:eY a0=some r):EvP prog aC ext 157 [.d (ae.pd a0)] [] (rB r,[]):=by
 refine Ev.body rfl Tryz.func157 rfl (by kernel_rfl)<|gS rfl rfl<|sB (.ptr 16 0) 16 (.var (ae.rc a0))<|sU<|sN<|gS rfl rfl<|sV (.ptr 16 0)<|sV (.d (aw.pd a0.aD))<|bE h fun x1 hx1 h=>qZ h (fun hb2 h=>?_) (fun hb2 h=>?_)
 ·refine WO.rN (v:=rB true) (u:=[]) rfl rfl (fun _=>rfl) rfl rfl rfl rfl rfl (lG hx1) rfl rfl (congrArg (fun b=>RV.d (.bool b)) hb2) rfl<|sM rfl<|sV (.ptr 16 5)<|sL rfl<|sV (rB (decide (a0.aM>=(0:Int))))<|sF h (fun h=>?_) fun h=>?_
  ·refine sM rfl<|sV (.ptr 16 5)<|sL rfl<|sV (.ptr 16 4)<|sL rfl<|sV (rB (decide (a0.aM<=a0.aX)))<|sF h (fun h=>?_) fun h=>?_
   ·refine sM rfl<|sV (.ptr 16 4)<|sL rfl<|sV (.ptr 16 6)<|sL rfl<|sV (rB (decide (a0.aX<=a0.bf)))<|sF h (fun h=>?_) fun h=>?_
    ·refine sM rfl<|sV (.ptr 16 6)<|sL rfl<|sV (rB (decide (a0.bf<=(18014398509481984:Int))))<|sF h (fun h=>?_) fun h=>?_
     ·refine sM rfl<|sV (.ptr 16 7)<|sL rfl<|bE h fun x7 hx7 h=>cD (qp hx7)<|sF h (fun h=>?_) fun h=>?_
      ·refine sM rfl<|sV (.ptr 16 8)<|sL rfl<|bE h fun x9 hx9 h=>cD (qp hx9)<|sV (rB x9)<|sA rfl<|sN<|qR ?_
       cases oI h
       exact qG
      refine sM rfl<|k3<|sU<|sA rfl<|sN<|qR ?_
      cases oI h
      exact qG
     refine sM rfl<|k3<|sU<|sM rfl<|k3<|sU<|sA rfl<|sN<|qR ?_
     cases oI h
     exact qG
    refine sM rfl<|k3<|sU<|sM rfl<|k3<|sU<|sM rfl<|k3<|sU ?_
    refine sA rfl<|sN<|qR ?_
    cases oI h
    exact qG
   refine sM rfl<|k3<|sK<|sK<|sU<|sM rfl<|k3<|sU<|sM rfl<|sK<|sK ?_
   refine sK<|sU<|sM rfl<|k3<|sU<|sA rfl<|sN<|qR ?_
   cases oI h
   exact qG
  refine sM rfl<|k3<|sK<|sK<|sU<|sM rfl<|k3<|sK<|sK<|sU<|sM rfl ?_
  refine k3<|sU<|sM rfl<|k3<|sU<|sM rfl<|k3<|sU<|sA rfl ?_
  refine sN<|qR ?_
  cases oI h
  exact qG
 refine WO.rN (v:=rB false) (u:=[]) rfl rfl (fun _=>rfl) rfl rfl rfl rfl rfl (lG hx1) rfl rfl (congrArg (fun b=>RV.d (.bool b)) hb2) rfl<|sM rfl<|k3<|sU<|sM rfl<|k3<|sK<|sK<|sU<|sM rfl<|sK ?_
 refine k3<|sK<|sU<|sM rfl<|k3<|sU<|sM rfl<|k3<|sU ?_
 refine sM rfl<|k3<|sU<|sA rfl<|sN<|qR ?_
 cases oI h
 exact qG
theorem nQ{a0:av}{r:av}(h:dD a0=some r):EvP prog aC ext 326 [.d (av.pd a0)] [] (.d (av.pd r),[]):=by
 refine Ev.body rfl Tryz.func326 rfl (by kernel_rfl)<|gS rfl rfl<|sB (.ptr 16 0) 16 (.var (av.rc a0))<|sB (.ptr 32 0) 32 (.var zZ3)<|sN<|gS rfl rfl<|sV (.ptr 16 7)<|sV (.ptr 16 7)<|sL rfl<|bE h fun x1 hx1 h=>cR (.ref 112 0) [(112,.arr 0 184 (x1.map aH.pd))] (clone_364 hx1)<|sV (.ptr 16 7)<|sV (.ptr 16 7)<|sS 16 (.var (rI a0.bp::rI a0.fTo::rI a0.gm.bG::rI a0.gm.bw::aa.rc a0.bj++[.ref 112 0]))<|sN ?_
 refine qS<|gS rfl rfl<|sV (.ptr 16 7)<|sV (.ptr 16 7)<|sL rfl<|WO.u9 rfl rfl rfl rfl rfl rfl rfl rfl rfl<|sV (r0)<|sN<|bE h fun o16 ho16 h=>WC.block (WC.loop (WL.qx ho16 (fun s R' B'=>hY prog 0 (A R' B') (aC.at_ 326 0 3)=some (A [(1,.ptr 16 0),(2,.ptr 32 0),(13,rI (x1.length:Int)),(14,rI s.1)] [(16,.var (rI a0.bp::rI a0.fTo::rI a0.gm.bG::rI a0.gm.bw::aa.rc a0.bj++[.ref 112 0])),(32,.var zZ3),(112,.arr 0 184 (s.2.map aH.pd))])) (fun o e R' B'=>e= .exit 0∧hY prog 0 (A R' B') (aC.at_ 326 0 7)=some (A [(1,.ptr 16 0),(2,.ptr 32 0)] [(16,.var (rI a0.bp::rI a0.fTo::rI a0.gm.bG::rI a0.gm.bw::aa.rc a0.bj++[.ref 112 0])),(32,.var zZ3),(112,.arr 0 184 (o.map aH.pd))])) rfl ?_ ?_))
 ·rintro⟨s2,s3⟩ R' B' q5 hI h
  refine gS rfl hI<|sF h (fun h=>?_) fun h=>?_
  ·refine sN<|qS<|cT<|qK<|qS<|qB<|gS rfl rfl<|sM rfl<|sA rfl<|sN<|WC.rb rfl rfl<|sV (.ptr 16 7)<|sV (.ptr 16 7)<|sL rfl<|sM rfl ?_
   refine sV (.ptr 16 7)<|sV (.ptr 16 7)<|sL rfl<|sM rfl<|bE h fun x8 hx8 h=>WO.rG hx8 rfl rfl rfl rfl rfl rfl rfl rfl<|sV (.elt 112 0 (s2).toNat 7)<|bE h fun x9 hx9 h=>WO.rC hx9 rfl rfl rfl rfl rfl rfl<|bE h fun x10 hx10 h=>cR (.ref 448 0) [(448,.arr 0 3 (x10.map (PD.int .i64)))] (clone_107 hx10)<|bE h fun x12 hx12 h=>WO.rG hx12 rfl rfl rfl rfl rfl rfl rfl rfl<|sV (.elt 112 0 (s2).toNat 7)<|bE h fun x13 hx13 h=>?_
   refine WO.xY (g:=aH.pd) (u:=[(448,.dead)]) (sz:=1) hx13 (fun _=>rfl) (fun _=>Nat.le_of_ble_eq_true rfl) rfl rfl rfl rfl rfl rfl rfl rfl rfl rfl rfl ?_
   refine sN<|sO<|WC.region rfl rfl<|sV (rI (rW (s2+(1:Int))))<|sM rfl<|sN ?_
   cases oI h
   exact⟨rfl,rfl⟩
  refine sN<|qS<|cF<|qX ?_
  cases oI h
  exact⟨nofun,rfl,rfl⟩
 intro e R' B' he hq
 obtain⟨rfl,hI⟩:=hq
 refine qE<|gS rfl hI<|sV (.agg (rI a0.bp::rI a0.fTo::rI a0.gm.bG::rI a0.gm.bw::aa.rc a0.bj++[.ref 112 0]))<|sH 32 (.var (rI a0.bp::rI a0.fTo::rI a0.gm.bG::rI a0.gm.bw::aa.rc a0.bj++[.ref 112 0]))<|sN<|qR ?_
 cases oI h
 exact qG
theorem pj{a0:aA}{r:aA}(h:eW a0=some r):EvP prog aC ext 257 [.d (aA.pd a0)] [] (.agg (aw.rc r.aD++[.ref 0 0]),[.arr 0 113 (r.bM.map av.pd)]):=by
 refine Ev.body rfl Tryz.func257 rfl (by kernel_rfl)<|gS rfl rfl<|sB (.ptr 16 0) 16 (.var (aA.rc a0))<|sB (.ptr 32 0) 32 (.var [rS [],rS [],rS [],rS [],.ng])<|sN<|gS rfl rfl<|sV (.ptr 16 4)<|sL rfl<|bE h fun x1 hx1 h=>cR (.ref 112 0) [(112,.arr 0 113 (x1.map av.pd))] (clone_325 hx1)<|sV (.ptr 16 4)<|sS 16 (.var (aw.rc a0.aD++[.ref 112 0]))<|sN<|qS<|gS rfl rfl ?_
 refine sV (.ptr 16 4)<|sL rfl<|WO.u9 rfl rfl rfl rfl rfl rfl rfl rfl rfl<|sV (r0)<|sN<|bE h fun o15 ho15 h=>WC.block (WC.loop (WL.qx ho15 (fun s R' B'=>hY prog 0 (A R' B') (aC.at_ 257 0 3)=some (A [(1,.ptr 16 0),(2,.ptr 32 0),(10,.ref 112 0),(11,rI (x1.length:Int)),(12,rI s.1)] [(16,.var (aw.rc a0.aD++[.ref 112 0])),(32,.var [rS [],rS [],rS [],rS [],.ng]),(112,.arr 0 113 (s.2.map av.pd))])) (fun o e R' B'=>e= .exit 0∧hY prog 0 (A R' B') (aC.at_ 257 0 7)=some (A [(1,.ptr 16 0),(2,.ptr 32 0)] [(16,.var (aw.rc a0.aD++[.ref 112 0])),(32,.var [rS [],rS [],rS [],rS [],.ng]),(112,.arr 0 113 (o.map av.pd))])) rfl ?_ ?_))
 ·rintro⟨s2,s3⟩ R' B' q5 hI h
  refine gS rfl hI<|sF h (fun h=>?_) fun h=>?_
  ·refine sN<|qS<|cT<|qK<|qS<|qB<|gS rfl rfl<|sM rfl<|bE h fun x8 hx8 h=>WO.rG hx8 rfl rfl rfl rfl rfl rfl rfl rfl<|bE h fun x9 hx9 h=>WO.rC hx9 rfl rfl rfl rfl rfl rfl<|sB (.ptr 64 0) 64 (.var zZ3)<|sA rfl<|sH 64 (.var (av.rc x9)) ?_
   refine sN<|WC.rb rfl rfl<|sV (.ptr 16 4)<|sL rfl<|sM rfl<|sV (.d (av.pd x9))<|bE h fun x10 hx10 h=>cD (nQ hx10)<|bE h fun x12 hx12 h=>WO.rG hx12 rfl rfl rfl rfl rfl rfl rfl rfl<|bE h fun x13 hx13 h=>WO.sY (g:=av.pd) (sz:=8) (p:=av.pd x10) hx13 (by intro _;kernel_rfl) (by intro _;kernel_rfl) rfl rfl rfl rfl rfl rfl rfl rfl rfl ?_
   refine sN<|sO<|WC.region rfl rfl<|sV (rI (rW (s2+(1:Int))))<|sM rfl<|sN ?_
   cases oI h
   exact⟨rfl,rfl⟩
  refine sN<|qS<|cF<|qX ?_
  cases oI h
  exact⟨nofun,rfl,rfl⟩
 intro e R' B' he hq
 obtain⟨rfl,hI⟩:=hq
 refine qE<|gS rfl hI<|sV (.agg (aw.rc a0.aD++[.ref 112 0]))<|sS 32 (.var (aw.rc a0.aD++[.ref 112 0]))<|sN<|qR ?_
 exact oI h▸qD
theorem qi{a0:ar}{a1:aw}{r:aA×Bool}(h:f9 a0 a1=some r):EvP prog aC ext 175 [.d (ar.pd a0),.d (aw.pd a1)] [] (.tup [.d (aA.pd r.1),rB r.2],[]):=by
 refine Ev.body rfl Tryz.func175 rfl (by kernel_rfl)<|gS rfl rfl<|sB (.ptr 32 0) 32 (.var [rM aA.pd a0.aU])<|sB (.ptr 48 0) 48 (.var (aw.rc a1))<|sB (.ptr 64 0) 64 (.var [rS [],rS [],rS [],rS [],.ng])<|sU<|sN<|qS<|gS rfl rfl<|sV (.ptr 32 0)<|sL rfl<|sE (rI (a0.aU.length:Int)) (qt _ _)<|sV (r0)<|sN<|bE h fun o8 ho8 h=>?_
 refine WC.block (WC.loop (WL.qx ho8 (fun s R' B'=>hY prog 0 (A R' B') (aC.at_ 175 0 2)=some (A [(3,.ptr 48 0),(4,.ptr 64 0),(9,rM aA.pd a0.aU),(10,rI (a0.aU.length:Int)),(11,rI s)] [(48,.var (aw.rc a1)),(64,.var [rS [],rS [],rS [],rS [],.ng])])) (fun o e R' B'=>match o with| .inl y=>e= .exit 0∧hY prog 0 (A R' B') (aC.at_ 175 0 7)=some (A [(4,.ptr 64 0)] [(64,.var [rS [],rS [],rS [],rS [],.ng])])| .inr r=>e= .ret∧finish prog (aC.own 175) Tryz.f175 0 (A R' B')=some (.tup [.d (aA.pd r.1),rB r.2],[])) rfl ?_ ?_))
 ·rintro s1 R' B' q2 hI h
  refine gS rfl hI<|sF h (fun h=>?_) fun h=>?_
  ·refine sN<|qS<|cT<|qK<|qS<|qB<|gS rfl rfl<|bE h fun x4 hx4 h=>eG hx4 rfl<|sV (.d (aA.pd x4))<|sB (.ptr 112 0) 112 (.var [rS [],rS [],rS [],rS [],.ng])<|sS 112 (.var (aA.rc x4))<|sN<|gS rfl rfl<|sV (.ptr 112 0) ?_
   refine sV (.d (aw.pd x4.aD))<|sV (.d (aw.pd a1))<|qZ h (fun hb5 h=>?_) (fun hb5 h=>?_)
   ·refine WO.vS (eqE_64 x4.aD a1) hb5 rfl rfl rfl rfl rfl<|sN<|cT<|gS rfl rfl<|sV (.d (aA.pd x4))<|bE h fun x6 hx6 h=>cR (.agg (aw.rc x6.aD++[.ref 320 0])) [(320,.arr 0 113 (x6.bM.map av.pd))] (pj hx6)<|sS 64 (.var (aw.rc x6.aD++[.ref 320 0]))<|sT<|sN<|qR ?_
    cases oI h
    exact⟨nofun,rfl,rfl⟩
   refine WO.vS (eqE_64 x4.aD a1) hb5 rfl rfl rfl rfl rfl<|sN<|cF<|qK<|WC.region rfl rfl<|sV (rI (rW (s1+(1:Int))))<|sM rfl<|sN ?_
   cases oI h
   exact⟨rfl,rfl⟩
  refine sN<|qS<|cF<|qX ?_
  cases oI h
  exact⟨nofun,rfl,rfl⟩
 intro e R' B' he hq
 rcases o8 with y9|r10
 ·obtain⟨rfl,hI⟩:=hq
  refine qE<|gS rfl hI<|sV (.agg [rS [],rS [],rS [],rS [],.ng])<|sS 64 (.var [rS [],rS [],rS [],rS [],.ng])<|sU<|sN<|qR ?_
  exact oI h▸qD
 obtain⟨rfl,hf⟩:=hq
 cases oI h
 exact hf
theorem inventory_at_ev{a0:aA}{a1:Int}{r:av×Bool}(h:iN a0 a1=some r):EvP prog aC ext 176 [.d (aA.pd a0),rI a1] [] (.tup [.d (av.pd r.1),rB r.2],[]):=by
 refine Ev.body rfl Tryz.func176 rfl (by kernel_rfl)<|gS rfl rfl<|sB (.ptr 32 0) 32 (.var (aA.rc a0))<|sB (.ptr 64 0) 64 (.var zZ3)<|sU<|sN<|qS<|gS rfl rfl<|sV (.ptr 32 4)<|sL rfl<|sE (rI (a0.bM.length:Int)) (qt _ _)<|sV (r0)<|sN<|bE h fun o8 ho8 h=>WC.block (WC.loop (WL.qx ho8 (fun s R' B'=>hY prog 0 (A R' B') (aC.at_ 176 0 2)=some (A [(1,rI a1),(4,.ptr 64 0),(9,rM av.pd a0.bM),(10,rI (a0.bM.length:Int)),(11,rI s)] [(64,.var zZ3)])) (fun o e R' B'=>match o with| .inl y=>e= .exit 0∧hY prog 0 (A R' B') (aC.at_ 176 0 7)=some (A [(4,.ptr 64 0)] [(64,.var zZ3)])| .inr r=>e= .ret∧finish prog (aC.own 176) Tryz.f176 0 (A R' B')=some (.tup [.d (av.pd r.1),rB r.2],[])) rfl ?_ ?_))
 ·rintro s1 R' B' q2 hI h
  refine gS rfl hI<|sF h (fun h=>?_) fun h=>?_
  ·refine sN<|qS<|cT<|qK<|qS<|qB<|gS rfl rfl<|bE h fun x4 hx4 h=>eG hx4 rfl<|sV (.d (av.pd x4))<|sB (.ptr 112 0) 112 (.var zZ3)<|sH 112 (.var (av.rc x4))<|sN<|gS rfl rfl<|sV (.ptr 112 0) ?_
   refine sL rfl<|sM rfl<|sF h (fun h=>?_) fun h=>?_
   ·refine sM rfl<|sM rfl<|sV (.ptr 112 1)<|sL rfl<|sV (rB (decide (a1<x4.fTo)))<|sF h (fun h=>?_) fun h=>?_
    ·refine sN<|cT<|gS rfl rfl<|sV (.d (av.pd x4))<|sH 64 (.var (av.rc x4))<|sT<|sN<|qR ?_
     cases oI h
     exact⟨nofun,rfl,rfl⟩
    refine sN<|cF<|qK<|WC.region rfl rfl<|sV (rI (rW (s1+(1:Int))))<|sM rfl<|sN ?_
    cases oI h
    exact⟨rfl,rfl⟩
   refine sM rfl<|k3<|sK<|sU<|sN<|cF<|qK<|WC.region rfl rfl<|sV (rI (rW (s1+(1:Int))))<|sM rfl<|sN ?_
   cases oI h
   exact⟨rfl,rfl⟩
  refine sN<|qS<|cF<|qX ?_
  cases oI h
  exact⟨nofun,rfl,rfl⟩
 intro e R' B' he hq
 rcases o8 with y9|r10
 ·obtain⟨rfl,hI⟩:=hq
  refine qE<|gS rfl hI<|sG (.agg zZ3)<|sH 64 (.var zZ3)<|sU<|sN<|qR ?_
  cases oI h
  exact qG
 obtain⟨rfl,hf⟩:=hq
 cases oI h
 exact hf
theorem inventory_At_ev{a0:ar}{a1:aw}{a2:Int}{r:av×Int}(h:iM a0 a1 a2=some r):EvP prog aC ext 99 [.d (ar.pd a0),.d (aw.pd a1),rI a2] [] (.tup [.d (av.pd r.1),rI r.2],[]):=by
 refine Ev.body rfl Tryz.func99 rfl (by kernel_rfl)<|gS rfl rfl<|sB (.ptr 48 0) 48 (.var [rM aA.pd a0.aU])<|sB (.ptr 64 0) 64 (.var (aw.rc a1))<|sB (.ptr 96 0) 96 (.var zZ3)<|sV (r0)<|sN<|qS<|gS rfl rfl<|sV (.d (ar.pd a0))<|bE h fun x1 hx1 h=>cD (gz hx1)<|sF h (fun h=>?_) fun h=>?_
 ·refine sN<|cT<|gS rfl rfl<|sG (.agg zZ3)<|sH 96 (.var zZ3)<|sV (rI 1)<|sN<|qR ?_
  cases oI h
  exact qG
 refine sN<|cF<|qK<|gS rfl rfl<|sV (.d (ar.pd a0))<|sV (.d (aw.pd a1))<|bE h fun x3 hx3 h=>cR (.tup [.d (aA.pd x3.1),rB x3.2]) [] (qi hx3)<|sM rfl<|sV (.d (aA.pd x3.1))<|sV (rB x3.2)<|sB (.ptr 128 0) 128 (.var [rS [],rS [],rS [],rS [],.ng])<|sS 128 (.var (aA.rc x3.1))<|sA rfl<|sN ?_
 refine gS rfl rfl<|sV (.d (aA.pd x3.1))<|sM rfl<|bE h fun x4 hx4 h=>cR (.tup [.d (av.pd x4.1),rB x4.2]) [] (inventory_at_ev hx4)<|sM rfl<|sV (.d (av.pd x4.1))<|sV (rB x4.2)<|sB (.ptr 160 0) 160 (.var zZ3)<|sH 160 (.var (av.rc x4.1))<|sA rfl<|sN<|qS<|gS rfl rfl<|sM rfl ?_
 refine sF h (fun h=>?_) fun h=>?_
 ·refine sN<|cT<|gS rfl rfl<|sG (.agg zZ3)<|sH 96 (.var zZ3)<|sV (rI 6)<|sN<|qR ?_
  cases oI h
  exact qG
 refine sN<|cF<|qK<|gS rfl rfl<|sV (.d (av.pd x4.1))<|sH 96 (.var (av.rc x4.1))<|sV (r0)<|sN<|qR ?_
 cases oI h
 exact qG
end Go.Dw.El
