
import Derived.Test.YtmmgjlgoggielaaGreatEtFn
import Derived.Test.YtmmgjlgoggielaaGreatDwShort
import Derived.Test.YtmmgjlgoggielaaGreatDwNest
import Derived.Test.YtmmgjlgoggielaaGreatProg
import Derived.Test.YtmmgjlgoggielaaGreatDwClone
import Derived.Test.YtmmgjlgoggielaaGreatDwSort

set_option maxRecDepth 100000
set_option maxHeartbeats 4000000
namespace Go.Dw.Et
open Go.Proofs Go.Proofs.Tryz Go.Dw
@[reducible] def rW(n:Int):Int:=IntKind.wrap .i64 n
@[reducible] def rI(n:Int):RV:= .d (.int .i64 n)
@[reducible] def r0:RV:= .d (.int .i64 0)
@[reducible] def rS(s:List UInt8):RV:= .d (.str s)
@[reducible] def rB(b:Bool):RV:= .d (.bool b)
@[reducible] def rM{α:Type}(g:α->PD)(l:List α):RV:= .d (.lst (l.map g))
@[reducible] def rL(l:List Int):RV:= .d (.lst (l.map (PD.int .i64)))
@[reducible] def zZ0:List RV:=[.d (.int .i64 0),.d (.int .i64 0),.d (.int .i64 0),.d (.int .i64 0),.d (.int .i64 0),.d (.int .i64 0),.d (.int .i64 0),.dg,.dg,.d (.int .i64 0),.d (.int .i64 0),.d (.int .i64 0),.d (.int .i64 0),.d (.int .i64 0),.d (.int .i64 0),.dg,.dg,.d (.int .i64 0),.d (.int .i64 0),.d (.int .i64 0)]
@[reducible] def zZ1:List RV:=[.dg,.d (.int .i64 0),.d (.int .i64 0),.d (.int .i64 0),.d (.int .i64 0),.d (.int .i64 0),.d (.int .i64 0),.d (.int .i64 0),.d (.int .i64 0),.d (.int .i64 0),.d (.int .i64 0),.d (.int .i64 0),.d (.int .i64 0),.d (.int .i64 0),.d (.int .i64 0),.d (.int .i64 0)]
@[reducible] def zZ2:List RV:=[.d (.int .i64 0),.d (.int .i64 0),.d (.int .i64 0),.d (.int .i64 0),.d (.int .i64 0),.d (.int .i64 0),.d (.int .i64 0),.d (.int .i64 0),.d (.int .i64 0),.d (.int .i64 0),.d (.int .i64 0),.d (.int .i64 0)]
@[reducible] def zZ3:List RV:=[.d (.str []),.d (.str []),.d (.str []),.d (.str []),.d (.int .i64 0),.d (.int .i64 0),.d (.int .i64 0),.d (.int .i64 0),.d (.int .i64 0)]
@[reducible] def zZ4:List RV:=[.d (.int .i64 0),.d (.int .i64 0),.d (.int .i64 0),.d (.int .i64 0),.d (.int .i64 0),.d (.int .i64 0),.d (.int .i64 0),.dg]
@[reducible] def zZ5:List RV:=[.d (.int .i64 0),.d (.int .i64 0),.d (.int .i64 0),.d (.int .i64 0),.d (.int .i64 0),.d (.int .i64 0)]
@[reducible] def ak.rc(x:ak):List RV:=[.d (.int .i64 x.ag.aN.aK.fX),.d (.int .i64 x.ag.aN.aK.fY),.d (.int .i64 x.ag.aN.aK.fZ),.d (.int .i64 x.ag.aN.aG.fX),.d (.int .i64 x.ag.aN.aG.fY),.d (.int .i64 x.ag.aN.aG.fZ),.d (.int .i64 x.ag.bg.bo),.d (.lst (x.ag.bg.aK.map (PD.int .i64))),.d (.lst (x.ag.bg.aG.map (PD.int .i64))),.d (.int .i64 x.ag.cC),.d (.int .i64 x.ag.bv),.d (.int .i64 x.ag.dx),.d (.int .i64 x.ag.eK),.d (.int .i64 x.ag.co),.d (.int .i64 x.cp.bF.bo),.d (.lst (x.cp.bF.aK.map (PD.int .i64))),.d (.lst (x.cp.bF.aG.map (PD.int .i64))),.d (.int .i64 x.cp.bn),.d (.int .i64 x.cp.bf),.d (.int .i64 x.bv)]
@[reducible] def aJ.rc(x:aJ):List RV:=[.d (.int .i64 x.aN.aK.fX),.d (.int .i64 x.aN.aK.fY),.d (.int .i64 x.aN.aK.fZ),.d (.int .i64 x.aN.aG.fX),.d (.int .i64 x.aN.aG.fY),.d (.int .i64 x.aN.aG.fZ),.d (.int .i64 x.bg.bo),.d (.lst (x.bg.aK.map (PD.int .i64))),.d (.lst (x.bg.aG.map (PD.int .i64))),.d (.int .i64 x.cC),.d (.int .i64 x.bv),.d (.int .i64 x.dx),.d (.int .i64 x.eK),.d (.int .i64 x.co)]
@[reducible] def aH.rc(x:aH):List RV:=[.d (.int .i64 x.db),.d (.int .i64 x.bn.a0),.d (.int .i64 x.bn.a1),.d (.int .i64 x.bn.a2),.d (.int .i64 x.bf.a0),.d (.int .i64 x.bf.a1),.d (.int .i64 x.bf.a2),.d (.lst (x.cf.map (PD.int .i64))),.d (.int .i64 x.bQ),.d (.int .i64 x.b8)]
@[reducible] def ac.rc(x:ac):List RV:=[.d (.str x.aC.aZ),.d (.str x.aC.aM),.d (.str x.aC.aj),.d (.str x.aC.a7),.d (.int .i64 x.a8),.d (.int .i64 x.aP),.d (.int .i64 x.bi),.d (.int .i64 x.aS),.d (.int .i64 x.aW)]
@[reducible] def aA.rc(x:aA):List RV:=[.d (.int .i64 x.bA),.d (.int .i64 x.fTo),.d (.int .i64 x.dn.bn),.d (.int .i64 x.dn.bf),.d (.int .i64 x.aY.fX),.d (.int .i64 x.aY.fY),.d (.int .i64 x.aY.fZ),.d (.lst (x.bC.bq.map aH.pd))]
@[reducible] def ai.rc(x:ai):List RV:=[.d (.int .i64 x.aK.fX),.d (.int .i64 x.aK.fY),.d (.int .i64 x.aK.fZ),.d (.int .i64 x.aG.fX),.d (.int .i64 x.aG.fY),.d (.int .i64 x.aG.fZ)]
@[reducible] def al.rc(x:al):List RV:=[.d (.int .i64 x.aM.fX),.d (.int .i64 x.aM.fY),.d (.int .i64 x.aM.fZ),.d (.int .i64 x.aP),.d (.int .i64 x.bi),.d (.int .i64 x.bG)]
@[reducible] def bt.rc(x:bt):List RV:=[.d (.int .i64 x.bF.bo),.d (.lst (x.bF.aK.map (PD.int .i64))),.d (.lst (x.bF.aG.map (PD.int .i64))),.d (.int .i64 x.bn),.d (.int .i64 x.bf)]
@[reducible] def aq.rc(x:aq):List RV:=[.d (.str x.aC.aZ),.d (.str x.aC.aM),.d (.str x.aC.aj),.d (.str x.aC.a7),.d (.lst (x.bz.map aA.pd))]
@[reducible] def bR.rc(x:bR):List RV:=[.d (.int .i64 x.fp.aN.aK.fX),.d (.int .i64 x.fp.aN.aK.fY),.d (.int .i64 x.fp.aN.aK.fZ),.d (.int .i64 x.fp.aN.aG.fX),.d (.int .i64 x.fp.aN.aG.fY),.d (.int .i64 x.fp.aN.aG.fZ),.d (.int .i64 x.fp.bg.bo),.d (.lst (x.fp.bg.aK.map (PD.int .i64))),.d (.lst (x.fp.bg.aG.map (PD.int .i64))),.d (.lst (x.fp.bc.map al.pd)),.d (.int .i64 x.fp.cC),.d (.lst (x.kK.map au.pd)),.d (.int .i64 x.gJ),.d (.int .i64 x.ftaken),.d (.bool x.ffound),.d (.int .i64 x.bT.aU.fX),.d (.int .i64 x.bT.aU.fY),.d (.int .i64 x.bT.aU.fZ),.d (.int .i64 x.bT.a8),.d (.int .i64 x.bT.bj),.d (.int .i64 x.bT.dm),.d (.int .i64 x.bT.aX.aK.fX),.d (.int .i64 x.bT.aX.aK.fY),.d (.int .i64 x.bT.aX.aK.fZ),.d (.int .i64 x.bT.aX.aG.fX),.d (.int .i64 x.bT.aX.aG.fY),.d (.int .i64 x.bT.aX.aG.fZ)]
@[reducible] def ar.rc(x:ar):List RV:=[.d (.int .i64 x.aU.fX),.d (.int .i64 x.aU.fY),.d (.int .i64 x.aU.fZ),.d (.int .i64 x.a8),.d (.int .i64 x.bj),.d (.int .i64 x.dm),.d (.int .i64 x.aX.aK.fX),.d (.int .i64 x.aX.aK.fY),.d (.int .i64 x.aX.aK.fZ),.d (.int .i64 x.aX.aG.fX),.d (.int .i64 x.aX.aG.fY),.d (.int .i64 x.aX.aG.fZ)]
@[reducible] def ah.rc(x:ah):List RV:=[.d (.int .i64 x.aN.aK.fX),.d (.int .i64 x.aN.aK.fY),.d (.int .i64 x.aN.aK.fZ),.d (.int .i64 x.aN.aG.fX),.d (.int .i64 x.aN.aG.fY),.d (.int .i64 x.aN.aG.fZ),.d (.int .i64 x.bg.bo),.d (.lst (x.bg.aK.map (PD.int .i64))),.d (.lst (x.bg.aG.map (PD.int .i64))),.d (.lst (x.bc.map al.pd)),.d (.int .i64 x.cC)]
@[reducible] def au.rc(x:au):List RV:=[.d (.int .i64 x.jV.aK.fX),.d (.int .i64 x.jV.aK.fY),.d (.int .i64 x.jV.aK.fZ),.d (.int .i64 x.jV.aG.fX),.d (.int .i64 x.jV.aG.fY),.d (.int .i64 x.jV.aG.fZ),.d (.int .i64 x.cq),.d (.int .i64 x.gJ)]
@[reducible] def az.rc(x:az):List RV:=[.d (.str x.bh.aC.aZ),.d (.str x.bh.aC.aM),.d (.str x.bh.aC.aj),.d (.str x.bh.aC.a7),.d (.int .i64 x.bh.a8),.d (.int .i64 x.bh.aP),.d (.int .i64 x.bh.bi),.d (.int .i64 x.bh.aS),.d (.int .i64 x.bh.aW),.d (.lst (x.aw.bY.map ac.pd)),.d (.int .i64 x.aw.aj.aU.fX),.d (.int .i64 x.aw.aj.aU.fY),.d (.int .i64 x.aw.aj.aU.fZ),.d (.int .i64 x.aw.aj.a8),.d (.int .i64 x.aw.aj.bj),.d (.int .i64 x.aw.aj.dm),.d (.int .i64 x.aw.aj.aX.aK.fX),.d (.int .i64 x.aw.aj.aX.aK.fY),.d (.int .i64 x.aw.aj.aX.aK.fZ),.d (.int .i64 x.aw.aj.aX.aG.fX),.d (.int .i64 x.aw.aj.aX.aG.fY),.d (.int .i64 x.aw.aj.aX.aG.fZ),.d (.int .i64 x.aw.bp.aK),.d (.int .i64 x.aw.bp.aG),.d (.int .i64 x.aw.eJ)]
@[reducible] def bd.rc(x:bd):List RV:=[.d (.lst (x.bY.map ac.pd)),.d (.int .i64 x.aj.aU.fX),.d (.int .i64 x.aj.aU.fY),.d (.int .i64 x.aj.aU.fZ),.d (.int .i64 x.aj.a8),.d (.int .i64 x.aj.bj),.d (.int .i64 x.aj.dm),.d (.int .i64 x.aj.aX.aK.fX),.d (.int .i64 x.aj.aX.aK.fY),.d (.int .i64 x.aj.aX.aK.fZ),.d (.int .i64 x.aj.aX.aG.fX),.d (.int .i64 x.aj.aX.aG.fY),.d (.int .i64 x.aj.aX.aG.fZ),.d (.int .i64 x.bp.aK),.d (.int .i64 x.bp.aG),.d (.int .i64 x.eJ)]
@[reducible] def ba.rc(x:ba):List RV:=[.d (.lst (x.cv.map (PD.int .i64))),.d (.int .i64 x.aU.fX),.d (.int .i64 x.aU.fY),.d (.int .i64 x.aU.fZ),.d (.int .i64 x.a8)]
@[reducible] def av.rc(x:av):List RV:=[.d (.str x.aZ),.d (.str x.aM),.d (.str x.aj),.d (.str x.a7)]
@[reducible] def ae.rc(x:ae):List RV:=[.d (.lst (x.fL.map (PD.int .i64))),.d (.int .i64 x.fAt)]
@[reducible] def aa.rc(x:aa):List RV:=[.d (.int .i64 x.fX),.d (.int .i64 x.fY),.d (.int .i64 x.fZ)]
@[reducible] def aF.rc(x:aF):List RV:=[.d (.int .i64 x.bo),.d (.lst (x.aK.map (PD.int .i64))),.d (.lst (x.aG.map (PD.int .i64)))]
@[reducible] def bw.rc(x:bw):List RV:=[.d (.lst (x.nO.map (PD.int .i64))),.d (.lst (x.fback.map (PD.int .i64)))]
@[reducible] def aV.rc(x:aV):List RV:=[.d (.lst (x.dJ.map ac.pd)),.d (.lst (x.dt.map al.pd)),.d (.lst (x.jO.map aA.pd))]
@[reducible] def aQ.rc(x:aQ):List RV:=[.d (.lst (x.bn.map (PD.int .i64))),.d (.lst (x.bf.map (PD.int .i64)))]
@[reducible] def aD.rc(x:aD):List RV:=[.d (.int .i64 x.aK),.d (.int .i64 x.aG)]
def hintAt:FuncId->Nat->Nat->List yD:=fun f nb id=>
  if f=5 then(if nb=0 then(if id=6 then [.fA [1,5,6,7,8,9,32,33] [96,112,304,448]]else if id=12 then [.fA [5,6,7,8,9] [96,112,304,448]]else if id=14 then [.fA [6,7,8,9] [96,112,448]]else [])else [])else if f=6 then(if nb=0 then(if id=7 then [.own 8 1792 66,.fA [3,4,5,6,7,8,9] [64,80,96,320,1792]]else if id=19 then [.frz (.reg 8),.fA [4,5,8] [64,80]]else [])else [])else if f=7 then(if nb=0 then(if id=11 then [.frz (.reg 12),.own 13 1216 66,.fA [4,5,7,8,12,13,50,51,52] [64,80,1216]]else if id=18 then [.fA [7,8,12,13] [1216]]else [])else [])else if f=8 then(if nb=0 then(if id=8 then [.fA [4,5,7,8,52,53,54] [64,80]]else if id=12 then [.fA [4,5,7,8,11,12,52,53,54,58,59,60] [64,80,176]]else if id=17 then [.fA [4,5,7,8,11,12,52,53,54,58,59,60,74,75,76] [64,80,176]]else if id=22 then [.fA [4,5,7,8,11,12,52,53,54,58,59,60] [64,80,176]]else if id=23 then [.fA [4,5,7,8,11,12,52,53,54] [64,80,176]]else if id=24 then [.fA [4,5,7,8,11,12,52,53,54,87,88,89] [64,80,176]]else if id=29 then [.fA [4,5,7,8,11,12,52,53,54] [64,80,176]]else if id=33 then [.fA [] []]else [])else [])else if f=13 then(if nb=1 then(if id=3 then [.ownp (.cell 80 0) 1104 116,.fA [0,1,4,5,6] [0,64,80,1104]]else if id=16 then [.fA [4,5] [0,64,80,1104]]else [])else [])else if f=14 then(if nb=1 then(if id=4 then [.own 9 2192 66,.fA [0,5,6,9,10,11,12] [0,80,96,160,2192]]else if id=12 then [.fA [0,5,6,9,10,11,12,13,14,16] [0,80,96,160,208,224,2192]]else if id=14 then [.fA [0,5,6,9,10,11,12,13,16] [0,80,96,160,208,2192]]else if id=18 then [.fA [0,5,6,9,10,11,12,13] [0,80,96,160,208,2192]]else if id=21 then [.fA [9] [0,2192]]else [])else [])else if f=20 then(if nb=0 then(if id=9 then [.own 14 1360 86,.fA [3,4,9,13,14,47,48,49] [48,64,1360]]else if id=13 then [.own 17 1056 66,.fA [3,4,9,13,14,17,47,48,49,54,55,56] [48,64,1056,1360]]else if id=17 then [.fA [3,4,9,13,14,17,47,48,49] [48,64,1056,1360]]else if id=22 then [.fA [9,13,14] [1360]]else if id=25 then [.own 22 1648 66,.fA [9,14,22,91,92,93] [1360,1648]]else if id=29 then [.fA [14,22] [1360,1648]]else [])else [])else if f=21 then(if nb=0 then(if id=4 then [.fA [0,1,5] []]else if id=8 then [.fA [] []]else [])else [])else if f=22 then(if nb=0 then(if id=2 then [.fA [0,1,5] []]else if id=5 then [.fA [0] []]else [])else [])else if f=26 then(if nb=0 then(if id=4 then [.fA [0,1,5] []]else if id=8 then [.fA [] []]else [])else [])else if f=28 then(if nb=0 then(if id=2 then [.fA [2,4,6,13,14,15] [64,96]]else if id=5 then [.fA [2,4,6,9,13,14,15,20,21,22] [64,96,144]]else if id=10 then [.fA [2,4,6,13,14,15] [64,96]]else if id=11 then [.fA [6] [96]]else [])else [])else if f=31 then(if nb=0 then(if id=3 then [.fA [5,6] []]else if id=5 then [.fA [6] []]else [])else [])else if f=32 then(if nb=0 then(if id=7 then [.give 848,.ownn (.reg 11) 848 42 66,.fA [3,8,9,11,12,29,30,31] [48,848]]else if id=10 then [.give 848,.ownn (.reg 11) 848 42 66,.fA [3,8,9,11,14,29,30,31] [48,848]]else if id=12 then [.lend 848 none 1088]else if id=14 then [.give 848,.fA [11] [848]]else if id=15 then [.give 848,.fA [11,77,78,79] [848]]else if id=16 then [.lend 848 (some 79) 1312]else if id=19 then [.give 848,.frzn (.reg 11),.fA [11] []]else [])else [])else if f=33 then(if nb=0 then(if id=3 then [.own 3 816 66,.fA [0,3,4] [816]]else if id=6 then [.fA [0,3,4,5] [816]]else if id=8 then [.fA [0,3,4,5] [816]]else if id=9 then [.fA [0,3,4,5] [816]]else if id=12 then [.fA [3] [816]]else [])else [])else if f=34 then(if nb=0 then(if id=3 then [.fA [0,3,12,13,14] [176]]else if id=8 then [.fA [0,3,6,12,13,14] [176]]else if id=9 then [.fA [0,3,12,13,14,53,54,55] [176]]else if id=16 then [.fA [0,3,12,13,14] [176]]else if id=17 then [.fA [] []]else [])else [])else if f=49 then(if nb=1 then(if id=3 then [.fA [2,3,16,17] [0,32,48,96,97]]else if id=7 then [.fA [2,3] [0,32,48,96,97]]else [])else [])else if f=52 then(if nb=1 then(if id=3 then [.ownp (.cell 48 0) 1040 184,.fA [0,2,3,4] [0,32,48,1040]]else if id=13 then [.fA [2,3] [0,32,48,1040]]else [])else [])else if f=53 then(if nb=0 then(if id=2 then [.fA [2,4,6,13,14,15] [64,96]]else if id=5 then [.fA [2,4,6,9,13,14,15,20,21,22] [64,96,144]]else if id=10 then [.fA [2,4,6,13,14,15] [64,96]]else if id=11 then [.fA [6] [96]]else [])else [])else if f=55 then(if nb=0 then(if id=7 then [.ownp (.cell 128 0) 704 66,.ownp (.cell 128 1) 784 81,.ownp (.cell 128 2) 864 113,.fA [3,4,6,8,25,26,27] [48,64,96,128,704,784,864]]else if id=13 then [.fA [6,8] [96,128,704,784,864]]else [])else [])else if f=57 then(if nb=0 then(if id=7 then [.fA [4,8,37,38,39] [64,128]]else if id=13 then [.fA [4,8] [64,128]]else [])else [])else if f=58 then(if nb=0 then(if id=3 then [.own 7 816 47,.fA [3,4,5,7,13,14,15] [48,64,80,816]]else if id=9 then [.fA [7] [816]]else [])else [])else if f=62 then(if nb=0 then(if id=3 then [.fA [1,2,6,18,19,20] [32,272]]else if id=7 then [.fA [1,2,6] [32,272]]else if id=11 then [.fA [1,2,9,10,45,46,47] [32,272]]else if id=17 then [.fA [9,10] []]else [])else [])else if f=65 then(if nb=0 then(if id=8 then [.own 9 656 66,.own 10 720 81,.fA [3,4,9,10,24,25,26] [48,64,656,720]]else if id=14 then [.fA [9,10] [656,720]]else [])else [])else if f=66 then(if nb=0 then(if id=8 then [.own 8 2432 142,.own 9 2576 3,.fA [1,2,8,9,10,11] [32,176,560,561,2432,2576]]else if id=13 then [.own 13 1120 81,.fA [1,2,8,9,10,11,12,13,55,56,57] [32,176,560,561,1120,2432,2576]]else if id=17 then [.frz (.reg 13),.fA [1,2,8,9,10,11,12,13] [32,176,560,561,2432,2576]]else if id=25 then [.own 19 1840 3,.fA [1,2,8,9,10,11,12,16,18,19,98,99,100] [32,176,256,560,561,1840,2432,2576]]else if id=30 then [.fA [1,2,8,9,10,11,12,16,19] [32,176,256,560,561,1840,2432,2576]]else if id=33 then [.ownp (.cell 352 0) 2288 3,.fA [1,2,8,9,10,11,22,127,128,129] [32,176,352,560,561,1840,2288,2432,2576]]else if id=38 then [.fA [1,2,8,9,10,11,22] [32,176,352,560,561,2288,2432,2576]]else if id=40 then [.fA [1,2,8,9,10,11,12] [32,176,560,561,2432,2576]]else if id=42 then [.fA [8,9] [2432,2576]]else [])else [])else if f=71 then(if nb=0 then(if id=2 then [.fA [0,3,5] [48]]else if id=4 then [.fA [0,3,5] [48]]else [])else [])else if f=76 then(if nb=0 then(if id=5 then [.fA [2,6,8,10] [96,128]]else if id=9 then [.fA [6] [96]]else [])else [])else if f=78 then(if nb=0 then(if id=3 then [.fA [1,3,9,10] [16,112]]else if id=7 then [.fA [1,3] [16,112]]else [])else [])else if f=81 then(if nb=0 then(if id=5 then [.fA [41,42] []]else [])else [])else if f=82 then(if nb=0 then(if id=2 then [.fA [0,3] []]else if id=6 then [.fA [] []]else [])else [])else if f=83 then(if nb=0 then(if id=2 then [.fA [1,6,7,8] [16]]else if id=7 then [.fA [1] [16]]else [])else [])else if f=90 then(if nb=1 then(if id=2 then [.fA [0,1,7,8] [0]]else if id=7 then [.fA [] [0]]else [])else [])else if f=95 then(if nb=0 then(if id=3 then [.fA [3,6,7,8] []]else if id=8 then [.fA [3] []]else [])else [])else if f=105 then(if nb=1 then(if id=4 then [.ownp (.cell 48 1) 432 3,.ownp (.cell 48 2) 512 3,.fA [0,2,3,4,5,6] [0,32,48,432,512]]else if id=9 then [.fA [2,3] [0,32,48,432,512]]else [])else [])else if f=108 then(if nb=0 then(if id=10 then [.fA [1,7] [304,368]]else if id=14 then [.frz (.cell 304 11),.fA [7] [304]]else [])else [])else if f=109 then(if nb=0 then(if id=5 then [.fA [4,5,6,7,8,31] [64,80,96,112,128]]else [])else [])else if f=115 then(if nb=0 then(if id=3 then [.own 5 304 3,.fA [1,5,8,9,10] [304]]else if id=7 then [.fA [5] [304]]else [])else [])else if f=118 then(if nb=0 then(if id=6 then [.fA [2,52,53,54] [32]]else if id=12 then [.fA [] []]else [])else [])else if f=120 then(if nb=0 then(if id=14 then [.fA [1,38,39,40] [16]]else if id=20 then [.fA [] []]else [])else [])else if f=122 then(if nb=0 then(if id=3 then [.fA [2,3,6,16,17,18] [32,48,224]]else if id=10 then [.fA [6] [224]]else [])else [])else if f=123 then(if nb=0 then(if id=3 then [.fA [1,2,3,7,11,12,13] [48]]else if id=8 then [.fA [7] []]else [])else [])else if f=127 then(if nb=0 then(if id=3 then [.fA [0,2,3,13,14] [32,48,112,160]]else if id=7 then [.fA [2,3] [32,48,112,160]]else [])else [])else if f=129 then(if nb=0 then(if id=4 then [.own 9 928 3,.fA [2,3,4,5,9,10,11] [64,80,928]]else if id=7 then [.fA [9] [928]]else [])else if nb=2 then(if id=4 then [.own 9 928 3,.fA [2,3,4,5,9,10,11] [0,1,64,80,928]]else if id=7 then [.fA [9] [0,1,928]]else [])else [])else if f=131 then(if nb=0 then(if id=8 then [.fA [2,10,33,34,35] [512]]else if id=12 then [.fA [10] [512]]else [])else [])else if f=134 then(if nb=0 then(if id=5 then [.fA [0,1,4,5,6] [64,80]]else if id=9 then [.fA [4,5] [64,80]]else [])else [])else if f=135 then(if nb=1 then(if id=2 then [.fA [0,1,2,3,4,10,11] [0]]else [])else [])else if f=141 then(if nb=0 then(if id=2 then [.fA [1,3] [16]]else if id=3 then [.fA [1,3] [16]]else if id=7 then [.fA [1,3,4] [16,64]]else if id=8 then [.fA [1,3,4,5] [16,64]]else if id=12 then [.fA [1] [16]]else [])else [])else if f=142 then(if nb=0 then(if id=2 then [.fA [2,3,4,6] [32,48,64]]else if id=6 then [.fA [4] [64]]else [])else [])else if f=143 then(if nb=0 then(if id=4 then [.fA [1,3] [16]]else if id=10 then [.fA [] []]else [])else [])else if f=156 then(if nb=0 then(if id=2 then [.fA [0,5,6,7] []]else if id=7 then [.fA [0] []]else [])else [])else if f=175 then(if nb=0 then(if id=2 then [.fA [3,4,9,10,11] [48,64]]else if id=7 then [.fA [4] [64]]else [])else [])else if f=176 then(if nb=0 then(if id=2 then [.fA [1,4,9,10,11] [64]]else if id=7 then [.fA [4] [64]]else [])else [])else if f=183 then(if nb=1 then(if id=4 then [.fA [0,3] [0]]else if id=9 then [.fA [0,3,4,5] [0]]else if id=14 then [.fA [0,3] [0]]else if id=16 then [.fA [0] [0]]else [])else [])else if f=184 then(if nb=1 then(if id=5 then [.ownp (.cell 0 11) 80176 194,.mv (.cell 0 11) 90081,.fA [6] [0,90081]]else [])else if nb=2 then(if id=5 then [.ownp (.cell 0 11) 80176 194,.bumpp (.cell 0 11),.fA [6] [0,1]]else [])else [])else if f=186 then(if nb=2 then(if id=2 then [.bumpp (.cell 0 11),.fA [] [0,1]]else [])else [])else if f=195 then(if nb=0 then(if id=5 then [.fA [2,7,8,9,28,29] [128,144]]else [])else [])else if f=198 then(if nb=0 then(if id=2 then [.fA [0,1,7,8] []]else if id=7 then [.fA [] []]else [])else [])else if f=199 then(if nb=0 then(if id=6 then [.fA [1,4,5,33,34] [16]]else if id=12 then [.fA [] []]else [])else [])else if f=207 then(if nb=1 then(if id=2 then [.fA [0,1,2,3,8,9] [0]]else [])else [])else if f=208 then(if nb=1 then(if id=1 then [.fA [0,1,2,3,8] [0]]else if id=2 then [.fA [0,1,2,3,8] [0]]else if id=4 then [.fA [0,1,2,3,8,9] [0]]else [])else [])else if f=217 then(if nb=0 then(if id=4 then [.fA [0,2] []]else if id=7 then [.fA [0,2] []]else [])else [])else if f=218 then(if nb=0 then(if id=2 then [.fA [0,1,2,7] []]else if id=6 then [.fA [0,1,2] []]else [])else [])else if f=220 then(if nb=0 then(if id=3 then [.ownp (.cell 48 0) 816 116,.fA [1,2,3,4] [16,32,48,816]]else if id=7 then [.ownp (.cell 80 4) 720 113,.fA [1,2,3,4,5,6] [16,32,48,80,720,816]]else if id=10 then [.fA [1,2,3,4,5] [16,32,48,80,720,816]]else if id=11 then [.fA [2,3] [32,48,816]]else [])else [])else if f=224 then(if nb=0 then(if id=3 then [.fA [0,3,4] []]else if id=8 then [.fA [3] []]else [])else [])else if f=229 then(if nb=2 then(if id=2 then [.fA [0,1,2,6,7,8] [0,1]]else if id=6 then [.fA [0,1,2,6,7] [0,1]]else if id=7 then [.fA [0,1,2,6] [0,1]]else if id=9 then [.fA [0,1,2,6,7,8] [0,1]]else if id=13 then [.fA [0,1,2,6,7] [0,1]]else [])else [])else if f=241 then(if nb=0 then(if id=2 then [.fA [0,1,2,9,10] []]else if id=7 then [.fA [0,1,2] []]else [])else [])else if f=257 then(if nb=0 then(if id=3 then [.fA [1,2,10,11,12] [16,32,112]]else if id=7 then [.fA [1,2] [16,32,112]]else [])else [])else if f=273 then(if nb=0 then(if id=7 then [.fA [1,2,6,8,31,32,33] [96,128]]else if id=17 then [.fA [6,8] [96,128]]else [])else [])else if f=278 then(if nb=2 then(if id=2 then [.fA [1,5,6] [0,1]]else if id=7 then [.fA [5] [0,1]]else [])else [])else if f=280 then(if nb=0 then(if id=5 then [.fA [0,3,4] []]else if id=10 then [.fA [3] []]else [])else [])else if f=284 then(if nb=1 then(if id=1 then [.fA [0,1,2,6] [0]]else if id=2 then [.fA [0,1,2,6] [0]]else if id=4 then [.fA [0,1,2,6,7] [0]]else [])else [])else if f=299 then(if nb=0 then(if id=3 then [.fA [1,3,4] [16]]else if id=11 then [.fA [1] [16]]else [])else [])else if f=301 then(if nb=2 then(if id=1 then [.fA [0,1,2,3,8] [0,1]]else if id=2 then [.fA [0,1,2,3,8] [0,1]]else if id=4 then [.fA [0,1,2,3,8,9] [0,1]]else [])else [])else if f=326 then(if nb=0 then(if id=3 then [.fA [1,2,13,14] [16,32,112]]else if id=7 then [.fA [1,2] [16,32,112]]else [])else [])else if f=330 then(if nb=2 then(if id=0 then [.fA [0,1] [0,1]]else [])else [])else if f=331 then(if nb=2 then(if id=2 then [.fA [0,1,2,7] [0,1]]else if id=8 then [.fA [0,1,2,7,9] [0,1]]else if id=11 then [.fA [1,7] [0,1]]else [])else [])else if f=332 then(if nb=0 then(if id=5 then [.fA [2,3,4,16] [32,48,64]]else [])else [])else if f=339 then(if nb=0 then(if id=9 then [.fA [0,1,5,6] []]else [])else [])else if f=344 then(if nb=0 then(if id=1 then [.fA [0,1] []]else if id=3 then [.fA [0] []]else [])else [])else if f=345 then(if nb=0 then(if id=6 then [.fixv 16,.fA [1,3] []]else [])else [])else if f=346 then(if nb=0 then(if id=3 then [.ownp (.cell 48 0) 416 184,.fA [1,2,3,4] [16,32,48,416]]else if id=8 then [.fA [2,3] [32,48,416]]else [])else [])else if f=350 then(if nb=0 then(if id=1 then [.fA [0,1] []]else if id=3 then [.fA [0] []]else [])else [])else if f=353 then(if nb=0 then(if id=6 then [.fixv 16,.fA [1,3] []]else [])else [])else if f=354 then(if nb=0 then(if id=3 then [.fA [3,6,7,8] []]else if id=10 then [.fA [3] []]else [])else [])else if f=383 then(if nb=0 then(if id=3 then [.fA [3,6,7,8] []]else if id=7 then [.fA [3] []]else [])else [])else if f=386 then(if nb=0 then(if id=3 then [.fA [1,5,16,17,18] [240]]else if id=7 then [.fA [1,5,6,7,8,16,17,18,25,26] [240]]else if id=14 then [.fA [1,5,16,17,18] [240]]else if id=15 then [.fA [5] [240]]else [])else [])else if f=390 then(if nb=0 then(if id=2 then [.fA [0,3] []]else if id=6 then [.fA [] []]else [])else [])else if f=391 then(if nb=0 then(if id=3 then [.fA [0,3,4] []]else if id=6 then [.fA [3] []]else [])else [])else if f=393 then(if nb=0 then(if id=2 then [.fA [0,1,7,8] []]else if id=7 then [.fA [] []]else [])else [])else if f=406 then(if nb=0 then(if id=4 then [.own 4 240 3,.fA [0,4] [240]]else if id=7 then [.fA [4] [240]]else [])else [])else if f=408 then(if nb=0 then(if id=6 then [.own 6 560 3,.fA [0,1,6,7,18,19] [560]]else if id=12 then [.fA [6] [560]]else [])else [])else if f=409 then(if nb=0 then(if id=1 then [.fA [0] []]else if id=3 then [.fA [0] []]else [])else [])else if f=411 then(if nb=0 then(if id=2 then [.fA [0,1,7,8] []]else if id=7 then [.fA [] []]else [])else [])else if f=421 then(if nb=0 then(if id=2 then [.fA [0,1,7,8] []]else if id=7 then [.fA [] []]else [])else [])else []
def aB:Hints:={ at_:=hintAt,mt:=fun f i=>(f==5&&i==28)||(f==13&&i==28)||(f==32&&i==52)||(f==71&&i==24)||(f==443&&i==19),by_:=fun f i=>(f==68&&i==0)||(f==79&&i==0)||(f==129&&i==0)||(f==132&&i==0)||(f==133&&i==0)||(f==135&&i==0)||(f==149&&i==0)||(f==183&&i==0)||(f==207&&i==0)||(f==208&&i==0)||(f==229&&i==0)||(f==284&&i==0)||(f==301&&i==0)||(f==442&&i==0),own:=fun f i=>(f==105&&i==0)||(f==107&&i==0)||(f==127&&i==0)||(f==182&&i==0)||(f==257&&i==0)||(f==325&&i==0)||(f==364&&i==0) }
theorem eqE_45(a b:ar):wI prog .eql 45 (.d a.pd) (.d b.pd)=some (.bool (((a.aU.fX==b.aU.fX)&&((a.aU.fY==b.aU.fY)&&((a.aU.fZ==b.aU.fZ)&&true)))&&((a.a8==b.a8)&&((a.bj==b.bj)&&((a.dm==b.dm)&&((((a.aX.aK.fX==b.aX.aK.fX)&&((a.aX.aK.fY==b.aX.aK.fY)&&((a.aX.aK.fZ==b.aX.aK.fZ)&&true)))&&(((a.aX.aG.fX==b.aX.aG.fX)&&((a.aX.aG.fY==b.aX.aG.fY)&&((a.aX.aG.fZ==b.aX.aG.fZ)&&true)))&&true))&&true))))),true):=by kernel_rfl
theorem eqE_47(a b:aD):wI prog .eql 47 (.d a.pd) (.d b.pd)=some (.bool ((a.aK==b.aK)&&((a.aG==b.aG)&&true)),true):=by kernel_rfl
theorem pf(a b:av):wI prog .eql 64 (.d a.pd) (.d b.pd)=some (.bool ((a.aZ==b.aZ)&&((a.aM==b.aM)&&((a.aj==b.aj)&&((a.a7==b.a7)&&true)))),true):=by kernel_rfl
theorem ou(a b:ac):wI prog .eql 66 (.d a.pd) (.d b.pd)=some (.bool (((a.aC.aZ==b.aC.aZ)&&((a.aC.aM==b.aC.aM)&&((a.aC.aj==b.aC.aj)&&((a.aC.a7==b.aC.a7)&&true))))&&((a.a8==b.a8)&&((a.aP==b.aP)&&((a.bi==b.bi)&&((a.aS==b.aS)&&((a.aW==b.aW)&&true)))))),true):=by kernel_rfl
theorem qL(a b:ac):wI prog .neq 66 (.d a.pd) (.d b.pd)=some (.bool (!(((a.aC.aZ==b.aC.aZ)&&((a.aC.aM==b.aC.aM)&&((a.aC.aj==b.aC.aj)&&((a.aC.a7==b.aC.a7)&&true))))&&((a.a8==b.a8)&&((a.aP==b.aP)&&((a.bi==b.bi)&&((a.aS==b.aS)&&((a.aW==b.aW)&&true))))))),true):=by kernel_rfl
theorem eD(a b:aT):wI prog .eql 182 (.d a.pd) (.d b.pd)=some (.bool ((a.a0==b.a0)&&((a.a1==b.a1)&&((a.a2==b.a2)&&true))),true):=by kernel_rfl
theorem T_api_Pick_inj:∀x y:ac,x.pd=y.pd->x=y:=by
  rintro⟨⟨z1,z2,z3,z4⟩,z5,z6,z7,z8,z9⟩ ⟨⟨z10,z11,z12,z13⟩,z14,z15,z16,z17,z18⟩ h
  cases h;rfl
def ext0:FuncId->Option n5:=fun _=>none
theorem lM{a0:(List UInt8)}{r:Bool}(h:gm a0=some r):EvP prog aB ext0 306 [rS a0] [] (rB r,[]):=by
 refine Ev.body rfl Tryz.func306 rfl (by kernel_rfl)<|gS rfl rfl<|sU<|sN<|gS rfl rfl<|sM rfl<|sM rfl<|sV (rB (!(a0==a0)))<|sA rfl<|sN<|qR ?_
 exact oI h▸qD
theorem eU{a0:(List UInt8)}{a1:(List UInt8)}{r:Int}(h:bX a0 a1=some r):EvP prog aB ext0 239 [rS a0,rS a1] [] (rI r,[]):=by
 refine Ev.body rfl Tryz.func239 rfl (by kernel_rfl)<|gS rfl rfl<|sV (r0)<|sN<|gS rfl rfl<|sM rfl<|bE h fun x1 hx1 h=>cD (lM hx1)<|sA rfl<|sN<|gS rfl rfl<|sM rfl<|bE h fun x2 hx2 h=>cD (lM hx2)<|sA rfl ?_
 refine sN<|qS<|gS rfl rfl<|sF h (fun h=>?_) fun h=>?_
 ·refine sN<|cT<|qS<|gS rfl rfl<|sF h (fun h=>?_) fun h=>?_
  ·refine sN<|cT<|gS rfl rfl<|sV (r0)<|sN<|qR ?_
   exact oI h▸qD
  refine sN<|cF<|qK<|gS rfl rfl<|sV (rI (-1))<|sN<|qR ?_
  exact oI h▸qD
 refine sN<|cF<|qK<|qS<|gS rfl rfl<|sF h (fun h=>?_) fun h=>?_
 ·refine sN<|cT<|gS rfl rfl<|sV (rI 1)<|sN<|qR ?_
  exact oI h▸qD
 refine sN<|cF<|qK<|qS<|gS rfl rfl<|sM rfl<|sM rfl<|sF h (fun h=>?_) fun h=>?_
 ·refine sN<|cT<|gS rfl rfl<|sV (rI (-1))<|sN<|qR ?_
  exact oI h▸qD
 refine sN<|cF<|qK<|qS<|gS rfl rfl<|sM rfl<|sM rfl<|sF h (fun h=>?_) fun h=>?_
 ·refine sN<|cT<|gS rfl rfl<|sV (rI 1)<|sN<|qR ?_
  exact oI h▸qD
 refine sN<|cF<|qK<|gS rfl rfl<|sV (r0)<|sN<|qR ?_
 exact oI h▸qD
theorem pc{a0:(List Int)}{r:Int}(h:cB a0=some r):EvP prog aB ext0 95 [rL a0] [] (rI r,[]):=by
 refine Ev.body rfl Tryz.func95 rfl (by kernel_rfl)<|gS rfl rfl<|sV (r0)<|sN<|gS rfl rfl<|sV (r0)<|sN<|qS<|gS rfl rfl<|sM rfl<|sE (rI (a0.length:Int)) (fQ _ _)<|sV (r0)<|sN<|bE h fun o7 ho7 h=>WC.block (WC.loop (WL.hY ho7 (fun s R' B'=>cI prog 0 (A R' B') (aB.at_ 95 0 3)=some (A [(3,r0),(6,rL a0),(7,rI (a0.length:Int)),(8,rI s)] [])) (fun o e R' B'=>match o with| .inl y=>e= .exit 0∧cI prog 0 (A R' B') (aB.at_ 95 0 8)=some (A [(3,r0)] [])| .inr r=>e= .ret∧finish prog (aB.own 95) Tryz.f95 0 (A R' B')=some (rI r,[])) rfl ?_ ?_))
 ·rintro s1 R' B' q2 hI h
  refine gS rfl hI<|sF h (fun h=>?_) fun h=>?_
  ·refine sN<|qS<|cT<|qK<|qS<|qB<|gS rfl rfl<|bE h fun x4 hx4 h=>eG hx4 rfl<|sC rfl<|sA rfl<|sN<|gS rfl rfl<|sM rfl<|sM rfl ?_
   refine sF h (fun h=>?_) fun h=>?_
   ·refine sN<|cT<|gS rfl rfl<|sM rfl<|sA rfl<|sN<|qR ?_
    cases oI h
    exact⟨nofun,rfl,rfl⟩
   refine sN<|cF<|qK<|WC.region rfl rfl<|sV (rI (rW (s1+(1:Int))))<|sM rfl<|sN ?_
   cases oI h
   exact⟨rfl,rfl⟩
  refine sN<|qS<|cF<|qX ?_
  cases oI h
  exact⟨nofun,rfl,rfl⟩
 intro e R' B' he hq
 rcases o7 with y8|r9
 ·obtain⟨rfl,hI⟩:=hq
  refine qE<|gS rfl hI<|sM rfl<|sA rfl<|sN<|qR ?_
  exact oI h▸qD
 obtain⟨rfl,hf⟩:=hq
 cases oI h
 exact hf
theorem ru{a0:av}{a1:av}{r:Int}(h:ey a0 a1=some r):EvP prog aB ext0 153 [.d (av.pd a0),.d (av.pd a1)] [] (rI r,[]):=by
 refine Ev.body rfl Tryz.func153 rfl (by kernel_rfl)<|gS rfl rfl<|sB (.ptr 32 0) 32 (.var (av.rc a0))<|sB (.ptr 48 0) 48 (.var (av.rc a1))<|sV (r0)<|sN<|WC.bZ rfl rfl<|sV (.ptr 32 0)<|sL rfl<|sV (.ptr 48 0)<|sL rfl<|bE h fun x1 hx1 h=>cD (eU hx1)<|sV (.ptr 32 1)<|sL rfl ?_
 refine sV (.ptr 48 1)<|sL rfl<|bE h fun x2 hx2 h=>cD (eU hx2)<|sV (.ptr 32 2)<|sL rfl<|sV (.ptr 48 2)<|sL rfl<|bE h fun x3 hx3 h=>cD (eU hx3)<|sV (.ptr 32 3)<|sL rfl<|sV (.ptr 48 3)<|sL rfl<|bE h fun x4 hx4 h=>?_
 refine cD (eU hx4)<|sV (.d (.lst ([x1,x2,x3,x4].map (PD.int .i64))))<|bE h fun x5 hx5 h=>cD (pc hx5)<|sA rfl ?_
 refine sN<|sO<|qR ?_
 exact oI h▸qD
theorem ng{a0:Int}{r:Bool}(h:d9 a0=some r):EvP prog aB ext0 170 [rI a0] [] (rB r,[]):=by
 refine Ev.body rfl Tryz.func170 rfl (by kernel_rfl)<|gS rfl rfl<|sU<|sN<|gS rfl rfl<|sM rfl<|sM rfl<|sV (rB (a0 != a0))<|sA rfl<|sN<|qR ?_
 exact oI h▸qD
theorem eN{a0:Int}{a1:Int}{r:Int}(h:bM a0 a1=some r):EvP prog aB ext0 96 [rI a0,rI a1] [] (rI r,[]):=by
 refine Ev.body rfl Tryz.func96 rfl (by kernel_rfl)<|gS rfl rfl<|sV (r0)<|sN<|gS rfl rfl<|sM rfl<|bE h fun x1 hx1 h=>cD (ng hx1)<|sA rfl<|sN<|gS rfl rfl<|sM rfl<|bE h fun x2 hx2 h=>cD (ng hx2)<|sA rfl ?_
 refine sN<|qS<|gS rfl rfl<|sF h (fun h=>?_) fun h=>?_
 ·refine sN<|cT<|qS<|gS rfl rfl<|sF h (fun h=>?_) fun h=>?_
  ·refine sN<|cT<|gS rfl rfl<|sV (r0)<|sN<|qR ?_
   exact oI h▸qD
  refine sN<|cF<|qK<|gS rfl rfl<|sV (rI (-1))<|sN<|qR ?_
  exact oI h▸qD
 refine sN<|cF<|qK<|qS<|gS rfl rfl<|sF h (fun h=>?_) fun h=>?_
 ·refine sN<|cT<|gS rfl rfl<|sV (rI 1)<|sN<|qR ?_
  exact oI h▸qD
 refine sN<|cF<|qK<|qS<|gS rfl rfl<|sM rfl<|sM rfl<|sF h (fun h=>?_) fun h=>?_
 ·refine sN<|cT<|gS rfl rfl<|sV (rI (-1))<|sN<|qR ?_
  exact oI h▸qD
 refine sN<|cF<|qK<|qS<|gS rfl rfl<|sM rfl<|sM rfl<|sF h (fun h=>?_) fun h=>?_
 ·refine sN<|cT<|gS rfl rfl<|sV (rI 1)<|sN<|qR ?_
  exact oI h▸qD
 refine sN<|cF<|qK<|gS rfl rfl<|sV (r0)<|sN<|qR ?_
 exact oI h▸qD
theorem qY{a0:ac}{a1:ac}{r:Int}(h:ca a0 a1=some r):EvP prog aB ext0 80 [.d (ac.pd a0),.d (ac.pd a1)] [] (rI r,[]):=by
 refine Ev.body rfl Tryz.func80 rfl (by kernel_rfl)<|gS rfl rfl<|sB (.ptr 32 0) 32 (.var (ac.rc a0))<|sB (.ptr 48 0) 48 (.var (ac.rc a1))<|sV (r0)<|sN<|WC.bZ rfl rfl<|sV (.ptr 32 0)<|sV (.d (av.pd a0.aC))<|sV (.ptr 48 0)<|sV (.d (av.pd a1.aC))<|bE h fun x1 hx1 h=>cD (ru hx1)<|sV (.ptr 32 4)<|sL rfl ?_
 refine sV (.ptr 48 4)<|sL rfl<|bE h fun x2 hx2 h=>cD (eN hx2)<|sV (.ptr 32 5)<|sL rfl<|sV (.ptr 48 5)<|sL rfl<|bE h fun x3 hx3 h=>cD (eN hx3)<|sV (.ptr 32 6)<|sL rfl<|sV (.ptr 48 6)<|sL rfl<|bE h fun x4 hx4 h=>?_
 refine cD (eN hx4)<|sV (.ptr 32 7)<|sL rfl<|sV (.ptr 48 7)<|sL rfl<|bE h fun x5 hx5 h=>cD (eN hx5)<|sV (.ptr 32 8)<|sL rfl<|sV (.ptr 48 8)<|sL rfl<|bE h fun x6 hx6 h=>cD (eN hx6)<|sV (.d (.lst ([x1,x2,x3,x4,x5,x6].map (PD.int .i64))))<|bE h fun x7 hx7 h=>?_
 refine cD (pc hx7)<|sA rfl ?_
 refine sN<|sO<|qR ?_
 cases oI h
 exact qG
noncomputable def ext:FuncId->Option n5:=fun f=>if f=79 then some (Be 80 66 ac.pd ca)else if f=182 then some (vW 66 9 104)else if f=325 then some (vW 113 8 80)else if f=364 then some (vW 184 10 96)else if f=107 then some (vW 3 1 8)else none
theorem sort_79_80{l r:List ac}(h:wE ca l=some r):EvP prog aB ext 79 [.ref 0 0,.d (.raw (.func (.func 80) #[] #[]))] [.arr 0 66 (l.map ac.pd)] (.tup [],[.arr 0 66 (r.map ac.pd)]):=sort_ev rfl (sortD_of T_api_Pick_inj h)
theorem clone_182{l r:List ac}(h:rE 104 l=some r):EvP prog aB ext 182 [rM ac.pd l] [] (.ref 0 0,[.arr 0 66 (r.map ac.pd)]):=w9 (g:=ac.pd) rfl (fun _=>rfl) h
theorem clone_325{l r:List aA}(h:rE 80 l=some r):EvP prog aB ext 325 [rM aA.pd l] [] (.ref 0 0,[.arr 0 113 (r.map aA.pd)]):=w9 (g:=aA.pd) rfl (fun _=>rfl) h
theorem clone_364{l r:List aH}(h:rE 96 l=some r):EvP prog aB ext 364 [rM aH.pd l] [] (.ref 0 0,[.arr 0 184 (r.map aH.pd)]):=w9 (g:=aH.pd) rfl (fun _=>rfl) h
theorem clone_107{l r:List Int}(h:rE 8 l=some r):EvP prog aB ext 107 [rL l] [] (.ref 0 0,[.arr 0 3 (r.map (PD.int .i64))]):=w9 (g:=(PD.int .i64)) rfl (fun _=>rfl) h
theorem lP{a0:(List Int)}{r:ae}(h:ib a0=some r):EvP prog aB ext 11 [rL a0] [] (.ptr 0 0,[.var (ae.rc r)]):=by
 refine Ev.body rfl Tryz.func11 rfl (by kernel_rfl)<|gS rfl rfl<|sV (.d (.raw (.pointer none)))<|sN<|gS rfl rfl<|sM rfl<|sM rfl<|sE (rI (a0.length:Int)) (fQ _ _)<|sV (rI (if(2000:Int)<(a0.length:Int)then(2000:Int)else(a0.length:Int)))<|bE h fun x1 hx1 h=>WO.cutL (sz:=1) (g:=(PD.int .i64)) hx1 (fun _=>rfl) rfl rfl rfl rfl rfl rfl rfl rfl rfl rfl rfl<|sV (.d (ae.pd (ae.mk x1 0)))<|sB (.ptr 144 0) 144 (.var [rL x1,r0])<|sA rfl<|sN ?_
 refine qR ?_
 exact oI h▸qD
theorem Src_Raw_ev{d0:ae}{r:Int×ae}(h:Src_Raw d0=some r):EvP prog aB ext 72 [.ptr 0 0] [.var (ae.rc d0)] (rI r.1,[.var (ae.rc r.2)]):=by
 refine Ev.body rfl Tryz.func72 rfl (by kernel_rfl)<|gS rfl rfl<|sV (r0)<|sN<|qS<|WC.bZ rfl rfl<|sM rfl<|sV (.ptr 0 0)<|sV (.ptr 0 1)<|sL rfl<|sM rfl<|sV (.ptr 0 0)<|sV (.ptr 0 0)<|sL rfl<|sE (rI (d0.fL.length:Int)) (fQ _ _) ?_
 refine sF h (fun h=>?_) fun h=>?_
 ·refine sN<|sO<|cT<|gS rfl rfl<|sV (r0)<|sN<|qR ?_
  exact oI h▸qD
 refine sN<|sO<|cF<|qK<|gS rfl rfl<|sM rfl<|sV (.ptr 0 0)<|sV (.ptr 0 1)<|sL rfl<|sV (rI (rW (d0.fAt+(1:Int))))<|sV (.ptr 0 0)<|sV (.ptr 0 1)<|sS 0 (.var [rL d0.fL,rI (rW (d0.fAt+(1:Int)))])<|sN<|WC.bZ rfl rfl<|sM rfl ?_
 refine sV (.ptr 0 0)<|sV (.ptr 0 0)<|sL rfl<|sM rfl<|sV (.ptr 0 0)<|sV (.ptr 0 1)<|sL rfl<|sV (rI (rW ((rW (d0.fAt+(1:Int)))-(1:Int))))<|bE h fun x2 hx2 h=>eG hx2 rfl<|sC rfl<|sA rfl ?_
 refine sN<|sO<|qR ?_
 exact oI h▸qD
theorem pq{a0:Int}{a1:Int}{r:Int}(h:mP a0 a1=some r):EvP prog aB ext 24 [rI a0,rI a1] [] (rI r,[]):=by
 refine Ev.body rfl Tryz.func24 rfl (by kernel_rfl)<|gS rfl rfl<|sV (r0)<|sN<|qS<|gS rfl rfl<|sM rfl<|sF h (fun h=>?_) fun h=>?_
 ·refine sN<|cT<|gS rfl rfl<|sV (r0)<|sN<|qR ?_
  exact oI h▸qD
 refine sN<|cF<|qK<|gS rfl rfl<|sM rfl<|sM rfl<|bE h fun x2 hx2 h=>WO.remG hx2 rfl rfl rfl rfl rfl rfl<|sA rfl<|sN<|qS<|gS rfl rfl<|sM rfl<|sF h (fun h=>?_) fun h=>?_
 ·refine sN<|cT<|WC.region rfl rfl<|sM rfl<|sM rfl<|sV (rI (rW (x2+a1)))<|sA rfl<|sN<|gS rfl rfl<|sM rfl<|sA rfl<|sN<|qR ?_
  exact oI h▸qD
 refine sN<|cF<|qK<|gS rfl rfl<|sM rfl<|sA rfl<|sN<|qR ?_
 exact oI h▸qD
theorem bL{a1:Int}{d0:ae}{r:Int×ae}(h:cG a1 d0=some r):EvP prog aB ext 25 [.ptr 0 0,rI a1] [.var (ae.rc d0)] (rI r.1,[.var (ae.rc r.2)]):=by
 refine Ev.body rfl Tryz.func25 rfl (by kernel_rfl)<|gS rfl rfl<|sV (r0)<|sN<|gS rfl rfl<|sM rfl<|bE h fun x1 hx1 h=>cR (rI x1.1) [(0,.var (ae.rc x1.2))] (Src_Raw_ev hx1)<|sM rfl<|bE h fun x2 hx2 h=>cD (pq hx2)<|sA rfl<|sN<|qR ?_
 exact oI h▸qD
theorem oe{a1:Int}{d0:ae}{r:aa×ae}(h:kd a1 d0=some r):EvP prog aB ext 51 [.ptr 0 0,rI a1] [.var (ae.rc d0)] (.d (aa.pd r.1),[.var (ae.rc r.2)]):=by
 refine Ev.body rfl Tryz.func51 rfl (by kernel_rfl)<|gS rfl rfl<|sB (.ptr 64 0) 64 (.var [r0,r0,r0])<|sN<|gS rfl rfl<|sM rfl<|sM rfl<|sV (rI (rW ((2:Int)*a1)))<|sV (rI (rW ((rW ((2:Int)*a1))+(1:Int))))<|bE h fun x1 hx1 h=>cR (rI x1.1) [(0,.var (ae.rc x1.2))] (bL hx1)<|sM rfl<|sV (rI (rW (x1.1-a1)))<|sM rfl<|sM rfl ?_
 refine sV (rI (rW ((2:Int)*a1)))<|sV (rI (rW ((rW ((2:Int)*a1))+(1:Int))))<|bE h fun x2 hx2 h=>cR (rI x2.1) [(0,.var (ae.rc x2.2))] (bL hx2)<|sM rfl<|sV (rI (rW (x2.1-a1)))<|sM rfl<|sM rfl<|sV (rI (rW (a1+(1:Int))))<|bE h fun x3 hx3 h=>cR (rI x3.1) [(0,.var (ae.rc x3.2))] (bL hx3)<|sV (.d (aa.pd (aa.mk (rW (x1.1-a1)) (rW (x2.1-a1)) x3.1)))<|sS 64 (.var [rI (rW (x1.1-a1)),rI (rW (x2.1-a1)),rI x3.1])<|sN<|qR ?_
 exact oI h▸qD
theorem Src_Box_ev{a1:Int}{a2:Int}{d0:ae}{r:ai×ae}(h:oc a1 a2 d0=some r):EvP prog aB ext 104 [.ptr 0 0,rI a1,rI a2] [.var (ae.rc d0)] (.d (ai.pd r.1),[.var (ae.rc r.2)]):=by
 refine Ev.body rfl Tryz.func104 rfl (by kernel_rfl)<|gS rfl rfl<|sB (.ptr 96 0) 96 (.var zZ5)<|sN<|gS rfl rfl<|sM rfl<|sM rfl<|bE h fun x1 hx1 h=>cR (.d (aa.pd x1.1)) [(0,.var (ae.rc x1.2))] (oe hx1)<|sB (.ptr 112 0) 112 (.var [r0,r0,r0])<|sS 112 (.var (aa.rc x1.1))<|sN<|WC.bZ rfl rfl<|sV (.d (aa.pd x1.1))<|sV (.ptr 112 0) ?_
 refine sL rfl<|sM rfl<|sM rfl<|sV (rI (rW (a2+(1:Int))))<|bE h fun x2 hx2 h=>cR (rI x2.1) [(0,.var (ae.rc x2.2))] (bL hx2)<|sV (rI (rW (x1.1.fX+x2.1)))<|sV (.ptr 112 1)<|sL rfl<|sM rfl<|sM rfl<|sV (rI (rW (a2+(1:Int))))<|bE h fun x3 hx3 h=>cR (rI x3.1) [(0,.var (ae.rc x3.2))] (bL hx3)<|sV (rI (rW (x1.1.fY+x3.1))) ?_
 refine sV (.ptr 112 2)<|sL rfl<|sM rfl<|sM rfl<|sV (rI (rW (a2+(1:Int))))<|bE h fun x4 hx4 h=>cR (rI x4.1) [(0,.var (ae.rc x4.2))] (bL hx4)<|sV (rI (rW (x1.1.fZ+x4.1)))<|sV (.d (aa.pd (aa.mk (rW (x1.1.fX+x2.1)) (rW (x1.1.fY+x3.1)) (rW (x1.1.fZ+x4.1)))))<|sG (.d (ai.pd (ai.mk x1.1 (aa.mk (rW (x1.1.fX+x2.1)) (rW (x1.1.fY+x3.1)) (rW (x1.1.fZ+x4.1))))))<|sH 96 (.var (aa.rc x1.1++[rI (rW (x1.1.fX+x2.1)),rI (rW (x1.1.fY+x3.1)),rI (rW (x1.1.fZ+x4.1))])) ?_
 refine sN<|sO<|qR ?_
 cases oI h
 exact qG
theorem ed{a1:(List Int)}{d0:ae}{r:Int×ae}(h:dD a1 d0=some r):EvP prog aB ext 50 [.ptr 0 0,rL a1] [.var (ae.rc d0)] (rI r.1,[.var (ae.rc r.2)]):=by
 refine Ev.body rfl Tryz.func50 rfl (by kernel_rfl)<|gS rfl rfl<|sV (r0)<|sN<|gS rfl rfl<|sM rfl<|sM rfl<|sM rfl<|sE (rI (a1.length:Int)) (fQ _ _)<|bE h fun x1 hx1 h=>cR (rI x1.1) [(0,.var (ae.rc x1.2))] (bL hx1)<|bE h fun x2 hx2 h=>eG hx2 rfl<|sC rfl<|sA rfl ?_
 refine sN<|qR ?_
 exact oI h▸qD
theorem rz{d0:ae}{r:aF×ae}(h:jg d0=some r):EvP prog aB ext 105 [.ptr 0 0] [.var (ae.rc d0)] (.agg [rI r.1.bo,.ref 1 0,.ref 2 0],[.var (ae.rc r.2),.arr 0 3 (r.1.aK.map (PD.int .i64)),.arr 0 3 (r.1.aG.map (PD.int .i64))]):=by
 refine Ev.body rfl Tryz.func105 rfl (by kernel_rfl)<|gS rfl rfl<|sB (.ptr 32 0) 32 (.var [r0,.dg,.dg])<|sN<|gS rfl rfl<|sM rfl<|sV (.d (.lst ([20,25,40,100].map (PD.int .i64))))<|bE h fun x1 hx1 h=>cR (rI x1.1) [(0,.var (ae.rc x1.2))] (ed hx1)<|sV (.agg [rI x1.1,.dg,.dg])<|sB (.ptr 48 0) 48 (.var [r0,.dg,.dg])<|sS 48 (.var [rI x1.1,.dg,.dg])<|sN<|gS rfl rfl<|sM rfl ?_
 refine bE h fun x2 hx2 h=>cR (rI x2.1) [(0,.var (ae.rc x2.2))] (bL hx2)<|sV (r0)<|sA rfl<|sN<|qS<|gS rfl rfl<|sV (r0)<|sN<|bE h fun o24 ho24 h=>WC.block (WC.loop (WL.hY ho24 (fun s R' B'=>cI prog 1 (A R' B') (aB.at_ 105 1 4)=some (A [(0,.ptr 0 0),(2,.ptr 32 0),(3,.ptr 48 0),(4,rI s.1),(5,rI s.2.1),(6,rI s.2.2.1)] [(0,.var [rL s.2.2.2.1,rI s.2.2.2.2.1]),(32,.var [r0,.dg,.dg]),(48,.var [rI x1.1,.ref 432 0,.ref 512 0]),(432,.arr 0 3 (s.2.2.2.2.2.1.map (PD.int .i64))),(512,.arr 0 3 (s.2.2.2.2.2.2.map (PD.int .i64)))])) (fun o e R' B'=>e= .exit 0∧cI prog 1 (A R' B') (aB.at_ 105 1 9)=some (A [(2,.ptr 32 0),(3,.ptr 48 0)] [(0,.var [rL o.1,rI o.2.1]),(32,.var [r0,.dg,.dg]),(48,.var [rI x1.1,.ref 432 0,.ref 512 0]),(432,.arr 0 3 (o.2.2.1.map (PD.int .i64))),(512,.arr 0 3 (o.2.2.2.map (PD.int .i64)))])) rfl ?_ ?_))
 ·rintro⟨s3,s4,s5,s6,s7,s8,s9⟩ R' B' q14 hI h
  unfold jE at h
  refine qS<|WC.bZ hI rfl<|sM rfl<|sV (.ptr 48 0)<|sL rfl<|bE h fun x15 hx15 h=>WO.uP hx15 rfl rfl rfl rfl rfl rfl<|sM rfl<|bE h fun x16 hx16 h=>cR (rI x16.1) [(0,.var (ae.rc x16.2))] (bL hx16)<|sV (rI (rW (x15+x16.1)))<|sF h (fun h=>?_) fun h=>?_
  ·refine sN<|sO<|cT<|qK<|qS<|qB<|WC.bZ rfl rfl<|sV (.ptr 48 1)<|sL rfl<|sM rfl<|sV (.d (.lst ([s3].map (PD.int .i64))))<|bE h fun x18 hx18 h=>aR hx18 (fun _=>rfl) rfl<|sV (.ptr 48 2)<|sL rfl<|sM rfl ?_
   refine sV (.d (.lst ([s4].map (PD.int .i64))))<|bE h fun x19 hx19 h=>aR hx19 (fun _=>rfl) rfl<|sV (.ptr 48 1)<|sS 48 (.var [rI x1.1,.ref 432 1,.ref 512 0])<|sV (.ptr 48 2)<|sS 48 (.var [rI x1.1,.ref 432 1,.ref 512 1]) ?_
   refine sN<|sO<|WC.bZ rfl rfl<|sM rfl<|sM rfl<|sV (.d (.lst ([0,10,20,35].map (PD.int .i64))))<|bE h fun x20 hx20 h=>cR (rI x20.1) [(0,.var (ae.rc x20.2))] (ed hx20)<|sV (.ptr 48 0)<|sL rfl<|bE h fun x21 hx21 h=>WO.uP hx21 rfl rfl rfl rfl rfl rfl<|sV (rI (rW (x20.1+x21)))<|sV (rI (rW (s3+(rW (x20.1+x21)))))<|sA rfl ?_
   refine sN<|sO<|WC.region rfl rfl<|sM rfl<|sM rfl<|sV (rI (if(rW (s3+(rW (x20.1+x21))))>s4 then(rW (s3+(rW (x20.1+x21))))else s4))<|sM rfl<|sV (.d (.lst ([0,0,5,30].map (PD.int .i64))))<|bE h fun x22 hx22 h=>cR (rI x22.1) [(0,.var (ae.rc x22.2))] (ed hx22)<|sV (rI (rW ((if(rW (s3+(rW (x20.1+x21))))>s4 then(rW (s3+(rW (x20.1+x21))))else s4)+x22.1)))<|sA rfl<|sN<|WC.region rfl rfl<|sM rfl<|sV (rI (rW (s5+(1:Int)))) ?_
   refine sA rfl<|sN ?_
   cases oI h
   exact⟨rfl,rfl⟩
  refine sN<|sO<|cF<|qX ?_
  cases oI h
  exact⟨nofun,rfl,rfl⟩
 intro e R' B' he hq
 obtain⟨rfl,hI⟩:=hq
 refine qE<|gS rfl hI<|sV (.agg [rI x1.1,.ref 432 0,.ref 512 0])<|sS 32 (.var [rI x1.1,.ref 432 0,.ref 512 0])<|sN<|qR ?_
 exact oI h▸qD
theorem qJ{a1:Int}{d0:ae}{r:aJ×ae}(h:dV a1 d0=some r):EvP prog aB ext 48 [.ptr 0 0,rI a1] [.var (ae.rc d0)] (.d (aJ.pd r.1),[.var (ae.rc r.2)]):=by
 refine Ev.body rfl Tryz.func48 rfl (by kernel_rfl)<|gS rfl rfl<|sB (.ptr 64 0) 64 (.var [r0,r0,r0,r0,r0,r0,r0,.dg,.dg,r0,r0,r0,r0,r0])<|sN<|gS rfl rfl<|sM rfl<|sM rfl<|bE h fun x1 hx1 h=>cR (.d (ai.pd x1.1)) [(0,.var (ae.rc x1.2))] (Src_Box_ev hx1)<|sM rfl<|bE h fun x2 hx2 h=>cR (.agg [rI x2.1.bo,.ref 144 0,.ref 145 0]) [(0,.var (ae.rc x2.2)),(144,.arr 0 3 (x2.1.aK.map (PD.int .i64))),(145,.arr 0 3 (x2.1.aG.map (PD.int .i64)))] (rz hx2)<|sM rfl<|sV (.d (.lst ([10,50,200].map (PD.int .i64))))<|bE h fun x3 hx3 h=>?_
 refine cR (rI x3.1) [(0,.var (ae.rc x3.2))] (ed hx3)<|sM rfl<|sV (.d (.lst ([0,0,10,40].map (PD.int .i64))))<|bE h fun x4 hx4 h=>cR (rI x4.1) [(0,.var (ae.rc x4.2))] (ed hx4)<|sM rfl<|sV (.d (.lst ([0,50,200,400].map (PD.int .i64))))<|bE h fun x5 hx5 h=>cR (rI x5.1) [(0,.var (ae.rc x5.2))] (ed hx5)<|sM rfl<|sV (.d (.lst ([0,5,20].map (PD.int .i64))))<|bE h fun x6 hx6 h=>cR (rI x6.1) [(0,.var (ae.rc x6.2))] (ed hx6)<|sM rfl<|bE h fun x7 hx7 h=>?_
 refine cR (rI x7.1) [(0,.var (ae.rc x7.2))] (bL hx7)<|sV (rI (rW ((2:Int)+x7.1)))<|sG (.agg (ai.rc x1.1++[rI x2.1.bo,.ref 144 0,.ref 145 0,rI x3.1,rI x4.1,rI x5.1,rI x6.1,rI (rW ((2:Int)+x7.1))]))<|sH 64 (.var (ai.rc x1.1++[rI x2.1.bo,.ref 144 0,.ref 145 0,rI x3.1,rI x4.1,rI x5.1,rI x6.1,rI (rW ((2:Int)+x7.1))]))<|sN<|qR ?_
 cases oI h
 exact qG
theorem Src_Scale_ev{d0:ae}{r:bt×ae}(h:ke d0=some r):EvP prog aB ext 49 [.ptr 0 0] [.var (ae.rc d0)] (.d (bt.pd r.1),[.var (ae.rc r.2)]):=by
 refine Ev.body rfl Tryz.func49 rfl (by kernel_rfl)<|gS rfl rfl<|sB (.ptr 32 0) 32 (.var [r0,.dg,.dg,r0,r0])<|sN<|gS rfl rfl<|sM rfl<|bE h fun x1 hx1 h=>cR (.agg [rI x1.1.bo,.ref 96 0,.ref 97 0]) [(0,.var (ae.rc x1.2)),(96,.arr 0 3 (x1.1.aK.map (PD.int .i64))),(97,.arr 0 3 (x1.1.aG.map (PD.int .i64)))] (rz hx1)<|sM rfl<|bE h fun x2 hx2 h=>cR (rI x2.1) [(0,.var (ae.rc x2.2))] (bL hx2)<|sM rfl<|bE h fun x3 hx3 h=>cR (rI x3.1) [(0,.var (ae.rc x3.2))] (bL hx3)<|sV (rI (rW ((1:Int)+x3.1))) ?_
 refine sV (.agg [rI x1.1.bo,.ref 96 0,.ref 97 0,rI x2.1,rI (rW ((1:Int)+x3.1))])<|sB (.ptr 48 0) 48 (.var [r0,.dg,.dg,r0,r0])<|sS 48 (.var [rI x1.1.bo,.ref 96 0,.ref 97 0,rI x2.1,rI (rW ((1:Int)+x3.1))])<|sN<|qS<|gS rfl rfl<|sV (.ptr 48 0)<|sV (.ptr 48 1)<|sL rfl<|WO.tZ rfl rfl rfl rfl rfl rfl rfl rfl rfl<|sV (r0)<|sN<|bE h fun o26 ho26 h=>WC.block (WC.loop (WL.hY ho26 (fun s R' B'=>cI prog 1 (A R' B') (aB.at_ 49 1 3)=some (A [(2,.ptr 32 0),(3,.ptr 48 0),(16,rI (x1.1.aK.length:Int)),(17,rI s.1)] [(0,.var (ae.rc x3.2)),(32,.var [r0,.dg,.dg,r0,r0]),(48,.var [rI x1.1.bo,.ref 96 0,.ref 97 0,rI x2.1,rI (rW ((1:Int)+x3.1))]),(96,.arr 0 3 (s.2.1.map (PD.int .i64))),(97,.arr 0 3 (s.2.2.map (PD.int .i64)))])) (fun o e R' B'=>e= .exit 0∧cI prog 1 (A R' B') (aB.at_ 49 1 7)=some (A [(2,.ptr 32 0),(3,.ptr 48 0)] [(0,.var (ae.rc x3.2)),(32,.var [r0,.dg,.dg,r0,r0]),(48,.var [rI x1.1.bo,.ref 96 0,.ref 97 0,rI x2.1,rI (rW ((1:Int)+x3.1))]),(96,.arr 0 3 (o.1.map (PD.int .i64))),(97,.arr 0 3 (o.2.map (PD.int .i64)))])) rfl ?_ ?_))
 ·rintro⟨s4,s5,s6⟩ R' B' q9 hI h
  refine gS rfl hI<|sF h (fun h=>?_) fun h=>?_
  ·refine sN<|qS<|cT<|qK<|qS<|qB<|gS rfl rfl<|sM rfl<|sA rfl<|sN<|WC.oH rfl rfl<|sV (.ptr 48 0)<|sV (.ptr 48 1)<|sL rfl<|sM rfl ?_
   refine sV (.ptr 48 0)<|sV (.ptr 48 2)<|sL rfl<|sM rfl<|sV (.ptr 48 0)<|sV (.ptr 48 1)<|sL rfl<|sM rfl<|bE h fun x12 hx12 h=>WO.pO hx12 rfl rfl rfl rfl rfl rfl rfl rfl<|bE h fun x13 hx13 h=>WO.pz hx13 rfl rfl rfl rfl rfl rfl<|bE h fun x14 hx14 h=>WO.uP hx14 rfl rfl rfl rfl rfl rfl<|sV (.ptr 48 0) ?_
   refine sV (.ptr 48 2)<|sL rfl<|sM rfl<|bE h fun x16 hx16 h=>WO.pO hx16 rfl rfl rfl rfl rfl rfl rfl rfl<|bE h fun x17 hx17 h=>WO.pz hx17 rfl rfl rfl rfl rfl rfl<|bE h fun x18 hx18 h=>WO.uP hx18 rfl rfl rfl rfl rfl rfl<|bE h fun x20 hx20 h=>WO.pO hx20 rfl rfl rfl rfl rfl rfl rfl rfl<|bE h fun x21 hx21 h=>WO.rR (g:=(PD.int .i64)) (sz:=1) (p:= .int .i64 x14) hx21 (fun _=>rfl) (fun _=>rfl) rfl rfl rfl rfl rfl rfl rfl rfl rfl<|bE h fun x23 hx23 h=>WO.pO hx23 rfl rfl rfl rfl rfl rfl rfl rfl ?_
   refine bE h fun x24 hx24 h=>WO.rR (g:=(PD.int .i64)) (sz:=1) (p:= .int .i64 x18) hx24 (fun _=>rfl) (fun _=>rfl) rfl rfl rfl rfl rfl rfl rfl rfl rfl ?_
   refine sN<|sO<|WC.region rfl rfl<|sV (rI (rW (s4+(1:Int))))<|sM rfl<|sN ?_
   cases oI h
   exact⟨rfl,rfl⟩
  refine sN<|qS<|cF<|qX ?_
  cases oI h
  exact⟨nofun,rfl,rfl⟩
 intro e R' B' he hq
 obtain⟨rfl,hI⟩:=hq
 refine qE<|gS rfl hI<|sV (.agg [rI x1.1.bo,.ref 96 0,.ref 97 0,rI x2.1,rI (rW ((1:Int)+x3.1))])<|sS 32 (.var [rI x1.1.bo,.ref 96 0,.ref 97 0,rI x2.1,rI (rW ((1:Int)+x3.1))])<|sN<|qR ?_
 exact oI h▸qD
theorem hJ{a1:Int}{d0:ae}{r:ak×ae}(h:cQ a1 d0=some r):EvP prog aB ext 12 [.ptr 0 0,rI a1] [.var (ae.rc d0)] (.d (ak.pd r.1),[.var (ae.rc r.2)]):=by
 refine Ev.body rfl Tryz.func12 rfl (by kernel_rfl)<|gS rfl rfl<|sB (.ptr 64 0) 64 (.var zZ0)<|sN<|gS rfl rfl<|sM rfl<|sM rfl<|bE h fun x1 hx1 h=>cR (.d (aJ.pd x1.1)) [(0,.var (ae.rc x1.2))] (qJ hx1)<|sM rfl<|bE h fun x2 hx2 h=>cR (.d (bt.pd x2.1)) [(0,.var (ae.rc x2.2))] (Src_Scale_ev hx2)<|sM rfl<|sV (.d (.lst ([0,0,10,40].map (PD.int .i64))))<|bE h fun x3 hx3 h=>?_
 refine cR (rI x3.1) [(0,.var (ae.rc x3.2))] (ed hx3)<|sG (.d (.agg [.int .i64 x1.1.aN.aK.fX,.int .i64 x1.1.aN.aK.fY,.int .i64 x1.1.aN.aK.fZ,.int .i64 x1.1.aN.aG.fX,.int .i64 x1.1.aN.aG.fY,.int .i64 x1.1.aN.aG.fZ,.int .i64 x1.1.bg.bo,.lst (x1.1.bg.aK.map (PD.int .i64)),.lst (x1.1.bg.aG.map (PD.int .i64)),.int .i64 x1.1.cC,.int .i64 x1.1.bv,.int .i64 x1.1.dx,.int .i64 x1.1.eK,.int .i64 x1.1.co,.int .i64 x2.1.bF.bo,.lst (x2.1.bF.aK.map (PD.int .i64)),.lst (x2.1.bF.aG.map (PD.int .i64)),.int .i64 x2.1.bn,.int .i64 x2.1.bf,.int .i64 x3.1]))<|sH 64 (.var (aJ.rc x1.1++bt.rc x2.1++[rI x3.1]))<|sN<|qR ?_
 cases oI h
 exact qG
theorem oO{d0:ae}{r:aO×ae}(h:eT d0=some r):EvP prog aB ext 52 [.ptr 0 0] [.var (ae.rc d0)] (.d (aO.pd r.1),[.var (ae.rc r.2)]):=by
 refine Ev.body rfl Tryz.func52 rfl (by kernel_rfl)<|gS rfl rfl<|sB (.ptr 32 0) 32 (.var [.dg])<|sN<|gS rfl rfl<|sB (.ptr 48 0) 48 (.var [.dg])<|sN<|qS<|gS rfl rfl<|sM rfl<|bE h fun x1 hx1 h=>cR (rI x1.1) [(0,.var (ae.rc x1.2))] (bL hx1)<|sA rfl<|sN<|bE h fun o28 ho28 h=>?_
 refine WC.block (WC.loop (WL.hY ho28 (fun s R' B'=>cI prog 1 (A R' B') (aB.at_ 52 1 3)=some (A [(0,.ptr 0 0),(2,.ptr 32 0),(3,.ptr 48 0),(4,rI s.1)] [(0,.var [rL s.2.1,rI s.2.2.1]),(32,.var [.dg]),(48,.var [.ref 1040 0]),(1040,.arr 0 184 (s.2.2.2.map aH.pd))])) (fun o e R' B'=>e= .exit 0∧cI prog 1 (A R' B') (aB.at_ 52 1 13)=some (A [(2,.ptr 32 0),(3,.ptr 48 0)] [(0,.var [rL o.1,rI o.2.1]),(32,.var [.dg]),(48,.var [.ref 1040 0]),(1040,.arr 0 184 (o.2.2.map aH.pd))])) rfl ?_ ?_))
 ·rintro⟨s2,s3,s4,s5⟩ R' B' q9 hI h
  refine qS<|gS rfl hI<|sM rfl<|sF h (fun h=>?_) fun h=>?_
  ·refine sN<|cT<|qK<|qS<|qB<|gS rfl rfl<|sM rfl<|bE h fun x11 hx11 h=>cR (rI x11.1) [(0,.var (ae.rc x11.2))] (bL hx11)<|sG (.agg [rI x11.1,r0,r0,r0,r0,r0,r0,.dg,r0,r0])<|sB (.ptr 80 0) 80 (.var [r0,r0,r0,r0,r0,r0,r0,.dg,r0,r0])<|sH 80 (.var [rI x11.1,r0,r0,r0,r0,r0,r0,.dg,r0,r0])<|sN<|qS<|gS rfl rfl ?_
   refine sV (.ptr 80 0)<|sL rfl<|sN<|qB<|gS rfl rfl<|sF h (fun h=>?_) fun h=>?_
   ·refine sA rfl<|sN<|cT<|WC.region rfl rfl<|sM rfl<|sV (.d (.lst ([0,1,9,99,1048575].map (PD.int .i64))))<|bE h fun x13 hx13 h=>cR (rI x13.1) [(0,.var (ae.rc x13.2))] (ed hx13)<|sV (rI (rW ((1:Int)+x13.1)))<|sM rfl<|sV (.d (.lst ([0,0,2,9,999].map (PD.int .i64))))<|bE h fun x14 hx14 h=>cR (rI x14.1) [(0,.var (ae.rc x14.2))] (ed hx14)<|sV (rI (rW ((1:Int)+x14.1)))<|sV (.ptr 80 1) ?_
    refine sV (.ptr 80 1)<|sS 80 (.var [rI x11.1,rI (rW ((1:Int)+x13.1)),r0,r0,r0,r0,r0,.dg,r0,r0])<|sV (.ptr 80 4)<|sV (.ptr 80 4)<|sS 80 (.var [rI x11.1,rI (rW ((1:Int)+x13.1)),r0,r0,rI (rW ((1:Int)+x14.1)),r0,r0,.dg,r0,r0])<|sN<|WC.region rfl rfl<|sV (.ptr 48 0)<|sL rfl<|sV (.agg [rI x11.1,rI (rW ((1:Int)+x13.1)),r0,r0,rI (rW ((1:Int)+x14.1)),r0,r0,.dg,r0,r0])<|sG (.d (.lst ([(aH.mk x11.1 (aT.mk (rW ((1:Int)+x13.1)) 0 0) (aT.mk (rW ((1:Int)+x14.1)) 0 0) [] 0 0)].map aH.pd)))<|bE h fun x15 hx15 h=>aR hx15 (fun _=>rfl) rfl<|sV (.ptr 48 0)<|sS 48 (.var [.ref 1040 1]) ?_
    refine sN<|WC.region rfl rfl<|sM rfl<|sV (rI (rW (s2-(1:Int))))<|sA rfl<|sN ?_
    cases oI h
    exact⟨rfl,rfl⟩
   refine sA rfl<|sN<|cF<|gS rfl rfl<|sF h (fun h=>?_) fun h=>?_
   ·refine sA rfl<|sN<|cT<|WC.region rfl rfl<|sM rfl<|bE h fun x17 hx17 h=>cR (rI x17.1) [(0,.var (ae.rc x17.2))] (bL hx17)<|sM rfl<|bE h fun x18 hx18 h=>cR (rI x18.1) [(0,.var (ae.rc x18.2))] (bL hx18)<|sV (rI (rW (x18.1-(3:Int))))<|sM rfl<|bE h fun x19 hx19 h=>cR (rI x19.1) [(0,.var (ae.rc x19.2))] (bL hx19)<|sV (rI (rW (x19.1-(1:Int)))) ?_
    refine sV (.d (aT.pd (aT.mk x17.1 (rW (x18.1-(3:Int))) (rW (x19.1-(1:Int))))))<|sM rfl<|bE h fun x20 hx20 h=>cR (rI x20.1) [(0,.var (ae.rc x20.2))] (bL hx20)<|sV (rI (rW ((1:Int)+x20.1)))<|sM rfl<|bE h fun x21 hx21 h=>cR (rI x21.1) [(0,.var (ae.rc x21.2))] (bL hx21)<|sM rfl<|bE h fun x22 hx22 h=>cR (rI x22.1) [(0,.var (ae.rc x22.2))] (bL hx22)<|sV (.d (aT.pd (aT.mk (rW ((1:Int)+x20.1)) x21.1 x22.1)))<|sV (.ptr 80 1)<|sS 80 (.var [rI x11.1,rI x17.1,rI (rW (x18.1-(3:Int))),rI (rW (x19.1-(1:Int))),r0,r0,r0,.dg,r0,r0])<|sV (.ptr 80 4) ?_
    refine sS 80 (.var [rI x11.1,rI x17.1,rI (rW (x18.1-(3:Int))),rI (rW (x19.1-(1:Int))),rI (rW ((1:Int)+x20.1)),rI x21.1,rI x22.1,.dg,r0,r0])<|sN<|WC.region rfl rfl<|sV (.ptr 48 0)<|sL rfl<|sV (.agg [rI x11.1,rI x17.1,rI (rW (x18.1-(3:Int))),rI (rW (x19.1-(1:Int))),rI (rW ((1:Int)+x20.1)),rI x21.1,rI x22.1,.dg,r0,r0])<|sG (.d (.lst ([(aH.mk x11.1 (aT.mk x17.1 (rW (x18.1-(3:Int))) (rW (x19.1-(1:Int)))) (aT.mk (rW ((1:Int)+x20.1)) x21.1 x22.1) [] 0 0)].map aH.pd)))<|bE h fun x23 hx23 h=>aR hx23 (fun _=>rfl) rfl<|sV (.ptr 48 0)<|sS 48 (.var [.ref 1040 1])<|sN<|WC.region rfl rfl<|sM rfl<|sV (rI (rW (s2-(1:Int)))) ?_
    refine sA rfl<|sN ?_
    cases oI h
    exact⟨rfl,rfl⟩
   refine sA rfl<|sN<|cF<|WC.region rfl rfl<|sM rfl<|bE h fun x24 hx24 h=>cR (rI x24.1) [(0,.var (ae.rc x24.2))] (bL hx24)<|sV (rI (rW ((1:Int)+x24.1)))<|sV (.d (.lst ([(rW ((1:Int)+x24.1)),2,1].map (PD.int .i64))))<|sM rfl<|bE h fun x25 hx25 h=>cR (rI x25.1) [(0,.var (ae.rc x25.2))] (bL hx25)<|sV (.ptr 80 7)<|sS 80 (.var [rI x11.1,r0,r0,r0,r0,r0,r0,.d (.lst ([(rW ((1:Int)+x24.1)),2,1].map (PD.int .i64))),r0,r0])<|sV (.ptr 80 8) ?_
   refine sS 80 (.var [rI x11.1,r0,r0,r0,r0,r0,r0,.d (.lst ([(rW ((1:Int)+x24.1)),2,1].map (PD.int .i64))),rI 1,r0])<|sV (.ptr 80 9)<|sS 80 (.var [rI x11.1,r0,r0,r0,r0,r0,r0,.d (.lst ([(rW ((1:Int)+x24.1)),2,1].map (PD.int .i64))),rI 1,rI x25.1])<|sN<|WC.region rfl rfl<|sV (.ptr 48 0)<|sL rfl<|sV (.d (.agg [.int .i64 x11.1,.int .i64 0,.int .i64 0,.int .i64 0,.int .i64 0,.int .i64 0,.int .i64 0,.lst ([(rW ((1:Int)+x24.1)),2,1].map (PD.int .i64)),.int .i64 1,.int .i64 x25.1]))<|sG (.d (.lst ([(aH.mk x11.1 (aT.mk 0 0 0) (aT.mk 0 0 0) [(rW ((1:Int)+x24.1)),2,1] 1 x25.1)].map aH.pd)))<|bE h fun x26 hx26 h=>aR hx26 (fun _=>rfl) rfl<|sV (.ptr 48 0)<|sS 48 (.var [.ref 1040 1])<|sN<|WC.region rfl rfl ?_
   refine sM rfl<|sV (rI (rW (s2-(1:Int))))<|sA rfl<|sN ?_
   cases oI h
   exact⟨rfl,rfl⟩
  refine sN<|cF<|qX ?_
  cases oI h
  exact⟨nofun,rfl,rfl⟩
 intro e R' B' he hq
 obtain⟨rfl,hI⟩:=hq
 refine qE<|gS rfl hI<|sV (.agg [.ref 1040 0])<|sS 32 (.var [.ref 1040 0])<|sN<|qR ?_
 exact oI h▸qD
theorem gr{a0:Int}{r:av}(h:cW a0=some r):EvP prog aB ext 29 [rI a0] [] (.d (av.pd r),[]):=by
 refine Ev.body rfl Tryz.func29 rfl (by kernel_rfl)<|gS rfl rfl<|sB (.ptr 32 0) 32 (.var [rS [],rS [],rS [],rS []])<|sN<|gS rfl rfl<|sV (.d (.lst ([[83,49],[83,50],[83,51],[83,52],[83,53],[83,54]].map PD.str)))<|sM rfl<|bE h fun x1 hx1 h=>cD (pq hx1)<|bE h fun x2 hx2 h=>eG hx2 rfl<|sC rfl<|sV (.d (av.pd (av.mk [65,66] x2 [48,48] [66,72,90])))<|sS 32 (.var [rS [65,66],rS x2,rS [48,48],rS [66,72,90]])<|sN ?_
 refine qR ?_
 exact oI h▸qD
theorem kC{a1:Int}{d0:ae}{r:ap×ae}(h:eB a1 d0=some r):EvP prog aB ext 13 [.ptr 0 0,rI a1] [.var (ae.rc d0)] (.d (ap.pd r.1),[.var (ae.rc r.2)]):=by
 refine Ev.body rfl Tryz.func13 rfl (by kernel_rfl)<|gS rfl rfl<|sB (.ptr 64 0) 64 (.var [.dg])<|sN<|gS rfl rfl<|sB (.ptr 80 0) 80 (.var [.dg])<|sN<|qS<|gS rfl rfl<|sV (r0)<|sN<|bE h fun o34 ho34 h=>WC.block (WC.loop (WL.hY ho34 (fun s R' B'=>cI prog 1 (A R' B') (aB.at_ 13 1 3)=some (A [(0,.ptr 0 0),(1,rI a1),(4,.ptr 64 0),(5,.ptr 80 0),(6,rI s.1)] [(0,.var [rL s.2.1,rI s.2.2.1]),(64,.var [.dg]),(80,.var [.ref 1104 0]),(1104,.arr 0 116 (s.2.2.2.map aq.pd))])) (fun o e R' B'=>e= .exit 0∧cI prog 1 (A R' B') (aB.at_ 13 1 16)=some (A [(4,.ptr 64 0),(5,.ptr 80 0)] [(0,.var [rL o.1,rI o.2.1]),(64,.var [.dg]),(80,.var [.ref 1104 0]),(1104,.arr 0 116 (o.2.2.map aq.pd))])) rfl ?_ ?_))
 ·rintro⟨s1,s2,s3,s4⟩ R' B' q8 hI h
  refine qS<|gS rfl hI<|sM rfl<|sM rfl<|sF h (fun h=>?_) fun h=>?_
  ·refine sM rfl<|sM rfl<|sV (rB (decide (s1<(6:Int))))<|sF h (fun h=>?_) fun h=>?_
   ·refine sN<|cT<|qK<|qS<|qB<|gS rfl rfl<|sV (.d (bu.pd (bu.mk 100 1)))<|sM rfl<|bE h fun x11 hx11 h=>cR (.d (aa.pd x11.1)) [(0,.var (ae.rc x11.2))] (oe hx11)<|sM rfl<|bE h fun x12 hx12 h=>cR (.d (aO.pd x12.1)) [(0,.var (ae.rc x12.2))] (oO hx12)<|sG (.d (.agg [.int .i64 0,.int .i64 100000,.int .i64 100,.int .i64 1,.int .i64 x11.1.fX,.int .i64 x11.1.fY,.int .i64 x11.1.fZ,.lst (x12.1.bq.map aH.pd)]))<|sB (.ptr 112 0) 112 (.var zZ4) ?_
    refine sH 112 (.var (r0::rI 100000::rI 100::rI 1::aa.rc x11.1++[rM aH.pd x12.1.bq]))<|sN<|WC.bZ rfl rfl<|sM rfl<|bE h fun x13 hx13 h=>cD (gr hx13)<|sV (.d (.agg [.int .i64 0,.int .i64 100000,.int .i64 100,.int .i64 1,.int .i64 x11.1.fX,.int .i64 x11.1.fY,.int .i64 x11.1.fZ,.lst (x12.1.bq.map aH.pd)]))<|sB (.ref 448 0) 448 (.arr 0 113 ([(aA.mk 0 100000 (bu.mk 100 1) x11.1 x12.1)].map aA.pd))<|sV (.agg (av.rc x13++[.ref 448 0]))<|sB (.ptr 128 0) 128 (.var [rS [],rS [],rS [],rS [],.dg])<|sS 128 (.var (av.rc x13++[.ref 448 0])) ?_
    refine sN<|sO<|qS<|gS rfl rfl<|sM rfl<|bE h fun x14 hx14 h=>cR (rI x14.1) [(0,.var (ae.rc x14.2))] (bL hx14)<|sN<|qB<|gS rfl rfl<|sF h (fun h=>?_) fun h=>?_
    ·refine sA rfl<|sN<|cT<|gS rfl rfl<|sV (.d (.agg [.int .i64 0,.int .i64 100000,.int .i64 100,.int .i64 1,.int .i64 x11.1.fX,.int .i64 x11.1.fY,.int .i64 x11.1.fZ,.lst (x12.1.bq.map aH.pd)]))<|sB (.ptr 144 0) 144 (.var zZ4)<|sH 144 (.var (r0::rI 100000::rI 100::rI 1::aa.rc x11.1++[rM aH.pd x12.1.bq]))<|sN<|gS rfl rfl<|sM rfl<|bE h fun x16 hx16 h=>cR (rI x16.1) [(0,.var (ae.rc x16.2))] (bL hx16)<|sV (rI (rW ((1500:Int)+x16.1)))<|sM rfl<|bE h fun x17 hx17 h=>?_
     refine cR (.d (aa.pd x17.1)) [(0,.var (ae.rc x17.2))] (oe hx17)<|sM rfl<|bE h fun x18 hx18 h=>cR (.d (aO.pd x18.1)) [(0,.var (ae.rc x18.2))] (oO hx18)<|sV (.ptr 144 0)<|sS 144 (.var (rI (rW ((1500:Int)+x16.1))::rI 100000::rI 100::rI 1::aa.rc x11.1++[rM aH.pd x12.1.bq]))<|sV (.ptr 144 4)<|sS 144 (.var (rI (rW ((1500:Int)+x16.1))::rI 100000::rI 100::rI 1::aa.rc x17.1++[rM aH.pd x12.1.bq]))<|sV (.ptr 144 7)<|sS 144 (.var (rI (rW ((1500:Int)+x16.1))::rI 100000::rI 100::rI 1::aa.rc x17.1++[rM aH.pd x18.1.bq]))<|sN<|gS rfl rfl<|sV (.ptr 128 4)<|sL rfl<|sV (.ptr 144 0) ?_
     refine sL rfl<|bE h fun x20 hx20 h=>WO.pO hx20 rfl rfl rfl rfl rfl rfl rfl rfl<|sV (.elt 448 0 ((0:Int)).toNat 1)<|bE h fun x21 hx21 h=>WO.BQ (g:=aA.pd) (u:=[]) (sz:=1) hx21 (fun _=>rfl) (fun _=>Nat.le_of_ble_eq_true rfl) rfl rfl rfl rfl rfl rfl rfl rfl rfl rfl rfl<|sN<|WC.region rfl rfl<|sV (.ptr 128 4)<|sL rfl<|sV (.d (.agg [.int .i64 (rW ((1500:Int)+x16.1)),.int .i64 100000,.int .i64 100,.int .i64 1,.int .i64 x17.1.fX,.int .i64 x17.1.fY,.int .i64 x17.1.fZ,.lst (x18.1.bq.map aH.pd)]))<|sG (.d (.lst ([(aA.mk (rW ((1500:Int)+x16.1)) 100000 (bu.mk 100 1) x17.1 x18.1)].map aA.pd)))<|bE h fun x23 hx23 h=>aR hx23 (fun _=>rfl) rfl<|sV (.ptr 128 4) ?_
     refine sS 128 (.var (av.rc x13++[.ref 448 1]))<|sN<|WC.region rfl rfl<|sV (.ptr 80 0)<|sL rfl<|sV (.agg (av.rc x13++[.ref 448 1]))<|sB (.d (.lst [aq.pd (aq.mk x13 x23)])) 448 .dead<|bE h fun x24 hx24 h=>aR hx24 (fun _=>rfl) rfl<|sV (.ptr 80 0)<|sS 80 (.var [.ref 1104 1])<|sN<|WC.region rfl rfl<|sM rfl<|sV (rI (rW (s1+(1:Int)))) ?_
     refine sA rfl<|sN ?_
     cases oI h
     exact⟨rfl,rfl⟩
    refine sA rfl<|sN<|cF<|gS rfl rfl<|sF h (fun h=>?_) fun h=>?_
    ·refine sA rfl<|sN<|cT<|WC.oH rfl rfl<|sV (.ptr 128 4)<|sL rfl<|sM rfl<|bE h fun x26 hx26 h=>cR (rI x26.1) [(0,.var (ae.rc x26.2))] (bL hx26)<|bE h fun x28 hx28 h=>WO.pO hx28 rfl rfl rfl rfl rfl rfl rfl rfl<|sV (.elt 448 0 ((0:Int)).toNat 0)<|bE h fun x29 hx29 h=>WO.BQ (g:=aA.pd) (u:=[]) (sz:=1) hx29 (fun _=>rfl) (fun _=>Nat.le_of_ble_eq_true rfl) rfl rfl rfl rfl rfl rfl rfl rfl rfl rfl rfl ?_
     refine sN<|sO<|WC.region rfl rfl<|sV (.ptr 80 0)<|sL rfl<|sV (.agg (av.rc x13++[.ref 448 0]))<|sB (.d (.lst [aq.pd (aq.mk x13 x29)])) 448 .dead<|bE h fun x31 hx31 h=>aR hx31 (fun _=>rfl) rfl<|sV (.ptr 80 0)<|sS 80 (.var [.ref 1104 1])<|sN<|WC.region rfl rfl<|sM rfl<|sV (rI (rW (s1+(1:Int))))<|sA rfl ?_
     refine sN ?_
     cases oI h
     exact⟨rfl,rfl⟩
    refine sA rfl<|sN<|cF<|qK<|WC.region rfl rfl<|sV (.ptr 80 0)<|sL rfl<|sV (.agg (av.rc x13++[.ref 448 0]))<|sB (.d (.lst [aq.pd (aq.mk x13 [(aA.mk 0 100000 (bu.mk 100 1) x11.1 x12.1)])])) 448 .dead<|bE h fun x32 hx32 h=>aR hx32 (fun _=>rfl) rfl<|sV (.ptr 80 0)<|sS 80 (.var [.ref 1104 1])<|sN<|WC.region rfl rfl ?_
    refine sM rfl<|sV (rI (rW (s1+(1:Int))))<|sA rfl<|sN ?_
    cases oI h
    exact⟨rfl,rfl⟩
   refine sN<|cF<|qX ?_
   cases oI h
   exact⟨nofun,rfl,rfl⟩
  refine sM rfl<|sK<|sK<|sU<|sN<|cF<|qX ?_
  cases oI h
  exact⟨nofun,rfl,rfl⟩
 intro e R' B' he hq
 obtain⟨rfl,hI⟩:=hq
 refine qE<|gS rfl hI<|sV (.agg [.ref 1104 0])<|sS 64 (.var [.ref 1104 0])<|sN<|qR ?_
 exact oI h▸qD
theorem oh{a1:Int}{a2:Int}{d0:ae}{r:Int×ae}(h:mA a1 a2 d0=some r):EvP prog aB ext 73 [.ptr 0 0,rI a1,rI a2] [.var (ae.rc d0)] (rI r.1,[.var (ae.rc r.2)]):=by
 refine Ev.body rfl Tryz.func73 rfl (by kernel_rfl)<|gS rfl rfl<|sV (r0)<|sN<|gS rfl rfl<|sM rfl<|sM rfl<|sM rfl<|sM rfl<|sV (rI (rW (a2-a1)))<|sV (rI (rW ((rW (a2-a1))+(1:Int))))<|bE h fun x1 hx1 h=>cR (rI x1.1) [(0,.var (ae.rc x1.2))] (bL hx1)<|sV (rI (rW (a1+x1.1)))<|sA rfl ?_
 refine sN<|qR ?_
 exact oI h▸qD
theorem og{a1:ai}{d0:ae}{r:aa×ae}(h:mz a1 d0=some r):EvP prog aB ext 27 [.ptr 0 0,.d (ai.pd a1)] [.var (ae.rc d0)] (.d (aa.pd r.1),[.var (ae.rc r.2)]):=by
 refine Ev.body rfl Tryz.func27 rfl (by kernel_rfl)<|gS rfl rfl<|sB (.ptr 48 0) 48 (.var (ai.rc a1))<|sB (.ptr 64 0) 64 (.var [r0,r0,r0])<|sN<|WC.bZ rfl rfl<|sM rfl<|sV (.ptr 48 0)<|sV (.ptr 48 0)<|sL rfl<|sV (.ptr 48 3)<|sV (.ptr 48 3)<|sL rfl<|bE h fun x1 hx1 h=>cR (rI x1.1) [(0,.var (ae.rc x1.2))] (oh hx1) ?_
 refine sM rfl<|sV (.ptr 48 0)<|sV (.ptr 48 1)<|sL rfl<|sV (.ptr 48 3)<|sV (.ptr 48 4)<|sL rfl<|bE h fun x2 hx2 h=>cR (rI x2.1) [(0,.var (ae.rc x2.2))] (oh hx2)<|sM rfl<|sV (.ptr 48 0)<|sV (.ptr 48 2)<|sL rfl<|sV (.ptr 48 3)<|sV (.ptr 48 5) ?_
 refine sL rfl<|bE h fun x3 hx3 h=>cR (rI x3.1) [(0,.var (ae.rc x3.2))] (oh hx3)<|sV (.d (aa.pd (aa.mk x1.1 x2.1 x3.1)))<|sS 64 (.var [rI x1.1,rI x2.1,rI x3.1]) ?_
 refine sN<|sO<|qR ?_
 exact oI h▸qD
theorem keep_place_ev{a0:ap}{a1:av}{a2:Int}{r:aa×Bool}(h:oA a0 a1 a2=some r):EvP prog aB ext 53 [.d (ap.pd a0),.d (av.pd a1),rI a2] [] (.tup [.d (aa.pd r.1),rB r.2],[]):=by
 refine Ev.body rfl Tryz.func53 rfl (by kernel_rfl)<|gS rfl rfl<|sB (.ptr 48 0) 48 (.var [rM aq.pd a0.aI])<|sB (.ptr 64 0) 64 (.var (av.rc a1))<|sB (.ptr 96 0) 96 (.var [r0,r0,r0])<|sU<|sN<|qS<|gS rfl rfl<|sV (.ptr 48 0)<|sL rfl<|sE (rI (a0.aI.length:Int)) (fQ _ _)<|sV (r0)<|sN<|bE h fun o18 ho18 h=>?_
 refine WC.block (WC.loop (WL.hY ho18 (fun s R' B'=>cI prog 0 (A R' B') (aB.at_ 53 0 2)=some (A [(2,rI a2),(4,.ptr 64 0),(6,.ptr 96 0),(13,rM aq.pd a0.aI),(14,rI (a0.aI.length:Int)),(15,rI s)] [(64,.var (av.rc a1)),(96,.var [r0,r0,r0])])) (fun o e R' B'=>match o with| .inl y=>e= .exit 0∧cI prog 0 (A R' B') (aB.at_ 53 0 11)=some (A [(6,.ptr 96 0)] [(96,.var [r0,r0,r0])])| .inr r=>e= .ret∧finish prog (aB.own 53) Tryz.f53 0 (A R' B')=some (.tup [.d (aa.pd r.1),rB r.2],[])) rfl ?_ ?_))
 ·rintro s1 R' B' q2 hI h
  refine gS rfl hI<|sF h (fun h=>?_) fun h=>?_
  ·refine sN<|qS<|cT<|qK<|qS<|qB<|gS rfl rfl<|bE h fun x4 hx4 h=>eG hx4 rfl<|sV (.d (aq.pd x4))<|sB (.ptr 144 0) 144 (.var [rS [],rS [],rS [],rS [],.dg])<|sS 144 (.var (aq.rc x4))<|sN<|gS rfl rfl<|sV (.ptr 144 4) ?_
   refine sL rfl<|sE (rI (x4.bz.length:Int)) (fQ _ _)<|sV (r0)<|sN<|bE h fun o14 ho14 h=>WC.block (WC.loop (WL.hY ho14 (fun s R' B'=>cI prog 0 (A R' B') (aB.at_ 53 0 5)=some (A [(2,rI a2),(4,.ptr 64 0),(6,.ptr 96 0),(9,.ptr 144 0),(13,rM aq.pd a0.aI),(14,rI (a0.aI.length:Int)),(15,rI s1),(20,rM aA.pd x4.bz),(21,rI (x4.bz.length:Int)),(22,rI s)] [(64,.var (av.rc a1)),(96,.var [r0,r0,r0]),(144,.var (aq.rc x4))])) (fun o e R' B'=>match o with| .inl y=>e= .exit 2∧cI prog 0 (A R' B') (aB.at_ 53 0 10)=some (A [(2,rI a2),(4,.ptr 64 0),(6,.ptr 96 0),(13,rM aq.pd a0.aI),(14,rI (a0.aI.length:Int)),(15,rI y)] [(64,.var (av.rc a1)),(96,.var [r0,r0,r0])])| .inr r=>e= .ret∧finish prog (aB.own 53) Tryz.f53 0 (A R' B')=some (.tup [.d (aa.pd r.1),rB r.2],[])) rfl ?_ ?_))
   ·rintro s5 R' B' q7 hI h
    refine gS rfl hI<|sF h (fun h=>?_) fun h=>?_
    ·refine sN<|qS<|cT<|qK<|qS<|qB<|gS rfl rfl<|bE h fun x9 hx9 h=>eG hx9 rfl<|sV (.d (aA.pd x9))<|sB (.ptr 176 0) 176 (.var zZ4)<|sH 176 (.var (aA.rc x9))<|sN<|gS rfl rfl<|sV (.ptr 144 0) ?_
     refine sV (.d (av.pd x4.aC))<|sV (.d (av.pd a1))<|nS h (fun hb10 h=>?_) (fun hb10 h=>?_)
     ·refine WO.vN (pf x4.aC a1) hb10 rfl rfl rfl rfl rfl<|sM rfl<|sV (.ptr 176 0)<|sL rfl<|sM rfl<|sV (rB (decide (x9.bA<=a2)))<|sF h (fun h=>?_) fun h=>?_
      ·refine sM rfl<|sM rfl<|sV (.ptr 176 1)<|sL rfl<|sV (rB (decide (a2<x9.fTo)))<|sF h (fun h=>?_) fun h=>?_
       ·refine sN<|cT<|gS rfl rfl<|sV (.ptr 176 4)<|sV (.d (aa.pd x9.aY))<|sS 96 (.var (aa.rc x9.aY))<|sT<|sN<|qR ?_
        cases oI h
        exact⟨nofun,rfl,rfl⟩
       refine sN<|cF<|qK<|WC.region rfl rfl<|sV (rI (rW (s5+(1:Int))))<|sM rfl<|sN ?_
       cases oI h
       exact⟨rfl,rfl⟩
      refine sM rfl<|k3<|sK<|sU<|sN<|cF<|qK<|WC.region rfl rfl<|sV (rI (rW (s5+(1:Int))))<|sM rfl<|sN ?_
      cases oI h
      exact⟨rfl,rfl⟩
     refine WO.vN (pf x4.aC a1) hb10 rfl rfl rfl rfl rfl<|sM rfl<|k3<|sK<|sU<|sM rfl<|k3<|sK<|sU<|sN<|cF ?_
     refine qK<|WC.region rfl rfl<|sV (rI (rW (s5+(1:Int))))<|sM rfl<|sN ?_
     cases oI h
     exact⟨rfl,rfl⟩
    refine sN<|qS<|cF<|qX ?_
    cases oI h
    exact⟨nofun,rfl,rfl⟩
   intro e R' B' he hq
   rcases o14 with y15|r16
   ·obtain⟨rfl,hI⟩:=hq
    refine qE<|WC.region hI rfl<|sV (rI (rW (y15+(1:Int))))<|sM rfl<|sN ?_
    cases oI h
    exact⟨rfl,rfl⟩
   obtain⟨rfl,hf⟩:=hq
   cases oI h
   exact⟨nofun,rfl,hf⟩
  refine sN<|qS<|cF<|qX ?_
  cases oI h
  exact⟨nofun,rfl,rfl⟩
 intro e R' B' he hq
 rcases o18 with y19|r20
 ·obtain⟨rfl,hI⟩:=hq
  refine qE<|gS rfl hI<|sV (.d (aa.pd (aa.mk 0 0 0)))<|sS 96 (.var [r0,r0,r0])<|sU<|sN<|qR ?_
  exact oI h▸qD
 obtain⟨rfl,hf⟩:=hq
 cases oI h
 exact hf
theorem qV{a0:Int}{r:Int}(h:p8 a0=some r):EvP prog aB ext 54 [rI a0] [] (rI r,[]):=by
 refine Ev.body rfl Tryz.func54 rfl (by kernel_rfl)<|gS rfl rfl<|sV (r0)<|sN<|gS rfl rfl<|sM rfl<|sM rfl<|sV (rI (rW (a0*a0)))<|sA rfl<|sN<|qR ?_
 exact oI h▸qD
theorem od{a1:ak}{a2:ap}{a3:Int}{d0:ae}{r:(List ac)×ae}(h:k7 a1 a2 a3 d0=some r):EvP prog aB ext 14 [.ptr 0 0,.d (ak.pd a1),.d (ap.pd a2),rI a3] [.var (ae.rc d0)] (rM ac.pd r.1,[.var (ae.rc r.2)]):=by
 refine Ev.body rfl Tryz.func14 rfl (by kernel_rfl)<|gS rfl rfl<|sB (.ptr 80 0) 80 (.var (ak.rc a1))<|sB (.ptr 96 0) 96 (.var [rM aq.pd a2.aI])<|sV .dg<|sN<|gS rfl rfl<|sV .dg<|sN<|gS rfl rfl<|sM rfl<|sV (.ptr 80 0)<|sV (.ptr 80 0)<|sV (.d (ai.pd a1.ag.aN))<|bE h fun x1 hx1 h=>?_
 refine cR (.d (aa.pd x1.1)) [(0,.var (ae.rc x1.2))] (og hx1)<|sM rfl<|bE h fun x2 hx2 h=>cR (rI x2.1) [(0,.var (ae.rc x2.2))] (bL hx2)<|sV (rI (rW ((1000:Int)+x2.1)))<|sB (.ptr 160 0) 160 (.var [r0,r0,r0])<|sS 160 (.var (aa.rc x1.1))<|sA rfl<|sN<|qS<|gS rfl rfl<|sM rfl<|sM rfl<|sV (rI (rW (a3+(1:Int))))<|bE h fun x3 hx3 h=>?_
 refine cR (rI x3.1) [(0,.var (ae.rc x3.2))] (bL hx3)<|sA rfl<|sN<|bE h fun o61 ho61 h=>WC.block (WC.loop (WL.hY ho61 (fun s R' B'=>cI prog 1 (A R' B') (aB.at_ 14 1 4)=some (A [(0,.ptr 0 0),(5,.ptr 80 0),(6,.ptr 96 0),(9,.ref 2192 0),(10,.ptr 160 0),(11,rI s.1),(12,rI s.2.1)] [(0,.var [rL s.2.2.1,rI s.2.2.2.1]),(80,.var (ak.rc a1)),(96,.var [rM aq.pd a2.aI]),(160,.var [rI s.2.2.2.2.2.1,rI s.2.2.2.2.2.2.1,rI s.2.2.2.2.2.2.2]),(2192,.arr 0 66 (s.2.2.2.2.1.map ac.pd))])) (fun o e R' B'=>e= .exit 0∧cI prog 1 (A R' B') (aB.at_ 14 1 21)=some (A [(9,.ref 2192 0)] [(0,.var [rL o.2.1,rI o.2.2]),(2192,.arr 0 66 (o.1.map ac.pd))])) rfl ?_ ?_))
 ·rintro⟨s4,s5,s6,s7,s8,s9,s10,s11⟩ R' B' q15 hI h
  refine qS<|gS rfl hI<|sM rfl<|sF h (fun h=>?_) fun h=>?_
  ·refine sN<|cT<|qK<|qS<|qB<|gS rfl rfl<|sM rfl<|bE h fun x17 hx17 h=>cR (rI x17.1) [(0,.var (ae.rc x17.2))] (bL hx17)<|bE h fun x18 hx18 h=>cD (gr hx18)<|sM rfl<|sV (.d (.lst ([0,1,50,1000,1048576].map (PD.int .i64))))<|bE h fun x19 hx19 h=>cR (rI x19.1) [(0,.var (ae.rc x19.2))] (ed hx19) ?_
   refine sM rfl<|bE h fun x20 hx20 h=>cR (rI x20.1) [(0,.var (ae.rc x20.2))] (bL hx20)<|sV (rI (rW (x20.1-(1:Int))))<|sG (.d (ac.pd (ac.mk x18 0 0 0 x19.1 (rW (x20.1-(1:Int))))))<|sB (.ptr 208 0) 208 (.var zZ3)<|sH 208 (.var (av.rc x18++[r0,r0,r0,rI x19.1,rI (rW (x20.1-(1:Int)))]))<|sN<|gS rfl rfl<|sM rfl<|bE h fun x21 hx21 h=>cR (rI x21.1) [(0,.var (ae.rc x21.2))] (bL hx21)<|sV (rI (rW ((1000:Int)+x21.1)))<|sV (.ptr 208 5)<|sS 208 (.var (av.rc x18++[r0,rI (rW ((1000:Int)+x21.1)),r0,rI x19.1,rI (rW (x20.1-(1:Int)))])) ?_
   refine sN<|WC.join (α:=Int×Int×(List Int)×Int×(List ac)×Int×Int×Int×Int) (fun x R' B'=>cI prog 1 (A R' B') (aB.at_ 14 1 18)=some (A [(0,.ptr 0 0),(5,.ptr 80 0),(6,.ptr 96 0),(9,.ref 2192 0),(10,.ptr 160 0),(11,rI x.1),(12,rI x.2.1),(13,.ptr 208 0)] [(0,.var [rL x.2.2.1,rI x.2.2.2.1]),(80,.var (ak.rc a1)),(96,.var [rM aq.pd a2.aI]),(160,.var [rI x.2.2.2.2.2.1,rI x.2.2.2.2.2.2.1,rI x.2.2.2.2.2.2.2.1]),(208,.var (av.rc x18++[r0,rI x.2.2.2.2.2.2.2.2,r0,rI x19.1,rI (rW (x20.1-(1:Int)))])),(2192,.arr 0 66 (x.2.2.2.2.1.map ac.pd))])) (fun x=>f9 x18 x19 x20 x.1 x.2.1 x.2.2.1 x.2.2.2.1 x.2.2.2.2.1 x.2.2.2.2.2.1 x.2.2.2.2.2.2.1 x.2.2.2.2.2.2.2.1 x.2.2.2.2.2.2.2.2=some q15) ?_ ?_
   ·refine gS rfl rfl<|sM rfl<|bE h fun x35 hx35 h=>cR (rI x35.1) [(0,.var (ae.rc x35.2))] (bL hx35)<|sN<|qB<|gS rfl rfl<|sF h (fun h=>?_) fun h=>?_
    ·refine sA rfl<|sN<|cT<|WC.region rfl rfl<|sM rfl<|sV (.ptr 80 0)<|sV (.ptr 80 0)<|sV (.d (ai.pd a1.ag.aN))<|bE h fun x37 hx37 h=>cR (.d (aa.pd x37.1)) [(0,.var (ae.rc x37.2))] (og hx37)<|sM rfl<|sM rfl<|bE h fun x38 hx38 h=>cR (rI x38.1) [(0,.var (ae.rc x38.2))] (bL hx38)<|sV (rI (rW (s4+x38.1))) ?_
     exact sS 160 (.var (aa.rc x37.1))<|sA rfl<|sN<|⟨((rW (s4+x38.1)),s5,x38.2.fL,x38.2.fAt,s8,x37.1.fX,x37.1.fY,x37.1.fZ,(rW ((1000:Int)+x21.1))),rfl,h⟩
    refine sA rfl<|sN<|cF<|gS rfl rfl<|sF h (fun h=>?_) fun h=>?_
    ·exact sA rfl<|sN<|cT<|qK<|⟨(s4,s5,x35.2.fL,x35.2.fAt,s8,s9,s10,s11,(rW ((1000:Int)+x21.1))),rfl,h⟩
    refine sA rfl<|sN<|cF<|gS rfl rfl<|sV (.d (ap.pd a2))<|sV (.ptr 208 0)<|sV (.d (av.pd x18))<|sM rfl<|bE h fun x40 hx40 h=>cR (.tup [.d (aa.pd x40.1),rB x40.2]) [] (keep_place_ev hx40)<|sM rfl<|sV (.d (aa.pd x40.1))<|sV (rB x40.2)<|sB (.ptr 224 0) 224 (.var [r0,r0,r0])<|sS 224 (.var (aa.rc x40.1)) ?_
    refine sA rfl<|sN<|gS rfl rfl<|sF h (fun h=>?_) fun h=>?_
    ·refine sN<|cT<|gS rfl rfl<|sV (r0)<|sN<|qS<|bE h fun o56 ho56 h=>WC.block (WC.loop (WL.hY ho56 (fun s R' B'=>cI prog 1 (A R' B') (aB.at_ 14 1 12)=some (A [(0,.ptr 0 0),(5,.ptr 80 0),(6,.ptr 96 0),(9,.ref 2192 0),(10,.ptr 160 0),(11,rI s4),(12,rI s5),(13,.ptr 208 0),(14,.ptr 224 0),(16,rI s)] [(0,.var (ae.rc x35.2)),(80,.var (ak.rc a1)),(96,.var [rM aq.pd a2.aI]),(160,.var [rI s9,rI s10,rI s11]),(208,.var (av.rc x18++[r0,rI (rW ((1000:Int)+x21.1)),r0,rI x19.1,rI (rW (x20.1-(1:Int)))])),(224,.var (aa.rc x40.1)),(2192,.arr 0 66 (s8.map ac.pd))])) (fun o e R' B'=>e= .exit 3∧cI prog 1 (A R' B') (aB.at_ 14 1 14)=some (A [(0,.ptr 0 0),(5,.ptr 80 0),(6,.ptr 96 0),(9,.ref 2192 0),(10,.ptr 160 0),(11,rI o.1),(12,rI o.2.1),(13,.ptr 208 0),(16,rI o.2.2.1)] [(0,.var (ae.rc x35.2)),(80,.var (ak.rc a1)),(96,.var [rM aq.pd a2.aI]),(160,.var [rI o.2.2.2.2.1,rI o.2.2.2.2.2.1,rI o.2.2.2.2.2.2]),(208,.var (av.rc x18++[r0,rI (rW ((1000:Int)+x21.1)),r0,rI x19.1,rI (rW (x20.1-(1:Int)))])),(2192,.arr 0 66 (o.2.2.2.1.map ac.pd))])) rfl ?_ ?_))
     ·rintro s42 R' B' q50 hI h
      refine qS<|WC.bZ hI rfl<|sM rfl<|sM rfl<|sV (rI (rW (s42*s42)))<|sV (.ptr 224 0)<|sL rfl<|sV (.ptr 160 0)<|sL rfl<|sV (rI (rW (x40.1.fX-s9)))<|bE h fun x51 hx51 h=>cD (qV hx51)<|sV (.ptr 224 1)<|sL rfl<|sV (.ptr 160 1) ?_
      refine sL rfl<|sV (rI (rW (x40.1.fY-s10)))<|bE h fun x52 hx52 h=>cD (qV hx52)<|sV (rI (rW (x51+x52)))<|sV (.ptr 224 2)<|sL rfl<|sV (.ptr 160 2)<|sL rfl<|sV (rI (rW (x40.1.fZ-s11)))<|bE h fun x53 hx53 h=>cD (qV hx53)<|sV (rI (rW ((rW (x51+x52))+x53)))<|sF h (fun h=>?_) fun h=>?_
      ·refine sN<|sO<|cT<|qK<|qB<|WC.region rfl rfl<|sM rfl<|sV (rI (rW (s42+(1:Int))))<|sA rfl<|sN ?_
       cases oI h
       exact⟨rfl,rfl⟩
      refine sN<|sO<|cF<|qX ?_
      cases oI h
      exact⟨nofun,rfl,rfl⟩
     intro e R' B' he hq
     obtain⟨rfl,hI⟩:=hq
     refine qE<|WC.oH hI rfl<|sM rfl<|sV (.ptr 80 0)<|sV (.ptr 80 6)<|sV (.ptr 80 7)<|sL rfl<|sM rfl<|sV (.ptr 80 0)<|sV (.ptr 80 6)<|sV (.ptr 80 6)<|sL rfl<|bE h fun x57 hx57 h=>WO.uP hx57 rfl rfl rfl rfl rfl rfl<|sV (.ptr 80 0) ?_
     refine sV (.ptr 80 6)<|sV (.ptr 80 7)<|sL rfl<|sE (rI (a1.ag.bg.aK.length:Int)) (fQ _ _)<|sV (rI (rW ((a1.ag.bg.aK.length:Int)-(1:Int))))<|sV (rI (if(rW ((a1.ag.bg.aK.length:Int)-(1:Int)))<x57 then(rW ((a1.ag.bg.aK.length:Int)-(1:Int)))else x57))<|bE h fun x58 hx58 h=>eG hx58 rfl<|sC rfl<|sV (rI (rW (o56.1+x58)))<|sM rfl<|bE h fun x59 hx59 h=>cR (rI x59.1) [(0,.var (ae.rc x59.2))] (bL hx59)<|sV (rI (rW ((rW (o56.1+x58))+x59.1)))<|sV (.ptr 208 5) ?_
     refine sS 208 (.var (av.rc x18++[r0,rI (rW ((rW (o56.1+x58))+x59.1)),r0,rI x19.1,rI (rW (x20.1-(1:Int)))])) ?_
     exact sN<|sO<|⟨(o56.1,o56.2.1,x59.2.fL,x59.2.fAt,o56.2.2.2.1,o56.2.2.2.2.1,o56.2.2.2.2.2.1,o56.2.2.2.2.2.2,(rW ((rW (o56.1+x58))+x59.1))),rfl,h⟩
    exact sN<|cF<|qK<|⟨(s4,s5,x35.2.fL,x35.2.fAt,s8,s9,s10,s11,(rW ((1000:Int)+x21.1))),rfl,h⟩
   rintro⟨j22,j23,j24,j25,j26,j27,j28,j29,j30⟩ R' B' hI h
   refine WC.bZ hI rfl<|sV (.ptr 208 5)<|sL rfl<|sM rfl<|bE h fun x31 hx31 h=>cR (rI x31.1) [(0,.var (ae.rc x31.2))] (bL hx31)<|sV (rI (rW (j30+x31.1)))<|sV (.ptr 208 4)<|sS 208 (.var (av.rc x18++[rI (rW (j30+x31.1)),rI j30,r0,rI x19.1,rI (rW (x20.1-(1:Int)))])) ?_
   refine sN<|sO<|WC.bZ rfl rfl<|sV (.ptr 208 4)<|sL rfl<|sM rfl<|bE h fun x32 hx32 h=>cR (rI x32.1) [(0,.var (ae.rc x32.2))] (bL hx32)<|sV (rI (rW ((rW (j30+x31.1))+x32.1)))<|sV (.ptr 208 6)<|sS 208 (.var (av.rc x18++[rI (rW (j30+x31.1)),rI j30,rI (rW ((rW (j30+x31.1))+x32.1)),rI x19.1,rI (rW (x20.1-(1:Int)))])) ?_
   refine sN<|sO<|WC.region rfl rfl<|sM rfl<|sV (.d (ac.pd (ac.mk x18 (rW (j30+x31.1)) j30 (rW ((rW (j30+x31.1))+x32.1)) x19.1 (rW (x20.1-(1:Int))))))<|sG (.d (.lst ([(ac.mk x18 (rW (j30+x31.1)) j30 (rW ((rW (j30+x31.1))+x32.1)) x19.1 (rW (x20.1-(1:Int))))].map ac.pd)))<|bE h fun x33 hx33 h=>aR hx33 (fun _=>rfl) rfl<|sA rfl<|sN<|WC.region rfl rfl<|sM rfl<|sV (rI (rW (j23-(1:Int))))<|sA rfl<|sN ?_
   cases oI h
   exact⟨rfl,rfl⟩
  refine sN<|cF<|qX ?_
  cases oI h
  exact⟨nofun,rfl,rfl⟩
 intro e R' B' he hq
 obtain⟨rfl,hI⟩:=hq
 refine qE<|gS rfl hI<|sM rfl<|sA rfl<|sN<|qR ?_
 exact oI h▸qD
theorem bO{a0:aa}{r:aT}(h:bD a0=some r):EvP prog aB ext 188 [.d (aa.pd a0)] [] (.d (aT.pd r),[]):=by
 refine Ev.body rfl Tryz.func188 rfl (by kernel_rfl)<|gS rfl rfl<|sB (.ptr 16 0) 16 (.var (aa.rc a0))<|sB (.ptr 32 0) 32 (.var [r0,r0,r0])<|sN<|gS rfl rfl<|sV (.ptr 16 0)<|sL rfl<|sV (.ptr 16 1)<|sL rfl<|sV (.ptr 16 2)<|sL rfl<|sV (.d (aT.pd (aT.mk a0.fX a0.fY a0.fZ)))<|sS 32 (.var (aa.rc a0))<|sN ?_
 refine qR ?_
 exact oI h▸qD
theorem dj{a0:aa}{r:Bool}(h:cV a0=some r):EvP prog aB ext 272 [.d (aa.pd a0)] [] (rB r,[]):=by
 refine Ev.body rfl Tryz.func272 rfl (by kernel_rfl)<|gS rfl rfl<|sB (.ptr 16 0) 16 (.var (aa.rc a0))<|sU<|sN<|gS rfl rfl<|sV (.d (aT.pd (aT.mk (-1048576) (-1048576) (-16384))))<|sB (.ptr 48 0) 48 (.var [r0,r0,r0])<|sS 48 (.var [rI (-1048576),rI (-1048576),rI (-16384)])<|sN<|qS<|gS rfl rfl<|sV (.d (aa.pd a0))<|bE h fun x1 hx1 h=>cD (bO hx1) ?_
 refine sV (r0)<|sN<|WC.block (WC.loop ?_)
 refine WL.round<|gS rfl rfl<|sT<|sN<|qS<|cT<|qK<|qS<|qB<|gS rfl rfl<|sM rfl<|sV (rI x1.a0)<|sA rfl<|sA rfl<|sN ?_
 refine gS rfl rfl<|sM rfl<|sM rfl<|sV (.ptr 48 0)<|sL rfl<|sF h (fun h=>?_) fun h=>?_
 ·refine sM rfl<|sK<|sK<|sT<|sN<|cT<|gS rfl rfl<|sU<|sN<|qR ?_
  exact oI h▸qD
 refine sM rfl<|sM rfl<|sV (rB (decide (x1.a0>(1048576:Int))))<|sF h (fun h=>?_) fun h=>?_
 ·refine sN<|cT<|gS rfl rfl<|sU<|sN<|qR ?_
  exact oI h▸qD
 refine sN<|cF<|qK<|WC.region rfl rfl<|sV (rI 1)<|sM rfl<|sN<|WL.round<|gS rfl rfl<|sT<|sN<|qS<|cT<|qK<|qS ?_
 refine qB<|gS rfl rfl<|sM rfl<|sV (rI x1.a1)<|sA rfl<|sA rfl<|sN<|gS rfl rfl<|sM rfl<|sM rfl<|sV (.ptr 48 1)<|sL rfl<|sF h (fun h=>?_) fun h=>?_
 ·refine sM rfl<|sK<|sK<|sT<|sN<|cT<|gS rfl rfl<|sU<|sN<|qR ?_
  exact oI h▸qD
 refine sM rfl<|sM rfl<|sV (rB (decide (x1.a1>(1048576:Int))))<|sF h (fun h=>?_) fun h=>?_
 ·refine sN<|cT<|gS rfl rfl<|sU<|sN<|qR ?_
  exact oI h▸qD
 refine sN<|cF<|qK<|WC.region rfl rfl<|sV (rI 2)<|sM rfl<|sN<|WL.round<|gS rfl rfl<|sT<|sN<|qS<|cT<|qK<|qS ?_
 refine qB<|gS rfl rfl<|sM rfl<|sV (rI x1.a2)<|sA rfl<|sA rfl<|sN<|gS rfl rfl<|sM rfl<|sM rfl<|sV (.ptr 48 2)<|sL rfl<|sF h (fun h=>?_) fun h=>?_
 ·refine sM rfl<|sK<|sK<|sT<|sN<|cT<|gS rfl rfl<|sU<|sN<|qR ?_
  exact oI h▸qD
 refine sM rfl<|sM rfl<|sV (rB (decide (x1.a2>(1048576:Int))))<|sF h (fun h=>?_) fun h=>?_
 ·refine sN<|cT<|gS rfl rfl<|sU<|sN<|qR ?_
  exact oI h▸qD
 refine sN<|cF<|qK<|WC.region rfl rfl<|sV (rI 3)<|sM rfl<|sN<|WL.round<|gS rfl rfl<|sU<|sN<|qS<|cF<|qX<|qE ?_
 refine gS rfl rfl<|sT<|sN<|qR ?_
 exact oI h▸qD
theorem bI{a0:ai}{r:Bool}(h:bH a0=some r):EvP prog aB ext 187 [.d (ai.pd a0)] [] (rB r,[]):=by
 refine Ev.body rfl Tryz.func187 rfl (by kernel_rfl)<|gS rfl rfl<|sB (.ptr 16 0) 16 (.var (ai.rc a0))<|sU<|sN<|qS<|gS rfl rfl<|sV (.ptr 16 0)<|sV (.d (aa.pd a0.aK))<|bE h fun x1 hx1 h=>cD (dj hx1)<|sF h (fun h=>?_) fun h=>?_
 ·refine sM rfl<|k3<|sK<|sT<|sN<|cT<|gS rfl rfl<|sU<|sN<|qR ?_
  exact oI h▸qD
 refine sM rfl<|sV (.ptr 16 3)<|sV (.d (aa.pd a0.aG))<|bE h fun x3 hx3 h=>cD (dj hx3)<|sV (rB (!x3))<|sF h (fun h=>?_) fun h=>?_
 ·refine sN<|cT<|gS rfl rfl<|sU<|sN<|qR ?_
  exact oI h▸qD
 refine sN<|cF<|qK<|gS rfl rfl<|sV (.ptr 16 3)<|sV (.d (aa.pd a0.aG))<|bE h fun x5 hx5 h=>cD (bO hx5)<|sB (.ptr 48 0) 48 (.var [r0,r0,r0])<|sS 48 (.var [rI x5.a0,rI x5.a1,rI x5.a2])<|sN<|qS<|gS rfl rfl<|sV (.ptr 16 0)<|sV (.d (aa.pd a0.aK)) ?_
 refine bE h fun x6 hx6 h=>cD (bO hx6)<|sV (r0)<|sN<|WC.block (WC.loop ?_)
 refine WL.round<|gS rfl rfl<|sT<|sN<|qS<|cT<|qK<|qS<|qB<|gS rfl rfl<|sM rfl<|sV (rI x6.a0)<|sA rfl<|sA rfl<|sN ?_
 refine gS rfl rfl<|sM rfl<|sM rfl<|sV (.ptr 48 0)<|sL rfl<|sF h (fun h=>?_) fun h=>?_
 ·refine sN<|cT<|gS rfl rfl<|sU<|sN<|qR ?_
  exact oI h▸qD
 refine sN<|cF<|qK<|WC.region rfl rfl<|sV (rI 1)<|sM rfl<|sN<|WL.round<|gS rfl rfl<|sT<|sN<|qS<|cT<|qK<|qS ?_
 refine qB<|gS rfl rfl<|sM rfl<|sV (rI x6.a1)<|sA rfl<|sA rfl<|sN<|gS rfl rfl<|sM rfl<|sM rfl<|sV (.ptr 48 1)<|sL rfl<|sF h (fun h=>?_) fun h=>?_
 ·refine sN<|cT<|gS rfl rfl<|sU<|sN<|qR ?_
  exact oI h▸qD
 refine sN<|cF<|qK<|WC.region rfl rfl<|sV (rI 2)<|sM rfl<|sN<|WL.round<|gS rfl rfl<|sT<|sN<|qS<|cT<|qK<|qS ?_
 refine qB<|gS rfl rfl<|sM rfl<|sV (rI x6.a2)<|sA rfl<|sA rfl<|sN<|gS rfl rfl<|sM rfl<|sM rfl<|sV (.ptr 48 2)<|sL rfl<|sF h (fun h=>?_) fun h=>?_
 ·refine sN<|cT<|gS rfl rfl<|sU<|sN<|qR ?_
  exact oI h▸qD
 refine sN<|cF<|qK<|WC.region rfl rfl<|sV (rI 3)<|sM rfl<|sN<|WL.round<|gS rfl rfl<|sU<|sN<|qS<|cF<|qX<|qE ?_
 refine gS rfl rfl<|sT<|sN<|qR ?_
 exact oI h▸qD
theorem d6{a0:aF}{r:Int}(h:cL a0=some r):EvP prog aB ext 199 [.d (aF.pd a0)] [] (rI r,[]):=by
 refine Ev.body rfl Tryz.func199 rfl (by kernel_rfl)<|gS rfl rfl<|sB (.ptr 16 0) 16 (.var (aF.rc a0))<|sV (r0)<|sN<|gS rfl rfl<|sV (.ptr 16 1)<|sL rfl<|sE (rI (a0.aK.length:Int)) (fQ _ _)<|sA rfl<|sN<|qS<|gS rfl rfl<|sV (.ptr 16 0)<|sL rfl ?_
 refine sF h (fun h=>?_) fun h=>?_
 ·refine sM rfl<|k3<|sT<|sM rfl<|k3<|sK<|sK<|sT<|sM rfl<|sK<|sK ?_
  refine sT<|sM rfl<|sK<|sK<|sT<|sN<|cT<|gS rfl rfl<|sV (rI 21)<|sN<|qR ?_
  exact oI h▸qD
 refine sM rfl<|sV (.ptr 16 0)<|sL rfl<|sV (rB (decide (a0.bo>(1048576:Int))))<|sF h (fun h=>?_) fun h=>?_
 ·refine sM rfl<|k3<|sK<|sK<|sT<|sM rfl<|sK<|sK<|sT<|sM rfl<|sK<|sK<|sT ?_
  refine sN<|cT<|gS rfl rfl<|sV (rI 21)<|sN<|qR ?_
  exact oI h▸qD
 refine sM rfl<|sM rfl<|sV (.ptr 16 2)<|sL rfl<|sE (rI (a0.aG.length:Int)) (fQ _ _)<|sV (rB ((a0.aK.length:Int) != (a0.aG.length:Int)))<|sF h (fun h=>?_) fun h=>?_
 ·refine sM rfl<|sK<|sK<|sT<|sM rfl<|sK<|sK<|sT<|sN<|cT<|gS rfl rfl<|sV (rI 21)<|sN<|qR ?_
  exact oI h▸qD
 refine sM rfl<|sM rfl<|sV (rB (decide ((a0.aK.length:Int)<(2:Int))))<|sF h (fun h=>?_) fun h=>?_
 ·refine sM rfl<|sK<|sK<|sT<|sN<|cT<|gS rfl rfl<|sV (rI 21)<|sN<|qR ?_
  exact oI h▸qD
 refine sM rfl<|sM rfl<|sV (rB (decide ((a0.aK.length:Int)>(256:Int))))<|sF h (fun h=>?_) fun h=>?_
 ·refine sN<|cT<|gS rfl rfl<|sV (rI 21)<|sN<|qR ?_
  exact oI h▸qD
 refine sN<|cF<|qK<|gS rfl rfl<|sV (r0)<|sV (r0)<|sN<|qS<|gS rfl rfl<|sM rfl<|sV (r0)<|sN<|bE h fun o23 ho23 h=>WC.block (WC.loop (WL.hY ho23 (fun s R' B'=>cI prog 0 (A R' B') (aB.at_ 199 0 6)=some (A [(1,.ptr 16 0),(4,rI s.1),(5,rI s.2.1),(33,rI (a0.aK.length:Int)),(34,rI s.2.2)] [(16,.var (aF.rc a0))])) (fun o e R' B'=>match o with| .inl y=>e= .exit 0∧cI prog 0 (A R' B') (aB.at_ 199 0 12)=some (A [] [])| .inr r=>e= .ret∧finish prog (aB.own 199) Tryz.f199 0 (A R' B')=some (rI r,[])) rfl ?_ ?_))
 ·rintro⟨s6,s7,s8⟩ R' B' q9 hI h
  refine gS rfl hI<|sF h (fun h=>?_) fun h=>?_
  ·refine sN<|qS<|cT<|qK<|qS<|qB<|gS rfl rfl<|sM rfl<|sA rfl<|sN<|qS<|WC.bZ rfl rfl<|sV (.ptr 16 1)<|sL rfl<|sM rfl ?_
   refine bE h fun x11 hx11 h=>eG hx11 rfl<|sC rfl<|sM rfl<|sF h (fun h=>?_) fun h=>?_
   ·refine sM rfl<|k3<|k3<|sK<|sT<|sM rfl<|k3<|sK<|sK ?_
    refine k3<|k3<|sT<|sM rfl<|k3<|k3<|sT ?_
    refine sN<|sO<|cT<|gS rfl rfl<|sV (rI 21)<|sN<|qR ?_
    cases oI h
    exact⟨nofun,rfl,rfl⟩
   refine sM rfl<|sV (.ptr 16 2)<|sL rfl<|sM rfl<|bE h fun x13 hx13 h=>eG hx13 rfl<|sC rfl<|sM rfl<|sV (rB (decide (x13<s7)))<|sF h (fun h=>?_) fun h=>?_
   ·refine sM rfl<|k3<|k3<|k3<|sK<|sK<|sT<|sM rfl<|sK ?_
    refine k3<|sK<|sK<|sT ?_
    refine sN<|sO<|cT<|gS rfl rfl<|sV (rI 21)<|sN<|qR ?_
    cases oI h
    exact⟨nofun,rfl,rfl⟩
   refine sM rfl<|sV (.ptr 16 1)<|sL rfl<|sM rfl<|bE h fun x15 hx15 h=>eG hx15 rfl<|sC rfl<|sV (.ptr 16 2)<|sL rfl<|sM rfl<|bE h fun x16 hx16 h=>eG hx16 rfl<|sC rfl<|sV (rB (decide (x15>x16)))<|sF h (fun h=>?_) fun h=>?_
   ·refine sM rfl<|k3<|k3<|sT ?_
    refine sN<|sO<|cT<|gS rfl rfl<|sV (rI 21)<|sN<|qR ?_
    cases oI h
    exact⟨nofun,rfl,rfl⟩
   refine sM rfl<|sV (.ptr 16 2)<|sL rfl<|sM rfl<|bE h fun x18 hx18 h=>eG hx18 rfl<|sC rfl<|sV (rB (decide (x18>(1099511627776:Int))))<|sF h (fun h=>?_) fun h=>?_
   ·refine sN<|sO<|cT<|gS rfl rfl<|sV (rI 21)<|sN<|qR ?_
    cases oI h
    exact⟨nofun,rfl,rfl⟩
   refine sN<|sO<|cF<|qK<|WC.oH rfl rfl<|sV (.ptr 16 1)<|sL rfl<|sM rfl<|bE h fun x20 hx20 h=>eG hx20 rfl<|sC rfl<|sV (.ptr 16 2)<|sL rfl<|sM rfl<|bE h fun x21 hx21 h=>eG hx21 rfl ?_
   refine sC rfl<|sA rfl<|sA rfl ?_
   refine sN<|sO<|WC.region rfl rfl<|sV (rI (rW (s8+(1:Int))))<|sM rfl<|sN ?_
   cases oI h
   exact⟨rfl,rfl⟩
  refine sN<|qS<|cF<|qX ?_
  cases oI h
  exact⟨nofun,rfl,rfl⟩
 intro e R' B' he hq
 rcases o23 with y24|r25
 ·obtain⟨rfl,hI⟩:=hq
  refine qE<|gS rfl hI<|sV (r0)<|sN<|qR ?_
  exact oI h▸qD
 obtain⟨rfl,hf⟩:=hq
 cases oI h
 exact hf
theorem ia{a0:Int}{a1:Int}{a2:Int}{r:Bool}(h:d8 a0 a1 a2=some r):EvP prog aB ext 200 [rI a0,rI a1,rI a2] [] (rB r,[]):=by
 refine Ev.body rfl Tryz.func200 rfl (by kernel_rfl)<|gS rfl rfl<|sU<|sN<|gS rfl rfl<|sM rfl<|sM rfl<|sF h (fun h=>?_) fun h=>?_
 ·refine sM rfl<|sM rfl<|sM rfl<|sV (rB (decide (a0<=a2)))<|sV (rB (decide (a0<=a2)))<|sA rfl<|sN<|qR ?_
  exact oI h▸qD
 refine sM rfl<|k3<|sU<|sA rfl<|sN<|qR ?_
 exact oI h▸qD
theorem qg{a0:al}{r:Bool}(h:dW a0=some r):EvP prog aB ext 245 [.d (al.pd a0)] [] (rB r,[]):=by
 refine Ev.body rfl Tryz.func245 rfl (by kernel_rfl)<|gS rfl rfl<|sB (.ptr 16 0) 16 (.var (al.rc a0))<|sU<|sN<|gS rfl rfl<|sV (.ptr 16 0)<|sV (.d (aa.pd a0.aM))<|bE h fun x1 hx1 h=>nS h (fun hb2 h=>?_) (fun hb2 h=>?_)
 ·refine WO.pT (v:=rB true) (u:=[]) rfl rfl (fun _=>rfl) rfl rfl rfl rfl rfl (dj hx1) rfl rfl (congrArg (fun b=>RV.d (.bool b)) hb2) rfl<|sM rfl<|sV (.ptr 16 3)<|sL rfl<|sV (rB (decide (a0.aP>=(0:Int))))<|sF h (fun h=>?_) fun h=>?_
  ·refine sM rfl<|sV (.ptr 16 3)<|sL rfl<|sV (.ptr 16 4)<|sL rfl<|sV (rB (decide (a0.aP<=a0.bi)))<|sF h (fun h=>?_) fun h=>?_
   ·refine sM rfl<|sV (.ptr 16 4)<|sL rfl<|sV (rB (decide (a0.bi<=(18014398509481984:Int))))<|sF h (fun h=>?_) fun h=>?_
    ·refine sM rfl<|sV (.ptr 16 5)<|sL rfl<|sV (rB (decide (a0.bG>=(1:Int))))<|sF h (fun h=>?_) fun h=>?_
     ·refine sM rfl<|sV (.ptr 16 5)<|sL rfl<|sV (rB (decide (a0.bG<=(100:Int))))<|sV (rB (decide (a0.bG<=(100:Int))))<|sA rfl<|sN<|qR ?_
      exact oI h▸qD
     refine sM rfl<|k3<|sU<|sA rfl<|sN<|qR ?_
     exact oI h▸qD
    refine sM rfl<|k3<|sU<|sM rfl<|k3<|sU<|sA rfl<|sN<|qR ?_
    exact oI h▸qD
   refine sM rfl<|k3<|sU<|sM rfl<|k3<|sU<|sM rfl<|k3<|sU ?_
   refine sA rfl<|sN<|qR ?_
   exact oI h▸qD
  refine sM rfl<|k3<|sK<|sK<|sU<|sM rfl<|k3<|sU<|sM rfl<|sK<|sK ?_
  refine sK<|sU<|sM rfl<|k3<|sU<|sA rfl<|sN<|qR ?_
  exact oI h▸qD
 refine WO.pT (v:=rB false) (u:=[]) rfl rfl (fun _=>rfl) rfl rfl rfl rfl rfl (dj hx1) rfl rfl (congrArg (fun b=>RV.d (.bool b)) hb2) rfl<|sM rfl<|k3<|sU<|sM rfl<|k3<|sK<|sK<|sU<|sM rfl<|sK ?_
 refine sK<|sK<|sU<|sM rfl<|k3<|sU<|sM rfl<|k3<|sU<|sA rfl<|sN ?_
 refine qR ?_
 exact oI h▸qD
theorem jy{a0:Int}{a1:Int}{a2:Int}{r:Int}(h:fe a0 a1 a2=some r):EvP prog aB ext 196 [rI a0,rI a1,rI a2] [] (rI r,[]):=by
 refine Ev.body rfl Tryz.func196 rfl (by kernel_rfl)<|gS rfl rfl<|sV (r0)<|sN<|gS rfl rfl<|sM rfl<|sM rfl<|sV (rI (rW (a1-a0)))<|sM rfl<|sM rfl<|sV (rI (rW (a0-a2)))<|sV (rI (if(0:Int)>(if(rW (a0-a2))>(rW (a1-a0))then(rW (a0-a2))else(rW (a1-a0)))then(0:Int)else(if(rW (a0-a2))>(rW (a1-a0))then(rW (a0-a2))else(rW (a1-a0)))))<|sA rfl<|sN<|qR ?_
 exact oI h▸qD
theorem m5{a0:ai}{a1:aa}{r:Int}(h:gM a0 a1=some r):EvP prog aB ext 195 [.d (ai.pd a0),.d (aa.pd a1),.d (.raw (.func (.func 196) #[] #[]))] [] (rI r,[]):=by
 refine Ev.body rfl Tryz.func195 rfl (by kernel_rfl)<|gS rfl rfl<|sB (.ptr 48 0) 48 (.var (ai.rc a0))<|sB (.ptr 64 0) 64 (.var (aa.rc a1))<|sV (r0)<|sN<|qS<|gS rfl rfl<|sV (.d (ai.pd a0))<|bE h fun x1 hx1 h=>cD (bI hx1)<|sF h (fun h=>?_) fun h=>?_
 ·refine sM rfl<|k3<|sT<|sN<|cT<|gS rfl rfl<|sV (r0)<|sN<|qR ?_
  exact oI h▸qD
 refine sM rfl<|sV (.d (aa.pd a1))<|bE h fun x3 hx3 h=>cD (dj hx3)<|sV (rB (!x3))<|sF h (fun h=>?_) fun h=>?_
 ·refine sN<|cT<|gS rfl rfl<|sV (r0)<|sN<|qR ?_
  exact oI h▸qD
 refine sN<|cF<|qK<|WC.bZ rfl rfl<|sV (.ptr 48 0)<|sV (.d (aa.pd a0.aK))<|bE h fun x5 hx5 h=>cD (bO hx5)<|sV (.ptr 48 3)<|sV (.d (aa.pd a0.aG))<|bE h fun x6 hx6 h=>cD (bO hx6)<|sB (.ptr 128 0) 128 (.var [r0,r0,r0])<|sB (.ptr 144 0) 144 (.var [r0,r0,r0])<|sV (r0) ?_
 refine sS 128 (.var [rI x5.a0,rI x5.a1,rI x5.a2])<|sS 144 (.var [rI x6.a0,rI x6.a1,rI x6.a2]) ?_
 refine sN<|sO<|qS<|gS rfl rfl<|sV (.d (aa.pd a1))<|bE h fun x7 hx7 h=>cD (bO hx7)<|sV (r0)<|sN<|WC.block (WC.loop ?_)
 refine WL.round<|WC.nY (R0:=[(2,.d (.raw (.func (.func 196) #[] #[]))),(7,r0),(8,.ptr 128 0),(9,.ptr 144 0),(28,.d (aT.pd x7)),(29,r0)]) (B0:=[(128,.var [rI x5.a0,rI x5.a1,rI x5.a2]),(144,.var [rI x6.a0,rI x6.a1,rI x6.a2])]) rfl rfl<|sT<|sN<|qS<|cT<|qK<|qS<|qB<|gS rfl rfl<|sM rfl<|sV (rI x7.a0)<|sA rfl<|sA rfl<|sN ?_
 refine WC.bZ rfl rfl<|sM rfl<|sM rfl<|sM rfl<|sV (.ptr 128 0)<|sL rfl<|sM rfl<|sV (.ptr 144 0)<|sL rfl<|bE h fun x8 hx8 h=>cD (jy hx8)<|sA rfl ?_
 refine sN<|sO<|WC.region rfl rfl<|sM rfl<|sM rfl<|sM rfl<|sV (rI (rW (x8*x8)))<|sV (rI (rW ((0:Int)+(rW (x8*x8)))))<|sA rfl<|sN<|WC.region rfl rfl<|sV (rI 1)<|sM rfl<|sN<|WL.round<|WC.nY (R0:=[(2,.d (.raw (.func (.func 196) #[] #[]))),(7,rI (rW ((0:Int)+(rW (x8*x8))))),(8,.ptr 128 0),(9,.ptr 144 0),(28,.d (aT.pd x7)),(29,rI 1)]) (B0:=[(128,.var [rI x5.a0,rI x5.a1,rI x5.a2]),(144,.var [rI x6.a0,rI x6.a1,rI x6.a2])]) rfl rfl ?_
 refine sT<|sN<|qS<|cT<|qK<|qS<|qB<|gS rfl rfl<|sM rfl<|sV (rI x7.a1)<|sA rfl<|sA rfl<|sN<|WC.bZ rfl rfl<|sM rfl ?_
 refine sM rfl<|sM rfl<|sV (.ptr 128 1)<|sL rfl<|sM rfl<|sV (.ptr 144 1)<|sL rfl<|bE h fun x9 hx9 h=>cD (jy hx9)<|sA rfl ?_
 refine sN<|sO<|WC.region rfl rfl<|sM rfl<|sM rfl<|sM rfl<|sV (rI (rW (x9*x9)))<|sV (rI (rW ((rW ((0:Int)+(rW (x8*x8))))+(rW (x9*x9)))))<|sA rfl<|sN<|WC.region rfl rfl<|sV (rI 2)<|sM rfl<|sN<|WL.round<|WC.nY (R0:=[(2,.d (.raw (.func (.func 196) #[] #[]))),(7,rI (rW ((rW ((0:Int)+(rW (x8*x8))))+(rW (x9*x9))))),(8,.ptr 128 0),(9,.ptr 144 0),(28,.d (aT.pd x7)),(29,rI 2)]) (B0:=[(128,.var [rI x5.a0,rI x5.a1,rI x5.a2]),(144,.var [rI x6.a0,rI x6.a1,rI x6.a2])]) rfl rfl ?_
 refine sT<|sN<|qS<|cT<|qK<|qS<|qB<|gS rfl rfl<|sM rfl<|sV (rI x7.a2)<|sA rfl<|sA rfl<|sN<|WC.bZ rfl rfl<|sM rfl ?_
 refine sM rfl<|sM rfl<|sV (.ptr 128 2)<|sL rfl<|sM rfl<|sV (.ptr 144 2)<|sL rfl<|bE h fun x10 hx10 h=>cD (jy hx10)<|sA rfl ?_
 refine sN<|sO<|WC.region rfl rfl<|sM rfl<|sM rfl<|sM rfl<|sV (rI (rW (x10*x10)))<|sV (rI (rW ((rW ((rW ((0:Int)+(rW (x8*x8))))+(rW (x9*x9))))+(rW (x10*x10)))))<|sA rfl<|sN<|WC.region rfl rfl<|sV (rI 3)<|sM rfl<|sN<|WL.round<|WC.nY (R0:=[(2,.d (.raw (.func (.func 196) #[] #[]))),(7,rI (rW ((rW ((rW ((0:Int)+(rW (x8*x8))))+(rW (x9*x9))))+(rW (x10*x10))))),(8,.ptr 128 0),(9,.ptr 144 0),(28,.d (aT.pd x7)),(29,rI 3)]) (B0:=[(128,.var [rI x5.a0,rI x5.a1,rI x5.a2]),(144,.var [rI x6.a0,rI x6.a1,rI x6.a2])]) rfl rfl ?_
 refine sU<|sN<|qS<|cF<|qX<|qE<|gS rfl rfl<|sM rfl<|sA rfl<|sN<|qR ?_
 exact oI h▸qD
theorem ld{a0:ai}{a1:aa}{r:Int}(h:e9 a0 a1=some r):EvP prog aB ext 111 [.d (ai.pd a0),.d (aa.pd a1)] [] (rI r,[]):=by
 refine Ev.body rfl Tryz.func111 rfl (by kernel_rfl)<|gS rfl rfl<|sB (.ptr 32 0) 32 (.var (ai.rc a0))<|sB (.ptr 48 0) 48 (.var (aa.rc a1))<|sV (r0)<|sN<|gS rfl rfl<|sV (.d (ai.pd a0))<|sV (.d (aa.pd a1))<|bE h fun x1 hx1 h=>cD (m5 hx1)<|sA rfl<|sN<|qR ?_
 exact oI h▸qD
theorem iK{a0:Int}{a1:Int}{a2:Int}{r:Int}(h:eE a0 a1 a2=some r):EvP prog aB ext 197 [rI a0,rI a1,rI a2] [] (rI r,[]):=by
 refine Ev.body rfl Tryz.func197 rfl (by kernel_rfl)<|gS rfl rfl<|sV (r0)<|sN<|gS rfl rfl<|sM rfl<|sM rfl<|sV (rI (rW (a2-a0)))<|sM rfl<|sM rfl<|sV (rI (rW (a0-a1)))<|sV (rI (if(rW (a0-a1))>(rW (a2-a0))then(rW (a0-a1))else(rW (a2-a0))))<|sA rfl<|sN<|qR ?_
 exact oI h▸qD
theorem mK{a0:ai}{a1:aa}{r:Int}(h:gp a0 a1=some r):EvP prog aB ext 195 [.d (ai.pd a0),.d (aa.pd a1),.d (.raw (.func (.func 197) #[] #[]))] [] (rI r,[]):=by
 refine Ev.body rfl Tryz.func195 rfl (by kernel_rfl)<|gS rfl rfl<|sB (.ptr 48 0) 48 (.var (ai.rc a0))<|sB (.ptr 64 0) 64 (.var (aa.rc a1))<|sV (r0)<|sN<|qS<|gS rfl rfl<|sV (.d (ai.pd a0))<|bE h fun x1 hx1 h=>cD (bI hx1)<|sF h (fun h=>?_) fun h=>?_
 ·refine sM rfl<|k3<|sT<|sN<|cT<|gS rfl rfl<|sV (r0)<|sN<|qR ?_
  exact oI h▸qD
 refine sM rfl<|sV (.d (aa.pd a1))<|bE h fun x3 hx3 h=>cD (dj hx3)<|sV (rB (!x3))<|sF h (fun h=>?_) fun h=>?_
 ·refine sN<|cT<|gS rfl rfl<|sV (r0)<|sN<|qR ?_
  exact oI h▸qD
 refine sN<|cF<|qK<|WC.bZ rfl rfl<|sV (.ptr 48 0)<|sV (.d (aa.pd a0.aK))<|bE h fun x5 hx5 h=>cD (bO hx5)<|sV (.ptr 48 3)<|sV (.d (aa.pd a0.aG))<|bE h fun x6 hx6 h=>cD (bO hx6)<|sB (.ptr 128 0) 128 (.var [r0,r0,r0])<|sB (.ptr 144 0) 144 (.var [r0,r0,r0])<|sV (r0) ?_
 refine sS 128 (.var [rI x5.a0,rI x5.a1,rI x5.a2])<|sS 144 (.var [rI x6.a0,rI x6.a1,rI x6.a2]) ?_
 refine sN<|sO<|qS<|gS rfl rfl<|sV (.d (aa.pd a1))<|bE h fun x7 hx7 h=>cD (bO hx7)<|sV (r0)<|sN<|WC.block (WC.loop ?_)
 refine WL.round<|WC.nY (R0:=[(2,.d (.raw (.func (.func 197) #[] #[]))),(7,r0),(8,.ptr 128 0),(9,.ptr 144 0),(28,.d (aT.pd x7)),(29,r0)]) (B0:=[(128,.var [rI x5.a0,rI x5.a1,rI x5.a2]),(144,.var [rI x6.a0,rI x6.a1,rI x6.a2])]) rfl rfl<|sT<|sN<|qS<|cT<|qK<|qS<|qB<|gS rfl rfl<|sM rfl<|sV (rI x7.a0)<|sA rfl<|sA rfl<|sN ?_
 refine WC.bZ rfl rfl<|sM rfl<|sM rfl<|sM rfl<|sV (.ptr 128 0)<|sL rfl<|sM rfl<|sV (.ptr 144 0)<|sL rfl<|bE h fun x8 hx8 h=>cD (iK hx8)<|sA rfl ?_
 refine sN<|sO<|WC.region rfl rfl<|sM rfl<|sM rfl<|sM rfl<|sV (rI (rW (x8*x8)))<|sV (rI (rW ((0:Int)+(rW (x8*x8)))))<|sA rfl<|sN<|WC.region rfl rfl<|sV (rI 1)<|sM rfl<|sN<|WL.round<|WC.nY (R0:=[(2,.d (.raw (.func (.func 197) #[] #[]))),(7,rI (rW ((0:Int)+(rW (x8*x8))))),(8,.ptr 128 0),(9,.ptr 144 0),(28,.d (aT.pd x7)),(29,rI 1)]) (B0:=[(128,.var [rI x5.a0,rI x5.a1,rI x5.a2]),(144,.var [rI x6.a0,rI x6.a1,rI x6.a2])]) rfl rfl ?_
 refine sT<|sN<|qS<|cT<|qK<|qS<|qB<|gS rfl rfl<|sM rfl<|sV (rI x7.a1)<|sA rfl<|sA rfl<|sN<|WC.bZ rfl rfl<|sM rfl ?_
 refine sM rfl<|sM rfl<|sV (.ptr 128 1)<|sL rfl<|sM rfl<|sV (.ptr 144 1)<|sL rfl<|bE h fun x9 hx9 h=>cD (iK hx9)<|sA rfl ?_
 refine sN<|sO<|WC.region rfl rfl<|sM rfl<|sM rfl<|sM rfl<|sV (rI (rW (x9*x9)))<|sV (rI (rW ((rW ((0:Int)+(rW (x8*x8))))+(rW (x9*x9)))))<|sA rfl<|sN<|WC.region rfl rfl<|sV (rI 2)<|sM rfl<|sN<|WL.round<|WC.nY (R0:=[(2,.d (.raw (.func (.func 197) #[] #[]))),(7,rI (rW ((rW ((0:Int)+(rW (x8*x8))))+(rW (x9*x9))))),(8,.ptr 128 0),(9,.ptr 144 0),(28,.d (aT.pd x7)),(29,rI 2)]) (B0:=[(128,.var [rI x5.a0,rI x5.a1,rI x5.a2]),(144,.var [rI x6.a0,rI x6.a1,rI x6.a2])]) rfl rfl ?_
 refine sT<|sN<|qS<|cT<|qK<|qS<|qB<|gS rfl rfl<|sM rfl<|sV (rI x7.a2)<|sA rfl<|sA rfl<|sN<|WC.bZ rfl rfl<|sM rfl ?_
 refine sM rfl<|sM rfl<|sV (.ptr 128 2)<|sL rfl<|sM rfl<|sV (.ptr 144 2)<|sL rfl<|bE h fun x10 hx10 h=>cD (iK hx10)<|sA rfl ?_
 refine sN<|sO<|WC.region rfl rfl<|sM rfl<|sM rfl<|sM rfl<|sV (rI (rW (x10*x10)))<|sV (rI (rW ((rW ((rW ((0:Int)+(rW (x8*x8))))+(rW (x9*x9))))+(rW (x10*x10)))))<|sA rfl<|sN<|WC.region rfl rfl<|sV (rI 3)<|sM rfl<|sN<|WL.round<|WC.nY (R0:=[(2,.d (.raw (.func (.func 197) #[] #[]))),(7,rI (rW ((rW ((rW ((0:Int)+(rW (x8*x8))))+(rW (x9*x9))))+(rW (x10*x10))))),(8,.ptr 128 0),(9,.ptr 144 0),(28,.d (aT.pd x7)),(29,rI 3)]) (B0:=[(128,.var [rI x5.a0,rI x5.a1,rI x5.a2]),(144,.var [rI x6.a0,rI x6.a1,rI x6.a2])]) rfl rfl ?_
 refine sU<|sN<|qS<|cF<|qX<|qE<|gS rfl rfl<|sM rfl<|sA rfl<|sN<|qR ?_
 exact oI h▸qD
theorem oR{a0:ai}{a1:aa}{r:Int}(h:gK a0 a1=some r):EvP prog aB ext 112 [.d (ai.pd a0),.d (aa.pd a1)] [] (rI r,[]):=by
 refine Ev.body rfl Tryz.func112 rfl (by kernel_rfl)<|gS rfl rfl<|sB (.ptr 32 0) 32 (.var (ai.rc a0))<|sB (.ptr 48 0) 48 (.var (aa.rc a1))<|sV (r0)<|sN<|gS rfl rfl<|sV (.d (ai.pd a0))<|sV (.d (aa.pd a1))<|bE h fun x1 hx1 h=>cD (mK hx1)<|sA rfl<|sN<|qR ?_
 exact oI h▸qD
theorem bound_squares_ev{a0:aF}{a1:ai}{a2:aa}{r:aF×Int×Int}(h:jF a0 a1 a2=some r):EvP prog aB ext 310 [.d (aF.pd a0),.d (ai.pd a1),.d (aa.pd a2)] [] (.tup [.d (aF.pd r.1),rI r.2.1,rI r.2.2],[]):=by
 refine Ev.body rfl Tryz.func310 rfl (by kernel_rfl)<|gS rfl rfl<|sB (.ptr 48 0) 48 (.var (aF.rc a0))<|sB (.ptr 64 0) 64 (.var (ai.rc a1))<|sB (.ptr 80 0) 80 (.var (aa.rc a2))<|sB (.ptr 96 0) 96 (.var [r0,.dg,.dg])<|sV (r0)<|sV (r0)<|sN<|WC.bZ rfl rfl<|sV (.d (aF.pd a0))<|sV (.d (ai.pd a1))<|sV (.d (aa.pd a2))<|bE h fun x1 hx1 h=>cD (ld hx1) ?_
 refine sV (.d (ai.pd a1))<|sV (.d (aa.pd a2))<|bE h fun x2 hx2 h=>cD (oR hx2)<|sS 96 (.var (aF.rc a0))<|sA rfl<|sA rfl ?_
 refine sN<|sO<|qR ?_
 exact oI h▸qD
theorem bits_Len64_ev{a0:Int}{r:Int}(h:mI a0=some r):EvP prog aB ext 217 [.d (.int .u64 a0)] [] (rI r,[]):=by
 refine Ev.body rfl Tryz.func217 rfl (by kernel_rfl)<|gS rfl rfl<|sV (r0)<|sN<|WC.join (α:=Int×Int) (fun x R' B'=>cI prog 0 (A R' B') (aB.at_ 217 0 4)=some (A [(0,.d (.int .u64 x.1)),(2,rI x.2)] [])) (fun x=>gi x.1 x.2=some r) ?_ ?_
 ·refine gS rfl rfl<|sM rfl<|sF h (fun h=>?_) fun h=>?_
  ·exact sN<|cT<|gS rfl rfl<|sM rfl<|sV (.d (.int .u64 (nG .u64 a0 (32:Int))))<|sA rfl<|sN<|WC.region rfl rfl<|sV (rI 32)<|sN<|⟨((nG .u64 a0 (32:Int)),32),rfl,h⟩
  exact sN<|cF<|qK<|⟨(a0,0),rfl,h⟩
 rintro⟨j1,j2⟩ R' B' hI h
 refine WC.join (α:=Int×Int) (fun x R' B'=>cI prog 0 (A R' B') (aB.at_ 217 0 7)=some (A [(0,.d (.int .u64 x.1)),(2,rI x.2)] [])) (fun x=>im x.1 x.2=some r) ?_ ?_
 ·refine gS rfl hI<|sM rfl<|sF h (fun h=>?_) fun h=>?_
  ·exact sN<|cT<|gS rfl rfl<|sM rfl<|sV (.d (.int .u64 (nG .u64 j1 (16:Int))))<|sA rfl<|sN<|WC.region rfl rfl<|sM rfl<|sV (rI (rW (j2+(16:Int))))<|sA rfl<|sN<|⟨((nG .u64 j1 (16:Int)),(rW (j2+(16:Int)))),rfl,h⟩
  exact sN<|cF<|qK<|⟨(j1,j2),rfl,h⟩
 rintro⟨j3,j4⟩ R' B' hI h
 refine qS<|gS rfl hI<|sM rfl<|sF h (fun h=>?_) fun h=>?_
 ·refine sN<|cT<|gS rfl rfl<|sM rfl<|sV (.d (.int .u64 (nG .u64 j3 (8:Int))))<|sA rfl<|sN<|WC.region rfl rfl<|sM rfl<|sV (rI (rW (j4+(8:Int))))<|sA rfl<|sN<|gS rfl rfl<|sM rfl<|sM rfl ?_
  refine sV (.d (.int .u8 (IntKind.wrap .u8 (nG .u64 j3 (8:Int)))))<|bE h fun x6 hx6 h=>WO.byteG hx6 rfl rfl rfl rfl rfl rfl<|sV (rI (IntKind.wrap .i64 x6))<|sV (rI (rW ((rW (j4+(8:Int)))+(IntKind.wrap .i64 x6))))<|sA rfl<|sN<|qR ?_
  exact oI h▸qD
 refine sN<|cF<|qK<|gS rfl rfl<|sM rfl<|sM rfl<|sV (.d (.int .u8 (IntKind.wrap .u8 j3)))<|bE h fun x7 hx7 h=>WO.byteG hx7 rfl rfl rfl rfl rfl rfl<|sV (rI (IntKind.wrap .i64 x7))<|sV (rI (rW (j4+(IntKind.wrap .i64 x7))))<|sA rfl<|sN<|qR ?_
 exact oI h▸qD
theorem nf{a0:Int}{r:Int}(h:fD a0=some r):EvP prog aB ext 136 [.d (.int .u64 a0)] [] (rI r,[]):=by
 refine Ev.body rfl Tryz.func136 rfl (by kernel_rfl)<|gS rfl rfl<|sV (r0)<|sN<|qS<|cF<|qK<|gS rfl rfl<|sM rfl<|bE h fun x1 hx1 h=>cD (bits_Len64_ev hx1)<|sA rfl<|sN<|qR ?_
 exact oI h▸qD
theorem nh{a0:Int}{r:Int}(h:fi a0=some r):EvP prog aB ext 280 [rI a0] [] (rI r,[]):=by
 refine Ev.body rfl Tryz.func280 rfl (by kernel_rfl)<|gS rfl rfl<|sV (r0)<|sN<|qS<|gS rfl rfl<|sM rfl<|sF h (fun h=>?_) fun h=>?_
 ·refine sN<|cT<|gS rfl rfl<|sV (r0)<|sN<|qR ?_
  exact oI h▸qD
 refine sN<|cF<|qK<|gS rfl rfl<|sV (r0)<|sN<|qS<|gS rfl rfl<|sM rfl<|sV (.d (.int .u64 (IntKind.wrap .u64 a0)))<|bE h fun x2 hx2 h=>cD (nf hx2)<|sV (rI (rW (x2-(1:Int))))<|bE h fun x3 hx3 h=>WO.uP hx3 rfl rfl rfl rfl rfl rfl ?_
 refine bE h fun x4 hx4 h=>WO.shlG hx4 rfl rfl rfl rfl rfl<|sA rfl<|sN<|bE h fun o13 ho13 h=>WC.block (WC.loop (WL.hY ho13 (fun s R' B'=>cI prog 0 (A R' B') (aB.at_ 280 0 5)=some (A [(0,rI a0),(3,rI s.1),(4,rI s.2)] [])) (fun o e R' B'=>e= .exit 0∧cI prog 0 (A R' B') (aB.at_ 280 0 10)=some (A [(3,rI o)] [])) rfl ?_ ?_))
 ·rintro⟨s5,s6⟩ R' B' q8 hI h
  refine qS<|gS rfl hI<|sM rfl<|sF h (fun h=>?_) fun h=>?_
  ·refine sN<|cT<|qK<|qS<|qB<|gS rfl rfl<|sM rfl<|sM rfl<|sV (rI (orI .i64 s5 s6))<|sA rfl<|sN<|gS rfl rfl<|sM rfl<|sM rfl<|sM rfl ?_
   refine bE h fun x10 hx10 h=>WO.uP hx10 rfl rfl rfl rfl rfl rfl<|sF h (fun h=>?_) fun h=>?_
   ·refine sN<|cT<|WC.region rfl rfl<|sM rfl<|sA rfl<|sN<|WC.region rfl rfl<|sM rfl<|sV (rI (nG .i64 s6 (1:Int)))<|sA rfl<|sN ?_
    cases oI h
    exact⟨rfl,rfl⟩
   refine sN<|cF<|qK<|WC.region rfl rfl<|sM rfl<|sV (rI (nG .i64 s6 (1:Int)))<|sA rfl<|sN ?_
   cases oI h
   exact⟨rfl,rfl⟩
  refine sN<|cF<|qX ?_
  cases oI h
  exact⟨nofun,rfl,rfl⟩
 intro e R' B' he hq
 obtain⟨rfl,hI⟩:=hq
 refine qE<|gS rfl hI<|sM rfl<|sA rfl<|sN<|qR ?_
 exact oI h▸qD
theorem geometry_Ceil_ev{a0:Int}{r:Int}(h:iq a0=some r):EvP prog aB ext 276 [rI a0] [] (rI r,[]):=by
 refine Ev.body rfl Tryz.func276 rfl (by kernel_rfl)<|gS rfl rfl<|sV (r0)<|sN<|gS rfl rfl<|sM rfl<|bE h fun x1 hx1 h=>cD (nh hx1)<|sA rfl<|sN<|qS<|gS rfl rfl<|sM rfl<|sM rfl<|sV (rI (rW (x1*x1))) ?_
 refine sM rfl<|sF h (fun h=>?_) fun h=>?_
 ·refine sN<|cT<|WC.region rfl rfl<|sM rfl<|sV (rI (rW (x1+(1:Int))))<|sA rfl<|sN<|gS rfl rfl<|sM rfl<|sA rfl<|sN<|qR ?_
  exact oI h▸qD
 refine sN<|cF<|qK<|gS rfl rfl<|sM rfl<|sA rfl<|sN<|qR ?_
 exact oI h▸qD
theorem travel_reach_ev{a0:aF}{r:Int}(h:kW a0=some r):EvP prog aB ext 277 [.d (aF.pd a0)] [] (rI r,[]):=by
 refine Ev.body rfl Tryz.func277 rfl (by kernel_rfl)<|gS rfl rfl<|sB (.ptr 16 0) 16 (.var (aF.rc a0))<|sV (r0)<|sN<|gS rfl rfl<|sV (.ptr 16 0)<|sL rfl<|sV (.ptr 16 1)<|sL rfl<|sE (rI (a0.aK.length:Int)) (fQ _ _)<|sV (rI (rW ((a0.aK.length:Int)-(1:Int))))<|sV (rI (rW (a0.bo*(rW ((a0.aK.length:Int)-(1:Int))))))<|sA rfl<|sN ?_
 refine qR ?_
 exact oI h▸qD
theorem oN{a0:Int}{d0:aF}{d1:Int}{r:Bool}(h:gh a0 d0 d1=some r):EvP prog aB ext 279 [rI a0,.ptr 0 0,.ptr 1 0] [.var (aF.rc d0),.var [rI d1]] (rB r,[.var (aF.rc d0),.var [rI d1]]):=by
 refine Ev.body rfl Tryz.func279 rfl (by kernel_rfl)<|gS rfl rfl<|sU<|sN<|gS rfl rfl<|sM rfl<|sV (.ptr 0 0)<|sL rfl<|sV (rI (rW (a0*d0.bo)))<|sL rfl<|sV (rB (decide ((rW (a0*d0.bo))>=d1)))<|sA rfl<|sN<|qR ?_
 exact oI h▸qD
theorem qu{a0:Int}{d0:aF}{d1:Int}{r:Int}(h:dI a0 d0 d1=some r):EvP prog aB ext 278 [rI a0,.clo 279 [.ptr 0 0,.ptr 1 0]] [.var (aF.rc d0),.var [rI d1]] (rI r,[.var (aF.rc d0),.var [rI d1]]):=by
 refine Ev.body rfl Tryz.func278 rfl (by kernel_rfl)<|gS rfl rfl<|sV (r0)<|sN<|gS rfl rfl<|sM rfl<|sV (r0)<|sA rfl<|sN<|qS<|bE h fun o9 ho9 h=>WC.block (WC.loop (WL.hY ho9 (fun s R' B'=>cI prog 2 (A R' B') (aB.at_ 278 2 2)=some (A [(1,.clo 279 [.ptr 0 0,.ptr 1 0]),(5,rI s.1),(6,rI s.2)] [(0,.var (aF.rc d0)),(1,.var [rI d1])])) (fun o e R' B'=>e= .exit 0∧cI prog 2 (A R' B') (aB.at_ 278 2 7)=some (A [(5,rI o)] [(0,.var (aF.rc d0)),(1,.var [rI d1])])) rfl ?_ ?_))
 ·rintro⟨s1,s2⟩ R' B' q4 hI h
  refine qS<|gS rfl hI<|sM rfl<|sM rfl<|sF h (fun h=>?_) fun h=>?_
  ·refine sN<|cT<|qK<|qB<|gS rfl rfl<|sM rfl<|sM rfl<|sV (rI (rW (s1+s2)))<|sV (.d (.int .u64 (IntKind.wrap .u64 (rW (s1+s2)))))<|sV (.d (.int .u64 (nG .u64 (IntKind.wrap .u64 (rW (s1+s2))) (1:Int))))<|sV (rI (rW (nG .u64 (IntKind.wrap .u64 (rW (s1+s2))) (1:Int))))<|sA rfl<|sN<|gS rfl rfl<|sM rfl ?_
   refine sM rfl<|bE h fun x6 hx6 h=>cR (rB x6) [(0,.var (aF.rc d0)),(1,.var [rI d1])] (oN hx6)<|sF h (fun h=>?_) fun h=>?_
   ·refine sN<|cT<|WC.region rfl rfl<|sM rfl<|sV (rI (rW ((rW (nG .u64 (IntKind.wrap .u64 (rW (s1+s2))) (1:Int)))+(1:Int))))<|sA rfl<|sN ?_
    cases oI h
    exact⟨rfl,rfl⟩
   refine sN<|cF<|WC.region rfl rfl<|sM rfl<|sA rfl<|sN ?_
   cases oI h
   exact⟨rfl,rfl⟩
  refine sN<|cF<|qX ?_
  cases oI h
  exact⟨nofun,rfl,rfl⟩
 intro e R' B' he hq
 obtain⟨rfl,hI⟩:=hq
 refine qE<|gS rfl hI<|sM rfl<|sA rfl<|sN<|qR ?_
 exact oI h▸qD
theorem nv{a0:aF}{a1:Int}{a2:Int}{r:Int×Int×Int}(h:cb a0 a1 a2=some r):EvP prog aB ext 191 [.d (aF.pd a0),rI a1,rI a2] [] (.tup [rI r.1,rI r.2.1,rI r.2.2],[]):=by
 refine Ev.body rfl Tryz.func191 rfl (by kernel_rfl)<|gS rfl rfl<|sB (.ptr 48 0) 48 (.var (aF.rc a0))<|sV (r0)<|sV (r0)<|sV (r0)<|sN<|qS<|gS rfl rfl<|sV (.d (aF.pd a0))<|bE h fun x1 hx1 h=>cD (d6 hx1)<|sF h (fun h=>?_) fun h=>?_
 ·refine sN<|cT<|gS rfl rfl<|sV (r0)<|sV (r0)<|sV (rI 21)<|sN<|qR ?_
  exact oI h▸qD
 refine sN<|cF<|qK<|qS<|gS rfl rfl<|sM rfl<|sF h (fun h=>?_) fun h=>?_
 ·refine sM rfl<|k3<|sT<|sN<|cT<|gS rfl rfl<|sV (r0)<|sV (r0)<|sV (rI 2)<|sN<|qR ?_
  exact oI h▸qD
 refine sM rfl<|sM rfl<|sM rfl<|sV (rB (decide (a1>a2)))<|sF h (fun h=>?_) fun h=>?_
 ·refine sN<|cT<|gS rfl rfl<|sV (r0)<|sV (r0)<|sV (rI 2)<|sN<|qR ?_
  exact oI h▸qD
 refine sN<|cF<|qK<|gS rfl rfl<|sM rfl<|bE h fun x5 hx5 h=>cD (geometry_Ceil_ev hx5)<|sB (.ptr 144 0) 144 (.var [r0])<|sS 144 (.var [rI x5])<|sN<|qS<|WC.bZ rfl rfl<|sL rfl<|sV (.d (aF.pd a0))<|bE h fun x6 hx6 h=>?_
 refine cD (travel_reach_ev hx6)<|sF h (fun h=>?_) fun h=>?_
 ·refine sN<|sO<|cT<|gS rfl rfl<|sV (r0)<|sV (r0)<|sV (rI 22)<|sN<|qR ?_
  exact oI h▸qD
 refine sN<|sO<|cF<|qK<|gS rfl rfl<|sV (.ptr 48 2)<|sL rfl<|sE (rI (a0.aG.length:Int)) (fQ _ _)<|sV (.clo 279 [.ptr 48 0,.ptr 144 0])<|bE h fun x8 hx8 h=>cR (rI x8) [(48,.var (aF.rc a0)),(144,.var [rI x5])] (qu hx8)<|sA rfl<|sN<|WC.bZ rfl rfl<|sV (.ptr 48 1)<|sL rfl ?_
 refine sM rfl<|bE h fun x9 hx9 h=>cD (nh hx9)<|sV (.ptr 48 0)<|sL rfl<|bE h fun x10 hx10 h=>WO.uP hx10 rfl rfl rfl rfl rfl rfl<|bE h fun x11 hx11 h=>eG hx11 rfl<|sC rfl<|sV (.ptr 48 2)<|sL rfl<|sM rfl<|bE h fun x12 hx12 h=>eG hx12 rfl ?_
 refine sC rfl<|sA rfl<|sA rfl<|sV (r0) ?_
 refine sN<|sO<|qR ?_
 exact oI h▸qD
theorem rA{a0:aF}{a1:ai}{a2:aa}{r:Int×Int×Int}(h:gj a0 a1 a2=some r):EvP prog aB ext 246 [.d (aF.pd a0),.d (ai.pd a1),.d (aa.pd a2)] [] (.tup [rI r.1,rI r.2.1,rI r.2.2],[]):=by
 refine Ev.body rfl Tryz.func246 rfl (by kernel_rfl)<|gS rfl rfl<|sB (.ptr 48 0) 48 (.var (aF.rc a0))<|sB (.ptr 64 0) 64 (.var (ai.rc a1))<|sB (.ptr 80 0) 80 (.var (aa.rc a2))<|sV (r0)<|sV (r0)<|sV (r0)<|sN<|qS<|gS rfl rfl<|sV (.d (aF.pd a0))<|bE h fun x1 hx1 h=>cD (d6 hx1)<|sA rfl ?_
 refine sN<|gS rfl rfl<|sM rfl<|sF h (fun h=>?_) fun h=>?_
 ·refine sN<|cT<|gS rfl rfl<|sM rfl<|sV (r0)<|sV (r0)<|sA rfl<|sN<|qR ?_
  exact oI h▸qD
 refine sN<|cF<|qK<|qS<|gS rfl rfl<|sV (.d (ai.pd a1))<|bE h fun x3 hx3 h=>cD (bI hx3)<|sF h (fun h=>?_) fun h=>?_
 ·refine sM rfl<|k3<|sT<|sN<|cT<|gS rfl rfl<|sV (r0)<|sV (r0)<|sV (rI 20)<|sN<|qR ?_
  exact oI h▸qD
 refine sM rfl<|sV (.d (aa.pd a2))<|bE h fun x5 hx5 h=>cD (dj hx5)<|sV (rB (!x5))<|sF h (fun h=>?_) fun h=>?_
 ·refine sN<|cT<|gS rfl rfl<|sV (r0)<|sV (r0)<|sV (rI 20)<|sN<|qR ?_
  exact oI h▸qD
 refine sN<|cF<|qK<|gS rfl rfl<|sV (.d (aF.pd a0))<|sV (.d (ai.pd a1))<|sV (.d (aa.pd a2))<|bE h fun x7 hx7 h=>cR (.tup [.d (aF.pd x7.1),rI x7.2.1,rI x7.2.2]) [] (bound_squares_ev hx7)<|sV (.d (aF.pd x7.1))<|sV (rI x7.2.1)<|sV (rI x7.2.2)<|bE h fun x8 hx8 h=>cR (.tup [rI x8.1,rI x8.2.1,rI x8.2.2]) [] (nv hx8)<|sV (rI x8.1) ?_
 refine sV (rI x8.2.1)<|sV (rI x8.2.2)<|sA rfl<|sA rfl<|sA rfl<|sN<|qR ?_
 exact oI h▸qD
theorem lF{a0:aF}{a1:ai}{a2:al}{r:aL×Int}(h:dM a0 a1 a2=some r):EvP prog aB ext 158 [.d (aF.pd a0),.d (ai.pd a1),.d (al.pd a2)] [] (.tup [.d (aL.pd r.1),rI r.2],[]):=by
 refine Ev.body rfl Tryz.func158 rfl (by kernel_rfl)<|gS rfl rfl<|sB (.ptr 48 0) 48 (.var (aF.rc a0))<|sB (.ptr 64 0) 64 (.var (ai.rc a1))<|sB (.ptr 80 0) 80 (.var (al.rc a2))<|sB (.ptr 96 0) 96 (.var [r0,r0])<|sV (r0)<|sN<|qS<|gS rfl rfl<|sV (.d (aF.pd a0))<|bE h fun x1 hx1 h=>cD (d6 hx1)<|sA rfl<|sN ?_
 refine gS rfl rfl<|sM rfl<|sF h (fun h=>?_) fun h=>?_
 ·refine sN<|cT<|gS rfl rfl<|sV (.d (aL.pd (aL.mk 0 0)))<|sM rfl<|sS 96 (.var [r0,r0])<|sA rfl<|sN<|qR ?_
  exact oI h▸qD
 refine sN<|cF<|qK<|qS<|gS rfl rfl<|sV (.d (ai.pd a1))<|bE h fun x3 hx3 h=>cD (bI hx3)<|sF h (fun h=>?_) fun h=>?_
 ·refine sN<|cT<|gS rfl rfl<|sV (.d (aL.pd (aL.mk 0 0)))<|sS 96 (.var [r0,r0])<|sV (rI 20)<|sN<|qR ?_
  exact oI h▸qD
 refine sN<|cF<|qK<|qS<|gS rfl rfl<|sV (.d (al.pd a2))<|bE h fun x5 hx5 h=>cD (qg hx5)<|sF h (fun h=>?_) fun h=>?_
 ·refine sN<|cT<|gS rfl rfl<|sV (.d (aL.pd (aL.mk 0 0)))<|sS 96 (.var [r0,r0])<|sV (rI 23)<|sN<|qR ?_
  exact oI h▸qD
 refine sN<|cF<|qK<|gS rfl rfl<|sV (.d (aF.pd a0))<|sV (.d (ai.pd a1))<|sV (.ptr 80 0)<|sV (.d (aa.pd a2.aM))<|bE h fun x7 hx7 h=>cR (.tup [rI x7.1,rI x7.2.1,rI x7.2.2]) [] (rA hx7)<|sM rfl<|sV (rI x7.1)<|sV (rI x7.2.1)<|sV (rI x7.2.2)<|sA rfl ?_
 refine sA rfl<|sA rfl<|sN<|qS<|gS rfl rfl<|sM rfl<|sF h (fun h=>?_) fun h=>?_
 ·refine sN<|cT<|gS rfl rfl<|sV (.d (aL.pd (aL.mk 0 0)))<|sM rfl<|sS 96 (.var [r0,r0])<|sA rfl<|sN<|qR ?_
  exact oI h▸qD
 refine sN<|cF<|qK<|gS rfl rfl<|sV (.ptr 80 3)<|sL rfl<|sM rfl<|sV (rI (rW (a2.aP-x7.2.1)))<|sV (.ptr 80 4)<|sL rfl<|sM rfl<|sV (rI (rW (a2.bi-x7.1)))<|sV (.d (aL.pd (aL.mk (rW (a2.aP-x7.2.1)) (rW (a2.bi-x7.1)))))<|sS 96 (.var [rI (rW (a2.aP-x7.2.1)),rI (rW (a2.bi-x7.1))])<|sV (r0) ?_
 refine sN<|qR ?_
 exact oI h▸qD
theorem kY{a0:aJ}{a1:(List al)}{r:Int}(h:dy a0 a1=some r):EvP prog aB ext 118 [.d (aJ.pd a0),rM al.pd a1] [] (rI r,[]):=by
 refine Ev.body rfl Tryz.func118 rfl (by kernel_rfl)<|gS rfl rfl<|sB (.ptr 32 0) 32 (.var (aJ.rc a0))<|sV (r0)<|sN<|qS<|gS rfl rfl<|sV (.ptr 32 0)<|sV (.d (ai.pd a0.aN))<|bE h fun x1 hx1 h=>cD (bI hx1)<|sF h (fun h=>?_) fun h=>?_
 ·refine sM rfl<|k3<|sK<|sT<|sM rfl<|k3<|sK<|sT<|sM rfl<|sK<|sK ?_
  refine sK<|sK<|sT<|sM rfl<|k3<|sK<|sT<|sM rfl<|k3<|sK<|sT ?_
  refine sM rfl<|k3<|sK<|sT<|sN<|cT<|gS rfl rfl<|sV (rI 27)<|sN<|qR ?_
  cases oI h
  exact qG
 refine sM rfl<|sV (.ptr 32 6)<|sV (.d (aF.pd a0.bg))<|bE h fun x3 hx3 h=>cD (d6 hx3)<|sV (rB (x3 != (0:Int)))<|sF h (fun h=>?_) fun h=>?_
 ·refine sM rfl<|k3<|sK<|sT<|sM rfl<|k3<|sK<|sT<|sM rfl<|sK<|sK ?_
  refine sK<|sK<|sT<|sM rfl<|k3<|sK<|sT<|sM rfl<|k3<|sK<|sT ?_
  refine sN<|cT<|gS rfl rfl<|sV (rI 27)<|sN<|qR ?_
  cases oI h
  exact qG
 refine sM rfl<|sV (.ptr 32 9)<|sL rfl<|bE h fun x5 hx5 h=>cD (ia hx5)<|sV (rB (!x5))<|sF h (fun h=>?_) fun h=>?_
 ·refine sM rfl<|k3<|sK<|sT<|sM rfl<|k3<|sK<|sT<|sM rfl<|sK<|sK ?_
  refine sK<|sK<|sT<|sM rfl<|k3<|sK<|sT<|sN<|cT<|gS rfl rfl<|sV (rI 27)<|sN<|qR ?_
  cases oI h
  exact qG
 refine sM rfl<|sV (.ptr 32 10)<|sL rfl<|bE h fun x7 hx7 h=>cD (ia hx7)<|sV (rB (!x7))<|sF h (fun h=>?_) fun h=>?_
 ·refine sM rfl<|k3<|sK<|sT<|sM rfl<|k3<|sK<|sT<|sM rfl<|sK<|sK ?_
  refine sK<|sK<|sT<|sN<|cT<|gS rfl rfl<|sV (rI 27)<|sN<|qR ?_
  cases oI h
  exact qG
 refine sM rfl<|sV (.ptr 32 12)<|sL rfl<|bE h fun x9 hx9 h=>cD (ia hx9)<|sV (rB (!x9))<|sF h (fun h=>?_) fun h=>?_
 ·refine sM rfl<|k3<|sK<|sT<|sM rfl<|k3<|sK<|sT<|sN<|cT<|gS rfl rfl ?_
  refine sV (rI 27)<|sN<|qR ?_
  cases oI h
  exact qG
 refine sM rfl<|sV (.ptr 32 11)<|sL rfl<|bE h fun x11 hx11 h=>cD (ia hx11)<|sV (rB (!x11))<|sF h (fun h=>?_) fun h=>?_
 ·refine sM rfl<|k3<|sK<|sT<|sN<|cT<|gS rfl rfl<|sV (rI 27)<|sN<|qR ?_
  cases oI h
  exact qG
 refine sM rfl<|sV (.ptr 32 13)<|sL rfl<|bE h fun x13 hx13 h=>cD (ia hx13)<|sV (rB (!x13))<|sF h (fun h=>?_) fun h=>?_
 ·refine sN<|cT<|gS rfl rfl<|sV (rI 27)<|sN<|qR ?_
  cases oI h
  exact qG
 refine sN<|cF<|qK<|qS<|gS rfl rfl<|sM rfl<|sE (rI (a1.length:Int)) (fQ _ _)<|sF h (fun h=>?_) fun h=>?_
 ·refine sN<|cT<|gS rfl rfl<|sV (rI 8)<|sN<|qR ?_
  cases oI h
  exact qG
 refine sN<|cF<|qK<|qS<|gS rfl rfl<|sM rfl<|sE (rI (a1.length:Int)) (fQ _ _)<|sV (r0)<|sN<|bE h fun o23 ho23 h=>WC.block (WC.loop (WL.hY ho23 (fun s R' B'=>cI prog 0 (A R' B') (aB.at_ 118 0 6)=some (A [(2,.ptr 32 0),(52,rM al.pd a1),(53,rI (a1.length:Int)),(54,rI s)] [(32,.var (aJ.rc a0))])) (fun o e R' B'=>match o with| .inl y=>e= .exit 0∧cI prog 0 (A R' B') (aB.at_ 118 0 12)=some (A [] [])| .inr r=>e= .ret∧finish prog (aB.own 118) Tryz.f118 0 (A R' B')=some (rI r,[])) rfl ?_ ?_))
 ·rintro s16 R' B' q17 hI h
  refine gS rfl hI<|sF h (fun h=>?_) fun h=>?_
  ·refine sN<|qS<|cT<|qK<|qS<|qB<|gS rfl rfl<|bE h fun x19 hx19 h=>eG hx19 rfl<|sV (.d (al.pd x19))<|sB (.ptr 96 0) 96 (.var zZ5)<|sH 96 (.var (al.rc x19))<|sN<|gS rfl rfl<|sV (.ptr 32 6) ?_
   refine sV (.d (aF.pd a0.bg))<|sV (.ptr 32 0)<|sV (.d (ai.pd a0.aN))<|sV (.d (al.pd x19))<|bE h fun x20 hx20 h=>cR (.tup [.d (aL.pd x20.1),rI x20.2]) [] (lF hx20)<|sM rfl<|sV (.d (aL.pd x20.1))<|sV (rI x20.2)<|sB (.ptr 112 0) 112 (.var [r0,r0])<|sS 112 (.var [rI x20.1.bA,rI x20.1.fTo])<|sA rfl<|sN<|gS rfl rfl<|sM rfl ?_
   refine sF h (fun h=>?_) fun h=>?_
   ·refine sN<|cT<|gS rfl rfl<|sM rfl<|sA rfl<|sN<|qR ?_
    cases oI h
    exact⟨nofun,rfl,rfl⟩
   refine sN<|cF<|qK<|WC.region rfl rfl<|sV (rI (rW (s16+(1:Int))))<|sM rfl<|sN ?_
   cases oI h
   exact⟨rfl,rfl⟩
  refine sN<|qS<|cF<|qX ?_
  cases oI h
  exact⟨nofun,rfl,rfl⟩
 intro e R' B' he hq
 rcases o23 with y24|r25
 ·obtain⟨rfl,hI⟩:=hq
  refine qE<|gS rfl hI<|sV (r0)<|sN<|qR ?_
  exact oI h▸qD
 obtain⟨rfl,hf⟩:=hq
 cases oI h
 exact hf
theorem kj{a0:bt}{r:Bool}(h:c6 a0=some r):EvP prog aB ext 119 [.d (bt.pd a0)] [] (rB r,[]):=by
 refine Ev.body rfl Tryz.func119 rfl (by kernel_rfl)<|gS rfl rfl<|sB (.ptr 16 0) 16 (.var (bt.rc a0))<|sU<|sN<|gS rfl rfl<|sV (.ptr 16 0)<|sV (.d (aF.pd a0.bF))<|bE h fun x1 hx1 h=>cD (d6 hx1)<|sF h (fun h=>?_) fun h=>?_
 ·refine sM rfl<|sV (.ptr 16 3)<|sL rfl<|sV (rB (decide (a0.bn>=(0:Int))))<|sF h (fun h=>?_) fun h=>?_
  ·refine sM rfl<|sV (.ptr 16 3)<|sL rfl<|sV (rB (decide (a0.bn<=(65536:Int))))<|sF h (fun h=>?_) fun h=>?_
   ·refine sM rfl<|sV (.ptr 16 4)<|sL rfl<|sV (rB (decide (a0.bf>=(1:Int))))<|sF h (fun h=>?_) fun h=>?_
    ·refine sM rfl<|sV (.ptr 16 4)<|sL rfl<|sV (rB (decide (a0.bf<=(65536:Int))))<|sV (rB (decide (a0.bf<=(65536:Int))))<|sA rfl<|sN<|qR ?_
     exact oI h▸qD
    refine sM rfl<|k3<|sU<|sA rfl<|sN<|qR ?_
    exact oI h▸qD
   refine sM rfl<|k3<|sU<|sM rfl<|k3<|sU<|sA rfl<|sN<|qR ?_
   exact oI h▸qD
  refine sM rfl<|k3<|sU<|sM rfl<|k3<|sU<|sM rfl<|k3<|sU ?_
  refine sA rfl<|sN<|qR ?_
  exact oI h▸qD
 refine sM rfl<|k3<|sU<|sM rfl<|k3<|sU<|sM rfl<|k3<|sU ?_
 refine sM rfl<|k3<|sU<|sA rfl<|sN<|qR ?_
 exact oI h▸qD
theorem jc{a0:ak}{r:Int}(h:eH a0=some r):EvP prog aB ext 60 [.d (ak.pd a0)] [] (rI r,[]):=by
 refine Ev.body rfl Tryz.func60 rfl (by kernel_rfl)<|gS rfl rfl<|sB (.ptr 16 0) 16 (.var (ak.rc a0))<|sV (r0)<|sN<|qS<|gS rfl rfl<|sV (.ptr 16 0)<|sV (.d (aJ.pd a0.ag))<|bE h fun x1 hx1 h=>cD (kY hx1)<|sF h (fun h=>?_) fun h=>?_
 ·refine sM rfl<|k3<|sK<|sT<|sM rfl<|k3<|sT<|sM rfl<|sK<|sK<|sK ?_
  refine sT<|sN<|cT<|gS rfl rfl<|sV (rI 27)<|sN<|qR ?_
  cases oI h
  exact qG
 refine sM rfl<|sV (.ptr 16 14)<|sV (.d (bt.pd a0.cp))<|bE h fun x3 hx3 h=>cD (kj hx3)<|sV (rB (!x3))<|sF h (fun h=>?_) fun h=>?_
 ·refine sM rfl<|k3<|sT<|sM rfl<|k3<|sT<|sN<|cT<|gS rfl rfl<|sV (rI 27)<|sN ?_
  refine qR ?_
  cases oI h
  exact qG
 refine sM rfl<|sV (.ptr 16 19)<|sL rfl<|sV (rB (decide (a0.bv<(0:Int))))<|sF h (fun h=>?_) fun h=>?_
 ·refine sM rfl<|k3<|sT<|sN<|cT<|gS rfl rfl<|sV (rI 27)<|sN<|qR ?_
  cases oI h
  exact qG
 refine sM rfl<|sV (.ptr 16 19)<|sL rfl<|sV (rB (decide (a0.bv>(1099511627776:Int))))<|sF h (fun h=>?_) fun h=>?_
 ·refine sN<|cT<|gS rfl rfl<|sV (rI 27)<|sN<|qR ?_
  cases oI h
  exact qG
 refine sN<|cF<|qK<|gS rfl rfl<|sV (r0)<|sN<|qR ?_
 cases oI h
 exact qG
theorem source_plain_ev{a0:Int}{r:Bool}(h:mw a0=some r):EvP prog aB ext 307 [.d (.int .u8 a0)] [] (rB r,[]):=by
 refine Ev.body rfl Tryz.func307 rfl (by kernel_rfl)<|gS rfl rfl<|sU<|sN<|gS rfl rfl<|sM rfl<|sF h (fun h=>?_) fun h=>?_
 ·refine sM rfl<|sM rfl<|sV (rB (decide (a0<=(90:Int))))<|sF h (fun h=>?_) fun h=>?_
  ·refine sM rfl<|k3<|k3<|sT<|sA rfl<|sN<|qR ?_
   exact oI h▸qD
  refine sM rfl<|sM rfl<|sF h (fun h=>?_) fun h=>?_
  ·refine sM rfl<|sM rfl<|sV (rB (decide (a0<=(57:Int))))<|sV (rB (decide (a0<=(57:Int))))<|sV (rB (decide (a0<=(57:Int))))<|sA rfl<|sN<|qR ?_
   exact oI h▸qD
  refine sM rfl<|sK<|sK<|sU<|sU<|sA rfl<|sN<|qR ?_
  exact oI h▸qD
 refine sM rfl<|sK<|sK<|sU<|sM rfl<|sM rfl<|sF h (fun h=>?_) fun h=>?_
 ·refine sM rfl<|sM rfl<|sV (rB (decide (a0<=(57:Int))))<|sV (rB (decide (a0<=(57:Int))))<|sV (rB (decide (a0<=(57:Int))))<|sA rfl<|sN<|qR ?_
  exact oI h▸qD
 refine sM rfl<|sK<|sK<|sU<|sU<|sA rfl<|sN<|qR ?_
 exact oI h▸qD
theorem jd{a0:(List UInt8)}{a1:Int}{a2:Int}{r:Bool}(h:fW a0 a1 a2=some r):EvP prog aB ext 241 [rS a0,rI a1,rI a2] [] (rB r,[]):=by
 refine Ev.body rfl Tryz.func241 rfl (by kernel_rfl)<|gS rfl rfl<|sU<|sN<|qS<|gS rfl rfl<|sM rfl<|sV (rI (a0.length:Int))<|sV (r0)<|sN<|bE h fun o8 ho8 h=>WC.block (WC.loop (WL.hY ho8 (fun s R' B'=>cI prog 0 (A R' B') (aB.at_ 241 0 2)=some (A [(0,rS a0),(1,rI a1),(2,rI a2),(9,rI (a0.length:Int)),(10,rI s)] [])) (fun o e R' B'=>match o with| .inl y=>e= .exit 0∧cI prog 0 (A R' B') (aB.at_ 241 0 7)=some (A [(0,rS a0),(1,rI a1),(2,rI a2)] [])| .inr r=>e= .ret∧finish prog (aB.own 241) Tryz.f241 0 (A R' B')=some (rB r,[])) rfl ?_ ?_))
 ·rintro s1 R' B' q2 hI h
  refine gS rfl hI<|sF h (fun h=>?_) fun h=>?_
  ·refine sN<|qS<|cT<|qK<|qS<|qB<|gS rfl rfl<|sM rfl<|sA rfl<|sN<|gS rfl rfl<|sM rfl<|sM rfl<|bE h fun x4 hx4 h=>WO.byteG hx4 rfl rfl rfl rfl rfl rfl ?_
   refine bE h fun x5 hx5 h=>cD (source_plain_ev hx5)<|sF h (fun h=>?_) fun h=>?_
   ·refine sN<|cT<|gS rfl rfl<|sU<|sN<|qR ?_
    cases oI h
    exact⟨nofun,rfl,rfl⟩
   refine sN<|cF<|qK<|WC.region rfl rfl<|sV (rI (rW (s1+(1:Int))))<|sM rfl<|sN ?_
   cases oI h
   exact⟨rfl,rfl⟩
  refine sN<|qS<|cF<|qX ?_
  cases oI h
  exact⟨nofun,rfl,rfl⟩
 intro e R' B' he hq
 rcases o8 with y9|r10
 ·obtain⟨rfl,hI⟩:=hq
  refine qE<|gS rfl hI<|sM rfl<|sV (rI (a0.length:Int))<|sM rfl<|sF h (fun h=>?_) fun h=>?_
  ·refine sM rfl<|sM rfl<|sV (rI (a0.length:Int))<|sM rfl<|sV (rB (decide ((a0.length:Int)<=a2)))<|sV (rB (decide ((a0.length:Int)<=a2)))<|sA rfl<|sN<|qR ?_
   exact oI h▸qD
  refine sM rfl<|k3<|sK<|sU<|sA rfl<|sN<|qR ?_
  exact oI h▸qD
 obtain⟨rfl,hf⟩:=hq
 cases oI h
 exact hf
theorem md{a0:av}{r:Bool}(h:hC a0=some r):EvP prog aB ext 155 [.d (av.pd a0)] [] (rB r,[]):=by
 refine Ev.body rfl Tryz.func155 rfl (by kernel_rfl)<|gS rfl rfl<|sB (.ptr 16 0) 16 (.var (av.rc a0))<|sU<|sN<|gS rfl rfl<|sV (.ptr 16 0)<|sL rfl<|bE h fun x1 hx1 h=>nS h (fun hb2 h=>?_) (fun hb2 h=>?_)
 ·refine WO.pT (v:=rB true) (u:=[]) rfl rfl (fun _=>rfl) rfl rfl rfl rfl rfl (jd hx1) rfl rfl (congrArg (fun b=>RV.d (.bool b)) hb2) rfl<|sM rfl<|sV (.ptr 16 1)<|sL rfl<|bE h fun x3 hx3 h=>cD (jd hx3)<|sF h (fun h=>?_) fun h=>?_
  ·refine sM rfl<|sV (.ptr 16 2)<|sL rfl<|bE h fun x5 hx5 h=>cD (jd hx5)<|sF h (fun h=>?_) fun h=>?_
   ·refine sM rfl<|sV (.ptr 16 2)<|sL rfl<|sV (rI (a0.aj.length:Int))<|sV (rB ((a0.aj.length:Int) != (1:Int)))<|sF h (fun h=>?_) fun h=>?_
    ·refine sM rfl<|sV (.ptr 16 3)<|sL rfl<|bE h fun x8 hx8 h=>cD (jd hx8)<|sV (rB x8)<|sA rfl<|sN<|qR ?_
     exact oI h▸qD
    refine sM rfl<|k3<|sU<|sA rfl<|sN<|qR ?_
    exact oI h▸qD
   refine sM rfl<|k3<|sK<|sU<|sM rfl<|k3<|sU<|sA rfl<|sN<|qR ?_
   exact oI h▸qD
  refine sM rfl<|k3<|sU<|sM rfl<|k3<|sK<|sU<|sM rfl<|sK<|sK<|sK ?_
  refine sU<|sA rfl<|sN<|qR ?_
  exact oI h▸qD
 refine WO.pT (v:=rB false) (u:=[]) rfl rfl (fun _=>rfl) rfl rfl rfl rfl rfl (jd hx1) rfl rfl (congrArg (fun b=>RV.d (.bool b)) hb2) rfl<|sM rfl<|k3<|sU<|sM rfl<|k3<|sU<|sM rfl<|sK<|sK<|sK ?_
 refine sK<|sU<|sM rfl<|k3<|sU<|sA rfl<|sN<|qR ?_
 exact oI h▸qD
theorem rb{a0:Int}{a1:Int}{a2:Int}{r:Bool}(h:qc a0 a1 a2=some r):EvP prog aB ext 349 [rI a0,rI a1,rI a2] [] (rB r,[]):=by
 refine Ev.body rfl Tryz.func349 rfl (by kernel_rfl)<|gS rfl rfl<|sU<|sN<|gS rfl rfl<|sM rfl<|sM rfl<|sF h (fun h=>?_) fun h=>?_
 ·refine sM rfl<|sM rfl<|sM rfl<|sV (rB (decide (a0<=a2)))<|sV (rB (decide (a0<=a2)))<|sA rfl<|sN<|qR ?_
  exact oI h▸qD
 refine sM rfl<|k3<|sU<|sA rfl<|sN<|qR ?_
 exact oI h▸qD
theorem rate_gcd_ev{a0:Int}{a1:Int}{r:Int}(h:pM a0 a1=some r):EvP prog aB ext 350 [rI a0,rI a1] [] (rI r,[]):=by
 refine Ev.body rfl Tryz.func350 rfl (by kernel_rfl)<|gS rfl rfl<|sV (r0)<|sN<|qS<|bE h fun o8 ho8 h=>WC.block (WC.loop (WL.hY ho8 (fun s R' B'=>cI prog 0 (A R' B') (aB.at_ 350 0 1)=some (A [(0,rI s.1),(1,rI s.2)] [])) (fun o e R' B'=>e= .exit 0∧cI prog 0 (A R' B') (aB.at_ 350 0 3)=some (A [(0,rI o)] [])) rfl ?_ ?_))
 ·rintro⟨s1,s2⟩ R' B' q4 hI h
  refine qS<|gS rfl hI<|sM rfl<|sF h (fun h=>?_) fun h=>?_
  ·refine sN<|cT<|qK<|qB<|WC.oH rfl rfl<|sM rfl<|sM rfl<|sM rfl<|bE h fun x6 hx6 h=>WO.remG hx6 rfl rfl rfl rfl rfl rfl<|sA rfl<|sA rfl ?_
   refine sN<|sO ?_
   cases oI h
   exact⟨rfl,rfl⟩
  refine sN<|cF<|qX ?_
  cases oI h
  exact⟨nofun,rfl,rfl⟩
 intro e R' B' he hq
 obtain⟨rfl,hI⟩:=hq
 refine qE<|gS rfl hI<|sM rfl<|sA rfl<|sN<|qR ?_
 exact oI h▸qD
theorem rate_Valid_ev{a0:bu}{r:Bool}(h:lu a0=some r):EvP prog aB ext 308 [.d (bu.pd a0)] [] (rB r,[]):=by
 refine Ev.body rfl Tryz.func308 rfl (by kernel_rfl)<|gS rfl rfl<|sB (.ptr 16 0) 16 (.var [rI a0.bn,rI a0.bf])<|sU<|sN<|gS rfl rfl<|sV (.ptr 16 0)<|sL rfl<|bE h fun x1 hx1 h=>nS h (fun hb2 h=>?_) (fun hb2 h=>?_)
 ·refine WO.pT (v:=rB true) (u:=[]) rfl rfl (fun _=>rfl) rfl rfl rfl rfl rfl (rb hx1) rfl rfl (congrArg (fun b=>RV.d (.bool b)) hb2) rfl<|sM rfl<|sV (.ptr 16 1)<|sL rfl<|bE h fun x3 hx3 h=>cD (rb hx3)<|sF h (fun h=>?_) fun h=>?_
  ·refine sM rfl<|sV (.ptr 16 0)<|sL rfl<|sV (.ptr 16 1)<|sL rfl<|bE h fun x5 hx5 h=>cD (rate_gcd_ev hx5)<|sV (rB (x5==(1:Int)))<|sV (rB (x5==(1:Int)))<|sA rfl<|sN<|qR ?_
   exact oI h▸qD
  refine sM rfl<|k3<|k3<|sU<|sA rfl<|sN<|qR ?_
  exact oI h▸qD
 refine WO.pT (v:=rB false) (u:=[]) rfl rfl (fun _=>rfl) rfl rfl rfl rfl rfl (rb hx1) rfl rfl (congrArg (fun b=>RV.d (.bool b)) hb2) rfl<|sM rfl<|k3<|sU<|sM rfl<|k3<|k3<|sU<|sA rfl ?_
 refine sN<|qR ?_
 exact oI h▸qD
theorem ch{a0:Int}{a1:Int}{a2:Int}{r:Bool}(h:bB a0 a1 a2=some r):EvP prog aB ext 335 [rI a0,rI a1,rI a2] [] (rB r,[]):=by
 refine Ev.body rfl Tryz.func335 rfl (by kernel_rfl)<|gS rfl rfl<|sU<|sN<|gS rfl rfl<|sM rfl<|sM rfl<|sF h (fun h=>?_) fun h=>?_
 ·refine sM rfl<|sM rfl<|sM rfl<|sV (rB (decide (a0<=a2)))<|sV (rB (decide (a0<=a2)))<|sA rfl<|sN<|qR ?_
  exact oI h▸qD
 refine sM rfl<|k3<|sU<|sA rfl<|sN<|qR ?_
 exact oI h▸qD
theorem kS{a0:Int}{r:Bool}(h:jA a0=some r):EvP prog aB ext 413 [rI a0] [] (rB r,[]):=by
 refine Ev.body rfl Tryz.func413 rfl (by kernel_rfl)<|gS rfl rfl<|sU<|sN<|gS rfl rfl<|sM rfl<|bE h fun x1 hx1 h=>cD (ch hx1)<|sV (rB (!x1))<|sA rfl<|sN<|qR ?_
 exact oI h▸qD
theorem l9{a0:(List Int)}{r:Int}(h:dh a0=some r):EvP prog aB ext 421 [rL a0,.d (.raw (.func (.func 413) #[] #[]))] [] (rI r,[]):=by
 refine Ev.body rfl Tryz.func421 rfl (by kernel_rfl)<|gS rfl rfl<|sV (r0)<|sN<|qS<|gS rfl rfl<|sM rfl<|sE (rI (a0.length:Int)) (fQ _ _)<|sV (r0)<|sN<|bE h fun o8 ho8 h=>WC.block (WC.loop (WL.hY ho8 (fun s R' B'=>cI prog 0 (A R' B') (aB.at_ 421 0 2)=some (A [(0,rL a0),(1,.d (.raw (.func (.func 413) #[] #[]))),(7,rI (a0.length:Int)),(8,rI s)] [])) (fun o e R' B'=>match o with| .inl y=>e= .exit 0∧cI prog 0 (A R' B') (aB.at_ 421 0 7)=some (A [] [])| .inr r=>e= .ret∧finish prog (aB.own 421) Tryz.f421 0 (A R' B')=some (rI r,[])) rfl ?_ ?_))
 ·rintro s1 R' B' q2 hI h
  refine gS rfl hI<|sF h (fun h=>?_) fun h=>?_
  ·refine sN<|qS<|cT<|qK<|qS<|qB<|gS rfl rfl<|sM rfl<|sA rfl<|sN<|gS rfl rfl<|sM rfl<|sM rfl<|sM rfl<|bE h fun x4 hx4 h=>?_
   refine eG hx4 rfl<|sC rfl<|bE h fun x5 hx5 h=>nS h (fun hb6 h=>?_) (fun hb6 h=>?_)
   ·refine WO.pT (v:=rB true) (u:=[]) rfl rfl (fun _=>rfl) rfl rfl rfl rfl rfl (kS hx5) rfl rfl (congrArg (fun b=>RV.d (.bool b)) hb6) rfl<|sN<|cT<|gS rfl rfl<|sM rfl<|sA rfl<|sN<|qR ?_
    cases oI h
    exact⟨nofun,rfl,rfl⟩
   refine WO.pT (v:=rB false) (u:=[]) rfl rfl (fun _=>rfl) rfl rfl rfl rfl rfl (kS hx5) rfl rfl (congrArg (fun b=>RV.d (.bool b)) hb6) rfl<|sN<|cF<|qK<|WC.region rfl rfl<|sV (rI (rW (s1+(1:Int))))<|sM rfl<|sN ?_
   cases oI h
   exact⟨rfl,rfl⟩
  refine sN<|qS<|cF<|qX ?_
  cases oI h
  exact⟨nofun,rfl,rfl⟩
 intro e R' B' he hq
 rcases o8 with y9|r10
 ·obtain⟨rfl,hI⟩:=hq
  refine qE<|gS rfl hI<|sV (rI (-1))<|sN<|qR ?_
  exact oI h▸qD
 obtain⟨rfl,hf⟩:=hq
 cases oI h
 exact hf
theorem kX{a0:(List Int)}{r:Bool}(h:cH a0=some r):EvP prog aB ext 412 [rL a0,.d (.raw (.func (.func 413) #[] #[]))] [] (rB r,[]):=by
 refine Ev.body rfl Tryz.func412 rfl (by kernel_rfl)<|gS rfl rfl<|sU<|sN<|gS rfl rfl<|sM rfl<|sM rfl<|bE h fun x1 hx1 h=>cD (l9 hx1)<|sV (rB (decide (x1>=(0:Int))))<|sA rfl<|sN<|qR ?_
 exact oI h▸qD
theorem fS{a0:(List Int)}{r:Bool}(h:cw a0=some r):EvP prog aB ext 394 [rL a0] [] (rB r,[]):=by
 refine Ev.body rfl Tryz.func394 rfl (by kernel_rfl)<|gS rfl rfl<|sU<|sN<|gS rfl rfl<|sM rfl<|bE h fun x1 hx1 h=>cD (kX hx1)<|sV (rB (!x1))<|sA rfl<|sN<|qR ?_
 exact oI h▸qD
theorem jT{a0:(List Int)}{r:Int}(h:dO a0=some r):EvP prog aB ext 383 [rL a0] [] (rI r,[]):=by
 refine Ev.body rfl Tryz.func383 rfl (by kernel_rfl)<|gS rfl rfl<|sV (r0)<|sN<|gS rfl rfl<|sV (r0)<|sN<|qS<|gS rfl rfl<|sM rfl<|sE (rI (a0.length:Int)) (fQ _ _)<|sV (r0)<|sN<|bE h fun o8 ho8 h=>WC.block (WC.loop (WL.hY ho8 (fun s R' B'=>cI prog 0 (A R' B') (aB.at_ 383 0 3)=some (A [(3,rI s.1),(6,rL a0),(7,rI (a0.length:Int)),(8,rI s.2)] [])) (fun o e R' B'=>e= .exit 0∧cI prog 0 (A R' B') (aB.at_ 383 0 7)=some (A [(3,rI o)] [])) rfl ?_ ?_))
 ·rintro⟨s1,s2⟩ R' B' q4 hI h
  refine gS rfl hI<|sF h (fun h=>?_) fun h=>?_
  ·refine sN<|qS<|cT<|qK<|qS<|qB<|gS rfl rfl<|bE h fun x6 hx6 h=>eG hx6 rfl<|sC rfl<|sA rfl<|sN<|WC.region rfl rfl<|sM rfl<|sM rfl ?_
   refine sV (rI (rW (s1+x6)))<|sA rfl<|sN<|WC.region rfl rfl<|sV (rI (rW (s2+(1:Int))))<|sM rfl<|sN ?_
   cases oI h
   exact⟨rfl,rfl⟩
  refine sN<|qS<|cF<|qX ?_
  cases oI h
  exact⟨nofun,rfl,rfl⟩
 intro e R' B' he hq
 obtain⟨rfl,hI⟩:=hq
 refine qE<|gS rfl hI<|sM rfl<|sA rfl<|sN<|qR ?_
 exact oI h▸qD
theorem oL{a0:aH}{r:Bool}(h:cO a0=some r):EvP prog aB ext 353 [.d (aH.pd a0)] [] (rB r,[]):=by
 refine Ev.body rfl Tryz.func353 rfl (by kernel_rfl)<|gS rfl rfl<|sB (.ptr 16 0) 16 (.var (aH.rc a0))<|sU<|sN<|gS rfl rfl<|sV (.ptr 16 7)<|sL rfl<|sE (rI (a0.cf.length:Int)) (fQ _ _)<|sF h (fun h=>?_) fun h=>?_
 ·refine sM rfl<|sV (.ptr 16 8)<|sL rfl<|sV (rB (a0.bQ==(0:Int)))<|sF h (fun h=>?_) fun h=>?_
  ·refine sM rfl<|sV (.ptr 16 9)<|sL rfl<|sV (rB (a0.b8==(0:Int)))<|sV (rB (a0.b8==(0:Int)))<|sA rfl<|sN<|qS<|gS rfl rfl<|sV (.ptr 16 0)<|sL rfl<|sN<|qB<|gS rfl rfl<|sF h (fun h=>?_) fun h=>?_
   ·refine sA rfl<|sN<|cT<|gS rfl rfl<|sF h (fun h=>?_) fun h=>?_
    ·refine sM rfl<|sV (.ptr 16 1)<|sV (.d (aT.pd a0.bn))<|sV (.ptr 16 1)<|sV (.ptr 16 1)<|sL rfl<|sV (.d (aT.pd (aT.mk a0.bn.a0 0 0)))<|WO.bin (eD a0.bn (aT.mk a0.bn.a0 0 0)) rfl rfl rfl rfl rfl<|sF h (fun h=>?_) fun h=>?_
     ·refine sM rfl<|sV (.ptr 16 4)<|sV (.d (aT.pd a0.bf))<|sV (.ptr 16 4)<|sV (.ptr 16 4)<|sL rfl<|sV (.d (aT.pd (aT.mk a0.bf.a0 0 0)))<|WO.bin (eD a0.bf (aT.mk a0.bf.a0 0 0)) rfl rfl rfl rfl rfl<|sF h (fun h=>?_) fun h=>?_
      ·refine sM rfl<|sV (.ptr 16 1)<|sV (.ptr 16 1)<|sL rfl<|bE h fun x7 hx7 h=>cD (ch hx7)<|sF h (fun h=>?_) fun h=>?_
       ·refine sM rfl<|sV (.ptr 16 4)<|sV (.ptr 16 4)<|sL rfl<|bE h fun x9 hx9 h=>cD (ch hx9)<|sV (rB x9)<|sA rfl<|sN<|qR ?_
        cases oI h
        exact qG
       refine sM rfl<|k3<|sK<|sU<|sA rfl<|sN<|qR ?_
       cases oI h
       exact qG
      refine sM rfl<|k3<|sK<|sU<|sM rfl<|k3<|sK<|sU<|sA rfl<|sN<|qR ?_
      cases oI h
      exact qG
     refine sM rfl<|k3<|k3<|sK<|sU<|sM rfl<|k3<|sK<|sU ?_
     refine sM rfl<|k3<|sK<|sU<|sA rfl<|sN<|qR ?_
     cases oI h
     exact qG
    refine sM rfl<|k3<|k3<|sK<|sU<|sM rfl<|k3<|sK<|sK ?_
    refine sK<|sK<|sU<|sM rfl<|k3<|sK<|sU<|sM rfl<|k3<|sK<|sU ?_
    refine sA rfl<|sN<|qR ?_
    cases oI h
    exact qG
   refine sA rfl<|sN<|cF<|gS rfl rfl<|sF h (fun h=>?_) fun h=>?_
   ·refine sA rfl<|sN<|cT<|WC.nY (R0:=[(1,.cptr [.int .i64 a0.db,.int .i64 a0.bn.a0,.int .i64 a0.bn.a1,.int .i64 a0.bn.a2,.int .i64 a0.bf.a0,.int .i64 a0.bf.a1,.int .i64 a0.bf.a2,.lst (a0.cf.map (PD.int .i64)),.int .i64 a0.bQ,.int .i64 a0.b8]),(3,rB (a0.b8==(0:Int)))]) (B0:=[]) rfl rfl<|sF h (fun h=>?_) fun h=>?_
    ·refine sM rfl<|sV (.cptr [.int .i64 a0.bn.a0,.int .i64 a0.bn.a1,.int .i64 a0.bn.a2,.int .i64 a0.bf.a0,.int .i64 a0.bf.a1,.int .i64 a0.bf.a2,.lst (a0.cf.map (PD.int .i64)),.int .i64 a0.bQ,.int .i64 a0.b8])<|sV (.d (.lst ([a0.bn.a0,a0.bn.a1,a0.bn.a2].map (PD.int .i64))))<|bE h fun x12 hx12 h=>cD (fS hx12)<|sF h (fun h=>?_) fun h=>?_
     ·refine sM rfl<|sV (.cptr [.int .i64 a0.bf.a0,.int .i64 a0.bf.a1,.int .i64 a0.bf.a2,.lst (a0.cf.map (PD.int .i64)),.int .i64 a0.bQ,.int .i64 a0.b8])<|sV (.d (.lst ([a0.bf.a0,a0.bf.a1,a0.bf.a2].map (PD.int .i64))))<|bE h fun x14 hx14 h=>cD (fS hx14)<|sF h (fun h=>?_) fun h=>?_
      ·refine sM rfl<|sV (.cptr [.int .i64 a0.bf.a0,.int .i64 a0.bf.a1,.int .i64 a0.bf.a2,.lst (a0.cf.map (PD.int .i64)),.int .i64 a0.bQ,.int .i64 a0.b8])<|sV (.cptr [.int .i64 a0.bf.a0,.int .i64 a0.bf.a1,.int .i64 a0.bf.a2,.lst (a0.cf.map (PD.int .i64)),.int .i64 a0.bQ,.int .i64 a0.b8])<|sC rfl<|sV (rB (a0.bf.a0 != (0:Int)))<|sV (rB (a0.bf.a0 != (0:Int)))<|sA rfl<|sN<|qR ?_
       exact oI h▸qD
      refine sM rfl<|k3<|sK<|sU<|sA rfl<|sN<|qR ?_
      exact oI h▸qD
     refine sM rfl<|k3<|sU<|sM rfl<|k3<|sK<|sU<|sA rfl<|sN<|qR ?_
     exact oI h▸qD
    refine sM rfl<|k3<|sU<|sM rfl<|k3<|sU<|sM rfl<|k3<|sK ?_
    refine sU<|sA rfl<|sN<|qR ?_
    exact oI h▸qD
   refine sA rfl<|sN<|cF<|gS rfl rfl<|sF h (fun h=>?_) fun h=>?_
   ·refine sA rfl<|sN<|cT<|gS rfl rfl<|sV (.ptr 16 1)<|sV (.d (aT.pd a0.bn))<|sV (.d (aT.pd (aT.mk 0 0 0)))<|nS h (fun hb17 h=>?_) (fun hb17 h=>?_)
    ·refine WO.vN (eD a0.bn (aT.mk 0 0 0)) hb17 rfl rfl rfl rfl rfl<|sM rfl<|sV (.ptr 16 4)<|sV (.d (aT.pd a0.bf))<|sV (.d (aT.pd (aT.mk 0 0 0)))<|WO.bin (eD a0.bf (aT.mk 0 0 0)) rfl rfl rfl rfl rfl<|sF h (fun h=>?_) fun h=>?_
     ·refine sM rfl<|sV (.ptr 16 7)<|sL rfl<|sE (rI (a0.cf.length:Int)) (fQ _ _)<|bE h fun x19 hx19 h=>cD (ch hx19)<|sF h (fun h=>?_) fun h=>?_
      ·refine sM rfl<|sV (.ptr 16 7)<|sL rfl<|bE h fun x21 hx21 h=>cD (fS hx21)<|sF h (fun h=>?_) fun h=>?_
       ·refine sM rfl<|sV (.ptr 16 7)<|sL rfl<|bE h fun x23 hx23 h=>cD (jT hx23)<|sV (rB (x23 != (0:Int)))<|sF h (fun h=>?_) fun h=>?_
        ·refine sM rfl<|sV (.ptr 16 8)<|sL rfl<|bE h fun x25 hx25 h=>cD (ch hx25)<|sF h (fun h=>?_) fun h=>?_
         ·refine sM rfl<|sV (.ptr 16 9)<|sL rfl<|bE h fun x27 hx27 h=>cD (ch hx27)<|sV (rB x27)<|sA rfl<|sN<|qR ?_
          cases oI h
          exact qG
         refine sM rfl<|k3<|sU<|sA rfl<|sN<|qR ?_
         cases oI h
         exact qG
        refine sM rfl<|k3<|sU<|sM rfl<|k3<|sU<|sA rfl<|sN<|qR ?_
        cases oI h
        exact qG
       refine sM rfl<|k3<|sK<|sU<|sM rfl<|k3<|sU<|sM rfl<|sK<|sK<|sK ?_
       refine sU<|sA rfl<|sN<|qR ?_
       cases oI h
       exact qG
      refine sM rfl<|k3<|sU<|sM rfl<|k3<|sK<|sU<|sM rfl<|sK<|sK<|sK ?_
      refine sU<|sM rfl<|k3<|sU<|sA rfl<|sN<|qR ?_
      cases oI h
      exact qG
     refine sM rfl<|k3<|sK<|sU<|sM rfl<|k3<|sU<|sM rfl<|sK<|sK<|sK ?_
     refine sK<|sU<|sM rfl<|k3<|sU<|sM rfl<|k3<|sU<|sA rfl<|sN<|qR ?_
     cases oI h
     exact qG
    refine WO.vN (eD a0.bn (aT.mk 0 0 0)) hb17 rfl rfl rfl rfl rfl<|sM rfl<|k3<|sK<|sU<|sM rfl<|k3<|sK<|sU<|sM rfl<|sK ?_
    refine sK<|sK<|sU<|sM rfl<|k3<|sK<|sU<|sM rfl<|k3<|sU<|sM rfl ?_
    refine k3<|sU<|sA rfl<|sN<|qR ?_
    cases oI h
    exact qG
   refine sA rfl<|sN<|cF<|qK<|gS rfl rfl<|sU<|sN<|qR ?_
   cases oI h
   exact qG
  refine sM rfl<|k3<|sU<|sA rfl<|sN<|qS<|gS rfl rfl<|sV (.ptr 16 0)<|sL rfl<|sN<|qB<|gS rfl rfl<|sF h (fun h=>?_) fun h=>?_
  ·refine sA rfl<|sN<|cT<|gS rfl rfl<|sM rfl<|sM rfl<|k3<|k3<|sK<|sU<|sM rfl ?_
   refine k3<|k3<|sK<|sU<|sM rfl<|k3<|sK<|sU<|sM rfl ?_
   refine k3<|sK<|sU<|sA rfl<|sN<|qR ?_
   cases oI h
   exact qG
  refine sA rfl<|sN<|cF<|gS rfl rfl<|sF h (fun h=>?_) fun h=>?_
  ·refine sA rfl<|sN<|cT<|WC.nY (R0:=[(1,.cptr [.int .i64 a0.db,.int .i64 a0.bn.a0,.int .i64 a0.bn.a1,.int .i64 a0.bn.a2,.int .i64 a0.bf.a0,.int .i64 a0.bf.a1,.int .i64 a0.bf.a2,.lst (a0.cf.map (PD.int .i64)),.int .i64 a0.bQ,.int .i64 a0.b8]),(3,rB false)]) (B0:=[]) rfl rfl<|sM rfl<|sM rfl<|k3<|sU<|sM rfl<|k3<|sU ?_
   refine sM rfl<|k3<|sK<|sU<|sA rfl<|sN<|qR ?_
   exact oI h▸qD
  refine sA rfl<|sN<|cF<|gS rfl rfl<|sF h (fun h=>?_) fun h=>?_
  ·refine sA rfl<|sN<|cT<|gS rfl rfl<|sV (.ptr 16 1)<|sV (.d (aT.pd a0.bn))<|sV (.d (aT.pd (aT.mk 0 0 0)))<|nS h (fun hb31 h=>?_) (fun hb31 h=>?_)
   ·refine WO.vN (eD a0.bn (aT.mk 0 0 0)) hb31 rfl rfl rfl rfl rfl<|sM rfl<|sV (.ptr 16 4)<|sV (.d (aT.pd a0.bf))<|sV (.d (aT.pd (aT.mk 0 0 0)))<|WO.bin (eD a0.bf (aT.mk 0 0 0)) rfl rfl rfl rfl rfl<|sF h (fun h=>?_) fun h=>?_
    ·refine sM rfl<|sV (.ptr 16 7)<|sL rfl<|sE (rI (a0.cf.length:Int)) (fQ _ _)<|bE h fun x33 hx33 h=>cD (ch hx33)<|sF h (fun h=>?_) fun h=>?_
     ·refine sM rfl<|sV (.ptr 16 7)<|sL rfl<|bE h fun x35 hx35 h=>cD (fS hx35)<|sF h (fun h=>?_) fun h=>?_
      ·refine sM rfl<|sV (.ptr 16 7)<|sL rfl<|bE h fun x37 hx37 h=>cD (jT hx37)<|sV (rB (x37 != (0:Int)))<|sF h (fun h=>?_) fun h=>?_
       ·refine sM rfl<|sV (.ptr 16 8)<|sL rfl<|bE h fun x39 hx39 h=>cD (ch hx39)<|sF h (fun h=>?_) fun h=>?_
        ·refine sM rfl<|sV (.ptr 16 9)<|sL rfl<|bE h fun x41 hx41 h=>cD (ch hx41)<|sV (rB x41)<|sA rfl<|sN<|qR ?_
         cases oI h
         exact qG
        refine sM rfl<|k3<|sU<|sA rfl<|sN<|qR ?_
        cases oI h
        exact qG
       refine sM rfl<|k3<|sU<|sM rfl<|k3<|sU<|sA rfl<|sN<|qR ?_
       cases oI h
       exact qG
      refine sM rfl<|k3<|sK<|sU<|sM rfl<|k3<|sU<|sM rfl<|sK<|sK<|sK ?_
      refine sU<|sA rfl<|sN<|qR ?_
      cases oI h
      exact qG
     refine sM rfl<|k3<|sU<|sM rfl<|k3<|sK<|sU<|sM rfl<|sK<|sK<|sK ?_
     refine sU<|sM rfl<|k3<|sU<|sA rfl<|sN<|qR ?_
     cases oI h
     exact qG
    refine sM rfl<|k3<|sK<|sU<|sM rfl<|k3<|sU<|sM rfl<|sK<|sK<|sK ?_
    refine sK<|sU<|sM rfl<|k3<|sU<|sM rfl<|k3<|sU<|sA rfl<|sN<|qR ?_
    cases oI h
    exact qG
   refine WO.vN (eD a0.bn (aT.mk 0 0 0)) hb31 rfl rfl rfl rfl rfl<|sM rfl<|k3<|sK<|sU<|sM rfl<|k3<|sK<|sU<|sM rfl<|sK ?_
   refine sK<|sK<|sU<|sM rfl<|k3<|sK<|sU<|sM rfl<|k3<|sU<|sM rfl ?_
   refine k3<|sU<|sA rfl<|sN<|qR ?_
   cases oI h
   exact qG
  refine sA rfl<|sN<|cF<|qK<|gS rfl rfl<|sU<|sN<|qR ?_
  cases oI h
  exact qG
 refine sM rfl<|k3<|sU<|sM rfl<|k3<|sU<|sA rfl<|sN<|qS<|gS rfl rfl<|sV (.ptr 16 0) ?_
 refine sL rfl<|sN<|qB<|gS rfl rfl<|sF h (fun h=>?_) fun h=>?_
 ·refine sA rfl<|sN<|cT<|gS rfl rfl<|sM rfl<|sM rfl<|k3<|k3<|sK<|sU<|sM rfl ?_
  refine k3<|k3<|sK<|sU<|sM rfl<|k3<|sK<|sU<|sM rfl ?_
  refine k3<|sK<|sU<|sA rfl<|sN<|qR ?_
  cases oI h
  exact qG
 refine sA rfl<|sN<|cF<|gS rfl rfl<|sF h (fun h=>?_) fun h=>?_
 ·refine sA rfl<|sN<|cT<|WC.nY (R0:=[(1,.cptr [.int .i64 a0.db,.int .i64 a0.bn.a0,.int .i64 a0.bn.a1,.int .i64 a0.bn.a2,.int .i64 a0.bf.a0,.int .i64 a0.bf.a1,.int .i64 a0.bf.a2,.lst (a0.cf.map (PD.int .i64)),.int .i64 a0.bQ,.int .i64 a0.b8]),(3,rB false)]) (B0:=[]) rfl rfl<|sM rfl<|sM rfl<|k3<|sU<|sM rfl<|k3<|sU ?_
  refine sM rfl<|k3<|sK<|sU<|sA rfl<|sN<|qR ?_
  exact oI h▸qD
 refine sA rfl<|sN<|cF<|gS rfl rfl<|sF h (fun h=>?_) fun h=>?_
 ·refine sA rfl<|sN<|cT<|gS rfl rfl<|sV (.ptr 16 1)<|sV (.d (aT.pd a0.bn))<|sV (.d (aT.pd (aT.mk 0 0 0)))<|nS h (fun hb45 h=>?_) (fun hb45 h=>?_)
  ·refine WO.vN (eD a0.bn (aT.mk 0 0 0)) hb45 rfl rfl rfl rfl rfl<|sM rfl<|sV (.ptr 16 4)<|sV (.d (aT.pd a0.bf))<|sV (.d (aT.pd (aT.mk 0 0 0)))<|WO.bin (eD a0.bf (aT.mk 0 0 0)) rfl rfl rfl rfl rfl<|sF h (fun h=>?_) fun h=>?_
   ·refine sM rfl<|sV (.ptr 16 7)<|sL rfl<|sE (rI (a0.cf.length:Int)) (fQ _ _)<|bE h fun x47 hx47 h=>cD (ch hx47)<|sF h (fun h=>?_) fun h=>?_
    ·refine sM rfl<|sV (.ptr 16 7)<|sL rfl<|bE h fun x49 hx49 h=>cD (fS hx49)<|sF h (fun h=>?_) fun h=>?_
     ·refine sM rfl<|sV (.ptr 16 7)<|sL rfl<|bE h fun x51 hx51 h=>cD (jT hx51)<|sV (rB (x51 != (0:Int)))<|sF h (fun h=>?_) fun h=>?_
      ·refine sM rfl<|sV (.ptr 16 8)<|sL rfl<|bE h fun x53 hx53 h=>cD (ch hx53)<|sF h (fun h=>?_) fun h=>?_
       ·refine sM rfl<|sV (.ptr 16 9)<|sL rfl<|bE h fun x55 hx55 h=>cD (ch hx55)<|sV (rB x55)<|sA rfl<|sN<|qR ?_
        cases oI h
        exact qG
       refine sM rfl<|k3<|sU<|sA rfl<|sN<|qR ?_
       cases oI h
       exact qG
      refine sM rfl<|k3<|sU<|sM rfl<|k3<|sU<|sA rfl<|sN<|qR ?_
      cases oI h
      exact qG
     refine sM rfl<|k3<|sK<|sU<|sM rfl<|k3<|sU<|sM rfl<|sK<|sK<|sK ?_
     refine sU<|sA rfl<|sN<|qR ?_
     cases oI h
     exact qG
    refine sM rfl<|k3<|sU<|sM rfl<|k3<|sK<|sU<|sM rfl<|sK<|sK<|sK ?_
    refine sU<|sM rfl<|k3<|sU<|sA rfl<|sN<|qR ?_
    cases oI h
    exact qG
   refine sM rfl<|k3<|sK<|sU<|sM rfl<|k3<|sU<|sM rfl<|sK<|sK<|sK ?_
   refine sK<|sU<|sM rfl<|k3<|sU<|sM rfl<|k3<|sU<|sA rfl<|sN<|qR ?_
   cases oI h
   exact qG
  refine WO.vN (eD a0.bn (aT.mk 0 0 0)) hb45 rfl rfl rfl rfl rfl<|sM rfl<|k3<|sK<|sU<|sM rfl<|k3<|sK<|sU<|sM rfl<|sK ?_
  refine sK<|sK<|sU<|sM rfl<|k3<|sK<|sU<|sM rfl<|k3<|sU<|sM rfl ?_
  refine k3<|sU<|sA rfl<|sN<|qR ?_
  cases oI h
  exact qG
 refine sA rfl<|sN<|cF<|qK<|gS rfl rfl<|sU<|sN<|qR ?_
 cases oI h
 exact qG
theorem kQ{a0:aH}{r:Bool}(h:eP a0=some r):EvP prog aB ext 352 [.d (aH.pd a0)] [] (rB r,[]):=by
 refine Ev.body rfl Tryz.func352 rfl (by kernel_rfl)<|gS rfl rfl<|sB (.ptr 16 0) 16 (.var (aH.rc a0))<|sU<|sN<|gS rfl rfl<|sV (.d (aH.pd a0))<|bE h fun x1 hx1 h=>cD (oL hx1)<|sV (rB (!x1))<|sA rfl<|sN<|qR ?_
 cases oI h
 exact qG
theorem lA{a0:(List aH)}{r:Int}(h:cU a0=some r):EvP prog aB ext 393 [rM aH.pd a0,.d (.raw (.func (.func 352) #[] #[]))] [] (rI r,[]):=by
 refine Ev.body rfl Tryz.func393 rfl (by kernel_rfl)<|gS rfl rfl<|sV (r0)<|sN<|qS<|gS rfl rfl<|sM rfl<|sE (rI (a0.length:Int)) (fQ _ _)<|sV (r0)<|sN<|bE h fun o8 ho8 h=>WC.block (WC.loop (WL.hY ho8 (fun s R' B'=>cI prog 0 (A R' B') (aB.at_ 393 0 2)=some (A [(0,rM aH.pd a0),(1,.d (.raw (.func (.func 352) #[] #[]))),(7,rI (a0.length:Int)),(8,rI s)] [])) (fun o e R' B'=>match o with| .inl y=>e= .exit 0∧cI prog 0 (A R' B') (aB.at_ 393 0 7)=some (A [] [])| .inr r=>e= .ret∧finish prog (aB.own 393) Tryz.f393 0 (A R' B')=some (rI r,[])) rfl ?_ ?_))
 ·rintro s1 R' B' q2 hI h
  refine gS rfl hI<|sF h (fun h=>?_) fun h=>?_
  ·refine sN<|qS<|cT<|qK<|qS<|qB<|gS rfl rfl<|sM rfl<|sA rfl<|sN<|gS rfl rfl<|sM rfl<|sM rfl<|sM rfl<|bE h fun x4 hx4 h=>?_
   refine eG hx4 rfl<|sV (.d (aH.pd x4))<|bE h fun x5 hx5 h=>nS h (fun hb6 h=>?_) (fun hb6 h=>?_)
   ·refine WO.pT (v:=rB true) (u:=[]) rfl rfl (fun _=>rfl) rfl rfl rfl rfl rfl (kQ hx5) rfl rfl (congrArg (fun b=>RV.d (.bool b)) hb6) rfl<|sN<|cT<|gS rfl rfl<|sM rfl<|sA rfl<|sN<|qR ?_
    cases oI h
    exact⟨nofun,rfl,rfl⟩
   refine WO.pT (v:=rB false) (u:=[]) rfl rfl (fun _=>rfl) rfl rfl rfl rfl rfl (kQ hx5) rfl rfl (congrArg (fun b=>RV.d (.bool b)) hb6) rfl<|sN<|cF<|qK<|WC.region rfl rfl<|sV (rI (rW (s1+(1:Int))))<|sM rfl<|sN ?_
   cases oI h
   exact⟨rfl,rfl⟩
  refine sN<|qS<|cF<|qX ?_
  cases oI h
  exact⟨nofun,rfl,rfl⟩
 intro e R' B' he hq
 rcases o8 with y9|r10
 ·obtain⟨rfl,hI⟩:=hq
  refine qE<|gS rfl hI<|sV (rI (-1))<|sN<|qR ?_
  exact oI h▸qD
 obtain⟨rfl,hf⟩:=hq
 cases oI h
 exact hf
theorem ks{a0:(List aH)}{r:Bool}(h:b9 a0=some r):EvP prog aB ext 351 [rM aH.pd a0,.d (.raw (.func (.func 352) #[] #[]))] [] (rB r,[]):=by
 refine Ev.body rfl Tryz.func351 rfl (by kernel_rfl)<|gS rfl rfl<|sU<|sN<|gS rfl rfl<|sM rfl<|sM rfl<|bE h fun x1 hx1 h=>cD (lA hx1)<|sV (rB (decide (x1>=(0:Int))))<|sA rfl<|sN<|qR ?_
 exact oI h▸qD
theorem ro{a0:(List aH)}{r:Int}(h:fB a0=some r):EvP prog aB ext 354 [rM aH.pd a0] [] (rI r,[]):=by
 refine Ev.body rfl Tryz.func354 rfl (by kernel_rfl)<|gS rfl rfl<|sV (r0)<|sN<|gS rfl rfl<|sV (rI 1)<|sN<|qS<|gS rfl rfl<|sM rfl<|sE (rI (a0.length:Int)) (fQ _ _)<|sV (r0)<|sN<|bE h fun o10 ho10 h=>WC.block (WC.loop (WL.hY ho10 (fun s R' B'=>cI prog 0 (A R' B') (aB.at_ 354 0 3)=some (A [(3,rI s.1),(6,rM aH.pd a0),(7,rI (a0.length:Int)),(8,rI s.2)] [])) (fun o e R' B'=>match o with| .inl y=>e= .exit 0∧cI prog 0 (A R' B') (aB.at_ 354 0 10)=some (A [(3,rI y)] [])| .inr r=>e= .ret∧finish prog (aB.own 354) Tryz.f354 0 (A R' B')=some (rI r,[])) rfl ?_ ?_))
 ·rintro⟨s1,s2⟩ R' B' q4 hI h
  refine gS rfl hI<|sF h (fun h=>?_) fun h=>?_
  ·refine sN<|qS<|cT<|qK<|qS<|qB<|gS rfl rfl<|bE h fun x6 hx6 h=>eG hx6 rfl<|sV (.d (aH.pd x6))<|sB (.ptr 80 0) 80 (.var [r0,r0,r0,r0,r0,r0,r0,.dg,r0,r0])<|sH 80 (.var (aH.rc x6))<|sN<|qS<|gS rfl rfl ?_
   refine sV (.ptr 80 0)<|sL rfl<|sF h (fun h=>?_) fun h=>?_
   ·refine sN<|cT<|qX<|qE<|WC.region rfl rfl<|sV (rI (rW (s2+(1:Int))))<|sM rfl<|sN ?_
    cases oI h
    exact⟨rfl,rfl⟩
   refine sN<|cF<|qK<|gS rfl rfl<|sM rfl<|sV (.ptr 80 8)<|sL rfl<|sV (rI (rW (s1*x6.bQ)))<|sA rfl<|sN<|gS rfl rfl<|sM rfl<|sF h (fun h=>?_) fun h=>?_
   ·refine sN<|cT<|gS rfl rfl<|sV (r0)<|sN<|qR ?_
    cases oI h
    exact⟨nofun,rfl,rfl⟩
   refine sN<|cF<|qK<|WC.region rfl rfl<|sV (rI (rW (s2+(1:Int))))<|sM rfl<|sN ?_
   cases oI h
   exact⟨rfl,rfl⟩
  refine sN<|qS<|cF<|qX ?_
  cases oI h
  exact⟨nofun,rfl,rfl⟩
 intro e R' B' he hq
 rcases o10 with y11|r12
 ·obtain⟨rfl,hI⟩:=hq
  refine qE<|gS rfl hI<|sM rfl<|sA rfl<|sN<|qR ?_
  exact oI h▸qD
 obtain⟨rfl,hf⟩:=hq
 cases oI h
 exact hf
theorem nr{a0:aO}{r:Bool}(h:fk a0=some r):EvP prog aB ext 309 [.d (aO.pd a0)] [] (rB r,[]):=by
 refine Ev.body rfl Tryz.func309 rfl (by kernel_rfl)<|gS rfl rfl<|sB (.ptr 16 0) 16 (.var [rM aH.pd a0.bq])<|sU<|sN<|qS<|gS rfl rfl<|sV (.ptr 16 0)<|sL rfl<|sE (rI (a0.bq.length:Int)) (fQ _ _)<|sF h (fun h=>?_) fun h=>?_
 ·refine sM rfl<|k3<|sT<|sN<|cT<|gS rfl rfl<|sU<|sN<|qR ?_
  exact oI h▸qD
 refine sM rfl<|sV (.ptr 16 0)<|sL rfl<|bE h fun x2 hx2 h=>cD (ks hx2)<|sF h (fun h=>?_) fun h=>?_
 ·refine sN<|cT<|gS rfl rfl<|sU<|sN<|qR ?_
  exact oI h▸qD
 refine sN<|cF<|qK<|gS rfl rfl<|sV (.ptr 16 0)<|sL rfl<|bE h fun x4 hx4 h=>cD (ro hx4)<|sV (rB (decide (x4>(0:Int))))<|sA rfl<|sN<|qR ?_
 exact oI h▸qD
theorem jS{a0:Int}{a1:Int}{a2:Int}{r:Bool}(h:du a0 a1 a2=some r):EvP prog aB ext 243 [rI a0,rI a1,rI a2] [] (rB r,[]):=by
 refine Ev.body rfl Tryz.func243 rfl (by kernel_rfl)<|gS rfl rfl<|sU<|sN<|gS rfl rfl<|sM rfl<|sM rfl<|sF h (fun h=>?_) fun h=>?_
 ·refine sM rfl<|sM rfl<|sM rfl<|sV (rB (decide (a0<=a2)))<|sV (rB (decide (a0<=a2)))<|sA rfl<|sN<|qR ?_
  exact oI h▸qD
 refine sM rfl<|k3<|sU<|sA rfl<|sN<|qR ?_
 exact oI h▸qD
theorem nR{a0:aA}{r:Bool}(h:dG a0=some r):EvP prog aB ext 242 [.d (aA.pd a0)] [] (rB r,[]):=by
 refine Ev.body rfl Tryz.func242 rfl (by kernel_rfl)<|gS rfl rfl<|sB (.ptr 16 0) 16 (.var (aA.rc a0))<|sU<|sN<|gS rfl rfl<|sV (.ptr 16 4)<|sV (.d (aa.pd a0.aY))<|sB (.ptr 48 0) 48 (.var [r0,r0,r0])<|sS 48 (.var (aa.rc a0.aY))<|sN<|gS rfl rfl<|sV (.ptr 16 0)<|sL rfl<|sF h (fun h=>?_) fun h=>?_
 ·refine sM rfl<|sV (.ptr 16 0)<|sL rfl<|sV (.ptr 16 1)<|sL rfl<|sV (rB (decide (a0.bA<a0.fTo)))<|sF h (fun h=>?_) fun h=>?_
  ·refine sM rfl<|sV (.ptr 16 1)<|sL rfl<|sV (rB (decide (a0.fTo<=(9007199254740992:Int))))<|sF h (fun h=>?_) fun h=>?_
   ·refine sM rfl<|sV (.ptr 16 2)<|sV (.d (bu.pd a0.dn))<|bE h fun x4 hx4 h=>cD (rate_Valid_ev hx4)<|sF h (fun h=>?_) fun h=>?_
    ·refine sM rfl<|sV (.ptr 16 7)<|sV (.d (aO.pd a0.bC))<|bE h fun x6 hx6 h=>cD (nr hx6)<|sF h (fun h=>?_) fun h=>?_
     ·refine sM rfl<|sV (.ptr 48 0)<|sL rfl<|bE h fun x8 hx8 h=>cD (jS hx8)<|sF h (fun h=>?_) fun h=>?_
      ·refine sM rfl<|sV (.ptr 48 1)<|sL rfl<|bE h fun x10 hx10 h=>cD (jS hx10)<|sF h (fun h=>?_) fun h=>?_
       ·refine sM rfl<|sV (.ptr 48 2)<|sL rfl<|bE h fun x12 hx12 h=>cD (jS hx12)<|sV (rB x12)<|sA rfl<|sN<|qR ?_
        exact oI h▸qD
       refine sM rfl<|k3<|sU<|sA rfl<|sN<|qR ?_
       exact oI h▸qD
      refine sM rfl<|k3<|sU<|sM rfl<|k3<|sU<|sA rfl<|sN<|qR ?_
      exact oI h▸qD
     refine sM rfl<|k3<|sU<|sM rfl<|k3<|sU<|sM rfl<|k3<|sU ?_
     refine sA rfl<|sN<|qR ?_
     exact oI h▸qD
    refine sM rfl<|k3<|sU<|sM rfl<|k3<|sU<|sM rfl<|k3<|sU ?_
    refine sM rfl<|k3<|sU<|sA rfl<|sN<|qR ?_
    exact oI h▸qD
   refine sM rfl<|k3<|sU<|sM rfl<|k3<|sU<|sM rfl<|k3<|sU ?_
   refine sM rfl<|k3<|sU<|sM rfl<|k3<|sU<|sA rfl<|sN<|qR ?_
   exact oI h▸qD
  refine sM rfl<|k3<|sU<|sM rfl<|k3<|sU<|sM rfl<|k3<|sU ?_
  refine sM rfl<|k3<|sU<|sM rfl<|k3<|sU<|sM rfl<|k3<|sU ?_
  refine sA rfl<|sN<|qR ?_
  exact oI h▸qD
 refine sM rfl<|k3<|sK<|sK<|sU<|sM rfl<|k3<|sU<|sM rfl<|sK<|sK ?_
 refine sK<|sU<|sM rfl<|k3<|sU<|sM rfl<|k3<|sU<|sM rfl<|sK<|sK ?_
 refine sK<|sU<|sM rfl<|k3<|sU<|sA rfl<|sN<|qR ?_
 exact oI h▸qD
theorem qi{a0:(List aA)}{r:Bool}(h:fg a0=some r):EvP prog aB ext 156 [rM aA.pd a0] [] (rB r,[]):=by
 refine Ev.body rfl Tryz.func156 rfl (by kernel_rfl)<|gS rfl rfl<|sU<|sN<|qS<|gS rfl rfl<|sM rfl<|sE (rI (a0.length:Int)) (fQ _ _)<|sV (r0)<|sN<|bE h fun o11 ho11 h=>WC.block (WC.loop (WL.hY ho11 (fun s R' B'=>cI prog 0 (A R' B') (aB.at_ 156 0 2)=some (A [(0,rM aA.pd a0),(5,rM aA.pd a0),(6,rI (a0.length:Int)),(7,rI s)] [])) (fun o e R' B'=>match o with| .inl y=>e= .exit 0∧cI prog 0 (A R' B') (aB.at_ 156 0 7)=some (A [(0,rM aA.pd a0)] [])| .inr r=>e= .ret∧finish prog (aB.own 156) Tryz.f156 0 (A R' B')=some (rB r,[])) rfl ?_ ?_))
 ·rintro s1 R' B' q2 hI h
  refine gS rfl hI<|sF h (fun h=>?_) fun h=>?_
  ·refine sN<|qS<|cT<|qK<|qS<|qB<|gS rfl rfl<|sM rfl<|bE h fun x4 hx4 h=>eG hx4 rfl<|sV (.d (aA.pd x4))<|sB (.ptr 64 0) 64 (.var zZ4)<|sA rfl<|sH 64 (.var (aA.rc x4))<|sN ?_
   refine WC.bZ rfl rfl<|sV (.d (aA.pd x4))<|bE h fun x5 hx5 h=>cD (nR hx5)<|sF h (fun h=>?_) fun h=>?_
   ·refine sM rfl<|k3<|k3<|k3<|k3<|sK<|sT ?_
    refine sN<|sO<|cT<|gS rfl rfl<|sU<|sN<|qR ?_
    cases oI h
    exact⟨nofun,rfl,rfl⟩
   refine sM rfl<|sM rfl<|sF h (fun h=>?_) fun h=>?_
   ·refine sM rfl<|sV (.ptr 64 0)<|sL rfl<|sM rfl<|sM rfl<|sV (rI (rW (s1-(1:Int))))<|bE h fun x8 hx8 h=>eG hx8 rfl<|sV (.cptr [.int .i64 x8.fTo,.int .i64 x8.dn.bn,.int .i64 x8.dn.bf,.int .i64 x8.aY.fX,.int .i64 x8.aY.fY,.int .i64 x8.aY.fZ,.lst (x8.bC.bq.map aH.pd)])<|sC rfl<|sV (rB (decide (x4.bA<x8.fTo)))<|sV (rB (decide (x4.bA<x8.fTo)))<|sF h (fun h=>?_) fun h=>?_
    ·refine sN<|sO<|cT<|gS rfl rfl<|sU<|sN<|qR ?_
     cases oI h
     exact⟨nofun,rfl,rfl⟩
    refine sN<|sO<|cF<|qK<|WC.region rfl rfl<|sV (rI (rW (s1+(1:Int))))<|sM rfl<|sN ?_
    cases oI h
    exact⟨rfl,rfl⟩
   refine sM rfl<|k3<|k3<|k3<|sU<|sU ?_
   refine sN<|sO<|cF<|qK<|WC.region rfl rfl<|sV (rI (rW (s1+(1:Int))))<|sM rfl<|sN ?_
   cases oI h
   exact⟨rfl,rfl⟩
  refine sN<|qS<|cF<|qX ?_
  cases oI h
  exact⟨nofun,rfl,rfl⟩
 intro e R' B' he hq
 rcases o11 with y12|r13
 ·obtain⟨rfl,hI⟩:=hq
  refine qE<|gS rfl hI<|sM rfl<|sE (rI (a0.length:Int)) (fQ _ _)<|bE h fun x14 hx14 h=>cD (jS hx14)<|sA rfl<|sN<|qR ?_
  exact oI h▸qD
 obtain⟨rfl,hf⟩:=hq
 cases oI h
 exact hf
theorem mg{a0:(List UInt8)}{r:Bool}(h:gm a0=some r):EvP prog aB ext 306 [rS a0] [] (rB r,[]):=by
 refine Ev.body rfl Tryz.func306 rfl (by kernel_rfl)<|gS rfl rfl<|sU<|sN<|gS rfl rfl<|sM rfl<|sM rfl<|sV (rB (!(a0==a0)))<|sA rfl<|sN<|qR ?_
 exact oI h▸qD
theorem fq{a0:(List UInt8)}{a1:(List UInt8)}{r:Int}(h:bX a0 a1=some r):EvP prog aB ext 239 [rS a0,rS a1] [] (rI r,[]):=by
 refine Ev.body rfl Tryz.func239 rfl (by kernel_rfl)<|gS rfl rfl<|sV (r0)<|sN<|gS rfl rfl<|sM rfl<|bE h fun x1 hx1 h=>cD (mg hx1)<|sA rfl<|sN<|gS rfl rfl<|sM rfl<|bE h fun x2 hx2 h=>cD (mg hx2)<|sA rfl ?_
 refine sN<|qS<|gS rfl rfl<|sF h (fun h=>?_) fun h=>?_
 ·refine sN<|cT<|qS<|gS rfl rfl<|sF h (fun h=>?_) fun h=>?_
  ·refine sN<|cT<|gS rfl rfl<|sV (r0)<|sN<|qR ?_
   exact oI h▸qD
  refine sN<|cF<|qK<|gS rfl rfl<|sV (rI (-1))<|sN<|qR ?_
  exact oI h▸qD
 refine sN<|cF<|qK<|qS<|gS rfl rfl<|sF h (fun h=>?_) fun h=>?_
 ·refine sN<|cT<|gS rfl rfl<|sV (rI 1)<|sN<|qR ?_
  exact oI h▸qD
 refine sN<|cF<|qK<|qS<|gS rfl rfl<|sM rfl<|sM rfl<|sF h (fun h=>?_) fun h=>?_
 ·refine sN<|cT<|gS rfl rfl<|sV (rI (-1))<|sN<|qR ?_
  exact oI h▸qD
 refine sN<|cF<|qK<|qS<|gS rfl rfl<|sM rfl<|sM rfl<|sF h (fun h=>?_) fun h=>?_
 ·refine sN<|cT<|gS rfl rfl<|sV (rI 1)<|sN<|qR ?_
  exact oI h▸qD
 refine sN<|cF<|qK<|gS rfl rfl<|sV (r0)<|sN<|qR ?_
 exact oI h▸qD
theorem io{a0:(List Int)}{r:Int}(h:cB a0=some r):EvP prog aB ext 95 [rL a0] [] (rI r,[]):=by
 refine Ev.body rfl Tryz.func95 rfl (by kernel_rfl)<|gS rfl rfl<|sV (r0)<|sN<|gS rfl rfl<|sV (r0)<|sN<|qS<|gS rfl rfl<|sM rfl<|sE (rI (a0.length:Int)) (fQ _ _)<|sV (r0)<|sN<|bE h fun o7 ho7 h=>WC.block (WC.loop (WL.hY ho7 (fun s R' B'=>cI prog 0 (A R' B') (aB.at_ 95 0 3)=some (A [(3,r0),(6,rL a0),(7,rI (a0.length:Int)),(8,rI s)] [])) (fun o e R' B'=>match o with| .inl y=>e= .exit 0∧cI prog 0 (A R' B') (aB.at_ 95 0 8)=some (A [(3,r0)] [])| .inr r=>e= .ret∧finish prog (aB.own 95) Tryz.f95 0 (A R' B')=some (rI r,[])) rfl ?_ ?_))
 ·rintro s1 R' B' q2 hI h
  refine gS rfl hI<|sF h (fun h=>?_) fun h=>?_
  ·refine sN<|qS<|cT<|qK<|qS<|qB<|gS rfl rfl<|bE h fun x4 hx4 h=>eG hx4 rfl<|sC rfl<|sA rfl<|sN<|gS rfl rfl<|sM rfl<|sM rfl ?_
   refine sF h (fun h=>?_) fun h=>?_
   ·refine sN<|cT<|gS rfl rfl<|sM rfl<|sA rfl<|sN<|qR ?_
    cases oI h
    exact⟨nofun,rfl,rfl⟩
   refine sN<|cF<|qK<|WC.region rfl rfl<|sV (rI (rW (s1+(1:Int))))<|sM rfl<|sN ?_
   cases oI h
   exact⟨rfl,rfl⟩
  refine sN<|qS<|cF<|qX ?_
  cases oI h
  exact⟨nofun,rfl,rfl⟩
 intro e R' B' he hq
 rcases o7 with y8|r9
 ·obtain⟨rfl,hI⟩:=hq
  refine qE<|gS rfl hI<|sM rfl<|sA rfl<|sN<|qR ?_
  exact oI h▸qD
 obtain⟨rfl,hf⟩:=hq
 cases oI h
 exact hf
theorem nu{a0:av}{a1:av}{r:Int}(h:ey a0 a1=some r):EvP prog aB ext 153 [.d (av.pd a0),.d (av.pd a1)] [] (rI r,[]):=by
 refine Ev.body rfl Tryz.func153 rfl (by kernel_rfl)<|gS rfl rfl<|sB (.ptr 32 0) 32 (.var (av.rc a0))<|sB (.ptr 48 0) 48 (.var (av.rc a1))<|sV (r0)<|sN<|WC.bZ rfl rfl<|sV (.ptr 32 0)<|sL rfl<|sV (.ptr 48 0)<|sL rfl<|bE h fun x1 hx1 h=>cD (fq hx1)<|sV (.ptr 32 1)<|sL rfl ?_
 refine sV (.ptr 48 1)<|sL rfl<|bE h fun x2 hx2 h=>cD (fq hx2)<|sV (.ptr 32 2)<|sL rfl<|sV (.ptr 48 2)<|sL rfl<|bE h fun x3 hx3 h=>cD (fq hx3)<|sV (.ptr 32 3)<|sL rfl<|sV (.ptr 48 3)<|sL rfl<|bE h fun x4 hx4 h=>?_
 refine cD (fq hx4)<|sV (.d (.lst ([x1,x2,x3,x4].map (PD.int .i64))))<|bE h fun x5 hx5 h=>cD (io hx5)<|sA rfl ?_
 refine sN<|sO<|qR ?_
 exact oI h▸qD
theorem gO{a0:ap}{r:Bool}(h:c9 a0=some r):EvP prog aB ext 83 [.d (ap.pd a0)] [] (rB r,[]):=by
 refine Ev.body rfl Tryz.func83 rfl (by kernel_rfl)<|gS rfl rfl<|sB (.ptr 16 0) 16 (.var [rM aq.pd a0.aI])<|sU<|sN<|qS<|gS rfl rfl<|sV (.ptr 16 0)<|sL rfl<|sE (rI (a0.aI.length:Int)) (fQ _ _)<|sV (r0)<|sN<|bE h fun o14 ho14 h=>WC.block (WC.loop (WL.hY ho14 (fun s R' B'=>cI prog 0 (A R' B') (aB.at_ 83 0 2)=some (A [(1,.ptr 16 0),(6,rM aq.pd a0.aI),(7,rI (a0.aI.length:Int)),(8,rI s)] [(16,.var [rM aq.pd a0.aI])])) (fun o e R' B'=>match o with| .inl y=>e= .exit 0∧cI prog 0 (A R' B') (aB.at_ 83 0 7)=some (A [(1,.ptr 16 0)] [(16,.var [rM aq.pd a0.aI])])| .inr r=>e= .ret∧finish prog (aB.own 83) Tryz.f83 0 (A R' B')=some (rB r,[])) rfl ?_ ?_))
 ·rintro s1 R' B' q2 hI h
  refine gS rfl hI<|sF h (fun h=>?_) fun h=>?_
  ·refine sN<|qS<|cT<|qK<|qS<|qB<|gS rfl rfl<|sM rfl<|bE h fun x4 hx4 h=>eG hx4 rfl<|sV (.d (aq.pd x4))<|sB (.ptr 64 0) 64 (.var [rS [],rS [],rS [],rS [],.dg])<|sA rfl<|sS 64 (.var (aq.rc x4))<|sN ?_
   refine WC.bZ rfl rfl<|sV (.ptr 64 0)<|sV (.d (av.pd x4.aC))<|bE h fun x5 hx5 h=>cD (md hx5)<|sF h (fun h=>?_) fun h=>?_
   ·refine sM rfl<|k3<|sK<|sT<|sM rfl<|k3<|k3<|sK<|sK ?_
    refine k3<|k3<|sK<|sT ?_
    refine sN<|sO<|cT<|gS rfl rfl<|sU<|sN<|qR ?_
    cases oI h
    exact⟨nofun,rfl,rfl⟩
   refine sM rfl<|sV (.ptr 64 4)<|sL rfl<|bE h fun x7 hx7 h=>cD (qi hx7)<|sV (rB (!x7))<|sF h (fun h=>?_) fun h=>?_
   ·refine sM rfl<|k3<|k3<|k3<|k3<|sK<|sK ?_
    refine sK<|sT ?_
    refine sN<|sO<|cT<|gS rfl rfl<|sU<|sN<|qR ?_
    cases oI h
    exact⟨nofun,rfl,rfl⟩
   refine sM rfl<|sM rfl<|sF h (fun h=>?_) fun h=>?_
   ·refine sM rfl<|sV (.ptr 16 0)<|sL rfl<|sM rfl<|sV (rI (rW (s1-(1:Int))))<|bE h fun x10 hx10 h=>eG hx10 rfl<|sV (.cptr [.str x10.aC.aZ,.str x10.aC.aM,.str x10.aC.aj,.str x10.aC.a7,.lst (x10.bz.map aA.pd)])<|sV (.d (av.pd x10.aC))<|sV (.ptr 64 0)<|sV (.d (av.pd x4.aC))<|bE h fun x11 hx11 h=>cD (nu hx11)<|sV (rB (decide (x11>=(0:Int))))<|sV (rB (decide (x11>=(0:Int)))) ?_
    refine sF h (fun h=>?_) fun h=>?_
    ·refine sN<|sO<|cT<|gS rfl rfl<|sU<|sN<|qR ?_
     cases oI h
     exact⟨nofun,rfl,rfl⟩
    refine sN<|sO<|cF<|qK<|WC.region rfl rfl<|sV (rI (rW (s1+(1:Int))))<|sM rfl<|sN ?_
    cases oI h
    exact⟨rfl,rfl⟩
   refine sM rfl<|k3<|k3<|k3<|sK<|sK<|sU<|sU ?_
   refine sN<|sO<|cF<|qK<|WC.region rfl rfl<|sV (rI (rW (s1+(1:Int))))<|sM rfl<|sN ?_
   cases oI h
   exact⟨rfl,rfl⟩
  refine sN<|qS<|cF<|qX ?_
  cases oI h
  exact⟨nofun,rfl,rfl⟩
 intro e R' B' he hq
 rcases o14 with y15|r16
 ·obtain⟨rfl,hI⟩:=hq
  refine qE<|gS rfl hI<|sV (.ptr 16 0)<|sL rfl<|sE (rI (a0.aI.length:Int)) (fQ _ _)<|sV (rB (decide ((a0.aI.length:Int)<=(128:Int))))<|sA rfl<|sN<|qR ?_
  exact oI h▸qD
 obtain⟨rfl,hf⟩:=hq
 cases oI h
 exact hf
theorem gl{a0:Int}{r:Bool}(h:d9 a0=some r):EvP prog aB ext 170 [rI a0] [] (rB r,[]):=by
 refine Ev.body rfl Tryz.func170 rfl (by kernel_rfl)<|gS rfl rfl<|sU<|sN<|gS rfl rfl<|sM rfl<|sM rfl<|sV (rB (a0 != a0))<|sA rfl<|sN<|qR ?_
 exact oI h▸qD
theorem bN{a0:Int}{a1:Int}{r:Int}(h:bM a0 a1=some r):EvP prog aB ext 96 [rI a0,rI a1] [] (rI r,[]):=by
 refine Ev.body rfl Tryz.func96 rfl (by kernel_rfl)<|gS rfl rfl<|sV (r0)<|sN<|gS rfl rfl<|sM rfl<|bE h fun x1 hx1 h=>cD (gl hx1)<|sA rfl<|sN<|gS rfl rfl<|sM rfl<|bE h fun x2 hx2 h=>cD (gl hx2)<|sA rfl ?_
 refine sN<|qS<|gS rfl rfl<|sF h (fun h=>?_) fun h=>?_
 ·refine sN<|cT<|qS<|gS rfl rfl<|sF h (fun h=>?_) fun h=>?_
  ·refine sN<|cT<|gS rfl rfl<|sV (r0)<|sN<|qR ?_
   exact oI h▸qD
  refine sN<|cF<|qK<|gS rfl rfl<|sV (rI (-1))<|sN<|qR ?_
  exact oI h▸qD
 refine sN<|cF<|qK<|qS<|gS rfl rfl<|sF h (fun h=>?_) fun h=>?_
 ·refine sN<|cT<|gS rfl rfl<|sV (rI 1)<|sN<|qR ?_
  exact oI h▸qD
 refine sN<|cF<|qK<|qS<|gS rfl rfl<|sM rfl<|sM rfl<|sF h (fun h=>?_) fun h=>?_
 ·refine sN<|cT<|gS rfl rfl<|sV (rI (-1))<|sN<|qR ?_
  exact oI h▸qD
 refine sN<|cF<|qK<|qS<|gS rfl rfl<|sM rfl<|sM rfl<|sF h (fun h=>?_) fun h=>?_
 ·refine sN<|cT<|gS rfl rfl<|sV (rI 1)<|sN<|qR ?_
  exact oI h▸qD
 refine sN<|cF<|qK<|gS rfl rfl<|sV (r0)<|sN<|qR ?_
 exact oI h▸qD
theorem nl{a0:ac}{a1:ac}{r:Int}(h:ca a0 a1=some r):EvP prog aB ext 80 [.d (ac.pd a0),.d (ac.pd a1)] [] (rI r,[]):=by
 refine Ev.body rfl Tryz.func80 rfl (by kernel_rfl)<|gS rfl rfl<|sB (.ptr 32 0) 32 (.var (ac.rc a0))<|sB (.ptr 48 0) 48 (.var (ac.rc a1))<|sV (r0)<|sN<|WC.bZ rfl rfl<|sV (.ptr 32 0)<|sV (.d (av.pd a0.aC))<|sV (.ptr 48 0)<|sV (.d (av.pd a1.aC))<|bE h fun x1 hx1 h=>cD (nu hx1)<|sV (.ptr 32 4)<|sL rfl ?_
 refine sV (.ptr 48 4)<|sL rfl<|bE h fun x2 hx2 h=>cD (bN hx2)<|sV (.ptr 32 5)<|sL rfl<|sV (.ptr 48 5)<|sL rfl<|bE h fun x3 hx3 h=>cD (bN hx3)<|sV (.ptr 32 6)<|sL rfl<|sV (.ptr 48 6)<|sL rfl<|bE h fun x4 hx4 h=>?_
 refine cD (bN hx4)<|sV (.ptr 32 7)<|sL rfl<|sV (.ptr 48 7)<|sL rfl<|bE h fun x5 hx5 h=>cD (bN hx5)<|sV (.ptr 32 8)<|sL rfl<|sV (.ptr 48 8)<|sL rfl<|bE h fun x6 hx6 h=>cD (bN hx6)<|sV (.d (.lst ([x1,x2,x3,x4,x5,x6].map (PD.int .i64))))<|bE h fun x7 hx7 h=>?_
 refine cD (io hx7)<|sA rfl ?_
 refine sN<|sO<|qR ?_
 cases oI h
 exact qG
theorem oM{d0:(List ac)}{r:(List ac)}(h:eQ d0=some r):EvP prog aB ext 183 [.ref 0 0] [.arr 0 66 (d0.map ac.pd)] (rM ac.pd r,[.dead]):=by
 refine Ev.body rfl Tryz.func183 rfl (by kernel_rfl)<|gS rfl rfl<|sV .dg<|sN<|qS<|gS rfl rfl<|sM rfl<|WO.tZ rfl rfl rfl rfl rfl rfl rfl rfl rfl<|sF h (fun h=>?_) fun h=>?_
 ·refine sN<|cT<|gS rfl rfl<|sM rfl<|sA rfl<|sN<|qR ?_
  exact oI h▸qD
 refine sN<|cF<|qK<|qS<|gS rfl rfl<|sV (rI 1)<|sN<|bE h fun o39 ho39 h=>WC.block (WC.loop (WL.hY ho39 (fun s R' B'=>cI prog 1 (A R' B') (aB.at_ 183 1 4)=some (A [(0,.ref 0 0),(3,rI s)] [(0,.arr 0 66 (d0.map ac.pd))])) (fun o e R' B'=>match o with| .inl y=>e= .exit 0∧cI prog 1 (A R' B') (aB.at_ 183 1 16)=some (A [(0,.ref 0 0)] [(0,.arr 0 66 (d0.map ac.pd))])| .inr r=>e= .ret∧finish prog (aB.own 183) Tryz.f183 1 (A R' B')=some (rM ac.pd r,[.dead])) rfl ?_ ?_))
 ·rintro s2 R' B' q3 hI h
  refine qS<|gS rfl hI<|sM rfl<|sM rfl<|WO.tZ rfl rfl rfl rfl rfl rfl rfl rfl rfl<|sF h (fun h=>?_) fun h=>?_
  ·refine sN<|cT<|qK<|qS<|qB<|WC.bZ rfl rfl<|sM rfl<|sM rfl<|bE h fun x6 hx6 h=>WO.pO hx6 rfl rfl rfl rfl rfl rfl rfl rfl<|bE h fun x7 hx7 h=>WO.pz hx7 rfl rfl rfl rfl rfl rfl<|sM rfl<|sM rfl<|sV (rI (rW (s2-(1:Int)))) ?_
   refine bE h fun x9 hx9 h=>WO.pO hx9 rfl rfl rfl rfl rfl rfl rfl rfl<|bE h fun x10 hx10 h=>WO.pz hx10 rfl rfl rfl rfl rfl rfl<|nS h (fun hb11 h=>?_) (fun hb11 h=>?_)
   ·refine WO.vN (ou x7 x10) hb11 rfl rfl rfl rfl rfl ?_
    refine sN<|sO<|cT<|gS rfl rfl<|sM rfl<|sM rfl<|bE h fun x12 hx12 h=>WO.subR hx12 rfl rfl rfl rfl rfl rfl rfl rfl rfl rfl rfl rfl<|sA rfl<|sN<|qS<|gS rfl rfl<|sV (rI 1)<|sN<|bE h fun o32 ho32 h=>WC.block (WC.loop (WL.hY ho32 (fun s R' B'=>cI prog 1 (A R' B') (aB.at_ 183 1 9)=some (A [(0,.ref 0 0),(3,rI s.1),(4,.view 0 0 (0+(s2:Int).toNat) (0+((d0.length:Int):Int).toNat)),(5,rI s.2.1)] [(0,.arr 0 66 (s.2.2.map ac.pd))])) (fun o e R' B'=>e= .exit 2∧cI prog 1 (A R' B') (aB.at_ 183 1 14)=some (A [(0,.ref 0 0),(3,rI o.1)] [(0,.arr 0 66 (o.2.map ac.pd))])) rfl ?_ ?_))
    ·rintro⟨s13,s14,s15⟩ R' B' q18 hI h
     unfold gB at h
     refine qS<|gS rfl hI<|sM rfl<|sM rfl<|bE h fun x19 hx19 h=>WO.lenVw hx19 rfl rfl rfl rfl rfl rfl rfl rfl rfl<|sF h (fun h=>?_) fun h=>?_
     ·refine sN<|cT<|qK<|qS<|qB<|WC.bZ rfl rfl<|sM rfl<|sM rfl<|bE h fun x21 hx21 h=>WO.eltV hx21 rfl rfl rfl rfl rfl rfl rfl rfl<|bE h fun x22 hx22 h=>WO.pz hx22 rfl rfl rfl rfl rfl rfl<|sM rfl<|sM rfl<|sV (rI (rW (s14-(1:Int)))) ?_
      refine bE h fun x23 hx23 h=>WO.eltV hx23 rfl rfl rfl rfl rfl rfl rfl rfl<|bE h fun x24 hx24 h=>WO.pz hx24 rfl rfl rfl rfl rfl rfl<|nS h (fun hb25 h=>?_) (fun hb25 h=>?_)
      ·refine WO.vN (qL x22 x24) hb25 rfl rfl rfl rfl rfl ?_
       refine sN<|sO<|cT<|gS rfl rfl<|sM rfl<|sM rfl<|sM rfl<|sM rfl<|bE h fun x26 hx26 h=>WO.eltV hx26 rfl rfl rfl rfl rfl rfl rfl rfl<|bE h fun x27 hx27 h=>WO.pz hx27 rfl rfl rfl rfl rfl rfl<|bE h fun x29 hx29 h=>WO.pO hx29 rfl rfl rfl rfl rfl rfl rfl rfl<|bE h fun x30 hx30 h=>WO.rR (g:=ac.pd) (sz:=9) (p:=ac.pd x27) hx30 (by intro _;kernel_rfl) (by intro _;kernel_rfl) rfl rfl rfl rfl rfl rfl rfl rfl rfl ?_
       refine sN<|WC.region rfl rfl<|sM rfl<|sV (rI (rW (s13+(1:Int))))<|sA rfl<|sN<|WC.region rfl rfl<|sM rfl<|sV (rI (rW (s14+(1:Int))))<|sA rfl<|sN ?_
       cases oI h
       exact⟨rfl,rfl⟩
      refine WO.vN (qL x22 x24) hb25 rfl rfl rfl rfl rfl ?_
      refine sN<|sO<|cF<|qK<|WC.region rfl rfl<|sM rfl<|sV (rI (rW (s14+(1:Int))))<|sA rfl<|sN ?_
      cases oI h
      exact⟨rfl,rfl⟩
     refine sN<|cF<|qX ?_
     cases oI h
     exact⟨nofun,rfl,rfl⟩
    intro e R' B' he hq
    obtain⟨rfl,hI⟩:=hq
    refine qE<|gS rfl hI<|sM rfl<|sM rfl<|bE h fun x33 hx33 h=>WO.subR hx33 rfl rfl rfl rfl rfl rfl rfl rfl rfl rfl rfl rfl<|bE h fun x34 hx34 h=>WO.clearN (z:=(ac.mk (av.mk [] [] [] []) 0 0 0 0 0)) (g:=ac.pd) rfl rfl rfl rfl rfl rfl rfl (dst_view hx34 rfl) rfl rfl rfl rfl<|sN<|gS rfl rfl<|sM rfl<|sM rfl<|bE h fun x36 hx36 h=>WO.subR hx36 rfl rfl rfl rfl rfl rfl rfl rfl rfl rfl rfl rfl<|sA rfl ?_
    refine sN<|qR<|bE h fun x37 hx37 h=>?_
    cases oI h
    exact⟨nofun,rfl,(AY hx37 rfl rfl rfl rfl rfl)⟩
   refine WO.vN (ou x7 x10) hb11 rfl rfl rfl rfl rfl ?_
   refine sN<|sO<|cF<|qK<|WC.region rfl rfl<|sM rfl<|sV (rI (rW (s2+(1:Int))))<|sA rfl<|sN ?_
   cases oI h
   exact⟨rfl,rfl⟩
  refine sN<|cF<|qX ?_
  cases oI h
  exact⟨nofun,rfl,rfl⟩
 intro e R' B' he hq
 rcases o39 with y40|r41
 ·obtain⟨rfl,hI⟩:=hq
  refine qE<|gS rfl hI<|sM rfl<|sA rfl<|sN<|qR ?_
  exact oI h▸qD
 obtain⟨rfl,hf⟩:=hq
 cases oI h
 exact hf
theorem pL{a0:(List ac)}{r:(List ac)}(h:dH a0=some r):EvP prog aB ext 106 [rM ac.pd a0] [] (rM ac.pd r,[]):=by
 refine Ev.body rfl Tryz.func106 rfl (by kernel_rfl)<|gS rfl rfl<|sV .dg<|sN<|gS rfl rfl<|sM rfl<|bE h fun x1 hx1 h=>cR (.ref 80 0) [(80,.arr 0 66 (x1.map ac.pd))] (clone_182 hx1)<|sA rfl<|sN<|gS rfl rfl<|sM rfl<|bE h fun x2 hx2 h=>cR (.tup []) [(80,.arr 0 66 (x2.map ac.pd))] (sort_79_80 hx2)<|sN ?_
 refine gS rfl rfl<|sM rfl<|bE h fun x3 hx3 h=>cR (rM ac.pd x3) [(80,.dead)] (oM hx3)<|sA rfl<|sN<|qR ?_
 exact oI h▸qD
theorem rP{a0:Int}{a1:Int}{a2:Int}{r:Bool}(h:jq a0 a1 a2=some r):EvP prog aB ext 244 [rI a0,rI a1,rI a2] [] (rB r,[]):=by
 refine Ev.body rfl Tryz.func244 rfl (by kernel_rfl)<|gS rfl rfl<|sU<|sN<|gS rfl rfl<|sM rfl<|sM rfl<|sF h (fun h=>?_) fun h=>?_
 ·refine sM rfl<|sM rfl<|sM rfl<|sV (rB (decide (a0<=a2)))<|sV (rB (decide (a0<=a2)))<|sA rfl<|sN<|qR ?_
  exact oI h▸qD
 refine sM rfl<|k3<|sU<|sA rfl<|sN<|qR ?_
 exact oI h▸qD
theorem qp{a0:ac}{r:Bool}(h:fh a0=some r):EvP prog aB ext 157 [.d (ac.pd a0)] [] (rB r,[]):=by
 refine Ev.body rfl Tryz.func157 rfl (by kernel_rfl)<|gS rfl rfl<|sB (.ptr 16 0) 16 (.var (ac.rc a0))<|sU<|sN<|gS rfl rfl<|sV (.ptr 16 0)<|sV (.d (av.pd a0.aC))<|bE h fun x1 hx1 h=>nS h (fun hb2 h=>?_) (fun hb2 h=>?_)
 ·refine WO.pT (v:=rB true) (u:=[]) rfl rfl (fun _=>rfl) rfl rfl rfl rfl rfl (md hx1) rfl rfl (congrArg (fun b=>RV.d (.bool b)) hb2) rfl<|sM rfl<|sV (.ptr 16 5)<|sL rfl<|sV (rB (decide (a0.aP>=(0:Int))))<|sF h (fun h=>?_) fun h=>?_
  ·refine sM rfl<|sV (.ptr 16 5)<|sL rfl<|sV (.ptr 16 4)<|sL rfl<|sV (rB (decide (a0.aP<=a0.a8)))<|sF h (fun h=>?_) fun h=>?_
   ·refine sM rfl<|sV (.ptr 16 4)<|sL rfl<|sV (.ptr 16 6)<|sL rfl<|sV (rB (decide (a0.a8<=a0.bi)))<|sF h (fun h=>?_) fun h=>?_
    ·refine sM rfl<|sV (.ptr 16 6)<|sL rfl<|sV (rB (decide (a0.bi<=(18014398509481984:Int))))<|sF h (fun h=>?_) fun h=>?_
     ·refine sM rfl<|sV (.ptr 16 7)<|sL rfl<|bE h fun x7 hx7 h=>cD (rP hx7)<|sF h (fun h=>?_) fun h=>?_
      ·refine sM rfl<|sV (.ptr 16 8)<|sL rfl<|bE h fun x9 hx9 h=>cD (rP hx9)<|sV (rB x9)<|sA rfl<|sN<|qR ?_
       cases oI h
       exact qG
      refine sM rfl<|k3<|sU<|sA rfl<|sN<|qR ?_
      cases oI h
      exact qG
     refine sM rfl<|k3<|sU<|sM rfl<|k3<|sU<|sA rfl<|sN<|qR ?_
     cases oI h
     exact qG
    refine sM rfl<|k3<|sU<|sM rfl<|k3<|sU<|sM rfl<|k3<|sU ?_
    refine sA rfl<|sN<|qR ?_
    cases oI h
    exact qG
   refine sM rfl<|k3<|sK<|sK<|sU<|sM rfl<|k3<|sU<|sM rfl<|sK<|sK ?_
   refine sK<|sU<|sM rfl<|k3<|sU<|sA rfl<|sN<|qR ?_
   cases oI h
   exact qG
  refine sM rfl<|k3<|sK<|sK<|sU<|sM rfl<|k3<|sK<|sK<|sU<|sM rfl ?_
  refine k3<|sU<|sM rfl<|k3<|sU<|sM rfl<|k3<|sU<|sA rfl ?_
  refine sN<|qR ?_
  cases oI h
  exact qG
 refine WO.pT (v:=rB false) (u:=[]) rfl rfl (fun _=>rfl) rfl rfl rfl rfl rfl (md hx1) rfl rfl (congrArg (fun b=>RV.d (.bool b)) hb2) rfl<|sM rfl<|k3<|sU<|sM rfl<|k3<|sK<|sK<|sU<|sM rfl<|sK ?_
 refine k3<|sK<|sU<|sM rfl<|k3<|sU<|sM rfl<|k3<|sU ?_
 refine sM rfl<|k3<|sU<|sA rfl<|sN<|qR ?_
 cases oI h
 exact qG
theorem ow{a0:aA}{r:aA}(h:dT a0=some r):EvP prog aB ext 326 [.d (aA.pd a0)] [] (.d (aA.pd r),[]):=by
 refine Ev.body rfl Tryz.func326 rfl (by kernel_rfl)<|gS rfl rfl<|sB (.ptr 16 0) 16 (.var (aA.rc a0))<|sB (.ptr 32 0) 32 (.var zZ4)<|sN<|gS rfl rfl<|sV (.ptr 16 7)<|sV (.ptr 16 7)<|sL rfl<|bE h fun x1 hx1 h=>cR (.ref 112 0) [(112,.arr 0 184 (x1.map aH.pd))] (clone_364 hx1)<|sV (.ptr 16 7)<|sV (.ptr 16 7)<|sS 16 (.var (rI a0.bA::rI a0.fTo::rI a0.dn.bn::rI a0.dn.bf::aa.rc a0.aY++[.ref 112 0]))<|sN ?_
 refine qS<|gS rfl rfl<|sV (.ptr 16 7)<|sV (.ptr 16 7)<|sL rfl<|WO.tZ rfl rfl rfl rfl rfl rfl rfl rfl rfl<|sV (r0)<|sN<|bE h fun o16 ho16 h=>WC.block (WC.loop (WL.hY ho16 (fun s R' B'=>cI prog 0 (A R' B') (aB.at_ 326 0 3)=some (A [(1,.ptr 16 0),(2,.ptr 32 0),(13,rI (x1.length:Int)),(14,rI s.1)] [(16,.var (rI a0.bA::rI a0.fTo::rI a0.dn.bn::rI a0.dn.bf::aa.rc a0.aY++[.ref 112 0])),(32,.var zZ4),(112,.arr 0 184 (s.2.map aH.pd))])) (fun o e R' B'=>e= .exit 0∧cI prog 0 (A R' B') (aB.at_ 326 0 7)=some (A [(1,.ptr 16 0),(2,.ptr 32 0)] [(16,.var (rI a0.bA::rI a0.fTo::rI a0.dn.bn::rI a0.dn.bf::aa.rc a0.aY++[.ref 112 0])),(32,.var zZ4),(112,.arr 0 184 (o.map aH.pd))])) rfl ?_ ?_))
 ·rintro⟨s2,s3⟩ R' B' q5 hI h
  refine gS rfl hI<|sF h (fun h=>?_) fun h=>?_
  ·refine sN<|qS<|cT<|qK<|qS<|qB<|gS rfl rfl<|sM rfl<|sA rfl<|sN<|WC.oH rfl rfl<|sV (.ptr 16 7)<|sV (.ptr 16 7)<|sL rfl<|sM rfl ?_
   refine sV (.ptr 16 7)<|sV (.ptr 16 7)<|sL rfl<|sM rfl<|bE h fun x8 hx8 h=>WO.pO hx8 rfl rfl rfl rfl rfl rfl rfl rfl<|sV (.elt 112 0 (s2).toNat 7)<|bE h fun x9 hx9 h=>WO.pz hx9 rfl rfl rfl rfl rfl rfl<|bE h fun x10 hx10 h=>cR (.ref 448 0) [(448,.arr 0 3 (x10.map (PD.int .i64)))] (clone_107 hx10)<|bE h fun x12 hx12 h=>WO.pO hx12 rfl rfl rfl rfl rfl rfl rfl rfl<|sV (.elt 112 0 (s2).toNat 7)<|bE h fun x13 hx13 h=>?_
   refine WO.BQ (g:=aH.pd) (u:=[(448,.dead)]) (sz:=1) hx13 (fun _=>rfl) (fun _=>Nat.le_of_ble_eq_true rfl) rfl rfl rfl rfl rfl rfl rfl rfl rfl rfl rfl ?_
   refine sN<|sO<|WC.region rfl rfl<|sV (rI (rW (s2+(1:Int))))<|sM rfl<|sN ?_
   cases oI h
   exact⟨rfl,rfl⟩
  refine sN<|qS<|cF<|qX ?_
  cases oI h
  exact⟨nofun,rfl,rfl⟩
 intro e R' B' he hq
 obtain⟨rfl,hI⟩:=hq
 refine qE<|gS rfl hI<|sV (.agg (rI a0.bA::rI a0.fTo::rI a0.dn.bn::rI a0.dn.bf::aa.rc a0.aY++[.ref 112 0]))<|sH 32 (.var (rI a0.bA::rI a0.fTo::rI a0.dn.bn::rI a0.dn.bf::aa.rc a0.aY++[.ref 112 0]))<|sN<|qR ?_
 cases oI h
 exact qG
theorem qh{a0:aq}{r:aq}(h:ff a0=some r):EvP prog aB ext 257 [.d (aq.pd a0)] [] (.agg (av.rc r.aC++[.ref 0 0]),[.arr 0 113 (r.bz.map aA.pd)]):=by
 refine Ev.body rfl Tryz.func257 rfl (by kernel_rfl)<|gS rfl rfl<|sB (.ptr 16 0) 16 (.var (aq.rc a0))<|sB (.ptr 32 0) 32 (.var [rS [],rS [],rS [],rS [],.dg])<|sN<|gS rfl rfl<|sV (.ptr 16 4)<|sL rfl<|bE h fun x1 hx1 h=>cR (.ref 112 0) [(112,.arr 0 113 (x1.map aA.pd))] (clone_325 hx1)<|sV (.ptr 16 4)<|sS 16 (.var (av.rc a0.aC++[.ref 112 0]))<|sN<|qS<|gS rfl rfl ?_
 refine sV (.ptr 16 4)<|sL rfl<|WO.tZ rfl rfl rfl rfl rfl rfl rfl rfl rfl<|sV (r0)<|sN<|bE h fun o15 ho15 h=>WC.block (WC.loop (WL.hY ho15 (fun s R' B'=>cI prog 0 (A R' B') (aB.at_ 257 0 3)=some (A [(1,.ptr 16 0),(2,.ptr 32 0),(10,.ref 112 0),(11,rI (x1.length:Int)),(12,rI s.1)] [(16,.var (av.rc a0.aC++[.ref 112 0])),(32,.var [rS [],rS [],rS [],rS [],.dg]),(112,.arr 0 113 (s.2.map aA.pd))])) (fun o e R' B'=>e= .exit 0∧cI prog 0 (A R' B') (aB.at_ 257 0 7)=some (A [(1,.ptr 16 0),(2,.ptr 32 0)] [(16,.var (av.rc a0.aC++[.ref 112 0])),(32,.var [rS [],rS [],rS [],rS [],.dg]),(112,.arr 0 113 (o.map aA.pd))])) rfl ?_ ?_))
 ·rintro⟨s2,s3⟩ R' B' q5 hI h
  refine gS rfl hI<|sF h (fun h=>?_) fun h=>?_
  ·refine sN<|qS<|cT<|qK<|qS<|qB<|gS rfl rfl<|sM rfl<|bE h fun x8 hx8 h=>WO.pO hx8 rfl rfl rfl rfl rfl rfl rfl rfl<|bE h fun x9 hx9 h=>WO.pz hx9 rfl rfl rfl rfl rfl rfl<|sB (.ptr 64 0) 64 (.var zZ4)<|sA rfl<|sH 64 (.var (aA.rc x9)) ?_
   refine sN<|WC.oH rfl rfl<|sV (.ptr 16 4)<|sL rfl<|sM rfl<|sV (.d (aA.pd x9))<|bE h fun x10 hx10 h=>cD (ow hx10)<|bE h fun x12 hx12 h=>WO.pO hx12 rfl rfl rfl rfl rfl rfl rfl rfl<|bE h fun x13 hx13 h=>WO.rR (g:=aA.pd) (sz:=8) (p:=aA.pd x10) hx13 (by intro _;kernel_rfl) (by intro _;kernel_rfl) rfl rfl rfl rfl rfl rfl rfl rfl rfl ?_
   refine sN<|sO<|WC.region rfl rfl<|sV (rI (rW (s2+(1:Int))))<|sM rfl<|sN ?_
   cases oI h
   exact⟨rfl,rfl⟩
  refine sN<|qS<|cF<|qX ?_
  cases oI h
  exact⟨nofun,rfl,rfl⟩
 intro e R' B' he hq
 obtain⟨rfl,hI⟩:=hq
 refine qE<|gS rfl hI<|sV (.agg (av.rc a0.aC++[.ref 112 0]))<|sS 32 (.var (av.rc a0.aC++[.ref 112 0]))<|sN<|qR ?_
 exact oI h▸qD
theorem rG{a0:ap}{a1:av}{r:aq×Bool}(h:gq a0 a1=some r):EvP prog aB ext 175 [.d (ap.pd a0),.d (av.pd a1)] [] (.tup [.d (aq.pd r.1),rB r.2],[]):=by
 refine Ev.body rfl Tryz.func175 rfl (by kernel_rfl)<|gS rfl rfl<|sB (.ptr 32 0) 32 (.var [rM aq.pd a0.aI])<|sB (.ptr 48 0) 48 (.var (av.rc a1))<|sB (.ptr 64 0) 64 (.var [rS [],rS [],rS [],rS [],.dg])<|sU<|sN<|qS<|gS rfl rfl<|sV (.ptr 32 0)<|sL rfl<|sE (rI (a0.aI.length:Int)) (fQ _ _)<|sV (r0)<|sN<|bE h fun o8 ho8 h=>?_
 refine WC.block (WC.loop (WL.hY ho8 (fun s R' B'=>cI prog 0 (A R' B') (aB.at_ 175 0 2)=some (A [(3,.ptr 48 0),(4,.ptr 64 0),(9,rM aq.pd a0.aI),(10,rI (a0.aI.length:Int)),(11,rI s)] [(48,.var (av.rc a1)),(64,.var [rS [],rS [],rS [],rS [],.dg])])) (fun o e R' B'=>match o with| .inl y=>e= .exit 0∧cI prog 0 (A R' B') (aB.at_ 175 0 7)=some (A [(4,.ptr 64 0)] [(64,.var [rS [],rS [],rS [],rS [],.dg])])| .inr r=>e= .ret∧finish prog (aB.own 175) Tryz.f175 0 (A R' B')=some (.tup [.d (aq.pd r.1),rB r.2],[])) rfl ?_ ?_))
 ·rintro s1 R' B' q2 hI h
  refine gS rfl hI<|sF h (fun h=>?_) fun h=>?_
  ·refine sN<|qS<|cT<|qK<|qS<|qB<|gS rfl rfl<|bE h fun x4 hx4 h=>eG hx4 rfl<|sV (.d (aq.pd x4))<|sB (.ptr 112 0) 112 (.var [rS [],rS [],rS [],rS [],.dg])<|sS 112 (.var (aq.rc x4))<|sN<|gS rfl rfl<|sV (.ptr 112 0) ?_
   refine sV (.d (av.pd x4.aC))<|sV (.d (av.pd a1))<|nS h (fun hb5 h=>?_) (fun hb5 h=>?_)
   ·refine WO.vN (pf x4.aC a1) hb5 rfl rfl rfl rfl rfl<|sN<|cT<|gS rfl rfl<|sV (.d (aq.pd x4))<|bE h fun x6 hx6 h=>cR (.agg (av.rc x6.aC++[.ref 320 0])) [(320,.arr 0 113 (x6.bz.map aA.pd))] (qh hx6)<|sS 64 (.var (av.rc x6.aC++[.ref 320 0]))<|sT<|sN<|qR ?_
    cases oI h
    exact⟨nofun,rfl,rfl⟩
   refine WO.vN (pf x4.aC a1) hb5 rfl rfl rfl rfl rfl<|sN<|cF<|qK<|WC.region rfl rfl<|sV (rI (rW (s1+(1:Int))))<|sM rfl<|sN ?_
   cases oI h
   exact⟨rfl,rfl⟩
  refine sN<|qS<|cF<|qX ?_
  cases oI h
  exact⟨nofun,rfl,rfl⟩
 intro e R' B' he hq
 rcases o8 with y9|r10
 ·obtain⟨rfl,hI⟩:=hq
  refine qE<|gS rfl hI<|sV (.agg [rS [],rS [],rS [],rS [],.dg])<|sS 64 (.var [rS [],rS [],rS [],rS [],.dg])<|sU<|sN<|qR ?_
  exact oI h▸qD
 obtain⟨rfl,hf⟩:=hq
 cases oI h
 exact hf
theorem inventory_at_ev{a0:aq}{a1:Int}{r:aA×Bool}(h:jm a0 a1=some r):EvP prog aB ext 176 [.d (aq.pd a0),rI a1] [] (.tup [.d (aA.pd r.1),rB r.2],[]):=by
 refine Ev.body rfl Tryz.func176 rfl (by kernel_rfl)<|gS rfl rfl<|sB (.ptr 32 0) 32 (.var (aq.rc a0))<|sB (.ptr 64 0) 64 (.var zZ4)<|sU<|sN<|qS<|gS rfl rfl<|sV (.ptr 32 4)<|sL rfl<|sE (rI (a0.bz.length:Int)) (fQ _ _)<|sV (r0)<|sN<|bE h fun o8 ho8 h=>WC.block (WC.loop (WL.hY ho8 (fun s R' B'=>cI prog 0 (A R' B') (aB.at_ 176 0 2)=some (A [(1,rI a1),(4,.ptr 64 0),(9,rM aA.pd a0.bz),(10,rI (a0.bz.length:Int)),(11,rI s)] [(64,.var zZ4)])) (fun o e R' B'=>match o with| .inl y=>e= .exit 0∧cI prog 0 (A R' B') (aB.at_ 176 0 7)=some (A [(4,.ptr 64 0)] [(64,.var zZ4)])| .inr r=>e= .ret∧finish prog (aB.own 176) Tryz.f176 0 (A R' B')=some (.tup [.d (aA.pd r.1),rB r.2],[])) rfl ?_ ?_))
 ·rintro s1 R' B' q2 hI h
  refine gS rfl hI<|sF h (fun h=>?_) fun h=>?_
  ·refine sN<|qS<|cT<|qK<|qS<|qB<|gS rfl rfl<|bE h fun x4 hx4 h=>eG hx4 rfl<|sV (.d (aA.pd x4))<|sB (.ptr 112 0) 112 (.var zZ4)<|sH 112 (.var (aA.rc x4))<|sN<|gS rfl rfl<|sV (.ptr 112 0) ?_
   refine sL rfl<|sM rfl<|sF h (fun h=>?_) fun h=>?_
   ·refine sM rfl<|sM rfl<|sV (.ptr 112 1)<|sL rfl<|sV (rB (decide (a1<x4.fTo)))<|sF h (fun h=>?_) fun h=>?_
    ·refine sN<|cT<|gS rfl rfl<|sV (.d (aA.pd x4))<|sH 64 (.var (aA.rc x4))<|sT<|sN<|qR ?_
     cases oI h
     exact⟨nofun,rfl,rfl⟩
    refine sN<|cF<|qK<|WC.region rfl rfl<|sV (rI (rW (s1+(1:Int))))<|sM rfl<|sN ?_
    cases oI h
    exact⟨rfl,rfl⟩
   refine sM rfl<|k3<|sK<|sU<|sN<|cF<|qK<|WC.region rfl rfl<|sV (rI (rW (s1+(1:Int))))<|sM rfl<|sN ?_
   cases oI h
   exact⟨rfl,rfl⟩
  refine sN<|qS<|cF<|qX ?_
  cases oI h
  exact⟨nofun,rfl,rfl⟩
 intro e R' B' he hq
 rcases o8 with y9|r10
 ·obtain⟨rfl,hI⟩:=hq
  refine qE<|gS rfl hI<|sG (.agg zZ4)<|sH 64 (.var zZ4)<|sU<|sN<|qR ?_
  cases oI h
  exact qG
 obtain⟨rfl,hf⟩:=hq
 cases oI h
 exact hf
end Go.Dw.Et
