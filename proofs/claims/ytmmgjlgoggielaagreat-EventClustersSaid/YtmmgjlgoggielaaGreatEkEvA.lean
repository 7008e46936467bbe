
import Derived.Test.YtmmgjlgoggielaaGreatEkFn
import Derived.Test.YtmmgjlgoggielaaGreatDwShort
import Derived.Test.YtmmgjlgoggielaaGreatDwNest
import Derived.Test.YtmmgjlgoggielaaGreatProg
import Derived.Test.YtmmgjlgoggielaaGreatDwClone
import Derived.Test.YtmmgjlgoggielaaGreatDwSortI
import Derived.Test.YtmmgjlgoggielaaGreatDwSort

set_option maxRecDepth 100000
set_option maxHeartbeats 4000000
namespace Go.Dw.Ek
open Go.Proofs Go.Proofs.Tryz Go.Dw
@[reducible] def rW(n:Int):Int:=IntKind.wrap .i64 n
@[reducible] def rI(n:Int):RV:= .d (.int .i64 n)
@[reducible] def r0:RV:= .d (.int .i64 0)
@[reducible] def rS(s:List UInt8):RV:= .d (.str s)
@[reducible] def rB(b:Bool):RV:= .d (.bool b)
@[reducible] def rM{α:Type}(g:α->PD)(l:List α):RV:= .d (.lst (l.map g))
@[reducible] def rL(l:List Int):RV:= .d (.lst (l.map (PD.int .i64)))
@[reducible] def zZ0:List RV:=[.dH,.d (.int .i64 0),.d (.int .i64 0),.d (.int .i64 0),.d (.int .i64 0),.d (.int .i64 0),.d (.int .i64 0),.d (.int .i64 0),.d (.int .i64 0),.d (.int .i64 0),.d (.int .i64 0),.d (.int .i64 0),.d (.int .i64 0),.d (.int .i64 0),.d (.int .i64 0),.d (.int .i64 0)]
@[reducible] def zZ1:List RV:=[.d (.int .i64 0),.d (.int .i64 0),.d (.int .i64 0),.d (.int .i64 0),.d (.int .i64 0),.d (.int .i64 0),.d (.int .i64 0),.d (.int .i64 0),.d (.int .i64 0),.d (.int .i64 0),.d (.int .i64 0),.d (.int .i64 0)]
@[reducible] def zZ2:List RV:=[.d (.str []),.d (.str []),.d (.str []),.d (.str []),.d (.int .i64 0),.d (.int .i64 0),.d (.int .i64 0),.d (.int .i64 0),.d (.int .i64 0)]
@[reducible] def zZ3:List RV:=[.d (.int .i64 0),.d (.int .i64 0),.d (.int .i64 0),.d (.int .i64 0),.d (.int .i64 0),.d (.int .i64 0),.d (.int .i64 0),.dH]
@[reducible] def zZ4:List RV:=[.d (.int .i64 0),.d (.int .i64 0),.d (.int .i64 0),.d (.int .i64 0),.d (.int .i64 0),.d (.int .i64 0)]
@[reducible] def ap.rc(x:ap):List RV:=[.d (.int .i64 x.ah.aO.aL.fX),.d (.int .i64 x.ah.aO.aL.fY),.d (.int .i64 x.ah.aO.aL.fZ),.d (.int .i64 x.ah.aO.aF.fX),.d (.int .i64 x.ah.aO.aF.fY),.d (.int .i64 x.ah.aO.aF.fZ),.d (.int .i64 x.ah.bi.bn),.d (.lst (x.ah.bi.aL.map (PD.int .i64))),.d (.lst (x.ah.bi.aF.map (PD.int .i64))),.d (.int .i64 x.ah.da),.d (.int .i64 x.ah.bS),.d (.int .i64 x.ah.cB),.d (.int .i64 x.ah.lC),.d (.int .i64 x.ah.cw),.d (.int .i64 x.fb.b8.bn),.d (.lst (x.fb.b8.aL.map (PD.int .i64))),.d (.lst (x.fb.b8.aF.map (PD.int .i64))),.d (.int .i64 x.fb.bI),.d (.int .i64 x.fb.bw),.d (.int .i64 x.bS)]
@[reducible] def aJ.rc(x:aJ):List RV:=[.d (.int .i64 x.aO.aL.fX),.d (.int .i64 x.aO.aL.fY),.d (.int .i64 x.aO.aL.fZ),.d (.int .i64 x.aO.aF.fX),.d (.int .i64 x.aO.aF.fY),.d (.int .i64 x.aO.aF.fZ),.d (.int .i64 x.bi.bn),.d (.lst (x.bi.aL.map (PD.int .i64))),.d (.lst (x.bi.aF.map (PD.int .i64))),.d (.int .i64 x.da),.d (.int .i64 x.bS),.d (.int .i64 x.cB),.d (.int .i64 x.lC),.d (.int .i64 x.cw)]
@[reducible] def aH.rc(x:aH):List RV:=[.d (.int .i64 x.fP),.d (.int .i64 x.bI.a0),.d (.int .i64 x.bI.a1),.d (.int .i64 x.bI.a2),.d (.int .i64 x.bw.a0),.d (.int .i64 x.bw.a1),.d (.int .i64 x.bw.a2),.d (.lst (x.dM.map (PD.int .i64))),.d (.int .i64 x.dD),.d (.int .i64 x.dO)]
@[reducible] def ae.rc(x:ae):List RV:=[.d (.str x.aD.a8),.d (.str x.aD.aN),.d (.str x.aD.aq),.d (.str x.aD.bd),.d (.int .i64 x.aX),.d (.int .i64 x.aK),.d (.int .i64 x.bf),.d (.int .i64 x.aQ),.d (.int .i64 x.aU)]
@[reducible] def av.rc(x:av):List RV:=[.d (.int .i64 x.bp),.d (.int .i64 x.fTo),.d (.int .i64 x.gq.bI),.d (.int .i64 x.gq.bw),.d (.int .i64 x.bj.fX),.d (.int .i64 x.bj.fY),.d (.int .i64 x.bj.fZ),.d (.lst (x.bN.bG.map aH.pd))]
@[reducible] def ai.rc(x:ai):List RV:=[.d (.int .i64 x.aL.fX),.d (.int .i64 x.aL.fY),.d (.int .i64 x.aL.fZ),.d (.int .i64 x.aF.fX),.d (.int .i64 x.aF.fY),.d (.int .i64 x.aF.fZ)]
@[reducible] def ak.rc(x:ak):List RV:=[.d (.int .i64 x.aN.fX),.d (.int .i64 x.aN.fY),.d (.int .i64 x.aN.fZ),.d (.int .i64 x.aK),.d (.int .i64 x.bf),.d (.int .i64 x.bA)]
@[reducible] def bu.rc(x:bu):List RV:=[.d (.int .i64 x.b8.bn),.d (.lst (x.b8.aL.map (PD.int .i64))),.d (.lst (x.b8.aF.map (PD.int .i64))),.d (.int .i64 x.bI),.d (.int .i64 x.bw)]
@[reducible] def az.rc(x:az):List RV:=[.d (.str x.aD.a8),.d (.str x.aD.aN),.d (.str x.aD.aq),.d (.str x.aD.bd),.d (.lst (x.bM.map av.pd))]
@[reducible] def bQ.rc(x:bQ):List RV:=[.d (.int .i64 x.fp.aO.aL.fX),.d (.int .i64 x.fp.aO.aL.fY),.d (.int .i64 x.fp.aO.aL.fZ),.d (.int .i64 x.fp.aO.aF.fX),.d (.int .i64 x.fp.aO.aF.fY),.d (.int .i64 x.fp.aO.aF.fZ),.d (.int .i64 x.fp.bi.bn),.d (.lst (x.fp.bi.aL.map (PD.int .i64))),.d (.lst (x.fp.bi.aF.map (PD.int .i64))),.d (.lst (x.fp.ba.map ak.pd)),.d (.int .i64 x.fp.da),.d (.lst (x.kg.map al.pd)),.d (.int .i64 x.gw),.d (.int .i64 x.ftaken),.d (.bool x.ffound),.d (.int .i64 x.bT.aV.fX),.d (.int .i64 x.bT.aV.fY),.d (.int .i64 x.bT.aV.fZ),.d (.int .i64 x.bT.aX),.d (.int .i64 x.bT.bh),.d (.int .i64 x.bT.d5),.d (.int .i64 x.bT.aY.aL.fX),.d (.int .i64 x.bT.aY.aL.fY),.d (.int .i64 x.bT.aY.aL.fZ),.d (.int .i64 x.bT.aY.aF.fX),.d (.int .i64 x.bT.aY.aF.fY),.d (.int .i64 x.bT.aY.aF.fZ)]
@[reducible] def aj.rc(x:aj):List RV:=[.d (.int .i64 x.aV.fX),.d (.int .i64 x.aV.fY),.d (.int .i64 x.aV.fZ),.d (.int .i64 x.aX),.d (.int .i64 x.bh),.d (.int .i64 x.d5),.d (.int .i64 x.aY.aL.fX),.d (.int .i64 x.aY.aL.fY),.d (.int .i64 x.aY.aL.fZ),.d (.int .i64 x.aY.aF.fX),.d (.int .i64 x.aY.aF.fY),.d (.int .i64 x.aY.aF.fZ)]
@[reducible] def ag.rc(x:ag):List RV:=[.d (.int .i64 x.aO.aL.fX),.d (.int .i64 x.aO.aL.fY),.d (.int .i64 x.aO.aL.fZ),.d (.int .i64 x.aO.aF.fX),.d (.int .i64 x.aO.aF.fY),.d (.int .i64 x.aO.aF.fZ),.d (.int .i64 x.bi.bn),.d (.lst (x.bi.aL.map (PD.int .i64))),.d (.lst (x.bi.aF.map (PD.int .i64))),.d (.lst (x.ba.map ak.pd)),.d (.int .i64 x.da)]
@[reducible] def al.rc(x:al):List RV:=[.d (.int .i64 x.jx.aL.fX),.d (.int .i64 x.jx.aL.fY),.d (.int .i64 x.jx.aL.fZ),.d (.int .i64 x.jx.aF.fX),.d (.int .i64 x.jx.aF.fY),.d (.int .i64 x.jx.aF.fZ),.d (.int .i64 x.ch),.d (.int .i64 x.gw)]
@[reducible] def au.rc(x:au):List RV:=[.d (.str x.aZ.aD.a8),.d (.str x.aZ.aD.aN),.d (.str x.aZ.aD.aq),.d (.str x.aZ.aD.bd),.d (.int .i64 x.aZ.aX),.d (.int .i64 x.aZ.aK),.d (.int .i64 x.aZ.bf),.d (.int .i64 x.aZ.aQ),.d (.int .i64 x.aZ.aU),.d (.lst (x.aB.cg.map ae.pd)),.d (.int .i64 x.aB.aq.aV.fX),.d (.int .i64 x.aB.aq.aV.fY),.d (.int .i64 x.aB.aq.aV.fZ),.d (.int .i64 x.aB.aq.aX),.d (.int .i64 x.aB.aq.bh),.d (.int .i64 x.aB.aq.d5),.d (.int .i64 x.aB.aq.aY.aL.fX),.d (.int .i64 x.aB.aq.aY.aL.fY),.d (.int .i64 x.aB.aq.aY.aL.fZ),.d (.int .i64 x.aB.aq.aY.aF.fX),.d (.int .i64 x.aB.aq.aY.aF.fY),.d (.int .i64 x.aB.aq.aY.aF.fZ),.d (.int .i64 x.aB.bt.aL),.d (.int .i64 x.aB.bt.aF),.d (.int .i64 x.aB.gu)]
@[reducible] def bc.rc(x:bc):List RV:=[.d (.lst (x.cg.map ae.pd)),.d (.int .i64 x.aq.aV.fX),.d (.int .i64 x.aq.aV.fY),.d (.int .i64 x.aq.aV.fZ),.d (.int .i64 x.aq.aX),.d (.int .i64 x.aq.bh),.d (.int .i64 x.aq.d5),.d (.int .i64 x.aq.aY.aL.fX),.d (.int .i64 x.aq.aY.aL.fY),.d (.int .i64 x.aq.aY.aL.fZ),.d (.int .i64 x.aq.aY.aF.fX),.d (.int .i64 x.aq.aY.aF.fY),.d (.int .i64 x.aq.aY.aF.fZ),.d (.int .i64 x.bt.aL),.d (.int .i64 x.bt.aF),.d (.int .i64 x.gu)]
@[reducible] def a7.rc(x:a7):List RV:=[.d (.lst (x.co.map (PD.int .i64))),.d (.int .i64 x.aV.fX),.d (.int .i64 x.aV.fY),.d (.int .i64 x.aV.fZ),.d (.int .i64 x.aX)]
@[reducible] def aw.rc(x:aw):List RV:=[.d (.str x.a8),.d (.str x.aN),.d (.str x.aq),.d (.str x.bd)]
@[reducible] def ac.rc(x:ac):List RV:=[.d (.lst (x.fL.map (PD.int .i64))),.d (.int .i64 x.fAt)]
@[reducible] def aa.rc(x:aa):List RV:=[.d (.int .i64 x.fX),.d (.int .i64 x.fY),.d (.int .i64 x.fZ)]
@[reducible] def aI.rc(x:aI):List RV:=[.d (.int .i64 x.bn),.d (.lst (x.aL.map (PD.int .i64))),.d (.lst (x.aF.map (PD.int .i64)))]
@[reducible] def bg.rc(x:bg):List RV:=[.d (.lst (x.np.map (PD.int .i64))),.d (.lst (x.fback.map (PD.int .i64)))]
@[reducible] def aS.rc(x:aS):List RV:=[.d (.lst (x.du.map ae.pd)),.d (.lst (x.dc.map ak.pd)),.d (.lst (x.jn.map av.pd))]
@[reducible] def aM.rc(x:aM):List RV:=[.d (.lst (x.bI.map (PD.int .i64))),.d (.lst (x.bw.map (PD.int .i64)))]
@[reducible] def aA.rc(x:aA):List RV:=[.d (.int .i64 x.aL),.d (.int .i64 x.aF)]
def hintAt:FuncId->Nat->Nat->List xk:=fun f nb id=>
  if f=7 then(if nb=0 then(if id=11 then [.frz (.reg 12),.own 13 1216 66,.ek [4,5,7,8,12,13,50,51,52] [64,80,1216]]else if id=18 then [.ek [7,8,12,13] [1216]]else [])else [])else if f=13 then(if nb=1 then(if id=3 then [.ownp (.cell 80 0) 1104 116,.ek [0,1,4,5,6] [0,64,80,1104]]else if id=16 then [.ek [4,5] [0,64,80,1104]]else [])else [])else if f=14 then(if nb=1 then(if id=4 then [.own 9 2192 66,.ek [0,5,6,9,10,11,12] [0,80,96,160,2192]]else if id=12 then [.ek [0,5,6,9,10,11,12,13,14,16] [0,80,96,160,208,224,2192]]else if id=14 then [.ek [0,5,6,9,10,11,12,13,16] [0,80,96,160,208,2192]]else if id=18 then [.ek [0,5,6,9,10,11,12,13] [0,80,96,160,208,2192]]else if id=21 then [.ek [9] [0,2192]]else [])else [])else if f=20 then(if nb=0 then(if id=9 then [.own 14 1360 86,.ek [3,4,9,13,14,47,48,49] [48,64,1360]]else if id=13 then [.own 17 1056 66,.ek [3,4,9,13,14,17,47,48,49,54,55,56] [48,64,1056,1360]]else if id=17 then [.ek [3,4,9,13,14,17,47,48,49] [48,64,1056,1360]]else if id=22 then [.ek [9,13,14] [1360]]else if id=25 then [.own 22 1648 66,.ek [9,14,22,91,92,93] [1360,1648]]else if id=29 then [.ek [14,22] [1360,1648]]else [])else [])else if f=21 then(if nb=0 then(if id=4 then [.ek [0,1,5] []]else if id=8 then [.ek [] []]else [])else [])else if f=22 then(if nb=0 then(if id=2 then [.ek [0,1,5] []]else if id=5 then [.ek [0] []]else [])else [])else if f=26 then(if nb=0 then(if id=4 then [.ek [0,1,5] []]else if id=8 then [.ek [] []]else [])else [])else if f=32 then(if nb=0 then(if id=7 then [.give 848,.ownn (.reg 11) 848 42 66,.ek [3,8,9,11,12,29,30,31] [48,848]]else if id=10 then [.give 848,.ownn (.reg 11) 848 42 66,.ek [3,8,9,11,14,29,30,31] [48,848]]else if id=12 then [.lend 848 none 1088]else if id=14 then [.give 848,.ek [11] [848]]else if id=15 then [.give 848,.ek [11,77,78,79] [848]]else if id=16 then [.lend 848 (some 79) 1312]else if id=19 then [.give 848,.frzn (.reg 11),.ek [11] []]else [])else [])else if f=33 then(if nb=0 then(if id=3 then [.own 3 816 66,.ek [0,3,4] [816]]else if id=6 then [.ek [0,3,4,5] [816]]else if id=8 then [.ek [0,3,4,5] [816]]else if id=9 then [.ek [0,3,4,5] [816]]else if id=12 then [.ek [3] [816]]else [])else [])else if f=49 then(if nb=1 then(if id=3 then [.ek [2,3,16,17] [0,32,48,96,97]]else if id=7 then [.ek [2,3] [0,32,48,96,97]]else [])else [])else if f=52 then(if nb=1 then(if id=3 then [.ownp (.cell 48 0) 1040 184,.ek [0,2,3,4] [0,32,48,1040]]else if id=13 then [.ek [2,3] [0,32,48,1040]]else [])else [])else if f=53 then(if nb=0 then(if id=2 then [.ek [2,4,6,13,14,15] [64,96]]else if id=5 then [.ek [2,4,6,9,13,14,15,20,21,22] [64,96,144]]else if id=10 then [.ek [2,4,6,13,14,15] [64,96]]else if id=11 then [.ek [6] [96]]else [])else [])else if f=55 then(if nb=0 then(if id=7 then [.ownp (.cell 128 0) 704 66,.ownp (.cell 128 1) 784 81,.ownp (.cell 128 2) 864 113,.ek [3,4,6,8,25,26,27] [48,64,96,128,704,784,864]]else if id=13 then [.ek [6,8] [96,128,704,784,864]]else [])else [])else if f=57 then(if nb=0 then(if id=7 then [.ek [4,8,37,38,39] [64,128]]else if id=13 then [.ek [4,8] [64,128]]else [])else [])else if f=58 then(if nb=0 then(if id=3 then [.own 7 816 47,.ek [3,4,5,7,13,14,15] [48,64,80,816]]else if id=9 then [.ek [7] [816]]else [])else [])else if f=62 then(if nb=0 then(if id=3 then [.ek [1,2,6,18,19,20] [32,272]]else if id=7 then [.ek [1,2,6] [32,272]]else if id=11 then [.ek [1,2,9,10,45,46,47] [32,272]]else if id=17 then [.ek [9,10] []]else [])else [])else if f=65 then(if nb=0 then(if id=8 then [.own 9 656 66,.own 10 720 81,.ek [3,4,9,10,24,25,26] [48,64,656,720]]else if id=14 then [.ek [9,10] [656,720]]else [])else [])else if f=66 then(if nb=0 then(if id=8 then [.own 8 2432 142,.own 9 2576 3,.ek [1,2,8,9,10,11] [32,176,560,561,2432,2576]]else if id=13 then [.own 13 1120 81,.ek [1,2,8,9,10,11,12,13,55,56,57] [32,176,560,561,1120,2432,2576]]else if id=17 then [.frz (.reg 13),.ek [1,2,8,9,10,11,12,13] [32,176,560,561,2432,2576]]else if id=25 then [.own 19 1840 3,.ek [1,2,8,9,10,11,12,16,18,19,98,99,100] [32,176,256,560,561,1840,2432,2576]]else if id=30 then [.ek [1,2,8,9,10,11,12,16,19] [32,176,256,560,561,1840,2432,2576]]else if id=33 then [.ownp (.cell 352 0) 2288 3,.ek [1,2,8,9,10,11,22,127,128,129] [32,176,352,560,561,1840,2288,2432,2576]]else if id=38 then [.ek [1,2,8,9,10,11,22] [32,176,352,560,561,2288,2432,2576]]else if id=40 then [.ek [1,2,8,9,10,11,12] [32,176,560,561,2432,2576]]else if id=42 then [.ek [8,9] [2432,2576]]else [])else [])else if f=71 then(if nb=0 then(if id=2 then [.ek [0,3,5] [48]]else if id=4 then [.ek [0,3,5] [48]]else [])else [])else if f=78 then(if nb=0 then(if id=3 then [.ek [1,3,9,10] [16,112]]else if id=7 then [.ek [1,3] [16,112]]else [])else [])else if f=81 then(if nb=0 then(if id=5 then [.ek [41,42] []]else [])else [])else if f=83 then(if nb=0 then(if id=2 then [.ek [1,6,7,8] [16]]else if id=7 then [.ek [1] [16]]else [])else [])else if f=90 then(if nb=1 then(if id=2 then [.ek [0,1,7,8] [0]]else if id=7 then [.ek [] [0]]else [])else [])else if f=95 then(if nb=0 then(if id=3 then [.ek [3,6,7,8] []]else if id=8 then [.ek [3] []]else [])else [])else if f=105 then(if nb=1 then(if id=4 then [.ownp (.cell 48 1) 432 3,.ownp (.cell 48 2) 512 3,.ek [0,2,3,4,5,6] [0,32,48,432,512]]else if id=9 then [.ek [2,3] [0,32,48,432,512]]else [])else [])else if f=108 then(if nb=0 then(if id=10 then [.ek [1,7] [304,368]]else if id=14 then [.frz (.cell 304 11),.ek [7] [304]]else [])else [])else if f=109 then(if nb=0 then(if id=5 then [.ek [4,5,6,7,8,31] [64,80,96,112,128]]else [])else [])else if f=115 then(if nb=0 then(if id=3 then [.own 5 304 3,.ek [1,5,8,9,10] [304]]else if id=7 then [.ek [5] [304]]else [])else [])else if f=118 then(if nb=0 then(if id=6 then [.ek [2,52,53,54] [32]]else if id=12 then [.ek [] []]else [])else [])else if f=120 then(if nb=0 then(if id=14 then [.ek [1,38,39,40] [16]]else if id=20 then [.ek [] []]else [])else [])else if f=122 then(if nb=0 then(if id=3 then [.ek [2,3,6,16,17,18] [32,48,224]]else if id=10 then [.ek [6] [224]]else [])else [])else if f=123 then(if nb=0 then(if id=3 then [.ek [1,2,3,7,11,12,13] [48]]else if id=8 then [.ek [7] []]else [])else [])else if f=127 then(if nb=0 then(if id=3 then [.ek [0,2,3,13,14] [32,48,112,160]]else if id=7 then [.ek [2,3] [32,48,112,160]]else [])else [])else if f=129 then(if nb=0 then(if id=4 then [.own 9 928 3,.ek [2,3,4,5,9,10,11] [64,80,928]]else if id=7 then [.ek [9] [928]]else [])else if nb=2 then(if id=4 then [.own 9 928 3,.ek [2,3,4,5,9,10,11] [0,1,64,80,928]]else if id=7 then [.ek [9] [0,1,928]]else [])else [])else if f=131 then(if nb=0 then(if id=8 then [.ek [2,10,33,34,35] [512]]else if id=12 then [.ek [10] [512]]else [])else [])else if f=134 then(if nb=0 then(if id=5 then [.ek [0,1,4,5,6] [64,80]]else if id=9 then [.ek [4,5] [64,80]]else [])else [])else if f=135 then(if nb=1 then(if id=2 then [.ek [0,1,2,3,4,10,11] [0]]else [])else [])else if f=156 then(if nb=0 then(if id=2 then [.ek [0,5,6,7] []]else if id=7 then [.ek [0] []]else [])else [])else if f=175 then(if nb=0 then(if id=2 then [.ek [3,4,9,10,11] [48,64]]else if id=7 then [.ek [4] [64]]else [])else [])else if f=176 then(if nb=0 then(if id=2 then [.ek [1,4,9,10,11] [64]]else if id=7 then [.ek [4] [64]]else [])else [])else if f=183 then(if nb=1 then(if id=4 then [.ek [0,3] [0]]else if id=9 then [.ek [0,3,4,5] [0]]else if id=14 then [.ek [0,3] [0]]else if id=16 then [.ek [0] [0]]else [])else [])else if f=184 then(if nb=1 then(if id=5 then [.ownp (.cell 0 11) 80176 194,.mv (.cell 0 11) 90081,.ek [6] [0,90081]]else [])else if nb=2 then(if id=5 then [.ownp (.cell 0 11) 80176 194,.bumpp (.cell 0 11),.ek [6] [0,1]]else [])else [])else if f=186 then(if nb=2 then(if id=2 then [.bumpp (.cell 0 11),.ek [] [0,1]]else [])else [])else if f=195 then(if nb=0 then(if id=5 then [.ek [2,7,8,9,28,29] [128,144]]else [])else [])else if f=198 then(if nb=0 then(if id=2 then [.ek [0,1,7,8] []]else if id=7 then [.ek [] []]else [])else [])else if f=199 then(if nb=0 then(if id=6 then [.ek [1,4,5,33,34] [16]]else if id=12 then [.ek [] []]else [])else [])else if f=208 then(if nb=1 then(if id=1 then [.ek [0,1,2,3,8] [0]]else if id=2 then [.ek [0,1,2,3,8] [0]]else if id=4 then [.ek [0,1,2,3,8,9] [0]]else [])else [])else if f=217 then(if nb=0 then(if id=4 then [.ek [0,2] []]else if id=7 then [.ek [0,2] []]else [])else [])else if f=229 then(if nb=2 then(if id=2 then [.ek [0,1,2,6,7,8] [0,1]]else if id=6 then [.ek [0,1,2,6,7] [0,1]]else if id=7 then [.ek [0,1,2,6] [0,1]]else if id=9 then [.ek [0,1,2,6,7,8] [0,1]]else if id=13 then [.ek [0,1,2,6,7] [0,1]]else [])else [])else if f=241 then(if nb=0 then(if id=2 then [.ek [0,1,2,9,10] []]else if id=7 then [.ek [0,1,2] []]else [])else [])else if f=257 then(if nb=0 then(if id=3 then [.ek [1,2,10,11,12] [16,32,112]]else if id=7 then [.ek [1,2] [16,32,112]]else [])else [])else if f=273 then(if nb=0 then(if id=7 then [.ek [1,2,6,8,31,32,33] [96,128]]else if id=17 then [.ek [6,8] [96,128]]else [])else [])else if f=278 then(if nb=2 then(if id=2 then [.ek [1,5,6] [0,1]]else if id=7 then [.ek [5] [0,1]]else [])else [])else if f=280 then(if nb=0 then(if id=5 then [.ek [0,3,4] []]else if id=10 then [.ek [3] []]else [])else [])else if f=301 then(if nb=2 then(if id=1 then [.ek [0,1,2,3,8] [0,1]]else if id=2 then [.ek [0,1,2,3,8] [0,1]]else if id=4 then [.ek [0,1,2,3,8,9] [0,1]]else [])else [])else if f=326 then(if nb=0 then(if id=3 then [.ek [1,2,13,14] [16,32,112]]else if id=7 then [.ek [1,2] [16,32,112]]else [])else [])else if f=330 then(if nb=2 then(if id=0 then [.ek [0,1] [0,1]]else [])else [])else if f=331 then(if nb=2 then(if id=2 then [.ek [0,1,2,7] [0,1]]else if id=8 then [.ek [0,1,2,7,9] [0,1]]else if id=11 then [.ek [1,7] [0,1]]else [])else [])else if f=332 then(if nb=0 then(if id=5 then [.ek [2,3,4,16] [32,48,64]]else [])else [])else if f=339 then(if nb=0 then(if id=9 then [.ek [0,1,5,6] []]else [])else [])else if f=350 then(if nb=0 then(if id=1 then [.ek [0,1] []]else if id=3 then [.ek [0] []]else [])else [])else if f=353 then(if nb=0 then(if id=6 then [.fixv 16,.ek [1,3] []]else [])else [])else if f=354 then(if nb=0 then(if id=3 then [.ek [3,6,7,8] []]else if id=10 then [.ek [3] []]else [])else [])else if f=383 then(if nb=0 then(if id=3 then [.ek [3,6,7,8] []]else if id=7 then [.ek [3] []]else [])else [])else if f=386 then(if nb=0 then(if id=3 then [.ek [1,5,16,17,18] [240]]else if id=7 then [.ek [1,5,6,7,8,16,17,18,25,26] [240]]else if id=14 then [.ek [1,5,16,17,18] [240]]else if id=15 then [.ek [5] [240]]else [])else [])else if f=393 then(if nb=0 then(if id=2 then [.ek [0,1,7,8] []]else if id=7 then [.ek [] []]else [])else [])else if f=406 then(if nb=0 then(if id=4 then [.own 4 240 3,.ek [0,4] [240]]else if id=7 then [.ek [4] [240]]else [])else [])else if f=408 then(if nb=0 then(if id=6 then [.own 6 560 3,.ek [0,1,6,7,18,19] [560]]else if id=12 then [.ek [6] [560]]else [])else [])else if f=409 then(if nb=0 then(if id=1 then [.ek [0] []]else if id=3 then [.ek [0] []]else [])else [])else if f=411 then(if nb=0 then(if id=2 then [.ek [0,1,7,8] []]else if id=7 then [.ek [] []]else [])else [])else if f=421 then(if nb=0 then(if id=2 then [.ek [0,1,7,8] []]else if id=7 then [.ek [] []]else [])else [])else []
def aC:Hints:={ at_:=hintAt,mt:=fun f i=>(f==13&&i==28)||(f==32&&i==52)||(f==71&&i==24)||(f==443&&i==19),by_:=fun f i=>(f==68&&i==0)||(f==79&&i==0)||(f==129&&i==0)||(f==132&&i==0)||(f==133&&i==0)||(f==135&&i==0)||(f==149&&i==0)||(f==183&&i==0)||(f==208&&i==0)||(f==229&&i==0)||(f==301&&i==0)||(f==442&&i==0),own:=fun f i=>(f==105&&i==0)||(f==107&&i==0)||(f==127&&i==0)||(f==182&&i==0)||(f==257&&i==0)||(f==325&&i==0)||(f==364&&i==0) }
theorem eqE_45(a b:aj):vX prog .eql 45 (.d a.pd) (.d b.pd)=some (.bool (((a.aV.fX==b.aV.fX)&&((a.aV.fY==b.aV.fY)&&((a.aV.fZ==b.aV.fZ)&&true)))&&((a.aX==b.aX)&&((a.bh==b.bh)&&((a.d5==b.d5)&&((((a.aY.aL.fX==b.aY.aL.fX)&&((a.aY.aL.fY==b.aY.aL.fY)&&((a.aY.aL.fZ==b.aY.aL.fZ)&&true)))&&(((a.aY.aF.fX==b.aY.aF.fX)&&((a.aY.aF.fY==b.aY.aF.fY)&&((a.aY.aF.fZ==b.aY.aF.fZ)&&true)))&&true))&&true))))),true):=by kernel_rfl
theorem eqE_47(a b:aA):vX prog .eql 47 (.d a.pd) (.d b.pd)=some (.bool ((a.aL==b.aL)&&((a.aF==b.aF)&&true)),true):=by kernel_rfl
theorem eqE_64(a b:aw):vX prog .eql 64 (.d a.pd) (.d b.pd)=some (.bool ((a.a8==b.a8)&&((a.aN==b.aN)&&((a.aq==b.aq)&&((a.bd==b.bd)&&true)))),true):=by kernel_rfl
theorem eqE_66(a b:ae):vX prog .eql 66 (.d a.pd) (.d b.pd)=some (.bool (((a.aD.a8==b.aD.a8)&&((a.aD.aN==b.aD.aN)&&((a.aD.aq==b.aD.aq)&&((a.aD.bd==b.aD.bd)&&true))))&&((a.aX==b.aX)&&((a.aK==b.aK)&&((a.bf==b.bf)&&((a.aQ==b.aQ)&&((a.aU==b.aU)&&true)))))),true):=by kernel_rfl
theorem eqN_66(a b:ae):vX prog .neq 66 (.d a.pd) (.d b.pd)=some (.bool (!(((a.aD.a8==b.aD.a8)&&((a.aD.aN==b.aD.aN)&&((a.aD.aq==b.aD.aq)&&((a.aD.bd==b.aD.bd)&&true))))&&((a.aX==b.aX)&&((a.aK==b.aK)&&((a.bf==b.bf)&&((a.aQ==b.aQ)&&((a.aU==b.aU)&&true))))))),true):=by kernel_rfl
theorem jZ(a b:aW):vX prog .eql 182 (.d a.pd) (.d b.pd)=some (.bool ((a.a0==b.a0)&&((a.a1==b.a1)&&((a.a2==b.a2)&&true))),true):=by kernel_rfl
theorem T_api_Pick_inj:∀x y:ae,x.pd=y.pd->x=y:=by
  rintro⟨⟨z1,z2,z3,z4⟩,z5,z6,z7,z8,z9⟩ ⟨⟨z10,z11,z12,z13⟩,z14,z15,z16,z17,z18⟩ h
  cases h;rfl
def ext0:FuncId->Option kp:=fun _=>none
theorem lq{a0:(List UInt8)}{r:Bool}(h:f8 a0=some r):EvP prog aC ext0 306 [rS a0] [] (rB r,[]):=by
 refine Ev.body rfl Tryz.func306 rfl (by kernel_rfl)<|gS rfl rfl<|sU<|sN<|gS rfl rfl<|sM rfl<|sM rfl<|sV (rB (!(a0==a0)))<|sA rfl<|sN<|qR ?_
 exact oI h▸qD
theorem eN{a0:(List UInt8)}{a1:(List UInt8)}{r:Int}(h:bX a0 a1=some r):EvP prog aC ext0 239 [rS a0,rS a1] [] (rI r,[]):=by
 refine Ev.body rfl Tryz.func239 rfl (by kernel_rfl)<|gS rfl rfl<|sV (r0)<|sN<|gS rfl rfl<|sM rfl<|bE h fun x1 hx1 h=>cD (lq hx1)<|sA rfl<|sN<|gS rfl rfl<|sM rfl<|bE h fun x2 hx2 h=>cD (lq hx2)<|sA rfl ?_
 refine sN<|qS<|gS rfl rfl<|sF h (fun h=>?_) fun h=>?_
 ·refine sN<|cT<|qS<|gS rfl rfl<|sF h (fun h=>?_) fun h=>?_
  ·refine sN<|cT<|gS rfl rfl<|sV (r0)<|sN<|qR ?_
   exact oI h▸qD
  refine sN<|cF<|qK<|gS rfl rfl<|sV (rI (-1))<|sN<|qR ?_
  exact oI h▸qD
 refine sN<|cF<|qK<|qS<|gS rfl rfl<|sF h (fun h=>?_) fun h=>?_
 ·refine sN<|cT<|gS rfl rfl<|sV (rI 1)<|sN<|qR ?_
  exact oI h▸qD
 refine sN<|cF<|qK<|qS<|gS rfl rfl<|sM rfl<|sM rfl<|sF h (fun h=>?_) fun h=>?_
 ·refine sN<|cT<|gS rfl rfl<|sV (rI (-1))<|sN<|qR ?_
  exact oI h▸qD
 refine sN<|cF<|qK<|qS<|gS rfl rfl<|sM rfl<|sM rfl<|sF h (fun h=>?_) fun h=>?_
 ·refine sN<|cT<|gS rfl rfl<|sV (rI 1)<|sN<|qR ?_
  exact oI h▸qD
 refine sN<|cF<|qK<|gS rfl rfl<|sV (r0)<|sN<|qR ?_
 exact oI h▸qD
theorem oz{a0:(List Int)}{r:Int}(h:cv a0=some r):EvP prog aC ext0 95 [rL a0] [] (rI r,[]):=by
 refine Ev.body rfl Tryz.func95 rfl (by kernel_rfl)<|gS rfl rfl<|sV (r0)<|sN<|gS rfl rfl<|sV (r0)<|sN<|qS<|gS rfl rfl<|sM rfl<|sE (rI (a0.length:Int)) (dT _ _)<|sV (r0)<|sN<|bE h fun o7 ho7 h=>WC.block (WC.loop (WL.gv ho7 (fun s R' B'=>cI prog 0 (A R' B') (aC.at_ 95 0 3)=some (A [(3,r0),(6,rL a0),(7,rI (a0.length:Int)),(8,rI s)] [])) (fun o e R' B'=>match o with| .inl y=>e= .exit 0∧cI prog 0 (A R' B') (aC.at_ 95 0 8)=some (A [(3,r0)] [])| .inr r=>e= .ret∧finish prog (aC.own 95) Tryz.f95 0 (A R' B')=some (rI r,[])) rfl ?_ ?_))
 ·rintro s1 R' B' q2 hI h
  refine gS rfl hI<|sF h (fun h=>?_) fun h=>?_
  ·refine sN<|qS<|cT<|qK<|qS<|qB<|gS rfl rfl<|bE h fun x4 hx4 h=>eG hx4 rfl<|sC rfl<|sA rfl<|sN<|gS rfl rfl<|sM rfl<|sM rfl ?_
   refine sF h (fun h=>?_) fun h=>?_
   ·refine sN<|cT<|gS rfl rfl<|sM rfl<|sA rfl<|sN<|qR ?_
    cases oI h
    exact⟨nofun,rfl,rfl⟩
   refine sN<|cF<|qK<|WC.region rfl rfl<|sV (rI (rW (s1+(1:Int))))<|sM rfl<|sN ?_
   cases oI h
   exact⟨rfl,rfl⟩
  refine sN<|qS<|cF<|qX ?_
  cases oI h
  exact⟨nofun,rfl,rfl⟩
 intro e R' B' he hq
 rcases o7 with y8|r9
 ·obtain⟨rfl,hI⟩:=hq
  refine qE<|gS rfl hI<|sM rfl<|sA rfl<|sN<|qR ?_
  exact oI h▸qD
 obtain⟨rfl,hf⟩:=hq
 cases oI h
 exact hf
theorem pW{a0:aw}{a1:aw}{r:Int}(h:et a0 a1=some r):EvP prog aC ext0 153 [.d (aw.pd a0),.d (aw.pd a1)] [] (rI r,[]):=by
 refine Ev.body rfl Tryz.func153 rfl (by kernel_rfl)<|gS rfl rfl<|sB (.ptr 32 0) 32 (.var (aw.rc a0))<|sB (.ptr 48 0) 48 (.var (aw.rc a1))<|sV (r0)<|sN<|WC.dG rfl rfl<|sV (.ptr 32 0)<|sL rfl<|sV (.ptr 48 0)<|sL rfl<|bE h fun x1 hx1 h=>cD (eN hx1)<|sV (.ptr 32 1)<|sL rfl ?_
 refine sV (.ptr 48 1)<|sL rfl<|bE h fun x2 hx2 h=>cD (eN hx2)<|sV (.ptr 32 2)<|sL rfl<|sV (.ptr 48 2)<|sL rfl<|bE h fun x3 hx3 h=>cD (eN hx3)<|sV (.ptr 32 3)<|sL rfl<|sV (.ptr 48 3)<|sL rfl<|bE h fun x4 hx4 h=>?_
 refine cD (eN hx4)<|sV (.d (.lst ([x1,x2,x3,x4].map (PD.int .i64))))<|bE h fun x5 hx5 h=>cD (oz hx5)<|sA rfl ?_
 refine sN<|sO<|qR ?_
 exact oI h▸qD
theorem mI{a0:Int}{r:Bool}(h:jf a0=some r):EvP prog aC ext0 170 [rI a0] [] (rB r,[]):=by
 refine Ev.body rfl Tryz.func170 rfl (by kernel_rfl)<|gS rfl rfl<|sU<|sN<|gS rfl rfl<|sM rfl<|sM rfl<|sV (rB (a0 != a0))<|sA rfl<|sN<|qR ?_
 exact oI h▸qD
theorem eE{a0:Int}{a1:Int}{r:Int}(h:bJ a0 a1=some r):EvP prog aC ext0 96 [rI a0,rI a1] [] (rI r,[]):=by
 refine Ev.body rfl Tryz.func96 rfl (by kernel_rfl)<|gS rfl rfl<|sV (r0)<|sN<|gS rfl rfl<|sM rfl<|bE h fun x1 hx1 h=>cD (mI hx1)<|sA rfl<|sN<|gS rfl rfl<|sM rfl<|bE h fun x2 hx2 h=>cD (mI hx2)<|sA rfl ?_
 refine sN<|qS<|gS rfl rfl<|sF h (fun h=>?_) fun h=>?_
 ·refine sN<|cT<|qS<|gS rfl rfl<|sF h (fun h=>?_) fun h=>?_
  ·refine sN<|cT<|gS rfl rfl<|sV (r0)<|sN<|qR ?_
   exact oI h▸qD
  refine sN<|cF<|qK<|gS rfl rfl<|sV (rI (-1))<|sN<|qR ?_
  exact oI h▸qD
 refine sN<|cF<|qK<|qS<|gS rfl rfl<|sF h (fun h=>?_) fun h=>?_
 ·refine sN<|cT<|gS rfl rfl<|sV (rI 1)<|sN<|qR ?_
  exact oI h▸qD
 refine sN<|cF<|qK<|qS<|gS rfl rfl<|sM rfl<|sM rfl<|sF h (fun h=>?_) fun h=>?_
 ·refine sN<|cT<|gS rfl rfl<|sV (rI (-1))<|sN<|qR ?_
  exact oI h▸qD
 refine sN<|cF<|qK<|qS<|gS rfl rfl<|sM rfl<|sM rfl<|sF h (fun h=>?_) fun h=>?_
 ·refine sN<|cT<|gS rfl rfl<|sV (rI 1)<|sN<|qR ?_
  exact oI h▸qD
 refine sN<|cF<|qK<|gS rfl rfl<|sV (r0)<|sN<|qR ?_
 exact oI h▸qD
theorem pN{a0:ae}{a1:ae}{r:Int}(h:ca a0 a1=some r):EvP prog aC ext0 80 [.d (ae.pd a0),.d (ae.pd a1)] [] (rI r,[]):=by
 refine Ev.body rfl Tryz.func80 rfl (by kernel_rfl)<|gS rfl rfl<|sB (.ptr 32 0) 32 (.var (ae.rc a0))<|sB (.ptr 48 0) 48 (.var (ae.rc a1))<|sV (r0)<|sN<|WC.dG rfl rfl<|sV (.ptr 32 0)<|sV (.d (aw.pd a0.aD))<|sV (.ptr 48 0)<|sV (.d (aw.pd a1.aD))<|bE h fun x1 hx1 h=>cD (pW hx1)<|sV (.ptr 32 4)<|sL rfl ?_
 refine sV (.ptr 48 4)<|sL rfl<|bE h fun x2 hx2 h=>cD (eE hx2)<|sV (.ptr 32 5)<|sL rfl<|sV (.ptr 48 5)<|sL rfl<|bE h fun x3 hx3 h=>cD (eE hx3)<|sV (.ptr 32 6)<|sL rfl<|sV (.ptr 48 6)<|sL rfl<|bE h fun x4 hx4 h=>?_
 refine cD (eE hx4)<|sV (.ptr 32 7)<|sL rfl<|sV (.ptr 48 7)<|sL rfl<|bE h fun x5 hx5 h=>cD (eE hx5)<|sV (.ptr 32 8)<|sL rfl<|sV (.ptr 48 8)<|sL rfl<|bE h fun x6 hx6 h=>cD (eE hx6)<|sV (.d (.lst ([x1,x2,x3,x4,x5,x6].map (PD.int .i64))))<|bE h fun x7 hx7 h=>?_
 refine cD (oz hx7)<|sA rfl ?_
 refine sN<|sO<|qR ?_
 cases oI h
 exact qG
noncomputable def ext:FuncId->Option kp:=fun f=>if f=79 then some (Ao 80 66 ae.pd ca)else if f=182 then some (u6 66 9 104)else if f=325 then some (u6 113 8 80)else if f=364 then some (u6 184 10 96)else if f=107 then some (u6 3 1 8)else if f=133 then some (xj 3)else none
theorem sort_79_80{l r:List ae}(h:uR ca l=some r):EvP prog aC ext 79 [.ref 0 0,.d (.raw (.func (.func 80) #[] #[]))] [.arr 0 66 (l.map ae.pd)] (.tup [],[.arr 0 66 (r.map ae.pd)]):=sort_ev rfl (sortD_of T_api_Pick_inj h)
theorem pg{l r:List Int}(h:sb l=some r):EvP prog aC ext 133 [.ref 0 0] [.arr 0 3 (l.map (PD.int .i64))] (.tup [],[.arr 0 3 (r.map (PD.int .i64))]):=sortI_ev rfl h
theorem clone_182{l r:List ae}(h:ru 104 l=some r):EvP prog aC ext 182 [rM ae.pd l] [] (.ref 0 0,[.arr 0 66 (r.map ae.pd)]):=wy (g:=ae.pd) rfl (fun _=>rfl) h
theorem clone_325{l r:List av}(h:ru 80 l=some r):EvP prog aC ext 325 [rM av.pd l] [] (.ref 0 0,[.arr 0 113 (r.map av.pd)]):=wy (g:=av.pd) rfl (fun _=>rfl) h
theorem clone_364{l r:List aH}(h:ru 96 l=some r):EvP prog aC ext 364 [rM aH.pd l] [] (.ref 0 0,[.arr 0 184 (r.map aH.pd)]):=wy (g:=aH.pd) rfl (fun _=>rfl) h
theorem clone_107{l r:List Int}(h:ru 8 l=some r):EvP prog aC ext 107 [rL l] [] (.ref 0 0,[.arr 0 3 (r.map (PD.int .i64))]):=wy (g:=(PD.int .i64)) rfl (fun _=>rfl) h
theorem keep_New_ev{a0:(List Int)}{r:ac}(h:kk a0=some r):EvP prog aC ext 11 [rL a0] [] (.ptr 0 0,[.var (ac.rc r)]):=by
 refine Ev.body rfl Tryz.func11 rfl (by kernel_rfl)<|gS rfl rfl<|sV (.d (.raw (.pointer none)))<|sN<|gS rfl rfl<|sM rfl<|sM rfl<|sE (rI (a0.length:Int)) (dT _ _)<|sV (rI (if(2000:Int)<(a0.length:Int)then(2000:Int)else(a0.length:Int)))<|bE h fun x1 hx1 h=>WO.cutL (sz:=1) (g:=(PD.int .i64)) hx1 (fun _=>rfl) rfl rfl rfl rfl rfl rfl rfl rfl rfl rfl rfl<|sV (.d (ac.pd (ac.mk x1 0)))<|sB (.ptr 144 0) 144 (.var [rL x1,r0])<|sA rfl<|sN ?_
 refine qR ?_
 exact oI h▸qD
theorem Src_Raw_ev{d0:ac}{r:Int×ac}(h:Src_Raw d0=some r):EvP prog aC ext 72 [.ptr 0 0] [.var (ac.rc d0)] (rI r.1,[.var (ac.rc r.2)]):=by
 refine Ev.body rfl Tryz.func72 rfl (by kernel_rfl)<|gS rfl rfl<|sV (r0)<|sN<|qS<|WC.dG rfl rfl<|sM rfl<|sV (.ptr 0 0)<|sV (.ptr 0 1)<|sL rfl<|sM rfl<|sV (.ptr 0 0)<|sV (.ptr 0 0)<|sL rfl<|sE (rI (d0.fL.length:Int)) (dT _ _) ?_
 refine sF h (fun h=>?_) fun h=>?_
 ·refine sN<|sO<|cT<|gS rfl rfl<|sV (r0)<|sN<|qR ?_
  exact oI h▸qD
 refine sN<|sO<|cF<|qK<|gS rfl rfl<|sM rfl<|sV (.ptr 0 0)<|sV (.ptr 0 1)<|sL rfl<|sV (rI (rW (d0.fAt+(1:Int))))<|sV (.ptr 0 0)<|sV (.ptr 0 1)<|sS 0 (.var [rL d0.fL,rI (rW (d0.fAt+(1:Int)))])<|sN<|WC.dG rfl rfl<|sM rfl ?_
 refine sV (.ptr 0 0)<|sV (.ptr 0 0)<|sL rfl<|sM rfl<|sV (.ptr 0 0)<|sV (.ptr 0 1)<|sL rfl<|sV (rI (rW ((rW (d0.fAt+(1:Int)))-(1:Int))))<|bE h fun x2 hx2 h=>eG hx2 rfl<|sC rfl<|sA rfl ?_
 refine sN<|sO<|qR ?_
 exact oI h▸qD
theorem keep_Mod_ev{a0:Int}{a1:Int}{r:Int}(h:nu a0 a1=some r):EvP prog aC ext 24 [rI a0,rI a1] [] (rI r,[]):=by
 refine Ev.body rfl Tryz.func24 rfl (by kernel_rfl)<|gS rfl rfl<|sV (r0)<|sN<|qS<|gS rfl rfl<|sM rfl<|sF h (fun h=>?_) fun h=>?_
 ·refine sN<|cT<|gS rfl rfl<|sV (r0)<|sN<|qR ?_
  exact oI h▸qD
 refine sN<|cF<|qK<|gS rfl rfl<|sM rfl<|sM rfl<|bE h fun x2 hx2 h=>WO.remG hx2 rfl rfl rfl rfl rfl rfl<|sA rfl<|sN<|qS<|gS rfl rfl<|sM rfl<|sF h (fun h=>?_) fun h=>?_
 ·refine sN<|cT<|WC.region rfl rfl<|sM rfl<|sM rfl<|sV (rI (rW (x2+a1)))<|sA rfl<|sN<|gS rfl rfl<|sM rfl<|sA rfl<|sN<|qR ?_
  exact oI h▸qD
 refine sN<|cF<|qK<|gS rfl rfl<|sM rfl<|sA rfl<|sN<|qR ?_
 exact oI h▸qD
theorem bO{a1:Int}{d0:ac}{r:Int×ac}(h:cJ a1 d0=some r):EvP prog aC ext 25 [.ptr 0 0,rI a1] [.var (ac.rc d0)] (rI r.1,[.var (ac.rc r.2)]):=by
 refine Ev.body rfl Tryz.func25 rfl (by kernel_rfl)<|gS rfl rfl<|sV (r0)<|sN<|gS rfl rfl<|sM rfl<|bE h fun x1 hx1 h=>cR (rI x1.1) [(0,.var (ac.rc x1.2))] (Src_Raw_ev hx1)<|sM rfl<|bE h fun x2 hx2 h=>cD (keep_Mod_ev hx2)<|sA rfl<|sN<|qR ?_
 exact oI h▸qD
theorem nE{a1:Int}{d0:ac}{r:aa×ac}(h:jE a1 d0=some r):EvP prog aC ext 51 [.ptr 0 0,rI a1] [.var (ac.rc d0)] (.d (aa.pd r.1),[.var (ac.rc r.2)]):=by
 refine Ev.body rfl Tryz.func51 rfl (by kernel_rfl)<|gS rfl rfl<|sB (.ptr 64 0) 64 (.var [r0,r0,r0])<|sN<|gS rfl rfl<|sM rfl<|sM rfl<|sV (rI (rW ((2:Int)*a1)))<|sV (rI (rW ((rW ((2:Int)*a1))+(1:Int))))<|bE h fun x1 hx1 h=>cR (rI x1.1) [(0,.var (ac.rc x1.2))] (bO hx1)<|sM rfl<|sV (rI (rW (x1.1-a1)))<|sM rfl<|sM rfl ?_
 refine sV (rI (rW ((2:Int)*a1)))<|sV (rI (rW ((rW ((2:Int)*a1))+(1:Int))))<|bE h fun x2 hx2 h=>cR (rI x2.1) [(0,.var (ac.rc x2.2))] (bO hx2)<|sM rfl<|sV (rI (rW (x2.1-a1)))<|sM rfl<|sM rfl<|sV (rI (rW (a1+(1:Int))))<|bE h fun x3 hx3 h=>cR (rI x3.1) [(0,.var (ac.rc x3.2))] (bO hx3)<|sV (.d (aa.pd (aa.mk (rW (x1.1-a1)) (rW (x2.1-a1)) x3.1)))<|sS 64 (.var [rI (rW (x1.1-a1)),rI (rW (x2.1-a1)),rI x3.1])<|sN<|qR ?_
 exact oI h▸qD
theorem Src_Box_ev{a1:Int}{a2:Int}{d0:ac}{r:ai×ac}(h:nD a1 a2 d0=some r):EvP prog aC ext 104 [.ptr 0 0,rI a1,rI a2] [.var (ac.rc d0)] (.d (ai.pd r.1),[.var (ac.rc r.2)]):=by
 refine Ev.body rfl Tryz.func104 rfl (by kernel_rfl)<|gS rfl rfl<|sB (.ptr 96 0) 96 (.var zZ4)<|sN<|gS rfl rfl<|sM rfl<|sM rfl<|bE h fun x1 hx1 h=>cR (.d (aa.pd x1.1)) [(0,.var (ac.rc x1.2))] (nE hx1)<|sB (.ptr 112 0) 112 (.var [r0,r0,r0])<|sS 112 (.var (aa.rc x1.1))<|sN<|WC.dG rfl rfl<|sV (.d (aa.pd x1.1))<|sV (.ptr 112 0) ?_
 refine sL rfl<|sM rfl<|sM rfl<|sV (rI (rW (a2+(1:Int))))<|bE h fun x2 hx2 h=>cR (rI x2.1) [(0,.var (ac.rc x2.2))] (bO hx2)<|sV (rI (rW (x1.1.fX+x2.1)))<|sV (.ptr 112 1)<|sL rfl<|sM rfl<|sM rfl<|sV (rI (rW (a2+(1:Int))))<|bE h fun x3 hx3 h=>cR (rI x3.1) [(0,.var (ac.rc x3.2))] (bO hx3)<|sV (rI (rW (x1.1.fY+x3.1))) ?_
 refine sV (.ptr 112 2)<|sL rfl<|sM rfl<|sM rfl<|sV (rI (rW (a2+(1:Int))))<|bE h fun x4 hx4 h=>cR (rI x4.1) [(0,.var (ac.rc x4.2))] (bO hx4)<|sV (rI (rW (x1.1.fZ+x4.1)))<|sV (.d (aa.pd (aa.mk (rW (x1.1.fX+x2.1)) (rW (x1.1.fY+x3.1)) (rW (x1.1.fZ+x4.1)))))<|sG (.d (ai.pd (ai.mk x1.1 (aa.mk (rW (x1.1.fX+x2.1)) (rW (x1.1.fY+x3.1)) (rW (x1.1.fZ+x4.1))))))<|sH 96 (.var (aa.rc x1.1++[rI (rW (x1.1.fX+x2.1)),rI (rW (x1.1.fY+x3.1)),rI (rW (x1.1.fZ+x4.1))])) ?_
 refine sN<|sO<|qR ?_
 cases oI h
 exact qG
theorem d4{a1:(List Int)}{d0:ac}{r:Int×ac}(h:dl a1 d0=some r):EvP prog aC ext 50 [.ptr 0 0,rL a1] [.var (ac.rc d0)] (rI r.1,[.var (ac.rc r.2)]):=by
 refine Ev.body rfl Tryz.func50 rfl (by kernel_rfl)<|gS rfl rfl<|sV (r0)<|sN<|gS rfl rfl<|sM rfl<|sM rfl<|sM rfl<|sE (rI (a1.length:Int)) (dT _ _)<|bE h fun x1 hx1 h=>cR (rI x1.1) [(0,.var (ac.rc x1.2))] (bO hx1)<|bE h fun x2 hx2 h=>eG hx2 rfl<|sC rfl<|sA rfl ?_
 refine sN<|qR ?_
 exact oI h▸qD
theorem qb{d0:ac}{r:aI×ac}(h:iJ d0=some r):EvP prog aC ext 105 [.ptr 0 0] [.var (ac.rc d0)] (.agg [rI r.1.bn,.ref 1 0,.ref 2 0],[.var (ac.rc r.2),.arr 0 3 (r.1.aL.map (PD.int .i64)),.arr 0 3 (r.1.aF.map (PD.int .i64))]):=by
 refine Ev.body rfl Tryz.func105 rfl (by kernel_rfl)<|gS rfl rfl<|sB (.ptr 32 0) 32 (.var [r0,.dH,.dH])<|sN<|gS rfl rfl<|sM rfl<|sV (.d (.lst ([20,25,40,100].map (PD.int .i64))))<|bE h fun x1 hx1 h=>cR (rI x1.1) [(0,.var (ac.rc x1.2))] (d4 hx1)<|sV (.agg [rI x1.1,.dH,.dH])<|sB (.ptr 48 0) 48 (.var [r0,.dH,.dH])<|sS 48 (.var [rI x1.1,.dH,.dH])<|sN<|gS rfl rfl<|sM rfl ?_
 refine bE h fun x2 hx2 h=>cR (rI x2.1) [(0,.var (ac.rc x2.2))] (bO hx2)<|sV (r0)<|sA rfl<|sN<|qS<|gS rfl rfl<|sV (r0)<|sN<|bE h fun o24 ho24 h=>WC.block (WC.loop (WL.gv ho24 (fun s R' B'=>cI prog 1 (A R' B') (aC.at_ 105 1 4)=some (A [(0,.ptr 0 0),(2,.ptr 32 0),(3,.ptr 48 0),(4,rI s.1),(5,rI s.2.1),(6,rI s.2.2.1)] [(0,.var [rL s.2.2.2.1,rI s.2.2.2.2.1]),(32,.var [r0,.dH,.dH]),(48,.var [rI x1.1,.ref 432 0,.ref 512 0]),(432,.arr 0 3 (s.2.2.2.2.2.1.map (PD.int .i64))),(512,.arr 0 3 (s.2.2.2.2.2.2.map (PD.int .i64)))])) (fun o e R' B'=>e= .exit 0∧cI prog 1 (A R' B') (aC.at_ 105 1 9)=some (A [(2,.ptr 32 0),(3,.ptr 48 0)] [(0,.var [rL o.1,rI o.2.1]),(32,.var [r0,.dH,.dH]),(48,.var [rI x1.1,.ref 432 0,.ref 512 0]),(432,.arr 0 3 (o.2.2.1.map (PD.int .i64))),(512,.arr 0 3 (o.2.2.2.map (PD.int .i64)))])) rfl ?_ ?_))
 ·rintro⟨s3,s4,s5,s6,s7,s8,s9⟩ R' B' q14 hI h
  unfold jd at h
  refine qS<|WC.dG hI rfl<|sM rfl<|sV (.ptr 48 0)<|sL rfl<|bE h fun x15 hx15 h=>WO.tV hx15 rfl rfl rfl rfl rfl rfl<|sM rfl<|bE h fun x16 hx16 h=>cR (rI x16.1) [(0,.var (ac.rc x16.2))] (bO hx16)<|sV (rI (rW (x15+x16.1)))<|sF h (fun h=>?_) fun h=>?_
  ·refine sN<|sO<|cT<|qK<|qS<|qB<|WC.dG rfl rfl<|sV (.ptr 48 1)<|sL rfl<|sM rfl<|sV (.d (.lst ([s3].map (PD.int .i64))))<|bE h fun x18 hx18 h=>aR hx18 (fun _=>rfl) rfl<|sV (.ptr 48 2)<|sL rfl<|sM rfl ?_
   refine sV (.d (.lst ([s4].map (PD.int .i64))))<|bE h fun x19 hx19 h=>aR hx19 (fun _=>rfl) rfl<|sV (.ptr 48 1)<|sS 48 (.var [rI x1.1,.ref 432 1,.ref 512 0])<|sV (.ptr 48 2)<|sS 48 (.var [rI x1.1,.ref 432 1,.ref 512 1]) ?_
   refine sN<|sO<|WC.dG rfl rfl<|sM rfl<|sM rfl<|sV (.d (.lst ([0,10,20,35].map (PD.int .i64))))<|bE h fun x20 hx20 h=>cR (rI x20.1) [(0,.var (ac.rc x20.2))] (d4 hx20)<|sV (.ptr 48 0)<|sL rfl<|bE h fun x21 hx21 h=>WO.tV hx21 rfl rfl rfl rfl rfl rfl<|sV (rI (rW (x20.1+x21)))<|sV (rI (rW (s3+(rW (x20.1+x21)))))<|sA rfl ?_
   refine sN<|sO<|WC.region rfl rfl<|sM rfl<|sM rfl<|sV (rI (if(rW (s3+(rW (x20.1+x21))))>s4 then(rW (s3+(rW (x20.1+x21))))else s4))<|sM rfl<|sV (.d (.lst ([0,0,5,30].map (PD.int .i64))))<|bE h fun x22 hx22 h=>cR (rI x22.1) [(0,.var (ac.rc x22.2))] (d4 hx22)<|sV (rI (rW ((if(rW (s3+(rW (x20.1+x21))))>s4 then(rW (s3+(rW (x20.1+x21))))else s4)+x22.1)))<|sA rfl<|sN<|WC.region rfl rfl<|sM rfl<|sV (rI (rW (s5+(1:Int)))) ?_
   refine sA rfl<|sN ?_
   cases oI h
   exact⟨rfl,rfl⟩
  refine sN<|sO<|cF<|qX ?_
  cases oI h
  exact⟨nofun,rfl,rfl⟩
 intro e R' B' he hq
 obtain⟨rfl,hI⟩:=hq
 refine qE<|gS rfl hI<|sV (.agg [rI x1.1,.ref 432 0,.ref 512 0])<|sS 32 (.var [rI x1.1,.ref 432 0,.ref 512 0])<|sN<|qR ?_
 exact oI h▸qD
theorem pF{a1:Int}{d0:ac}{r:aJ×ac}(h:dL a1 d0=some r):EvP prog aC ext 48 [.ptr 0 0,rI a1] [.var (ac.rc d0)] (.d (aJ.pd r.1),[.var (ac.rc r.2)]):=by
 refine Ev.body rfl Tryz.func48 rfl (by kernel_rfl)<|gS rfl rfl<|sB (.ptr 64 0) 64 (.var [r0,r0,r0,r0,r0,r0,r0,.dH,.dH,r0,r0,r0,r0,r0])<|sN<|gS rfl rfl<|sM rfl<|sM rfl<|bE h fun x1 hx1 h=>cR (.d (ai.pd x1.1)) [(0,.var (ac.rc x1.2))] (Src_Box_ev hx1)<|sM rfl<|bE h fun x2 hx2 h=>cR (.agg [rI x2.1.bn,.ref 144 0,.ref 145 0]) [(0,.var (ac.rc x2.2)),(144,.arr 0 3 (x2.1.aL.map (PD.int .i64))),(145,.arr 0 3 (x2.1.aF.map (PD.int .i64)))] (qb hx2)<|sM rfl<|sV (.d (.lst ([10,50,200].map (PD.int .i64))))<|bE h fun x3 hx3 h=>?_
 refine cR (rI x3.1) [(0,.var (ac.rc x3.2))] (d4 hx3)<|sM rfl<|sV (.d (.lst ([0,0,10,40].map (PD.int .i64))))<|bE h fun x4 hx4 h=>cR (rI x4.1) [(0,.var (ac.rc x4.2))] (d4 hx4)<|sM rfl<|sV (.d (.lst ([0,50,200,400].map (PD.int .i64))))<|bE h fun x5 hx5 h=>cR (rI x5.1) [(0,.var (ac.rc x5.2))] (d4 hx5)<|sM rfl<|sV (.d (.lst ([0,5,20].map (PD.int .i64))))<|bE h fun x6 hx6 h=>cR (rI x6.1) [(0,.var (ac.rc x6.2))] (d4 hx6)<|sM rfl<|bE h fun x7 hx7 h=>?_
 refine cR (rI x7.1) [(0,.var (ac.rc x7.2))] (bO hx7)<|sV (rI (rW ((2:Int)+x7.1)))<|sG (.agg (ai.rc x1.1++[rI x2.1.bn,.ref 144 0,.ref 145 0,rI x3.1,rI x4.1,rI x5.1,rI x6.1,rI (rW ((2:Int)+x7.1))]))<|sH 64 (.var (ai.rc x1.1++[rI x2.1.bn,.ref 144 0,.ref 145 0,rI x3.1,rI x4.1,rI x5.1,rI x6.1,rI (rW ((2:Int)+x7.1))]))<|sN<|qR ?_
 cases oI h
 exact qG
theorem Src_Scale_ev{d0:ac}{r:bu×ac}(h:jF d0=some r):EvP prog aC ext 49 [.ptr 0 0] [.var (ac.rc d0)] (.d (bu.pd r.1),[.var (ac.rc r.2)]):=by
 refine Ev.body rfl Tryz.func49 rfl (by kernel_rfl)<|gS rfl rfl<|sB (.ptr 32 0) 32 (.var [r0,.dH,.dH,r0,r0])<|sN<|gS rfl rfl<|sM rfl<|bE h fun x1 hx1 h=>cR (.agg [rI x1.1.bn,.ref 96 0,.ref 97 0]) [(0,.var (ac.rc x1.2)),(96,.arr 0 3 (x1.1.aL.map (PD.int .i64))),(97,.arr 0 3 (x1.1.aF.map (PD.int .i64)))] (qb hx1)<|sM rfl<|bE h fun x2 hx2 h=>cR (rI x2.1) [(0,.var (ac.rc x2.2))] (bO hx2)<|sM rfl<|bE h fun x3 hx3 h=>cR (rI x3.1) [(0,.var (ac.rc x3.2))] (bO hx3)<|sV (rI (rW ((1:Int)+x3.1))) ?_
 refine sV (.agg [rI x1.1.bn,.ref 96 0,.ref 97 0,rI x2.1,rI (rW ((1:Int)+x3.1))])<|sB (.ptr 48 0) 48 (.var [r0,.dH,.dH,r0,r0])<|sS 48 (.var [rI x1.1.bn,.ref 96 0,.ref 97 0,rI x2.1,rI (rW ((1:Int)+x3.1))])<|sN<|qS<|gS rfl rfl<|sV (.ptr 48 0)<|sV (.ptr 48 1)<|sL rfl<|WO.ud rfl rfl rfl rfl rfl rfl rfl rfl rfl<|sV (r0)<|sN<|bE h fun o26 ho26 h=>WC.block (WC.loop (WL.gv ho26 (fun s R' B'=>cI prog 1 (A R' B') (aC.at_ 49 1 3)=some (A [(2,.ptr 32 0),(3,.ptr 48 0),(16,rI (x1.1.aL.length:Int)),(17,rI s.1)] [(0,.var (ac.rc x3.2)),(32,.var [r0,.dH,.dH,r0,r0]),(48,.var [rI x1.1.bn,.ref 96 0,.ref 97 0,rI x2.1,rI (rW ((1:Int)+x3.1))]),(96,.arr 0 3 (s.2.1.map (PD.int .i64))),(97,.arr 0 3 (s.2.2.map (PD.int .i64)))])) (fun o e R' B'=>e= .exit 0∧cI prog 1 (A R' B') (aC.at_ 49 1 7)=some (A [(2,.ptr 32 0),(3,.ptr 48 0)] [(0,.var (ac.rc x3.2)),(32,.var [r0,.dH,.dH,r0,r0]),(48,.var [rI x1.1.bn,.ref 96 0,.ref 97 0,rI x2.1,rI (rW ((1:Int)+x3.1))]),(96,.arr 0 3 (o.1.map (PD.int .i64))),(97,.arr 0 3 (o.2.map (PD.int .i64)))])) rfl ?_ ?_))
 ·rintro⟨s4,s5,s6⟩ R' B' q9 hI h
  refine gS rfl hI<|sF h (fun h=>?_) fun h=>?_
  ·refine sN<|qS<|cT<|qK<|qS<|qB<|gS rfl rfl<|sM rfl<|sA rfl<|sN<|WC.kI rfl rfl<|sV (.ptr 48 0)<|sV (.ptr 48 1)<|sL rfl<|sM rfl ?_
   refine sV (.ptr 48 0)<|sV (.ptr 48 2)<|sL rfl<|sM rfl<|sV (.ptr 48 0)<|sV (.ptr 48 1)<|sL rfl<|sM rfl<|bE h fun x12 hx12 h=>WO.qy hx12 rfl rfl rfl rfl rfl rfl rfl rfl<|bE h fun x13 hx13 h=>WO.pO hx13 rfl rfl rfl rfl rfl rfl<|bE h fun x14 hx14 h=>WO.tV hx14 rfl rfl rfl rfl rfl rfl<|sV (.ptr 48 0) ?_
   refine sV (.ptr 48 2)<|sL rfl<|sM rfl<|bE h fun x16 hx16 h=>WO.qy hx16 rfl rfl rfl rfl rfl rfl rfl rfl<|bE h fun x17 hx17 h=>WO.pO hx17 rfl rfl rfl rfl rfl rfl<|bE h fun x18 hx18 h=>WO.tV hx18 rfl rfl rfl rfl rfl rfl<|bE h fun x20 hx20 h=>WO.qy hx20 rfl rfl rfl rfl rfl rfl rfl rfl<|bE h fun x21 hx21 h=>WO.rD (g:=(PD.int .i64)) (sz:=1) (p:= .int .i64 x14) hx21 (fun _=>rfl) (fun _=>rfl) rfl rfl rfl rfl rfl rfl rfl rfl rfl<|bE h fun x23 hx23 h=>WO.qy hx23 rfl rfl rfl rfl rfl rfl rfl rfl ?_
   refine bE h fun x24 hx24 h=>WO.rD (g:=(PD.int .i64)) (sz:=1) (p:= .int .i64 x18) hx24 (fun _=>rfl) (fun _=>rfl) rfl rfl rfl rfl rfl rfl rfl rfl rfl ?_
   refine sN<|sO<|WC.region rfl rfl<|sV (rI (rW (s4+(1:Int))))<|sM rfl<|sN ?_
   cases oI h
   exact⟨rfl,rfl⟩
  refine sN<|qS<|cF<|qX ?_
  cases oI h
  exact⟨nofun,rfl,rfl⟩
 intro e R' B' he hq
 obtain⟨rfl,hI⟩:=hq
 refine qE<|gS rfl hI<|sV (.agg [rI x1.1.bn,.ref 96 0,.ref 97 0,rI x2.1,rI (rW ((1:Int)+x3.1))])<|sS 32 (.var [rI x1.1.bn,.ref 96 0,.ref 97 0,rI x2.1,rI (rW ((1:Int)+x3.1))])<|sN<|qR ?_
 exact oI h▸qD
theorem oc{a1:Int}{d0:ac}{r:ap×ac}(h:dy a1 d0=some r):EvP prog aC ext 12 [.ptr 0 0,rI a1] [.var (ac.rc d0)] (.d (ap.pd r.1),[.var (ac.rc r.2)]):=by
 refine Ev.body rfl Tryz.func12 rfl (by kernel_rfl)<|gS rfl rfl<|sB (.ptr 64 0) 64 (.var [r0,r0,r0,r0,r0,r0,r0,.dH,.dH,r0,r0,r0,r0,r0,r0,.dH,.dH,r0,r0,r0])<|sN<|gS rfl rfl<|sM rfl<|sM rfl<|bE h fun x1 hx1 h=>cR (.d (aJ.pd x1.1)) [(0,.var (ac.rc x1.2))] (pF hx1)<|sM rfl<|bE h fun x2 hx2 h=>cR (.d (bu.pd x2.1)) [(0,.var (ac.rc x2.2))] (Src_Scale_ev hx2)<|sM rfl<|sV (.d (.lst ([0,0,10,40].map (PD.int .i64))))<|bE h fun x3 hx3 h=>?_
 refine cR (rI x3.1) [(0,.var (ac.rc x3.2))] (d4 hx3)<|sG (.d (.agg [.int .i64 x1.1.aO.aL.fX,.int .i64 x1.1.aO.aL.fY,.int .i64 x1.1.aO.aL.fZ,.int .i64 x1.1.aO.aF.fX,.int .i64 x1.1.aO.aF.fY,.int .i64 x1.1.aO.aF.fZ,.int .i64 x1.1.bi.bn,.lst (x1.1.bi.aL.map (PD.int .i64)),.lst (x1.1.bi.aF.map (PD.int .i64)),.int .i64 x1.1.da,.int .i64 x1.1.bS,.int .i64 x1.1.cB,.int .i64 x1.1.lC,.int .i64 x1.1.cw,.int .i64 x2.1.b8.bn,.lst (x2.1.b8.aL.map (PD.int .i64)),.lst (x2.1.b8.aF.map (PD.int .i64)),.int .i64 x2.1.bI,.int .i64 x2.1.bw,.int .i64 x3.1]))<|sH 64 (.var (aJ.rc x1.1++bu.rc x2.1++[rI x3.1]))<|sN<|qR ?_
 cases oI h
 exact qG
theorem oa{d0:ac}{r:aP×ac}(h:eM d0=some r):EvP prog aC ext 52 [.ptr 0 0] [.var (ac.rc d0)] (.d (aP.pd r.1),[.var (ac.rc r.2)]):=by
 refine Ev.body rfl Tryz.func52 rfl (by kernel_rfl)<|gS rfl rfl<|sB (.ptr 32 0) 32 (.var [.dH])<|sN<|gS rfl rfl<|sB (.ptr 48 0) 48 (.var [.dH])<|sN<|qS<|gS rfl rfl<|sM rfl<|bE h fun x1 hx1 h=>cR (rI x1.1) [(0,.var (ac.rc x1.2))] (bO hx1)<|sA rfl<|sN<|bE h fun o28 ho28 h=>?_
 refine WC.block (WC.loop (WL.gv ho28 (fun s R' B'=>cI prog 1 (A R' B') (aC.at_ 52 1 3)=some (A [(0,.ptr 0 0),(2,.ptr 32 0),(3,.ptr 48 0),(4,rI s.1)] [(0,.var [rL s.2.1,rI s.2.2.1]),(32,.var [.dH]),(48,.var [.ref 1040 0]),(1040,.arr 0 184 (s.2.2.2.map aH.pd))])) (fun o e R' B'=>e= .exit 0∧cI prog 1 (A R' B') (aC.at_ 52 1 13)=some (A [(2,.ptr 32 0),(3,.ptr 48 0)] [(0,.var [rL o.1,rI o.2.1]),(32,.var [.dH]),(48,.var [.ref 1040 0]),(1040,.arr 0 184 (o.2.2.map aH.pd))])) rfl ?_ ?_))
 ·rintro⟨s2,s3,s4,s5⟩ R' B' q9 hI h
  refine qS<|gS rfl hI<|sM rfl<|sF h (fun h=>?_) fun h=>?_
  ·refine sN<|cT<|qK<|qS<|qB<|gS rfl rfl<|sM rfl<|bE h fun x11 hx11 h=>cR (rI x11.1) [(0,.var (ac.rc x11.2))] (bO hx11)<|sG (.agg [rI x11.1,r0,r0,r0,r0,r0,r0,.dH,r0,r0])<|sB (.ptr 80 0) 80 (.var [r0,r0,r0,r0,r0,r0,r0,.dH,r0,r0])<|sH 80 (.var [rI x11.1,r0,r0,r0,r0,r0,r0,.dH,r0,r0])<|sN<|qS<|gS rfl rfl ?_
   refine sV (.ptr 80 0)<|sL rfl<|sN<|qB<|gS rfl rfl<|sF h (fun h=>?_) fun h=>?_
   ·refine sA rfl<|sN<|cT<|WC.region rfl rfl<|sM rfl<|sV (.d (.lst ([0,1,9,99,1048575].map (PD.int .i64))))<|bE h fun x13 hx13 h=>cR (rI x13.1) [(0,.var (ac.rc x13.2))] (d4 hx13)<|sV (rI (rW ((1:Int)+x13.1)))<|sM rfl<|sV (.d (.lst ([0,0,2,9,999].map (PD.int .i64))))<|bE h fun x14 hx14 h=>cR (rI x14.1) [(0,.var (ac.rc x14.2))] (d4 hx14)<|sV (rI (rW ((1:Int)+x14.1)))<|sV (.ptr 80 1) ?_
    refine sV (.ptr 80 1)<|sS 80 (.var [rI x11.1,rI (rW ((1:Int)+x13.1)),r0,r0,r0,r0,r0,.dH,r0,r0])<|sV (.ptr 80 4)<|sV (.ptr 80 4)<|sS 80 (.var [rI x11.1,rI (rW ((1:Int)+x13.1)),r0,r0,rI (rW ((1:Int)+x14.1)),r0,r0,.dH,r0,r0])<|sN<|WC.region rfl rfl<|sV (.ptr 48 0)<|sL rfl<|sV (.agg [rI x11.1,rI (rW ((1:Int)+x13.1)),r0,r0,rI (rW ((1:Int)+x14.1)),r0,r0,.dH,r0,r0])<|sG (.d (.lst ([(aH.mk x11.1 (aW.mk (rW ((1:Int)+x13.1)) 0 0) (aW.mk (rW ((1:Int)+x14.1)) 0 0) [] 0 0)].map aH.pd)))<|bE h fun x15 hx15 h=>aR hx15 (fun _=>rfl) rfl<|sV (.ptr 48 0)<|sS 48 (.var [.ref 1040 1]) ?_
    refine sN<|WC.region rfl rfl<|sM rfl<|sV (rI (rW (s2-(1:Int))))<|sA rfl<|sN ?_
    cases oI h
    exact⟨rfl,rfl⟩
   refine sA rfl<|sN<|cF<|gS rfl rfl<|sF h (fun h=>?_) fun h=>?_
   ·refine sA rfl<|sN<|cT<|WC.region rfl rfl<|sM rfl<|bE h fun x17 hx17 h=>cR (rI x17.1) [(0,.var (ac.rc x17.2))] (bO hx17)<|sM rfl<|bE h fun x18 hx18 h=>cR (rI x18.1) [(0,.var (ac.rc x18.2))] (bO hx18)<|sV (rI (rW (x18.1-(3:Int))))<|sM rfl<|bE h fun x19 hx19 h=>cR (rI x19.1) [(0,.var (ac.rc x19.2))] (bO hx19)<|sV (rI (rW (x19.1-(1:Int)))) ?_
    refine sV (.d (aW.pd (aW.mk x17.1 (rW (x18.1-(3:Int))) (rW (x19.1-(1:Int))))))<|sM rfl<|bE h fun x20 hx20 h=>cR (rI x20.1) [(0,.var (ac.rc x20.2))] (bO hx20)<|sV (rI (rW ((1:Int)+x20.1)))<|sM rfl<|bE h fun x21 hx21 h=>cR (rI x21.1) [(0,.var (ac.rc x21.2))] (bO hx21)<|sM rfl<|bE h fun x22 hx22 h=>cR (rI x22.1) [(0,.var (ac.rc x22.2))] (bO hx22)<|sV (.d (aW.pd (aW.mk (rW ((1:Int)+x20.1)) x21.1 x22.1)))<|sV (.ptr 80 1)<|sS 80 (.var [rI x11.1,rI x17.1,rI (rW (x18.1-(3:Int))),rI (rW (x19.1-(1:Int))),r0,r0,r0,.dH,r0,r0])<|sV (.ptr 80 4) ?_
    refine sS 80 (.var [rI x11.1,rI x17.1,rI (rW (x18.1-(3:Int))),rI (rW (x19.1-(1:Int))),rI (rW ((1:Int)+x20.1)),rI x21.1,rI x22.1,.dH,r0,r0])<|sN<|WC.region rfl rfl<|sV (.ptr 48 0)<|sL rfl<|sV (.agg [rI x11.1,rI x17.1,rI (rW (x18.1-(3:Int))),rI (rW (x19.1-(1:Int))),rI (rW ((1:Int)+x20.1)),rI x21.1,rI x22.1,.dH,r0,r0])<|sG (.d (.lst ([(aH.mk x11.1 (aW.mk x17.1 (rW (x18.1-(3:Int))) (rW (x19.1-(1:Int)))) (aW.mk (rW ((1:Int)+x20.1)) x21.1 x22.1) [] 0 0)].map aH.pd)))<|bE h fun x23 hx23 h=>aR hx23 (fun _=>rfl) rfl<|sV (.ptr 48 0)<|sS 48 (.var [.ref 1040 1])<|sN<|WC.region rfl rfl<|sM rfl<|sV (rI (rW (s2-(1:Int)))) ?_
    refine sA rfl<|sN ?_
    cases oI h
    exact⟨rfl,rfl⟩
   refine sA rfl<|sN<|cF<|WC.region rfl rfl<|sM rfl<|bE h fun x24 hx24 h=>cR (rI x24.1) [(0,.var (ac.rc x24.2))] (bO hx24)<|sV (rI (rW ((1:Int)+x24.1)))<|sV (.d (.lst ([(rW ((1:Int)+x24.1)),2,1].map (PD.int .i64))))<|sM rfl<|bE h fun x25 hx25 h=>cR (rI x25.1) [(0,.var (ac.rc x25.2))] (bO hx25)<|sV (.ptr 80 7)<|sS 80 (.var [rI x11.1,r0,r0,r0,r0,r0,r0,.d (.lst ([(rW ((1:Int)+x24.1)),2,1].map (PD.int .i64))),r0,r0])<|sV (.ptr 80 8) ?_
   refine sS 80 (.var [rI x11.1,r0,r0,r0,r0,r0,r0,.d (.lst ([(rW ((1:Int)+x24.1)),2,1].map (PD.int .i64))),rI 1,r0])<|sV (.ptr 80 9)<|sS 80 (.var [rI x11.1,r0,r0,r0,r0,r0,r0,.d (.lst ([(rW ((1:Int)+x24.1)),2,1].map (PD.int .i64))),rI 1,rI x25.1])<|sN<|WC.region rfl rfl<|sV (.ptr 48 0)<|sL rfl<|sV (.d (.agg [.int .i64 x11.1,.int .i64 0,.int .i64 0,.int .i64 0,.int .i64 0,.int .i64 0,.int .i64 0,.lst ([(rW ((1:Int)+x24.1)),2,1].map (PD.int .i64)),.int .i64 1,.int .i64 x25.1]))<|sG (.d (.lst ([(aH.mk x11.1 (aW.mk 0 0 0) (aW.mk 0 0 0) [(rW ((1:Int)+x24.1)),2,1] 1 x25.1)].map aH.pd)))<|bE h fun x26 hx26 h=>aR hx26 (fun _=>rfl) rfl<|sV (.ptr 48 0)<|sS 48 (.var [.ref 1040 1])<|sN<|WC.region rfl rfl ?_
   refine sM rfl<|sV (rI (rW (s2-(1:Int))))<|sA rfl<|sN ?_
   cases oI h
   exact⟨rfl,rfl⟩
  refine sN<|cF<|qX ?_
  cases oI h
  exact⟨nofun,rfl,rfl⟩
 intro e R' B' he hq
 obtain⟨rfl,hI⟩:=hq
 refine qE<|gS rfl hI<|sV (.agg [.ref 1040 0])<|sS 32 (.var [.ref 1040 0])<|sN<|qR ?_
 exact oI h▸qD
theorem mr{a0:Int}{r:aw}(h:dN a0=some r):EvP prog aC ext 29 [rI a0] [] (.d (aw.pd r),[]):=by
 refine Ev.body rfl Tryz.func29 rfl (by kernel_rfl)<|gS rfl rfl<|sB (.ptr 32 0) 32 (.var [rS [],rS [],rS [],rS []])<|sN<|gS rfl rfl<|sV (.d (.lst ([[83,49],[83,50],[83,51],[83,52],[83,53],[83,54]].map PD.str)))<|sM rfl<|bE h fun x1 hx1 h=>cD (keep_Mod_ev hx1)<|bE h fun x2 hx2 h=>eG hx2 rfl<|sC rfl<|sV (.d (aw.pd (aw.mk [65,66] x2 [48,48] [66,72,90])))<|sS 32 (.var [rS [65,66],rS x2,rS [48,48],rS [66,72,90]])<|sN ?_
 refine qR ?_
 exact oI h▸qD
theorem qa{a1:Int}{d0:ac}{r:ar×ac}(h:fk a1 d0=some r):EvP prog aC ext 13 [.ptr 0 0,rI a1] [.var (ac.rc d0)] (.d (ar.pd r.1),[.var (ac.rc r.2)]):=by
 refine Ev.body rfl Tryz.func13 rfl (by kernel_rfl)<|gS rfl rfl<|sB (.ptr 64 0) 64 (.var [.dH])<|sN<|gS rfl rfl<|sB (.ptr 80 0) 80 (.var [.dH])<|sN<|qS<|gS rfl rfl<|sV (r0)<|sN<|bE h fun o34 ho34 h=>WC.block (WC.loop (WL.gv ho34 (fun s R' B'=>cI prog 1 (A R' B') (aC.at_ 13 1 3)=some (A [(0,.ptr 0 0),(1,rI a1),(4,.ptr 64 0),(5,.ptr 80 0),(6,rI s.1)] [(0,.var [rL s.2.1,rI s.2.2.1]),(64,.var [.dH]),(80,.var [.ref 1104 0]),(1104,.arr 0 116 (s.2.2.2.map az.pd))])) (fun o e R' B'=>e= .exit 0∧cI prog 1 (A R' B') (aC.at_ 13 1 16)=some (A [(4,.ptr 64 0),(5,.ptr 80 0)] [(0,.var [rL o.1,rI o.2.1]),(64,.var [.dH]),(80,.var [.ref 1104 0]),(1104,.arr 0 116 (o.2.2.map az.pd))])) rfl ?_ ?_))
 ·rintro⟨s1,s2,s3,s4⟩ R' B' q8 hI h
  refine qS<|gS rfl hI<|sM rfl<|sM rfl<|sF h (fun h=>?_) fun h=>?_
  ·refine sM rfl<|sM rfl<|sV (rB (decide (s1<(6:Int))))<|sF h (fun h=>?_) fun h=>?_
   ·refine sN<|cT<|qK<|qS<|qB<|gS rfl rfl<|sV (.d (bo.pd (bo.mk 100 1)))<|sM rfl<|bE h fun x11 hx11 h=>cR (.d (aa.pd x11.1)) [(0,.var (ac.rc x11.2))] (nE hx11)<|sM rfl<|bE h fun x12 hx12 h=>cR (.d (aP.pd x12.1)) [(0,.var (ac.rc x12.2))] (oa hx12)<|sG (.d (.agg [.int .i64 0,.int .i64 100000,.int .i64 100,.int .i64 1,.int .i64 x11.1.fX,.int .i64 x11.1.fY,.int .i64 x11.1.fZ,.lst (x12.1.bG.map aH.pd)]))<|sB (.ptr 112 0) 112 (.var zZ3) ?_
    refine sH 112 (.var (r0::rI 100000::rI 100::rI 1::aa.rc x11.1++[rM aH.pd x12.1.bG]))<|sN<|WC.dG rfl rfl<|sM rfl<|bE h fun x13 hx13 h=>cD (mr hx13)<|sV (.d (.agg [.int .i64 0,.int .i64 100000,.int .i64 100,.int .i64 1,.int .i64 x11.1.fX,.int .i64 x11.1.fY,.int .i64 x11.1.fZ,.lst (x12.1.bG.map aH.pd)]))<|sB (.ref 448 0) 448 (.arr 0 113 ([(av.mk 0 100000 (bo.mk 100 1) x11.1 x12.1)].map av.pd))<|sV (.agg (aw.rc x13++[.ref 448 0]))<|sB (.ptr 128 0) 128 (.var [rS [],rS [],rS [],rS [],.dH])<|sS 128 (.var (aw.rc x13++[.ref 448 0])) ?_
    refine sN<|sO<|qS<|gS rfl rfl<|sM rfl<|bE h fun x14 hx14 h=>cR (rI x14.1) [(0,.var (ac.rc x14.2))] (bO hx14)<|sN<|qB<|gS rfl rfl<|sF h (fun h=>?_) fun h=>?_
    ·refine sA rfl<|sN<|cT<|gS rfl rfl<|sV (.d (.agg [.int .i64 0,.int .i64 100000,.int .i64 100,.int .i64 1,.int .i64 x11.1.fX,.int .i64 x11.1.fY,.int .i64 x11.1.fZ,.lst (x12.1.bG.map aH.pd)]))<|sB (.ptr 144 0) 144 (.var zZ3)<|sH 144 (.var (r0::rI 100000::rI 100::rI 1::aa.rc x11.1++[rM aH.pd x12.1.bG]))<|sN<|gS rfl rfl<|sM rfl<|bE h fun x16 hx16 h=>cR (rI x16.1) [(0,.var (ac.rc x16.2))] (bO hx16)<|sV (rI (rW ((1500:Int)+x16.1)))<|sM rfl<|bE h fun x17 hx17 h=>?_
     refine cR (.d (aa.pd x17.1)) [(0,.var (ac.rc x17.2))] (nE hx17)<|sM rfl<|bE h fun x18 hx18 h=>cR (.d (aP.pd x18.1)) [(0,.var (ac.rc x18.2))] (oa hx18)<|sV (.ptr 144 0)<|sS 144 (.var (rI (rW ((1500:Int)+x16.1))::rI 100000::rI 100::rI 1::aa.rc x11.1++[rM aH.pd x12.1.bG]))<|sV (.ptr 144 4)<|sS 144 (.var (rI (rW ((1500:Int)+x16.1))::rI 100000::rI 100::rI 1::aa.rc x17.1++[rM aH.pd x12.1.bG]))<|sV (.ptr 144 7)<|sS 144 (.var (rI (rW ((1500:Int)+x16.1))::rI 100000::rI 100::rI 1::aa.rc x17.1++[rM aH.pd x18.1.bG]))<|sN<|gS rfl rfl<|sV (.ptr 128 4)<|sL rfl<|sV (.ptr 144 0) ?_
     refine sL rfl<|bE h fun x20 hx20 h=>WO.qy hx20 rfl rfl rfl rfl rfl rfl rfl rfl<|sV (.elt 448 0 ((0:Int)).toNat 1)<|bE h fun x21 hx21 h=>WO.A4 (g:=av.pd) (u:=[]) (sz:=1) hx21 (fun _=>rfl) (fun _=>Nat.le_of_ble_eq_true rfl) rfl rfl rfl rfl rfl rfl rfl rfl rfl rfl rfl<|sN<|WC.region rfl rfl<|sV (.ptr 128 4)<|sL rfl<|sV (.d (.agg [.int .i64 (rW ((1500:Int)+x16.1)),.int .i64 100000,.int .i64 100,.int .i64 1,.int .i64 x17.1.fX,.int .i64 x17.1.fY,.int .i64 x17.1.fZ,.lst (x18.1.bG.map aH.pd)]))<|sG (.d (.lst ([(av.mk (rW ((1500:Int)+x16.1)) 100000 (bo.mk 100 1) x17.1 x18.1)].map av.pd)))<|bE h fun x23 hx23 h=>aR hx23 (fun _=>rfl) rfl<|sV (.ptr 128 4) ?_
     refine sS 128 (.var (aw.rc x13++[.ref 448 1]))<|sN<|WC.region rfl rfl<|sV (.ptr 80 0)<|sL rfl<|sV (.agg (aw.rc x13++[.ref 448 1]))<|sB (.d (.lst [az.pd (az.mk x13 x23)])) 448 .dead<|bE h fun x24 hx24 h=>aR hx24 (fun _=>rfl) rfl<|sV (.ptr 80 0)<|sS 80 (.var [.ref 1104 1])<|sN<|WC.region rfl rfl<|sM rfl<|sV (rI (rW (s1+(1:Int)))) ?_
     refine sA rfl<|sN ?_
     cases oI h
     exact⟨rfl,rfl⟩
    refine sA rfl<|sN<|cF<|gS rfl rfl<|sF h (fun h=>?_) fun h=>?_
    ·refine sA rfl<|sN<|cT<|WC.kI rfl rfl<|sV (.ptr 128 4)<|sL rfl<|sM rfl<|bE h fun x26 hx26 h=>cR (rI x26.1) [(0,.var (ac.rc x26.2))] (bO hx26)<|bE h fun x28 hx28 h=>WO.qy hx28 rfl rfl rfl rfl rfl rfl rfl rfl<|sV (.elt 448 0 ((0:Int)).toNat 0)<|bE h fun x29 hx29 h=>WO.A4 (g:=av.pd) (u:=[]) (sz:=1) hx29 (fun _=>rfl) (fun _=>Nat.le_of_ble_eq_true rfl) rfl rfl rfl rfl rfl rfl rfl rfl rfl rfl rfl ?_
     refine sN<|sO<|WC.region rfl rfl<|sV (.ptr 80 0)<|sL rfl<|sV (.agg (aw.rc x13++[.ref 448 0]))<|sB (.d (.lst [az.pd (az.mk x13 x29)])) 448 .dead<|bE h fun x31 hx31 h=>aR hx31 (fun _=>rfl) rfl<|sV (.ptr 80 0)<|sS 80 (.var [.ref 1104 1])<|sN<|WC.region rfl rfl<|sM rfl<|sV (rI (rW (s1+(1:Int))))<|sA rfl ?_
     refine sN ?_
     cases oI h
     exact⟨rfl,rfl⟩
    refine sA rfl<|sN<|cF<|qK<|WC.region rfl rfl<|sV (.ptr 80 0)<|sL rfl<|sV (.agg (aw.rc x13++[.ref 448 0]))<|sB (.d (.lst [az.pd (az.mk x13 [(av.mk 0 100000 (bo.mk 100 1) x11.1 x12.1)])])) 448 .dead<|bE h fun x32 hx32 h=>aR hx32 (fun _=>rfl) rfl<|sV (.ptr 80 0)<|sS 80 (.var [.ref 1104 1])<|sN<|WC.region rfl rfl ?_
    refine sM rfl<|sV (rI (rW (s1+(1:Int))))<|sA rfl<|sN ?_
    cases oI h
    exact⟨rfl,rfl⟩
   refine sN<|cF<|qX ?_
   cases oI h
   exact⟨nofun,rfl,rfl⟩
  refine sM rfl<|sK<|sK<|sU<|sN<|cF<|qX ?_
  cases oI h
  exact⟨nofun,rfl,rfl⟩
 intro e R' B' he hq
 obtain⟨rfl,hI⟩:=hq
 refine qE<|gS rfl hI<|sV (.agg [.ref 1104 0])<|sS 64 (.var [.ref 1104 0])<|sN<|qR ?_
 exact oI h▸qD
theorem nF{a1:Int}{a2:Int}{d0:ac}{r:Int×ac}(h:md a1 a2 d0=some r):EvP prog aC ext 73 [.ptr 0 0,rI a1,rI a2] [.var (ac.rc d0)] (rI r.1,[.var (ac.rc r.2)]):=by
 refine Ev.body rfl Tryz.func73 rfl (by kernel_rfl)<|gS rfl rfl<|sV (r0)<|sN<|gS rfl rfl<|sM rfl<|sM rfl<|sM rfl<|sM rfl<|sV (rI (rW (a2-a1)))<|sV (rI (rW ((rW (a2-a1))+(1:Int))))<|bE h fun x1 hx1 h=>cR (rI x1.1) [(0,.var (ac.rc x1.2))] (bO hx1)<|sV (rI (rW (a1+x1.1)))<|sA rfl ?_
 refine sN<|qR ?_
 exact oI h▸qD
theorem p9{a1:ai}{d0:ac}{r:aa×ac}(h:nh a1 d0=some r):EvP prog aC ext 27 [.ptr 0 0,.d (ai.pd a1)] [.var (ac.rc d0)] (.d (aa.pd r.1),[.var (ac.rc r.2)]):=by
 refine Ev.body rfl Tryz.func27 rfl (by kernel_rfl)<|gS rfl rfl<|sB (.ptr 48 0) 48 (.var (ai.rc a1))<|sB (.ptr 64 0) 64 (.var [r0,r0,r0])<|sN<|WC.dG rfl rfl<|sM rfl<|sV (.ptr 48 0)<|sV (.ptr 48 0)<|sL rfl<|sV (.ptr 48 3)<|sV (.ptr 48 3)<|sL rfl<|bE h fun x1 hx1 h=>cR (rI x1.1) [(0,.var (ac.rc x1.2))] (nF hx1) ?_
 refine sM rfl<|sV (.ptr 48 0)<|sV (.ptr 48 1)<|sL rfl<|sV (.ptr 48 3)<|sV (.ptr 48 4)<|sL rfl<|bE h fun x2 hx2 h=>cR (rI x2.1) [(0,.var (ac.rc x2.2))] (nF hx2)<|sM rfl<|sV (.ptr 48 0)<|sV (.ptr 48 2)<|sL rfl<|sV (.ptr 48 3)<|sV (.ptr 48 5) ?_
 refine sL rfl<|bE h fun x3 hx3 h=>cR (rI x3.1) [(0,.var (ac.rc x3.2))] (nF hx3)<|sV (.d (aa.pd (aa.mk x1.1 x2.1 x3.1)))<|sS 64 (.var [rI x1.1,rI x2.1,rI x3.1]) ?_
 refine sN<|sO<|qR ?_
 exact oI h▸qD
theorem keep_place_ev{a0:ar}{a1:aw}{a2:Int}{r:aa×Bool}(h:nQ a0 a1 a2=some r):EvP prog aC ext 53 [.d (ar.pd a0),.d (aw.pd a1),rI a2] [] (.tup [.d (aa.pd r.1),rB r.2],[]):=by
 refine Ev.body rfl Tryz.func53 rfl (by kernel_rfl)<|gS rfl rfl<|sB (.ptr 48 0) 48 (.var [rM az.pd a0.aT])<|sB (.ptr 64 0) 64 (.var (aw.rc a1))<|sB (.ptr 96 0) 96 (.var [r0,r0,r0])<|sU<|sN<|qS<|gS rfl rfl<|sV (.ptr 48 0)<|sL rfl<|sE (rI (a0.aT.length:Int)) (dT _ _)<|sV (r0)<|sN<|bE h fun o18 ho18 h=>?_
 refine WC.block (WC.loop (WL.gv ho18 (fun s R' B'=>cI prog 0 (A R' B') (aC.at_ 53 0 2)=some (A [(2,rI a2),(4,.ptr 64 0),(6,.ptr 96 0),(13,rM az.pd a0.aT),(14,rI (a0.aT.length:Int)),(15,rI s)] [(64,.var (aw.rc a1)),(96,.var [r0,r0,r0])])) (fun o e R' B'=>match o with| .inl y=>e= .exit 0∧cI prog 0 (A R' B') (aC.at_ 53 0 11)=some (A [(6,.ptr 96 0)] [(96,.var [r0,r0,r0])])| .inr r=>e= .ret∧finish prog (aC.own 53) Tryz.f53 0 (A R' B')=some (.tup [.d (aa.pd r.1),rB r.2],[])) rfl ?_ ?_))
 ·rintro s1 R' B' q2 hI h
  refine gS rfl hI<|sF h (fun h=>?_) fun h=>?_
  ·refine sN<|qS<|cT<|qK<|qS<|qB<|gS rfl rfl<|bE h fun x4 hx4 h=>eG hx4 rfl<|sV (.d (az.pd x4))<|sB (.ptr 144 0) 144 (.var [rS [],rS [],rS [],rS [],.dH])<|sS 144 (.var (az.rc x4))<|sN<|gS rfl rfl<|sV (.ptr 144 4) ?_
   refine sL rfl<|sE (rI (x4.bM.length:Int)) (dT _ _)<|sV (r0)<|sN<|bE h fun o14 ho14 h=>WC.block (WC.loop (WL.gv ho14 (fun s R' B'=>cI prog 0 (A R' B') (aC.at_ 53 0 5)=some (A [(2,rI a2),(4,.ptr 64 0),(6,.ptr 96 0),(9,.ptr 144 0),(13,rM az.pd a0.aT),(14,rI (a0.aT.length:Int)),(15,rI s1),(20,rM av.pd x4.bM),(21,rI (x4.bM.length:Int)),(22,rI s)] [(64,.var (aw.rc a1)),(96,.var [r0,r0,r0]),(144,.var (az.rc x4))])) (fun o e R' B'=>match o with| .inl y=>e= .exit 2∧cI prog 0 (A R' B') (aC.at_ 53 0 10)=some (A [(2,rI a2),(4,.ptr 64 0),(6,.ptr 96 0),(13,rM az.pd a0.aT),(14,rI (a0.aT.length:Int)),(15,rI y)] [(64,.var (aw.rc a1)),(96,.var [r0,r0,r0])])| .inr r=>e= .ret∧finish prog (aC.own 53) Tryz.f53 0 (A R' B')=some (.tup [.d (aa.pd r.1),rB r.2],[])) rfl ?_ ?_))
   ·rintro s5 R' B' q7 hI h
    refine gS rfl hI<|sF h (fun h=>?_) fun h=>?_
    ·refine sN<|qS<|cT<|qK<|qS<|qB<|gS rfl rfl<|bE h fun x9 hx9 h=>eG hx9 rfl<|sV (.d (av.pd x9))<|sB (.ptr 176 0) 176 (.var zZ3)<|sH 176 (.var (av.rc x9))<|sN<|gS rfl rfl<|sV (.ptr 144 0) ?_
     refine sV (.d (aw.pd x4.aD))<|sV (.d (aw.pd a1))<|kB h (fun hb10 h=>?_) (fun hb10 h=>?_)
     ·refine WO.uS (eqE_64 x4.aD a1) hb10 rfl rfl rfl rfl rfl<|sM rfl<|sV (.ptr 176 0)<|sL rfl<|sM rfl<|sV (rB (decide (x9.bp<=a2)))<|sF h (fun h=>?_) fun h=>?_
      ·refine sM rfl<|sM rfl<|sV (.ptr 176 1)<|sL rfl<|sV (rB (decide (a2<x9.fTo)))<|sF h (fun h=>?_) fun h=>?_
       ·refine sN<|cT<|gS rfl rfl<|sV (.ptr 176 4)<|sV (.d (aa.pd x9.bj))<|sS 96 (.var (aa.rc x9.bj))<|sT<|sN<|qR ?_
        cases oI h
        exact⟨nofun,rfl,rfl⟩
       refine sN<|cF<|qK<|WC.region rfl rfl<|sV (rI (rW (s5+(1:Int))))<|sM rfl<|sN ?_
       cases oI h
       exact⟨rfl,rfl⟩
      refine sM rfl<|k3<|sK<|sU<|sN<|cF<|qK<|WC.region rfl rfl<|sV (rI (rW (s5+(1:Int))))<|sM rfl<|sN ?_
      cases oI h
      exact⟨rfl,rfl⟩
     refine WO.uS (eqE_64 x4.aD a1) hb10 rfl rfl rfl rfl rfl<|sM rfl<|k3<|sK<|sU<|sM rfl<|k3<|sK<|sU<|sN<|cF ?_
     refine qK<|WC.region rfl rfl<|sV (rI (rW (s5+(1:Int))))<|sM rfl<|sN ?_
     cases oI h
     exact⟨rfl,rfl⟩
    refine sN<|qS<|cF<|qX ?_
    cases oI h
    exact⟨nofun,rfl,rfl⟩
   intro e R' B' he hq
   rcases o14 with y15|r16
   ·obtain⟨rfl,hI⟩:=hq
    refine qE<|WC.region hI rfl<|sV (rI (rW (y15+(1:Int))))<|sM rfl<|sN ?_
    cases oI h
    exact⟨rfl,rfl⟩
   obtain⟨rfl,hf⟩:=hq
   cases oI h
   exact⟨nofun,rfl,hf⟩
  refine sN<|qS<|cF<|qX ?_
  cases oI h
  exact⟨nofun,rfl,rfl⟩
 intro e R' B' he hq
 rcases o18 with y19|r20
 ·obtain⟨rfl,hI⟩:=hq
  refine qE<|gS rfl hI<|sV (.d (aa.pd (aa.mk 0 0 0)))<|sS 96 (.var [r0,r0,r0])<|sU<|sN<|qR ?_
  exact oI h▸qD
 obtain⟨rfl,hf⟩:=hq
 cases oI h
 exact hf
theorem pL{a0:Int}{r:Int}(h:o0 a0=some r):EvP prog aC ext 54 [rI a0] [] (rI r,[]):=by
 refine Ev.body rfl Tryz.func54 rfl (by kernel_rfl)<|gS rfl rfl<|sV (r0)<|sN<|gS rfl rfl<|sM rfl<|sM rfl<|sV (rI (rW (a0*a0)))<|sA rfl<|sN<|qR ?_
 exact oI h▸qD
theorem Src_Picks_ev{a1:ap}{a2:ar}{a3:Int}{d0:ac}{r:(List ae)×ac}(h:ng a1 a2 a3 d0=some r):EvP prog aC ext 14 [.ptr 0 0,.d (ap.pd a1),.d (ar.pd a2),rI a3] [.var (ac.rc d0)] (rM ae.pd r.1,[.var (ac.rc r.2)]):=by
 refine Ev.body rfl Tryz.func14 rfl (by kernel_rfl)<|gS rfl rfl<|sB (.ptr 80 0) 80 (.var (ap.rc a1))<|sB (.ptr 96 0) 96 (.var [rM az.pd a2.aT])<|sV .dH<|sN<|gS rfl rfl<|sV .dH<|sN<|gS rfl rfl<|sM rfl<|sV (.ptr 80 0)<|sV (.ptr 80 0)<|sV (.d (ai.pd a1.ah.aO))<|bE h fun x1 hx1 h=>?_
 refine cR (.d (aa.pd x1.1)) [(0,.var (ac.rc x1.2))] (p9 hx1)<|sM rfl<|bE h fun x2 hx2 h=>cR (rI x2.1) [(0,.var (ac.rc x2.2))] (bO hx2)<|sV (rI (rW ((1000:Int)+x2.1)))<|sB (.ptr 160 0) 160 (.var [r0,r0,r0])<|sS 160 (.var (aa.rc x1.1))<|sA rfl<|sN<|qS<|gS rfl rfl<|sM rfl<|sM rfl<|sV (rI (rW (a3+(1:Int))))<|bE h fun x3 hx3 h=>?_
 refine cR (rI x3.1) [(0,.var (ac.rc x3.2))] (bO hx3)<|sA rfl<|sN<|bE h fun o61 ho61 h=>WC.block (WC.loop (WL.gv ho61 (fun s R' B'=>cI prog 1 (A R' B') (aC.at_ 14 1 4)=some (A [(0,.ptr 0 0),(5,.ptr 80 0),(6,.ptr 96 0),(9,.ref 2192 0),(10,.ptr 160 0),(11,rI s.1),(12,rI s.2.1)] [(0,.var [rL s.2.2.1,rI s.2.2.2.1]),(80,.var (ap.rc a1)),(96,.var [rM az.pd a2.aT]),(160,.var [rI s.2.2.2.2.2.1,rI s.2.2.2.2.2.2.1,rI s.2.2.2.2.2.2.2]),(2192,.arr 0 66 (s.2.2.2.2.1.map ae.pd))])) (fun o e R' B'=>e= .exit 0∧cI prog 1 (A R' B') (aC.at_ 14 1 21)=some (A [(9,.ref 2192 0)] [(0,.var [rL o.2.1,rI o.2.2]),(2192,.arr 0 66 (o.1.map ae.pd))])) rfl ?_ ?_))
 ·rintro⟨s4,s5,s6,s7,s8,s9,s10,s11⟩ R' B' q15 hI h
  refine qS<|gS rfl hI<|sM rfl<|sF h (fun h=>?_) fun h=>?_
  ·refine sN<|cT<|qK<|qS<|qB<|gS rfl rfl<|sM rfl<|bE h fun x17 hx17 h=>cR (rI x17.1) [(0,.var (ac.rc x17.2))] (bO hx17)<|bE h fun x18 hx18 h=>cD (mr hx18)<|sM rfl<|sV (.d (.lst ([0,1,50,1000,1048576].map (PD.int .i64))))<|bE h fun x19 hx19 h=>cR (rI x19.1) [(0,.var (ac.rc x19.2))] (d4 hx19) ?_
   refine sM rfl<|bE h fun x20 hx20 h=>cR (rI x20.1) [(0,.var (ac.rc x20.2))] (bO hx20)<|sV (rI (rW (x20.1-(1:Int))))<|sG (.d (ae.pd (ae.mk x18 0 0 0 x19.1 (rW (x20.1-(1:Int))))))<|sB (.ptr 208 0) 208 (.var zZ2)<|sH 208 (.var (aw.rc x18++[r0,r0,r0,rI x19.1,rI (rW (x20.1-(1:Int)))]))<|sN<|gS rfl rfl<|sM rfl<|bE h fun x21 hx21 h=>cR (rI x21.1) [(0,.var (ac.rc x21.2))] (bO hx21)<|sV (rI (rW ((1000:Int)+x21.1)))<|sV (.ptr 208 5)<|sS 208 (.var (aw.rc x18++[r0,rI (rW ((1000:Int)+x21.1)),r0,rI x19.1,rI (rW (x20.1-(1:Int)))])) ?_
   refine sN<|WC.join (α:=Int×Int×(List Int)×Int×(List ae)×Int×Int×Int×Int) (fun x R' B'=>cI prog 1 (A R' B') (aC.at_ 14 1 18)=some (A [(0,.ptr 0 0),(5,.ptr 80 0),(6,.ptr 96 0),(9,.ref 2192 0),(10,.ptr 160 0),(11,rI x.1),(12,rI x.2.1),(13,.ptr 208 0)] [(0,.var [rL x.2.2.1,rI x.2.2.2.1]),(80,.var (ap.rc a1)),(96,.var [rM az.pd a2.aT]),(160,.var [rI x.2.2.2.2.2.1,rI x.2.2.2.2.2.2.1,rI x.2.2.2.2.2.2.2.1]),(208,.var (aw.rc x18++[r0,rI x.2.2.2.2.2.2.2.2,r0,rI x19.1,rI (rW (x20.1-(1:Int)))])),(2192,.arr 0 66 (x.2.2.2.2.1.map ae.pd))])) (fun x=>fM x18 x19 x20 x.1 x.2.1 x.2.2.1 x.2.2.2.1 x.2.2.2.2.1 x.2.2.2.2.2.1 x.2.2.2.2.2.2.1 x.2.2.2.2.2.2.2.1 x.2.2.2.2.2.2.2.2=some q15) ?_ ?_
   ·refine gS rfl rfl<|sM rfl<|bE h fun x35 hx35 h=>cR (rI x35.1) [(0,.var (ac.rc x35.2))] (bO hx35)<|sN<|qB<|gS rfl rfl<|sF h (fun h=>?_) fun h=>?_
    ·refine sA rfl<|sN<|cT<|WC.region rfl rfl<|sM rfl<|sV (.ptr 80 0)<|sV (.ptr 80 0)<|sV (.d (ai.pd a1.ah.aO))<|bE h fun x37 hx37 h=>cR (.d (aa.pd x37.1)) [(0,.var (ac.rc x37.2))] (p9 hx37)<|sM rfl<|sM rfl<|bE h fun x38 hx38 h=>cR (rI x38.1) [(0,.var (ac.rc x38.2))] (bO hx38)<|sV (rI (rW (s4+x38.1))) ?_
     exact sS 160 (.var (aa.rc x37.1))<|sA rfl<|sN<|⟨((rW (s4+x38.1)),s5,x38.2.fL,x38.2.fAt,s8,x37.1.fX,x37.1.fY,x37.1.fZ,(rW ((1000:Int)+x21.1))),rfl,h⟩
    refine sA rfl<|sN<|cF<|gS rfl rfl<|sF h (fun h=>?_) fun h=>?_
    ·exact sA rfl<|sN<|cT<|qK<|⟨(s4,s5,x35.2.fL,x35.2.fAt,s8,s9,s10,s11,(rW ((1000:Int)+x21.1))),rfl,h⟩
    refine sA rfl<|sN<|cF<|gS rfl rfl<|sV (.d (ar.pd a2))<|sV (.ptr 208 0)<|sV (.d (aw.pd x18))<|sM rfl<|bE h fun x40 hx40 h=>cR (.tup [.d (aa.pd x40.1),rB x40.2]) [] (keep_place_ev hx40)<|sM rfl<|sV (.d (aa.pd x40.1))<|sV (rB x40.2)<|sB (.ptr 224 0) 224 (.var [r0,r0,r0])<|sS 224 (.var (aa.rc x40.1)) ?_
    refine sA rfl<|sN<|gS rfl rfl<|sF h (fun h=>?_) fun h=>?_
    ·refine sN<|cT<|gS rfl rfl<|sV (r0)<|sN<|qS<|bE h fun o56 ho56 h=>WC.block (WC.loop (WL.gv ho56 (fun s R' B'=>cI prog 1 (A R' B') (aC.at_ 14 1 12)=some (A [(0,.ptr 0 0),(5,.ptr 80 0),(6,.ptr 96 0),(9,.ref 2192 0),(10,.ptr 160 0),(11,rI s4),(12,rI s5),(13,.ptr 208 0),(14,.ptr 224 0),(16,rI s)] [(0,.var (ac.rc x35.2)),(80,.var (ap.rc a1)),(96,.var [rM az.pd a2.aT]),(160,.var [rI s9,rI s10,rI s11]),(208,.var (aw.rc x18++[r0,rI (rW ((1000:Int)+x21.1)),r0,rI x19.1,rI (rW (x20.1-(1:Int)))])),(224,.var (aa.rc x40.1)),(2192,.arr 0 66 (s8.map ae.pd))])) (fun o e R' B'=>e= .exit 3∧cI prog 1 (A R' B') (aC.at_ 14 1 14)=some (A [(0,.ptr 0 0),(5,.ptr 80 0),(6,.ptr 96 0),(9,.ref 2192 0),(10,.ptr 160 0),(11,rI o.1),(12,rI o.2.1),(13,.ptr 208 0),(16,rI o.2.2.1)] [(0,.var (ac.rc x35.2)),(80,.var (ap.rc a1)),(96,.var [rM az.pd a2.aT]),(160,.var [rI o.2.2.2.2.1,rI o.2.2.2.2.2.1,rI o.2.2.2.2.2.2]),(208,.var (aw.rc x18++[r0,rI (rW ((1000:Int)+x21.1)),r0,rI x19.1,rI (rW (x20.1-(1:Int)))])),(2192,.arr 0 66 (o.2.2.2.1.map ae.pd))])) rfl ?_ ?_))
     ·rintro s42 R' B' q50 hI h
      refine qS<|WC.dG hI rfl<|sM rfl<|sM rfl<|sV (rI (rW (s42*s42)))<|sV (.ptr 224 0)<|sL rfl<|sV (.ptr 160 0)<|sL rfl<|sV (rI (rW (x40.1.fX-s9)))<|bE h fun x51 hx51 h=>cD (pL hx51)<|sV (.ptr 224 1)<|sL rfl<|sV (.ptr 160 1) ?_
      refine sL rfl<|sV (rI (rW (x40.1.fY-s10)))<|bE h fun x52 hx52 h=>cD (pL hx52)<|sV (rI (rW (x51+x52)))<|sV (.ptr 224 2)<|sL rfl<|sV (.ptr 160 2)<|sL rfl<|sV (rI (rW (x40.1.fZ-s11)))<|bE h fun x53 hx53 h=>cD (pL hx53)<|sV (rI (rW ((rW (x51+x52))+x53)))<|sF h (fun h=>?_) fun h=>?_
      ·refine sN<|sO<|cT<|qK<|qB<|WC.region rfl rfl<|sM rfl<|sV (rI (rW (s42+(1:Int))))<|sA rfl<|sN ?_
       cases oI h
       exact⟨rfl,rfl⟩
      refine sN<|sO<|cF<|qX ?_
      cases oI h
      exact⟨nofun,rfl,rfl⟩
     intro e R' B' he hq
     obtain⟨rfl,hI⟩:=hq
     refine qE<|WC.kI hI rfl<|sM rfl<|sV (.ptr 80 0)<|sV (.ptr 80 6)<|sV (.ptr 80 7)<|sL rfl<|sM rfl<|sV (.ptr 80 0)<|sV (.ptr 80 6)<|sV (.ptr 80 6)<|sL rfl<|bE h fun x57 hx57 h=>WO.tV hx57 rfl rfl rfl rfl rfl rfl<|sV (.ptr 80 0) ?_
     refine sV (.ptr 80 6)<|sV (.ptr 80 7)<|sL rfl<|sE (rI (a1.ah.bi.aL.length:Int)) (dT _ _)<|sV (rI (rW ((a1.ah.bi.aL.length:Int)-(1:Int))))<|sV (rI (if(rW ((a1.ah.bi.aL.length:Int)-(1:Int)))<x57 then(rW ((a1.ah.bi.aL.length:Int)-(1:Int)))else x57))<|bE h fun x58 hx58 h=>eG hx58 rfl<|sC rfl<|sV (rI (rW (o56.1+x58)))<|sM rfl<|bE h fun x59 hx59 h=>cR (rI x59.1) [(0,.var (ac.rc x59.2))] (bO hx59)<|sV (rI (rW ((rW (o56.1+x58))+x59.1)))<|sV (.ptr 208 5) ?_
     refine sS 208 (.var (aw.rc x18++[r0,rI (rW ((rW (o56.1+x58))+x59.1)),r0,rI x19.1,rI (rW (x20.1-(1:Int)))])) ?_
     exact sN<|sO<|⟨(o56.1,o56.2.1,x59.2.fL,x59.2.fAt,o56.2.2.2.1,o56.2.2.2.2.1,o56.2.2.2.2.2.1,o56.2.2.2.2.2.2,(rW ((rW (o56.1+x58))+x59.1))),rfl,h⟩
    exact sN<|cF<|qK<|⟨(s4,s5,x35.2.fL,x35.2.fAt,s8,s9,s10,s11,(rW ((1000:Int)+x21.1))),rfl,h⟩
   rintro⟨j22,j23,j24,j25,j26,j27,j28,j29,j30⟩ R' B' hI h
   refine WC.dG hI rfl<|sV (.ptr 208 5)<|sL rfl<|sM rfl<|bE h fun x31 hx31 h=>cR (rI x31.1) [(0,.var (ac.rc x31.2))] (bO hx31)<|sV (rI (rW (j30+x31.1)))<|sV (.ptr 208 4)<|sS 208 (.var (aw.rc x18++[rI (rW (j30+x31.1)),rI j30,r0,rI x19.1,rI (rW (x20.1-(1:Int)))])) ?_
   refine sN<|sO<|WC.dG rfl rfl<|sV (.ptr 208 4)<|sL rfl<|sM rfl<|bE h fun x32 hx32 h=>cR (rI x32.1) [(0,.var (ac.rc x32.2))] (bO hx32)<|sV (rI (rW ((rW (j30+x31.1))+x32.1)))<|sV (.ptr 208 6)<|sS 208 (.var (aw.rc x18++[rI (rW (j30+x31.1)),rI j30,rI (rW ((rW (j30+x31.1))+x32.1)),rI x19.1,rI (rW (x20.1-(1:Int)))])) ?_
   refine sN<|sO<|WC.region rfl rfl<|sM rfl<|sV (.d (ae.pd (ae.mk x18 (rW (j30+x31.1)) j30 (rW ((rW (j30+x31.1))+x32.1)) x19.1 (rW (x20.1-(1:Int))))))<|sG (.d (.lst ([(ae.mk x18 (rW (j30+x31.1)) j30 (rW ((rW (j30+x31.1))+x32.1)) x19.1 (rW (x20.1-(1:Int))))].map ae.pd)))<|bE h fun x33 hx33 h=>aR hx33 (fun _=>rfl) rfl<|sA rfl<|sN<|WC.region rfl rfl<|sM rfl<|sV (rI (rW (j23-(1:Int))))<|sA rfl<|sN ?_
   cases oI h
   exact⟨rfl,rfl⟩
  refine sN<|cF<|qX ?_
  cases oI h
  exact⟨nofun,rfl,rfl⟩
 intro e R' B' he hq
 obtain⟨rfl,hI⟩:=hq
 refine qE<|gS rfl hI<|sM rfl<|sA rfl<|sN<|qR ?_
 exact oI h▸qD
theorem bL{a0:aa}{r:aW}(h:bv a0=some r):EvP prog aC ext 188 [.d (aa.pd a0)] [] (.d (aW.pd r),[]):=by
 refine Ev.body rfl Tryz.func188 rfl (by kernel_rfl)<|gS rfl rfl<|sB (.ptr 16 0) 16 (.var (aa.rc a0))<|sB (.ptr 32 0) 32 (.var [r0,r0,r0])<|sN<|gS rfl rfl<|sV (.ptr 16 0)<|sL rfl<|sV (.ptr 16 1)<|sL rfl<|sV (.ptr 16 2)<|sL rfl<|sV (.d (aW.pd (aW.mk a0.fX a0.fY a0.fZ)))<|sS 32 (.var (aa.rc a0))<|sN ?_
 refine qR ?_
 exact oI h▸qD
theorem c6{a0:aa}{r:Bool}(h:cK a0=some r):EvP prog aC ext 272 [.d (aa.pd a0)] [] (rB r,[]):=by
 refine Ev.body rfl Tryz.func272 rfl (by kernel_rfl)<|gS rfl rfl<|sB (.ptr 16 0) 16 (.var (aa.rc a0))<|sU<|sN<|gS rfl rfl<|sV (.d (aW.pd (aW.mk (-1048576) (-1048576) (-16384))))<|sB (.ptr 48 0) 48 (.var [r0,r0,r0])<|sS 48 (.var [rI (-1048576),rI (-1048576),rI (-16384)])<|sN<|qS<|gS rfl rfl<|sV (.d (aa.pd a0))<|bE h fun x1 hx1 h=>cD (bL hx1) ?_
 refine sV (r0)<|sN<|WC.block (WC.loop ?_)
 refine WL.round<|gS rfl rfl<|sT<|sN<|qS<|cT<|qK<|qS<|qB<|gS rfl rfl<|sM rfl<|sV (rI x1.a0)<|sA rfl<|sA rfl<|sN ?_
 refine gS rfl rfl<|sM rfl<|sM rfl<|sV (.ptr 48 0)<|sL rfl<|sF h (fun h=>?_) fun h=>?_
 ·refine sM rfl<|sK<|sK<|sT<|sN<|cT<|gS rfl rfl<|sU<|sN<|qR ?_
  exact oI h▸qD
 refine sM rfl<|sM rfl<|sV (rB (decide (x1.a0>(1048576:Int))))<|sF h (fun h=>?_) fun h=>?_
 ·refine sN<|cT<|gS rfl rfl<|sU<|sN<|qR ?_
  exact oI h▸qD
 refine sN<|cF<|qK<|WC.region rfl rfl<|sV (rI 1)<|sM rfl<|sN<|WL.round<|gS rfl rfl<|sT<|sN<|qS<|cT<|qK<|qS ?_
 refine qB<|gS rfl rfl<|sM rfl<|sV (rI x1.a1)<|sA rfl<|sA rfl<|sN<|gS rfl rfl<|sM rfl<|sM rfl<|sV (.ptr 48 1)<|sL rfl<|sF h (fun h=>?_) fun h=>?_
 ·refine sM rfl<|sK<|sK<|sT<|sN<|cT<|gS rfl rfl<|sU<|sN<|qR ?_
  exact oI h▸qD
 refine sM rfl<|sM rfl<|sV (rB (decide (x1.a1>(1048576:Int))))<|sF h (fun h=>?_) fun h=>?_
 ·refine sN<|cT<|gS rfl rfl<|sU<|sN<|qR ?_
  exact oI h▸qD
 refine sN<|cF<|qK<|WC.region rfl rfl<|sV (rI 2)<|sM rfl<|sN<|WL.round<|gS rfl rfl<|sT<|sN<|qS<|cT<|qK<|qS ?_
 refine qB<|gS rfl rfl<|sM rfl<|sV (rI x1.a2)<|sA rfl<|sA rfl<|sN<|gS rfl rfl<|sM rfl<|sM rfl<|sV (.ptr 48 2)<|sL rfl<|sF h (fun h=>?_) fun h=>?_
 ·refine sM rfl<|sK<|sK<|sT<|sN<|cT<|gS rfl rfl<|sU<|sN<|qR ?_
  exact oI h▸qD
 refine sM rfl<|sM rfl<|sV (rB (decide (x1.a2>(1048576:Int))))<|sF h (fun h=>?_) fun h=>?_
 ·refine sN<|cT<|gS rfl rfl<|sU<|sN<|qR ?_
  exact oI h▸qD
 refine sN<|cF<|qK<|WC.region rfl rfl<|sV (rI 3)<|sM rfl<|sN<|WL.round<|gS rfl rfl<|sU<|sN<|qS<|cF<|qX<|qE ?_
 refine gS rfl rfl<|sT<|sN<|qR ?_
 exact oI h▸qD
theorem bC{a0:ai}{r:Bool}(h:bB a0=some r):EvP prog aC ext 187 [.d (ai.pd a0)] [] (rB r,[]):=by
 refine Ev.body rfl Tryz.func187 rfl (by kernel_rfl)<|gS rfl rfl<|sB (.ptr 16 0) 16 (.var (ai.rc a0))<|sU<|sN<|qS<|gS rfl rfl<|sV (.ptr 16 0)<|sV (.d (aa.pd a0.aL))<|bE h fun x1 hx1 h=>cD (c6 hx1)<|sF h (fun h=>?_) fun h=>?_
 ·refine sM rfl<|k3<|sK<|sT<|sN<|cT<|gS rfl rfl<|sU<|sN<|qR ?_
  exact oI h▸qD
 refine sM rfl<|sV (.ptr 16 3)<|sV (.d (aa.pd a0.aF))<|bE h fun x3 hx3 h=>cD (c6 hx3)<|sV (rB (!x3))<|sF h (fun h=>?_) fun h=>?_
 ·refine sN<|cT<|gS rfl rfl<|sU<|sN<|qR ?_
  exact oI h▸qD
 refine sN<|cF<|qK<|gS rfl rfl<|sV (.ptr 16 3)<|sV (.d (aa.pd a0.aF))<|bE h fun x5 hx5 h=>cD (bL hx5)<|sB (.ptr 48 0) 48 (.var [r0,r0,r0])<|sS 48 (.var [rI x5.a0,rI x5.a1,rI x5.a2])<|sN<|qS<|gS rfl rfl<|sV (.ptr 16 0)<|sV (.d (aa.pd a0.aL)) ?_
 refine bE h fun x6 hx6 h=>cD (bL hx6)<|sV (r0)<|sN<|WC.block (WC.loop ?_)
 refine WL.round<|gS rfl rfl<|sT<|sN<|qS<|cT<|qK<|qS<|qB<|gS rfl rfl<|sM rfl<|sV (rI x6.a0)<|sA rfl<|sA rfl<|sN ?_
 refine gS rfl rfl<|sM rfl<|sM rfl<|sV (.ptr 48 0)<|sL rfl<|sF h (fun h=>?_) fun h=>?_
 ·refine sN<|cT<|gS rfl rfl<|sU<|sN<|qR ?_
  exact oI h▸qD
 refine sN<|cF<|qK<|WC.region rfl rfl<|sV (rI 1)<|sM rfl<|sN<|WL.round<|gS rfl rfl<|sT<|sN<|qS<|cT<|qK<|qS ?_
 refine qB<|gS rfl rfl<|sM rfl<|sV (rI x6.a1)<|sA rfl<|sA rfl<|sN<|gS rfl rfl<|sM rfl<|sM rfl<|sV (.ptr 48 1)<|sL rfl<|sF h (fun h=>?_) fun h=>?_
 ·refine sN<|cT<|gS rfl rfl<|sU<|sN<|qR ?_
  exact oI h▸qD
 refine sN<|cF<|qK<|WC.region rfl rfl<|sV (rI 2)<|sM rfl<|sN<|WL.round<|gS rfl rfl<|sT<|sN<|qS<|cT<|qK<|qS ?_
 refine qB<|gS rfl rfl<|sM rfl<|sV (rI x6.a2)<|sA rfl<|sA rfl<|sN<|gS rfl rfl<|sM rfl<|sM rfl<|sV (.ptr 48 2)<|sL rfl<|sF h (fun h=>?_) fun h=>?_
 ·refine sN<|cT<|gS rfl rfl<|sU<|sN<|qR ?_
  exact oI h▸qD
 refine sN<|cF<|qK<|WC.region rfl rfl<|sV (rI 3)<|sM rfl<|sN<|WL.round<|gS rfl rfl<|sU<|sN<|qS<|cF<|qX<|qE ?_
 refine gS rfl rfl<|sT<|sN<|qR ?_
 exact oI h▸qD
theorem dV{a0:aI}{r:Int}(h:cz a0=some r):EvP prog aC ext 199 [.d (aI.pd a0)] [] (rI r,[]):=by
 refine Ev.body rfl Tryz.func199 rfl (by kernel_rfl)<|gS rfl rfl<|sB (.ptr 16 0) 16 (.var (aI.rc a0))<|sV (r0)<|sN<|gS rfl rfl<|sV (.ptr 16 1)<|sL rfl<|sE (rI (a0.aL.length:Int)) (dT _ _)<|sA rfl<|sN<|qS<|gS rfl rfl<|sV (.ptr 16 0)<|sL rfl ?_
 refine sF h (fun h=>?_) fun h=>?_
 ·refine sM rfl<|k3<|sT<|sM rfl<|k3<|sK<|sK<|sT<|sM rfl<|sK<|sK ?_
  refine sT<|sM rfl<|sK<|sK<|sT<|sN<|cT<|gS rfl rfl<|sV (rI 21)<|sN<|qR ?_
  exact oI h▸qD
 refine sM rfl<|sV (.ptr 16 0)<|sL rfl<|sV (rB (decide (a0.bn>(1048576:Int))))<|sF h (fun h=>?_) fun h=>?_
 ·refine sM rfl<|k3<|sK<|sK<|sT<|sM rfl<|sK<|sK<|sT<|sM rfl<|sK<|sK<|sT ?_
  refine sN<|cT<|gS rfl rfl<|sV (rI 21)<|sN<|qR ?_
  exact oI h▸qD
 refine sM rfl<|sM rfl<|sV (.ptr 16 2)<|sL rfl<|sE (rI (a0.aF.length:Int)) (dT _ _)<|sV (rB ((a0.aL.length:Int) != (a0.aF.length:Int)))<|sF h (fun h=>?_) fun h=>?_
 ·refine sM rfl<|sK<|sK<|sT<|sM rfl<|sK<|sK<|sT<|sN<|cT<|gS rfl rfl<|sV (rI 21)<|sN<|qR ?_
  exact oI h▸qD
 refine sM rfl<|sM rfl<|sV (rB (decide ((a0.aL.length:Int)<(2:Int))))<|sF h (fun h=>?_) fun h=>?_
 ·refine sM rfl<|sK<|sK<|sT<|sN<|cT<|gS rfl rfl<|sV (rI 21)<|sN<|qR ?_
  exact oI h▸qD
 refine sM rfl<|sM rfl<|sV (rB (decide ((a0.aL.length:Int)>(256:Int))))<|sF h (fun h=>?_) fun h=>?_
 ·refine sN<|cT<|gS rfl rfl<|sV (rI 21)<|sN<|qR ?_
  exact oI h▸qD
 refine sN<|cF<|qK<|gS rfl rfl<|sV (r0)<|sV (r0)<|sN<|qS<|gS rfl rfl<|sM rfl<|sV (r0)<|sN<|bE h fun o23 ho23 h=>WC.block (WC.loop (WL.gv ho23 (fun s R' B'=>cI prog 0 (A R' B') (aC.at_ 199 0 6)=some (A [(1,.ptr 16 0),(4,rI s.1),(5,rI s.2.1),(33,rI (a0.aL.length:Int)),(34,rI s.2.2)] [(16,.var (aI.rc a0))])) (fun o e R' B'=>match o with| .inl y=>e= .exit 0∧cI prog 0 (A R' B') (aC.at_ 199 0 12)=some (A [] [])| .inr r=>e= .ret∧finish prog (aC.own 199) Tryz.f199 0 (A R' B')=some (rI r,[])) rfl ?_ ?_))
 ·rintro⟨s6,s7,s8⟩ R' B' q9 hI h
  refine gS rfl hI<|sF h (fun h=>?_) fun h=>?_
  ·refine sN<|qS<|cT<|qK<|qS<|qB<|gS rfl rfl<|sM rfl<|sA rfl<|sN<|qS<|WC.dG rfl rfl<|sV (.ptr 16 1)<|sL rfl<|sM rfl ?_
   refine bE h fun x11 hx11 h=>eG hx11 rfl<|sC rfl<|sM rfl<|sF h (fun h=>?_) fun h=>?_
   ·refine sM rfl<|k3<|k3<|sK<|sT<|sM rfl<|k3<|sK<|sK ?_
    refine k3<|k3<|sT<|sM rfl<|k3<|k3<|sT ?_
    refine sN<|sO<|cT<|gS rfl rfl<|sV (rI 21)<|sN<|qR ?_
    cases oI h
    exact⟨nofun,rfl,rfl⟩
   refine sM rfl<|sV (.ptr 16 2)<|sL rfl<|sM rfl<|bE h fun x13 hx13 h=>eG hx13 rfl<|sC rfl<|sM rfl<|sV (rB (decide (x13<s7)))<|sF h (fun h=>?_) fun h=>?_
   ·refine sM rfl<|k3<|k3<|k3<|sK<|sK<|sT<|sM rfl<|sK ?_
    refine k3<|sK<|sK<|sT ?_
    refine sN<|sO<|cT<|gS rfl rfl<|sV (rI 21)<|sN<|qR ?_
    cases oI h
    exact⟨nofun,rfl,rfl⟩
   refine sM rfl<|sV (.ptr 16 1)<|sL rfl<|sM rfl<|bE h fun x15 hx15 h=>eG hx15 rfl<|sC rfl<|sV (.ptr 16 2)<|sL rfl<|sM rfl<|bE h fun x16 hx16 h=>eG hx16 rfl<|sC rfl<|sV (rB (decide (x15>x16)))<|sF h (fun h=>?_) fun h=>?_
   ·refine sM rfl<|k3<|k3<|sT ?_
    refine sN<|sO<|cT<|gS rfl rfl<|sV (rI 21)<|sN<|qR ?_
    cases oI h
    exact⟨nofun,rfl,rfl⟩
   refine sM rfl<|sV (.ptr 16 2)<|sL rfl<|sM rfl<|bE h fun x18 hx18 h=>eG hx18 rfl<|sC rfl<|sV (rB (decide (x18>(1099511627776:Int))))<|sF h (fun h=>?_) fun h=>?_
   ·refine sN<|sO<|cT<|gS rfl rfl<|sV (rI 21)<|sN<|qR ?_
    cases oI h
    exact⟨nofun,rfl,rfl⟩
   refine sN<|sO<|cF<|qK<|WC.kI rfl rfl<|sV (.ptr 16 1)<|sL rfl<|sM rfl<|bE h fun x20 hx20 h=>eG hx20 rfl<|sC rfl<|sV (.ptr 16 2)<|sL rfl<|sM rfl<|bE h fun x21 hx21 h=>eG hx21 rfl ?_
   refine sC rfl<|sA rfl<|sA rfl ?_
   refine sN<|sO<|WC.region rfl rfl<|sV (rI (rW (s8+(1:Int))))<|sM rfl<|sN ?_
   cases oI h
   exact⟨rfl,rfl⟩
  refine sN<|qS<|cF<|qX ?_
  cases oI h
  exact⟨nofun,rfl,rfl⟩
 intro e R' B' he hq
 rcases o23 with y24|r25
 ·obtain⟨rfl,hI⟩:=hq
  refine qE<|gS rfl hI<|sV (r0)<|sN<|qR ?_
  exact oI h▸qD
 obtain⟨rfl,hf⟩:=hq
 cases oI h
 exact hf
theorem gL{a0:Int}{a1:Int}{a2:Int}{r:Bool}(h:dY a0 a1 a2=some r):EvP prog aC ext 200 [rI a0,rI a1,rI a2] [] (rB r,[]):=by
 refine Ev.body rfl Tryz.func200 rfl (by kernel_rfl)<|gS rfl rfl<|sU<|sN<|gS rfl rfl<|sM rfl<|sM rfl<|sF h (fun h=>?_) fun h=>?_
 ·refine sM rfl<|sM rfl<|sM rfl<|sV (rB (decide (a0<=a2)))<|sV (rB (decide (a0<=a2)))<|sA rfl<|sN<|qR ?_
  exact oI h▸qD
 refine sM rfl<|k3<|sU<|sA rfl<|sN<|qR ?_
 exact oI h▸qD
theorem pj{a0:ak}{r:Bool}(h:dP a0=some r):EvP prog aC ext 245 [.d (ak.pd a0)] [] (rB r,[]):=by
 refine Ev.body rfl Tryz.func245 rfl (by kernel_rfl)<|gS rfl rfl<|sB (.ptr 16 0) 16 (.var (ak.rc a0))<|sU<|sN<|gS rfl rfl<|sV (.ptr 16 0)<|sV (.d (aa.pd a0.aN))<|bE h fun x1 hx1 h=>kB h (fun hb2 h=>?_) (fun hb2 h=>?_)
 ·refine WO.qw (v:=rB true) (u:=[]) rfl rfl (fun _=>rfl) rfl rfl rfl rfl rfl (c6 hx1) rfl rfl (congrArg (fun b=>RV.d (.bool b)) hb2) rfl<|sM rfl<|sV (.ptr 16 3)<|sL rfl<|sV (rB (decide (a0.aK>=(0:Int))))<|sF h (fun h=>?_) fun h=>?_
  ·refine sM rfl<|sV (.ptr 16 3)<|sL rfl<|sV (.ptr 16 4)<|sL rfl<|sV (rB (decide (a0.aK<=a0.bf)))<|sF h (fun h=>?_) fun h=>?_
   ·refine sM rfl<|sV (.ptr 16 4)<|sL rfl<|sV (rB (decide (a0.bf<=(18014398509481984:Int))))<|sF h (fun h=>?_) fun h=>?_
    ·refine sM rfl<|sV (.ptr 16 5)<|sL rfl<|sV (rB (decide (a0.bA>=(1:Int))))<|sF h (fun h=>?_) fun h=>?_
     ·refine sM rfl<|sV (.ptr 16 5)<|sL rfl<|sV (rB (decide (a0.bA<=(100:Int))))<|sV (rB (decide (a0.bA<=(100:Int))))<|sA rfl<|sN<|qR ?_
      exact oI h▸qD
     refine sM rfl<|k3<|sU<|sA rfl<|sN<|qR ?_
     exact oI h▸qD
    refine sM rfl<|k3<|sU<|sM rfl<|k3<|sU<|sA rfl<|sN<|qR ?_
    exact oI h▸qD
   refine sM rfl<|k3<|sU<|sM rfl<|k3<|sU<|sM rfl<|k3<|sU ?_
   refine sA rfl<|sN<|qR ?_
   exact oI h▸qD
  refine sM rfl<|k3<|sK<|sK<|sU<|sM rfl<|k3<|sU<|sM rfl<|sK<|sK ?_
  refine sK<|sU<|sM rfl<|k3<|sU<|sA rfl<|sN<|qR ?_
  exact oI h▸qD
 refine WO.qw (v:=rB false) (u:=[]) rfl rfl (fun _=>rfl) rfl rfl rfl rfl rfl (c6 hx1) rfl rfl (congrArg (fun b=>RV.d (.bool b)) hb2) rfl<|sM rfl<|k3<|sU<|sM rfl<|k3<|sK<|sK<|sU<|sM rfl<|sK ?_
 refine sK<|sK<|sU<|sM rfl<|k3<|sU<|sM rfl<|k3<|sU<|sA rfl<|sN ?_
 refine qR ?_
 exact oI h▸qD
theorem iX{a0:Int}{a1:Int}{a2:Int}{r:Int}(h:eY a0 a1 a2=some r):EvP prog aC ext 196 [rI a0,rI a1,rI a2] [] (rI r,[]):=by
 refine Ev.body rfl Tryz.func196 rfl (by kernel_rfl)<|gS rfl rfl<|sV (r0)<|sN<|gS rfl rfl<|sM rfl<|sM rfl<|sV (rI (rW (a1-a0)))<|sM rfl<|sM rfl<|sV (rI (rW (a0-a2)))<|sV (rI (if(0:Int)>(if(rW (a0-a2))>(rW (a1-a0))then(rW (a0-a2))else(rW (a1-a0)))then(0:Int)else(if(rW (a0-a2))>(rW (a1-a0))then(rW (a0-a2))else(rW (a1-a0)))))<|sA rfl<|sN<|qR ?_
 exact oI h▸qD
theorem mE{a0:ai}{a1:aa}{r:Int}(h:gz a0 a1=some r):EvP prog aC ext 195 [.d (ai.pd a0),.d (aa.pd a1),.d (.raw (.func (.func 196) #[] #[]))] [] (rI r,[]):=by
 refine Ev.body rfl Tryz.func195 rfl (by kernel_rfl)<|gS rfl rfl<|sB (.ptr 48 0) 48 (.var (ai.rc a0))<|sB (.ptr 64 0) 64 (.var (aa.rc a1))<|sV (r0)<|sN<|qS<|gS rfl rfl<|sV (.d (ai.pd a0))<|bE h fun x1 hx1 h=>cD (bC hx1)<|sF h (fun h=>?_) fun h=>?_
 ·refine sM rfl<|k3<|sT<|sN<|cT<|gS rfl rfl<|sV (r0)<|sN<|qR ?_
  exact oI h▸qD
 refine sM rfl<|sV (.d (aa.pd a1))<|bE h fun x3 hx3 h=>cD (c6 hx3)<|sV (rB (!x3))<|sF h (fun h=>?_) fun h=>?_
 ·refine sN<|cT<|gS rfl rfl<|sV (r0)<|sN<|qR ?_
  exact oI h▸qD
 refine sN<|cF<|qK<|WC.dG rfl rfl<|sV (.ptr 48 0)<|sV (.d (aa.pd a0.aL))<|bE h fun x5 hx5 h=>cD (bL hx5)<|sV (.ptr 48 3)<|sV (.d (aa.pd a0.aF))<|bE h fun x6 hx6 h=>cD (bL hx6)<|sB (.ptr 128 0) 128 (.var [r0,r0,r0])<|sB (.ptr 144 0) 144 (.var [r0,r0,r0])<|sV (r0) ?_
 refine sS 128 (.var [rI x5.a0,rI x5.a1,rI x5.a2])<|sS 144 (.var [rI x6.a0,rI x6.a1,rI x6.a2]) ?_
 refine sN<|sO<|qS<|gS rfl rfl<|sV (.d (aa.pd a1))<|bE h fun x7 hx7 h=>cD (bL hx7)<|sV (r0)<|sN<|WC.block (WC.loop ?_)
 refine WL.round<|WC.iA (R0:=[(2,.d (.raw (.func (.func 196) #[] #[]))),(7,r0),(8,.ptr 128 0),(9,.ptr 144 0),(28,.d (aW.pd x7)),(29,r0)]) (B0:=[(128,.var [rI x5.a0,rI x5.a1,rI x5.a2]),(144,.var [rI x6.a0,rI x6.a1,rI x6.a2])]) rfl rfl<|sT<|sN<|qS<|cT<|qK<|qS<|qB<|gS rfl rfl<|sM rfl<|sV (rI x7.a0)<|sA rfl<|sA rfl<|sN ?_
 refine WC.dG rfl rfl<|sM rfl<|sM rfl<|sM rfl<|sV (.ptr 128 0)<|sL rfl<|sM rfl<|sV (.ptr 144 0)<|sL rfl<|bE h fun x8 hx8 h=>cD (iX hx8)<|sA rfl ?_
 refine sN<|sO<|WC.region rfl rfl<|sM rfl<|sM rfl<|sM rfl<|sV (rI (rW (x8*x8)))<|sV (rI (rW ((0:Int)+(rW (x8*x8)))))<|sA rfl<|sN<|WC.region rfl rfl<|sV (rI 1)<|sM rfl<|sN<|WL.round<|WC.iA (R0:=[(2,.d (.raw (.func (.func 196) #[] #[]))),(7,rI (rW ((0:Int)+(rW (x8*x8))))),(8,.ptr 128 0),(9,.ptr 144 0),(28,.d (aW.pd x7)),(29,rI 1)]) (B0:=[(128,.var [rI x5.a0,rI x5.a1,rI x5.a2]),(144,.var [rI x6.a0,rI x6.a1,rI x6.a2])]) rfl rfl ?_
 refine sT<|sN<|qS<|cT<|qK<|qS<|qB<|gS rfl rfl<|sM rfl<|sV (rI x7.a1)<|sA rfl<|sA rfl<|sN<|WC.dG rfl rfl<|sM rfl ?_
 refine sM rfl<|sM rfl<|sV (.ptr 128 1)<|sL rfl<|sM rfl<|sV (.ptr 144 1)<|sL rfl<|bE h fun x9 hx9 h=>cD (iX hx9)<|sA rfl ?_
 refine sN<|sO<|WC.region rfl rfl<|sM rfl<|sM rfl<|sM rfl<|sV (rI (rW (x9*x9)))<|sV (rI (rW ((rW ((0:Int)+(rW (x8*x8))))+(rW (x9*x9)))))<|sA rfl<|sN<|WC.region rfl rfl<|sV (rI 2)<|sM rfl<|sN<|WL.round<|WC.iA (R0:=[(2,.d (.raw (.func (.func 196) #[] #[]))),(7,rI (rW ((rW ((0:Int)+(rW (x8*x8))))+(rW (x9*x9))))),(8,.ptr 128 0),(9,.ptr 144 0),(28,.d (aW.pd x7)),(29,rI 2)]) (B0:=[(128,.var [rI x5.a0,rI x5.a1,rI x5.a2]),(144,.var [rI x6.a0,rI x6.a1,rI x6.a2])]) rfl rfl ?_
 refine sT<|sN<|qS<|cT<|qK<|qS<|qB<|gS rfl rfl<|sM rfl<|sV (rI x7.a2)<|sA rfl<|sA rfl<|sN<|WC.dG rfl rfl<|sM rfl ?_
 refine sM rfl<|sM rfl<|sV (.ptr 128 2)<|sL rfl<|sM rfl<|sV (.ptr 144 2)<|sL rfl<|bE h fun x10 hx10 h=>cD (iX hx10)<|sA rfl ?_
 refine sN<|sO<|WC.region rfl rfl<|sM rfl<|sM rfl<|sM rfl<|sV (rI (rW (x10*x10)))<|sV (rI (rW ((rW ((rW ((0:Int)+(rW (x8*x8))))+(rW (x9*x9))))+(rW (x10*x10)))))<|sA rfl<|sN<|WC.region rfl rfl<|sV (rI 3)<|sM rfl<|sN<|WL.round<|WC.iA (R0:=[(2,.d (.raw (.func (.func 196) #[] #[]))),(7,rI (rW ((rW ((rW ((0:Int)+(rW (x8*x8))))+(rW (x9*x9))))+(rW (x10*x10))))),(8,.ptr 128 0),(9,.ptr 144 0),(28,.d (aW.pd x7)),(29,rI 3)]) (B0:=[(128,.var [rI x5.a0,rI x5.a1,rI x5.a2]),(144,.var [rI x6.a0,rI x6.a1,rI x6.a2])]) rfl rfl ?_
 refine sU<|sN<|qS<|cF<|qX<|qE<|gS rfl rfl<|sM rfl<|sA rfl<|sN<|qR ?_
 exact oI h▸qD
theorem kL{a0:ai}{a1:aa}{r:Int}(h:eU a0 a1=some r):EvP prog aC ext 111 [.d (ai.pd a0),.d (aa.pd a1)] [] (rI r,[]):=by
 refine Ev.body rfl Tryz.func111 rfl (by kernel_rfl)<|gS rfl rfl<|sB (.ptr 32 0) 32 (.var (ai.rc a0))<|sB (.ptr 48 0) 48 (.var (aa.rc a1))<|sV (r0)<|sN<|gS rfl rfl<|sV (.d (ai.pd a0))<|sV (.d (aa.pd a1))<|bE h fun x1 hx1 h=>cD (mE hx1)<|sA rfl<|sN<|qR ?_
 exact oI h▸qD
theorem io{a0:Int}{a1:Int}{a2:Int}{r:Int}(h:ew a0 a1 a2=some r):EvP prog aC ext 197 [rI a0,rI a1,rI a2] [] (rI r,[]):=by
 refine Ev.body rfl Tryz.func197 rfl (by kernel_rfl)<|gS rfl rfl<|sV (r0)<|sN<|gS rfl rfl<|sM rfl<|sM rfl<|sV (rI (rW (a2-a0)))<|sM rfl<|sM rfl<|sV (rI (rW (a0-a1)))<|sV (rI (if(rW (a0-a1))>(rW (a2-a0))then(rW (a0-a1))else(rW (a2-a0))))<|sA rfl<|sN<|qR ?_
 exact oI h▸qD
theorem mn{a0:ai}{a1:aa}{r:Int}(h:f9 a0 a1=some r):EvP prog aC ext 195 [.d (ai.pd a0),.d (aa.pd a1),.d (.raw (.func (.func 197) #[] #[]))] [] (rI r,[]):=by
 refine Ev.body rfl Tryz.func195 rfl (by kernel_rfl)<|gS rfl rfl<|sB (.ptr 48 0) 48 (.var (ai.rc a0))<|sB (.ptr 64 0) 64 (.var (aa.rc a1))<|sV (r0)<|sN<|qS<|gS rfl rfl<|sV (.d (ai.pd a0))<|bE h fun x1 hx1 h=>cD (bC hx1)<|sF h (fun h=>?_) fun h=>?_
 ·refine sM rfl<|k3<|sT<|sN<|cT<|gS rfl rfl<|sV (r0)<|sN<|qR ?_
  exact oI h▸qD
 refine sM rfl<|sV (.d (aa.pd a1))<|bE h fun x3 hx3 h=>cD (c6 hx3)<|sV (rB (!x3))<|sF h (fun h=>?_) fun h=>?_
 ·refine sN<|cT<|gS rfl rfl<|sV (r0)<|sN<|qR ?_
  exact oI h▸qD
 refine sN<|cF<|qK<|WC.dG rfl rfl<|sV (.ptr 48 0)<|sV (.d (aa.pd a0.aL))<|bE h fun x5 hx5 h=>cD (bL hx5)<|sV (.ptr 48 3)<|sV (.d (aa.pd a0.aF))<|bE h fun x6 hx6 h=>cD (bL hx6)<|sB (.ptr 128 0) 128 (.var [r0,r0,r0])<|sB (.ptr 144 0) 144 (.var [r0,r0,r0])<|sV (r0) ?_
 refine sS 128 (.var [rI x5.a0,rI x5.a1,rI x5.a2])<|sS 144 (.var [rI x6.a0,rI x6.a1,rI x6.a2]) ?_
 refine sN<|sO<|qS<|gS rfl rfl<|sV (.d (aa.pd a1))<|bE h fun x7 hx7 h=>cD (bL hx7)<|sV (r0)<|sN<|WC.block (WC.loop ?_)
 refine WL.round<|WC.iA (R0:=[(2,.d (.raw (.func (.func 197) #[] #[]))),(7,r0),(8,.ptr 128 0),(9,.ptr 144 0),(28,.d (aW.pd x7)),(29,r0)]) (B0:=[(128,.var [rI x5.a0,rI x5.a1,rI x5.a2]),(144,.var [rI x6.a0,rI x6.a1,rI x6.a2])]) rfl rfl<|sT<|sN<|qS<|cT<|qK<|qS<|qB<|gS rfl rfl<|sM rfl<|sV (rI x7.a0)<|sA rfl<|sA rfl<|sN ?_
 refine WC.dG rfl rfl<|sM rfl<|sM rfl<|sM rfl<|sV (.ptr 128 0)<|sL rfl<|sM rfl<|sV (.ptr 144 0)<|sL rfl<|bE h fun x8 hx8 h=>cD (io hx8)<|sA rfl ?_
 refine sN<|sO<|WC.region rfl rfl<|sM rfl<|sM rfl<|sM rfl<|sV (rI (rW (x8*x8)))<|sV (rI (rW ((0:Int)+(rW (x8*x8)))))<|sA rfl<|sN<|WC.region rfl rfl<|sV (rI 1)<|sM rfl<|sN<|WL.round<|WC.iA (R0:=[(2,.d (.raw (.func (.func 197) #[] #[]))),(7,rI (rW ((0:Int)+(rW (x8*x8))))),(8,.ptr 128 0),(9,.ptr 144 0),(28,.d (aW.pd x7)),(29,rI 1)]) (B0:=[(128,.var [rI x5.a0,rI x5.a1,rI x5.a2]),(144,.var [rI x6.a0,rI x6.a1,rI x6.a2])]) rfl rfl ?_
 refine sT<|sN<|qS<|cT<|qK<|qS<|qB<|gS rfl rfl<|sM rfl<|sV (rI x7.a1)<|sA rfl<|sA rfl<|sN<|WC.dG rfl rfl<|sM rfl ?_
 refine sM rfl<|sM rfl<|sV (.ptr 128 1)<|sL rfl<|sM rfl<|sV (.ptr 144 1)<|sL rfl<|bE h fun x9 hx9 h=>cD (io hx9)<|sA rfl ?_
 refine sN<|sO<|WC.region rfl rfl<|sM rfl<|sM rfl<|sM rfl<|sV (rI (rW (x9*x9)))<|sV (rI (rW ((rW ((0:Int)+(rW (x8*x8))))+(rW (x9*x9)))))<|sA rfl<|sN<|WC.region rfl rfl<|sV (rI 2)<|sM rfl<|sN<|WL.round<|WC.iA (R0:=[(2,.d (.raw (.func (.func 197) #[] #[]))),(7,rI (rW ((rW ((0:Int)+(rW (x8*x8))))+(rW (x9*x9))))),(8,.ptr 128 0),(9,.ptr 144 0),(28,.d (aW.pd x7)),(29,rI 2)]) (B0:=[(128,.var [rI x5.a0,rI x5.a1,rI x5.a2]),(144,.var [rI x6.a0,rI x6.a1,rI x6.a2])]) rfl rfl ?_
 refine sT<|sN<|qS<|cT<|qK<|qS<|qB<|gS rfl rfl<|sM rfl<|sV (rI x7.a2)<|sA rfl<|sA rfl<|sN<|WC.dG rfl rfl<|sM rfl ?_
 refine sM rfl<|sM rfl<|sV (.ptr 128 2)<|sL rfl<|sM rfl<|sV (.ptr 144 2)<|sL rfl<|bE h fun x10 hx10 h=>cD (io hx10)<|sA rfl ?_
 refine sN<|sO<|WC.region rfl rfl<|sM rfl<|sM rfl<|sM rfl<|sV (rI (rW (x10*x10)))<|sV (rI (rW ((rW ((rW ((0:Int)+(rW (x8*x8))))+(rW (x9*x9))))+(rW (x10*x10)))))<|sA rfl<|sN<|WC.region rfl rfl<|sV (rI 3)<|sM rfl<|sN<|WL.round<|WC.iA (R0:=[(2,.d (.raw (.func (.func 197) #[] #[]))),(7,rI (rW ((rW ((rW ((0:Int)+(rW (x8*x8))))+(rW (x9*x9))))+(rW (x10*x10))))),(8,.ptr 128 0),(9,.ptr 144 0),(28,.d (aW.pd x7)),(29,rI 3)]) (B0:=[(128,.var [rI x5.a0,rI x5.a1,rI x5.a2]),(144,.var [rI x6.a0,rI x6.a1,rI x6.a2])]) rfl rfl ?_
 refine sU<|sN<|qS<|cF<|qX<|qE<|gS rfl rfl<|sM rfl<|sA rfl<|sN<|qR ?_
 exact oI h▸qD
theorem og{a0:ai}{a1:aa}{r:Int}(h:gx a0 a1=some r):EvP prog aC ext 112 [.d (ai.pd a0),.d (aa.pd a1)] [] (rI r,[]):=by
 refine Ev.body rfl Tryz.func112 rfl (by kernel_rfl)<|gS rfl rfl<|sB (.ptr 32 0) 32 (.var (ai.rc a0))<|sB (.ptr 48 0) 48 (.var (aa.rc a1))<|sV (r0)<|sN<|gS rfl rfl<|sV (.d (ai.pd a0))<|sV (.d (aa.pd a1))<|bE h fun x1 hx1 h=>cD (mn hx1)<|sA rfl<|sN<|qR ?_
 exact oI h▸qD
theorem bound_squares_ev{a0:aI}{a1:ai}{a2:aa}{r:aI×Int×Int}(h:je a0 a1 a2=some r):EvP prog aC ext 310 [.d (aI.pd a0),.d (ai.pd a1),.d (aa.pd a2)] [] (.tup [.d (aI.pd r.1),rI r.2.1,rI r.2.2],[]):=by
 refine Ev.body rfl Tryz.func310 rfl (by kernel_rfl)<|gS rfl rfl<|sB (.ptr 48 0) 48 (.var (aI.rc a0))<|sB (.ptr 64 0) 64 (.var (ai.rc a1))<|sB (.ptr 80 0) 80 (.var (aa.rc a2))<|sB (.ptr 96 0) 96 (.var [r0,.dH,.dH])<|sV (r0)<|sV (r0)<|sN<|WC.dG rfl rfl<|sV (.d (aI.pd a0))<|sV (.d (ai.pd a1))<|sV (.d (aa.pd a2))<|bE h fun x1 hx1 h=>cD (kL hx1) ?_
 refine sV (.d (ai.pd a1))<|sV (.d (aa.pd a2))<|bE h fun x2 hx2 h=>cD (og hx2)<|sS 96 (.var (aI.rc a0))<|sA rfl<|sA rfl ?_
 refine sN<|sO<|qR ?_
 exact oI h▸qD
theorem bits_Len64_ev{a0:Int}{r:Int}(h:mm a0=some r):EvP prog aC ext 217 [.d (.int .u64 a0)] [] (rI r,[]):=by
 refine Ev.body rfl Tryz.func217 rfl (by kernel_rfl)<|gS rfl rfl<|sV (r0)<|sN<|WC.join (α:=Int×Int) (fun x R' B'=>cI prog 0 (A R' B') (aC.at_ 217 0 4)=some (A [(0,.d (.int .u64 x.1)),(2,rI x.2)] [])) (fun x=>f4 x.1 x.2=some r) ?_ ?_
 ·refine gS rfl rfl<|sM rfl<|sF h (fun h=>?_) fun h=>?_
  ·exact sN<|cT<|gS rfl rfl<|sM rfl<|sV (.d (.int .u64 (jS .u64 a0 (32:Int))))<|sA rfl<|sN<|WC.region rfl rfl<|sV (rI 32)<|sN<|⟨((jS .u64 a0 (32:Int)),32),rfl,h⟩
  exact sN<|cF<|qK<|⟨(a0,0),rfl,h⟩
 rintro⟨j1,j2⟩ R' B' hI h
 refine WC.join (α:=Int×Int) (fun x R' B'=>cI prog 0 (A R' B') (aC.at_ 217 0 7)=some (A [(0,.d (.int .u64 x.1)),(2,rI x.2)] [])) (fun x=>gR x.1 x.2=some r) ?_ ?_
 ·refine gS rfl hI<|sM rfl<|sF h (fun h=>?_) fun h=>?_
  ·exact sN<|cT<|gS rfl rfl<|sM rfl<|sV (.d (.int .u64 (jS .u64 j1 (16:Int))))<|sA rfl<|sN<|WC.region rfl rfl<|sM rfl<|sV (rI (rW (j2+(16:Int))))<|sA rfl<|sN<|⟨((jS .u64 j1 (16:Int)),(rW (j2+(16:Int)))),rfl,h⟩
  exact sN<|cF<|qK<|⟨(j1,j2),rfl,h⟩
 rintro⟨j3,j4⟩ R' B' hI h
 refine qS<|gS rfl hI<|sM rfl<|sF h (fun h=>?_) fun h=>?_
 ·refine sN<|cT<|gS rfl rfl<|sM rfl<|sV (.d (.int .u64 (jS .u64 j3 (8:Int))))<|sA rfl<|sN<|WC.region rfl rfl<|sM rfl<|sV (rI (rW (j4+(8:Int))))<|sA rfl<|sN<|gS rfl rfl<|sM rfl<|sM rfl ?_
  refine sV (.d (.int .u8 (IntKind.wrap .u8 (jS .u64 j3 (8:Int)))))<|bE h fun x6 hx6 h=>WO.byteG hx6 rfl rfl rfl rfl rfl rfl<|sV (rI (IntKind.wrap .i64 x6))<|sV (rI (rW ((rW (j4+(8:Int)))+(IntKind.wrap .i64 x6))))<|sA rfl<|sN<|qR ?_
  exact oI h▸qD
 refine sN<|cF<|qK<|gS rfl rfl<|sM rfl<|sM rfl<|sV (.d (.int .u8 (IntKind.wrap .u8 j3)))<|bE h fun x7 hx7 h=>WO.byteG hx7 rfl rfl rfl rfl rfl rfl<|sV (rI (IntKind.wrap .i64 x7))<|sV (rI (rW (j4+(IntKind.wrap .i64 x7))))<|sA rfl<|sN<|qR ?_
 exact oI h▸qD
theorem ow{a0:Int}{r:Int}(h:fW a0=some r):EvP prog aC ext 136 [.d (.int .u64 a0)] [] (rI r,[]):=by
 refine Ev.body rfl Tryz.func136 rfl (by kernel_rfl)<|gS rfl rfl<|sV (r0)<|sN<|qS<|cF<|qK<|gS rfl rfl<|sM rfl<|bE h fun x1 hx1 h=>cD (bits_Len64_ev hx1)<|sA rfl<|sN<|qR ?_
 exact oI h▸qD
theorem mJ{a0:Int}{r:Int}(h:fc a0=some r):EvP prog aC ext 280 [rI a0] [] (rI r,[]):=by
 refine Ev.body rfl Tryz.func280 rfl (by kernel_rfl)<|gS rfl rfl<|sV (r0)<|sN<|qS<|gS rfl rfl<|sM rfl<|sF h (fun h=>?_) fun h=>?_
 ·refine sN<|cT<|gS rfl rfl<|sV (r0)<|sN<|qR ?_
  exact oI h▸qD
 refine sN<|cF<|qK<|gS rfl rfl<|sV (r0)<|sN<|qS<|gS rfl rfl<|sM rfl<|sV (.d (.int .u64 (IntKind.wrap .u64 a0)))<|bE h fun x2 hx2 h=>cD (ow hx2)<|sV (rI (rW (x2-(1:Int))))<|bE h fun x3 hx3 h=>WO.tV hx3 rfl rfl rfl rfl rfl rfl ?_
 refine bE h fun x4 hx4 h=>WO.shlG hx4 rfl rfl rfl rfl rfl<|sA rfl<|sN<|bE h fun o13 ho13 h=>WC.block (WC.loop (WL.gv ho13 (fun s R' B'=>cI prog 0 (A R' B') (aC.at_ 280 0 5)=some (A [(0,rI a0),(3,rI s.1),(4,rI s.2)] [])) (fun o e R' B'=>e= .exit 0∧cI prog 0 (A R' B') (aC.at_ 280 0 10)=some (A [(3,rI o)] [])) rfl ?_ ?_))
 ·rintro⟨s5,s6⟩ R' B' q8 hI h
  refine qS<|gS rfl hI<|sM rfl<|sF h (fun h=>?_) fun h=>?_
  ·refine sN<|cT<|qK<|qS<|qB<|gS rfl rfl<|sM rfl<|sM rfl<|sV (rI (orI .i64 s5 s6))<|sA rfl<|sN<|gS rfl rfl<|sM rfl<|sM rfl<|sM rfl ?_
   refine bE h fun x10 hx10 h=>WO.tV hx10 rfl rfl rfl rfl rfl rfl<|sF h (fun h=>?_) fun h=>?_
   ·refine sN<|cT<|WC.region rfl rfl<|sM rfl<|sA rfl<|sN<|WC.region rfl rfl<|sM rfl<|sV (rI (jS .i64 s6 (1:Int)))<|sA rfl<|sN ?_
    cases oI h
    exact⟨rfl,rfl⟩
   refine sN<|cF<|qK<|WC.region rfl rfl<|sM rfl<|sV (rI (jS .i64 s6 (1:Int)))<|sA rfl<|sN ?_
   cases oI h
   exact⟨rfl,rfl⟩
  refine sN<|cF<|qX ?_
  cases oI h
  exact⟨nofun,rfl,rfl⟩
 intro e R' B' he hq
 obtain⟨rfl,hI⟩:=hq
 refine qE<|gS rfl hI<|sM rfl<|sA rfl<|sN<|qR ?_
 exact oI h▸qD
theorem geometry_Ceil_ev{a0:Int}{r:Int}(h:gU a0=some r):EvP prog aC ext 276 [rI a0] [] (rI r,[]):=by
 refine Ev.body rfl Tryz.func276 rfl (by kernel_rfl)<|gS rfl rfl<|sV (r0)<|sN<|gS rfl rfl<|sM rfl<|bE h fun x1 hx1 h=>cD (mJ hx1)<|sA rfl<|sN<|qS<|gS rfl rfl<|sM rfl<|sM rfl<|sV (rI (rW (x1*x1))) ?_
 refine sM rfl<|sF h (fun h=>?_) fun h=>?_
 ·refine sN<|cT<|WC.region rfl rfl<|sM rfl<|sV (rI (rW (x1+(1:Int))))<|sA rfl<|sN<|gS rfl rfl<|sM rfl<|sA rfl<|sN<|qR ?_
  exact oI h▸qD
 refine sN<|cF<|qK<|gS rfl rfl<|sM rfl<|sA rfl<|sN<|qR ?_
 exact oI h▸qD
theorem travel_reach_ev{a0:aI}{r:Int}(h:kC a0=some r):EvP prog aC ext 277 [.d (aI.pd a0)] [] (rI r,[]):=by
 refine Ev.body rfl Tryz.func277 rfl (by kernel_rfl)<|gS rfl rfl<|sB (.ptr 16 0) 16 (.var (aI.rc a0))<|sV (r0)<|sN<|gS rfl rfl<|sV (.ptr 16 0)<|sL rfl<|sV (.ptr 16 1)<|sL rfl<|sE (rI (a0.aL.length:Int)) (dT _ _)<|sV (rI (rW ((a0.aL.length:Int)-(1:Int))))<|sV (rI (rW (a0.bn*(rW ((a0.aL.length:Int)-(1:Int))))))<|sA rfl<|sN ?_
 refine qR ?_
 exact oI h▸qD
theorem n7{a0:Int}{d0:aI}{d1:Int}{r:Bool}(h:fV a0 d0 d1=some r):EvP prog aC ext 279 [rI a0,.ptr 0 0,.ptr 1 0] [.var (aI.rc d0),.var [rI d1]] (rB r,[.var (aI.rc d0),.var [rI d1]]):=by
 refine Ev.body rfl Tryz.func279 rfl (by kernel_rfl)<|gS rfl rfl<|sU<|sN<|gS rfl rfl<|sM rfl<|sV (.ptr 0 0)<|sL rfl<|sV (rI (rW (a0*d0.bn)))<|sL rfl<|sV (rB (decide ((rW (a0*d0.bn))>=d1)))<|sA rfl<|sN<|qR ?_
 exact oI h▸qD
theorem pz{a0:Int}{d0:aI}{d1:Int}{r:Int}(h:dt a0 d0 d1=some r):EvP prog aC ext 278 [rI a0,.clo 279 [.ptr 0 0,.ptr 1 0]] [.var (aI.rc d0),.var [rI d1]] (rI r,[.var (aI.rc d0),.var [rI d1]]):=by
 refine Ev.body rfl Tryz.func278 rfl (by kernel_rfl)<|gS rfl rfl<|sV (r0)<|sN<|gS rfl rfl<|sM rfl<|sV (r0)<|sA rfl<|sN<|qS<|bE h fun o9 ho9 h=>WC.block (WC.loop (WL.gv ho9 (fun s R' B'=>cI prog 2 (A R' B') (aC.at_ 278 2 2)=some (A [(1,.clo 279 [.ptr 0 0,.ptr 1 0]),(5,rI s.1),(6,rI s.2)] [(0,.var (aI.rc d0)),(1,.var [rI d1])])) (fun o e R' B'=>e= .exit 0∧cI prog 2 (A R' B') (aC.at_ 278 2 7)=some (A [(5,rI o)] [(0,.var (aI.rc d0)),(1,.var [rI d1])])) rfl ?_ ?_))
 ·rintro⟨s1,s2⟩ R' B' q4 hI h
  refine qS<|gS rfl hI<|sM rfl<|sM rfl<|sF h (fun h=>?_) fun h=>?_
  ·refine sN<|cT<|qK<|qB<|gS rfl rfl<|sM rfl<|sM rfl<|sV (rI (rW (s1+s2)))<|sV (.d (.int .u64 (IntKind.wrap .u64 (rW (s1+s2)))))<|sV (.d (.int .u64 (jS .u64 (IntKind.wrap .u64 (rW (s1+s2))) (1:Int))))<|sV (rI (rW (jS .u64 (IntKind.wrap .u64 (rW (s1+s2))) (1:Int))))<|sA rfl<|sN<|gS rfl rfl<|sM rfl ?_
   refine sM rfl<|bE h fun x6 hx6 h=>cR (rB x6) [(0,.var (aI.rc d0)),(1,.var [rI d1])] (n7 hx6)<|sF h (fun h=>?_) fun h=>?_
   ·refine sN<|cT<|WC.region rfl rfl<|sM rfl<|sV (rI (rW ((rW (jS .u64 (IntKind.wrap .u64 (rW (s1+s2))) (1:Int)))+(1:Int))))<|sA rfl<|sN ?_
    cases oI h
    exact⟨rfl,rfl⟩
   refine sN<|cF<|WC.region rfl rfl<|sM rfl<|sA rfl<|sN ?_
   cases oI h
   exact⟨rfl,rfl⟩
  refine sN<|cF<|qX ?_
  cases oI h
  exact⟨nofun,rfl,rfl⟩
 intro e R' B' he hq
 obtain⟨rfl,hI⟩:=hq
 refine qE<|gS rfl hI<|sM rfl<|sA rfl<|sN<|qR ?_
 exact oI h▸qD
theorem mU{a0:aI}{a1:Int}{a2:Int}{r:Int×Int×Int}(h:cb a0 a1 a2=some r):EvP prog aC ext 191 [.d (aI.pd a0),rI a1,rI a2] [] (.tup [rI r.1,rI r.2.1,rI r.2.2],[]):=by
 refine Ev.body rfl Tryz.func191 rfl (by kernel_rfl)<|gS rfl rfl<|sB (.ptr 48 0) 48 (.var (aI.rc a0))<|sV (r0)<|sV (r0)<|sV (r0)<|sN<|qS<|gS rfl rfl<|sV (.d (aI.pd a0))<|bE h fun x1 hx1 h=>cD (dV hx1)<|sF h (fun h=>?_) fun h=>?_
 ·refine sN<|cT<|gS rfl rfl<|sV (r0)<|sV (r0)<|sV (rI 21)<|sN<|qR ?_
  exact oI h▸qD
 refine sN<|cF<|qK<|qS<|gS rfl rfl<|sM rfl<|sF h (fun h=>?_) fun h=>?_
 ·refine sM rfl<|k3<|sT<|sN<|cT<|gS rfl rfl<|sV (r0)<|sV (r0)<|sV (rI 2)<|sN<|qR ?_
  exact oI h▸qD
 refine sM rfl<|sM rfl<|sM rfl<|sV (rB (decide (a1>a2)))<|sF h (fun h=>?_) fun h=>?_
 ·refine sN<|cT<|gS rfl rfl<|sV (r0)<|sV (r0)<|sV (rI 2)<|sN<|qR ?_
  exact oI h▸qD
 refine sN<|cF<|qK<|gS rfl rfl<|sM rfl<|bE h fun x5 hx5 h=>cD (geometry_Ceil_ev hx5)<|sB (.ptr 144 0) 144 (.var [r0])<|sS 144 (.var [rI x5])<|sN<|qS<|WC.dG rfl rfl<|sL rfl<|sV (.d (aI.pd a0))<|bE h fun x6 hx6 h=>?_
 refine cD (travel_reach_ev hx6)<|sF h (fun h=>?_) fun h=>?_
 ·refine sN<|sO<|cT<|gS rfl rfl<|sV (r0)<|sV (r0)<|sV (rI 22)<|sN<|qR ?_
  exact oI h▸qD
 refine sN<|sO<|cF<|qK<|gS rfl rfl<|sV (.ptr 48 2)<|sL rfl<|sE (rI (a0.aF.length:Int)) (dT _ _)<|sV (.clo 279 [.ptr 48 0,.ptr 144 0])<|bE h fun x8 hx8 h=>cR (rI x8) [(48,.var (aI.rc a0)),(144,.var [rI x5])] (pz hx8)<|sA rfl<|sN<|WC.dG rfl rfl<|sV (.ptr 48 1)<|sL rfl ?_
 refine sM rfl<|bE h fun x9 hx9 h=>cD (mJ hx9)<|sV (.ptr 48 0)<|sL rfl<|bE h fun x10 hx10 h=>WO.tV hx10 rfl rfl rfl rfl rfl rfl<|bE h fun x11 hx11 h=>eG hx11 rfl<|sC rfl<|sV (.ptr 48 2)<|sL rfl<|sM rfl<|bE h fun x12 hx12 h=>eG hx12 rfl ?_
 refine sC rfl<|sA rfl<|sA rfl<|sV (r0) ?_
 refine sN<|sO<|qR ?_
 exact oI h▸qD
theorem qc{a0:aI}{a1:ai}{a2:aa}{r:Int×Int×Int}(h:f5 a0 a1 a2=some r):EvP prog aC ext 246 [.d (aI.pd a0),.d (ai.pd a1),.d (aa.pd a2)] [] (.tup [rI r.1,rI r.2.1,rI r.2.2],[]):=by
 refine Ev.body rfl Tryz.func246 rfl (by kernel_rfl)<|gS rfl rfl<|sB (.ptr 48 0) 48 (.var (aI.rc a0))<|sB (.ptr 64 0) 64 (.var (ai.rc a1))<|sB (.ptr 80 0) 80 (.var (aa.rc a2))<|sV (r0)<|sV (r0)<|sV (r0)<|sN<|qS<|gS rfl rfl<|sV (.d (aI.pd a0))<|bE h fun x1 hx1 h=>cD (dV hx1)<|sA rfl ?_
 refine sN<|gS rfl rfl<|sM rfl<|sF h (fun h=>?_) fun h=>?_
 ·refine sN<|cT<|gS rfl rfl<|sM rfl<|sV (r0)<|sV (r0)<|sA rfl<|sN<|qR ?_
  exact oI h▸qD
 refine sN<|cF<|qK<|qS<|gS rfl rfl<|sV (.d (ai.pd a1))<|bE h fun x3 hx3 h=>cD (bC hx3)<|sF h (fun h=>?_) fun h=>?_
 ·refine sM rfl<|k3<|sT<|sN<|cT<|gS rfl rfl<|sV (r0)<|sV (r0)<|sV (rI 20)<|sN<|qR ?_
  exact oI h▸qD
 refine sM rfl<|sV (.d (aa.pd a2))<|bE h fun x5 hx5 h=>cD (c6 hx5)<|sV (rB (!x5))<|sF h (fun h=>?_) fun h=>?_
 ·refine sN<|cT<|gS rfl rfl<|sV (r0)<|sV (r0)<|sV (rI 20)<|sN<|qR ?_
  exact oI h▸qD
 refine sN<|cF<|qK<|gS rfl rfl<|sV (.d (aI.pd a0))<|sV (.d (ai.pd a1))<|sV (.d (aa.pd a2))<|bE h fun x7 hx7 h=>cR (.tup [.d (aI.pd x7.1),rI x7.2.1,rI x7.2.2]) [] (bound_squares_ev hx7)<|sV (.d (aI.pd x7.1))<|sV (rI x7.2.1)<|sV (rI x7.2.2)<|bE h fun x8 hx8 h=>cR (.tup [rI x8.1,rI x8.2.1,rI x8.2.2]) [] (mU hx8)<|sV (rI x8.1) ?_
 refine sV (rI x8.2.1)<|sV (rI x8.2.2)<|sA rfl<|sA rfl<|sA rfl<|sN<|qR ?_
 exact oI h▸qD
theorem k9{a0:aI}{a1:ai}{a2:ak}{r:aG×Int}(h:dC a0 a1 a2=some r):EvP prog aC ext 158 [.d (aI.pd a0),.d (ai.pd a1),.d (ak.pd a2)] [] (.tup [.d (aG.pd r.1),rI r.2],[]):=by
 refine Ev.body rfl Tryz.func158 rfl (by kernel_rfl)<|gS rfl rfl<|sB (.ptr 48 0) 48 (.var (aI.rc a0))<|sB (.ptr 64 0) 64 (.var (ai.rc a1))<|sB (.ptr 80 0) 80 (.var (ak.rc a2))<|sB (.ptr 96 0) 96 (.var [r0,r0])<|sV (r0)<|sN<|qS<|gS rfl rfl<|sV (.d (aI.pd a0))<|bE h fun x1 hx1 h=>cD (dV hx1)<|sA rfl<|sN ?_
 refine gS rfl rfl<|sM rfl<|sF h (fun h=>?_) fun h=>?_
 ·refine sN<|cT<|gS rfl rfl<|sV (.d (aG.pd (aG.mk 0 0)))<|sM rfl<|sS 96 (.var [r0,r0])<|sA rfl<|sN<|qR ?_
  exact oI h▸qD
 refine sN<|cF<|qK<|qS<|gS rfl rfl<|sV (.d (ai.pd a1))<|bE h fun x3 hx3 h=>cD (bC hx3)<|sF h (fun h=>?_) fun h=>?_
 ·refine sN<|cT<|gS rfl rfl<|sV (.d (aG.pd (aG.mk 0 0)))<|sS 96 (.var [r0,r0])<|sV (rI 20)<|sN<|qR ?_
  exact oI h▸qD
 refine sN<|cF<|qK<|qS<|gS rfl rfl<|sV (.d (ak.pd a2))<|bE h fun x5 hx5 h=>cD (pj hx5)<|sF h (fun h=>?_) fun h=>?_
 ·refine sN<|cT<|gS rfl rfl<|sV (.d (aG.pd (aG.mk 0 0)))<|sS 96 (.var [r0,r0])<|sV (rI 23)<|sN<|qR ?_
  exact oI h▸qD
 refine sN<|cF<|qK<|gS rfl rfl<|sV (.d (aI.pd a0))<|sV (.d (ai.pd a1))<|sV (.ptr 80 0)<|sV (.d (aa.pd a2.aN))<|bE h fun x7 hx7 h=>cR (.tup [rI x7.1,rI x7.2.1,rI x7.2.2]) [] (qc hx7)<|sM rfl<|sV (rI x7.1)<|sV (rI x7.2.1)<|sV (rI x7.2.2)<|sA rfl ?_
 refine sA rfl<|sA rfl<|sN<|qS<|gS rfl rfl<|sM rfl<|sF h (fun h=>?_) fun h=>?_
 ·refine sN<|cT<|gS rfl rfl<|sV (.d (aG.pd (aG.mk 0 0)))<|sM rfl<|sS 96 (.var [r0,r0])<|sA rfl<|sN<|qR ?_
  exact oI h▸qD
 refine sN<|cF<|qK<|gS rfl rfl<|sV (.ptr 80 3)<|sL rfl<|sM rfl<|sV (rI (rW (a2.aK-x7.2.1)))<|sV (.ptr 80 4)<|sL rfl<|sM rfl<|sV (rI (rW (a2.bf-x7.1)))<|sV (.d (aG.pd (aG.mk (rW (a2.aK-x7.2.1)) (rW (a2.bf-x7.1)))))<|sS 96 (.var [rI (rW (a2.aK-x7.2.1)),rI (rW (a2.bf-x7.1))])<|sV (r0) ?_
 refine sN<|qR ?_
 exact oI h▸qD
theorem kF{a0:aJ}{a1:(List ak)}{r:Int}(h:di a0 a1=some r):EvP prog aC ext 118 [.d (aJ.pd a0),rM ak.pd a1] [] (rI r,[]):=by
 refine Ev.body rfl Tryz.func118 rfl (by kernel_rfl)<|gS rfl rfl<|sB (.ptr 32 0) 32 (.var (aJ.rc a0))<|sV (r0)<|sN<|qS<|gS rfl rfl<|sV (.ptr 32 0)<|sV (.d (ai.pd a0.aO))<|bE h fun x1 hx1 h=>cD (bC hx1)<|sF h (fun h=>?_) fun h=>?_
 ·refine sM rfl<|k3<|sK<|sT<|sM rfl<|k3<|sK<|sT<|sM rfl<|sK<|sK ?_
  refine sK<|sK<|sT<|sM rfl<|k3<|sK<|sT<|sM rfl<|k3<|sK<|sT ?_
  refine sM rfl<|k3<|sK<|sT<|sN<|cT<|gS rfl rfl<|sV (rI 27)<|sN<|qR ?_
  cases oI h
  exact qG
 refine sM rfl<|sV (.ptr 32 6)<|sV (.d (aI.pd a0.bi))<|bE h fun x3 hx3 h=>cD (dV hx3)<|sV (rB (x3 != (0:Int)))<|sF h (fun h=>?_) fun h=>?_
 ·refine sM rfl<|k3<|sK<|sT<|sM rfl<|k3<|sK<|sT<|sM rfl<|sK<|sK ?_
  refine sK<|sK<|sT<|sM rfl<|k3<|sK<|sT<|sM rfl<|k3<|sK<|sT ?_
  refine sN<|cT<|gS rfl rfl<|sV (rI 27)<|sN<|qR ?_
  cases oI h
  exact qG
 refine sM rfl<|sV (.ptr 32 9)<|sL rfl<|bE h fun x5 hx5 h=>cD (gL hx5)<|sV (rB (!x5))<|sF h (fun h=>?_) fun h=>?_
 ·refine sM rfl<|k3<|sK<|sT<|sM rfl<|k3<|sK<|sT<|sM rfl<|sK<|sK ?_
  refine sK<|sK<|sT<|sM rfl<|k3<|sK<|sT<|sN<|cT<|gS rfl rfl<|sV (rI 27)<|sN<|qR ?_
  cases oI h
  exact qG
 refine sM rfl<|sV (.ptr 32 10)<|sL rfl<|bE h fun x7 hx7 h=>cD (gL hx7)<|sV (rB (!x7))<|sF h (fun h=>?_) fun h=>?_
 ·refine sM rfl<|k3<|sK<|sT<|sM rfl<|k3<|sK<|sT<|sM rfl<|sK<|sK ?_
  refine sK<|sK<|sT<|sN<|cT<|gS rfl rfl<|sV (rI 27)<|sN<|qR ?_
  cases oI h
  exact qG
 refine sM rfl<|sV (.ptr 32 12)<|sL rfl<|bE h fun x9 hx9 h=>cD (gL hx9)<|sV (rB (!x9))<|sF h (fun h=>?_) fun h=>?_
 ·refine sM rfl<|k3<|sK<|sT<|sM rfl<|k3<|sK<|sT<|sN<|cT<|gS rfl rfl ?_
  refine sV (rI 27)<|sN<|qR ?_
  cases oI h
  exact qG
 refine sM rfl<|sV (.ptr 32 11)<|sL rfl<|bE h fun x11 hx11 h=>cD (gL hx11)<|sV (rB (!x11))<|sF h (fun h=>?_) fun h=>?_
 ·refine sM rfl<|k3<|sK<|sT<|sN<|cT<|gS rfl rfl<|sV (rI 27)<|sN<|qR ?_
  cases oI h
  exact qG
 refine sM rfl<|sV (.ptr 32 13)<|sL rfl<|bE h fun x13 hx13 h=>cD (gL hx13)<|sV (rB (!x13))<|sF h (fun h=>?_) fun h=>?_
 ·refine sN<|cT<|gS rfl rfl<|sV (rI 27)<|sN<|qR ?_
  cases oI h
  exact qG
 refine sN<|cF<|qK<|qS<|gS rfl rfl<|sM rfl<|sE (rI (a1.length:Int)) (dT _ _)<|sF h (fun h=>?_) fun h=>?_
 ·refine sN<|cT<|gS rfl rfl<|sV (rI 8)<|sN<|qR ?_
  cases oI h
  exact qG
 refine sN<|cF<|qK<|qS<|gS rfl rfl<|sM rfl<|sE (rI (a1.length:Int)) (dT _ _)<|sV (r0)<|sN<|bE h fun o23 ho23 h=>WC.block (WC.loop (WL.gv ho23 (fun s R' B'=>cI prog 0 (A R' B') (aC.at_ 118 0 6)=some (A [(2,.ptr 32 0),(52,rM ak.pd a1),(53,rI (a1.length:Int)),(54,rI s)] [(32,.var (aJ.rc a0))])) (fun o e R' B'=>match o with| .inl y=>e= .exit 0∧cI prog 0 (A R' B') (aC.at_ 118 0 12)=some (A [] [])| .inr r=>e= .ret∧finish prog (aC.own 118) Tryz.f118 0 (A R' B')=some (rI r,[])) rfl ?_ ?_))
 ·rintro s16 R' B' q17 hI h
  refine gS rfl hI<|sF h (fun h=>?_) fun h=>?_
  ·refine sN<|qS<|cT<|qK<|qS<|qB<|gS rfl rfl<|bE h fun x19 hx19 h=>eG hx19 rfl<|sV (.d (ak.pd x19))<|sB (.ptr 96 0) 96 (.var zZ4)<|sH 96 (.var (ak.rc x19))<|sN<|gS rfl rfl<|sV (.ptr 32 6) ?_
   refine sV (.d (aI.pd a0.bi))<|sV (.ptr 32 0)<|sV (.d (ai.pd a0.aO))<|sV (.d (ak.pd x19))<|bE h fun x20 hx20 h=>cR (.tup [.d (aG.pd x20.1),rI x20.2]) [] (k9 hx20)<|sM rfl<|sV (.d (aG.pd x20.1))<|sV (rI x20.2)<|sB (.ptr 112 0) 112 (.var [r0,r0])<|sS 112 (.var [rI x20.1.bp,rI x20.1.fTo])<|sA rfl<|sN<|gS rfl rfl<|sM rfl ?_
   refine sF h (fun h=>?_) fun h=>?_
   ·refine sN<|cT<|gS rfl rfl<|sM rfl<|sA rfl<|sN<|qR ?_
    cases oI h
    exact⟨nofun,rfl,rfl⟩
   refine sN<|cF<|qK<|WC.region rfl rfl<|sV (rI (rW (s16+(1:Int))))<|sM rfl<|sN ?_
   cases oI h
   exact⟨rfl,rfl⟩
  refine sN<|qS<|cF<|qX ?_
  cases oI h
  exact⟨nofun,rfl,rfl⟩
 intro e R' B' he hq
 rcases o23 with y24|r25
 ·obtain⟨rfl,hI⟩:=hq
  refine qE<|gS rfl hI<|sV (r0)<|sN<|qR ?_
  exact oI h▸qD
 obtain⟨rfl,hf⟩:=hq
 cases oI h
 exact hf
theorem jI{a0:bu}{r:Bool}(h:cL a0=some r):EvP prog aC ext 119 [.d (bu.pd a0)] [] (rB r,[]):=by
 refine Ev.body rfl Tryz.func119 rfl (by kernel_rfl)<|gS rfl rfl<|sB (.ptr 16 0) 16 (.var (bu.rc a0))<|sU<|sN<|gS rfl rfl<|sV (.ptr 16 0)<|sV (.d (aI.pd a0.b8))<|bE h fun x1 hx1 h=>cD (dV hx1)<|sF h (fun h=>?_) fun h=>?_
 ·refine sM rfl<|sV (.ptr 16 3)<|sL rfl<|sV (rB (decide (a0.bI>=(0:Int))))<|sF h (fun h=>?_) fun h=>?_
  ·refine sM rfl<|sV (.ptr 16 3)<|sL rfl<|sV (rB (decide (a0.bI<=(65536:Int))))<|sF h (fun h=>?_) fun h=>?_
   ·refine sM rfl<|sV (.ptr 16 4)<|sL rfl<|sV (rB (decide (a0.bw>=(1:Int))))<|sF h (fun h=>?_) fun h=>?_
    ·refine sM rfl<|sV (.ptr 16 4)<|sL rfl<|sV (rB (decide (a0.bw<=(65536:Int))))<|sV (rB (decide (a0.bw<=(65536:Int))))<|sA rfl<|sN<|qR ?_
     exact oI h▸qD
    refine sM rfl<|k3<|sU<|sA rfl<|sN<|qR ?_
    exact oI h▸qD
   refine sM rfl<|k3<|sU<|sM rfl<|k3<|sU<|sA rfl<|sN<|qR ?_
   exact oI h▸qD
  refine sM rfl<|k3<|sU<|sM rfl<|k3<|sU<|sM rfl<|k3<|sU ?_
  refine sA rfl<|sN<|qR ?_
  exact oI h▸qD
 refine sM rfl<|k3<|sU<|sM rfl<|k3<|sU<|sM rfl<|k3<|sU ?_
 refine sM rfl<|k3<|sU<|sA rfl<|sN<|qR ?_
 exact oI h▸qD
theorem iE{a0:ap}{r:Int}(h:ey a0=some r):EvP prog aC ext 60 [.d (ap.pd a0)] [] (rI r,[]):=by
 refine Ev.body rfl Tryz.func60 rfl (by kernel_rfl)<|gS rfl rfl<|sB (.ptr 16 0) 16 (.var (ap.rc a0))<|sV (r0)<|sN<|qS<|gS rfl rfl<|sV (.ptr 16 0)<|sV (.d (aJ.pd a0.ah))<|bE h fun x1 hx1 h=>cD (kF hx1)<|sF h (fun h=>?_) fun h=>?_
 ·refine sM rfl<|k3<|sK<|sT<|sM rfl<|k3<|sT<|sM rfl<|sK<|sK<|sK ?_
  refine sT<|sN<|cT<|gS rfl rfl<|sV (rI 27)<|sN<|qR ?_
  cases oI h
  exact qG
 refine sM rfl<|sV (.ptr 16 14)<|sV (.d (bu.pd a0.fb))<|bE h fun x3 hx3 h=>cD (jI hx3)<|sV (rB (!x3))<|sF h (fun h=>?_) fun h=>?_
 ·refine sM rfl<|k3<|sT<|sM rfl<|k3<|sT<|sN<|cT<|gS rfl rfl<|sV (rI 27)<|sN ?_
  refine qR ?_
  cases oI h
  exact qG
 refine sM rfl<|sV (.ptr 16 19)<|sL rfl<|sV (rB (decide (a0.bS<(0:Int))))<|sF h (fun h=>?_) fun h=>?_
 ·refine sM rfl<|k3<|sT<|sN<|cT<|gS rfl rfl<|sV (rI 27)<|sN<|qR ?_
  cases oI h
  exact qG
 refine sM rfl<|sV (.ptr 16 19)<|sL rfl<|sV (rB (decide (a0.bS>(1099511627776:Int))))<|sF h (fun h=>?_) fun h=>?_
 ·refine sN<|cT<|gS rfl rfl<|sV (rI 27)<|sN<|qR ?_
  cases oI h
  exact qG
 refine sN<|cF<|qK<|gS rfl rfl<|sV (r0)<|sN<|qR ?_
 cases oI h
 exact qG
theorem source_plain_ev{a0:Int}{r:Bool}(h:l9 a0=some r):EvP prog aC ext 307 [.d (.int .u8 a0)] [] (rB r,[]):=by
 refine Ev.body rfl Tryz.func307 rfl (by kernel_rfl)<|gS rfl rfl<|sU<|sN<|gS rfl rfl<|sM rfl<|sF h (fun h=>?_) fun h=>?_
 ·refine sM rfl<|sM rfl<|sV (rB (decide (a0<=(90:Int))))<|sF h (fun h=>?_) fun h=>?_
  ·refine sM rfl<|k3<|k3<|sT<|sA rfl<|sN<|qR ?_
   exact oI h▸qD
  refine sM rfl<|sM rfl<|sF h (fun h=>?_) fun h=>?_
  ·refine sM rfl<|sM rfl<|sV (rB (decide (a0<=(57:Int))))<|sV (rB (decide (a0<=(57:Int))))<|sV (rB (decide (a0<=(57:Int))))<|sA rfl<|sN<|qR ?_
   exact oI h▸qD
  refine sM rfl<|sK<|sK<|sU<|sU<|sA rfl<|sN<|qR ?_
  exact oI h▸qD
 refine sM rfl<|sK<|sK<|sU<|sM rfl<|sM rfl<|sF h (fun h=>?_) fun h=>?_
 ·refine sM rfl<|sM rfl<|sV (rB (decide (a0<=(57:Int))))<|sV (rB (decide (a0<=(57:Int))))<|sV (rB (decide (a0<=(57:Int))))<|sA rfl<|sN<|qR ?_
  exact oI h▸qD
 refine sM rfl<|sK<|sK<|sU<|sU<|sA rfl<|sN<|qR ?_
 exact oI h▸qD
theorem iF{a0:(List UInt8)}{a1:Int}{a2:Int}{r:Bool}(h:fJ a0 a1 a2=some r):EvP prog aC ext 241 [rS a0,rI a1,rI a2] [] (rB r,[]):=by
 refine Ev.body rfl Tryz.func241 rfl (by kernel_rfl)<|gS rfl rfl<|sU<|sN<|qS<|gS rfl rfl<|sM rfl<|sV (rI (a0.length:Int))<|sV (r0)<|sN<|bE h fun o8 ho8 h=>WC.block (WC.loop (WL.gv ho8 (fun s R' B'=>cI prog 0 (A R' B') (aC.at_ 241 0 2)=some (A [(0,rS a0),(1,rI a1),(2,rI a2),(9,rI (a0.length:Int)),(10,rI s)] [])) (fun o e R' B'=>match o with| .inl y=>e= .exit 0∧cI prog 0 (A R' B') (aC.at_ 241 0 7)=some (A [(0,rS a0),(1,rI a1),(2,rI a2)] [])| .inr r=>e= .ret∧finish prog (aC.own 241) Tryz.f241 0 (A R' B')=some (rB r,[])) rfl ?_ ?_))
 ·rintro s1 R' B' q2 hI h
  refine gS rfl hI<|sF h (fun h=>?_) fun h=>?_
  ·refine sN<|qS<|cT<|qK<|qS<|qB<|gS rfl rfl<|sM rfl<|sA rfl<|sN<|gS rfl rfl<|sM rfl<|sM rfl<|bE h fun x4 hx4 h=>WO.byteG hx4 rfl rfl rfl rfl rfl rfl ?_
   refine bE h fun x5 hx5 h=>cD (source_plain_ev hx5)<|sF h (fun h=>?_) fun h=>?_
   ·refine sN<|cT<|gS rfl rfl<|sU<|sN<|qR ?_
    cases oI h
    exact⟨nofun,rfl,rfl⟩
   refine sN<|cF<|qK<|WC.region rfl rfl<|sV (rI (rW (s1+(1:Int))))<|sM rfl<|sN ?_
   cases oI h
   exact⟨rfl,rfl⟩
  refine sN<|qS<|cF<|qX ?_
  cases oI h
  exact⟨nofun,rfl,rfl⟩
 intro e R' B' he hq
 rcases o8 with y9|r10
 ·obtain⟨rfl,hI⟩:=hq
  refine qE<|gS rfl hI<|sM rfl<|sV (rI (a0.length:Int))<|sM rfl<|sF h (fun h=>?_) fun h=>?_
  ·refine sM rfl<|sM rfl<|sV (rI (a0.length:Int))<|sM rfl<|sV (rB (decide ((a0.length:Int)<=a2)))<|sV (rB (decide ((a0.length:Int)<=a2)))<|sA rfl<|sN<|qR ?_
   exact oI h▸qD
  refine sM rfl<|k3<|sK<|sU<|sA rfl<|sN<|qR ?_
  exact oI h▸qD
 obtain⟨rfl,hf⟩:=hq
 cases oI h
 exact hf
theorem lP{a0:aw}{r:Bool}(h:gJ a0=some r):EvP prog aC ext 155 [.d (aw.pd a0)] [] (rB r,[]):=by
 refine Ev.body rfl Tryz.func155 rfl (by kernel_rfl)<|gS rfl rfl<|sB (.ptr 16 0) 16 (.var (aw.rc a0))<|sU<|sN<|gS rfl rfl<|sV (.ptr 16 0)<|sL rfl<|bE h fun x1 hx1 h=>kB h (fun hb2 h=>?_) (fun hb2 h=>?_)
 ·refine WO.qw (v:=rB true) (u:=[]) rfl rfl (fun _=>rfl) rfl rfl rfl rfl rfl (iF hx1) rfl rfl (congrArg (fun b=>RV.d (.bool b)) hb2) rfl<|sM rfl<|sV (.ptr 16 1)<|sL rfl<|bE h fun x3 hx3 h=>cD (iF hx3)<|sF h (fun h=>?_) fun h=>?_
  ·refine sM rfl<|sV (.ptr 16 2)<|sL rfl<|bE h fun x5 hx5 h=>cD (iF hx5)<|sF h (fun h=>?_) fun h=>?_
   ·refine sM rfl<|sV (.ptr 16 2)<|sL rfl<|sV (rI (a0.aq.length:Int))<|sV (rB ((a0.aq.length:Int) != (1:Int)))<|sF h (fun h=>?_) fun h=>?_
    ·refine sM rfl<|sV (.ptr 16 3)<|sL rfl<|bE h fun x8 hx8 h=>cD (iF hx8)<|sV (rB x8)<|sA rfl<|sN<|qR ?_
     exact oI h▸qD
    refine sM rfl<|k3<|sU<|sA rfl<|sN<|qR ?_
    exact oI h▸qD
   refine sM rfl<|k3<|sK<|sU<|sM rfl<|k3<|sU<|sA rfl<|sN<|qR ?_
   exact oI h▸qD
  refine sM rfl<|k3<|sU<|sM rfl<|k3<|sK<|sU<|sM rfl<|sK<|sK<|sK ?_
  refine sU<|sA rfl<|sN<|qR ?_
  exact oI h▸qD
 refine WO.qw (v:=rB false) (u:=[]) rfl rfl (fun _=>rfl) rfl rfl rfl rfl rfl (iF hx1) rfl rfl (congrArg (fun b=>RV.d (.bool b)) hb2) rfl<|sM rfl<|k3<|sU<|sM rfl<|k3<|sU<|sM rfl<|sK<|sK<|sK ?_
 refine sK<|sU<|sM rfl<|k3<|sU<|sA rfl<|sN<|qR ?_
 exact oI h▸qD
theorem pP{a0:Int}{a1:Int}{a2:Int}{r:Bool}(h:pe a0 a1 a2=some r):EvP prog aC ext 349 [rI a0,rI a1,rI a2] [] (rB r,[]):=by
 refine Ev.body rfl Tryz.func349 rfl (by kernel_rfl)<|gS rfl rfl<|sU<|sN<|gS rfl rfl<|sM rfl<|sM rfl<|sF h (fun h=>?_) fun h=>?_
 ·refine sM rfl<|sM rfl<|sM rfl<|sV (rB (decide (a0<=a2)))<|sV (rB (decide (a0<=a2)))<|sA rfl<|sN<|qR ?_
  exact oI h▸qD
 refine sM rfl<|k3<|sU<|sA rfl<|sN<|qR ?_
 exact oI h▸qD
theorem rate_gcd_ev{a0:Int}{a1:Int}{r:Int}(h:oS a0 a1=some r):EvP prog aC ext 350 [rI a0,rI a1] [] (rI r,[]):=by
 refine Ev.body rfl Tryz.func350 rfl (by kernel_rfl)<|gS rfl rfl<|sV (r0)<|sN<|qS<|bE h fun o8 ho8 h=>WC.block (WC.loop (WL.gv ho8 (fun s R' B'=>cI prog 0 (A R' B') (aC.at_ 350 0 1)=some (A [(0,rI s.1),(1,rI s.2)] [])) (fun o e R' B'=>e= .exit 0∧cI prog 0 (A R' B') (aC.at_ 350 0 3)=some (A [(0,rI o)] [])) rfl ?_ ?_))
 ·rintro⟨s1,s2⟩ R' B' q4 hI h
  refine qS<|gS rfl hI<|sM rfl<|sF h (fun h=>?_) fun h=>?_
  ·refine sN<|cT<|qK<|qB<|WC.kI rfl rfl<|sM rfl<|sM rfl<|sM rfl<|bE h fun x6 hx6 h=>WO.remG hx6 rfl rfl rfl rfl rfl rfl<|sA rfl<|sA rfl ?_
   refine sN<|sO ?_
   cases oI h
   exact⟨rfl,rfl⟩
  refine sN<|cF<|qX ?_
  cases oI h
  exact⟨nofun,rfl,rfl⟩
 intro e R' B' he hq
 obtain⟨rfl,hI⟩:=hq
 refine qE<|gS rfl hI<|sM rfl<|sA rfl<|sN<|qR ?_
 exact oI h▸qD
theorem rate_Valid_ev{a0:bo}{r:Bool}(h:kT a0=some r):EvP prog aC ext 308 [.d (bo.pd a0)] [] (rB r,[]):=by
 refine Ev.body rfl Tryz.func308 rfl (by kernel_rfl)<|gS rfl rfl<|sB (.ptr 16 0) 16 (.var [rI a0.bI,rI a0.bw])<|sU<|sN<|gS rfl rfl<|sV (.ptr 16 0)<|sL rfl<|bE h fun x1 hx1 h=>kB h (fun hb2 h=>?_) (fun hb2 h=>?_)
 ·refine WO.qw (v:=rB true) (u:=[]) rfl rfl (fun _=>rfl) rfl rfl rfl rfl rfl (pP hx1) rfl rfl (congrArg (fun b=>RV.d (.bool b)) hb2) rfl<|sM rfl<|sV (.ptr 16 1)<|sL rfl<|bE h fun x3 hx3 h=>cD (pP hx3)<|sF h (fun h=>?_) fun h=>?_
  ·refine sM rfl<|sV (.ptr 16 0)<|sL rfl<|sV (.ptr 16 1)<|sL rfl<|bE h fun x5 hx5 h=>cD (rate_gcd_ev hx5)<|sV (rB (x5==(1:Int)))<|sV (rB (x5==(1:Int)))<|sA rfl<|sN<|qR ?_
   exact oI h▸qD
  refine sM rfl<|k3<|k3<|sU<|sA rfl<|sN<|qR ?_
  exact oI h▸qD
 refine WO.qw (v:=rB false) (u:=[]) rfl rfl (fun _=>rfl) rfl rfl rfl rfl rfl (pP hx1) rfl rfl (congrArg (fun b=>RV.d (.bool b)) hb2) rfl<|sM rfl<|k3<|sU<|sM rfl<|k3<|k3<|sU<|sA rfl ?_
 refine sN<|qR ?_
 exact oI h▸qD
theorem ce{a0:Int}{a1:Int}{a2:Int}{r:Bool}(h:bq a0 a1 a2=some r):EvP prog aC ext 335 [rI a0,rI a1,rI a2] [] (rB r,[]):=by
 refine Ev.body rfl Tryz.func335 rfl (by kernel_rfl)<|gS rfl rfl<|sU<|sN<|gS rfl rfl<|sM rfl<|sM rfl<|sF h (fun h=>?_) fun h=>?_
 ·refine sM rfl<|sM rfl<|sM rfl<|sV (rB (decide (a0<=a2)))<|sV (rB (decide (a0<=a2)))<|sA rfl<|sN<|qR ?_
  exact oI h▸qD
 refine sM rfl<|k3<|sU<|sA rfl<|sN<|qR ?_
 exact oI h▸qD
theorem ky{a0:Int}{r:Bool}(h:ja a0=some r):EvP prog aC ext 413 [rI a0] [] (rB r,[]):=by
 refine Ev.body rfl Tryz.func413 rfl (by kernel_rfl)<|gS rfl rfl<|sU<|sN<|gS rfl rfl<|sM rfl<|bE h fun x1 hx1 h=>cD (ce hx1)<|sV (rB (!x1))<|sA rfl<|sN<|qR ?_
 exact oI h▸qD
theorem lN{a0:(List Int)}{r:Int}(h:cW a0=some r):EvP prog aC ext 421 [rL a0,.d (.raw (.func (.func 413) #[] #[]))] [] (rI r,[]):=by
 refine Ev.body rfl Tryz.func421 rfl (by kernel_rfl)<|gS rfl rfl<|sV (r0)<|sN<|qS<|gS rfl rfl<|sM rfl<|sE (rI (a0.length:Int)) (dT _ _)<|sV (r0)<|sN<|bE h fun o8 ho8 h=>WC.block (WC.loop (WL.gv ho8 (fun s R' B'=>cI prog 0 (A R' B') (aC.at_ 421 0 2)=some (A [(0,rL a0),(1,.d (.raw (.func (.func 413) #[] #[]))),(7,rI (a0.length:Int)),(8,rI s)] [])) (fun o e R' B'=>match o with| .inl y=>e= .exit 0∧cI prog 0 (A R' B') (aC.at_ 421 0 7)=some (A [] [])| .inr r=>e= .ret∧finish prog (aC.own 421) Tryz.f421 0 (A R' B')=some (rI r,[])) rfl ?_ ?_))
 ·rintro s1 R' B' q2 hI h
  refine gS rfl hI<|sF h (fun h=>?_) fun h=>?_
  ·refine sN<|qS<|cT<|qK<|qS<|qB<|gS rfl rfl<|sM rfl<|sA rfl<|sN<|gS rfl rfl<|sM rfl<|sM rfl<|sM rfl<|bE h fun x4 hx4 h=>?_
   refine eG hx4 rfl<|sC rfl<|bE h fun x5 hx5 h=>kB h (fun hb6 h=>?_) (fun hb6 h=>?_)
   ·refine WO.qw (v:=rB true) (u:=[]) rfl rfl (fun _=>rfl) rfl rfl rfl rfl rfl (ky hx5) rfl rfl (congrArg (fun b=>RV.d (.bool b)) hb6) rfl<|sN<|cT<|gS rfl rfl<|sM rfl<|sA rfl<|sN<|qR ?_
    cases oI h
    exact⟨nofun,rfl,rfl⟩
   refine WO.qw (v:=rB false) (u:=[]) rfl rfl (fun _=>rfl) rfl rfl rfl rfl rfl (ky hx5) rfl rfl (congrArg (fun b=>RV.d (.bool b)) hb6) rfl<|sN<|cF<|qK<|WC.region rfl rfl<|sV (rI (rW (s1+(1:Int))))<|sM rfl<|sN ?_
   cases oI h
   exact⟨rfl,rfl⟩
  refine sN<|qS<|cF<|qX ?_
  cases oI h
  exact⟨nofun,rfl,rfl⟩
 intro e R' B' he hq
 rcases o8 with y9|r10
 ·obtain⟨rfl,hI⟩:=hq
  refine qE<|gS rfl hI<|sV (rI (-1))<|sN<|qR ?_
  exact oI h▸qD
 obtain⟨rfl,hf⟩:=hq
 cases oI h
 exact hf
theorem kE{a0:(List Int)}{r:Bool}(h:cx a0=some r):EvP prog aC ext 412 [rL a0,.d (.raw (.func (.func 413) #[] #[]))] [] (rB r,[]):=by
 refine Ev.body rfl Tryz.func412 rfl (by kernel_rfl)<|gS rfl rfl<|sU<|sN<|gS rfl rfl<|sM rfl<|sM rfl<|bE h fun x1 hx1 h=>cD (lN hx1)<|sV (rB (decide (x1>=(0:Int))))<|sA rfl<|sN<|qR ?_
 exact oI h▸qD
theorem fG{a0:(List Int)}{r:Bool}(h:cp a0=some r):EvP prog aC ext 394 [rL a0] [] (rB r,[]):=by
 refine Ev.body rfl Tryz.func394 rfl (by kernel_rfl)<|gS rfl rfl<|sU<|sN<|gS rfl rfl<|sM rfl<|bE h fun x1 hx1 h=>cD (kE hx1)<|sV (rB (!x1))<|sA rfl<|sN<|qR ?_
 exact oI h▸qD
theorem js{a0:(List Int)}{r:Int}(h:dF a0=some r):EvP prog aC ext 383 [rL a0] [] (rI r,[]):=by
 refine Ev.body rfl Tryz.func383 rfl (by kernel_rfl)<|gS rfl rfl<|sV (r0)<|sN<|gS rfl rfl<|sV (r0)<|sN<|qS<|gS rfl rfl<|sM rfl<|sE (rI (a0.length:Int)) (dT _ _)<|sV (r0)<|sN<|bE h fun o8 ho8 h=>WC.block (WC.loop (WL.gv ho8 (fun s R' B'=>cI prog 0 (A R' B') (aC.at_ 383 0 3)=some (A [(3,rI s.1),(6,rL a0),(7,rI (a0.length:Int)),(8,rI s.2)] [])) (fun o e R' B'=>e= .exit 0∧cI prog 0 (A R' B') (aC.at_ 383 0 7)=some (A [(3,rI o)] [])) rfl ?_ ?_))
 ·rintro⟨s1,s2⟩ R' B' q4 hI h
  refine gS rfl hI<|sF h (fun h=>?_) fun h=>?_
  ·refine sN<|qS<|cT<|qK<|qS<|qB<|gS rfl rfl<|bE h fun x6 hx6 h=>eG hx6 rfl<|sC rfl<|sA rfl<|sN<|WC.region rfl rfl<|sM rfl<|sM rfl ?_
   refine sV (rI (rW (s1+x6)))<|sA rfl<|sN<|WC.region rfl rfl<|sV (rI (rW (s2+(1:Int))))<|sM rfl<|sN ?_
   cases oI h
   exact⟨rfl,rfl⟩
  refine sN<|qS<|cF<|qX ?_
  cases oI h
  exact⟨nofun,rfl,rfl⟩
 intro e R' B' he hq
 obtain⟨rfl,hI⟩:=hq
 refine qE<|gS rfl hI<|sM rfl<|sA rfl<|sN<|qR ?_
 exact oI h▸qD
theorem n4{a0:aH}{r:Bool}(h:cC a0=some r):EvP prog aC ext 353 [.d (aH.pd a0)] [] (rB r,[]):=by
 refine Ev.body rfl Tryz.func353 rfl (by kernel_rfl)<|gS rfl rfl<|sB (.ptr 16 0) 16 (.var (aH.rc a0))<|sU<|sN<|gS rfl rfl<|sV (.ptr 16 7)<|sL rfl<|sE (rI (a0.dM.length:Int)) (dT _ _)<|sF h (fun h=>?_) fun h=>?_
 ·refine sM rfl<|sV (.ptr 16 8)<|sL rfl<|sV (rB (a0.dD==(0:Int)))<|sF h (fun h=>?_) fun h=>?_
  ·refine sM rfl<|sV (.ptr 16 9)<|sL rfl<|sV (rB (a0.dO==(0:Int)))<|sV (rB (a0.dO==(0:Int)))<|sA rfl<|sN<|qS<|gS rfl rfl<|sV (.ptr 16 0)<|sL rfl<|sN<|qB<|gS rfl rfl<|sF h (fun h=>?_) fun h=>?_
   ·refine sA rfl<|sN<|cT<|gS rfl rfl<|sF h (fun h=>?_) fun h=>?_
    ·refine sM rfl<|sV (.ptr 16 1)<|sV (.d (aW.pd a0.bI))<|sV (.ptr 16 1)<|sV (.ptr 16 1)<|sL rfl<|sV (.d (aW.pd (aW.mk a0.bI.a0 0 0)))<|WO.bin (jZ a0.bI (aW.mk a0.bI.a0 0 0)) rfl rfl rfl rfl rfl<|sF h (fun h=>?_) fun h=>?_
     ·refine sM rfl<|sV (.ptr 16 4)<|sV (.d (aW.pd a0.bw))<|sV (.ptr 16 4)<|sV (.ptr 16 4)<|sL rfl<|sV (.d (aW.pd (aW.mk a0.bw.a0 0 0)))<|WO.bin (jZ a0.bw (aW.mk a0.bw.a0 0 0)) rfl rfl rfl rfl rfl<|sF h (fun h=>?_) fun h=>?_
      ·refine sM rfl<|sV (.ptr 16 1)<|sV (.ptr 16 1)<|sL rfl<|bE h fun x7 hx7 h=>cD (ce hx7)<|sF h (fun h=>?_) fun h=>?_
       ·refine sM rfl<|sV (.ptr 16 4)<|sV (.ptr 16 4)<|sL rfl<|bE h fun x9 hx9 h=>cD (ce hx9)<|sV (rB x9)<|sA rfl<|sN<|qR ?_
        cases oI h
        exact qG
       refine sM rfl<|k3<|sK<|sU<|sA rfl<|sN<|qR ?_
       cases oI h
       exact qG
      refine sM rfl<|k3<|sK<|sU<|sM rfl<|k3<|sK<|sU<|sA rfl<|sN<|qR ?_
      cases oI h
      exact qG
     refine sM rfl<|k3<|k3<|sK<|sU<|sM rfl<|k3<|sK<|sU ?_
     refine sM rfl<|k3<|sK<|sU<|sA rfl<|sN<|qR ?_
     cases oI h
     exact qG
    refine sM rfl<|k3<|k3<|sK<|sU<|sM rfl<|k3<|sK<|sK ?_
    refine sK<|sK<|sU<|sM rfl<|k3<|sK<|sU<|sM rfl<|k3<|sK<|sU ?_
    refine sA rfl<|sN<|qR ?_
    cases oI h
    exact qG
   refine sA rfl<|sN<|cF<|gS rfl rfl<|sF h (fun h=>?_) fun h=>?_
   ·refine sA rfl<|sN<|cT<|WC.iA (R0:=[(1,.cptr [.int .i64 a0.fP,.int .i64 a0.bI.a0,.int .i64 a0.bI.a1,.int .i64 a0.bI.a2,.int .i64 a0.bw.a0,.int .i64 a0.bw.a1,.int .i64 a0.bw.a2,.lst (a0.dM.map (PD.int .i64)),.int .i64 a0.dD,.int .i64 a0.dO]),(3,rB (a0.dO==(0:Int)))]) (B0:=[]) rfl rfl<|sF h (fun h=>?_) fun h=>?_
    ·refine sM rfl<|sV (.cptr [.int .i64 a0.bI.a0,.int .i64 a0.bI.a1,.int .i64 a0.bI.a2,.int .i64 a0.bw.a0,.int .i64 a0.bw.a1,.int .i64 a0.bw.a2,.lst (a0.dM.map (PD.int .i64)),.int .i64 a0.dD,.int .i64 a0.dO])<|sV (.d (.lst ([a0.bI.a0,a0.bI.a1,a0.bI.a2].map (PD.int .i64))))<|bE h fun x12 hx12 h=>cD (fG hx12)<|sF h (fun h=>?_) fun h=>?_
     ·refine sM rfl<|sV (.cptr [.int .i64 a0.bw.a0,.int .i64 a0.bw.a1,.int .i64 a0.bw.a2,.lst (a0.dM.map (PD.int .i64)),.int .i64 a0.dD,.int .i64 a0.dO])<|sV (.d (.lst ([a0.bw.a0,a0.bw.a1,a0.bw.a2].map (PD.int .i64))))<|bE h fun x14 hx14 h=>cD (fG hx14)<|sF h (fun h=>?_) fun h=>?_
      ·refine sM rfl<|sV (.cptr [.int .i64 a0.bw.a0,.int .i64 a0.bw.a1,.int .i64 a0.bw.a2,.lst (a0.dM.map (PD.int .i64)),.int .i64 a0.dD,.int .i64 a0.dO])<|sV (.cptr [.int .i64 a0.bw.a0,.int .i64 a0.bw.a1,.int .i64 a0.bw.a2,.lst (a0.dM.map (PD.int .i64)),.int .i64 a0.dD,.int .i64 a0.dO])<|sC rfl<|sV (rB (a0.bw.a0 != (0:Int)))<|sV (rB (a0.bw.a0 != (0:Int)))<|sA rfl<|sN<|qR ?_
       exact oI h▸qD
      refine sM rfl<|k3<|sK<|sU<|sA rfl<|sN<|qR ?_
      exact oI h▸qD
     refine sM rfl<|k3<|sU<|sM rfl<|k3<|sK<|sU<|sA rfl<|sN<|qR ?_
     exact oI h▸qD
    refine sM rfl<|k3<|sU<|sM rfl<|k3<|sU<|sM rfl<|k3<|sK ?_
    refine sU<|sA rfl<|sN<|qR ?_
    exact oI h▸qD
   refine sA rfl<|sN<|cF<|gS rfl rfl<|sF h (fun h=>?_) fun h=>?_
   ·refine sA rfl<|sN<|cT<|gS rfl rfl<|sV (.ptr 16 1)<|sV (.d (aW.pd a0.bI))<|sV (.d (aW.pd (aW.mk 0 0 0)))<|kB h (fun hb17 h=>?_) (fun hb17 h=>?_)
    ·refine WO.uS (jZ a0.bI (aW.mk 0 0 0)) hb17 rfl rfl rfl rfl rfl<|sM rfl<|sV (.ptr 16 4)<|sV (.d (aW.pd a0.bw))<|sV (.d (aW.pd (aW.mk 0 0 0)))<|WO.bin (jZ a0.bw (aW.mk 0 0 0)) rfl rfl rfl rfl rfl<|sF h (fun h=>?_) fun h=>?_
     ·refine sM rfl<|sV (.ptr 16 7)<|sL rfl<|sE (rI (a0.dM.length:Int)) (dT _ _)<|bE h fun x19 hx19 h=>cD (ce hx19)<|sF h (fun h=>?_) fun h=>?_
      ·refine sM rfl<|sV (.ptr 16 7)<|sL rfl<|bE h fun x21 hx21 h=>cD (fG hx21)<|sF h (fun h=>?_) fun h=>?_
       ·refine sM rfl<|sV (.ptr 16 7)<|sL rfl<|bE h fun x23 hx23 h=>cD (js hx23)<|sV (rB (x23 != (0:Int)))<|sF h (fun h=>?_) fun h=>?_
        ·refine sM rfl<|sV (.ptr 16 8)<|sL rfl<|bE h fun x25 hx25 h=>cD (ce hx25)<|sF h (fun h=>?_) fun h=>?_
         ·refine sM rfl<|sV (.ptr 16 9)<|sL rfl<|bE h fun x27 hx27 h=>cD (ce hx27)<|sV (rB x27)<|sA rfl<|sN<|qR ?_
          cases oI h
          exact qG
         refine sM rfl<|k3<|sU<|sA rfl<|sN<|qR ?_
         cases oI h
         exact qG
        refine sM rfl<|k3<|sU<|sM rfl<|k3<|sU<|sA rfl<|sN<|qR ?_
        cases oI h
        exact qG
       refine sM rfl<|k3<|sK<|sU<|sM rfl<|k3<|sU<|sM rfl<|sK<|sK<|sK ?_
       refine sU<|sA rfl<|sN<|qR ?_
       cases oI h
       exact qG
      refine sM rfl<|k3<|sU<|sM rfl<|k3<|sK<|sU<|sM rfl<|sK<|sK<|sK ?_
      refine sU<|sM rfl<|k3<|sU<|sA rfl<|sN<|qR ?_
      cases oI h
      exact qG
     refine sM rfl<|k3<|sK<|sU<|sM rfl<|k3<|sU<|sM rfl<|sK<|sK<|sK ?_
     refine sK<|sU<|sM rfl<|k3<|sU<|sM rfl<|k3<|sU<|sA rfl<|sN<|qR ?_
     cases oI h
     exact qG
    refine WO.uS (jZ a0.bI (aW.mk 0 0 0)) hb17 rfl rfl rfl rfl rfl<|sM rfl<|k3<|sK<|sU<|sM rfl<|k3<|sK<|sU<|sM rfl<|sK ?_
    refine sK<|sK<|sU<|sM rfl<|k3<|sK<|sU<|sM rfl<|k3<|sU<|sM rfl ?_
    refine k3<|sU<|sA rfl<|sN<|qR ?_
    cases oI h
    exact qG
   refine sA rfl<|sN<|cF<|qK<|gS rfl rfl<|sU<|sN<|qR ?_
   cases oI h
   exact qG
  refine sM rfl<|k3<|sU<|sA rfl<|sN<|qS<|gS rfl rfl<|sV (.ptr 16 0)<|sL rfl<|sN<|qB<|gS rfl rfl<|sF h (fun h=>?_) fun h=>?_
  ·refine sA rfl<|sN<|cT<|gS rfl rfl<|sM rfl<|sM rfl<|k3<|k3<|sK<|sU<|sM rfl ?_
   refine k3<|k3<|sK<|sU<|sM rfl<|k3<|sK<|sU<|sM rfl ?_
   refine k3<|sK<|sU<|sA rfl<|sN<|qR ?_
   cases oI h
   exact qG
  refine sA rfl<|sN<|cF<|gS rfl rfl<|sF h (fun h=>?_) fun h=>?_
  ·refine sA rfl<|sN<|cT<|WC.iA (R0:=[(1,.cptr [.int .i64 a0.fP,.int .i64 a0.bI.a0,.int .i64 a0.bI.a1,.int .i64 a0.bI.a2,.int .i64 a0.bw.a0,.int .i64 a0.bw.a1,.int .i64 a0.bw.a2,.lst (a0.dM.map (PD.int .i64)),.int .i64 a0.dD,.int .i64 a0.dO]),(3,rB false)]) (B0:=[]) rfl rfl<|sM rfl<|sM rfl<|k3<|sU<|sM rfl<|k3<|sU ?_
   refine sM rfl<|k3<|sK<|sU<|sA rfl<|sN<|qR ?_
   exact oI h▸qD
  refine sA rfl<|sN<|cF<|gS rfl rfl<|sF h (fun h=>?_) fun h=>?_
  ·refine sA rfl<|sN<|cT<|gS rfl rfl<|sV (.ptr 16 1)<|sV (.d (aW.pd a0.bI))<|sV (.d (aW.pd (aW.mk 0 0 0)))<|kB h (fun hb31 h=>?_) (fun hb31 h=>?_)
   ·refine WO.uS (jZ a0.bI (aW.mk 0 0 0)) hb31 rfl rfl rfl rfl rfl<|sM rfl<|sV (.ptr 16 4)<|sV (.d (aW.pd a0.bw))<|sV (.d (aW.pd (aW.mk 0 0 0)))<|WO.bin (jZ a0.bw (aW.mk 0 0 0)) rfl rfl rfl rfl rfl<|sF h (fun h=>?_) fun h=>?_
    ·refine sM rfl<|sV (.ptr 16 7)<|sL rfl<|sE (rI (a0.dM.length:Int)) (dT _ _)<|bE h fun x33 hx33 h=>cD (ce hx33)<|sF h (fun h=>?_) fun h=>?_
     ·refine sM rfl<|sV (.ptr 16 7)<|sL rfl<|bE h fun x35 hx35 h=>cD (fG hx35)<|sF h (fun h=>?_) fun h=>?_
      ·refine sM rfl<|sV (.ptr 16 7)<|sL rfl<|bE h fun x37 hx37 h=>cD (js hx37)<|sV (rB (x37 != (0:Int)))<|sF h (fun h=>?_) fun h=>?_
       ·refine sM rfl<|sV (.ptr 16 8)<|sL rfl<|bE h fun x39 hx39 h=>cD (ce hx39)<|sF h (fun h=>?_) fun h=>?_
        ·refine sM rfl<|sV (.ptr 16 9)<|sL rfl<|bE h fun x41 hx41 h=>cD (ce hx41)<|sV (rB x41)<|sA rfl<|sN<|qR ?_
         cases oI h
         exact qG
        refine sM rfl<|k3<|sU<|sA rfl<|sN<|qR ?_
        cases oI h
        exact qG
       refine sM rfl<|k3<|sU<|sM rfl<|k3<|sU<|sA rfl<|sN<|qR ?_
       cases oI h
       exact qG
      refine sM rfl<|k3<|sK<|sU<|sM rfl<|k3<|sU<|sM rfl<|sK<|sK<|sK ?_
      refine sU<|sA rfl<|sN<|qR ?_
      cases oI h
      exact qG
     refine sM rfl<|k3<|sU<|sM rfl<|k3<|sK<|sU<|sM rfl<|sK<|sK<|sK ?_
     refine sU<|sM rfl<|k3<|sU<|sA rfl<|sN<|qR ?_
     cases oI h
     exact qG
    refine sM rfl<|k3<|sK<|sU<|sM rfl<|k3<|sU<|sM rfl<|sK<|sK<|sK ?_
    refine sK<|sU<|sM rfl<|k3<|sU<|sM rfl<|k3<|sU<|sA rfl<|sN<|qR ?_
    cases oI h
    exact qG
   refine WO.uS (jZ a0.bI (aW.mk 0 0 0)) hb31 rfl rfl rfl rfl rfl<|sM rfl<|k3<|sK<|sU<|sM rfl<|k3<|sK<|sU<|sM rfl<|sK ?_
   refine sK<|sK<|sU<|sM rfl<|k3<|sK<|sU<|sM rfl<|k3<|sU<|sM rfl ?_
   refine k3<|sU<|sA rfl<|sN<|qR ?_
   cases oI h
   exact qG
  refine sA rfl<|sN<|cF<|qK<|gS rfl rfl<|sU<|sN<|qR ?_
  cases oI h
  exact qG
 refine sM rfl<|k3<|sU<|sM rfl<|k3<|sU<|sA rfl<|sN<|qS<|gS rfl rfl<|sV (.ptr 16 0) ?_
 refine sL rfl<|sN<|qB<|gS rfl rfl<|sF h (fun h=>?_) fun h=>?_
 ·refine sA rfl<|sN<|cT<|gS rfl rfl<|sM rfl<|sM rfl<|k3<|k3<|sK<|sU<|sM rfl ?_
  refine k3<|k3<|sK<|sU<|sM rfl<|k3<|sK<|sU<|sM rfl ?_
  refine k3<|sK<|sU<|sA rfl<|sN<|qR ?_
  cases oI h
  exact qG
 refine sA rfl<|sN<|cF<|gS rfl rfl<|sF h (fun h=>?_) fun h=>?_
 ·refine sA rfl<|sN<|cT<|WC.iA (R0:=[(1,.cptr [.int .i64 a0.fP,.int .i64 a0.bI.a0,.int .i64 a0.bI.a1,.int .i64 a0.bI.a2,.int .i64 a0.bw.a0,.int .i64 a0.bw.a1,.int .i64 a0.bw.a2,.lst (a0.dM.map (PD.int .i64)),.int .i64 a0.dD,.int .i64 a0.dO]),(3,rB false)]) (B0:=[]) rfl rfl<|sM rfl<|sM rfl<|k3<|sU<|sM rfl<|k3<|sU ?_
  refine sM rfl<|k3<|sK<|sU<|sA rfl<|sN<|qR ?_
  exact oI h▸qD
 refine sA rfl<|sN<|cF<|gS rfl rfl<|sF h (fun h=>?_) fun h=>?_
 ·refine sA rfl<|sN<|cT<|gS rfl rfl<|sV (.ptr 16 1)<|sV (.d (aW.pd a0.bI))<|sV (.d (aW.pd (aW.mk 0 0 0)))<|kB h (fun hb45 h=>?_) (fun hb45 h=>?_)
  ·refine WO.uS (jZ a0.bI (aW.mk 0 0 0)) hb45 rfl rfl rfl rfl rfl<|sM rfl<|sV (.ptr 16 4)<|sV (.d (aW.pd a0.bw))<|sV (.d (aW.pd (aW.mk 0 0 0)))<|WO.bin (jZ a0.bw (aW.mk 0 0 0)) rfl rfl rfl rfl rfl<|sF h (fun h=>?_) fun h=>?_
   ·refine sM rfl<|sV (.ptr 16 7)<|sL rfl<|sE (rI (a0.dM.length:Int)) (dT _ _)<|bE h fun x47 hx47 h=>cD (ce hx47)<|sF h (fun h=>?_) fun h=>?_
    ·refine sM rfl<|sV (.ptr 16 7)<|sL rfl<|bE h fun x49 hx49 h=>cD (fG hx49)<|sF h (fun h=>?_) fun h=>?_
     ·refine sM rfl<|sV (.ptr 16 7)<|sL rfl<|bE h fun x51 hx51 h=>cD (js hx51)<|sV (rB (x51 != (0:Int)))<|sF h (fun h=>?_) fun h=>?_
      ·refine sM rfl<|sV (.ptr 16 8)<|sL rfl<|bE h fun x53 hx53 h=>cD (ce hx53)<|sF h (fun h=>?_) fun h=>?_
       ·refine sM rfl<|sV (.ptr 16 9)<|sL rfl<|bE h fun x55 hx55 h=>cD (ce hx55)<|sV (rB x55)<|sA rfl<|sN<|qR ?_
        cases oI h
        exact qG
       refine sM rfl<|k3<|sU<|sA rfl<|sN<|qR ?_
       cases oI h
       exact qG
      refine sM rfl<|k3<|sU<|sM rfl<|k3<|sU<|sA rfl<|sN<|qR ?_
      cases oI h
      exact qG
     refine sM rfl<|k3<|sK<|sU<|sM rfl<|k3<|sU<|sM rfl<|sK<|sK<|sK ?_
     refine sU<|sA rfl<|sN<|qR ?_
     cases oI h
     exact qG
    refine sM rfl<|k3<|sU<|sM rfl<|k3<|sK<|sU<|sM rfl<|sK<|sK<|sK ?_
    refine sU<|sM rfl<|k3<|sU<|sA rfl<|sN<|qR ?_
    cases oI h
    exact qG
   refine sM rfl<|k3<|sK<|sU<|sM rfl<|k3<|sU<|sM rfl<|sK<|sK<|sK ?_
   refine sK<|sU<|sM rfl<|k3<|sU<|sM rfl<|k3<|sU<|sA rfl<|sN<|qR ?_
   cases oI h
   exact qG
  refine WO.uS (jZ a0.bI (aW.mk 0 0 0)) hb45 rfl rfl rfl rfl rfl<|sM rfl<|k3<|sK<|sU<|sM rfl<|k3<|sK<|sU<|sM rfl<|sK ?_
  refine sK<|sK<|sU<|sM rfl<|k3<|sK<|sU<|sM rfl<|k3<|sU<|sM rfl ?_
  refine k3<|sU<|sA rfl<|sN<|qR ?_
  cases oI h
  exact qG
 refine sA rfl<|sN<|cF<|qK<|gS rfl rfl<|sU<|sN<|qR ?_
 cases oI h
 exact qG
theorem kw{a0:aH}{r:Bool}(h:eH a0=some r):EvP prog aC ext 352 [.d (aH.pd a0)] [] (rB r,[]):=by
 refine Ev.body rfl Tryz.func352 rfl (by kernel_rfl)<|gS rfl rfl<|sB (.ptr 16 0) 16 (.var (aH.rc a0))<|sU<|sN<|gS rfl rfl<|sV (.d (aH.pd a0))<|bE h fun x1 hx1 h=>cD (n4 hx1)<|sV (rB (!x1))<|sA rfl<|sN<|qR ?_
 cases oI h
 exact qG
theorem kX{a0:(List aH)}{r:Int}(h:cG a0=some r):EvP prog aC ext 393 [rM aH.pd a0,.d (.raw (.func (.func 352) #[] #[]))] [] (rI r,[]):=by
 refine Ev.body rfl Tryz.func393 rfl (by kernel_rfl)<|gS rfl rfl<|sV (r0)<|sN<|qS<|gS rfl rfl<|sM rfl<|sE (rI (a0.length:Int)) (dT _ _)<|sV (r0)<|sN<|bE h fun o8 ho8 h=>WC.block (WC.loop (WL.gv ho8 (fun s R' B'=>cI prog 0 (A R' B') (aC.at_ 393 0 2)=some (A [(0,rM aH.pd a0),(1,.d (.raw (.func (.func 352) #[] #[]))),(7,rI (a0.length:Int)),(8,rI s)] [])) (fun o e R' B'=>match o with| .inl y=>e= .exit 0∧cI prog 0 (A R' B') (aC.at_ 393 0 7)=some (A [] [])| .inr r=>e= .ret∧finish prog (aC.own 393) Tryz.f393 0 (A R' B')=some (rI r,[])) rfl ?_ ?_))
 ·rintro s1 R' B' q2 hI h
  refine gS rfl hI<|sF h (fun h=>?_) fun h=>?_
  ·refine sN<|qS<|cT<|qK<|qS<|qB<|gS rfl rfl<|sM rfl<|sA rfl<|sN<|gS rfl rfl<|sM rfl<|sM rfl<|sM rfl<|bE h fun x4 hx4 h=>?_
   refine eG hx4 rfl<|sV (.d (aH.pd x4))<|bE h fun x5 hx5 h=>kB h (fun hb6 h=>?_) (fun hb6 h=>?_)
   ·refine WO.qw (v:=rB true) (u:=[]) rfl rfl (fun _=>rfl) rfl rfl rfl rfl rfl (kw hx5) rfl rfl (congrArg (fun b=>RV.d (.bool b)) hb6) rfl<|sN<|cT<|gS rfl rfl<|sM rfl<|sA rfl<|sN<|qR ?_
    cases oI h
    exact⟨nofun,rfl,rfl⟩
   refine WO.qw (v:=rB false) (u:=[]) rfl rfl (fun _=>rfl) rfl rfl rfl rfl rfl (kw hx5) rfl rfl (congrArg (fun b=>RV.d (.bool b)) hb6) rfl<|sN<|cF<|qK<|WC.region rfl rfl<|sV (rI (rW (s1+(1:Int))))<|sM rfl<|sN ?_
   cases oI h
   exact⟨rfl,rfl⟩
  refine sN<|qS<|cF<|qX ?_
  cases oI h
  exact⟨nofun,rfl,rfl⟩
 intro e R' B' he hq
 rcases o8 with y9|r10
 ·obtain⟨rfl,hI⟩:=hq
  refine qE<|gS rfl hI<|sV (rI (-1))<|sN<|qR ?_
  exact oI h▸qD
 obtain⟨rfl,hf⟩:=hq
 cases oI h
 exact hf
theorem jN{a0:(List aH)}{r:Bool}(h:b9 a0=some r):EvP prog aC ext 351 [rM aH.pd a0,.d (.raw (.func (.func 352) #[] #[]))] [] (rB r,[]):=by
 refine Ev.body rfl Tryz.func351 rfl (by kernel_rfl)<|gS rfl rfl<|sU<|sN<|gS rfl rfl<|sM rfl<|sM rfl<|bE h fun x1 hx1 h=>cD (kX hx1)<|sV (rB (decide (x1>=(0:Int))))<|sA rfl<|sN<|qR ?_
 exact oI h▸qD
theorem pQ{a0:(List aH)}{r:Int}(h:fr a0=some r):EvP prog aC ext 354 [rM aH.pd a0] [] (rI r,[]):=by
 refine Ev.body rfl Tryz.func354 rfl (by kernel_rfl)<|gS rfl rfl<|sV (r0)<|sN<|gS rfl rfl<|sV (rI 1)<|sN<|qS<|gS rfl rfl<|sM rfl<|sE (rI (a0.length:Int)) (dT _ _)<|sV (r0)<|sN<|bE h fun o10 ho10 h=>WC.block (WC.loop (WL.gv ho10 (fun s R' B'=>cI prog 0 (A R' B') (aC.at_ 354 0 3)=some (A [(3,rI s.1),(6,rM aH.pd a0),(7,rI (a0.length:Int)),(8,rI s.2)] [])) (fun o e R' B'=>match o with| .inl y=>e= .exit 0∧cI prog 0 (A R' B') (aC.at_ 354 0 10)=some (A [(3,rI y)] [])| .inr r=>e= .ret∧finish prog (aC.own 354) Tryz.f354 0 (A R' B')=some (rI r,[])) rfl ?_ ?_))
 ·rintro⟨s1,s2⟩ R' B' q4 hI h
  refine gS rfl hI<|sF h (fun h=>?_) fun h=>?_
  ·refine sN<|qS<|cT<|qK<|qS<|qB<|gS rfl rfl<|bE h fun x6 hx6 h=>eG hx6 rfl<|sV (.d (aH.pd x6))<|sB (.ptr 80 0) 80 (.var [r0,r0,r0,r0,r0,r0,r0,.dH,r0,r0])<|sH 80 (.var (aH.rc x6))<|sN<|qS<|gS rfl rfl ?_
   refine sV (.ptr 80 0)<|sL rfl<|sF h (fun h=>?_) fun h=>?_
   ·refine sN<|cT<|qX<|qE<|WC.region rfl rfl<|sV (rI (rW (s2+(1:Int))))<|sM rfl<|sN ?_
    cases oI h
    exact⟨rfl,rfl⟩
   refine sN<|cF<|qK<|gS rfl rfl<|sM rfl<|sV (.ptr 80 8)<|sL rfl<|sV (rI (rW (s1*x6.dD)))<|sA rfl<|sN<|gS rfl rfl<|sM rfl<|sF h (fun h=>?_) fun h=>?_
   ·refine sN<|cT<|gS rfl rfl<|sV (r0)<|sN<|qR ?_
    cases oI h
    exact⟨nofun,rfl,rfl⟩
   refine sN<|cF<|qK<|WC.region rfl rfl<|sV (rI (rW (s2+(1:Int))))<|sM rfl<|sN ?_
   cases oI h
   exact⟨rfl,rfl⟩
  refine sN<|qS<|cF<|qX ?_
  cases oI h
  exact⟨nofun,rfl,rfl⟩
 intro e R' B' he hq
 rcases o10 with y11|r12
 ·obtain⟨rfl,hI⟩:=hq
  refine qE<|gS rfl hI<|sM rfl<|sA rfl<|sN<|qR ?_
  exact oI h▸qD
 obtain⟨rfl,hf⟩:=hq
 cases oI h
 exact hf
theorem mS{a0:aP}{r:Bool}(h:fe a0=some r):EvP prog aC ext 309 [.d (aP.pd a0)] [] (rB r,[]):=by
 refine Ev.body rfl Tryz.func309 rfl (by kernel_rfl)<|gS rfl rfl<|sB (.ptr 16 0) 16 (.var [rM aH.pd a0.bG])<|sU<|sN<|qS<|gS rfl rfl<|sV (.ptr 16 0)<|sL rfl<|sE (rI (a0.bG.length:Int)) (dT _ _)<|sF h (fun h=>?_) fun h=>?_
 ·refine sM rfl<|k3<|sT<|sN<|cT<|gS rfl rfl<|sU<|sN<|qR ?_
  exact oI h▸qD
 refine sM rfl<|sV (.ptr 16 0)<|sL rfl<|bE h fun x2 hx2 h=>cD (jN hx2)<|sF h (fun h=>?_) fun h=>?_
 ·refine sN<|cT<|gS rfl rfl<|sU<|sN<|qR ?_
  exact oI h▸qD
 refine sN<|cF<|qK<|gS rfl rfl<|sV (.ptr 16 0)<|sL rfl<|bE h fun x4 hx4 h=>cD (pQ hx4)<|sV (rB (decide (x4>(0:Int))))<|sA rfl<|sN<|qR ?_
 exact oI h▸qD
theorem jr{a0:Int}{a1:Int}{a2:Int}{r:Bool}(h:de a0 a1 a2=some r):EvP prog aC ext 243 [rI a0,rI a1,rI a2] [] (rB r,[]):=by
 refine Ev.body rfl Tryz.func243 rfl (by kernel_rfl)<|gS rfl rfl<|sU<|sN<|gS rfl rfl<|sM rfl<|sM rfl<|sF h (fun h=>?_) fun h=>?_
 ·refine sM rfl<|sM rfl<|sM rfl<|sV (rB (decide (a0<=a2)))<|sV (rB (decide (a0<=a2)))<|sA rfl<|sN<|qR ?_
  exact oI h▸qD
 refine sM rfl<|k3<|sU<|sA rfl<|sN<|qR ?_
 exact oI h▸qD
theorem nr{a0:av}{r:Bool}(h:dp a0=some r):EvP prog aC ext 242 [.d (av.pd a0)] [] (rB r,[]):=by
 refine Ev.body rfl Tryz.func242 rfl (by kernel_rfl)<|gS rfl rfl<|sB (.ptr 16 0) 16 (.var (av.rc a0))<|sU<|sN<|gS rfl rfl<|sV (.ptr 16 4)<|sV (.d (aa.pd a0.bj))<|sB (.ptr 48 0) 48 (.var [r0,r0,r0])<|sS 48 (.var (aa.rc a0.bj))<|sN<|gS rfl rfl<|sV (.ptr 16 0)<|sL rfl<|sF h (fun h=>?_) fun h=>?_
 ·refine sM rfl<|sV (.ptr 16 0)<|sL rfl<|sV (.ptr 16 1)<|sL rfl<|sV (rB (decide (a0.bp<a0.fTo)))<|sF h (fun h=>?_) fun h=>?_
  ·refine sM rfl<|sV (.ptr 16 1)<|sL rfl<|sV (rB (decide (a0.fTo<=(9007199254740992:Int))))<|sF h (fun h=>?_) fun h=>?_
   ·refine sM rfl<|sV (.ptr 16 2)<|sV (.d (bo.pd a0.gq))<|bE h fun x4 hx4 h=>cD (rate_Valid_ev hx4)<|sF h (fun h=>?_) fun h=>?_
    ·refine sM rfl<|sV (.ptr 16 7)<|sV (.d (aP.pd a0.bN))<|bE h fun x6 hx6 h=>cD (mS hx6)<|sF h (fun h=>?_) fun h=>?_
     ·refine sM rfl<|sV (.ptr 48 0)<|sL rfl<|bE h fun x8 hx8 h=>cD (jr hx8)<|sF h (fun h=>?_) fun h=>?_
      ·refine sM rfl<|sV (.ptr 48 1)<|sL rfl<|bE h fun x10 hx10 h=>cD (jr hx10)<|sF h (fun h=>?_) fun h=>?_
       ·refine sM rfl<|sV (.ptr 48 2)<|sL rfl<|bE h fun x12 hx12 h=>cD (jr hx12)<|sV (rB x12)<|sA rfl<|sN<|qR ?_
        exact oI h▸qD
       refine sM rfl<|k3<|sU<|sA rfl<|sN<|qR ?_
       exact oI h▸qD
      refine sM rfl<|k3<|sU<|sM rfl<|k3<|sU<|sA rfl<|sN<|qR ?_
      exact oI h▸qD
     refine sM rfl<|k3<|sU<|sM rfl<|k3<|sU<|sM rfl<|k3<|sU ?_
     refine sA rfl<|sN<|qR ?_
     exact oI h▸qD
    refine sM rfl<|k3<|sU<|sM rfl<|k3<|sU<|sM rfl<|k3<|sU ?_
    refine sM rfl<|k3<|sU<|sA rfl<|sN<|qR ?_
    exact oI h▸qD
   refine sM rfl<|k3<|sU<|sM rfl<|k3<|sU<|sM rfl<|k3<|sU ?_
   refine sM rfl<|k3<|sU<|sM rfl<|k3<|sU<|sA rfl<|sN<|qR ?_
   exact oI h▸qD
  refine sM rfl<|k3<|sU<|sM rfl<|k3<|sU<|sM rfl<|k3<|sU ?_
  refine sM rfl<|k3<|sU<|sM rfl<|k3<|sU<|sM rfl<|k3<|sU ?_
  refine sA rfl<|sN<|qR ?_
  exact oI h▸qD
 refine sM rfl<|k3<|sK<|sK<|sU<|sM rfl<|k3<|sU<|sM rfl<|sK<|sK ?_
 refine sK<|sU<|sM rfl<|k3<|sU<|sM rfl<|k3<|sU<|sM rfl<|sK<|sK ?_
 refine sK<|sU<|sM rfl<|k3<|sU<|sA rfl<|sN<|qR ?_
 exact oI h▸qD
theorem pp{a0:(List av)}{r:Bool}(h:e7 a0=some r):EvP prog aC ext 156 [rM av.pd a0] [] (rB r,[]):=by
 refine Ev.body rfl Tryz.func156 rfl (by kernel_rfl)<|gS rfl rfl<|sU<|sN<|qS<|gS rfl rfl<|sM rfl<|sE (rI (a0.length:Int)) (dT _ _)<|sV (r0)<|sN<|bE h fun o11 ho11 h=>WC.block (WC.loop (WL.gv ho11 (fun s R' B'=>cI prog 0 (A R' B') (aC.at_ 156 0 2)=some (A [(0,rM av.pd a0),(5,rM av.pd a0),(6,rI (a0.length:Int)),(7,rI s)] [])) (fun o e R' B'=>match o with| .inl y=>e= .exit 0∧cI prog 0 (A R' B') (aC.at_ 156 0 7)=some (A [(0,rM av.pd a0)] [])| .inr r=>e= .ret∧finish prog (aC.own 156) Tryz.f156 0 (A R' B')=some (rB r,[])) rfl ?_ ?_))
 ·rintro s1 R' B' q2 hI h
  refine gS rfl hI<|sF h (fun h=>?_) fun h=>?_
  ·refine sN<|qS<|cT<|qK<|qS<|qB<|gS rfl rfl<|sM rfl<|bE h fun x4 hx4 h=>eG hx4 rfl<|sV (.d (av.pd x4))<|sB (.ptr 64 0) 64 (.var zZ3)<|sA rfl<|sH 64 (.var (av.rc x4))<|sN ?_
   refine WC.dG rfl rfl<|sV (.d (av.pd x4))<|bE h fun x5 hx5 h=>cD (nr hx5)<|sF h (fun h=>?_) fun h=>?_
   ·refine sM rfl<|k3<|k3<|k3<|k3<|sK<|sT ?_
    refine sN<|sO<|cT<|gS rfl rfl<|sU<|sN<|qR ?_
    cases oI h
    exact⟨nofun,rfl,rfl⟩
   refine sM rfl<|sM rfl<|sF h (fun h=>?_) fun h=>?_
   ·refine sM rfl<|sV (.ptr 64 0)<|sL rfl<|sM rfl<|sM rfl<|sV (rI (rW (s1-(1:Int))))<|bE h fun x8 hx8 h=>eG hx8 rfl<|sV (.cptr [.int .i64 x8.fTo,.int .i64 x8.gq.bI,.int .i64 x8.gq.bw,.int .i64 x8.bj.fX,.int .i64 x8.bj.fY,.int .i64 x8.bj.fZ,.lst (x8.bN.bG.map aH.pd)])<|sC rfl<|sV (rB (decide (x4.bp<x8.fTo)))<|sV (rB (decide (x4.bp<x8.fTo)))<|sF h (fun h=>?_) fun h=>?_
    ·refine sN<|sO<|cT<|gS rfl rfl<|sU<|sN<|qR ?_
     cases oI h
     exact⟨nofun,rfl,rfl⟩
    refine sN<|sO<|cF<|qK<|WC.region rfl rfl<|sV (rI (rW (s1+(1:Int))))<|sM rfl<|sN ?_
    cases oI h
    exact⟨rfl,rfl⟩
   refine sM rfl<|k3<|k3<|k3<|sU<|sU ?_
   refine sN<|sO<|cF<|qK<|WC.region rfl rfl<|sV (rI (rW (s1+(1:Int))))<|sM rfl<|sN ?_
   cases oI h
   exact⟨rfl,rfl⟩
  refine sN<|qS<|cF<|qX ?_
  cases oI h
  exact⟨nofun,rfl,rfl⟩
 intro e R' B' he hq
 rcases o11 with y12|r13
 ·obtain⟨rfl,hI⟩:=hq
  refine qE<|gS rfl hI<|sM rfl<|sE (rI (a0.length:Int)) (dT _ _)<|bE h fun x14 hx14 h=>cD (jr hx14)<|sA rfl<|sN<|qR ?_
  exact oI h▸qD
 obtain⟨rfl,hf⟩:=hq
 cases oI h
 exact hf
theorem lS{a0:(List UInt8)}{r:Bool}(h:f8 a0=some r):EvP prog aC ext 306 [rS a0] [] (rB r,[]):=by
 refine Ev.body rfl Tryz.func306 rfl (by kernel_rfl)<|gS rfl rfl<|sU<|sN<|gS rfl rfl<|sM rfl<|sM rfl<|sV (rB (!(a0==a0)))<|sA rfl<|sN<|qR ?_
 exact oI h▸qD
theorem fg{a0:(List UInt8)}{a1:(List UInt8)}{r:Int}(h:bX a0 a1=some r):EvP prog aC ext 239 [rS a0,rS a1] [] (rI r,[]):=by
 refine Ev.body rfl Tryz.func239 rfl (by kernel_rfl)<|gS rfl rfl<|sV (r0)<|sN<|gS rfl rfl<|sM rfl<|bE h fun x1 hx1 h=>cD (lS hx1)<|sA rfl<|sN<|gS rfl rfl<|sM rfl<|bE h fun x2 hx2 h=>cD (lS hx2)<|sA rfl ?_
 refine sN<|qS<|gS rfl rfl<|sF h (fun h=>?_) fun h=>?_
 ·refine sN<|cT<|qS<|gS rfl rfl<|sF h (fun h=>?_) fun h=>?_
  ·refine sN<|cT<|gS rfl rfl<|sV (r0)<|sN<|qR ?_
   exact oI h▸qD
  refine sN<|cF<|qK<|gS rfl rfl<|sV (rI (-1))<|sN<|qR ?_
  exact oI h▸qD
 refine sN<|cF<|qK<|qS<|gS rfl rfl<|sF h (fun h=>?_) fun h=>?_
 ·refine sN<|cT<|gS rfl rfl<|sV (rI 1)<|sN<|qR ?_
  exact oI h▸qD
 refine sN<|cF<|qK<|qS<|gS rfl rfl<|sM rfl<|sM rfl<|sF h (fun h=>?_) fun h=>?_
 ·refine sN<|cT<|gS rfl rfl<|sV (rI (-1))<|sN<|qR ?_
  exact oI h▸qD
 refine sN<|cF<|qK<|qS<|gS rfl rfl<|sM rfl<|sM rfl<|sF h (fun h=>?_) fun h=>?_
 ·refine sN<|cT<|gS rfl rfl<|sV (rI 1)<|sN<|qR ?_
  exact oI h▸qD
 refine sN<|cF<|qK<|gS rfl rfl<|sV (r0)<|sN<|qR ?_
 exact oI h▸qD
theorem gT{a0:(List Int)}{r:Int}(h:cv a0=some r):EvP prog aC ext 95 [rL a0] [] (rI r,[]):=by
 refine Ev.body rfl Tryz.func95 rfl (by kernel_rfl)<|gS rfl rfl<|sV (r0)<|sN<|gS rfl rfl<|sV (r0)<|sN<|qS<|gS rfl rfl<|sM rfl<|sE (rI (a0.length:Int)) (dT _ _)<|sV (r0)<|sN<|bE h fun o7 ho7 h=>WC.block (WC.loop (WL.gv ho7 (fun s R' B'=>cI prog 0 (A R' B') (aC.at_ 95 0 3)=some (A [(3,r0),(6,rL a0),(7,rI (a0.length:Int)),(8,rI s)] [])) (fun o e R' B'=>match o with| .inl y=>e= .exit 0∧cI prog 0 (A R' B') (aC.at_ 95 0 8)=some (A [(3,r0)] [])| .inr r=>e= .ret∧finish prog (aC.own 95) Tryz.f95 0 (A R' B')=some (rI r,[])) rfl ?_ ?_))
 ·rintro s1 R' B' q2 hI h
  refine gS rfl hI<|sF h (fun h=>?_) fun h=>?_
  ·refine sN<|qS<|cT<|qK<|qS<|qB<|gS rfl rfl<|bE h fun x4 hx4 h=>eG hx4 rfl<|sC rfl<|sA rfl<|sN<|gS rfl rfl<|sM rfl<|sM rfl ?_
   refine sF h (fun h=>?_) fun h=>?_
   ·refine sN<|cT<|gS rfl rfl<|sM rfl<|sA rfl<|sN<|qR ?_
    cases oI h
    exact⟨nofun,rfl,rfl⟩
   refine sN<|cF<|qK<|WC.region rfl rfl<|sV (rI (rW (s1+(1:Int))))<|sM rfl<|sN ?_
   cases oI h
   exact⟨rfl,rfl⟩
  refine sN<|qS<|cF<|qX ?_
  cases oI h
  exact⟨nofun,rfl,rfl⟩
 intro e R' B' he hq
 rcases o7 with y8|r9
 ·obtain⟨rfl,hI⟩:=hq
  refine qE<|gS rfl hI<|sM rfl<|sA rfl<|sN<|qR ?_
  exact oI h▸qD
 obtain⟨rfl,hf⟩:=hq
 cases oI h
 exact hf
theorem mT{a0:aw}{a1:aw}{r:Int}(h:et a0 a1=some r):EvP prog aC ext 153 [.d (aw.pd a0),.d (aw.pd a1)] [] (rI r,[]):=by
 refine Ev.body rfl Tryz.func153 rfl (by kernel_rfl)<|gS rfl rfl<|sB (.ptr 32 0) 32 (.var (aw.rc a0))<|sB (.ptr 48 0) 48 (.var (aw.rc a1))<|sV (r0)<|sN<|WC.dG rfl rfl<|sV (.ptr 32 0)<|sL rfl<|sV (.ptr 48 0)<|sL rfl<|bE h fun x1 hx1 h=>cD (fg hx1)<|sV (.ptr 32 1)<|sL rfl ?_
 refine sV (.ptr 48 1)<|sL rfl<|bE h fun x2 hx2 h=>cD (fg hx2)<|sV (.ptr 32 2)<|sL rfl<|sV (.ptr 48 2)<|sL rfl<|bE h fun x3 hx3 h=>cD (fg hx3)<|sV (.ptr 32 3)<|sL rfl<|sV (.ptr 48 3)<|sL rfl<|bE h fun x4 hx4 h=>?_
 refine cD (fg hx4)<|sV (.d (.lst ([x1,x2,x3,x4].map (PD.int .i64))))<|bE h fun x5 hx5 h=>cD (gT hx5)<|sA rfl ?_
 refine sN<|sO<|qR ?_
 exact oI h▸qD
theorem gB{a0:ar}{r:Bool}(h:cN a0=some r):EvP prog aC ext 83 [.d (ar.pd a0)] [] (rB r,[]):=by
 refine Ev.body rfl Tryz.func83 rfl (by kernel_rfl)<|gS rfl rfl<|sB (.ptr 16 0) 16 (.var [rM az.pd a0.aT])<|sU<|sN<|qS<|gS rfl rfl<|sV (.ptr 16 0)<|sL rfl<|sE (rI (a0.aT.length:Int)) (dT _ _)<|sV (r0)<|sN<|bE h fun o14 ho14 h=>WC.block (WC.loop (WL.gv ho14 (fun s R' B'=>cI prog 0 (A R' B') (aC.at_ 83 0 2)=some (A [(1,.ptr 16 0),(6,rM az.pd a0.aT),(7,rI (a0.aT.length:Int)),(8,rI s)] [(16,.var [rM az.pd a0.aT])])) (fun o e R' B'=>match o with| .inl y=>e= .exit 0∧cI prog 0 (A R' B') (aC.at_ 83 0 7)=some (A [(1,.ptr 16 0)] [(16,.var [rM az.pd a0.aT])])| .inr r=>e= .ret∧finish prog (aC.own 83) Tryz.f83 0 (A R' B')=some (rB r,[])) rfl ?_ ?_))
 ·rintro s1 R' B' q2 hI h
  refine gS rfl hI<|sF h (fun h=>?_) fun h=>?_
  ·refine sN<|qS<|cT<|qK<|qS<|qB<|gS rfl rfl<|sM rfl<|bE h fun x4 hx4 h=>eG hx4 rfl<|sV (.d (az.pd x4))<|sB (.ptr 64 0) 64 (.var [rS [],rS [],rS [],rS [],.dH])<|sA rfl<|sS 64 (.var (az.rc x4))<|sN ?_
   refine WC.dG rfl rfl<|sV (.ptr 64 0)<|sV (.d (aw.pd x4.aD))<|bE h fun x5 hx5 h=>cD (lP hx5)<|sF h (fun h=>?_) fun h=>?_
   ·refine sM rfl<|k3<|sK<|sT<|sM rfl<|k3<|k3<|sK<|sK ?_
    refine k3<|k3<|sK<|sT ?_
    refine sN<|sO<|cT<|gS rfl rfl<|sU<|sN<|qR ?_
    cases oI h
    exact⟨nofun,rfl,rfl⟩
   refine sM rfl<|sV (.ptr 64 4)<|sL rfl<|bE h fun x7 hx7 h=>cD (pp hx7)<|sV (rB (!x7))<|sF h (fun h=>?_) fun h=>?_
   ·refine sM rfl<|k3<|k3<|k3<|k3<|sK<|sK ?_
    refine sK<|sT ?_
    refine sN<|sO<|cT<|gS rfl rfl<|sU<|sN<|qR ?_
    cases oI h
    exact⟨nofun,rfl,rfl⟩
   refine sM rfl<|sM rfl<|sF h (fun h=>?_) fun h=>?_
   ·refine sM rfl<|sV (.ptr 16 0)<|sL rfl<|sM rfl<|sV (rI (rW (s1-(1:Int))))<|bE h fun x10 hx10 h=>eG hx10 rfl<|sV (.cptr [.str x10.aD.a8,.str x10.aD.aN,.str x10.aD.aq,.str x10.aD.bd,.lst (x10.bM.map av.pd)])<|sV (.d (aw.pd x10.aD))<|sV (.ptr 64 0)<|sV (.d (aw.pd x4.aD))<|bE h fun x11 hx11 h=>cD (mT hx11)<|sV (rB (decide (x11>=(0:Int))))<|sV (rB (decide (x11>=(0:Int)))) ?_
    refine sF h (fun h=>?_) fun h=>?_
    ·refine sN<|sO<|cT<|gS rfl rfl<|sU<|sN<|qR ?_
     cases oI h
     exact⟨nofun,rfl,rfl⟩
    refine sN<|sO<|cF<|qK<|WC.region rfl rfl<|sV (rI (rW (s1+(1:Int))))<|sM rfl<|sN ?_
    cases oI h
    exact⟨rfl,rfl⟩
   refine sM rfl<|k3<|k3<|k3<|sK<|sK<|sU<|sU ?_
   refine sN<|sO<|cF<|qK<|WC.region rfl rfl<|sV (rI (rW (s1+(1:Int))))<|sM rfl<|sN ?_
   cases oI h
   exact⟨rfl,rfl⟩
  refine sN<|qS<|cF<|qX ?_
  cases oI h
  exact⟨nofun,rfl,rfl⟩
 intro e R' B' he hq
 rcases o14 with y15|r16
 ·obtain⟨rfl,hI⟩:=hq
  refine qE<|gS rfl hI<|sV (.ptr 16 0)<|sL rfl<|sE (rI (a0.aT.length:Int)) (dT _ _)<|sV (rB (decide ((a0.aT.length:Int)<=(128:Int))))<|sA rfl<|sN<|qR ?_
  exact oI h▸qD
 obtain⟨rfl,hf⟩:=hq
 cases oI h
 exact hf
theorem nl{a0:Int}{r:Bool}(h:jf a0=some r):EvP prog aC ext 170 [rI a0] [] (rB r,[]):=by
 refine Ev.body rfl Tryz.func170 rfl (by kernel_rfl)<|gS rfl rfl<|sU<|sN<|gS rfl rfl<|sM rfl<|sM rfl<|sV (rB (a0 != a0))<|sA rfl<|sN<|qR ?_
 exact oI h▸qD
theorem bK{a0:Int}{a1:Int}{r:Int}(h:bJ a0 a1=some r):EvP prog aC ext 96 [rI a0,rI a1] [] (rI r,[]):=by
 refine Ev.body rfl Tryz.func96 rfl (by kernel_rfl)<|gS rfl rfl<|sV (r0)<|sN<|gS rfl rfl<|sM rfl<|bE h fun x1 hx1 h=>cD (nl hx1)<|sA rfl<|sN<|gS rfl rfl<|sM rfl<|bE h fun x2 hx2 h=>cD (nl hx2)<|sA rfl ?_
 refine sN<|qS<|gS rfl rfl<|sF h (fun h=>?_) fun h=>?_
 ·refine sN<|cT<|qS<|gS rfl rfl<|sF h (fun h=>?_) fun h=>?_
  ·refine sN<|cT<|gS rfl rfl<|sV (r0)<|sN<|qR ?_
   exact oI h▸qD
  refine sN<|cF<|qK<|gS rfl rfl<|sV (rI (-1))<|sN<|qR ?_
  exact oI h▸qD
 refine sN<|cF<|qK<|qS<|gS rfl rfl<|sF h (fun h=>?_) fun h=>?_
 ·refine sN<|cT<|gS rfl rfl<|sV (rI 1)<|sN<|qR ?_
  exact oI h▸qD
 refine sN<|cF<|qK<|qS<|gS rfl rfl<|sM rfl<|sM rfl<|sF h (fun h=>?_) fun h=>?_
 ·refine sN<|cT<|gS rfl rfl<|sV (rI (-1))<|sN<|qR ?_
  exact oI h▸qD
 refine sN<|cF<|qK<|qS<|gS rfl rfl<|sM rfl<|sM rfl<|sF h (fun h=>?_) fun h=>?_
 ·refine sN<|cT<|gS rfl rfl<|sV (rI 1)<|sN<|qR ?_
  exact oI h▸qD
 refine sN<|cF<|qK<|gS rfl rfl<|sV (r0)<|sN<|qR ?_
 exact oI h▸qD
theorem qp{a0:ae}{a1:ae}{r:Int}(h:ca a0 a1=some r):EvP prog aC ext 80 [.d (ae.pd a0),.d (ae.pd a1)] [] (rI r,[]):=by
 refine Ev.body rfl Tryz.func80 rfl (by kernel_rfl)<|gS rfl rfl<|sB (.ptr 32 0) 32 (.var (ae.rc a0))<|sB (.ptr 48 0) 48 (.var (ae.rc a1))<|sV (r0)<|sN<|WC.dG rfl rfl<|sV (.ptr 32 0)<|sV (.d (aw.pd a0.aD))<|sV (.ptr 48 0)<|sV (.d (aw.pd a1.aD))<|bE h fun x1 hx1 h=>cD (mT hx1)<|sV (.ptr 32 4)<|sL rfl ?_
 refine sV (.ptr 48 4)<|sL rfl<|bE h fun x2 hx2 h=>cD (bK hx2)<|sV (.ptr 32 5)<|sL rfl<|sV (.ptr 48 5)<|sL rfl<|bE h fun x3 hx3 h=>cD (bK hx3)<|sV (.ptr 32 6)<|sL rfl<|sV (.ptr 48 6)<|sL rfl<|bE h fun x4 hx4 h=>?_
 refine cD (bK hx4)<|sV (.ptr 32 7)<|sL rfl<|sV (.ptr 48 7)<|sL rfl<|bE h fun x5 hx5 h=>cD (bK hx5)<|sV (.ptr 32 8)<|sL rfl<|sV (.ptr 48 8)<|sL rfl<|bE h fun x6 hx6 h=>cD (bK hx6)<|sV (.d (.lst ([x1,x2,x3,x4,x5,x6].map (PD.int .i64))))<|bE h fun x7 hx7 h=>?_
 refine cD (gT hx7)<|sA rfl ?_
 refine sN<|sO<|qR ?_
 cases oI h
 exact qG
theorem n5{d0:(List ae)}{r:(List ae)}(h:eI d0=some r):EvP prog aC ext 183 [.ref 0 0] [.arr 0 66 (d0.map ae.pd)] (rM ae.pd r,[.dead]):=by
 refine Ev.body rfl Tryz.func183 rfl (by kernel_rfl)<|gS rfl rfl<|sV .dH<|sN<|qS<|gS rfl rfl<|sM rfl<|WO.ud rfl rfl rfl rfl rfl rfl rfl rfl rfl<|sF h (fun h=>?_) fun h=>?_
 ·refine sN<|cT<|gS rfl rfl<|sM rfl<|sA rfl<|sN<|qR ?_
  exact oI h▸qD
 refine sN<|cF<|qK<|qS<|gS rfl rfl<|sV (rI 1)<|sN<|bE h fun o39 ho39 h=>WC.block (WC.loop (WL.gv ho39 (fun s R' B'=>cI prog 1 (A R' B') (aC.at_ 183 1 4)=some (A [(0,.ref 0 0),(3,rI s)] [(0,.arr 0 66 (d0.map ae.pd))])) (fun o e R' B'=>match o with| .inl y=>e= .exit 0∧cI prog 1 (A R' B') (aC.at_ 183 1 16)=some (A [(0,.ref 0 0)] [(0,.arr 0 66 (d0.map ae.pd))])| .inr r=>e= .ret∧finish prog (aC.own 183) Tryz.f183 1 (A R' B')=some (rM ae.pd r,[.dead])) rfl ?_ ?_))
 ·rintro s2 R' B' q3 hI h
  refine qS<|gS rfl hI<|sM rfl<|sM rfl<|WO.ud rfl rfl rfl rfl rfl rfl rfl rfl rfl<|sF h (fun h=>?_) fun h=>?_
  ·refine sN<|cT<|qK<|qS<|qB<|WC.dG rfl rfl<|sM rfl<|sM rfl<|bE h fun x6 hx6 h=>WO.qy hx6 rfl rfl rfl rfl rfl rfl rfl rfl<|bE h fun x7 hx7 h=>WO.pO hx7 rfl rfl rfl rfl rfl rfl<|sM rfl<|sM rfl<|sV (rI (rW (s2-(1:Int)))) ?_
   refine bE h fun x9 hx9 h=>WO.qy hx9 rfl rfl rfl rfl rfl rfl rfl rfl<|bE h fun x10 hx10 h=>WO.pO hx10 rfl rfl rfl rfl rfl rfl<|kB h (fun hb11 h=>?_) (fun hb11 h=>?_)
   ·refine WO.uS (eqE_66 x7 x10) hb11 rfl rfl rfl rfl rfl ?_
    refine sN<|sO<|cT<|gS rfl rfl<|sM rfl<|sM rfl<|bE h fun x12 hx12 h=>WO.subR hx12 rfl rfl rfl rfl rfl rfl rfl rfl rfl rfl rfl rfl<|sA rfl<|sN<|qS<|gS rfl rfl<|sV (rI 1)<|sN<|bE h fun o32 ho32 h=>WC.block (WC.loop (WL.gv ho32 (fun s R' B'=>cI prog 1 (A R' B') (aC.at_ 183 1 9)=some (A [(0,.ref 0 0),(3,rI s.1),(4,.view 0 0 (0+(s2:Int).toNat) (0+((d0.length:Int):Int).toNat)),(5,rI s.2.1)] [(0,.arr 0 66 (s.2.2.map ae.pd))])) (fun o e R' B'=>e= .exit 2∧cI prog 1 (A R' B') (aC.at_ 183 1 14)=some (A [(0,.ref 0 0),(3,rI o.1)] [(0,.arr 0 66 (o.2.map ae.pd))])) rfl ?_ ?_))
    ·rintro⟨s13,s14,s15⟩ R' B' q18 hI h
     unfold gi at h
     refine qS<|gS rfl hI<|sM rfl<|sM rfl<|bE h fun x19 hx19 h=>WO.lenVw hx19 rfl rfl rfl rfl rfl rfl rfl rfl rfl<|sF h (fun h=>?_) fun h=>?_
     ·refine sN<|cT<|qK<|qS<|qB<|WC.dG rfl rfl<|sM rfl<|sM rfl<|bE h fun x21 hx21 h=>WO.eltV hx21 rfl rfl rfl rfl rfl rfl rfl rfl<|bE h fun x22 hx22 h=>WO.pO hx22 rfl rfl rfl rfl rfl rfl<|sM rfl<|sM rfl<|sV (rI (rW (s14-(1:Int)))) ?_
      refine bE h fun x23 hx23 h=>WO.eltV hx23 rfl rfl rfl rfl rfl rfl rfl rfl<|bE h fun x24 hx24 h=>WO.pO hx24 rfl rfl rfl rfl rfl rfl<|kB h (fun hb25 h=>?_) (fun hb25 h=>?_)
      ·refine WO.uS (eqN_66 x22 x24) hb25 rfl rfl rfl rfl rfl ?_
       refine sN<|sO<|cT<|gS rfl rfl<|sM rfl<|sM rfl<|sM rfl<|sM rfl<|bE h fun x26 hx26 h=>WO.eltV hx26 rfl rfl rfl rfl rfl rfl rfl rfl<|bE h fun x27 hx27 h=>WO.pO hx27 rfl rfl rfl rfl rfl rfl<|bE h fun x29 hx29 h=>WO.qy hx29 rfl rfl rfl rfl rfl rfl rfl rfl<|bE h fun x30 hx30 h=>WO.rD (g:=ae.pd) (sz:=9) (p:=ae.pd x27) hx30 (by intro _;kernel_rfl) (by intro _;kernel_rfl) rfl rfl rfl rfl rfl rfl rfl rfl rfl ?_
       refine sN<|WC.region rfl rfl<|sM rfl<|sV (rI (rW (s13+(1:Int))))<|sA rfl<|sN<|WC.region rfl rfl<|sM rfl<|sV (rI (rW (s14+(1:Int))))<|sA rfl<|sN ?_
       cases oI h
       exact⟨rfl,rfl⟩
      refine WO.uS (eqN_66 x22 x24) hb25 rfl rfl rfl rfl rfl ?_
      refine sN<|sO<|cF<|qK<|WC.region rfl rfl<|sM rfl<|sV (rI (rW (s14+(1:Int))))<|sA rfl<|sN ?_
      cases oI h
      exact⟨rfl,rfl⟩
     refine sN<|cF<|qX ?_
     cases oI h
     exact⟨nofun,rfl,rfl⟩
    intro e R' B' he hq
    obtain⟨rfl,hI⟩:=hq
    refine qE<|gS rfl hI<|sM rfl<|sM rfl<|bE h fun x33 hx33 h=>WO.subR hx33 rfl rfl rfl rfl rfl rfl rfl rfl rfl rfl rfl rfl<|bE h fun x34 hx34 h=>WO.clearN (z:=(ae.mk (aw.mk [] [] [] []) 0 0 0 0 0)) (g:=ae.pd) rfl rfl rfl rfl rfl rfl rfl (zX hx34 rfl) rfl rfl rfl rfl<|sN<|gS rfl rfl<|sM rfl<|sM rfl<|bE h fun x36 hx36 h=>WO.subR hx36 rfl rfl rfl rfl rfl rfl rfl rfl rfl rfl rfl rfl<|sA rfl ?_
    refine sN<|qR<|bE h fun x37 hx37 h=>?_
    cases oI h
    exact⟨nofun,rfl,(Aa hx37 rfl rfl rfl rfl rfl)⟩
   refine WO.uS (eqE_66 x7 x10) hb11 rfl rfl rfl rfl rfl ?_
   refine sN<|sO<|cF<|qK<|WC.region rfl rfl<|sM rfl<|sV (rI (rW (s2+(1:Int))))<|sA rfl<|sN ?_
   cases oI h
   exact⟨rfl,rfl⟩
  refine sN<|cF<|qX ?_
  cases oI h
  exact⟨nofun,rfl,rfl⟩
 intro e R' B' he hq
 rcases o39 with y40|r41
 ·obtain⟨rfl,hI⟩:=hq
  refine qE<|gS rfl hI<|sM rfl<|sA rfl<|sN<|qR ?_
  exact oI h▸qD
 obtain⟨rfl,hf⟩:=hq
 cases oI h
 exact hf
theorem oR{a0:(List ae)}{r:(List ae)}(h:c7 a0=some r):EvP prog aC ext 106 [rM ae.pd a0] [] (rM ae.pd r,[]):=by
 refine Ev.body rfl Tryz.func106 rfl (by kernel_rfl)<|gS rfl rfl<|sV .dH<|sN<|gS rfl rfl<|sM rfl<|bE h fun x1 hx1 h=>cR (.ref 80 0) [(80,.arr 0 66 (x1.map ae.pd))] (clone_182 hx1)<|sA rfl<|sN<|gS rfl rfl<|sM rfl<|bE h fun x2 hx2 h=>cR (.tup []) [(80,.arr 0 66 (x2.map ae.pd))] (sort_79_80 hx2)<|sN ?_
 refine gS rfl rfl<|sM rfl<|bE h fun x3 hx3 h=>cR (rM ae.pd x3) [(80,.dead)] (n5 hx3)<|sA rfl<|sN<|qR ?_
 exact oI h▸qD
theorem qq{a0:Int}{a1:Int}{a2:Int}{r:Bool}(h:iS a0 a1 a2=some r):EvP prog aC ext 244 [rI a0,rI a1,rI a2] [] (rB r,[]):=by
 refine Ev.body rfl Tryz.func244 rfl (by kernel_rfl)<|gS rfl rfl<|sU<|sN<|gS rfl rfl<|sM rfl<|sM rfl<|sF h (fun h=>?_) fun h=>?_
 ·refine sM rfl<|sM rfl<|sM rfl<|sV (rB (decide (a0<=a2)))<|sV (rB (decide (a0<=a2)))<|sA rfl<|sN<|qR ?_
  exact oI h▸qD
 refine sM rfl<|k3<|sU<|sA rfl<|sN<|qR ?_
 exact oI h▸qD
theorem px{a0:ae}{r:Bool}(h:e8 a0=some r):EvP prog aC ext 157 [.d (ae.pd a0)] [] (rB r,[]):=by
 refine Ev.body rfl Tryz.func157 rfl (by kernel_rfl)<|gS rfl rfl<|sB (.ptr 16 0) 16 (.var (ae.rc a0))<|sU<|sN<|gS rfl rfl<|sV (.ptr 16 0)<|sV (.d (aw.pd a0.aD))<|bE h fun x1 hx1 h=>kB h (fun hb2 h=>?_) (fun hb2 h=>?_)
 ·refine WO.qw (v:=rB true) (u:=[]) rfl rfl (fun _=>rfl) rfl rfl rfl rfl rfl (lP hx1) rfl rfl (congrArg (fun b=>RV.d (.bool b)) hb2) rfl<|sM rfl<|sV (.ptr 16 5)<|sL rfl<|sV (rB (decide (a0.aK>=(0:Int))))<|sF h (fun h=>?_) fun h=>?_
  ·refine sM rfl<|sV (.ptr 16 5)<|sL rfl<|sV (.ptr 16 4)<|sL rfl<|sV (rB (decide (a0.aK<=a0.aX)))<|sF h (fun h=>?_) fun h=>?_
   ·refine sM rfl<|sV (.ptr 16 4)<|sL rfl<|sV (.ptr 16 6)<|sL rfl<|sV (rB (decide (a0.aX<=a0.bf)))<|sF h (fun h=>?_) fun h=>?_
    ·refine sM rfl<|sV (.ptr 16 6)<|sL rfl<|sV (rB (decide (a0.bf<=(18014398509481984:Int))))<|sF h (fun h=>?_) fun h=>?_
     ·refine sM rfl<|sV (.ptr 16 7)<|sL rfl<|bE h fun x7 hx7 h=>cD (qq hx7)<|sF h (fun h=>?_) fun h=>?_
      ·refine sM rfl<|sV (.ptr 16 8)<|sL rfl<|bE h fun x9 hx9 h=>cD (qq hx9)<|sV (rB x9)<|sA rfl<|sN<|qR ?_
       cases oI h
       exact qG
      refine sM rfl<|k3<|sU<|sA rfl<|sN<|qR ?_
      cases oI h
      exact qG
     refine sM rfl<|k3<|sU<|sM rfl<|k3<|sU<|sA rfl<|sN<|qR ?_
     cases oI h
     exact qG
    refine sM rfl<|k3<|sU<|sM rfl<|k3<|sU<|sM rfl<|k3<|sU ?_
    refine sA rfl<|sN<|qR ?_
    cases oI h
    exact qG
   refine sM rfl<|k3<|sK<|sK<|sU<|sM rfl<|k3<|sU<|sM rfl<|sK<|sK ?_
   refine sK<|sU<|sM rfl<|k3<|sU<|sA rfl<|sN<|qR ?_
   cases oI h
   exact qG
  refine sM rfl<|k3<|sK<|sK<|sU<|sM rfl<|k3<|sK<|sK<|sU<|sM rfl ?_
  refine k3<|sU<|sM rfl<|k3<|sU<|sM rfl<|k3<|sU<|sA rfl ?_
  refine sN<|qR ?_
  cases oI h
  exact qG
 refine WO.qw (v:=rB false) (u:=[]) rfl rfl (fun _=>rfl) rfl rfl rfl rfl rfl (lP hx1) rfl rfl (congrArg (fun b=>RV.d (.bool b)) hb2) rfl<|sM rfl<|k3<|sU<|sM rfl<|k3<|sK<|sK<|sU<|sM rfl<|sK ?_
 refine k3<|sK<|sU<|sM rfl<|k3<|sU<|sM rfl<|k3<|sU ?_
 refine sM rfl<|k3<|sU<|sA rfl<|sN<|qR ?_
 cases oI h
 exact qG
theorem nO{a0:av}{r:av}(h:dK a0=some r):EvP prog aC ext 326 [.d (av.pd a0)] [] (.d (av.pd r),[]):=by
 refine Ev.body rfl Tryz.func326 rfl (by kernel_rfl)<|gS rfl rfl<|sB (.ptr 16 0) 16 (.var (av.rc a0))<|sB (.ptr 32 0) 32 (.var zZ3)<|sN<|gS rfl rfl<|sV (.ptr 16 7)<|sV (.ptr 16 7)<|sL rfl<|bE h fun x1 hx1 h=>cR (.ref 112 0) [(112,.arr 0 184 (x1.map aH.pd))] (clone_364 hx1)<|sV (.ptr 16 7)<|sV (.ptr 16 7)<|sS 16 (.var (rI a0.bp::rI a0.fTo::rI a0.gq.bI::rI a0.gq.bw::aa.rc a0.bj++[.ref 112 0]))<|sN ?_
 refine qS<|gS rfl rfl<|sV (.ptr 16 7)<|sV (.ptr 16 7)<|sL rfl<|WO.ud rfl rfl rfl rfl rfl rfl rfl rfl rfl<|sV (r0)<|sN<|bE h fun o16 ho16 h=>WC.block (WC.loop (WL.gv ho16 (fun s R' B'=>cI prog 0 (A R' B') (aC.at_ 326 0 3)=some (A [(1,.ptr 16 0),(2,.ptr 32 0),(13,rI (x1.length:Int)),(14,rI s.1)] [(16,.var (rI a0.bp::rI a0.fTo::rI a0.gq.bI::rI a0.gq.bw::aa.rc a0.bj++[.ref 112 0])),(32,.var zZ3),(112,.arr 0 184 (s.2.map aH.pd))])) (fun o e R' B'=>e= .exit 0∧cI prog 0 (A R' B') (aC.at_ 326 0 7)=some (A [(1,.ptr 16 0),(2,.ptr 32 0)] [(16,.var (rI a0.bp::rI a0.fTo::rI a0.gq.bI::rI a0.gq.bw::aa.rc a0.bj++[.ref 112 0])),(32,.var zZ3),(112,.arr 0 184 (o.map aH.pd))])) rfl ?_ ?_))
 ·rintro⟨s2,s3⟩ R' B' q5 hI h
  refine gS rfl hI<|sF h (fun h=>?_) fun h=>?_
  ·refine sN<|qS<|cT<|qK<|qS<|qB<|gS rfl rfl<|sM rfl<|sA rfl<|sN<|WC.kI rfl rfl<|sV (.ptr 16 7)<|sV (.ptr 16 7)<|sL rfl<|sM rfl ?_
   refine sV (.ptr 16 7)<|sV (.ptr 16 7)<|sL rfl<|sM rfl<|bE h fun x8 hx8 h=>WO.qy hx8 rfl rfl rfl rfl rfl rfl rfl rfl<|sV (.elt 112 0 (s2).toNat 7)<|bE h fun x9 hx9 h=>WO.pO hx9 rfl rfl rfl rfl rfl rfl<|bE h fun x10 hx10 h=>cR (.ref 448 0) [(448,.arr 0 3 (x10.map (PD.int .i64)))] (clone_107 hx10)<|bE h fun x12 hx12 h=>WO.qy hx12 rfl rfl rfl rfl rfl rfl rfl rfl<|sV (.elt 112 0 (s2).toNat 7)<|bE h fun x13 hx13 h=>?_
   refine WO.A4 (g:=aH.pd) (u:=[(448,.dead)]) (sz:=1) hx13 (fun _=>rfl) (fun _=>Nat.le_of_ble_eq_true rfl) rfl rfl rfl rfl rfl rfl rfl rfl rfl rfl rfl ?_
   refine sN<|sO<|WC.region rfl rfl<|sV (rI (rW (s2+(1:Int))))<|sM rfl<|sN ?_
   cases oI h
   exact⟨rfl,rfl⟩
  refine sN<|qS<|cF<|qX ?_
  cases oI h
  exact⟨nofun,rfl,rfl⟩
 intro e R' B' he hq
 obtain⟨rfl,hI⟩:=hq
 refine qE<|gS rfl hI<|sV (.agg (rI a0.bp::rI a0.fTo::rI a0.gq.bI::rI a0.gq.bw::aa.rc a0.bj++[.ref 112 0]))<|sH 32 (.var (rI a0.bp::rI a0.fTo::rI a0.gq.bI::rI a0.gq.bw::aa.rc a0.bj++[.ref 112 0]))<|sN<|qR ?_
 cases oI h
 exact qG
theorem pn{a0:az}{r:az}(h:eZ a0=some r):EvP prog aC ext 257 [.d (az.pd a0)] [] (.agg (aw.rc r.aD++[.ref 0 0]),[.arr 0 113 (r.bM.map av.pd)]):=by
 refine Ev.body rfl Tryz.func257 rfl (by kernel_rfl)<|gS rfl rfl<|sB (.ptr 16 0) 16 (.var (az.rc a0))<|sB (.ptr 32 0) 32 (.var [rS [],rS [],rS [],rS [],.dH])<|sN<|gS rfl rfl<|sV (.ptr 16 4)<|sL rfl<|bE h fun x1 hx1 h=>cR (.ref 112 0) [(112,.arr 0 113 (x1.map av.pd))] (clone_325 hx1)<|sV (.ptr 16 4)<|sS 16 (.var (aw.rc a0.aD++[.ref 112 0]))<|sN<|qS<|gS rfl rfl ?_
 refine sV (.ptr 16 4)<|sL rfl<|WO.ud rfl rfl rfl rfl rfl rfl rfl rfl rfl<|sV (r0)<|sN<|bE h fun o15 ho15 h=>WC.block (WC.loop (WL.gv ho15 (fun s R' B'=>cI prog 0 (A R' B') (aC.at_ 257 0 3)=some (A [(1,.ptr 16 0),(2,.ptr 32 0),(10,.ref 112 0),(11,rI (x1.length:Int)),(12,rI s.1)] [(16,.var (aw.rc a0.aD++[.ref 112 0])),(32,.var [rS [],rS [],rS [],rS [],.dH]),(112,.arr 0 113 (s.2.map av.pd))])) (fun o e R' B'=>e= .exit 0∧cI prog 0 (A R' B') (aC.at_ 257 0 7)=some (A [(1,.ptr 16 0),(2,.ptr 32 0)] [(16,.var (aw.rc a0.aD++[.ref 112 0])),(32,.var [rS [],rS [],rS [],rS [],.dH]),(112,.arr 0 113 (o.map av.pd))])) rfl ?_ ?_))
 ·rintro⟨s2,s3⟩ R' B' q5 hI h
  refine gS rfl hI<|sF h (fun h=>?_) fun h=>?_
  ·refine sN<|qS<|cT<|qK<|qS<|qB<|gS rfl rfl<|sM rfl<|bE h fun x8 hx8 h=>WO.qy hx8 rfl rfl rfl rfl rfl rfl rfl rfl<|bE h fun x9 hx9 h=>WO.pO hx9 rfl rfl rfl rfl rfl rfl<|sB (.ptr 64 0) 64 (.var zZ3)<|sA rfl<|sH 64 (.var (av.rc x9)) ?_
   refine sN<|WC.kI rfl rfl<|sV (.ptr 16 4)<|sL rfl<|sM rfl<|sV (.d (av.pd x9))<|bE h fun x10 hx10 h=>cD (nO hx10)<|bE h fun x12 hx12 h=>WO.qy hx12 rfl rfl rfl rfl rfl rfl rfl rfl<|bE h fun x13 hx13 h=>WO.rD (g:=av.pd) (sz:=8) (p:=av.pd x10) hx13 (by intro _;kernel_rfl) (by intro _;kernel_rfl) rfl rfl rfl rfl rfl rfl rfl rfl rfl ?_
   refine sN<|sO<|WC.region rfl rfl<|sV (rI (rW (s2+(1:Int))))<|sM rfl<|sN ?_
   cases oI h
   exact⟨rfl,rfl⟩
  refine sN<|qS<|cF<|qX ?_
  cases oI h
  exact⟨nofun,rfl,rfl⟩
 intro e R' B' he hq
 obtain⟨rfl,hI⟩:=hq
 refine qE<|gS rfl hI<|sV (.agg (aw.rc a0.aD++[.ref 112 0]))<|sS 32 (.var (aw.rc a0.aD++[.ref 112 0]))<|sN<|qR ?_
 exact oI h▸qD
theorem qh{a0:ar}{a1:aw}{r:az×Bool}(h:gc a0 a1=some r):EvP prog aC ext 175 [.d (ar.pd a0),.d (aw.pd a1)] [] (.tup [.d (az.pd r.1),rB r.2],[]):=by
 refine Ev.body rfl Tryz.func175 rfl (by kernel_rfl)<|gS rfl rfl<|sB (.ptr 32 0) 32 (.var [rM az.pd a0.aT])<|sB (.ptr 48 0) 48 (.var (aw.rc a1))<|sB (.ptr 64 0) 64 (.var [rS [],rS [],rS [],rS [],.dH])<|sU<|sN<|qS<|gS rfl rfl<|sV (.ptr 32 0)<|sL rfl<|sE (rI (a0.aT.length:Int)) (dT _ _)<|sV (r0)<|sN<|bE h fun o8 ho8 h=>?_
 refine WC.block (WC.loop (WL.gv ho8 (fun s R' B'=>cI prog 0 (A R' B') (aC.at_ 175 0 2)=some (A [(3,.ptr 48 0),(4,.ptr 64 0),(9,rM az.pd a0.aT),(10,rI (a0.aT.length:Int)),(11,rI s)] [(48,.var (aw.rc a1)),(64,.var [rS [],rS [],rS [],rS [],.dH])])) (fun o e R' B'=>match o with| .inl y=>e= .exit 0∧cI prog 0 (A R' B') (aC.at_ 175 0 7)=some (A [(4,.ptr 64 0)] [(64,.var [rS [],rS [],rS [],rS [],.dH])])| .inr r=>e= .ret∧finish prog (aC.own 175) Tryz.f175 0 (A R' B')=some (.tup [.d (az.pd r.1),rB r.2],[])) rfl ?_ ?_))
 ·rintro s1 R' B' q2 hI h
  refine gS rfl hI<|sF h (fun h=>?_) fun h=>?_
  ·refine sN<|qS<|cT<|qK<|qS<|qB<|gS rfl rfl<|bE h fun x4 hx4 h=>eG hx4 rfl<|sV (.d (az.pd x4))<|sB (.ptr 112 0) 112 (.var [rS [],rS [],rS [],rS [],.dH])<|sS 112 (.var (az.rc x4))<|sN<|gS rfl rfl<|sV (.ptr 112 0) ?_
   refine sV (.d (aw.pd x4.aD))<|sV (.d (aw.pd a1))<|kB h (fun hb5 h=>?_) (fun hb5 h=>?_)
   ·refine WO.uS (eqE_64 x4.aD a1) hb5 rfl rfl rfl rfl rfl<|sN<|cT<|gS rfl rfl<|sV (.d (az.pd x4))<|bE h fun x6 hx6 h=>cR (.agg (aw.rc x6.aD++[.ref 320 0])) [(320,.arr 0 113 (x6.bM.map av.pd))] (pn hx6)<|sS 64 (.var (aw.rc x6.aD++[.ref 320 0]))<|sT<|sN<|qR ?_
    cases oI h
    exact⟨nofun,rfl,rfl⟩
   refine WO.uS (eqE_64 x4.aD a1) hb5 rfl rfl rfl rfl rfl<|sN<|cF<|qK<|WC.region rfl rfl<|sV (rI (rW (s1+(1:Int))))<|sM rfl<|sN ?_
   cases oI h
   exact⟨rfl,rfl⟩
  refine sN<|qS<|cF<|qX ?_
  cases oI h
  exact⟨nofun,rfl,rfl⟩
 intro e R' B' he hq
 rcases o8 with y9|r10
 ·obtain⟨rfl,hI⟩:=hq
  refine qE<|gS rfl hI<|sV (.agg [rS [],rS [],rS [],rS [],.dH])<|sS 64 (.var [rS [],rS [],rS [],rS [],.dH])<|sU<|sN<|qR ?_
  exact oI h▸qD
 obtain⟨rfl,hf⟩:=hq
 cases oI h
 exact hf
theorem inventory_at_ev{a0:az}{a1:Int}{r:av×Bool}(h:iO a0 a1=some r):EvP prog aC ext 176 [.d (az.pd a0),rI a1] [] (.tup [.d (av.pd r.1),rB r.2],[]):=by
 refine Ev.body rfl Tryz.func176 rfl (by kernel_rfl)<|gS rfl rfl<|sB (.ptr 32 0) 32 (.var (az.rc a0))<|sB (.ptr 64 0) 64 (.var zZ3)<|sU<|sN<|qS<|gS rfl rfl<|sV (.ptr 32 4)<|sL rfl<|sE (rI (a0.bM.length:Int)) (dT _ _)<|sV (r0)<|sN<|bE h fun o8 ho8 h=>WC.block (WC.loop (WL.gv ho8 (fun s R' B'=>cI prog 0 (A R' B') (aC.at_ 176 0 2)=some (A [(1,rI a1),(4,.ptr 64 0),(9,rM av.pd a0.bM),(10,rI (a0.bM.length:Int)),(11,rI s)] [(64,.var zZ3)])) (fun o e R' B'=>match o with| .inl y=>e= .exit 0∧cI prog 0 (A R' B') (aC.at_ 176 0 7)=some (A [(4,.ptr 64 0)] [(64,.var zZ3)])| .inr r=>e= .ret∧finish prog (aC.own 176) Tryz.f176 0 (A R' B')=some (.tup [.d (av.pd r.1),rB r.2],[])) rfl ?_ ?_))
 ·rintro s1 R' B' q2 hI h
  refine gS rfl hI<|sF h (fun h=>?_) fun h=>?_
  ·refine sN<|qS<|cT<|qK<|qS<|qB<|gS rfl rfl<|bE h fun x4 hx4 h=>eG hx4 rfl<|sV (.d (av.pd x4))<|sB (.ptr 112 0) 112 (.var zZ3)<|sH 112 (.var (av.rc x4))<|sN<|gS rfl rfl<|sV (.ptr 112 0) ?_
   refine sL rfl<|sM rfl<|sF h (fun h=>?_) fun h=>?_
   ·refine sM rfl<|sM rfl<|sV (.ptr 112 1)<|sL rfl<|sV (rB (decide (a1<x4.fTo)))<|sF h (fun h=>?_) fun h=>?_
    ·refine sN<|cT<|gS rfl rfl<|sV (.d (av.pd x4))<|sH 64 (.var (av.rc x4))<|sT<|sN<|qR ?_
     cases oI h
     exact⟨nofun,rfl,rfl⟩
    refine sN<|cF<|qK<|WC.region rfl rfl<|sV (rI (rW (s1+(1:Int))))<|sM rfl<|sN ?_
    cases oI h
    exact⟨rfl,rfl⟩
   refine sM rfl<|k3<|sK<|sU<|sN<|cF<|qK<|WC.region rfl rfl<|sV (rI (rW (s1+(1:Int))))<|sM rfl<|sN ?_
   cases oI h
   exact⟨rfl,rfl⟩
  refine sN<|qS<|cF<|qX ?_
  cases oI h
  exact⟨nofun,rfl,rfl⟩
 intro e R' B' he hq
 rcases o8 with y9|r10
 ·obtain⟨rfl,hI⟩:=hq
  refine qE<|gS rfl hI<|sG (.agg zZ3)<|sH 64 (.var zZ3)<|sU<|sN<|qR ?_
  cases oI h
  exact qG
 obtain⟨rfl,hf⟩:=hq
 cases oI h
 exact hf
theorem inventory_At_ev{a0:ar}{a1:aw}{a2:Int}{r:av×Int}(h:iN a0 a1 a2=some r):EvP prog aC ext 99 [.d (ar.pd a0),.d (aw.pd a1),rI a2] [] (.tup [.d (av.pd r.1),rI r.2],[]):=by
 refine Ev.body rfl Tryz.func99 rfl (by kernel_rfl)<|gS rfl rfl<|sB (.ptr 48 0) 48 (.var [rM az.pd a0.aT])<|sB (.ptr 64 0) 64 (.var (aw.rc a1))<|sB (.ptr 96 0) 96 (.var zZ3)<|sV (r0)<|sN<|qS<|gS rfl rfl<|sV (.d (ar.pd a0))<|bE h fun x1 hx1 h=>cD (gB hx1)<|sF h (fun h=>?_) fun h=>?_
 ·refine sN<|cT<|gS rfl rfl<|sG (.agg zZ3)<|sH 96 (.var zZ3)<|sV (rI 1)<|sN<|qR ?_
  cases oI h
  exact qG
 refine sN<|cF<|qK<|gS rfl rfl<|sV (.d (ar.pd a0))<|sV (.d (aw.pd a1))<|bE h fun x3 hx3 h=>cR (.tup [.d (az.pd x3.1),rB x3.2]) [] (qh hx3)<|sM rfl<|sV (.d (az.pd x3.1))<|sV (rB x3.2)<|sB (.ptr 128 0) 128 (.var [rS [],rS [],rS [],rS [],.dH])<|sS 128 (.var (az.rc x3.1))<|sA rfl<|sN ?_
 refine gS rfl rfl<|sV (.d (az.pd x3.1))<|sM rfl<|bE h fun x4 hx4 h=>cR (.tup [.d (av.pd x4.1),rB x4.2]) [] (inventory_at_ev hx4)<|sM rfl<|sV (.d (av.pd x4.1))<|sV (rB x4.2)<|sB (.ptr 160 0) 160 (.var zZ3)<|sH 160 (.var (av.rc x4.1))<|sA rfl<|sN<|qS<|gS rfl rfl<|sM rfl ?_
 refine sF h (fun h=>?_) fun h=>?_
 ·refine sN<|cT<|gS rfl rfl<|sG (.agg zZ3)<|sH 96 (.var zZ3)<|sV (rI 6)<|sN<|qR ?_
  cases oI h
  exact qG
 refine sN<|cF<|qK<|gS rfl rfl<|sV (.d (av.pd x4.1))<|sH 96 (.var (av.rc x4.1))<|sV (r0)<|sN<|qR ?_
 cases oI h
 exact qG
end Go.Dw.Ek
