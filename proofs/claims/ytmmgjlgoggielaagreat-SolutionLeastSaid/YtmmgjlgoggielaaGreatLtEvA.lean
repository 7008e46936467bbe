
import Derived.Test.YtmmgjlgoggielaaGreatLtFn
import Derived.Test.YtmmgjlgoggielaaGreatDwShort
import Derived.Test.YtmmgjlgoggielaaGreatDwNest
import Derived.Test.YtmmgjlgoggielaaGreatProg
import Derived.Test.YtmmgjlgoggielaaGreatDwClone
import Derived.Test.YtmmgjlgoggielaaGreatDwSort

set_option maxRecDepth 100000
set_option maxHeartbeats 4000000
namespace Go.Dw.Lt
open Go.Proofs Go.Proofs.Tryz Go.Dw
@[reducible] def rW(n:Int):Int:=IntKind.wrap .i64 n
@[reducible] def rI(n:Int):RV:= .d (.int .i64 n)
@[reducible] def r0:RV:= .d (.int .i64 0)
@[reducible] def rS(s:List UInt8):RV:= .d (.str s)
@[reducible] def rB(b:Bool):RV:= .d (.bool b)
@[reducible] def rM{α:Type}(g:α->PD)(l:List α):RV:= .d (.lst (l.map g))
@[reducible] def rL(l:List Int):RV:= .d (.lst (l.map (PD.int .i64)))
@[reducible] def zZ0:List RV:=[.nR,.d (.int .i64 0),.d (.int .i64 0),.d (.int .i64 0),.d (.int .i64 0),.d (.int .i64 0),.d (.int .i64 0),.d (.int .i64 0),.d (.int .i64 0),.d (.int .i64 0),.d (.int .i64 0),.d (.int .i64 0),.d (.int .i64 0),.d (.int .i64 0),.d (.int .i64 0),.d (.int .i64 0)]
@[reducible] def zZ1:List RV:=[.d (.int .i64 0),.d (.int .i64 0),.d (.int .i64 0),.d (.int .i64 0),.d (.int .i64 0),.d (.int .i64 0),.d (.int .i64 0),.d (.int .i64 0),.d (.int .i64 0),.d (.int .i64 0),.d (.int .i64 0),.d (.int .i64 0)]
@[reducible] def zZ2:List RV:=[.d (.int .i64 0),.d (.int .i64 0),.d (.int .i64 0),.d (.int .i64 0),.d (.int .i64 0),.d (.int .i64 0),.d (.int .i64 0),.nR,.nR,.nR,.d (.int .i64 0)]
@[reducible] def zZ3:List RV:=[.d (.int .i64 0),.d (.int .i64 0),.d (.int .i64 0),.d (.int .i64 0),.d (.int .i64 0),.d (.int .i64 0),.d (.int .i64 0),.nR]
@[reducible] def zZ4:List RV:=[.d (.int .i64 0),.d (.int .i64 0),.d (.int .i64 0),.d (.int .i64 0),.d (.int .i64 0),.d (.int .i64 0)]
@[reducible] def aw.rc(x:aw):List RV:=[.d (.int .i64 x.aA.aG.aF.fX),.d (.int .i64 x.aA.aG.aF.fY),.d (.int .i64 x.aA.aG.aF.fZ),.d (.int .i64 x.aA.aG.az.fX),.d (.int .i64 x.aA.aG.az.fY),.d (.int .i64 x.aA.aG.az.fZ),.d (.int .i64 x.aA.aS.aQ),.d (.lst (x.aA.aS.aF.map (PD.int .i64))),.d (.lst (x.aA.aS.az.map (PD.int .i64))),.d (.int .i64 x.aA.bN),.d (.int .i64 x.aA.bJ),.d (.int .i64 x.aA.mW),.d (.int .i64 x.aA.kW),.d (.int .i64 x.aA.kV),.d (.int .i64 x.dY.bL.aQ),.d (.lst (x.dY.bL.aF.map (PD.int .i64))),.d (.lst (x.dY.bL.az.map (PD.int .i64))),.d (.int .i64 x.dY.bo),.d (.int .i64 x.dY.bf),.d (.int .i64 x.bJ)]
@[reducible] def aV.rc(x:aV):List RV:=[.d (.int .i64 x.aG.aF.fX),.d (.int .i64 x.aG.aF.fY),.d (.int .i64 x.aG.aF.fZ),.d (.int .i64 x.aG.az.fX),.d (.int .i64 x.aG.az.fY),.d (.int .i64 x.aG.az.fZ),.d (.int .i64 x.aS.aQ),.d (.lst (x.aS.aF.map (PD.int .i64))),.d (.lst (x.aS.az.map (PD.int .i64))),.d (.int .i64 x.bN),.d (.int .i64 x.bJ),.d (.int .i64 x.mW),.d (.int .i64 x.kW),.d (.int .i64 x.kV)]
@[reducible] def aD.rc(x:aD):List RV:=[.d (.int .i64 x.eM),.d (.int .i64 x.bo.a0),.d (.int .i64 x.bo.a1),.d (.int .i64 x.bo.a2),.d (.int .i64 x.bf.a0),.d (.int .i64 x.bf.a1),.d (.int .i64 x.bf.a2),.d (.lst (x.cW.map (PD.int .i64))),.d (.int .i64 x.cM),.d (.int .i64 x.c8)]
@[reducible] def ar.rc(x:ar):List RV:=[.d (.str x.aJ.aY),.d (.str x.aJ.aM),.d (.str x.aJ.aK),.d (.str x.aJ.bd),.d (.int .i64 x.bS),.d (.int .i64 x.a8),.d (.int .i64 x.bF),.d (.int .i64 x.bj),.d (.int .i64 x.bO)]
@[reducible] def aj.rc(x:aj):List RV:=[.d (.int .i64 x.aT),.d (.int .i64 x.fTo),.d (.int .i64 x.fd.bo),.d (.int .i64 x.fd.bf),.d (.int .i64 x.aW.fX),.d (.int .i64 x.aW.fY),.d (.int .i64 x.aW.fZ),.d (.lst (x.br.bn.map aD.pd))]
@[reducible] def ag.rc(x:ag):List RV:=[.d (.int .i64 x.aF.fX),.d (.int .i64 x.aF.fY),.d (.int .i64 x.aF.fZ),.d (.int .i64 x.az.fX),.d (.int .i64 x.az.fY),.d (.int .i64 x.az.fZ)]
@[reducible] def aC.rc(x:aC):List RV:=[.d (.int .i64 x.aM.fX),.d (.int .i64 x.aM.fY),.d (.int .i64 x.aM.fZ),.d (.int .i64 x.a8),.d (.int .i64 x.bF),.d (.int .i64 x.bt)]
@[reducible] def ba.rc(x:ba):List RV:=[.d (.int .i64 x.bL.aQ),.d (.lst (x.bL.aF.map (PD.int .i64))),.d (.lst (x.bL.az.map (PD.int .i64))),.d (.int .i64 x.bo),.d (.int .i64 x.bf)]
@[reducible] def au.rc(x:au):List RV:=[.d (.str x.aJ.aY),.d (.str x.aJ.aM),.d (.str x.aJ.aK),.d (.str x.aJ.bd),.d (.lst (x.bu.map aj.pd))]
@[reducible] def bz.rc(x:bz):List RV:=[.d (.int .i64 x.fp.aG.aF.fX),.d (.int .i64 x.fp.aG.aF.fY),.d (.int .i64 x.fp.aG.aF.fZ),.d (.int .i64 x.fp.aG.az.fX),.d (.int .i64 x.fp.aG.az.fY),.d (.int .i64 x.fp.aG.az.fZ),.d (.int .i64 x.fp.aS.aQ),.d (.lst (x.fp.aS.aF.map (PD.int .i64))),.d (.lst (x.fp.aS.az.map (PD.int .i64))),.d (.lst (x.fp.aN.map aC.pd)),.d (.int .i64 x.fp.bN),.d (.lst (x.im.map ah.pd)),.d (.int .i64 x.er),.d (.int .i64 x.ftaken),.d (.bool x.ffound),.d (.int .i64 x.bC.bp.fX),.d (.int .i64 x.bC.bp.fY),.d (.int .i64 x.bC.bp.fZ),.d (.int .i64 x.bC.bS),.d (.int .i64 x.bC.aZ),.d (.int .i64 x.bC.iH),.d (.int .i64 x.bC.bK.aF.fX),.d (.int .i64 x.bC.bK.aF.fY),.d (.int .i64 x.bC.bK.aF.fZ),.d (.int .i64 x.bC.bK.az.fX),.d (.int .i64 x.bC.bK.az.fY),.d (.int .i64 x.bC.bK.az.fZ)]
@[reducible] def ai.rc(x:ai):List RV:=[.d (.int .i64 x.bp.fX),.d (.int .i64 x.bp.fY),.d (.int .i64 x.bp.fZ),.d (.int .i64 x.bS),.d (.int .i64 x.aZ),.d (.int .i64 x.iH),.d (.int .i64 x.bK.aF.fX),.d (.int .i64 x.bK.aF.fY),.d (.int .i64 x.bK.aF.fZ),.d (.int .i64 x.bK.az.fX),.d (.int .i64 x.bK.az.fY),.d (.int .i64 x.bK.az.fZ)]
@[reducible] def ae.rc(x:ae):List RV:=[.d (.int .i64 x.aG.aF.fX),.d (.int .i64 x.aG.aF.fY),.d (.int .i64 x.aG.aF.fZ),.d (.int .i64 x.aG.az.fX),.d (.int .i64 x.aG.az.fY),.d (.int .i64 x.aG.az.fZ),.d (.int .i64 x.aS.aQ),.d (.lst (x.aS.aF.map (PD.int .i64))),.d (.lst (x.aS.az.map (PD.int .i64))),.d (.lst (x.aN.map aC.pd)),.d (.int .i64 x.bN)]
@[reducible] def ah.rc(x:ah):List RV:=[.d (.int .i64 x.gU.aF.fX),.d (.int .i64 x.gU.aF.fY),.d (.int .i64 x.gU.aF.fZ),.d (.int .i64 x.gU.az.fX),.d (.int .i64 x.gU.az.fY),.d (.int .i64 x.gU.az.fZ),.d (.int .i64 x.bQ),.d (.int .i64 x.er)]
@[reducible] def aU.rc(x:aU):List RV:=[.d (.lst (x.iI.map ar.pd)),.d (.int .i64 x.aK.bp.fX),.d (.int .i64 x.aK.bp.fY),.d (.int .i64 x.aK.bp.fZ),.d (.int .i64 x.aK.bS),.d (.int .i64 x.aK.aZ),.d (.int .i64 x.aK.iH),.d (.int .i64 x.aK.bK.aF.fX),.d (.int .i64 x.aK.bK.aF.fY),.d (.int .i64 x.aK.bK.aF.fZ),.d (.int .i64 x.aK.bK.az.fX),.d (.int .i64 x.aK.bK.az.fY),.d (.int .i64 x.aK.bK.az.fZ),.d (.int .i64 x.dX.aF),.d (.int .i64 x.dX.az),.d (.int .i64 x.kU)]
@[reducible] def ap.rc(x:ap):List RV:=[.d (.str x.aY),.d (.str x.aM),.d (.str x.aK),.d (.str x.bd)]
@[reducible] def ac.rc(x:ac):List RV:=[.d (.lst (x.fL.map (PD.int .i64))),.d (.int .i64 x.fAt)]
@[reducible] def aa.rc(x:aa):List RV:=[.d (.int .i64 x.fX),.d (.int .i64 x.fY),.d (.int .i64 x.fZ)]
@[reducible] def aq.rc(x:aq):List RV:=[.d (.int .i64 x.aQ),.d (.lst (x.aF.map (PD.int .i64))),.d (.lst (x.az.map (PD.int .i64)))]
@[reducible] def aI.rc(x:aI):List RV:=[.d (.lst (x.cn.map ar.pd)),.d (.lst (x.cm.map aC.pd)),.d (.lst (x.gL.map aj.pd))]
@[reducible] def aH.rc(x:aH):List RV:=[.d (.lst (x.bo.map (PD.int .i64))),.d (.lst (x.bf.map (PD.int .i64)))]
@[reducible] def ak.rc(x:ak):List RV:=[.d (.int .i64 x.aF),.d (.int .i64 x.az)]
def hintAt:FuncId->Nat->Nat->List wH:=fun f nb id=>
  if f=13 then(if nb=1 then(if id=3 then [.ownp (.cell 80 0) 1104 116,.nU [0,1,4,5,6] [0,64,80,1104]]else if id=16 then [.nU [4,5] [0,64,80,1104]]else [])else [])else if f=14 then(if nb=1 then(if id=4 then [.own 9 2192 66,.nU [0,5,6,9,10,11,12] [0,80,96,160,2192]]else if id=12 then [.nU [0,5,6,9,10,11,12,13,14,16] [0,80,96,160,208,224,2192]]else if id=14 then [.nU [0,5,6,9,10,11,12,13,16] [0,80,96,160,208,2192]]else if id=18 then [.nU [0,5,6,9,10,11,12,13] [0,80,96,160,208,2192]]else if id=21 then [.nU [9] [0,2192]]else [])else [])else if f=19 then(if nb=0 then(if id=3 then [.nU [1,3,11,12,13] [16]]else if id=9 then [.nU [3] []]else [])else [])else if f=49 then(if nb=1 then(if id=3 then [.nU [2,3,16,17] [0,32,48,96,97]]else if id=7 then [.nU [2,3] [0,32,48,96,97]]else [])else [])else if f=52 then(if nb=1 then(if id=3 then [.ownp (.cell 48 0) 1040 184,.nU [0,2,3,4] [0,32,48,1040]]else if id=13 then [.nU [2,3] [0,32,48,1040]]else [])else [])else if f=53 then(if nb=0 then(if id=2 then [.nU [2,4,6,13,14,15] [64,96]]else if id=5 then [.nU [2,4,6,9,13,14,15,20,21,22] [64,96,144]]else if id=10 then [.nU [2,4,6,13,14,15] [64,96]]else if id=11 then [.nU [6] [96]]else [])else [])else if f=55 then(if nb=0 then(if id=7 then [.ownp (.cell 128 0) 704 66,.ownp (.cell 128 1) 784 81,.ownp (.cell 128 2) 864 113,.nU [3,4,6,8,25,26,27] [48,64,96,128,704,784,864]]else if id=13 then [.nU [6,8] [96,128,704,784,864]]else [])else [])else if f=57 then(if nb=0 then(if id=7 then [.nU [4,8,37,38,39] [64,128]]else if id=13 then [.nU [4,8] [64,128]]else [])else [])else if f=58 then(if nb=0 then(if id=3 then [.own 7 816 47,.nU [3,4,5,7,13,14,15] [48,64,80,816]]else if id=9 then [.nU [7] [816]]else [])else [])else if f=62 then(if nb=0 then(if id=3 then [.nU [1,2,6,18,19,20] [32,272]]else if id=7 then [.nU [1,2,6] [32,272]]else if id=11 then [.nU [1,2,9,10,45,46,47] [32,272]]else if id=17 then [.nU [9,10] []]else [])else [])else if f=63 then(if nb=0 then(if id=3 then [.own 3 688 26,.nU [1,3,4] [16,688]]else if id=4 then [.nU [1,3,4] [16,688]]else if id=6 then [.nU [1,3,4,5] [16,688]]else if id=7 then [.nU [1,3,4,5] [16,688]]else if id=9 then [.nU [1,3,4,5,6] [16,688]]else if id=12 then [.nU [3] [688]]else [])else [])else if f=83 then(if nb=0 then(if id=2 then [.nU [1,6,7,8] [16]]else if id=7 then [.nU [1] [16]]else [])else [])else if f=95 then(if nb=0 then(if id=3 then [.nU [3,6,7,8] []]else if id=8 then [.nU [3] []]else [])else [])else if f=105 then(if nb=1 then(if id=4 then [.ownp (.cell 48 1) 432 3,.ownp (.cell 48 2) 512 3,.nU [0,2,3,4,5,6] [0,32,48,432,512]]else if id=9 then [.nU [2,3] [0,32,48,432,512]]else [])else [])else if f=108 then(if nb=0 then(if id=10 then [.nU [1,7] [304,368]]else if id=14 then [.frz (.cell 304 11),.nU [7] [304]]else [])else [])else if f=109 then(if nb=0 then(if id=5 then [.nU [4,5,6,7,8,31] [64,80,96,112,128]]else [])else [])else if f=115 then(if nb=0 then(if id=3 then [.own 5 304 3,.nU [1,5,8,9,10] [304]]else if id=7 then [.nU [5] [304]]else [])else [])else if f=118 then(if nb=0 then(if id=6 then [.nU [2,52,53,54] [32]]else if id=12 then [.nU [] []]else [])else [])else if f=120 then(if nb=0 then(if id=14 then [.nU [1,38,39,40] [16]]else if id=20 then [.nU [] []]else [])else [])else if f=122 then(if nb=0 then(if id=3 then [.nU [2,3,6,16,17,18] [32,48,224]]else if id=10 then [.nU [6] [224]]else [])else [])else if f=123 then(if nb=0 then(if id=3 then [.nU [1,2,3,7,11,12,13] [48]]else if id=8 then [.nU [7] []]else [])else [])else if f=124 then(if nb=0 then(if id=8 then [.own 7 688 206,.nU [2,3,7,8] [32,48,688]]else if id=12 then [.nU [7] [688]]else [])else [])else if f=126 then(if nb=0 then(if id=3 then [.nU [1,2,6,7,8] [32]]else if id=6 then [.nU [1,2,6,7,8,39,40,41] [32]]else if id=11 then [.nU [1,2,6,7,8,39,40,41] [32]]else if id=12 then [.nU [6,7] []]else [])else [])else if f=143 then(if nb=0 then(if id=4 then [.nU [1,3] [16]]else if id=10 then [.nU [] []]else [])else [])else if f=156 then(if nb=0 then(if id=2 then [.nU [0,5,6,7] []]else if id=7 then [.nU [0] []]else [])else [])else if f=175 then(if nb=0 then(if id=2 then [.nU [3,4,9,10,11] [48,64]]else if id=7 then [.nU [4] [64]]else [])else [])else if f=176 then(if nb=0 then(if id=2 then [.nU [1,4,9,10,11] [64]]else if id=7 then [.nU [4] [64]]else [])else [])else if f=183 then(if nb=1 then(if id=4 then [.nU [0,3] [0]]else if id=9 then [.nU [0,3,4,5] [0]]else if id=14 then [.nU [0,3] [0]]else if id=16 then [.nU [0] [0]]else [])else [])else if f=184 then(if nb=1 then(if id=5 then [.ownp (.cell 0 11) 80176 194,.mv (.cell 0 11) 90081,.nU [6] [0,90081]]else [])else if nb=2 then(if id=5 then [.ownp (.cell 0 11) 80176 194,.bumpp (.cell 0 11),.nU [6] [0,1]]else [])else [])else if f=186 then(if nb=2 then(if id=2 then [.bumpp (.cell 0 11),.nU [] [0,1]]else [])else [])else if f=195 then(if nb=0 then(if id=5 then [.nU [2,7,8,9,28,29] [128,144]]else [])else [])else if f=198 then(if nb=0 then(if id=2 then [.nU [0,1,7,8] []]else if id=7 then [.nU [] []]else [])else [])else if f=199 then(if nb=0 then(if id=6 then [.nU [1,4,5,33,34] [16]]else if id=12 then [.nU [] []]else [])else [])else if f=203 then(if nb=0 then(if id=12 then [.nU [1,3] [16]]else if id=19 then [.nU [] []]else [])else [])else if f=206 then(if nb=0 then(if id=3 then [.nU [1,2,3,7,8] [48]]else if id=6 then [.nU [7] []]else [])else [])else if f=207 then(if nb=1 then(if id=2 then [.nU [0,1,2,3,8,9] [0]]else [])else [])else if f=217 then(if nb=0 then(if id=4 then [.nU [0,2] []]else if id=7 then [.nU [0,2] []]else [])else [])else if f=224 then(if nb=0 then(if id=3 then [.nU [0,3,4] []]else if id=8 then [.nU [3] []]else [])else [])else if f=241 then(if nb=0 then(if id=2 then [.nU [0,1,2,9,10] []]else if id=7 then [.nU [0,1,2] []]else [])else [])else if f=257 then(if nb=0 then(if id=3 then [.nU [1,2,10,11,12] [16,32,112]]else if id=7 then [.nU [1,2] [16,32,112]]else [])else [])else if f=273 then(if nb=0 then(if id=7 then [.nU [1,2,6,8,31,32,33] [96,128]]else if id=17 then [.nU [6,8] [96,128]]else [])else [])else if f=278 then(if nb=2 then(if id=2 then [.nU [1,5,6] [0,1]]else if id=7 then [.nU [5] [0,1]]else [])else [])else if f=280 then(if nb=0 then(if id=5 then [.nU [0,3,4] []]else if id=10 then [.nU [3] []]else [])else [])else if f=284 then(if nb=1 then(if id=1 then [.nU [0,1,2,6] [0]]else if id=2 then [.nU [0,1,2,6] [0]]else if id=4 then [.nU [0,1,2,6,7] [0]]else [])else [])else if f=326 then(if nb=0 then(if id=3 then [.nU [1,2,13,14] [16,32,112]]else if id=7 then [.nU [1,2] [16,32,112]]else [])else [])else if f=330 then(if nb=2 then(if id=0 then [.nU [0,1] [0,1]]else [])else [])else if f=331 then(if nb=2 then(if id=2 then [.nU [0,1,2,7] [0,1]]else if id=8 then [.nU [0,1,2,7,9] [0,1]]else if id=11 then [.nU [1,7] [0,1]]else [])else [])else if f=332 then(if nb=0 then(if id=5 then [.nU [2,3,4,16] [32,48,64]]else [])else [])else if f=339 then(if nb=0 then(if id=9 then [.nU [0,1,5,6] []]else [])else [])else if f=350 then(if nb=0 then(if id=1 then [.nU [0,1] []]else if id=3 then [.nU [0] []]else [])else [])else if f=353 then(if nb=0 then(if id=6 then [.fixv 16,.nU [1,3] []]else [])else [])else if f=354 then(if nb=0 then(if id=3 then [.nU [3,6,7,8] []]else if id=10 then [.nU [3] []]else [])else [])else if f=383 then(if nb=0 then(if id=3 then [.nU [3,6,7,8] []]else if id=7 then [.nU [3] []]else [])else [])else if f=386 then(if nb=0 then(if id=3 then [.nU [1,5,16,17,18] [240]]else if id=7 then [.nU [1,5,6,7,8,16,17,18,25,26] [240]]else if id=14 then [.nU [1,5,16,17,18] [240]]else if id=15 then [.nU [5] [240]]else [])else [])else if f=393 then(if nb=0 then(if id=2 then [.nU [0,1,7,8] []]else if id=7 then [.nU [] []]else [])else [])else if f=406 then(if nb=0 then(if id=4 then [.own 4 240 3,.nU [0,4] [240]]else if id=7 then [.nU [4] [240]]else [])else [])else if f=408 then(if nb=0 then(if id=6 then [.own 6 560 3,.nU [0,1,6,7,18,19] [560]]else if id=12 then [.nU [6] [560]]else [])else [])else if f=409 then(if nb=0 then(if id=1 then [.nU [0] []]else if id=3 then [.nU [0] []]else [])else [])else if f=411 then(if nb=0 then(if id=2 then [.nU [0,1,7,8] []]else if id=7 then [.nU [] []]else [])else [])else if f=421 then(if nb=0 then(if id=2 then [.nU [0,1,7,8] []]else if id=7 then [.nU [] []]else [])else [])else []
def av:Hints:={ at_:=hintAt,mt:=fun f i=>(f==13&&i==28)||(f==443&&i==19),by_:=fun f i=>(f==79&&i==0)||(f==133&&i==0)||(f==183&&i==0)||(f==207&&i==0)||(f==284&&i==0)||(f==440&&i==0)||(f==441&&i==0)||(f==442&&i==0),own:=fun f i=>(f==105&&i==0)||(f==107&&i==0)||(f==182&&i==0)||(f==257&&i==0)||(f==325&&i==0)||(f==364&&i==0) }
theorem eqE_47(a b:ak):uM prog .eql 47 (.d a.pd) (.d b.pd)=some (.bool ((a.aF==b.aF)&&((a.az==b.az)&&true)),true):=by kernel_rfl
theorem eqE_64(a b:ap):uM prog .eql 64 (.d a.pd) (.d b.pd)=some (.bool ((a.aY==b.aY)&&((a.aM==b.aM)&&((a.aK==b.aK)&&((a.bd==b.bd)&&true)))),true):=by kernel_rfl
theorem eqE_66(a b:ar):uM prog .eql 66 (.d a.pd) (.d b.pd)=some (.bool (((a.aJ.aY==b.aJ.aY)&&((a.aJ.aM==b.aJ.aM)&&((a.aJ.aK==b.aJ.aK)&&((a.aJ.bd==b.aJ.bd)&&true))))&&((a.bS==b.bS)&&((a.a8==b.a8)&&((a.bF==b.bF)&&((a.bj==b.bj)&&((a.bO==b.bO)&&true)))))),true):=by kernel_rfl
theorem eqN_66(a b:ar):uM prog .neq 66 (.d a.pd) (.d b.pd)=some (.bool (!(((a.aJ.aY==b.aJ.aY)&&((a.aJ.aM==b.aJ.aM)&&((a.aJ.aK==b.aJ.aK)&&((a.aJ.bd==b.aJ.bd)&&true))))&&((a.bS==b.bS)&&((a.a8==b.a8)&&((a.bF==b.bF)&&((a.bj==b.bj)&&((a.bO==b.bO)&&true))))))),true):=by kernel_rfl
theorem il(a b:aO):uM prog .eql 182 (.d a.pd) (.d b.pd)=some (.bool ((a.a0==b.a0)&&((a.a1==b.a1)&&((a.a2==b.a2)&&true))),true):=by kernel_rfl
theorem T_api_Pick_inj:∀x y:ar,x.pd=y.pd->x=y:=by
  rintro⟨⟨z1,z2,z3,z4⟩,z5,z6,z7,z8,z9⟩ ⟨⟨z10,z11,z12,z13⟩,z14,z15,z16,z17,z18⟩ h
  cases h;rfl
def ext0:FuncId->Option oB:=fun _=>none
theorem jg{a0:(List UInt8)}{r:Bool}(h:eT a0=some r):EvP prog av ext0 306 [rS a0] [] (rB r,[]):=by
 refine Ev.body rfl Tryz.func306 rfl (by kernel_rfl)<|gS rfl rfl<|sU<|sN<|gS rfl rfl<|sM rfl<|sM rfl<|sV (rB (!(a0==a0)))<|sA rfl<|sN<|qR ?_
 exact oI h▸qD
theorem dK{a0:(List UInt8)}{a1:(List UInt8)}{r:Int}(h:bH a0 a1=some r):EvP prog av ext0 239 [rS a0,rS a1] [] (rI r,[]):=by
 refine Ev.body rfl Tryz.func239 rfl (by kernel_rfl)<|gS rfl rfl<|sV (r0)<|sN<|gS rfl rfl<|sM rfl<|bE h fun x1 hx1 h=>cD (jg hx1)<|sA rfl<|sN<|gS rfl rfl<|sM rfl<|bE h fun x2 hx2 h=>cD (jg hx2)<|sA rfl ?_
 refine sN<|qS<|gS rfl rfl<|sF h (fun h=>?_) fun h=>?_
 ·refine sN<|cT<|qS<|gS rfl rfl<|sF h (fun h=>?_) fun h=>?_
  ·refine sN<|cT<|gS rfl rfl<|sV (r0)<|sN<|qR ?_
   exact oI h▸qD
  refine sN<|cF<|qK<|gS rfl rfl<|sV (rI (-1))<|sN<|qR ?_
  exact oI h▸qD
 refine sN<|cF<|qK<|qS<|gS rfl rfl<|sF h (fun h=>?_) fun h=>?_
 ·refine sN<|cT<|gS rfl rfl<|sV (rI 1)<|sN<|qR ?_
  exact oI h▸qD
 refine sN<|cF<|qK<|qS<|gS rfl rfl<|sM rfl<|sM rfl<|sF h (fun h=>?_) fun h=>?_
 ·refine sN<|cT<|gS rfl rfl<|sV (rI (-1))<|sN<|qR ?_
  exact oI h▸qD
 refine sN<|cF<|qK<|qS<|gS rfl rfl<|sM rfl<|sM rfl<|sF h (fun h=>?_) fun h=>?_
 ·refine sN<|cT<|gS rfl rfl<|sV (rI 1)<|sN<|qR ?_
  exact oI h▸qD
 refine sN<|cF<|qK<|gS rfl rfl<|sV (r0)<|sN<|qR ?_
 exact oI h▸qD
theorem l6{a0:(List Int)}{r:Int}(h:cp a0=some r):EvP prog av ext0 95 [rL a0] [] (rI r,[]):=by
 refine Ev.body rfl Tryz.func95 rfl (by kernel_rfl)<|gS rfl rfl<|sV (r0)<|sN<|gS rfl rfl<|sV (r0)<|sN<|qS<|gS rfl rfl<|sM rfl<|sE (rI (a0.length:Int)) (nT _ _)<|sV (r0)<|sN<|bE h fun o7 ho7 h=>WC.block (WC.loop (WL.n4 ho7 (fun s R' B'=>hY prog 0 (A R' B') (av.at_ 95 0 3)=some (A [(3,r0),(6,rL a0),(7,rI (a0.length:Int)),(8,rI s)] [])) (fun o e R' B'=>match o with| .inl y=>e= .exit 0∧hY prog 0 (A R' B') (av.at_ 95 0 8)=some (A [(3,r0)] [])| .inr r=>e= .ret∧finish prog (av.own 95) Tryz.f95 0 (A R' B')=some (rI r,[])) rfl ?_ ?_))
 ·rintro s1 R' B' q2 hI h
  refine gS rfl hI<|sF h (fun h=>?_) fun h=>?_
  ·refine sN<|qS<|cT<|qK<|qS<|qB<|gS rfl rfl<|bE h fun x4 hx4 h=>eG hx4 rfl<|sC rfl<|sA rfl<|sN<|gS rfl rfl<|sM rfl<|sM rfl ?_
   refine sF h (fun h=>?_) fun h=>?_
   ·refine sN<|cT<|gS rfl rfl<|sM rfl<|sA rfl<|sN<|qR ?_
    cases oI h
    exact⟨nofun,rfl,rfl⟩
   refine sN<|cF<|qK<|WC.region rfl rfl<|sV (rI (rW (s1+(1:Int))))<|sM rfl<|sN ?_
   cases oI h
   exact⟨rfl,rfl⟩
  refine sN<|qS<|cF<|qX ?_
  cases oI h
  exact⟨nofun,rfl,rfl⟩
 intro e R' B' he hq
 rcases o7 with y8|r9
 ·obtain⟨rfl,hI⟩:=hq
  refine qE<|gS rfl hI<|sM rfl<|sA rfl<|sN<|qR ?_
  exact oI h▸qD
 obtain⟨rfl,hf⟩:=hq
 cases oI h
 exact hf
theorem np{a0:ap}{a1:ap}{r:Int}(h:dB a0 a1=some r):EvP prog av ext0 153 [.d (ap.pd a0),.d (ap.pd a1)] [] (rI r,[]):=by
 refine Ev.body rfl Tryz.func153 rfl (by kernel_rfl)<|gS rfl rfl<|sB (.ptr 32 0) 32 (.var (ap.rc a0))<|sB (.ptr 48 0) 48 (.var (ap.rc a1))<|sV (r0)<|sN<|WC.cI rfl rfl<|sV (.ptr 32 0)<|sL rfl<|sV (.ptr 48 0)<|sL rfl<|bE h fun x1 hx1 h=>cD (dK hx1)<|sV (.ptr 32 1)<|sL rfl ?_
 refine sV (.ptr 48 1)<|sL rfl<|bE h fun x2 hx2 h=>cD (dK hx2)<|sV (.ptr 32 2)<|sL rfl<|sV (.ptr 48 2)<|sL rfl<|bE h fun x3 hx3 h=>cD (dK hx3)<|sV (.ptr 32 3)<|sL rfl<|sV (.ptr 48 3)<|sL rfl<|bE h fun x4 hx4 h=>?_
 refine cD (dK hx4)<|sV (.d (.lst ([x1,x2,x3,x4].map (PD.int .i64))))<|bE h fun x5 hx5 h=>cD (l6 hx5)<|sA rfl ?_
 refine sN<|sO<|qR ?_
 exact oI h▸qD
theorem kA{a0:Int}{r:Bool}(h:dO a0=some r):EvP prog av ext0 170 [rI a0] [] (rB r,[]):=by
 refine Ev.body rfl Tryz.func170 rfl (by kernel_rfl)<|gS rfl rfl<|sU<|sN<|gS rfl rfl<|sM rfl<|sM rfl<|sV (rB (a0 != a0))<|sA rfl<|sN<|qR ?_
 exact oI h▸qD
theorem dE{a0:Int}{a1:Int}{r:Int}(h:bA a0 a1=some r):EvP prog av ext0 96 [rI a0,rI a1] [] (rI r,[]):=by
 refine Ev.body rfl Tryz.func96 rfl (by kernel_rfl)<|gS rfl rfl<|sV (r0)<|sN<|gS rfl rfl<|sM rfl<|bE h fun x1 hx1 h=>cD (kA hx1)<|sA rfl<|sN<|gS rfl rfl<|sM rfl<|bE h fun x2 hx2 h=>cD (kA hx2)<|sA rfl ?_
 refine sN<|qS<|gS rfl rfl<|sF h (fun h=>?_) fun h=>?_
 ·refine sN<|cT<|qS<|gS rfl rfl<|sF h (fun h=>?_) fun h=>?_
  ·refine sN<|cT<|gS rfl rfl<|sV (r0)<|sN<|qR ?_
   exact oI h▸qD
  refine sN<|cF<|qK<|gS rfl rfl<|sV (rI (-1))<|sN<|qR ?_
  exact oI h▸qD
 refine sN<|cF<|qK<|qS<|gS rfl rfl<|sF h (fun h=>?_) fun h=>?_
 ·refine sN<|cT<|gS rfl rfl<|sV (rI 1)<|sN<|qR ?_
  exact oI h▸qD
 refine sN<|cF<|qK<|qS<|gS rfl rfl<|sM rfl<|sM rfl<|sF h (fun h=>?_) fun h=>?_
 ·refine sN<|cT<|gS rfl rfl<|sV (rI (-1))<|sN<|qR ?_
  exact oI h▸qD
 refine sN<|cF<|qK<|qS<|gS rfl rfl<|sM rfl<|sM rfl<|sF h (fun h=>?_) fun h=>?_
 ·refine sN<|cT<|gS rfl rfl<|sV (rI 1)<|sN<|qR ?_
  exact oI h▸qD
 refine sN<|cF<|qK<|gS rfl rfl<|sV (r0)<|sN<|qR ?_
 exact oI h▸qD
theorem nk{a0:ar}{a1:ar}{r:Int}(h:bW a0 a1=some r):EvP prog av ext0 80 [.d (ar.pd a0),.d (ar.pd a1)] [] (rI r,[]):=by
 refine Ev.body rfl Tryz.func80 rfl (by kernel_rfl)<|gS rfl rfl<|sB (.ptr 32 0) 32 (.var (ar.rc a0))<|sB (.ptr 48 0) 48 (.var (ar.rc a1))<|sV (r0)<|sN<|WC.cI rfl rfl<|sV (.ptr 32 0)<|sV (.d (ap.pd a0.aJ))<|sV (.ptr 48 0)<|sV (.d (ap.pd a1.aJ))<|bE h fun x1 hx1 h=>cD (np hx1)<|sV (.ptr 32 4)<|sL rfl ?_
 refine sV (.ptr 48 4)<|sL rfl<|bE h fun x2 hx2 h=>cD (dE hx2)<|sV (.ptr 32 5)<|sL rfl<|sV (.ptr 48 5)<|sL rfl<|bE h fun x3 hx3 h=>cD (dE hx3)<|sV (.ptr 32 6)<|sL rfl<|sV (.ptr 48 6)<|sL rfl<|bE h fun x4 hx4 h=>?_
 refine cD (dE hx4)<|sV (.ptr 32 7)<|sL rfl<|sV (.ptr 48 7)<|sL rfl<|bE h fun x5 hx5 h=>cD (dE hx5)<|sV (.ptr 32 8)<|sL rfl<|sV (.ptr 48 8)<|sL rfl<|bE h fun x6 hx6 h=>cD (dE hx6)<|sV (.d (.lst ([x1,x2,x3,x4,x5,x6].map (PD.int .i64))))<|bE h fun x7 hx7 h=>?_
 refine cD (l6 hx7)<|sA rfl ?_
 refine sN<|sO<|qR ?_
 cases oI h
 exact qG
noncomputable def ext:FuncId->Option oB:=fun f=>if f=79 then some (zi 80 66 ar.pd bW)else if f=182 then some (tE 66 9 104)else if f=325 then some (tE 113 8 80)else if f=364 then some (tE 184 10 96)else if f=107 then some (tE 3 1 8)else none
theorem sort_79_80{l r:List ar}(h:ug bW l=some r):EvP prog av ext 79 [.ref 0 0,.d (.raw (.func (.func 80) #[] #[]))] [.arr 0 66 (l.map ar.pd)] (.tup [],[.arr 0 66 (r.map ar.pd)]):=sort_ev rfl (sortD_of T_api_Pick_inj h)
theorem clone_182{l r:List ar}(h:py 104 l=some r):EvP prog av ext 182 [rM ar.pd l] [] (.ref 0 0,[.arr 0 66 (r.map ar.pd)]):=uR (g:=ar.pd) rfl (fun _=>rfl) h
theorem clone_325{l r:List aj}(h:py 80 l=some r):EvP prog av ext 325 [rM aj.pd l] [] (.ref 0 0,[.arr 0 113 (r.map aj.pd)]):=uR (g:=aj.pd) rfl (fun _=>rfl) h
theorem clone_364{l r:List aD}(h:py 96 l=some r):EvP prog av ext 364 [rM aD.pd l] [] (.ref 0 0,[.arr 0 184 (r.map aD.pd)]):=uR (g:=aD.pd) rfl (fun _=>rfl) h
theorem clone_107{l r:List Int}(h:py 8 l=some r):EvP prog av ext 107 [rL l] [] (.ref 0 0,[.arr 0 3 (r.map (PD.int .i64))]):=uR (g:=(PD.int .i64)) rfl (fun _=>rfl) h
theorem keep_New_ev{a0:(List Int)}{r:ac}(h:ip a0=some r):EvP prog av ext 11 [rL a0] [] (.ptr 0 0,[.var (ac.rc r)]):=by
 refine Ev.body rfl Tryz.func11 rfl (by kernel_rfl)<|gS rfl rfl<|sV (.d (.raw (.pointer none)))<|sN<|gS rfl rfl<|sM rfl<|sM rfl<|sE (rI (a0.length:Int)) (nT _ _)<|sV (rI (if(2000:Int)<(a0.length:Int)then(2000:Int)else(a0.length:Int)))<|bE h fun x1 hx1 h=>WO.cutL (sz:=1) (g:=(PD.int .i64)) hx1 (fun _=>rfl) rfl rfl rfl rfl rfl rfl rfl rfl rfl rfl rfl<|sV (.d (ac.pd (ac.mk x1 0)))<|sB (.ptr 144 0) 144 (.var [rL x1,r0])<|sA rfl<|sN ?_
 refine qR ?_
 exact oI h▸qD
theorem Src_Raw_ev{d0:ac}{r:Int×ac}(h:Src_Raw d0=some r):EvP prog av ext 72 [.ptr 0 0] [.var (ac.rc d0)] (rI r.1,[.var (ac.rc r.2)]):=by
 refine Ev.body rfl Tryz.func72 rfl (by kernel_rfl)<|gS rfl rfl<|sV (r0)<|sN<|qS<|WC.cI rfl rfl<|sM rfl<|sV (.ptr 0 0)<|sV (.ptr 0 1)<|sL rfl<|sM rfl<|sV (.ptr 0 0)<|sV (.ptr 0 0)<|sL rfl<|sE (rI (d0.fL.length:Int)) (nT _ _) ?_
 refine sF h (fun h=>?_) fun h=>?_
 ·refine sN<|sO<|cT<|gS rfl rfl<|sV (r0)<|sN<|qR ?_
  exact oI h▸qD
 refine sN<|sO<|cF<|qK<|gS rfl rfl<|sM rfl<|sV (.ptr 0 0)<|sV (.ptr 0 1)<|sL rfl<|sV (rI (rW (d0.fAt+(1:Int))))<|sV (.ptr 0 0)<|sV (.ptr 0 1)<|sS 0 (.var [rL d0.fL,rI (rW (d0.fAt+(1:Int)))])<|sN<|WC.cI rfl rfl<|sM rfl ?_
 refine sV (.ptr 0 0)<|sV (.ptr 0 0)<|sL rfl<|sM rfl<|sV (.ptr 0 0)<|sV (.ptr 0 1)<|sL rfl<|sV (rI (rW ((rW (d0.fAt+(1:Int)))-(1:Int))))<|bE h fun x2 hx2 h=>eG hx2 rfl<|sC rfl<|sA rfl ?_
 refine sN<|sO<|qR ?_
 exact oI h▸qD
theorem keep_Mod_ev{a0:Int}{a1:Int}{r:Int}(h:lk a0 a1=some r):EvP prog av ext 24 [rI a0,rI a1] [] (rI r,[]):=by
 refine Ev.body rfl Tryz.func24 rfl (by kernel_rfl)<|gS rfl rfl<|sV (r0)<|sN<|qS<|gS rfl rfl<|sM rfl<|sF h (fun h=>?_) fun h=>?_
 ·refine sN<|cT<|gS rfl rfl<|sV (r0)<|sN<|qR ?_
  exact oI h▸qD
 refine sN<|cF<|qK<|gS rfl rfl<|sM rfl<|sM rfl<|bE h fun x2 hx2 h=>WO.remG hx2 rfl rfl rfl rfl rfl rfl<|sA rfl<|sN<|qS<|gS rfl rfl<|sM rfl<|sF h (fun h=>?_) fun h=>?_
 ·refine sN<|cT<|WC.region rfl rfl<|sM rfl<|sM rfl<|sV (rI (rW (x2+a1)))<|sA rfl<|sN<|gS rfl rfl<|sM rfl<|sA rfl<|sN<|qR ?_
  exact oI h▸qD
 refine sN<|cF<|qK<|gS rfl rfl<|sM rfl<|sA rfl<|sN<|qR ?_
 exact oI h▸qD
theorem bv{a1:Int}{d0:ac}{r:Int×ac}(h:cb a1 d0=some r):EvP prog av ext 25 [.ptr 0 0,rI a1] [.var (ac.rc d0)] (rI r.1,[.var (ac.rc r.2)]):=by
 refine Ev.body rfl Tryz.func25 rfl (by kernel_rfl)<|gS rfl rfl<|sV (r0)<|sN<|gS rfl rfl<|sM rfl<|bE h fun x1 hx1 h=>cR (rI x1.1) [(0,.var (ac.rc x1.2))] (Src_Raw_ev hx1)<|sM rfl<|bE h fun x2 hx2 h=>cD (keep_Mod_ev hx2)<|sA rfl<|sN<|qR ?_
 exact oI h▸qD
theorem lw{a1:Int}{d0:ac}{r:aa×ac}(h:hF a1 d0=some r):EvP prog av ext 51 [.ptr 0 0,rI a1] [.var (ac.rc d0)] (.d (aa.pd r.1),[.var (ac.rc r.2)]):=by
 refine Ev.body rfl Tryz.func51 rfl (by kernel_rfl)<|gS rfl rfl<|sB (.ptr 64 0) 64 (.var [r0,r0,r0])<|sN<|gS rfl rfl<|sM rfl<|sM rfl<|sV (rI (rW ((2:Int)*a1)))<|sV (rI (rW ((rW ((2:Int)*a1))+(1:Int))))<|bE h fun x1 hx1 h=>cR (rI x1.1) [(0,.var (ac.rc x1.2))] (bv hx1)<|sM rfl<|sV (rI (rW (x1.1-a1)))<|sM rfl<|sM rfl ?_
 refine sV (rI (rW ((2:Int)*a1)))<|sV (rI (rW ((rW ((2:Int)*a1))+(1:Int))))<|bE h fun x2 hx2 h=>cR (rI x2.1) [(0,.var (ac.rc x2.2))] (bv hx2)<|sM rfl<|sV (rI (rW (x2.1-a1)))<|sM rfl<|sM rfl<|sV (rI (rW (a1+(1:Int))))<|bE h fun x3 hx3 h=>cR (rI x3.1) [(0,.var (ac.rc x3.2))] (bv hx3)<|sV (.d (aa.pd (aa.mk (rW (x1.1-a1)) (rW (x2.1-a1)) x3.1)))<|sS 64 (.var [rI (rW (x1.1-a1)),rI (rW (x2.1-a1)),rI x3.1])<|sN<|qR ?_
 exact oI h▸qD
theorem Src_Box_ev{a1:Int}{a2:Int}{d0:ac}{r:ag×ac}(h:lv a1 a2 d0=some r):EvP prog av ext 104 [.ptr 0 0,rI a1,rI a2] [.var (ac.rc d0)] (.d (ag.pd r.1),[.var (ac.rc r.2)]):=by
 refine Ev.body rfl Tryz.func104 rfl (by kernel_rfl)<|gS rfl rfl<|sB (.ptr 96 0) 96 (.var zZ4)<|sN<|gS rfl rfl<|sM rfl<|sM rfl<|bE h fun x1 hx1 h=>cR (.d (aa.pd x1.1)) [(0,.var (ac.rc x1.2))] (lw hx1)<|sB (.ptr 112 0) 112 (.var [r0,r0,r0])<|sS 112 (.var (aa.rc x1.1))<|sN<|WC.cI rfl rfl<|sV (.d (aa.pd x1.1))<|sV (.ptr 112 0) ?_
 refine sL rfl<|sM rfl<|sM rfl<|sV (rI (rW (a2+(1:Int))))<|bE h fun x2 hx2 h=>cR (rI x2.1) [(0,.var (ac.rc x2.2))] (bv hx2)<|sV (rI (rW (x1.1.fX+x2.1)))<|sV (.ptr 112 1)<|sL rfl<|sM rfl<|sM rfl<|sV (rI (rW (a2+(1:Int))))<|bE h fun x3 hx3 h=>cR (rI x3.1) [(0,.var (ac.rc x3.2))] (bv hx3)<|sV (rI (rW (x1.1.fY+x3.1))) ?_
 refine sV (.ptr 112 2)<|sL rfl<|sM rfl<|sM rfl<|sV (rI (rW (a2+(1:Int))))<|bE h fun x4 hx4 h=>cR (rI x4.1) [(0,.var (ac.rc x4.2))] (bv hx4)<|sV (rI (rW (x1.1.fZ+x4.1)))<|sV (.d (aa.pd (aa.mk (rW (x1.1.fX+x2.1)) (rW (x1.1.fY+x3.1)) (rW (x1.1.fZ+x4.1)))))<|sG (.d (ag.pd (ag.mk x1.1 (aa.mk (rW (x1.1.fX+x2.1)) (rW (x1.1.fY+x3.1)) (rW (x1.1.fZ+x4.1))))))<|sH 96 (.var (aa.rc x1.1++[rI (rW (x1.1.fX+x2.1)),rI (rW (x1.1.fY+x3.1)),rI (rW (x1.1.fZ+x4.1))])) ?_
 refine sN<|sO<|qR ?_
 cases oI h
 exact qG
theorem di{a1:(List Int)}{d0:ac}{r:Int×ac}(h:cA a1 d0=some r):EvP prog av ext 50 [.ptr 0 0,rL a1] [.var (ac.rc d0)] (rI r.1,[.var (ac.rc r.2)]):=by
 refine Ev.body rfl Tryz.func50 rfl (by kernel_rfl)<|gS rfl rfl<|sV (r0)<|sN<|gS rfl rfl<|sM rfl<|sM rfl<|sM rfl<|sE (rI (a1.length:Int)) (nT _ _)<|bE h fun x1 hx1 h=>cR (rI x1.1) [(0,.var (ac.rc x1.2))] (bv hx1)<|bE h fun x2 hx2 h=>eG hx2 rfl<|sC rfl<|sA rfl ?_
 refine sN<|qR ?_
 exact oI h▸qD
theorem ny{d0:ac}{r:aq×ac}(h:gh d0=some r):EvP prog av ext 105 [.ptr 0 0] [.var (ac.rc d0)] (.agg [rI r.1.aQ,.ref 1 0,.ref 2 0],[.var (ac.rc r.2),.arr 0 3 (r.1.aF.map (PD.int .i64)),.arr 0 3 (r.1.az.map (PD.int .i64))]):=by
 refine Ev.body rfl Tryz.func105 rfl (by kernel_rfl)<|gS rfl rfl<|sB (.ptr 32 0) 32 (.var [r0,.nR,.nR])<|sN<|gS rfl rfl<|sM rfl<|sV (.d (.lst ([20,25,40,100].map (PD.int .i64))))<|bE h fun x1 hx1 h=>cR (rI x1.1) [(0,.var (ac.rc x1.2))] (di hx1)<|sV (.agg [rI x1.1,.nR,.nR])<|sB (.ptr 48 0) 48 (.var [r0,.nR,.nR])<|sS 48 (.var [rI x1.1,.nR,.nR])<|sN<|gS rfl rfl<|sM rfl ?_
 refine bE h fun x2 hx2 h=>cR (rI x2.1) [(0,.var (ac.rc x2.2))] (bv hx2)<|sV (r0)<|sA rfl<|sN<|qS<|gS rfl rfl<|sV (r0)<|sN<|bE h fun o24 ho24 h=>WC.block (WC.loop (WL.n4 ho24 (fun s R' B'=>hY prog 1 (A R' B') (av.at_ 105 1 4)=some (A [(0,.ptr 0 0),(2,.ptr 32 0),(3,.ptr 48 0),(4,rI s.1),(5,rI s.2.1),(6,rI s.2.2.1)] [(0,.var [rL s.2.2.2.1,rI s.2.2.2.2.1]),(32,.var [r0,.nR,.nR]),(48,.var [rI x1.1,.ref 432 0,.ref 512 0]),(432,.arr 0 3 (s.2.2.2.2.2.1.map (PD.int .i64))),(512,.arr 0 3 (s.2.2.2.2.2.2.map (PD.int .i64)))])) (fun o e R' B'=>e= .exit 0∧hY prog 1 (A R' B') (av.at_ 105 1 9)=some (A [(2,.ptr 32 0),(3,.ptr 48 0)] [(0,.var [rL o.1,rI o.2.1]),(32,.var [r0,.nR,.nR]),(48,.var [rI x1.1,.ref 432 0,.ref 512 0]),(432,.arr 0 3 (o.2.2.1.map (PD.int .i64))),(512,.arr 0 3 (o.2.2.2.map (PD.int .i64)))])) rfl ?_ ?_))
 ·rintro⟨s3,s4,s5,s6,s7,s8,s9⟩ R' B' q14 hI h
  unfold gE at h
  refine qS<|WC.cI hI rfl<|sM rfl<|sV (.ptr 48 0)<|sL rfl<|bE h fun x15 hx15 h=>WO.ru hx15 rfl rfl rfl rfl rfl rfl<|sM rfl<|bE h fun x16 hx16 h=>cR (rI x16.1) [(0,.var (ac.rc x16.2))] (bv hx16)<|sV (rI (rW (x15+x16.1)))<|sF h (fun h=>?_) fun h=>?_
  ·refine sN<|sO<|cT<|qK<|qS<|qB<|WC.cI rfl rfl<|sV (.ptr 48 1)<|sL rfl<|sM rfl<|sV (.d (.lst ([s3].map (PD.int .i64))))<|bE h fun x18 hx18 h=>aR hx18 (fun _=>rfl) rfl<|sV (.ptr 48 2)<|sL rfl<|sM rfl ?_
   refine sV (.d (.lst ([s4].map (PD.int .i64))))<|bE h fun x19 hx19 h=>aR hx19 (fun _=>rfl) rfl<|sV (.ptr 48 1)<|sS 48 (.var [rI x1.1,.ref 432 1,.ref 512 0])<|sV (.ptr 48 2)<|sS 48 (.var [rI x1.1,.ref 432 1,.ref 512 1]) ?_
   refine sN<|sO<|WC.cI rfl rfl<|sM rfl<|sM rfl<|sV (.d (.lst ([0,10,20,35].map (PD.int .i64))))<|bE h fun x20 hx20 h=>cR (rI x20.1) [(0,.var (ac.rc x20.2))] (di hx20)<|sV (.ptr 48 0)<|sL rfl<|bE h fun x21 hx21 h=>WO.ru hx21 rfl rfl rfl rfl rfl rfl<|sV (rI (rW (x20.1+x21)))<|sV (rI (rW (s3+(rW (x20.1+x21)))))<|sA rfl ?_
   refine sN<|sO<|WC.region rfl rfl<|sM rfl<|sM rfl<|sV (rI (if(rW (s3+(rW (x20.1+x21))))>s4 then(rW (s3+(rW (x20.1+x21))))else s4))<|sM rfl<|sV (.d (.lst ([0,0,5,30].map (PD.int .i64))))<|bE h fun x22 hx22 h=>cR (rI x22.1) [(0,.var (ac.rc x22.2))] (di hx22)<|sV (rI (rW ((if(rW (s3+(rW (x20.1+x21))))>s4 then(rW (s3+(rW (x20.1+x21))))else s4)+x22.1)))<|sA rfl<|sN<|WC.region rfl rfl<|sM rfl<|sV (rI (rW (s5+(1:Int)))) ?_
   refine sA rfl<|sN ?_
   cases oI h
   exact⟨rfl,rfl⟩
  refine sN<|sO<|cF<|qX ?_
  cases oI h
  exact⟨nofun,rfl,rfl⟩
 intro e R' B' he hq
 obtain⟨rfl,hI⟩:=hq
 refine qE<|gS rfl hI<|sV (.agg [rI x1.1,.ref 432 0,.ref 512 0])<|sS 32 (.var [rI x1.1,.ref 432 0,.ref 512 0])<|sN<|qR ?_
 exact oI h▸qD
theorem m9{a1:Int}{d0:ac}{r:aV×ac}(h:cV a1 d0=some r):EvP prog av ext 48 [.ptr 0 0,rI a1] [.var (ac.rc d0)] (.d (aV.pd r.1),[.var (ac.rc r.2)]):=by
 refine Ev.body rfl Tryz.func48 rfl (by kernel_rfl)<|gS rfl rfl<|sB (.ptr 64 0) 64 (.var [r0,r0,r0,r0,r0,r0,r0,.nR,.nR,r0,r0,r0,r0,r0])<|sN<|gS rfl rfl<|sM rfl<|sM rfl<|bE h fun x1 hx1 h=>cR (.d (ag.pd x1.1)) [(0,.var (ac.rc x1.2))] (Src_Box_ev hx1)<|sM rfl<|bE h fun x2 hx2 h=>cR (.agg [rI x2.1.aQ,.ref 144 0,.ref 145 0]) [(0,.var (ac.rc x2.2)),(144,.arr 0 3 (x2.1.aF.map (PD.int .i64))),(145,.arr 0 3 (x2.1.az.map (PD.int .i64)))] (ny hx2)<|sM rfl<|sV (.d (.lst ([10,50,200].map (PD.int .i64))))<|bE h fun x3 hx3 h=>?_
 refine cR (rI x3.1) [(0,.var (ac.rc x3.2))] (di hx3)<|sM rfl<|sV (.d (.lst ([0,0,10,40].map (PD.int .i64))))<|bE h fun x4 hx4 h=>cR (rI x4.1) [(0,.var (ac.rc x4.2))] (di hx4)<|sM rfl<|sV (.d (.lst ([0,50,200,400].map (PD.int .i64))))<|bE h fun x5 hx5 h=>cR (rI x5.1) [(0,.var (ac.rc x5.2))] (di hx5)<|sM rfl<|sV (.d (.lst ([0,5,20].map (PD.int .i64))))<|bE h fun x6 hx6 h=>cR (rI x6.1) [(0,.var (ac.rc x6.2))] (di hx6)<|sM rfl<|bE h fun x7 hx7 h=>?_
 refine cR (rI x7.1) [(0,.var (ac.rc x7.2))] (bv hx7)<|sV (rI (rW ((2:Int)+x7.1)))<|sG (.agg (ag.rc x1.1++[rI x2.1.aQ,.ref 144 0,.ref 145 0,rI x3.1,rI x4.1,rI x5.1,rI x6.1,rI (rW ((2:Int)+x7.1))]))<|sH 64 (.var (ag.rc x1.1++[rI x2.1.aQ,.ref 144 0,.ref 145 0,rI x3.1,rI x4.1,rI x5.1,rI x6.1,rI (rW ((2:Int)+x7.1))]))<|sN<|qR ?_
 cases oI h
 exact qG
theorem Src_Scale_ev{d0:ac}{r:ba×ac}(h:hJ d0=some r):EvP prog av ext 49 [.ptr 0 0] [.var (ac.rc d0)] (.d (ba.pd r.1),[.var (ac.rc r.2)]):=by
 refine Ev.body rfl Tryz.func49 rfl (by kernel_rfl)<|gS rfl rfl<|sB (.ptr 32 0) 32 (.var [r0,.nR,.nR,r0,r0])<|sN<|gS rfl rfl<|sM rfl<|bE h fun x1 hx1 h=>cR (.agg [rI x1.1.aQ,.ref 96 0,.ref 97 0]) [(0,.var (ac.rc x1.2)),(96,.arr 0 3 (x1.1.aF.map (PD.int .i64))),(97,.arr 0 3 (x1.1.az.map (PD.int .i64)))] (ny hx1)<|sM rfl<|bE h fun x2 hx2 h=>cR (rI x2.1) [(0,.var (ac.rc x2.2))] (bv hx2)<|sM rfl<|bE h fun x3 hx3 h=>cR (rI x3.1) [(0,.var (ac.rc x3.2))] (bv hx3)<|sV (rI (rW ((1:Int)+x3.1))) ?_
 refine sV (.agg [rI x1.1.aQ,.ref 96 0,.ref 97 0,rI x2.1,rI (rW ((1:Int)+x3.1))])<|sB (.ptr 48 0) 48 (.var [r0,.nR,.nR,r0,r0])<|sS 48 (.var [rI x1.1.aQ,.ref 96 0,.ref 97 0,rI x2.1,rI (rW ((1:Int)+x3.1))])<|sN<|qS<|gS rfl rfl<|sV (.ptr 48 0)<|sV (.ptr 48 1)<|sL rfl<|WO.u9 rfl rfl rfl rfl rfl rfl rfl rfl rfl<|sV (r0)<|sN<|bE h fun o26 ho26 h=>WC.block (WC.loop (WL.n4 ho26 (fun s R' B'=>hY prog 1 (A R' B') (av.at_ 49 1 3)=some (A [(2,.ptr 32 0),(3,.ptr 48 0),(16,rI (x1.1.aF.length:Int)),(17,rI s.1)] [(0,.var (ac.rc x3.2)),(32,.var [r0,.nR,.nR,r0,r0]),(48,.var [rI x1.1.aQ,.ref 96 0,.ref 97 0,rI x2.1,rI (rW ((1:Int)+x3.1))]),(96,.arr 0 3 (s.2.1.map (PD.int .i64))),(97,.arr 0 3 (s.2.2.map (PD.int .i64)))])) (fun o e R' B'=>e= .exit 0∧hY prog 1 (A R' B') (av.at_ 49 1 7)=some (A [(2,.ptr 32 0),(3,.ptr 48 0)] [(0,.var (ac.rc x3.2)),(32,.var [r0,.nR,.nR,r0,r0]),(48,.var [rI x1.1.aQ,.ref 96 0,.ref 97 0,rI x2.1,rI (rW ((1:Int)+x3.1))]),(96,.arr 0 3 (o.1.map (PD.int .i64))),(97,.arr 0 3 (o.2.map (PD.int .i64)))])) rfl ?_ ?_))
 ·rintro⟨s4,s5,s6⟩ R' B' q9 hI h
  refine gS rfl hI<|sF h (fun h=>?_) fun h=>?_
  ·refine sN<|qS<|cT<|qK<|qS<|qB<|gS rfl rfl<|sM rfl<|sA rfl<|sN<|WC.oW rfl rfl<|sV (.ptr 48 0)<|sV (.ptr 48 1)<|sL rfl<|sM rfl ?_
   refine sV (.ptr 48 0)<|sV (.ptr 48 2)<|sL rfl<|sM rfl<|sV (.ptr 48 0)<|sV (.ptr 48 1)<|sL rfl<|sM rfl<|bE h fun x12 hx12 h=>WO.pL hx12 rfl rfl rfl rfl rfl rfl rfl rfl<|bE h fun x13 hx13 h=>WO.pn hx13 rfl rfl rfl rfl rfl rfl<|bE h fun x14 hx14 h=>WO.ru hx14 rfl rfl rfl rfl rfl rfl<|sV (.ptr 48 0) ?_
   refine sV (.ptr 48 2)<|sL rfl<|sM rfl<|bE h fun x16 hx16 h=>WO.pL hx16 rfl rfl rfl rfl rfl rfl rfl rfl<|bE h fun x17 hx17 h=>WO.pn hx17 rfl rfl rfl rfl rfl rfl<|bE h fun x18 hx18 h=>WO.ru hx18 rfl rfl rfl rfl rfl rfl<|bE h fun x20 hx20 h=>WO.pL hx20 rfl rfl rfl rfl rfl rfl rfl rfl<|bE h fun x21 hx21 h=>WO.tg (g:=(PD.int .i64)) (sz:=1) (p:= .int .i64 x14) hx21 (fun _=>rfl) (fun _=>rfl) rfl rfl rfl rfl rfl rfl rfl rfl rfl<|bE h fun x23 hx23 h=>WO.pL hx23 rfl rfl rfl rfl rfl rfl rfl rfl ?_
   refine bE h fun x24 hx24 h=>WO.tg (g:=(PD.int .i64)) (sz:=1) (p:= .int .i64 x18) hx24 (fun _=>rfl) (fun _=>rfl) rfl rfl rfl rfl rfl rfl rfl rfl rfl ?_
   refine sN<|sO<|WC.region rfl rfl<|sV (rI (rW (s4+(1:Int))))<|sM rfl<|sN ?_
   cases oI h
   exact⟨rfl,rfl⟩
  refine sN<|qS<|cF<|qX ?_
  cases oI h
  exact⟨nofun,rfl,rfl⟩
 intro e R' B' he hq
 obtain⟨rfl,hI⟩:=hq
 refine qE<|gS rfl hI<|sV (.agg [rI x1.1.aQ,.ref 96 0,.ref 97 0,rI x2.1,rI (rW ((1:Int)+x3.1))])<|sS 32 (.var [rI x1.1.aQ,.ref 96 0,.ref 97 0,rI x2.1,rI (rW ((1:Int)+x3.1))])<|sN<|qR ?_
 exact oI h▸qD
theorem lS{a1:Int}{d0:ac}{r:aw×ac}(h:cK a1 d0=some r):EvP prog av ext 12 [.ptr 0 0,rI a1] [.var (ac.rc d0)] (.d (aw.pd r.1),[.var (ac.rc r.2)]):=by
 refine Ev.body rfl Tryz.func12 rfl (by kernel_rfl)<|gS rfl rfl<|sB (.ptr 64 0) 64 (.var [r0,r0,r0,r0,r0,r0,r0,.nR,.nR,r0,r0,r0,r0,r0,r0,.nR,.nR,r0,r0,r0])<|sN<|gS rfl rfl<|sM rfl<|sM rfl<|bE h fun x1 hx1 h=>cR (.d (aV.pd x1.1)) [(0,.var (ac.rc x1.2))] (m9 hx1)<|sM rfl<|bE h fun x2 hx2 h=>cR (.d (ba.pd x2.1)) [(0,.var (ac.rc x2.2))] (Src_Scale_ev hx2)<|sM rfl<|sV (.d (.lst ([0,0,10,40].map (PD.int .i64))))<|bE h fun x3 hx3 h=>?_
 refine cR (rI x3.1) [(0,.var (ac.rc x3.2))] (di hx3)<|sG (.d (.agg [.int .i64 x1.1.aG.aF.fX,.int .i64 x1.1.aG.aF.fY,.int .i64 x1.1.aG.aF.fZ,.int .i64 x1.1.aG.az.fX,.int .i64 x1.1.aG.az.fY,.int .i64 x1.1.aG.az.fZ,.int .i64 x1.1.aS.aQ,.lst (x1.1.aS.aF.map (PD.int .i64)),.lst (x1.1.aS.az.map (PD.int .i64)),.int .i64 x1.1.bN,.int .i64 x1.1.bJ,.int .i64 x1.1.mW,.int .i64 x1.1.kW,.int .i64 x1.1.kV,.int .i64 x2.1.bL.aQ,.lst (x2.1.bL.aF.map (PD.int .i64)),.lst (x2.1.bL.az.map (PD.int .i64)),.int .i64 x2.1.bo,.int .i64 x2.1.bf,.int .i64 x3.1]))<|sH 64 (.var (aV.rc x1.1++ba.rc x2.1++[rI x3.1]))<|sN<|qR ?_
 cases oI h
 exact qG
theorem lR{d0:ac}{r:aL×ac}(h:dJ d0=some r):EvP prog av ext 52 [.ptr 0 0] [.var (ac.rc d0)] (.d (aL.pd r.1),[.var (ac.rc r.2)]):=by
 refine Ev.body rfl Tryz.func52 rfl (by kernel_rfl)<|gS rfl rfl<|sB (.ptr 32 0) 32 (.var [.nR])<|sN<|gS rfl rfl<|sB (.ptr 48 0) 48 (.var [.nR])<|sN<|qS<|gS rfl rfl<|sM rfl<|bE h fun x1 hx1 h=>cR (rI x1.1) [(0,.var (ac.rc x1.2))] (bv hx1)<|sA rfl<|sN<|bE h fun o28 ho28 h=>?_
 refine WC.block (WC.loop (WL.n4 ho28 (fun s R' B'=>hY prog 1 (A R' B') (av.at_ 52 1 3)=some (A [(0,.ptr 0 0),(2,.ptr 32 0),(3,.ptr 48 0),(4,rI s.1)] [(0,.var [rL s.2.1,rI s.2.2.1]),(32,.var [.nR]),(48,.var [.ref 1040 0]),(1040,.arr 0 184 (s.2.2.2.map aD.pd))])) (fun o e R' B'=>e= .exit 0∧hY prog 1 (A R' B') (av.at_ 52 1 13)=some (A [(2,.ptr 32 0),(3,.ptr 48 0)] [(0,.var [rL o.1,rI o.2.1]),(32,.var [.nR]),(48,.var [.ref 1040 0]),(1040,.arr 0 184 (o.2.2.map aD.pd))])) rfl ?_ ?_))
 ·rintro⟨s2,s3,s4,s5⟩ R' B' q9 hI h
  refine qS<|gS rfl hI<|sM rfl<|sF h (fun h=>?_) fun h=>?_
  ·refine sN<|cT<|qK<|qS<|qB<|gS rfl rfl<|sM rfl<|bE h fun x11 hx11 h=>cR (rI x11.1) [(0,.var (ac.rc x11.2))] (bv hx11)<|sG (.agg [rI x11.1,r0,r0,r0,r0,r0,r0,.nR,r0,r0])<|sB (.ptr 80 0) 80 (.var [r0,r0,r0,r0,r0,r0,r0,.nR,r0,r0])<|sH 80 (.var [rI x11.1,r0,r0,r0,r0,r0,r0,.nR,r0,r0])<|sN<|qS<|gS rfl rfl ?_
   refine sV (.ptr 80 0)<|sL rfl<|sN<|qB<|gS rfl rfl<|sF h (fun h=>?_) fun h=>?_
   ·refine sA rfl<|sN<|cT<|WC.region rfl rfl<|sM rfl<|sV (.d (.lst ([0,1,9,99,1048575].map (PD.int .i64))))<|bE h fun x13 hx13 h=>cR (rI x13.1) [(0,.var (ac.rc x13.2))] (di hx13)<|sV (rI (rW ((1:Int)+x13.1)))<|sM rfl<|sV (.d (.lst ([0,0,2,9,999].map (PD.int .i64))))<|bE h fun x14 hx14 h=>cR (rI x14.1) [(0,.var (ac.rc x14.2))] (di hx14)<|sV (rI (rW ((1:Int)+x14.1)))<|sV (.ptr 80 1) ?_
    refine sV (.ptr 80 1)<|sS 80 (.var [rI x11.1,rI (rW ((1:Int)+x13.1)),r0,r0,r0,r0,r0,.nR,r0,r0])<|sV (.ptr 80 4)<|sV (.ptr 80 4)<|sS 80 (.var [rI x11.1,rI (rW ((1:Int)+x13.1)),r0,r0,rI (rW ((1:Int)+x14.1)),r0,r0,.nR,r0,r0])<|sN<|WC.region rfl rfl<|sV (.ptr 48 0)<|sL rfl<|sV (.agg [rI x11.1,rI (rW ((1:Int)+x13.1)),r0,r0,rI (rW ((1:Int)+x14.1)),r0,r0,.nR,r0,r0])<|sG (.d (.lst ([(aD.mk x11.1 (aO.mk (rW ((1:Int)+x13.1)) 0 0) (aO.mk (rW ((1:Int)+x14.1)) 0 0) [] 0 0)].map aD.pd)))<|bE h fun x15 hx15 h=>aR hx15 (fun _=>rfl) rfl<|sV (.ptr 48 0)<|sS 48 (.var [.ref 1040 1]) ?_
    refine sN<|WC.region rfl rfl<|sM rfl<|sV (rI (rW (s2-(1:Int))))<|sA rfl<|sN ?_
    cases oI h
    exact⟨rfl,rfl⟩
   refine sA rfl<|sN<|cF<|gS rfl rfl<|sF h (fun h=>?_) fun h=>?_
   ·refine sA rfl<|sN<|cT<|WC.region rfl rfl<|sM rfl<|bE h fun x17 hx17 h=>cR (rI x17.1) [(0,.var (ac.rc x17.2))] (bv hx17)<|sM rfl<|bE h fun x18 hx18 h=>cR (rI x18.1) [(0,.var (ac.rc x18.2))] (bv hx18)<|sV (rI (rW (x18.1-(3:Int))))<|sM rfl<|bE h fun x19 hx19 h=>cR (rI x19.1) [(0,.var (ac.rc x19.2))] (bv hx19)<|sV (rI (rW (x19.1-(1:Int)))) ?_
    refine sV (.d (aO.pd (aO.mk x17.1 (rW (x18.1-(3:Int))) (rW (x19.1-(1:Int))))))<|sM rfl<|bE h fun x20 hx20 h=>cR (rI x20.1) [(0,.var (ac.rc x20.2))] (bv hx20)<|sV (rI (rW ((1:Int)+x20.1)))<|sM rfl<|bE h fun x21 hx21 h=>cR (rI x21.1) [(0,.var (ac.rc x21.2))] (bv hx21)<|sM rfl<|bE h fun x22 hx22 h=>cR (rI x22.1) [(0,.var (ac.rc x22.2))] (bv hx22)<|sV (.d (aO.pd (aO.mk (rW ((1:Int)+x20.1)) x21.1 x22.1)))<|sV (.ptr 80 1)<|sS 80 (.var [rI x11.1,rI x17.1,rI (rW (x18.1-(3:Int))),rI (rW (x19.1-(1:Int))),r0,r0,r0,.nR,r0,r0])<|sV (.ptr 80 4) ?_
    refine sS 80 (.var [rI x11.1,rI x17.1,rI (rW (x18.1-(3:Int))),rI (rW (x19.1-(1:Int))),rI (rW ((1:Int)+x20.1)),rI x21.1,rI x22.1,.nR,r0,r0])<|sN<|WC.region rfl rfl<|sV (.ptr 48 0)<|sL rfl<|sV (.agg [rI x11.1,rI x17.1,rI (rW (x18.1-(3:Int))),rI (rW (x19.1-(1:Int))),rI (rW ((1:Int)+x20.1)),rI x21.1,rI x22.1,.nR,r0,r0])<|sG (.d (.lst ([(aD.mk x11.1 (aO.mk x17.1 (rW (x18.1-(3:Int))) (rW (x19.1-(1:Int)))) (aO.mk (rW ((1:Int)+x20.1)) x21.1 x22.1) [] 0 0)].map aD.pd)))<|bE h fun x23 hx23 h=>aR hx23 (fun _=>rfl) rfl<|sV (.ptr 48 0)<|sS 48 (.var [.ref 1040 1])<|sN<|WC.region rfl rfl<|sM rfl<|sV (rI (rW (s2-(1:Int)))) ?_
    refine sA rfl<|sN ?_
    cases oI h
    exact⟨rfl,rfl⟩
   refine sA rfl<|sN<|cF<|WC.region rfl rfl<|sM rfl<|bE h fun x24 hx24 h=>cR (rI x24.1) [(0,.var (ac.rc x24.2))] (bv hx24)<|sV (rI (rW ((1:Int)+x24.1)))<|sV (.d (.lst ([(rW ((1:Int)+x24.1)),2,1].map (PD.int .i64))))<|sM rfl<|bE h fun x25 hx25 h=>cR (rI x25.1) [(0,.var (ac.rc x25.2))] (bv hx25)<|sV (.ptr 80 7)<|sS 80 (.var [rI x11.1,r0,r0,r0,r0,r0,r0,.d (.lst ([(rW ((1:Int)+x24.1)),2,1].map (PD.int .i64))),r0,r0])<|sV (.ptr 80 8) ?_
   refine sS 80 (.var [rI x11.1,r0,r0,r0,r0,r0,r0,.d (.lst ([(rW ((1:Int)+x24.1)),2,1].map (PD.int .i64))),rI 1,r0])<|sV (.ptr 80 9)<|sS 80 (.var [rI x11.1,r0,r0,r0,r0,r0,r0,.d (.lst ([(rW ((1:Int)+x24.1)),2,1].map (PD.int .i64))),rI 1,rI x25.1])<|sN<|WC.region rfl rfl<|sV (.ptr 48 0)<|sL rfl<|sV (.d (.agg [.int .i64 x11.1,.int .i64 0,.int .i64 0,.int .i64 0,.int .i64 0,.int .i64 0,.int .i64 0,.lst ([(rW ((1:Int)+x24.1)),2,1].map (PD.int .i64)),.int .i64 1,.int .i64 x25.1]))<|sG (.d (.lst ([(aD.mk x11.1 (aO.mk 0 0 0) (aO.mk 0 0 0) [(rW ((1:Int)+x24.1)),2,1] 1 x25.1)].map aD.pd)))<|bE h fun x26 hx26 h=>aR hx26 (fun _=>rfl) rfl<|sV (.ptr 48 0)<|sS 48 (.var [.ref 1040 1])<|sN<|WC.region rfl rfl ?_
   refine sM rfl<|sV (rI (rW (s2-(1:Int))))<|sA rfl<|sN ?_
   cases oI h
   exact⟨rfl,rfl⟩
  refine sN<|cF<|qX ?_
  cases oI h
  exact⟨nofun,rfl,rfl⟩
 intro e R' B' he hq
 obtain⟨rfl,hI⟩:=hq
 refine qE<|gS rfl hI<|sV (.agg [.ref 1040 0])<|sS 32 (.var [.ref 1040 0])<|sN<|qR ?_
 exact oI h▸qD
theorem jY{a0:Int}{r:ap}(h:c7 a0=some r):EvP prog av ext 29 [rI a0] [] (.d (ap.pd r),[]):=by
 refine Ev.body rfl Tryz.func29 rfl (by kernel_rfl)<|gS rfl rfl<|sB (.ptr 32 0) 32 (.var [rS [],rS [],rS [],rS []])<|sN<|gS rfl rfl<|sV (.d (.lst ([[83,49],[83,50],[83,51],[83,52],[83,53],[83,54]].map PD.str)))<|sM rfl<|bE h fun x1 hx1 h=>cD (keep_Mod_ev hx1)<|bE h fun x2 hx2 h=>eG hx2 rfl<|sC rfl<|sV (.d (ap.pd (ap.mk [65,66] x2 [48,48] [66,72,90])))<|sS 32 (.var [rS [65,66],rS x2,rS [48,48],rS [66,72,90]])<|sN ?_
 refine qR ?_
 exact oI h▸qD
theorem nw{a1:Int}{d0:ac}{r:aB×ac}(h:eP a1 d0=some r):EvP prog av ext 13 [.ptr 0 0,rI a1] [.var (ac.rc d0)] (.d (aB.pd r.1),[.var (ac.rc r.2)]):=by
 refine Ev.body rfl Tryz.func13 rfl (by kernel_rfl)<|gS rfl rfl<|sB (.ptr 64 0) 64 (.var [.nR])<|sN<|gS rfl rfl<|sB (.ptr 80 0) 80 (.var [.nR])<|sN<|qS<|gS rfl rfl<|sV (r0)<|sN<|bE h fun o34 ho34 h=>WC.block (WC.loop (WL.n4 ho34 (fun s R' B'=>hY prog 1 (A R' B') (av.at_ 13 1 3)=some (A [(0,.ptr 0 0),(1,rI a1),(4,.ptr 64 0),(5,.ptr 80 0),(6,rI s.1)] [(0,.var [rL s.2.1,rI s.2.2.1]),(64,.var [.nR]),(80,.var [.ref 1104 0]),(1104,.arr 0 116 (s.2.2.2.map au.pd))])) (fun o e R' B'=>e= .exit 0∧hY prog 1 (A R' B') (av.at_ 13 1 16)=some (A [(4,.ptr 64 0),(5,.ptr 80 0)] [(0,.var [rL o.1,rI o.2.1]),(64,.var [.nR]),(80,.var [.ref 1104 0]),(1104,.arr 0 116 (o.2.2.map au.pd))])) rfl ?_ ?_))
 ·rintro⟨s1,s2,s3,s4⟩ R' B' q8 hI h
  refine qS<|gS rfl hI<|sM rfl<|sM rfl<|sF h (fun h=>?_) fun h=>?_
  ·refine sM rfl<|sM rfl<|sV (rB (decide (s1<(6:Int))))<|sF h (fun h=>?_) fun h=>?_
   ·refine sN<|cT<|qK<|qS<|qB<|gS rfl rfl<|sV (.d (aX.pd (aX.mk 100 1)))<|sM rfl<|bE h fun x11 hx11 h=>cR (.d (aa.pd x11.1)) [(0,.var (ac.rc x11.2))] (lw hx11)<|sM rfl<|bE h fun x12 hx12 h=>cR (.d (aL.pd x12.1)) [(0,.var (ac.rc x12.2))] (lR hx12)<|sG (.d (.agg [.int .i64 0,.int .i64 100000,.int .i64 100,.int .i64 1,.int .i64 x11.1.fX,.int .i64 x11.1.fY,.int .i64 x11.1.fZ,.lst (x12.1.bn.map aD.pd)]))<|sB (.ptr 112 0) 112 (.var zZ3) ?_
    refine sH 112 (.var (r0::rI 100000::rI 100::rI 1::aa.rc x11.1++[rM aD.pd x12.1.bn]))<|sN<|WC.cI rfl rfl<|sM rfl<|bE h fun x13 hx13 h=>cD (jY hx13)<|sV (.d (.agg [.int .i64 0,.int .i64 100000,.int .i64 100,.int .i64 1,.int .i64 x11.1.fX,.int .i64 x11.1.fY,.int .i64 x11.1.fZ,.lst (x12.1.bn.map aD.pd)]))<|sB (.ref 448 0) 448 (.arr 0 113 ([(aj.mk 0 100000 (aX.mk 100 1) x11.1 x12.1)].map aj.pd))<|sV (.agg (ap.rc x13++[.ref 448 0]))<|sB (.ptr 128 0) 128 (.var [rS [],rS [],rS [],rS [],.nR])<|sS 128 (.var (ap.rc x13++[.ref 448 0])) ?_
    refine sN<|sO<|qS<|gS rfl rfl<|sM rfl<|bE h fun x14 hx14 h=>cR (rI x14.1) [(0,.var (ac.rc x14.2))] (bv hx14)<|sN<|qB<|gS rfl rfl<|sF h (fun h=>?_) fun h=>?_
    ·refine sA rfl<|sN<|cT<|gS rfl rfl<|sV (.d (.agg [.int .i64 0,.int .i64 100000,.int .i64 100,.int .i64 1,.int .i64 x11.1.fX,.int .i64 x11.1.fY,.int .i64 x11.1.fZ,.lst (x12.1.bn.map aD.pd)]))<|sB (.ptr 144 0) 144 (.var zZ3)<|sH 144 (.var (r0::rI 100000::rI 100::rI 1::aa.rc x11.1++[rM aD.pd x12.1.bn]))<|sN<|gS rfl rfl<|sM rfl<|bE h fun x16 hx16 h=>cR (rI x16.1) [(0,.var (ac.rc x16.2))] (bv hx16)<|sV (rI (rW ((1500:Int)+x16.1)))<|sM rfl<|bE h fun x17 hx17 h=>?_
     refine cR (.d (aa.pd x17.1)) [(0,.var (ac.rc x17.2))] (lw hx17)<|sM rfl<|bE h fun x18 hx18 h=>cR (.d (aL.pd x18.1)) [(0,.var (ac.rc x18.2))] (lR hx18)<|sV (.ptr 144 0)<|sS 144 (.var (rI (rW ((1500:Int)+x16.1))::rI 100000::rI 100::rI 1::aa.rc x11.1++[rM aD.pd x12.1.bn]))<|sV (.ptr 144 4)<|sS 144 (.var (rI (rW ((1500:Int)+x16.1))::rI 100000::rI 100::rI 1::aa.rc x17.1++[rM aD.pd x12.1.bn]))<|sV (.ptr 144 7)<|sS 144 (.var (rI (rW ((1500:Int)+x16.1))::rI 100000::rI 100::rI 1::aa.rc x17.1++[rM aD.pd x18.1.bn]))<|sN<|gS rfl rfl<|sV (.ptr 128 4)<|sL rfl<|sV (.ptr 144 0) ?_
     refine sL rfl<|bE h fun x20 hx20 h=>WO.pL hx20 rfl rfl rfl rfl rfl rfl rfl rfl<|sV (.elt 448 0 ((0:Int)).toNat 1)<|bE h fun x21 hx21 h=>WO.zY (g:=aj.pd) (u:=[]) (sz:=1) hx21 (fun _=>rfl) (fun _=>Nat.le_of_ble_eq_true rfl) rfl rfl rfl rfl rfl rfl rfl rfl rfl rfl rfl<|sN<|WC.region rfl rfl<|sV (.ptr 128 4)<|sL rfl<|sV (.d (.agg [.int .i64 (rW ((1500:Int)+x16.1)),.int .i64 100000,.int .i64 100,.int .i64 1,.int .i64 x17.1.fX,.int .i64 x17.1.fY,.int .i64 x17.1.fZ,.lst (x18.1.bn.map aD.pd)]))<|sG (.d (.lst ([(aj.mk (rW ((1500:Int)+x16.1)) 100000 (aX.mk 100 1) x17.1 x18.1)].map aj.pd)))<|bE h fun x23 hx23 h=>aR hx23 (fun _=>rfl) rfl<|sV (.ptr 128 4) ?_
     refine sS 128 (.var (ap.rc x13++[.ref 448 1]))<|sN<|WC.region rfl rfl<|sV (.ptr 80 0)<|sL rfl<|sV (.agg (ap.rc x13++[.ref 448 1]))<|sB (.d (.lst [au.pd (au.mk x13 x23)])) 448 .dead<|bE h fun x24 hx24 h=>aR hx24 (fun _=>rfl) rfl<|sV (.ptr 80 0)<|sS 80 (.var [.ref 1104 1])<|sN<|WC.region rfl rfl<|sM rfl<|sV (rI (rW (s1+(1:Int)))) ?_
     refine sA rfl<|sN ?_
     cases oI h
     exact⟨rfl,rfl⟩
    refine sA rfl<|sN<|cF<|gS rfl rfl<|sF h (fun h=>?_) fun h=>?_
    ·refine sA rfl<|sN<|cT<|WC.oW rfl rfl<|sV (.ptr 128 4)<|sL rfl<|sM rfl<|bE h fun x26 hx26 h=>cR (rI x26.1) [(0,.var (ac.rc x26.2))] (bv hx26)<|bE h fun x28 hx28 h=>WO.pL hx28 rfl rfl rfl rfl rfl rfl rfl rfl<|sV (.elt 448 0 ((0:Int)).toNat 0)<|bE h fun x29 hx29 h=>WO.zY (g:=aj.pd) (u:=[]) (sz:=1) hx29 (fun _=>rfl) (fun _=>Nat.le_of_ble_eq_true rfl) rfl rfl rfl rfl rfl rfl rfl rfl rfl rfl rfl ?_
     refine sN<|sO<|WC.region rfl rfl<|sV (.ptr 80 0)<|sL rfl<|sV (.agg (ap.rc x13++[.ref 448 0]))<|sB (.d (.lst [au.pd (au.mk x13 x29)])) 448 .dead<|bE h fun x31 hx31 h=>aR hx31 (fun _=>rfl) rfl<|sV (.ptr 80 0)<|sS 80 (.var [.ref 1104 1])<|sN<|WC.region rfl rfl<|sM rfl<|sV (rI (rW (s1+(1:Int))))<|sA rfl ?_
     refine sN ?_
     cases oI h
     exact⟨rfl,rfl⟩
    refine sA rfl<|sN<|cF<|qK<|WC.region rfl rfl<|sV (.ptr 80 0)<|sL rfl<|sV (.agg (ap.rc x13++[.ref 448 0]))<|sB (.d (.lst [au.pd (au.mk x13 [(aj.mk 0 100000 (aX.mk 100 1) x11.1 x12.1)])])) 448 .dead<|bE h fun x32 hx32 h=>aR hx32 (fun _=>rfl) rfl<|sV (.ptr 80 0)<|sS 80 (.var [.ref 1104 1])<|sN<|WC.region rfl rfl ?_
    refine sM rfl<|sV (rI (rW (s1+(1:Int))))<|sA rfl<|sN ?_
    cases oI h
    exact⟨rfl,rfl⟩
   refine sN<|cF<|qX ?_
   cases oI h
   exact⟨nofun,rfl,rfl⟩
  refine sM rfl<|sK<|sK<|sU<|sN<|cF<|qX ?_
  cases oI h
  exact⟨nofun,rfl,rfl⟩
 intro e R' B' he hq
 obtain⟨rfl,hI⟩:=hq
 refine qE<|gS rfl hI<|sV (.agg [.ref 1104 0])<|sS 64 (.var [.ref 1104 0])<|sN<|qR ?_
 exact oI h▸qD
theorem lx{a1:Int}{a2:Int}{d0:ac}{r:Int×ac}(h:jL a1 a2 d0=some r):EvP prog av ext 73 [.ptr 0 0,rI a1,rI a2] [.var (ac.rc d0)] (rI r.1,[.var (ac.rc r.2)]):=by
 refine Ev.body rfl Tryz.func73 rfl (by kernel_rfl)<|gS rfl rfl<|sV (r0)<|sN<|gS rfl rfl<|sM rfl<|sM rfl<|sM rfl<|sM rfl<|sV (rI (rW (a2-a1)))<|sV (rI (rW ((rW (a2-a1))+(1:Int))))<|bE h fun x1 hx1 h=>cR (rI x1.1) [(0,.var (ac.rc x1.2))] (bv hx1)<|sV (rI (rW (a1+x1.1)))<|sA rfl ?_
 refine sN<|qR ?_
 exact oI h▸qD
theorem nv{a1:ag}{d0:ac}{r:aa×ac}(h:lc a1 d0=some r):EvP prog av ext 27 [.ptr 0 0,.d (ag.pd a1)] [.var (ac.rc d0)] (.d (aa.pd r.1),[.var (ac.rc r.2)]):=by
 refine Ev.body rfl Tryz.func27 rfl (by kernel_rfl)<|gS rfl rfl<|sB (.ptr 48 0) 48 (.var (ag.rc a1))<|sB (.ptr 64 0) 64 (.var [r0,r0,r0])<|sN<|WC.cI rfl rfl<|sM rfl<|sV (.ptr 48 0)<|sV (.ptr 48 0)<|sL rfl<|sV (.ptr 48 3)<|sV (.ptr 48 3)<|sL rfl<|bE h fun x1 hx1 h=>cR (rI x1.1) [(0,.var (ac.rc x1.2))] (lx hx1) ?_
 refine sM rfl<|sV (.ptr 48 0)<|sV (.ptr 48 1)<|sL rfl<|sV (.ptr 48 3)<|sV (.ptr 48 4)<|sL rfl<|bE h fun x2 hx2 h=>cR (rI x2.1) [(0,.var (ac.rc x2.2))] (lx hx2)<|sM rfl<|sV (.ptr 48 0)<|sV (.ptr 48 2)<|sL rfl<|sV (.ptr 48 3)<|sV (.ptr 48 5) ?_
 refine sL rfl<|bE h fun x3 hx3 h=>cR (rI x3.1) [(0,.var (ac.rc x3.2))] (lx hx3)<|sV (.d (aa.pd (aa.mk x1.1 x2.1 x3.1)))<|sS 64 (.var [rI x1.1,rI x2.1,rI x3.1]) ?_
 refine sN<|sO<|qR ?_
 exact oI h▸qD
theorem keep_place_ev{a0:aB}{a1:ap}{a2:Int}{r:aa×Bool}(h:lF a0 a1 a2=some r):EvP prog av ext 53 [.d (aB.pd a0),.d (ap.pd a1),rI a2] [] (.tup [.d (aa.pd r.1),rB r.2],[]):=by
 refine Ev.body rfl Tryz.func53 rfl (by kernel_rfl)<|gS rfl rfl<|sB (.ptr 48 0) 48 (.var [rM au.pd a0.aP])<|sB (.ptr 64 0) 64 (.var (ap.rc a1))<|sB (.ptr 96 0) 96 (.var [r0,r0,r0])<|sU<|sN<|qS<|gS rfl rfl<|sV (.ptr 48 0)<|sL rfl<|sE (rI (a0.aP.length:Int)) (nT _ _)<|sV (r0)<|sN<|bE h fun o18 ho18 h=>?_
 refine WC.block (WC.loop (WL.n4 ho18 (fun s R' B'=>hY prog 0 (A R' B') (av.at_ 53 0 2)=some (A [(2,rI a2),(4,.ptr 64 0),(6,.ptr 96 0),(13,rM au.pd a0.aP),(14,rI (a0.aP.length:Int)),(15,rI s)] [(64,.var (ap.rc a1)),(96,.var [r0,r0,r0])])) (fun o e R' B'=>match o with| .inl y=>e= .exit 0∧hY prog 0 (A R' B') (av.at_ 53 0 11)=some (A [(6,.ptr 96 0)] [(96,.var [r0,r0,r0])])| .inr r=>e= .ret∧finish prog (av.own 53) Tryz.f53 0 (A R' B')=some (.tup [.d (aa.pd r.1),rB r.2],[])) rfl ?_ ?_))
 ·rintro s1 R' B' q2 hI h
  refine gS rfl hI<|sF h (fun h=>?_) fun h=>?_
  ·refine sN<|qS<|cT<|qK<|qS<|qB<|gS rfl rfl<|bE h fun x4 hx4 h=>eG hx4 rfl<|sV (.d (au.pd x4))<|sB (.ptr 144 0) 144 (.var [rS [],rS [],rS [],rS [],.nR])<|sS 144 (.var (au.rc x4))<|sN<|gS rfl rfl<|sV (.ptr 144 4) ?_
   refine sL rfl<|sE (rI (x4.bu.length:Int)) (nT _ _)<|sV (r0)<|sN<|bE h fun o14 ho14 h=>WC.block (WC.loop (WL.n4 ho14 (fun s R' B'=>hY prog 0 (A R' B') (av.at_ 53 0 5)=some (A [(2,rI a2),(4,.ptr 64 0),(6,.ptr 96 0),(9,.ptr 144 0),(13,rM au.pd a0.aP),(14,rI (a0.aP.length:Int)),(15,rI s1),(20,rM aj.pd x4.bu),(21,rI (x4.bu.length:Int)),(22,rI s)] [(64,.var (ap.rc a1)),(96,.var [r0,r0,r0]),(144,.var (au.rc x4))])) (fun o e R' B'=>match o with| .inl y=>e= .exit 2∧hY prog 0 (A R' B') (av.at_ 53 0 10)=some (A [(2,rI a2),(4,.ptr 64 0),(6,.ptr 96 0),(13,rM au.pd a0.aP),(14,rI (a0.aP.length:Int)),(15,rI y)] [(64,.var (ap.rc a1)),(96,.var [r0,r0,r0])])| .inr r=>e= .ret∧finish prog (av.own 53) Tryz.f53 0 (A R' B')=some (.tup [.d (aa.pd r.1),rB r.2],[])) rfl ?_ ?_))
   ·rintro s5 R' B' q7 hI h
    refine gS rfl hI<|sF h (fun h=>?_) fun h=>?_
    ·refine sN<|qS<|cT<|qK<|qS<|qB<|gS rfl rfl<|bE h fun x9 hx9 h=>eG hx9 rfl<|sV (.d (aj.pd x9))<|sB (.ptr 176 0) 176 (.var zZ3)<|sH 176 (.var (aj.rc x9))<|sN<|gS rfl rfl<|sV (.ptr 144 0) ?_
     refine sV (.d (ap.pd x4.aJ))<|sV (.d (ap.pd a1))<|oz h (fun hb10 h=>?_) (fun hb10 h=>?_)
     ·refine WO.uL (eqE_64 x4.aJ a1) hb10 rfl rfl rfl rfl rfl<|sM rfl<|sV (.ptr 176 0)<|sL rfl<|sM rfl<|sV (rB (decide (x9.aT<=a2)))<|sF h (fun h=>?_) fun h=>?_
      ·refine sM rfl<|sM rfl<|sV (.ptr 176 1)<|sL rfl<|sV (rB (decide (a2<x9.fTo)))<|sF h (fun h=>?_) fun h=>?_
       ·refine sN<|cT<|gS rfl rfl<|sV (.ptr 176 4)<|sV (.d (aa.pd x9.aW))<|sS 96 (.var (aa.rc x9.aW))<|sT<|sN<|qR ?_
        cases oI h
        exact⟨nofun,rfl,rfl⟩
       refine sN<|cF<|qK<|WC.region rfl rfl<|sV (rI (rW (s5+(1:Int))))<|sM rfl<|sN ?_
       cases oI h
       exact⟨rfl,rfl⟩
      refine sM rfl<|k3<|sK<|sU<|sN<|cF<|qK<|WC.region rfl rfl<|sV (rI (rW (s5+(1:Int))))<|sM rfl<|sN ?_
      cases oI h
      exact⟨rfl,rfl⟩
     refine WO.uL (eqE_64 x4.aJ a1) hb10 rfl rfl rfl rfl rfl<|sM rfl<|k3<|sK<|sU<|sM rfl<|k3<|sK<|sU<|sN<|cF ?_
     refine qK<|WC.region rfl rfl<|sV (rI (rW (s5+(1:Int))))<|sM rfl<|sN ?_
     cases oI h
     exact⟨rfl,rfl⟩
    refine sN<|qS<|cF<|qX ?_
    cases oI h
    exact⟨nofun,rfl,rfl⟩
   intro e R' B' he hq
   rcases o14 with y15|r16
   ·obtain⟨rfl,hI⟩:=hq
    refine qE<|WC.region hI rfl<|sV (rI (rW (y15+(1:Int))))<|sM rfl<|sN ?_
    cases oI h
    exact⟨rfl,rfl⟩
   obtain⟨rfl,hf⟩:=hq
   cases oI h
   exact⟨nofun,rfl,hf⟩
  refine sN<|qS<|cF<|qX ?_
  cases oI h
  exact⟨nofun,rfl,rfl⟩
 intro e R' B' he hq
 rcases o18 with y19|r20
 ·obtain⟨rfl,hI⟩:=hq
  refine qE<|gS rfl hI<|sV (.d (aa.pd (aa.mk 0 0 0)))<|sS 96 (.var [r0,r0,r0])<|sU<|sN<|qR ?_
  exact oI h▸qD
 obtain⟨rfl,hf⟩:=hq
 cases oI h
 exact hf
theorem nh{a0:Int}{r:Int}(h:mE a0=some r):EvP prog av ext 54 [rI a0] [] (rI r,[]):=by
 refine Ev.body rfl Tryz.func54 rfl (by kernel_rfl)<|gS rfl rfl<|sV (r0)<|sN<|gS rfl rfl<|sM rfl<|sM rfl<|sV (rI (rW (a0*a0)))<|sA rfl<|sN<|qR ?_
 exact oI h▸qD
theorem Src_Picks_ev{a1:aw}{a2:aB}{a3:Int}{d0:ac}{r:(List ar)×ac}(h:mB a1 a2 a3 d0=some r):EvP prog av ext 14 [.ptr 0 0,.d (aw.pd a1),.d (aB.pd a2),rI a3] [.var (ac.rc d0)] (rM ar.pd r.1,[.var (ac.rc r.2)]):=by
 refine Ev.body rfl Tryz.func14 rfl (by kernel_rfl)<|gS rfl rfl<|sB (.ptr 80 0) 80 (.var (aw.rc a1))<|sB (.ptr 96 0) 96 (.var [rM au.pd a2.aP])<|sV .nR<|sN<|gS rfl rfl<|sV .nR<|sN<|gS rfl rfl<|sM rfl<|sV (.ptr 80 0)<|sV (.ptr 80 0)<|sV (.d (ag.pd a1.aA.aG))<|bE h fun x1 hx1 h=>?_
 refine cR (.d (aa.pd x1.1)) [(0,.var (ac.rc x1.2))] (nv hx1)<|sM rfl<|bE h fun x2 hx2 h=>cR (rI x2.1) [(0,.var (ac.rc x2.2))] (bv hx2)<|sV (rI (rW ((1000:Int)+x2.1)))<|sB (.ptr 160 0) 160 (.var [r0,r0,r0])<|sS 160 (.var (aa.rc x1.1))<|sA rfl<|sN<|qS<|gS rfl rfl<|sM rfl<|sM rfl<|sV (rI (rW (a3+(1:Int))))<|bE h fun x3 hx3 h=>?_
 refine cR (rI x3.1) [(0,.var (ac.rc x3.2))] (bv hx3)<|sA rfl<|sN<|bE h fun o61 ho61 h=>WC.block (WC.loop (WL.n4 ho61 (fun s R' B'=>hY prog 1 (A R' B') (av.at_ 14 1 4)=some (A [(0,.ptr 0 0),(5,.ptr 80 0),(6,.ptr 96 0),(9,.ref 2192 0),(10,.ptr 160 0),(11,rI s.1),(12,rI s.2.1)] [(0,.var [rL s.2.2.1,rI s.2.2.2.1]),(80,.var (aw.rc a1)),(96,.var [rM au.pd a2.aP]),(160,.var [rI s.2.2.2.2.2.1,rI s.2.2.2.2.2.2.1,rI s.2.2.2.2.2.2.2]),(2192,.arr 0 66 (s.2.2.2.2.1.map ar.pd))])) (fun o e R' B'=>e= .exit 0∧hY prog 1 (A R' B') (av.at_ 14 1 21)=some (A [(9,.ref 2192 0)] [(0,.var [rL o.2.1,rI o.2.2]),(2192,.arr 0 66 (o.1.map ar.pd))])) rfl ?_ ?_))
 ·rintro⟨s4,s5,s6,s7,s8,s9,s10,s11⟩ R' B' q15 hI h
  refine qS<|gS rfl hI<|sM rfl<|sF h (fun h=>?_) fun h=>?_
  ·refine sN<|cT<|qK<|qS<|qB<|gS rfl rfl<|sM rfl<|bE h fun x17 hx17 h=>cR (rI x17.1) [(0,.var (ac.rc x17.2))] (bv hx17)<|bE h fun x18 hx18 h=>cD (jY hx18)<|sM rfl<|sV (.d (.lst ([0,1,50,1000,1048576].map (PD.int .i64))))<|bE h fun x19 hx19 h=>cR (rI x19.1) [(0,.var (ac.rc x19.2))] (di hx19) ?_
   refine sM rfl<|bE h fun x20 hx20 h=>cR (rI x20.1) [(0,.var (ac.rc x20.2))] (bv hx20)<|sV (rI (rW (x20.1-(1:Int))))<|sG (.d (ar.pd (ar.mk x18 0 0 0 x19.1 (rW (x20.1-(1:Int))))))<|sB (.ptr 208 0) 208 (.var [rS [],rS [],rS [],rS [],r0,r0,r0,r0,r0])<|sH 208 (.var (ap.rc x18++[r0,r0,r0,rI x19.1,rI (rW (x20.1-(1:Int)))]))<|sN<|gS rfl rfl<|sM rfl<|bE h fun x21 hx21 h=>cR (rI x21.1) [(0,.var (ac.rc x21.2))] (bv hx21)<|sV (rI (rW ((1000:Int)+x21.1)))<|sV (.ptr 208 5)<|sS 208 (.var (ap.rc x18++[r0,rI (rW ((1000:Int)+x21.1)),r0,rI x19.1,rI (rW (x20.1-(1:Int)))])) ?_
   refine sN<|WC.join (α:=Int×Int×(List Int)×Int×(List ar)×Int×Int×Int×Int) (fun x R' B'=>hY prog 1 (A R' B') (av.at_ 14 1 18)=some (A [(0,.ptr 0 0),(5,.ptr 80 0),(6,.ptr 96 0),(9,.ref 2192 0),(10,.ptr 160 0),(11,rI x.1),(12,rI x.2.1),(13,.ptr 208 0)] [(0,.var [rL x.2.2.1,rI x.2.2.2.1]),(80,.var (aw.rc a1)),(96,.var [rM au.pd a2.aP]),(160,.var [rI x.2.2.2.2.2.1,rI x.2.2.2.2.2.2.1,rI x.2.2.2.2.2.2.2.1]),(208,.var (ap.rc x18++[r0,rI x.2.2.2.2.2.2.2.2,r0,rI x19.1,rI (rW (x20.1-(1:Int)))])),(2192,.arr 0 66 (x.2.2.2.2.1.map ar.pd))])) (fun x=>eI x18 x19 x20 x.1 x.2.1 x.2.2.1 x.2.2.2.1 x.2.2.2.2.1 x.2.2.2.2.2.1 x.2.2.2.2.2.2.1 x.2.2.2.2.2.2.2.1 x.2.2.2.2.2.2.2.2=some q15) ?_ ?_
   ·refine gS rfl rfl<|sM rfl<|bE h fun x35 hx35 h=>cR (rI x35.1) [(0,.var (ac.rc x35.2))] (bv hx35)<|sN<|qB<|gS rfl rfl<|sF h (fun h=>?_) fun h=>?_
    ·refine sA rfl<|sN<|cT<|WC.region rfl rfl<|sM rfl<|sV (.ptr 80 0)<|sV (.ptr 80 0)<|sV (.d (ag.pd a1.aA.aG))<|bE h fun x37 hx37 h=>cR (.d (aa.pd x37.1)) [(0,.var (ac.rc x37.2))] (nv hx37)<|sM rfl<|sM rfl<|bE h fun x38 hx38 h=>cR (rI x38.1) [(0,.var (ac.rc x38.2))] (bv hx38)<|sV (rI (rW (s4+x38.1))) ?_
     exact sS 160 (.var (aa.rc x37.1))<|sA rfl<|sN<|⟨((rW (s4+x38.1)),s5,x38.2.fL,x38.2.fAt,s8,x37.1.fX,x37.1.fY,x37.1.fZ,(rW ((1000:Int)+x21.1))),rfl,h⟩
    refine sA rfl<|sN<|cF<|gS rfl rfl<|sF h (fun h=>?_) fun h=>?_
    ·exact sA rfl<|sN<|cT<|qK<|⟨(s4,s5,x35.2.fL,x35.2.fAt,s8,s9,s10,s11,(rW ((1000:Int)+x21.1))),rfl,h⟩
    refine sA rfl<|sN<|cF<|gS rfl rfl<|sV (.d (aB.pd a2))<|sV (.ptr 208 0)<|sV (.d (ap.pd x18))<|sM rfl<|bE h fun x40 hx40 h=>cR (.tup [.d (aa.pd x40.1),rB x40.2]) [] (keep_place_ev hx40)<|sM rfl<|sV (.d (aa.pd x40.1))<|sV (rB x40.2)<|sB (.ptr 224 0) 224 (.var [r0,r0,r0])<|sS 224 (.var (aa.rc x40.1)) ?_
    refine sA rfl<|sN<|gS rfl rfl<|sF h (fun h=>?_) fun h=>?_
    ·refine sN<|cT<|gS rfl rfl<|sV (r0)<|sN<|qS<|bE h fun o56 ho56 h=>WC.block (WC.loop (WL.n4 ho56 (fun s R' B'=>hY prog 1 (A R' B') (av.at_ 14 1 12)=some (A [(0,.ptr 0 0),(5,.ptr 80 0),(6,.ptr 96 0),(9,.ref 2192 0),(10,.ptr 160 0),(11,rI s4),(12,rI s5),(13,.ptr 208 0),(14,.ptr 224 0),(16,rI s)] [(0,.var (ac.rc x35.2)),(80,.var (aw.rc a1)),(96,.var [rM au.pd a2.aP]),(160,.var [rI s9,rI s10,rI s11]),(208,.var (ap.rc x18++[r0,rI (rW ((1000:Int)+x21.1)),r0,rI x19.1,rI (rW (x20.1-(1:Int)))])),(224,.var (aa.rc x40.1)),(2192,.arr 0 66 (s8.map ar.pd))])) (fun o e R' B'=>e= .exit 3∧hY prog 1 (A R' B') (av.at_ 14 1 14)=some (A [(0,.ptr 0 0),(5,.ptr 80 0),(6,.ptr 96 0),(9,.ref 2192 0),(10,.ptr 160 0),(11,rI o.1),(12,rI o.2.1),(13,.ptr 208 0),(16,rI o.2.2.1)] [(0,.var (ac.rc x35.2)),(80,.var (aw.rc a1)),(96,.var [rM au.pd a2.aP]),(160,.var [rI o.2.2.2.2.1,rI o.2.2.2.2.2.1,rI o.2.2.2.2.2.2]),(208,.var (ap.rc x18++[r0,rI (rW ((1000:Int)+x21.1)),r0,rI x19.1,rI (rW (x20.1-(1:Int)))])),(2192,.arr 0 66 (o.2.2.2.1.map ar.pd))])) rfl ?_ ?_))
     ·rintro s42 R' B' q50 hI h
      refine qS<|WC.cI hI rfl<|sM rfl<|sM rfl<|sV (rI (rW (s42*s42)))<|sV (.ptr 224 0)<|sL rfl<|sV (.ptr 160 0)<|sL rfl<|sV (rI (rW (x40.1.fX-s9)))<|bE h fun x51 hx51 h=>cD (nh hx51)<|sV (.ptr 224 1)<|sL rfl<|sV (.ptr 160 1) ?_
      refine sL rfl<|sV (rI (rW (x40.1.fY-s10)))<|bE h fun x52 hx52 h=>cD (nh hx52)<|sV (rI (rW (x51+x52)))<|sV (.ptr 224 2)<|sL rfl<|sV (.ptr 160 2)<|sL rfl<|sV (rI (rW (x40.1.fZ-s11)))<|bE h fun x53 hx53 h=>cD (nh hx53)<|sV (rI (rW ((rW (x51+x52))+x53)))<|sF h (fun h=>?_) fun h=>?_
      ·refine sN<|sO<|cT<|qK<|qB<|WC.region rfl rfl<|sM rfl<|sV (rI (rW (s42+(1:Int))))<|sA rfl<|sN ?_
       cases oI h
       exact⟨rfl,rfl⟩
      refine sN<|sO<|cF<|qX ?_
      cases oI h
      exact⟨nofun,rfl,rfl⟩
     intro e R' B' he hq
     obtain⟨rfl,hI⟩:=hq
     refine qE<|WC.oW hI rfl<|sM rfl<|sV (.ptr 80 0)<|sV (.ptr 80 6)<|sV (.ptr 80 7)<|sL rfl<|sM rfl<|sV (.ptr 80 0)<|sV (.ptr 80 6)<|sV (.ptr 80 6)<|sL rfl<|bE h fun x57 hx57 h=>WO.ru hx57 rfl rfl rfl rfl rfl rfl<|sV (.ptr 80 0) ?_
     refine sV (.ptr 80 6)<|sV (.ptr 80 7)<|sL rfl<|sE (rI (a1.aA.aS.aF.length:Int)) (nT _ _)<|sV (rI (rW ((a1.aA.aS.aF.length:Int)-(1:Int))))<|sV (rI (if(rW ((a1.aA.aS.aF.length:Int)-(1:Int)))<x57 then(rW ((a1.aA.aS.aF.length:Int)-(1:Int)))else x57))<|bE h fun x58 hx58 h=>eG hx58 rfl<|sC rfl<|sV (rI (rW (o56.1+x58)))<|sM rfl<|bE h fun x59 hx59 h=>cR (rI x59.1) [(0,.var (ac.rc x59.2))] (bv hx59)<|sV (rI (rW ((rW (o56.1+x58))+x59.1)))<|sV (.ptr 208 5) ?_
     refine sS 208 (.var (ap.rc x18++[r0,rI (rW ((rW (o56.1+x58))+x59.1)),r0,rI x19.1,rI (rW (x20.1-(1:Int)))])) ?_
     exact sN<|sO<|⟨(o56.1,o56.2.1,x59.2.fL,x59.2.fAt,o56.2.2.2.1,o56.2.2.2.2.1,o56.2.2.2.2.2.1,o56.2.2.2.2.2.2,(rW ((rW (o56.1+x58))+x59.1))),rfl,h⟩
    exact sN<|cF<|qK<|⟨(s4,s5,x35.2.fL,x35.2.fAt,s8,s9,s10,s11,(rW ((1000:Int)+x21.1))),rfl,h⟩
   rintro⟨j22,j23,j24,j25,j26,j27,j28,j29,j30⟩ R' B' hI h
   refine WC.cI hI rfl<|sV (.ptr 208 5)<|sL rfl<|sM rfl<|bE h fun x31 hx31 h=>cR (rI x31.1) [(0,.var (ac.rc x31.2))] (bv hx31)<|sV (rI (rW (j30+x31.1)))<|sV (.ptr 208 4)<|sS 208 (.var (ap.rc x18++[rI (rW (j30+x31.1)),rI j30,r0,rI x19.1,rI (rW (x20.1-(1:Int)))])) ?_
   refine sN<|sO<|WC.cI rfl rfl<|sV (.ptr 208 4)<|sL rfl<|sM rfl<|bE h fun x32 hx32 h=>cR (rI x32.1) [(0,.var (ac.rc x32.2))] (bv hx32)<|sV (rI (rW ((rW (j30+x31.1))+x32.1)))<|sV (.ptr 208 6)<|sS 208 (.var (ap.rc x18++[rI (rW (j30+x31.1)),rI j30,rI (rW ((rW (j30+x31.1))+x32.1)),rI x19.1,rI (rW (x20.1-(1:Int)))])) ?_
   refine sN<|sO<|WC.region rfl rfl<|sM rfl<|sV (.d (ar.pd (ar.mk x18 (rW (j30+x31.1)) j30 (rW ((rW (j30+x31.1))+x32.1)) x19.1 (rW (x20.1-(1:Int))))))<|sG (.d (.lst ([(ar.mk x18 (rW (j30+x31.1)) j30 (rW ((rW (j30+x31.1))+x32.1)) x19.1 (rW (x20.1-(1:Int))))].map ar.pd)))<|bE h fun x33 hx33 h=>aR hx33 (fun _=>rfl) rfl<|sA rfl<|sN<|WC.region rfl rfl<|sM rfl<|sV (rI (rW (j23-(1:Int))))<|sA rfl<|sN ?_
   cases oI h
   exact⟨rfl,rfl⟩
  refine sN<|cF<|qX ?_
  cases oI h
  exact⟨nofun,rfl,rfl⟩
 intro e R' B' he hq
 obtain⟨rfl,hI⟩:=hq
 refine qE<|gS rfl hI<|sM rfl<|sA rfl<|sN<|qR ?_
 exact oI h▸qD
theorem bq{a0:aa}{r:aO}(h:bc a0=some r):EvP prog av ext 188 [.d (aa.pd a0)] [] (.d (aO.pd r),[]):=by
 refine Ev.body rfl Tryz.func188 rfl (by kernel_rfl)<|gS rfl rfl<|sB (.ptr 16 0) 16 (.var (aa.rc a0))<|sB (.ptr 32 0) 32 (.var [r0,r0,r0])<|sN<|gS rfl rfl<|sV (.ptr 16 0)<|sL rfl<|sV (.ptr 16 1)<|sL rfl<|sV (.ptr 16 2)<|sL rfl<|sV (.d (aO.pd (aO.mk a0.fX a0.fY a0.fZ)))<|sS 32 (.var (aa.rc a0))<|sN ?_
 refine qR ?_
 exact oI h▸qD
theorem cq{a0:aa}{r:Bool}(h:cg a0=some r):EvP prog av ext 272 [.d (aa.pd a0)] [] (rB r,[]):=by
 refine Ev.body rfl Tryz.func272 rfl (by kernel_rfl)<|gS rfl rfl<|sB (.ptr 16 0) 16 (.var (aa.rc a0))<|sU<|sN<|gS rfl rfl<|sV (.d (aO.pd (aO.mk (-1048576) (-1048576) (-16384))))<|sB (.ptr 48 0) 48 (.var [r0,r0,r0])<|sS 48 (.var [rI (-1048576),rI (-1048576),rI (-16384)])<|sN<|qS<|gS rfl rfl<|sV (.d (aa.pd a0))<|bE h fun x1 hx1 h=>cD (bq hx1) ?_
 refine sV (r0)<|sN<|WC.block (WC.loop ?_)
 refine WL.round<|gS rfl rfl<|sT<|sN<|qS<|cT<|qK<|qS<|qB<|gS rfl rfl<|sM rfl<|sV (rI x1.a0)<|sA rfl<|sA rfl<|sN ?_
 refine gS rfl rfl<|sM rfl<|sM rfl<|sV (.ptr 48 0)<|sL rfl<|sF h (fun h=>?_) fun h=>?_
 ·refine sM rfl<|sK<|sK<|sT<|sN<|cT<|gS rfl rfl<|sU<|sN<|qR ?_
  exact oI h▸qD
 refine sM rfl<|sM rfl<|sV (rB (decide (x1.a0>(1048576:Int))))<|sF h (fun h=>?_) fun h=>?_
 ·refine sN<|cT<|gS rfl rfl<|sU<|sN<|qR ?_
  exact oI h▸qD
 refine sN<|cF<|qK<|WC.region rfl rfl<|sV (rI 1)<|sM rfl<|sN<|WL.round<|gS rfl rfl<|sT<|sN<|qS<|cT<|qK<|qS ?_
 refine qB<|gS rfl rfl<|sM rfl<|sV (rI x1.a1)<|sA rfl<|sA rfl<|sN<|gS rfl rfl<|sM rfl<|sM rfl<|sV (.ptr 48 1)<|sL rfl<|sF h (fun h=>?_) fun h=>?_
 ·refine sM rfl<|sK<|sK<|sT<|sN<|cT<|gS rfl rfl<|sU<|sN<|qR ?_
  exact oI h▸qD
 refine sM rfl<|sM rfl<|sV (rB (decide (x1.a1>(1048576:Int))))<|sF h (fun h=>?_) fun h=>?_
 ·refine sN<|cT<|gS rfl rfl<|sU<|sN<|qR ?_
  exact oI h▸qD
 refine sN<|cF<|qK<|WC.region rfl rfl<|sV (rI 2)<|sM rfl<|sN<|WL.round<|gS rfl rfl<|sT<|sN<|qS<|cT<|qK<|qS ?_
 refine qB<|gS rfl rfl<|sM rfl<|sV (rI x1.a2)<|sA rfl<|sA rfl<|sN<|gS rfl rfl<|sM rfl<|sM rfl<|sV (.ptr 48 2)<|sL rfl<|sF h (fun h=>?_) fun h=>?_
 ·refine sM rfl<|sK<|sK<|sT<|sN<|cT<|gS rfl rfl<|sU<|sN<|qR ?_
  exact oI h▸qD
 refine sM rfl<|sM rfl<|sV (rB (decide (x1.a2>(1048576:Int))))<|sF h (fun h=>?_) fun h=>?_
 ·refine sN<|cT<|gS rfl rfl<|sU<|sN<|qR ?_
  exact oI h▸qD
 refine sN<|cF<|qK<|WC.region rfl rfl<|sV (rI 3)<|sM rfl<|sN<|WL.round<|gS rfl rfl<|sU<|sN<|qS<|cF<|qX<|qE ?_
 refine gS rfl rfl<|sT<|sN<|qR ?_
 exact oI h▸qD
theorem bh{a0:ag}{r:Bool}(h:bg a0=some r):EvP prog av ext 187 [.d (ag.pd a0)] [] (rB r,[]):=by
 refine Ev.body rfl Tryz.func187 rfl (by kernel_rfl)<|gS rfl rfl<|sB (.ptr 16 0) 16 (.var (ag.rc a0))<|sU<|sN<|qS<|gS rfl rfl<|sV (.ptr 16 0)<|sV (.d (aa.pd a0.aF))<|bE h fun x1 hx1 h=>cD (cq hx1)<|sF h (fun h=>?_) fun h=>?_
 ·refine sM rfl<|k3<|sK<|sT<|sN<|cT<|gS rfl rfl<|sU<|sN<|qR ?_
  exact oI h▸qD
 refine sM rfl<|sV (.ptr 16 3)<|sV (.d (aa.pd a0.az))<|bE h fun x3 hx3 h=>cD (cq hx3)<|sV (rB (!x3))<|sF h (fun h=>?_) fun h=>?_
 ·refine sN<|cT<|gS rfl rfl<|sU<|sN<|qR ?_
  exact oI h▸qD
 refine sN<|cF<|qK<|gS rfl rfl<|sV (.ptr 16 3)<|sV (.d (aa.pd a0.az))<|bE h fun x5 hx5 h=>cD (bq hx5)<|sB (.ptr 48 0) 48 (.var [r0,r0,r0])<|sS 48 (.var [rI x5.a0,rI x5.a1,rI x5.a2])<|sN<|qS<|gS rfl rfl<|sV (.ptr 16 0)<|sV (.d (aa.pd a0.aF)) ?_
 refine bE h fun x6 hx6 h=>cD (bq hx6)<|sV (r0)<|sN<|WC.block (WC.loop ?_)
 refine WL.round<|gS rfl rfl<|sT<|sN<|qS<|cT<|qK<|qS<|qB<|gS rfl rfl<|sM rfl<|sV (rI x6.a0)<|sA rfl<|sA rfl<|sN ?_
 refine gS rfl rfl<|sM rfl<|sM rfl<|sV (.ptr 48 0)<|sL rfl<|sF h (fun h=>?_) fun h=>?_
 ·refine sN<|cT<|gS rfl rfl<|sU<|sN<|qR ?_
  exact oI h▸qD
 refine sN<|cF<|qK<|WC.region rfl rfl<|sV (rI 1)<|sM rfl<|sN<|WL.round<|gS rfl rfl<|sT<|sN<|qS<|cT<|qK<|qS ?_
 refine qB<|gS rfl rfl<|sM rfl<|sV (rI x6.a1)<|sA rfl<|sA rfl<|sN<|gS rfl rfl<|sM rfl<|sM rfl<|sV (.ptr 48 1)<|sL rfl<|sF h (fun h=>?_) fun h=>?_
 ·refine sN<|cT<|gS rfl rfl<|sU<|sN<|qR ?_
  exact oI h▸qD
 refine sN<|cF<|qK<|WC.region rfl rfl<|sV (rI 2)<|sM rfl<|sN<|WL.round<|gS rfl rfl<|sT<|sN<|qS<|cT<|qK<|qS ?_
 refine qB<|gS rfl rfl<|sM rfl<|sV (rI x6.a2)<|sA rfl<|sA rfl<|sN<|gS rfl rfl<|sM rfl<|sM rfl<|sV (.ptr 48 2)<|sL rfl<|sF h (fun h=>?_) fun h=>?_
 ·refine sN<|cT<|gS rfl rfl<|sU<|sN<|qR ?_
  exact oI h▸qD
 refine sN<|cF<|qK<|WC.region rfl rfl<|sV (rI 3)<|sM rfl<|sN<|WL.round<|gS rfl rfl<|sU<|sN<|qS<|cF<|qX<|qE ?_
 refine gS rfl rfl<|sT<|sN<|qR ?_
 exact oI h▸qD
theorem df{a0:aq}{r:Int}(h:bY a0=some r):EvP prog av ext 199 [.d (aq.pd a0)] [] (rI r,[]):=by
 refine Ev.body rfl Tryz.func199 rfl (by kernel_rfl)<|gS rfl rfl<|sB (.ptr 16 0) 16 (.var (aq.rc a0))<|sV (r0)<|sN<|gS rfl rfl<|sV (.ptr 16 1)<|sL rfl<|sE (rI (a0.aF.length:Int)) (nT _ _)<|sA rfl<|sN<|qS<|gS rfl rfl<|sV (.ptr 16 0)<|sL rfl ?_
 refine sF h (fun h=>?_) fun h=>?_
 ·refine sM rfl<|k3<|sT<|sM rfl<|k3<|sK<|sK<|sT<|sM rfl<|sK<|sK ?_
  refine sT<|sM rfl<|sK<|sK<|sT<|sN<|cT<|gS rfl rfl<|sV (rI 21)<|sN<|qR ?_
  exact oI h▸qD
 refine sM rfl<|sV (.ptr 16 0)<|sL rfl<|sV (rB (decide (a0.aQ>(1048576:Int))))<|sF h (fun h=>?_) fun h=>?_
 ·refine sM rfl<|k3<|sK<|sK<|sT<|sM rfl<|sK<|sK<|sT<|sM rfl<|sK<|sK<|sT ?_
  refine sN<|cT<|gS rfl rfl<|sV (rI 21)<|sN<|qR ?_
  exact oI h▸qD
 refine sM rfl<|sM rfl<|sV (.ptr 16 2)<|sL rfl<|sE (rI (a0.az.length:Int)) (nT _ _)<|sV (rB ((a0.aF.length:Int) != (a0.az.length:Int)))<|sF h (fun h=>?_) fun h=>?_
 ·refine sM rfl<|sK<|sK<|sT<|sM rfl<|sK<|sK<|sT<|sN<|cT<|gS rfl rfl<|sV (rI 21)<|sN<|qR ?_
  exact oI h▸qD
 refine sM rfl<|sM rfl<|sV (rB (decide ((a0.aF.length:Int)<(2:Int))))<|sF h (fun h=>?_) fun h=>?_
 ·refine sM rfl<|sK<|sK<|sT<|sN<|cT<|gS rfl rfl<|sV (rI 21)<|sN<|qR ?_
  exact oI h▸qD
 refine sM rfl<|sM rfl<|sV (rB (decide ((a0.aF.length:Int)>(256:Int))))<|sF h (fun h=>?_) fun h=>?_
 ·refine sN<|cT<|gS rfl rfl<|sV (rI 21)<|sN<|qR ?_
  exact oI h▸qD
 refine sN<|cF<|qK<|gS rfl rfl<|sV (r0)<|sV (r0)<|sN<|qS<|gS rfl rfl<|sM rfl<|sV (r0)<|sN<|bE h fun o23 ho23 h=>WC.block (WC.loop (WL.n4 ho23 (fun s R' B'=>hY prog 0 (A R' B') (av.at_ 199 0 6)=some (A [(1,.ptr 16 0),(4,rI s.1),(5,rI s.2.1),(33,rI (a0.aF.length:Int)),(34,rI s.2.2)] [(16,.var (aq.rc a0))])) (fun o e R' B'=>match o with| .inl y=>e= .exit 0∧hY prog 0 (A R' B') (av.at_ 199 0 12)=some (A [] [])| .inr r=>e= .ret∧finish prog (av.own 199) Tryz.f199 0 (A R' B')=some (rI r,[])) rfl ?_ ?_))
 ·rintro⟨s6,s7,s8⟩ R' B' q9 hI h
  refine gS rfl hI<|sF h (fun h=>?_) fun h=>?_
  ·refine sN<|qS<|cT<|qK<|qS<|qB<|gS rfl rfl<|sM rfl<|sA rfl<|sN<|qS<|WC.cI rfl rfl<|sV (.ptr 16 1)<|sL rfl<|sM rfl ?_
   refine bE h fun x11 hx11 h=>eG hx11 rfl<|sC rfl<|sM rfl<|sF h (fun h=>?_) fun h=>?_
   ·refine sM rfl<|k3<|k3<|sK<|sT<|sM rfl<|k3<|sK<|sK ?_
    refine k3<|k3<|sT<|sM rfl<|k3<|k3<|sT ?_
    refine sN<|sO<|cT<|gS rfl rfl<|sV (rI 21)<|sN<|qR ?_
    cases oI h
    exact⟨nofun,rfl,rfl⟩
   refine sM rfl<|sV (.ptr 16 2)<|sL rfl<|sM rfl<|bE h fun x13 hx13 h=>eG hx13 rfl<|sC rfl<|sM rfl<|sV (rB (decide (x13<s7)))<|sF h (fun h=>?_) fun h=>?_
   ·refine sM rfl<|k3<|k3<|k3<|sK<|sK<|sT<|sM rfl<|sK ?_
    refine k3<|sK<|sK<|sT ?_
    refine sN<|sO<|cT<|gS rfl rfl<|sV (rI 21)<|sN<|qR ?_
    cases oI h
    exact⟨nofun,rfl,rfl⟩
   refine sM rfl<|sV (.ptr 16 1)<|sL rfl<|sM rfl<|bE h fun x15 hx15 h=>eG hx15 rfl<|sC rfl<|sV (.ptr 16 2)<|sL rfl<|sM rfl<|bE h fun x16 hx16 h=>eG hx16 rfl<|sC rfl<|sV (rB (decide (x15>x16)))<|sF h (fun h=>?_) fun h=>?_
   ·refine sM rfl<|k3<|k3<|sT ?_
    refine sN<|sO<|cT<|gS rfl rfl<|sV (rI 21)<|sN<|qR ?_
    cases oI h
    exact⟨nofun,rfl,rfl⟩
   refine sM rfl<|sV (.ptr 16 2)<|sL rfl<|sM rfl<|bE h fun x18 hx18 h=>eG hx18 rfl<|sC rfl<|sV (rB (decide (x18>(1099511627776:Int))))<|sF h (fun h=>?_) fun h=>?_
   ·refine sN<|sO<|cT<|gS rfl rfl<|sV (rI 21)<|sN<|qR ?_
    cases oI h
    exact⟨nofun,rfl,rfl⟩
   refine sN<|sO<|cF<|qK<|WC.oW rfl rfl<|sV (.ptr 16 1)<|sL rfl<|sM rfl<|bE h fun x20 hx20 h=>eG hx20 rfl<|sC rfl<|sV (.ptr 16 2)<|sL rfl<|sM rfl<|bE h fun x21 hx21 h=>eG hx21 rfl ?_
   refine sC rfl<|sA rfl<|sA rfl ?_
   refine sN<|sO<|WC.region rfl rfl<|sV (rI (rW (s8+(1:Int))))<|sM rfl<|sN ?_
   cases oI h
   exact⟨rfl,rfl⟩
  refine sN<|qS<|cF<|qX ?_
  cases oI h
  exact⟨nofun,rfl,rfl⟩
 intro e R' B' he hq
 rcases o23 with y24|r25
 ·obtain⟨rfl,hI⟩:=hq
  refine qE<|gS rfl hI<|sV (r0)<|sN<|qR ?_
  exact oI h▸qD
 obtain⟨rfl,hf⟩:=hq
 cases oI h
 exact hf
theorem fC{a0:Int}{a1:Int}{a2:Int}{r:Bool}(h:ep a0 a1 a2=some r):EvP prog av ext 200 [rI a0,rI a1,rI a2] [] (rB r,[]):=by
 refine Ev.body rfl Tryz.func200 rfl (by kernel_rfl)<|gS rfl rfl<|sU<|sN<|gS rfl rfl<|sM rfl<|sM rfl<|sF h (fun h=>?_) fun h=>?_
 ·refine sM rfl<|sM rfl<|sM rfl<|sV (rB (decide (a0<=a2)))<|sV (rB (decide (a0<=a2)))<|sA rfl<|sN<|qR ?_
  exact oI h▸qD
 refine sM rfl<|k3<|sU<|sA rfl<|sN<|qR ?_
 exact oI h▸qD
theorem mL{a0:aC}{r:Bool}(h:cj a0=some r):EvP prog av ext 245 [.d (aC.pd a0)] [] (rB r,[]):=by
 refine Ev.body rfl Tryz.func245 rfl (by kernel_rfl)<|gS rfl rfl<|sB (.ptr 16 0) 16 (.var (aC.rc a0))<|sU<|sN<|gS rfl rfl<|sV (.ptr 16 0)<|sV (.d (aa.pd a0.aM))<|bE h fun x1 hx1 h=>oz h (fun hb2 h=>?_) (fun hb2 h=>?_)
 ·refine WO.oM (v:=rB true) (u:=[]) rfl rfl (fun _=>rfl) rfl rfl rfl rfl rfl (cq hx1) rfl rfl (congrArg (fun b=>RV.d (.bool b)) hb2) rfl<|sM rfl<|sV (.ptr 16 3)<|sL rfl<|sV (rB (decide (a0.a8>=(0:Int))))<|sF h (fun h=>?_) fun h=>?_
  ·refine sM rfl<|sV (.ptr 16 3)<|sL rfl<|sV (.ptr 16 4)<|sL rfl<|sV (rB (decide (a0.a8<=a0.bF)))<|sF h (fun h=>?_) fun h=>?_
   ·refine sM rfl<|sV (.ptr 16 4)<|sL rfl<|sV (rB (decide (a0.bF<=(18014398509481984:Int))))<|sF h (fun h=>?_) fun h=>?_
    ·refine sM rfl<|sV (.ptr 16 5)<|sL rfl<|sV (rB (decide (a0.bt>=(1:Int))))<|sF h (fun h=>?_) fun h=>?_
     ·refine sM rfl<|sV (.ptr 16 5)<|sL rfl<|sV (rB (decide (a0.bt<=(100:Int))))<|sV (rB (decide (a0.bt<=(100:Int))))<|sA rfl<|sN<|qR ?_
      exact oI h▸qD
     refine sM rfl<|k3<|sU<|sA rfl<|sN<|qR ?_
     exact oI h▸qD
    refine sM rfl<|k3<|sU<|sM rfl<|k3<|sU<|sA rfl<|sN<|qR ?_
    exact oI h▸qD
   refine sM rfl<|k3<|sU<|sM rfl<|k3<|sU<|sM rfl<|k3<|sU ?_
   refine sA rfl<|sN<|qR ?_
   exact oI h▸qD
  refine sM rfl<|k3<|sK<|sK<|sU<|sM rfl<|k3<|sU<|sM rfl<|sK<|sK ?_
  refine sK<|sU<|sM rfl<|k3<|sU<|sA rfl<|sN<|qR ?_
  exact oI h▸qD
 refine WO.oM (v:=rB false) (u:=[]) rfl rfl (fun _=>rfl) rfl rfl rfl rfl rfl (cq hx1) rfl rfl (congrArg (fun b=>RV.d (.bool b)) hb2) rfl<|sM rfl<|k3<|sU<|sM rfl<|k3<|sK<|sK<|sU<|sM rfl<|sK ?_
 refine sK<|sK<|sU<|sM rfl<|k3<|sU<|sM rfl<|k3<|sU<|sA rfl<|sN ?_
 refine qR ?_
 exact oI h▸qD
theorem gx{a0:Int}{a1:Int}{a2:Int}{r:Int}(h:dS a0 a1 a2=some r):EvP prog av ext 196 [rI a0,rI a1,rI a2] [] (rI r,[]):=by
 refine Ev.body rfl Tryz.func196 rfl (by kernel_rfl)<|gS rfl rfl<|sV (r0)<|sN<|gS rfl rfl<|sM rfl<|sM rfl<|sV (rI (rW (a1-a0)))<|sM rfl<|sM rfl<|sV (rI (rW (a0-a2)))<|sV (rI (if(0:Int)>(if(rW (a0-a2))>(rW (a1-a0))then(rW (a0-a2))else(rW (a1-a0)))then(0:Int)else(if(rW (a0-a2))>(rW (a1-a0))then(rW (a0-a2))else(rW (a1-a0)))))<|sA rfl<|sN<|qR ?_
 exact oI h▸qD
theorem ks{a0:ag}{a1:aa}{r:Int}(h:fk a0 a1=some r):EvP prog av ext 195 [.d (ag.pd a0),.d (aa.pd a1),.d (.raw (.func (.func 196) #[] #[]))] [] (rI r,[]):=by
 refine Ev.body rfl Tryz.func195 rfl (by kernel_rfl)<|gS rfl rfl<|sB (.ptr 48 0) 48 (.var (ag.rc a0))<|sB (.ptr 64 0) 64 (.var (aa.rc a1))<|sV (r0)<|sN<|qS<|gS rfl rfl<|sV (.d (ag.pd a0))<|bE h fun x1 hx1 h=>cD (bh hx1)<|sF h (fun h=>?_) fun h=>?_
 ·refine sM rfl<|k3<|sT<|sN<|cT<|gS rfl rfl<|sV (r0)<|sN<|qR ?_
  exact oI h▸qD
 refine sM rfl<|sV (.d (aa.pd a1))<|bE h fun x3 hx3 h=>cD (cq hx3)<|sV (rB (!x3))<|sF h (fun h=>?_) fun h=>?_
 ·refine sN<|cT<|gS rfl rfl<|sV (r0)<|sN<|qR ?_
  exact oI h▸qD
 refine sN<|cF<|qK<|WC.cI rfl rfl<|sV (.ptr 48 0)<|sV (.d (aa.pd a0.aF))<|bE h fun x5 hx5 h=>cD (bq hx5)<|sV (.ptr 48 3)<|sV (.d (aa.pd a0.az))<|bE h fun x6 hx6 h=>cD (bq hx6)<|sB (.ptr 128 0) 128 (.var [r0,r0,r0])<|sB (.ptr 144 0) 144 (.var [r0,r0,r0])<|sV (r0) ?_
 refine sS 128 (.var [rI x5.a0,rI x5.a1,rI x5.a2])<|sS 144 (.var [rI x6.a0,rI x6.a1,rI x6.a2]) ?_
 refine sN<|sO<|qS<|gS rfl rfl<|sV (.d (aa.pd a1))<|bE h fun x7 hx7 h=>cD (bq hx7)<|sV (r0)<|sN<|WC.block (WC.loop ?_)
 refine WL.round<|WC.oq (R0:=[(2,.d (.raw (.func (.func 196) #[] #[]))),(7,r0),(8,.ptr 128 0),(9,.ptr 144 0),(28,.d (aO.pd x7)),(29,r0)]) (B0:=[(128,.var [rI x5.a0,rI x5.a1,rI x5.a2]),(144,.var [rI x6.a0,rI x6.a1,rI x6.a2])]) rfl rfl<|sT<|sN<|qS<|cT<|qK<|qS<|qB<|gS rfl rfl<|sM rfl<|sV (rI x7.a0)<|sA rfl<|sA rfl<|sN ?_
 refine WC.cI rfl rfl<|sM rfl<|sM rfl<|sM rfl<|sV (.ptr 128 0)<|sL rfl<|sM rfl<|sV (.ptr 144 0)<|sL rfl<|bE h fun x8 hx8 h=>cD (gx hx8)<|sA rfl ?_
 refine sN<|sO<|WC.region rfl rfl<|sM rfl<|sM rfl<|sM rfl<|sV (rI (rW (x8*x8)))<|sV (rI (rW ((0:Int)+(rW (x8*x8)))))<|sA rfl<|sN<|WC.region rfl rfl<|sV (rI 1)<|sM rfl<|sN<|WL.round<|WC.oq (R0:=[(2,.d (.raw (.func (.func 196) #[] #[]))),(7,rI (rW ((0:Int)+(rW (x8*x8))))),(8,.ptr 128 0),(9,.ptr 144 0),(28,.d (aO.pd x7)),(29,rI 1)]) (B0:=[(128,.var [rI x5.a0,rI x5.a1,rI x5.a2]),(144,.var [rI x6.a0,rI x6.a1,rI x6.a2])]) rfl rfl ?_
 refine sT<|sN<|qS<|cT<|qK<|qS<|qB<|gS rfl rfl<|sM rfl<|sV (rI x7.a1)<|sA rfl<|sA rfl<|sN<|WC.cI rfl rfl<|sM rfl ?_
 refine sM rfl<|sM rfl<|sV (.ptr 128 1)<|sL rfl<|sM rfl<|sV (.ptr 144 1)<|sL rfl<|bE h fun x9 hx9 h=>cD (gx hx9)<|sA rfl ?_
 refine sN<|sO<|WC.region rfl rfl<|sM rfl<|sM rfl<|sM rfl<|sV (rI (rW (x9*x9)))<|sV (rI (rW ((rW ((0:Int)+(rW (x8*x8))))+(rW (x9*x9)))))<|sA rfl<|sN<|WC.region rfl rfl<|sV (rI 2)<|sM rfl<|sN<|WL.round<|WC.oq (R0:=[(2,.d (.raw (.func (.func 196) #[] #[]))),(7,rI (rW ((rW ((0:Int)+(rW (x8*x8))))+(rW (x9*x9))))),(8,.ptr 128 0),(9,.ptr 144 0),(28,.d (aO.pd x7)),(29,rI 2)]) (B0:=[(128,.var [rI x5.a0,rI x5.a1,rI x5.a2]),(144,.var [rI x6.a0,rI x6.a1,rI x6.a2])]) rfl rfl ?_
 refine sT<|sN<|qS<|cT<|qK<|qS<|qB<|gS rfl rfl<|sM rfl<|sV (rI x7.a2)<|sA rfl<|sA rfl<|sN<|WC.cI rfl rfl<|sM rfl ?_
 refine sM rfl<|sM rfl<|sV (.ptr 128 2)<|sL rfl<|sM rfl<|sV (.ptr 144 2)<|sL rfl<|bE h fun x10 hx10 h=>cD (gx hx10)<|sA rfl ?_
 refine sN<|sO<|WC.region rfl rfl<|sM rfl<|sM rfl<|sM rfl<|sV (rI (rW (x10*x10)))<|sV (rI (rW ((rW ((rW ((0:Int)+(rW (x8*x8))))+(rW (x9*x9))))+(rW (x10*x10)))))<|sA rfl<|sN<|WC.region rfl rfl<|sV (rI 3)<|sM rfl<|sN<|WL.round<|WC.oq (R0:=[(2,.d (.raw (.func (.func 196) #[] #[]))),(7,rI (rW ((rW ((rW ((0:Int)+(rW (x8*x8))))+(rW (x9*x9))))+(rW (x10*x10))))),(8,.ptr 128 0),(9,.ptr 144 0),(28,.d (aO.pd x7)),(29,rI 3)]) (B0:=[(128,.var [rI x5.a0,rI x5.a1,rI x5.a2]),(144,.var [rI x6.a0,rI x6.a1,rI x6.a2])]) rfl rfl ?_
 refine sU<|sN<|qS<|cF<|qX<|qE<|gS rfl rfl<|sM rfl<|sA rfl<|sN<|qR ?_
 exact oI h▸qD
theorem iJ{a0:ag}{a1:aa}{r:Int}(h:dP a0 a1=some r):EvP prog av ext 111 [.d (ag.pd a0),.d (aa.pd a1)] [] (rI r,[]):=by
 refine Ev.body rfl Tryz.func111 rfl (by kernel_rfl)<|gS rfl rfl<|sB (.ptr 32 0) 32 (.var (ag.rc a0))<|sB (.ptr 48 0) 48 (.var (aa.rc a1))<|sV (r0)<|sN<|gS rfl rfl<|sV (.d (ag.pd a0))<|sV (.d (aa.pd a1))<|bE h fun x1 hx1 h=>cD (ks hx1)<|sA rfl<|sN<|qR ?_
 exact oI h▸qD
theorem fT{a0:Int}{a1:Int}{a2:Int}{r:Int}(h:dC a0 a1 a2=some r):EvP prog av ext 197 [rI a0,rI a1,rI a2] [] (rI r,[]):=by
 refine Ev.body rfl Tryz.func197 rfl (by kernel_rfl)<|gS rfl rfl<|sV (r0)<|sN<|gS rfl rfl<|sM rfl<|sM rfl<|sV (rI (rW (a2-a0)))<|sM rfl<|sM rfl<|sV (rI (rW (a0-a1)))<|sV (rI (if(rW (a0-a1))>(rW (a2-a0))then(rW (a0-a1))else(rW (a2-a0))))<|sA rfl<|sN<|qR ?_
 exact oI h▸qD
theorem jU{a0:ag}{a1:aa}{r:Int}(h:eU a0 a1=some r):EvP prog av ext 195 [.d (ag.pd a0),.d (aa.pd a1),.d (.raw (.func (.func 197) #[] #[]))] [] (rI r,[]):=by
 refine Ev.body rfl Tryz.func195 rfl (by kernel_rfl)<|gS rfl rfl<|sB (.ptr 48 0) 48 (.var (ag.rc a0))<|sB (.ptr 64 0) 64 (.var (aa.rc a1))<|sV (r0)<|sN<|qS<|gS rfl rfl<|sV (.d (ag.pd a0))<|bE h fun x1 hx1 h=>cD (bh hx1)<|sF h (fun h=>?_) fun h=>?_
 ·refine sM rfl<|k3<|sT<|sN<|cT<|gS rfl rfl<|sV (r0)<|sN<|qR ?_
  exact oI h▸qD
 refine sM rfl<|sV (.d (aa.pd a1))<|bE h fun x3 hx3 h=>cD (cq hx3)<|sV (rB (!x3))<|sF h (fun h=>?_) fun h=>?_
 ·refine sN<|cT<|gS rfl rfl<|sV (r0)<|sN<|qR ?_
  exact oI h▸qD
 refine sN<|cF<|qK<|WC.cI rfl rfl<|sV (.ptr 48 0)<|sV (.d (aa.pd a0.aF))<|bE h fun x5 hx5 h=>cD (bq hx5)<|sV (.ptr 48 3)<|sV (.d (aa.pd a0.az))<|bE h fun x6 hx6 h=>cD (bq hx6)<|sB (.ptr 128 0) 128 (.var [r0,r0,r0])<|sB (.ptr 144 0) 144 (.var [r0,r0,r0])<|sV (r0) ?_
 refine sS 128 (.var [rI x5.a0,rI x5.a1,rI x5.a2])<|sS 144 (.var [rI x6.a0,rI x6.a1,rI x6.a2]) ?_
 refine sN<|sO<|qS<|gS rfl rfl<|sV (.d (aa.pd a1))<|bE h fun x7 hx7 h=>cD (bq hx7)<|sV (r0)<|sN<|WC.block (WC.loop ?_)
 refine WL.round<|WC.oq (R0:=[(2,.d (.raw (.func (.func 197) #[] #[]))),(7,r0),(8,.ptr 128 0),(9,.ptr 144 0),(28,.d (aO.pd x7)),(29,r0)]) (B0:=[(128,.var [rI x5.a0,rI x5.a1,rI x5.a2]),(144,.var [rI x6.a0,rI x6.a1,rI x6.a2])]) rfl rfl<|sT<|sN<|qS<|cT<|qK<|qS<|qB<|gS rfl rfl<|sM rfl<|sV (rI x7.a0)<|sA rfl<|sA rfl<|sN ?_
 refine WC.cI rfl rfl<|sM rfl<|sM rfl<|sM rfl<|sV (.ptr 128 0)<|sL rfl<|sM rfl<|sV (.ptr 144 0)<|sL rfl<|bE h fun x8 hx8 h=>cD (fT hx8)<|sA rfl ?_
 refine sN<|sO<|WC.region rfl rfl<|sM rfl<|sM rfl<|sM rfl<|sV (rI (rW (x8*x8)))<|sV (rI (rW ((0:Int)+(rW (x8*x8)))))<|sA rfl<|sN<|WC.region rfl rfl<|sV (rI 1)<|sM rfl<|sN<|WL.round<|WC.oq (R0:=[(2,.d (.raw (.func (.func 197) #[] #[]))),(7,rI (rW ((0:Int)+(rW (x8*x8))))),(8,.ptr 128 0),(9,.ptr 144 0),(28,.d (aO.pd x7)),(29,rI 1)]) (B0:=[(128,.var [rI x5.a0,rI x5.a1,rI x5.a2]),(144,.var [rI x6.a0,rI x6.a1,rI x6.a2])]) rfl rfl ?_
 refine sT<|sN<|qS<|cT<|qK<|qS<|qB<|gS rfl rfl<|sM rfl<|sV (rI x7.a1)<|sA rfl<|sA rfl<|sN<|WC.cI rfl rfl<|sM rfl ?_
 refine sM rfl<|sM rfl<|sV (.ptr 128 1)<|sL rfl<|sM rfl<|sV (.ptr 144 1)<|sL rfl<|bE h fun x9 hx9 h=>cD (fT hx9)<|sA rfl ?_
 refine sN<|sO<|WC.region rfl rfl<|sM rfl<|sM rfl<|sM rfl<|sV (rI (rW (x9*x9)))<|sV (rI (rW ((rW ((0:Int)+(rW (x8*x8))))+(rW (x9*x9)))))<|sA rfl<|sN<|WC.region rfl rfl<|sV (rI 2)<|sM rfl<|sN<|WL.round<|WC.oq (R0:=[(2,.d (.raw (.func (.func 197) #[] #[]))),(7,rI (rW ((rW ((0:Int)+(rW (x8*x8))))+(rW (x9*x9))))),(8,.ptr 128 0),(9,.ptr 144 0),(28,.d (aO.pd x7)),(29,rI 2)]) (B0:=[(128,.var [rI x5.a0,rI x5.a1,rI x5.a2]),(144,.var [rI x6.a0,rI x6.a1,rI x6.a2])]) rfl rfl ?_
 refine sT<|sN<|qS<|cT<|qK<|qS<|qB<|gS rfl rfl<|sM rfl<|sV (rI x7.a2)<|sA rfl<|sA rfl<|sN<|WC.cI rfl rfl<|sM rfl ?_
 refine sM rfl<|sM rfl<|sV (.ptr 128 2)<|sL rfl<|sM rfl<|sV (.ptr 144 2)<|sL rfl<|bE h fun x10 hx10 h=>cD (fT hx10)<|sA rfl ?_
 refine sN<|sO<|WC.region rfl rfl<|sM rfl<|sM rfl<|sM rfl<|sV (rI (rW (x10*x10)))<|sV (rI (rW ((rW ((rW ((0:Int)+(rW (x8*x8))))+(rW (x9*x9))))+(rW (x10*x10)))))<|sA rfl<|sN<|WC.region rfl rfl<|sV (rI 3)<|sM rfl<|sN<|WL.round<|WC.oq (R0:=[(2,.d (.raw (.func (.func 197) #[] #[]))),(7,rI (rW ((rW ((rW ((0:Int)+(rW (x8*x8))))+(rW (x9*x9))))+(rW (x10*x10))))),(8,.ptr 128 0),(9,.ptr 144 0),(28,.d (aO.pd x7)),(29,rI 3)]) (B0:=[(128,.var [rI x5.a0,rI x5.a1,rI x5.a2]),(144,.var [rI x6.a0,rI x6.a1,rI x6.a2])]) rfl rfl ?_
 refine sU<|sN<|qS<|cF<|qX<|qE<|gS rfl rfl<|sM rfl<|sA rfl<|sN<|qR ?_
 exact oI h▸qD
theorem lT{a0:ag}{a1:aa}{r:Int}(h:fi a0 a1=some r):EvP prog av ext 112 [.d (ag.pd a0),.d (aa.pd a1)] [] (rI r,[]):=by
 refine Ev.body rfl Tryz.func112 rfl (by kernel_rfl)<|gS rfl rfl<|sB (.ptr 32 0) 32 (.var (ag.rc a0))<|sB (.ptr 48 0) 48 (.var (aa.rc a1))<|sV (r0)<|sN<|gS rfl rfl<|sV (.d (ag.pd a0))<|sV (.d (aa.pd a1))<|bE h fun x1 hx1 h=>cD (jU hx1)<|sA rfl<|sN<|qR ?_
 exact oI h▸qD
theorem bound_squares_ev{a0:aq}{a1:ag}{a2:aa}{r:aq×Int×Int}(h:fI a0 a1 a2=some r):EvP prog av ext 310 [.d (aq.pd a0),.d (ag.pd a1),.d (aa.pd a2)] [] (.tup [.d (aq.pd r.1),rI r.2.1,rI r.2.2],[]):=by
 refine Ev.body rfl Tryz.func310 rfl (by kernel_rfl)<|gS rfl rfl<|sB (.ptr 48 0) 48 (.var (aq.rc a0))<|sB (.ptr 64 0) 64 (.var (ag.rc a1))<|sB (.ptr 80 0) 80 (.var (aa.rc a2))<|sB (.ptr 96 0) 96 (.var [r0,.nR,.nR])<|sV (r0)<|sV (r0)<|sN<|WC.cI rfl rfl<|sV (.d (aq.pd a0))<|sV (.d (ag.pd a1))<|sV (.d (aa.pd a2))<|bE h fun x1 hx1 h=>cD (iJ hx1) ?_
 refine sV (.d (ag.pd a1))<|sV (.d (aa.pd a2))<|bE h fun x2 hx2 h=>cD (lT hx2)<|sS 96 (.var (aq.rc a0))<|sA rfl<|sA rfl ?_
 refine sN<|sO<|qR ?_
 exact oI h▸qD
theorem bits_Len64_ev{a0:Int}{r:Int}(h:jT a0=some r):EvP prog av ext 217 [.d (.int .u64 a0)] [] (rI r,[]):=by
 refine Ev.body rfl Tryz.func217 rfl (by kernel_rfl)<|gS rfl rfl<|sV (r0)<|sN<|WC.join (α:=Int×Int) (fun x R' B'=>hY prog 0 (A R' B') (av.at_ 217 0 4)=some (A [(0,.d (.int .u64 x.1)),(2,rI x.2)] [])) (fun x=>eR x.1 x.2=some r) ?_ ?_
 ·refine gS rfl rfl<|sM rfl<|sF h (fun h=>?_) fun h=>?_
  ·exact sN<|cT<|gS rfl rfl<|sM rfl<|sV (.d (.int .u64 (oj .u64 a0 (32:Int))))<|sA rfl<|sN<|WC.region rfl rfl<|sV (rI 32)<|sN<|⟨((oj .u64 a0 (32:Int)),32),rfl,h⟩
  exact sN<|cF<|qK<|⟨(a0,0),rfl,h⟩
 rintro⟨j1,j2⟩ R' B' hI h
 refine WC.join (α:=Int×Int) (fun x R' B'=>hY prog 0 (A R' B') (av.at_ 217 0 7)=some (A [(0,.d (.int .u64 x.1)),(2,rI x.2)] [])) (fun x=>fH x.1 x.2=some r) ?_ ?_
 ·refine gS rfl hI<|sM rfl<|sF h (fun h=>?_) fun h=>?_
  ·exact sN<|cT<|gS rfl rfl<|sM rfl<|sV (.d (.int .u64 (oj .u64 j1 (16:Int))))<|sA rfl<|sN<|WC.region rfl rfl<|sM rfl<|sV (rI (rW (j2+(16:Int))))<|sA rfl<|sN<|⟨((oj .u64 j1 (16:Int)),(rW (j2+(16:Int)))),rfl,h⟩
  exact sN<|cF<|qK<|⟨(j1,j2),rfl,h⟩
 rintro⟨j3,j4⟩ R' B' hI h
 refine qS<|gS rfl hI<|sM rfl<|sF h (fun h=>?_) fun h=>?_
 ·refine sN<|cT<|gS rfl rfl<|sM rfl<|sV (.d (.int .u64 (oj .u64 j3 (8:Int))))<|sA rfl<|sN<|WC.region rfl rfl<|sM rfl<|sV (rI (rW (j4+(8:Int))))<|sA rfl<|sN<|gS rfl rfl<|sM rfl<|sM rfl ?_
  refine sV (.d (.int .u8 (IntKind.wrap .u8 (oj .u64 j3 (8:Int)))))<|bE h fun x6 hx6 h=>WO.byteG hx6 rfl rfl rfl rfl rfl rfl<|sV (rI (IntKind.wrap .i64 x6))<|sV (rI (rW ((rW (j4+(8:Int)))+(IntKind.wrap .i64 x6))))<|sA rfl<|sN<|qR ?_
  exact oI h▸qD
 refine sN<|cF<|qK<|gS rfl rfl<|sM rfl<|sM rfl<|sV (.d (.int .u8 (IntKind.wrap .u8 j3)))<|bE h fun x7 hx7 h=>WO.byteG hx7 rfl rfl rfl rfl rfl rfl<|sV (rI (IntKind.wrap .i64 x7))<|sV (rI (rW (j4+(IntKind.wrap .i64 x7))))<|sA rfl<|sN<|qR ?_
 exact oI h▸qD
theorem l5{a0:Int}{r:Int}(h:eQ a0=some r):EvP prog av ext 136 [.d (.int .u64 a0)] [] (rI r,[]):=by
 refine Ev.body rfl Tryz.func136 rfl (by kernel_rfl)<|gS rfl rfl<|sV (r0)<|sN<|qS<|cF<|qK<|gS rfl rfl<|sM rfl<|bE h fun x1 hx1 h=>cD (bits_Len64_ev hx1)<|sA rfl<|sN<|qR ?_
 exact oI h▸qD
theorem kB{a0:Int}{r:Int}(h:dZ a0=some r):EvP prog av ext 280 [rI a0] [] (rI r,[]):=by
 refine Ev.body rfl Tryz.func280 rfl (by kernel_rfl)<|gS rfl rfl<|sV (r0)<|sN<|qS<|gS rfl rfl<|sM rfl<|sF h (fun h=>?_) fun h=>?_
 ·refine sN<|cT<|gS rfl rfl<|sV (r0)<|sN<|qR ?_
  exact oI h▸qD
 refine sN<|cF<|qK<|gS rfl rfl<|sV (r0)<|sN<|qS<|gS rfl rfl<|sM rfl<|sV (.d (.int .u64 (IntKind.wrap .u64 a0)))<|bE h fun x2 hx2 h=>cD (l5 hx2)<|sV (rI (rW (x2-(1:Int))))<|bE h fun x3 hx3 h=>WO.ru hx3 rfl rfl rfl rfl rfl rfl ?_
 refine bE h fun x4 hx4 h=>WO.shlG hx4 rfl rfl rfl rfl rfl<|sA rfl<|sN<|bE h fun o13 ho13 h=>WC.block (WC.loop (WL.n4 ho13 (fun s R' B'=>hY prog 0 (A R' B') (av.at_ 280 0 5)=some (A [(0,rI a0),(3,rI s.1),(4,rI s.2)] [])) (fun o e R' B'=>e= .exit 0∧hY prog 0 (A R' B') (av.at_ 280 0 10)=some (A [(3,rI o)] [])) rfl ?_ ?_))
 ·rintro⟨s5,s6⟩ R' B' q8 hI h
  refine qS<|gS rfl hI<|sM rfl<|sF h (fun h=>?_) fun h=>?_
  ·refine sN<|cT<|qK<|qS<|qB<|gS rfl rfl<|sM rfl<|sM rfl<|sV (rI (orI .i64 s5 s6))<|sA rfl<|sN<|gS rfl rfl<|sM rfl<|sM rfl<|sM rfl ?_
   refine bE h fun x10 hx10 h=>WO.ru hx10 rfl rfl rfl rfl rfl rfl<|sF h (fun h=>?_) fun h=>?_
   ·refine sN<|cT<|WC.region rfl rfl<|sM rfl<|sA rfl<|sN<|WC.region rfl rfl<|sM rfl<|sV (rI (oj .i64 s6 (1:Int)))<|sA rfl<|sN ?_
    cases oI h
    exact⟨rfl,rfl⟩
   refine sN<|cF<|qK<|WC.region rfl rfl<|sM rfl<|sV (rI (oj .i64 s6 (1:Int)))<|sA rfl<|sN ?_
   cases oI h
   exact⟨rfl,rfl⟩
  refine sN<|cF<|qX ?_
  cases oI h
  exact⟨nofun,rfl,rfl⟩
 intro e R' B' he hq
 obtain⟨rfl,hI⟩:=hq
 refine qE<|gS rfl hI<|sM rfl<|sA rfl<|sN<|qR ?_
 exact oI h▸qD
theorem geometry_Ceil_ev{a0:Int}{r:Int}(h:fJ a0=some r):EvP prog av ext 276 [rI a0] [] (rI r,[]):=by
 refine Ev.body rfl Tryz.func276 rfl (by kernel_rfl)<|gS rfl rfl<|sV (r0)<|sN<|gS rfl rfl<|sM rfl<|bE h fun x1 hx1 h=>cD (kB hx1)<|sA rfl<|sN<|qS<|gS rfl rfl<|sM rfl<|sM rfl<|sV (rI (rW (x1*x1))) ?_
 refine sM rfl<|sF h (fun h=>?_) fun h=>?_
 ·refine sN<|cT<|WC.region rfl rfl<|sM rfl<|sV (rI (rW (x1+(1:Int))))<|sA rfl<|sN<|gS rfl rfl<|sM rfl<|sA rfl<|sN<|qR ?_
  exact oI h▸qD
 refine sN<|cF<|qK<|gS rfl rfl<|sM rfl<|sA rfl<|sN<|qR ?_
 exact oI h▸qD
theorem travel_reach_ev{a0:aq}{r:Int}(h:iE a0=some r):EvP prog av ext 277 [.d (aq.pd a0)] [] (rI r,[]):=by
 refine Ev.body rfl Tryz.func277 rfl (by kernel_rfl)<|gS rfl rfl<|sB (.ptr 16 0) 16 (.var (aq.rc a0))<|sV (r0)<|sN<|gS rfl rfl<|sV (.ptr 16 0)<|sL rfl<|sV (.ptr 16 1)<|sL rfl<|sE (rI (a0.aF.length:Int)) (nT _ _)<|sV (rI (rW ((a0.aF.length:Int)-(1:Int))))<|sV (rI (rW (a0.aQ*(rW ((a0.aF.length:Int)-(1:Int))))))<|sA rfl<|sN ?_
 refine qR ?_
 exact oI h▸qD
theorem lQ{a0:Int}{d0:aq}{d1:Int}{r:Bool}(h:eO a0 d0 d1=some r):EvP prog av ext 279 [rI a0,.ptr 0 0,.ptr 1 0] [.var (aq.rc d0),.var [rI d1]] (rB r,[.var (aq.rc d0),.var [rI d1]]):=by
 refine Ev.body rfl Tryz.func279 rfl (by kernel_rfl)<|gS rfl rfl<|sU<|sN<|gS rfl rfl<|sM rfl<|sV (.ptr 0 0)<|sL rfl<|sV (rI (rW (a0*d0.aQ)))<|sL rfl<|sV (rB (decide ((rW (a0*d0.aQ))>=d1)))<|sA rfl<|sN<|qR ?_
 exact oI h▸qD
theorem mU{a0:Int}{d0:aq}{d1:Int}{r:Int}(h:cE a0 d0 d1=some r):EvP prog av ext 278 [rI a0,.clo 279 [.ptr 0 0,.ptr 1 0]] [.var (aq.rc d0),.var [rI d1]] (rI r,[.var (aq.rc d0),.var [rI d1]]):=by
 refine Ev.body rfl Tryz.func278 rfl (by kernel_rfl)<|gS rfl rfl<|sV (r0)<|sN<|gS rfl rfl<|sM rfl<|sV (r0)<|sA rfl<|sN<|qS<|bE h fun o9 ho9 h=>WC.block (WC.loop (WL.n4 ho9 (fun s R' B'=>hY prog 2 (A R' B') (av.at_ 278 2 2)=some (A [(1,.clo 279 [.ptr 0 0,.ptr 1 0]),(5,rI s.1),(6,rI s.2)] [(0,.var (aq.rc d0)),(1,.var [rI d1])])) (fun o e R' B'=>e= .exit 0∧hY prog 2 (A R' B') (av.at_ 278 2 7)=some (A [(5,rI o)] [(0,.var (aq.rc d0)),(1,.var [rI d1])])) rfl ?_ ?_))
 ·rintro⟨s1,s2⟩ R' B' q4 hI h
  refine qS<|gS rfl hI<|sM rfl<|sM rfl<|sF h (fun h=>?_) fun h=>?_
  ·refine sN<|cT<|qK<|qB<|gS rfl rfl<|sM rfl<|sM rfl<|sV (rI (rW (s1+s2)))<|sV (.d (.int .u64 (IntKind.wrap .u64 (rW (s1+s2)))))<|sV (.d (.int .u64 (oj .u64 (IntKind.wrap .u64 (rW (s1+s2))) (1:Int))))<|sV (rI (rW (oj .u64 (IntKind.wrap .u64 (rW (s1+s2))) (1:Int))))<|sA rfl<|sN<|gS rfl rfl<|sM rfl ?_
   refine sM rfl<|bE h fun x6 hx6 h=>cR (rB x6) [(0,.var (aq.rc d0)),(1,.var [rI d1])] (lQ hx6)<|sF h (fun h=>?_) fun h=>?_
   ·refine sN<|cT<|WC.region rfl rfl<|sM rfl<|sV (rI (rW ((rW (oj .u64 (IntKind.wrap .u64 (rW (s1+s2))) (1:Int)))+(1:Int))))<|sA rfl<|sN ?_
    cases oI h
    exact⟨rfl,rfl⟩
   refine sN<|cF<|WC.region rfl rfl<|sM rfl<|sA rfl<|sN ?_
   cases oI h
   exact⟨rfl,rfl⟩
  refine sN<|cF<|qX ?_
  cases oI h
  exact⟨nofun,rfl,rfl⟩
 intro e R' B' he hq
 obtain⟨rfl,hI⟩:=hq
 refine qE<|gS rfl hI<|sM rfl<|sA rfl<|sN<|qR ?_
 exact oI h▸qD
theorem kP{a0:aq}{a1:Int}{a2:Int}{r:Int×Int×Int}(h:bI a0 a1 a2=some r):EvP prog av ext 191 [.d (aq.pd a0),rI a1,rI a2] [] (.tup [rI r.1,rI r.2.1,rI r.2.2],[]):=by
 refine Ev.body rfl Tryz.func191 rfl (by kernel_rfl)<|gS rfl rfl<|sB (.ptr 48 0) 48 (.var (aq.rc a0))<|sV (r0)<|sV (r0)<|sV (r0)<|sN<|qS<|gS rfl rfl<|sV (.d (aq.pd a0))<|bE h fun x1 hx1 h=>cD (df hx1)<|sF h (fun h=>?_) fun h=>?_
 ·refine sN<|cT<|gS rfl rfl<|sV (r0)<|sV (r0)<|sV (rI 21)<|sN<|qR ?_
  exact oI h▸qD
 refine sN<|cF<|qK<|qS<|gS rfl rfl<|sM rfl<|sF h (fun h=>?_) fun h=>?_
 ·refine sM rfl<|k3<|sT<|sN<|cT<|gS rfl rfl<|sV (r0)<|sV (r0)<|sV (rI 2)<|sN<|qR ?_
  exact oI h▸qD
 refine sM rfl<|sM rfl<|sM rfl<|sV (rB (decide (a1>a2)))<|sF h (fun h=>?_) fun h=>?_
 ·refine sN<|cT<|gS rfl rfl<|sV (r0)<|sV (r0)<|sV (rI 2)<|sN<|qR ?_
  exact oI h▸qD
 refine sN<|cF<|qK<|gS rfl rfl<|sM rfl<|bE h fun x5 hx5 h=>cD (geometry_Ceil_ev hx5)<|sB (.ptr 144 0) 144 (.var [r0])<|sS 144 (.var [rI x5])<|sN<|qS<|WC.cI rfl rfl<|sL rfl<|sV (.d (aq.pd a0))<|bE h fun x6 hx6 h=>?_
 refine cD (travel_reach_ev hx6)<|sF h (fun h=>?_) fun h=>?_
 ·refine sN<|sO<|cT<|gS rfl rfl<|sV (r0)<|sV (r0)<|sV (rI 22)<|sN<|qR ?_
  exact oI h▸qD
 refine sN<|sO<|cF<|qK<|gS rfl rfl<|sV (.ptr 48 2)<|sL rfl<|sE (rI (a0.az.length:Int)) (nT _ _)<|sV (.clo 279 [.ptr 48 0,.ptr 144 0])<|bE h fun x8 hx8 h=>cR (rI x8) [(48,.var (aq.rc a0)),(144,.var [rI x5])] (mU hx8)<|sA rfl<|sN<|WC.cI rfl rfl<|sV (.ptr 48 1)<|sL rfl ?_
 refine sM rfl<|bE h fun x9 hx9 h=>cD (kB hx9)<|sV (.ptr 48 0)<|sL rfl<|bE h fun x10 hx10 h=>WO.ru hx10 rfl rfl rfl rfl rfl rfl<|bE h fun x11 hx11 h=>eG hx11 rfl<|sC rfl<|sV (.ptr 48 2)<|sL rfl<|sM rfl<|bE h fun x12 hx12 h=>eG hx12 rfl ?_
 refine sC rfl<|sA rfl<|sA rfl<|sV (r0) ?_
 refine sN<|sO<|qR ?_
 exact oI h▸qD
theorem nz{a0:aq}{a1:ag}{a2:aa}{r:Int×Int×Int}(h:cL a0 a1 a2=some r):EvP prog av ext 246 [.d (aq.pd a0),.d (ag.pd a1),.d (aa.pd a2)] [] (.tup [rI r.1,rI r.2.1,rI r.2.2],[]):=by
 refine Ev.body rfl Tryz.func246 rfl (by kernel_rfl)<|gS rfl rfl<|sB (.ptr 48 0) 48 (.var (aq.rc a0))<|sB (.ptr 64 0) 64 (.var (ag.rc a1))<|sB (.ptr 80 0) 80 (.var (aa.rc a2))<|sV (r0)<|sV (r0)<|sV (r0)<|sN<|qS<|gS rfl rfl<|sV (.d (aq.pd a0))<|bE h fun x1 hx1 h=>cD (df hx1)<|sA rfl ?_
 refine sN<|gS rfl rfl<|sM rfl<|sF h (fun h=>?_) fun h=>?_
 ·refine sN<|cT<|gS rfl rfl<|sM rfl<|sV (r0)<|sV (r0)<|sA rfl<|sN<|qR ?_
  exact oI h▸qD
 refine sN<|cF<|qK<|qS<|gS rfl rfl<|sV (.d (ag.pd a1))<|bE h fun x3 hx3 h=>cD (bh hx3)<|sF h (fun h=>?_) fun h=>?_
 ·refine sM rfl<|k3<|sT<|sN<|cT<|gS rfl rfl<|sV (r0)<|sV (r0)<|sV (rI 20)<|sN<|qR ?_
  exact oI h▸qD
 refine sM rfl<|sV (.d (aa.pd a2))<|bE h fun x5 hx5 h=>cD (cq hx5)<|sV (rB (!x5))<|sF h (fun h=>?_) fun h=>?_
 ·refine sN<|cT<|gS rfl rfl<|sV (r0)<|sV (r0)<|sV (rI 20)<|sN<|qR ?_
  exact oI h▸qD
 refine sN<|cF<|qK<|gS rfl rfl<|sV (.d (aq.pd a0))<|sV (.d (ag.pd a1))<|sV (.d (aa.pd a2))<|bE h fun x7 hx7 h=>cR (.tup [.d (aq.pd x7.1),rI x7.2.1,rI x7.2.2]) [] (bound_squares_ev hx7)<|sV (.d (aq.pd x7.1))<|sV (rI x7.2.1)<|sV (rI x7.2.2)<|bE h fun x8 hx8 h=>cR (.tup [rI x8.1,rI x8.2.1,rI x8.2.2]) [] (kP hx8)<|sV (rI x8.1) ?_
 refine sV (rI x8.2.1)<|sV (rI x8.2.2)<|sA rfl<|sA rfl<|sA rfl<|sN<|qR ?_
 exact oI h▸qD
theorem jb{a0:aq}{a1:ag}{a2:aC}{r:al×Int}(h:cf a0 a1 a2=some r):EvP prog av ext 158 [.d (aq.pd a0),.d (ag.pd a1),.d (aC.pd a2)] [] (.tup [.d (al.pd r.1),rI r.2],[]):=by
 refine Ev.body rfl Tryz.func158 rfl (by kernel_rfl)<|gS rfl rfl<|sB (.ptr 48 0) 48 (.var (aq.rc a0))<|sB (.ptr 64 0) 64 (.var (ag.rc a1))<|sB (.ptr 80 0) 80 (.var (aC.rc a2))<|sB (.ptr 96 0) 96 (.var [r0,r0])<|sV (r0)<|sN<|qS<|gS rfl rfl<|sV (.d (aq.pd a0))<|bE h fun x1 hx1 h=>cD (df hx1)<|sA rfl<|sN ?_
 refine gS rfl rfl<|sM rfl<|sF h (fun h=>?_) fun h=>?_
 ·refine sN<|cT<|gS rfl rfl<|sV (.d (al.pd (al.mk 0 0)))<|sM rfl<|sS 96 (.var [r0,r0])<|sA rfl<|sN<|qR ?_
  exact oI h▸qD
 refine sN<|cF<|qK<|qS<|gS rfl rfl<|sV (.d (ag.pd a1))<|bE h fun x3 hx3 h=>cD (bh hx3)<|sF h (fun h=>?_) fun h=>?_
 ·refine sN<|cT<|gS rfl rfl<|sV (.d (al.pd (al.mk 0 0)))<|sS 96 (.var [r0,r0])<|sV (rI 20)<|sN<|qR ?_
  exact oI h▸qD
 refine sN<|cF<|qK<|qS<|gS rfl rfl<|sV (.d (aC.pd a2))<|bE h fun x5 hx5 h=>cD (mL hx5)<|sF h (fun h=>?_) fun h=>?_
 ·refine sN<|cT<|gS rfl rfl<|sV (.d (al.pd (al.mk 0 0)))<|sS 96 (.var [r0,r0])<|sV (rI 23)<|sN<|qR ?_
  exact oI h▸qD
 refine sN<|cF<|qK<|gS rfl rfl<|sV (.d (aq.pd a0))<|sV (.d (ag.pd a1))<|sV (.ptr 80 0)<|sV (.d (aa.pd a2.aM))<|bE h fun x7 hx7 h=>cR (.tup [rI x7.1,rI x7.2.1,rI x7.2.2]) [] (nz hx7)<|sM rfl<|sV (rI x7.1)<|sV (rI x7.2.1)<|sV (rI x7.2.2)<|sA rfl ?_
 refine sA rfl<|sA rfl<|sN<|qS<|gS rfl rfl<|sM rfl<|sF h (fun h=>?_) fun h=>?_
 ·refine sN<|cT<|gS rfl rfl<|sV (.d (al.pd (al.mk 0 0)))<|sM rfl<|sS 96 (.var [r0,r0])<|sA rfl<|sN<|qR ?_
  exact oI h▸qD
 refine sN<|cF<|qK<|gS rfl rfl<|sV (.ptr 80 3)<|sL rfl<|sM rfl<|sV (rI (rW (a2.a8-x7.2.1)))<|sV (.ptr 80 4)<|sL rfl<|sM rfl<|sV (rI (rW (a2.bF-x7.1)))<|sV (.d (al.pd (al.mk (rW (a2.a8-x7.2.1)) (rW (a2.bF-x7.1)))))<|sS 96 (.var [rI (rW (a2.a8-x7.2.1)),rI (rW (a2.bF-x7.1))])<|sV (r0) ?_
 refine sN<|qR ?_
 exact oI h▸qD
theorem lY{a0:aV}{a1:(List aC)}{r:Int}(h:fg a0 a1=some r):EvP prog av ext 118 [.d (aV.pd a0),rM aC.pd a1] [] (rI r,[]):=by
 refine Ev.body rfl Tryz.func118 rfl (by kernel_rfl)<|gS rfl rfl<|sB (.ptr 32 0) 32 (.var (aV.rc a0))<|sV (r0)<|sN<|qS<|gS rfl rfl<|sV (.ptr 32 0)<|sV (.d (ag.pd a0.aG))<|bE h fun x1 hx1 h=>cD (bh hx1)<|sF h (fun h=>?_) fun h=>?_
 ·refine sM rfl<|k3<|sK<|sT<|sM rfl<|k3<|sK<|sT<|sM rfl<|sK<|sK ?_
  refine sK<|sK<|sT<|sM rfl<|k3<|sK<|sT<|sM rfl<|k3<|sK<|sT ?_
  refine sM rfl<|k3<|sK<|sT<|sN<|cT<|gS rfl rfl<|sV (rI 27)<|sN<|qR ?_
  cases oI h
  exact qG
 refine sM rfl<|sV (.ptr 32 6)<|sV (.d (aq.pd a0.aS))<|bE h fun x3 hx3 h=>cD (df hx3)<|sV (rB (x3 != (0:Int)))<|sF h (fun h=>?_) fun h=>?_
 ·refine sM rfl<|k3<|sK<|sT<|sM rfl<|k3<|sK<|sT<|sM rfl<|sK<|sK ?_
  refine sK<|sK<|sT<|sM rfl<|k3<|sK<|sT<|sM rfl<|k3<|sK<|sT ?_
  refine sN<|cT<|gS rfl rfl<|sV (rI 27)<|sN<|qR ?_
  cases oI h
  exact qG
 refine sM rfl<|sV (.ptr 32 9)<|sL rfl<|bE h fun x5 hx5 h=>cD (fC hx5)<|sV (rB (!x5))<|sF h (fun h=>?_) fun h=>?_
 ·refine sM rfl<|k3<|sK<|sT<|sM rfl<|k3<|sK<|sT<|sM rfl<|sK<|sK ?_
  refine sK<|sK<|sT<|sM rfl<|k3<|sK<|sT<|sN<|cT<|gS rfl rfl<|sV (rI 27)<|sN<|qR ?_
  cases oI h
  exact qG
 refine sM rfl<|sV (.ptr 32 10)<|sL rfl<|bE h fun x7 hx7 h=>cD (fC hx7)<|sV (rB (!x7))<|sF h (fun h=>?_) fun h=>?_
 ·refine sM rfl<|k3<|sK<|sT<|sM rfl<|k3<|sK<|sT<|sM rfl<|sK<|sK ?_
  refine sK<|sK<|sT<|sN<|cT<|gS rfl rfl<|sV (rI 27)<|sN<|qR ?_
  cases oI h
  exact qG
 refine sM rfl<|sV (.ptr 32 12)<|sL rfl<|bE h fun x9 hx9 h=>cD (fC hx9)<|sV (rB (!x9))<|sF h (fun h=>?_) fun h=>?_
 ·refine sM rfl<|k3<|sK<|sT<|sM rfl<|k3<|sK<|sT<|sN<|cT<|gS rfl rfl ?_
  refine sV (rI 27)<|sN<|qR ?_
  cases oI h
  exact qG
 refine sM rfl<|sV (.ptr 32 11)<|sL rfl<|bE h fun x11 hx11 h=>cD (fC hx11)<|sV (rB (!x11))<|sF h (fun h=>?_) fun h=>?_
 ·refine sM rfl<|k3<|sK<|sT<|sN<|cT<|gS rfl rfl<|sV (rI 27)<|sN<|qR ?_
  cases oI h
  exact qG
 refine sM rfl<|sV (.ptr 32 13)<|sL rfl<|bE h fun x13 hx13 h=>cD (fC hx13)<|sV (rB (!x13))<|sF h (fun h=>?_) fun h=>?_
 ·refine sN<|cT<|gS rfl rfl<|sV (rI 27)<|sN<|qR ?_
  cases oI h
  exact qG
 refine sN<|cF<|qK<|qS<|gS rfl rfl<|sM rfl<|sE (rI (a1.length:Int)) (nT _ _)<|sF h (fun h=>?_) fun h=>?_
 ·refine sN<|cT<|gS rfl rfl<|sV (rI 8)<|sN<|qR ?_
  cases oI h
  exact qG
 refine sN<|cF<|qK<|qS<|gS rfl rfl<|sM rfl<|sE (rI (a1.length:Int)) (nT _ _)<|sV (r0)<|sN<|bE h fun o23 ho23 h=>WC.block (WC.loop (WL.n4 ho23 (fun s R' B'=>hY prog 0 (A R' B') (av.at_ 118 0 6)=some (A [(2,.ptr 32 0),(52,rM aC.pd a1),(53,rI (a1.length:Int)),(54,rI s)] [(32,.var (aV.rc a0))])) (fun o e R' B'=>match o with| .inl y=>e= .exit 0∧hY prog 0 (A R' B') (av.at_ 118 0 12)=some (A [] [])| .inr r=>e= .ret∧finish prog (av.own 118) Tryz.f118 0 (A R' B')=some (rI r,[])) rfl ?_ ?_))
 ·rintro s16 R' B' q17 hI h
  refine gS rfl hI<|sF h (fun h=>?_) fun h=>?_
  ·refine sN<|qS<|cT<|qK<|qS<|qB<|gS rfl rfl<|bE h fun x19 hx19 h=>eG hx19 rfl<|sV (.d (aC.pd x19))<|sB (.ptr 96 0) 96 (.var zZ4)<|sH 96 (.var (aC.rc x19))<|sN<|gS rfl rfl<|sV (.ptr 32 6) ?_
   refine sV (.d (aq.pd a0.aS))<|sV (.ptr 32 0)<|sV (.d (ag.pd a0.aG))<|sV (.d (aC.pd x19))<|bE h fun x20 hx20 h=>cR (.tup [.d (al.pd x20.1),rI x20.2]) [] (jb hx20)<|sM rfl<|sV (.d (al.pd x20.1))<|sV (rI x20.2)<|sB (.ptr 112 0) 112 (.var [r0,r0])<|sS 112 (.var [rI x20.1.aT,rI x20.1.fTo])<|sA rfl<|sN<|gS rfl rfl<|sM rfl ?_
   refine sF h (fun h=>?_) fun h=>?_
   ·refine sN<|cT<|gS rfl rfl<|sM rfl<|sA rfl<|sN<|qR ?_
    cases oI h
    exact⟨nofun,rfl,rfl⟩
   refine sN<|cF<|qK<|WC.region rfl rfl<|sV (rI (rW (s16+(1:Int))))<|sM rfl<|sN ?_
   cases oI h
   exact⟨rfl,rfl⟩
  refine sN<|qS<|cF<|qX ?_
  cases oI h
  exact⟨nofun,rfl,rfl⟩
 intro e R' B' he hq
 rcases o23 with y24|r25
 ·obtain⟨rfl,hI⟩:=hq
  refine qE<|gS rfl hI<|sV (r0)<|sN<|qR ?_
  exact oI h▸qD
 obtain⟨rfl,hf⟩:=hq
 cases oI h
 exact hf
theorem hX{a0:ba}{r:Bool}(h:ch a0=some r):EvP prog av ext 119 [.d (ba.pd a0)] [] (rB r,[]):=by
 refine Ev.body rfl Tryz.func119 rfl (by kernel_rfl)<|gS rfl rfl<|sB (.ptr 16 0) 16 (.var (ba.rc a0))<|sU<|sN<|gS rfl rfl<|sV (.ptr 16 0)<|sV (.d (aq.pd a0.bL))<|bE h fun x1 hx1 h=>cD (df hx1)<|sF h (fun h=>?_) fun h=>?_
 ·refine sM rfl<|sV (.ptr 16 3)<|sL rfl<|sV (rB (decide (a0.bo>=(0:Int))))<|sF h (fun h=>?_) fun h=>?_
  ·refine sM rfl<|sV (.ptr 16 3)<|sL rfl<|sV (rB (decide (a0.bo<=(65536:Int))))<|sF h (fun h=>?_) fun h=>?_
   ·refine sM rfl<|sV (.ptr 16 4)<|sL rfl<|sV (rB (decide (a0.bf>=(1:Int))))<|sF h (fun h=>?_) fun h=>?_
    ·refine sM rfl<|sV (.ptr 16 4)<|sL rfl<|sV (rB (decide (a0.bf<=(65536:Int))))<|sV (rB (decide (a0.bf<=(65536:Int))))<|sA rfl<|sN<|qR ?_
     exact oI h▸qD
    refine sM rfl<|k3<|sU<|sA rfl<|sN<|qR ?_
    exact oI h▸qD
   refine sM rfl<|k3<|sU<|sM rfl<|k3<|sU<|sA rfl<|sN<|qR ?_
   exact oI h▸qD
  refine sM rfl<|k3<|sU<|sM rfl<|k3<|sU<|sM rfl<|k3<|sU ?_
  refine sA rfl<|sN<|qR ?_
  exact oI h▸qD
 refine sM rfl<|k3<|sU<|sM rfl<|k3<|sU<|sM rfl<|k3<|sU ?_
 refine sM rfl<|k3<|sU<|sA rfl<|sN<|qR ?_
 exact oI h▸qD
theorem jn{a0:aw}{r:Int}(h:eE a0=some r):EvP prog av ext 60 [.d (aw.pd a0)] [] (rI r,[]):=by
 refine Ev.body rfl Tryz.func60 rfl (by kernel_rfl)<|gS rfl rfl<|sB (.ptr 16 0) 16 (.var (aw.rc a0))<|sV (r0)<|sN<|qS<|gS rfl rfl<|sV (.ptr 16 0)<|sV (.d (aV.pd a0.aA))<|bE h fun x1 hx1 h=>cD (lY hx1)<|sF h (fun h=>?_) fun h=>?_
 ·refine sM rfl<|k3<|sK<|sT<|sM rfl<|k3<|sT<|sM rfl<|sK<|sK<|sK ?_
  refine sT<|sN<|cT<|gS rfl rfl<|sV (rI 27)<|sN<|qR ?_
  cases oI h
  exact qG
 refine sM rfl<|sV (.ptr 16 14)<|sV (.d (ba.pd a0.dY))<|bE h fun x3 hx3 h=>cD (hX hx3)<|sV (rB (!x3))<|sF h (fun h=>?_) fun h=>?_
 ·refine sM rfl<|k3<|sT<|sM rfl<|k3<|sT<|sN<|cT<|gS rfl rfl<|sV (rI 27)<|sN ?_
  refine qR ?_
  cases oI h
  exact qG
 refine sM rfl<|sV (.ptr 16 19)<|sL rfl<|sV (rB (decide (a0.bJ<(0:Int))))<|sF h (fun h=>?_) fun h=>?_
 ·refine sM rfl<|k3<|sT<|sN<|cT<|gS rfl rfl<|sV (rI 27)<|sN<|qR ?_
  cases oI h
  exact qG
 refine sM rfl<|sV (.ptr 16 19)<|sL rfl<|sV (rB (decide (a0.bJ>(1099511627776:Int))))<|sF h (fun h=>?_) fun h=>?_
 ·refine sN<|cT<|gS rfl rfl<|sV (rI 27)<|sN<|qR ?_
  cases oI h
  exact qG
 refine sN<|cF<|qK<|gS rfl rfl<|sV (r0)<|sN<|qR ?_
 cases oI h
 exact qG
theorem source_plain_ev{a0:Int}{r:Bool}(h:jK a0=some r):EvP prog av ext 307 [.d (.int .u8 a0)] [] (rB r,[]):=by
 refine Ev.body rfl Tryz.func307 rfl (by kernel_rfl)<|gS rfl rfl<|sU<|sN<|gS rfl rfl<|sM rfl<|sF h (fun h=>?_) fun h=>?_
 ·refine sM rfl<|sM rfl<|sV (rB (decide (a0<=(90:Int))))<|sF h (fun h=>?_) fun h=>?_
  ·refine sM rfl<|k3<|k3<|sT<|sA rfl<|sN<|qR ?_
   exact oI h▸qD
  refine sM rfl<|sM rfl<|sF h (fun h=>?_) fun h=>?_
  ·refine sM rfl<|sM rfl<|sV (rB (decide (a0<=(57:Int))))<|sV (rB (decide (a0<=(57:Int))))<|sV (rB (decide (a0<=(57:Int))))<|sA rfl<|sN<|qR ?_
   exact oI h▸qD
  refine sM rfl<|sK<|sK<|sU<|sU<|sA rfl<|sN<|qR ?_
  exact oI h▸qD
 refine sM rfl<|sK<|sK<|sU<|sM rfl<|sM rfl<|sF h (fun h=>?_) fun h=>?_
 ·refine sM rfl<|sM rfl<|sV (rB (decide (a0<=(57:Int))))<|sV (rB (decide (a0<=(57:Int))))<|sV (rB (decide (a0<=(57:Int))))<|sA rfl<|sN<|qR ?_
  exact oI h▸qD
 refine sM rfl<|sK<|sK<|sU<|sU<|sA rfl<|sN<|qR ?_
 exact oI h▸qD
theorem ge{a0:(List UInt8)}{a1:Int}{a2:Int}{r:Bool}(h:eF a0 a1 a2=some r):EvP prog av ext 241 [rS a0,rI a1,rI a2] [] (rB r,[]):=by
 refine Ev.body rfl Tryz.func241 rfl (by kernel_rfl)<|gS rfl rfl<|sU<|sN<|qS<|gS rfl rfl<|sM rfl<|sV (rI (a0.length:Int))<|sV (r0)<|sN<|bE h fun o8 ho8 h=>WC.block (WC.loop (WL.n4 ho8 (fun s R' B'=>hY prog 0 (A R' B') (av.at_ 241 0 2)=some (A [(0,rS a0),(1,rI a1),(2,rI a2),(9,rI (a0.length:Int)),(10,rI s)] [])) (fun o e R' B'=>match o with| .inl y=>e= .exit 0∧hY prog 0 (A R' B') (av.at_ 241 0 7)=some (A [(0,rS a0),(1,rI a1),(2,rI a2)] [])| .inr r=>e= .ret∧finish prog (av.own 241) Tryz.f241 0 (A R' B')=some (rB r,[])) rfl ?_ ?_))
 ·rintro s1 R' B' q2 hI h
  refine gS rfl hI<|sF h (fun h=>?_) fun h=>?_
  ·refine sN<|qS<|cT<|qK<|qS<|qB<|gS rfl rfl<|sM rfl<|sA rfl<|sN<|gS rfl rfl<|sM rfl<|sM rfl<|bE h fun x4 hx4 h=>WO.byteG hx4 rfl rfl rfl rfl rfl rfl ?_
   refine bE h fun x5 hx5 h=>cD (source_plain_ev hx5)<|sF h (fun h=>?_) fun h=>?_
   ·refine sN<|cT<|gS rfl rfl<|sU<|sN<|qR ?_
    cases oI h
    exact⟨nofun,rfl,rfl⟩
   refine sN<|cF<|qK<|WC.region rfl rfl<|sV (rI (rW (s1+(1:Int))))<|sM rfl<|sN ?_
   cases oI h
   exact⟨rfl,rfl⟩
  refine sN<|qS<|cF<|qX ?_
  cases oI h
  exact⟨nofun,rfl,rfl⟩
 intro e R' B' he hq
 rcases o8 with y9|r10
 ·obtain⟨rfl,hI⟩:=hq
  refine qE<|gS rfl hI<|sM rfl<|sV (rI (a0.length:Int))<|sM rfl<|sF h (fun h=>?_) fun h=>?_
  ·refine sM rfl<|sM rfl<|sV (rI (a0.length:Int))<|sM rfl<|sV (rB (decide ((a0.length:Int)<=a2)))<|sV (rB (decide ((a0.length:Int)<=a2)))<|sA rfl<|sN<|qR ?_
   exact oI h▸qD
  refine sM rfl<|k3<|sK<|sU<|sA rfl<|sN<|qR ?_
  exact oI h▸qD
 obtain⟨rfl,hf⟩:=hq
 cases oI h
 exact hf
theorem jx{a0:ap}{r:Bool}(h:fB a0=some r):EvP prog av ext 155 [.d (ap.pd a0)] [] (rB r,[]):=by
 refine Ev.body rfl Tryz.func155 rfl (by kernel_rfl)<|gS rfl rfl<|sB (.ptr 16 0) 16 (.var (ap.rc a0))<|sU<|sN<|gS rfl rfl<|sV (.ptr 16 0)<|sL rfl<|bE h fun x1 hx1 h=>oz h (fun hb2 h=>?_) (fun hb2 h=>?_)
 ·refine WO.oM (v:=rB true) (u:=[]) rfl rfl (fun _=>rfl) rfl rfl rfl rfl rfl (ge hx1) rfl rfl (congrArg (fun b=>RV.d (.bool b)) hb2) rfl<|sM rfl<|sV (.ptr 16 1)<|sL rfl<|bE h fun x3 hx3 h=>cD (ge hx3)<|sF h (fun h=>?_) fun h=>?_
  ·refine sM rfl<|sV (.ptr 16 2)<|sL rfl<|bE h fun x5 hx5 h=>cD (ge hx5)<|sF h (fun h=>?_) fun h=>?_
   ·refine sM rfl<|sV (.ptr 16 2)<|sL rfl<|sV (rI (a0.aK.length:Int))<|sV (rB ((a0.aK.length:Int) != (1:Int)))<|sF h (fun h=>?_) fun h=>?_
    ·refine sM rfl<|sV (.ptr 16 3)<|sL rfl<|bE h fun x8 hx8 h=>cD (ge hx8)<|sV (rB x8)<|sA rfl<|sN<|qR ?_
     exact oI h▸qD
    refine sM rfl<|k3<|sU<|sA rfl<|sN<|qR ?_
    exact oI h▸qD
   refine sM rfl<|k3<|sK<|sU<|sM rfl<|k3<|sU<|sA rfl<|sN<|qR ?_
   exact oI h▸qD
  refine sM rfl<|k3<|sU<|sM rfl<|k3<|sK<|sU<|sM rfl<|sK<|sK<|sK ?_
  refine sU<|sA rfl<|sN<|qR ?_
  exact oI h▸qD
 refine WO.oM (v:=rB false) (u:=[]) rfl rfl (fun _=>rfl) rfl rfl rfl rfl rfl (ge hx1) rfl rfl (congrArg (fun b=>RV.d (.bool b)) hb2) rfl<|sM rfl<|k3<|sU<|sM rfl<|k3<|sU<|sM rfl<|sK<|sK<|sK ?_
 refine sK<|sU<|sM rfl<|k3<|sU<|sA rfl<|sN<|qR ?_
 exact oI h▸qD
theorem nm{a0:Int}{a1:Int}{a2:Int}{r:Bool}(h:mI a0 a1 a2=some r):EvP prog av ext 349 [rI a0,rI a1,rI a2] [] (rB r,[]):=by
 refine Ev.body rfl Tryz.func349 rfl (by kernel_rfl)<|gS rfl rfl<|sU<|sN<|gS rfl rfl<|sM rfl<|sM rfl<|sF h (fun h=>?_) fun h=>?_
 ·refine sM rfl<|sM rfl<|sM rfl<|sV (rB (decide (a0<=a2)))<|sV (rB (decide (a0<=a2)))<|sA rfl<|sN<|qR ?_
  exact oI h▸qD
 refine sM rfl<|k3<|sU<|sA rfl<|sN<|qR ?_
 exact oI h▸qD
theorem rate_gcd_ev{a0:Int}{a1:Int}{r:Int}(h:ml a0 a1=some r):EvP prog av ext 350 [rI a0,rI a1] [] (rI r,[]):=by
 refine Ev.body rfl Tryz.func350 rfl (by kernel_rfl)<|gS rfl rfl<|sV (r0)<|sN<|qS<|bE h fun o8 ho8 h=>WC.block (WC.loop (WL.n4 ho8 (fun s R' B'=>hY prog 0 (A R' B') (av.at_ 350 0 1)=some (A [(0,rI s.1),(1,rI s.2)] [])) (fun o e R' B'=>e= .exit 0∧hY prog 0 (A R' B') (av.at_ 350 0 3)=some (A [(0,rI o)] [])) rfl ?_ ?_))
 ·rintro⟨s1,s2⟩ R' B' q4 hI h
  refine qS<|gS rfl hI<|sM rfl<|sF h (fun h=>?_) fun h=>?_
  ·refine sN<|cT<|qK<|qB<|WC.oW rfl rfl<|sM rfl<|sM rfl<|sM rfl<|bE h fun x6 hx6 h=>WO.remG hx6 rfl rfl rfl rfl rfl rfl<|sA rfl<|sA rfl ?_
   refine sN<|sO ?_
   cases oI h
   exact⟨rfl,rfl⟩
  refine sN<|cF<|qX ?_
  cases oI h
  exact⟨nofun,rfl,rfl⟩
 intro e R' B' he hq
 obtain⟨rfl,hI⟩:=hq
 refine qE<|gS rfl hI<|sM rfl<|sA rfl<|sN<|qR ?_
 exact oI h▸qD
theorem rate_Valid_ev{a0:aX}{r:Bool}(h:iQ a0=some r):EvP prog av ext 308 [.d (aX.pd a0)] [] (rB r,[]):=by
 refine Ev.body rfl Tryz.func308 rfl (by kernel_rfl)<|gS rfl rfl<|sB (.ptr 16 0) 16 (.var [rI a0.bo,rI a0.bf])<|sU<|sN<|gS rfl rfl<|sV (.ptr 16 0)<|sL rfl<|bE h fun x1 hx1 h=>oz h (fun hb2 h=>?_) (fun hb2 h=>?_)
 ·refine WO.oM (v:=rB true) (u:=[]) rfl rfl (fun _=>rfl) rfl rfl rfl rfl rfl (nm hx1) rfl rfl (congrArg (fun b=>RV.d (.bool b)) hb2) rfl<|sM rfl<|sV (.ptr 16 1)<|sL rfl<|bE h fun x3 hx3 h=>cD (nm hx3)<|sF h (fun h=>?_) fun h=>?_
  ·refine sM rfl<|sV (.ptr 16 0)<|sL rfl<|sV (.ptr 16 1)<|sL rfl<|bE h fun x5 hx5 h=>cD (rate_gcd_ev hx5)<|sV (rB (x5==(1:Int)))<|sV (rB (x5==(1:Int)))<|sA rfl<|sN<|qR ?_
   exact oI h▸qD
  refine sM rfl<|k3<|k3<|sU<|sA rfl<|sN<|qR ?_
  exact oI h▸qD
 refine WO.oM (v:=rB false) (u:=[]) rfl rfl (fun _=>rfl) rfl rfl rfl rfl rfl (nm hx1) rfl rfl (congrArg (fun b=>RV.d (.bool b)) hb2) rfl<|sM rfl<|k3<|sU<|sM rfl<|k3<|k3<|sU<|sA rfl ?_
 refine sN<|qR ?_
 exact oI h▸qD
theorem bR{a0:Int}{a1:Int}{a2:Int}{r:Bool}(h:a7 a0 a1 a2=some r):EvP prog av ext 335 [rI a0,rI a1,rI a2] [] (rB r,[]):=by
 refine Ev.body rfl Tryz.func335 rfl (by kernel_rfl)<|gS rfl rfl<|sU<|sN<|gS rfl rfl<|sM rfl<|sM rfl<|sF h (fun h=>?_) fun h=>?_
 ·refine sM rfl<|sM rfl<|sM rfl<|sV (rB (decide (a0<=a2)))<|sV (rB (decide (a0<=a2)))<|sA rfl<|sN<|qR ?_
  exact oI h▸qD
 refine sM rfl<|k3<|sU<|sA rfl<|sN<|qR ?_
 exact oI h▸qD
theorem iB{a0:Int}{r:Bool}(h:gA a0=some r):EvP prog av ext 413 [rI a0] [] (rB r,[]):=by
 refine Ev.body rfl Tryz.func413 rfl (by kernel_rfl)<|gS rfl rfl<|sU<|sN<|gS rfl rfl<|sM rfl<|bE h fun x1 hx1 h=>cD (bR hx1)<|sV (rB (!x1))<|sA rfl<|sN<|qR ?_
 exact oI h▸qD
theorem jv{a0:(List Int)}{r:Int}(h:co a0=some r):EvP prog av ext 421 [rL a0,.d (.raw (.func (.func 413) #[] #[]))] [] (rI r,[]):=by
 refine Ev.body rfl Tryz.func421 rfl (by kernel_rfl)<|gS rfl rfl<|sV (r0)<|sN<|qS<|gS rfl rfl<|sM rfl<|sE (rI (a0.length:Int)) (nT _ _)<|sV (r0)<|sN<|bE h fun o8 ho8 h=>WC.block (WC.loop (WL.n4 ho8 (fun s R' B'=>hY prog 0 (A R' B') (av.at_ 421 0 2)=some (A [(0,rL a0),(1,.d (.raw (.func (.func 413) #[] #[]))),(7,rI (a0.length:Int)),(8,rI s)] [])) (fun o e R' B'=>match o with| .inl y=>e= .exit 0∧hY prog 0 (A R' B') (av.at_ 421 0 7)=some (A [] [])| .inr r=>e= .ret∧finish prog (av.own 421) Tryz.f421 0 (A R' B')=some (rI r,[])) rfl ?_ ?_))
 ·rintro s1 R' B' q2 hI h
  refine gS rfl hI<|sF h (fun h=>?_) fun h=>?_
  ·refine sN<|qS<|cT<|qK<|qS<|qB<|gS rfl rfl<|sM rfl<|sA rfl<|sN<|gS rfl rfl<|sM rfl<|sM rfl<|sM rfl<|bE h fun x4 hx4 h=>?_
   refine eG hx4 rfl<|sC rfl<|bE h fun x5 hx5 h=>oz h (fun hb6 h=>?_) (fun hb6 h=>?_)
   ·refine WO.oM (v:=rB true) (u:=[]) rfl rfl (fun _=>rfl) rfl rfl rfl rfl rfl (iB hx5) rfl rfl (congrArg (fun b=>RV.d (.bool b)) hb6) rfl<|sN<|cT<|gS rfl rfl<|sM rfl<|sA rfl<|sN<|qR ?_
    cases oI h
    exact⟨nofun,rfl,rfl⟩
   refine WO.oM (v:=rB false) (u:=[]) rfl rfl (fun _=>rfl) rfl rfl rfl rfl rfl (iB hx5) rfl rfl (congrArg (fun b=>RV.d (.bool b)) hb6) rfl<|sN<|cF<|qK<|WC.region rfl rfl<|sV (rI (rW (s1+(1:Int))))<|sM rfl<|sN ?_
   cases oI h
   exact⟨rfl,rfl⟩
  refine sN<|qS<|cF<|qX ?_
  cases oI h
  exact⟨nofun,rfl,rfl⟩
 intro e R' B' he hq
 rcases o8 with y9|r10
 ·obtain⟨rfl,hI⟩:=hq
  refine qE<|gS rfl hI<|sV (rI (-1))<|sN<|qR ?_
  exact oI h▸qD
 obtain⟨rfl,hf⟩:=hq
 cases oI h
 exact hf
theorem iF{a0:(List Int)}{r:Bool}(h:bX a0=some r):EvP prog av ext 412 [rL a0,.d (.raw (.func (.func 413) #[] #[]))] [] (rB r,[]):=by
 refine Ev.body rfl Tryz.func412 rfl (by kernel_rfl)<|gS rfl rfl<|sU<|sN<|gS rfl rfl<|sM rfl<|sM rfl<|bE h fun x1 hx1 h=>cD (jv hx1)<|sV (rB (decide (x1>=(0:Int))))<|sA rfl<|sN<|qR ?_
 exact oI h▸qD
theorem eC{a0:(List Int)}{r:Bool}(h:bT a0=some r):EvP prog av ext 394 [rL a0] [] (rB r,[]):=by
 refine Ev.body rfl Tryz.func394 rfl (by kernel_rfl)<|gS rfl rfl<|sU<|sN<|gS rfl rfl<|sM rfl<|bE h fun x1 hx1 h=>cD (iF hx1)<|sV (rB (!x1))<|sA rfl<|sN<|qR ?_
 exact oI h▸qD
theorem gQ{a0:(List Int)}{r:Int}(h:cP a0=some r):EvP prog av ext 383 [rL a0] [] (rI r,[]):=by
 refine Ev.body rfl Tryz.func383 rfl (by kernel_rfl)<|gS rfl rfl<|sV (r0)<|sN<|gS rfl rfl<|sV (r0)<|sN<|qS<|gS rfl rfl<|sM rfl<|sE (rI (a0.length:Int)) (nT _ _)<|sV (r0)<|sN<|bE h fun o8 ho8 h=>WC.block (WC.loop (WL.n4 ho8 (fun s R' B'=>hY prog 0 (A R' B') (av.at_ 383 0 3)=some (A [(3,rI s.1),(6,rL a0),(7,rI (a0.length:Int)),(8,rI s.2)] [])) (fun o e R' B'=>e= .exit 0∧hY prog 0 (A R' B') (av.at_ 383 0 7)=some (A [(3,rI o)] [])) rfl ?_ ?_))
 ·rintro⟨s1,s2⟩ R' B' q4 hI h
  refine gS rfl hI<|sF h (fun h=>?_) fun h=>?_
  ·refine sN<|qS<|cT<|qK<|qS<|qB<|gS rfl rfl<|bE h fun x6 hx6 h=>eG hx6 rfl<|sC rfl<|sA rfl<|sN<|WC.region rfl rfl<|sM rfl<|sM rfl ?_
   refine sV (rI (rW (s1+x6)))<|sA rfl<|sN<|WC.region rfl rfl<|sV (rI (rW (s2+(1:Int))))<|sM rfl<|sN ?_
   cases oI h
   exact⟨rfl,rfl⟩
  refine sN<|qS<|cF<|qX ?_
  cases oI h
  exact⟨nofun,rfl,rfl⟩
 intro e R' B' he hq
 obtain⟨rfl,hI⟩:=hq
 refine qE<|gS rfl hI<|sM rfl<|sA rfl<|sN<|qR ?_
 exact oI h▸qD
theorem lO{a0:aD}{r:Bool}(h:b7 a0=some r):EvP prog av ext 353 [.d (aD.pd a0)] [] (rB r,[]):=by
 refine Ev.body rfl Tryz.func353 rfl (by kernel_rfl)<|gS rfl rfl<|sB (.ptr 16 0) 16 (.var (aD.rc a0))<|sU<|sN<|gS rfl rfl<|sV (.ptr 16 7)<|sL rfl<|sE (rI (a0.cW.length:Int)) (nT _ _)<|sF h (fun h=>?_) fun h=>?_
 ·refine sM rfl<|sV (.ptr 16 8)<|sL rfl<|sV (rB (a0.cM==(0:Int)))<|sF h (fun h=>?_) fun h=>?_
  ·refine sM rfl<|sV (.ptr 16 9)<|sL rfl<|sV (rB (a0.c8==(0:Int)))<|sV (rB (a0.c8==(0:Int)))<|sA rfl<|sN<|qS<|gS rfl rfl<|sV (.ptr 16 0)<|sL rfl<|sN<|qB<|gS rfl rfl<|sF h (fun h=>?_) fun h=>?_
   ·refine sA rfl<|sN<|cT<|gS rfl rfl<|sF h (fun h=>?_) fun h=>?_
    ·refine sM rfl<|sV (.ptr 16 1)<|sV (.d (aO.pd a0.bo))<|sV (.ptr 16 1)<|sV (.ptr 16 1)<|sL rfl<|sV (.d (aO.pd (aO.mk a0.bo.a0 0 0)))<|WO.bin (il a0.bo (aO.mk a0.bo.a0 0 0)) rfl rfl rfl rfl rfl<|sF h (fun h=>?_) fun h=>?_
     ·refine sM rfl<|sV (.ptr 16 4)<|sV (.d (aO.pd a0.bf))<|sV (.ptr 16 4)<|sV (.ptr 16 4)<|sL rfl<|sV (.d (aO.pd (aO.mk a0.bf.a0 0 0)))<|WO.bin (il a0.bf (aO.mk a0.bf.a0 0 0)) rfl rfl rfl rfl rfl<|sF h (fun h=>?_) fun h=>?_
      ·refine sM rfl<|sV (.ptr 16 1)<|sV (.ptr 16 1)<|sL rfl<|bE h fun x7 hx7 h=>cD (bR hx7)<|sF h (fun h=>?_) fun h=>?_
       ·refine sM rfl<|sV (.ptr 16 4)<|sV (.ptr 16 4)<|sL rfl<|bE h fun x9 hx9 h=>cD (bR hx9)<|sV (rB x9)<|sA rfl<|sN<|qR ?_
        cases oI h
        exact qG
       refine sM rfl<|k3<|sK<|sU<|sA rfl<|sN<|qR ?_
       cases oI h
       exact qG
      refine sM rfl<|k3<|sK<|sU<|sM rfl<|k3<|sK<|sU<|sA rfl<|sN<|qR ?_
      cases oI h
      exact qG
     refine sM rfl<|k3<|k3<|sK<|sU<|sM rfl<|k3<|sK<|sU ?_
     refine sM rfl<|k3<|sK<|sU<|sA rfl<|sN<|qR ?_
     cases oI h
     exact qG
    refine sM rfl<|k3<|k3<|sK<|sU<|sM rfl<|k3<|sK<|sK ?_
    refine sK<|sK<|sU<|sM rfl<|k3<|sK<|sU<|sM rfl<|k3<|sK<|sU ?_
    refine sA rfl<|sN<|qR ?_
    cases oI h
    exact qG
   refine sA rfl<|sN<|cF<|gS rfl rfl<|sF h (fun h=>?_) fun h=>?_
   ·refine sA rfl<|sN<|cT<|WC.oq (R0:=[(1,.cptr [.int .i64 a0.eM,.int .i64 a0.bo.a0,.int .i64 a0.bo.a1,.int .i64 a0.bo.a2,.int .i64 a0.bf.a0,.int .i64 a0.bf.a1,.int .i64 a0.bf.a2,.lst (a0.cW.map (PD.int .i64)),.int .i64 a0.cM,.int .i64 a0.c8]),(3,rB (a0.c8==(0:Int)))]) (B0:=[]) rfl rfl<|sF h (fun h=>?_) fun h=>?_
    ·refine sM rfl<|sV (.cptr [.int .i64 a0.bo.a0,.int .i64 a0.bo.a1,.int .i64 a0.bo.a2,.int .i64 a0.bf.a0,.int .i64 a0.bf.a1,.int .i64 a0.bf.a2,.lst (a0.cW.map (PD.int .i64)),.int .i64 a0.cM,.int .i64 a0.c8])<|sV (.d (.lst ([a0.bo.a0,a0.bo.a1,a0.bo.a2].map (PD.int .i64))))<|bE h fun x12 hx12 h=>cD (eC hx12)<|sF h (fun h=>?_) fun h=>?_
     ·refine sM rfl<|sV (.cptr [.int .i64 a0.bf.a0,.int .i64 a0.bf.a1,.int .i64 a0.bf.a2,.lst (a0.cW.map (PD.int .i64)),.int .i64 a0.cM,.int .i64 a0.c8])<|sV (.d (.lst ([a0.bf.a0,a0.bf.a1,a0.bf.a2].map (PD.int .i64))))<|bE h fun x14 hx14 h=>cD (eC hx14)<|sF h (fun h=>?_) fun h=>?_
      ·refine sM rfl<|sV (.cptr [.int .i64 a0.bf.a0,.int .i64 a0.bf.a1,.int .i64 a0.bf.a2,.lst (a0.cW.map (PD.int .i64)),.int .i64 a0.cM,.int .i64 a0.c8])<|sV (.cptr [.int .i64 a0.bf.a0,.int .i64 a0.bf.a1,.int .i64 a0.bf.a2,.lst (a0.cW.map (PD.int .i64)),.int .i64 a0.cM,.int .i64 a0.c8])<|sC rfl<|sV (rB (a0.bf.a0 != (0:Int)))<|sV (rB (a0.bf.a0 != (0:Int)))<|sA rfl<|sN<|qR ?_
       exact oI h▸qD
      refine sM rfl<|k3<|sK<|sU<|sA rfl<|sN<|qR ?_
      exact oI h▸qD
     refine sM rfl<|k3<|sU<|sM rfl<|k3<|sK<|sU<|sA rfl<|sN<|qR ?_
     exact oI h▸qD
    refine sM rfl<|k3<|sU<|sM rfl<|k3<|sU<|sM rfl<|k3<|sK ?_
    refine sU<|sA rfl<|sN<|qR ?_
    exact oI h▸qD
   refine sA rfl<|sN<|cF<|gS rfl rfl<|sF h (fun h=>?_) fun h=>?_
   ·refine sA rfl<|sN<|cT<|gS rfl rfl<|sV (.ptr 16 1)<|sV (.d (aO.pd a0.bo))<|sV (.d (aO.pd (aO.mk 0 0 0)))<|oz h (fun hb17 h=>?_) (fun hb17 h=>?_)
    ·refine WO.uL (il a0.bo (aO.mk 0 0 0)) hb17 rfl rfl rfl rfl rfl<|sM rfl<|sV (.ptr 16 4)<|sV (.d (aO.pd a0.bf))<|sV (.d (aO.pd (aO.mk 0 0 0)))<|WO.bin (il a0.bf (aO.mk 0 0 0)) rfl rfl rfl rfl rfl<|sF h (fun h=>?_) fun h=>?_
     ·refine sM rfl<|sV (.ptr 16 7)<|sL rfl<|sE (rI (a0.cW.length:Int)) (nT _ _)<|bE h fun x19 hx19 h=>cD (bR hx19)<|sF h (fun h=>?_) fun h=>?_
      ·refine sM rfl<|sV (.ptr 16 7)<|sL rfl<|bE h fun x21 hx21 h=>cD (eC hx21)<|sF h (fun h=>?_) fun h=>?_
       ·refine sM rfl<|sV (.ptr 16 7)<|sL rfl<|bE h fun x23 hx23 h=>cD (gQ hx23)<|sV (rB (x23 != (0:Int)))<|sF h (fun h=>?_) fun h=>?_
        ·refine sM rfl<|sV (.ptr 16 8)<|sL rfl<|bE h fun x25 hx25 h=>cD (bR hx25)<|sF h (fun h=>?_) fun h=>?_
         ·refine sM rfl<|sV (.ptr 16 9)<|sL rfl<|bE h fun x27 hx27 h=>cD (bR hx27)<|sV (rB x27)<|sA rfl<|sN<|qR ?_
          cases oI h
          exact qG
         refine sM rfl<|k3<|sU<|sA rfl<|sN<|qR ?_
         cases oI h
         exact qG
        refine sM rfl<|k3<|sU<|sM rfl<|k3<|sU<|sA rfl<|sN<|qR ?_
        cases oI h
        exact qG
       refine sM rfl<|k3<|sK<|sU<|sM rfl<|k3<|sU<|sM rfl<|sK<|sK<|sK ?_
       refine sU<|sA rfl<|sN<|qR ?_
       cases oI h
       exact qG
      refine sM rfl<|k3<|sU<|sM rfl<|k3<|sK<|sU<|sM rfl<|sK<|sK<|sK ?_
      refine sU<|sM rfl<|k3<|sU<|sA rfl<|sN<|qR ?_
      cases oI h
      exact qG
     refine sM rfl<|k3<|sK<|sU<|sM rfl<|k3<|sU<|sM rfl<|sK<|sK<|sK ?_
     refine sK<|sU<|sM rfl<|k3<|sU<|sM rfl<|k3<|sU<|sA rfl<|sN<|qR ?_
     cases oI h
     exact qG
    refine WO.uL (il a0.bo (aO.mk 0 0 0)) hb17 rfl rfl rfl rfl rfl<|sM rfl<|k3<|sK<|sU<|sM rfl<|k3<|sK<|sU<|sM rfl<|sK ?_
    refine sK<|sK<|sU<|sM rfl<|k3<|sK<|sU<|sM rfl<|k3<|sU<|sM rfl ?_
    refine k3<|sU<|sA rfl<|sN<|qR ?_
    cases oI h
    exact qG
   refine sA rfl<|sN<|cF<|qK<|gS rfl rfl<|sU<|sN<|qR ?_
   cases oI h
   exact qG
  refine sM rfl<|k3<|sU<|sA rfl<|sN<|qS<|gS rfl rfl<|sV (.ptr 16 0)<|sL rfl<|sN<|qB<|gS rfl rfl<|sF h (fun h=>?_) fun h=>?_
  ·refine sA rfl<|sN<|cT<|gS rfl rfl<|sM rfl<|sM rfl<|k3<|k3<|sK<|sU<|sM rfl ?_
   refine k3<|k3<|sK<|sU<|sM rfl<|k3<|sK<|sU<|sM rfl ?_
   refine k3<|sK<|sU<|sA rfl<|sN<|qR ?_
   cases oI h
   exact qG
  refine sA rfl<|sN<|cF<|gS rfl rfl<|sF h (fun h=>?_) fun h=>?_
  ·refine sA rfl<|sN<|cT<|WC.oq (R0:=[(1,.cptr [.int .i64 a0.eM,.int .i64 a0.bo.a0,.int .i64 a0.bo.a1,.int .i64 a0.bo.a2,.int .i64 a0.bf.a0,.int .i64 a0.bf.a1,.int .i64 a0.bf.a2,.lst (a0.cW.map (PD.int .i64)),.int .i64 a0.cM,.int .i64 a0.c8]),(3,rB false)]) (B0:=[]) rfl rfl<|sM rfl<|sM rfl<|k3<|sU<|sM rfl<|k3<|sU ?_
   refine sM rfl<|k3<|sK<|sU<|sA rfl<|sN<|qR ?_
   exact oI h▸qD
  refine sA rfl<|sN<|cF<|gS rfl rfl<|sF h (fun h=>?_) fun h=>?_
  ·refine sA rfl<|sN<|cT<|gS rfl rfl<|sV (.ptr 16 1)<|sV (.d (aO.pd a0.bo))<|sV (.d (aO.pd (aO.mk 0 0 0)))<|oz h (fun hb31 h=>?_) (fun hb31 h=>?_)
   ·refine WO.uL (il a0.bo (aO.mk 0 0 0)) hb31 rfl rfl rfl rfl rfl<|sM rfl<|sV (.ptr 16 4)<|sV (.d (aO.pd a0.bf))<|sV (.d (aO.pd (aO.mk 0 0 0)))<|WO.bin (il a0.bf (aO.mk 0 0 0)) rfl rfl rfl rfl rfl<|sF h (fun h=>?_) fun h=>?_
    ·refine sM rfl<|sV (.ptr 16 7)<|sL rfl<|sE (rI (a0.cW.length:Int)) (nT _ _)<|bE h fun x33 hx33 h=>cD (bR hx33)<|sF h (fun h=>?_) fun h=>?_
     ·refine sM rfl<|sV (.ptr 16 7)<|sL rfl<|bE h fun x35 hx35 h=>cD (eC hx35)<|sF h (fun h=>?_) fun h=>?_
      ·refine sM rfl<|sV (.ptr 16 7)<|sL rfl<|bE h fun x37 hx37 h=>cD (gQ hx37)<|sV (rB (x37 != (0:Int)))<|sF h (fun h=>?_) fun h=>?_
       ·refine sM rfl<|sV (.ptr 16 8)<|sL rfl<|bE h fun x39 hx39 h=>cD (bR hx39)<|sF h (fun h=>?_) fun h=>?_
        ·refine sM rfl<|sV (.ptr 16 9)<|sL rfl<|bE h fun x41 hx41 h=>cD (bR hx41)<|sV (rB x41)<|sA rfl<|sN<|qR ?_
         cases oI h
         exact qG
        refine sM rfl<|k3<|sU<|sA rfl<|sN<|qR ?_
        cases oI h
        exact qG
       refine sM rfl<|k3<|sU<|sM rfl<|k3<|sU<|sA rfl<|sN<|qR ?_
       cases oI h
       exact qG
      refine sM rfl<|k3<|sK<|sU<|sM rfl<|k3<|sU<|sM rfl<|sK<|sK<|sK ?_
      refine sU<|sA rfl<|sN<|qR ?_
      cases oI h
      exact qG
     refine sM rfl<|k3<|sU<|sM rfl<|k3<|sK<|sU<|sM rfl<|sK<|sK<|sK ?_
     refine sU<|sM rfl<|k3<|sU<|sA rfl<|sN<|qR ?_
     cases oI h
     exact qG
    refine sM rfl<|k3<|sK<|sU<|sM rfl<|k3<|sU<|sM rfl<|sK<|sK<|sK ?_
    refine sK<|sU<|sM rfl<|k3<|sU<|sM rfl<|k3<|sU<|sA rfl<|sN<|qR ?_
    cases oI h
    exact qG
   refine WO.uL (il a0.bo (aO.mk 0 0 0)) hb31 rfl rfl rfl rfl rfl<|sM rfl<|k3<|sK<|sU<|sM rfl<|k3<|sK<|sU<|sM rfl<|sK ?_
   refine sK<|sK<|sU<|sM rfl<|k3<|sK<|sU<|sM rfl<|k3<|sU<|sM rfl ?_
   refine k3<|sU<|sA rfl<|sN<|qR ?_
   cases oI h
   exact qG
  refine sA rfl<|sN<|cF<|qK<|gS rfl rfl<|sU<|sN<|qR ?_
  cases oI h
  exact qG
 refine sM rfl<|k3<|sU<|sM rfl<|k3<|sU<|sA rfl<|sN<|qS<|gS rfl rfl<|sV (.ptr 16 0) ?_
 refine sL rfl<|sN<|qB<|gS rfl rfl<|sF h (fun h=>?_) fun h=>?_
 ·refine sA rfl<|sN<|cT<|gS rfl rfl<|sM rfl<|sM rfl<|k3<|k3<|sK<|sU<|sM rfl ?_
  refine k3<|k3<|sK<|sU<|sM rfl<|k3<|sK<|sU<|sM rfl ?_
  refine k3<|sK<|sU<|sA rfl<|sN<|qR ?_
  cases oI h
  exact qG
 refine sA rfl<|sN<|cF<|gS rfl rfl<|sF h (fun h=>?_) fun h=>?_
 ·refine sA rfl<|sN<|cT<|WC.oq (R0:=[(1,.cptr [.int .i64 a0.eM,.int .i64 a0.bo.a0,.int .i64 a0.bo.a1,.int .i64 a0.bo.a2,.int .i64 a0.bf.a0,.int .i64 a0.bf.a1,.int .i64 a0.bf.a2,.lst (a0.cW.map (PD.int .i64)),.int .i64 a0.cM,.int .i64 a0.c8]),(3,rB false)]) (B0:=[]) rfl rfl<|sM rfl<|sM rfl<|k3<|sU<|sM rfl<|k3<|sU ?_
  refine sM rfl<|k3<|sK<|sU<|sA rfl<|sN<|qR ?_
  exact oI h▸qD
 refine sA rfl<|sN<|cF<|gS rfl rfl<|sF h (fun h=>?_) fun h=>?_
 ·refine sA rfl<|sN<|cT<|gS rfl rfl<|sV (.ptr 16 1)<|sV (.d (aO.pd a0.bo))<|sV (.d (aO.pd (aO.mk 0 0 0)))<|oz h (fun hb45 h=>?_) (fun hb45 h=>?_)
  ·refine WO.uL (il a0.bo (aO.mk 0 0 0)) hb45 rfl rfl rfl rfl rfl<|sM rfl<|sV (.ptr 16 4)<|sV (.d (aO.pd a0.bf))<|sV (.d (aO.pd (aO.mk 0 0 0)))<|WO.bin (il a0.bf (aO.mk 0 0 0)) rfl rfl rfl rfl rfl<|sF h (fun h=>?_) fun h=>?_
   ·refine sM rfl<|sV (.ptr 16 7)<|sL rfl<|sE (rI (a0.cW.length:Int)) (nT _ _)<|bE h fun x47 hx47 h=>cD (bR hx47)<|sF h (fun h=>?_) fun h=>?_
    ·refine sM rfl<|sV (.ptr 16 7)<|sL rfl<|bE h fun x49 hx49 h=>cD (eC hx49)<|sF h (fun h=>?_) fun h=>?_
     ·refine sM rfl<|sV (.ptr 16 7)<|sL rfl<|bE h fun x51 hx51 h=>cD (gQ hx51)<|sV (rB (x51 != (0:Int)))<|sF h (fun h=>?_) fun h=>?_
      ·refine sM rfl<|sV (.ptr 16 8)<|sL rfl<|bE h fun x53 hx53 h=>cD (bR hx53)<|sF h (fun h=>?_) fun h=>?_
       ·refine sM rfl<|sV (.ptr 16 9)<|sL rfl<|bE h fun x55 hx55 h=>cD (bR hx55)<|sV (rB x55)<|sA rfl<|sN<|qR ?_
        cases oI h
        exact qG
       refine sM rfl<|k3<|sU<|sA rfl<|sN<|qR ?_
       cases oI h
       exact qG
      refine sM rfl<|k3<|sU<|sM rfl<|k3<|sU<|sA rfl<|sN<|qR ?_
      cases oI h
      exact qG
     refine sM rfl<|k3<|sK<|sU<|sM rfl<|k3<|sU<|sM rfl<|sK<|sK<|sK ?_
     refine sU<|sA rfl<|sN<|qR ?_
     cases oI h
     exact qG
    refine sM rfl<|k3<|sU<|sM rfl<|k3<|sK<|sU<|sM rfl<|sK<|sK<|sK ?_
    refine sU<|sM rfl<|k3<|sU<|sA rfl<|sN<|qR ?_
    cases oI h
    exact qG
   refine sM rfl<|k3<|sK<|sU<|sM rfl<|k3<|sU<|sM rfl<|sK<|sK<|sK ?_
   refine sK<|sU<|sM rfl<|k3<|sU<|sM rfl<|k3<|sU<|sA rfl<|sN<|qR ?_
   cases oI h
   exact qG
  refine WO.uL (il a0.bo (aO.mk 0 0 0)) hb45 rfl rfl rfl rfl rfl<|sM rfl<|k3<|sK<|sU<|sM rfl<|k3<|sK<|sU<|sM rfl<|sK ?_
  refine sK<|sK<|sU<|sM rfl<|k3<|sK<|sU<|sM rfl<|k3<|sU<|sM rfl ?_
  refine k3<|sU<|sA rfl<|sN<|qR ?_
  cases oI h
  exact qG
 refine sA rfl<|sN<|cF<|qK<|gS rfl rfl<|sU<|sN<|qR ?_
 cases oI h
 exact qG
theorem iz{a0:aD}{r:Bool}(h:dG a0=some r):EvP prog av ext 352 [.d (aD.pd a0)] [] (rB r,[]):=by
 refine Ev.body rfl Tryz.func352 rfl (by kernel_rfl)<|gS rfl rfl<|sB (.ptr 16 0) 16 (.var (aD.rc a0))<|sU<|sN<|gS rfl rfl<|sV (.d (aD.pd a0))<|bE h fun x1 hx1 h=>cD (lO hx1)<|sV (rB (!x1))<|sA rfl<|sN<|qR ?_
 cases oI h
 exact qG
theorem iX{a0:(List aD)}{r:Int}(h:b9 a0=some r):EvP prog av ext 393 [rM aD.pd a0,.d (.raw (.func (.func 352) #[] #[]))] [] (rI r,[]):=by
 refine Ev.body rfl Tryz.func393 rfl (by kernel_rfl)<|gS rfl rfl<|sV (r0)<|sN<|qS<|gS rfl rfl<|sM rfl<|sE (rI (a0.length:Int)) (nT _ _)<|sV (r0)<|sN<|bE h fun o8 ho8 h=>WC.block (WC.loop (WL.n4 ho8 (fun s R' B'=>hY prog 0 (A R' B') (av.at_ 393 0 2)=some (A [(0,rM aD.pd a0),(1,.d (.raw (.func (.func 352) #[] #[]))),(7,rI (a0.length:Int)),(8,rI s)] [])) (fun o e R' B'=>match o with| .inl y=>e= .exit 0∧hY prog 0 (A R' B') (av.at_ 393 0 7)=some (A [] [])| .inr r=>e= .ret∧finish prog (av.own 393) Tryz.f393 0 (A R' B')=some (rI r,[])) rfl ?_ ?_))
 ·rintro s1 R' B' q2 hI h
  refine gS rfl hI<|sF h (fun h=>?_) fun h=>?_
  ·refine sN<|qS<|cT<|qK<|qS<|qB<|gS rfl rfl<|sM rfl<|sA rfl<|sN<|gS rfl rfl<|sM rfl<|sM rfl<|sM rfl<|bE h fun x4 hx4 h=>?_
   refine eG hx4 rfl<|sV (.d (aD.pd x4))<|bE h fun x5 hx5 h=>oz h (fun hb6 h=>?_) (fun hb6 h=>?_)
   ·refine WO.oM (v:=rB true) (u:=[]) rfl rfl (fun _=>rfl) rfl rfl rfl rfl rfl (iz hx5) rfl rfl (congrArg (fun b=>RV.d (.bool b)) hb6) rfl<|sN<|cT<|gS rfl rfl<|sM rfl<|sA rfl<|sN<|qR ?_
    cases oI h
    exact⟨nofun,rfl,rfl⟩
   refine WO.oM (v:=rB false) (u:=[]) rfl rfl (fun _=>rfl) rfl rfl rfl rfl rfl (iz hx5) rfl rfl (congrArg (fun b=>RV.d (.bool b)) hb6) rfl<|sN<|cF<|qK<|WC.region rfl rfl<|sV (rI (rW (s1+(1:Int))))<|sM rfl<|sN ?_
   cases oI h
   exact⟨rfl,rfl⟩
  refine sN<|qS<|cF<|qX ?_
  cases oI h
  exact⟨nofun,rfl,rfl⟩
 intro e R' B' he hq
 rcases o8 with y9|r10
 ·obtain⟨rfl,hI⟩:=hq
  refine qE<|gS rfl hI<|sV (rI (-1))<|sN<|qR ?_
  exact oI h▸qD
 obtain⟨rfl,hf⟩:=hq
 cases oI h
 exact hf
theorem ic{a0:(List aD)}{r:Bool}(h:bM a0=some r):EvP prog av ext 351 [rM aD.pd a0,.d (.raw (.func (.func 352) #[] #[]))] [] (rB r,[]):=by
 refine Ev.body rfl Tryz.func351 rfl (by kernel_rfl)<|gS rfl rfl<|sU<|sN<|gS rfl rfl<|sM rfl<|sM rfl<|bE h fun x1 hx1 h=>cD (iX hx1)<|sV (rB (decide (x1>=(0:Int))))<|sA rfl<|sN<|qR ?_
 exact oI h▸qD
theorem nn{a0:(List aD)}{r:Int}(h:ek a0=some r):EvP prog av ext 354 [rM aD.pd a0] [] (rI r,[]):=by
 refine Ev.body rfl Tryz.func354 rfl (by kernel_rfl)<|gS rfl rfl<|sV (r0)<|sN<|gS rfl rfl<|sV (rI 1)<|sN<|qS<|gS rfl rfl<|sM rfl<|sE (rI (a0.length:Int)) (nT _ _)<|sV (r0)<|sN<|bE h fun o10 ho10 h=>WC.block (WC.loop (WL.n4 ho10 (fun s R' B'=>hY prog 0 (A R' B') (av.at_ 354 0 3)=some (A [(3,rI s.1),(6,rM aD.pd a0),(7,rI (a0.length:Int)),(8,rI s.2)] [])) (fun o e R' B'=>match o with| .inl y=>e= .exit 0∧hY prog 0 (A R' B') (av.at_ 354 0 10)=some (A [(3,rI y)] [])| .inr r=>e= .ret∧finish prog (av.own 354) Tryz.f354 0 (A R' B')=some (rI r,[])) rfl ?_ ?_))
 ·rintro⟨s1,s2⟩ R' B' q4 hI h
  refine gS rfl hI<|sF h (fun h=>?_) fun h=>?_
  ·refine sN<|qS<|cT<|qK<|qS<|qB<|gS rfl rfl<|bE h fun x6 hx6 h=>eG hx6 rfl<|sV (.d (aD.pd x6))<|sB (.ptr 80 0) 80 (.var [r0,r0,r0,r0,r0,r0,r0,.nR,r0,r0])<|sH 80 (.var (aD.rc x6))<|sN<|qS<|gS rfl rfl ?_
   refine sV (.ptr 80 0)<|sL rfl<|sF h (fun h=>?_) fun h=>?_
   ·refine sN<|cT<|qX<|qE<|WC.region rfl rfl<|sV (rI (rW (s2+(1:Int))))<|sM rfl<|sN ?_
    cases oI h
    exact⟨rfl,rfl⟩
   refine sN<|cF<|qK<|gS rfl rfl<|sM rfl<|sV (.ptr 80 8)<|sL rfl<|sV (rI (rW (s1*x6.cM)))<|sA rfl<|sN<|gS rfl rfl<|sM rfl<|sF h (fun h=>?_) fun h=>?_
   ·refine sN<|cT<|gS rfl rfl<|sV (r0)<|sN<|qR ?_
    cases oI h
    exact⟨nofun,rfl,rfl⟩
   refine sN<|cF<|qK<|WC.region rfl rfl<|sV (rI (rW (s2+(1:Int))))<|sM rfl<|sN ?_
   cases oI h
   exact⟨rfl,rfl⟩
  refine sN<|qS<|cF<|qX ?_
  cases oI h
  exact⟨nofun,rfl,rfl⟩
 intro e R' B' he hq
 rcases o10 with y11|r12
 ·obtain⟨rfl,hI⟩:=hq
  refine qE<|gS rfl hI<|sM rfl<|sA rfl<|sN<|qR ?_
  exact oI h▸qD
 obtain⟨rfl,hf⟩:=hq
 cases oI h
 exact hf
theorem kN{a0:aL}{r:Bool}(h:d7 a0=some r):EvP prog av ext 309 [.d (aL.pd a0)] [] (rB r,[]):=by
 refine Ev.body rfl Tryz.func309 rfl (by kernel_rfl)<|gS rfl rfl<|sB (.ptr 16 0) 16 (.var [rM aD.pd a0.bn])<|sU<|sN<|qS<|gS rfl rfl<|sV (.ptr 16 0)<|sL rfl<|sE (rI (a0.bn.length:Int)) (nT _ _)<|sF h (fun h=>?_) fun h=>?_
 ·refine sM rfl<|k3<|sT<|sN<|cT<|gS rfl rfl<|sU<|sN<|qR ?_
  exact oI h▸qD
 refine sM rfl<|sV (.ptr 16 0)<|sL rfl<|bE h fun x2 hx2 h=>cD (ic hx2)<|sF h (fun h=>?_) fun h=>?_
 ·refine sN<|cT<|gS rfl rfl<|sU<|sN<|qR ?_
  exact oI h▸qD
 refine sN<|cF<|qK<|gS rfl rfl<|sV (.ptr 16 0)<|sL rfl<|bE h fun x4 hx4 h=>cD (nn hx4)<|sV (rB (decide (x4>(0:Int))))<|sA rfl<|sN<|qR ?_
 exact oI h▸qD
theorem gP{a0:Int}{a1:Int}{a2:Int}{r:Bool}(h:cv a0 a1 a2=some r):EvP prog av ext 243 [rI a0,rI a1,rI a2] [] (rB r,[]):=by
 refine Ev.body rfl Tryz.func243 rfl (by kernel_rfl)<|gS rfl rfl<|sU<|sN<|gS rfl rfl<|sM rfl<|sM rfl<|sF h (fun h=>?_) fun h=>?_
 ·refine sM rfl<|sM rfl<|sM rfl<|sV (rB (decide (a0<=a2)))<|sV (rB (decide (a0<=a2)))<|sA rfl<|sN<|qR ?_
  exact oI h▸qD
 refine sM rfl<|k3<|sU<|sA rfl<|sN<|qR ?_
 exact oI h▸qD
theorem lj{a0:aj}{r:Bool}(h:cB a0=some r):EvP prog av ext 242 [.d (aj.pd a0)] [] (rB r,[]):=by
 refine Ev.body rfl Tryz.func242 rfl (by kernel_rfl)<|gS rfl rfl<|sB (.ptr 16 0) 16 (.var (aj.rc a0))<|sU<|sN<|gS rfl rfl<|sV (.ptr 16 4)<|sV (.d (aa.pd a0.aW))<|sB (.ptr 48 0) 48 (.var [r0,r0,r0])<|sS 48 (.var (aa.rc a0.aW))<|sN<|gS rfl rfl<|sV (.ptr 16 0)<|sL rfl<|sF h (fun h=>?_) fun h=>?_
 ·refine sM rfl<|sV (.ptr 16 0)<|sL rfl<|sV (.ptr 16 1)<|sL rfl<|sV (rB (decide (a0.aT<a0.fTo)))<|sF h (fun h=>?_) fun h=>?_
  ·refine sM rfl<|sV (.ptr 16 1)<|sL rfl<|sV (rB (decide (a0.fTo<=(9007199254740992:Int))))<|sF h (fun h=>?_) fun h=>?_
   ·refine sM rfl<|sV (.ptr 16 2)<|sV (.d (aX.pd a0.fd))<|bE h fun x4 hx4 h=>cD (rate_Valid_ev hx4)<|sF h (fun h=>?_) fun h=>?_
    ·refine sM rfl<|sV (.ptr 16 7)<|sV (.d (aL.pd a0.br))<|bE h fun x6 hx6 h=>cD (kN hx6)<|sF h (fun h=>?_) fun h=>?_
     ·refine sM rfl<|sV (.ptr 48 0)<|sL rfl<|bE h fun x8 hx8 h=>cD (gP hx8)<|sF h (fun h=>?_) fun h=>?_
      ·refine sM rfl<|sV (.ptr 48 1)<|sL rfl<|bE h fun x10 hx10 h=>cD (gP hx10)<|sF h (fun h=>?_) fun h=>?_
       ·refine sM rfl<|sV (.ptr 48 2)<|sL rfl<|bE h fun x12 hx12 h=>cD (gP hx12)<|sV (rB x12)<|sA rfl<|sN<|qR ?_
        exact oI h▸qD
       refine sM rfl<|k3<|sU<|sA rfl<|sN<|qR ?_
       exact oI h▸qD
      refine sM rfl<|k3<|sU<|sM rfl<|k3<|sU<|sA rfl<|sN<|qR ?_
      exact oI h▸qD
     refine sM rfl<|k3<|sU<|sM rfl<|k3<|sU<|sM rfl<|k3<|sU ?_
     refine sA rfl<|sN<|qR ?_
     exact oI h▸qD
    refine sM rfl<|k3<|sU<|sM rfl<|k3<|sU<|sM rfl<|k3<|sU ?_
    refine sM rfl<|k3<|sU<|sA rfl<|sN<|qR ?_
    exact oI h▸qD
   refine sM rfl<|k3<|sU<|sM rfl<|k3<|sU<|sM rfl<|k3<|sU ?_
   refine sM rfl<|k3<|sU<|sM rfl<|k3<|sU<|sA rfl<|sN<|qR ?_
   exact oI h▸qD
  refine sM rfl<|k3<|sU<|sM rfl<|k3<|sU<|sM rfl<|k3<|sU ?_
  refine sM rfl<|k3<|sU<|sM rfl<|k3<|sU<|sM rfl<|k3<|sU ?_
  refine sA rfl<|sN<|qR ?_
  exact oI h▸qD
 refine sM rfl<|k3<|sK<|sK<|sU<|sM rfl<|k3<|sU<|sM rfl<|sK<|sK ?_
 refine sK<|sU<|sM rfl<|k3<|sU<|sM rfl<|k3<|sU<|sM rfl<|sK<|sK ?_
 refine sK<|sU<|sM rfl<|k3<|sU<|sA rfl<|sN<|qR ?_
 exact oI h▸qD
theorem mP{a0:(List aj)}{r:Bool}(h:dU a0=some r):EvP prog av ext 156 [rM aj.pd a0] [] (rB r,[]):=by
 refine Ev.body rfl Tryz.func156 rfl (by kernel_rfl)<|gS rfl rfl<|sU<|sN<|qS<|gS rfl rfl<|sM rfl<|sE (rI (a0.length:Int)) (nT _ _)<|sV (r0)<|sN<|bE h fun o11 ho11 h=>WC.block (WC.loop (WL.n4 ho11 (fun s R' B'=>hY prog 0 (A R' B') (av.at_ 156 0 2)=some (A [(0,rM aj.pd a0),(5,rM aj.pd a0),(6,rI (a0.length:Int)),(7,rI s)] [])) (fun o e R' B'=>match o with| .inl y=>e= .exit 0∧hY prog 0 (A R' B') (av.at_ 156 0 7)=some (A [(0,rM aj.pd a0)] [])| .inr r=>e= .ret∧finish prog (av.own 156) Tryz.f156 0 (A R' B')=some (rB r,[])) rfl ?_ ?_))
 ·rintro s1 R' B' q2 hI h
  refine gS rfl hI<|sF h (fun h=>?_) fun h=>?_
  ·refine sN<|qS<|cT<|qK<|qS<|qB<|gS rfl rfl<|sM rfl<|bE h fun x4 hx4 h=>eG hx4 rfl<|sV (.d (aj.pd x4))<|sB (.ptr 64 0) 64 (.var zZ3)<|sA rfl<|sH 64 (.var (aj.rc x4))<|sN ?_
   refine WC.cI rfl rfl<|sV (.d (aj.pd x4))<|bE h fun x5 hx5 h=>cD (lj hx5)<|sF h (fun h=>?_) fun h=>?_
   ·refine sM rfl<|k3<|k3<|k3<|k3<|sK<|sT ?_
    refine sN<|sO<|cT<|gS rfl rfl<|sU<|sN<|qR ?_
    cases oI h
    exact⟨nofun,rfl,rfl⟩
   refine sM rfl<|sM rfl<|sF h (fun h=>?_) fun h=>?_
   ·refine sM rfl<|sV (.ptr 64 0)<|sL rfl<|sM rfl<|sM rfl<|sV (rI (rW (s1-(1:Int))))<|bE h fun x8 hx8 h=>eG hx8 rfl<|sV (.cptr [.int .i64 x8.fTo,.int .i64 x8.fd.bo,.int .i64 x8.fd.bf,.int .i64 x8.aW.fX,.int .i64 x8.aW.fY,.int .i64 x8.aW.fZ,.lst (x8.br.bn.map aD.pd)])<|sC rfl<|sV (rB (decide (x4.aT<x8.fTo)))<|sV (rB (decide (x4.aT<x8.fTo)))<|sF h (fun h=>?_) fun h=>?_
    ·refine sN<|sO<|cT<|gS rfl rfl<|sU<|sN<|qR ?_
     cases oI h
     exact⟨nofun,rfl,rfl⟩
    refine sN<|sO<|cF<|qK<|WC.region rfl rfl<|sV (rI (rW (s1+(1:Int))))<|sM rfl<|sN ?_
    cases oI h
    exact⟨rfl,rfl⟩
   refine sM rfl<|k3<|k3<|k3<|sU<|sU ?_
   refine sN<|sO<|cF<|qK<|WC.region rfl rfl<|sV (rI (rW (s1+(1:Int))))<|sM rfl<|sN ?_
   cases oI h
   exact⟨rfl,rfl⟩
  refine sN<|qS<|cF<|qX ?_
  cases oI h
  exact⟨nofun,rfl,rfl⟩
 intro e R' B' he hq
 rcases o11 with y12|r13
 ·obtain⟨rfl,hI⟩:=hq
  refine qE<|gS rfl hI<|sM rfl<|sE (rI (a0.length:Int)) (nT _ _)<|bE h fun x14 hx14 h=>cD (gP hx14)<|sA rfl<|sN<|qR ?_
  exact oI h▸qD
 obtain⟨rfl,hf⟩:=hq
 cases oI h
 exact hf
theorem jz{a0:(List UInt8)}{r:Bool}(h:eT a0=some r):EvP prog av ext 306 [rS a0] [] (rB r,[]):=by
 refine Ev.body rfl Tryz.func306 rfl (by kernel_rfl)<|gS rfl rfl<|sU<|sN<|gS rfl rfl<|sM rfl<|sM rfl<|sV (rB (!(a0==a0)))<|sA rfl<|sN<|qR ?_
 exact oI h▸qD
theorem ec{a0:(List UInt8)}{a1:(List UInt8)}{r:Int}(h:bH a0 a1=some r):EvP prog av ext 239 [rS a0,rS a1] [] (rI r,[]):=by
 refine Ev.body rfl Tryz.func239 rfl (by kernel_rfl)<|gS rfl rfl<|sV (r0)<|sN<|gS rfl rfl<|sM rfl<|bE h fun x1 hx1 h=>cD (jz hx1)<|sA rfl<|sN<|gS rfl rfl<|sM rfl<|bE h fun x2 hx2 h=>cD (jz hx2)<|sA rfl ?_
 refine sN<|qS<|gS rfl rfl<|sF h (fun h=>?_) fun h=>?_
 ·refine sN<|cT<|qS<|gS rfl rfl<|sF h (fun h=>?_) fun h=>?_
  ·refine sN<|cT<|gS rfl rfl<|sV (r0)<|sN<|qR ?_
   exact oI h▸qD
  refine sN<|cF<|qK<|gS rfl rfl<|sV (rI (-1))<|sN<|qR ?_
  exact oI h▸qD
 refine sN<|cF<|qK<|qS<|gS rfl rfl<|sF h (fun h=>?_) fun h=>?_
 ·refine sN<|cT<|gS rfl rfl<|sV (rI 1)<|sN<|qR ?_
  exact oI h▸qD
 refine sN<|cF<|qK<|qS<|gS rfl rfl<|sM rfl<|sM rfl<|sF h (fun h=>?_) fun h=>?_
 ·refine sN<|cT<|gS rfl rfl<|sV (rI (-1))<|sN<|qR ?_
  exact oI h▸qD
 refine sN<|cF<|qK<|qS<|gS rfl rfl<|sM rfl<|sM rfl<|sF h (fun h=>?_) fun h=>?_
 ·refine sN<|cT<|gS rfl rfl<|sV (rI 1)<|sN<|qR ?_
  exact oI h▸qD
 refine sN<|cF<|qK<|gS rfl rfl<|sV (r0)<|sN<|qR ?_
 exact oI h▸qD
theorem gF{a0:(List Int)}{r:Int}(h:cp a0=some r):EvP prog av ext 95 [rL a0] [] (rI r,[]):=by
 refine Ev.body rfl Tryz.func95 rfl (by kernel_rfl)<|gS rfl rfl<|sV (r0)<|sN<|gS rfl rfl<|sV (r0)<|sN<|qS<|gS rfl rfl<|sM rfl<|sE (rI (a0.length:Int)) (nT _ _)<|sV (r0)<|sN<|bE h fun o7 ho7 h=>WC.block (WC.loop (WL.n4 ho7 (fun s R' B'=>hY prog 0 (A R' B') (av.at_ 95 0 3)=some (A [(3,r0),(6,rL a0),(7,rI (a0.length:Int)),(8,rI s)] [])) (fun o e R' B'=>match o with| .inl y=>e= .exit 0∧hY prog 0 (A R' B') (av.at_ 95 0 8)=some (A [(3,r0)] [])| .inr r=>e= .ret∧finish prog (av.own 95) Tryz.f95 0 (A R' B')=some (rI r,[])) rfl ?_ ?_))
 ·rintro s1 R' B' q2 hI h
  refine gS rfl hI<|sF h (fun h=>?_) fun h=>?_
  ·refine sN<|qS<|cT<|qK<|qS<|qB<|gS rfl rfl<|bE h fun x4 hx4 h=>eG hx4 rfl<|sC rfl<|sA rfl<|sN<|gS rfl rfl<|sM rfl<|sM rfl ?_
   refine sF h (fun h=>?_) fun h=>?_
   ·refine sN<|cT<|gS rfl rfl<|sM rfl<|sA rfl<|sN<|qR ?_
    cases oI h
    exact⟨nofun,rfl,rfl⟩
   refine sN<|cF<|qK<|WC.region rfl rfl<|sV (rI (rW (s1+(1:Int))))<|sM rfl<|sN ?_
   cases oI h
   exact⟨rfl,rfl⟩
  refine sN<|qS<|cF<|qX ?_
  cases oI h
  exact⟨nofun,rfl,rfl⟩
 intro e R' B' he hq
 rcases o7 with y8|r9
 ·obtain⟨rfl,hI⟩:=hq
  refine qE<|gS rfl hI<|sM rfl<|sA rfl<|sN<|qR ?_
  exact oI h▸qD
 obtain⟨rfl,hf⟩:=hq
 cases oI h
 exact hf
theorem kO{a0:ap}{a1:ap}{r:Int}(h:dB a0 a1=some r):EvP prog av ext 153 [.d (ap.pd a0),.d (ap.pd a1)] [] (rI r,[]):=by
 refine Ev.body rfl Tryz.func153 rfl (by kernel_rfl)<|gS rfl rfl<|sB (.ptr 32 0) 32 (.var (ap.rc a0))<|sB (.ptr 48 0) 48 (.var (ap.rc a1))<|sV (r0)<|sN<|WC.cI rfl rfl<|sV (.ptr 32 0)<|sL rfl<|sV (.ptr 48 0)<|sL rfl<|bE h fun x1 hx1 h=>cD (ec hx1)<|sV (.ptr 32 1)<|sL rfl ?_
 refine sV (.ptr 48 1)<|sL rfl<|bE h fun x2 hx2 h=>cD (ec hx2)<|sV (.ptr 32 2)<|sL rfl<|sV (.ptr 48 2)<|sL rfl<|bE h fun x3 hx3 h=>cD (ec hx3)<|sV (.ptr 32 3)<|sL rfl<|sV (.ptr 48 3)<|sL rfl<|bE h fun x4 hx4 h=>?_
 refine cD (ec hx4)<|sV (.d (.lst ([x1,x2,x3,x4].map (PD.int .i64))))<|bE h fun x5 hx5 h=>cD (gF hx5)<|sA rfl ?_
 refine sN<|sO<|qR ?_
 exact oI h▸qD
theorem jW{a0:aB}{r:Bool}(h:c6 a0=some r):EvP prog av ext 83 [.d (aB.pd a0)] [] (rB r,[]):=by
 refine Ev.body rfl Tryz.func83 rfl (by kernel_rfl)<|gS rfl rfl<|sB (.ptr 16 0) 16 (.var [rM au.pd a0.aP])<|sU<|sN<|qS<|gS rfl rfl<|sV (.ptr 16 0)<|sL rfl<|sE (rI (a0.aP.length:Int)) (nT _ _)<|sV (r0)<|sN<|bE h fun o14 ho14 h=>WC.block (WC.loop (WL.n4 ho14 (fun s R' B'=>hY prog 0 (A R' B') (av.at_ 83 0 2)=some (A [(1,.ptr 16 0),(6,rM au.pd a0.aP),(7,rI (a0.aP.length:Int)),(8,rI s)] [(16,.var [rM au.pd a0.aP])])) (fun o e R' B'=>match o with| .inl y=>e= .exit 0∧hY prog 0 (A R' B') (av.at_ 83 0 7)=some (A [(1,.ptr 16 0)] [(16,.var [rM au.pd a0.aP])])| .inr r=>e= .ret∧finish prog (av.own 83) Tryz.f83 0 (A R' B')=some (rB r,[])) rfl ?_ ?_))
 ·rintro s1 R' B' q2 hI h
  refine gS rfl hI<|sF h (fun h=>?_) fun h=>?_
  ·refine sN<|qS<|cT<|qK<|qS<|qB<|gS rfl rfl<|sM rfl<|bE h fun x4 hx4 h=>eG hx4 rfl<|sV (.d (au.pd x4))<|sB (.ptr 64 0) 64 (.var [rS [],rS [],rS [],rS [],.nR])<|sA rfl<|sS 64 (.var (au.rc x4))<|sN ?_
   refine WC.cI rfl rfl<|sV (.ptr 64 0)<|sV (.d (ap.pd x4.aJ))<|bE h fun x5 hx5 h=>cD (jx hx5)<|sF h (fun h=>?_) fun h=>?_
   ·refine sM rfl<|k3<|sK<|sT<|sM rfl<|k3<|k3<|sK<|sK ?_
    refine k3<|k3<|sK<|sT ?_
    refine sN<|sO<|cT<|gS rfl rfl<|sU<|sN<|qR ?_
    cases oI h
    exact⟨nofun,rfl,rfl⟩
   refine sM rfl<|sV (.ptr 64 4)<|sL rfl<|bE h fun x7 hx7 h=>cD (mP hx7)<|sV (rB (!x7))<|sF h (fun h=>?_) fun h=>?_
   ·refine sM rfl<|k3<|k3<|k3<|k3<|sK<|sK ?_
    refine sK<|sT ?_
    refine sN<|sO<|cT<|gS rfl rfl<|sU<|sN<|qR ?_
    cases oI h
    exact⟨nofun,rfl,rfl⟩
   refine sM rfl<|sM rfl<|sF h (fun h=>?_) fun h=>?_
   ·refine sM rfl<|sV (.ptr 16 0)<|sL rfl<|sM rfl<|sV (rI (rW (s1-(1:Int))))<|bE h fun x10 hx10 h=>eG hx10 rfl<|sV (.cptr [.str x10.aJ.aY,.str x10.aJ.aM,.str x10.aJ.aK,.str x10.aJ.bd,.lst (x10.bu.map aj.pd)])<|sV (.d (ap.pd x10.aJ))<|sV (.ptr 64 0)<|sV (.d (ap.pd x4.aJ))<|bE h fun x11 hx11 h=>cD (kO hx11)<|sV (rB (decide (x11>=(0:Int))))<|sV (rB (decide (x11>=(0:Int)))) ?_
    refine sF h (fun h=>?_) fun h=>?_
    ·refine sN<|sO<|cT<|gS rfl rfl<|sU<|sN<|qR ?_
     cases oI h
     exact⟨nofun,rfl,rfl⟩
    refine sN<|sO<|cF<|qK<|WC.region rfl rfl<|sV (rI (rW (s1+(1:Int))))<|sM rfl<|sN ?_
    cases oI h
    exact⟨rfl,rfl⟩
   refine sM rfl<|k3<|k3<|k3<|sK<|sK<|sU<|sU ?_
   refine sN<|sO<|cF<|qK<|WC.region rfl rfl<|sV (rI (rW (s1+(1:Int))))<|sM rfl<|sN ?_
   cases oI h
   exact⟨rfl,rfl⟩
  refine sN<|qS<|cF<|qX ?_
  cases oI h
  exact⟨nofun,rfl,rfl⟩
 intro e R' B' he hq
 rcases o14 with y15|r16
 ·obtain⟨rfl,hI⟩:=hq
  refine qE<|gS rfl hI<|sV (.ptr 16 0)<|sL rfl<|sE (rI (a0.aP.length:Int)) (nT _ _)<|sV (rB (decide ((a0.aP.length:Int)<=(128:Int))))<|sA rfl<|sN<|qR ?_
  exact oI h▸qD
 obtain⟨rfl,hf⟩:=hq
 cases oI h
 exact hf
theorem eS{a0:Int}{r:Bool}(h:dO a0=some r):EvP prog av ext 170 [rI a0] [] (rB r,[]):=by
 refine Ev.body rfl Tryz.func170 rfl (by kernel_rfl)<|gS rfl rfl<|sU<|sN<|gS rfl rfl<|sM rfl<|sM rfl<|sV (rB (a0 != a0))<|sA rfl<|sN<|qR ?_
 exact oI h▸qD
theorem bG{a0:Int}{a1:Int}{r:Int}(h:bA a0 a1=some r):EvP prog av ext 96 [rI a0,rI a1] [] (rI r,[]):=by
 refine Ev.body rfl Tryz.func96 rfl (by kernel_rfl)<|gS rfl rfl<|sV (r0)<|sN<|gS rfl rfl<|sM rfl<|bE h fun x1 hx1 h=>cD (eS hx1)<|sA rfl<|sN<|gS rfl rfl<|sM rfl<|bE h fun x2 hx2 h=>cD (eS hx2)<|sA rfl ?_
 refine sN<|qS<|gS rfl rfl<|sF h (fun h=>?_) fun h=>?_
 ·refine sN<|cT<|qS<|gS rfl rfl<|sF h (fun h=>?_) fun h=>?_
  ·refine sN<|cT<|gS rfl rfl<|sV (r0)<|sN<|qR ?_
   exact oI h▸qD
  refine sN<|cF<|qK<|gS rfl rfl<|sV (rI (-1))<|sN<|qR ?_
  exact oI h▸qD
 refine sN<|cF<|qK<|qS<|gS rfl rfl<|sF h (fun h=>?_) fun h=>?_
 ·refine sN<|cT<|gS rfl rfl<|sV (rI 1)<|sN<|qR ?_
  exact oI h▸qD
 refine sN<|cF<|qK<|qS<|gS rfl rfl<|sM rfl<|sM rfl<|sF h (fun h=>?_) fun h=>?_
 ·refine sN<|cT<|gS rfl rfl<|sV (rI (-1))<|sN<|qR ?_
  exact oI h▸qD
 refine sN<|cF<|qK<|qS<|gS rfl rfl<|sM rfl<|sM rfl<|sF h (fun h=>?_) fun h=>?_
 ·refine sN<|cT<|gS rfl rfl<|sV (rI 1)<|sN<|qR ?_
  exact oI h▸qD
 refine sN<|cF<|qK<|gS rfl rfl<|sV (r0)<|sN<|qR ?_
 exact oI h▸qD
theorem lP{d0:(List ar)}{r:(List ar)}(h:dH d0=some r):EvP prog av ext 183 [.ref 0 0] [.arr 0 66 (d0.map ar.pd)] (rM ar.pd r,[.dead]):=by
 refine Ev.body rfl Tryz.func183 rfl (by kernel_rfl)<|gS rfl rfl<|sV .nR<|sN<|qS<|gS rfl rfl<|sM rfl<|WO.u9 rfl rfl rfl rfl rfl rfl rfl rfl rfl<|sF h (fun h=>?_) fun h=>?_
 ·refine sN<|cT<|gS rfl rfl<|sM rfl<|sA rfl<|sN<|qR ?_
  exact oI h▸qD
 refine sN<|cF<|qK<|qS<|gS rfl rfl<|sV (rI 1)<|sN<|bE h fun o39 ho39 h=>WC.block (WC.loop (WL.n4 ho39 (fun s R' B'=>hY prog 1 (A R' B') (av.at_ 183 1 4)=some (A [(0,.ref 0 0),(3,rI s)] [(0,.arr 0 66 (d0.map ar.pd))])) (fun o e R' B'=>match o with| .inl y=>e= .exit 0∧hY prog 1 (A R' B') (av.at_ 183 1 16)=some (A [(0,.ref 0 0)] [(0,.arr 0 66 (d0.map ar.pd))])| .inr r=>e= .ret∧finish prog (av.own 183) Tryz.f183 1 (A R' B')=some (rM ar.pd r,[.dead])) rfl ?_ ?_))
 ·rintro s2 R' B' q3 hI h
  refine qS<|gS rfl hI<|sM rfl<|sM rfl<|WO.u9 rfl rfl rfl rfl rfl rfl rfl rfl rfl<|sF h (fun h=>?_) fun h=>?_
  ·refine sN<|cT<|qK<|qS<|qB<|WC.cI rfl rfl<|sM rfl<|sM rfl<|bE h fun x6 hx6 h=>WO.pL hx6 rfl rfl rfl rfl rfl rfl rfl rfl<|bE h fun x7 hx7 h=>WO.pn hx7 rfl rfl rfl rfl rfl rfl<|sM rfl<|sM rfl<|sV (rI (rW (s2-(1:Int)))) ?_
   refine bE h fun x9 hx9 h=>WO.pL hx9 rfl rfl rfl rfl rfl rfl rfl rfl<|bE h fun x10 hx10 h=>WO.pn hx10 rfl rfl rfl rfl rfl rfl<|oz h (fun hb11 h=>?_) (fun hb11 h=>?_)
   ·refine WO.uL (eqE_66 x7 x10) hb11 rfl rfl rfl rfl rfl ?_
    refine sN<|sO<|cT<|gS rfl rfl<|sM rfl<|sM rfl<|bE h fun x12 hx12 h=>WO.subR hx12 rfl rfl rfl rfl rfl rfl rfl rfl rfl rfl rfl rfl<|sA rfl<|sN<|qS<|gS rfl rfl<|sV (rI 1)<|sN<|bE h fun o32 ho32 h=>WC.block (WC.loop (WL.n4 ho32 (fun s R' B'=>hY prog 1 (A R' B') (av.at_ 183 1 9)=some (A [(0,.ref 0 0),(3,rI s.1),(4,.view 0 0 (0+(s2:Int).toNat) (0+((d0.length:Int):Int).toNat)),(5,rI s.2.1)] [(0,.arr 0 66 (s.2.2.map ar.pd))])) (fun o e R' B'=>e= .exit 2∧hY prog 1 (A R' B') (av.at_ 183 1 14)=some (A [(0,.ref 0 0),(3,rI o.1)] [(0,.arr 0 66 (o.2.map ar.pd))])) rfl ?_ ?_))
    ·rintro⟨s13,s14,s15⟩ R' B' q18 hI h
     unfold fb at h
     refine qS<|gS rfl hI<|sM rfl<|sM rfl<|bE h fun x19 hx19 h=>WO.lenVw hx19 rfl rfl rfl rfl rfl rfl rfl rfl rfl<|sF h (fun h=>?_) fun h=>?_
     ·refine sN<|cT<|qK<|qS<|qB<|WC.cI rfl rfl<|sM rfl<|sM rfl<|bE h fun x21 hx21 h=>WO.eltV hx21 rfl rfl rfl rfl rfl rfl rfl rfl<|bE h fun x22 hx22 h=>WO.pn hx22 rfl rfl rfl rfl rfl rfl<|sM rfl<|sM rfl<|sV (rI (rW (s14-(1:Int)))) ?_
      refine bE h fun x23 hx23 h=>WO.eltV hx23 rfl rfl rfl rfl rfl rfl rfl rfl<|bE h fun x24 hx24 h=>WO.pn hx24 rfl rfl rfl rfl rfl rfl<|oz h (fun hb25 h=>?_) (fun hb25 h=>?_)
      ·refine WO.uL (eqN_66 x22 x24) hb25 rfl rfl rfl rfl rfl ?_
       refine sN<|sO<|cT<|gS rfl rfl<|sM rfl<|sM rfl<|sM rfl<|sM rfl<|bE h fun x26 hx26 h=>WO.eltV hx26 rfl rfl rfl rfl rfl rfl rfl rfl<|bE h fun x27 hx27 h=>WO.pn hx27 rfl rfl rfl rfl rfl rfl<|bE h fun x29 hx29 h=>WO.pL hx29 rfl rfl rfl rfl rfl rfl rfl rfl<|bE h fun x30 hx30 h=>WO.tg (g:=ar.pd) (sz:=9) (p:=ar.pd x27) hx30 (by intro _;kernel_rfl) (by intro _;kernel_rfl) rfl rfl rfl rfl rfl rfl rfl rfl rfl ?_
       refine sN<|WC.region rfl rfl<|sM rfl<|sV (rI (rW (s13+(1:Int))))<|sA rfl<|sN<|WC.region rfl rfl<|sM rfl<|sV (rI (rW (s14+(1:Int))))<|sA rfl<|sN ?_
       cases oI h
       exact⟨rfl,rfl⟩
      refine WO.uL (eqN_66 x22 x24) hb25 rfl rfl rfl rfl rfl ?_
      refine sN<|sO<|cF<|qK<|WC.region rfl rfl<|sM rfl<|sV (rI (rW (s14+(1:Int))))<|sA rfl<|sN ?_
      cases oI h
      exact⟨rfl,rfl⟩
     refine sN<|cF<|qX ?_
     cases oI h
     exact⟨nofun,rfl,rfl⟩
    intro e R' B' he hq
    obtain⟨rfl,hI⟩:=hq
    refine qE<|gS rfl hI<|sM rfl<|sM rfl<|bE h fun x33 hx33 h=>WO.subR hx33 rfl rfl rfl rfl rfl rfl rfl rfl rfl rfl rfl rfl<|bE h fun x34 hx34 h=>WO.clearN (z:=(ar.mk (ap.mk [] [] [] []) 0 0 0 0 0)) (g:=ar.pd) rfl rfl rfl rfl rfl rfl rfl (dst_view hx34 rfl) rfl rfl rfl rfl<|sN<|gS rfl rfl<|sM rfl<|sM rfl<|bE h fun x36 hx36 h=>WO.subR hx36 rfl rfl rfl rfl rfl rfl rfl rfl rfl rfl rfl rfl<|sA rfl ?_
    refine sN<|qR<|bE h fun x37 hx37 h=>?_
    cases oI h
    exact⟨nofun,rfl,(yO hx37 rfl rfl rfl rfl rfl)⟩
   refine WO.uL (eqE_66 x7 x10) hb11 rfl rfl rfl rfl rfl ?_
   refine sN<|sO<|cF<|qK<|WC.region rfl rfl<|sM rfl<|sV (rI (rW (s2+(1:Int))))<|sA rfl<|sN ?_
   cases oI h
   exact⟨rfl,rfl⟩
  refine sN<|cF<|qX ?_
  cases oI h
  exact⟨nofun,rfl,rfl⟩
 intro e R' B' he hq
 rcases o39 with y40|r41
 ·obtain⟨rfl,hI⟩:=hq
  refine qE<|gS rfl hI<|sM rfl<|sA rfl<|sN<|qR ?_
  exact oI h▸qD
 obtain⟨rfl,hf⟩:=hq
 cases oI h
 exact hf
theorem picker_Sort_ev{a0:(List ar)}{r:(List ar)}(h:ey a0=some r):EvP prog av ext 106 [rM ar.pd a0] [] (rM ar.pd r,[]):=by
 refine Ev.body rfl Tryz.func106 rfl (by kernel_rfl)<|gS rfl rfl<|sV .nR<|sN<|gS rfl rfl<|sM rfl<|bE h fun x1 hx1 h=>cR (.ref 80 0) [(80,.arr 0 66 (x1.map ar.pd))] (clone_182 hx1)<|sA rfl<|sN<|gS rfl rfl<|sM rfl<|bE h fun x2 hx2 h=>cR (.tup []) [(80,.arr 0 66 (x2.map ar.pd))] (sort_79_80 hx2)<|sN ?_
 refine gS rfl rfl<|sM rfl<|bE h fun x3 hx3 h=>cR (rM ar.pd x3) [(80,.dead)] (lP hx3)<|sA rfl<|sN<|qR ?_
 exact oI h▸qD
theorem nL{a0:Int}{a1:Int}{a2:Int}{r:Bool}(h:gr a0 a1 a2=some r):EvP prog av ext 244 [rI a0,rI a1,rI a2] [] (rB r,[]):=by
 refine Ev.body rfl Tryz.func244 rfl (by kernel_rfl)<|gS rfl rfl<|sU<|sN<|gS rfl rfl<|sM rfl<|sM rfl<|sF h (fun h=>?_) fun h=>?_
 ·refine sM rfl<|sM rfl<|sM rfl<|sV (rB (decide (a0<=a2)))<|sV (rB (decide (a0<=a2)))<|sA rfl<|sN<|qR ?_
  exact oI h▸qD
 refine sM rfl<|k3<|sU<|sA rfl<|sN<|qR ?_
 exact oI h▸qD
theorem mS{a0:ar}{r:Bool}(h:dV a0=some r):EvP prog av ext 157 [.d (ar.pd a0)] [] (rB r,[]):=by
 refine Ev.body rfl Tryz.func157 rfl (by kernel_rfl)<|gS rfl rfl<|sB (.ptr 16 0) 16 (.var (ar.rc a0))<|sU<|sN<|gS rfl rfl<|sV (.ptr 16 0)<|sV (.d (ap.pd a0.aJ))<|bE h fun x1 hx1 h=>oz h (fun hb2 h=>?_) (fun hb2 h=>?_)
 ·refine WO.oM (v:=rB true) (u:=[]) rfl rfl (fun _=>rfl) rfl rfl rfl rfl rfl (jx hx1) rfl rfl (congrArg (fun b=>RV.d (.bool b)) hb2) rfl<|sM rfl<|sV (.ptr 16 5)<|sL rfl<|sV (rB (decide (a0.a8>=(0:Int))))<|sF h (fun h=>?_) fun h=>?_
  ·refine sM rfl<|sV (.ptr 16 5)<|sL rfl<|sV (.ptr 16 4)<|sL rfl<|sV (rB (decide (a0.a8<=a0.bS)))<|sF h (fun h=>?_) fun h=>?_
   ·refine sM rfl<|sV (.ptr 16 4)<|sL rfl<|sV (.ptr 16 6)<|sL rfl<|sV (rB (decide (a0.bS<=a0.bF)))<|sF h (fun h=>?_) fun h=>?_
    ·refine sM rfl<|sV (.ptr 16 6)<|sL rfl<|sV (rB (decide (a0.bF<=(18014398509481984:Int))))<|sF h (fun h=>?_) fun h=>?_
     ·refine sM rfl<|sV (.ptr 16 7)<|sL rfl<|bE h fun x7 hx7 h=>cD (nL hx7)<|sF h (fun h=>?_) fun h=>?_
      ·refine sM rfl<|sV (.ptr 16 8)<|sL rfl<|bE h fun x9 hx9 h=>cD (nL hx9)<|sV (rB x9)<|sA rfl<|sN<|qR ?_
       cases oI h
       exact qG
      refine sM rfl<|k3<|sU<|sA rfl<|sN<|qR ?_
      cases oI h
      exact qG
     refine sM rfl<|k3<|sU<|sM rfl<|k3<|sU<|sA rfl<|sN<|qR ?_
     cases oI h
     exact qG
    refine sM rfl<|k3<|sU<|sM rfl<|k3<|sU<|sM rfl<|k3<|sU ?_
    refine sA rfl<|sN<|qR ?_
    cases oI h
    exact qG
   refine sM rfl<|k3<|sK<|sK<|sU<|sM rfl<|k3<|sU<|sM rfl<|sK<|sK ?_
   refine sK<|sU<|sM rfl<|k3<|sU<|sA rfl<|sN<|qR ?_
   cases oI h
   exact qG
  refine sM rfl<|k3<|sK<|sK<|sU<|sM rfl<|k3<|sK<|sK<|sU<|sM rfl ?_
  refine k3<|sU<|sM rfl<|k3<|sU<|sM rfl<|k3<|sU<|sA rfl ?_
  refine sN<|qR ?_
  cases oI h
  exact qG
 refine WO.oM (v:=rB false) (u:=[]) rfl rfl (fun _=>rfl) rfl rfl rfl rfl rfl (jx hx1) rfl rfl (congrArg (fun b=>RV.d (.bool b)) hb2) rfl<|sM rfl<|k3<|sU<|sM rfl<|k3<|sK<|sK<|sU<|sM rfl<|sK ?_
 refine k3<|sK<|sU<|sM rfl<|k3<|sU<|sM rfl<|k3<|sU ?_
 refine sM rfl<|k3<|sU<|sA rfl<|sN<|qR ?_
 cases oI h
 exact qG
theorem lD{a0:aj}{r:aj}(h:cU a0=some r):EvP prog av ext 326 [.d (aj.pd a0)] [] (.d (aj.pd r),[]):=by
 refine Ev.body rfl Tryz.func326 rfl (by kernel_rfl)<|gS rfl rfl<|sB (.ptr 16 0) 16 (.var (aj.rc a0))<|sB (.ptr 32 0) 32 (.var zZ3)<|sN<|gS rfl rfl<|sV (.ptr 16 7)<|sV (.ptr 16 7)<|sL rfl<|bE h fun x1 hx1 h=>cR (.ref 112 0) [(112,.arr 0 184 (x1.map aD.pd))] (clone_364 hx1)<|sV (.ptr 16 7)<|sV (.ptr 16 7)<|sS 16 (.var (rI a0.aT::rI a0.fTo::rI a0.fd.bo::rI a0.fd.bf::aa.rc a0.aW++[.ref 112 0]))<|sN ?_
 refine qS<|gS rfl rfl<|sV (.ptr 16 7)<|sV (.ptr 16 7)<|sL rfl<|WO.u9 rfl rfl rfl rfl rfl rfl rfl rfl rfl<|sV (r0)<|sN<|bE h fun o16 ho16 h=>WC.block (WC.loop (WL.n4 ho16 (fun s R' B'=>hY prog 0 (A R' B') (av.at_ 326 0 3)=some (A [(1,.ptr 16 0),(2,.ptr 32 0),(13,rI (x1.length:Int)),(14,rI s.1)] [(16,.var (rI a0.aT::rI a0.fTo::rI a0.fd.bo::rI a0.fd.bf::aa.rc a0.aW++[.ref 112 0])),(32,.var zZ3),(112,.arr 0 184 (s.2.map aD.pd))])) (fun o e R' B'=>e= .exit 0∧hY prog 0 (A R' B') (av.at_ 326 0 7)=some (A [(1,.ptr 16 0),(2,.ptr 32 0)] [(16,.var (rI a0.aT::rI a0.fTo::rI a0.fd.bo::rI a0.fd.bf::aa.rc a0.aW++[.ref 112 0])),(32,.var zZ3),(112,.arr 0 184 (o.map aD.pd))])) rfl ?_ ?_))
 ·rintro⟨s2,s3⟩ R' B' q5 hI h
  refine gS rfl hI<|sF h (fun h=>?_) fun h=>?_
  ·refine sN<|qS<|cT<|qK<|qS<|qB<|gS rfl rfl<|sM rfl<|sA rfl<|sN<|WC.oW rfl rfl<|sV (.ptr 16 7)<|sV (.ptr 16 7)<|sL rfl<|sM rfl ?_
   refine sV (.ptr 16 7)<|sV (.ptr 16 7)<|sL rfl<|sM rfl<|bE h fun x8 hx8 h=>WO.pL hx8 rfl rfl rfl rfl rfl rfl rfl rfl<|sV (.elt 112 0 (s2).toNat 7)<|bE h fun x9 hx9 h=>WO.pn hx9 rfl rfl rfl rfl rfl rfl<|bE h fun x10 hx10 h=>cR (.ref 448 0) [(448,.arr 0 3 (x10.map (PD.int .i64)))] (clone_107 hx10)<|bE h fun x12 hx12 h=>WO.pL hx12 rfl rfl rfl rfl rfl rfl rfl rfl<|sV (.elt 112 0 (s2).toNat 7)<|bE h fun x13 hx13 h=>?_
   refine WO.zY (g:=aD.pd) (u:=[(448,.dead)]) (sz:=1) hx13 (fun _=>rfl) (fun _=>Nat.le_of_ble_eq_true rfl) rfl rfl rfl rfl rfl rfl rfl rfl rfl rfl rfl ?_
   refine sN<|sO<|WC.region rfl rfl<|sV (rI (rW (s2+(1:Int))))<|sM rfl<|sN ?_
   cases oI h
   exact⟨rfl,rfl⟩
  refine sN<|qS<|cF<|qX ?_
  cases oI h
  exact⟨nofun,rfl,rfl⟩
 intro e R' B' he hq
 obtain⟨rfl,hI⟩:=hq
 refine qE<|gS rfl hI<|sV (.agg (rI a0.aT::rI a0.fTo::rI a0.fd.bo::rI a0.fd.bf::aa.rc a0.aW++[.ref 112 0]))<|sH 32 (.var (rI a0.aT::rI a0.fTo::rI a0.fd.bo::rI a0.fd.bf::aa.rc a0.aW++[.ref 112 0]))<|sN<|qR ?_
 cases oI h
 exact qG
theorem mO{a0:au}{r:au}(h:dT a0=some r):EvP prog av ext 257 [.d (au.pd a0)] [] (.agg (ap.rc r.aJ++[.ref 0 0]),[.arr 0 113 (r.bu.map aj.pd)]):=by
 refine Ev.body rfl Tryz.func257 rfl (by kernel_rfl)<|gS rfl rfl<|sB (.ptr 16 0) 16 (.var (au.rc a0))<|sB (.ptr 32 0) 32 (.var [rS [],rS [],rS [],rS [],.nR])<|sN<|gS rfl rfl<|sV (.ptr 16 4)<|sL rfl<|bE h fun x1 hx1 h=>cR (.ref 112 0) [(112,.arr 0 113 (x1.map aj.pd))] (clone_325 hx1)<|sV (.ptr 16 4)<|sS 16 (.var (ap.rc a0.aJ++[.ref 112 0]))<|sN<|qS<|gS rfl rfl ?_
 refine sV (.ptr 16 4)<|sL rfl<|WO.u9 rfl rfl rfl rfl rfl rfl rfl rfl rfl<|sV (r0)<|sN<|bE h fun o15 ho15 h=>WC.block (WC.loop (WL.n4 ho15 (fun s R' B'=>hY prog 0 (A R' B') (av.at_ 257 0 3)=some (A [(1,.ptr 16 0),(2,.ptr 32 0),(10,.ref 112 0),(11,rI (x1.length:Int)),(12,rI s.1)] [(16,.var (ap.rc a0.aJ++[.ref 112 0])),(32,.var [rS [],rS [],rS [],rS [],.nR]),(112,.arr 0 113 (s.2.map aj.pd))])) (fun o e R' B'=>e= .exit 0∧hY prog 0 (A R' B') (av.at_ 257 0 7)=some (A [(1,.ptr 16 0),(2,.ptr 32 0)] [(16,.var (ap.rc a0.aJ++[.ref 112 0])),(32,.var [rS [],rS [],rS [],rS [],.nR]),(112,.arr 0 113 (o.map aj.pd))])) rfl ?_ ?_))
 ·rintro⟨s2,s3⟩ R' B' q5 hI h
  refine gS rfl hI<|sF h (fun h=>?_) fun h=>?_
  ·refine sN<|qS<|cT<|qK<|qS<|qB<|gS rfl rfl<|sM rfl<|bE h fun x8 hx8 h=>WO.pL hx8 rfl rfl rfl rfl rfl rfl rfl rfl<|bE h fun x9 hx9 h=>WO.pn hx9 rfl rfl rfl rfl rfl rfl<|sB (.ptr 64 0) 64 (.var zZ3)<|sA rfl<|sH 64 (.var (aj.rc x9)) ?_
   refine sN<|WC.oW rfl rfl<|sV (.ptr 16 4)<|sL rfl<|sM rfl<|sV (.d (aj.pd x9))<|bE h fun x10 hx10 h=>cD (lD hx10)<|bE h fun x12 hx12 h=>WO.pL hx12 rfl rfl rfl rfl rfl rfl rfl rfl<|bE h fun x13 hx13 h=>WO.tg (g:=aj.pd) (sz:=8) (p:=aj.pd x10) hx13 (by intro _;kernel_rfl) (by intro _;kernel_rfl) rfl rfl rfl rfl rfl rfl rfl rfl rfl ?_
   refine sN<|sO<|WC.region rfl rfl<|sV (rI (rW (s2+(1:Int))))<|sM rfl<|sN ?_
   cases oI h
   exact⟨rfl,rfl⟩
  refine sN<|qS<|cF<|qX ?_
  cases oI h
  exact⟨nofun,rfl,rfl⟩
 intro e R' B' he hq
 obtain⟨rfl,hI⟩:=hq
 refine qE<|gS rfl hI<|sV (.agg (ap.rc a0.aJ++[.ref 112 0]))<|sS 32 (.var (ap.rc a0.aJ++[.ref 112 0]))<|sN<|qR ?_
 exact oI h▸qD
theorem nE{a0:aB}{a1:ap}{r:au×Bool}(h:eV a0 a1=some r):EvP prog av ext 175 [.d (aB.pd a0),.d (ap.pd a1)] [] (.tup [.d (au.pd r.1),rB r.2],[]):=by
 refine Ev.body rfl Tryz.func175 rfl (by kernel_rfl)<|gS rfl rfl<|sB (.ptr 32 0) 32 (.var [rM au.pd a0.aP])<|sB (.ptr 48 0) 48 (.var (ap.rc a1))<|sB (.ptr 64 0) 64 (.var [rS [],rS [],rS [],rS [],.nR])<|sU<|sN<|qS<|gS rfl rfl<|sV (.ptr 32 0)<|sL rfl<|sE (rI (a0.aP.length:Int)) (nT _ _)<|sV (r0)<|sN<|bE h fun o8 ho8 h=>?_
 refine WC.block (WC.loop (WL.n4 ho8 (fun s R' B'=>hY prog 0 (A R' B') (av.at_ 175 0 2)=some (A [(3,.ptr 48 0),(4,.ptr 64 0),(9,rM au.pd a0.aP),(10,rI (a0.aP.length:Int)),(11,rI s)] [(48,.var (ap.rc a1)),(64,.var [rS [],rS [],rS [],rS [],.nR])])) (fun o e R' B'=>match o with| .inl y=>e= .exit 0∧hY prog 0 (A R' B') (av.at_ 175 0 7)=some (A [(4,.ptr 64 0)] [(64,.var [rS [],rS [],rS [],rS [],.nR])])| .inr r=>e= .ret∧finish prog (av.own 175) Tryz.f175 0 (A R' B')=some (.tup [.d (au.pd r.1),rB r.2],[])) rfl ?_ ?_))
 ·rintro s1 R' B' q2 hI h
  refine gS rfl hI<|sF h (fun h=>?_) fun h=>?_
  ·refine sN<|qS<|cT<|qK<|qS<|qB<|gS rfl rfl<|bE h fun x4 hx4 h=>eG hx4 rfl<|sV (.d (au.pd x4))<|sB (.ptr 112 0) 112 (.var [rS [],rS [],rS [],rS [],.nR])<|sS 112 (.var (au.rc x4))<|sN<|gS rfl rfl<|sV (.ptr 112 0) ?_
   refine sV (.d (ap.pd x4.aJ))<|sV (.d (ap.pd a1))<|oz h (fun hb5 h=>?_) (fun hb5 h=>?_)
   ·refine WO.uL (eqE_64 x4.aJ a1) hb5 rfl rfl rfl rfl rfl<|sN<|cT<|gS rfl rfl<|sV (.d (au.pd x4))<|bE h fun x6 hx6 h=>cR (.agg (ap.rc x6.aJ++[.ref 320 0])) [(320,.arr 0 113 (x6.bu.map aj.pd))] (mO hx6)<|sS 64 (.var (ap.rc x6.aJ++[.ref 320 0]))<|sT<|sN<|qR ?_
    cases oI h
    exact⟨nofun,rfl,rfl⟩
   refine WO.uL (eqE_64 x4.aJ a1) hb5 rfl rfl rfl rfl rfl<|sN<|cF<|qK<|WC.region rfl rfl<|sV (rI (rW (s1+(1:Int))))<|sM rfl<|sN ?_
   cases oI h
   exact⟨rfl,rfl⟩
  refine sN<|qS<|cF<|qX ?_
  cases oI h
  exact⟨nofun,rfl,rfl⟩
 intro e R' B' he hq
 rcases o8 with y9|r10
 ·obtain⟨rfl,hI⟩:=hq
  refine qE<|gS rfl hI<|sV (.agg [rS [],rS [],rS [],rS [],.nR])<|sS 64 (.var [rS [],rS [],rS [],rS [],.nR])<|sU<|sN<|qR ?_
  exact oI h▸qD
 obtain⟨rfl,hf⟩:=hq
 cases oI h
 exact hf
theorem inventory_at_ev{a0:au}{a1:Int}{r:aj×Bool}(h:gn a0 a1=some r):EvP prog av ext 176 [.d (au.pd a0),rI a1] [] (.tup [.d (aj.pd r.1),rB r.2],[]):=by
 refine Ev.body rfl Tryz.func176 rfl (by kernel_rfl)<|gS rfl rfl<|sB (.ptr 32 0) 32 (.var (au.rc a0))<|sB (.ptr 64 0) 64 (.var zZ3)<|sU<|sN<|qS<|gS rfl rfl<|sV (.ptr 32 4)<|sL rfl<|sE (rI (a0.bu.length:Int)) (nT _ _)<|sV (r0)<|sN<|bE h fun o8 ho8 h=>WC.block (WC.loop (WL.n4 ho8 (fun s R' B'=>hY prog 0 (A R' B') (av.at_ 176 0 2)=some (A [(1,rI a1),(4,.ptr 64 0),(9,rM aj.pd a0.bu),(10,rI (a0.bu.length:Int)),(11,rI s)] [(64,.var zZ3)])) (fun o e R' B'=>match o with| .inl y=>e= .exit 0∧hY prog 0 (A R' B') (av.at_ 176 0 7)=some (A [(4,.ptr 64 0)] [(64,.var zZ3)])| .inr r=>e= .ret∧finish prog (av.own 176) Tryz.f176 0 (A R' B')=some (.tup [.d (aj.pd r.1),rB r.2],[])) rfl ?_ ?_))
 ·rintro s1 R' B' q2 hI h
  refine gS rfl hI<|sF h (fun h=>?_) fun h=>?_
  ·refine sN<|qS<|cT<|qK<|qS<|qB<|gS rfl rfl<|bE h fun x4 hx4 h=>eG hx4 rfl<|sV (.d (aj.pd x4))<|sB (.ptr 112 0) 112 (.var zZ3)<|sH 112 (.var (aj.rc x4))<|sN<|gS rfl rfl<|sV (.ptr 112 0) ?_
   refine sL rfl<|sM rfl<|sF h (fun h=>?_) fun h=>?_
   ·refine sM rfl<|sM rfl<|sV (.ptr 112 1)<|sL rfl<|sV (rB (decide (a1<x4.fTo)))<|sF h (fun h=>?_) fun h=>?_
    ·refine sN<|cT<|gS rfl rfl<|sV (.d (aj.pd x4))<|sH 64 (.var (aj.rc x4))<|sT<|sN<|qR ?_
     cases oI h
     exact⟨nofun,rfl,rfl⟩
    refine sN<|cF<|qK<|WC.region rfl rfl<|sV (rI (rW (s1+(1:Int))))<|sM rfl<|sN ?_
    cases oI h
    exact⟨rfl,rfl⟩
   refine sM rfl<|k3<|sK<|sU<|sN<|cF<|qK<|WC.region rfl rfl<|sV (rI (rW (s1+(1:Int))))<|sM rfl<|sN ?_
   cases oI h
   exact⟨rfl,rfl⟩
  refine sN<|qS<|cF<|qX ?_
  cases oI h
  exact⟨nofun,rfl,rfl⟩
 intro e R' B' he hq
 rcases o8 with y9|r10
 ·obtain⟨rfl,hI⟩:=hq
  refine qE<|gS rfl hI<|sG (.agg zZ3)<|sH 64 (.var zZ3)<|sU<|sN<|qR ?_
  cases oI h
  exact qG
 obtain⟨rfl,hf⟩:=hq
 cases oI h
 exact hf
theorem inventory_At_ev{a0:aB}{a1:ap}{a2:Int}{r:aj×Int}(h:gm a0 a1 a2=some r):EvP prog av ext 99 [.d (aB.pd a0),.d (ap.pd a1),rI a2] [] (.tup [.d (aj.pd r.1),rI r.2],[]):=by
 refine Ev.body rfl Tryz.func99 rfl (by kernel_rfl)<|gS rfl rfl<|sB (.ptr 48 0) 48 (.var [rM au.pd a0.aP])<|sB (.ptr 64 0) 64 (.var (ap.rc a1))<|sB (.ptr 96 0) 96 (.var zZ3)<|sV (r0)<|sN<|qS<|gS rfl rfl<|sV (.d (aB.pd a0))<|bE h fun x1 hx1 h=>cD (jW hx1)<|sF h (fun h=>?_) fun h=>?_
 ·refine sN<|cT<|gS rfl rfl<|sG (.agg zZ3)<|sH 96 (.var zZ3)<|sV (rI 1)<|sN<|qR ?_
  cases oI h
  exact qG
 refine sN<|cF<|qK<|gS rfl rfl<|sV (.d (aB.pd a0))<|sV (.d (ap.pd a1))<|bE h fun x3 hx3 h=>cR (.tup [.d (au.pd x3.1),rB x3.2]) [] (nE hx3)<|sM rfl<|sV (.d (au.pd x3.1))<|sV (rB x3.2)<|sB (.ptr 128 0) 128 (.var [rS [],rS [],rS [],rS [],.nR])<|sS 128 (.var (au.rc x3.1))<|sA rfl<|sN ?_
 refine gS rfl rfl<|sV (.d (au.pd x3.1))<|sM rfl<|bE h fun x4 hx4 h=>cR (.tup [.d (aj.pd x4.1),rB x4.2]) [] (inventory_at_ev hx4)<|sM rfl<|sV (.d (aj.pd x4.1))<|sV (rB x4.2)<|sB (.ptr 160 0) 160 (.var zZ3)<|sH 160 (.var (aj.rc x4.1))<|sA rfl<|sN<|qS<|gS rfl rfl<|sM rfl ?_
 refine sF h (fun h=>?_) fun h=>?_
 ·refine sN<|cT<|gS rfl rfl<|sG (.agg zZ3)<|sH 96 (.var zZ3)<|sV (rI 6)<|sN<|qR ?_
  cases oI h
  exact qG
 refine sN<|cF<|qK<|gS rfl rfl<|sV (.d (aj.pd x4.1))<|sH 96 (.var (aj.rc x4.1))<|sV (r0)<|sN<|qR ?_
 cases oI h
 exact qG
end Go.Dw.Lt
