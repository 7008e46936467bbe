
import Derived.Test.YtpeijlelfekcoaaGreatDoorFtFn
import Derived.Test.YtpeijlelfekcoaaGreatDoorDwShort
import Derived.Test.YtpeijlelfekcoaaGreatDoorProg




set_option maxRecDepth 100000
set_option maxHeartbeats 4000000
namespace Go.Dw.Ft
open Go.Proofs Go.Proofs.Tryz Go.Dw
@[reducible] def rW (n : Int) : Int := IntKind.wrap .i64 n
@[reducible] def rI (n : Int) : RV := .d (.int .i64 n)
@[reducible] def r0 : RV := .d (.int .i64 0)
@[reducible] def rS (s : List UInt8) : RV := .d (.str s)
@[reducible] def rB (b : Bool) : RV := .d (.bool b)
@[reducible] def zZ0 : List RV := [.d (.int .i64 0), .d (.int .i64 0), .d (.int .i64 0), .d (.int .i64 0), .d (.int .i64 0), .d (.str []), .d (.str []), .d (.str []), .d (.str []), .d (.int .i64 0), .d (.int .i64 0), .d (.int .i64 0), .d (.int .i64 0), .d (.int .i64 0), .nils, .d (.int .i64 0), .d (.int .i64 0), .d (.int .i64 0), .d (.int .i64 0), .d (.int .i64 0), .d (.int .i64 0), .d (.int .i64 0), .d (.int .i64 0), .d (.int .i64 0), .d (.int .i64 0), .d (.int .i64 0), .d (.int .i64 0), .d (.int .i64 0), .d (.int .i64 0), .d (.int .i64 0)]
@[reducible] def zZ1 : List RV := [.d (.str []), .d (.str []), .d (.str []), .d (.str []), .d (.int .i64 0), .d (.int .i64 0), .d (.int .i64 0), .d (.int .i64 0), .d (.int .i64 0), .nils, .d (.int .i64 0), .d (.int .i64 0), .d (.int .i64 0), .d (.int .i64 0), .d (.int .i64 0), .d (.int .i64 0), .d (.int .i64 0), .d (.int .i64 0), .d (.int .i64 0), .d (.int .i64 0), .d (.int .i64 0), .d (.int .i64 0), .d (.int .i64 0), .d (.int .i64 0), .d (.int .i64 0)]
@[reducible] def zZ2 : List RV := [.nils, .d (.int .i64 0), .d (.int .i64 0), .d (.int .i64 0), .d (.int .i64 0), .d (.int .i64 0), .d (.int .i64 0), .d (.int .i64 0), .d (.int .i64 0), .d (.int .i64 0), .d (.int .i64 0), .d (.int .i64 0), .d (.int .i64 0), .d (.int .i64 0), .d (.int .i64 0), .d (.int .i64 0)]
@[reducible] def zZ3 : ai := (ai.mk 0 0 0 0 0 (ar.mk (ag.mk (am.mk [] [] [] []) 0 0 0 0 0) (aw.mk [] (aB.mk (aj.mk 0 0 0) 0 0 0 (aP.mk (aj.mk 0 0 0) (aj.mk 0 0 0))) (aG.mk 0 0) 0)))
@[reducible] def zZ5 : List RV := [.d (.int .i64 0), .d (.int .i64 0), .d (.int .i64 0), .d (.int .i64 0), .d (.int .i64 0), .d (.int .i64 0), .d (.int .i64 0), .d (.int .i64 0), .d (.int .i64 0), .d (.int .i64 0), .d (.int .i64 0), .d (.int .i64 0)]
@[reducible] def zZ7 : List RV := [.d (.str []), .d (.str []), .d (.str []), .d (.str []), .d (.int .i64 0), .d (.int .i64 0), .d (.int .i64 0), .d (.int .i64 0), .d (.int .i64 0)]
@[reducible] def ai.rc (x : ai) : List RV := [.d (.int .i64 x.aQ), .d (.int .i64 x.bh), .d (.int .i64 x.fID), .d (.int .i64 x.fAt), .d (.int .i64 x.aW), .d (.str x.ae.ak.ah.aC), .d (.str x.ae.ak.ah.aE), .d (.str x.ae.ak.ah.ac), .d (.str x.ae.ak.ah.aD), .d (.int .i64 x.ae.ak.aF), .d (.int .i64 x.ae.ak.aJ), .d (.int .i64 x.ae.ak.aN), .d (.int .i64 x.ae.ak.au), .d (.int .i64 x.ae.ak.av), .d (.lst (x.ae.aa.aK.map ag.pd)), .d (.int .i64 x.ae.aa.ac.aA.fX), .d (.int .i64 x.ae.aa.ac.aA.fY), .d (.int .i64 x.ae.aa.ac.aA.fZ), .d (.int .i64 x.ae.aa.ac.aF), .d (.int .i64 x.ae.aa.ac.aO), .d (.int .i64 x.ae.aa.ac.aV), .d (.int .i64 x.ae.aa.ac.ap.aI.fX), .d (.int .i64 x.ae.aa.ac.ap.aI.fY), .d (.int .i64 x.ae.aa.ac.ap.aI.fZ), .d (.int .i64 x.ae.aa.ac.ap.az.fX), .d (.int .i64 x.ae.aa.ac.ap.az.fY), .d (.int .i64 x.ae.aa.ac.ap.az.fZ), .d (.int .i64 x.ae.aa.aq.aI), .d (.int .i64 x.ae.aa.aq.az), .d (.int .i64 x.ae.aa.aU)]
@[reducible] def ar.rc (x : ar) : List RV := [.d (.str x.ak.ah.aC), .d (.str x.ak.ah.aE), .d (.str x.ak.ah.ac), .d (.str x.ak.ah.aD), .d (.int .i64 x.ak.aF), .d (.int .i64 x.ak.aJ), .d (.int .i64 x.ak.aN), .d (.int .i64 x.ak.au), .d (.int .i64 x.ak.av), .d (.lst (x.aa.aK.map ag.pd)), .d (.int .i64 x.aa.ac.aA.fX), .d (.int .i64 x.aa.ac.aA.fY), .d (.int .i64 x.aa.ac.aA.fZ), .d (.int .i64 x.aa.ac.aF), .d (.int .i64 x.aa.ac.aO), .d (.int .i64 x.aa.ac.aV), .d (.int .i64 x.aa.ac.ap.aI.fX), .d (.int .i64 x.aa.ac.ap.aI.fY), .d (.int .i64 x.aa.ac.ap.aI.fZ), .d (.int .i64 x.aa.ac.ap.az.fX), .d (.int .i64 x.aa.ac.ap.az.fY), .d (.int .i64 x.aa.ac.ap.az.fZ), .d (.int .i64 x.aa.aq.aI), .d (.int .i64 x.aa.aq.az), .d (.int .i64 x.aa.aU)]
@[reducible] def aw.rc (x : aw) : List RV := [.d (.lst (x.aK.map ag.pd)), .d (.int .i64 x.ac.aA.fX), .d (.int .i64 x.ac.aA.fY), .d (.int .i64 x.ac.aA.fZ), .d (.int .i64 x.ac.aF), .d (.int .i64 x.ac.aO), .d (.int .i64 x.ac.aV), .d (.int .i64 x.ac.ap.aI.fX), .d (.int .i64 x.ac.ap.aI.fY), .d (.int .i64 x.ac.ap.aI.fZ), .d (.int .i64 x.ac.ap.az.fX), .d (.int .i64 x.ac.ap.az.fY), .d (.int .i64 x.ac.ap.az.fZ), .d (.int .i64 x.aq.aI), .d (.int .i64 x.aq.az), .d (.int .i64 x.aU)]
@[reducible] def aB.rc (x : aB) : List RV := [.d (.int .i64 x.aA.fX), .d (.int .i64 x.aA.fY), .d (.int .i64 x.aA.fZ), .d (.int .i64 x.aF), .d (.int .i64 x.aO), .d (.int .i64 x.aV), .d (.int .i64 x.ap.aI.fX), .d (.int .i64 x.ap.aI.fY), .d (.int .i64 x.ap.aI.fZ), .d (.int .i64 x.ap.az.fX), .d (.int .i64 x.ap.az.fY), .d (.int .i64 x.ap.az.fZ)]
@[reducible] def ag.rc (x : ag) : List RV := [.d (.str x.ah.aC), .d (.str x.ah.aE), .d (.str x.ah.ac), .d (.str x.ah.aD), .d (.int .i64 x.aF), .d (.int .i64 x.aJ), .d (.int .i64 x.aN), .d (.int .i64 x.au), .d (.int .i64 x.av)]
@[reducible] def aL.rc (x : aL) : List RV := [.d (.int .i64 x.fID), .d (.bool x.br), .d (.str x.ak.ah.aC), .d (.str x.ak.ah.aE), .d (.str x.ak.ah.ac), .d (.str x.ak.ah.aD), .d (.int .i64 x.ak.aF), .d (.int .i64 x.ak.aJ), .d (.int .i64 x.ak.aN), .d (.int .i64 x.ak.au), .d (.int .i64 x.ak.av), .d (.int .i64 x.aW), .d (.str x.ae.ak.ah.aC), .d (.str x.ae.ak.ah.aE), .d (.str x.ae.ak.ah.ac), .d (.str x.ae.ak.ah.aD), .d (.int .i64 x.ae.ak.aF), .d (.int .i64 x.ae.ak.aJ), .d (.int .i64 x.ae.ak.aN), .d (.int .i64 x.ae.ak.au), .d (.int .i64 x.ae.ak.av), .d (.lst (x.ae.aa.aK.map ag.pd)), .d (.int .i64 x.ae.aa.ac.aA.fX), .d (.int .i64 x.ae.aa.ac.aA.fY), .d (.int .i64 x.ae.aa.ac.aA.fZ), .d (.int .i64 x.ae.aa.ac.aF), .d (.int .i64 x.ae.aa.ac.aO), .d (.int .i64 x.ae.aa.ac.aV), .d (.int .i64 x.ae.aa.ac.ap.aI.fX), .d (.int .i64 x.ae.aa.ac.ap.aI.fY), .d (.int .i64 x.ae.aa.ac.ap.aI.fZ), .d (.int .i64 x.ae.aa.ac.ap.az.fX), .d (.int .i64 x.ae.aa.ac.ap.az.fY), .d (.int .i64 x.ae.aa.ac.ap.az.fZ), .d (.int .i64 x.ae.aa.aq.aI), .d (.int .i64 x.ae.aa.aq.az), .d (.int .i64 x.ae.aa.aU), .d (.int .i64 x.fAt)]
def hintAt : FuncId → Nat → Nat → List Ghost := fun f nb id =>
  if f = 3 then (if nb = 0 then (if id = 8 then [.keep [1, 3, 4, 5, 11, 12] [80, 192, 640]] else if id = 9 then [.keep [1, 3, 4, 11, 12, 66, 67, 68] [192, 640]] else if id = 16 then [.keep [1, 3, 4, 11, 12] [192, 640]] else if id = 20 then [.keep [1, 11, 20, 22] [640, 1664]] else if id = 21 then [.keep [128, 129, 130] []] else if id = 28 then [.keep [] []] else []) else []) else if f = 7 then (if nb = 0 then (if id = 2 then [.keep [0, 5, 6] []] else if id = 7 then [.keep [0] []] else []) else []) else if f = 12 then (if nb = 1 then (if id = 5 then [.frz (.reg 5), .own 6 656 40, .keep [0, 1, 5, 6, 7, 8, 9] [0, 112, 656]] else if id = 11 then [.keep [6] [0, 656]] else []) else []) else if f = 14 then (if nb = 0 then (if id = 8 then [.keep [1, 4, 36, 37, 38] [16, 64, 336]] else if id = 12 then [.keep [1, 4] [16, 64, 336]] else []) else if nb = 1 then (if id = 8 then [.keep [1, 4, 36, 37, 38] [0, 16, 64, 336]] else if id = 12 then [.keep [1, 4] [0, 16, 64, 336]] else []) else []) else if f = 15 then (if nb = 0 then (if id = 5 then [.keep [4, 11, 12, 13] []] else if id = 11 then [.keep [4] []] else []) else if nb = 1 then (if id = 5 then [.keep [4, 11, 12, 13] [0]] else if id = 11 then [.keep [4] [0]] else []) else []) else if f = 17 then (if nb = 0 then (if id = 5 then [.keep [1, 3, 4] [16, 48]] else if id = 9 then [.keep [1, 3] [16, 48]] else []) else if nb = 1 then (if id = 5 then [.keep [1, 3, 4] [0, 16, 48]] else if id = 9 then [.keep [1, 3] [0, 16, 48]] else []) else []) else if f = 19 then (if nb = 0 then (if id = 6 then [.ownp (.cell 80 14) 832 25, .keep [0, 2, 4, 5, 6, 7] [32, 80, 208, 832]] else if id = 9 then [.keep [0, 2, 4, 5, 6] [32, 80, 208, 832]] else []) else []) else if f = 20 then (if nb = 0 then (if id = 10 then [.ownp (.cell 80 14) 752 25, .keep [0, 2, 4, 5, 6] [32, 80, 208, 752]] else if id = 13 then [.keep [0, 2, 4, 5] [32, 80, 208, 752]] else []) else []) else if f = 22 then (if nb = 0 then (if id = 3 then [.keep [3, 15, 16, 17] [224]] else if id = 11 then [.keep [3] [224]] else if id = 14 then [.own 10 1008 40, .keep [3, 10, 11] [224, 1008]] else []) else []) else if f = 24 then (if nb = 0 then (if id = 3 then [.keep [0, 3, 7, 8, 9] [96]] else if id = 7 then [.keep [0, 3, 5, 7, 8, 9] [80, 96]] else if id = 11 then [.keep [] []] else []) else []) else if f = 32 then (if nb = 1 then (if id = 3 then [.ownp (.cell 48 0) 560 119, .keep [0, 2, 3, 4] [0, 32, 48, 560]] else if id = 6 then [.keep [2, 3] [0, 32, 48, 560]] else []) else []) else if f = 33 then (if nb = 0 then (if id = 8 then [.own 15 2112 123, .own 16 2048 40, .keep [1, 2, 3, 4, 5, 14, 15, 16, 17] [80, 2048, 2112]] else if id = 14 then [.keep [1, 2, 3, 4, 5, 14, 15, 16, 17, 18, 19] [80, 288, 2048, 2112]] else if id = 20 then [.keep [1, 2, 3, 4, 5, 14, 15, 16, 17, 18, 19] [80, 288, 2048, 2112]] else if id = 24 then [.keep [2, 3, 4, 5, 14, 15, 16] [80, 2048, 2112]] else if id = 25 then [.keep [2, 3, 4, 5, 14, 15, 16, 21] [80, 2048, 2112]] else if id = 31 then [.keep [2, 15, 16] [2048, 2112]] else []) else []) else if f = 34 then (if nb = 1 then (if id = 3 then [.own 5 1344 38, .keep [0, 1, 5, 6] [0, 1344]] else if id = 8 then [.keep [0, 1, 5, 6, 7, 23, 24] [0, 112, 304, 1344]] else if id = 13 then [.frz (.cell 112 9), .keep [0, 1, 5, 6, 7] [0, 112, 1344]] else if id = 16 then [.keep [5] [0, 1344]] else []) else []) else if f = 36 then (if nb = 1 then (if id = 1 then [.ownp (.cell 0 0) 320 9, .keep [0, 6, 7, 8] [0, 320]] else []) else if nb = 2 then (if id = 1 then [.bumpp (.cell 0 0), .keep [0, 6, 7, 8] [0, 1]] else []) else []) else if f = 40 then (if nb = 0 then (if id = 6 then [.keep [3, 4, 5, 6] [48, 64, 368]] else if id = 9 then [.keep [3, 4, 5] [48, 64, 368]] else []) else if nb = 1 then (if id = 6 then [.keep [3, 4, 5, 6] [0, 48, 64, 368]] else if id = 9 then [.keep [3, 4, 5] [0, 48, 64, 368]] else []) else []) else if f = 46 then (if nb = 0 then (if id = 2 then [.keep [0, 3] []] else if id = 6 then [.keep [] []] else []) else []) else if f = 51 then (if nb = 0 then (if id = 4 then [.own 3 352 9, .keep [0, 3, 4, 5] [352]] else if id = 9 then [.keep [0, 3, 4] [352]] else []) else []) else if f = 52 then (if nb = 1 then (if id = 5 then [.keep [3, 4, 5] [0]] else if id = 6 then [.keep [3, 4, 5, 6] [0]] else if id = 11 then [.keep [4, 5] [0]] else []) else []) else if f = 60 then (if nb = 0 then (if id = 5 then [.keep [1, 4] []] else if id = 8 then [.keep [1, 4, 11] []] else if id = 12 then [.keep [] []] else []) else []) else if f = 61 then (if nb = 0 then (if id = 3 then [.own 5 560 3, .keep [0, 1, 5, 6] [560]] else if id = 8 then [.keep [0, 1, 5, 6, 7] [560]] else if id = 11 then [.keep [0, 1, 5] [560]] else if id = 12 then [.keep [0, 1, 5, 8] [560]] else if id = 13 then [.keep [0, 1, 5, 8] [560]] else if id = 15 then [.keep [0, 1, 5, 8, 9] [560]] else if id = 19 then [.keep [5] [560]] else []) else []) else if f = 62 then (if nb = 0 then (if id = 3 then [.keep [2, 3, 5, 6] [32, 48]] else if id = 7 then [.keep [5] []] else []) else []) else if f = 63 then (if nb = 0 then (if id = 8 then [.keep [3, 7, 8] [48, 112, 128]] else []) else []) else if f = 64 then (if nb = 0 then (if id = 2 then [.keep [0, 1, 5] []] else if id = 6 then [.keep [] []] else []) else if nb = 1 then (if id = 2 then [.keep [0, 1, 5] [0]] else if id = 6 then [.keep [] [0]] else []) else []) else if f = 66 then (if nb = 1 then (if id = 4 then [.ownp (.cell 80 9) 656 25, .keep [0, 1, 4, 5, 6, 7] [0, 64, 80, 656]] else if id = 7 then [.keep [0, 4, 5, 6] [0, 64, 80, 656]] else []) else []) else if f = 69 then (if nb = 0 then (if id = 3 then [.keep [0, 3, 9, 10, 11] []] else if id = 9 then [.keep [0, 3] []] else if id = 11 then [.keep [6, 25, 26, 27] [384]] else if id = 15 then [.keep [6] [384]] else []) else []) else if f = 74 then (if nb = 0 then (if id = 3 then [.own 3 288 9, .keep [0, 3, 4] [288]] else if id = 6 then [.keep [3] [288]] else []) else []) else if f = 79 then (if nb = 0 then (if id = 2 then [.keep [0, 1, 7, 8] []] else if id = 7 then [.keep [] []] else []) else if nb = 1 then (if id = 2 then [.keep [0, 1, 7, 8] [0]] else if id = 7 then [.keep [] [0]] else []) else []) else if f = 95 then (if nb = 0 then (if id = 4 then [.keep [1, 3] [16]] else if id = 9 then [.keep [] []] else []) else []) else if f = 96 then (if nb = 0 then (if id = 2 then [.keep [0, 3] []] else if id = 3 then [.keep [0, 3] []] else if id = 6 then [.keep [0, 3] []] else if id = 7 then [.keep [0, 3, 4] []] else if id = 11 then [.keep [0] []] else []) else []) else if f = 97 then (if nb = 0 then (if id = 2 then [.keep [0, 3] []] else if id = 3 then [.keep [0, 3] []] else if id = 7 then [.keep [0, 3, 4] []] else if id = 8 then [.keep [0, 3, 4, 5] []] else if id = 12 then [.keep [] []] else []) else []) else if f = 98 then (if nb = 0 then (if id = 2 then [.keep [0, 3, 5] [48]] else if id = 6 then [.keep [] []] else []) else []) else if f = 99 then (if nb = 0 then (if id = 2 then [.keep [0, 1, 5] []] else if id = 3 then [.keep [0, 1, 5] []] else if id = 5 then [.keep [0, 1, 5, 6] []] else if id = 9 then [.keep [] []] else []) else []) else if f = 106 then (if nb = 0 then (if id = 6 then [.own 0 80000 3, .mv (.reg 0) 90097, .keep [0] [90097]] else []) else []) else if f = 110 then (if nb = 0 then (if id = 2 then [.keep [0, 1, 2, 9, 10] []] else if id = 7 then [.keep [0, 1, 2] []] else []) else []) else if f = 111 then (if nb = 0 then (if id = 2 then [.keep [0, 1, 7, 8] []] else if id = 7 then [.keep [] []] else []) else []) else if f = 112 then (if nb = 0 then (if id = 2 then [.keep [0, 1, 2, 7] []] else if id = 6 then [.keep [0, 1, 2] []] else []) else []) else if f = 118 then (if nb = 0 then (if id = 3 then [.keep [0, 1, 5, 6] [112]] else if id = 8 then [.keep [5] [112]] else []) else []) else if f = 119 then (if nb = 0 then (if id = 4 then [.keep [0, 1, 5] []] else if id = 8 then [.keep [] []] else []) else []) else if f = 131 then (if nb = 0 then (if id = 3 then [.keep [0, 2, 3, 4] [32, 48]] else if id = 7 then [.keep [2, 3] [32, 48]] else []) else []) else if f = 132 then (if nb = 0 then (if id = 3 then [.own 3 816 25, .keep [0, 3, 4] [816]] else if id = 6 then [.keep [0, 3, 4, 5] [816]] else if id = 8 then [.keep [0, 3, 4, 5] [816]] else if id = 9 then [.keep [0, 3, 4, 5] [816]] else if id = 12 then [.keep [3] [816]] else []) else []) else if f = 134 then (if nb = 0 then (if id = 2 then [.keep [0, 1, 5] []] else if id = 3 then [.keep [0, 1, 5] []] else if id = 5 then [.keep [0, 1, 5, 6] []] else if id = 9 then [.keep [] []] else []) else []) else if f = 155 then (if nb = 0 then (if id = 5 then [.keep [41, 42] []] else []) else []) else []
def aM : Hints := { at_ := hintAt, mt := fun f i => (f == 75 && i == 12) || (f == 106 && i == 25) || (f == 118 && i == 7), by_ := fun f i => (f == 14 && i == 0) || (f == 15 && i == 0) || (f == 16 && i == 0) || (f == 17 && i == 0) || (f == 38 && i == 0) || (f == 40 && i == 0) || (f == 42 && i == 0) || (f == 64 && i == 0) || (f == 79 && i == 0) || (f == 106 && i == 0), own := fun f i => (f == 66 && i == 0) || (f == 74 && i == 0) || (f == 106 && i == 0) }
theorem iS (a b : ag) : binT prog .eql 25 (.d a.pd) (.d b.pd) = some (.bool (((a.ah.aC == b.ah.aC) && ((a.ah.aE == b.ah.aE) && ((a.ah.ac == b.ah.ac) && ((a.ah.aD == b.ah.aD) && true)))) && ((a.aF == b.aF) && ((a.aJ == b.aJ) && ((a.aN == b.aN) && ((a.au == b.au) && ((a.av == b.av) && true)))))), true) := by kernel_rfl
theorem eqN_25 (a b : ag) : binT prog .neq 25 (.d a.pd) (.d b.pd) = some (.bool (!(((a.ah.aC == b.ah.aC) && ((a.ah.aE == b.ah.aE) && ((a.ah.ac == b.ah.ac) && ((a.ah.aD == b.ah.aD) && true)))) && ((a.aF == b.aF) && ((a.aJ == b.aJ) && ((a.aN == b.aN) && ((a.au == b.au) && ((a.av == b.av) && true))))))), true) := by kernel_rfl
theorem eqE_32 (a b : aB) : binT prog .eql 32 (.d a.pd) (.d b.pd) = some (.bool (((a.aA.fX == b.aA.fX) && ((a.aA.fY == b.aA.fY) && ((a.aA.fZ == b.aA.fZ) && true))) && ((a.aF == b.aF) && ((a.aO == b.aO) && ((a.aV == b.aV) && ((((a.ap.aI.fX == b.ap.aI.fX) && ((a.ap.aI.fY == b.ap.aI.fY) && ((a.ap.aI.fZ == b.ap.aI.fZ) && true))) && (((a.ap.az.fX == b.ap.az.fX) && ((a.ap.az.fY == b.ap.az.fY) && ((a.ap.az.fZ == b.ap.az.fZ) && true))) && true)) && true))))), true) := by kernel_rfl
theorem eqE_34 (a b : aG) : binT prog .eql 34 (.d a.pd) (.d b.pd) = some (.bool ((a.aI == b.aI) && ((a.az == b.az) && true)), true) := by kernel_rfl


def ext : FuncId → Option CallD := fun f => if f = 47 then some splitD else if f = 67 then some itoaD else if f = 86 then some atoiD else if f = 39 then some joinD else none
theorem law37_small_ev {a0 : (List ai)} {r : Bool} (h : iF a0 = some r) : EvP prog aM ext 7 [.d (.lst (a0.map ai.pd))] [] (rB r, []) := by
 refine Ev.body rfl Tryz.func7 rfl (by kernel_rfl)<|gS rfl rfl<|sU<|sN<|qS<|gS rfl rfl<|sM rfl<|sE (rI (a0.length : Int)) (lenMap _ _)<|sV (r0)<|sN<|bE h fun o7 ho7 h => WC.block (WC.loop (WL.ofLoop ho7 (fun s R' B' => ghosts prog 0 (A R' B') (aM.at_ 7 0 2) = some (A [(0, .d (.lst (a0.map ai.pd))), (5, rI (a0.length : Int)), (6, rI s)] [])) (fun o e R' B' => match o with | .inl y => e = .exit 0 ∧ ghosts prog 0 (A R' B') (aM.at_ 7 0 7) = some (A [(0, .d (.lst (a0.map ai.pd)))] []) | .inr r => e = .ret ∧ finish prog (aM.own 7) Tryz.f7 0 (A R' B') = some (rB r, [])) rfl ?_ ?_))
 ·rintro s1 R' B' q2 hI h
  refine gS rfl hI<|sF h (fun h => ?_) fun h => ?_
  ·refine sN<|qS<|cT<|qK<|qS<|qB<|gS rfl rfl<|sM rfl<|sA rfl<|sN<|gS rfl rfl<|sM rfl<|sM rfl<|bE h fun x4 hx4 h => eG hx4 rfl ?_
   refine sV (.cptr [.str x4.ae.ak.ah.aC, .str x4.ae.ak.ah.aE, .str x4.ae.ak.ah.ac, .str x4.ae.ak.ah.aD, .int .i64 x4.ae.ak.aF, .int .i64 x4.ae.ak.aJ, .int .i64 x4.ae.ak.aN, .int .i64 x4.ae.ak.au, .int .i64 x4.ae.ak.av, .lst (x4.ae.aa.aK.map ag.pd), .int .i64 x4.ae.aa.ac.aA.fX, .int .i64 x4.ae.aa.ac.aA.fY, .int .i64 x4.ae.aa.ac.aA.fZ, .int .i64 x4.ae.aa.ac.aF, .int .i64 x4.ae.aa.ac.aO, .int .i64 x4.ae.aa.ac.aV, .int .i64 x4.ae.aa.ac.ap.aI.fX, .int .i64 x4.ae.aa.ac.ap.aI.fY, .int .i64 x4.ae.aa.ac.ap.aI.fZ, .int .i64 x4.ae.aa.ac.ap.az.fX, .int .i64 x4.ae.aa.ac.ap.az.fY, .int .i64 x4.ae.aa.ac.ap.az.fZ, .int .i64 x4.ae.aa.aq.aI, .int .i64 x4.ae.aa.aq.az, .int .i64 x4.ae.aa.aU])<|sV (.cptr [.lst (x4.ae.aa.aK.map ag.pd), .int .i64 x4.ae.aa.ac.aA.fX, .int .i64 x4.ae.aa.ac.aA.fY, .int .i64 x4.ae.aa.ac.aA.fZ, .int .i64 x4.ae.aa.ac.aF, .int .i64 x4.ae.aa.ac.aO, .int .i64 x4.ae.aa.ac.aV, .int .i64 x4.ae.aa.ac.ap.aI.fX, .int .i64 x4.ae.aa.ac.ap.aI.fY, .int .i64 x4.ae.aa.ac.ap.aI.fZ, .int .i64 x4.ae.aa.ac.ap.az.fX, .int .i64 x4.ae.aa.ac.ap.az.fY, .int .i64 x4.ae.aa.ac.ap.az.fZ, .int .i64 x4.ae.aa.aq.aI, .int .i64 x4.ae.aa.aq.az, .int .i64 x4.ae.aa.aU])<|sV (.cptr [.lst (x4.ae.aa.aK.map ag.pd), .int .i64 x4.ae.aa.ac.aA.fX, .int .i64 x4.ae.aa.ac.aA.fY, .int .i64 x4.ae.aa.ac.aA.fZ, .int .i64 x4.ae.aa.ac.aF, .int .i64 x4.ae.aa.ac.aO, .int .i64 x4.ae.aa.ac.aV, .int .i64 x4.ae.aa.ac.ap.aI.fX, .int .i64 x4.ae.aa.ac.ap.aI.fY, .int .i64 x4.ae.aa.ac.ap.aI.fZ, .int .i64 x4.ae.aa.ac.ap.az.fX, .int .i64 x4.ae.aa.ac.ap.az.fY, .int .i64 x4.ae.aa.ac.ap.az.fZ, .int .i64 x4.ae.aa.aq.aI, .int .i64 x4.ae.aa.aq.az, .int .i64 x4.ae.aa.aU])<|sC rfl<|sE (rI (x4.ae.aa.aK.length : Int)) (lenMap _ _)<|sF h (fun h => ?_) fun h => ?_
   ·refine sN<|cT<|gS rfl rfl<|sU<|sN<|qR ?_
    cases oI h
    exact ⟨nofun, rfl, rfl⟩
   refine sN<|cF<|qK<|WC.region rfl rfl<|sV (rI (rW (s1 + (1 : Int))))<|sM rfl<|sN ?_
   cases oI h
   exact ⟨rfl, rfl⟩
  refine sN<|qS<|cF<|qX ?_
  cases oI h
  exact ⟨nofun, rfl, rfl⟩
 intro e R' B' he hq
 rcases o7 with y8 | r9
 ·obtain ⟨rfl, hI⟩ := hq
  refine qE<|gS rfl hI<|sM rfl<|sE (rI (a0.length : Int)) (lenMap _ _)<|sV (rB (decide ((a0.length : Int) ≤ (20 : Int))))<|sA rfl<|sN<|qR ?_
  cases oI h
  exact qD
 obtain ⟨rfl, hf⟩ := hq
 cases oI h
 exact hf
theorem jX {a0 : Int} {a1 : Int} {r : Int} (h : gE a0 a1 = some r) : EvP prog aM ext 18 [rI a0, rI a1] [] (rI r, []) := by
 refine Ev.body rfl Tryz.func18 rfl (by kernel_rfl)<|gS rfl rfl<|sV (r0)<|sN<|qS<|gS rfl rfl<|sM rfl<|sF h (fun h => ?_) fun h => ?_
 ·refine sN<|cT<|gS rfl rfl<|sV (r0)<|sN<|qR ?_
  cases oI h
  exact qD
 refine sN<|cF<|qK<|gS rfl rfl<|sM rfl<|sM rfl<|bE h fun x2 hx2 h => WO.remG hx2 rfl rfl rfl rfl rfl rfl<|sA rfl<|sN<|qS<|gS rfl rfl<|sM rfl<|sF h (fun h => ?_) fun h => ?_
 ·refine sN<|cT<|WC.region rfl rfl<|sM rfl<|sM rfl<|sV (rI (rW (x2 + a1)))<|sA rfl<|sN<|gS rfl rfl<|sM rfl<|sA rfl<|sN<|qR ?_
  cases oI h
  exact qD
 refine sN<|cF<|qK<|gS rfl rfl<|sM rfl<|sA rfl<|sN<|qR ?_
 cases oI h
 exact qD
theorem jY {a0 : Int} {r : am} (h : eF a0 = some r) : EvP prog aM ext 30 [rI a0] [] (.d (am.pd r), []) := by
 refine Ev.body rfl Tryz.func30 rfl (by kernel_rfl)<|gS rfl rfl<|sB (.ptr 32 0) 32 (.var [rS [], rS [], rS [], rS []])<|sN<|gS rfl rfl<|sV (.d (.lst ([[83, 49], [83, 50], [83, 51], [83, 52], [83, 53], [83, 54]].map PD.str)))<|sM rfl<|bE h fun x1 hx1 h => cD (jX hx1)<|bE h fun x2 hx2 h => eG hx2 rfl<|sC rfl<|sV (.d (am.pd (am.mk [65, 66] x2 [48, 48] [66, 72, 90])))<|sS 32 (.var [rS [65, 66], rS x2, rS [48, 48], rS [66, 72, 90]])<|sN ?_
 refine qR ?_
 cases oI h
 exact qD
theorem eR {a0 : Int} {r : ai} (h : ew a0 = some r) : EvP prog aM ext 10 [rI a0] [] (.d (ai.pd r), []) := by
 refine Ev.body rfl Tryz.func10 rfl (by kernel_rfl)<|gS rfl rfl<|sB (.ptr 32 0) 32 (.var zZ0)<|sN<|gS rfl rfl<|bE h fun x1 hx1 h => cD (jY hx1)<|sG (.d (ag.pd (ag.mk x1 5 4 9 0 (-1))))<|sB (.ptr 48 0) 48 (.var zZ7)<|sH 48 (.var [rS x1.aC, rS x1.aE, rS x1.ac, rS x1.aD, rI 5, rI 4, rI 9, r0, rI (-1)])<|sN<|gS rfl rfl<|sM rfl<|sM rfl<|sV (.d (ag.pd (ag.mk x1 5 4 9 0 (-1)))) ?_
 refine sV (.d (ag.pd (ag.mk x1 5 4 9 0 (-1))))<|sG (.d (.lst ([(ag.mk x1 5 4 9 0 (-1))].map ag.pd)))<|sG (.d (.agg [.lst ([(ag.mk x1 5 4 9 0 (-1))].map ag.pd), .int .i64 0, .int .i64 0, .int .i64 0, .int .i64 0, .int .i64 0, .int .i64 0, .int .i64 0, .int .i64 0, .int .i64 0, .int .i64 0, .int .i64 0, .int .i64 0, .int .i64 0, .int .i64 0, .int .i64 0]))<|sG (.d (.agg [.str x1.aC, .str x1.aE, .str x1.ac, .str x1.aD, .int .i64 5, .int .i64 4, .int .i64 9, .int .i64 0, .int .i64 (-1), .lst ([(ag.mk x1 5 4 9 0 (-1))].map ag.pd), .int .i64 0, .int .i64 0, .int .i64 0, .int .i64 0, .int .i64 0, .int .i64 0, .int .i64 0, .int .i64 0, .int .i64 0, .int .i64 0, .int .i64 0, .int .i64 0, .int .i64 0, .int .i64 0, .int .i64 0]))<|sG (.d (.agg [.int .i64 a0, .int .i64 1, .int .i64 a0, .int .i64 7, .int .i64 1, .str x1.aC, .str x1.aE, .str x1.ac, .str x1.aD, .int .i64 5, .int .i64 4, .int .i64 9, .int .i64 0, .int .i64 (-1), .lst ([(ag.mk x1 5 4 9 0 (-1))].map ag.pd), .int .i64 0, .int .i64 0, .int .i64 0, .int .i64 0, .int .i64 0, .int .i64 0, .int .i64 0, .int .i64 0, .int .i64 0, .int .i64 0, .int .i64 0, .int .i64 0, .int .i64 0, .int .i64 0, .int .i64 0]))<|sH 32 (.var [rI a0, rI 1, rI a0, rI 7, rI 1, rS x1.aC, rS x1.aE, rS x1.ac, rS x1.aD, rI 5, rI 4, rI 9, r0, rI (-1), .d (.lst ([(ag.mk x1 5 4 9 0 (-1))].map ag.pd)), r0, r0, r0, r0, r0, r0, r0, r0, r0, r0, r0, r0, r0, r0, r0])<|sN<|qR ?_
 cases oI h
 exact qG
theorem source_plain_ev {a0 : Int} {r : Bool} (h : dO a0 = some r) : EvP prog aM ext 140 [.d (.int .u8 a0)] [] (rB r, []) := by
 refine Ev.body rfl Tryz.func140 rfl (by kernel_rfl)<|gS rfl rfl<|sU<|sN<|gS rfl rfl<|sM rfl<|sF h (fun h => ?_) fun h => ?_
 ·refine sM rfl<|sM rfl<|sV (rB (decide (a0 ≤ (90 : Int))))<|sF h (fun h => ?_) fun h => ?_
  ·refine sM rfl<|k3<|k3<|sT<|sA rfl<|sN<|qR ?_
   cases oI h
   exact qD
  refine sM rfl<|sM rfl<|sF h (fun h => ?_) fun h => ?_
  ·refine sM rfl<|sM rfl<|sV (rB (decide (a0 ≤ (57 : Int))))<|sV (rB (decide (a0 ≤ (57 : Int))))<|sV (rB (decide (a0 ≤ (57 : Int))))<|sA rfl<|sN<|qR ?_
   cases oI h
   exact qD
  refine sM rfl<|sK<|sK<|sU<|sU<|sA rfl<|sN<|qR ?_
  cases oI h
  exact qD
 refine sM rfl<|sK<|sK<|sU<|sM rfl<|sM rfl<|sF h (fun h => ?_) fun h => ?_
 ·refine sM rfl<|sM rfl<|sV (rB (decide (a0 ≤ (57 : Int))))<|sV (rB (decide (a0 ≤ (57 : Int))))<|sV (rB (decide (a0 ≤ (57 : Int))))<|sA rfl<|sN<|qR ?_
  cases oI h
  exact qD
 refine sM rfl<|sK<|sK<|sU<|sU<|sA rfl<|sN<|qR ?_
 cases oI h
 exact qD
theorem eO {a0 : (List UInt8)} {a1 : Int} {a2 : Int} {r : Bool} (h : di a0 a1 a2 = some r) : EvP prog aM ext 110 [rS a0, rI a1, rI a2] [] (rB r, []) := by
 refine Ev.body rfl Tryz.func110 rfl (by kernel_rfl)<|gS rfl rfl<|sU<|sN<|qS<|gS rfl rfl<|sM rfl<|sV (rI (a0.length : Int))<|sV (r0)<|sN<|bE h fun o8 ho8 h => WC.block (WC.loop (WL.ofLoop ho8 (fun s R' B' => ghosts prog 0 (A R' B') (aM.at_ 110 0 2) = some (A [(0, rS a0), (1, rI a1), (2, rI a2), (9, rI (a0.length : Int)), (10, rI s)] [])) (fun o e R' B' => match o with | .inl y => e = .exit 0 ∧ ghosts prog 0 (A R' B') (aM.at_ 110 0 7) = some (A [(0, rS a0), (1, rI a1), (2, rI a2)] []) | .inr r => e = .ret ∧ finish prog (aM.own 110) Tryz.f110 0 (A R' B') = some (rB r, [])) rfl ?_ ?_))
 ·rintro s1 R' B' q2 hI h
  refine gS rfl hI<|sF h (fun h => ?_) fun h => ?_
  ·refine sN<|qS<|cT<|qK<|qS<|qB<|gS rfl rfl<|sM rfl<|sA rfl<|sN<|gS rfl rfl<|sM rfl<|sM rfl<|bE h fun x4 hx4 h => WO.byteG hx4 rfl rfl rfl rfl rfl rfl ?_
   refine bE h fun x5 hx5 h => cD (source_plain_ev hx5)<|sF h (fun h => ?_) fun h => ?_
   ·refine sN<|cT<|gS rfl rfl<|sU<|sN<|qR ?_
    cases oI h
    exact ⟨nofun, rfl, rfl⟩
   refine sN<|cF<|qK<|WC.region rfl rfl<|sV (rI (rW (s1 + (1 : Int))))<|sM rfl<|sN ?_
   cases oI h
   exact ⟨rfl, rfl⟩
  refine sN<|qS<|cF<|qX ?_
  cases oI h
  exact ⟨nofun, rfl, rfl⟩
 intro e R' B' he hq
 rcases o8 with y9 | r10
 ·obtain ⟨rfl, hI⟩ := hq
  refine qE<|gS rfl hI<|sM rfl<|sV (rI (a0.length : Int))<|sM rfl<|sF h (fun h => ?_) fun h => ?_
  ·refine sM rfl<|sM rfl<|sV (rI (a0.length : Int))<|sM rfl<|sV (rB (decide ((a0.length : Int) ≤ a2)))<|sV (rB (decide ((a0.length : Int) ≤ a2)))<|sA rfl<|sN<|qR ?_
   cases oI h
   exact qD
  refine sM rfl<|k3<|sK<|sU<|sA rfl<|sN<|qR ?_
  cases oI h
  exact qD
 obtain ⟨rfl, hf⟩ := hq
 cases oI h
 exact hf
theorem fg {a0 : am} {r : Bool} (h : cO a0 = some r) : EvP prog aM ext 77 [.d (am.pd a0)] [] (rB r, []) := by
 refine Ev.body rfl Tryz.func77 rfl (by kernel_rfl)<|gS rfl rfl<|sB (.ptr 16 0) 16 (.var [rS a0.aC, rS a0.aE, rS a0.ac, rS a0.aD])<|sU<|sN<|gS rfl rfl<|sV (.ptr 16 0)<|sL rfl<|bE h fun x1 hx1 h => ite_elim h (fun hb2 h => ?_) (fun hb2 h => ?_)
 ·refine WO.callR (v := rB true) (u := []) rfl rfl (fun _ => rfl) rfl rfl rfl rfl rfl (eO hx1) rfl rfl (congrArg (fun b => RV.d (.bool b)) hb2) rfl<|sM rfl<|sV (.ptr 16 1)<|sL rfl<|bE h fun x3 hx3 h => cD (eO hx3)<|sF h (fun h => ?_) fun h => ?_
  ·refine sM rfl<|sV (.ptr 16 2)<|sL rfl<|bE h fun x5 hx5 h => cD (eO hx5)<|sF h (fun h => ?_) fun h => ?_
   ·refine sM rfl<|sV (.ptr 16 2)<|sL rfl<|sV (rI (a0.ac.length : Int))<|sV (rB ((a0.ac.length : Int) != (1 : Int)))<|sF h (fun h => ?_) fun h => ?_
    ·refine sM rfl<|sV (.ptr 16 3)<|sL rfl<|bE h fun x8 hx8 h => cD (eO hx8)<|sV (rB x8)<|sA rfl<|sN<|qR ?_
     cases oI h
     exact qD
    refine sM rfl<|k3<|sU<|sA rfl<|sN<|qR ?_
    cases oI h
    exact qD
   refine sM rfl<|k3<|sK<|sU<|sM rfl<|k3<|sU<|sA rfl<|sN<|qR ?_
   cases oI h
   exact qD
  refine sM rfl<|k3<|sU<|sM rfl<|k3<|sK<|sU<|sM rfl<|sK<|sK<|sK ?_
  refine sU<|sA rfl<|sN<|qR ?_
  cases oI h
  exact qD
 refine WO.callR (v := rB false) (u := []) rfl rfl (fun _ => rfl) rfl rfl rfl rfl rfl (eO hx1) rfl rfl (congrArg (fun b => RV.d (.bool b)) hb2) rfl<|sM rfl<|k3<|sU<|sM rfl<|k3<|sU<|sM rfl<|sK<|sK<|sK ?_
 refine sK<|sU<|sM rfl<|k3<|sU<|sA rfl<|sN<|qR ?_
 cases oI h
 exact qD
theorem lg {a0 : Int} {a1 : Int} {a2 : Int} {r : Bool} (h : eS a0 a1 a2 = some r) : EvP prog aM ext 78 [rI a0, rI a1, rI a2] [] (rB r, []) := by
 refine Ev.body rfl Tryz.func78 rfl (by kernel_rfl)<|gS rfl rfl<|sU<|sN<|gS rfl rfl<|sM rfl<|sM rfl<|sF h (fun h => ?_) fun h => ?_
 ·refine sM rfl<|sM rfl<|sM rfl<|sV (rB (decide (a0 ≤ a2)))<|sV (rB (decide (a0 ≤ a2)))<|sA rfl<|sN<|qR ?_
  cases oI h
  exact qD
 refine sM rfl<|k3<|sU<|sA rfl<|sN<|qR ?_
 cases oI h
 exact qD
theorem eY {a0 : ag} {r : Bool} (h : bW a0 = some r) : EvP prog aM ext 41 [.d (ag.pd a0)] [] (rB r, []) := by
 refine Ev.body rfl Tryz.func41 rfl (by kernel_rfl)<|gS rfl rfl<|sB (.ptr 16 0) 16 (.var (ag.rc a0))<|sU<|sN<|gS rfl rfl<|sV (.ptr 16 0)<|sV (.d (am.pd a0.ah))<|bE h fun x1 hx1 h => ite_elim h (fun hb2 h => ?_) (fun hb2 h => ?_)
 ·refine WO.callR (v := rB true) (u := []) rfl rfl (fun _ => rfl) rfl rfl rfl rfl rfl (fg hx1) rfl rfl (congrArg (fun b => RV.d (.bool b)) hb2) rfl<|sM rfl<|sV (.ptr 16 5)<|sL rfl<|sV (rB (decide (a0.aJ ≥ (0 : Int))))<|sF h (fun h => ?_) fun h => ?_
  ·refine sM rfl<|sV (.ptr 16 5)<|sL rfl<|sV (.ptr 16 4)<|sL rfl<|sV (rB (decide (a0.aJ ≤ a0.aF)))<|sF h (fun h => ?_) fun h => ?_
   ·refine sM rfl<|sV (.ptr 16 4)<|sL rfl<|sV (.ptr 16 6)<|sL rfl<|sV (rB (decide (a0.aF ≤ a0.aN)))<|sF h (fun h => ?_) fun h => ?_
    ·refine sM rfl<|sV (.ptr 16 6)<|sL rfl<|sV (rB (decide (a0.aN ≤ (18014398509481984 : Int))))<|sF h (fun h => ?_) fun h => ?_
     ·refine sM rfl<|sV (.ptr 16 7)<|sL rfl<|bE h fun x7 hx7 h => cD (lg hx7)<|sF h (fun h => ?_) fun h => ?_
      ·refine sM rfl<|sV (.ptr 16 8)<|sL rfl<|bE h fun x9 hx9 h => cD (lg hx9)<|sV (rB x9)<|sA rfl<|sN<|qR ?_
       cases oI h
       exact qG
      refine sM rfl<|k3<|sU<|sA rfl<|sN<|qR ?_
      cases oI h
      exact qG
     refine sM rfl<|k3<|sU<|sM rfl<|k3<|sU<|sA rfl<|sN<|qR ?_
     cases oI h
     exact qG
    refine sM rfl<|k3<|sU<|sM rfl<|k3<|sU<|sM rfl<|k3<|sU ?_
    refine sA rfl<|sN<|qR ?_
    cases oI h
    exact qG
   refine sM rfl<|k3<|sK<|sK<|sU<|sM rfl<|k3<|sU<|sM rfl<|sK<|sK ?_
   refine sK<|sU<|sM rfl<|k3<|sU<|sA rfl<|sN<|qR ?_
   cases oI h
   exact qG
  refine sM rfl<|k3<|sK<|sK<|sU<|sM rfl<|k3<|sK<|sK<|sU<|sM rfl ?_
  refine k3<|sU<|sM rfl<|k3<|sU<|sM rfl<|k3<|sU<|sA rfl ?_
  refine sN<|qR ?_
  cases oI h
  exact qG
 refine WO.callR (v := rB false) (u := []) rfl rfl (fun _ => rfl) rfl rfl rfl rfl rfl (fg hx1) rfl rfl (congrArg (fun b => RV.d (.bool b)) hb2) rfl<|sM rfl<|k3<|sU<|sM rfl<|k3<|sK<|sK<|sU<|sM rfl<|sK ?_
 refine k3<|sK<|sU<|sM rfl<|k3<|sU<|sM rfl<|k3<|sU ?_
 refine sM rfl<|k3<|sU<|sA rfl<|sN<|qR ?_
 cases oI h
 exact qG
theorem ed {a0 : ag} {r : Bool} (h : cA a0 = some r) : EvP prog aM ext 43 [.d (ag.pd a0)] [] (rB r, []) := by
 refine Ev.body rfl Tryz.func43 rfl (by kernel_rfl)<|gS rfl rfl<|sB (.ptr 16 0) 16 (.var (ag.rc a0))<|sU<|sN<|gS rfl rfl<|sV (.d (ag.pd a0))<|bE h fun x1 hx1 h => cD (eY hx1)<|sV (rB (!x1))<|sA rfl<|sN<|qR ?_
 cases oI h
 exact qG
theorem gJ {a0 : (List ag)} {r : Int} (h : bt a0 = some r) : EvP prog aM ext 79 [.d (.lst (a0.map ag.pd)), .d (.raw (.func (.func 43) #[] #[]))] [] (rI r, []) := by
 refine Ev.body rfl Tryz.func79 rfl (by kernel_rfl)<|gS rfl rfl<|sV (r0)<|sN<|qS<|gS rfl rfl<|sM rfl<|sE (rI (a0.length : Int)) (lenMap _ _)<|sV (r0)<|sN<|bE h fun o8 ho8 h => WC.block (WC.loop (WL.ofLoop ho8 (fun s R' B' => ghosts prog 0 (A R' B') (aM.at_ 79 0 2) = some (A [(0, .d (.lst (a0.map ag.pd))), (1, .d (.raw (.func (.func 43) #[] #[]))), (7, rI (a0.length : Int)), (8, rI s)] [])) (fun o e R' B' => match o with | .inl y => e = .exit 0 ∧ ghosts prog 0 (A R' B') (aM.at_ 79 0 7) = some (A [] []) | .inr r => e = .ret ∧ finish prog (aM.own 79) Tryz.f79 0 (A R' B') = some (rI r, [])) rfl ?_ ?_))
 ·rintro s1 R' B' q2 hI h
  refine gS rfl hI<|sF h (fun h => ?_) fun h => ?_
  ·refine sN<|qS<|cT<|qK<|qS<|qB<|gS rfl rfl<|sM rfl<|sA rfl<|sN<|gS rfl rfl<|sM rfl<|sM rfl<|sM rfl<|bE h fun x4 hx4 h => ?_
   refine eG hx4 rfl<|sV (.d (ag.pd x4))<|bE h fun x5 hx5 h => ite_elim h (fun hb6 h => ?_) (fun hb6 h => ?_)
   ·refine WO.callR (v := rB true) (u := []) rfl rfl (fun _ => rfl) rfl rfl rfl rfl rfl (ed hx5) rfl rfl (congrArg (fun b => RV.d (.bool b)) hb6) rfl<|sN<|cT<|gS rfl rfl<|sM rfl<|sA rfl<|sN<|qR ?_
    cases oI h
    exact ⟨nofun, rfl, rfl⟩
   refine WO.callR (v := rB false) (u := []) rfl rfl (fun _ => rfl) rfl rfl rfl rfl rfl (ed hx5) rfl rfl (congrArg (fun b => RV.d (.bool b)) hb6) rfl<|sN<|cF<|qK<|WC.region rfl rfl<|sV (rI (rW (s1 + (1 : Int))))<|sM rfl<|sN ?_
   cases oI h
   exact ⟨rfl, rfl⟩
  refine sN<|qS<|cF<|qX ?_
  cases oI h
  exact ⟨nofun, rfl, rfl⟩
 intro e R' B' he hq
 rcases o8 with y9 | r10
 ·obtain ⟨rfl, hI⟩ := hq
  refine qE<|gS rfl hI<|sV (rI (-1))<|sN<|qR ?_
  cases oI h
  exact qD
 obtain ⟨rfl, hf⟩ := hq
 cases oI h
 exact hf
theorem f6 {a0 : (List ag)} {r : Bool} (h : bd a0 = some r) : EvP prog aM ext 42 [.d (.lst (a0.map ag.pd)), .d (.raw (.func (.func 43) #[] #[]))] [] (rB r, []) := by
 refine Ev.body rfl Tryz.func42 rfl (by kernel_rfl)<|gS rfl rfl<|sU<|sN<|gS rfl rfl<|sM rfl<|sM rfl<|bE h fun x1 hx1 h => cD (gJ hx1)<|sV (rB (decide (x1 ≥ (0 : Int))))<|sA rfl<|sN<|qR ?_
 cases oI h
 exact qD
theorem gZ {a0 : Int} {r : Bool} (h : cY a0 = some r) : EvP prog aM ext 81 [rI a0] [] (rB r, []) := by
 refine Ev.body rfl Tryz.func81 rfl (by kernel_rfl)<|gS rfl rfl<|sU<|sN<|gS rfl rfl<|sM rfl<|sF h (fun h => ?_) fun h => ?_
 ·refine sM rfl<|sK<|sK<|sT<|sA rfl<|sN<|qR ?_
  cases oI h
  exact qD
 refine sM rfl<|sM rfl<|sV (rB (decide (a0 > (1152921504606846976 : Int))))<|sV (rB (decide (a0 > (1152921504606846976 : Int))))<|sA rfl<|sN<|qR ?_
 cases oI h
 exact qD
theorem gV {a0 : (List Int)} {r : Int} (h : bV a0 = some r) : EvP prog aM ext 111 [.d (.lst (a0.map (PD.int .i64))), .d (.raw (.func (.func 81) #[] #[]))] [] (rI r, []) := by
 refine Ev.body rfl Tryz.func111 rfl (by kernel_rfl)<|gS rfl rfl<|sV (r0)<|sN<|qS<|gS rfl rfl<|sM rfl<|sE (rI (a0.length : Int)) (lenMap _ _)<|sV (r0)<|sN<|bE h fun o8 ho8 h => WC.block (WC.loop (WL.ofLoop ho8 (fun s R' B' => ghosts prog 0 (A R' B') (aM.at_ 111 0 2) = some (A [(0, .d (.lst (a0.map (PD.int .i64)))), (1, .d (.raw (.func (.func 81) #[] #[]))), (7, rI (a0.length : Int)), (8, rI s)] [])) (fun o e R' B' => match o with | .inl y => e = .exit 0 ∧ ghosts prog 0 (A R' B') (aM.at_ 111 0 7) = some (A [] []) | .inr r => e = .ret ∧ finish prog (aM.own 111) Tryz.f111 0 (A R' B') = some (rI r, [])) rfl ?_ ?_))
 ·rintro s1 R' B' q2 hI h
  refine gS rfl hI<|sF h (fun h => ?_) fun h => ?_
  ·refine sN<|qS<|cT<|qK<|qS<|qB<|gS rfl rfl<|sM rfl<|sA rfl<|sN<|gS rfl rfl<|sM rfl<|sM rfl<|sM rfl<|bE h fun x4 hx4 h => ?_
   refine eG hx4 rfl<|sC rfl<|bE h fun x5 hx5 h => ite_elim h (fun hb6 h => ?_) (fun hb6 h => ?_)
   ·refine WO.callR (v := rB true) (u := []) rfl rfl (fun _ => rfl) rfl rfl rfl rfl rfl (gZ hx5) rfl rfl (congrArg (fun b => RV.d (.bool b)) hb6) rfl<|sN<|cT<|gS rfl rfl<|sM rfl<|sA rfl<|sN<|qR ?_
    cases oI h
    exact ⟨nofun, rfl, rfl⟩
   refine WO.callR (v := rB false) (u := []) rfl rfl (fun _ => rfl) rfl rfl rfl rfl rfl (gZ hx5) rfl rfl (congrArg (fun b => RV.d (.bool b)) hb6) rfl<|sN<|cF<|qK<|WC.region rfl rfl<|sV (rI (rW (s1 + (1 : Int))))<|sM rfl<|sN ?_
   cases oI h
   exact ⟨rfl, rfl⟩
  refine sN<|qS<|cF<|qX ?_
  cases oI h
  exact ⟨nofun, rfl, rfl⟩
 intro e R' B' he hq
 rcases o8 with y9 | r10
 ·obtain ⟨rfl, hI⟩ := hq
  refine qE<|gS rfl hI<|sV (rI (-1))<|sN<|qR ?_
  cases oI h
  exact qD
 obtain ⟨rfl, hf⟩ := hq
 cases oI h
 exact hf
theorem gf {a0 : (List Int)} {r : Bool} (h : bJ a0 = some r) : EvP prog aM ext 80 [.d (.lst (a0.map (PD.int .i64))), .d (.raw (.func (.func 81) #[] #[]))] [] (rB r, []) := by
 refine Ev.body rfl Tryz.func80 rfl (by kernel_rfl)<|gS rfl rfl<|sU<|sN<|gS rfl rfl<|sM rfl<|sM rfl<|bE h fun x1 hx1 h => cD (gV hx1)<|sV (rB (decide (x1 ≥ (0 : Int))))<|sA rfl<|sN<|qR ?_
 cases oI h
 exact qD
theorem dX {a0 : (List Int)} {r : Bool} (h : cE a0 = some r) : EvP prog aM ext 44 [.d (.lst (a0.map (PD.int .i64)))] [] (rB r, []) := by
 refine Ev.body rfl Tryz.func44 rfl (by kernel_rfl)<|gS rfl rfl<|sU<|sN<|gS rfl rfl<|sM rfl<|bE h fun x1 hx1 h => cD (gf hx1)<|sV (rB (!x1))<|sA rfl<|sN<|qR ?_
 cases oI h
 exact qD
theorem et {a0 : aj} {r : (List Int)} (h : dv a0 = some r) : EvP prog aM ext 70 [.d (aj.pd a0)] [] (.d (.lst (r.map (PD.int .i64))), []) := by
 refine Ev.body rfl Tryz.func70 rfl (by kernel_rfl)<|gS rfl rfl<|sB (.ptr 16 0) 16 (.var [rI a0.fX, rI a0.fY, rI a0.fZ])<|sV .nils<|sN<|gS rfl rfl<|sV (.ptr 16 0)<|sL rfl<|sV (.ptr 16 1)<|sL rfl<|sV (.ptr 16 2)<|sL rfl<|sV (.d (.lst ([a0.fX, a0.fY, a0.fZ].map (PD.int .i64))))<|sA rfl<|sN ?_
 refine qR ?_
 cases oI h
 exact qD
theorem k5 {a0 : Int} {r : (List Int)} (h : dE a0 = some r) : EvP prog aM ext 106 [.nils, rI a0] [] (.ref 0 0, [.arr 0 3 (r.map (PD.int .i64))]) := by
 refine Ev.body rfl Tryz.func106 rfl (by kernel_rfl)<|gS rfl rfl<|sV .nils<|sN<|qS<|gS rfl rfl<|sM rfl<|sF h (fun h => ?_) fun h => ?_
 ·refine sN<|cT<|WC.region rfl rfl ?_
  cases h
 refine sN<|cF<|qK<|WC.join (α := (List Int)) (fun x R' B' => ghosts prog 0 (A R' B') (aM.at_ 106 0 6) = some (A [(0, .ref 90097 0)] [(90097, .arr 0 3 (x.map (PD.int .i64)))])) (fun x => dc x = some r) ?_ ?_
 ·refine gS rfl rfl<|sM rfl<|sM rfl<|sV (r0)<|sM rfl<|sV (r0)<|sV (r0)<|sV (rI (rW (a0 - (0 : Int))))<|sA rfl<|sN<|gS rfl rfl<|sM rfl<|sF h (fun h => ?_) fun h => ?_
  ·refine sN<|cT<|WC.region rfl rfl<|sM rfl<|sM rfl<|sV (r0)<|sV .nils<|sM rfl<|bE h fun x5 hx5 h => WO.appZ (g := (PD.int .i64)) hx5 rfl rfl rfl rfl rfl rfl rfl rfl rfl rfl rfl rfl rfl rfl rfl rfl<|sM rfl<|sV (r0)<|bE h fun x6 hx6 h => WO.resl hx6 rfl rfl rfl rfl rfl rfl rfl rfl rfl rfl rfl rfl<|sA rfl ?_
   exact sN<|⟨(x5.take (0 : Int).toNat), rfl, h⟩
  exact sN<|cF<|qK<|⟨([] : List Int), rfl, h⟩
 rintro j2 R' B' hI h
 refine gS rfl hI<|sM rfl<|sA rfl<|sN<|qR ?_
 cases oI h
 exact qD
theorem gH {a0 : (List (List Int))} {r : (List Int)} (h : cK a0 = some r) : EvP prog aM ext 69 [.d (.lst (a0.map (fun l => PD.lst (l.map (PD.int .i64)))))] [] (.d (.lst (r.map (PD.int .i64))), []) := by
 refine Ev.body rfl Tryz.func69 rfl (by kernel_rfl)<|gS rfl rfl<|sV .nils<|sN<|gS rfl rfl<|sV (r0)<|sN<|qS<|gS rfl rfl<|sM rfl<|sE (rI (a0.length : Int)) (lenMap _ _)<|sV (r0)<|sN<|bE h fun o9 ho9 h => WC.block (WC.loop (WL.ofLoop ho9 (fun s R' B' => ghosts prog 0 (A R' B') (aM.at_ 69 0 3) = some (A [(0, .d (.lst (a0.map (fun l => PD.lst (l.map (PD.int .i64)))))), (3, rI s.1), (9, .d (.lst (a0.map (fun l => PD.lst (l.map (PD.int .i64)))))), (10, rI (a0.length : Int)), (11, rI s.2)] [])) (fun o e R' B' => e = .exit 0 ∧ ghosts prog 0 (A R' B') (aM.at_ 69 0 9) = some (A [(0, .d (.lst (a0.map (fun l => PD.lst (l.map (PD.int .i64)))))), (3, rI o)] [])) rfl ?_ ?_))
 ·rintro ⟨s1, s2⟩ R' B' q4 hI h
  refine gS rfl hI<|sF h (fun h => ?_) fun h => ?_
  ·refine sN<|qS<|cT<|qK<|qS<|qB<|gS rfl rfl<|bE h fun x6 hx6 h => eG hx6 rfl<|sC rfl<|sA rfl<|sN<|gS rfl rfl<|sM rfl<|sM rfl ?_
   refine sE (rI (x6.length : Int)) (lenMap _ _)<|sV (rI (rW (s1 + (x6.length : Int))))<|sA rfl<|sN<|gS rfl rfl<|sM rfl<|sF h (fun h => ?_) fun h => ?_
   ·refine sN<|cT<|WC.region rfl rfl ?_
    cases h
   refine sN<|cF<|qK<|WC.region rfl rfl<|sV (rI (rW (s2 + (1 : Int))))<|sM rfl<|sN ?_
   cases oI h
   exact ⟨rfl, rfl⟩
  refine sN<|qS<|cF<|qX ?_
  cases oI h
  exact ⟨nofun, rfl, rfl⟩
 intro e R' B' he hq
 obtain ⟨rfl, hI⟩ := hq
 refine qE<|gS rfl hI<|sM rfl<|bE h fun x10 hx10 h => cR (.ref 384 0) [(384, .arr 0 3 (x10.map (PD.int .i64)))] (k5 hx10)<|sA rfl<|sN<|qS<|gS rfl rfl<|sM rfl<|sE (rI (a0.length : Int)) (lenMap _ _)<|sV (r0)<|sN<|bE h fun o19 ho19 h => WC.block (WC.loop (WL.ofLoop ho19 (fun s R' B' => ghosts prog 0 (A R' B') (aM.at_ 69 0 11) = some (A [(6, .ref 384 0), (25, .d (.lst (a0.map (fun l => PD.lst (l.map (PD.int .i64)))))), (26, rI (a0.length : Int)), (27, rI s.1)] [(384, .arr 0 3 (s.2.map (PD.int .i64)))])) (fun o e R' B' => e = .exit 2 ∧ ghosts prog 0 (A R' B') (aM.at_ 69 0 15) = some (A [(6, .ref 384 0)] [(384, .arr 0 3 (o.map (PD.int .i64)))])) rfl ?_ ?_))
 ·rintro ⟨s11, s12⟩ R' B' q14 hI h
  refine gS rfl hI<|sF h (fun h => ?_) fun h => ?_
  ·refine sN<|qS<|cT<|qK<|qS<|qB<|gS rfl rfl<|bE h fun x16 hx16 h => eG hx16 rfl<|sC rfl<|sA rfl<|sN<|WC.region rfl rfl<|sM rfl<|sM rfl ?_
   refine bE h fun x17 hx17 h => aR hx17 (fun _ => rfl) rfl<|sA rfl<|sN<|WC.region rfl rfl<|sV (rI (rW (s11 + (1 : Int))))<|sM rfl<|sN ?_
   cases oI h
   exact ⟨rfl, rfl⟩
  refine sN<|qS<|cF<|qX ?_
  cases oI h
  exact ⟨nofun, rfl, rfl⟩
 intro e R' B' he hq
 obtain ⟨rfl, hI⟩ := hq
 refine qE<|gS rfl hI<|sM rfl<|sA rfl<|sN<|qR ?_
 cases oI h
 exact qD
theorem jE {a0 : aw} {r : (List Int)} (h : ee a0 = some r) : EvP prog aM ext 38 [.d (aw.pd a0)] [] (.d (.lst (r.map (PD.int .i64))), []) := by
 refine Ev.body rfl Tryz.func38 rfl (by kernel_rfl)<|gS rfl rfl<|sB (.ptr 16 0) 16 (.var (aw.rc a0))<|sV .nils<|sN<|gS rfl rfl<|sV (.ptr 16 1)<|sV (.d (aB.pd a0.ac))<|sB (.ptr 48 0) 48 (.var zZ5)<|sH 48 (.var (aB.rc a0.ac))<|sN<|WC.regionDSeq rfl rfl<|sV (.ptr 48 0)<|sV (.d (aj.pd a0.ac.aA))<|bE h fun x1 hx1 h => ?_
 refine cD (et hx1)<|sV (.ptr 48 3)<|sL rfl<|sV (.ptr 48 4)<|sL rfl<|sV (.ptr 48 5)<|sL rfl<|sV (.d (.lst ([a0.ac.aF, a0.ac.aO, a0.ac.aV].map (PD.int .i64))))<|sV (.ptr 48 6)<|sV (.ptr 48 6)<|sV (.d (aj.pd a0.ac.ap.aI))<|bE h fun x2 hx2 h => cD (et hx2)<|sV (.ptr 48 6)<|sV (.ptr 48 9) ?_
 refine sV (.d (aj.pd a0.ac.ap.az))<|bE h fun x3 hx3 h => cD (et hx3)<|sV (.ptr 16 13)<|sV (.ptr 16 13)<|sL rfl<|sV (.ptr 16 13)<|sV (.ptr 16 14)<|sL rfl<|sV (.ptr 16 15)<|sL rfl<|sV (.d (.lst ([a0.aq.aI, a0.aq.az, a0.aU].map (PD.int .i64))))<|sV (.d (.lst ([x1, [a0.ac.aF, a0.ac.aO, a0.ac.aV], x2, x3, [a0.aq.aI, a0.aq.az, a0.aU]].map (fun l => PD.lst (l.map (PD.int .i64))))))<|bE h fun x4 hx4 h => cD (gH hx4) ?_
 refine sA rfl ?_
 refine sN<|sO<|qR ?_
 cases oI h
 exact qG
theorem iU {a0 : ai} {r : Bool} (h : cC a0 = some r) : EvP prog aM ext 16 [.d (ai.pd a0)] [] (rB r, []) := by
 refine Ev.body rfl Tryz.func16 rfl (by kernel_rfl)<|gS rfl rfl<|sB (.ptr 16 0) 16 (.var (ai.rc a0))<|sU<|sN<|gS rfl rfl<|sV (.ptr 16 5)<|sV (.ptr 16 14)<|sV (.d (aw.pd a0.ae.aa))<|sB (.ptr 48 0) 48 (.var zZ2)<|sH 48 (.var (aw.rc a0.ae.aa))<|sN<|qS<|qB<|gS rfl rfl ?_
 refine sV (.ptr 16 0)<|sL rfl<|sF h (fun h => ?_) fun h => ?_
 ·refine sM rfl<|k3<|sT<|sM rfl<|k3<|sT<|sM rfl<|k3<|sT ?_
  refine sA rfl<|sN<|cT<|gS rfl rfl<|sU<|sN<|qR ?_
  cases oI h
  exact qG
 refine sM rfl<|sV (.ptr 16 0)<|sL rfl<|sV (rB (decide (a0.aQ ≥ (1000 : Int))))<|sF h (fun h => ?_) fun h => ?_
 ·refine sM rfl<|k3<|sT<|sM rfl<|k3<|sT<|sA rfl<|sN<|cT<|gS rfl rfl<|sU ?_
  refine sN<|qR ?_
  cases oI h
  exact qG
 refine sM rfl<|sV (.ptr 16 1)<|sL rfl<|sV (rB (decide (a0.bh < (1 : Int))))<|sF h (fun h => ?_) fun h => ?_
 ·refine sM rfl<|k3<|sT<|sA rfl<|sN<|cT<|gS rfl rfl<|sU<|sN<|qR ?_
  cases oI h
  exact qG
 refine sM rfl<|sV (.ptr 16 1)<|sL rfl<|sV (rB (decide (a0.bh > (3 : Int))))<|sF h (fun h => ?_) fun h => ?_
 ·refine sA rfl<|sN<|cT<|gS rfl rfl<|sU<|sN<|qR ?_
  cases oI h
  exact qG
 refine sA rfl<|sN<|cF<|gS rfl rfl<|sV (.ptr 16 2)<|sL rfl<|sF h (fun h => ?_) fun h => ?_
 ·refine sM rfl<|k3<|sK<|sK<|sT<|sM rfl<|k3<|k3<|sK ?_
  refine sK<|sK<|sT<|sA rfl<|sN<|cT<|gS rfl rfl<|sU<|sN<|qR ?_
  cases oI h
  exact qG
 refine sM rfl<|sV (.ptr 16 2)<|sL rfl<|sV (.ptr 16 0)<|sL rfl<|sV (rB (decide (a0.fID > a0.aQ)))<|sF h (fun h => ?_) fun h => ?_
 ·refine sM rfl<|k3<|k3<|k3<|sT<|sA rfl<|sN<|cT<|gS rfl rfl ?_
  refine sU<|sN<|qR ?_
  cases oI h
  exact qG
 refine sM rfl<|sV (.ptr 16 2)<|sL rfl<|sV (.ptr 16 0)<|sL rfl<|sV (rB (a0.fID == a0.aQ))<|sV (.ptr 16 1)<|sL rfl<|sV (rB (a0.bh == (1 : Int)))<|sV (rB (!((a0.fID == a0.aQ) == (a0.bh == (1 : Int)))))<|sF h (fun h => ?_) fun h => ?_
 ·refine sA rfl<|sN<|cT<|gS rfl rfl<|sU<|sN<|qR ?_
  cases oI h
  exact qG
 refine sA rfl<|sN<|cF<|gS rfl rfl<|sV (.ptr 16 4)<|sL rfl<|sF h (fun h => ?_) fun h => ?_
 ·refine sM rfl<|k3<|sT<|sM rfl<|k3<|sK<|sT<|sA rfl<|sN<|cT<|gS rfl rfl ?_
  refine sU<|sN<|qR ?_
  cases oI h
  exact qG
 refine sM rfl<|sV (.ptr 16 4)<|sL rfl<|sV (rB (decide (a0.aW > (8 : Int))))<|sF h (fun h => ?_) fun h => ?_
 ·refine sM rfl<|k3<|sK<|sT<|sA rfl<|sN<|cT<|gS rfl rfl<|sU<|sN<|qR ?_
  cases oI h
  exact qG
 refine sM rfl<|sV (.ptr 48 0)<|sL rfl<|sE (rI (a0.ae.aa.aK.length : Int)) (lenMap _ _)<|sV (rB (decide ((a0.ae.aa.aK.length : Int) > (64 : Int))))<|sF h (fun h => ?_) fun h => ?_
 ·refine sA rfl<|sN<|cT<|gS rfl rfl<|sU<|sN<|qR ?_
  cases oI h
  exact qG
 refine sA rfl<|sN<|cF<|gS rfl rfl<|sV (.ptr 16 5)<|sV (.ptr 16 5)<|sV (.d (ag.pd a0.ae.ak))<|bE h fun x11 hx11 h => cD (eY hx11)<|sF h (fun h => ?_) fun h => ?_
 ·refine sM rfl<|k3<|sT<|sA rfl<|sN<|cT<|gS rfl rfl<|sU<|sN<|qR ?_
  cases oI h
  exact qG
 refine sM rfl<|sV (.ptr 48 0)<|sL rfl<|bE h fun x13 hx13 h => cD (f6 hx13)<|sF h (fun h => ?_) fun h => ?_
 ·refine sA rfl<|sN<|cT<|gS rfl rfl<|sU<|sN<|qR ?_
  cases oI h
  exact qG
 refine sA rfl<|sN<|cF<|qK<|gS rfl rfl<|sV (.ptr 16 3)<|sL rfl<|sV (.d (.lst ([a0.fAt].map (PD.int .i64))))<|bE h fun x15 hx15 h => ite_elim h (fun hb16 h => ?_) (fun hb16 h => ?_)
 ·refine WO.callR (v := rB true) (u := []) rfl rfl (fun _ => rfl) rfl rfl rfl rfl rfl (dX hx15) rfl rfl (congrArg (fun b => RV.d (.bool b)) hb16) rfl<|sM rfl<|sV (.d (aw.pd a0.ae.aa))<|bE h fun x17 hx17 h => cD (jE hx17)<|bE h fun x18 hx18 h => cD (dX hx18)<|sV (rB x18)<|sA rfl<|sN<|qR ?_
  cases oI h
  exact qG
 refine WO.callR (v := rB false) (u := []) rfl rfl (fun _ => rfl) rfl rfl rfl rfl rfl (dX hx15) rfl rfl (congrArg (fun b => RV.d (.bool b)) hb16) rfl<|sM rfl<|k3<|sU<|sA rfl<|sN<|qR ?_
 cases oI h
 exact qG
theorem iQ {a0 : (List Int)} {r : (List (List UInt8))} (h : dy a0 = some r) : EvP prog aM ext 36 [.ptr 0 0, .d (.lst (a0.map (PD.int .i64)))] [.var [.nils]] (.tup [], [.var [.ref 1 0], .arr 0 9 (r.map PD.str)]) := by
 refine Ev.body rfl Tryz.func36 rfl (by kernel_rfl)<|gS rfl rfl<|sM rfl<|sE (rI (a0.length : Int)) (lenMap _ _)<|sV (r0)<|sN<|bE h fun o10 ho10 h => ?_
 cases oI h
 refine WC.block (WC.loop (WL.ofLoopEnd ho10 (fun s R' B' => ghosts prog 1 (A R' B') (aM.at_ 36 1 1) = some (A [(0, .ptr 0 0), (6, .d (.lst (a0.map (PD.int .i64)))), (7, rI (a0.length : Int)), (8, rI s.1)] [(0, .var [.ref 320 0]), (320, .arr 0 9 (s.2.map PD.str))])) rfl ?_))
 rintro ⟨s1, s2⟩ R' B' q3 hI h
 refine gS rfl hI<|sF h (fun h => ?_) fun h => ?_
 ·refine sN<|qS<|cT<|qK<|qS<|qB<|gS rfl rfl<|bE h fun x5 hx5 h => eG hx5 rfl<|sC rfl<|sA rfl<|sN<|WC.regionD rfl rfl<|sM rfl<|sM rfl ?_
  refine sV (.ptr 0 0)<|sV (.ptr 0 0)<|sL rfl<|sM rfl<|bE h fun x6 hx6 h => cD ((itoa_ev rfl) hx6)<|sV (.d (.lst ([x6].map PD.str)))<|bE h fun x7 hx7 h => aR hx7 (fun _ => rfl) rfl<|sV (.ptr 0 0)<|sV (.ptr 0 0)<|sS 0 (.var [.ref 320 1]) ?_
  refine sN<|sO<|WC.region rfl rfl<|sV (rI (rW (s1 + (1 : Int))))<|sM rfl<|sN ?_
  cases oI h
  exact ⟨rfl, rfl⟩
 refine sN<|qS<|cF<|qX<|bind_elim h (fun z8 hkz8 hz => ?_)
 obtain rfl := Option.some.inj hz
 refine ⟨(fun he => by cases he), fun hz2 => ?_⟩
 subst hz2
 have h := hkz8
 refine qE ?_
 cases oI h
 exact qD
theorem source_parts_ev {a0 : am} {r : ci} (h : eV a0 = some r) : EvP prog aM ext 105 [.d (am.pd a0)] [] (.d (ci.pd r), []) := by
 refine Ev.body rfl Tryz.func105 rfl (by kernel_rfl)<|gS rfl rfl<|sB (.ptr 16 0) 16 (.var [rS a0.aC, rS a0.aE, rS a0.ac, rS a0.aD])<|sB (.ptr 32 0) 32 (.var [rS [], rS [], rS [], rS []])<|sN<|gS rfl rfl<|sV (.ptr 16 0)<|sL rfl<|sV (.ptr 16 1)<|sL rfl<|sV (.ptr 16 2)<|sL rfl<|sV (.ptr 16 3)<|sL rfl<|sV (.d (ci.pd (ci.mk a0.aC a0.aE a0.ac a0.aD))) ?_
 refine sS 32 (.var [rS a0.aC, rS a0.aE, rS a0.ac, rS a0.aD])<|sN<|qR ?_
 cases oI h
 exact qD
theorem source_Format_ev {a0 : am} {r : (List UInt8) × Int} (h : df a0 = some r) : EvP prog aM ext 68 [.d (am.pd a0)] [] (.tup [rS r.1, rI r.2], []) := by
 refine Ev.body rfl Tryz.func68 rfl (by kernel_rfl)<|gS rfl rfl<|sB (.ptr 16 0) 16 (.var [rS a0.aC, rS a0.aE, rS a0.ac, rS a0.aD])<|sV (rS [])<|sV (r0)<|sN<|qS<|gS rfl rfl<|sV (.d (am.pd a0))<|bE h fun x1 hx1 h => cD (fg hx1)<|sF h (fun h => ?_) fun h => ?_
 ·refine sN<|cT<|gS rfl rfl<|sV (rS [])<|sV (rI 1)<|sN<|qR ?_
  cases oI h
  exact qD
 refine sN<|cF<|qK<|gS rfl rfl<|sV (.d (am.pd a0))<|bE h fun x3 hx3 h => cD (source_parts_ev hx3)<|sB (.ptr 64 0) 64 (.var [rS [], rS [], rS [], rS []])<|sS 64 (.var [rS x3.a0, rS x3.a1, rS x3.a2, rS x3.a3])<|sN<|gS rfl rfl<|sB (.d (.lst ([x3.a0, x3.a1, x3.a2, x3.a3].map PD.str))) 64 .dead<|bE h fun x4 hx4 h => cD ((join_ev rfl) hx4)<|sA rfl ?_
 refine sV (r0)<|sN<|qR ?_
 cases oI h
 exact qD
theorem dz {a0 : (List Int)} {d1 : (List (List UInt8))} {r : (List (List UInt8))} (h : ca a0 d1 = some r) : EvP prog aM ext 36 [.ptr 0 0, .d (.lst (a0.map (PD.int .i64)))] [.var [.ref 1 0], .arr 0 9 (d1.map PD.str)] (.tup [], [.var [.ref 1 1], .arr 1 9 (r.map PD.str)]) := by
 refine Ev.body rfl Tryz.func36 rfl (by kernel_rfl)<|gS rfl rfl<|sM rfl<|sE (rI (a0.length : Int)) (lenMap _ _)<|sV (r0)<|sN<|bE h fun o11 ho11 h => ?_
 cases oI h
 refine WC.block (WC.loop (WL.ofLoopEnd ho11 (fun s R' B' => ghosts prog 2 (A R' B') (aM.at_ 36 2 1) = some (A [(0, .ptr 0 0), (6, .d (.lst (a0.map (PD.int .i64)))), (7, rI (a0.length : Int)), (8, rI s.1)] [(0, .var [.ref 1 1]), (1, .arr 1 9 (s.2.map PD.str))])) rfl ?_))
 rintro ⟨s2, s3⟩ R' B' q4 hI h
 refine gS rfl hI<|sF h (fun h => ?_) fun h => ?_
 ·refine sN<|qS<|cT<|qK<|qS<|qB<|gS rfl rfl<|bE h fun x6 hx6 h => eG hx6 rfl<|sC rfl<|sA rfl<|sN<|WC.regionD rfl rfl<|sM rfl<|sM rfl ?_
  refine sV (.ptr 0 0)<|sV (.ptr 0 0)<|sL rfl<|sM rfl<|bE h fun x7 hx7 h => cD ((itoa_ev rfl) hx7)<|sV (.d (.lst ([x7].map PD.str)))<|bE h fun x8 hx8 h => aR hx8 (fun _ => rfl) rfl<|sV (.ptr 0 0)<|sV (.ptr 0 0)<|sS 0 (.var [.ref 1 2]) ?_
  refine sN<|sO<|WC.region rfl rfl<|sV (rI (rW (s2 + (1 : Int))))<|sM rfl<|sN ?_
  cases oI h
  exact ⟨rfl, rfl⟩
 refine sN<|qS<|cF<|qX<|bind_elim h (fun z9 hkz9 hz => ?_)
 obtain rfl := Option.some.inj hz
 refine ⟨(fun he => by cases he), fun hz2 => ?_⟩
 subst hz2
 have h := hkz9
 refine qE ?_
 cases oI h
 exact qD
theorem gd {a0 : ag} {d1 : (List (List UInt8))} {r : (List (List UInt8))} (h : dj a0 d1 = some r) : EvP prog aM ext 37 [.ptr 0 0, .d (ag.pd a0)] [.var [.ref 1 0], .arr 0 9 (d1.map PD.str)] (.tup [], [.var [.ref 1 1], .arr 1 9 (r.map PD.str)]) := by
 refine Ev.body rfl Tryz.func37 rfl (by kernel_rfl)<|gS rfl rfl<|sB (.ptr 48 0) 48 (.var (ag.rc a0))<|sN<|gS rfl rfl<|sV (.ptr 48 0)<|sV (.d (am.pd a0.ah))<|bE h fun x1 hx1 h => cR (.tup [rS x1.1, rI x1.2]) [] (source_Format_ev hx1)<|sM rfl<|sV (rS x1.1)<|sV (rI x1.2)<|sA rfl<|sA rfl<|sN ?_
 refine gS rfl rfl<|sM rfl<|sM rfl<|sV (.ptr 0 0)<|sV (.ptr 0 0)<|sL rfl<|sM rfl<|sV (.d (.lst ([x1.1].map PD.str)))<|bE h fun x2 hx2 h => aR hx2 (fun _ => rfl) rfl<|sV (.ptr 0 0)<|sV (.ptr 0 0)<|sS 0 (.var [.ref 1 1])<|sN<|WC.region rfl rfl ?_
 refine sM rfl<|sV (.ptr 48 4)<|sL rfl<|sV (.ptr 48 5)<|sL rfl<|sV (.ptr 48 6)<|sL rfl<|sV (.ptr 48 7)<|sL rfl<|sV (.ptr 48 8)<|sL rfl<|sV (.d (.lst ([a0.aF, a0.aJ, a0.aN, a0.au, a0.av].map (PD.int .i64))))<|bE h fun x3 hx3 h => cR (.tup []) [(0, .var [.ref 1 2]), (1, .arr 2 9 (x3.map PD.str))] (dz hx3)<|sN ?_
 cases oI h
 exact qG
theorem ik {a0 : ai} {r : (List UInt8) × Int} (h : cf a0 = some r) : EvP prog aM ext 14 [.d (ai.pd a0)] [] (.tup [rS r.1, rI r.2], []) := by
 refine Ev.body rfl Tryz.func14 rfl (by kernel_rfl)<|gS rfl rfl<|sB (.ptr 16 0) 16 (.var (ai.rc a0))<|sV (rS [])<|sV (r0)<|sN<|qS<|gS rfl rfl<|sV (.d (ai.pd a0))<|bE h fun x1 hx1 h => cD (iU hx1)<|sF h (fun h => ?_) fun h => ?_
 ·refine sN<|cT<|gS rfl rfl<|sV (rS [])<|sV (rI 1)<|sN<|qR ?_
  cases oI h
  exact qG
 refine sN<|cF<|qK<|gS rfl rfl<|sB (.ptr 64 0) 64 (.var [.nils])<|sN<|gS rfl rfl<|sV (.ptr 16 0)<|sL rfl<|sV (.ptr 16 1)<|sL rfl<|sV (.ptr 16 2)<|sL rfl<|sV (.ptr 16 3)<|sL rfl ?_
 refine sV (.ptr 16 4)<|sL rfl<|sV (.d (.lst ([a0.aQ, a0.bh, a0.fID, a0.fAt, a0.aW].map (PD.int .i64))))<|bE h fun x3 hx3 h => cR (.tup []) [(64, .var [.ref 336 0]), (336, .arr 0 9 (x3.map PD.str))] (iQ hx3)<|sN<|gS rfl rfl<|sV (.ptr 16 5)<|sV (.ptr 16 5)<|sV (.d (ag.pd a0.ae.ak))<|bE h fun x4 hx4 h => cR (.tup []) [(64, .var [.ref 336 1]), (336, .arr 1 9 (x4.map PD.str))] (gd hx4)<|sN<|gS rfl rfl<|sV (.ptr 16 5) ?_
 refine sV (.ptr 16 14)<|sV (.ptr 16 14)<|sL rfl<|sE (rI (a0.ae.aa.aK.length : Int)) (lenMap _ _)<|sV (.d (.lst ([(a0.ae.aa.aK.length : Int)].map (PD.int .i64))))<|bE h fun x5 hx5 h => cR (.tup []) [(64, .var [.ref 336 2]), (336, .arr 2 9 (x5.map PD.str))] (dz hx5)<|sN<|qS<|gS rfl rfl<|sV (.ptr 16 5)<|sV (.ptr 16 14)<|sV (.ptr 16 14)<|sL rfl<|sE (rI (a0.ae.aa.aK.length : Int)) (lenMap _ _) ?_
 refine sV (r0)<|sN<|bE h fun o14 ho14 h => WC.block (WC.loop (WL.ofLoop ho14 (fun s R' B' => ghosts prog 0 (A R' B') (aM.at_ 14 0 8) = some (A [(1, .ptr 16 0), (4, .ptr 64 0), (36, .d (.lst (a0.ae.aa.aK.map ag.pd))), (37, rI (a0.ae.aa.aK.length : Int)), (38, rI s.1)] [(16, .var (ai.rc a0)), (64, .var [.ref 336 0]), (336, .arr 0 9 (s.2.map PD.str))])) (fun o e R' B' => e = .exit 0 ∧ ghosts prog 0 (A R' B') (aM.at_ 14 0 12) = some (A [(1, .ptr 16 0), (4, .ptr 64 0)] [(16, .var (ai.rc a0)), (64, .var [.ref 336 0]), (336, .arr 0 9 (o.map PD.str))])) rfl ?_ ?_))
 ·rintro ⟨s6, s7⟩ R' B' q9 hI h
  refine gS rfl hI<|sF h (fun h => ?_) fun h => ?_
  ·refine sN<|qS<|cT<|qK<|qS<|qB<|gS rfl rfl<|bE h fun x11 hx11 h => eG hx11 rfl<|sV (.d (ag.pd x11))<|sB (.ptr 96 0) 96 (.var zZ7)<|sH 96 (.var (ag.rc x11))<|sN<|WC.region rfl rfl<|sV (.d (ag.pd x11)) ?_
   refine bE h fun x12 hx12 h => cR (.tup []) [(64, .var [.ref 336 1]), (336, .arr 1 9 (x12.map PD.str))] (gd hx12)<|sN<|WC.region rfl rfl<|sV (rI (rW (s6 + (1 : Int))))<|sM rfl<|sN ?_
   cases oI h
   exact ⟨rfl, rfl⟩
  refine sN<|qS<|cF<|qX ?_
  cases oI h
  exact ⟨nofun, rfl, rfl⟩
 intro e R' B' he hq
 obtain ⟨rfl, hI⟩ := hq
 refine qE<|gS rfl hI<|sV (.ptr 16 5)<|sV (.ptr 16 14)<|sV (.d (aw.pd a0.ae.aa))<|bE h fun x15 hx15 h => cD (jE hx15)<|bE h fun x16 hx16 h => cR (.tup []) [(64, .var [.ref 336 1]), (336, .arr 1 9 (x16.map PD.str))] (dz hx16)<|sN<|gS rfl rfl<|sV (.ptr 64 0)<|sL rfl<|bE h fun x17 hx17 h => cR (rS x17) [(336, .dead)] ((join_ev rfl) hx17) ?_
 refine sA rfl<|sV (r0)<|sN<|qR ?_
 cases oI h
 exact qG
theorem j8 {d0 : aT} {r : (List UInt8) × aT} (h : dK d0 = some r) : EvP prog aM ext 85 [.ptr 0 0] [.var [.d (.lst (d0.bg.map PD.str)), rB d0.cX]] (rS r.1, [.var [.d (.lst (r.2.bg.map PD.str)), rB r.2.cX]]) := by
 refine Ev.body rfl Tryz.func85 rfl (by kernel_rfl)<|gS rfl rfl<|sV (rS [])<|sN<|qS<|gS rfl rfl<|sM rfl<|sV (.ptr 0 0)<|sV (.ptr 0 0)<|sL rfl<|sE (rI (d0.bg.length : Int)) (lenMap _ _)<|sF h (fun h => ?_) fun h => ?_
 ·refine sN<|cT<|gS rfl rfl<|sM rfl<|sV (.ptr 0 0)<|sV (.ptr 0 1)<|sS 0 (.var [.d (.lst (d0.bg.map PD.str)), rB true])<|sN<|gS rfl rfl<|sV (rS [])<|sN<|qR ?_
  cases oI h
  exact qD
 refine sN<|cF<|qK<|gS rfl rfl<|sM rfl<|sV (.ptr 0 0)<|sV (.ptr 0 0)<|sL rfl<|bE h fun x2 hx2 h => eG hx2 rfl<|sC rfl<|sA rfl<|sN<|gS rfl rfl<|sM rfl ?_
 refine sM rfl<|sV (.ptr 0 0)<|sV (.ptr 0 0)<|sL rfl<|bE h fun x3 hx3 h => WO.cutL (sz := 1) (g := PD.str) hx3 (fun _ => rfl) rfl rfl rfl rfl rfl rfl rfl rfl rfl rfl rfl<|sV (.ptr 0 0)<|sV (.ptr 0 0)<|sS 0 (.var [.d (.lst (x3.map PD.str)), rB d0.cX])<|sN<|gS rfl rfl<|sM rfl<|sA rfl<|sN<|qR ?_
 cases oI h
 exact qD
theorem ba {d0 : aT} {r : Int × aT} (h : aY d0 = some r) : EvP prog aM ext 48 [.ptr 0 0] [.var [.d (.lst (d0.bg.map PD.str)), rB d0.cX]] (rI r.1, [.var [.d (.lst (r.2.bg.map PD.str)), rB r.2.cX]]) := by
 refine Ev.body rfl Tryz.func48 rfl (by kernel_rfl)<|gS rfl rfl<|sV (r0)<|sN<|gS rfl rfl<|sM rfl<|bE h fun x1 hx1 h => cR (rS x1.1) [(0, .var [.d (.lst (x1.2.bg.map PD.str)), rB x1.2.cX])] (j8 hx1)<|sA rfl<|sN<|gS rfl rfl<|sM rfl<|bE h fun x2 hx2 h => cR (.tup [rI x2.1, .err x2.2]) [] ((atoi_ev rfl) hx2)<|sM rfl ?_
 refine sV (rI x2.1)<|sV (.err x2.2)<|sA rfl<|sA rfl<|sN<|gS rfl rfl<|sM rfl<|sM rfl<|sV (.ptr 0 0)<|sV (.ptr 0 1)<|sF h (fun h => ?_) fun h => ?_
 ·refine sM rfl<|sK<|sK<|sT<|sM rfl<|k3<|sK<|sT<|sV (.ptr 0 0)<|sV (.ptr 0 1)<|sS 0 (.var [.d (.lst (x1.2.bg.map PD.str)), rB true])<|sN<|gS rfl rfl ?_
  refine sM rfl<|sA rfl<|sN<|qR ?_
  cases oI h
  exact qD
 refine sM rfl<|sM rfl<|sV (rB (!x2.2))<|sF h (fun h => ?_) fun h => ?_
 ·refine sM rfl<|k3<|sK<|sT<|sV (.ptr 0 0)<|sV (.ptr 0 1)<|sS 0 (.var [.d (.lst (x1.2.bg.map PD.str)), rB true])<|sN<|gS rfl rfl<|sM rfl<|sA rfl<|sN<|qR ?_
  cases oI h
  exact qD
 refine sM rfl<|sM rfl<|bE h fun x5 hx5 h => cD ((itoa_ev rfl) hx5)<|sM rfl<|sV (rB (!(x5 == x1.1)))<|sV (rB (!(x5 == x1.1)))<|sV (.ptr 0 0)<|sV (.ptr 0 1)<|sS 0 (.var [.d (.lst (x1.2.bg.map PD.str)), rB (!(x5 == x1.1))])<|sN<|gS rfl rfl<|sM rfl<|sA rfl<|sN ?_
 refine qR ?_
 cases oI h
 exact qD
theorem source_Parse_ev {a0 : (List UInt8)} {r : am × Int} (h : cN a0 = some r) : EvP prog aM ext 87 [rS a0] [] (.tup [.d (am.pd r.1), rI r.2], []) := by
 refine Ev.body rfl Tryz.func87 rfl (by kernel_rfl)<|gS rfl rfl<|sB (.ptr 32 0) 32 (.var [rS [], rS [], rS [], rS []])<|sV (r0)<|sN<|gS rfl rfl<|sM rfl<|bE h fun x1 hx1 h => cD ((split_ev rfl) hx1)<|sA rfl<|sN<|qS<|gS rfl rfl<|sM rfl<|sE (rI (x1.length : Int)) (lenMap _ _) ?_
 refine sF h (fun h => ?_) fun h => ?_
 ·refine sN<|cT<|gS rfl rfl<|sV (.d (am.pd (am.mk [] [] [] [])))<|sS 32 (.var [rS [], rS [], rS [], rS []])<|sV (rI 3)<|sN<|qR ?_
  cases oI h
  exact qD
 refine sN<|cF<|qK<|WC.regionDSeq rfl rfl<|sM rfl<|bE h fun x3 hx3 h => eG hx3 rfl<|sC rfl<|sM rfl<|bE h fun x4 hx4 h => eG hx4 rfl<|sC rfl<|sM rfl<|bE h fun x5 hx5 h => eG hx5 rfl ?_
 refine sC rfl<|sM rfl<|bE h fun x6 hx6 h => eG hx6 rfl<|sC rfl<|sV (.d (am.pd (am.mk x3 x4 x5 x6)))<|sB (.ptr 80 0) 80 (.var [rS [], rS [], rS [], rS []])<|sS 80 (.var [rS x3, rS x4, rS x5, rS x6]) ?_
 refine sN<|sO<|qS<|gS rfl rfl<|sV (.d (am.pd (am.mk x3 x4 x5 x6)))<|bE h fun x7 hx7 h => cD (fg hx7)<|sF h (fun h => ?_) fun h => ?_
 ·refine sN<|cT<|gS rfl rfl<|sV (.d (am.pd (am.mk [] [] [] [])))<|sS 32 (.var [rS [], rS [], rS [], rS []])<|sV (rI 3)<|sN<|qR ?_
  cases oI h
  exact qD
 refine sN<|cF<|qK<|gS rfl rfl<|sV (.d (am.pd (am.mk x3 x4 x5 x6)))<|sS 32 (.var [rS x3, rS x4, rS x5, rS x6])<|sV (r0)<|sN<|qR ?_
 cases oI h
 exact qD
theorem j5 {d0 : aT} {r : ag × aT} (h : dH d0 = some r) : EvP prog aM ext 49 [.ptr 0 0] [.var [.d (.lst (d0.bg.map PD.str)), rB d0.cX]] (.d (ag.pd r.1), [.var [.d (.lst (r.2.bg.map PD.str)), rB r.2.cX]]) := by
 refine Ev.body rfl Tryz.func49 rfl (by kernel_rfl)<|gS rfl rfl<|sB (.ptr 32 0) 32 (.var zZ7)<|sN<|gS rfl rfl<|sM rfl<|bE h fun x1 hx1 h => cR (rS x1.1) [(0, .var [.d (.lst (x1.2.bg.map PD.str)), rB x1.2.cX])] (j8 hx1)<|bE h fun x2 hx2 h => cR (.tup [.d (am.pd x2.1), rI x2.2]) [] (source_Parse_ev hx2)<|sM rfl<|sV (.d (am.pd x2.1))<|sV (rI x2.2)<|sB (.ptr 48 0) 48 (.var [rS [], rS [], rS [], rS []])<|sS 48 (.var [rS x2.1.aC, rS x2.1.aE, rS x2.1.ac, rS x2.1.aD]) ?_
 refine sA rfl<|sN<|gS rfl rfl<|sM rfl<|sM rfl<|sV (.ptr 0 0)<|sV (.ptr 0 1)<|sF h (fun h => ?_) fun h => ?_
 ·refine sM rfl<|sK<|sK<|sT<|sV (.ptr 0 0)<|sV (.ptr 0 1)<|sS 0 (.var [.d (.lst (x1.2.bg.map PD.str)), rB true])<|sN<|WC.regionDSeq rfl rfl<|sV (.d (am.pd x2.1))<|sM rfl<|bE h fun x4 hx4 h => cR (rI x4.1) [(0, .var [.d (.lst (x4.2.bg.map PD.str)), rB x4.2.cX])] (ba hx4)<|sM rfl<|bE h fun x5 hx5 h => ?_
  refine cR (rI x5.1) [(0, .var [.d (.lst (x5.2.bg.map PD.str)), rB x5.2.cX])] (ba hx5)<|sM rfl<|bE h fun x6 hx6 h => cR (rI x6.1) [(0, .var [.d (.lst (x6.2.bg.map PD.str)), rB x6.2.cX])] (ba hx6)<|sM rfl<|bE h fun x7 hx7 h => cR (rI x7.1) [(0, .var [.d (.lst (x7.2.bg.map PD.str)), rB x7.2.cX])] (ba hx7)<|sM rfl<|bE h fun x8 hx8 h => cR (rI x8.1) [(0, .var [.d (.lst (x8.2.bg.map PD.str)), rB x8.2.cX])] (ba hx8)<|sG (.d (ag.pd (ag.mk x2.1 x4.1 x5.1 x6.1 x7.1 x8.1)))<|sH 32 (.var [rS x2.1.aC, rS x2.1.aE, rS x2.1.ac, rS x2.1.aD, rI x4.1, rI x5.1, rI x6.1, rI x7.1, rI x8.1]) ?_
  refine sN<|sO<|qR ?_
  cases oI h
  exact qG
 refine sM rfl<|sM rfl<|sV (rB (x2.2 != (0 : Int)))<|sV (rB (x2.2 != (0 : Int)))<|sV (.ptr 0 0)<|sV (.ptr 0 1)<|sS 0 (.var [.d (.lst (x1.2.bg.map PD.str)), rB (x2.2 != (0 : Int))])<|sN<|WC.regionDSeq rfl rfl<|sV (.d (am.pd x2.1))<|sM rfl<|bE h fun x9 hx9 h => cR (rI x9.1) [(0, .var [.d (.lst (x9.2.bg.map PD.str)), rB x9.2.cX])] (ba hx9)<|sM rfl<|bE h fun x10 hx10 h => ?_
 refine cR (rI x10.1) [(0, .var [.d (.lst (x10.2.bg.map PD.str)), rB x10.2.cX])] (ba hx10)<|sM rfl<|bE h fun x11 hx11 h => cR (rI x11.1) [(0, .var [.d (.lst (x11.2.bg.map PD.str)), rB x11.2.cX])] (ba hx11)<|sM rfl<|bE h fun x12 hx12 h => cR (rI x12.1) [(0, .var [.d (.lst (x12.2.bg.map PD.str)), rB x12.2.cX])] (ba hx12)<|sM rfl<|bE h fun x13 hx13 h => cR (rI x13.1) [(0, .var [.d (.lst (x13.2.bg.map PD.str)), rB x13.2.cX])] (ba hx13)<|sG (.d (ag.pd (ag.mk x2.1 x9.1 x10.1 x11.1 x12.1 x13.1)))<|sH 32 (.var [rS x2.1.aC, rS x2.1.aE, rS x2.1.ac, rS x2.1.aD, rI x9.1, rI x10.1, rI x11.1, rI x12.1, rI x13.1]) ?_
 refine sN<|sO<|qR ?_
 cases oI h
 exact qG
theorem fm {d0 : aT} {r : aj × aT} (h : cj d0 = some r) : EvP prog aM ext 50 [.ptr 0 0] [.var [.d (.lst (d0.bg.map PD.str)), rB d0.cX]] (.d (aj.pd r.1), [.var [.d (.lst (r.2.bg.map PD.str)), rB r.2.cX]]) := by
 refine Ev.body rfl Tryz.func50 rfl (by kernel_rfl)<|gS rfl rfl<|sB (.ptr 32 0) 32 (.var [r0, r0, r0])<|sN<|gS rfl rfl<|sM rfl<|bE h fun x1 hx1 h => cR (rI x1.1) [(0, .var [.d (.lst (x1.2.bg.map PD.str)), rB x1.2.cX])] (ba hx1)<|sM rfl<|bE h fun x2 hx2 h => cR (rI x2.1) [(0, .var [.d (.lst (x2.2.bg.map PD.str)), rB x2.2.cX])] (ba hx2)<|sM rfl<|bE h fun x3 hx3 h => cR (rI x3.1) [(0, .var [.d (.lst (x3.2.bg.map PD.str)), rB x3.2.cX])] (ba hx3)<|sV (.d (aj.pd (aj.mk x1.1 x2.1 x3.1))) ?_
 refine sS 32 (.var [rI x1.1, rI x2.1, rI x3.1])<|sN<|qR ?_
 cases oI h
 exact qD
theorem gu {d0 : (List ag)} {r : Int × (List ag)} (h : cb d0 = some r) : EvP prog aM ext 79 [.ref 0 0, .d (.raw (.func (.func 43) #[] #[]))] [.arr 0 25 (d0.map ag.pd)] (rI r.1, [.arr 0 25 (r.2.map ag.pd)]) := by
 refine Ev.body rfl Tryz.func79 rfl (by kernel_rfl)<|gS rfl rfl<|sV (r0)<|sN<|qS<|gS rfl rfl<|sM rfl<|WO.lenR rfl rfl rfl rfl rfl rfl rfl rfl rfl<|sV (r0)<|sN<|bE h fun o10 ho10 h => WC.block (WC.loop (WL.ofLoop ho10 (fun s R' B' => ghosts prog 1 (A R' B') (aM.at_ 79 1 2) = some (A [(0, .ref 0 0), (1, .d (.raw (.func (.func 43) #[] #[]))), (7, rI (d0.length : Int)), (8, rI s)] [(0, .arr 0 25 (d0.map ag.pd))])) (fun o e R' B' => match o with | .inl y => e = .exit 0 ∧ ghosts prog 1 (A R' B') (aM.at_ 79 1 7) = some (A [] [(0, .arr 0 25 (d0.map ag.pd))]) | .inr r => e = .ret ∧ finish prog (aM.own 79) Tryz.f79 1 (A R' B') = some (rI r.1, [.arr 0 25 (r.2.map ag.pd)])) rfl ?_ ?_))
 ·rintro s1 R' B' q2 hI h
  refine gS rfl hI<|sF h (fun h => ?_) fun h => ?_
  ·refine sN<|qS<|cT<|qK<|qS<|qB<|gS rfl rfl<|sM rfl<|sA rfl<|sN<|gS rfl rfl<|sM rfl<|sM rfl<|sM rfl<|bE h fun x5 hx5 h => ?_
   refine WO.eltG hx5 rfl rfl rfl rfl rfl rfl rfl rfl<|bE h fun x6 hx6 h => WO.loadE hx6 rfl rfl rfl rfl rfl rfl<|bE h fun x7 hx7 h => ite_elim h (fun hb8 h => ?_) (fun hb8 h => ?_)
   ·refine WO.callR (v := rB true) (u := []) rfl rfl (fun _ => rfl) rfl rfl rfl rfl rfl (ed hx7) rfl rfl (congrArg (fun b => RV.d (.bool b)) hb8) rfl<|sN<|cT<|gS rfl rfl<|sM rfl<|sA rfl<|sN<|qR ?_
    cases oI h
    exact ⟨nofun, rfl, rfl⟩
   refine WO.callR (v := rB false) (u := []) rfl rfl (fun _ => rfl) rfl rfl rfl rfl rfl (ed hx7) rfl rfl (congrArg (fun b => RV.d (.bool b)) hb8) rfl<|sN<|cF<|qK<|WC.region rfl rfl<|sV (rI (rW (s1 + (1 : Int))))<|sM rfl<|sN ?_
   cases oI h
   exact ⟨rfl, rfl⟩
  refine sN<|qS<|cF<|qX ?_
  cases oI h
  exact ⟨nofun, rfl, rfl⟩
 intro e R' B' he hq
 rcases o10 with y11 | r12
 ·obtain ⟨rfl, hI⟩ := hq
  refine qE<|gS rfl hI<|sV (rI (-1))<|sN<|qR ?_
  cases oI h
  exact qD
 obtain ⟨rfl, hf⟩ := hq
 cases oI h
 exact hf
theorem fA {d0 : (List ag)} {r : Bool × (List ag)} (h : bQ d0 = some r) : EvP prog aM ext 42 [.ref 0 0, .d (.raw (.func (.func 43) #[] #[]))] [.arr 0 25 (d0.map ag.pd)] (rB r.1, [.arr 0 25 (r.2.map ag.pd)]) := by
 refine Ev.body rfl Tryz.func42 rfl (by kernel_rfl)<|gS rfl rfl<|sU<|sN<|gS rfl rfl<|sM rfl<|sM rfl<|bE h fun x1 hx1 h => cR (rI x1.1) [(0, .arr 0 25 (x1.2.map ag.pd))] (gu hx1)<|sV (rB (decide (x1.1 ≥ (0 : Int))))<|sA rfl<|sN<|qR ?_
 cases oI h
 exact qD
theorem i7 {b6 : Int} {b8 : Int} {cr : Int} {ce : Int} {cp : Int} {cq : Int} {ct : Int} {cu : Int} {cv : Int} {bK : Int} {bL : Int} {bM : Int} {bP : Int} {jD : Int} {bq : Int} {d0 : (List ag)} {r : (List Int) × (List ag)} (h : dQ b6 b8 cr ce cp cq ct cu cv bK bL bM bP jD bq d0 = some r) : EvP prog aM ext 38 [.agg [.ref 0 0, rI b6, rI b8, rI cr, rI ce, rI cp, rI cq, rI ct, rI cu, rI cv, rI bK, rI bL, rI bM, rI bP, rI jD, rI bq]] [.arr 0 25 (d0.map ag.pd)] (.d (.lst (r.1.map (PD.int .i64))), [.arr 0 25 (r.2.map ag.pd)]) := by
 refine Ev.body rfl Tryz.func38 rfl (by kernel_rfl)<|gS rfl rfl<|sB (.ptr 16 0) 16 (.var [.ref 0 0, rI b6, rI b8, rI cr, rI ce, rI cp, rI cq, rI ct, rI cu, rI cv, rI bK, rI bL, rI bM, rI bP, rI jD, rI bq])<|sV .nils<|sN<|gS rfl rfl<|sV (.ptr 16 1)<|sV (.d (aB.pd (aB.mk (aj.mk b6 b8 cr) ce cp cq (aP.mk (aj.mk ct cu cv) (aj.mk bK bL bM)))))<|sB (.ptr 48 0) 48 (.var zZ5)<|sH 48 (.var [rI b6, rI b8, rI cr, rI ce, rI cp, rI cq, rI ct, rI cu, rI cv, rI bK, rI bL, rI bM])<|sN<|WC.regionDSeq rfl rfl<|sV (.ptr 48 0)<|sV (.d (aj.pd (aj.mk b6 b8 cr)))<|bE h fun x1 hx1 h => ?_
 refine cD (et hx1)<|sV (.ptr 48 3)<|sL rfl<|sV (.ptr 48 4)<|sL rfl<|sV (.ptr 48 5)<|sL rfl<|sV (.d (.lst ([ce, cp, cq].map (PD.int .i64))))<|sV (.ptr 48 6)<|sV (.ptr 48 6)<|sV (.d (aj.pd (aj.mk ct cu cv)))<|bE h fun x2 hx2 h => cD (et hx2)<|sV (.ptr 48 6)<|sV (.ptr 48 9) ?_
 refine sV (.d (aj.pd (aj.mk bK bL bM)))<|bE h fun x3 hx3 h => cD (et hx3)<|sV (.ptr 16 13)<|sV (.ptr 16 13)<|sL rfl<|sV (.ptr 16 13)<|sV (.ptr 16 14)<|sL rfl<|sV (.ptr 16 15)<|sL rfl<|sV (.d (.lst ([bP, jD, bq].map (PD.int .i64))))<|sV (.d (.lst ([x1, [ce, cp, cq], x2, x3, [bP, jD, bq]].map (fun l => PD.lst (l.map (PD.int .i64))))))<|bE h fun x4 hx4 h => cD (gH hx4) ?_
 refine sA rfl ?_
 refine sN<|sO<|qR ?_
 cases oI h
 exact qG
theorem feed_Validq_ev {co : Int} {b6 : Int} {b8 : Int} {cr : Int} {ce : Int} {cp : (List UInt8)} {cq : (List UInt8)} {ct : (List UInt8)} {cu : (List UInt8)} {cv : Int} {bK : Int} {bL : Int} {bM : Int} {bP : Int} {bq : Int} {bu : Int} {bv : Int} {bw : Int} {bz : Int} {bA : Int} {bB : Int} {bC : Int} {bD : Int} {bF : Int} {bG : Int} {bH : Int} {bR : Int} {bS : Int} {bT : Int} {d0 : (List ag)} {r : Bool × (List ag)} (h : fu co b6 b8 cr ce cp cq ct cu cv bK bL bM bP bq bu bv bw bz bA bB bC bD bF bG bH bR bS bT d0 = some r) : EvP prog aM ext 16 [.agg [rI co, rI b6, rI b8, rI cr, rI ce, rS cp, rS cq, rS ct, rS cu, rI cv, rI bK, rI bL, rI bM, rI bP, .ref 0 0, rI bq, rI bu, rI bv, rI bw, rI bz, rI bA, rI bB, rI bC, rI bD, rI bF, rI bG, rI bH, rI bR, rI bS, rI bT]] [.arr 0 25 (d0.map ag.pd)] (rB r.1, [.arr 0 25 (r.2.map ag.pd)]) := by
 refine Ev.body rfl Tryz.func16 rfl (by kernel_rfl)<|gS rfl rfl<|sB (.ptr 16 0) 16 (.var [rI co, rI b6, rI b8, rI cr, rI ce, rS cp, rS cq, rS ct, rS cu, rI cv, rI bK, rI bL, rI bM, rI bP, .ref 0 0, rI bq, rI bu, rI bv, rI bw, rI bz, rI bA, rI bB, rI bC, rI bD, rI bF, rI bG, rI bH, rI bR, rI bS, rI bT])<|sU<|sN<|gS rfl rfl<|sV (.ptr 16 5)<|sV (.ptr 16 14)<|sV (.agg [.ref 0 0, rI bq, rI bu, rI bv, rI bw, rI bz, rI bA, rI bB, rI bC, rI bD, rI bF, rI bG, rI bH, rI bR, rI bS, rI bT])<|sB (.ptr 48 0) 48 (.var zZ2)<|sH 48 (.var [.ref 0 0, rI bq, rI bu, rI bv, rI bw, rI bz, rI bA, rI bB, rI bC, rI bD, rI bF, rI bG, rI bH, rI bR, rI bS, rI bT])<|sN<|qS<|qB<|gS rfl rfl ?_
 refine sV (.ptr 16 0)<|sL rfl<|sF h (fun h => ?_) fun h => ?_
 ·refine sM rfl<|k3<|sT<|sM rfl<|k3<|sT<|sM rfl<|k3<|sT ?_
  refine sA rfl<|sN<|cT<|gS rfl rfl<|sU<|sN<|qR ?_
  cases oI h
  exact qG
 refine sM rfl<|sV (.ptr 16 0)<|sL rfl<|sV (rB (decide (co ≥ (1000 : Int))))<|sF h (fun h => ?_) fun h => ?_
 ·refine sM rfl<|k3<|sT<|sM rfl<|k3<|sT<|sA rfl<|sN<|cT<|gS rfl rfl<|sU ?_
  refine sN<|qR ?_
  cases oI h
  exact qG
 refine sM rfl<|sV (.ptr 16 1)<|sL rfl<|sV (rB (decide (b6 < (1 : Int))))<|sF h (fun h => ?_) fun h => ?_
 ·refine sM rfl<|k3<|sT<|sA rfl<|sN<|cT<|gS rfl rfl<|sU<|sN<|qR ?_
  cases oI h
  exact qG
 refine sM rfl<|sV (.ptr 16 1)<|sL rfl<|sV (rB (decide (b6 > (3 : Int))))<|sF h (fun h => ?_) fun h => ?_
 ·refine sA rfl<|sN<|cT<|gS rfl rfl<|sU<|sN<|qR ?_
  cases oI h
  exact qG
 refine sA rfl<|sN<|cF<|gS rfl rfl<|sV (.ptr 16 2)<|sL rfl<|sF h (fun h => ?_) fun h => ?_
 ·refine sM rfl<|k3<|sK<|sK<|sT<|sM rfl<|k3<|k3<|sK ?_
  refine sK<|sK<|sT<|sA rfl<|sN<|cT<|gS rfl rfl<|sU<|sN<|qR ?_
  cases oI h
  exact qG
 refine sM rfl<|sV (.ptr 16 2)<|sL rfl<|sV (.ptr 16 0)<|sL rfl<|sV (rB (decide (b8 > co)))<|sF h (fun h => ?_) fun h => ?_
 ·refine sM rfl<|k3<|k3<|k3<|sT<|sA rfl<|sN<|cT<|gS rfl rfl ?_
  refine sU<|sN<|qR ?_
  cases oI h
  exact qG
 refine sM rfl<|sV (.ptr 16 2)<|sL rfl<|sV (.ptr 16 0)<|sL rfl<|sV (rB (b8 == co))<|sV (.ptr 16 1)<|sL rfl<|sV (rB (b6 == (1 : Int)))<|sV (rB (!((b8 == co) == (b6 == (1 : Int)))))<|sF h (fun h => ?_) fun h => ?_
 ·refine sA rfl<|sN<|cT<|gS rfl rfl<|sU<|sN<|qR ?_
  cases oI h
  exact qG
 refine sA rfl<|sN<|cF<|gS rfl rfl<|sV (.ptr 16 4)<|sL rfl<|sF h (fun h => ?_) fun h => ?_
 ·refine sM rfl<|k3<|sT<|sM rfl<|k3<|sK<|sT<|sA rfl<|sN<|cT<|gS rfl rfl ?_
  refine sU<|sN<|qR ?_
  cases oI h
  exact qG
 refine sM rfl<|sV (.ptr 16 4)<|sL rfl<|sV (rB (decide (ce > (8 : Int))))<|sF h (fun h => ?_) fun h => ?_
 ·refine sM rfl<|k3<|sK<|sT<|sA rfl<|sN<|cT<|gS rfl rfl<|sU<|sN<|qR ?_
  cases oI h
  exact qG
 refine sM rfl<|sV (.ptr 48 0)<|sL rfl<|WO.lenR rfl rfl rfl rfl rfl rfl rfl rfl rfl<|sV (rB (decide ((d0.length : Int) > (64 : Int))))<|sF h (fun h => ?_) fun h => ?_
 ·refine sA rfl<|sN<|cT<|gS rfl rfl<|sU<|sN<|qR ?_
  cases oI h
  exact qG
 refine sA rfl<|sN<|cF<|gS rfl rfl<|sV (.ptr 16 5)<|sV (.ptr 16 5)<|sV (.d (ag.pd (ag.mk (am.mk cp cq ct cu) cv bK bL bM bP)))<|bE h fun x11 hx11 h => cD (eY hx11)<|sF h (fun h => ?_) fun h => ?_
 ·refine sM rfl<|k3<|sT<|sA rfl<|sN<|cT<|gS rfl rfl<|sU<|sN<|qR ?_
  cases oI h
  exact qG
 refine sM rfl<|sV (.ptr 48 0)<|sL rfl<|bE h fun x13 hx13 h => cR (rB x13.1) [(0, .arr 0 25 (x13.2.map ag.pd))] (fA hx13)<|sF h (fun h => ?_) fun h => ?_
 ·refine sA rfl<|sN<|cT<|gS rfl rfl<|sU<|sN<|qR ?_
  cases oI h
  exact qG
 refine sA rfl<|sN<|cF<|qK<|gS rfl rfl<|sV (.ptr 16 3)<|sL rfl<|sV (.d (.lst ([cr].map (PD.int .i64))))<|bE h fun x15 hx15 h => ite_elim h (fun hb16 h => ?_) (fun hb16 h => ?_)
 ·refine WO.callR (v := rB true) (u := []) rfl rfl (fun _ => rfl) rfl rfl rfl rfl rfl (dX hx15) rfl rfl (congrArg (fun b => RV.d (.bool b)) hb16) rfl<|sM rfl<|sV (.agg [.ref 0 0, rI bq, rI bu, rI bv, rI bw, rI bz, rI bA, rI bB, rI bC, rI bD, rI bF, rI bG, rI bH, rI bR, rI bS, rI bT])<|bE h fun x17 hx17 h => cR (.d (.lst (x17.1.map (PD.int .i64)))) [(0, .arr 0 25 (x17.2.map ag.pd))] (i7 hx17)<|bE h fun x18 hx18 h => cD (dX hx18)<|sV (rB x18)<|sA rfl<|sN<|qR ?_
  cases oI h
  exact qG
 refine WO.callR (v := rB false) (u := []) rfl rfl (fun _ => rfl) rfl rfl rfl rfl rfl (dX hx15) rfl rfl (congrArg (fun b => RV.d (.bool b)) hb16) rfl<|sM rfl<|k3<|sU<|sA rfl<|sN<|qR ?_
 cases oI h
 exact qG
theorem feed_Encodeq_ev {co : Int} {b6 : Int} {b8 : Int} {cr : Int} {ce : Int} {cp : (List UInt8)} {cq : (List UInt8)} {ct : (List UInt8)} {cu : (List UInt8)} {cv : Int} {bK : Int} {bL : Int} {bM : Int} {bP : Int} {bq : Int} {bu : Int} {bv : Int} {bw : Int} {bz : Int} {bA : Int} {bB : Int} {bC : Int} {bD : Int} {bF : Int} {bG : Int} {bH : Int} {bR : Int} {bS : Int} {bT : Int} {d0 : (List ag)} {r : (List UInt8) × Int × (List ag)} (h : eQ co b6 b8 cr ce cp cq ct cu cv bK bL bM bP bq bu bv bw bz bA bB bC bD bF bG bH bR bS bT d0 = some r) : EvP prog aM ext 14 [.agg [rI co, rI b6, rI b8, rI cr, rI ce, rS cp, rS cq, rS ct, rS cu, rI cv, rI bK, rI bL, rI bM, rI bP, .ref 0 0, rI bq, rI bu, rI bv, rI bw, rI bz, rI bA, rI bB, rI bC, rI bD, rI bF, rI bG, rI bH, rI bR, rI bS, rI bT]] [.arr 0 25 (d0.map ag.pd)] (.tup [rS r.1, rI r.2.1], [.arr 0 25 (r.2.2.map ag.pd)]) := by
 refine Ev.body rfl Tryz.func14 rfl (by kernel_rfl)<|gS rfl rfl<|sB (.ptr 16 0) 16 (.var [rI co, rI b6, rI b8, rI cr, rI ce, rS cp, rS cq, rS ct, rS cu, rI cv, rI bK, rI bL, rI bM, rI bP, .ref 0 0, rI bq, rI bu, rI bv, rI bw, rI bz, rI bA, rI bB, rI bC, rI bD, rI bF, rI bG, rI bH, rI bR, rI bS, rI bT])<|sV (rS [])<|sV (r0)<|sN<|qS<|gS rfl rfl<|sV (.agg [rI co, rI b6, rI b8, rI cr, rI ce, rS cp, rS cq, rS ct, rS cu, rI cv, rI bK, rI bL, rI bM, rI bP, .ref 0 0, rI bq, rI bu, rI bv, rI bw, rI bz, rI bA, rI bB, rI bC, rI bD, rI bF, rI bG, rI bH, rI bR, rI bS, rI bT])<|bE h fun x1 hx1 h => cR (rB x1.1) [(0, .arr 0 25 (x1.2.map ag.pd))] (feed_Validq_ev hx1)<|sF h (fun h => ?_) fun h => ?_
 ·refine sN<|cT<|gS rfl rfl<|sV (rS [])<|sV (rI 1)<|sN<|qR ?_
  cases oI h
  exact qG
 refine sN<|cF<|qK<|gS rfl rfl<|sB (.ptr 64 0) 64 (.var [.nils])<|sN<|gS rfl rfl<|sV (.ptr 16 0)<|sL rfl<|sV (.ptr 16 1)<|sL rfl<|sV (.ptr 16 2)<|sL rfl<|sV (.ptr 16 3)<|sL rfl ?_
 refine sV (.ptr 16 4)<|sL rfl<|sV (.d (.lst ([co, b6, b8, cr, ce].map (PD.int .i64))))<|bE h fun x3 hx3 h => cR (.tup []) [(64, .var [.ref 336 0]), (336, .arr 0 9 (x3.map PD.str))] (iQ hx3)<|sN<|gS rfl rfl<|sV (.ptr 16 5)<|sV (.ptr 16 5)<|sV (.d (ag.pd (ag.mk (am.mk cp cq ct cu) cv bK bL bM bP)))<|bE h fun x4 hx4 h => cR (.tup []) [(64, .var [.ref 336 1]), (336, .arr 1 9 (x4.map PD.str))] (gd hx4)<|sN<|gS rfl rfl<|sV (.ptr 16 5) ?_
 refine sV (.ptr 16 14)<|sV (.ptr 16 14)<|sL rfl<|WO.lenR rfl rfl rfl rfl rfl rfl rfl rfl rfl<|sV (.d (.lst ([(x1.2.length : Int)].map (PD.int .i64))))<|bE h fun x5 hx5 h => cR (.tup []) [(64, .var [.ref 336 2]), (336, .arr 2 9 (x5.map PD.str))] (dz hx5)<|sN<|qS<|gS rfl rfl<|sV (.ptr 16 5)<|sV (.ptr 16 14)<|sV (.ptr 16 14)<|sL rfl<|WO.lenR rfl rfl rfl rfl rfl rfl rfl rfl rfl ?_
 refine sV (r0)<|sN<|bE h fun o16 ho16 h => WC.block (WC.loop (WL.ofLoop ho16 (fun s R' B' => ghosts prog 1 (A R' B') (aM.at_ 14 1 8) = some (A [(1, .ptr 16 0), (4, .ptr 64 0), (36, .ref 0 0), (37, rI (x1.2.length : Int)), (38, rI s.1)] [(0, .arr 0 25 (x1.2.map ag.pd)), (16, .var [rI co, rI b6, rI b8, rI cr, rI ce, rS cp, rS cq, rS ct, rS cu, rI cv, rI bK, rI bL, rI bM, rI bP, .ref 0 0, rI bq, rI bu, rI bv, rI bw, rI bz, rI bA, rI bB, rI bC, rI bD, rI bF, rI bG, rI bH, rI bR, rI bS, rI bT]), (64, .var [.ref 336 0]), (336, .arr 0 9 (s.2.map PD.str))])) (fun o e R' B' => e = .exit 0 ∧ ghosts prog 1 (A R' B') (aM.at_ 14 1 12) = some (A [(1, .ptr 16 0), (4, .ptr 64 0)] [(0, .arr 0 25 (x1.2.map ag.pd)), (16, .var [rI co, rI b6, rI b8, rI cr, rI ce, rS cp, rS cq, rS ct, rS cu, rI cv, rI bK, rI bL, rI bM, rI bP, .ref 0 0, rI bq, rI bu, rI bv, rI bw, rI bz, rI bA, rI bB, rI bC, rI bD, rI bF, rI bG, rI bH, rI bR, rI bS, rI bT]), (64, .var [.ref 336 0]), (336, .arr 0 9 (o.map PD.str))])) rfl ?_ ?_))
 ·rintro ⟨s6, s7⟩ R' B' q9 hI h
  refine gS rfl hI<|sF h (fun h => ?_) fun h => ?_
  ·refine sN<|qS<|cT<|qK<|qS<|qB<|gS rfl rfl<|bE h fun x12 hx12 h => WO.eltG hx12 rfl rfl rfl rfl rfl rfl rfl rfl<|bE h fun x13 hx13 h => WO.loadE hx13 rfl rfl rfl rfl rfl rfl<|sB (.ptr 96 0) 96 (.var zZ7)<|sH 96 (.var (ag.rc x13))<|sN<|WC.region rfl rfl ?_
   refine sV (.d (ag.pd x13))<|bE h fun x14 hx14 h => cR (.tup []) [(64, .var [.ref 336 1]), (336, .arr 1 9 (x14.map PD.str))] (gd hx14)<|sN<|WC.region rfl rfl<|sV (rI (rW (s6 + (1 : Int))))<|sM rfl<|sN ?_
   cases oI h
   exact ⟨rfl, rfl⟩
  refine sN<|qS<|cF<|qX ?_
  cases oI h
  exact ⟨nofun, rfl, rfl⟩
 intro e R' B' he hq
 obtain ⟨rfl, hI⟩ := hq
 refine qE<|gS rfl hI<|sV (.ptr 16 5)<|sV (.ptr 16 14)<|sV (.agg [.ref 0 0, rI bq, rI bu, rI bv, rI bw, rI bz, rI bA, rI bB, rI bC, rI bD, rI bF, rI bG, rI bH, rI bR, rI bS, rI bT])<|bE h fun x17 hx17 h => cR (.d (.lst (x17.1.map (PD.int .i64)))) [(0, .arr 0 25 (x17.2.map ag.pd))] (i7 hx17)<|bE h fun x18 hx18 h => cR (.tup []) [(64, .var [.ref 336 1]), (336, .arr 1 9 (x18.map PD.str))] (dz hx18)<|sN<|gS rfl rfl<|sV (.ptr 64 0)<|sL rfl<|bE h fun x19 hx19 h => cR (rS x19) [(336, .dead)] ((join_ev rfl) hx19) ?_
 refine sA rfl<|sV (r0)<|sN<|qR ?_
 cases oI h
 exact qG
theorem fG {a0 : (List UInt8)} {r : ai × Int} (h : cw a0 = some r) : EvP prog aM ext 19 [rS a0] [] (.tup [.d (ai.pd r.1), rI r.2], []) := by
 refine Ev.body rfl Tryz.func19 rfl (by kernel_rfl)<|gS rfl rfl<|sB (.ptr 32 0) 32 (.var zZ0)<|sV (r0)<|sN<|gS rfl rfl<|sM rfl<|bE h fun x1 hx1 h => cD ((split_ev rfl) hx1)<|sV (.d (.agg [.lst (x1.map PD.str), .bool false]))<|sB (.ptr 208 0) 208 (.var [.d (.lst (x1.map PD.str)), rB false])<|sA rfl<|sN<|gS rfl rfl<|sM rfl ?_
 refine bE h fun x2 hx2 h => cR (rI x2.1) [(208, .var [.d (.lst (x2.2.bg.map PD.str)), rB x2.2.cX])] (ba hx2)<|sM rfl<|bE h fun x3 hx3 h => cR (rI x3.1) [(208, .var [.d (.lst (x3.2.bg.map PD.str)), rB x3.2.cX])] (ba hx3)<|sM rfl<|bE h fun x4 hx4 h => cR (rI x4.1) [(208, .var [.d (.lst (x4.2.bg.map PD.str)), rB x4.2.cX])] (ba hx4)<|sM rfl<|bE h fun x5 hx5 h => cR (rI x5.1) [(208, .var [.d (.lst (x5.2.bg.map PD.str)), rB x5.2.cX])] (ba hx5)<|sM rfl<|bE h fun x6 hx6 h => cR (rI x6.1) [(208, .var [.d (.lst (x6.2.bg.map PD.str)), rB x6.2.cX])] (ba hx6)<|sG (.agg [rI x2.1, rI x3.1, rI x4.1, rI x5.1, rI x6.1, rS [], rS [], rS [], rS [], r0, r0, r0, r0, r0, .nils, r0, r0, r0, r0, r0, r0, r0, r0, r0, r0, r0, r0, r0, r0, r0]) ?_
 refine sB (.ptr 80 0) 80 (.var zZ0)<|sH 80 (.var [rI x2.1, rI x3.1, rI x4.1, rI x5.1, rI x6.1, rS [], rS [], rS [], rS [], r0, r0, r0, r0, r0, .nils, r0, r0, r0, r0, r0, r0, r0, r0, r0, r0, r0, r0, r0, r0, r0])<|sN<|gS rfl rfl<|sM rfl<|bE h fun x7 hx7 h => cR (.d (ag.pd x7.1)) [(208, .var [.d (.lst (x7.2.bg.map PD.str)), rB x7.2.cX])] (j5 hx7)<|sV (.ptr 80 5)<|sV (.ptr 80 5)<|sH 80 (.var [rI x2.1, rI x3.1, rI x4.1, rI x5.1, rI x6.1, rS x7.1.ah.aC, rS x7.1.ah.aE, rS x7.1.ah.ac, rS x7.1.ah.aD, rI x7.1.aF, rI x7.1.aJ, rI x7.1.aN, rI x7.1.au, rI x7.1.av, .nils, r0, r0, r0, r0, r0, r0, r0, r0, r0, r0, r0, r0, r0, r0, r0])<|sN<|gS rfl rfl<|sV (.ptr 80 5)<|sV (.ptr 80 14)<|sA rfl ?_
 refine sN<|qS<|gS rfl rfl<|sM rfl<|bE h fun x8 hx8 h => cR (rI x8.1) [(208, .var [.d (.lst (x8.2.bg.map PD.str)), rB x8.2.cX])] (ba hx8)<|sA rfl<|sN<|bE h fun o22 ho22 h => WC.block (WC.loop (WL.ofLoop ho22 (fun s R' B' => ghosts prog 0 (A R' B') (aM.at_ 19 0 6) = some (A [(0, rS a0), (2, .ptr 32 0), (4, .ptr 208 0), (5, .ptr 80 0), (6, .ptr 80 14), (7, rI s.1)] [(32, .var zZ0), (80, .var [rI x2.1, rI x3.1, rI x4.1, rI x5.1, rI x6.1, rS x7.1.ah.aC, rS x7.1.ah.aE, rS x7.1.ah.ac, rS x7.1.ah.aD, rI x7.1.aF, rI x7.1.aJ, rI x7.1.aN, rI x7.1.au, rI x7.1.av, .ref 832 0, r0, r0, r0, r0, r0, r0, r0, r0, r0, r0, r0, r0, r0, r0, r0]), (208, .var [.d (.lst (s.2.1.map PD.str)), rB s.2.2.1]), (832, .arr 0 25 (s.2.2.2.map ag.pd))])) (fun o e R' B' => e = .exit 0 ∧ ghosts prog 0 (A R' B') (aM.at_ 19 0 9) = some (A [(0, rS a0), (2, .ptr 32 0), (4, .ptr 208 0), (5, .ptr 80 0), (6, .ptr 80 14)] [(32, .var zZ0), (80, .var [rI x2.1, rI x3.1, rI x4.1, rI x5.1, rI x6.1, rS x7.1.ah.aC, rS x7.1.ah.aE, rS x7.1.ah.ac, rS x7.1.ah.aD, rI x7.1.aF, rI x7.1.aJ, rI x7.1.aN, rI x7.1.au, rI x7.1.av, .ref 832 0, r0, r0, r0, r0, r0, r0, r0, r0, r0, r0, r0, r0, r0, r0, r0]), (208, .var [.d (.lst (o.1.map PD.str)), rB o.2.1]), (832, .arr 0 25 (o.2.2.map ag.pd))])) rfl ?_ ?_))
 ·rintro ⟨s9, s10, s11, s12⟩ R' B' q16 hI h
  refine qS<|gS rfl hI<|sM rfl<|sF h (fun h => ?_) fun h => ?_
  ·refine sM rfl<|sM rfl<|sV (.ptr 208 0)<|sV (.ptr 208 1)<|sL rfl<|sV (rB (!s11))<|sF h (fun h => ?_) fun h => ?_
   ·refine sN<|cT<|qK<|qS<|qB<|WC.regionD rfl rfl<|sM rfl<|sM rfl<|sV (.ptr 80 14)<|sV (.ptr 80 14)<|sL rfl<|sM rfl<|bE h fun x19 hx19 h => cR (.d (ag.pd x19.1)) [(208, .var [.d (.lst (x19.2.bg.map PD.str)), rB x19.2.cX])] (j5 hx19)<|sG (.d (.lst ([x19.1].map ag.pd))) ?_
    refine bE h fun x20 hx20 h => aR hx20 (fun _ => rfl) rfl<|sV (.ptr 80 14)<|sV (.ptr 80 14)<|sS 80 (.var [rI x2.1, rI x3.1, rI x4.1, rI x5.1, rI x6.1, rS x7.1.ah.aC, rS x7.1.ah.aE, rS x7.1.ah.ac, rS x7.1.ah.aD, rI x7.1.aF, rI x7.1.aJ, rI x7.1.aN, rI x7.1.au, rI x7.1.av, .ref 832 1, r0, r0, r0, r0, r0, r0, r0, r0, r0, r0, r0, r0, r0, r0, r0]) ?_
    refine sN<|sO<|WC.region rfl rfl<|sM rfl<|sV (rI (rW (s9 - (1 : Int))))<|sA rfl<|sN ?_
    cases oI h
    exact ⟨rfl, rfl⟩
   refine sN<|cF<|qX ?_
   cases oI h
   exact ⟨nofun, rfl, rfl⟩
  refine sM rfl<|k3<|sK<|sK<|sU<|sN<|cF<|qX ?_
  cases oI h
  exact ⟨nofun, rfl, rfl⟩
 intro e R' B' he hq
 obtain ⟨rfl, hI⟩ := hq
 refine qE<|gS rfl hI<|sM rfl<|sM rfl<|bE h fun x23 hx23 h => cR (.d (aj.pd x23.1)) [(208, .var [.d (.lst (x23.2.bg.map PD.str)), rB x23.2.cX])] (fm hx23)<|sM rfl<|bE h fun x24 hx24 h => cR (rI x24.1) [(208, .var [.d (.lst (x24.2.bg.map PD.str)), rB x24.2.cX])] (ba hx24)<|sM rfl<|bE h fun x25 hx25 h => cR (rI x25.1) [(208, .var [.d (.lst (x25.2.bg.map PD.str)), rB x25.2.cX])] (ba hx25)<|sM rfl<|bE h fun x26 hx26 h => cR (rI x26.1) [(208, .var [.d (.lst (x26.2.bg.map PD.str)), rB x26.2.cX])] (ba hx26) ?_
 refine sG (.d (aB.pd (aB.mk x23.1 x24.1 x25.1 x26.1 (aP.mk (aj.mk 0 0 0) (aj.mk 0 0 0)))))<|sV (.ptr 80 14)<|sV (.ptr 80 15)<|sH 80 (.var [rI x2.1, rI x3.1, rI x4.1, rI x5.1, rI x6.1, rS x7.1.ah.aC, rS x7.1.ah.aE, rS x7.1.ah.ac, rS x7.1.ah.aD, rI x7.1.aF, rI x7.1.aJ, rI x7.1.aN, rI x7.1.au, rI x7.1.av, .ref 832 0, rI x23.1.fX, rI x23.1.fY, rI x23.1.fZ, rI x24.1, rI x25.1, rI x26.1, r0, r0, r0, r0, r0, r0, r0, r0, r0])<|sN<|gS rfl rfl<|sM rfl<|sM rfl<|bE h fun x27 hx27 h => cR (.d (aj.pd x27.1)) [(208, .var [.d (.lst (x27.2.bg.map PD.str)), rB x27.2.cX])] (fm hx27)<|sM rfl<|bE h fun x28 hx28 h => cR (.d (aj.pd x28.1)) [(208, .var [.d (.lst (x28.2.bg.map PD.str)), rB x28.2.cX])] (fm hx28)<|sG (.d (aP.pd (aP.mk x27.1 x28.1)))<|sV (.ptr 80 14) ?_
 refine sV (.ptr 80 15)<|sV (.ptr 80 21)<|sH 80 (.var [rI x2.1, rI x3.1, rI x4.1, rI x5.1, rI x6.1, rS x7.1.ah.aC, rS x7.1.ah.aE, rS x7.1.ah.ac, rS x7.1.ah.aD, rI x7.1.aF, rI x7.1.aJ, rI x7.1.aN, rI x7.1.au, rI x7.1.av, .ref 832 0, rI x23.1.fX, rI x23.1.fY, rI x23.1.fZ, rI x24.1, rI x25.1, rI x26.1, rI x27.1.fX, rI x27.1.fY, rI x27.1.fZ, rI x28.1.fX, rI x28.1.fY, rI x28.1.fZ, r0, r0, r0])<|sN<|gS rfl rfl<|sM rfl<|sM rfl<|bE h fun x29 hx29 h => cR (rI x29.1) [(208, .var [.d (.lst (x29.2.bg.map PD.str)), rB x29.2.cX])] (ba hx29)<|sM rfl<|bE h fun x30 hx30 h => cR (rI x30.1) [(208, .var [.d (.lst (x30.2.bg.map PD.str)), rB x30.2.cX])] (ba hx30)<|sV (.d (aG.pd (aG.mk x29.1 x30.1)))<|sV (.ptr 80 14)<|sV (.ptr 80 27) ?_
 refine sS 80 (.var [rI x2.1, rI x3.1, rI x4.1, rI x5.1, rI x6.1, rS x7.1.ah.aC, rS x7.1.ah.aE, rS x7.1.ah.ac, rS x7.1.ah.aD, rI x7.1.aF, rI x7.1.aJ, rI x7.1.aN, rI x7.1.au, rI x7.1.av, .ref 832 0, rI x23.1.fX, rI x23.1.fY, rI x23.1.fZ, rI x24.1, rI x25.1, rI x26.1, rI x27.1.fX, rI x27.1.fY, rI x27.1.fZ, rI x28.1.fX, rI x28.1.fY, rI x28.1.fZ, rI x29.1, rI x30.1, r0])<|sN<|gS rfl rfl<|sM rfl<|sM rfl<|bE h fun x31 hx31 h => cR (rI x31.1) [(208, .var [.d (.lst (x31.2.bg.map PD.str)), rB x31.2.cX])] (ba hx31)<|sV (.ptr 80 14)<|sV (.ptr 80 29)<|sS 80 (.var [rI x2.1, rI x3.1, rI x4.1, rI x5.1, rI x6.1, rS x7.1.ah.aC, rS x7.1.ah.aE, rS x7.1.ah.ac, rS x7.1.ah.aD, rI x7.1.aF, rI x7.1.aJ, rI x7.1.aN, rI x7.1.au, rI x7.1.av, .ref 832 0, rI x23.1.fX, rI x23.1.fY, rI x23.1.fZ, rI x24.1, rI x25.1, rI x26.1, rI x27.1.fX, rI x27.1.fY, rI x27.1.fZ, rI x28.1.fX, rI x28.1.fY, rI x28.1.fZ, rI x29.1, rI x30.1, rI x31.1])<|sN<|qS<|gS rfl rfl<|sM rfl<|sV (.ptr 208 0) ?_
 refine sV (.ptr 208 1)<|sF h (fun h => ?_) fun h => ?_
 ·refine sM rfl<|k3<|k3<|sT<|sN<|cT<|gS rfl rfl<|sG (.agg zZ0)<|sH 32 (.var zZ0)<|sV (rI 3)<|sN ?_
  refine qR ?_
  cases oI h
  exact qG
 refine sM rfl<|sM rfl<|sV (.ptr 208 0)<|sV (.ptr 208 0)<|sL rfl<|sE (rI (x31.2.bg.length : Int)) (lenMap _ _)<|sV (rB (decide ((x31.2.bg.length : Int) > (0 : Int))))<|sF h (fun h => ?_) fun h => ?_
 ·refine sN<|cT<|gS rfl rfl<|sG (.agg zZ0)<|sH 32 (.var zZ0)<|sV (rI 3)<|sN<|qR ?_
  cases oI h
  exact qG
 refine sN<|cF<|qK<|qS<|gS rfl rfl<|sV (.agg [rI x2.1, rI x3.1, rI x4.1, rI x5.1, rI x6.1, rS x7.1.ah.aC, rS x7.1.ah.aE, rS x7.1.ah.ac, rS x7.1.ah.aD, rI x7.1.aF, rI x7.1.aJ, rI x7.1.aN, rI x7.1.au, rI x7.1.av, .ref 832 0, rI x23.1.fX, rI x23.1.fY, rI x23.1.fZ, rI x24.1, rI x25.1, rI x26.1, rI x27.1.fX, rI x27.1.fY, rI x27.1.fZ, rI x28.1.fX, rI x28.1.fY, rI x28.1.fZ, rI x29.1, rI x30.1, rI x31.1])<|bE h fun x34 hx34 h => cR (.tup [rS x34.1, rI x34.2.1]) [(832, .arr 0 25 (x34.2.2.map ag.pd))] (feed_Encodeq_ev hx34)<|sM rfl<|sV (rS x34.1)<|sV (rI x34.2.1)<|sA rfl<|sA rfl<|sN<|gS rfl rfl ?_
 refine sM rfl<|sF h (fun h => ?_) fun h => ?_
 ·refine sM rfl<|k3<|sT<|sN<|cT<|gS rfl rfl<|sG (.agg zZ0)<|sH 32 (.var zZ0)<|sV (rI 3)<|sN<|qR ?_
  cases oI h
  exact qG
 refine sM rfl<|sM rfl<|sM rfl<|sV (rB (!(x34.1 == a0)))<|sF h (fun h => ?_) fun h => ?_
 ·refine sN<|cT<|gS rfl rfl<|sG (.agg zZ0)<|sH 32 (.var zZ0)<|sV (rI 3)<|sN<|qR ?_
  cases oI h
  exact qG
 refine sN<|cF<|qK<|gS rfl rfl<|sV (.agg [rI x2.1, rI x3.1, rI x4.1, rI x5.1, rI x6.1, rS x7.1.ah.aC, rS x7.1.ah.aE, rS x7.1.ah.ac, rS x7.1.ah.aD, rI x7.1.aF, rI x7.1.aJ, rI x7.1.aN, rI x7.1.au, rI x7.1.av, .ref 832 0, rI x23.1.fX, rI x23.1.fY, rI x23.1.fZ, rI x24.1, rI x25.1, rI x26.1, rI x27.1.fX, rI x27.1.fY, rI x27.1.fZ, rI x28.1.fX, rI x28.1.fY, rI x28.1.fZ, rI x29.1, rI x30.1, rI x31.1])<|sH 32 (.var [rI x2.1, rI x3.1, rI x4.1, rI x5.1, rI x6.1, rS x7.1.ah.aC, rS x7.1.ah.aE, rS x7.1.ah.ac, rS x7.1.ah.aD, rI x7.1.aF, rI x7.1.aJ, rI x7.1.aN, rI x7.1.au, rI x7.1.av, .ref 832 0, rI x23.1.fX, rI x23.1.fY, rI x23.1.fZ, rI x24.1, rI x25.1, rI x26.1, rI x27.1.fX, rI x27.1.fY, rI x27.1.fZ, rI x28.1.fX, rI x28.1.fY, rI x28.1.fZ, rI x29.1, rI x30.1, rI x31.1])<|sV (r0)<|sN<|qR ?_
 cases oI h
 exact qG
theorem fo {a0 : (List ag)} {a1 : (List ag)} {r : Bool} (h : cB a0 a1 = some r) : EvP prog aM ext 119 [.d (.lst (a0.map ag.pd)), .d (.lst (a1.map ag.pd))] [] (rB r, []) := by
 refine Ev.body rfl Tryz.func119 rfl (by kernel_rfl)<|gS rfl rfl<|sU<|sN<|qS<|gS rfl rfl<|sM rfl<|sE (rI (a0.length : Int)) (lenMap _ _)<|sM rfl<|sE (rI (a1.length : Int)) (lenMap _ _)<|sF h (fun h => ?_) fun h => ?_
 ·refine sN<|cT<|gS rfl rfl<|sU<|sN<|qR ?_
  cases oI h
  exact qD
 refine sN<|cF<|qK<|qS<|gS rfl rfl<|sV (r0)<|sN<|bE h fun o9 ho9 h => WC.block (WC.loop (WL.ofLoop ho9 (fun s R' B' => ghosts prog 0 (A R' B') (aM.at_ 119 0 4) = some (A [(0, .d (.lst (a0.map ag.pd))), (1, .d (.lst (a1.map ag.pd))), (5, rI s)] [])) (fun o e R' B' => match o with | .inl y => e = .exit 0 ∧ ghosts prog 0 (A R' B') (aM.at_ 119 0 8) = some (A [] []) | .inr r => e = .ret ∧ finish prog (aM.own 119) Tryz.f119 0 (A R' B') = some (rB r, [])) rfl ?_ ?_))
 ·rintro s2 R' B' q3 hI h
  refine qS<|gS rfl hI<|sM rfl<|sM rfl<|sE (rI (a0.length : Int)) (lenMap _ _)<|sF h (fun h => ?_) fun h => ?_
  ·refine sN<|cT<|qK<|qS<|qB<|WC.regionDSeq rfl rfl<|sM rfl<|sM rfl<|bE h fun x5 hx5 h => eG hx5 rfl<|sV (.d (ag.pd x5))<|sM rfl<|sM rfl<|bE h fun x6 hx6 h => eG hx6 rfl ?_
   refine sV (.d (ag.pd x6))<|ite_elim h (fun hb7 h => ?_) (fun hb7 h => ?_)
   ·refine WO.binS (eqN_25 x5 x6) hb7 rfl rfl rfl rfl rfl ?_
    refine sN<|sO<|cT<|gS rfl rfl<|sU<|sN<|qR ?_
    cases oI h
    exact ⟨nofun, rfl, rfl⟩
   refine WO.binS (eqN_25 x5 x6) hb7 rfl rfl rfl rfl rfl ?_
   refine sN<|sO<|cF<|qK<|WC.region rfl rfl<|sM rfl<|sV (rI (rW (s2 + (1 : Int))))<|sA rfl<|sN ?_
   cases oI h
   exact ⟨rfl, rfl⟩
  refine sN<|cF<|qX ?_
  cases oI h
  exact ⟨nofun, rfl, rfl⟩
 intro e R' B' he hq
 rcases o9 with y10 | r11
 ·obtain ⟨rfl, hI⟩ := hq
  refine qE<|gS rfl hI<|sT<|sN<|qR ?_
  cases oI h
  exact qD
 obtain ⟨rfl, hf⟩ := hq
 cases oI h
 exact hf
theorem ref33_Same_ev {a0 : aw} {a1 : aw} {r : Bool} (h : iu a0 a1 = some r) : EvP prog aM ext 90 [.d (aw.pd a0), .d (aw.pd a1)] [] (rB r, []) := by
 refine Ev.body rfl Tryz.func90 rfl (by kernel_rfl)<|gS rfl rfl<|sB (.ptr 32 0) 32 (.var (aw.rc a0))<|sB (.ptr 48 0) 48 (.var (aw.rc a1))<|sU<|sN<|gS rfl rfl<|sV (.ptr 32 0)<|sL rfl<|sV (.ptr 48 0)<|sL rfl<|bE h fun x1 hx1 h => ite_elim h (fun hb2 h => ?_) (fun hb2 h => ?_)
 ·refine WO.callR (v := rB true) (u := []) rfl rfl (fun _ => rfl) rfl rfl rfl rfl rfl (fo hx1) rfl rfl (congrArg (fun b => RV.d (.bool b)) hb2) rfl<|sM rfl<|sV (.ptr 32 1)<|sV (.d (aB.pd a0.ac))<|sV (.ptr 48 1)<|sV (.d (aB.pd a1.ac))<|WO.bin (eqE_32 a0.ac a1.ac) rfl rfl rfl rfl rfl<|sF h (fun h => ?_) fun h => ?_
  ·refine sM rfl<|sV (.ptr 32 13)<|sV (.d (aG.pd a0.aq))<|sV (.ptr 48 13)<|sV (.d (aG.pd a1.aq))<|WO.bin (eqE_34 a0.aq a1.aq) rfl rfl rfl rfl rfl<|sF h (fun h => ?_) fun h => ?_
   ·refine sM rfl<|sV (.ptr 32 15)<|sL rfl<|sV (.ptr 48 15)<|sL rfl<|sV (rB (a0.aU == a1.aU))<|sV (rB (a0.aU == a1.aU))<|sA rfl<|sN<|qR ?_
    cases oI h
    exact qG
   refine sM rfl<|k3<|sK<|sK<|sU<|sA rfl<|sN<|qR ?_
   cases oI h
   exact qG
  refine sM rfl<|k3<|sK<|sK<|sU<|sM rfl<|k3<|sK<|sK<|sU<|sA rfl ?_
  refine sN<|qR ?_
  cases oI h
  exact qG
 refine WO.callR (v := rB false) (u := []) rfl rfl (fun _ => rfl) rfl rfl rfl rfl rfl (fo hx1) rfl rfl (congrArg (fun b => RV.d (.bool b)) hb2) rfl<|sM rfl<|k3<|sK<|sK<|sU<|sM rfl<|k3<|sK<|sK<|sU ?_
 refine sM rfl<|k3<|sK<|sK<|sU<|sA rfl<|sN<|qR ?_
 cases oI h
 exact qG
theorem kY {a0 : ar} {a1 : ar} {r : Bool} (h : eo a0 a1 = some r) : EvP prog aM ext 55 [.d (ar.pd a0), .d (ar.pd a1)] [] (rB r, []) := by
 refine Ev.body rfl Tryz.func55 rfl (by kernel_rfl)<|gS rfl rfl<|sB (.ptr 32 0) 32 (.var (ar.rc a0))<|sB (.ptr 48 0) 48 (.var (ar.rc a1))<|sU<|sN<|gS rfl rfl<|sV (.ptr 32 0)<|sV (.d (ag.pd a0.ak))<|sV (.ptr 48 0)<|sV (.d (ag.pd a1.ak))<|ite_elim h (fun hb1 h => ?_) (fun hb1 h => ?_)
 ·refine WO.binS (iS a0.ak a1.ak) hb1 rfl rfl rfl rfl rfl<|sM rfl<|sV (.ptr 32 9)<|sV (.d (aw.pd a0.aa))<|sV (.ptr 48 9)<|sV (.d (aw.pd a1.aa))<|bE h fun x2 hx2 h => cD (ref33_Same_ev hx2)<|sV (rB x2)<|sA rfl<|sN<|qR ?_
  cases oI h
  exact qG
 refine WO.binS (iS a0.ak a1.ak) hb1 rfl rfl rfl rfl rfl<|sM rfl<|k3<|sK<|sK<|sU<|sA rfl<|sN<|qR ?_
 cases oI h
 exact qG
theorem gi {a0 : ai} {a1 : ai} {r : Bool} (h : ch a0 a1 = some r) : EvP prog aM ext 21 [.d (ai.pd a0), .d (ai.pd a1)] [] (rB r, []) := by
 refine Ev.body rfl Tryz.func21 rfl (by kernel_rfl)<|gS rfl rfl<|sB (.ptr 32 0) 32 (.var (ai.rc a0))<|sB (.ptr 48 0) 48 (.var (ai.rc a1))<|sU<|sN<|gS rfl rfl<|sV (.ptr 32 0)<|sL rfl<|sV (.ptr 48 0)<|sL rfl<|sF h (fun h => ?_) fun h => ?_
 ·refine sM rfl<|sV (.ptr 32 1)<|sL rfl<|sV (.ptr 48 1)<|sL rfl<|sV (rB (a0.bh == a1.bh))<|sF h (fun h => ?_) fun h => ?_
  ·refine sM rfl<|sV (.ptr 32 2)<|sL rfl<|sV (.ptr 48 2)<|sL rfl<|sV (rB (a0.fID == a1.fID))<|sF h (fun h => ?_) fun h => ?_
   ·refine sM rfl<|sV (.ptr 32 3)<|sL rfl<|sV (.ptr 48 3)<|sL rfl<|sV (rB (a0.fAt == a1.fAt))<|sF h (fun h => ?_) fun h => ?_
    ·refine sM rfl<|sV (.ptr 32 4)<|sL rfl<|sV (.ptr 48 4)<|sL rfl<|sV (rB (a0.aW == a1.aW))<|sF h (fun h => ?_) fun h => ?_
     ·refine sM rfl<|sV (.ptr 32 5)<|sV (.d (ar.pd a0.ae))<|sV (.ptr 48 5)<|sV (.d (ar.pd a1.ae))<|bE h fun x6 hx6 h => cD (kY hx6)<|sV (rB x6)<|sA rfl<|sN<|qR ?_
      cases oI h
      exact qG
     refine sM rfl<|k3<|sK<|sK<|sU<|sA rfl<|sN<|qR ?_
     cases oI h
     exact qG
    refine sM rfl<|k3<|sK<|sK<|sU<|sM rfl<|k3<|sK<|sK<|sU<|sA rfl ?_
    refine sN<|qR ?_
    cases oI h
    exact qG
   refine sM rfl<|k3<|sK<|sK<|sU<|sM rfl<|k3<|sK<|sK<|sU<|sM rfl ?_
   refine k3<|sK<|sK<|sU<|sA rfl<|sN<|qR ?_
   cases oI h
   exact qG
  refine sM rfl<|k3<|sK<|sK<|sU<|sM rfl<|k3<|sK<|sK<|sU<|sM rfl ?_
  refine k3<|sK<|sK<|sU<|sM rfl<|k3<|sK<|sK<|sU<|sA rfl<|sN ?_
  refine qR ?_
  cases oI h
  exact qG
 refine sM rfl<|k3<|sK<|sK<|sU<|sM rfl<|k3<|sK<|sK<|sU<|sM rfl ?_
 refine k3<|sK<|sK<|sU<|sM rfl<|k3<|sK<|sK<|sU<|sM rfl<|sK ?_
 refine k3<|sK<|sU<|sA rfl<|sN<|qR ?_
 cases oI h
 exact qG
theorem feed_Prefix_ev {a0 : (List bn)} {r : (List ai)} (h : iD a0 = some r) : EvP prog aM ext 22 [.d (.lst (a0.map bn.pd))] [] (.d (.lst (r.map ai.pd)), []) := by
 refine Ev.body rfl Tryz.func22 rfl (by kernel_rfl)<|gS rfl rfl<|sV .nils<|sN<|gS rfl rfl<|sB (.ptr 224 0) 224 (.map 3 40 (([] : List (Int × ai)).map fun e => ((PD.int .i64) e.1, ai.pd e.2)))<|sA rfl<|sN<|qS<|gS rfl rfl<|sM rfl<|sE (rI (a0.length : Int)) (lenMap _ _)<|sV (r0)<|sN<|bE h fun o12 ho12 h => ?_
 refine WC.block (WC.loop (WL.ofLoop ho12 (fun s R' B' => ghosts prog 0 (A R' B') (aM.at_ 22 0 3) = some (A [(3, .ptr 224 0), (15, .d (.lst (a0.map bn.pd))), (16, rI (a0.length : Int)), (17, rI s.1)] [(224, .map 3 40 (s.2.map fun e => ((PD.int .i64) e.1, ai.pd e.2)))])) (fun o e R' B' => e = .exit 0 ∧ ghosts prog 0 (A R' B') (aM.at_ 22 0 11) = some (A [(3, .ptr 224 0)] [(224, .map 3 40 (o.map fun e => ((PD.int .i64) e.1, ai.pd e.2)))])) rfl ?_ ?_))
 ·rintro ⟨s1, s2⟩ R' B' q4 hI h
  refine gS rfl hI<|sF h (fun h => ?_) fun h => ?_
  ·refine sN<|qS<|cT<|qK<|qS<|qB<|gS rfl rfl<|bE h fun x6 hx6 h => eG hx6 rfl<|sV (.d (bn.pd x6))<|sB (.ptr 80 0) 80 (.var [r0, r0, rS []])<|sS 80 (.var [rI x6.dV, rI x6.fAt, rS x6.fData])<|sN<|qS<|gS rfl rfl ?_
   refine sM rfl<|sV (.ptr 80 0)<|sL rfl<|WO.lookOk (gv := ai.pd) (z := zZ3) (KeyT.int rfl) rfl rfl rfl rfl rfl rfl rfl rfl<|sM rfl<|sV (.d (ai.pd (mGet (fun a b => a == b) x6.dV zZ3 s2)))<|sV (rB (mHas (fun a b => a == b) x6.dV s2))<|sB (.ptr 96 0) 96 (.var zZ0)<|sH 96 (.var [rI ((mGet (fun a b => a == b) x6.dV zZ3 s2).aQ), rI ((mGet (fun a b => a == b) x6.dV zZ3 s2).bh), rI ((mGet (fun a b => a == b) x6.dV zZ3 s2).fID), rI ((mGet (fun a b => a == b) x6.dV zZ3 s2).fAt), rI ((mGet (fun a b => a == b) x6.dV zZ3 s2).aW), rS (((((mGet (fun a b => a == b) x6.dV zZ3 s2).ae).ak).ah).aC), rS (((((mGet (fun a b => a == b) x6.dV zZ3 s2).ae).ak).ah).aE), rS (((((mGet (fun a b => a == b) x6.dV zZ3 s2).ae).ak).ah).ac), rS (((((mGet (fun a b => a == b) x6.dV zZ3 s2).ae).ak).ah).aD), rI ((((mGet (fun a b => a == b) x6.dV zZ3 s2).ae).ak).aF), rI ((((mGet (fun a b => a == b) x6.dV zZ3 s2).ae).ak).aJ), rI ((((mGet (fun a b => a == b) x6.dV zZ3 s2).ae).ak).aN), rI ((((mGet (fun a b => a == b) x6.dV zZ3 s2).ae).ak).au), rI ((((mGet (fun a b => a == b) x6.dV zZ3 s2).ae).ak).av), .d (.lst (((((mGet (fun a b => a == b) x6.dV zZ3 s2).ae).aa).aK).map ag.pd)), rI ((((((mGet (fun a b => a == b) x6.dV zZ3 s2).ae).aa).ac).aA).fX), rI ((((((mGet (fun a b => a == b) x6.dV zZ3 s2).ae).aa).ac).aA).fY), rI ((((((mGet (fun a b => a == b) x6.dV zZ3 s2).ae).aa).ac).aA).fZ), rI (((((mGet (fun a b => a == b) x6.dV zZ3 s2).ae).aa).ac).aF), rI (((((mGet (fun a b => a == b) x6.dV zZ3 s2).ae).aa).ac).aO), rI (((((mGet (fun a b => a == b) x6.dV zZ3 s2).ae).aa).ac).aV), rI (((((((mGet (fun a b => a == b) x6.dV zZ3 s2).ae).aa).ac).ap).aI).fX), rI (((((((mGet (fun a b => a == b) x6.dV zZ3 s2).ae).aa).ac).ap).aI).fY), rI (((((((mGet (fun a b => a == b) x6.dV zZ3 s2).ae).aa).ac).ap).aI).fZ), rI (((((((mGet (fun a b => a == b) x6.dV zZ3 s2).ae).aa).ac).ap).az).fX), rI (((((((mGet (fun a b => a == b) x6.dV zZ3 s2).ae).aa).ac).ap).az).fY), rI (((((((mGet (fun a b => a == b) x6.dV zZ3 s2).ae).aa).ac).ap).az).fZ), rI (((((mGet (fun a b => a == b) x6.dV zZ3 s2).ae).aa).aq).aI), rI (((((mGet (fun a b => a == b) x6.dV zZ3 s2).ae).aa).aq).az), rI ((((mGet (fun a b => a == b) x6.dV zZ3 s2).ae).aa).aU)])<|sA rfl<|sN<|gS rfl rfl<|sF h (fun h => ?_) fun h => ?_
   ·refine sN<|cT<|qX<|qE<|WC.region rfl rfl<|sV (rI (rW (s1 + (1 : Int))))<|sM rfl<|sN ?_
    cases oI h
    exact ⟨rfl, rfl⟩
   refine sN<|cF<|qK<|gS rfl rfl<|sV (.ptr 80 2)<|sL rfl<|bE h fun x8 hx8 h => cR (.tup [.d (ai.pd x8.1), rI x8.2]) [] (fG hx8)<|sM rfl<|sV (.d (ai.pd x8.1))<|sV (rI x8.2)<|sB (.ptr 128 0) 128 (.var zZ0)<|sH 128 (.var (ai.rc x8.1))<|sA rfl<|sN ?_
   refine gS rfl rfl<|sM rfl<|sF h (fun h => ?_) fun h => ?_
   ·refine sM rfl<|sV (.ptr 128 0)<|sL rfl<|sV (.ptr 80 0)<|sL rfl<|sV (rB (x8.1.aQ == x6.dV))<|sF h (fun h => ?_) fun h => ?_
    ·refine sN<|cT<|WC.region rfl rfl<|sM rfl<|sV (.ptr 80 0)<|sL rfl<|sV (.d (.agg [.int .i64 x8.1.aQ, .int .i64 x8.1.bh, .int .i64 x8.1.fID, .int .i64 x8.1.fAt, .int .i64 x8.1.aW, .str x8.1.ae.ak.ah.aC, .str x8.1.ae.ak.ah.aE, .str x8.1.ae.ak.ah.ac, .str x8.1.ae.ak.ah.aD, .int .i64 x8.1.ae.ak.aF, .int .i64 x8.1.ae.ak.aJ, .int .i64 x8.1.ae.ak.aN, .int .i64 x8.1.ae.ak.au, .int .i64 x8.1.ae.ak.av, .lst (x8.1.ae.aa.aK.map ag.pd), .int .i64 x8.1.ae.aa.ac.aA.fX, .int .i64 x8.1.ae.aa.ac.aA.fY, .int .i64 x8.1.ae.aa.ac.aA.fZ, .int .i64 x8.1.ae.aa.ac.aF, .int .i64 x8.1.ae.aa.ac.aO, .int .i64 x8.1.ae.aa.ac.aV, .int .i64 x8.1.ae.aa.ac.ap.aI.fX, .int .i64 x8.1.ae.aa.ac.ap.aI.fY, .int .i64 x8.1.ae.aa.ac.ap.aI.fZ, .int .i64 x8.1.ae.aa.ac.ap.az.fX, .int .i64 x8.1.ae.aa.ac.ap.az.fY, .int .i64 x8.1.ae.aa.ac.ap.az.fZ, .int .i64 x8.1.ae.aa.aq.aI, .int .i64 x8.1.ae.aa.aq.az, .int .i64 x8.1.ae.aa.aU]))<|WO.mput (gv := ai.pd) (y := x8.1) (KeyT.int rfl) rfl rfl rfl rfl rfl rfl rfl rfl rfl rfl<|sN<|WC.region rfl rfl<|sV (rI (rW (s1 + (1 : Int))))<|sM rfl<|sN ?_
     cases oI h
     exact ⟨rfl, rfl⟩
    refine sN<|cF<|qK<|WC.region rfl rfl<|sV (rI (rW (s1 + (1 : Int))))<|sM rfl<|sN ?_
    cases oI h
    exact ⟨rfl, rfl⟩
   refine sM rfl<|k3<|sK<|sK<|sU<|sN<|cF<|qK<|WC.region rfl rfl<|sV (rI (rW (s1 + (1 : Int))))<|sM rfl<|sN ?_
   cases oI h
   exact ⟨rfl, rfl⟩
  refine sN<|qS<|cF<|qX ?_
  cases oI h
  exact ⟨nofun, rfl, rfl⟩
 intro e R' B' he hq
 obtain ⟨rfl, hI⟩ := hq
 refine qE<|gS rfl hI<|sV .nils<|sN<|gS rfl rfl<|sV (r0)<|sN<|bE h fun o19 ho19 h => WC.block (WC.loop (WL.ofLoop ho19 (fun s R' B' => ghosts prog 0 (A R' B') (aM.at_ 22 0 14) = some (A [(3, .ptr 224 0), (10, .ref 1008 0), (11, rI s.1)] [(224, .map 3 40 (o12.map fun e => ((PD.int .i64) e.1, ai.pd e.2))), (1008, .arr 0 40 (s.2.map ai.pd))])) (fun o e R' B' => e = .ret ∧ finish prog (aM.own 22) Tryz.f22 0 (A R' B') = some (.d (.lst (o.map ai.pd)), [])) rfl ?_ ?_))
 ·rintro ⟨s13, s14⟩ R' B' q15 hI h
  refine qS<|qB<|gS rfl hI<|sM rfl<|sM rfl<|WO.lookOk (gv := ai.pd) (z := zZ3) (KeyT.int rfl) rfl rfl rfl rfl rfl rfl rfl rfl<|sM rfl<|sV (.d (ai.pd (mGet (fun a b => a == b) s13 zZ3 o12)))<|sV (rB (mHas (fun a b => a == b) s13 o12))<|sB (.ptr 192 0) 192 (.var zZ0)<|sH 192 (.var [rI ((mGet (fun a b => a == b) s13 zZ3 o12).aQ), rI ((mGet (fun a b => a == b) s13 zZ3 o12).bh), rI ((mGet (fun a b => a == b) s13 zZ3 o12).fID), rI ((mGet (fun a b => a == b) s13 zZ3 o12).fAt), rI ((mGet (fun a b => a == b) s13 zZ3 o12).aW), rS (((((mGet (fun a b => a == b) s13 zZ3 o12).ae).ak).ah).aC), rS (((((mGet (fun a b => a == b) s13 zZ3 o12).ae).ak).ah).aE), rS (((((mGet (fun a b => a == b) s13 zZ3 o12).ae).ak).ah).ac), rS (((((mGet (fun a b => a == b) s13 zZ3 o12).ae).ak).ah).aD), rI ((((mGet (fun a b => a == b) s13 zZ3 o12).ae).ak).aF), rI ((((mGet (fun a b => a == b) s13 zZ3 o12).ae).ak).aJ), rI ((((mGet (fun a b => a == b) s13 zZ3 o12).ae).ak).aN), rI ((((mGet (fun a b => a == b) s13 zZ3 o12).ae).ak).au), rI ((((mGet (fun a b => a == b) s13 zZ3 o12).ae).ak).av), .d (.lst (((((mGet (fun a b => a == b) s13 zZ3 o12).ae).aa).aK).map ag.pd)), rI ((((((mGet (fun a b => a == b) s13 zZ3 o12).ae).aa).ac).aA).fX), rI ((((((mGet (fun a b => a == b) s13 zZ3 o12).ae).aa).ac).aA).fY), rI ((((((mGet (fun a b => a == b) s13 zZ3 o12).ae).aa).ac).aA).fZ), rI (((((mGet (fun a b => a == b) s13 zZ3 o12).ae).aa).ac).aF), rI (((((mGet (fun a b => a == b) s13 zZ3 o12).ae).aa).ac).aO), rI (((((mGet (fun a b => a == b) s13 zZ3 o12).ae).aa).ac).aV), rI (((((((mGet (fun a b => a == b) s13 zZ3 o12).ae).aa).ac).ap).aI).fX), rI (((((((mGet (fun a b => a == b) s13 zZ3 o12).ae).aa).ac).ap).aI).fY), rI (((((((mGet (fun a b => a == b) s13 zZ3 o12).ae).aa).ac).ap).aI).fZ), rI (((((((mGet (fun a b => a == b) s13 zZ3 o12).ae).aa).ac).ap).az).fX), rI (((((((mGet (fun a b => a == b) s13 zZ3 o12).ae).aa).ac).ap).az).fY), rI (((((((mGet (fun a b => a == b) s13 zZ3 o12).ae).aa).ac).ap).az).fZ), rI (((((mGet (fun a b => a == b) s13 zZ3 o12).ae).aa).aq).aI), rI (((((mGet (fun a b => a == b) s13 zZ3 o12).ae).aa).aq).az), rI ((((mGet (fun a b => a == b) s13 zZ3 o12).ae).aa).aU)])<|sA rfl<|sN<|qS<|gS rfl rfl ?_
  refine sM rfl<|sF h (fun h => ?_) fun h => ?_
  ·refine sN<|cT<|gS rfl rfl<|sM rfl<|sA rfl<|sN<|qR ?_
   cases oI h
   exact ⟨nofun, rfl, rfl⟩
  refine sN<|cF<|qK<|WC.region rfl rfl<|sM rfl<|sV (.d (ai.pd (ai.mk ((mGet (fun a b => a == b) s13 zZ3 o12).aQ) ((mGet (fun a b => a == b) s13 zZ3 o12).bh) ((mGet (fun a b => a == b) s13 zZ3 o12).fID) ((mGet (fun a b => a == b) s13 zZ3 o12).fAt) ((mGet (fun a b => a == b) s13 zZ3 o12).aW) (ar.mk (ag.mk ((((mGet (fun a b => a == b) s13 zZ3 o12).ae).ak).ah) ((((mGet (fun a b => a == b) s13 zZ3 o12).ae).ak).aF) ((((mGet (fun a b => a == b) s13 zZ3 o12).ae).ak).aJ) ((((mGet (fun a b => a == b) s13 zZ3 o12).ae).ak).aN) ((((mGet (fun a b => a == b) s13 zZ3 o12).ae).ak).au) ((((mGet (fun a b => a == b) s13 zZ3 o12).ae).ak).av)) (aw.mk ((((mGet (fun a b => a == b) s13 zZ3 o12).ae).aa).aK) (aB.mk (((((mGet (fun a b => a == b) s13 zZ3 o12).ae).aa).ac).aA) (((((mGet (fun a b => a == b) s13 zZ3 o12).ae).aa).ac).aF) (((((mGet (fun a b => a == b) s13 zZ3 o12).ae).aa).ac).aO) (((((mGet (fun a b => a == b) s13 zZ3 o12).ae).aa).ac).aV) (aP.mk ((((((mGet (fun a b => a == b) s13 zZ3 o12).ae).aa).ac).ap).aI) ((((((mGet (fun a b => a == b) s13 zZ3 o12).ae).aa).ac).ap).az))) ((((mGet (fun a b => a == b) s13 zZ3 o12).ae).aa).aq) ((((mGet (fun a b => a == b) s13 zZ3 o12).ae).aa).aU))))))<|sG (.d (.lst ([(ai.mk ((mGet (fun a b => a == b) s13 zZ3 o12).aQ) ((mGet (fun a b => a == b) s13 zZ3 o12).bh) ((mGet (fun a b => a == b) s13 zZ3 o12).fID) ((mGet (fun a b => a == b) s13 zZ3 o12).fAt) ((mGet (fun a b => a == b) s13 zZ3 o12).aW) (ar.mk (ag.mk ((((mGet (fun a b => a == b) s13 zZ3 o12).ae).ak).ah) ((((mGet (fun a b => a == b) s13 zZ3 o12).ae).ak).aF) ((((mGet (fun a b => a == b) s13 zZ3 o12).ae).ak).aJ) ((((mGet (fun a b => a == b) s13 zZ3 o12).ae).ak).aN) ((((mGet (fun a b => a == b) s13 zZ3 o12).ae).ak).au) ((((mGet (fun a b => a == b) s13 zZ3 o12).ae).ak).av)) (aw.mk ((((mGet (fun a b => a == b) s13 zZ3 o12).ae).aa).aK) (aB.mk (((((mGet (fun a b => a == b) s13 zZ3 o12).ae).aa).ac).aA) (((((mGet (fun a b => a == b) s13 zZ3 o12).ae).aa).ac).aF) (((((mGet (fun a b => a == b) s13 zZ3 o12).ae).aa).ac).aO) (((((mGet (fun a b => a == b) s13 zZ3 o12).ae).aa).ac).aV) (aP.mk ((((((mGet (fun a b => a == b) s13 zZ3 o12).ae).aa).ac).ap).aI) ((((((mGet (fun a b => a == b) s13 zZ3 o12).ae).aa).ac).ap).az))) ((((mGet (fun a b => a == b) s13 zZ3 o12).ae).aa).aq) ((((mGet (fun a b => a == b) s13 zZ3 o12).ae).aa).aU))))].map ai.pd)))<|bE h fun x17 hx17 h => aR hx17 (fun _ => rfl) rfl<|sA rfl<|sN<|WC.region rfl rfl<|sM rfl<|sV (rI (rW (s13 + (1 : Int))))<|sA rfl ?_
  refine sN ?_
  cases oI h
  exact ⟨rfl, rfl⟩
 intro e R' B' he hq
 obtain ⟨rfl, hf⟩ := hq
 cases oI h
 exact hf
theorem feed_History_ev {a0 : (List ai)} {r : Bool} (h : hJ a0 = some r) : EvP prog aM ext 24 [.d (.lst (a0.map ai.pd))] [] (rB r, []) := by
 refine Ev.body rfl Tryz.func24 rfl (by kernel_rfl)<|gS rfl rfl<|sU<|sN<|gS rfl rfl<|sB (.ptr 96 0) 96 (.map 3 4 (([] : List (Int × Bool)).map fun e => ((PD.int .i64) e.1, PD.bool e.2)))<|sA rfl<|sN<|qS<|gS rfl rfl<|sM rfl<|sE (rI (a0.length : Int)) (lenMap _ _)<|sV (r0)<|sN<|bE h fun o16 ho16 h => ?_
 refine WC.block (WC.loop (WL.ofLoop ho16 (fun s R' B' => ghosts prog 0 (A R' B') (aM.at_ 24 0 3) = some (A [(0, .d (.lst (a0.map ai.pd))), (3, .ptr 96 0), (7, .d (.lst (a0.map ai.pd))), (8, rI (a0.length : Int)), (9, rI s.1)] [(96, .map 3 4 (s.2.map fun e => ((PD.int .i64) e.1, PD.bool e.2)))])) (fun o e R' B' => match o with | .inl y => e = .exit 0 ∧ ghosts prog 0 (A R' B') (aM.at_ 24 0 11) = some (A [] []) | .inr r => e = .ret ∧ finish prog (aM.own 24) Tryz.f24 0 (A R' B') = some (rB r, [])) rfl ?_ ?_))
 ·rintro ⟨s1, s2⟩ R' B' q3 hI h
  refine gS rfl hI<|sF h (fun h => ?_) fun h => ?_
  ·refine sN<|qS<|cT<|qK<|qS<|qB<|gS rfl rfl<|sM rfl<|bE h fun x5 hx5 h => eG hx5 rfl<|sV (.d (ai.pd x5))<|sB (.ptr 80 0) 80 (.var zZ0)<|sA rfl<|sH 80 (.var (ai.rc x5))<|sN ?_
   refine WC.join (α := Unit) (fun x R' B' => ghosts prog 0 (A R' B') (aM.at_ 24 0 7) = some (A [(0, .d (.lst (a0.map ai.pd))), (3, .ptr 96 0), (5, .ptr 80 0), (7, .d (.lst (a0.map ai.pd))), (8, rI (a0.length : Int)), (9, rI s1)] [(80, .var (ai.rc x5)), (96, .map 3 4 (s2.map fun e => ((PD.int .i64) e.1, PD.bool e.2)))])) (fun x => ek x5 s2 s1 = some q3) ?_ ?_
   ·refine WC.regionDSeq rfl rfl<|sV (.d (ai.pd x5))<|bE h fun x9 hx9 h => cD (iU hx9)<|sF h (fun h => ?_) fun h => ?_
    ·refine sM rfl<|k3<|sK<|sT<|sM rfl<|k3<|k3<|sK<|sK ?_
     refine k3<|sK<|sK<|sT ?_
     refine sN<|sO<|cT<|gS rfl rfl<|sU<|sN<|qR ?_
     cases oI h
     exact ⟨nofun, rfl, rfl⟩
    refine sM rfl<|sV (.ptr 80 0)<|sL rfl<|sM rfl<|sV (rB (x5.aQ != s1))<|sF h (fun h => ?_) fun h => ?_
    ·refine sM rfl<|k3<|k3<|k3<|k3<|sK<|sT ?_
     refine sN<|sO<|cT<|gS rfl rfl<|sU<|sN<|qR ?_
     cases oI h
     exact ⟨nofun, rfl, rfl⟩
    refine sM rfl<|sM rfl<|sF h (fun h => ?_) fun h => ?_
    ·refine sM rfl<|sV (.ptr 80 3)<|sL rfl<|sM rfl<|sM rfl<|sV (rI (rW (s1 - (1 : Int))))<|bE h fun x13 hx13 h => eG hx13 rfl<|sV (.cptr [.int .i64 x13.fAt, .int .i64 x13.aW, .str x13.ae.ak.ah.aC, .str x13.ae.ak.ah.aE, .str x13.ae.ak.ah.ac, .str x13.ae.ak.ah.aD, .int .i64 x13.ae.ak.aF, .int .i64 x13.ae.ak.aJ, .int .i64 x13.ae.ak.aN, .int .i64 x13.ae.ak.au, .int .i64 x13.ae.ak.av, .lst (x13.ae.aa.aK.map ag.pd), .int .i64 x13.ae.aa.ac.aA.fX, .int .i64 x13.ae.aa.ac.aA.fY, .int .i64 x13.ae.aa.ac.aA.fZ, .int .i64 x13.ae.aa.ac.aF, .int .i64 x13.ae.aa.ac.aO, .int .i64 x13.ae.aa.ac.aV, .int .i64 x13.ae.aa.ac.ap.aI.fX, .int .i64 x13.ae.aa.ac.ap.aI.fY, .int .i64 x13.ae.aa.ac.ap.aI.fZ, .int .i64 x13.ae.aa.ac.ap.az.fX, .int .i64 x13.ae.aa.ac.ap.az.fY, .int .i64 x13.ae.aa.ac.ap.az.fZ, .int .i64 x13.ae.aa.aq.aI, .int .i64 x13.ae.aa.aq.az, .int .i64 x13.ae.aa.aU])<|sC rfl<|sV (rB (decide (x5.fAt < x13.fAt)))<|sV (rB (decide (x5.fAt < x13.fAt)))<|sF h (fun h => ?_) fun h => ?_
     ·refine sN<|sO<|cT<|gS rfl rfl<|sU<|sN<|qR ?_
      cases oI h
      exact ⟨nofun, rfl, rfl⟩
     exact sN<|sO<|cF<|qK<|⟨(), rfl, h⟩
    refine sM rfl<|k3<|k3<|k3<|sU<|sU ?_
    exact sN<|sO<|cF<|qK<|⟨(), rfl, h⟩
   rintro ⟨⟩ R' B' hI h
   refine qS<|gS rfl hI<|sV (.ptr 80 1)<|sL rfl<|sF h (fun h => ?_) fun h => ?_
   ·refine sM rfl<|sM rfl<|sV (.ptr 80 2)<|sL rfl<|WO.look (gv := PD.bool) (z := false) (KeyT.int rfl) rfl rfl rfl rfl rfl rfl rfl rfl<|sV (rB (!(mGet (fun a b => a == b) x5.fID false s2)))<|sF h (fun h => ?_) fun h => ?_
    ·refine sN<|cT<|gS rfl rfl<|sU<|sN<|qR ?_
     cases oI h
     exact ⟨nofun, rfl, rfl⟩
    refine sN<|cF<|qK<|WC.region rfl rfl<|sM rfl<|sV (.ptr 80 2)<|sL rfl<|sV (.ptr 80 1)<|sL rfl<|sV (rB (x5.bh != (3 : Int)))<|WO.mput (gv := PD.bool) (y := (x5.bh != (3 : Int))) (KeyT.int rfl) rfl rfl rfl rfl rfl rfl rfl rfl rfl rfl<|sN<|WC.region rfl rfl<|sV (rI (rW (s1 + (1 : Int))))<|sM rfl ?_
    refine sN ?_
    cases oI h
    exact ⟨rfl, rfl⟩
   refine sM rfl<|k3<|sK<|sK<|sU<|sN<|cF<|qK<|WC.region rfl rfl<|sM rfl<|sV (.ptr 80 2)<|sL rfl<|sV (.ptr 80 1) ?_
   refine sL rfl<|sV (rB (x5.bh != (3 : Int)))<|WO.mput (gv := PD.bool) (y := (x5.bh != (3 : Int))) (KeyT.int rfl) rfl rfl rfl rfl rfl rfl rfl rfl rfl rfl<|sN<|WC.region rfl rfl<|sV (rI (rW (s1 + (1 : Int))))<|sM rfl<|sN ?_
   cases oI h
   exact ⟨rfl, rfl⟩
  refine sN<|qS<|cF<|qX ?_
  cases oI h
  exact ⟨nofun, rfl, rfl⟩
 intro e R' B' he hq
 rcases o16 with y17 | r18
 ·obtain ⟨rfl, hI⟩ := hq
  refine qE<|gS rfl hI<|sT<|sN<|qR ?_
  cases oI h
  exact qD
 obtain ⟨rfl, hf⟩ := hq
 cases oI h
 exact hf
theorem iq  {r : Bool} (h : ea = some r) : EvP prog aM ext 8 [] [] (rB r, []) := by
 refine Ev.body rfl Tryz.func8 rfl (by kernel_rfl)<|gS rfl rfl<|sU<|sN<|gS rfl rfl<|bE h fun x1 hx1 h => cD (eR hx1)<|bE h fun x2 hx2 h => cR (.tup [rS x2.1, rI x2.2]) [] (ik hx2)<|sM rfl<|sV (rS x2.1)<|sV (rI x2.2)<|sA rfl<|sA rfl<|sN ?_
 refine gS rfl rfl<|bE h fun x3 hx3 h => cD (eR hx3)<|bE h fun x4 hx4 h => cR (.tup [rS x4.1, rI x4.2]) [] (ik hx4)<|sM rfl<|sV (rS x4.1)<|sV (rI x4.2)<|sA rfl<|sA rfl<|sN<|gS rfl rfl<|sM rfl<|bE h fun x5 hx5 h => cR (.tup [.d (ai.pd x5.1), rI x5.2]) [] (fG hx5) ?_
 refine sM rfl<|sV (.d (ai.pd x5.1))<|sV (rI x5.2)<|sB (.ptr 80 0) 80 (.var zZ0)<|sH 80 (.var (ai.rc x5.1))<|sA rfl<|sN<|gS rfl rfl<|sM rfl<|bE h fun x6 hx6 h => WO.catG hx6 rfl rfl rfl rfl rfl<|bE h fun x7 hx7 h => cR (.tup [.d (ai.pd x7.1), rI x7.2]) [] (fG hx7)<|sM rfl<|sV (.d (ai.pd x7.1)) ?_
 refine sV (rI x7.2)<|sB (.ptr 112 0) 112 (.var zZ0)<|sH 112 (.var (ai.rc x7.1))<|sA rfl<|sN<|WC.regionDSeq rfl rfl<|sM rfl<|sF h (fun h => ?_) fun h => ?_
 ·refine sM rfl<|sM rfl<|sV (rB (x4.2 == (0 : Int)))<|sF h (fun h => ?_) fun h => ?_
  ·refine sM rfl<|sM rfl<|sV (rB (x5.2 == (0 : Int)))<|sF h (fun h => ?_) fun h => ?_
   ·refine sM rfl<|sV (.d (.agg [.int .i64 x5.1.aQ, .int .i64 x5.1.bh, .int .i64 x5.1.fID, .int .i64 x5.1.fAt, .int .i64 x5.1.aW, .str x5.1.ae.ak.ah.aC, .str x5.1.ae.ak.ah.aE, .str x5.1.ae.ak.ah.ac, .str x5.1.ae.ak.ah.aD, .int .i64 x5.1.ae.ak.aF, .int .i64 x5.1.ae.ak.aJ, .int .i64 x5.1.ae.ak.aN, .int .i64 x5.1.ae.ak.au, .int .i64 x5.1.ae.ak.av, .lst (x5.1.ae.aa.aK.map ag.pd), .int .i64 x5.1.ae.aa.ac.aA.fX, .int .i64 x5.1.ae.aa.ac.aA.fY, .int .i64 x5.1.ae.aa.ac.aA.fZ, .int .i64 x5.1.ae.aa.ac.aF, .int .i64 x5.1.ae.aa.ac.aO, .int .i64 x5.1.ae.aa.ac.aV, .int .i64 x5.1.ae.aa.ac.ap.aI.fX, .int .i64 x5.1.ae.aa.ac.ap.aI.fY, .int .i64 x5.1.ae.aa.ac.ap.aI.fZ, .int .i64 x5.1.ae.aa.ac.ap.az.fX, .int .i64 x5.1.ae.aa.ac.ap.az.fY, .int .i64 x5.1.ae.aa.ac.ap.az.fZ, .int .i64 x5.1.ae.aa.aq.aI, .int .i64 x5.1.ae.aa.aq.az, .int .i64 x5.1.ae.aa.aU]))<|bE h fun x11 hx11 h => cD (eR hx11)<|bE h fun x12 hx12 h => cD (gi hx12)<|sF h (fun h => ?_) fun h => ?_
    ·refine sM rfl<|sM rfl<|sV (rB (x7.2 == (3 : Int)))<|sF h (fun h => ?_) fun h => ?_
     ·refine sM rfl<|sM rfl<|sV (.d (bn.pd (bn.mk 2 0 x4.1)))<|sM rfl<|sV (.d (bn.pd (bn.mk 0 0 x2.1)))<|sV (.d (.lst ([(bn.mk 2 0 x4.1), (bn.mk 0 0 x2.1)].map bn.pd)))<|bE h fun x15 hx15 h => cD (feed_Prefix_ev hx15)<|sE (rI (x15.length : Int)) (lenMap _ _)<|sV (rB ((x15.length : Int) == (1 : Int)))<|sF h (fun h => ?_) fun h => ?_
      ·refine sM rfl<|bE h fun x17 hx17 h => cD (eR hx17)<|bE h fun x18 hx18 h => cD (eR hx18)<|sG (.d (.lst ([x17, x18].map ai.pd)))<|bE h fun x19 hx19 h => cD (feed_History_ev hx19)<|sV (rB x19)<|sA rfl ?_
       refine sN<|sO<|qR ?_
       cases oI h
       exact qG
      refine sM rfl<|k3<|sK<|sU<|sA rfl ?_
      refine sN<|sO<|qR ?_
      cases oI h
      exact qG
     refine sM rfl<|k3<|k3<|sK<|sK<|sU<|sM rfl<|k3<|sK ?_
     refine sU<|sA rfl ?_
     refine sN<|sO<|qR ?_
     cases oI h
     exact qG
    refine sM rfl<|sK<|sK<|sU<|sM rfl<|k3<|k3<|sK<|sK<|sU<|sM rfl ?_
    refine k3<|sK<|sU<|sA rfl ?_
    refine sN<|sO<|qR ?_
    cases oI h
    exact qG
   refine sM rfl<|k3<|sU<|sM rfl<|sK<|sK<|sU<|sM rfl<|k3<|sK<|sK ?_
   refine k3<|sU<|sM rfl<|k3<|sK<|sU<|sA rfl ?_
   refine sN<|sO<|qR ?_
   cases oI h
   exact qG
  refine sM rfl<|sK<|sK<|sU<|sM rfl<|k3<|sU<|sM rfl<|sK<|sK<|sU<|sM rfl<|sK ?_
  refine k3<|k3<|sK<|sU<|sM rfl<|k3<|sK<|sU<|sA rfl ?_
  refine sN<|sO<|qR ?_
  cases oI h
  exact qG
 refine sM rfl<|sK<|sK<|sU<|sM rfl<|sK<|sK<|sU<|sM rfl<|k3<|sU<|sM rfl<|sK ?_
 refine sK<|sU<|sM rfl<|k3<|k3<|sK<|sK<|sU<|sM rfl<|sK<|sK ?_
 refine sK<|sK<|sU<|sA rfl ?_
 refine sN<|sO<|qR ?_
 cases oI h
 exact qG
theorem keep_New_ev {a0 : (List Int)} {r : aH} (h : lc a0 = some r) : EvP prog aM ext 9 [.d (.lst (a0.map (PD.int .i64)))] [] (.ptr 0 0, [.var [.d (.lst (r.fL.map (PD.int .i64))), rI r.fAt]]) := by
 refine Ev.body rfl Tryz.func9 rfl (by kernel_rfl)<|gS rfl rfl<|sV (.d (.raw (.pointer none)))<|sN<|gS rfl rfl<|sM rfl<|sM rfl<|sE (rI (a0.length : Int)) (lenMap _ _)<|sV (rI (if (2000 : Int) < (a0.length : Int) then (2000 : Int) else (a0.length : Int)))<|bE h fun x1 hx1 h => WO.cutL (sz := 1) (g := (PD.int .i64)) hx1 (fun _ => rfl) rfl rfl rfl rfl rfl rfl rfl rfl rfl rfl rfl<|sV (.d (aH.pd (aH.mk x1 0)))<|sB (.ptr 144 0) 144 (.var [.d (.lst (x1.map (PD.int .i64))), r0])<|sA rfl<|sN ?_
 refine qR ?_
 cases oI h
 exact qD
theorem Src_Raw_ev {d0 : aH} {r : Int × aH} (h : Src_Raw d0 = some r) : EvP prog aM ext 31 [.ptr 0 0] [.var [.d (.lst (d0.fL.map (PD.int .i64))), rI d0.fAt]] (rI r.1, [.var [.d (.lst (r.2.fL.map (PD.int .i64))), rI r.2.fAt]]) := by
 refine Ev.body rfl Tryz.func31 rfl (by kernel_rfl)<|gS rfl rfl<|sV (r0)<|sN<|qS<|WC.regionDSeq rfl rfl<|sM rfl<|sV (.ptr 0 0)<|sV (.ptr 0 1)<|sL rfl<|sM rfl<|sV (.ptr 0 0)<|sV (.ptr 0 0)<|sL rfl<|sE (rI (d0.fL.length : Int)) (lenMap _ _) ?_
 refine sF h (fun h => ?_) fun h => ?_
 ·refine sN<|sO<|cT<|gS rfl rfl<|sV (r0)<|sN<|qR ?_
  cases oI h
  exact qD
 refine sN<|sO<|cF<|qK<|gS rfl rfl<|sM rfl<|sV (.ptr 0 0)<|sV (.ptr 0 1)<|sL rfl<|sV (rI (rW (d0.fAt + (1 : Int))))<|sV (.ptr 0 0)<|sV (.ptr 0 1)<|sS 0 (.var [.d (.lst (d0.fL.map (PD.int .i64))), rI (rW (d0.fAt + (1 : Int)))])<|sN<|WC.regionDSeq rfl rfl<|sM rfl ?_
 refine sV (.ptr 0 0)<|sV (.ptr 0 0)<|sL rfl<|sM rfl<|sV (.ptr 0 0)<|sV (.ptr 0 1)<|sL rfl<|sV (rI (rW ((rW (d0.fAt + (1 : Int))) - (1 : Int))))<|bE h fun x2 hx2 h => eG hx2 rfl<|sC rfl<|sA rfl ?_
 refine sN<|sO<|qR ?_
 cases oI h
 exact qD
theorem b9 {a1 : Int} {d0 : aH} {r : Int × aH} (h : dT a1 d0 = some r) : EvP prog aM ext 11 [.ptr 0 0, rI a1] [.var [.d (.lst (d0.fL.map (PD.int .i64))), rI d0.fAt]] (rI r.1, [.var [.d (.lst (r.2.fL.map (PD.int .i64))), rI r.2.fAt]]) := by
 refine Ev.body rfl Tryz.func11 rfl (by kernel_rfl)<|gS rfl rfl<|sV (r0)<|sN<|gS rfl rfl<|sM rfl<|bE h fun x1 hx1 h => cR (rI x1.1) [(0, .var [.d (.lst (x1.2.fL.map (PD.int .i64))), rI x1.2.fAt])] (Src_Raw_ev hx1)<|sM rfl<|bE h fun x2 hx2 h => cD (jX hx2)<|sA rfl<|sN<|qR ?_
 cases oI h
 exact qD
theorem dg {a1 : (List Int)} {d0 : aH} {r : Int × aH} (h : dF a1 d0 = some r) : EvP prog aM ext 28 [.ptr 0 0, .d (.lst (a1.map (PD.int .i64)))] [.var [.d (.lst (d0.fL.map (PD.int .i64))), rI d0.fAt]] (rI r.1, [.var [.d (.lst (r.2.fL.map (PD.int .i64))), rI r.2.fAt]]) := by
 refine Ev.body rfl Tryz.func28 rfl (by kernel_rfl)<|gS rfl rfl<|sV (r0)<|sN<|gS rfl rfl<|sM rfl<|sM rfl<|sM rfl<|sE (rI (a1.length : Int)) (lenMap _ _)<|bE h fun x1 hx1 h => cR (rI x1.1) [(0, .var [.d (.lst (x1.2.fL.map (PD.int .i64))), rI x1.2.fAt])] (b9 hx1)<|bE h fun x2 hx2 h => eG hx2 rfl<|sC rfl<|sA rfl ?_
 refine sN<|qR ?_
 cases oI h
 exact qD
theorem Src_Policy_ev {d0 : aH} {r : aX × aH} (h : jo d0 = some r) : EvP prog aM ext 32 [.ptr 0 0] [.var [.d (.lst (d0.fL.map (PD.int .i64))), rI d0.fAt]] (.d (aX.pd r.1), [.var [.d (.lst (r.2.fL.map (PD.int .i64))), rI r.2.fAt]]) := by
 refine Ev.body rfl Tryz.func32 rfl (by kernel_rfl)<|gS rfl rfl<|sB (.ptr 32 0) 32 (.var [.nils, r0, r0])<|sN<|gS rfl rfl<|sM rfl<|sV (.d (.lst ([0, 2, 10, 1000].map (PD.int .i64))))<|bE h fun x1 hx1 h => cR (rI x1.1) [(0, .var [.d (.lst (x1.2.fL.map (PD.int .i64))), rI x1.2.fAt])] (dg hx1)<|sM rfl<|sV (.d (.lst ([0, 0, 50, 500].map (PD.int .i64))))<|bE h fun x2 hx2 h => cR (rI x2.1) [(0, .var [.d (.lst (x2.2.fL.map (PD.int .i64))), rI x2.2.fAt])] (dg hx2)<|sV (.agg [.nils, rI x1.1, rI x2.1])<|sB (.ptr 48 0) 48 (.var [.nils, r0, r0]) ?_
 refine sS 48 (.var [.nils, rI x1.1, rI x2.1])<|sN<|qS<|gS rfl rfl<|sM rfl<|bE h fun x3 hx3 h => cR (rI x3.1) [(0, .var [.d (.lst (x3.2.fL.map (PD.int .i64))), rI x3.2.fAt])] (b9 hx3)<|sV (rI (rW ((1 : Int) + x3.1)))<|sA rfl<|sN<|bE h fun o19 ho19 h => WC.block (WC.loop (WL.ofLoop ho19 (fun s R' B' => ghosts prog 1 (A R' B') (aM.at_ 32 1 3) = some (A [(0, .ptr 0 0), (2, .ptr 32 0), (3, .ptr 48 0), (4, rI s.1)] [(0, .var [.d (.lst (s.2.1.map (PD.int .i64))), rI s.2.2.1]), (32, .var [.nils, r0, r0]), (48, .var [.ref 560 0, rI x1.1, rI x2.1]), (560, .arr 0 119 (s.2.2.2.map bj.pd))])) (fun o e R' B' => e = .exit 0 ∧ ghosts prog 1 (A R' B') (aM.at_ 32 1 6) = some (A [(2, .ptr 32 0), (3, .ptr 48 0)] [(0, .var [.d (.lst (o.1.map (PD.int .i64))), rI o.2.1]), (32, .var [.nils, r0, r0]), (48, .var [.ref 560 0, rI x1.1, rI x2.1]), (560, .arr 0 119 (o.2.2.map bj.pd))])) rfl ?_ ?_))
 ·rintro ⟨s4, s5, s6, s7⟩ R' B' q11 hI h
  refine qS<|gS rfl hI<|sM rfl<|sF h (fun h => ?_) fun h => ?_
  ·refine sN<|cT<|qK<|qS<|qB<|WC.regionD rfl rfl<|sV (.ptr 48 0)<|sL rfl<|sM rfl<|bE h fun x13 hx13 h => cR (rI x13.1) [(0, .var [.d (.lst (x13.2.fL.map (PD.int .i64))), rI x13.2.fAt])] (b9 hx13)<|sV (rI (rW (x13.1 - (100 : Int))))<|sM rfl<|bE h fun x14 hx14 h => cR (rI x14.1) [(0, .var [.d (.lst (x14.2.fL.map (PD.int .i64))), rI x14.2.fAt])] (b9 hx14) ?_
   refine sV (rI (rW ((1 : Int) + x14.1)))<|sM rfl<|sV (.d (.lst ([0, 10, 100, 10000].map (PD.int .i64))))<|bE h fun x15 hx15 h => cR (rI x15.1) [(0, .var [.d (.lst (x15.2.fL.map (PD.int .i64))), rI x15.2.fAt])] (dg hx15)<|sM rfl<|sV (.d (.lst ([0, 500, 2000, 100000].map (PD.int .i64))))<|bE h fun x16 hx16 h => cR (rI x16.1) [(0, .var [.d (.lst (x16.2.fL.map (PD.int .i64))), rI x16.2.fAt])] (dg hx16)<|sV (.d (bj.pd (bj.mk (rW (x13.1 - (100 : Int))) (rW ((1 : Int) + x14.1)) x15.1 x16.1)))<|sV (.d (.lst ([(bj.mk (rW (x13.1 - (100 : Int))) (rW ((1 : Int) + x14.1)) x15.1 x16.1)].map bj.pd)))<|bE h fun x17 hx17 h => aR hx17 (fun _ => rfl) rfl<|sV (.ptr 48 0)<|sS 48 (.var [.ref 560 1, rI x1.1, rI x2.1]) ?_
   refine sN<|sO<|WC.region rfl rfl<|sM rfl<|sV (rI (rW (s4 - (1 : Int))))<|sA rfl<|sN ?_
   cases oI h
   exact ⟨rfl, rfl⟩
  refine sN<|cF<|qX ?_
  cases oI h
  exact ⟨nofun, rfl, rfl⟩
 intro e R' B' he hq
 obtain ⟨rfl, hI⟩ := hq
 refine qE<|gS rfl hI<|sV (.agg [.ref 560 0, rI x1.1, rI x2.1])<|sS 32 (.var [.ref 560 0, rI x1.1, rI x2.1])<|sN<|qR ?_
 cases oI h
 exact qD
theorem Src_Place_ev {a1 : Int} {d0 : aH} {r : aj × aH} (h : kx a1 d0 = some r) : EvP prog aM ext 103 [.ptr 0 0, rI a1] [.var [.d (.lst (d0.fL.map (PD.int .i64))), rI d0.fAt]] (.d (aj.pd r.1), [.var [.d (.lst (r.2.fL.map (PD.int .i64))), rI r.2.fAt]]) := by
 refine Ev.body rfl Tryz.func103 rfl (by kernel_rfl)<|gS rfl rfl<|sB (.ptr 64 0) 64 (.var [r0, r0, r0])<|sN<|gS rfl rfl<|sM rfl<|sM rfl<|sV (rI (rW ((2 : Int) * a1)))<|sV (rI (rW ((rW ((2 : Int) * a1)) + (1 : Int))))<|bE h fun x1 hx1 h => cR (rI x1.1) [(0, .var [.d (.lst (x1.2.fL.map (PD.int .i64))), rI x1.2.fAt])] (b9 hx1)<|sM rfl<|sV (rI (rW (x1.1 - a1)))<|sM rfl<|sM rfl ?_
 refine sV (rI (rW ((2 : Int) * a1)))<|sV (rI (rW ((rW ((2 : Int) * a1)) + (1 : Int))))<|bE h fun x2 hx2 h => cR (rI x2.1) [(0, .var [.d (.lst (x2.2.fL.map (PD.int .i64))), rI x2.2.fAt])] (b9 hx2)<|sM rfl<|sV (rI (rW (x2.1 - a1)))<|sM rfl<|sM rfl<|sV (rI (rW (a1 + (1 : Int))))<|bE h fun x3 hx3 h => cR (rI x3.1) [(0, .var [.d (.lst (x3.2.fL.map (PD.int .i64))), rI x3.2.fAt])] (b9 hx3)<|sV (.d (aj.pd (aj.mk (rW (x1.1 - a1)) (rW (x2.1 - a1)) x3.1)))<|sS 64 (.var [rI (rW (x1.1 - a1)), rI (rW (x2.1 - a1)), rI x3.1])<|sN<|qR ?_
 cases oI h
 exact qD
theorem Src_Event_ev {a1 : Int} {d0 : aH} {r : ar × aH} (h : kw a1 d0 = some r) : EvP prog aM ext 66 [.ptr 0 0, rI a1] [.var [.d (.lst (d0.fL.map (PD.int .i64))), rI d0.fAt]] (.agg [rS r.1.ak.ah.aC, rS r.1.ak.ah.aE, rS r.1.ak.ah.ac, rS r.1.ak.ah.aD, rI r.1.ak.aF, rI r.1.ak.aJ, rI r.1.ak.aN, rI r.1.ak.au, rI r.1.ak.av, .ref 1 0, rI r.1.aa.ac.aA.fX, rI r.1.aa.ac.aA.fY, rI r.1.aa.ac.aA.fZ, rI r.1.aa.ac.aF, rI r.1.aa.ac.aO, rI r.1.aa.ac.aV, rI r.1.aa.ac.ap.aI.fX, rI r.1.aa.ac.ap.aI.fY, rI r.1.aa.ac.ap.aI.fZ, rI r.1.aa.ac.ap.az.fX, rI r.1.aa.ac.ap.az.fY, rI r.1.aa.ac.ap.az.fZ, rI r.1.aa.aq.aI, rI r.1.aa.aq.az, rI r.1.aa.aU], [.var [.d (.lst (r.2.fL.map (PD.int .i64))), rI r.2.fAt], .arr 0 25 (r.1.aa.aK.map ag.pd)]) := by
 refine Ev.body rfl Tryz.func66 rfl (by kernel_rfl)<|gS rfl rfl<|sB (.ptr 64 0) 64 (.var zZ1)<|sN<|gS rfl rfl<|sB (.ptr 80 0) 80 (.var zZ1)<|sN<|gS rfl rfl<|sM rfl<|bE h fun x1 hx1 h => cR (rI x1.1) [(0, .var [.d (.lst (x1.2.fL.map (PD.int .i64))), rI x1.2.fAt])] (b9 hx1)<|sV (rI (rW ((1000 : Int) + x1.1)))<|sA rfl<|sN<|qS ?_
 refine gS rfl rfl<|sV (r0)<|sN<|bE h fun o16 ho16 h => WC.block (WC.loop (WL.ofLoop ho16 (fun s R' B' => ghosts prog 1 (A R' B') (aM.at_ 66 1 4) = some (A [(0, .ptr 0 0), (1, rI a1), (4, .ptr 64 0), (5, .ptr 80 0), (6, rI (rW ((1000 : Int) + x1.1))), (7, rI s.1)] [(0, .var [.d (.lst (s.2.1.map (PD.int .i64))), rI s.2.2.1]), (64, .var zZ1), (80, .var [rS [], rS [], rS [], rS [], r0, r0, r0, r0, r0, .ref 656 0, r0, r0, r0, r0, r0, r0, r0, r0, r0, r0, r0, r0, r0, r0, r0]), (656, .arr 0 25 (s.2.2.2.map ag.pd))])) (fun o e R' B' => e = .exit 0 ∧ ghosts prog 1 (A R' B') (aM.at_ 66 1 7) = some (A [(0, .ptr 0 0), (4, .ptr 64 0), (5, .ptr 80 0), (6, rI (rW ((1000 : Int) + x1.1)))] [(0, .var [.d (.lst (o.1.map (PD.int .i64))), rI o.2.1]), (64, .var zZ1), (80, .var [rS [], rS [], rS [], rS [], r0, r0, r0, r0, r0, .ref 656 0, r0, r0, r0, r0, r0, r0, r0, r0, r0, r0, r0, r0, r0, r0, r0]), (656, .arr 0 25 (o.2.2.map ag.pd))])) rfl ?_ ?_))
 ·rintro ⟨s2, s3, s4, s5⟩ R' B' q9 hI h
  refine qS<|gS rfl hI<|sM rfl<|sM rfl<|bE h fun x10 hx10 h => cR (rI x10.1) [(0, .var [.d (.lst (x10.2.fL.map (PD.int .i64))), rI x10.2.fAt])] (b9 hx10)<|sV (rI (rW ((1 : Int) + x10.1)))<|sF h (fun h => ?_) fun h => ?_
  ·refine sN<|cT<|qK<|qS<|qB<|WC.regionD rfl rfl<|sV (.ptr 80 9)<|sV (.ptr 80 9)<|sL rfl<|sM rfl<|bE h fun x12 hx12 h => cD (jY hx12)<|sM rfl<|sM rfl<|sV (rI (rW ((10 : Int) * a1))) ?_
   refine sV (rI (rW ((rW ((1000 : Int) + x1.1)) + (rW ((10 : Int) * a1)))))<|sM rfl<|sM rfl<|sV (rI (rW ((10 : Int) * a1)))<|sV (rI (rW ((rW ((1000 : Int) + x1.1)) + (rW ((10 : Int) * a1)))))<|sM rfl<|sM rfl<|sV (rI (rW ((10 : Int) * a1)))<|sV (rI (rW ((rW ((1000 : Int) + x1.1)) + (rW ((10 : Int) * a1)))))<|sM rfl<|bE h fun x13 hx13 h => cR (rI x13.1) [(0, .var [.d (.lst (x13.2.fL.map (PD.int .i64))), rI x13.2.fAt])] (b9 hx13)<|sV (rI (rW ((rW ((rW ((1000 : Int) + x1.1)) + (rW ((10 : Int) * a1)))) + x13.1)))<|sM rfl<|sG (.d (ag.pd (ag.mk x12 (rW ((rW ((1000 : Int) + x1.1)) + (rW ((10 : Int) * a1)))) (rW ((rW ((1000 : Int) + x1.1)) + (rW ((10 : Int) * a1)))) (rW ((rW ((rW ((1000 : Int) + x1.1)) + (rW ((10 : Int) * a1)))) + x13.1)) a1 0))) ?_
   refine sG (.d (.lst ([(ag.mk x12 (rW ((rW ((1000 : Int) + x1.1)) + (rW ((10 : Int) * a1)))) (rW ((rW ((1000 : Int) + x1.1)) + (rW ((10 : Int) * a1)))) (rW ((rW ((rW ((1000 : Int) + x1.1)) + (rW ((10 : Int) * a1)))) + x13.1)) a1 0)].map ag.pd)))<|bE h fun x14 hx14 h => aR hx14 (fun _ => rfl) rfl<|sV (.ptr 80 9)<|sV (.ptr 80 9)<|sS 80 (.var [rS [], rS [], rS [], rS [], r0, r0, r0, r0, r0, .ref 656 1, r0, r0, r0, r0, r0, r0, r0, r0, r0, r0, r0, r0, r0, r0, r0]) ?_
   refine sN<|sO<|WC.region rfl rfl<|sM rfl<|sV (rI (rW (s2 + (1 : Int))))<|sA rfl<|sN ?_
   cases oI h
   exact ⟨rfl, rfl⟩
  refine sN<|cF<|qX ?_
  cases oI h
  exact ⟨nofun, rfl, rfl⟩
 intro e R' B' he hq
 obtain ⟨rfl, hI⟩ := hq
 refine qE<|gS rfl hI<|sV (.ptr 80 9)<|sV (.ptr 80 9)<|sL rfl<|bE h fun x18 hx18 h => WO.eltG hx18 rfl rfl rfl rfl rfl rfl rfl rfl<|bE h fun x19 hx19 h => WO.loadE hx19 rfl rfl rfl rfl rfl rfl<|sV (.ptr 80 0)<|sH 80 (.var [rS x19.ah.aC, rS x19.ah.aE, rS x19.ah.ac, rS x19.ah.aD, rI x19.aF, rI x19.aJ, rI x19.aN, rI x19.au, rI x19.av, .ref 656 0, r0, r0, r0, r0, r0, r0, r0, r0, r0, r0, r0, r0, r0, r0, r0])<|sN<|gS rfl rfl<|sM rfl<|bE h fun x20 hx20 h => ?_
 refine cR (.d (aj.pd x20.1)) [(0, .var [.d (.lst (x20.2.fL.map (PD.int .i64))), rI x20.2.fAt])] (Src_Place_ev hx20)<|sM rfl<|sM rfl<|bE h fun x21 hx21 h => cR (rI x21.1) [(0, .var [.d (.lst (x21.2.fL.map (PD.int .i64))), rI x21.2.fAt])] (b9 hx21)<|sV (rI (rW ((rW ((1000 : Int) + x1.1)) - x21.1)))<|sM rfl<|sV (.d (.lst ([0, 0, 5, 500].map (PD.int .i64))))<|bE h fun x22 hx22 h => cR (rI x22.1) [(0, .var [.d (.lst (x22.2.fL.map (PD.int .i64))), rI x22.2.fAt])] (dg hx22)<|sG (.d (aB.pd (aB.mk x20.1 (rW ((rW ((1000 : Int) + x1.1)) - x21.1)) x22.1 0 (aP.mk (aj.mk 0 0 0) (aj.mk 0 0 0)))))<|sV (.ptr 80 9)<|sV (.ptr 80 10)<|sH 80 (.var [rS x19.ah.aC, rS x19.ah.aE, rS x19.ah.ac, rS x19.ah.aD, rI x19.aF, rI x19.aJ, rI x19.aN, rI x19.au, rI x19.av, .ref 656 0, rI x20.1.fX, rI x20.1.fY, rI x20.1.fZ, rI (rW ((rW ((1000 : Int) + x1.1)) - x21.1)), rI x22.1, r0, r0, r0, r0, r0, r0, r0, r0, r0, r0])<|sN ?_
 refine gS rfl rfl<|sV (.ptr 80 9)<|sV (.ptr 80 10)<|sV (.ptr 80 10)<|sV (.d (aj.pd x20.1))<|sV (.ptr 80 9)<|sV (.ptr 80 10)<|sV (.ptr 80 10)<|sV (.d (aj.pd x20.1))<|sG (.d (aP.pd (aP.mk x20.1 x20.1)))<|sV (.ptr 80 9)<|sV (.ptr 80 10)<|sV (.ptr 80 16)<|sH 80 (.var [rS x19.ah.aC, rS x19.ah.aE, rS x19.ah.ac, rS x19.ah.aD, rI x19.aF, rI x19.aJ, rI x19.aN, rI x19.au, rI x19.av, .ref 656 0, rI x20.1.fX, rI x20.1.fY, rI x20.1.fZ, rI (rW ((rW ((1000 : Int) + x1.1)) - x21.1)), rI x22.1, r0, rI x20.1.fX, rI x20.1.fY, rI x20.1.fZ, rI x20.1.fX, rI x20.1.fY, rI x20.1.fZ, r0, r0, r0])<|sN ?_
 refine gS rfl rfl<|sM rfl<|bE h fun x23 hx23 h => cR (rI x23.1) [(0, .var [.d (.lst (x23.2.fL.map (PD.int .i64))), rI x23.2.fAt])] (b9 hx23)<|sV (.ptr 80 9)<|sV (.ptr 80 24)<|sS 80 (.var [rS x19.ah.aC, rS x19.ah.aE, rS x19.ah.ac, rS x19.ah.aD, rI x19.aF, rI x19.aJ, rI x19.aN, rI x19.au, rI x19.av, .ref 656 0, rI x20.1.fX, rI x20.1.fY, rI x20.1.fZ, rI (rW ((rW ((1000 : Int) + x1.1)) - x21.1)), rI x22.1, r0, rI x20.1.fX, rI x20.1.fY, rI x20.1.fZ, rI x20.1.fX, rI x20.1.fY, rI x20.1.fZ, r0, r0, rI x23.1])<|sN<|qS<|gS rfl rfl<|sV (.ptr 80 9)<|sV (.ptr 80 24)<|sL rfl<|sF h (fun h => ?_) fun h => ?_
 ·refine sN<|cT<|gS rfl rfl<|sM rfl<|bE h fun x25 hx25 h => cR (rI x25.1) [(0, .var [.d (.lst (x25.2.fL.map (PD.int .i64))), rI x25.2.fAt])] (b9 hx25)<|sV (.ptr 80 9)<|sV (.ptr 80 22)<|sV (.ptr 80 22)<|sS 80 (.var [rS x19.ah.aC, rS x19.ah.aE, rS x19.ah.ac, rS x19.ah.aD, rI x19.aF, rI x19.aJ, rI x19.aN, rI x19.au, rI x19.av, .ref 656 0, rI x20.1.fX, rI x20.1.fY, rI x20.1.fZ, rI (rW ((rW ((1000 : Int) + x1.1)) - x21.1)), rI x22.1, r0, rI x20.1.fX, rI x20.1.fY, rI x20.1.fZ, rI x20.1.fX, rI x20.1.fY, rI x20.1.fZ, rI x25.1, r0, rI x23.1])<|sN<|WC.regionD rfl rfl<|sV (.ptr 80 9)<|sV (.ptr 80 22)<|sV (.ptr 80 22) ?_
  refine sL rfl<|sM rfl<|bE h fun x26 hx26 h => cR (rI x26.1) [(0, .var [.d (.lst (x26.2.fL.map (PD.int .i64))), rI x26.2.fAt])] (b9 hx26)<|sV (rI (rW (x25.1 + x26.1)))<|sV (.ptr 80 9)<|sV (.ptr 80 22)<|sV (.ptr 80 23)<|sS 80 (.var [rS x19.ah.aC, rS x19.ah.aE, rS x19.ah.ac, rS x19.ah.aD, rI x19.aF, rI x19.aJ, rI x19.aN, rI x19.au, rI x19.av, .ref 656 0, rI x20.1.fX, rI x20.1.fY, rI x20.1.fZ, rI (rW ((rW ((1000 : Int) + x1.1)) - x21.1)), rI x22.1, r0, rI x20.1.fX, rI x20.1.fY, rI x20.1.fZ, rI x20.1.fX, rI x20.1.fY, rI x20.1.fZ, rI x25.1, rI (rW (x25.1 + x26.1)), rI x23.1]) ?_
  refine sN<|sO<|gS rfl rfl<|sV (.agg [rS x19.ah.aC, rS x19.ah.aE, rS x19.ah.ac, rS x19.ah.aD, rI x19.aF, rI x19.aJ, rI x19.aN, rI x19.au, rI x19.av, .ref 656 0, rI x20.1.fX, rI x20.1.fY, rI x20.1.fZ, rI (rW ((rW ((1000 : Int) + x1.1)) - x21.1)), rI x22.1, r0, rI x20.1.fX, rI x20.1.fY, rI x20.1.fZ, rI x20.1.fX, rI x20.1.fY, rI x20.1.fZ, rI x25.1, rI (rW (x25.1 + x26.1)), rI x23.1])<|sH 64 (.var [rS x19.ah.aC, rS x19.ah.aE, rS x19.ah.ac, rS x19.ah.aD, rI x19.aF, rI x19.aJ, rI x19.aN, rI x19.au, rI x19.av, .ref 656 0, rI x20.1.fX, rI x20.1.fY, rI x20.1.fZ, rI (rW ((rW ((1000 : Int) + x1.1)) - x21.1)), rI x22.1, r0, rI x20.1.fX, rI x20.1.fY, rI x20.1.fZ, rI x20.1.fX, rI x20.1.fY, rI x20.1.fZ, rI x25.1, rI (rW (x25.1 + x26.1)), rI x23.1])<|sN<|qR ?_
  cases oI h
  exact qG
 refine sN<|cF<|qK<|gS rfl rfl<|sV (.agg [rS x19.ah.aC, rS x19.ah.aE, rS x19.ah.ac, rS x19.ah.aD, rI x19.aF, rI x19.aJ, rI x19.aN, rI x19.au, rI x19.av, .ref 656 0, rI x20.1.fX, rI x20.1.fY, rI x20.1.fZ, rI (rW ((rW ((1000 : Int) + x1.1)) - x21.1)), rI x22.1, r0, rI x20.1.fX, rI x20.1.fY, rI x20.1.fZ, rI x20.1.fX, rI x20.1.fY, rI x20.1.fZ, r0, r0, rI x23.1])<|sH 64 (.var [rS x19.ah.aC, rS x19.ah.aE, rS x19.ah.ac, rS x19.ah.aD, rI x19.aF, rI x19.aJ, rI x19.aN, rI x19.au, rI x19.av, .ref 656 0, rI x20.1.fX, rI x20.1.fY, rI x20.1.fZ, rI (rW ((rW ((1000 : Int) + x1.1)) - x21.1)), rI x22.1, r0, rI x20.1.fX, rI x20.1.fY, rI x20.1.fZ, rI x20.1.fX, rI x20.1.fY, rI x20.1.fZ, r0, r0, rI x23.1])<|sN<|qR ?_
 cases oI h
 exact qG
end Go.Dw.Ft
