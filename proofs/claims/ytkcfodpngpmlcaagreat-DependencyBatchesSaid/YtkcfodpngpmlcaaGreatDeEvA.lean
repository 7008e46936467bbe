
import Derived.Test.YtkcfodpngpmlcaaGreatDeFn
import Derived.Test.YtkcfodpngpmlcaaGreatDwShort
import Derived.Test.YtkcfodpngpmlcaaGreatDwNest
import Derived.Test.YtkcfodpngpmlcaaGreatProg
import Derived.Test.YtkcfodpngpmlcaaGreatDwClone
import Derived.Test.YtkcfodpngpmlcaaGreatDwSort






set_option maxRecDepth 100000
set_option maxHeartbeats 4000000
namespace Go.Dw.De
open Go.Proofs Go.Proofs.Tryz Go.Dw
@[reducible] def rW (n : Int) : Int := IntKind.wrap .i64 n
@[reducible] def rI (n : Int) : RV := .d (.int .i64 n)
@[reducible] def r0 : RV := .d (.int .i64 0)
@[reducible] def rS (s : List UInt8) : RV := .d (.str s)
@[reducible] def rB (b : Bool) : RV := .d (.bool b)
@[reducible] def zZ0 : List RV := [.d (.int .i64 0), .d (.int .i64 0), .d (.int .i64 0), .d (.int .i64 0), .d (.int .i64 0), .d (.int .i64 0), .d (.int .i64 0), .cu, .cu, .d (.int .i64 0), .d (.int .i64 0), .d (.int .i64 0), .d (.int .i64 0), .d (.int .i64 0), .d (.int .i64 0), .cu, .cu, .d (.int .i64 0), .d (.int .i64 0), .d (.int .i64 0)]
@[reducible] def zZ1 : List RV := [.d (.str []), .d (.str []), .d (.str []), .d (.str []), .d (.int .i64 0), .d (.int .i64 0), .d (.int .i64 0), .d (.int .i64 0), .d (.int .i64 0)]
@[reducible] def zZ2 : List RV := [.d (.int .i64 0), .d (.int .i64 0), .d (.int .i64 0), .d (.int .i64 0), .d (.int .i64 0), .d (.int .i64 0), .d (.int .i64 0), .cu]
@[reducible] def zZ3 : List RV := [.d (.str []), .d (.str []), .d (.str []), .d (.str []), .cu]
@[reducible] def aI.rc (x : aI) : List RV := [.d (.int .i64 x.au.aW.bd.fX), .d (.int .i64 x.au.aW.bd.fY), .d (.int .i64 x.au.aW.bd.fZ), .d (.int .i64 x.au.aW.aZ.fX), .d (.int .i64 x.au.aW.aZ.fY), .d (.int .i64 x.au.aW.aZ.fZ), .d (.int .i64 x.au.bp.bJ), .d (.lst (x.au.bp.bd.map (PD.int .i64))), .d (.lst (x.au.bp.aZ.map (PD.int .i64))), .d (.int .i64 x.au.xw), .d (.int .i64 x.au.bw), .d (.int .i64 x.au.nZ), .d (.int .i64 x.au.na), .d (.int .i64 x.au.m9), .d (.int .i64 x.b9.a7.bJ), .d (.lst (x.b9.a7.bd.map (PD.int .i64))), .d (.lst (x.b9.a7.aZ.map (PD.int .i64))), .d (.int .i64 x.b9.aU), .d (.int .i64 x.b9.aS), .d (.int .i64 x.bw)]
@[reducible] def aa.rc (x : aa) : List RV := [.d (.str x.ak.aC), .d (.str x.ak.aA), .d (.str x.ak.av), .d (.str x.ak.aD), .d (.int .i64 x.aN), .d (.int .i64 x.aG), .d (.int .i64 x.aY), .d (.int .i64 x.aH), .d (.int .i64 x.aK)]
@[reducible] def ai.rc (x : ai) : List RV := [.d (.int .i64 x.aJ), .d (.int .i64 x.fTo), .d (.int .i64 x.bI.aU), .d (.int .i64 x.bI.aS), .d (.int .i64 x.aF.fX), .d (.int .i64 x.aF.fY), .d (.int .i64 x.aF.fZ), .d (.lst (x.aQ.aL.map aq.pd))]
@[reducible] def aP.rc (x : aP) : List RV := [.d (.int .i64 x.bd.fX), .d (.int .i64 x.bd.fY), .d (.int .i64 x.bd.fZ), .d (.int .i64 x.aZ.fX), .d (.int .i64 x.aZ.fY), .d (.int .i64 x.aZ.fZ)]
@[reducible] def ae.rc (x : ae) : List RV := [.d (.str x.ak.aC), .d (.str x.ak.aA), .d (.str x.ak.av), .d (.str x.ak.aD), .d (.lst (x.aM.map ai.pd))]
@[reducible] def aq.rc (x : aq) : List RV := [.d (.int .i64 x.br), .d (.int .i64 x.aU.a0), .d (.int .i64 x.aU.a1), .d (.int .i64 x.aU.a2), .d (.int .i64 x.aS.a0), .d (.int .i64 x.aS.a1), .d (.int .i64 x.aS.a2), .d (.lst (x.bc.map (PD.int .i64))), .d (.int .i64 x.aX), .d (.int .i64 x.bi)]
@[reducible] def ar.rc (x : ar) : List RV := [.d (.str x.ak.aC), .d (.str x.ak.aA), .d (.str x.ak.av), .d (.str x.ak.aD), .d (.lst (x.bM.map aj.pd))]
@[reducible] def ba.rc (x : ba) : List RV := [.d (.int .i64 x.aW.bd.fX), .d (.int .i64 x.aW.bd.fY), .d (.int .i64 x.aW.bd.fZ), .d (.int .i64 x.aW.aZ.fX), .d (.int .i64 x.aW.aZ.fY), .d (.int .i64 x.aW.aZ.fZ), .d (.int .i64 x.bp.bJ), .d (.lst (x.bp.bd.map (PD.int .i64))), .d (.lst (x.bp.aZ.map (PD.int .i64))), .d (.int .i64 x.xw), .d (.int .i64 x.bw), .d (.int .i64 x.nZ), .d (.int .i64 x.na), .d (.int .i64 x.m9)]
@[reducible] def az.rc (x : az) : List RV := [.d (.int .i64 x.aA.fX), .d (.int .i64 x.aA.fY), .d (.int .i64 x.aA.fZ), .d (.int .i64 x.aG), .d (.int .i64 x.aY), .d (.int .i64 x.iR)]
@[reducible] def cr.rc (x : cr) : List RV := [.d (.int .i64 x.a7.bJ), .d (.lst (x.a7.bd.map (PD.int .i64))), .d (.lst (x.a7.aZ.map (PD.int .i64))), .d (.int .i64 x.aU), .d (.int .i64 x.aS)]
def hintAt : FuncId → Nat → Nat → List p8 := fun f nb id =>
  if f = 3 then (if nb = 0 then (if id = 9 then [.own 8 1312 52, .bD [4, 5, 6, 8, 35, 36] [1312]] else if id = 14 then [.bD [4, 5, 6, 8, 9, 10, 35, 36] [1312]] else if id = 15 then [.bD [4, 5, 6, 8, 9, 10, 35, 36] [1312]] else if id = 17 then [.bD [4, 5, 6, 8, 9, 10, 35, 36, 53, 54, 55] [1312]] else if id = 20 then [.bD [4, 5, 6, 8, 9, 10, 12, 35, 36, 53, 54, 55, 62, 63, 64] [192, 1312]] else if id = 25 then [.bD [4, 5, 6, 8, 9, 10, 35, 36, 53, 54, 55] [1312]] else if id = 26 then [.bD [4, 5, 6, 8, 9, 35, 36] [1312]] else if id = 28 then [.bD [4, 8] [1312]] else []) else []) else if f = 4 then (if nb = 0 then (if id = 11 then [.frz (.reg 17), .bD [0, 1, 2, 8, 11, 13, 14, 15, 16, 17] [128, 208, 256, 832]] else if id = 12 then [.bD [1, 2, 8, 13, 14, 15, 16, 17, 91, 92, 93] [128, 208, 256]] else if id = 15 then [.bD [1, 2, 8, 13, 14, 15, 16, 17, 19, 91, 92, 93, 100, 101, 102] [128, 208, 256]] else if id = 22 then [.bD [1, 2, 8, 13, 14, 15, 16, 17, 19, 21, 22, 24, 91, 92, 93, 100, 101, 102, 137, 138] [128, 208, 256]] else if id = 27 then [.bD [1, 2, 8, 13, 14, 15, 16, 17, 19, 21, 91, 92, 93, 100, 101, 102] [128, 208, 256]] else if id = 28 then [.bD [1, 2, 8, 13, 14, 15, 16, 17, 19, 21, 91, 92, 93, 100, 101, 102, 154, 155, 156] [128, 208, 256]] else if id = 31 then [.bD [1, 2, 8, 13, 14, 15, 16, 17, 19, 21, 28, 91, 92, 93, 100, 101, 102, 154, 155, 156, 162, 163, 164] [128, 208, 256]] else if id = 38 then [.bD [1, 2, 8, 13, 14, 15, 16, 17, 19, 21, 91, 92, 93, 100, 101, 102, 154, 155, 156] [128, 208, 256]] else if id = 39 then [.bD [1, 2, 8, 13, 14, 15, 16, 17, 19, 21, 91, 92, 93, 100, 101, 102] [128, 208, 256]] else if id = 40 then [.bD [1, 2, 8, 13, 14, 15, 16, 17, 19, 91, 92, 93, 100, 101, 102, 197, 198, 199] [128, 208, 256]] else if id = 45 then [.bD [1, 2, 8, 13, 14, 15, 16, 17, 19, 91, 92, 93, 100, 101, 102] [128, 208, 256]] else if id = 46 then [.bD [1, 2, 8, 13, 14, 15, 16, 17, 91, 92, 93] [128, 208, 256]] else if id = 47 then [.bD [] []] else []) else []) else if f = 5 then (if nb = 0 then (if id = 13 then [.bD [5, 6, 9, 12, 14, 86, 87] [80, 144]] else if id = 17 then [.bD [5, 6, 9, 12, 14, 16, 17, 86, 87, 93, 94, 95] [80, 144]] else if id = 21 then [.bD [5, 6, 9, 12, 14, 16, 17, 19, 20, 86, 87, 93, 94, 95, 99, 100, 101] [80, 144, 304]] else if id = 25 then [.bD [5, 6, 9, 12, 14, 16, 17, 19, 20, 86, 87, 93, 94, 95] [80, 144, 304]] else if id = 27 then [.bD [5, 6, 9, 12, 14, 16, 17, 86, 87] [80, 144]] else if id = 30 then [.bD [] []] else []) else []) else if f = 6 then (if nb = 0 then (if id = 8 then [.bD [5, 6, 7, 8, 9, 35, 36, 37] [80, 112]] else if id = 11 then [.bD [5, 6, 7, 8, 9, 11, 35, 36, 37, 42, 43, 44] [80, 112, 176]] else if id = 15 then [.bD [5, 6, 7, 8, 9, 35, 36, 37] [80, 112]] else if id = 16 then [.bD [5, 6, 7, 8, 9] [80, 112]] else if id = 18 then [.bD [5, 7, 8, 9, 14, 61, 62, 63] [80, 112]] else if id = 25 then [.bD [9, 14] []] else []) else []) else if f = 7 then (if nb = 0 then (if id = 9 then [.bD [7, 52, 53, 54] []] else if id = 13 then [.bD [7, 12, 13, 52, 53, 54, 58, 59, 60] []] else if id = 17 then [.bD [7, 12, 13, 15, 16, 52, 53, 54, 58, 59, 60, 64, 65, 66] []] else if id = 20 then [.bD [7, 12, 13, 15, 16, 18, 52, 53, 54, 58, 59, 60, 64, 65, 66, 70, 71, 72] [288]] else if id = 25 then [.bD [7, 12, 13, 15, 16, 52, 53, 54, 58, 59, 60, 64, 65, 66] []] else if id = 26 then [.bD [7, 12, 13, 16, 52, 53, 54, 58, 59, 60] []] else if id = 28 then [.bD [7, 12, 13, 52, 53, 54] []] else if id = 31 then [.bD [] []] else []) else []) else if f = 9 then (if nb = 1 then (if id = 4 then [.own 9 2192 52, .bD [0, 5, 6, 9, 10, 11, 12] [0, 80, 96, 160, 2192]] else if id = 12 then [.bD [0, 5, 6, 9, 10, 11, 12, 13, 14, 16] [0, 80, 96, 160, 208, 224, 2192]] else if id = 14 then [.bD [0, 5, 6, 9, 10, 11, 12, 13, 16] [0, 80, 96, 160, 208, 2192]] else if id = 18 then [.bD [0, 5, 6, 9, 10, 11, 12, 13] [0, 80, 96, 160, 208, 2192]] else if id = 21 then [.bD [9] [0, 2192]] else []) else []) else if f = 11 then (if nb = 1 then (if id = 3 then [.ownp (.cell 80 0) 1104 99, .bD [0, 1, 4, 5, 6] [0, 64, 80, 1104]] else if id = 16 then [.bD [4, 5] [0, 64, 80, 1104]] else []) else []) else if f = 14 then (if nb = 0 then (if id = 3 then [.own 3 816 52, .bD [0, 3, 4] [816]] else if id = 6 then [.bD [0, 3, 4, 5] [816]] else if id = 8 then [.bD [0, 3, 4, 5] [816]] else if id = 9 then [.bD [0, 3, 4, 5] [816]] else if id = 12 then [.bD [3] [816]] else []) else []) else if f = 15 then (if nb = 0 then (if id = 4 then [.bD [0, 1, 5] []] else if id = 8 then [.bD [] []] else []) else []) else if f = 17 then (if nb = 0 then (if id = 2 then [.bD [1, 7, 8] [16]] else if id = 7 then [.bD [1, 3, 7, 8, 25, 26] [16]] else if id = 12 then [.bD [1, 7, 8] [16]] else if id = 13 then [.bD [1] [16]] else []) else []) else if f = 18 then (if nb = 1 then (if id = 3 then [.own 7 368 52, .bD [0, 1, 2, 7, 10, 11] [0, 368]] else if id = 8 then [.bD [0, 2, 7] [0, 368]] else []) else []) else if f = 19 then (if nb = 1 then (if id = 3 then [.ownp (.cell 80 0) 1536 99, .bD [0, 4, 5, 10, 11, 12] [0, 64, 80, 1536]] else if id = 20 then [.bD [4, 5] [0, 64, 80, 1536]] else []) else []) else if f = 21 then (if nb = 0 then (if id = 8 then [.lA 768, .ownn (.reg 6) 768 25 52, .bD [0, 6, 7, 8] [768]] else if id = 11 then [.lA 768, .ownn (.reg 6) 768 25 52, .bD [0, 6, 7, 8] [768]] else if id = 12 then [.qV 768 none 928] else if id = 13 then [.lA 768, .bD [6] [768]] else if id = 14 then [.lA 768, .bD [6, 9] [768]] else if id = 16 then [.qV 768 (some 9) 1232] else if id = 17 then [.lA 768, .frzn (.reg 6), .bD [6] []] else []) else []) else if f = 22 then (if nb = 0 then (if id = 4 then [.bD [0, 1, 5] []] else if id = 5 then [.bD [0, 1, 5] []] else if id = 9 then [.bD [0, 1, 5, 6] []] else if id = 13 then [.bD [] []] else []) else []) else if f = 23 then (if nb = 0 then (if id = 4 then [.own 4 384 50, .bD [3, 4, 11, 12, 13] [160, 384]] else if id = 10 then [.bD [3, 4] [160, 384]] else if id = 12 then [.frzm 160, .own 7 880 74, .bD [3, 7, 41, 42, 43] [160, 880]] else if id = 14 then [.frzm 160, .bD [3, 7, 9, 41, 42, 43] [144, 160, 880]] else if id = 16 then [.bD [7] [880]] else []) else []) else if f = 24 then (if nb = 0 then (if id = 3 then [.own 3 480 50, .bD [0, 3, 4] [480]] else if id = 7 then [.bD [0, 3] [480]] else if id = 9 then [.own 5 1824 74, .bD [0, 5, 32, 33, 34] [1824]] else if id = 13 then [.ownp (.cell 128 4) 1088 76, .bD [0, 5, 7, 8, 32, 33, 34, 41, 42, 43] [112, 128, 656, 1088, 1824]] else if id = 22 then [.bD [0, 5, 8, 32, 33, 34] [128, 1088, 1824]] else if id = 24 then [.bD [5] [1824]] else []) else []) else if f = 25 then (if nb = 0 then (if id = 8 then [.bD [0, 2, 8, 9, 12, 13, 53, 54, 55] [128, 144, 208, 832]] else if id = 11 then [.bD [0, 2, 8, 9, 12, 13, 14, 53, 54, 55, 60, 61, 62] [128, 144, 208, 832]] else if id = 15 then [.bD [0, 2, 8, 9, 12, 13, 53, 54, 55] [128, 144, 208, 832]] else if id = 16 then [.bD [0, 2, 8, 9, 12, 13] [128, 144, 208, 832]] else if id = 18 then [.own 18 1728 3, .bD [8, 9, 12, 13, 18, 74, 75, 76] [128, 144, 208, 832, 1728]] else if id = 25 then [.bD [18] [1728]] else []) else []) else if f = 26 then (if nb = 0 then (if id = 9 then [.own 16 1056 3, .bD [8, 9, 12, 14, 16, 17] [128, 144, 1056]] else if id = 13 then [.bD [16] [1056]] else []) else []) else if f = 27 then (if nb = 0 then (if id = 4 then [.bD [0, 1, 12, 13] []] else if id = 9 then [.bD [] []] else []) else []) else if f = 30 then (if nb = 0 then (if id = 2 then [.bD [0, 1, 7, 8] []] else if id = 7 then [.bD [] []] else []) else []) else if f = 31 then (if nb = 0 then (if id = 5 then [.own 5 624 50, .bD [2, 3, 5, 29, 30, 31] [32, 48, 624]] else if id = 9 then [.bD [2, 3, 5] [32, 48, 624]] else if id = 11 then [.own 8 1168 74, .bD [2, 3, 8, 42, 43, 44] [32, 48, 1168]] else if id = 19 then [.bD [8] [1168]] else []) else []) else if f = 33 then (if nb = 0 then (if id = 7 then [.lA 848, .ownn (.reg 11) 848 25 52, .bD [3, 8, 9, 11, 12, 29, 30, 31] [48, 848]] else if id = 10 then [.lA 848, .ownn (.reg 11) 848 25 52, .bD [3, 8, 9, 11, 14, 29, 30, 31] [48, 848]] else if id = 12 then [.qV 848 none 1088] else if id = 14 then [.lA 848, .bD [11] [848]] else if id = 15 then [.lA 848, .bD [11, 77, 78, 79] [848]] else if id = 16 then [.qV 848 (some 79) 1312] else if id = 19 then [.lA 848, .frzn (.reg 11), .bD [11] []] else []) else []) else if f = 37 then (if nb = 0 then (if id = 2 then [.bD [2, 4, 6, 13, 14, 15] [64, 96]] else if id = 5 then [.bD [2, 4, 6, 9, 13, 14, 15, 20, 21, 22] [64, 96, 144]] else if id = 10 then [.bD [2, 4, 6, 13, 14, 15] [64, 96]] else if id = 11 then [.bD [6] [96]] else []) else []) else if f = 40 then (if nb = 1 then (if id = 3 then [.bD [2, 3, 16, 17] [0, 32, 48, 96, 97]] else if id = 7 then [.bD [2, 3] [0, 32, 48, 96, 97]] else []) else []) else if f = 42 then (if nb = 1 then (if id = 3 then [.ownp (.cell 48 0) 1040 137, .bD [0, 2, 3, 4] [0, 32, 48, 1040]] else if id = 13 then [.bD [2, 3] [0, 32, 48, 1040]] else []) else []) else if f = 44 then (if nb = 0 then (if id = 5 then [.lA 624, .ownn (.reg 6) 624 25 52, .bD [0, 5, 6, 15, 16, 17] [192, 624]] else if id = 8 then [.lA 624, .ownn (.reg 6) 624 25 52, .bD [0, 5, 6, 8, 15, 16, 17] [128, 192, 624]] else if id = 9 then [.qV 624 none 784] else if id = 11 then [.lA 624, .bD [6] [624]] else if id = 12 then [.lA 624, .bD [6, 55, 56, 57] [624]] else if id = 13 then [.qV 624 (some 57) 960] else if id = 16 then [.lA 624, .frzn (.reg 6), .bD [6] []] else []) else []) else if f = 45 then (if nb = 0 then (if id = 5 then [.bD [41, 42] []] else []) else []) else if f = 47 then (if nb = 0 then (if id = 2 then [.bD [1, 6, 7] [16]] else if id = 7 then [.bD [1] [16]] else []) else []) else if f = 48 then (if nb = 0 then (if id = 2 then [.bD [0, 3] []] else if id = 6 then [.bD [] []] else []) else []) else if f = 49 then (if nb = 0 then (if id = 3 then [.own 3 544 52, .bD [0, 3, 4] [544]] else if id = 6 then [.bD [0, 3, 4, 5] [544]] else if id = 8 then [.bD [0, 3, 4, 5] [544]] else if id = 11 then [.bD [3] [544]] else []) else []) else if f = 52 then (if nb = 0 then (if id = 5 then [.own 4 816 76, .bD [4, 13, 14, 15] [144, 816]] else if id = 12 then [.bD [4] [816]] else []) else []) else if f = 54 then (if nb = 0 then (if id = 3 then [.own 3 816 50, .bD [0, 3, 4] [816]] else if id = 6 then [.bD [0, 3, 4, 5] [816]] else if id = 8 then [.bD [0, 3, 4, 5] [816]] else if id = 9 then [.bD [0, 3, 4, 5] [816]] else if id = 12 then [.bD [3] [816]] else []) else []) else if f = 55 then (if nb = 0 then (if id = 2 then [.bD [1, 6, 7, 8] [16]] else if id = 7 then [.bD [1] [16]] else []) else []) else if f = 58 then (if nb = 0 then (if id = 2 then [.bD [1, 3] [16]] else if id = 3 then [.bD [1, 3] [16]] else if id = 7 then [.bD [1, 3, 4] [16, 64]] else if id = 8 then [.bD [1, 3, 4, 5] [16, 64]] else if id = 12 then [.bD [1] [16]] else []) else []) else if f = 59 then (if nb = 0 then (if id = 2 then [.bD [0, 1, 6, 7, 9] [96, 112]] else if id = 6 then [.bD [0, 1] []] else if id = 7 then [.bD [0, 1, 10] []] else if id = 11 then [.bD [] []] else []) else []) else if f = 62 then (if nb = 0 then (if id = 5 then [.bD [2, 6, 8, 10] [96, 128]] else if id = 9 then [.bD [6] [96]] else []) else []) else if f = 63 then (if nb = 0 then (if id = 4 then [.bD [2, 3, 5] [32, 48]] else if id = 8 then [.bD [] []] else []) else []) else if f = 64 then (if nb = 0 then (if id = 3 then [.bD [0, 3, 9, 10, 11] []] else if id = 9 then [.bD [0, 3] []] else if id = 11 then [.bD [6, 25, 26, 27] [384]] else if id = 15 then [.bD [6] [384]] else []) else []) else if f = 65 then (if nb = 0 then (if id = 2 then [.bD [3, 4, 9, 10, 11] [48, 64]] else if id = 7 then [.bD [4] [64]] else []) else []) else if f = 66 then (if nb = 0 then (if id = 3 then [.own 5 464 76, .bD [0, 1, 5, 6, 16, 17, 18] [464]] else if id = 7 then [.bD [0, 1, 5, 6] [464]] else if id = 8 then [.own 6 944 76, .bD [1, 5, 6, 31, 32, 33] [464, 944]] else if id = 11 then [.bD [1, 5, 6, 10, 31, 32, 33, 37, 38, 39] [160, 464, 944]] else if id = 16 then [.bD [1, 5, 6, 31, 32, 33] [464, 944]] else if id = 17 then [.bD [5, 6] [464, 944]] else []) else []) else if f = 70 then (if nb = 0 then (if id = 8 then [.own 9 656 52, .own 10 720 128, .bD [3, 4, 9, 10, 24, 25, 26] [48, 64, 384, 656, 720]] else if id = 14 then [.bD [9, 10] [656, 720]] else []) else []) else if f = 71 then (if nb = 0 then (if id = 3 then [.bD [1, 3, 9, 10] [16, 112]] else if id = 7 then [.bD [1, 3] [16, 112]] else []) else []) else if f = 78 then (if nb = 1 then (if id = 4 then [.ownp (.cell 48 1) 432 3, .ownp (.cell 48 2) 512 3, .bD [0, 2, 3, 4, 5, 6] [0, 32, 48, 432, 512]] else if id = 9 then [.bD [2, 3] [0, 32, 48, 432, 512]] else []) else []) else if f = 90 then (if nb = 1 then (if id = 4 then [.bD [0, 3] [0]] else if id = 9 then [.bD [0, 3, 4, 5] [0]] else if id = 14 then [.bD [0, 3] [0]] else if id = 16 then [.bD [0] [0]] else []) else []) else if f = 91 then (if nb = 1 then (if id = 3 then [.bumpp (.reg 0), .bD [0] [0]] else if id = 5 then [.bD [0, 1, 5, 6] [0]] else if id = 11 then [.bD [0, 5] [0]] else []) else []) else if f = 99 then (if nb = 0 then (if id = 2 then [.bD [0, 5, 6, 7] []] else if id = 7 then [.bD [0] []] else []) else []) else if f = 100 then (if nb = 0 then (if id = 2 then [.bD [0, 1, 7, 8] []] else if id = 7 then [.bD [] []] else []) else if nb = 5 then (if id = 2 then [.bD [0, 1, 7, 8] [0, 1, 2, 3, 4]] else if id = 7 then [.bD [] [0, 1, 2, 3, 4]] else []) else []) else if f = 102 then (if nb = 0 then (if id = 2 then [.bD [1, 4, 9, 10, 11] [64]] else if id = 7 then [.bD [4] [64]] else []) else []) else if f = 103 then (if nb = 0 then (if id = 4 then [.bD [1, 2, 15, 16, 17] []] else if id = 10 then [.bD [] []] else []) else []) else if f = 105 then (if nb = 0 then (if id = 4 then [.bD [0, 1, 12, 13] []] else if id = 9 then [.bD [] []] else []) else []) else if f = 106 then (if nb = 0 then (if id = 2 then [.bD [2, 3, 4, 6] [32, 48, 64]] else if id = 6 then [.bD [4] [64]] else []) else []) else if f = 107 then (if nb = 0 then (if id = 4 then [.bD [2, 3, 5] [32, 48]] else if id = 8 then [.bD [] []] else []) else []) else if f = 108 then (if nb = 0 then (if id = 6 then [.own 0 80000 99, .mv (.reg 0) 90097, .bD [0] [90097]] else []) else []) else if f = 109 then (if nb = 0 then (if id = 3 then [.bD [1, 2, 10, 11, 12] [16, 32, 112]] else if id = 7 then [.bD [1, 2] [16, 32, 112]] else []) else []) else if f = 110 then (if nb = 0 then (if id = 3 then [.bD [0, 3, 9, 10, 11] []] else if id = 9 then [.bD [0, 3] []] else if id = 11 then [.bD [6, 25, 26, 27] [384]] else if id = 15 then [.bD [6] [384]] else []) else []) else if f = 112 then (if nb = 0 then (if id = 4 then [.own 5 784 76, .bD [1, 5, 14, 15, 16] [784]] else if id = 8 then [.bD [1, 5, 7, 8, 14, 15, 16, 22, 23, 24] [112, 784]] else if id = 15 then [.bD [1, 5, 7, 8, 14, 15, 16] [112, 784]] else if id = 18 then [.bD [5] [784]] else []) else []) else if f = 113 then (if nb = 3 then (if id = 2 then [.bD [0, 1, 7, 8] [0, 1, 2]] else if id = 7 then [.bD [] [0, 1, 2]] else []) else []) else if f = 114 then (if nb = 0 then (if id = 4 then [.own 5 816 76, .bD [0, 1, 5, 6, 7] [816]] else if id = 8 then [.bD [0, 1, 5, 6, 7] [816]] else if id = 11 then [.bD [5] [816]] else []) else []) else if f = 122 then (if nb = 0 then (if id = 3 then [.bD [3, 6, 7, 8] []] else if id = 8 then [.bD [3] []] else []) else []) else if f = 124 then (if nb = 1 then (if id = 2 then [.bumpp (.reg 0), .bD [0] [0]] else if id = 4 then [.bD [0, 3] [0]] else if id = 9 then [.bD [0, 3, 4, 5] [0]] else if id = 14 then [.bD [0, 3] [0]] else if id = 16 then [.bumpp (.reg 0), .bD [0] [0]] else []) else []) else if f = 125 then (if nb = 1 then (if id = 2 then [.bD [0, 1, 2, 6, 7, 8] [0]] else if id = 6 then [.bD [0, 1, 2, 6, 7] [0]] else if id = 7 then [.bD [0, 1, 2, 6] [0]] else if id = 9 then [.bD [0, 1, 2, 6, 7, 8] [0]] else if id = 13 then [.bD [0, 1, 2, 6, 7] [0]] else []) else []) else if f = 128 then (if nb = 0 then (if id = 2 then [.bD [0, 1, 2, 9, 10] []] else if id = 7 then [.bD [0, 1, 2] []] else []) else []) else if f = 131 then (if nb = 1 then (if id = 2 then [.bD [0, 1, 7, 8] [0]] else if id = 7 then [.bD [] [0]] else []) else []) else if f = 133 then (if nb = 0 then (if id = 2 then [.bD [0, 1, 2, 7] []] else if id = 6 then [.bD [0, 1, 2] []] else []) else []) else if f = 137 then (if nb = 0 then (if id = 3 then [.bD [1, 3, 4] [16]] else if id = 11 then [.bD [1] [16]] else []) else []) else if f = 138 then (if nb = 0 then (if id = 3 then [.ownp (.cell 48 0) 816 99, .bD [1, 2, 3, 4] [16, 32, 48, 816]] else if id = 7 then [.ownp (.cell 80 4) 720 96, .bD [1, 2, 3, 4, 5, 6] [16, 32, 48, 80, 720, 816]] else if id = 10 then [.bD [1, 2, 3, 4, 5] [16, 32, 48, 80, 720, 816]] else if id = 11 then [.bD [2, 3] [32, 48, 816]] else []) else []) else if f = 140 then (if nb = 0 then (if id = 3 then [.bD [1, 2, 13, 14] [16, 32, 112]] else if id = 7 then [.bD [1, 2] [16, 32, 112]] else []) else []) else if f = 141 then (if nb = 0 then (if id = 6 then [.own 0 80000 96, .mv (.reg 0) 90097, .bD [0] [90097]] else []) else []) else if f = 142 then (if nb = 0 then (if id = 6 then [.bD [2, 52, 53, 54] [32]] else if id = 12 then [.bD [] []] else []) else []) else if f = 145 then (if nb = 2 then (if id = 2 then [.bD [0, 1, 2, 6, 7, 8] [0, 1]] else if id = 6 then [.bD [0, 1, 2, 6, 7] [0, 1]] else if id = 7 then [.bD [0, 1, 2, 6] [0, 1]] else if id = 9 then [.bD [0, 1, 2, 6, 7, 8] [0, 1]] else if id = 13 then [.bD [0, 1, 2, 6, 7] [0, 1]] else []) else []) else if f = 147 then (if nb = 1 then (if id = 1 then [.bD [0, 1, 2, 3, 8] [0]] else if id = 2 then [.bD [0, 1, 2, 3, 8] [0]] else if id = 4 then [.bD [0, 1, 2, 3, 8, 9] [0]] else []) else []) else if f = 156 then (if nb = 0 then (if id = 4 then [.bD [0, 2] []] else if id = 7 then [.bD [0, 2] []] else []) else []) else if f = 178 then (if nb = 0 then (if id = 1 then [.bD [0, 1] []] else if id = 3 then [.bD [0] []] else []) else []) else if f = 179 then (if nb = 0 then (if id = 6 then [.fixv 16, .bD [1, 3] []] else []) else []) else if f = 184 then (if nb = 0 then (if id = 6 then [.bD [1, 4, 5, 33, 34] [16]] else if id = 12 then [.bD [] []] else []) else []) else if f = 187 then (if nb = 2 then (if id = 1 then [.bD [0, 1, 2, 3, 8] [0, 1]] else if id = 2 then [.bD [0, 1, 2, 3, 8] [0, 1]] else if id = 4 then [.bD [0, 1, 2, 3, 8, 9] [0, 1]] else []) else []) else if f = 202 then (if nb = 0 then (if id = 1 then [.bD [0, 1] []] else if id = 3 then [.bD [0] []] else []) else []) else if f = 205 then (if nb = 0 then (if id = 6 then [.fixv 16, .bD [1, 3] []] else []) else []) else if f = 206 then (if nb = 0 then (if id = 3 then [.bD [3, 6, 7, 8] []] else if id = 10 then [.bD [3] []] else []) else []) else if f = 207 then (if nb = 0 then (if id = 2 then [.bD [0, 3] []] else if id = 6 then [.bD [] []] else []) else []) else if f = 208 then (if nb = 0 then (if id = 3 then [.bD [0, 3, 4] []] else if id = 6 then [.bD [3] []] else []) else []) else if f = 209 then (if nb = 0 then (if id = 3 then [.ownp (.cell 48 0) 416 137, .bD [1, 2, 3, 4] [16, 32, 48, 416]] else if id = 8 then [.bD [2, 3] [32, 48, 416]] else []) else []) else if f = 219 then (if nb = 0 then (if id = 2 then [.bD [0, 1, 7, 8] []] else if id = 7 then [.bD [] []] else []) else []) else if f = 222 then (if nb = 0 then (if id = 3 then [.bD [3, 6, 7, 8] []] else if id = 7 then [.bD [3] []] else []) else []) else if f = 230 then (if nb = 2 then (if id = 2 then [.bD [1, 5, 6] [0, 1]] else if id = 7 then [.bD [5] [0, 1]] else []) else []) else if f = 232 then (if nb = 0 then (if id = 5 then [.bD [0, 3, 4] []] else if id = 10 then [.bD [3] []] else []) else []) else if f = 235 then (if nb = 0 then (if id = 2 then [.bD [0, 1, 7, 8] []] else if id = 7 then [.bD [] []] else []) else []) else if f = 236 then (if nb = 0 then (if id = 5 then [.bD [2, 7, 8, 9, 28, 29] [128, 144]] else []) else []) else []
def aw : Hints := { at_ := hintAt, mt := fun f i => (f == 4 && i == 71) || (f == 11 && i == 28) || (f == 19 && i == 16) || (f == 21 && i == 47) || (f == 23 && i == 10) || (f == 33 && i == 52) || (f == 44 && i == 38) || (f == 91 && i == 41) || (f == 108 && i == 25) || (f == 124 && i == 59) || (f == 141 && i == 25), by_ := fun f i => (f == 72 && i == 0) || (f == 81 && i == 0) || (f == 88 && i == 0) || (f == 90 && i == 0) || (f == 91 && i == 0) || (f == 95 && i == 0) || (f == 108 && i == 0) || (f == 117 && i == 0) || (f == 124 && i == 0) || (f == 125 && i == 0) || (f == 131 && i == 0) || (f == 141 && i == 0) || (f == 145 && i == 0) || (f == 147 && i == 0) || (f == 187 && i == 0), own := fun f i => (f == 14 && i == 0) || (f == 78 && i == 0) || (f == 80 && i == 0) || (f == 87 && i == 0) || (f == 91 && i == 0) || (f == 92 && i == 0) || (f == 108 && i == 0) || (f == 123 && i == 0) || (f == 124 && i == 0) || (f == 139 && i == 0) || (f == 141 && i == 0) || (f == 181 && i == 0) || (f == 182 && i == 0) }
theorem eqN_28 (a b : ap) : nN prog .neq 28 (.d a.pd) (.d b.pd) = some (.bool (!((a.fX == b.fX) && ((a.fY == b.fY) && ((a.fZ == b.fZ) && true)))), true) := by kernel_rfl
theorem rP (a b : ag) : nN prog .eql 50 (.d a.pd) (.d b.pd) = some (.bool ((a.aC == b.aC) && ((a.aA == b.aA) && ((a.av == b.av) && ((a.aD == b.aD) && true)))), true) := by kernel_rfl
theorem eqN_50 (a b : ag) : nN prog .neq 50 (.d a.pd) (.d b.pd) = some (.bool (!((a.aC == b.aC) && ((a.aA == b.aA) && ((a.av == b.av) && ((a.aD == b.aD) && true))))), true) := by kernel_rfl
theorem xt (a b : aa) : nN prog .eql 52 (.d a.pd) (.d b.pd) = some (.bool (((a.ak.aC == b.ak.aC) && ((a.ak.aA == b.ak.aA) && ((a.ak.av == b.ak.av) && ((a.ak.aD == b.ak.aD) && true)))) && ((a.aN == b.aN) && ((a.aG == b.aG) && ((a.aY == b.aY) && ((a.aH == b.aH) && ((a.aK == b.aK) && true)))))), true) := by kernel_rfl
theorem eqN_52 (a b : aa) : nN prog .neq 52 (.d a.pd) (.d b.pd) = some (.bool (!(((a.ak.aC == b.ak.aC) && ((a.ak.aA == b.ak.aA) && ((a.ak.av == b.ak.av) && ((a.ak.aD == b.ak.aD) && true)))) && ((a.aN == b.aN) && ((a.aG == b.aG) && ((a.aY == b.aY) && ((a.aH == b.aH) && ((a.aK == b.aK) && true))))))), true) := by kernel_rfl
theorem eqN_76 (a b : aj) : nN prog .neq 76 (.d a.pd) (.d b.pd) = some (.bool (!((a.aJ == b.aJ) && ((a.fTo == b.fTo) && true))), true) := by kernel_rfl
theorem eZ (a b : aV) : nN prog .eql 135 (.d a.pd) (.d b.pd) = some (.bool ((a.a0 == b.a0) && ((a.a1 == b.a1) && ((a.a2 == b.a2) && true))), true) := by kernel_rfl
theorem eqN_135 (a b : aV) : nN prog .neq 135 (.d a.pd) (.d b.pd) = some (.bool (!((a.a0 == b.a0) && ((a.a1 == b.a1) && ((a.a2 == b.a2) && true)))), true) := by kernel_rfl
theorem keyT_50 : rL prog 50 ag.pd nz := ⟨fun a b => by kernel_rfl, fun a => by kernel_rfl, fun a b h => by
  simp only [nz, Bool.and_eq_true, beq_iff_eq] at h
  simp [ag.pd, jo, ib, jA, h]⟩
theorem keyT_52 : rL prog 52 aa.pd oM := ⟨fun a b => by kernel_rfl, fun a => by kernel_rfl, fun a b h => by
  simp only [oM, Bool.and_eq_true, beq_iff_eq] at h
  simp [aa.pd, jo, ib, jA, h]⟩

theorem T_api_Pick_inj : ∀ x y : aa, x.pd = y.pd → x = y := by
  rintro ⟨⟨z1, z2, z3, z4⟩, z5, z6, z7, z8, z9⟩ ⟨⟨z10, z11, z12, z13⟩, z14, z15, z16, z17, z18⟩ h
  cases h; rfl
theorem xm : ∀ x y : ag, x.pd = y.pd → x = y := by
  rintro ⟨z1, z2, z3, z4⟩ ⟨z5, z6, z7, z8⟩ h
  cases h; rfl
theorem T_api_Span_inj : ∀ x y : aj, x.pd = y.pd → x = y := by
  rintro ⟨z1, z2⟩ ⟨z3, z4⟩ h
  cases h; rfl
def ext0 : FuncId → Option dW := fun _ => none
theorem qb {a0 : (List UInt8)} {r : Bool} (h : fd a0 = some r) : EvP prog aw ext0 167 [rS a0] [] (rB r, []) := by
 refine Ev.body rfl Tryz.func167 rfl (by kernel_rfl)<|gS rfl rfl<|sU<|sN<|gS rfl rfl<|sM rfl<|sM rfl<|sV (rB (!(a0 == a0)))<|sA rfl<|sN<|qR ?_
 exact oI h▸qD
theorem gr {a0 : (List UInt8)} {a1 : (List UInt8)} {r : Int} (h : cw a0 a1 = some r) : EvP prog aw ext0 130 [rS a0, rS a1] [] (rI r, []) := by
 refine Ev.body rfl Tryz.func130 rfl (by kernel_rfl)<|gS rfl rfl<|sV (r0)<|sN<|gS rfl rfl<|sM rfl<|bE h fun x1 hx1 h => cD (qb hx1)<|sA rfl<|sN<|gS rfl rfl<|sM rfl<|bE h fun x2 hx2 h => cD (qb hx2)<|sA rfl ?_
 refine sN<|qS<|gS rfl rfl<|sF h (fun h => ?_) fun h => ?_
 ·refine sN<|cT<|qS<|gS rfl rfl<|sF h (fun h => ?_) fun h => ?_
  ·refine sN<|cT<|gS rfl rfl<|sV (r0)<|sN<|qR ?_
   exact oI h▸qD
  refine sN<|cF<|qK<|gS rfl rfl<|sV (rI (-1))<|sN<|qR ?_
  exact oI h▸qD
 refine sN<|cF<|qK<|qS<|gS rfl rfl<|sF h (fun h => ?_) fun h => ?_
 ·refine sN<|cT<|gS rfl rfl<|sV (rI 1)<|sN<|qR ?_
  exact oI h▸qD
 refine sN<|cF<|qK<|qS<|gS rfl rfl<|sM rfl<|sM rfl<|sF h (fun h => ?_) fun h => ?_
 ·refine sN<|cT<|gS rfl rfl<|sV (rI (-1))<|sN<|qR ?_
  exact oI h▸qD
 refine sN<|cF<|qK<|qS<|gS rfl rfl<|sM rfl<|sM rfl<|sF h (fun h => ?_) fun h => ?_
 ·refine sN<|cT<|gS rfl rfl<|sV (rI 1)<|sN<|qR ?_
  exact oI h▸qD
 refine sN<|cF<|qK<|gS rfl rfl<|sV (r0)<|sN<|qR ?_
 exact oI h▸qD
theorem v7 {a0 : (List Int)} {r : Int} (h : gW a0 = some r) : EvP prog aw ext0 122 [.d (.lst (a0.map (PD.int .i64)))] [] (rI r, []) := by
 refine Ev.body rfl Tryz.func122 rfl (by kernel_rfl)<|gS rfl rfl<|sV (r0)<|sN<|gS rfl rfl<|sV (r0)<|sN<|qS<|gS rfl rfl<|sM rfl<|sE (rI (a0.length : Int)) (b8 _ _)<|sV (r0)<|sN<|bE h fun o7 ho7 h => WC.block (WC.loop (WL.cv ho7 (fun s R' B' => bg prog 0 (A R' B') (aw.at_ 122 0 3) = some (A [(3, r0), (6, .d (.lst (a0.map (PD.int .i64)))), (7, rI (a0.length : Int)), (8, rI s)] [])) (fun o e R' B' => match o with | .inl y => e = .exit 0 ∧ bg prog 0 (A R' B') (aw.at_ 122 0 8) = some (A [(3, r0)] []) | .inr r => e = .ret ∧ finish prog (aw.own 122) Tryz.f122 0 (A R' B') = some (rI r, [])) rfl ?_ ?_))
 ·rintro s1 R' B' q2 hI h
  refine gS rfl hI<|sF h (fun h => ?_) fun h => ?_
  ·refine sN<|qS<|cT<|qK<|qS<|qB<|gS rfl rfl<|bE h fun x4 hx4 h => eG hx4 rfl<|sC rfl<|sA rfl<|sN<|gS rfl rfl<|sM rfl<|sM rfl ?_
   refine sF h (fun h => ?_) fun h => ?_
   ·refine sN<|cT<|gS rfl rfl<|sM rfl<|sA rfl<|sN<|qR ?_
    cases oI h
    exact ⟨nofun, rfl, rfl⟩
   refine sN<|cF<|qK<|WC.region rfl rfl<|sV (rI (rW (s1 + (1 : Int))))<|sM rfl<|sN ?_
   cases oI h
   exact ⟨rfl, rfl⟩
  refine sN<|qS<|cF<|qX ?_
  cases oI h
  exact ⟨nofun, rfl, rfl⟩
 intro e R' B' he hq
 rcases o7 with y8 | r9
 ·obtain ⟨rfl, hI⟩ := hq
  refine qE<|gS rfl hI<|sM rfl<|sA rfl<|sN<|qR ?_
  exact oI h▸qD
 obtain ⟨rfl, hf⟩ := hq
 cases oI h
 exact hf
theorem sw {a0 : ag} {a1 : ag} {r : Int} (h : bY a0 a1 = some r) : EvP prog aw ext0 89 [.d (ag.pd a0), .d (ag.pd a1)] [] (rI r, []) := by
 refine Ev.body rfl Tryz.func89 rfl (by kernel_rfl)<|gS rfl rfl<|sB (.ptr 32 0) 32 (.var [rS a0.aC, rS a0.aA, rS a0.av, rS a0.aD])<|sB (.ptr 48 0) 48 (.var [rS a1.aC, rS a1.aA, rS a1.av, rS a1.aD])<|sV (r0)<|sN<|WC.bX rfl rfl<|sV (.ptr 32 0)<|sL rfl<|sV (.ptr 48 0)<|sL rfl<|bE h fun x1 hx1 h => cD (gr hx1)<|sV (.ptr 32 1)<|sL rfl ?_
 refine sV (.ptr 48 1)<|sL rfl<|bE h fun x2 hx2 h => cD (gr hx2)<|sV (.ptr 32 2)<|sL rfl<|sV (.ptr 48 2)<|sL rfl<|bE h fun x3 hx3 h => cD (gr hx3)<|sV (.ptr 32 3)<|sL rfl<|sV (.ptr 48 3)<|sL rfl<|bE h fun x4 hx4 h => ?_
 refine cD (gr hx4)<|sV (.d (.lst ([x1, x2, x3, x4].map (PD.int .i64))))<|bE h fun x5 hx5 h => cD (v7 hx5)<|sA rfl ?_
 refine sN<|sO<|qR ?_
 exact oI h▸qD
theorem th {a0 : Int} {r : Bool} (h : jg a0 = some r) : EvP prog aw ext0 126 [rI a0] [] (rB r, []) := by
 refine Ev.body rfl Tryz.func126 rfl (by kernel_rfl)<|gS rfl rfl<|sU<|sN<|gS rfl rfl<|sM rfl<|sM rfl<|sV (rB (a0 != a0))<|sA rfl<|sN<|qR ?_
 exact oI h▸qD
theorem eJ {a0 : Int} {a1 : Int} {r : Int} (h : bu a0 a1 = some r) : EvP prog aw ext0 83 [rI a0, rI a1] [] (rI r, []) := by
 refine Ev.body rfl Tryz.func83 rfl (by kernel_rfl)<|gS rfl rfl<|sV (r0)<|sN<|gS rfl rfl<|sM rfl<|bE h fun x1 hx1 h => cD (th hx1)<|sA rfl<|sN<|gS rfl rfl<|sM rfl<|bE h fun x2 hx2 h => cD (th hx2)<|sA rfl ?_
 refine sN<|qS<|gS rfl rfl<|sF h (fun h => ?_) fun h => ?_
 ·refine sN<|cT<|qS<|gS rfl rfl<|sF h (fun h => ?_) fun h => ?_
  ·refine sN<|cT<|gS rfl rfl<|sV (r0)<|sN<|qR ?_
   exact oI h▸qD
  refine sN<|cF<|qK<|gS rfl rfl<|sV (rI (-1))<|sN<|qR ?_
  exact oI h▸qD
 refine sN<|cF<|qK<|qS<|gS rfl rfl<|sF h (fun h => ?_) fun h => ?_
 ·refine sN<|cT<|gS rfl rfl<|sV (rI 1)<|sN<|qR ?_
  exact oI h▸qD
 refine sN<|cF<|qK<|qS<|gS rfl rfl<|sM rfl<|sM rfl<|sF h (fun h => ?_) fun h => ?_
 ·refine sN<|cT<|gS rfl rfl<|sV (rI (-1))<|sN<|qR ?_
  exact oI h▸qD
 refine sN<|cF<|qK<|qS<|gS rfl rfl<|sM rfl<|sM rfl<|sF h (fun h => ?_) fun h => ?_
 ·refine sN<|cT<|gS rfl rfl<|sV (rI 1)<|sN<|qR ?_
  exact oI h▸qD
 refine sN<|cF<|qK<|gS rfl rfl<|sV (r0)<|sN<|qR ?_
 exact oI h▸qD
theorem xA {a0 : aa} {a1 : aa} {r : Int} (h : bf a0 a1 = some r) : EvP prog aw ext0 73 [.d (aa.pd a0), .d (aa.pd a1)] [] (rI r, []) := by
 refine Ev.body rfl Tryz.func73 rfl (by kernel_rfl)<|gS rfl rfl<|sB (.ptr 32 0) 32 (.var (aa.rc a0))<|sB (.ptr 48 0) 48 (.var (aa.rc a1))<|sV (r0)<|sN<|WC.bX rfl rfl<|sV (.ptr 32 0)<|sV (.d (ag.pd a0.ak))<|sV (.ptr 48 0)<|sV (.d (ag.pd a1.ak))<|bE h fun x1 hx1 h => cD (sw hx1)<|sV (.ptr 32 4)<|sL rfl ?_
 refine sV (.ptr 48 4)<|sL rfl<|bE h fun x2 hx2 h => cD (eJ hx2)<|sV (.ptr 32 5)<|sL rfl<|sV (.ptr 48 5)<|sL rfl<|bE h fun x3 hx3 h => cD (eJ hx3)<|sV (.ptr 32 6)<|sL rfl<|sV (.ptr 48 6)<|sL rfl<|bE h fun x4 hx4 h => ?_
 refine cD (eJ hx4)<|sV (.ptr 32 7)<|sL rfl<|sV (.ptr 48 7)<|sL rfl<|bE h fun x5 hx5 h => cD (eJ hx5)<|sV (.ptr 32 8)<|sL rfl<|sV (.ptr 48 8)<|sL rfl<|bE h fun x6 hx6 h => cD (eJ hx6)<|sV (.d (.lst ([x1, x2, x3, x4, x5, x6].map (PD.int .i64))))<|bE h fun x7 hx7 h => ?_
 refine cD (v7 hx7)<|sA rfl ?_
 refine sN<|sO<|qR ?_
 cases oI h
 exact qG
theorem wC {a0 : aj} {a1 : aj} {r : Int} (h : bS a0 a1 = some r) : EvP prog aw ext0 96 [.d (aj.pd a0), .d (aj.pd a1)] [] (rI r, []) := by
 refine Ev.body rfl Tryz.func96 rfl (by kernel_rfl)<|gS rfl rfl<|sB (.ptr 32 0) 32 (.var [rI a0.aJ, rI a0.fTo])<|sB (.ptr 48 0) 48 (.var [rI a1.aJ, rI a1.fTo])<|sV (r0)<|sN<|gS rfl rfl<|sV (.ptr 32 0)<|sL rfl<|sV (.ptr 48 0)<|sL rfl<|bE h fun x1 hx1 h => cD (eJ hx1)<|sA rfl<|sN ?_
 refine qR ?_
 exact oI h▸qD
noncomputable def ext : FuncId → Option dW := fun f => if f = 72 then some (tg 73 52 aa.pd bf) else if f = 88 then some (tg 89 50 ag.pd bY) else if f = 95 then some (tg 96 76 aj.pd bS) else if f = 123 then some (kV 52 9 104) else if f = 87 then some (kV 50 4 64) else if f = 92 then some (kV 76 2 16) else if f = 139 then some (kV 96 8 80) else if f = 181 then some (kV 137 10 96) else if f = 182 then some (kV 3 1 8) else none
theorem xT {l r : List aa} (h : gH bf l = some r) : EvP prog aw ext 72 [.ref 0 0, .d (.raw (.func (.func 73) #[] #[]))] [.arr 0 52 (l.map aa.pd)] (.tup [], [.arr 0 52 (r.map aa.pd)]) := uZ rfl (tj T_api_Pick_inj h)
theorem sort_88_89 {l r : List ag} (h : gH bY l = some r) : EvP prog aw ext 88 [.ref 0 0, .d (.raw (.func (.func 89) #[] #[]))] [.arr 0 50 (l.map ag.pd)] (.tup [], [.arr 0 50 (r.map ag.pd)]) := uZ rfl (tj xm h)
theorem sort_95_96 {l r : List aj} (h : gH bS l = some r) : EvP prog aw ext 95 [.ref 0 0, .d (.raw (.func (.func 96) #[] #[]))] [.arr 0 76 (l.map aj.pd)] (.tup [], [.arr 0 76 (r.map aj.pd)]) := uZ rfl (tj T_api_Span_inj h)
theorem clone_123 {l r : List aa} (h : gh 104 l = some r) : EvP prog aw ext 123 [.d (.lst (l.map aa.pd))] [] (.ref 0 0, [.arr 0 52 (r.map aa.pd)]) := lb (g := aa.pd) rfl (fun _ => rfl) h
theorem clone_87 {l r : List ag} (h : gh 64 l = some r) : EvP prog aw ext 87 [.d (.lst (l.map ag.pd))] [] (.ref 0 0, [.arr 0 50 (r.map ag.pd)]) := lb (g := ag.pd) rfl (fun _ => rfl) h
theorem clone_92 {l r : List aj} (h : gh 16 l = some r) : EvP prog aw ext 92 [.d (.lst (l.map aj.pd))] [] (.ref 0 0, [.arr 0 76 (r.map aj.pd)]) := lb (g := aj.pd) rfl (fun _ => rfl) h
theorem clone_139 {l r : List ai} (h : gh 80 l = some r) : EvP prog aw ext 139 [.d (.lst (l.map ai.pd))] [] (.ref 0 0, [.arr 0 96 (r.map ai.pd)]) := lb (g := ai.pd) rfl (fun _ => rfl) h
theorem clone_181 {l r : List aq} (h : gh 96 l = some r) : EvP prog aw ext 181 [.d (.lst (l.map aq.pd))] [] (.ref 0 0, [.arr 0 137 (r.map aq.pd)]) := lb (g := aq.pd) rfl (fun _ => rfl) h
theorem clone_182 {l r : List Int} (h : gh 8 l = some r) : EvP prog aw ext 182 [.d (.lst (l.map (PD.int .i64)))] [] (.ref 0 0, [.arr 0 3 (r.map (PD.int .i64))]) := lb (g := (PD.int .i64)) rfl (fun _ => rfl) h
theorem qf {a0 : (List Int)} {r : ah} (h : mI a0 = some r) : EvP prog aw ext 8 [.d (.lst (a0.map (PD.int .i64)))] [] (.ptr 0 0, [.var [.d (.lst (r.fL.map (PD.int .i64))), rI r.fAt]]) := by
 refine Ev.body rfl Tryz.func8 rfl (by kernel_rfl)<|gS rfl rfl<|sV (.d (.raw (.pointer none)))<|sN<|gS rfl rfl<|sM rfl<|sM rfl<|sE (rI (a0.length : Int)) (b8 _ _)<|sV (rI (if (2000 : Int) < (a0.length : Int) then (2000 : Int) else (a0.length : Int)))<|bE h fun x1 hx1 h => WO.cutL (sz := 1) (g := (PD.int .i64)) hx1 (fun _ => rfl) rfl rfl rfl rfl rfl rfl rfl rfl rfl rfl rfl<|sV (.d (ah.pd (ah.mk x1 0)))<|sB (.ptr 144 0) 144 (.var [.d (.lst (x1.map (PD.int .i64))), r0])<|sA rfl<|sN ?_
 refine qR ?_
 exact oI h▸qD
theorem Src_Raw_ev {d0 : ah} {r : Int × ah} (h : wG d0 = some r) : EvP prog aw ext 76 [.ptr 0 0] [.var [.d (.lst (d0.fL.map (PD.int .i64))), rI d0.fAt]] (rI r.1, [.var [.d (.lst (r.2.fL.map (PD.int .i64))), rI r.2.fAt]]) := by
 refine Ev.body rfl Tryz.func76 rfl (by kernel_rfl)<|gS rfl rfl<|sV (r0)<|sN<|qS<|WC.bX rfl rfl<|sM rfl<|sV (.ptr 0 0)<|sV (.ptr 0 1)<|sL rfl<|sM rfl<|sV (.ptr 0 0)<|sV (.ptr 0 0)<|sL rfl<|sE (rI (d0.fL.length : Int)) (b8 _ _) ?_
 refine sF h (fun h => ?_) fun h => ?_
 ·refine sN<|sO<|cT<|gS rfl rfl<|sV (r0)<|sN<|qR ?_
  exact oI h▸qD
 refine sN<|sO<|cF<|qK<|gS rfl rfl<|sM rfl<|sV (.ptr 0 0)<|sV (.ptr 0 1)<|sL rfl<|sV (rI (rW (d0.fAt + (1 : Int))))<|sV (.ptr 0 0)<|sV (.ptr 0 1)<|sS 0 (.var [.d (.lst (d0.fL.map (PD.int .i64))), rI (rW (d0.fAt + (1 : Int)))])<|sN<|WC.bX rfl rfl<|sM rfl ?_
 refine sV (.ptr 0 0)<|sV (.ptr 0 0)<|sL rfl<|sM rfl<|sV (.ptr 0 0)<|sV (.ptr 0 1)<|sL rfl<|sV (rI (rW ((rW (d0.fAt + (1 : Int))) - (1 : Int))))<|bE h fun x2 hx2 h => eG hx2 rfl<|sC rfl<|sA rfl ?_
 refine sN<|sO<|qR ?_
 exact oI h▸qD
theorem keep_Mod_ev {a0 : Int} {a1 : Int} {r : Int} (h : sa a0 a1 = some r) : EvP prog aw ext 75 [rI a0, rI a1] [] (rI r, []) := by
 refine Ev.body rfl Tryz.func75 rfl (by kernel_rfl)<|gS rfl rfl<|sV (r0)<|sN<|qS<|gS rfl rfl<|sM rfl<|sF h (fun h => ?_) fun h => ?_
 ·refine sN<|cT<|gS rfl rfl<|sV (r0)<|sN<|qR ?_
  exact oI h▸qD
 refine sN<|cF<|qK<|gS rfl rfl<|sM rfl<|sM rfl<|bE h fun x2 hx2 h => WO.remG hx2 rfl rfl rfl rfl rfl rfl<|sA rfl<|sN<|qS<|gS rfl rfl<|sM rfl<|sF h (fun h => ?_) fun h => ?_
 ·refine sN<|cT<|WC.region rfl rfl<|sM rfl<|sM rfl<|sV (rI (rW (x2 + a1)))<|sA rfl<|sN<|gS rfl rfl<|sM rfl<|sA rfl<|sN<|qR ?_
  exact oI h▸qD
 refine sN<|cF<|qK<|gS rfl rfl<|sM rfl<|sA rfl<|sN<|qR ?_
 exact oI h▸qD
theorem bj {a1 : Int} {d0 : ah} {r : Int × ah} (h : cV a1 d0 = some r) : EvP prog aw ext 35 [.ptr 0 0, rI a1] [.var [.d (.lst (d0.fL.map (PD.int .i64))), rI d0.fAt]] (rI r.1, [.var [.d (.lst (r.2.fL.map (PD.int .i64))), rI r.2.fAt]]) := by
 refine Ev.body rfl Tryz.func35 rfl (by kernel_rfl)<|gS rfl rfl<|sV (r0)<|sN<|gS rfl rfl<|sM rfl<|bE h fun x1 hx1 h => cR (rI x1.1) [(0, .var [.d (.lst (x1.2.fL.map (PD.int .i64))), rI x1.2.fAt])] (Src_Raw_ev hx1)<|sM rfl<|bE h fun x2 hx2 h => cD (keep_Mod_ev hx2)<|sA rfl<|sN<|qR ?_
 exact oI h▸qD
theorem ru {a1 : Int} {d0 : ah} {r : ap × ah} (h : lH a1 d0 = some r) : EvP prog aw ext 41 [.ptr 0 0, rI a1] [.var [.d (.lst (d0.fL.map (PD.int .i64))), rI d0.fAt]] (.d (ap.pd r.1), [.var [.d (.lst (r.2.fL.map (PD.int .i64))), rI r.2.fAt]]) := by
 refine Ev.body rfl Tryz.func41 rfl (by kernel_rfl)<|gS rfl rfl<|sB (.ptr 64 0) 64 (.var [r0, r0, r0])<|sN<|gS rfl rfl<|sM rfl<|sM rfl<|sV (rI (rW ((2 : Int) * a1)))<|sV (rI (rW ((rW ((2 : Int) * a1)) + (1 : Int))))<|bE h fun x1 hx1 h => cR (rI x1.1) [(0, .var [.d (.lst (x1.2.fL.map (PD.int .i64))), rI x1.2.fAt])] (bj hx1)<|sM rfl<|sV (rI (rW (x1.1 - a1)))<|sM rfl<|sM rfl ?_
 refine sV (rI (rW ((2 : Int) * a1)))<|sV (rI (rW ((rW ((2 : Int) * a1)) + (1 : Int))))<|bE h fun x2 hx2 h => cR (rI x2.1) [(0, .var [.d (.lst (x2.2.fL.map (PD.int .i64))), rI x2.2.fAt])] (bj hx2)<|sM rfl<|sV (rI (rW (x2.1 - a1)))<|sM rfl<|sM rfl<|sV (rI (rW (a1 + (1 : Int))))<|bE h fun x3 hx3 h => cR (rI x3.1) [(0, .var [.d (.lst (x3.2.fL.map (PD.int .i64))), rI x3.2.fAt])] (bj hx3)<|sV (.d (ap.pd (ap.mk (rW (x1.1 - a1)) (rW (x2.1 - a1)) x3.1)))<|sS 64 (.var [rI (rW (x1.1 - a1)), rI (rW (x2.1 - a1)), rI x3.1])<|sN<|qR ?_
 exact oI h▸qD
theorem Src_Box_ev {a1 : Int} {a2 : Int} {d0 : ah} {r : aP × ah} (h : wF a1 a2 d0 = some r) : EvP prog aw ext 77 [.ptr 0 0, rI a1, rI a2] [.var [.d (.lst (d0.fL.map (PD.int .i64))), rI d0.fAt]] (.d (aP.pd r.1), [.var [.d (.lst (r.2.fL.map (PD.int .i64))), rI r.2.fAt]]) := by
 refine Ev.body rfl Tryz.func77 rfl (by kernel_rfl)<|gS rfl rfl<|sB (.ptr 96 0) 96 (.var [r0, r0, r0, r0, r0, r0])<|sN<|gS rfl rfl<|sM rfl<|sM rfl<|bE h fun x1 hx1 h => cR (.d (ap.pd x1.1)) [(0, .var [.d (.lst (x1.2.fL.map (PD.int .i64))), rI x1.2.fAt])] (ru hx1)<|sB (.ptr 112 0) 112 (.var [r0, r0, r0])<|sS 112 (.var [rI x1.1.fX, rI x1.1.fY, rI x1.1.fZ])<|sN<|WC.bX rfl rfl<|sV (.d (ap.pd x1.1))<|sV (.ptr 112 0) ?_
 refine sL rfl<|sM rfl<|sM rfl<|sV (rI (rW (a2 + (1 : Int))))<|bE h fun x2 hx2 h => cR (rI x2.1) [(0, .var [.d (.lst (x2.2.fL.map (PD.int .i64))), rI x2.2.fAt])] (bj hx2)<|sV (rI (rW (x1.1.fX + x2.1)))<|sV (.ptr 112 1)<|sL rfl<|sM rfl<|sM rfl<|sV (rI (rW (a2 + (1 : Int))))<|bE h fun x3 hx3 h => cR (rI x3.1) [(0, .var [.d (.lst (x3.2.fL.map (PD.int .i64))), rI x3.2.fAt])] (bj hx3)<|sV (rI (rW (x1.1.fY + x3.1))) ?_
 refine sV (.ptr 112 2)<|sL rfl<|sM rfl<|sM rfl<|sV (rI (rW (a2 + (1 : Int))))<|bE h fun x4 hx4 h => cR (rI x4.1) [(0, .var [.d (.lst (x4.2.fL.map (PD.int .i64))), rI x4.2.fAt])] (bj hx4)<|sV (rI (rW (x1.1.fZ + x4.1)))<|sV (.d (ap.pd (ap.mk (rW (x1.1.fX + x2.1)) (rW (x1.1.fY + x3.1)) (rW (x1.1.fZ + x4.1)))))<|sG (.d (aP.pd (aP.mk x1.1 (ap.mk (rW (x1.1.fX + x2.1)) (rW (x1.1.fY + x3.1)) (rW (x1.1.fZ + x4.1))))))<|sH 96 (.var [rI x1.1.fX, rI x1.1.fY, rI x1.1.fZ, rI (rW (x1.1.fX + x2.1)), rI (rW (x1.1.fY + x3.1)), rI (rW (x1.1.fZ + x4.1))]) ?_
 refine sN<|sO<|qR ?_
 cases oI h
 exact qG
theorem cz {a1 : (List Int)} {d0 : ah} {r : Int × ah} (h : di a1 d0 = some r) : EvP prog aw ext 12 [.ptr 0 0, .d (.lst (a1.map (PD.int .i64)))] [.var [.d (.lst (d0.fL.map (PD.int .i64))), rI d0.fAt]] (rI r.1, [.var [.d (.lst (r.2.fL.map (PD.int .i64))), rI r.2.fAt]]) := by
 refine Ev.body rfl Tryz.func12 rfl (by kernel_rfl)<|gS rfl rfl<|sV (r0)<|sN<|gS rfl rfl<|sM rfl<|sM rfl<|sM rfl<|sE (rI (a1.length : Int)) (b8 _ _)<|bE h fun x1 hx1 h => cR (rI x1.1) [(0, .var [.d (.lst (x1.2.fL.map (PD.int .i64))), rI x1.2.fAt])] (bj hx1)<|bE h fun x2 hx2 h => eG hx2 rfl<|sC rfl<|sA rfl ?_
 refine sN<|qR ?_
 exact oI h▸qD
theorem ya {d0 : ah} {r : aO × ah} (h : oV d0 = some r) : EvP prog aw ext 78 [.ptr 0 0] [.var [.d (.lst (d0.fL.map (PD.int .i64))), rI d0.fAt]] (.agg [rI r.1.bJ, .ref 1 0, .ref 2 0], [.var [.d (.lst (r.2.fL.map (PD.int .i64))), rI r.2.fAt], .arr 0 3 (r.1.bd.map (PD.int .i64)), .arr 0 3 (r.1.aZ.map (PD.int .i64))]) := by
 refine Ev.body rfl Tryz.func78 rfl (by kernel_rfl)<|gS rfl rfl<|sB (.ptr 32 0) 32 (.var [r0, .cu, .cu])<|sN<|gS rfl rfl<|sM rfl<|sV (.d (.lst ([20, 25, 40, 100].map (PD.int .i64))))<|bE h fun x1 hx1 h => cR (rI x1.1) [(0, .var [.d (.lst (x1.2.fL.map (PD.int .i64))), rI x1.2.fAt])] (cz hx1)<|sV (.agg [rI x1.1, .cu, .cu])<|sB (.ptr 48 0) 48 (.var [r0, .cu, .cu])<|sS 48 (.var [rI x1.1, .cu, .cu])<|sN<|gS rfl rfl<|sM rfl ?_
 refine bE h fun x2 hx2 h => cR (rI x2.1) [(0, .var [.d (.lst (x2.2.fL.map (PD.int .i64))), rI x2.2.fAt])] (bj hx2)<|sV (r0)<|sA rfl<|sN<|qS<|gS rfl rfl<|sV (r0)<|sN<|bE h fun o24 ho24 h => WC.block (WC.loop (WL.cv ho24 (fun s R' B' => bg prog 1 (A R' B') (aw.at_ 78 1 4) = some (A [(0, .ptr 0 0), (2, .ptr 32 0), (3, .ptr 48 0), (4, rI s.1), (5, rI s.2.1), (6, rI s.2.2.1)] [(0, .var [.d (.lst (s.2.2.2.1.map (PD.int .i64))), rI s.2.2.2.2.1]), (32, .var [r0, .cu, .cu]), (48, .var [rI x1.1, .ref 432 0, .ref 512 0]), (432, .arr 0 3 (s.2.2.2.2.2.1.map (PD.int .i64))), (512, .arr 0 3 (s.2.2.2.2.2.2.map (PD.int .i64)))])) (fun o e R' B' => e = .exit 0 ∧ bg prog 1 (A R' B') (aw.at_ 78 1 9) = some (A [(2, .ptr 32 0), (3, .ptr 48 0)] [(0, .var [.d (.lst (o.1.map (PD.int .i64))), rI o.2.1]), (32, .var [r0, .cu, .cu]), (48, .var [rI x1.1, .ref 432 0, .ref 512 0]), (432, .arr 0 3 (o.2.2.1.map (PD.int .i64))), (512, .arr 0 3 (o.2.2.2.map (PD.int .i64)))])) rfl ?_ ?_))
 ·rintro ⟨s3, s4, s5, s6, s7, s8, s9⟩ R' B' q14 hI h
  refine qS<|WC.bX hI rfl<|sM rfl<|sV (.ptr 48 0)<|sL rfl<|bE h fun x15 hx15 h => WO.quoG hx15 rfl rfl rfl rfl rfl rfl<|sM rfl<|bE h fun x16 hx16 h => cR (rI x16.1) [(0, .var [.d (.lst (x16.2.fL.map (PD.int .i64))), rI x16.2.fAt])] (bj hx16)<|sV (rI (rW (x15 + x16.1)))<|sF h (fun h => ?_) fun h => ?_
  ·refine sN<|sO<|cT<|qK<|qS<|qB<|WC.bX rfl rfl<|sV (.ptr 48 1)<|sL rfl<|sM rfl<|sV (.d (.lst ([s3].map (PD.int .i64))))<|bE h fun x18 hx18 h => aR hx18 (fun _ => rfl) rfl<|sV (.ptr 48 2)<|sL rfl<|sM rfl ?_
   refine sV (.d (.lst ([s4].map (PD.int .i64))))<|bE h fun x19 hx19 h => aR hx19 (fun _ => rfl) rfl<|sV (.ptr 48 1)<|sS 48 (.var [rI x1.1, .ref 432 1, .ref 512 0])<|sV (.ptr 48 2)<|sS 48 (.var [rI x1.1, .ref 432 1, .ref 512 1]) ?_
   refine sN<|sO<|WC.bX rfl rfl<|sM rfl<|sM rfl<|sV (.d (.lst ([0, 10, 20, 35].map (PD.int .i64))))<|bE h fun x20 hx20 h => cR (rI x20.1) [(0, .var [.d (.lst (x20.2.fL.map (PD.int .i64))), rI x20.2.fAt])] (cz hx20)<|sV (.ptr 48 0)<|sL rfl<|bE h fun x21 hx21 h => WO.quoG hx21 rfl rfl rfl rfl rfl rfl<|sV (rI (rW (x20.1 + x21)))<|sV (rI (rW (s3 + (rW (x20.1 + x21)))))<|sA rfl ?_
   refine sN<|sO<|WC.region rfl rfl<|sM rfl<|sM rfl<|sV (rI (if (rW (s3 + (rW (x20.1 + x21)))) > s4 then (rW (s3 + (rW (x20.1 + x21)))) else s4))<|sM rfl<|sV (.d (.lst ([0, 0, 5, 30].map (PD.int .i64))))<|bE h fun x22 hx22 h => cR (rI x22.1) [(0, .var [.d (.lst (x22.2.fL.map (PD.int .i64))), rI x22.2.fAt])] (cz hx22)<|sV (rI (rW ((if (rW (s3 + (rW (x20.1 + x21)))) > s4 then (rW (s3 + (rW (x20.1 + x21)))) else s4) + x22.1)))<|sA rfl<|sN<|WC.region rfl rfl<|sM rfl<|sV (rI (rW (s5 + (1 : Int)))) ?_
   refine sA rfl<|sN ?_
   cases oI h
   exact ⟨rfl, rfl⟩
  refine sN<|sO<|cF<|qX ?_
  cases oI h
  exact ⟨nofun, rfl, rfl⟩
 intro e R' B' he hq
 obtain ⟨rfl, hI⟩ := hq
 refine qE<|gS rfl hI<|sV (.agg [rI x1.1, .ref 432 0, .ref 512 0])<|sS 32 (.var [rI x1.1, .ref 432 0, .ref 512 0])<|sN<|qR ?_
 exact oI h▸qD
theorem xj {a1 : Int} {d0 : ah} {r : ba × ah} (h : iE a1 d0 = some r) : EvP prog aw ext 39 [.ptr 0 0, rI a1] [.var [.d (.lst (d0.fL.map (PD.int .i64))), rI d0.fAt]] (.d (ba.pd r.1), [.var [.d (.lst (r.2.fL.map (PD.int .i64))), rI r.2.fAt]]) := by
 refine Ev.body rfl Tryz.func39 rfl (by kernel_rfl)<|gS rfl rfl<|sB (.ptr 64 0) 64 (.var [r0, r0, r0, r0, r0, r0, r0, .cu, .cu, r0, r0, r0, r0, r0])<|sN<|gS rfl rfl<|sM rfl<|sM rfl<|bE h fun x1 hx1 h => cR (.d (aP.pd x1.1)) [(0, .var [.d (.lst (x1.2.fL.map (PD.int .i64))), rI x1.2.fAt])] (Src_Box_ev hx1)<|sM rfl<|bE h fun x2 hx2 h => cR (.agg [rI x2.1.bJ, .ref 144 0, .ref 145 0]) [(0, .var [.d (.lst (x2.2.fL.map (PD.int .i64))), rI x2.2.fAt]), (144, .arr 0 3 (x2.1.bd.map (PD.int .i64))), (145, .arr 0 3 (x2.1.aZ.map (PD.int .i64)))] (ya hx2)<|sM rfl<|sV (.d (.lst ([10, 50, 200].map (PD.int .i64))))<|bE h fun x3 hx3 h => ?_
 refine cR (rI x3.1) [(0, .var [.d (.lst (x3.2.fL.map (PD.int .i64))), rI x3.2.fAt])] (cz hx3)<|sM rfl<|sV (.d (.lst ([0, 0, 10, 40].map (PD.int .i64))))<|bE h fun x4 hx4 h => cR (rI x4.1) [(0, .var [.d (.lst (x4.2.fL.map (PD.int .i64))), rI x4.2.fAt])] (cz hx4)<|sM rfl<|sV (.d (.lst ([0, 50, 200, 400].map (PD.int .i64))))<|bE h fun x5 hx5 h => cR (rI x5.1) [(0, .var [.d (.lst (x5.2.fL.map (PD.int .i64))), rI x5.2.fAt])] (cz hx5)<|sM rfl<|sV (.d (.lst ([0, 5, 20].map (PD.int .i64))))<|bE h fun x6 hx6 h => cR (rI x6.1) [(0, .var [.d (.lst (x6.2.fL.map (PD.int .i64))), rI x6.2.fAt])] (cz hx6)<|sM rfl<|bE h fun x7 hx7 h => ?_
 refine cR (rI x7.1) [(0, .var [.d (.lst (x7.2.fL.map (PD.int .i64))), rI x7.2.fAt])] (bj hx7)<|sV (rI (rW ((2 : Int) + x7.1)))<|sG (.agg [rI x1.1.bd.fX, rI x1.1.bd.fY, rI x1.1.bd.fZ, rI x1.1.aZ.fX, rI x1.1.aZ.fY, rI x1.1.aZ.fZ, rI x2.1.bJ, .ref 144 0, .ref 145 0, rI x3.1, rI x4.1, rI x5.1, rI x6.1, rI (rW ((2 : Int) + x7.1))])<|sH 64 (.var [rI x1.1.bd.fX, rI x1.1.bd.fY, rI x1.1.bd.fZ, rI x1.1.aZ.fX, rI x1.1.aZ.fY, rI x1.1.aZ.fZ, rI x2.1.bJ, .ref 144 0, .ref 145 0, rI x3.1, rI x4.1, rI x5.1, rI x6.1, rI (rW ((2 : Int) + x7.1))])<|sN<|qR ?_
 cases oI h
 exact qG
theorem Src_Scale_ev {d0 : ah} {r : cr × ah} (h : rD d0 = some r) : EvP prog aw ext 40 [.ptr 0 0] [.var [.d (.lst (d0.fL.map (PD.int .i64))), rI d0.fAt]] (.d (cr.pd r.1), [.var [.d (.lst (r.2.fL.map (PD.int .i64))), rI r.2.fAt]]) := by
 refine Ev.body rfl Tryz.func40 rfl (by kernel_rfl)<|gS rfl rfl<|sB (.ptr 32 0) 32 (.var [r0, .cu, .cu, r0, r0])<|sN<|gS rfl rfl<|sM rfl<|bE h fun x1 hx1 h => cR (.agg [rI x1.1.bJ, .ref 96 0, .ref 97 0]) [(0, .var [.d (.lst (x1.2.fL.map (PD.int .i64))), rI x1.2.fAt]), (96, .arr 0 3 (x1.1.bd.map (PD.int .i64))), (97, .arr 0 3 (x1.1.aZ.map (PD.int .i64)))] (ya hx1)<|sM rfl<|bE h fun x2 hx2 h => cR (rI x2.1) [(0, .var [.d (.lst (x2.2.fL.map (PD.int .i64))), rI x2.2.fAt])] (bj hx2)<|sM rfl<|bE h fun x3 hx3 h => cR (rI x3.1) [(0, .var [.d (.lst (x3.2.fL.map (PD.int .i64))), rI x3.2.fAt])] (bj hx3)<|sV (rI (rW ((1 : Int) + x3.1))) ?_
 refine sV (.agg [rI x1.1.bJ, .ref 96 0, .ref 97 0, rI x2.1, rI (rW ((1 : Int) + x3.1))])<|sB (.ptr 48 0) 48 (.var [r0, .cu, .cu, r0, r0])<|sS 48 (.var [rI x1.1.bJ, .ref 96 0, .ref 97 0, rI x2.1, rI (rW ((1 : Int) + x3.1))])<|sN<|qS<|gS rfl rfl<|sV (.ptr 48 0)<|sV (.ptr 48 1)<|sL rfl<|WO.kb rfl rfl rfl rfl rfl rfl rfl rfl rfl<|sV (r0)<|sN<|bE h fun o26 ho26 h => WC.block (WC.loop (WL.cv ho26 (fun s R' B' => bg prog 1 (A R' B') (aw.at_ 40 1 3) = some (A [(2, .ptr 32 0), (3, .ptr 48 0), (16, rI (x1.1.bd.length : Int)), (17, rI s.1)] [(0, .var [.d (.lst (x3.2.fL.map (PD.int .i64))), rI x3.2.fAt]), (32, .var [r0, .cu, .cu, r0, r0]), (48, .var [rI x1.1.bJ, .ref 96 0, .ref 97 0, rI x2.1, rI (rW ((1 : Int) + x3.1))]), (96, .arr 0 3 (s.2.1.map (PD.int .i64))), (97, .arr 0 3 (s.2.2.map (PD.int .i64)))])) (fun o e R' B' => e = .exit 0 ∧ bg prog 1 (A R' B') (aw.at_ 40 1 7) = some (A [(2, .ptr 32 0), (3, .ptr 48 0)] [(0, .var [.d (.lst (x3.2.fL.map (PD.int .i64))), rI x3.2.fAt]), (32, .var [r0, .cu, .cu, r0, r0]), (48, .var [rI x1.1.bJ, .ref 96 0, .ref 97 0, rI x2.1, rI (rW ((1 : Int) + x3.1))]), (96, .arr 0 3 (o.1.map (PD.int .i64))), (97, .arr 0 3 (o.2.map (PD.int .i64)))])) rfl ?_ ?_))
 ·rintro ⟨s4, s5, s6⟩ R' B' q9 hI h
  refine gS rfl hI<|sF h (fun h => ?_) fun h => ?_
  ·refine sN<|qS<|cT<|qK<|qS<|qB<|gS rfl rfl<|sM rfl<|sA rfl<|sN<|WC.eP rfl rfl<|sV (.ptr 48 0)<|sV (.ptr 48 1)<|sL rfl<|sM rfl ?_
   refine sV (.ptr 48 0)<|sV (.ptr 48 2)<|sL rfl<|sM rfl<|sV (.ptr 48 0)<|sV (.ptr 48 1)<|sL rfl<|sM rfl<|bE h fun x12 hx12 h => WO.eE hx12 rfl rfl rfl rfl rfl rfl rfl rfl<|bE h fun x13 hx13 h => WO.eD hx13 rfl rfl rfl rfl rfl rfl<|bE h fun x14 hx14 h => WO.quoG hx14 rfl rfl rfl rfl rfl rfl<|sV (.ptr 48 0) ?_
   refine sV (.ptr 48 2)<|sL rfl<|sM rfl<|bE h fun x16 hx16 h => WO.eE hx16 rfl rfl rfl rfl rfl rfl rfl rfl<|bE h fun x17 hx17 h => WO.eD hx17 rfl rfl rfl rfl rfl rfl<|bE h fun x18 hx18 h => WO.quoG hx18 rfl rfl rfl rfl rfl rfl<|bE h fun x20 hx20 h => WO.eE hx20 rfl rfl rfl rfl rfl rfl rfl rfl<|bE h fun x21 hx21 h => WO.jP (g := (PD.int .i64)) (sz := 1) (p := .int .i64 x14) hx21 (fun _ => rfl) (fun _ => rfl) rfl rfl rfl rfl rfl rfl rfl rfl rfl<|bE h fun x23 hx23 h => WO.eE hx23 rfl rfl rfl rfl rfl rfl rfl rfl ?_
   refine bE h fun x24 hx24 h => WO.jP (g := (PD.int .i64)) (sz := 1) (p := .int .i64 x18) hx24 (fun _ => rfl) (fun _ => rfl) rfl rfl rfl rfl rfl rfl rfl rfl rfl ?_
   refine sN<|sO<|WC.region rfl rfl<|sV (rI (rW (s4 + (1 : Int))))<|sM rfl<|sN ?_
   cases oI h
   exact ⟨rfl, rfl⟩
  refine sN<|qS<|cF<|qX ?_
  cases oI h
  exact ⟨nofun, rfl, rfl⟩
 intro e R' B' he hq
 obtain ⟨rfl, hI⟩ := hq
 refine qE<|gS rfl hI<|sV (.agg [rI x1.1.bJ, .ref 96 0, .ref 97 0, rI x2.1, rI (rW ((1 : Int) + x3.1))])<|sS 32 (.var [rI x1.1.bJ, .ref 96 0, .ref 97 0, rI x2.1, rI (rW ((1 : Int) + x3.1))])<|sN<|qR ?_
 exact oI h▸qD
theorem kg {a1 : Int} {d0 : ah} {r : aI × ah} (h : fr a1 d0 = some r) : EvP prog aw ext 10 [.ptr 0 0, rI a1] [.var [.d (.lst (d0.fL.map (PD.int .i64))), rI d0.fAt]] (.d (aI.pd r.1), [.var [.d (.lst (r.2.fL.map (PD.int .i64))), rI r.2.fAt]]) := by
 refine Ev.body rfl Tryz.func10 rfl (by kernel_rfl)<|gS rfl rfl<|sB (.ptr 64 0) 64 (.var zZ0)<|sN<|gS rfl rfl<|sM rfl<|sM rfl<|bE h fun x1 hx1 h => cR (.d (ba.pd x1.1)) [(0, .var [.d (.lst (x1.2.fL.map (PD.int .i64))), rI x1.2.fAt])] (xj hx1)<|sM rfl<|bE h fun x2 hx2 h => cR (.d (cr.pd x2.1)) [(0, .var [.d (.lst (x2.2.fL.map (PD.int .i64))), rI x2.2.fAt])] (Src_Scale_ev hx2)<|sM rfl<|sV (.d (.lst ([0, 0, 10, 40].map (PD.int .i64))))<|bE h fun x3 hx3 h => ?_
 refine cR (rI x3.1) [(0, .var [.d (.lst (x3.2.fL.map (PD.int .i64))), rI x3.2.fAt])] (cz hx3)<|sG (.d (.agg [.int .i64 x1.1.aW.bd.fX, .int .i64 x1.1.aW.bd.fY, .int .i64 x1.1.aW.bd.fZ, .int .i64 x1.1.aW.aZ.fX, .int .i64 x1.1.aW.aZ.fY, .int .i64 x1.1.aW.aZ.fZ, .int .i64 x1.1.bp.bJ, .lst (x1.1.bp.bd.map (PD.int .i64)), .lst (x1.1.bp.aZ.map (PD.int .i64)), .int .i64 x1.1.xw, .int .i64 x1.1.bw, .int .i64 x1.1.nZ, .int .i64 x1.1.na, .int .i64 x1.1.m9, .int .i64 x2.1.a7.bJ, .lst (x2.1.a7.bd.map (PD.int .i64)), .lst (x2.1.a7.aZ.map (PD.int .i64)), .int .i64 x2.1.aU, .int .i64 x2.1.aS, .int .i64 x3.1]))<|sH 64 (.var [rI x1.1.aW.bd.fX, rI x1.1.aW.bd.fY, rI x1.1.aW.bd.fZ, rI x1.1.aW.aZ.fX, rI x1.1.aW.aZ.fY, rI x1.1.aW.aZ.fZ, rI x1.1.bp.bJ, .d (.lst (x1.1.bp.bd.map (PD.int .i64))), .d (.lst (x1.1.bp.aZ.map (PD.int .i64))), rI x1.1.xw, rI x1.1.bw, rI x1.1.nZ, rI x1.1.na, rI x1.1.m9, rI x2.1.a7.bJ, .d (.lst (x2.1.a7.bd.map (PD.int .i64))), .d (.lst (x2.1.a7.aZ.map (PD.int .i64))), rI x2.1.aU, rI x2.1.aS, rI x3.1])<|sN<|qR ?_
 cases oI h
 exact qG
theorem qC {d0 : ah} {r : aB × ah} (h : fq d0 = some r) : EvP prog aw ext 42 [.ptr 0 0] [.var [.d (.lst (d0.fL.map (PD.int .i64))), rI d0.fAt]] (.d (aB.pd r.1), [.var [.d (.lst (r.2.fL.map (PD.int .i64))), rI r.2.fAt]]) := by
 refine Ev.body rfl Tryz.func42 rfl (by kernel_rfl)<|gS rfl rfl<|sB (.ptr 32 0) 32 (.var [.cu])<|sN<|gS rfl rfl<|sB (.ptr 48 0) 48 (.var [.cu])<|sN<|qS<|gS rfl rfl<|sM rfl<|bE h fun x1 hx1 h => cR (rI x1.1) [(0, .var [.d (.lst (x1.2.fL.map (PD.int .i64))), rI x1.2.fAt])] (bj hx1)<|sA rfl<|sN<|bE h fun o28 ho28 h => ?_
 refine WC.block (WC.loop (WL.cv ho28 (fun s R' B' => bg prog 1 (A R' B') (aw.at_ 42 1 3) = some (A [(0, .ptr 0 0), (2, .ptr 32 0), (3, .ptr 48 0), (4, rI s.1)] [(0, .var [.d (.lst (s.2.1.map (PD.int .i64))), rI s.2.2.1]), (32, .var [.cu]), (48, .var [.ref 1040 0]), (1040, .arr 0 137 (s.2.2.2.map aq.pd))])) (fun o e R' B' => e = .exit 0 ∧ bg prog 1 (A R' B') (aw.at_ 42 1 13) = some (A [(2, .ptr 32 0), (3, .ptr 48 0)] [(0, .var [.d (.lst (o.1.map (PD.int .i64))), rI o.2.1]), (32, .var [.cu]), (48, .var [.ref 1040 0]), (1040, .arr 0 137 (o.2.2.map aq.pd))])) rfl ?_ ?_))
 ·rintro ⟨s2, s3, s4, s5⟩ R' B' q9 hI h
  refine qS<|gS rfl hI<|sM rfl<|sF h (fun h => ?_) fun h => ?_
  ·refine sN<|cT<|qK<|qS<|qB<|gS rfl rfl<|sM rfl<|bE h fun x11 hx11 h => cR (rI x11.1) [(0, .var [.d (.lst (x11.2.fL.map (PD.int .i64))), rI x11.2.fAt])] (bj hx11)<|sG (.agg [rI x11.1, r0, r0, r0, r0, r0, r0, .cu, r0, r0])<|sB (.ptr 80 0) 80 (.var [r0, r0, r0, r0, r0, r0, r0, .cu, r0, r0])<|sH 80 (.var [rI x11.1, r0, r0, r0, r0, r0, r0, .cu, r0, r0])<|sN<|qS<|gS rfl rfl ?_
   refine sV (.ptr 80 0)<|sL rfl<|sN<|qB<|gS rfl rfl<|sF h (fun h => ?_) fun h => ?_
   ·refine sA rfl<|sN<|cT<|WC.region rfl rfl<|sM rfl<|sV (.d (.lst ([0, 1, 9, 99, 1048575].map (PD.int .i64))))<|bE h fun x13 hx13 h => cR (rI x13.1) [(0, .var [.d (.lst (x13.2.fL.map (PD.int .i64))), rI x13.2.fAt])] (cz hx13)<|sV (rI (rW ((1 : Int) + x13.1)))<|sM rfl<|sV (.d (.lst ([0, 0, 2, 9, 999].map (PD.int .i64))))<|bE h fun x14 hx14 h => cR (rI x14.1) [(0, .var [.d (.lst (x14.2.fL.map (PD.int .i64))), rI x14.2.fAt])] (cz hx14)<|sV (rI (rW ((1 : Int) + x14.1)))<|sV (.ptr 80 1) ?_
    refine sV (.ptr 80 1)<|sS 80 (.var [rI x11.1, rI (rW ((1 : Int) + x13.1)), r0, r0, r0, r0, r0, .cu, r0, r0])<|sV (.ptr 80 4)<|sV (.ptr 80 4)<|sS 80 (.var [rI x11.1, rI (rW ((1 : Int) + x13.1)), r0, r0, rI (rW ((1 : Int) + x14.1)), r0, r0, .cu, r0, r0])<|sN<|WC.region rfl rfl<|sV (.ptr 48 0)<|sL rfl<|sV (.agg [rI x11.1, rI (rW ((1 : Int) + x13.1)), r0, r0, rI (rW ((1 : Int) + x14.1)), r0, r0, .cu, r0, r0])<|sG (.d (.lst ([(aq.mk x11.1 (aV.mk (rW ((1 : Int) + x13.1)) 0 0) (aV.mk (rW ((1 : Int) + x14.1)) 0 0) [] 0 0)].map aq.pd)))<|bE h fun x15 hx15 h => aR hx15 (fun _ => rfl) rfl<|sV (.ptr 48 0)<|sS 48 (.var [.ref 1040 1]) ?_
    refine sN<|WC.region rfl rfl<|sM rfl<|sV (rI (rW (s2 - (1 : Int))))<|sA rfl<|sN ?_
    cases oI h
    exact ⟨rfl, rfl⟩
   refine sA rfl<|sN<|cF<|gS rfl rfl<|sF h (fun h => ?_) fun h => ?_
   ·refine sA rfl<|sN<|cT<|WC.region rfl rfl<|sM rfl<|bE h fun x17 hx17 h => cR (rI x17.1) [(0, .var [.d (.lst (x17.2.fL.map (PD.int .i64))), rI x17.2.fAt])] (bj hx17)<|sM rfl<|bE h fun x18 hx18 h => cR (rI x18.1) [(0, .var [.d (.lst (x18.2.fL.map (PD.int .i64))), rI x18.2.fAt])] (bj hx18)<|sV (rI (rW (x18.1 - (3 : Int))))<|sM rfl<|bE h fun x19 hx19 h => cR (rI x19.1) [(0, .var [.d (.lst (x19.2.fL.map (PD.int .i64))), rI x19.2.fAt])] (bj hx19)<|sV (rI (rW (x19.1 - (1 : Int)))) ?_
    refine sV (.d (aV.pd (aV.mk x17.1 (rW (x18.1 - (3 : Int))) (rW (x19.1 - (1 : Int))))))<|sM rfl<|bE h fun x20 hx20 h => cR (rI x20.1) [(0, .var [.d (.lst (x20.2.fL.map (PD.int .i64))), rI x20.2.fAt])] (bj hx20)<|sV (rI (rW ((1 : Int) + x20.1)))<|sM rfl<|bE h fun x21 hx21 h => cR (rI x21.1) [(0, .var [.d (.lst (x21.2.fL.map (PD.int .i64))), rI x21.2.fAt])] (bj hx21)<|sM rfl<|bE h fun x22 hx22 h => cR (rI x22.1) [(0, .var [.d (.lst (x22.2.fL.map (PD.int .i64))), rI x22.2.fAt])] (bj hx22)<|sV (.d (aV.pd (aV.mk (rW ((1 : Int) + x20.1)) x21.1 x22.1)))<|sV (.ptr 80 1)<|sS 80 (.var [rI x11.1, rI x17.1, rI (rW (x18.1 - (3 : Int))), rI (rW (x19.1 - (1 : Int))), r0, r0, r0, .cu, r0, r0])<|sV (.ptr 80 4) ?_
    refine sS 80 (.var [rI x11.1, rI x17.1, rI (rW (x18.1 - (3 : Int))), rI (rW (x19.1 - (1 : Int))), rI (rW ((1 : Int) + x20.1)), rI x21.1, rI x22.1, .cu, r0, r0])<|sN<|WC.region rfl rfl<|sV (.ptr 48 0)<|sL rfl<|sV (.agg [rI x11.1, rI x17.1, rI (rW (x18.1 - (3 : Int))), rI (rW (x19.1 - (1 : Int))), rI (rW ((1 : Int) + x20.1)), rI x21.1, rI x22.1, .cu, r0, r0])<|sG (.d (.lst ([(aq.mk x11.1 (aV.mk x17.1 (rW (x18.1 - (3 : Int))) (rW (x19.1 - (1 : Int)))) (aV.mk (rW ((1 : Int) + x20.1)) x21.1 x22.1) [] 0 0)].map aq.pd)))<|bE h fun x23 hx23 h => aR hx23 (fun _ => rfl) rfl<|sV (.ptr 48 0)<|sS 48 (.var [.ref 1040 1])<|sN<|WC.region rfl rfl<|sM rfl<|sV (rI (rW (s2 - (1 : Int)))) ?_
    refine sA rfl<|sN ?_
    cases oI h
    exact ⟨rfl, rfl⟩
   refine sA rfl<|sN<|cF<|WC.region rfl rfl<|sM rfl<|bE h fun x24 hx24 h => cR (rI x24.1) [(0, .var [.d (.lst (x24.2.fL.map (PD.int .i64))), rI x24.2.fAt])] (bj hx24)<|sV (rI (rW ((1 : Int) + x24.1)))<|sV (.d (.lst ([(rW ((1 : Int) + x24.1)), 2, 1].map (PD.int .i64))))<|sM rfl<|bE h fun x25 hx25 h => cR (rI x25.1) [(0, .var [.d (.lst (x25.2.fL.map (PD.int .i64))), rI x25.2.fAt])] (bj hx25)<|sV (.ptr 80 7)<|sS 80 (.var [rI x11.1, r0, r0, r0, r0, r0, r0, .d (.lst ([(rW ((1 : Int) + x24.1)), 2, 1].map (PD.int .i64))), r0, r0])<|sV (.ptr 80 8) ?_
   refine sS 80 (.var [rI x11.1, r0, r0, r0, r0, r0, r0, .d (.lst ([(rW ((1 : Int) + x24.1)), 2, 1].map (PD.int .i64))), rI 1, r0])<|sV (.ptr 80 9)<|sS 80 (.var [rI x11.1, r0, r0, r0, r0, r0, r0, .d (.lst ([(rW ((1 : Int) + x24.1)), 2, 1].map (PD.int .i64))), rI 1, rI x25.1])<|sN<|WC.region rfl rfl<|sV (.ptr 48 0)<|sL rfl<|sV (.d (.agg [.int .i64 x11.1, .int .i64 0, .int .i64 0, .int .i64 0, .int .i64 0, .int .i64 0, .int .i64 0, .lst ([(rW ((1 : Int) + x24.1)), 2, 1].map (PD.int .i64)), .int .i64 1, .int .i64 x25.1]))<|sG (.d (.lst ([(aq.mk x11.1 (aV.mk 0 0 0) (aV.mk 0 0 0) [(rW ((1 : Int) + x24.1)), 2, 1] 1 x25.1)].map aq.pd)))<|bE h fun x26 hx26 h => aR hx26 (fun _ => rfl) rfl<|sV (.ptr 48 0)<|sS 48 (.var [.ref 1040 1])<|sN<|WC.region rfl rfl ?_
   refine sM rfl<|sV (rI (rW (s2 - (1 : Int))))<|sA rfl<|sN ?_
   cases oI h
   exact ⟨rfl, rfl⟩
  refine sN<|cF<|qX ?_
  cases oI h
  exact ⟨nofun, rfl, rfl⟩
 intro e R' B' he hq
 obtain ⟨rfl, hI⟩ := hq
 refine qE<|gS rfl hI<|sV (.agg [.ref 1040 0])<|sS 32 (.var [.ref 1040 0])<|sN<|qR ?_
 exact oI h▸qD
theorem n9 {a0 : Int} {r : ag} (h : dF a0 = some r) : EvP prog aw ext 36 [rI a0] [] (.d (ag.pd r), []) := by
 refine Ev.body rfl Tryz.func36 rfl (by kernel_rfl)<|gS rfl rfl<|sB (.ptr 32 0) 32 (.var [rS [], rS [], rS [], rS []])<|sN<|gS rfl rfl<|sV (.d (.lst ([[83, 49], [83, 50], [83, 51], [83, 52], [83, 53], [83, 54]].map PD.str)))<|sM rfl<|bE h fun x1 hx1 h => cD (keep_Mod_ev hx1)<|bE h fun x2 hx2 h => eG hx2 rfl<|sC rfl<|sV (.d (ag.pd (ag.mk [65, 66] x2 [48, 48] [66, 72, 90])))<|sS 32 (.var [rS [65, 66], rS x2, rS [48, 48], rS [66, 72, 90]])<|sN ?_
 refine qR ?_
 exact oI h▸qD
theorem nV {a1 : Int} {d0 : ah} {r : ac × ah} (h : iH a1 d0 = some r) : EvP prog aw ext 11 [.ptr 0 0, rI a1] [.var [.d (.lst (d0.fL.map (PD.int .i64))), rI d0.fAt]] (.d (ac.pd r.1), [.var [.d (.lst (r.2.fL.map (PD.int .i64))), rI r.2.fAt]]) := by
 refine Ev.body rfl Tryz.func11 rfl (by kernel_rfl)<|gS rfl rfl<|sB (.ptr 64 0) 64 (.var [.cu])<|sN<|gS rfl rfl<|sB (.ptr 80 0) 80 (.var [.cu])<|sN<|qS<|gS rfl rfl<|sV (r0)<|sN<|bE h fun o34 ho34 h => WC.block (WC.loop (WL.cv ho34 (fun s R' B' => bg prog 1 (A R' B') (aw.at_ 11 1 3) = some (A [(0, .ptr 0 0), (1, rI a1), (4, .ptr 64 0), (5, .ptr 80 0), (6, rI s.1)] [(0, .var [.d (.lst (s.2.1.map (PD.int .i64))), rI s.2.2.1]), (64, .var [.cu]), (80, .var [.ref 1104 0]), (1104, .arr 0 99 (s.2.2.2.map ae.pd))])) (fun o e R' B' => e = .exit 0 ∧ bg prog 1 (A R' B') (aw.at_ 11 1 16) = some (A [(4, .ptr 64 0), (5, .ptr 80 0)] [(0, .var [.d (.lst (o.1.map (PD.int .i64))), rI o.2.1]), (64, .var [.cu]), (80, .var [.ref 1104 0]), (1104, .arr 0 99 (o.2.2.map ae.pd))])) rfl ?_ ?_))
 ·rintro ⟨s1, s2, s3, s4⟩ R' B' q8 hI h
  refine qS<|gS rfl hI<|sM rfl<|sM rfl<|sF h (fun h => ?_) fun h => ?_
  ·refine sM rfl<|sM rfl<|sV (rB (decide (s1 < (6 : Int))))<|sF h (fun h => ?_) fun h => ?_
   ·refine sN<|cT<|qK<|qS<|qB<|gS rfl rfl<|sV (.d (aT.pd (aT.mk 100 1)))<|sM rfl<|bE h fun x11 hx11 h => cR (.d (ap.pd x11.1)) [(0, .var [.d (.lst (x11.2.fL.map (PD.int .i64))), rI x11.2.fAt])] (ru hx11)<|sM rfl<|bE h fun x12 hx12 h => cR (.d (aB.pd x12.1)) [(0, .var [.d (.lst (x12.2.fL.map (PD.int .i64))), rI x12.2.fAt])] (qC hx12)<|sG (.d (.agg [.int .i64 0, .int .i64 100000, .int .i64 100, .int .i64 1, .int .i64 x11.1.fX, .int .i64 x11.1.fY, .int .i64 x11.1.fZ, .lst (x12.1.aL.map aq.pd)]))<|sB (.ptr 112 0) 112 (.var zZ2) ?_
    refine sH 112 (.var [r0, rI 100000, rI 100, rI 1, rI x11.1.fX, rI x11.1.fY, rI x11.1.fZ, .d (.lst (x12.1.aL.map aq.pd))])<|sN<|WC.bX rfl rfl<|sM rfl<|bE h fun x13 hx13 h => cD (n9 hx13)<|sV (.d (.agg [.int .i64 0, .int .i64 100000, .int .i64 100, .int .i64 1, .int .i64 x11.1.fX, .int .i64 x11.1.fY, .int .i64 x11.1.fZ, .lst (x12.1.aL.map aq.pd)]))<|sB (.ref 448 0) 448 (.arr 0 96 ([(ai.mk 0 100000 (aT.mk 100 1) x11.1 x12.1)].map ai.pd))<|sV (.agg [rS x13.aC, rS x13.aA, rS x13.av, rS x13.aD, .ref 448 0])<|sB (.ptr 128 0) 128 (.var zZ3)<|sS 128 (.var [rS x13.aC, rS x13.aA, rS x13.av, rS x13.aD, .ref 448 0]) ?_
    refine sN<|sO<|qS<|gS rfl rfl<|sM rfl<|bE h fun x14 hx14 h => cR (rI x14.1) [(0, .var [.d (.lst (x14.2.fL.map (PD.int .i64))), rI x14.2.fAt])] (bj hx14)<|sN<|qB<|gS rfl rfl<|sF h (fun h => ?_) fun h => ?_
    ·refine sA rfl<|sN<|cT<|gS rfl rfl<|sV (.d (.agg [.int .i64 0, .int .i64 100000, .int .i64 100, .int .i64 1, .int .i64 x11.1.fX, .int .i64 x11.1.fY, .int .i64 x11.1.fZ, .lst (x12.1.aL.map aq.pd)]))<|sB (.ptr 144 0) 144 (.var zZ2)<|sH 144 (.var [r0, rI 100000, rI 100, rI 1, rI x11.1.fX, rI x11.1.fY, rI x11.1.fZ, .d (.lst (x12.1.aL.map aq.pd))])<|sN<|gS rfl rfl<|sM rfl<|bE h fun x16 hx16 h => cR (rI x16.1) [(0, .var [.d (.lst (x16.2.fL.map (PD.int .i64))), rI x16.2.fAt])] (bj hx16)<|sV (rI (rW ((1500 : Int) + x16.1)))<|sM rfl<|bE h fun x17 hx17 h => ?_
     refine cR (.d (ap.pd x17.1)) [(0, .var [.d (.lst (x17.2.fL.map (PD.int .i64))), rI x17.2.fAt])] (ru hx17)<|sM rfl<|bE h fun x18 hx18 h => cR (.d (aB.pd x18.1)) [(0, .var [.d (.lst (x18.2.fL.map (PD.int .i64))), rI x18.2.fAt])] (qC hx18)<|sV (.ptr 144 0)<|sS 144 (.var [rI (rW ((1500 : Int) + x16.1)), rI 100000, rI 100, rI 1, rI x11.1.fX, rI x11.1.fY, rI x11.1.fZ, .d (.lst (x12.1.aL.map aq.pd))])<|sV (.ptr 144 4)<|sS 144 (.var [rI (rW ((1500 : Int) + x16.1)), rI 100000, rI 100, rI 1, rI x17.1.fX, rI x17.1.fY, rI x17.1.fZ, .d (.lst (x12.1.aL.map aq.pd))])<|sV (.ptr 144 7)<|sS 144 (.var [rI (rW ((1500 : Int) + x16.1)), rI 100000, rI 100, rI 1, rI x17.1.fX, rI x17.1.fY, rI x17.1.fZ, .d (.lst (x18.1.aL.map aq.pd))])<|sN<|gS rfl rfl<|sV (.ptr 128 4)<|sL rfl<|sV (.ptr 144 0) ?_
     refine sL rfl<|bE h fun x20 hx20 h => WO.eE hx20 rfl rfl rfl rfl rfl rfl rfl rfl<|sV (.elt 448 0 ((0 : Int)).toNat 1)<|bE h fun x21 hx21 h => WO.ko (g := ai.pd) (u := []) (sz := 1) hx21 (fun _ => rfl) (fun _ => Nat.le_of_ble_eq_true rfl) rfl rfl rfl rfl rfl rfl rfl rfl rfl rfl rfl<|sN<|WC.region rfl rfl<|sV (.ptr 128 4)<|sL rfl<|sV (.d (.agg [.int .i64 (rW ((1500 : Int) + x16.1)), .int .i64 100000, .int .i64 100, .int .i64 1, .int .i64 x17.1.fX, .int .i64 x17.1.fY, .int .i64 x17.1.fZ, .lst (x18.1.aL.map aq.pd)]))<|sG (.d (.lst ([(ai.mk (rW ((1500 : Int) + x16.1)) 100000 (aT.mk 100 1) x17.1 x18.1)].map ai.pd)))<|bE h fun x23 hx23 h => aR hx23 (fun _ => rfl) rfl<|sV (.ptr 128 4) ?_
     refine sS 128 (.var [rS x13.aC, rS x13.aA, rS x13.av, rS x13.aD, .ref 448 1])<|sN<|WC.region rfl rfl<|sV (.ptr 80 0)<|sL rfl<|sV (.agg [rS x13.aC, rS x13.aA, rS x13.av, rS x13.aD, .ref 448 1])<|sB (.d (.lst [ae.pd (ae.mk x13 x23)])) 448 .dead<|bE h fun x24 hx24 h => aR hx24 (fun _ => rfl) rfl<|sV (.ptr 80 0)<|sS 80 (.var [.ref 1104 1])<|sN<|WC.region rfl rfl<|sM rfl<|sV (rI (rW (s1 + (1 : Int)))) ?_
     refine sA rfl<|sN ?_
     cases oI h
     exact ⟨rfl, rfl⟩
    refine sA rfl<|sN<|cF<|gS rfl rfl<|sF h (fun h => ?_) fun h => ?_
    ·refine sA rfl<|sN<|cT<|WC.eP rfl rfl<|sV (.ptr 128 4)<|sL rfl<|sM rfl<|bE h fun x26 hx26 h => cR (rI x26.1) [(0, .var [.d (.lst (x26.2.fL.map (PD.int .i64))), rI x26.2.fAt])] (bj hx26)<|bE h fun x28 hx28 h => WO.eE hx28 rfl rfl rfl rfl rfl rfl rfl rfl<|sV (.elt 448 0 ((0 : Int)).toNat 0)<|bE h fun x29 hx29 h => WO.ko (g := ai.pd) (u := []) (sz := 1) hx29 (fun _ => rfl) (fun _ => Nat.le_of_ble_eq_true rfl) rfl rfl rfl rfl rfl rfl rfl rfl rfl rfl rfl ?_
     refine sN<|sO<|WC.region rfl rfl<|sV (.ptr 80 0)<|sL rfl<|sV (.agg [rS x13.aC, rS x13.aA, rS x13.av, rS x13.aD, .ref 448 0])<|sB (.d (.lst [ae.pd (ae.mk x13 x29)])) 448 .dead<|bE h fun x31 hx31 h => aR hx31 (fun _ => rfl) rfl<|sV (.ptr 80 0)<|sS 80 (.var [.ref 1104 1])<|sN<|WC.region rfl rfl<|sM rfl<|sV (rI (rW (s1 + (1 : Int))))<|sA rfl ?_
     refine sN ?_
     cases oI h
     exact ⟨rfl, rfl⟩
    refine sA rfl<|sN<|cF<|qK<|WC.region rfl rfl<|sV (.ptr 80 0)<|sL rfl<|sV (.agg [rS x13.aC, rS x13.aA, rS x13.av, rS x13.aD, .ref 448 0])<|sB (.d (.lst [ae.pd (ae.mk x13 [(ai.mk 0 100000 (aT.mk 100 1) x11.1 x12.1)])])) 448 .dead<|bE h fun x32 hx32 h => aR hx32 (fun _ => rfl) rfl<|sV (.ptr 80 0)<|sS 80 (.var [.ref 1104 1])<|sN<|WC.region rfl rfl ?_
    refine sM rfl<|sV (rI (rW (s1 + (1 : Int))))<|sA rfl<|sN ?_
    cases oI h
    exact ⟨rfl, rfl⟩
   refine sN<|cF<|qX ?_
   cases oI h
   exact ⟨nofun, rfl, rfl⟩
  refine sM rfl<|sK<|sK<|sU<|sN<|cF<|qX ?_
  cases oI h
  exact ⟨nofun, rfl, rfl⟩
 intro e R' B' he hq
 obtain ⟨rfl, hI⟩ := hq
 refine qE<|gS rfl hI<|sV (.agg [.ref 1104 0])<|sS 64 (.var [.ref 1104 0])<|sN<|qR ?_
 exact oI h▸qD
theorem uk {a1 : Int} {a2 : Int} {d0 : ah} {r : Int × ah} (h : ny a1 a2 d0 = some r) : EvP prog aw ext 74 [.ptr 0 0, rI a1, rI a2] [.var [.d (.lst (d0.fL.map (PD.int .i64))), rI d0.fAt]] (rI r.1, [.var [.d (.lst (r.2.fL.map (PD.int .i64))), rI r.2.fAt]]) := by
 refine Ev.body rfl Tryz.func74 rfl (by kernel_rfl)<|gS rfl rfl<|sV (r0)<|sN<|gS rfl rfl<|sM rfl<|sM rfl<|sM rfl<|sM rfl<|sV (rI (rW (a2 - a1)))<|sV (rI (rW ((rW (a2 - a1)) + (1 : Int))))<|bE h fun x1 hx1 h => cR (rI x1.1) [(0, .var [.d (.lst (x1.2.fL.map (PD.int .i64))), rI x1.2.fAt])] (bj hx1)<|sV (rI (rW (a1 + x1.1)))<|sA rfl ?_
 refine sN<|qR ?_
 exact oI h▸qD
theorem xY {a1 : aP} {d0 : ah} {r : ap × ah} (h : oU a1 d0 = some r) : EvP prog aw ext 34 [.ptr 0 0, .d (aP.pd a1)] [.var [.d (.lst (d0.fL.map (PD.int .i64))), rI d0.fAt]] (.d (ap.pd r.1), [.var [.d (.lst (r.2.fL.map (PD.int .i64))), rI r.2.fAt]]) := by
 refine Ev.body rfl Tryz.func34 rfl (by kernel_rfl)<|gS rfl rfl<|sB (.ptr 48 0) 48 (.var (aP.rc a1))<|sB (.ptr 64 0) 64 (.var [r0, r0, r0])<|sN<|WC.bX rfl rfl<|sM rfl<|sV (.ptr 48 0)<|sV (.ptr 48 0)<|sL rfl<|sV (.ptr 48 3)<|sV (.ptr 48 3)<|sL rfl<|bE h fun x1 hx1 h => cR (rI x1.1) [(0, .var [.d (.lst (x1.2.fL.map (PD.int .i64))), rI x1.2.fAt])] (uk hx1) ?_
 refine sM rfl<|sV (.ptr 48 0)<|sV (.ptr 48 1)<|sL rfl<|sV (.ptr 48 3)<|sV (.ptr 48 4)<|sL rfl<|bE h fun x2 hx2 h => cR (rI x2.1) [(0, .var [.d (.lst (x2.2.fL.map (PD.int .i64))), rI x2.2.fAt])] (uk hx2)<|sM rfl<|sV (.ptr 48 0)<|sV (.ptr 48 2)<|sL rfl<|sV (.ptr 48 3)<|sV (.ptr 48 5) ?_
 refine sL rfl<|bE h fun x3 hx3 h => cR (rI x3.1) [(0, .var [.d (.lst (x3.2.fL.map (PD.int .i64))), rI x3.2.fAt])] (uk hx3)<|sV (.d (ap.pd (ap.mk x1.1 x2.1 x3.1)))<|sS 64 (.var [rI x1.1, rI x2.1, rI x3.1]) ?_
 refine sN<|sO<|qR ?_
 exact oI h▸qD
theorem keep_place_ev {a0 : ac} {a1 : ag} {a2 : Int} {r : ap × Bool} (h : oZ a0 a1 a2 = some r) : EvP prog aw ext 37 [.d (ac.pd a0), .d (ag.pd a1), rI a2] [] (.tup [.d (ap.pd r.1), rB r.2], []) := by
 refine Ev.body rfl Tryz.func37 rfl (by kernel_rfl)<|gS rfl rfl<|sB (.ptr 48 0) 48 (.var [.d (.lst (a0.al.map ae.pd))])<|sB (.ptr 64 0) 64 (.var [rS a1.aC, rS a1.aA, rS a1.av, rS a1.aD])<|sB (.ptr 96 0) 96 (.var [r0, r0, r0])<|sU<|sN<|qS<|gS rfl rfl<|sV (.ptr 48 0)<|sL rfl<|sE (rI (a0.al.length : Int)) (b8 _ _)<|sV (r0)<|sN<|bE h fun o18 ho18 h => ?_
 refine WC.block (WC.loop (WL.cv ho18 (fun s R' B' => bg prog 0 (A R' B') (aw.at_ 37 0 2) = some (A [(2, rI a2), (4, .ptr 64 0), (6, .ptr 96 0), (13, .d (.lst (a0.al.map ae.pd))), (14, rI (a0.al.length : Int)), (15, rI s)] [(64, .var [rS a1.aC, rS a1.aA, rS a1.av, rS a1.aD]), (96, .var [r0, r0, r0])])) (fun o e R' B' => match o with | .inl y => e = .exit 0 ∧ bg prog 0 (A R' B') (aw.at_ 37 0 11) = some (A [(6, .ptr 96 0)] [(96, .var [r0, r0, r0])]) | .inr r => e = .ret ∧ finish prog (aw.own 37) Tryz.f37 0 (A R' B') = some (.tup [.d (ap.pd r.1), rB r.2], [])) rfl ?_ ?_))
 ·rintro s1 R' B' q2 hI h
  refine gS rfl hI<|sF h (fun h => ?_) fun h => ?_
  ·refine sN<|qS<|cT<|qK<|qS<|qB<|gS rfl rfl<|bE h fun x4 hx4 h => eG hx4 rfl<|sV (.d (ae.pd x4))<|sB (.ptr 144 0) 144 (.var zZ3)<|sS 144 (.var (ae.rc x4))<|sN<|gS rfl rfl<|sV (.ptr 144 4) ?_
   refine sL rfl<|sE (rI (x4.aM.length : Int)) (b8 _ _)<|sV (r0)<|sN<|bE h fun o14 ho14 h => WC.block (WC.loop (WL.cv ho14 (fun s R' B' => bg prog 0 (A R' B') (aw.at_ 37 0 5) = some (A [(2, rI a2), (4, .ptr 64 0), (6, .ptr 96 0), (9, .ptr 144 0), (13, .d (.lst (a0.al.map ae.pd))), (14, rI (a0.al.length : Int)), (15, rI s1), (20, .d (.lst (x4.aM.map ai.pd))), (21, rI (x4.aM.length : Int)), (22, rI s)] [(64, .var [rS a1.aC, rS a1.aA, rS a1.av, rS a1.aD]), (96, .var [r0, r0, r0]), (144, .var (ae.rc x4))])) (fun o e R' B' => match o with | .inl y => e = .exit 2 ∧ bg prog 0 (A R' B') (aw.at_ 37 0 10) = some (A [(2, rI a2), (4, .ptr 64 0), (6, .ptr 96 0), (13, .d (.lst (a0.al.map ae.pd))), (14, rI (a0.al.length : Int)), (15, rI y)] [(64, .var [rS a1.aC, rS a1.aA, rS a1.av, rS a1.aD]), (96, .var [r0, r0, r0])]) | .inr r => e = .ret ∧ finish prog (aw.own 37) Tryz.f37 0 (A R' B') = some (.tup [.d (ap.pd r.1), rB r.2], [])) rfl ?_ ?_))
   ·rintro s5 R' B' q7 hI h
    refine gS rfl hI<|sF h (fun h => ?_) fun h => ?_
    ·refine sN<|qS<|cT<|qK<|qS<|qB<|gS rfl rfl<|bE h fun x9 hx9 h => eG hx9 rfl<|sV (.d (ai.pd x9))<|sB (.ptr 176 0) 176 (.var zZ2)<|sH 176 (.var (ai.rc x9))<|sN<|gS rfl rfl<|sV (.ptr 144 0) ?_
     refine sV (.d (ag.pd x4.ak))<|sV (.d (ag.pd a1))<|cY h (fun hb10 h => ?_) (fun hb10 h => ?_)
     ·refine WO.gu (rP x4.ak a1) hb10 rfl rfl rfl rfl rfl<|sM rfl<|sV (.ptr 176 0)<|sL rfl<|sM rfl<|sV (rB (decide (x9.aJ ≤ a2)))<|sF h (fun h => ?_) fun h => ?_
      ·refine sM rfl<|sM rfl<|sV (.ptr 176 1)<|sL rfl<|sV (rB (decide (a2 < x9.fTo)))<|sF h (fun h => ?_) fun h => ?_
       ·refine sN<|cT<|gS rfl rfl<|sV (.ptr 176 4)<|sV (.d (ap.pd x9.aF))<|sS 96 (.var [rI x9.aF.fX, rI x9.aF.fY, rI x9.aF.fZ])<|sT<|sN<|qR ?_
        cases oI h
        exact ⟨nofun, rfl, rfl⟩
       refine sN<|cF<|qK<|WC.region rfl rfl<|sV (rI (rW (s5 + (1 : Int))))<|sM rfl<|sN ?_
       cases oI h
       exact ⟨rfl, rfl⟩
      refine sM rfl<|k3<|sK<|sU<|sN<|cF<|qK<|WC.region rfl rfl<|sV (rI (rW (s5 + (1 : Int))))<|sM rfl<|sN ?_
      cases oI h
      exact ⟨rfl, rfl⟩
     refine WO.gu (rP x4.ak a1) hb10 rfl rfl rfl rfl rfl<|sM rfl<|k3<|sK<|sU<|sM rfl<|k3<|sK<|sU<|sN<|cF ?_
     refine qK<|WC.region rfl rfl<|sV (rI (rW (s5 + (1 : Int))))<|sM rfl<|sN ?_
     cases oI h
     exact ⟨rfl, rfl⟩
    refine sN<|qS<|cF<|qX ?_
    cases oI h
    exact ⟨nofun, rfl, rfl⟩
   intro e R' B' he hq
   rcases o14 with y15 | r16
   ·obtain ⟨rfl, hI⟩ := hq
    refine qE<|WC.region hI rfl<|sV (rI (rW (y15 + (1 : Int))))<|sM rfl<|sN ?_
    cases oI h
    exact ⟨rfl, rfl⟩
   obtain ⟨rfl, hf⟩ := hq
   cases oI h
   exact ⟨nofun, rfl, hf⟩
  refine sN<|qS<|cF<|qX ?_
  cases oI h
  exact ⟨nofun, rfl, rfl⟩
 intro e R' B' he hq
 rcases o18 with y19 | r20
 ·obtain ⟨rfl, hI⟩ := hq
  refine qE<|gS rfl hI<|sV (.d (ap.pd (ap.mk 0 0 0)))<|sS 96 (.var [r0, r0, r0])<|sU<|sN<|qR ?_
  exact oI h▸qD
 obtain ⟨rfl, hf⟩ := hq
 cases oI h
 exact hf
theorem xz {a0 : Int} {r : Int} (h : tl a0 = some r) : EvP prog aw ext 38 [rI a0] [] (rI r, []) := by
 refine Ev.body rfl Tryz.func38 rfl (by kernel_rfl)<|gS rfl rfl<|sV (r0)<|sN<|gS rfl rfl<|sM rfl<|sM rfl<|sV (rI (rW (a0 * a0)))<|sA rfl<|sN<|qR ?_
 exact oI h▸qD
theorem jU {a1 : aI} {a2 : ac} {a3 : Int} {d0 : ah} {r : (List aa) × ah} (h : iF a1 a2 a3 d0 = some r) : EvP prog aw ext 9 [.ptr 0 0, .d (aI.pd a1), .d (ac.pd a2), rI a3] [.var [.d (.lst (d0.fL.map (PD.int .i64))), rI d0.fAt]] (.d (.lst (r.1.map aa.pd)), [.var [.d (.lst (r.2.fL.map (PD.int .i64))), rI r.2.fAt]]) := by
 refine Ev.body rfl Tryz.func9 rfl (by kernel_rfl)<|gS rfl rfl<|sB (.ptr 80 0) 80 (.var (aI.rc a1))<|sB (.ptr 96 0) 96 (.var [.d (.lst (a2.al.map ae.pd))])<|sV .cu<|sN<|gS rfl rfl<|sV .cu<|sN<|gS rfl rfl<|sM rfl<|sV (.ptr 80 0)<|sV (.ptr 80 0)<|sV (.d (aP.pd a1.au.aW))<|bE h fun x1 hx1 h => ?_
 refine cR (.d (ap.pd x1.1)) [(0, .var [.d (.lst (x1.2.fL.map (PD.int .i64))), rI x1.2.fAt])] (xY hx1)<|sM rfl<|bE h fun x2 hx2 h => cR (rI x2.1) [(0, .var [.d (.lst (x2.2.fL.map (PD.int .i64))), rI x2.2.fAt])] (bj hx2)<|sV (rI (rW ((1000 : Int) + x2.1)))<|sB (.ptr 160 0) 160 (.var [r0, r0, r0])<|sS 160 (.var [rI x1.1.fX, rI x1.1.fY, rI x1.1.fZ])<|sA rfl<|sN<|qS<|gS rfl rfl<|sM rfl<|sM rfl<|sV (rI (rW (a3 + (1 : Int))))<|bE h fun x3 hx3 h => ?_
 refine cR (rI x3.1) [(0, .var [.d (.lst (x3.2.fL.map (PD.int .i64))), rI x3.2.fAt])] (bj hx3)<|sA rfl<|sN<|bE h fun o61 ho61 h => WC.block (WC.loop (WL.cv ho61 (fun s R' B' => bg prog 1 (A R' B') (aw.at_ 9 1 4) = some (A [(0, .ptr 0 0), (5, .ptr 80 0), (6, .ptr 96 0), (9, .ref 2192 0), (10, .ptr 160 0), (11, rI s.1), (12, rI s.2.1)] [(0, .var [.d (.lst (s.2.2.1.map (PD.int .i64))), rI s.2.2.2.1]), (80, .var (aI.rc a1)), (96, .var [.d (.lst (a2.al.map ae.pd))]), (160, .var [rI s.2.2.2.2.2.1, rI s.2.2.2.2.2.2.1, rI s.2.2.2.2.2.2.2]), (2192, .arr 0 52 (s.2.2.2.2.1.map aa.pd))])) (fun o e R' B' => e = .exit 0 ∧ bg prog 1 (A R' B') (aw.at_ 9 1 21) = some (A [(9, .ref 2192 0)] [(0, .var [.d (.lst (o.2.1.map (PD.int .i64))), rI o.2.2]), (2192, .arr 0 52 (o.1.map aa.pd))])) rfl ?_ ?_))
 ·rintro ⟨s4, s5, s6, s7, s8, s9, s10, s11⟩ R' B' q15 hI h
  refine qS<|gS rfl hI<|sM rfl<|sF h (fun h => ?_) fun h => ?_
  ·refine sN<|cT<|qK<|qS<|qB<|gS rfl rfl<|sM rfl<|bE h fun x17 hx17 h => cR (rI x17.1) [(0, .var [.d (.lst (x17.2.fL.map (PD.int .i64))), rI x17.2.fAt])] (bj hx17)<|bE h fun x18 hx18 h => cD (n9 hx18)<|sM rfl<|sV (.d (.lst ([0, 1, 50, 1000, 1048576].map (PD.int .i64))))<|bE h fun x19 hx19 h => cR (rI x19.1) [(0, .var [.d (.lst (x19.2.fL.map (PD.int .i64))), rI x19.2.fAt])] (cz hx19) ?_
   refine sM rfl<|bE h fun x20 hx20 h => cR (rI x20.1) [(0, .var [.d (.lst (x20.2.fL.map (PD.int .i64))), rI x20.2.fAt])] (bj hx20)<|sV (rI (rW (x20.1 - (1 : Int))))<|sG (.d (aa.pd (aa.mk x18 0 0 0 x19.1 (rW (x20.1 - (1 : Int))))))<|sB (.ptr 208 0) 208 (.var zZ1)<|sH 208 (.var [rS x18.aC, rS x18.aA, rS x18.av, rS x18.aD, r0, r0, r0, rI x19.1, rI (rW (x20.1 - (1 : Int)))])<|sN<|gS rfl rfl<|sM rfl<|bE h fun x21 hx21 h => cR (rI x21.1) [(0, .var [.d (.lst (x21.2.fL.map (PD.int .i64))), rI x21.2.fAt])] (bj hx21)<|sV (rI (rW ((1000 : Int) + x21.1)))<|sV (.ptr 208 5)<|sS 208 (.var [rS x18.aC, rS x18.aA, rS x18.av, rS x18.aD, r0, rI (rW ((1000 : Int) + x21.1)), r0, rI x19.1, rI (rW (x20.1 - (1 : Int)))]) ?_
   refine sN<|WC.join (α := Int × Int × (List Int) × Int × (List aa) × Int × Int × Int × Int) (fun x R' B' => bg prog 1 (A R' B') (aw.at_ 9 1 18) = some (A [(0, .ptr 0 0), (5, .ptr 80 0), (6, .ptr 96 0), (9, .ref 2192 0), (10, .ptr 160 0), (11, rI x.1), (12, rI x.2.1), (13, .ptr 208 0)] [(0, .var [.d (.lst (x.2.2.1.map (PD.int .i64))), rI x.2.2.2.1]), (80, .var (aI.rc a1)), (96, .var [.d (.lst (a2.al.map ae.pd))]), (160, .var [rI x.2.2.2.2.2.1, rI x.2.2.2.2.2.2.1, rI x.2.2.2.2.2.2.2.1]), (208, .var [rS x18.aC, rS x18.aA, rS x18.av, rS x18.aD, r0, rI x.2.2.2.2.2.2.2.2, r0, rI x19.1, rI (rW (x20.1 - (1 : Int)))]), (2192, .arr 0 52 (x.2.2.2.2.1.map aa.pd))])) (fun x => fp x18 x19 x20 x.1 x.2.1 x.2.2.1 x.2.2.2.1 x.2.2.2.2.1 x.2.2.2.2.2.1 x.2.2.2.2.2.2.1 x.2.2.2.2.2.2.2.1 x.2.2.2.2.2.2.2.2 = some q15) ?_ ?_
   ·refine gS rfl rfl<|sM rfl<|bE h fun x35 hx35 h => cR (rI x35.1) [(0, .var [.d (.lst (x35.2.fL.map (PD.int .i64))), rI x35.2.fAt])] (bj hx35)<|sN<|qB<|gS rfl rfl<|sF h (fun h => ?_) fun h => ?_
    ·refine sA rfl<|sN<|cT<|WC.region rfl rfl<|sM rfl<|sV (.ptr 80 0)<|sV (.ptr 80 0)<|sV (.d (aP.pd a1.au.aW))<|bE h fun x37 hx37 h => cR (.d (ap.pd x37.1)) [(0, .var [.d (.lst (x37.2.fL.map (PD.int .i64))), rI x37.2.fAt])] (xY hx37)<|sM rfl<|sM rfl<|bE h fun x38 hx38 h => cR (rI x38.1) [(0, .var [.d (.lst (x38.2.fL.map (PD.int .i64))), rI x38.2.fAt])] (bj hx38)<|sV (rI (rW (s4 + x38.1))) ?_
     exact sS 160 (.var [rI x37.1.fX, rI x37.1.fY, rI x37.1.fZ])<|sA rfl<|sN<|⟨((rW (s4 + x38.1)), s5, x38.2.fL, x38.2.fAt, s8, x37.1.fX, x37.1.fY, x37.1.fZ, (rW ((1000 : Int) + x21.1))), rfl, h⟩
    refine sA rfl<|sN<|cF<|gS rfl rfl<|sF h (fun h => ?_) fun h => ?_
    ·exact sA rfl<|sN<|cT<|qK<|⟨(s4, s5, x35.2.fL, x35.2.fAt, s8, s9, s10, s11, (rW ((1000 : Int) + x21.1))), rfl, h⟩
    refine sA rfl<|sN<|cF<|gS rfl rfl<|sV (.d (ac.pd a2))<|sV (.ptr 208 0)<|sV (.d (ag.pd x18))<|sM rfl<|bE h fun x40 hx40 h => cR (.tup [.d (ap.pd x40.1), rB x40.2]) [] (keep_place_ev hx40)<|sM rfl<|sV (.d (ap.pd x40.1))<|sV (rB x40.2)<|sB (.ptr 224 0) 224 (.var [r0, r0, r0])<|sS 224 (.var [rI x40.1.fX, rI x40.1.fY, rI x40.1.fZ]) ?_
    refine sA rfl<|sN<|gS rfl rfl<|sF h (fun h => ?_) fun h => ?_
    ·refine sN<|cT<|gS rfl rfl<|sV (r0)<|sN<|qS<|bE h fun o56 ho56 h => WC.block (WC.loop (WL.cv ho56 (fun s R' B' => bg prog 1 (A R' B') (aw.at_ 9 1 12) = some (A [(0, .ptr 0 0), (5, .ptr 80 0), (6, .ptr 96 0), (9, .ref 2192 0), (10, .ptr 160 0), (11, rI s4), (12, rI s5), (13, .ptr 208 0), (14, .ptr 224 0), (16, rI s)] [(0, .var [.d (.lst (x35.2.fL.map (PD.int .i64))), rI x35.2.fAt]), (80, .var (aI.rc a1)), (96, .var [.d (.lst (a2.al.map ae.pd))]), (160, .var [rI s9, rI s10, rI s11]), (208, .var [rS x18.aC, rS x18.aA, rS x18.av, rS x18.aD, r0, rI (rW ((1000 : Int) + x21.1)), r0, rI x19.1, rI (rW (x20.1 - (1 : Int)))]), (224, .var [rI x40.1.fX, rI x40.1.fY, rI x40.1.fZ]), (2192, .arr 0 52 (s8.map aa.pd))])) (fun o e R' B' => e = .exit 3 ∧ bg prog 1 (A R' B') (aw.at_ 9 1 14) = some (A [(0, .ptr 0 0), (5, .ptr 80 0), (6, .ptr 96 0), (9, .ref 2192 0), (10, .ptr 160 0), (11, rI o.1), (12, rI o.2.1), (13, .ptr 208 0), (16, rI o.2.2.1)] [(0, .var [.d (.lst (x35.2.fL.map (PD.int .i64))), rI x35.2.fAt]), (80, .var (aI.rc a1)), (96, .var [.d (.lst (a2.al.map ae.pd))]), (160, .var [rI o.2.2.2.2.1, rI o.2.2.2.2.2.1, rI o.2.2.2.2.2.2]), (208, .var [rS x18.aC, rS x18.aA, rS x18.av, rS x18.aD, r0, rI (rW ((1000 : Int) + x21.1)), r0, rI x19.1, rI (rW (x20.1 - (1 : Int)))]), (2192, .arr 0 52 (o.2.2.2.1.map aa.pd))])) rfl ?_ ?_))
     ·rintro s42 R' B' q50 hI h
      refine qS<|WC.bX hI rfl<|sM rfl<|sM rfl<|sV (rI (rW (s42 * s42)))<|sV (.ptr 224 0)<|sL rfl<|sV (.ptr 160 0)<|sL rfl<|sV (rI (rW (x40.1.fX - s9)))<|bE h fun x51 hx51 h => cD (xz hx51)<|sV (.ptr 224 1)<|sL rfl<|sV (.ptr 160 1) ?_
      refine sL rfl<|sV (rI (rW (x40.1.fY - s10)))<|bE h fun x52 hx52 h => cD (xz hx52)<|sV (rI (rW (x51 + x52)))<|sV (.ptr 224 2)<|sL rfl<|sV (.ptr 160 2)<|sL rfl<|sV (rI (rW (x40.1.fZ - s11)))<|bE h fun x53 hx53 h => cD (xz hx53)<|sV (rI (rW ((rW (x51 + x52)) + x53)))<|sF h (fun h => ?_) fun h => ?_
      ·refine sN<|sO<|cT<|qK<|qB<|WC.region rfl rfl<|sM rfl<|sV (rI (rW (s42 + (1 : Int))))<|sA rfl<|sN ?_
       cases oI h
       exact ⟨rfl, rfl⟩
      refine sN<|sO<|cF<|qX ?_
      cases oI h
      exact ⟨nofun, rfl, rfl⟩
     intro e R' B' he hq
     obtain ⟨rfl, hI⟩ := hq
     refine qE<|WC.eP hI rfl<|sM rfl<|sV (.ptr 80 0)<|sV (.ptr 80 6)<|sV (.ptr 80 7)<|sL rfl<|sM rfl<|sV (.ptr 80 0)<|sV (.ptr 80 6)<|sV (.ptr 80 6)<|sL rfl<|bE h fun x57 hx57 h => WO.quoG hx57 rfl rfl rfl rfl rfl rfl<|sV (.ptr 80 0) ?_
     refine sV (.ptr 80 6)<|sV (.ptr 80 7)<|sL rfl<|sE (rI (a1.au.bp.bd.length : Int)) (b8 _ _)<|sV (rI (rW ((a1.au.bp.bd.length : Int) - (1 : Int))))<|sV (rI (if (rW ((a1.au.bp.bd.length : Int) - (1 : Int))) < x57 then (rW ((a1.au.bp.bd.length : Int) - (1 : Int))) else x57))<|bE h fun x58 hx58 h => eG hx58 rfl<|sC rfl<|sV (rI (rW (o56.1 + x58)))<|sM rfl<|bE h fun x59 hx59 h => cR (rI x59.1) [(0, .var [.d (.lst (x59.2.fL.map (PD.int .i64))), rI x59.2.fAt])] (bj hx59)<|sV (rI (rW ((rW (o56.1 + x58)) + x59.1)))<|sV (.ptr 208 5) ?_
     refine sS 208 (.var [rS x18.aC, rS x18.aA, rS x18.av, rS x18.aD, r0, rI (rW ((rW (o56.1 + x58)) + x59.1)), r0, rI x19.1, rI (rW (x20.1 - (1 : Int)))]) ?_
     exact sN<|sO<|⟨(o56.1, o56.2.1, x59.2.fL, x59.2.fAt, o56.2.2.2.1, o56.2.2.2.2.1, o56.2.2.2.2.2.1, o56.2.2.2.2.2.2, (rW ((rW (o56.1 + x58)) + x59.1))), rfl, h⟩
    exact sN<|cF<|qK<|⟨(s4, s5, x35.2.fL, x35.2.fAt, s8, s9, s10, s11, (rW ((1000 : Int) + x21.1))), rfl, h⟩
   rintro ⟨j22, j23, j24, j25, j26, j27, j28, j29, j30⟩ R' B' hI h
   refine WC.bX hI rfl<|sV (.ptr 208 5)<|sL rfl<|sM rfl<|bE h fun x31 hx31 h => cR (rI x31.1) [(0, .var [.d (.lst (x31.2.fL.map (PD.int .i64))), rI x31.2.fAt])] (bj hx31)<|sV (rI (rW (j30 + x31.1)))<|sV (.ptr 208 4)<|sS 208 (.var [rS x18.aC, rS x18.aA, rS x18.av, rS x18.aD, rI (rW (j30 + x31.1)), rI j30, r0, rI x19.1, rI (rW (x20.1 - (1 : Int)))]) ?_
   refine sN<|sO<|WC.bX rfl rfl<|sV (.ptr 208 4)<|sL rfl<|sM rfl<|bE h fun x32 hx32 h => cR (rI x32.1) [(0, .var [.d (.lst (x32.2.fL.map (PD.int .i64))), rI x32.2.fAt])] (bj hx32)<|sV (rI (rW ((rW (j30 + x31.1)) + x32.1)))<|sV (.ptr 208 6)<|sS 208 (.var [rS x18.aC, rS x18.aA, rS x18.av, rS x18.aD, rI (rW (j30 + x31.1)), rI j30, rI (rW ((rW (j30 + x31.1)) + x32.1)), rI x19.1, rI (rW (x20.1 - (1 : Int)))]) ?_
   refine sN<|sO<|WC.region rfl rfl<|sM rfl<|sV (.d (aa.pd (aa.mk x18 (rW (j30 + x31.1)) j30 (rW ((rW (j30 + x31.1)) + x32.1)) x19.1 (rW (x20.1 - (1 : Int))))))<|sG (.d (.lst ([(aa.mk x18 (rW (j30 + x31.1)) j30 (rW ((rW (j30 + x31.1)) + x32.1)) x19.1 (rW (x20.1 - (1 : Int))))].map aa.pd)))<|bE h fun x33 hx33 h => aR hx33 (fun _ => rfl) rfl<|sA rfl<|sN<|WC.region rfl rfl<|sM rfl<|sV (rI (rW (j23 - (1 : Int))))<|sA rfl<|sN ?_
   cases oI h
   exact ⟨rfl, rfl⟩
  refine sN<|cF<|qX ?_
  cases oI h
  exact ⟨nofun, rfl, rfl⟩
 intro e R' B' he hq
 obtain ⟨rfl, hI⟩ := hq
 refine qE<|gS rfl hI<|sM rfl<|sA rfl<|sN<|qR ?_
 exact oI h▸qD
theorem source_plain_ev {a0 : Int} {r : Bool} (h : lY a0 = some r) : EvP prog aw ext 158 [.d (.int .u8 a0)] [] (rB r, []) := by
 refine Ev.body rfl Tryz.func158 rfl (by kernel_rfl)<|gS rfl rfl<|sU<|sN<|gS rfl rfl<|sM rfl<|sF h (fun h => ?_) fun h => ?_
 ·refine sM rfl<|sM rfl<|sV (rB (decide (a0 ≤ (90 : Int))))<|sF h (fun h => ?_) fun h => ?_
  ·refine sM rfl<|k3<|k3<|sT<|sA rfl<|sN<|qR ?_
   exact oI h▸qD
  refine sM rfl<|sM rfl<|sF h (fun h => ?_) fun h => ?_
  ·refine sM rfl<|sM rfl<|sV (rB (decide (a0 ≤ (57 : Int))))<|sV (rB (decide (a0 ≤ (57 : Int))))<|sV (rB (decide (a0 ≤ (57 : Int))))<|sA rfl<|sN<|qR ?_
   exact oI h▸qD
  refine sM rfl<|sK<|sK<|sU<|sU<|sA rfl<|sN<|qR ?_
  exact oI h▸qD
 refine sM rfl<|sK<|sK<|sU<|sM rfl<|sM rfl<|sF h (fun h => ?_) fun h => ?_
 ·refine sM rfl<|sM rfl<|sV (rB (decide (a0 ≤ (57 : Int))))<|sV (rB (decide (a0 ≤ (57 : Int))))<|sV (rB (decide (a0 ≤ (57 : Int))))<|sA rfl<|sN<|qR ?_
  exact oI h▸qD
 refine sM rfl<|sK<|sK<|sU<|sU<|sA rfl<|sN<|qR ?_
 exact oI h▸qD
theorem lD {a0 : (List UInt8)} {a1 : Int} {a2 : Int} {r : Bool} (h : je a0 a1 a2 = some r) : EvP prog aw ext 128 [rS a0, rI a1, rI a2] [] (rB r, []) := by
 refine Ev.body rfl Tryz.func128 rfl (by kernel_rfl)<|gS rfl rfl<|sU<|sN<|qS<|gS rfl rfl<|sM rfl<|sV (rI (a0.length : Int))<|sV (r0)<|sN<|bE h fun o8 ho8 h => WC.block (WC.loop (WL.cv ho8 (fun s R' B' => bg prog 0 (A R' B') (aw.at_ 128 0 2) = some (A [(0, rS a0), (1, rI a1), (2, rI a2), (9, rI (a0.length : Int)), (10, rI s)] [])) (fun o e R' B' => match o with | .inl y => e = .exit 0 ∧ bg prog 0 (A R' B') (aw.at_ 128 0 7) = some (A [(0, rS a0), (1, rI a1), (2, rI a2)] []) | .inr r => e = .ret ∧ finish prog (aw.own 128) Tryz.f128 0 (A R' B') = some (rB r, [])) rfl ?_ ?_))
 ·rintro s1 R' B' q2 hI h
  refine gS rfl hI<|sF h (fun h => ?_) fun h => ?_
  ·refine sN<|qS<|cT<|qK<|qS<|qB<|gS rfl rfl<|sM rfl<|sA rfl<|sN<|gS rfl rfl<|sM rfl<|sM rfl<|bE h fun x4 hx4 h => WO.rY hx4 rfl rfl rfl rfl rfl rfl ?_
   refine bE h fun x5 hx5 h => cD (source_plain_ev hx5)<|sF h (fun h => ?_) fun h => ?_
   ·refine sN<|cT<|gS rfl rfl<|sU<|sN<|qR ?_
    cases oI h
    exact ⟨nofun, rfl, rfl⟩
   refine sN<|cF<|qK<|WC.region rfl rfl<|sV (rI (rW (s1 + (1 : Int))))<|sM rfl<|sN ?_
   cases oI h
   exact ⟨rfl, rfl⟩
  refine sN<|qS<|cF<|qX ?_
  cases oI h
  exact ⟨nofun, rfl, rfl⟩
 intro e R' B' he hq
 rcases o8 with y9 | r10
 ·obtain ⟨rfl, hI⟩ := hq
  refine qE<|gS rfl hI<|sM rfl<|sV (rI (a0.length : Int))<|sM rfl<|sF h (fun h => ?_) fun h => ?_
  ·refine sM rfl<|sM rfl<|sV (rI (a0.length : Int))<|sM rfl<|sV (rB (decide ((a0.length : Int) ≤ a2)))<|sV (rB (decide ((a0.length : Int) ≤ a2)))<|sA rfl<|sN<|qR ?_
   exact oI h▸qD
  refine sM rfl<|k3<|sK<|sU<|sA rfl<|sN<|qR ?_
  exact oI h▸qD
 obtain ⟨rfl, hf⟩ := hq
 cases oI h
 exact hf
theorem rp {a0 : ag} {r : Bool} (h : jd a0 = some r) : EvP prog aw ext 85 [.d (ag.pd a0)] [] (rB r, []) := by
 refine Ev.body rfl Tryz.func85 rfl (by kernel_rfl)<|gS rfl rfl<|sB (.ptr 16 0) 16 (.var [rS a0.aC, rS a0.aA, rS a0.av, rS a0.aD])<|sU<|sN<|gS rfl rfl<|sV (.ptr 16 0)<|sL rfl<|bE h fun x1 hx1 h => cY h (fun hb2 h => ?_) (fun hb2 h => ?_)
 ·refine WO.fj (v := rB true) (u := []) rfl rfl (fun _ => rfl) rfl rfl rfl rfl rfl (lD hx1) rfl rfl (congrArg (fun b => RV.d (.bool b)) hb2) rfl<|sM rfl<|sV (.ptr 16 1)<|sL rfl<|bE h fun x3 hx3 h => cD (lD hx3)<|sF h (fun h => ?_) fun h => ?_
  ·refine sM rfl<|sV (.ptr 16 2)<|sL rfl<|bE h fun x5 hx5 h => cD (lD hx5)<|sF h (fun h => ?_) fun h => ?_
   ·refine sM rfl<|sV (.ptr 16 2)<|sL rfl<|sV (rI (a0.av.length : Int))<|sV (rB ((a0.av.length : Int) != (1 : Int)))<|sF h (fun h => ?_) fun h => ?_
    ·refine sM rfl<|sV (.ptr 16 3)<|sL rfl<|bE h fun x8 hx8 h => cD (lD hx8)<|sV (rB x8)<|sA rfl<|sN<|qR ?_
     exact oI h▸qD
    refine sM rfl<|k3<|sU<|sA rfl<|sN<|qR ?_
    exact oI h▸qD
   refine sM rfl<|k3<|sK<|sU<|sM rfl<|k3<|sU<|sA rfl<|sN<|qR ?_
   exact oI h▸qD
  refine sM rfl<|k3<|sU<|sM rfl<|k3<|sK<|sU<|sM rfl<|sK<|sK<|sK ?_
  refine sU<|sA rfl<|sN<|qR ?_
  exact oI h▸qD
 refine WO.fj (v := rB false) (u := []) rfl rfl (fun _ => rfl) rfl rfl rfl rfl rfl (lD hx1) rfl rfl (congrArg (fun b => RV.d (.bool b)) hb2) rfl<|sM rfl<|k3<|sU<|sM rfl<|k3<|sU<|sM rfl<|sK<|sK<|sK ?_
 refine sK<|sU<|sM rfl<|k3<|sU<|sA rfl<|sN<|qR ?_
 exact oI h▸qD
theorem yv {a0 : Int} {a1 : Int} {a2 : Int} {r : Bool} (h : iI a0 a1 a2 = some r) : EvP prog aw ext 86 [rI a0, rI a1, rI a2] [] (rB r, []) := by
 refine Ev.body rfl Tryz.func86 rfl (by kernel_rfl)<|gS rfl rfl<|sU<|sN<|gS rfl rfl<|sM rfl<|sM rfl<|sF h (fun h => ?_) fun h => ?_
 ·refine sM rfl<|sM rfl<|sM rfl<|sV (rB (decide (a0 ≤ a2)))<|sV (rB (decide (a0 ≤ a2)))<|sA rfl<|sN<|qR ?_
  exact oI h▸qD
 refine sM rfl<|k3<|sU<|sA rfl<|sN<|qR ?_
 exact oI h▸qD
theorem md {a0 : aa} {r : Bool} (h : cC a0 = some r) : EvP prog aw ext 50 [.d (aa.pd a0)] [] (rB r, []) := by
 refine Ev.body rfl Tryz.func50 rfl (by kernel_rfl)<|gS rfl rfl<|sB (.ptr 16 0) 16 (.var (aa.rc a0))<|sU<|sN<|gS rfl rfl<|sV (.ptr 16 0)<|sV (.d (ag.pd a0.ak))<|bE h fun x1 hx1 h => cY h (fun hb2 h => ?_) (fun hb2 h => ?_)
 ·refine WO.fj (v := rB true) (u := []) rfl rfl (fun _ => rfl) rfl rfl rfl rfl rfl (rp hx1) rfl rfl (congrArg (fun b => RV.d (.bool b)) hb2) rfl<|sM rfl<|sV (.ptr 16 5)<|sL rfl<|sV (rB (decide (a0.aG ≥ (0 : Int))))<|sF h (fun h => ?_) fun h => ?_
  ·refine sM rfl<|sV (.ptr 16 5)<|sL rfl<|sV (.ptr 16 4)<|sL rfl<|sV (rB (decide (a0.aG ≤ a0.aN)))<|sF h (fun h => ?_) fun h => ?_
   ·refine sM rfl<|sV (.ptr 16 4)<|sL rfl<|sV (.ptr 16 6)<|sL rfl<|sV (rB (decide (a0.aN ≤ a0.aY)))<|sF h (fun h => ?_) fun h => ?_
    ·refine sM rfl<|sV (.ptr 16 6)<|sL rfl<|sV (rB (decide (a0.aY ≤ (18014398509481984 : Int))))<|sF h (fun h => ?_) fun h => ?_
     ·refine sM rfl<|sV (.ptr 16 7)<|sL rfl<|bE h fun x7 hx7 h => cD (yv hx7)<|sF h (fun h => ?_) fun h => ?_
      ·refine sM rfl<|sV (.ptr 16 8)<|sL rfl<|bE h fun x9 hx9 h => cD (yv hx9)<|sV (rB x9)<|sA rfl<|sN<|qR ?_
       cases oI h
       exact qG
      refine sM rfl<|k3<|sU<|sA rfl<|sN<|qR ?_
      cases oI h
      exact qG
     refine sM rfl<|k3<|sU<|sM rfl<|k3<|sU<|sA rfl<|sN<|qR ?_
     cases oI h
     exact qG
    refine sM rfl<|k3<|sU<|sM rfl<|k3<|sU<|sM rfl<|k3<|sU ?_
    refine sA rfl<|sN<|qR ?_
    cases oI h
    exact qG
   refine sM rfl<|k3<|sK<|sK<|sU<|sM rfl<|k3<|sU<|sM rfl<|sK<|sK ?_
   refine sK<|sU<|sM rfl<|k3<|sU<|sA rfl<|sN<|qR ?_
   cases oI h
   exact qG
  refine sM rfl<|k3<|sK<|sK<|sU<|sM rfl<|k3<|sK<|sK<|sU<|sM rfl ?_
  refine k3<|sU<|sM rfl<|k3<|sU<|sM rfl<|k3<|sU<|sA rfl ?_
  refine sN<|qR ?_
  cases oI h
  exact qG
 refine WO.fj (v := rB false) (u := []) rfl rfl (fun _ => rfl) rfl rfl rfl rfl rfl (rp hx1) rfl rfl (congrArg (fun b => RV.d (.bool b)) hb2) rfl<|sM rfl<|k3<|sU<|sM rfl<|k3<|sK<|sK<|sU<|sM rfl<|sK ?_
 refine k3<|sK<|sU<|sM rfl<|k3<|sU<|sM rfl<|k3<|sU ?_
 refine sM rfl<|k3<|sU<|sA rfl<|sN<|qR ?_
 cases oI h
 exact qG
theorem mH {a0 : aa} {r : Bool} (h : dI a0 = some r) : EvP prog aw ext 79 [.d (aa.pd a0)] [] (rB r, []) := by
 refine Ev.body rfl Tryz.func79 rfl (by kernel_rfl)<|gS rfl rfl<|sB (.ptr 16 0) 16 (.var (aa.rc a0))<|sU<|sN<|gS rfl rfl<|sV (.d (aa.pd a0))<|bE h fun x1 hx1 h => cD (md hx1)<|sV (rB (!x1))<|sA rfl<|sN<|qR ?_
 cases oI h
 exact qG
theorem qp {a0 : (List aa)} {r : Int} (h : cG a0 = some r) : EvP prog aw ext 100 [.d (.lst (a0.map aa.pd)), .d (.raw (.func (.func 79) #[] #[]))] [] (rI r, []) := by
 refine Ev.body rfl Tryz.func100 rfl (by kernel_rfl)<|gS rfl rfl<|sV (r0)<|sN<|qS<|gS rfl rfl<|sM rfl<|sE (rI (a0.length : Int)) (b8 _ _)<|sV (r0)<|sN<|bE h fun o8 ho8 h => WC.block (WC.loop (WL.cv ho8 (fun s R' B' => bg prog 0 (A R' B') (aw.at_ 100 0 2) = some (A [(0, .d (.lst (a0.map aa.pd))), (1, .d (.raw (.func (.func 79) #[] #[]))), (7, rI (a0.length : Int)), (8, rI s)] [])) (fun o e R' B' => match o with | .inl y => e = .exit 0 ∧ bg prog 0 (A R' B') (aw.at_ 100 0 7) = some (A [] []) | .inr r => e = .ret ∧ finish prog (aw.own 100) Tryz.f100 0 (A R' B') = some (rI r, [])) rfl ?_ ?_))
 ·rintro s1 R' B' q2 hI h
  refine gS rfl hI<|sF h (fun h => ?_) fun h => ?_
  ·refine sN<|qS<|cT<|qK<|qS<|qB<|gS rfl rfl<|sM rfl<|sA rfl<|sN<|gS rfl rfl<|sM rfl<|sM rfl<|sM rfl<|bE h fun x4 hx4 h => ?_
   refine eG hx4 rfl<|sV (.d (aa.pd x4))<|bE h fun x5 hx5 h => cY h (fun hb6 h => ?_) (fun hb6 h => ?_)
   ·refine WO.fj (v := rB true) (u := []) rfl rfl (fun _ => rfl) rfl rfl rfl rfl rfl (mH hx5) rfl rfl (congrArg (fun b => RV.d (.bool b)) hb6) rfl<|sN<|cT<|gS rfl rfl<|sM rfl<|sA rfl<|sN<|qR ?_
    cases oI h
    exact ⟨nofun, rfl, rfl⟩
   refine WO.fj (v := rB false) (u := []) rfl rfl (fun _ => rfl) rfl rfl rfl rfl rfl (mH hx5) rfl rfl (congrArg (fun b => RV.d (.bool b)) hb6) rfl<|sN<|cF<|qK<|WC.region rfl rfl<|sV (rI (rW (s1 + (1 : Int))))<|sM rfl<|sN ?_
   cases oI h
   exact ⟨rfl, rfl⟩
  refine sN<|qS<|cF<|qX ?_
  cases oI h
  exact ⟨nofun, rfl, rfl⟩
 intro e R' B' he hq
 rcases o8 with y9 | r10
 ·obtain ⟨rfl, hI⟩ := hq
  refine qE<|gS rfl hI<|sV (rI (-1))<|sN<|qR ?_
  exact oI h▸qD
 obtain ⟨rfl, hf⟩ := hq
 cases oI h
 exact hf
theorem ov {a0 : (List aa)} {r : Bool} (h : cj a0 = some r) : EvP prog aw ext 57 [.d (.lst (a0.map aa.pd)), .d (.raw (.func (.func 79) #[] #[]))] [] (rB r, []) := by
 refine Ev.body rfl Tryz.func57 rfl (by kernel_rfl)<|gS rfl rfl<|sU<|sN<|gS rfl rfl<|sM rfl<|sM rfl<|bE h fun x1 hx1 h => cD (qp hx1)<|sV (rB (decide (x1 ≥ (0 : Int))))<|sA rfl<|sN<|qR ?_
 exact oI h▸qD
theorem ma {a0 : (List aa)} {r : Bool} (h : cB a0 = some r) : EvP prog aw ext 43 [.d (.lst (a0.map aa.pd))] [] (rB r, []) := by
 refine Ev.body rfl Tryz.func43 rfl (by kernel_rfl)<|gS rfl rfl<|sU<|sN<|gS rfl rfl<|sM rfl<|bE h fun x1 hx1 h => cD (ov hx1)<|sV (rB (!x1))<|sA rfl<|sN<|qR ?_
 exact oI h▸qD
theorem rq {a0 : (List UInt8)} {r : Bool} (h : fd a0 = some r) : EvP prog aw ext 167 [rS a0] [] (rB r, []) := by
 refine Ev.body rfl Tryz.func167 rfl (by kernel_rfl)<|gS rfl rfl<|sU<|sN<|gS rfl rfl<|sM rfl<|sM rfl<|sV (rB (!(a0 == a0)))<|sA rfl<|sN<|qR ?_
 exact oI h▸qD
theorem ig {a0 : (List UInt8)} {a1 : (List UInt8)} {r : Int} (h : cw a0 a1 = some r) : EvP prog aw ext 130 [rS a0, rS a1] [] (rI r, []) := by
 refine Ev.body rfl Tryz.func130 rfl (by kernel_rfl)<|gS rfl rfl<|sV (r0)<|sN<|gS rfl rfl<|sM rfl<|bE h fun x1 hx1 h => cD (rq hx1)<|sA rfl<|sN<|gS rfl rfl<|sM rfl<|bE h fun x2 hx2 h => cD (rq hx2)<|sA rfl ?_
 refine sN<|qS<|gS rfl rfl<|sF h (fun h => ?_) fun h => ?_
 ·refine sN<|cT<|qS<|gS rfl rfl<|sF h (fun h => ?_) fun h => ?_
  ·refine sN<|cT<|gS rfl rfl<|sV (r0)<|sN<|qR ?_
   exact oI h▸qD
  refine sN<|cF<|qK<|gS rfl rfl<|sV (rI (-1))<|sN<|qR ?_
  exact oI h▸qD
 refine sN<|cF<|qK<|qS<|gS rfl rfl<|sF h (fun h => ?_) fun h => ?_
 ·refine sN<|cT<|gS rfl rfl<|sV (rI 1)<|sN<|qR ?_
  exact oI h▸qD
 refine sN<|cF<|qK<|qS<|gS rfl rfl<|sM rfl<|sM rfl<|sF h (fun h => ?_) fun h => ?_
 ·refine sN<|cT<|gS rfl rfl<|sV (rI (-1))<|sN<|qR ?_
  exact oI h▸qD
 refine sN<|cF<|qK<|qS<|gS rfl rfl<|sM rfl<|sM rfl<|sF h (fun h => ?_) fun h => ?_
 ·refine sN<|cT<|gS rfl rfl<|sV (rI 1)<|sN<|qR ?_
  exact oI h▸qD
 refine sN<|cF<|qK<|gS rfl rfl<|sV (r0)<|sN<|qR ?_
 exact oI h▸qD
theorem pV {a0 : (List Int)} {r : Int} (h : gW a0 = some r) : EvP prog aw ext 122 [.d (.lst (a0.map (PD.int .i64)))] [] (rI r, []) := by
 refine Ev.body rfl Tryz.func122 rfl (by kernel_rfl)<|gS rfl rfl<|sV (r0)<|sN<|gS rfl rfl<|sV (r0)<|sN<|qS<|gS rfl rfl<|sM rfl<|sE (rI (a0.length : Int)) (b8 _ _)<|sV (r0)<|sN<|bE h fun o7 ho7 h => WC.block (WC.loop (WL.cv ho7 (fun s R' B' => bg prog 0 (A R' B') (aw.at_ 122 0 3) = some (A [(3, r0), (6, .d (.lst (a0.map (PD.int .i64)))), (7, rI (a0.length : Int)), (8, rI s)] [])) (fun o e R' B' => match o with | .inl y => e = .exit 0 ∧ bg prog 0 (A R' B') (aw.at_ 122 0 8) = some (A [(3, r0)] []) | .inr r => e = .ret ∧ finish prog (aw.own 122) Tryz.f122 0 (A R' B') = some (rI r, [])) rfl ?_ ?_))
 ·rintro s1 R' B' q2 hI h
  refine gS rfl hI<|sF h (fun h => ?_) fun h => ?_
  ·refine sN<|qS<|cT<|qK<|qS<|qB<|gS rfl rfl<|bE h fun x4 hx4 h => eG hx4 rfl<|sC rfl<|sA rfl<|sN<|gS rfl rfl<|sM rfl<|sM rfl ?_
   refine sF h (fun h => ?_) fun h => ?_
   ·refine sN<|cT<|gS rfl rfl<|sM rfl<|sA rfl<|sN<|qR ?_
    cases oI h
    exact ⟨nofun, rfl, rfl⟩
   refine sN<|cF<|qK<|WC.region rfl rfl<|sV (rI (rW (s1 + (1 : Int))))<|sM rfl<|sN ?_
   cases oI h
   exact ⟨rfl, rfl⟩
  refine sN<|qS<|cF<|qX ?_
  cases oI h
  exact ⟨nofun, rfl, rfl⟩
 intro e R' B' he hq
 rcases o7 with y8 | r9
 ·obtain ⟨rfl, hI⟩ := hq
  refine qE<|gS rfl hI<|sM rfl<|sA rfl<|sN<|qR ?_
  exact oI h▸qD
 obtain ⟨rfl, hf⟩ := hq
 cases oI h
 exact hf
theorem tv {a0 : ag} {a1 : ag} {r : Int} (h : bY a0 a1 = some r) : EvP prog aw ext 89 [.d (ag.pd a0), .d (ag.pd a1)] [] (rI r, []) := by
 refine Ev.body rfl Tryz.func89 rfl (by kernel_rfl)<|gS rfl rfl<|sB (.ptr 32 0) 32 (.var [rS a0.aC, rS a0.aA, rS a0.av, rS a0.aD])<|sB (.ptr 48 0) 48 (.var [rS a1.aC, rS a1.aA, rS a1.av, rS a1.aD])<|sV (r0)<|sN<|WC.bX rfl rfl<|sV (.ptr 32 0)<|sL rfl<|sV (.ptr 48 0)<|sL rfl<|bE h fun x1 hx1 h => cD (ig hx1)<|sV (.ptr 32 1)<|sL rfl ?_
 refine sV (.ptr 48 1)<|sL rfl<|bE h fun x2 hx2 h => cD (ig hx2)<|sV (.ptr 32 2)<|sL rfl<|sV (.ptr 48 2)<|sL rfl<|bE h fun x3 hx3 h => cD (ig hx3)<|sV (.ptr 32 3)<|sL rfl<|sV (.ptr 48 3)<|sL rfl<|bE h fun x4 hx4 h => ?_
 refine cD (ig hx4)<|sV (.d (.lst ([x1, x2, x3, x4].map (PD.int .i64))))<|bE h fun x5 hx5 h => cD (pV hx5)<|sA rfl ?_
 refine sN<|sO<|qR ?_
 exact oI h▸qD
theorem tQ {a0 : Int} {r : Bool} (h : jg a0 = some r) : EvP prog aw ext 126 [rI a0] [] (rB r, []) := by
 refine Ev.body rfl Tryz.func126 rfl (by kernel_rfl)<|gS rfl rfl<|sU<|sN<|gS rfl rfl<|sM rfl<|sM rfl<|sV (rB (a0 != a0))<|sA rfl<|sN<|qR ?_
 exact oI h▸qD
theorem bO {a0 : Int} {a1 : Int} {r : Int} (h : bu a0 a1 = some r) : EvP prog aw ext 83 [rI a0, rI a1] [] (rI r, []) := by
 refine Ev.body rfl Tryz.func83 rfl (by kernel_rfl)<|gS rfl rfl<|sV (r0)<|sN<|gS rfl rfl<|sM rfl<|bE h fun x1 hx1 h => cD (tQ hx1)<|sA rfl<|sN<|gS rfl rfl<|sM rfl<|bE h fun x2 hx2 h => cD (tQ hx2)<|sA rfl ?_
 refine sN<|qS<|gS rfl rfl<|sF h (fun h => ?_) fun h => ?_
 ·refine sN<|cT<|qS<|gS rfl rfl<|sF h (fun h => ?_) fun h => ?_
  ·refine sN<|cT<|gS rfl rfl<|sV (r0)<|sN<|qR ?_
   exact oI h▸qD
  refine sN<|cF<|qK<|gS rfl rfl<|sV (rI (-1))<|sN<|qR ?_
  exact oI h▸qD
 refine sN<|cF<|qK<|qS<|gS rfl rfl<|sF h (fun h => ?_) fun h => ?_
 ·refine sN<|cT<|gS rfl rfl<|sV (rI 1)<|sN<|qR ?_
  exact oI h▸qD
 refine sN<|cF<|qK<|qS<|gS rfl rfl<|sM rfl<|sM rfl<|sF h (fun h => ?_) fun h => ?_
 ·refine sN<|cT<|gS rfl rfl<|sV (rI (-1))<|sN<|qR ?_
  exact oI h▸qD
 refine sN<|cF<|qK<|qS<|gS rfl rfl<|sM rfl<|sM rfl<|sF h (fun h => ?_) fun h => ?_
 ·refine sN<|cT<|gS rfl rfl<|sV (rI 1)<|sN<|qR ?_
  exact oI h▸qD
 refine sN<|cF<|qK<|gS rfl rfl<|sV (r0)<|sN<|qR ?_
 exact oI h▸qD
theorem uT {d0 : (List aa)} {r : (List aa)} (h : cX d0 = some r) : EvP prog aw ext 124 [.ref 0 0] [.arr 0 52 (d0.map aa.pd)] (.ref 0 1, [.arr 1 52 (r.map aa.pd)]) := by
 refine Ev.body rfl Tryz.func124 rfl (by kernel_rfl)<|gS rfl rfl<|sV .cu<|sN<|qS<|gS rfl rfl<|sM rfl<|WO.kb rfl rfl rfl rfl rfl rfl rfl rfl rfl<|sF h (fun h => ?_) fun h => ?_
 ·refine sN<|cT<|WC.eC (R0 := [(0, .ref 0 1)]) (B0 := [(0, .arr 1 52 (d0.map aa.pd))]) rfl rfl<|sM rfl<|sA rfl<|sN<|qR ?_
  exact oI h▸qD
 refine sN<|cF<|qK<|qS<|gS rfl rfl<|sV (rI 1)<|sN<|bE h fun o38 ho38 h => WC.block (WC.loop (WL.cv ho38 (fun s R' B' => bg prog 1 (A R' B') (aw.at_ 124 1 4) = some (A [(0, .ref 0 0), (3, rI s)] [(0, .arr 0 52 (d0.map aa.pd))])) (fun o e R' B' => match o with | .inl y => e = .exit 0 ∧ bg prog 1 (A R' B') (aw.at_ 124 1 16) = some (A [(0, .ref 0 1)] [(0, .arr 1 52 (d0.map aa.pd))]) | .inr r => e = .ret ∧ finish prog (aw.own 124) Tryz.f124 1 (A R' B') = some (.ref 0 1, [.arr 1 52 (r.map aa.pd)])) rfl ?_ ?_))
 ·rintro s2 R' B' q3 hI h
  refine qS<|gS rfl hI<|sM rfl<|sM rfl<|WO.kb rfl rfl rfl rfl rfl rfl rfl rfl rfl<|sF h (fun h => ?_) fun h => ?_
  ·refine sN<|cT<|qK<|qS<|qB<|WC.bX rfl rfl<|sM rfl<|sM rfl<|bE h fun x6 hx6 h => WO.eE hx6 rfl rfl rfl rfl rfl rfl rfl rfl<|bE h fun x7 hx7 h => WO.eD hx7 rfl rfl rfl rfl rfl rfl<|sM rfl<|sM rfl<|sV (rI (rW (s2 - (1 : Int)))) ?_
   refine bE h fun x9 hx9 h => WO.eE hx9 rfl rfl rfl rfl rfl rfl rfl rfl<|bE h fun x10 hx10 h => WO.eD hx10 rfl rfl rfl rfl rfl rfl<|cY h (fun hb11 h => ?_) (fun hb11 h => ?_)
   ·refine WO.gu (xt x7 x10) hb11 rfl rfl rfl rfl rfl ?_
    refine sN<|sO<|cT<|gS rfl rfl<|sM rfl<|sM rfl<|bE h fun x12 hx12 h => WO.rb hx12 rfl rfl rfl rfl rfl rfl rfl rfl rfl rfl rfl rfl<|sA rfl<|sN<|qS<|gS rfl rfl<|sV (rI 1)<|sN<|bE h fun o32 ho32 h => WC.block (WC.loop (WL.cv ho32 (fun s R' B' => bg prog 1 (A R' B') (aw.at_ 124 1 9) = some (A [(0, .ref 0 0), (3, rI s.1), (4, .view 0 0 (0 + (s2 : Int).toNat) (0 + ((d0.length : Int) : Int).toNat)), (5, rI s.2.1)] [(0, .arr 0 52 (s.2.2.map aa.pd))])) (fun o e R' B' => e = .exit 2 ∧ bg prog 1 (A R' B') (aw.at_ 124 1 14) = some (A [(0, .ref 0 0), (3, rI o.1)] [(0, .arr 0 52 (o.2.map aa.pd))])) rfl ?_ ?_))
    ·rintro ⟨s13, s14, s15⟩ R' B' q18 hI h
     refine qS<|gS rfl hI<|sM rfl<|sM rfl<|bE h fun x19 hx19 h => WO.lenVw hx19 rfl rfl rfl rfl rfl rfl rfl rfl rfl<|sF h (fun h => ?_) fun h => ?_
     ·refine sN<|cT<|qK<|qS<|qB<|WC.bX rfl rfl<|sM rfl<|sM rfl<|bE h fun x21 hx21 h => WO.eltV hx21 rfl rfl rfl rfl rfl rfl rfl rfl<|bE h fun x22 hx22 h => WO.eD hx22 rfl rfl rfl rfl rfl rfl<|sM rfl<|sM rfl<|sV (rI (rW (s14 - (1 : Int)))) ?_
      refine bE h fun x23 hx23 h => WO.eltV hx23 rfl rfl rfl rfl rfl rfl rfl rfl<|bE h fun x24 hx24 h => WO.eD hx24 rfl rfl rfl rfl rfl rfl<|cY h (fun hb25 h => ?_) (fun hb25 h => ?_)
      ·refine WO.gu (eqN_52 x22 x24) hb25 rfl rfl rfl rfl rfl ?_
       refine sN<|sO<|cT<|gS rfl rfl<|sM rfl<|sM rfl<|sM rfl<|sM rfl<|bE h fun x26 hx26 h => WO.eltV hx26 rfl rfl rfl rfl rfl rfl rfl rfl<|bE h fun x27 hx27 h => WO.eD hx27 rfl rfl rfl rfl rfl rfl<|bE h fun x29 hx29 h => WO.eE hx29 rfl rfl rfl rfl rfl rfl rfl rfl<|bE h fun x30 hx30 h => WO.jP (g := aa.pd) (sz := 9) (p := aa.pd x27) hx30 (by intro _; kernel_rfl) (by intro _; kernel_rfl) rfl rfl rfl rfl rfl rfl rfl rfl rfl ?_
       refine sN<|WC.region rfl rfl<|sM rfl<|sV (rI (rW (s13 + (1 : Int))))<|sA rfl<|sN<|WC.region rfl rfl<|sM rfl<|sV (rI (rW (s14 + (1 : Int))))<|sA rfl<|sN ?_
       cases oI h
       exact ⟨rfl, rfl⟩
      refine WO.gu (eqN_52 x22 x24) hb25 rfl rfl rfl rfl rfl ?_
      refine sN<|sO<|cF<|qK<|WC.region rfl rfl<|sM rfl<|sV (rI (rW (s14 + (1 : Int))))<|sA rfl<|sN ?_
      cases oI h
      exact ⟨rfl, rfl⟩
     refine sN<|cF<|qX ?_
     cases oI h
     exact ⟨nofun, rfl, rfl⟩
    intro e R' B' he hq
    obtain ⟨rfl, hI⟩ := hq
    refine qE<|gS rfl hI<|sM rfl<|sM rfl<|bE h fun x33 hx33 h => WO.rb hx33 rfl rfl rfl rfl rfl rfl rfl rfl rfl rfl rfl rfl<|bE h fun x34 hx34 h => WO.wX (z := (aa.mk (ag.mk [] [] [] []) 0 0 0 0 0)) (g := aa.pd) rfl rfl rfl rfl rfl rfl rfl (lh hx34 rfl) rfl rfl rfl rfl<|sN<|gS rfl rfl<|sM rfl<|sM rfl<|bE h fun x36 hx36 h => WO.resl hx36 rfl rfl rfl rfl rfl rfl rfl rfl rfl rfl rfl rfl<|sA rfl ?_
    refine sN<|qR ?_
    cases oI h
    exact ⟨nofun, rfl, rfl⟩
   refine WO.gu (xt x7 x10) hb11 rfl rfl rfl rfl rfl ?_
   refine sN<|sO<|cF<|qK<|WC.region rfl rfl<|sM rfl<|sV (rI (rW (s2 + (1 : Int))))<|sA rfl<|sN ?_
   cases oI h
   exact ⟨rfl, rfl⟩
  refine sN<|cF<|qX ?_
  cases oI h
  exact ⟨nofun, rfl, rfl⟩
 intro e R' B' he hq
 rcases o38 with y39 | r40
 ·obtain ⟨rfl, hI⟩ := hq
  refine qE<|gS rfl hI<|sM rfl<|sA rfl<|sN<|qR ?_
  exact oI h▸qD
 obtain ⟨rfl, hf⟩ := hq
 cases oI h
 exact hf
theorem wg {a0 : (List aa)} {r : (List aa)} (h : gK a0 = some r) : EvP prog aw ext 80 [.d (.lst (a0.map aa.pd))] [] (.ref 0 0, [.arr 0 52 (r.map aa.pd)]) := by
 refine Ev.body rfl Tryz.func80 rfl (by kernel_rfl)<|gS rfl rfl<|sV .cu<|sN<|gS rfl rfl<|sM rfl<|bE h fun x1 hx1 h => cR (.ref 80 0) [(80, .arr 0 52 (x1.map aa.pd))] (clone_123 hx1)<|sA rfl<|sN<|gS rfl rfl<|sM rfl<|bE h fun x2 hx2 h => cR (.tup []) [(80, .arr 0 52 (x2.map aa.pd))] (xT hx2)<|sN ?_
 refine gS rfl rfl<|sM rfl<|bE h fun x3 hx3 h => cR (.ref 80 1) [(80, .arr 1 52 (x3.map aa.pd))] (uT hx3)<|sA rfl<|sN<|qR ?_
 exact oI h▸qD
theorem rM {a0 : aa} {a1 : aa} {r : Int} (h : dh a0 a1 = some r) : EvP prog aw ext 82 [.d (aa.pd a0), .d (aa.pd a1)] [] (rI r, []) := by
 refine Ev.body rfl Tryz.func82 rfl (by kernel_rfl)<|gS rfl rfl<|sB (.ptr 32 0) 32 (.var (aa.rc a0))<|sB (.ptr 48 0) 48 (.var (aa.rc a1))<|sV (r0)<|sN<|gS rfl rfl<|sV (.ptr 32 5)<|sL rfl<|sV (.ptr 48 5)<|sL rfl<|bE h fun x1 hx1 h => cD (bO hx1)<|sA rfl<|sN ?_
 refine qR ?_
 cases oI h
 exact qG
theorem fb {a1 : Int} {a2 : Int} {d0 : (List aa)} {r : (List aa)} (h : a8 a1 a2 d0 = some r) : EvP prog aw ext 147 [.ref 0 0, rI a1, rI a2, .d (.raw (.func (.func 82) #[] #[]))] [.arr 0 52 (d0.map aa.pd)] (.tup [], [.arr 0 52 (r.map aa.pd)]) := by
 refine Ev.body rfl Tryz.func147 rfl (by kernel_rfl)<|gS rfl rfl<|sM rfl<|sV (rI (rW (a1 + (1 : Int))))<|sA rfl<|sN<|bE h fun o35 ho35 h => ?_
 cases oI h
 refine WC.block (WC.loop (WL.tZ ho35 (fun s R' B' => bg prog 1 (A R' B') (aw.at_ 147 1 1) = some (A [(0, .ref 0 0), (1, rI a1), (2, rI a2), (3, .d (.raw (.func (.func 82) #[] #[]))), (8, rI s.1)] [(0, .arr 0 52 (s.2.map aa.pd))])) rfl ?_))
 rintro ⟨s1, s2⟩ R' B' q3 hI h
 refine qS<|gS rfl hI<|sM rfl<|sM rfl<|sF h (fun h => ?_) fun h => ?_
 ·refine sN<|cT<|qK<|qS<|qB<|gS rfl rfl<|sM rfl<|sA rfl<|sN<|bE h fun o32 ho32 h => WC.block (WC.loop (WL.cv ho32 (fun s R' B' => bg prog 1 (A R' B') (aw.at_ 147 1 4) = some (A [(0, .ref 0 0), (1, rI a1), (2, rI a2), (3, .d (.raw (.func (.func 82) #[] #[]))), (8, rI s1), (9, rI s.1)] [(0, .arr 0 52 (s.2.map aa.pd))])) (fun o e R' B' => e = .exit 2 ∧ bg prog 1 (A R' B') (aw.at_ 147 1 2) = some (A [(0, .ref 0 0), (1, rI a1), (2, rI a2), (3, .d (.raw (.func (.func 82) #[] #[]))), (8, rI o.1)] [(0, .arr 0 52 (o.2.map aa.pd))])) rfl ?_ ?_))
  ·rintro ⟨s5, s6⟩ R' B' q9 hI h
   refine qS<|WC.bX hI rfl<|sM rfl<|sM rfl<|sF h (fun h => ?_) fun h => ?_
   ·refine sM rfl<|sM rfl<|sM rfl<|sM rfl<|bE h fun x12 hx12 h => WO.eE hx12 rfl rfl rfl rfl rfl rfl rfl rfl<|bE h fun x13 hx13 h => WO.eD hx13 rfl rfl rfl rfl rfl rfl<|sM rfl<|sM rfl<|sV (rI (rW (s5 - (1 : Int))))<|bE h fun x15 hx15 h => WO.eE hx15 rfl rfl rfl rfl rfl rfl rfl rfl<|bE h fun x16 hx16 h => WO.eD hx16 rfl rfl rfl rfl rfl rfl ?_
    refine bE h fun x17 hx17 h => cD (rM hx17)<|sV (rB (decide (x17 < (0 : Int))))<|sF h (fun h => ?_) fun h => ?_
    ·refine sN<|sO<|cT<|qK<|qS<|qB<|WC.eP rfl rfl<|sM rfl<|sM rfl<|sM rfl<|sM rfl<|sV (rI (rW (s5 - (1 : Int))))<|sM rfl<|sM rfl<|sV (rI (rW (s5 - (1 : Int))))<|bE h fun x20 hx20 h => ?_
     refine WO.eE hx20 rfl rfl rfl rfl rfl rfl rfl rfl<|bE h fun x21 hx21 h => WO.eD hx21 rfl rfl rfl rfl rfl rfl<|sM rfl<|sM rfl<|bE h fun x23 hx23 h => WO.eE hx23 rfl rfl rfl rfl rfl rfl rfl rfl<|bE h fun x24 hx24 h => WO.eD hx24 rfl rfl rfl rfl rfl rfl<|bE h fun x26 hx26 h => WO.eE hx26 rfl rfl rfl rfl rfl rfl rfl rfl<|bE h fun x27 hx27 h => WO.jP (g := aa.pd) (sz := 9) (p := aa.pd x21) hx27 (by intro _; kernel_rfl) (by intro _; kernel_rfl) rfl rfl rfl rfl rfl rfl rfl rfl rfl<|bE h fun x29 hx29 h => WO.eE hx29 rfl rfl rfl rfl rfl rfl rfl rfl ?_
     refine bE h fun x30 hx30 h => WO.jP (g := aa.pd) (sz := 9) (p := aa.pd x24) hx30 (by intro _; kernel_rfl) (by intro _; kernel_rfl) rfl rfl rfl rfl rfl rfl rfl rfl rfl ?_
     refine sN<|sO<|WC.region rfl rfl<|sM rfl<|sV (rI (rW (s5 - (1 : Int))))<|sA rfl<|sN ?_
     cases oI h
     exact ⟨rfl, rfl⟩
    refine sN<|sO<|cF<|qX ?_
    cases oI h
    exact ⟨nofun, rfl, rfl⟩
   refine sM rfl<|k3<|k3<|k3<|k3<|sU ?_
   refine sN<|sO<|cF<|qX ?_
   cases oI h
   exact ⟨nofun, rfl, rfl⟩
  intro e R' B' he hq
  obtain ⟨rfl, hI⟩ := hq
  refine qE<|WC.region hI rfl<|sM rfl<|sV (rI (rW (o32.1 + (1 : Int))))<|sA rfl<|sN ?_
  cases oI h
  exact ⟨rfl, rfl⟩
 refine sN<|cF<|qX<|pB h (fun z33 hkz33 hz => ?_)
 obtain rfl := Option.some.inj hz
 refine ⟨(fun he => by cases he), fun hz2 => ?_⟩
 subst hz2
 have h := hkz33
 refine qE ?_
 exact oI h▸qD
theorem nR {a1 : Int} {d0 : (List aa)} {r : (List aa)} (h : cH a1 d0 = some r) : EvP prog aw ext 125 [.ref 0 0, rI a1, .d (.raw (.func (.func 82) #[] #[]))] [.arr 0 52 (d0.map aa.pd)] (.tup [], [.arr 0 52 (r.map aa.pd)]) := by
 refine Ev.body rfl Tryz.func125 rfl (by kernel_rfl)<|gS rfl rfl<|sV (rI 20)<|sN<|gS rfl rfl<|sM rfl<|sV (r0)<|sA rfl<|sN<|qS<|bE h fun o10 ho10 h => WC.block (WC.loop (WL.cv ho10 (fun s R' B' => bg prog 1 (A R' B') (aw.at_ 125 1 2) = some (A [(0, .ref 0 0), (1, rI a1), (2, .d (.raw (.func (.func 82) #[] #[]))), (6, rI 20), (7, rI s.1), (8, rI s.2.1)] [(0, .arr 0 52 (s.2.2.map aa.pd))])) (fun o e R' B' => e = .exit 0 ∧ bg prog 1 (A R' B') (aw.at_ 125 1 6) = some (A [(0, .ref 0 0), (1, rI a1), (2, .d (.raw (.func (.func 82) #[] #[]))), (6, rI 20), (7, rI o.1)] [(0, .arr 0 52 (o.2.map aa.pd))])) rfl ?_ ?_))
 ·rintro ⟨s1, s2, s3⟩ R' B' q6 hI h
  refine qS<|gS rfl hI<|sM rfl<|sM rfl<|sF h (fun h => ?_) fun h => ?_
  ·refine sN<|cT<|qK<|qB<|gS rfl rfl<|sM rfl<|sM rfl<|sM rfl<|sM rfl<|bE h fun x8 hx8 h => cR (.tup []) [(0, .arr 0 52 (x8.map aa.pd))] (fb hx8)<|sN<|gS rfl rfl<|sM rfl<|sA rfl ?_
   refine sN<|WC.region rfl rfl<|sM rfl<|sM rfl<|sV (rI (rW (s2 + (20 : Int))))<|sA rfl<|sN ?_
   cases oI h
   exact ⟨rfl, rfl⟩
  refine sN<|cF<|qX ?_
  cases oI h
  exact ⟨nofun, rfl, rfl⟩
 intro e R' B' he hq
 obtain ⟨rfl, hI⟩ := hq
 refine qE<|gS rfl hI<|sM rfl<|sM rfl<|sM rfl<|sM rfl<|bE h fun x11 hx11 h => cR (.tup []) [(0, .arr 0 52 (x11.map aa.pd))] (fb hx11)<|sN<|bE h fun o23 ho23 h => ?_
 cases oI h
 refine WC.block (WC.loop (WL.tZ ho23 (fun s R' B' => bg prog 1 (A R' B') (aw.at_ 125 1 7) = some (A [(0, .ref 0 0), (1, rI a1), (2, .d (.raw (.func (.func 82) #[] #[]))), (6, rI s)] [(0, .arr 0 52 (x11.map aa.pd))])) rfl ?_))
 rintro s12 R' B' q13 hI h
 refine qS<|gS rfl hI<|sM rfl<|sM rfl<|sF h (fun h => ?_) fun h => ?_
 ·refine sN<|cT<|qK<|qB<|gS rfl rfl<|sM rfl<|sV (rI (rW ((2 : Int) * s12)))<|sV (r0)<|sA rfl<|sN<|qS<|bE h fun o19 ho19 h => WC.block (WC.loop (WL.cv ho19 (fun s R' B' => bg prog 1 (A R' B') (aw.at_ 125 1 9) = some (A [(0, .ref 0 0), (1, rI a1), (2, .d (.raw (.func (.func 82) #[] #[]))), (6, rI s12), (7, r0), (8, rI (rW ((2 : Int) * s12)))] [(0, .arr 0 52 (x11.map aa.pd))])) (fun o e R' B' => e = .exit 4 ∧ bg prog 1 (A R' B') (aw.at_ 125 1 13) = some (A [(0, .ref 0 0), (1, rI a1), (2, .d (.raw (.func (.func 82) #[] #[]))), (6, rI o), (7, r0)] [(0, .arr 0 52 (x11.map aa.pd))])) rfl ?_ ?_))
  ·rintro ⟨⟩ R' B' q16 hI h
   refine qS<|gS rfl hI<|sM rfl<|sM rfl<|sF h (fun h => ?_) fun h => ?_
   ·refine sN<|cT<|qK<|qB<|gS rfl rfl<|sM rfl<|sM rfl<|sM rfl<|sM rfl<|sV (rI (rW ((0 : Int) + s12)))<|sM rfl<|sM rfl ?_
    cases h
   refine sN<|cF<|qX ?_
   cases oI h
   exact ⟨nofun, rfl, rfl⟩
  intro e R' B' he hq
  obtain ⟨rfl, hI⟩ := hq
  refine qE<|qS<|gS rfl hI<|sM rfl<|sM rfl<|sV (rI (rW ((0 : Int) + o19)))<|sA rfl<|sN<|gS rfl rfl<|sM rfl<|sM rfl<|sF h (fun h => ?_) fun h => ?_
  ·refine sN<|cT<|WC.region rfl rfl<|sM rfl<|sM rfl<|sM rfl<|sM rfl<|sM rfl ?_
   cases h
  refine sN<|cF<|qK<|WC.region rfl rfl<|sM rfl<|sV (rI (rW (o19 * (2 : Int))))<|sA rfl<|sN ?_
  cases oI h
  exact ⟨rfl, rfl⟩
 refine sN<|cF<|qX<|pB h (fun z21 hkz21 hz => ?_)
 obtain rfl := Option.some.inj hz
 refine ⟨(fun he => by cases he), fun hz2 => ?_⟩
 subst hz2
 have h := hkz21
 refine qE ?_
 exact oI h▸qD
theorem nr {d0 : (List aa)} {r : (List aa)} (h : bt d0 = some r) : EvP prog aw ext 81 [.ref 0 0, .d (.raw (.func (.func 82) #[] #[]))] [.arr 0 52 (d0.map aa.pd)] (.tup [], [.arr 0 52 (r.map aa.pd)]) := by
 refine Ev.body rfl Tryz.func81 rfl (by kernel_rfl)<|WC.region rfl rfl<|sM rfl<|sM rfl<|WO.kb rfl rfl rfl rfl rfl rfl rfl rfl rfl<|sM rfl<|bE h fun x1 hx1 h => cR (.tup []) [(0, .arr 0 52 (x1.map aa.pd))] (nR hx1)<|sN ?_
 exact oI h▸qD
theorem kF {a0 : Int} {a1 : (List aa)} {r : (List (List aa))} (h : bG a0 a1 = some r) : EvP prog aw ext 44 [rI a0, .d (.lst (a1.map aa.pd))] [] (.d (.lst (r.map (fun l => PD.lst (l.map aa.pd)))), []) := by
 refine Ev.body rfl Tryz.func44 rfl (by kernel_rfl)<|gS rfl rfl<|sV .cu<|sN<|gS rfl rfl<|sM rfl<|bE h fun x1 hx1 h => cR (.ref 192 0) [(192, .arr 0 52 (x1.map aa.pd))] (wg hx1)<|sA rfl<|sN<|gS rfl rfl<|sM rfl<|bE h fun x2 hx2 h => cR (.tup []) [(192, .arr 0 52 (x2.map aa.pd))] (nr hx2)<|sN ?_
 refine gS rfl rfl<|sV .cu<|sN<|qS<|gS rfl rfl<|sM rfl<|WO.kb rfl rfl rfl rfl rfl rfl rfl rfl rfl<|sV (r0)<|sN<|bE h fun o37 ho37 h => WC.block (WC.loop (WL.cv ho37 (fun s R' B' => bg prog 0 (A R' B') (aw.at_ 44 0 5) = some (A [(0, rI a0), (5, .ref 192 0), (6, .ref 624 0), (15, .ref 192 0), (16, rI (x2.length : Int)), (17, rI s.1)] [(192, .arr 0 52 (x2.map aa.pd)), (624, .nest 0 25 52 (s.2.map (List.map aa.pd)) none)])) (fun o e R' B' => e = .exit 0 ∧ bg prog 0 (A R' B') (aw.at_ 44 0 11) = some (A [(6, .ref 624 0)] [(624, .nest 0 25 52 (o.map (List.map aa.pd)) none)])) rfl ?_ ?_))
 ·rintro ⟨s3, s4⟩ R' B' q6 hI h
  refine gS rfl hI<|sF h (fun h => ?_) fun h => ?_
  ·refine sN<|qS<|cT<|qK<|qS<|qB<|gS rfl rfl<|sM rfl<|bE h fun x9 hx9 h => WO.eE hx9 rfl rfl rfl rfl rfl rfl rfl rfl<|bE h fun x10 hx10 h => WO.eD hx10 rfl rfl rfl rfl rfl rfl<|sB (.ptr 128 0) 128 (.var zZ1)<|sA rfl<|sH 128 (.var (aa.rc x10)) ?_
   refine sN<|qS<|WC.bX rfl rfl<|sM rfl<|sF h (fun h => ?_) fun h => ?_
   ·refine sM rfl<|k3<|k3<|k3<|sK<|sK<|sT ?_
    refine sN<|sO<|cT<|WC.region (R0 := [(0, rI a0), (5, .ref 192 0), (6, .ref 624 0), (8, .ptr 128 0), (15, .ref 192 0), (16, rI (x2.length : Int)), (17, rI s3)]) (B0 := [(128, .var (aa.rc x10)), (192, .arr 0 52 (x2.map aa.pd)), (624, .nest 0 25 52 (s4.map (List.map aa.pd)) none)]) rfl rfl<|sM rfl<|sV (.d (.lst [qY]))<|bE h fun x12 hx12 h => WO.appNN hx12 rfl rfl rfl rfl rfl rfl rfl rfl rfl rfl rfl rfl rfl rfl<|sA rfl<|sN<|bE h fun x13 hx13 h => WC.eP (gF hx13 rfl rfl rfl) rfl<|sM rfl<|sM rfl<|WO.oY rfl rfl rfl rfl rfl rfl rfl rfl rfl<|sV (rI (rW ((x12.length : Int) - (1 : Int)))) ?_
    refine sM rfl<|sM rfl<|WO.oY rfl rfl rfl rfl rfl rfl rfl rfl rfl<|sV (rI (rW ((x12.length : Int) - (1 : Int))))<|bE h fun x14 hx14 h => WO.nS hx14 rfl rfl rfl rfl rfl rfl rfl rfl<|bE h fun x15 hx15 h => WO.qF hx15 rfl rfl rfl rfl rfl rfl<|sV (.d (aa.pd x10))<|sG (.d (.lst ([x10].map aa.pd)))<|bE h fun x16 hx16 h => aR hx16 (fun _ => rfl) rfl<|bE h fun x17 hx17 h => WO.nS hx17 rfl rfl rfl rfl rfl rfl rfl rfl<|bE h fun x18 hx18 h => ?_
    refine WO.oA hx18 rfl rfl rfl rfl rfl rfl rfl ?_
    refine sN<|sO<|WC.region rfl rfl<|sV (rI (rW (s3 + (1 : Int))))<|sM rfl<|sN ?_
    cases oI h
    exact ⟨rfl, (fQ rfl rfl (by decide) rfl)⟩
   refine sM rfl<|sV (.ptr 128 5)<|sL rfl<|sM rfl<|sM rfl<|sV (rI (rW (s3 - (1 : Int))))<|bE h fun x20 hx20 h => WO.eE hx20 rfl rfl rfl rfl rfl rfl rfl rfl<|sV (.elt 192 0 ((rW (s3 - (1 : Int)))).toNat 5)<|bE h fun x21 hx21 h => WO.eD hx21 rfl rfl rfl rfl rfl rfl<|sV (rI (rW (x10.aG - x21.aG)))<|sM rfl<|sV (rB (decide ((rW (x10.aG - x21.aG)) > a0)))<|sF h (fun h => ?_) fun h => ?_
   ·refine sN<|sO<|cT<|WC.region (R0 := [(0, rI a0), (5, .ref 192 0), (6, .ref 624 0), (8, .ptr 128 0), (15, .ref 192 0), (16, rI (x2.length : Int)), (17, rI s3)]) (B0 := [(128, .var (aa.rc x10)), (192, .arr 0 52 (x2.map aa.pd)), (624, .nest 0 25 52 (s4.map (List.map aa.pd)) none)]) rfl rfl<|sM rfl<|sV (.d (.lst [qY]))<|bE h fun x23 hx23 h => WO.appNN hx23 rfl rfl rfl rfl rfl rfl rfl rfl rfl rfl rfl rfl rfl rfl<|sA rfl<|sN<|bE h fun x24 hx24 h => WC.eP (gF hx24 rfl rfl rfl) rfl<|sM rfl<|sM rfl<|WO.oY rfl rfl rfl rfl rfl rfl rfl rfl rfl<|sV (rI (rW ((x23.length : Int) - (1 : Int)))) ?_
    refine sM rfl<|sM rfl<|WO.oY rfl rfl rfl rfl rfl rfl rfl rfl rfl<|sV (rI (rW ((x23.length : Int) - (1 : Int))))<|bE h fun x25 hx25 h => WO.nS hx25 rfl rfl rfl rfl rfl rfl rfl rfl<|bE h fun x26 hx26 h => WO.qF hx26 rfl rfl rfl rfl rfl rfl<|sV (.d (aa.pd x10))<|sG (.d (.lst ([x10].map aa.pd)))<|bE h fun x27 hx27 h => aR hx27 (fun _ => rfl) rfl<|bE h fun x28 hx28 h => WO.nS hx28 rfl rfl rfl rfl rfl rfl rfl rfl<|bE h fun x29 hx29 h => ?_
    refine WO.oA hx29 rfl rfl rfl rfl rfl rfl rfl ?_
    refine sN<|sO<|WC.region rfl rfl<|sV (rI (rW (s3 + (1 : Int))))<|sM rfl<|sN ?_
    cases oI h
    exact ⟨rfl, (fQ rfl rfl (by decide) rfl)⟩
   refine sN<|sO<|cF<|qK<|bE h fun x30 hx30 h => WC.eP (gF hx30 rfl rfl rfl) rfl<|sM rfl<|sM rfl<|WO.oY rfl rfl rfl rfl rfl rfl rfl rfl rfl<|sV (rI (rW ((s4.length : Int) - (1 : Int))))<|sM rfl<|sM rfl<|WO.oY rfl rfl rfl rfl rfl rfl rfl rfl rfl<|sV (rI (rW ((s4.length : Int) - (1 : Int))))<|bE h fun x31 hx31 h => WO.nS hx31 rfl rfl rfl rfl rfl rfl rfl rfl ?_
   refine bE h fun x32 hx32 h => WO.qF hx32 rfl rfl rfl rfl rfl rfl<|sV (.d (aa.pd x10))<|sG (.d (.lst ([x10].map aa.pd)))<|bE h fun x33 hx33 h => aR hx33 (fun _ => rfl) rfl<|bE h fun x34 hx34 h => WO.nS hx34 rfl rfl rfl rfl rfl rfl rfl rfl<|bE h fun x35 hx35 h => WO.oA hx35 rfl rfl rfl rfl rfl rfl rfl ?_
   refine sN<|sO<|WC.region rfl rfl<|sV (rI (rW (s3 + (1 : Int))))<|sM rfl<|sN ?_
   cases oI h
   exact ⟨rfl, (fQ rfl rfl (by decide) rfl)⟩
  refine sN<|qS<|cF<|qX ?_
  cases oI h
  exact ⟨nofun, rfl, rfl⟩
 intro e R' B' he hq
 obtain ⟨rfl, hI⟩ := hq
 refine qE<|qS<|gS rfl hI<|sM rfl<|WO.oY rfl rfl rfl rfl rfl rfl rfl rfl rfl<|sV (r0)<|sN<|bE h fun o48 ho48 h => WC.block (WC.loop (WL.cv ho48 (fun s R' B' => bg prog 0 (A R' B') (aw.at_ 44 0 12) = some (A [(6, .ref 624 0), (55, .ref 624 0), (56, rI (o37.length : Int)), (57, rI s.1)] [(624, .nest 0 25 52 (s.2.map (List.map aa.pd)) none)])) (fun o e R' B' => e = .exit 2 ∧ bg prog 0 (A R' B') (aw.at_ 44 0 16) = some (A [(6, .d (.lst (o.map (fun l => PD.lst (l.map aa.pd)))))] [])) rfl ?_ ?_))
 ·rintro ⟨s38, s39⟩ R' B' q41 hI h
  refine gS rfl hI<|sF h (fun h => ?_) fun h => ?_
  ·refine sN<|qS<|cT<|qK<|qS<|qB<|bE h fun x43 hx43 h => WC.eC (oR hx43 rfl rfl rfl rfl) rfl<|bE h fun x44 hx44 h => WO.nS hx44 rfl rfl rfl rfl rfl rfl rfl rfl<|bE h fun x45 hx45 h => WO.qF hx45 rfl rfl rfl rfl rfl rfl<|sA rfl<|sN<|WC.region rfl rfl ?_
   refine sM rfl<|bE h fun x46 hx46 h => cR (.tup []) [(960, .arr 0 52 (x46.map aa.pd))] (xT hx46)<|sN<|WC.region rfl rfl<|sV (rI (rW (s38 + (1 : Int))))<|sM rfl<|sN ?_
   cases oI h
   exact ⟨rfl, (fQ rfl rfl (by decide) rfl)⟩
  refine sN<|qS<|cF<|qX ?_
  cases oI h
  exact ⟨nofun, rfl, (gC rfl (qu rfl rfl rfl))⟩
 intro e R' B' he hq
 obtain ⟨rfl, hI⟩ := hq
 refine qE<|gS rfl hI<|sM rfl<|sA rfl<|sN<|qR ?_
 exact oI h▸qD
theorem e8 {a0 : Int} {a1 : (List aa)} {r : (List (List aa)) × Int} (h : bo a0 a1 = some r) : EvP prog aw ext 13 [rI a0, .d (.lst (a1.map aa.pd))] [] (.tup [.d (.lst (r.1.map (fun l => PD.lst (l.map aa.pd)))), rI r.2], []) := by
 refine Ev.body rfl Tryz.func13 rfl (by kernel_rfl)<|gS rfl rfl<|sV .cu<|sV (r0)<|sN<|qS<|qB<|gS rfl rfl<|sM rfl<|sF h (fun h => ?_) fun h => ?_
 ·refine sM rfl<|sK<|sK<|sT<|sA rfl<|sN<|cT<|gS rfl rfl<|sV .cu<|sV (rI 2)<|sN<|qR ?_
  exact oI h▸qD
 refine sM rfl<|sM rfl<|sV (rB (decide (a0 > (1099511627776 : Int))))<|sF h (fun h => ?_) fun h => ?_
 ·refine sA rfl<|sN<|cT<|gS rfl rfl<|sV .cu<|sV (rI 2)<|sN<|qR ?_
  exact oI h▸qD
 refine sA rfl<|sN<|cF<|gS rfl rfl<|sM rfl<|bE h fun x3 hx3 h => cD (ma hx3)<|sF h (fun h => ?_) fun h => ?_
 ·refine sA rfl<|sN<|cT<|gS rfl rfl<|sV .cu<|sV (rI 1)<|sN<|qR ?_
  exact oI h▸qD
 refine sA rfl<|sN<|cF<|qK<|gS rfl rfl<|sM rfl<|sM rfl<|bE h fun x5 hx5 h => cD (kF hx5)<|sA rfl<|sV (r0)<|sN<|qR ?_
 exact oI h▸qD
theorem lQ {a0 : (List UInt8)} {a1 : (List UInt8)} {r : Int} (h : fw a0 a1 = some r) : EvP prog aw ext 127 [rS a0, rS a1] [] (rI r, []) := by
 refine Ev.body rfl Tryz.func127 rfl (by kernel_rfl)<|gS rfl rfl<|sV (r0)<|sN<|qS<|qB<|gS rfl rfl<|sM rfl<|sM rfl<|sF h (fun h => ?_) fun h => ?_
 ·refine sA rfl<|sN<|cT<|gS rfl rfl<|sV (rI (-1))<|sN<|qR ?_
  exact oI h▸qD
 refine sA rfl<|sN<|cF<|gS rfl rfl<|sM rfl<|sM rfl<|sF h (fun h => ?_) fun h => ?_
 ·refine sA rfl<|sN<|cT<|gS rfl rfl<|sV (rI 1)<|sN<|qR ?_
  exact oI h▸qD
 refine sA rfl<|sN<|cF<|qK<|gS rfl rfl<|sV (r0)<|sN<|qR ?_
 exact oI h▸qD
theorem pb {a0 : ag} {a1 : ag} {r : Int} (h : gL a0 a1 = some r) : EvP prog aw ext 84 [.d (ag.pd a0), .d (ag.pd a1)] [] (rI r, []) := by
 refine Ev.body rfl Tryz.func84 rfl (by kernel_rfl)<|gS rfl rfl<|sB (.ptr 32 0) 32 (.var [rS a0.aC, rS a0.aA, rS a0.av, rS a0.aD])<|sB (.ptr 48 0) 48 (.var [rS a1.aC, rS a1.aA, rS a1.av, rS a1.aD])<|sV (r0)<|sN<|qS<|WC.bX rfl rfl<|sV (.ptr 32 0)<|sL rfl<|sV (.ptr 48 0)<|sL rfl<|bE h fun x1 hx1 h => cD (lQ hx1)<|sV (.ptr 32 1) ?_
 refine sL rfl<|sV (.ptr 48 1)<|sL rfl<|bE h fun x2 hx2 h => cD (lQ hx2)<|sV (.ptr 32 2)<|sL rfl<|sV (.ptr 48 2)<|sL rfl<|bE h fun x3 hx3 h => cD (lQ hx3)<|sV (.ptr 32 3)<|sL rfl<|sV (.ptr 48 3)<|sL rfl ?_
 refine bE h fun x4 hx4 h => cD (lQ hx4)<|sV (.d (A4_Int.pd (A4_Int.mk x1 x2 x3 x4)))<|sV (r0) ?_
 refine sN<|sO<|WC.block (WC.loop ?_)
 refine WL.round<|gS rfl rfl<|sT<|sN<|qS<|cT<|qK<|qS<|qB<|gS rfl rfl<|sV (rI x1)<|sA rfl<|sN<|gS rfl rfl<|sM rfl ?_
 refine sF h (fun h => ?_) fun h => ?_
 ·refine sN<|cT<|gS rfl rfl<|sM rfl<|sA rfl<|sN<|qR ?_
  exact oI h▸qD
 refine sN<|cF<|qK<|WC.region rfl rfl<|sV (rI 1)<|sM rfl<|sN<|WL.round<|gS rfl rfl<|sT<|sN<|qS<|cT<|qK<|qS ?_
 refine qB<|gS rfl rfl<|sV (rI x2)<|sA rfl<|sN<|gS rfl rfl<|sM rfl<|sF h (fun h => ?_) fun h => ?_
 ·refine sN<|cT<|gS rfl rfl<|sM rfl<|sA rfl<|sN<|qR ?_
  exact oI h▸qD
 refine sN<|cF<|qK<|WC.region rfl rfl<|sV (rI 2)<|sM rfl<|sN<|WL.round<|gS rfl rfl<|sT<|sN<|qS<|cT<|qK<|qS ?_
 refine qB<|gS rfl rfl<|sV (rI x3)<|sA rfl<|sN<|gS rfl rfl<|sM rfl<|sF h (fun h => ?_) fun h => ?_
 ·refine sN<|cT<|gS rfl rfl<|sM rfl<|sA rfl<|sN<|qR ?_
  exact oI h▸qD
 refine sN<|cF<|qK<|WC.region rfl rfl<|sV (rI 3)<|sM rfl<|sN<|WL.round<|gS rfl rfl<|sT<|sN<|qS<|cT<|qK<|qS ?_
 refine qB<|gS rfl rfl<|sV (rI x4)<|sA rfl<|sN<|gS rfl rfl<|sM rfl<|sF h (fun h => ?_) fun h => ?_
 ·refine sN<|cT<|gS rfl rfl<|sM rfl<|sA rfl<|sN<|qR ?_
  exact oI h▸qD
 refine sN<|cF<|qK<|WC.region rfl rfl<|sV (rI 4)<|sM rfl<|sN<|WL.round<|gS rfl rfl<|sU<|sN<|qS<|cF<|qX<|qE ?_
 refine gS rfl rfl<|sV (r0)<|sN<|qR ?_
 exact oI h▸qD
theorem ref23_Compare_ev {a0 : aa} {a1 : aa} {r : Int} (h : ky a0 a1 = some r) : EvP prog aw ext 45 [.d (aa.pd a0), .d (aa.pd a1)] [] (rI r, []) := by
 refine Ev.body rfl Tryz.func45 rfl (by kernel_rfl)<|gS rfl rfl<|sB (.ptr 32 0) 32 (.var (aa.rc a0))<|sB (.ptr 48 0) 48 (.var (aa.rc a1))<|sV (r0)<|sN<|qS<|gS rfl rfl<|sV (.ptr 32 0)<|sV (.d (ag.pd a0.ak))<|sV (.ptr 48 0)<|sV (.d (ag.pd a1.ak))<|bE h fun x1 hx1 h => cD (pb hx1)<|sA rfl ?_
 refine sN<|gS rfl rfl<|sM rfl<|sF h (fun h => ?_) fun h => ?_
 ·refine sN<|cT<|gS rfl rfl<|sM rfl<|sA rfl<|sN<|qR ?_
  cases oI h
  exact qG
 refine sN<|cF<|qK<|qS<|gS rfl rfl<|sV (.ptr 32 4)<|sL rfl<|sV (.ptr 48 4)<|sL rfl<|sV (.d (bz.pd (bz.mk a0.aN a1.aN)))<|sV (.ptr 32 5)<|sL rfl<|sV (.ptr 48 5)<|sL rfl<|sV (.d (bz.pd (bz.mk a0.aG a1.aG))) ?_
 refine sV (.ptr 32 6)<|sL rfl<|sV (.ptr 48 6)<|sL rfl<|sV (.d (bz.pd (bz.mk a0.aY a1.aY)))<|sV (.ptr 32 7)<|sL rfl<|sV (.ptr 48 7)<|sL rfl<|sV (.d (bz.pd (bz.mk a0.aH a1.aH)))<|sV (.ptr 32 8)<|sL rfl<|sV (.ptr 48 8)<|sL rfl<|sV (.d (bz.pd (bz.mk a0.aK a1.aK))) ?_
 refine sG (.d (eH.pd (eH.mk (bz.mk a0.aN a1.aN) (bz.mk a0.aG a1.aG) (bz.mk a0.aY a1.aY) (bz.mk a0.aH a1.aH) (bz.mk a0.aK a1.aK))))<|sV (r0)<|sN<|WC.block (WC.loop ?_)
 refine WL.round<|WC.eC (R0 := [(41, .d (eH.pd (eH.mk (bz.mk a0.aN a1.aN) (bz.mk a0.aG a1.aG) (bz.mk a0.aY a1.aY) (bz.mk a0.aH a1.aH) (bz.mk a0.aK a1.aK)))), (42, r0)]) (B0 := []) rfl rfl<|sT<|sN<|qS<|cT<|qK<|qS<|qB<|gS rfl rfl<|sV (.d (bz.pd (bz.mk a0.aN a1.aN)))<|sB (.ptr 112 0) 112 (.var [r0, r0])<|sS 112 (.var [rI a0.aN, rI a1.aN])<|sN<|qS ?_
 refine gS rfl rfl<|sV (.ptr 112 0)<|sL rfl<|sV (.ptr 112 1)<|sL rfl<|sF h (fun h => ?_) fun h => ?_
 ·refine sN<|cT<|gS rfl rfl<|sV (rI (-1))<|sN<|qR ?_
  exact oI h▸qD
 refine sN<|cF<|qK<|gS rfl rfl<|sV (.ptr 112 0)<|sL rfl<|sV (.ptr 112 1)<|sL rfl<|sF h (fun h => ?_) fun h => ?_
 ·refine sN<|cT<|gS rfl rfl<|sV (rI 1)<|sN<|qR ?_
  exact oI h▸qD
 refine sN<|cF<|qK<|WC.region rfl rfl<|sV (rI 1)<|sM rfl<|sN<|WL.round<|WC.eC (R0 := [(41, .d (eH.pd (eH.mk (bz.mk a0.aN a1.aN) (bz.mk a0.aG a1.aG) (bz.mk a0.aY a1.aY) (bz.mk a0.aH a1.aH) (bz.mk a0.aK a1.aK)))), (42, rI 1)]) (B0 := []) rfl rfl<|sT<|sN<|qS<|cT<|qK<|qS ?_
 refine qB<|gS rfl rfl<|sV (.d (bz.pd (bz.mk a0.aG a1.aG)))<|sB (.ptr 112 0) 112 (.var [r0, r0])<|sS 112 (.var [rI a0.aG, rI a1.aG])<|sN<|qS<|gS rfl rfl<|sV (.ptr 112 0)<|sL rfl<|sV (.ptr 112 1)<|sL rfl<|sF h (fun h => ?_) fun h => ?_
 ·refine sN<|cT<|gS rfl rfl<|sV (rI (-1))<|sN<|qR ?_
  exact oI h▸qD
 refine sN<|cF<|qK<|gS rfl rfl<|sV (.ptr 112 0)<|sL rfl<|sV (.ptr 112 1)<|sL rfl<|sF h (fun h => ?_) fun h => ?_
 ·refine sN<|cT<|gS rfl rfl<|sV (rI 1)<|sN<|qR ?_
  exact oI h▸qD
 refine sN<|cF<|qK<|WC.region rfl rfl<|sV (rI 2)<|sM rfl<|sN<|WL.round<|WC.eC (R0 := [(41, .d (eH.pd (eH.mk (bz.mk a0.aN a1.aN) (bz.mk a0.aG a1.aG) (bz.mk a0.aY a1.aY) (bz.mk a0.aH a1.aH) (bz.mk a0.aK a1.aK)))), (42, rI 2)]) (B0 := []) rfl rfl<|sT<|sN<|qS<|cT<|qK<|qS ?_
 refine qB<|gS rfl rfl<|sV (.d (bz.pd (bz.mk a0.aY a1.aY)))<|sB (.ptr 112 0) 112 (.var [r0, r0])<|sS 112 (.var [rI a0.aY, rI a1.aY])<|sN<|qS<|gS rfl rfl<|sV (.ptr 112 0)<|sL rfl<|sV (.ptr 112 1)<|sL rfl<|sF h (fun h => ?_) fun h => ?_
 ·refine sN<|cT<|gS rfl rfl<|sV (rI (-1))<|sN<|qR ?_
  exact oI h▸qD
 refine sN<|cF<|qK<|gS rfl rfl<|sV (.ptr 112 0)<|sL rfl<|sV (.ptr 112 1)<|sL rfl<|sF h (fun h => ?_) fun h => ?_
 ·refine sN<|cT<|gS rfl rfl<|sV (rI 1)<|sN<|qR ?_
  exact oI h▸qD
 refine sN<|cF<|qK<|WC.region rfl rfl<|sV (rI 3)<|sM rfl<|sN<|WL.round<|WC.eC (R0 := [(41, .d (eH.pd (eH.mk (bz.mk a0.aN a1.aN) (bz.mk a0.aG a1.aG) (bz.mk a0.aY a1.aY) (bz.mk a0.aH a1.aH) (bz.mk a0.aK a1.aK)))), (42, rI 3)]) (B0 := []) rfl rfl<|sT<|sN<|qS<|cT<|qK<|qS ?_
 refine qB<|gS rfl rfl<|sV (.d (bz.pd (bz.mk a0.aH a1.aH)))<|sB (.ptr 112 0) 112 (.var [r0, r0])<|sS 112 (.var [rI a0.aH, rI a1.aH])<|sN<|qS<|gS rfl rfl<|sV (.ptr 112 0)<|sL rfl<|sV (.ptr 112 1)<|sL rfl<|sF h (fun h => ?_) fun h => ?_
 ·refine sN<|cT<|gS rfl rfl<|sV (rI (-1))<|sN<|qR ?_
  exact oI h▸qD
 refine sN<|cF<|qK<|gS rfl rfl<|sV (.ptr 112 0)<|sL rfl<|sV (.ptr 112 1)<|sL rfl<|sF h (fun h => ?_) fun h => ?_
 ·refine sN<|cT<|gS rfl rfl<|sV (rI 1)<|sN<|qR ?_
  exact oI h▸qD
 refine sN<|cF<|qK<|WC.region rfl rfl<|sV (rI 4)<|sM rfl<|sN<|WL.round<|WC.eC (R0 := [(41, .d (eH.pd (eH.mk (bz.mk a0.aN a1.aN) (bz.mk a0.aG a1.aG) (bz.mk a0.aY a1.aY) (bz.mk a0.aH a1.aH) (bz.mk a0.aK a1.aK)))), (42, rI 4)]) (B0 := []) rfl rfl<|sT<|sN<|qS<|cT<|qK<|qS ?_
 refine qB<|gS rfl rfl<|sV (.d (bz.pd (bz.mk a0.aK a1.aK)))<|sB (.ptr 112 0) 112 (.var [r0, r0])<|sS 112 (.var [rI a0.aK, rI a1.aK])<|sN<|qS<|gS rfl rfl<|sV (.ptr 112 0)<|sL rfl<|sV (.ptr 112 1)<|sL rfl<|sF h (fun h => ?_) fun h => ?_
 ·refine sN<|cT<|gS rfl rfl<|sV (rI (-1))<|sN<|qR ?_
  exact oI h▸qD
 refine sN<|cF<|qK<|gS rfl rfl<|sV (.ptr 112 0)<|sL rfl<|sV (.ptr 112 1)<|sL rfl<|sF h (fun h => ?_) fun h => ?_
 ·refine sN<|cT<|gS rfl rfl<|sV (rI 1)<|sN<|qR ?_
  exact oI h▸qD
 refine sN<|cF<|qK<|WC.region rfl rfl<|sV (rI 5)<|sM rfl<|sN<|WL.round<|WC.eC (R0 := [(41, .d (eH.pd (eH.mk (bz.mk a0.aN a1.aN) (bz.mk a0.aG a1.aG) (bz.mk a0.aY a1.aY) (bz.mk a0.aH a1.aH) (bz.mk a0.aK a1.aK)))), (42, rI 5)]) (B0 := []) rfl rfl<|sU<|sN<|qS<|cF<|qX<|qE ?_
 refine gS rfl rfl<|sV (r0)<|sN<|qR ?_
 exact oI h▸qD
theorem kz {a0 : (List aa)} {r : (List aa)} (h : gi a0 = some r) : EvP prog aw ext 14 [.d (.lst (a0.map aa.pd))] [] (.ref 0 0, [.arr 0 52 (r.map aa.pd)]) := by
 refine Ev.body rfl Tryz.func14 rfl (by kernel_rfl)<|gS rfl rfl<|sV .cu<|sN<|gS rfl rfl<|sV .cu<|sN<|qS<|gS rfl rfl<|sV (r0)<|sN<|bE h fun o39 ho39 h => WC.block (WC.loop (WL.cv ho39 (fun s R' B' => bg prog 0 (A R' B') (aw.at_ 14 0 3) = some (A [(0, .d (.lst (a0.map aa.pd))), (3, .ref 816 0), (4, rI s.1)] [(816, .arr 0 52 (s.2.map aa.pd))])) (fun o e R' B' => e = .exit 0 ∧ bg prog 0 (A R' B') (aw.at_ 14 0 12) = some (A [(3, .ref 816 0)] [(816, .arr 0 52 (o.map aa.pd))])) rfl ?_ ?_))
 ·rintro ⟨s1, s2⟩ R' B' q4 hI h
  refine qS<|gS rfl hI<|sM rfl<|sM rfl<|sE (rI (a0.length : Int)) (b8 _ _)<|sF h (fun h => ?_) fun h => ?_
  ·refine sN<|cT<|qK<|qS<|qB<|gS rfl rfl<|sM rfl<|WO.kb rfl rfl rfl rfl rfl rfl rfl rfl rfl<|sA rfl<|sN<|qS<|bE h fun o19 ho19 h => WC.block (WC.loop (WL.cv ho19 (fun s R' B' => bg prog 0 (A R' B') (aw.at_ 14 0 6) = some (A [(0, .d (.lst (a0.map aa.pd))), (3, .ref 816 0), (4, rI s1), (5, rI s)] [(816, .arr 0 52 (s2.map aa.pd))])) (fun o e R' B' => e = .exit 2 ∧ bg prog 0 (A R' B') (aw.at_ 14 0 8) = some (A [(0, .d (.lst (a0.map aa.pd))), (3, .ref 816 0), (4, rI o.1), (5, rI o.2.1)] [(816, .arr 0 52 (o.2.2.map aa.pd))])) rfl ?_ ?_))
   ·rintro s6 R' B' q10 hI h
    refine qS<|WC.bX hI rfl<|sM rfl<|sF h (fun h => ?_) fun h => ?_
    ·refine sM rfl<|sM rfl<|sM rfl<|sV (rI (rW (s6 - (1 : Int))))<|bE h fun x13 hx13 h => WO.eE hx13 rfl rfl rfl rfl rfl rfl rfl rfl<|bE h fun x14 hx14 h => WO.eD hx14 rfl rfl rfl rfl rfl rfl<|sM rfl<|sM rfl<|bE h fun x15 hx15 h => eG hx15 rfl<|sV (.d (aa.pd x15))<|bE h fun x16 hx16 h => cD (ref23_Compare_ev hx16) ?_
     refine sV (rB (decide (x16 > (0 : Int))))<|sF h (fun h => ?_) fun h => ?_
     ·refine sN<|sO<|cT<|qK<|qB<|WC.region rfl rfl<|sM rfl<|sV (rI (rW (s6 - (1 : Int))))<|sA rfl<|sN ?_
      cases oI h
      exact ⟨rfl, rfl⟩
     refine sN<|sO<|cF<|qX ?_
     cases oI h
     exact ⟨nofun, rfl, rfl⟩
    refine sM rfl<|k3<|k3<|k3<|sK<|sK<|sU ?_
    refine sN<|sO<|cF<|qX ?_
    cases oI h
    exact ⟨nofun, rfl, rfl⟩
   intro e R' B' he hq
   obtain ⟨rfl, hI⟩ := hq
   refine qE<|WC.join (α := Unit) (fun x R' B' => bg prog 0 (A R' B') (aw.at_ 14 0 9) = some (A [(0, .d (.lst (a0.map aa.pd))), (3, .ref 816 0), (4, rI o19.1), (5, rI o19.2.1)] [(816, .arr 0 52 (o19.2.2.map aa.pd))])) (fun x => fM a0 o19 = some q4) ?_ ?_
   ·refine WC.bX hI rfl<|sM rfl<|sF h (fun h => ?_) fun h => ?_
    ·refine sM rfl<|sM rfl<|sM rfl<|sV (rI (rW (o19.2.1 - (1 : Int))))<|bE h fun x34 hx34 h => WO.eE hx34 rfl rfl rfl rfl rfl rfl rfl rfl<|bE h fun x35 hx35 h => WO.eD hx35 rfl rfl rfl rfl rfl rfl<|sM rfl<|sM rfl<|bE h fun x36 hx36 h => eG hx36 rfl<|sV (.d (aa.pd x36))<|WO.bin (xt x35 x36) rfl rfl rfl rfl rfl<|sF h (fun h => ?_) fun h => ?_
     ·refine sN<|sO<|cT<|qX<|qE<|WC.region rfl rfl<|sM rfl<|sV (rI (rW (o19.1 + (1 : Int))))<|sA rfl<|sN ?_
      cases oI h
      exact ⟨rfl, rfl⟩
     exact sN<|sO<|cF<|qK<|⟨(), rfl, h⟩
    refine sM rfl<|k3<|k3<|k3<|sK<|sU ?_
    exact sN<|sO<|cF<|qK<|⟨(), rfl, h⟩
   rintro ⟨⟩ R' B' hI h
   refine gS rfl hI<|sM rfl<|sM rfl<|sM rfl<|bE h fun x20 hx20 h => eG hx20 rfl<|sV (.d (aa.pd x20))<|sG (.d (.lst ([x20].map aa.pd)))<|bE h fun x21 hx21 h => aR hx21 (fun _ => rfl) rfl<|sA rfl<|sN<|WC.bX rfl rfl<|sM rfl<|sM rfl ?_
   refine sV (rI (rW (o19.2.1 + (1 : Int))))<|bE h fun x22 hx22 h => WO.rb hx22 rfl rfl rfl rfl rfl rfl rfl rfl rfl rfl rfl rfl<|sM rfl<|sM rfl<|bE h fun x23 hx23 h => WO.rb hx23 rfl rfl rfl rfl rfl rfl rfl rfl rfl rfl rfl rfl<|bE h fun x24 hx24 h => bE h fun x25 hx25 h => WO.copyG rfl rfl rfl rfl rfl rfl rfl rfl (lh hx24 rfl) (tn hx25 rfl) rfl rfl (fun _ => rfl) ?_
   refine sN<|sO<|WC.region rfl rfl<|sM rfl<|sM rfl<|sM rfl<|sM rfl<|bE h fun x27 hx27 h => eG hx27 rfl<|sV (.d (aa.pd x27))<|bE h fun x29 hx29 h => WO.eE hx29 rfl rfl rfl rfl rfl rfl rfl rfl<|bE h fun x30 hx30 h => WO.jP (g := aa.pd) (sz := 9) (p := aa.pd x27) hx30 (by intro _; kernel_rfl) (by intro _; kernel_rfl) rfl rfl rfl rfl rfl rfl rfl rfl rfl<|sN<|WC.region rfl rfl ?_
   refine sM rfl<|sV (rI (rW (o19.1 + (1 : Int))))<|sA rfl<|sN ?_
   cases oI h
   exact ⟨rfl, rfl⟩
  refine sN<|cF<|qX ?_
  cases oI h
  exact ⟨nofun, rfl, rfl⟩
 intro e R' B' he hq
 obtain ⟨rfl, hI⟩ := hq
 refine qE<|gS rfl hI<|sM rfl<|sA rfl<|sN<|qR ?_
 exact oI h▸qD
theorem kd {a0 : (List aa)} {a1 : (List aa)} {r : Bool} (h : dm a0 a1 = some r) : EvP prog aw ext 15 [.d (.lst (a0.map aa.pd)), .d (.lst (a1.map aa.pd))] [] (rB r, []) := by
 refine Ev.body rfl Tryz.func15 rfl (by kernel_rfl)<|gS rfl rfl<|sU<|sN<|qS<|gS rfl rfl<|sM rfl<|sE (rI (a0.length : Int)) (b8 _ _)<|sM rfl<|sE (rI (a1.length : Int)) (b8 _ _)<|sF h (fun h => ?_) fun h => ?_
 ·refine sN<|cT<|gS rfl rfl<|sU<|sN<|qR ?_
  exact oI h▸qD
 refine sN<|cF<|qK<|qS<|gS rfl rfl<|sV (r0)<|sN<|bE h fun o9 ho9 h => WC.block (WC.loop (WL.cv ho9 (fun s R' B' => bg prog 0 (A R' B') (aw.at_ 15 0 4) = some (A [(0, .d (.lst (a0.map aa.pd))), (1, .d (.lst (a1.map aa.pd))), (5, rI s)] [])) (fun o e R' B' => match o with | .inl y => e = .exit 0 ∧ bg prog 0 (A R' B') (aw.at_ 15 0 8) = some (A [] []) | .inr r => e = .ret ∧ finish prog (aw.own 15) Tryz.f15 0 (A R' B') = some (rB r, [])) rfl ?_ ?_))
 ·rintro s2 R' B' q3 hI h
  refine qS<|gS rfl hI<|sM rfl<|sM rfl<|sE (rI (a0.length : Int)) (b8 _ _)<|sF h (fun h => ?_) fun h => ?_
  ·refine sN<|cT<|qK<|qS<|qB<|WC.bX rfl rfl<|sM rfl<|sM rfl<|bE h fun x5 hx5 h => eG hx5 rfl<|sV (.d (aa.pd x5))<|sM rfl<|sM rfl<|bE h fun x6 hx6 h => eG hx6 rfl ?_
   refine sV (.d (aa.pd x6))<|cY h (fun hb7 h => ?_) (fun hb7 h => ?_)
   ·refine WO.gu (eqN_52 x5 x6) hb7 rfl rfl rfl rfl rfl ?_
    refine sN<|sO<|cT<|gS rfl rfl<|sU<|sN<|qR ?_
    cases oI h
    exact ⟨nofun, rfl, rfl⟩
   refine WO.gu (eqN_52 x5 x6) hb7 rfl rfl rfl rfl rfl ?_
   refine sN<|sO<|cF<|qK<|WC.region rfl rfl<|sM rfl<|sV (rI (rW (s2 + (1 : Int))))<|sA rfl<|sN ?_
   cases oI h
   exact ⟨rfl, rfl⟩
  refine sN<|cF<|qX ?_
  cases oI h
  exact ⟨nofun, rfl, rfl⟩
 intro e R' B' he hq
 rcases o9 with y10 | r11
 ·obtain ⟨rfl, hI⟩ := hq
  refine qE<|gS rfl hI<|sT<|sN<|qR ?_
  exact oI h▸qD
 obtain ⟨rfl, hf⟩ := hq
 cases oI h
 exact hf
theorem gJ {a0 : Int} {r : aa} (h : ff a0 = some r) : EvP prog aw ext 46 [rI a0] [] (.d (aa.pd r), []) := by
 refine Ev.body rfl Tryz.func46 rfl (by kernel_rfl)<|gS rfl rfl<|sB (.ptr 32 0) 32 (.var zZ1)<|sN<|gS rfl rfl<|bE h fun x1 hx1 h => cD (n9 hx1)<|sM rfl<|sM rfl<|sM rfl<|sG (.d (aa.pd (aa.mk x1 a0 a0 a0 0 0)))<|sH 32 (.var [rS x1.aC, rS x1.aA, rS x1.av, rS x1.aD, rI a0, rI a0, rI a0, r0, r0])<|sN<|qR ?_
 cases oI h
 exact qG
theorem sq {d0 : (List ag)} {r : (List ag)} (h : ch d0 = some r) : EvP prog aw ext 90 [.ref 0 0] [.arr 0 50 (d0.map ag.pd)] (.d (.lst (r.map ag.pd)), [.dead]) := by
 refine Ev.body rfl Tryz.func90 rfl (by kernel_rfl)<|gS rfl rfl<|sV .cu<|sN<|qS<|gS rfl rfl<|sM rfl<|WO.kb rfl rfl rfl rfl rfl rfl rfl rfl rfl<|sF h (fun h => ?_) fun h => ?_
 ·refine sN<|cT<|gS rfl rfl<|sM rfl<|sA rfl<|sN<|qR ?_
  exact oI h▸qD
 refine sN<|cF<|qK<|qS<|gS rfl rfl<|sV (rI 1)<|sN<|bE h fun o39 ho39 h => WC.block (WC.loop (WL.cv ho39 (fun s R' B' => bg prog 1 (A R' B') (aw.at_ 90 1 4) = some (A [(0, .ref 0 0), (3, rI s)] [(0, .arr 0 50 (d0.map ag.pd))])) (fun o e R' B' => match o with | .inl y => e = .exit 0 ∧ bg prog 1 (A R' B') (aw.at_ 90 1 16) = some (A [(0, .ref 0 0)] [(0, .arr 0 50 (d0.map ag.pd))]) | .inr r => e = .ret ∧ finish prog (aw.own 90) Tryz.f90 1 (A R' B') = some (.d (.lst (r.map ag.pd)), [.dead])) rfl ?_ ?_))
 ·rintro s2 R' B' q3 hI h
  refine qS<|gS rfl hI<|sM rfl<|sM rfl<|WO.kb rfl rfl rfl rfl rfl rfl rfl rfl rfl<|sF h (fun h => ?_) fun h => ?_
  ·refine sN<|cT<|qK<|qS<|qB<|WC.bX rfl rfl<|sM rfl<|sM rfl<|bE h fun x6 hx6 h => WO.eE hx6 rfl rfl rfl rfl rfl rfl rfl rfl<|bE h fun x7 hx7 h => WO.eD hx7 rfl rfl rfl rfl rfl rfl<|sM rfl<|sM rfl<|sV (rI (rW (s2 - (1 : Int)))) ?_
   refine bE h fun x9 hx9 h => WO.eE hx9 rfl rfl rfl rfl rfl rfl rfl rfl<|bE h fun x10 hx10 h => WO.eD hx10 rfl rfl rfl rfl rfl rfl<|cY h (fun hb11 h => ?_) (fun hb11 h => ?_)
   ·refine WO.gu (rP x7 x10) hb11 rfl rfl rfl rfl rfl ?_
    refine sN<|sO<|cT<|gS rfl rfl<|sM rfl<|sM rfl<|bE h fun x12 hx12 h => WO.rb hx12 rfl rfl rfl rfl rfl rfl rfl rfl rfl rfl rfl rfl<|sA rfl<|sN<|qS<|gS rfl rfl<|sV (rI 1)<|sN<|bE h fun o32 ho32 h => WC.block (WC.loop (WL.cv ho32 (fun s R' B' => bg prog 1 (A R' B') (aw.at_ 90 1 9) = some (A [(0, .ref 0 0), (3, rI s.1), (4, .view 0 0 (0 + (s2 : Int).toNat) (0 + ((d0.length : Int) : Int).toNat)), (5, rI s.2.1)] [(0, .arr 0 50 (s.2.2.map ag.pd))])) (fun o e R' B' => e = .exit 2 ∧ bg prog 1 (A R' B') (aw.at_ 90 1 14) = some (A [(0, .ref 0 0), (3, rI o.1)] [(0, .arr 0 50 (o.2.map ag.pd))])) rfl ?_ ?_))
    ·rintro ⟨s13, s14, s15⟩ R' B' q18 hI h
     refine qS<|gS rfl hI<|sM rfl<|sM rfl<|bE h fun x19 hx19 h => WO.lenVw hx19 rfl rfl rfl rfl rfl rfl rfl rfl rfl<|sF h (fun h => ?_) fun h => ?_
     ·refine sN<|cT<|qK<|qS<|qB<|WC.bX rfl rfl<|sM rfl<|sM rfl<|bE h fun x21 hx21 h => WO.eltV hx21 rfl rfl rfl rfl rfl rfl rfl rfl<|bE h fun x22 hx22 h => WO.eD hx22 rfl rfl rfl rfl rfl rfl<|sM rfl<|sM rfl<|sV (rI (rW (s14 - (1 : Int)))) ?_
      refine bE h fun x23 hx23 h => WO.eltV hx23 rfl rfl rfl rfl rfl rfl rfl rfl<|bE h fun x24 hx24 h => WO.eD hx24 rfl rfl rfl rfl rfl rfl<|cY h (fun hb25 h => ?_) (fun hb25 h => ?_)
      ·refine WO.gu (eqN_50 x22 x24) hb25 rfl rfl rfl rfl rfl ?_
       refine sN<|sO<|cT<|gS rfl rfl<|sM rfl<|sM rfl<|sM rfl<|sM rfl<|bE h fun x26 hx26 h => WO.eltV hx26 rfl rfl rfl rfl rfl rfl rfl rfl<|bE h fun x27 hx27 h => WO.eD hx27 rfl rfl rfl rfl rfl rfl<|bE h fun x29 hx29 h => WO.eE hx29 rfl rfl rfl rfl rfl rfl rfl rfl<|bE h fun x30 hx30 h => WO.jP (g := ag.pd) (sz := 4) (p := ag.pd x27) hx30 (fun _ => rfl) (fun _ => rfl) rfl rfl rfl rfl rfl rfl rfl rfl rfl ?_
       refine sN<|WC.region rfl rfl<|sM rfl<|sV (rI (rW (s13 + (1 : Int))))<|sA rfl<|sN<|WC.region rfl rfl<|sM rfl<|sV (rI (rW (s14 + (1 : Int))))<|sA rfl<|sN ?_
       cases oI h
       exact ⟨rfl, rfl⟩
      refine WO.gu (eqN_50 x22 x24) hb25 rfl rfl rfl rfl rfl ?_
      refine sN<|sO<|cF<|qK<|WC.region rfl rfl<|sM rfl<|sV (rI (rW (s14 + (1 : Int))))<|sA rfl<|sN ?_
      cases oI h
      exact ⟨rfl, rfl⟩
     refine sN<|cF<|qX ?_
     cases oI h
     exact ⟨nofun, rfl, rfl⟩
    intro e R' B' he hq
    obtain ⟨rfl, hI⟩ := hq
    refine qE<|gS rfl hI<|sM rfl<|sM rfl<|bE h fun x33 hx33 h => WO.rb hx33 rfl rfl rfl rfl rfl rfl rfl rfl rfl rfl rfl rfl<|bE h fun x34 hx34 h => WO.wX (z := (ag.mk [] [] [] [])) (g := ag.pd) rfl rfl rfl rfl rfl rfl rfl (lh hx34 rfl) rfl rfl rfl rfl<|sN<|gS rfl rfl<|sM rfl<|sM rfl<|bE h fun x36 hx36 h => WO.rb hx36 rfl rfl rfl rfl rfl rfl rfl rfl rfl rfl rfl rfl<|sA rfl ?_
    refine sN<|qR<|bE h fun x37 hx37 h => ?_
    cases oI h
    exact ⟨nofun, rfl, (vT hx37 rfl rfl rfl rfl rfl)⟩
   refine WO.gu (rP x7 x10) hb11 rfl rfl rfl rfl rfl ?_
   refine sN<|sO<|cF<|qK<|WC.region rfl rfl<|sM rfl<|sV (rI (rW (s2 + (1 : Int))))<|sA rfl<|sN ?_
   cases oI h
   exact ⟨rfl, rfl⟩
  refine sN<|cF<|qX ?_
  cases oI h
  exact ⟨nofun, rfl, rfl⟩
 intro e R' B' he hq
 rcases o39 with y40 | r41
 ·obtain ⟨rfl, hI⟩ := hq
  refine qE<|gS rfl hI<|sM rfl<|sA rfl<|sN<|qR ?_
  exact oI h▸qD
 obtain ⟨rfl, hf⟩ := hq
 cases oI h
 exact hf
theorem wB {a0 : (List ag)} {r : (List ag)} (h : jc a0 = some r) : EvP prog aw ext 51 [.d (.lst (a0.map ag.pd))] [] (.d (.lst (r.map ag.pd)), []) := by
 refine Ev.body rfl Tryz.func51 rfl (by kernel_rfl)<|gS rfl rfl<|sV .cu<|sN<|gS rfl rfl<|sM rfl<|bE h fun x1 hx1 h => cR (.ref 80 0) [(80, .arr 0 50 (x1.map ag.pd))] (clone_87 hx1)<|sA rfl<|sN<|gS rfl rfl<|sM rfl<|bE h fun x2 hx2 h => cR (.tup []) [(80, .arr 0 50 (x2.map ag.pd))] (sort_88_89 hx2)<|sN ?_
 refine gS rfl rfl<|sM rfl<|bE h fun x3 hx3 h => cR (.d (.lst (x3.map ag.pd))) [(80, .dead)] (sq hx3)<|sA rfl<|sN<|qR ?_
 exact oI h▸qD
theorem u5 {a0 : aj} {r : Bool} (h : rH a0 = some r) : EvP prog aw ext 94 [.d (aj.pd a0)] [] (rB r, []) := by
 refine Ev.body rfl Tryz.func94 rfl (by kernel_rfl)<|gS rfl rfl<|sB (.ptr 16 0) 16 (.var [rI a0.aJ, rI a0.fTo])<|sU<|sN<|gS rfl rfl<|sV (.ptr 16 0)<|sL rfl<|sV (.ptr 16 1)<|sL rfl<|sV (rB (decide (a0.aJ < a0.fTo)))<|sA rfl<|sN<|qR ?_
 exact oI h▸qD
theorem mz {a0 : aj} {r : Bool} (h : gT a0 = some r) : EvP prog aw ext 93 [.d (aj.pd a0)] [] (rB r, []) := by
 refine Ev.body rfl Tryz.func93 rfl (by kernel_rfl)<|gS rfl rfl<|sB (.ptr 16 0) 16 (.var [rI a0.aJ, rI a0.fTo])<|sU<|sN<|gS rfl rfl<|sV (.d (aj.pd a0))<|bE h fun x1 hx1 h => cD (u5 hx1)<|sV (rB (!x1))<|sA rfl<|sN<|qR ?_
 exact oI h▸qD
theorem qr {d0 : (List aj)} {r : Int × (List aj)} (h : dl d0 = some r) : EvP prog aw ext 131 [.ref 0 0, .d (.raw (.func (.func 93) #[] #[]))] [.arr 0 76 (d0.map aj.pd)] (rI r.1, [.arr 0 76 (r.2.map aj.pd)]) := by
 refine Ev.body rfl Tryz.func131 rfl (by kernel_rfl)<|gS rfl rfl<|sV (r0)<|sN<|qS<|gS rfl rfl<|sM rfl<|WO.kb rfl rfl rfl rfl rfl rfl rfl rfl rfl<|sV (r0)<|sN<|bE h fun o10 ho10 h => WC.block (WC.loop (WL.cv ho10 (fun s R' B' => bg prog 1 (A R' B') (aw.at_ 131 1 2) = some (A [(0, .ref 0 0), (1, .d (.raw (.func (.func 93) #[] #[]))), (7, rI (d0.length : Int)), (8, rI s)] [(0, .arr 0 76 (d0.map aj.pd))])) (fun o e R' B' => match o with | .inl y => e = .exit 0 ∧ bg prog 1 (A R' B') (aw.at_ 131 1 7) = some (A [] [(0, .arr 0 76 (d0.map aj.pd))]) | .inr r => e = .ret ∧ finish prog (aw.own 131) Tryz.f131 1 (A R' B') = some (rI r.1, [.arr 0 76 (r.2.map aj.pd)])) rfl ?_ ?_))
 ·rintro s1 R' B' q2 hI h
  refine gS rfl hI<|sF h (fun h => ?_) fun h => ?_
  ·refine sN<|qS<|cT<|qK<|qS<|qB<|gS rfl rfl<|sM rfl<|sA rfl<|sN<|gS rfl rfl<|sM rfl<|sM rfl<|sM rfl<|bE h fun x5 hx5 h => ?_
   refine WO.eE hx5 rfl rfl rfl rfl rfl rfl rfl rfl<|bE h fun x6 hx6 h => WO.eD hx6 rfl rfl rfl rfl rfl rfl<|bE h fun x7 hx7 h => cY h (fun hb8 h => ?_) (fun hb8 h => ?_)
   ·refine WO.fj (v := rB true) (u := []) rfl rfl (fun _ => rfl) rfl rfl rfl rfl rfl (mz hx7) rfl rfl (congrArg (fun b => RV.d (.bool b)) hb8) rfl<|sN<|cT<|gS rfl rfl<|sM rfl<|sA rfl<|sN<|qR ?_
    cases oI h
    exact ⟨nofun, rfl, rfl⟩
   refine WO.fj (v := rB false) (u := []) rfl rfl (fun _ => rfl) rfl rfl rfl rfl rfl (mz hx7) rfl rfl (congrArg (fun b => RV.d (.bool b)) hb8) rfl<|sN<|cF<|qK<|WC.region rfl rfl<|sV (rI (rW (s1 + (1 : Int))))<|sM rfl<|sN ?_
   cases oI h
   exact ⟨rfl, rfl⟩
  refine sN<|qS<|cF<|qX ?_
  cases oI h
  exact ⟨nofun, rfl, rfl⟩
 intro e R' B' he hq
 rcases o10 with y11 | r12
 ·obtain ⟨rfl, hI⟩ := hq
  refine qE<|gS rfl hI<|sV (rI (-1))<|sN<|qR ?_
  exact oI h▸qD
 obtain ⟨rfl, hf⟩ := hq
 cases oI h
 exact hf
theorem pG {d0 : (List aj)} {r : (List aj)} (h : bN d0 = some r) : EvP prog aw ext 91 [.ref 0 0, .d (.raw (.func (.func 93) #[] #[]))] [.arr 0 76 (d0.map aj.pd)] (.ref 0 1, [.arr 1 76 (r.map aj.pd)]) := by
 refine Ev.body rfl Tryz.func91 rfl (by kernel_rfl)<|gS rfl rfl<|sV .cu<|sN<|gS rfl rfl<|sM rfl<|sM rfl<|bE h fun x1 hx1 h => cR (rI x1.1) [(0, .arr 0 76 (x1.2.map aj.pd))] (qr hx1)<|sA rfl<|sN<|qS<|gS rfl rfl<|sM rfl<|sF h (fun h => ?_) fun h => ?_
 ·refine sN<|cT<|WC.eC (R0 := [(0, .ref 0 1)]) (B0 := [(0, .arr 1 76 (x1.2.map aj.pd))]) rfl rfl<|sM rfl<|sA rfl<|sN<|qR ?_
  exact oI h▸qD
 refine sN<|cF<|qK<|qS<|gS rfl rfl<|sM rfl<|sV (rI (rW (x1.1 + (1 : Int))))<|sA rfl<|sN<|bE h fun o19 ho19 h => WC.block (WC.loop (WL.cv ho19 (fun s R' B' => bg prog 1 (A R' B') (aw.at_ 91 1 5) = some (A [(0, .ref 0 0), (1, .d (.raw (.func (.func 93) #[] #[]))), (5, rI s.1), (6, rI s.2.1)] [(0, .arr 0 76 (s.2.2.map aj.pd))])) (fun o e R' B' => e = .exit 0 ∧ bg prog 1 (A R' B') (aw.at_ 91 1 11) = some (A [(0, .ref 0 0), (5, rI o.1)] [(0, .arr 0 76 (o.2.map aj.pd))])) rfl ?_ ?_))
 ·rintro ⟨s3, s4, s5⟩ R' B' q8 hI h
  refine qS<|gS rfl hI<|sM rfl<|sM rfl<|WO.kb rfl rfl rfl rfl rfl rfl rfl rfl rfl<|sF h (fun h => ?_) fun h => ?_
  ·refine sN<|cT<|qK<|qS<|qB<|gS rfl rfl<|sM rfl<|sM rfl<|bE h fun x11 hx11 h => WO.eE hx11 rfl rfl rfl rfl rfl rfl rfl rfl<|bE h fun x12 hx12 h => WO.eD hx12 rfl rfl rfl rfl rfl rfl<|sB (.ptr 112 0) 112 (.var [r0, r0])<|sS 112 (.var [rI x12.aJ, rI x12.fTo])<|sN ?_
   refine gS rfl rfl<|sM rfl<|sV (.d (aj.pd x12))<|bE h fun x13 hx13 h => cD (mz hx13)<|sF h (fun h => ?_) fun h => ?_
   ·refine sN<|cT<|gS rfl rfl<|sM rfl<|sM rfl<|sV (.d (aj.pd x12))<|bE h fun x16 hx16 h => WO.eE hx16 rfl rfl rfl rfl rfl rfl rfl rfl<|bE h fun x17 hx17 h => WO.jP (g := aj.pd) (sz := 2) (p := aj.pd x12) hx17 (fun _ => rfl) (fun _ => rfl) rfl rfl rfl rfl rfl rfl rfl rfl rfl<|sN<|WC.region rfl rfl<|sM rfl<|sV (rI (rW (s3 + (1 : Int))))<|sA rfl ?_
    refine sN<|WC.region rfl rfl<|sM rfl<|sV (rI (rW (s4 + (1 : Int))))<|sA rfl<|sN ?_
    cases oI h
    exact ⟨rfl, rfl⟩
   refine sN<|cF<|qK<|WC.region rfl rfl<|sM rfl<|sV (rI (rW (s4 + (1 : Int))))<|sA rfl<|sN ?_
   cases oI h
   exact ⟨rfl, rfl⟩
  refine sN<|cF<|qX ?_
  cases oI h
  exact ⟨nofun, rfl, rfl⟩
 intro e R' B' he hq
 obtain ⟨rfl, hI⟩ := hq
 refine qE<|gS rfl hI<|sM rfl<|sM rfl<|bE h fun x20 hx20 h => WO.rb hx20 rfl rfl rfl rfl rfl rfl rfl rfl rfl rfl rfl rfl<|bE h fun x21 hx21 h => WO.wX (z := (aj.mk 0 0)) (g := aj.pd) rfl rfl rfl rfl rfl rfl rfl (lh hx21 rfl) rfl rfl rfl rfl<|sN<|gS rfl rfl<|sM rfl<|sM rfl<|bE h fun x23 hx23 h => WO.resl hx23 rfl rfl rfl rfl rfl rfl rfl rfl rfl rfl rfl rfl<|sA rfl ?_
 refine sN<|qR ?_
 exact oI h▸qD
theorem lE {a0 : (List aj)} {r : (List aj)} (h : fT a0 = some r) : EvP prog aw ext 52 [.d (.lst (a0.map aj.pd))] [] (.d (.lst (r.map aj.pd)), []) := by
 refine Ev.body rfl Tryz.func52 rfl (by kernel_rfl)<|gS rfl rfl<|sV .cu<|sN<|gS rfl rfl<|sM rfl<|bE h fun x1 hx1 h => cR (.ref 144 0) [(144, .arr 0 76 (x1.map aj.pd))] (clone_92 hx1)<|bE h fun x2 hx2 h => cR (.ref 144 1) [(144, .arr 1 76 (x2.map aj.pd))] (pG hx2)<|sA rfl<|sN<|gS rfl rfl<|sM rfl<|bE h fun x3 hx3 h => ?_
 refine cR (.tup []) [(144, .arr 1 76 (x3.map aj.pd))] (sort_95_96 hx3)<|sN<|gS rfl rfl<|sV .cu<|sN<|qS<|gS rfl rfl<|sM rfl<|WO.kb rfl rfl rfl rfl rfl rfl rfl rfl rfl<|sV (r0)<|sN<|bE h fun o27 ho27 h => WC.block (WC.loop (WL.cv ho27 (fun s R' B' => bg prog 0 (A R' B') (aw.at_ 52 0 5) = some (A [(4, .ref 816 0), (13, .ref 144 0), (14, rI (x3.length : Int)), (15, rI s.1)] [(144, .arr 0 76 (x3.map aj.pd)), (816, .arr 0 76 (s.2.map aj.pd))])) (fun o e R' B' => e = .exit 0 ∧ bg prog 0 (A R' B') (aw.at_ 52 0 12) = some (A [(4, .ref 816 0)] [(816, .arr 0 76 (o.map aj.pd))])) rfl ?_ ?_))
 ·rintro ⟨s4, s5⟩ R' B' q7 hI h
  refine gS rfl hI<|sF h (fun h => ?_) fun h => ?_
  ·refine sN<|qS<|cT<|qK<|qS<|qB<|gS rfl rfl<|bE h fun x10 hx10 h => WO.eE hx10 rfl rfl rfl rfl rfl rfl rfl rfl<|bE h fun x11 hx11 h => WO.eD hx11 rfl rfl rfl rfl rfl rfl<|sB (.ptr 96 0) 96 (.var [r0, r0])<|sS 96 (.var [rI x11.aJ, rI x11.fTo])<|sN<|gS rfl rfl ?_
   refine sM rfl<|WO.kb rfl rfl rfl rfl rfl rfl rfl rfl rfl<|sA rfl<|sN<|WC.bX rfl rfl<|sM rfl<|sF h (fun h => ?_) fun h => ?_
   ·refine sM rfl<|sV (.ptr 96 0)<|sL rfl<|sM rfl<|sM rfl<|sV (rI (rW ((s5.length : Int) - (1 : Int))))<|bE h fun x14 hx14 h => WO.eE hx14 rfl rfl rfl rfl rfl rfl rfl rfl<|sV (.elt 816 0 ((rW ((s5.length : Int) - (1 : Int)))).toNat 1)<|bE h fun x15 hx15 h => WO.eD hx15 rfl rfl rfl rfl rfl rfl<|sV (rB (decide (x11.aJ ≤ x15.fTo)))<|sF h (fun h => ?_) fun h => ?_
    ·refine sN<|sO<|cT<|WC.eP rfl rfl<|sM rfl<|sM rfl<|sV (rI (rW ((s5.length : Int) - (1 : Int))))<|sM rfl<|sM rfl<|sV (rI (rW ((s5.length : Int) - (1 : Int))))<|bE h fun x18 hx18 h => WO.eE hx18 rfl rfl rfl rfl rfl rfl rfl rfl<|sV (.elt 816 0 ((rW ((s5.length : Int) - (1 : Int)))).toNat 1)<|bE h fun x19 hx19 h => WO.eD hx19 rfl rfl rfl rfl rfl rfl<|sV (.ptr 96 1) ?_
     refine sL rfl<|sV (rI (if x11.fTo > x19.fTo then x11.fTo else x19.fTo))<|bE h fun x21 hx21 h => WO.eE hx21 rfl rfl rfl rfl rfl rfl rfl rfl<|sV (.elt 816 0 ((rW ((s5.length : Int) - (1 : Int)))).toNat 1)<|bE h fun x22 hx22 h => WO.ko (g := aj.pd) (u := []) (sz := 1) hx22 (fun _ => rfl) (fun _ => Nat.le_of_ble_eq_true rfl) rfl rfl rfl rfl rfl rfl rfl rfl rfl rfl rfl ?_
     refine sN<|sO<|WC.region rfl rfl<|sV (rI (rW (s4 + (1 : Int))))<|sM rfl<|sN ?_
     cases oI h
     exact ⟨rfl, rfl⟩
    refine sN<|sO<|cF<|WC.region rfl rfl<|sM rfl<|sV (.d (aj.pd x11))<|sV (.d (.lst ([x11].map aj.pd)))<|bE h fun x24 hx24 h => aR hx24 (fun _ => rfl) rfl<|sA rfl<|sN<|WC.region rfl rfl<|sV (rI (rW (s4 + (1 : Int))))<|sM rfl<|sN ?_
    cases oI h
    exact ⟨rfl, rfl⟩
   refine sM rfl<|k3<|k3<|k3<|sU ?_
   refine sN<|sO<|cF<|WC.region rfl rfl<|sM rfl<|sV (.d (aj.pd x11))<|sV (.d (.lst ([x11].map aj.pd)))<|bE h fun x25 hx25 h => aR hx25 (fun _ => rfl) rfl<|sA rfl<|sN<|WC.region rfl rfl<|sV (rI (rW (s4 + (1 : Int))))<|sM rfl<|sN ?_
   cases oI h
   exact ⟨rfl, rfl⟩
  refine sN<|qS<|cF<|qX ?_
  cases oI h
  exact ⟨nofun, rfl, rfl⟩
 intro e R' B' he hq
 obtain ⟨rfl, hI⟩ := hq
 refine qE<|gS rfl hI<|sM rfl<|sA rfl<|sN<|qR ?_
 exact oI h▸qD
theorem kE {a0 : (List aa)} {r : (List ar)} (h : bU a0 = some r) : EvP prog aw ext 23 [.d (.lst (a0.map aa.pd))] [] (.d (.lst (r.map ar.pd)), []) := by
 refine Ev.body rfl Tryz.func23 rfl (by kernel_rfl)<|gS rfl rfl<|sV .cu<|sN<|gS rfl rfl<|sB (.ptr 160 0) 160 (.mapn 50 72 76 [] none)<|sA rfl<|sN<|gS rfl rfl<|sV .cu<|sN<|qS<|gS rfl rfl<|sM rfl<|sE (rI (a0.length : Int)) (b8 _ _) ?_
 refine sV (r0)<|sN<|bE h fun o14 ho14 h => WC.block (WC.loop (WL.cv ho14 (fun s R' B' => bg prog 0 (A R' B') (aw.at_ 23 0 4) = some (A [(3, .ptr 160 0), (4, .ref 384 0), (11, .d (.lst (a0.map aa.pd))), (12, rI (a0.length : Int)), (13, rI s.1)] [(160, .mapn 50 72 76 (s.2.1.map fun e => (ag.pd e.1, e.2.map aj.pd)) none), (384, .arr 0 50 (s.2.2.map ag.pd))])) (fun o e R' B' => e = .exit 0 ∧ bg prog 0 (A R' B') (aw.at_ 23 0 10) = some (A [(3, .ptr 160 0), (4, .ref 384 0)] [(160, .mapn 50 72 76 (o.1.map fun e => (ag.pd e.1, e.2.map aj.pd)) none), (384, .arr 0 50 (o.2.map ag.pd))])) rfl ?_ ?_))
 ·rintro ⟨s1, s2, s3⟩ R' B' q6 hI h
  refine gS rfl hI<|sF h (fun h => ?_) fun h => ?_
  ·refine sN<|qS<|cT<|qK<|qS<|qB<|gS rfl rfl<|bE h fun x8 hx8 h => eG hx8 rfl<|sV (.d (aa.pd x8))<|sB (.ptr 96 0) 96 (.var zZ1)<|sH 96 (.var (aa.rc x8))<|sN<|qS<|gS rfl rfl ?_
   refine sV (.d (aa.pd x8))<|bE h fun x9 hx9 h => cD (md hx9)<|sF h (fun h => ?_) fun h => ?_
   ·refine sN<|cT<|qX<|qE<|WC.region rfl rfl<|sV (rI (rW (s1 + (1 : Int))))<|sM rfl<|sN ?_
    cases oI h
    exact ⟨rfl, rfl⟩
   refine sN<|cF<|qK<|gS rfl rfl<|sM rfl<|sV (.ptr 96 0)<|sV (.d (ag.pd x8.ak))<|sV (.d (.lst ([x8.ak].map ag.pd)))<|bE h fun x11 hx11 h => aR hx11 (fun _ => rfl) rfl<|sA rfl<|sN<|WC.region rfl rfl<|sM rfl<|sV (.ptr 96 0) ?_
   refine sV (.d (ag.pd x8.ak))<|sV (.ptr 96 4)<|sL rfl<|sV (.ptr 96 4)<|sL rfl<|sV (rI (rW (x8.aN + (1 : Int))))<|sV (.d (aj.pd (aj.mk x8.aN (rW (x8.aN + (1 : Int))))))<|sV (.d (.lst ([(aj.mk x8.aN (rW (x8.aN + (1 : Int))))].map aj.pd)))<|WO.mapE (gv := aj.pd) keyT_50 rfl rfl rfl rfl rfl rfl rfl rfl rfl rfl<|sV (.ref 576 0)<|bE h fun x12 hx12 h => aR hx12 (fun _ => rfl) rfl<|sV (rI ((kB nz x8.ak s2 : Nat) : Int))<|WO.entS (gv := aj.pd) keyT_50 rfl rfl rfl rfl rfl rfl rfl rfl rfl<|sN ?_
   refine WC.region rfl rfl<|sV (rI (rW (s1 + (1 : Int))))<|sM rfl<|sN ?_
   cases oI h
   exact ⟨rfl, rfl⟩
  refine sN<|qS<|cF<|qX ?_
  cases oI h
  exact ⟨nofun, rfl, rfl⟩
 intro e R' B' he hq
 obtain ⟨rfl, hI⟩ := hq
 refine qE<|gS rfl hI<|sV .cu<|sN<|qS<|gS rfl rfl<|sM rfl<|bE h fun x15 hx15 h => cR (.d (.lst (x15.map ag.pd))) [(384, .dead)] (wB hx15)<|sE (rI (x15.length : Int)) (b8 _ _)<|sV (r0)<|sN<|bE h fun o26 ho26 h => WC.block (WC.loop (WL.cv ho26 (fun s R' B' => bg prog 0 (A R' B') (aw.at_ 23 0 12) = some (A [(3, .ptr 160 0), (7, .ref 880 0), (41, .d (.lst (x15.map ag.pd))), (42, rI (x15.length : Int)), (43, rI s.1)] [(160, .map 50 72 (o14.1.map fun e => (ag.pd e.1, (fun l => PD.lst (l.map aj.pd)) e.2))), (880, .arr 0 74 (s.2.map ar.pd))])) (fun o e R' B' => e = .exit 2 ∧ bg prog 0 (A R' B') (aw.at_ 23 0 16) = some (A [(7, .ref 880 0)] [(880, .arr 0 74 (o.map ar.pd))])) (vW rfl rfl) ?_ ?_))
 ·rintro ⟨s17, s18⟩ R' B' q20 hI h
  refine gS rfl hI<|sF h (fun h => ?_) fun h => ?_
  ·refine sN<|qS<|cT<|qK<|qS<|qB<|gS rfl rfl<|bE h fun x22 hx22 h => eG hx22 rfl<|sV (.d (ag.pd x22))<|sB (.ptr 144 0) 144 (.var [rS [], rS [], rS [], rS []])<|sS 144 (.var [rS x22.aC, rS x22.aA, rS x22.av, rS x22.aD])<|sN<|WC.eP (R0 := [(3, .ptr 160 0), (7, .ref 880 0), (9, .ptr 144 0), (41, .d (.lst (x15.map ag.pd))), (42, rI (x15.length : Int)), (43, rI s17)]) (B0 := [(144, .var [rS x22.aC, rS x22.aA, rS x22.av, rS x22.aD]), (160, .map 50 72 (o14.1.map fun e => (ag.pd e.1, (fun l => PD.lst (l.map aj.pd)) e.2))), (880, .arr 0 74 (s18.map ar.pd))]) rfl rfl<|sM rfl ?_
   refine sV (.d (ag.pd x22))<|sM rfl<|sV (.d (ag.pd x22))<|WO.look (gv := (fun l => PD.lst (l.map aj.pd))) (z := ([] : (List aj))) keyT_50 rfl rfl rfl rfl rfl rfl rfl rfl<|bE h fun x23 hx23 h => cD (lE hx23)<|sV (.d (.agg [.str x22.aC, .str x22.aA, .str x22.av, .str x22.aD, .lst (x23.map aj.pd)]))<|sV (.d (.lst ([(ar.mk x22 x23)].map ar.pd)))<|bE h fun x24 hx24 h => aR hx24 (fun _ => rfl) rfl<|sA rfl ?_
   refine sN<|sO<|WC.region rfl rfl<|sV (rI (rW (s17 + (1 : Int))))<|sM rfl<|sN ?_
   cases oI h
   exact ⟨rfl, rfl⟩
  refine sN<|qS<|cF<|qX ?_
  cases oI h
  exact ⟨nofun, rfl, rfl⟩
 intro e R' B' he hq
 obtain ⟨rfl, hI⟩ := hq
 refine qE<|gS rfl hI<|sM rfl<|sA rfl<|sN<|qR ?_
 exact oI h▸qD
theorem oO {a0 : (List ar)} {a1 : (List ar)} {r : Bool} (h : cd a0 a1 = some r) : EvP prog aw ext 22 [.d (.lst (a0.map ar.pd)), .d (.lst (a1.map ar.pd))] [] (rB r, []) := by
 refine Ev.body rfl Tryz.func22 rfl (by kernel_rfl)<|gS rfl rfl<|sU<|sN<|qS<|gS rfl rfl<|sM rfl<|sE (rI (a0.length : Int)) (b8 _ _)<|sM rfl<|sE (rI (a1.length : Int)) (b8 _ _)<|sF h (fun h => ?_) fun h => ?_
 ·refine sN<|cT<|gS rfl rfl<|sU<|sN<|qR ?_
  exact oI h▸qD
 refine sN<|cF<|qK<|qS<|gS rfl rfl<|sV (r0)<|sN<|bE h fun o26 ho26 h => WC.block (WC.loop (WL.cv ho26 (fun s R' B' => bg prog 0 (A R' B') (aw.at_ 22 0 4) = some (A [(0, .d (.lst (a0.map ar.pd))), (1, .d (.lst (a1.map ar.pd))), (5, rI s)] [])) (fun o e R' B' => match o with | .inl y => e = .exit 0 ∧ bg prog 0 (A R' B') (aw.at_ 22 0 13) = some (A [] []) | .inr r => e = .ret ∧ finish prog (aw.own 22) Tryz.f22 0 (A R' B') = some (rB r, [])) rfl ?_ ?_))
 ·rintro s2 R' B' q3 hI h
  refine qS<|gS rfl hI<|sM rfl<|sM rfl<|sE (rI (a0.length : Int)) (b8 _ _)<|sF h (fun h => ?_) fun h => ?_
  ·refine sN<|cT<|qK<|qS<|qB<|qS<|WC.bX rfl rfl<|sM rfl<|sM rfl<|bE h fun x5 hx5 h => eG hx5 rfl<|sV (.cptr [.str x5.ak.aC, .str x5.ak.aA, .str x5.ak.av, .str x5.ak.aD, .lst (x5.bM.map aj.pd)])<|sV (.d (ag.pd x5.ak))<|sM rfl<|sM rfl ?_
   refine bE h fun x6 hx6 h => eG hx6 rfl<|sV (.cptr [.str x6.ak.aC, .str x6.ak.aA, .str x6.ak.av, .str x6.ak.aD, .lst (x6.bM.map aj.pd)])<|sV (.d (ag.pd x6.ak))<|cY h (fun hb7 h => ?_) (fun hb7 h => ?_)
   ·refine WO.gu (eqN_50 x5.ak x6.ak) hb7 rfl rfl rfl rfl rfl<|sM rfl<|k3<|k3<|k3<|k3<|sK ?_
    refine sT ?_
    refine sN<|sO<|cT<|gS rfl rfl<|sU<|sN<|qR ?_
    cases oI h
    exact ⟨nofun, rfl, rfl⟩
   refine WO.gu (eqN_50 x5.ak x6.ak) hb7 rfl rfl rfl rfl rfl<|sM rfl<|sM rfl<|sM rfl<|bE h fun x8 hx8 h => eG hx8 rfl<|sV (.cptr [.lst (x8.bM.map aj.pd)])<|sC rfl<|sE (rI (x8.bM.length : Int)) (b8 _ _)<|sM rfl<|sM rfl<|bE h fun x9 hx9 h => eG hx9 rfl<|sV (.cptr [.lst (x9.bM.map aj.pd)])<|sC rfl ?_
   refine sE (rI (x9.bM.length : Int)) (b8 _ _)<|sV (rB ((x8.bM.length : Int) != (x9.bM.length : Int)))<|sF h (fun h => ?_) fun h => ?_
   ·refine sN<|sO<|cT<|gS rfl rfl<|sU<|sN<|qR ?_
    cases oI h
    exact ⟨nofun, rfl, rfl⟩
   refine sN<|sO<|cF<|qK<|gS rfl rfl<|sV (r0)<|sN<|bE h fun o22 ho22 h => WC.block (WC.loop (WL.cv ho22 (fun s R' B' => bg prog 0 (A R' B') (aw.at_ 22 0 9) = some (A [(0, .d (.lst (a0.map ar.pd))), (1, .d (.lst (a1.map ar.pd))), (5, rI s2), (6, rI s)] [])) (fun o e R' B' => match o with | .inl y => e = .exit 2 ∧ bg prog 0 (A R' B') (aw.at_ 22 0 5) = some (A [(0, .d (.lst (a0.map ar.pd))), (1, .d (.lst (a1.map ar.pd))), (5, rI y)] []) | .inr r => e = .ret ∧ finish prog (aw.own 22) Tryz.f22 0 (A R' B') = some (rB r, [])) rfl ?_ ?_))
   ·rintro s11 R' B' q13 hI h
    refine qS<|gS rfl hI<|sM rfl<|sM rfl<|sM rfl<|bE h fun x14 hx14 h => eG hx14 rfl<|sV (.cptr [.lst (x14.bM.map aj.pd)])<|sC rfl<|sE (rI (x14.bM.length : Int)) (b8 _ _)<|sF h (fun h => ?_) fun h => ?_
    ·refine sN<|cT<|qK<|qS<|qB<|WC.bX rfl rfl<|sM rfl<|sM rfl<|bE h fun x16 hx16 h => eG hx16 rfl<|sV (.cptr [.lst (x16.bM.map aj.pd)])<|sC rfl<|sM rfl<|bE h fun x17 hx17 h => eG hx17 rfl ?_
     refine sV (.d (aj.pd x17))<|sM rfl<|sM rfl<|bE h fun x18 hx18 h => eG hx18 rfl<|sV (.cptr [.lst (x18.bM.map aj.pd)])<|sC rfl<|sM rfl<|bE h fun x19 hx19 h => eG hx19 rfl<|sV (.d (aj.pd x19))<|cY h (fun hb20 h => ?_) (fun hb20 h => ?_)
     ·refine WO.gu (eqN_76 x17 x19) hb20 rfl rfl rfl rfl rfl ?_
      refine sN<|sO<|cT<|gS rfl rfl<|sU<|sN<|qR ?_
      cases oI h
      exact ⟨nofun, rfl, rfl⟩
     refine WO.gu (eqN_76 x17 x19) hb20 rfl rfl rfl rfl rfl ?_
     refine sN<|sO<|cF<|qK<|WC.region rfl rfl<|sM rfl<|sV (rI (rW (s11 + (1 : Int))))<|sA rfl<|sN ?_
     cases oI h
     exact ⟨rfl, rfl⟩
    refine sN<|cF<|qX ?_
    cases oI h
    exact ⟨nofun, rfl, rfl⟩
   intro e R' B' he hq
   rcases o22 with y23 | r24
   ·obtain ⟨rfl, hI⟩ := hq
    refine qE<|WC.region hI rfl<|sM rfl<|sV (rI (rW (y23 + (1 : Int))))<|sA rfl<|sN ?_
    cases oI h
    exact ⟨rfl, rfl⟩
   obtain ⟨rfl, hf⟩ := hq
   cases oI h
   exact ⟨nofun, rfl, hf⟩
  refine sN<|cF<|qX ?_
  cases oI h
  exact ⟨nofun, rfl, rfl⟩
 intro e R' B' he hq
 rcases o26 with y27 | r28
 ·obtain ⟨rfl, hI⟩ := hq
  refine qE<|gS rfl hI<|sT<|sN<|qR ?_
  exact oI h▸qD
 obtain ⟨rfl, hf⟩ := hq
 cases oI h
 exact hf
theorem eu  {r : Bool} (h : dG = some r) : EvP prog aw ext 16 [] [] (rB r, []) := by
 refine Ev.body rfl Tryz.func16 rfl (by kernel_rfl)<|gS rfl rfl<|sU<|sN<|gS rfl rfl<|bE h fun x1 hx1 h => cD (gJ hx1)<|bE h fun x2 hx2 h => cD (gJ hx2)<|bE h fun x3 hx3 h => cD (gJ hx3)<|bE h fun x4 hx4 h => cD (gJ hx4)<|sG (.d (.lst ([x1, x2, x3, x4].map aa.pd)))<|bE h fun x5 hx5 h => ?_
 refine cR (.tup [.d (.lst (x5.1.map (fun l => PD.lst (l.map aa.pd)))), rI x5.2]) [] (e8 hx5)<|sM rfl<|sV (.d (.lst (x5.1.map (fun l => PD.lst (l.map aa.pd)))))<|sV (rI x5.2)<|sA rfl<|sA rfl<|sN<|gS rfl rfl<|bE h fun x6 hx6 h => cD (gJ hx6)<|bE h fun x7 hx7 h => cD (gJ hx7)<|bE h fun x8 hx8 h => cD (gJ hx8)<|sG (.d (.lst ([x6, x7, x8].map aa.pd))) ?_
 refine bE h fun x9 hx9 h => cD (kE hx9)<|sA rfl<|sN<|WC.bX rfl rfl<|sM rfl<|sF h (fun h => ?_) fun h => ?_
 ·refine sM rfl<|sM rfl<|sE (rI (x5.1.length : Int)) (b8 _ _)<|sV (rB ((x5.1.length : Int) == (2 : Int)))<|sF h (fun h => ?_) fun h => ?_
  ·refine sM rfl<|sM rfl<|bE h fun x12 hx12 h => eG hx12 rfl<|sC rfl<|sE (rI (x12.length : Int)) (b8 _ _)<|sV (rB ((x12.length : Int) == (3 : Int)))<|sF h (fun h => ?_) fun h => ?_
   ·refine sM rfl<|sM rfl<|bE h fun x14 hx14 h => eG hx14 rfl<|sC rfl<|bE h fun x15 hx15 h => eG hx15 rfl<|sV (.d (aa.pd x15))<|bE h fun x16 hx16 h => cD (gJ hx16)<|WO.bin (xt x15 x16) rfl rfl rfl rfl rfl<|sF h (fun h => ?_) fun h => ?_
    ·refine sM rfl<|sM rfl<|bE h fun x18 hx18 h => cD (n9 hx18)<|sV (.d (aj.pd (aj.mk 4 6)))<|sV (.d (aj.pd (aj.mk 9 10)))<|sV (.d (.lst ([(aj.mk 4 6), (aj.mk 9 10)].map aj.pd)))<|sV (.d (.agg [.str x18.aC, .str x18.aA, .str x18.av, .str x18.aD, .lst ([(aj.mk 4 6), (aj.mk 9 10)].map aj.pd)]))<|sV (.d (.lst ([(ar.mk x18 [(aj.mk 4 6), (aj.mk 9 10)])].map ar.pd)))<|bE h fun x19 hx19 h => cD (oO hx19)<|sV (rB x19)<|sA rfl ?_
     refine sN<|sO<|qR ?_
     exact oI h▸qD
    refine sM rfl<|k3<|k3<|sK<|sK<|sU<|sA rfl ?_
    refine sN<|sO<|qR ?_
    exact oI h▸qD
   refine sM rfl<|k3<|k3<|sK<|sU<|sM rfl<|k3<|sK<|sK ?_
   refine k3<|sU<|sA rfl ?_
   refine sN<|sO<|qR ?_
   exact oI h▸qD
  refine sM rfl<|k3<|sK<|sK<|sU<|sM rfl<|k3<|k3<|sK ?_
  refine sU<|sM rfl<|k3<|k3<|sK<|sK<|sU<|sA rfl ?_
  refine sN<|sO<|qR ?_
  exact oI h▸qD
 refine sM rfl<|k3<|sU<|sM rfl<|k3<|sK<|sK<|sU<|sM rfl<|sK<|sK ?_
 refine k3<|sK<|sK<|sU<|sM rfl<|k3<|k3<|sK<|sK ?_
 refine sU<|sA rfl ?_
 refine sN<|sO<|qR ?_
 exact oI h▸qD
theorem oT {a1 : ac} {d0 : ah} {r : ac × ah} (h : gI a1 d0 = some r) : EvP prog aw ext 19 [.ptr 0 0, .d (ac.pd a1)] [.var [.d (.lst (d0.fL.map (PD.int .i64))), rI d0.fAt]] (.d (ac.pd r.1), [.var [.d (.lst (r.2.fL.map (PD.int .i64))), rI r.2.fAt]]) := by
 refine Ev.body rfl Tryz.func19 rfl (by kernel_rfl)<|gS rfl rfl<|sB (.ptr 48 0) 48 (.var [.d (.lst (a1.al.map ae.pd))])<|sB (.ptr 64 0) 64 (.var [.cu])<|sN<|gS rfl rfl<|sB (.ptr 80 0) 80 (.var [.cu])<|sN<|qS<|gS rfl rfl<|sV (.ptr 48 0)<|sL rfl<|sE (rI (a1.al.length : Int)) (b8 _ _)<|sV (r0)<|sN ?_
 refine bE h fun o53 ho53 h => WC.block (WC.loop (WL.cv ho53 (fun s R' B' => bg prog 1 (A R' B') (aw.at_ 19 1 3) = some (A [(0, .ptr 0 0), (4, .ptr 64 0), (5, .ptr 80 0), (10, .d (.lst (a1.al.map ae.pd))), (11, rI (a1.al.length : Int)), (12, rI s.1)] [(0, .var [.d (.lst (s.2.1.map (PD.int .i64))), rI s.2.2.1]), (64, .var [.cu]), (80, .var [.ref 1536 0]), (1536, .arr 0 99 (s.2.2.2.map ae.pd))])) (fun o e R' B' => e = .exit 0 ∧ bg prog 1 (A R' B') (aw.at_ 19 1 20) = some (A [(4, .ptr 64 0), (5, .ptr 80 0)] [(0, .var [.d (.lst (o.1.map (PD.int .i64))), rI o.2.1]), (64, .var [.cu]), (80, .var [.ref 1536 0]), (1536, .arr 0 99 (o.2.2.map ae.pd))])) rfl ?_ ?_))
 ·rintro ⟨s1, s2, s3, s4⟩ R' B' q8 hI h
  refine gS rfl hI<|sF h (fun h => ?_) fun h => ?_
  ·refine sN<|qS<|cT<|qK<|qS<|qB<|gS rfl rfl<|bE h fun x10 hx10 h => eG hx10 rfl<|sV (.d (ae.pd x10))<|sB (.ptr 112 0) 112 (.var zZ3)<|sS 112 (.var (ae.rc x10))<|sN<|gS rfl rfl<|sB (.ref 256 0) 256 (.arr 0 96 (([] : List ai).map ai.pd)) ?_
   refine sV (.ptr 112 4)<|sL rfl<|bE h fun x11 hx11 h => aR hx11 (fun _ => rfl) rfl<|sV (.ptr 112 4)<|sS 112 (.var [rS x10.ak.aC, rS x10.ak.aA, rS x10.ak.av, rS x10.ak.aD, .ref 256 1])<|sN<|gS rfl rfl<|sM rfl<|sV (.ptr 112 4)<|sL rfl<|WO.kb rfl rfl rfl rfl rfl rfl rfl rfl rfl<|bE h fun x12 hx12 h => cR (rI x12.1) [(0, .var [.d (.lst (x12.2.fL.map (PD.int .i64))), rI x12.2.fAt])] (bj hx12)<|sA rfl ?_
   refine sN<|qS<|gS rfl rfl<|sM rfl<|bE h fun x13 hx13 h => cR (rI x13.1) [(0, .var [.d (.lst (x13.2.fL.map (PD.int .i64))), rI x13.2.fAt])] (bj hx13)<|sN<|qB<|gS rfl rfl<|sF h (fun h => ?_) fun h => ?_
   ·refine sA rfl<|sN<|cT<|WC.eP rfl rfl<|sV (.ptr 112 4)<|sL rfl<|sM rfl<|sM rfl<|bE h fun x15 hx15 h => cR (.d (ap.pd x15.1)) [(0, .var [.d (.lst (x15.2.fL.map (PD.int .i64))), rI x15.2.fAt])] (ru hx15)<|bE h fun x17 hx17 h => WO.eE hx17 rfl rfl rfl rfl rfl rfl rfl rfl<|sV (.elt 256 1 (x12.1).toNat 4)<|bE h fun x18 hx18 h => WO.ko (g := ai.pd) (u := []) (sz := 3) hx18 (fun _ => rfl) (fun _ => Nat.le_of_ble_eq_true rfl) rfl rfl rfl rfl rfl rfl rfl rfl rfl rfl rfl ?_
    refine sN<|sO<|WC.region rfl rfl<|sV (.ptr 80 0)<|sL rfl<|sV (.agg [rS x10.ak.aC, rS x10.ak.aA, rS x10.ak.av, rS x10.ak.aD, .ref 256 1])<|sB (.d (.lst [ae.pd (ae.mk x10.ak x18)])) 256 .dead<|bE h fun x20 hx20 h => aR hx20 (fun _ => rfl) rfl<|sV (.ptr 80 0)<|sS 80 (.var [.ref 1536 1])<|sN<|WC.region rfl rfl<|sV (rI (rW (s1 + (1 : Int))))<|sM rfl<|sN ?_
    cases oI h
    exact ⟨rfl, rfl⟩
   refine sA rfl<|sN<|cF<|gS rfl rfl<|sF h (fun h => ?_) fun h => ?_
   ·refine sA rfl<|sN<|cT<|WC.eP rfl rfl<|sV (.ptr 112 4)<|sL rfl<|sM rfl<|sM rfl<|bE h fun x22 hx22 h => cR (.d (aB.pd x22.1)) [(0, .var [.d (.lst (x22.2.fL.map (PD.int .i64))), rI x22.2.fAt])] (qC hx22)<|bE h fun x24 hx24 h => WO.eE hx24 rfl rfl rfl rfl rfl rfl rfl rfl<|sV (.elt 256 1 (x12.1).toNat 7)<|bE h fun x25 hx25 h => WO.ko (g := ai.pd) (u := []) (sz := 1) hx25 (fun _ => rfl) (fun _ => Nat.le_of_ble_eq_true rfl) rfl rfl rfl rfl rfl rfl rfl rfl rfl rfl rfl ?_
    refine sN<|sO<|WC.region rfl rfl<|sV (.ptr 80 0)<|sL rfl<|sV (.agg [rS x10.ak.aC, rS x10.ak.aA, rS x10.ak.av, rS x10.ak.aD, .ref 256 1])<|sB (.d (.lst [ae.pd (ae.mk x10.ak x25)])) 256 .dead<|bE h fun x27 hx27 h => aR hx27 (fun _ => rfl) rfl<|sV (.ptr 80 0)<|sS 80 (.var [.ref 1536 1])<|sN<|WC.region rfl rfl<|sV (rI (rW (s1 + (1 : Int))))<|sM rfl<|sN ?_
    cases oI h
    exact ⟨rfl, rfl⟩
   refine sA rfl<|sN<|cF<|gS rfl rfl<|sF h (fun h => ?_) fun h => ?_
   ·refine sA rfl<|sN<|cT<|WC.eP rfl rfl<|sV (.ptr 112 4)<|sL rfl<|sV (.ptr 112 4)<|sL rfl<|WO.kb rfl rfl rfl rfl rfl rfl rfl rfl rfl<|sV (rI (rW ((x11.length : Int) - (1 : Int))))<|sV (.ptr 112 4)<|sL rfl<|sV (.ptr 112 4)<|sL rfl<|WO.kb rfl rfl rfl rfl rfl rfl rfl rfl rfl ?_
    refine sV (rI (rW ((x11.length : Int) - (1 : Int))))<|bE h fun x30 hx30 h => WO.eE hx30 rfl rfl rfl rfl rfl rfl rfl rfl<|sV (.elt 256 1 ((rW ((x11.length : Int) - (1 : Int)))).toNat 0)<|bE h fun x31 hx31 h => WO.eD hx31 rfl rfl rfl rfl rfl rfl<|sV (rI (rW (x31.aJ + (1 : Int))))<|sM rfl<|bE h fun x32 hx32 h => cR (rI x32.1) [(0, .var [.d (.lst (x32.2.fL.map (PD.int .i64))), rI x32.2.fAt])] (bj hx32)<|sM rfl<|sV (.d (.lst ([1, 1000].map (PD.int .i64))))<|bE h fun x33 hx33 h => cR (rI x33.1) [(0, .var [.d (.lst (x33.2.fL.map (PD.int .i64))), rI x33.2.fAt])] (cz hx33)<|sV (rI (rW (x32.1 * x33.1))) ?_
    refine sV (rI (rW ((rW (x31.aJ + (1 : Int))) + (rW (x32.1 * x33.1)))))<|bE h fun x35 hx35 h => WO.eE hx35 rfl rfl rfl rfl rfl rfl rfl rfl<|sV (.elt 256 1 ((rW ((x11.length : Int) - (1 : Int)))).toNat 1)<|bE h fun x36 hx36 h => WO.ko (g := ai.pd) (u := []) (sz := 1) hx36 (fun _ => rfl) (fun _ => Nat.le_of_ble_eq_true rfl) rfl rfl rfl rfl rfl rfl rfl rfl rfl rfl rfl ?_
    refine sN<|sO<|WC.region rfl rfl<|sV (.ptr 80 0)<|sL rfl<|sV (.agg [rS x10.ak.aC, rS x10.ak.aA, rS x10.ak.av, rS x10.ak.aD, .ref 256 1])<|sB (.d (.lst [ae.pd (ae.mk x10.ak x36)])) 256 .dead<|bE h fun x38 hx38 h => aR hx38 (fun _ => rfl) rfl<|sV (.ptr 80 0)<|sS 80 (.var [.ref 1536 1])<|sN<|WC.region rfl rfl<|sV (rI (rW (s1 + (1 : Int))))<|sM rfl<|sN ?_
    cases oI h
    exact ⟨rfl, rfl⟩
   refine sA rfl<|sN<|cF<|gS rfl rfl<|sF h (fun h => ?_) fun h => ?_
   ·refine sA rfl<|sN<|cT<|qX<|⟨fun he => (by cases he), fun _ => ?_⟩
    refine qE<|WC.region rfl rfl<|sV (rI (rW (s1 + (1 : Int))))<|sM rfl<|sN ?_
    cases oI h
    exact ⟨rfl, rfl⟩
   refine sA rfl<|sN<|cF<|gS rfl rfl<|sF h (fun h => ?_) fun h => ?_
   ·refine sA rfl<|sN<|cT<|WC.bX rfl rfl<|sV (.ptr 112 4)<|sL rfl<|sM rfl<|sM rfl<|bE h fun x41 hx41 h => cR (rI x41.1) [(0, .var [.d (.lst (x41.2.fL.map (PD.int .i64))), rI x41.2.fAt])] (bj hx41)<|sV (rI (rW ((50 : Int) + x41.1)))<|bE h fun x43 hx43 h => WO.eE hx43 rfl rfl rfl rfl rfl rfl rfl rfl<|sV (.elt 256 1 (x12.1).toNat 2)<|sV (.elt 256 1 (x12.1).toNat 2) ?_
    refine bE h fun x44 hx44 h => WO.ko (g := ai.pd) (u := []) (sz := 1) hx44 (fun _ => rfl) (fun _ => Nat.le_of_ble_eq_true rfl) rfl rfl rfl rfl rfl rfl rfl rfl rfl rfl rfl ?_
    refine sN<|sO<|WC.region rfl rfl<|sV (.ptr 112 4)<|sL rfl<|sM rfl<|bE h fun x47 hx47 h => WO.eE hx47 rfl rfl rfl rfl rfl rfl rfl rfl<|sV (.elt 256 1 (x12.1).toNat 2)<|sV (.elt 256 1 (x12.1).toNat 3)<|bE h fun x48 hx48 h => WO.ko (g := ai.pd) (u := []) (sz := 1) hx48 (fun _ => rfl) (fun _ => Nat.le_of_ble_eq_true rfl) rfl rfl rfl rfl rfl rfl rfl rfl rfl rfl rfl<|sN<|WC.region rfl rfl<|sV (.ptr 80 0)<|sL rfl ?_
    refine sV (.agg [rS x10.ak.aC, rS x10.ak.aA, rS x10.ak.av, rS x10.ak.aD, .ref 256 1])<|sB (.d (.lst [ae.pd (ae.mk x10.ak x48)])) 256 .dead<|bE h fun x50 hx50 h => aR hx50 (fun _ => rfl) rfl<|sV (.ptr 80 0)<|sS 80 (.var [.ref 1536 1])<|sN<|WC.region rfl rfl<|sV (rI (rW (s1 + (1 : Int))))<|sM rfl<|sN ?_
    cases oI h
    exact ⟨rfl, rfl⟩
   refine sA rfl<|sN<|cF<|qK<|WC.region rfl rfl<|sV (.ptr 80 0)<|sL rfl<|sV (.agg [rS x10.ak.aC, rS x10.ak.aA, rS x10.ak.av, rS x10.ak.aD, .ref 256 1])<|sB (.d (.lst [ae.pd (ae.mk x10.ak x11)])) 256 .dead<|bE h fun x51 hx51 h => aR hx51 (fun _ => rfl) rfl<|sV (.ptr 80 0)<|sS 80 (.var [.ref 1536 1])<|sN<|WC.region rfl rfl ?_
   refine sV (rI (rW (s1 + (1 : Int))))<|sM rfl<|sN ?_
   cases oI h
   exact ⟨rfl, rfl⟩
  refine sN<|qS<|cF<|qX ?_
  cases oI h
  exact ⟨nofun, rfl, rfl⟩
 intro e R' B' he hq
 obtain ⟨rfl, hI⟩ := hq
 refine qE<|gS rfl hI<|sV (.agg [.ref 1536 0])<|sS 64 (.var [.ref 1536 0])<|sN<|qR ?_
 exact oI h▸qD
theorem xC {a0 : Int} {a1 : Int} {a2 : Int} {r : Bool} (h : tp a0 a1 a2 = some r) : EvP prog aw ext 201 [rI a0, rI a1, rI a2] [] (rB r, []) := by
 refine Ev.body rfl Tryz.func201 rfl (by kernel_rfl)<|gS rfl rfl<|sU<|sN<|gS rfl rfl<|sM rfl<|sM rfl<|sF h (fun h => ?_) fun h => ?_
 ·refine sM rfl<|sM rfl<|sM rfl<|sV (rB (decide (a0 ≤ a2)))<|sV (rB (decide (a0 ≤ a2)))<|sA rfl<|sN<|qR ?_
  exact oI h▸qD
 refine sM rfl<|k3<|sU<|sA rfl<|sN<|qR ?_
 exact oI h▸qD
theorem rate_gcd_ev {a0 : Int} {a1 : Int} {r : Int} (h : qj a0 a1 = some r) : EvP prog aw ext 202 [rI a0, rI a1] [] (rI r, []) := by
 refine Ev.body rfl Tryz.func202 rfl (by kernel_rfl)<|gS rfl rfl<|sV (r0)<|sN<|qS<|bE h fun o8 ho8 h => WC.block (WC.loop (WL.cv ho8 (fun s R' B' => bg prog 0 (A R' B') (aw.at_ 202 0 1) = some (A [(0, rI s.1), (1, rI s.2)] [])) (fun o e R' B' => e = .exit 0 ∧ bg prog 0 (A R' B') (aw.at_ 202 0 3) = some (A [(0, rI o)] [])) rfl ?_ ?_))
 ·rintro ⟨s1, s2⟩ R' B' q4 hI h
  refine qS<|gS rfl hI<|sM rfl<|sF h (fun h => ?_) fun h => ?_
  ·refine sN<|cT<|qK<|qB<|WC.eP rfl rfl<|sM rfl<|sM rfl<|sM rfl<|bE h fun x6 hx6 h => WO.remG hx6 rfl rfl rfl rfl rfl rfl<|sA rfl<|sA rfl ?_
   refine sN<|sO ?_
   cases oI h
   exact ⟨rfl, rfl⟩
  refine sN<|cF<|qX ?_
  cases oI h
  exact ⟨nofun, rfl, rfl⟩
 intro e R' B' he hq
 obtain ⟨rfl, hI⟩ := hq
 refine qE<|gS rfl hI<|sM rfl<|sA rfl<|sN<|qR ?_
 exact oI h▸qD
theorem rate_Valid_ev {a0 : aT} {r : Bool} (h : lp a0 = some r) : EvP prog aw ext 176 [.d (aT.pd a0)] [] (rB r, []) := by
 refine Ev.body rfl Tryz.func176 rfl (by kernel_rfl)<|gS rfl rfl<|sB (.ptr 16 0) 16 (.var [rI a0.aU, rI a0.aS])<|sU<|sN<|gS rfl rfl<|sV (.ptr 16 0)<|sL rfl<|bE h fun x1 hx1 h => cY h (fun hb2 h => ?_) (fun hb2 h => ?_)
 ·refine WO.fj (v := rB true) (u := []) rfl rfl (fun _ => rfl) rfl rfl rfl rfl rfl (xC hx1) rfl rfl (congrArg (fun b => RV.d (.bool b)) hb2) rfl<|sM rfl<|sV (.ptr 16 1)<|sL rfl<|bE h fun x3 hx3 h => cD (xC hx3)<|sF h (fun h => ?_) fun h => ?_
  ·refine sM rfl<|sV (.ptr 16 0)<|sL rfl<|sV (.ptr 16 1)<|sL rfl<|bE h fun x5 hx5 h => cD (rate_gcd_ev hx5)<|sV (rB (x5 == (1 : Int)))<|sV (rB (x5 == (1 : Int)))<|sA rfl<|sN<|qR ?_
   exact oI h▸qD
  refine sM rfl<|k3<|k3<|sU<|sA rfl<|sN<|qR ?_
  exact oI h▸qD
 refine WO.fj (v := rB false) (u := []) rfl rfl (fun _ => rfl) rfl rfl rfl rfl rfl (xC hx1) rfl rfl (congrArg (fun b => RV.d (.bool b)) hb2) rfl<|sM rfl<|k3<|sU<|sM rfl<|k3<|k3<|sU<|sA rfl ?_
 refine sN<|qR ?_
 exact oI h▸qD
theorem cU {a0 : Int} {a1 : Int} {a2 : Int} {r : Bool} (h : ct a0 a1 a2 = some r) : EvP prog aw ext 220 [rI a0, rI a1, rI a2] [] (rB r, []) := by
 refine Ev.body rfl Tryz.func220 rfl (by kernel_rfl)<|gS rfl rfl<|sU<|sN<|gS rfl rfl<|sM rfl<|sM rfl<|sF h (fun h => ?_) fun h => ?_
 ·refine sM rfl<|sM rfl<|sM rfl<|sV (rB (decide (a0 ≤ a2)))<|sV (rB (decide (a0 ≤ a2)))<|sA rfl<|sN<|qR ?_
  exact oI h▸qD
 refine sM rfl<|k3<|sU<|sA rfl<|sN<|qR ?_
 exact oI h▸qD
theorem ou {a0 : Int} {r : Bool} (h : eN a0 = some r) : EvP prog aw ext 227 [rI a0] [] (rB r, []) := by
 refine Ev.body rfl Tryz.func227 rfl (by kernel_rfl)<|gS rfl rfl<|sU<|sN<|gS rfl rfl<|sM rfl<|bE h fun x1 hx1 h => cD (cU hx1)<|sV (rB (!x1))<|sA rfl<|sN<|qR ?_
 exact oI h▸qD
theorem rk {a0 : (List Int)} {r : Int} (h : cO a0 = some r) : EvP prog aw ext 235 [.d (.lst (a0.map (PD.int .i64))), .d (.raw (.func (.func 227) #[] #[]))] [] (rI r, []) := by
 refine Ev.body rfl Tryz.func235 rfl (by kernel_rfl)<|gS rfl rfl<|sV (r0)<|sN<|qS<|gS rfl rfl<|sM rfl<|sE (rI (a0.length : Int)) (b8 _ _)<|sV (r0)<|sN<|bE h fun o8 ho8 h => WC.block (WC.loop (WL.cv ho8 (fun s R' B' => bg prog 0 (A R' B') (aw.at_ 235 0 2) = some (A [(0, .d (.lst (a0.map (PD.int .i64)))), (1, .d (.raw (.func (.func 227) #[] #[]))), (7, rI (a0.length : Int)), (8, rI s)] [])) (fun o e R' B' => match o with | .inl y => e = .exit 0 ∧ bg prog 0 (A R' B') (aw.at_ 235 0 7) = some (A [] []) | .inr r => e = .ret ∧ finish prog (aw.own 235) Tryz.f235 0 (A R' B') = some (rI r, [])) rfl ?_ ?_))
 ·rintro s1 R' B' q2 hI h
  refine gS rfl hI<|sF h (fun h => ?_) fun h => ?_
  ·refine sN<|qS<|cT<|qK<|qS<|qB<|gS rfl rfl<|sM rfl<|sA rfl<|sN<|gS rfl rfl<|sM rfl<|sM rfl<|sM rfl<|bE h fun x4 hx4 h => ?_
   refine eG hx4 rfl<|sC rfl<|bE h fun x5 hx5 h => cY h (fun hb6 h => ?_) (fun hb6 h => ?_)
   ·refine WO.fj (v := rB true) (u := []) rfl rfl (fun _ => rfl) rfl rfl rfl rfl rfl (ou hx5) rfl rfl (congrArg (fun b => RV.d (.bool b)) hb6) rfl<|sN<|cT<|gS rfl rfl<|sM rfl<|sA rfl<|sN<|qR ?_
    cases oI h
    exact ⟨nofun, rfl, rfl⟩
   refine WO.fj (v := rB false) (u := []) rfl rfl (fun _ => rfl) rfl rfl rfl rfl rfl (ou hx5) rfl rfl (congrArg (fun b => RV.d (.bool b)) hb6) rfl<|sN<|cF<|qK<|WC.region rfl rfl<|sV (rI (rW (s1 + (1 : Int))))<|sM rfl<|sN ?_
   cases oI h
   exact ⟨rfl, rfl⟩
  refine sN<|qS<|cF<|qX ?_
  cases oI h
  exact ⟨nofun, rfl, rfl⟩
 intro e R' B' he hq
 rcases o8 with y9 | r10
 ·obtain ⟨rfl, hI⟩ := hq
  refine qE<|gS rfl hI<|sV (rI (-1))<|sN<|qR ?_
  exact oI h▸qD
 obtain ⟨rfl, hf⟩ := hq
 cases oI h
 exact hf
theorem oJ {a0 : (List Int)} {r : Bool} (h : cq a0 = some r) : EvP prog aw ext 226 [.d (.lst (a0.map (PD.int .i64))), .d (.raw (.func (.func 227) #[] #[]))] [] (rB r, []) := by
 refine Ev.body rfl Tryz.func226 rfl (by kernel_rfl)<|gS rfl rfl<|sU<|sN<|gS rfl rfl<|sM rfl<|sM rfl<|bE h fun x1 hx1 h => cD (rk hx1)<|sV (rB (decide (x1 ≥ (0 : Int))))<|sA rfl<|sN<|qR ?_
 exact oI h▸qD
theorem ja {a0 : (List Int)} {r : Bool} (h : ce a0 = some r) : EvP prog aw ext 221 [.d (.lst (a0.map (PD.int .i64)))] [] (rB r, []) := by
 refine Ev.body rfl Tryz.func221 rfl (by kernel_rfl)<|gS rfl rfl<|sU<|sN<|gS rfl rfl<|sM rfl<|bE h fun x1 hx1 h => cD (oJ hx1)<|sV (rB (!x1))<|sA rfl<|sN<|qR ?_
 exact oI h▸qD
theorem rf {a0 : (List Int)} {r : Int} (h : dP a0 = some r) : EvP prog aw ext 222 [.d (.lst (a0.map (PD.int .i64)))] [] (rI r, []) := by
 refine Ev.body rfl Tryz.func222 rfl (by kernel_rfl)<|gS rfl rfl<|sV (r0)<|sN<|gS rfl rfl<|sV (r0)<|sN<|qS<|gS rfl rfl<|sM rfl<|sE (rI (a0.length : Int)) (b8 _ _)<|sV (r0)<|sN<|bE h fun o8 ho8 h => WC.block (WC.loop (WL.cv ho8 (fun s R' B' => bg prog 0 (A R' B') (aw.at_ 222 0 3) = some (A [(3, rI s.1), (6, .d (.lst (a0.map (PD.int .i64)))), (7, rI (a0.length : Int)), (8, rI s.2)] [])) (fun o e R' B' => e = .exit 0 ∧ bg prog 0 (A R' B') (aw.at_ 222 0 7) = some (A [(3, rI o)] [])) rfl ?_ ?_))
 ·rintro ⟨s1, s2⟩ R' B' q4 hI h
  refine gS rfl hI<|sF h (fun h => ?_) fun h => ?_
  ·refine sN<|qS<|cT<|qK<|qS<|qB<|gS rfl rfl<|bE h fun x6 hx6 h => eG hx6 rfl<|sC rfl<|sA rfl<|sN<|WC.region rfl rfl<|sM rfl<|sM rfl ?_
   refine sV (rI (rW (s1 + x6)))<|sA rfl<|sN<|WC.region rfl rfl<|sV (rI (rW (s2 + (1 : Int))))<|sM rfl<|sN ?_
   cases oI h
   exact ⟨rfl, rfl⟩
  refine sN<|qS<|cF<|qX ?_
  cases oI h
  exact ⟨nofun, rfl, rfl⟩
 intro e R' B' he hq
 obtain ⟨rfl, hI⟩ := hq
 refine qE<|gS rfl hI<|sM rfl<|sA rfl<|sN<|qR ?_
 exact oI h▸qD
end Go.Dw.De
