
import Derived.Test.YtkcfodpngpmlcaaGreatDeFn
import Derived.Test.YtkcfodpngpmlcaaGreatDwShort
import Derived.Test.YtkcfodpngpmlcaaGreatDwNest
import Derived.Test.YtkcfodpngpmlcaaGreatProg
import Derived.Test.YtkcfodpngpmlcaaGreatDwClone
import Derived.Test.YtkcfodpngpmlcaaGreatDwSort






set_option maxRecDepth 100000
set_option maxHeartbeats 4000000
namespace Go.Dw.De
open Go.Proofs Go.Proofs.Tryz Go.Dw
@[reducible] def rW (n : Int) : Int := IntKind.wrap .i64 n
@[reducible] def rI (n : Int) : RV := .d (.int .i64 n)
@[reducible] def r0 : RV := .d (.int .i64 0)
@[reducible] def rS (s : List UInt8) : RV := .d (.str s)
@[reducible] def rB (b : Bool) : RV := .d (.bool b)
@[reducible] def zZ0 : List RV := [.d (.int .i64 0), .d (.int .i64 0), .d (.int .i64 0), .d (.int .i64 0), .d (.int .i64 0), .d (.int .i64 0), .d (.int .i64 0), .nils, .nils, .d (.int .i64 0), .d (.int .i64 0), .d (.int .i64 0), .d (.int .i64 0), .d (.int .i64 0), .d (.int .i64 0), .nils, .nils, .d (.int .i64 0), .d (.int .i64 0), .d (.int .i64 0)]
@[reducible] def zZ1 : List RV := [.d (.str []), .d (.str []), .d (.str []), .d (.str []), .d (.int .i64 0), .d (.int .i64 0), .d (.int .i64 0), .d (.int .i64 0), .d (.int .i64 0)]
@[reducible] def zZ2 : List RV := [.d (.int .i64 0), .d (.int .i64 0), .d (.int .i64 0), .d (.int .i64 0), .d (.int .i64 0), .d (.int .i64 0), .d (.int .i64 0), .nils]
@[reducible] def zZ3 : List RV := [.d (.str []), .d (.str []), .d (.str []), .d (.str []), .nils]
@[reducible] def aG.rc (x : aG) : List RV := [.d (.int .i64 x.au.aS.a8.fX), .d (.int .i64 x.au.aS.a8.fY), .d (.int .i64 x.au.aS.a8.fZ), .d (.int .i64 x.au.aS.aU.fX), .d (.int .i64 x.au.aS.aU.fY), .d (.int .i64 x.au.aS.aU.fZ), .d (.int .i64 x.au.bv.bt), .d (.lst (x.au.bv.a8.map (PD.int .i64))), .d (.lst (x.au.bv.aU.map (PD.int .i64))), .d (.int .i64 x.au.vw), .d (.int .i64 x.au.br), .d (.int .i64 x.au.jJ), .d (.int .i64 x.au.kj), .d (.int .i64 x.au.kg), .d (.int .i64 x.bR.aZ.bt), .d (.lst (x.bR.aZ.a8.map (PD.int .i64))), .d (.lst (x.bR.aZ.aU.map (PD.int .i64))), .d (.int .i64 x.bR.aX), .d (.int .i64 x.bR.aP), .d (.int .i64 x.br)]
@[reducible] def aa.rc (x : aa) : List RV := [.d (.str x.al.aB), .d (.str x.al.aA), .d (.str x.al.aw), .d (.str x.al.aC), .d (.int .i64 x.aN), .d (.int .i64 x.aH), .d (.int .i64 x.aY), .d (.int .i64 x.aI), .d (.int .i64 x.aJ)]
@[reducible] def ai.rc (x : ai) : List RV := [.d (.int .i64 x.aM), .d (.int .i64 x.fTo), .d (.int .i64 x.bP.aX), .d (.int .i64 x.bP.aP), .d (.int .i64 x.aF.fX), .d (.int .i64 x.aF.fY), .d (.int .i64 x.aF.fZ), .d (.lst (x.aW.aO.map ar.pd))]
@[reducible] def aL.rc (x : aL) : List RV := [.d (.int .i64 x.a8.fX), .d (.int .i64 x.a8.fY), .d (.int .i64 x.a8.fZ), .d (.int .i64 x.aU.fX), .d (.int .i64 x.aU.fY), .d (.int .i64 x.aU.fZ)]
@[reducible] def ac.rc (x : ac) : List RV := [.d (.str x.al.aB), .d (.str x.al.aA), .d (.str x.al.aw), .d (.str x.al.aC), .d (.lst (x.aQ.map ai.pd))]
@[reducible] def ar.rc (x : ar) : List RV := [.d (.int .i64 x.b9), .d (.int .i64 x.aX.a0), .d (.int .i64 x.aX.a1), .d (.int .i64 x.aX.a2), .d (.int .i64 x.aP.a0), .d (.int .i64 x.aP.a1), .d (.int .i64 x.aP.a2), .d (.lst (x.bu.map (PD.int .i64))), .d (.int .i64 x.bg), .d (.int .i64 x.bC)]
@[reducible] def az.rc (x : az) : List RV := [.d (.str x.al.aB), .d (.str x.al.aA), .d (.str x.al.aw), .d (.str x.al.aC), .d (.lst (x.eP.map aj.pd))]
@[reducible] def bd.rc (x : bd) : List RV := [.d (.int .i64 x.aS.a8.fX), .d (.int .i64 x.aS.a8.fY), .d (.int .i64 x.aS.a8.fZ), .d (.int .i64 x.aS.aU.fX), .d (.int .i64 x.aS.aU.fY), .d (.int .i64 x.aS.aU.fZ), .d (.int .i64 x.bv.bt), .d (.lst (x.bv.a8.map (PD.int .i64))), .d (.lst (x.bv.aU.map (PD.int .i64))), .d (.int .i64 x.vw), .d (.int .i64 x.br), .d (.int .i64 x.jJ), .d (.int .i64 x.kj), .d (.int .i64 x.kg)]
@[reducible] def ak.rc (x : ak) : List RV := [.d (.int .i64 x.aA.fX), .d (.int .i64 x.aA.fY), .d (.int .i64 x.aA.fZ), .d (.int .i64 x.aH), .d (.int .i64 x.aY), .d (.int .i64 x.jh)]
@[reducible] def cu.rc (x : cu) : List RV := [.d (.int .i64 x.aZ.bt), .d (.lst (x.aZ.a8.map (PD.int .i64))), .d (.lst (x.aZ.aU.map (PD.int .i64))), .d (.int .i64 x.aX), .d (.int .i64 x.aP)]
def hintAt : FuncId → Nat → Nat → List Ghost := fun f nb id =>
  if f = 3 then (if nb = 0 then (if id = 9 then [.own 8 1312 52, .keep [4, 5, 6, 8, 35, 36] [1312]] else if id = 14 then [.keep [4, 5, 6, 8, 9, 10, 35, 36] [1312]] else if id = 15 then [.keep [4, 5, 6, 8, 9, 10, 35, 36] [1312]] else if id = 17 then [.keep [4, 5, 6, 8, 9, 10, 35, 36, 53, 54, 55] [1312]] else if id = 20 then [.keep [4, 5, 6, 8, 9, 10, 12, 35, 36, 53, 54, 55, 62, 63, 64] [192, 1312]] else if id = 25 then [.keep [4, 5, 6, 8, 9, 10, 35, 36, 53, 54, 55] [1312]] else if id = 26 then [.keep [4, 5, 6, 8, 9, 35, 36] [1312]] else if id = 28 then [.keep [4, 8] [1312]] else []) else []) else if f = 4 then (if nb = 0 then (if id = 11 then [.frz (.reg 17), .keep [0, 1, 2, 8, 11, 13, 14, 15, 16, 17] [128, 208, 256, 832]] else if id = 12 then [.keep [1, 2, 8, 13, 14, 15, 16, 17, 91, 92, 93] [128, 208, 256]] else if id = 15 then [.keep [1, 2, 8, 13, 14, 15, 16, 17, 19, 91, 92, 93, 100, 101, 102] [128, 208, 256]] else if id = 22 then [.keep [1, 2, 8, 13, 14, 15, 16, 17, 19, 21, 22, 24, 91, 92, 93, 100, 101, 102, 137, 138] [128, 208, 256]] else if id = 27 then [.keep [1, 2, 8, 13, 14, 15, 16, 17, 19, 21, 91, 92, 93, 100, 101, 102] [128, 208, 256]] else if id = 28 then [.keep [1, 2, 8, 13, 14, 15, 16, 17, 19, 21, 91, 92, 93, 100, 101, 102, 154, 155, 156] [128, 208, 256]] else if id = 31 then [.keep [1, 2, 8, 13, 14, 15, 16, 17, 19, 21, 28, 91, 92, 93, 100, 101, 102, 154, 155, 156, 162, 163, 164] [128, 208, 256]] else if id = 38 then [.keep [1, 2, 8, 13, 14, 15, 16, 17, 19, 21, 91, 92, 93, 100, 101, 102, 154, 155, 156] [128, 208, 256]] else if id = 39 then [.keep [1, 2, 8, 13, 14, 15, 16, 17, 19, 21, 91, 92, 93, 100, 101, 102] [128, 208, 256]] else if id = 40 then [.keep [1, 2, 8, 13, 14, 15, 16, 17, 19, 91, 92, 93, 100, 101, 102, 197, 198, 199] [128, 208, 256]] else if id = 45 then [.keep [1, 2, 8, 13, 14, 15, 16, 17, 19, 91, 92, 93, 100, 101, 102] [128, 208, 256]] else if id = 46 then [.keep [1, 2, 8, 13, 14, 15, 16, 17, 91, 92, 93] [128, 208, 256]] else if id = 47 then [.keep [] []] else []) else []) else if f = 5 then (if nb = 0 then (if id = 13 then [.keep [5, 6, 9, 12, 14, 86, 87] [80, 144]] else if id = 17 then [.keep [5, 6, 9, 12, 14, 16, 17, 86, 87, 93, 94, 95] [80, 144]] else if id = 21 then [.keep [5, 6, 9, 12, 14, 16, 17, 19, 20, 86, 87, 93, 94, 95, 99, 100, 101] [80, 144, 304]] else if id = 25 then [.keep [5, 6, 9, 12, 14, 16, 17, 19, 20, 86, 87, 93, 94, 95] [80, 144, 304]] else if id = 27 then [.keep [5, 6, 9, 12, 14, 16, 17, 86, 87] [80, 144]] else if id = 30 then [.keep [] []] else []) else []) else if f = 6 then (if nb = 0 then (if id = 8 then [.keep [5, 6, 7, 8, 9, 35, 36, 37] [80, 112]] else if id = 11 then [.keep [5, 6, 7, 8, 9, 11, 35, 36, 37, 42, 43, 44] [80, 112, 176]] else if id = 15 then [.keep [5, 6, 7, 8, 9, 35, 36, 37] [80, 112]] else if id = 16 then [.keep [5, 6, 7, 8, 9] [80, 112]] else if id = 18 then [.keep [5, 7, 8, 9, 14, 61, 62, 63] [80, 112]] else if id = 25 then [.keep [9, 14] []] else []) else []) else if f = 7 then (if nb = 0 then (if id = 9 then [.keep [7, 52, 53, 54] []] else if id = 13 then [.keep [7, 12, 13, 52, 53, 54, 58, 59, 60] []] else if id = 17 then [.keep [7, 12, 13, 15, 16, 52, 53, 54, 58, 59, 60, 64, 65, 66] []] else if id = 20 then [.keep [7, 12, 13, 15, 16, 18, 52, 53, 54, 58, 59, 60, 64, 65, 66, 70, 71, 72] [288]] else if id = 25 then [.keep [7, 12, 13, 15, 16, 52, 53, 54, 58, 59, 60, 64, 65, 66] []] else if id = 26 then [.keep [7, 12, 13, 16, 52, 53, 54, 58, 59, 60] []] else if id = 28 then [.keep [7, 12, 13, 52, 53, 54] []] else if id = 31 then [.keep [] []] else []) else []) else if f = 9 then (if nb = 1 then (if id = 4 then [.own 9 2192 52, .keep [0, 5, 6, 9, 10, 11, 12] [0, 80, 96, 160, 2192]] else if id = 12 then [.keep [0, 5, 6, 9, 10, 11, 12, 13, 14, 16] [0, 80, 96, 160, 208, 224, 2192]] else if id = 14 then [.keep [0, 5, 6, 9, 10, 11, 12, 13, 16] [0, 80, 96, 160, 208, 2192]] else if id = 18 then [.keep [0, 5, 6, 9, 10, 11, 12, 13] [0, 80, 96, 160, 208, 2192]] else if id = 21 then [.keep [9] [0, 2192]] else []) else []) else if f = 11 then (if nb = 1 then (if id = 3 then [.ownp (.cell 80 0) 1104 99, .keep [0, 1, 4, 5, 6] [0, 64, 80, 1104]] else if id = 16 then [.keep [4, 5] [0, 64, 80, 1104]] else []) else []) else if f = 14 then (if nb = 0 then (if id = 3 then [.own 3 816 52, .keep [0, 3, 4] [816]] else if id = 6 then [.keep [0, 3, 4, 5] [816]] else if id = 8 then [.keep [0, 3, 4, 5] [816]] else if id = 9 then [.keep [0, 3, 4, 5] [816]] else if id = 12 then [.keep [3] [816]] else []) else []) else if f = 15 then (if nb = 0 then (if id = 4 then [.keep [0, 1, 5] []] else if id = 8 then [.keep [] []] else []) else []) else if f = 17 then (if nb = 0 then (if id = 2 then [.keep [1, 7, 8] [16]] else if id = 7 then [.keep [1, 3, 7, 8, 25, 26] [16]] else if id = 12 then [.keep [1, 7, 8] [16]] else if id = 13 then [.keep [1] [16]] else []) else []) else if f = 18 then (if nb = 1 then (if id = 3 then [.own 7 368 52, .keep [0, 1, 2, 7, 10, 11] [0, 368]] else if id = 8 then [.keep [0, 2, 7] [0, 368]] else []) else []) else if f = 19 then (if nb = 1 then (if id = 3 then [.ownp (.cell 80 0) 1536 99, .keep [0, 4, 5, 10, 11, 12] [0, 64, 80, 1536]] else if id = 20 then [.keep [4, 5] [0, 64, 80, 1536]] else []) else []) else if f = 21 then (if nb = 0 then (if id = 8 then [.give 768, .ownn (.reg 6) 768 25 52, .keep [0, 6, 7, 8] [768]] else if id = 11 then [.give 768, .ownn (.reg 6) 768 25 52, .keep [0, 6, 7, 8] [768]] else if id = 12 then [.lend 768 none 928] else if id = 13 then [.give 768, .keep [6] [768]] else if id = 14 then [.give 768, .keep [6, 9] [768]] else if id = 16 then [.lend 768 (some 9) 1232] else if id = 17 then [.give 768, .frzn (.reg 6), .keep [6] []] else []) else []) else if f = 22 then (if nb = 0 then (if id = 4 then [.keep [0, 1, 5] []] else if id = 5 then [.keep [0, 1, 5] []] else if id = 9 then [.keep [0, 1, 5, 6] []] else if id = 13 then [.keep [] []] else []) else []) else if f = 23 then (if nb = 0 then (if id = 4 then [.own 4 384 50, .keep [3, 4, 11, 12, 13] [160, 384]] else if id = 10 then [.keep [3, 4] [160, 384]] else if id = 12 then [.frzm 160, .own 7 880 74, .keep [3, 7, 41, 42, 43] [160, 880]] else if id = 14 then [.frzm 160, .keep [3, 7, 9, 41, 42, 43] [144, 160, 880]] else if id = 16 then [.keep [7] [880]] else []) else []) else if f = 24 then (if nb = 0 then (if id = 3 then [.own 3 480 50, .keep [0, 3, 4] [480]] else if id = 7 then [.keep [0, 3] [480]] else if id = 9 then [.own 5 1824 74, .keep [0, 5, 32, 33, 34] [1824]] else if id = 13 then [.ownp (.cell 128 4) 1088 76, .keep [0, 5, 7, 8, 32, 33, 34, 41, 42, 43] [112, 128, 656, 1088, 1824]] else if id = 22 then [.keep [0, 5, 8, 32, 33, 34] [128, 1088, 1824]] else if id = 24 then [.keep [5] [1824]] else []) else []) else if f = 25 then (if nb = 0 then (if id = 8 then [.keep [0, 2, 8, 9, 12, 13, 53, 54, 55] [128, 144, 208, 832]] else if id = 11 then [.keep [0, 2, 8, 9, 12, 13, 14, 53, 54, 55, 60, 61, 62] [128, 144, 208, 832]] else if id = 15 then [.keep [0, 2, 8, 9, 12, 13, 53, 54, 55] [128, 144, 208, 832]] else if id = 16 then [.keep [0, 2, 8, 9, 12, 13] [128, 144, 208, 832]] else if id = 18 then [.own 18 1728 3, .keep [8, 9, 12, 13, 18, 74, 75, 76] [128, 144, 208, 832, 1728]] else if id = 25 then [.keep [18] [1728]] else []) else []) else if f = 26 then (if nb = 0 then (if id = 9 then [.own 16 1056 3, .keep [8, 9, 12, 14, 16, 17] [128, 144, 1056]] else if id = 13 then [.keep [16] [1056]] else []) else []) else if f = 27 then (if nb = 0 then (if id = 4 then [.keep [0, 1, 12, 13] []] else if id = 9 then [.keep [] []] else []) else []) else if f = 30 then (if nb = 0 then (if id = 2 then [.keep [0, 1, 7, 8] []] else if id = 7 then [.keep [] []] else []) else []) else if f = 31 then (if nb = 0 then (if id = 5 then [.own 5 624 50, .keep [2, 3, 5, 29, 30, 31] [32, 48, 624]] else if id = 9 then [.keep [2, 3, 5] [32, 48, 624]] else if id = 11 then [.own 8 1168 74, .keep [2, 3, 8, 42, 43, 44] [32, 48, 1168]] else if id = 19 then [.keep [8] [1168]] else []) else []) else if f = 33 then (if nb = 0 then (if id = 7 then [.give 848, .ownn (.reg 11) 848 25 52, .keep [3, 8, 9, 11, 12, 29, 30, 31] [48, 848]] else if id = 10 then [.give 848, .ownn (.reg 11) 848 25 52, .keep [3, 8, 9, 11, 14, 29, 30, 31] [48, 848]] else if id = 12 then [.lend 848 none 1088] else if id = 14 then [.give 848, .keep [11] [848]] else if id = 15 then [.give 848, .keep [11, 77, 78, 79] [848]] else if id = 16 then [.lend 848 (some 79) 1312] else if id = 19 then [.give 848, .frzn (.reg 11), .keep [11] []] else []) else []) else if f = 37 then (if nb = 0 then (if id = 2 then [.keep [2, 4, 6, 13, 14, 15] [64, 96]] else if id = 5 then [.keep [2, 4, 6, 9, 13, 14, 15, 20, 21, 22] [64, 96, 144]] else if id = 10 then [.keep [2, 4, 6, 13, 14, 15] [64, 96]] else if id = 11 then [.keep [6] [96]] else []) else []) else if f = 40 then (if nb = 1 then (if id = 3 then [.keep [2, 3, 16, 17] [0, 32, 48, 96, 97]] else if id = 7 then [.keep [2, 3] [0, 32, 48, 96, 97]] else []) else []) else if f = 42 then (if nb = 1 then (if id = 3 then [.ownp (.cell 48 0) 1040 137, .keep [0, 2, 3, 4] [0, 32, 48, 1040]] else if id = 13 then [.keep [2, 3] [0, 32, 48, 1040]] else []) else []) else if f = 44 then (if nb = 0 then (if id = 5 then [.give 624, .ownn (.reg 6) 624 25 52, .keep [0, 5, 6, 15, 16, 17] [192, 624]] else if id = 8 then [.give 624, .ownn (.reg 6) 624 25 52, .keep [0, 5, 6, 8, 15, 16, 17] [128, 192, 624]] else if id = 9 then [.lend 624 none 784] else if id = 11 then [.give 624, .keep [6] [624]] else if id = 12 then [.give 624, .keep [6, 55, 56, 57] [624]] else if id = 13 then [.lend 624 (some 57) 960] else if id = 16 then [.give 624, .frzn (.reg 6), .keep [6] []] else []) else []) else if f = 45 then (if nb = 0 then (if id = 5 then [.keep [41, 42] []] else []) else []) else if f = 47 then (if nb = 0 then (if id = 2 then [.keep [1, 6, 7] [16]] else if id = 7 then [.keep [1] [16]] else []) else []) else if f = 48 then (if nb = 0 then (if id = 2 then [.keep [0, 3] []] else if id = 6 then [.keep [] []] else []) else []) else if f = 49 then (if nb = 0 then (if id = 3 then [.own 3 544 52, .keep [0, 3, 4] [544]] else if id = 6 then [.keep [0, 3, 4, 5] [544]] else if id = 8 then [.keep [0, 3, 4, 5] [544]] else if id = 11 then [.keep [3] [544]] else []) else []) else if f = 52 then (if nb = 0 then (if id = 5 then [.own 4 816 76, .keep [4, 13, 14, 15] [144, 816]] else if id = 12 then [.keep [4] [816]] else []) else []) else if f = 54 then (if nb = 0 then (if id = 3 then [.own 3 816 50, .keep [0, 3, 4] [816]] else if id = 6 then [.keep [0, 3, 4, 5] [816]] else if id = 8 then [.keep [0, 3, 4, 5] [816]] else if id = 9 then [.keep [0, 3, 4, 5] [816]] else if id = 12 then [.keep [3] [816]] else []) else []) else if f = 55 then (if nb = 0 then (if id = 2 then [.keep [1, 6, 7, 8] [16]] else if id = 7 then [.keep [1] [16]] else []) else []) else if f = 58 then (if nb = 0 then (if id = 2 then [.keep [1, 3] [16]] else if id = 3 then [.keep [1, 3] [16]] else if id = 7 then [.keep [1, 3, 4] [16, 64]] else if id = 8 then [.keep [1, 3, 4, 5] [16, 64]] else if id = 12 then [.keep [1] [16]] else []) else []) else if f = 59 then (if nb = 0 then (if id = 2 then [.keep [0, 1, 6, 7, 9] [96, 112]] else if id = 6 then [.keep [0, 1] []] else if id = 7 then [.keep [0, 1, 10] []] else if id = 11 then [.keep [] []] else []) else []) else if f = 62 then (if nb = 0 then (if id = 5 then [.keep [2, 6, 8, 10] [96, 128]] else if id = 9 then [.keep [6] [96]] else []) else []) else if f = 63 then (if nb = 0 then (if id = 4 then [.keep [2, 3, 5] [32, 48]] else if id = 8 then [.keep [] []] else []) else []) else if f = 64 then (if nb = 0 then (if id = 3 then [.keep [0, 3, 9, 10, 11] []] else if id = 9 then [.keep [0, 3] []] else if id = 11 then [.keep [6, 25, 26, 27] [384]] else if id = 15 then [.keep [6] [384]] else []) else []) else if f = 65 then (if nb = 0 then (if id = 2 then [.keep [3, 4, 9, 10, 11] [48, 64]] else if id = 7 then [.keep [4] [64]] else []) else []) else if f = 66 then (if nb = 0 then (if id = 3 then [.own 5 464 76, .keep [0, 1, 5, 6, 16, 17, 18] [464]] else if id = 7 then [.keep [0, 1, 5, 6] [464]] else if id = 8 then [.own 6 944 76, .keep [1, 5, 6, 31, 32, 33] [464, 944]] else if id = 11 then [.keep [1, 5, 6, 10, 31, 32, 33, 37, 38, 39] [160, 464, 944]] else if id = 16 then [.keep [1, 5, 6, 31, 32, 33] [464, 944]] else if id = 17 then [.keep [5, 6] [464, 944]] else []) else []) else if f = 70 then (if nb = 0 then (if id = 8 then [.own 9 656 52, .own 10 720 128, .keep [3, 4, 9, 10, 24, 25, 26] [48, 64, 384, 656, 720]] else if id = 14 then [.keep [9, 10] [656, 720]] else []) else []) else if f = 71 then (if nb = 0 then (if id = 3 then [.keep [1, 3, 9, 10] [16, 112]] else if id = 7 then [.keep [1, 3] [16, 112]] else []) else []) else if f = 78 then (if nb = 1 then (if id = 4 then [.ownp (.cell 48 1) 432 3, .ownp (.cell 48 2) 512 3, .keep [0, 2, 3, 4, 5, 6] [0, 32, 48, 432, 512]] else if id = 9 then [.keep [2, 3] [0, 32, 48, 432, 512]] else []) else []) else if f = 90 then (if nb = 1 then (if id = 4 then [.keep [0, 3] [0]] else if id = 9 then [.keep [0, 3, 4, 5] [0]] else if id = 14 then [.keep [0, 3] [0]] else if id = 16 then [.keep [0] [0]] else []) else []) else if f = 91 then (if nb = 1 then (if id = 3 then [.bumpp (.reg 0), .keep [0] [0]] else if id = 5 then [.keep [0, 1, 5, 6] [0]] else if id = 11 then [.keep [0, 5] [0]] else []) else []) else if f = 99 then (if nb = 0 then (if id = 2 then [.keep [0, 5, 6, 7] []] else if id = 7 then [.keep [0] []] else []) else []) else if f = 100 then (if nb = 0 then (if id = 2 then [.keep [0, 1, 7, 8] []] else if id = 7 then [.keep [] []] else []) else if nb = 5 then (if id = 2 then [.keep [0, 1, 7, 8] [0, 1, 2, 3, 4]] else if id = 7 then [.keep [] [0, 1, 2, 3, 4]] else []) else []) else if f = 102 then (if nb = 0 then (if id = 2 then [.keep [1, 4, 9, 10, 11] [64]] else if id = 7 then [.keep [4] [64]] else []) else []) else if f = 103 then (if nb = 0 then (if id = 4 then [.keep [1, 2, 15, 16, 17] []] else if id = 10 then [.keep [] []] else []) else []) else if f = 105 then (if nb = 0 then (if id = 4 then [.keep [0, 1, 12, 13] []] else if id = 9 then [.keep [] []] else []) else []) else if f = 106 then (if nb = 0 then (if id = 2 then [.keep [2, 3, 4, 6] [32, 48, 64]] else if id = 6 then [.keep [4] [64]] else []) else []) else if f = 107 then (if nb = 0 then (if id = 4 then [.keep [2, 3, 5] [32, 48]] else if id = 8 then [.keep [] []] else []) else []) else if f = 108 then (if nb = 0 then (if id = 6 then [.own 0 80000 99, .mv (.reg 0) 90097, .keep [0] [90097]] else []) else []) else if f = 109 then (if nb = 0 then (if id = 3 then [.keep [1, 2, 10, 11, 12] [16, 32, 112]] else if id = 7 then [.keep [1, 2] [16, 32, 112]] else []) else []) else if f = 110 then (if nb = 0 then (if id = 3 then [.keep [0, 3, 9, 10, 11] []] else if id = 9 then [.keep [0, 3] []] else if id = 11 then [.keep [6, 25, 26, 27] [384]] else if id = 15 then [.keep [6] [384]] else []) else []) else if f = 112 then (if nb = 0 then (if id = 4 then [.own 5 784 76, .keep [1, 5, 14, 15, 16] [784]] else if id = 8 then [.keep [1, 5, 7, 8, 14, 15, 16, 22, 23, 24] [112, 784]] else if id = 15 then [.keep [1, 5, 7, 8, 14, 15, 16] [112, 784]] else if id = 18 then [.keep [5] [784]] else []) else []) else if f = 113 then (if nb = 3 then (if id = 2 then [.keep [0, 1, 7, 8] [0, 1, 2]] else if id = 7 then [.keep [] [0, 1, 2]] else []) else []) else if f = 114 then (if nb = 0 then (if id = 4 then [.own 5 816 76, .keep [0, 1, 5, 6, 7] [816]] else if id = 8 then [.keep [0, 1, 5, 6, 7] [816]] else if id = 11 then [.keep [5] [816]] else []) else []) else if f = 122 then (if nb = 0 then (if id = 3 then [.keep [3, 6, 7, 8] []] else if id = 8 then [.keep [3] []] else []) else []) else if f = 124 then (if nb = 1 then (if id = 2 then [.bumpp (.reg 0), .keep [0] [0]] else if id = 4 then [.keep [0, 3] [0]] else if id = 9 then [.keep [0, 3, 4, 5] [0]] else if id = 14 then [.keep [0, 3] [0]] else if id = 16 then [.bumpp (.reg 0), .keep [0] [0]] else []) else []) else if f = 125 then (if nb = 1 then (if id = 2 then [.keep [0, 1, 2, 6, 7, 8] [0]] else if id = 6 then [.keep [0, 1, 2, 6, 7] [0]] else if id = 7 then [.keep [0, 1, 2, 6] [0]] else if id = 9 then [.keep [0, 1, 2, 6, 7, 8] [0]] else if id = 13 then [.keep [0, 1, 2, 6, 7] [0]] else []) else []) else if f = 128 then (if nb = 0 then (if id = 2 then [.keep [0, 1, 2, 9, 10] []] else if id = 7 then [.keep [0, 1, 2] []] else []) else []) else if f = 131 then (if nb = 1 then (if id = 2 then [.keep [0, 1, 7, 8] [0]] else if id = 7 then [.keep [] [0]] else []) else []) else if f = 133 then (if nb = 0 then (if id = 2 then [.keep [0, 1, 2, 7] []] else if id = 6 then [.keep [0, 1, 2] []] else []) else []) else if f = 137 then (if nb = 0 then (if id = 3 then [.keep [1, 3, 4] [16]] else if id = 11 then [.keep [1] [16]] else []) else []) else if f = 138 then (if nb = 0 then (if id = 3 then [.ownp (.cell 48 0) 816 99, .keep [1, 2, 3, 4] [16, 32, 48, 816]] else if id = 7 then [.ownp (.cell 80 4) 720 96, .keep [1, 2, 3, 4, 5, 6] [16, 32, 48, 80, 720, 816]] else if id = 10 then [.keep [1, 2, 3, 4, 5] [16, 32, 48, 80, 720, 816]] else if id = 11 then [.keep [2, 3] [32, 48, 816]] else []) else []) else if f = 140 then (if nb = 0 then (if id = 3 then [.keep [1, 2, 13, 14] [16, 32, 112]] else if id = 7 then [.keep [1, 2] [16, 32, 112]] else []) else []) else if f = 141 then (if nb = 0 then (if id = 6 then [.own 0 80000 96, .mv (.reg 0) 90097, .keep [0] [90097]] else []) else []) else if f = 142 then (if nb = 0 then (if id = 6 then [.keep [2, 52, 53, 54] [32]] else if id = 12 then [.keep [] []] else []) else []) else if f = 145 then (if nb = 2 then (if id = 2 then [.keep [0, 1, 2, 6, 7, 8] [0, 1]] else if id = 6 then [.keep [0, 1, 2, 6, 7] [0, 1]] else if id = 7 then [.keep [0, 1, 2, 6] [0, 1]] else if id = 9 then [.keep [0, 1, 2, 6, 7, 8] [0, 1]] else if id = 13 then [.keep [0, 1, 2, 6, 7] [0, 1]] else []) else []) else if f = 147 then (if nb = 1 then (if id = 1 then [.keep [0, 1, 2, 3, 8] [0]] else if id = 2 then [.keep [0, 1, 2, 3, 8] [0]] else if id = 4 then [.keep [0, 1, 2, 3, 8, 9] [0]] else []) else []) else if f = 156 then (if nb = 0 then (if id = 4 then [.keep [0, 2] []] else if id = 7 then [.keep [0, 2] []] else []) else []) else if f = 157 then (if nb = 1 then (if id = 3 then [.keep [0, 1, 4, 10, 11] [0]] else if id = 8 then [.keep [0, 1, 10] [0]] else if id = 9 then [.keep [0, 10, 13] [0]] else if id = 15 then [.keep [0, 2, 4, 14, 15] [0]] else if id = 20 then [.keep [0, 2, 14] [0]] else if id = 21 then [.keep [0, 14, 17] [0]] else if id = 32 then [.keep [0, 1, 2, 3, 4, 18, 19, 20, 21] [0]] else if id = 33 then [.keep [0, 1, 2, 3, 4, 18, 19, 20, 21, 22] [0]] else if id = 38 then [.keep [0, 1, 2, 3, 4, 18, 19, 20] [0]] else if id = 41 then [.keep [0, 1, 3, 4, 18, 20, 24] [0]] else if id = 43 then [.keep [0, 3, 4, 18, 24] [0]] else []) else []) else if f = 178 then (if nb = 0 then (if id = 1 then [.keep [0, 1] []] else if id = 3 then [.keep [0] []] else []) else []) else if f = 179 then (if nb = 0 then (if id = 6 then [.fixv 16, .keep [1, 3] []] else []) else []) else if f = 184 then (if nb = 0 then (if id = 6 then [.keep [1, 4, 5, 33, 34] [16]] else if id = 12 then [.keep [] []] else []) else []) else if f = 187 then (if nb = 2 then (if id = 1 then [.keep [0, 1, 2, 3, 8] [0, 1]] else if id = 2 then [.keep [0, 1, 2, 3, 8] [0, 1]] else if id = 4 then [.keep [0, 1, 2, 3, 8, 9] [0, 1]] else []) else []) else if f = 188 then (if nb = 2 then (if id = 3 then [.keep [0, 1, 4, 10, 11] [0, 1]] else if id = 8 then [.keep [0, 1, 10] [0, 1]] else if id = 9 then [.keep [0, 10, 13] [0, 1]] else if id = 15 then [.keep [0, 2, 4, 14, 15] [0, 1]] else if id = 20 then [.keep [0, 2, 14] [0, 1]] else if id = 21 then [.keep [0, 14, 17] [0, 1]] else if id = 32 then [.keep [0, 1, 2, 3, 4, 18, 19, 20, 21] [0, 1]] else if id = 33 then [.keep [0, 1, 2, 3, 4, 18, 19, 20, 21, 22] [0, 1]] else if id = 38 then [.keep [0, 1, 2, 3, 4, 18, 19, 20] [0, 1]] else if id = 41 then [.keep [0, 1, 3, 4, 18, 20, 24] [0, 1]] else if id = 43 then [.keep [0, 3, 4, 18, 24] [0, 1]] else []) else []) else if f = 194 then (if nb = 1 then (if id = 2 then [.keep [0, 2, 4, 10, 11] [0]] else if id = 8 then [.keep [0, 2, 4, 10] [0]] else []) else []) else if f = 202 then (if nb = 0 then (if id = 1 then [.keep [0, 1] []] else if id = 3 then [.keep [0] []] else []) else []) else if f = 205 then (if nb = 0 then (if id = 6 then [.fixv 16, .keep [1, 3] []] else []) else []) else if f = 206 then (if nb = 0 then (if id = 3 then [.keep [3, 6, 7, 8] []] else if id = 10 then [.keep [3] []] else []) else []) else if f = 207 then (if nb = 0 then (if id = 2 then [.keep [0, 3] []] else if id = 6 then [.keep [] []] else []) else []) else if f = 208 then (if nb = 0 then (if id = 3 then [.keep [0, 3, 4] []] else if id = 6 then [.keep [3] []] else []) else []) else if f = 209 then (if nb = 0 then (if id = 3 then [.ownp (.cell 48 0) 416 137, .keep [1, 2, 3, 4] [16, 32, 48, 416]] else if id = 8 then [.keep [2, 3] [32, 48, 416]] else []) else []) else if f = 214 then (if nb = 2 then (if id = 2 then [.keep [0, 2, 4, 10, 11] [0, 1]] else if id = 8 then [.keep [0, 2, 4, 10] [0, 1]] else []) else []) else if f = 216 then (if nb = 1 then (if id = 1 then [.keep [0, 1, 2, 3, 10] [0]] else []) else []) else if f = 219 then (if nb = 0 then (if id = 2 then [.keep [0, 1, 7, 8] []] else if id = 7 then [.keep [] []] else []) else []) else if f = 222 then (if nb = 0 then (if id = 3 then [.keep [3, 6, 7, 8] []] else if id = 7 then [.keep [3] []] else []) else []) else if f = 225 then (if nb = 2 then (if id = 1 then [.keep [0, 1, 2, 3, 10] [0, 1]] else []) else []) else if f = 230 then (if nb = 2 then (if id = 2 then [.keep [1, 5, 6] [0, 1]] else if id = 7 then [.keep [5] [0, 1]] else []) else []) else if f = 232 then (if nb = 0 then (if id = 5 then [.keep [0, 3, 4] []] else if id = 10 then [.keep [3] []] else []) else []) else if f = 235 then (if nb = 0 then (if id = 2 then [.keep [0, 1, 7, 8] []] else if id = 7 then [.keep [] []] else []) else []) else if f = 236 then (if nb = 0 then (if id = 5 then [.keep [2, 7, 8, 9, 28, 29] [128, 144]] else []) else []) else []
def av : Hints := { at_ := hintAt, mt := fun f i => (f == 4 && i == 71) || (f == 11 && i == 28) || (f == 19 && i == 16) || (f == 21 && i == 47) || (f == 23 && i == 10) || (f == 33 && i == 52) || (f == 44 && i == 38) || (f == 91 && i == 41) || (f == 108 && i == 25) || (f == 124 && i == 59) || (f == 141 && i == 25), by_ := fun f i => (f == 72 && i == 0) || (f == 81 && i == 0) || (f == 88 && i == 0) || (f == 90 && i == 0) || (f == 91 && i == 0) || (f == 95 && i == 0) || (f == 108 && i == 0) || (f == 117 && i == 0) || (f == 124 && i == 0) || (f == 125 && i == 0) || (f == 131 && i == 0) || (f == 141 && i == 0) || (f == 145 && i == 0) || (f == 147 && i == 0) || (f == 157 && i == 0) || (f == 187 && i == 0) || (f == 188 && i == 0) || (f == 194 && i == 0) || (f == 214 && i == 0) || (f == 216 && i == 0) || (f == 225 && i == 0), own := fun f i => (f == 14 && i == 0) || (f == 78 && i == 0) || (f == 80 && i == 0) || (f == 87 && i == 0) || (f == 91 && i == 0) || (f == 92 && i == 0) || (f == 108 && i == 0) || (f == 123 && i == 0) || (f == 124 && i == 0) || (f == 139 && i == 0) || (f == 141 && i == 0) || (f == 181 && i == 0) || (f == 182 && i == 0) }
theorem sW (a b : ag) : binT prog .eql 50 (.d a.pd) (.d b.pd) = some (.bool ((a.aB == b.aB) && ((a.aA == b.aA) && ((a.aw == b.aw) && ((a.aC == b.aC) && true)))), true) := by kernel_rfl
theorem eqN_50 (a b : ag) : binT prog .neq 50 (.d a.pd) (.d b.pd) = some (.bool (!((a.aB == b.aB) && ((a.aA == b.aA) && ((a.aw == b.aw) && ((a.aC == b.aC) && true))))), true) := by kernel_rfl
theorem yh (a b : aa) : binT prog .eql 52 (.d a.pd) (.d b.pd) = some (.bool (((a.al.aB == b.al.aB) && ((a.al.aA == b.al.aA) && ((a.al.aw == b.al.aw) && ((a.al.aC == b.al.aC) && true)))) && ((a.aN == b.aN) && ((a.aH == b.aH) && ((a.aY == b.aY) && ((a.aI == b.aI) && ((a.aJ == b.aJ) && true)))))), true) := by kernel_rfl
theorem eqN_52 (a b : aa) : binT prog .neq 52 (.d a.pd) (.d b.pd) = some (.bool (!(((a.al.aB == b.al.aB) && ((a.al.aA == b.al.aA) && ((a.al.aw == b.al.aw) && ((a.al.aC == b.al.aC) && true)))) && ((a.aN == b.aN) && ((a.aH == b.aH) && ((a.aY == b.aY) && ((a.aI == b.aI) && ((a.aJ == b.aJ) && true))))))), true) := by kernel_rfl
theorem eqN_76 (a b : aj) : binT prog .neq 76 (.d a.pd) (.d b.pd) = some (.bool (!((a.aM == b.aM) && ((a.fTo == b.fTo) && true))), true) := by kernel_rfl
theorem fF (a b : aV) : binT prog .eql 135 (.d a.pd) (.d b.pd) = some (.bool ((a.a0 == b.a0) && ((a.a1 == b.a1) && ((a.a2 == b.a2) && true))), true) := by kernel_rfl
theorem keyT_50 : KeyT prog 50 ag.pd xX := ⟨fun a b => by kernel_rfl, fun a => by kernel_rfl, fun a b h => by
  simp only [xX, Bool.and_eq_true, beq_iff_eq] at h
  simp [ag.pd, pdSame, pdSames, pdSame1, h]⟩
theorem T_api_Pick_inj : ∀ x y : aa, x.pd = y.pd → x = y := by
  rintro ⟨⟨z1, z2, z3, z4⟩, z5, z6, z7, z8, z9⟩ ⟨⟨z10, z11, z12, z13⟩, z14, z15, z16, z17, z18⟩ h
  cases h; rfl
theorem ye : ∀ x y : ag, x.pd = y.pd → x = y := by
  rintro ⟨z1, z2, z3, z4⟩ ⟨z5, z6, z7, z8⟩ h
  cases h; rfl
theorem T_api_Span_inj : ∀ x y : aj, x.pd = y.pd → x = y := by
  rintro ⟨z1, z2⟩ ⟨z3, z4⟩ h
  cases h; rfl
def ext0 : FuncId → Option CallD := fun _ => none
theorem qU {a0 : (List UInt8)} {r : Bool} (h : fQ a0 = some r) : EvP prog av ext0 167 [rS a0] [] (rB r, []) := by
 refine Ev.body rfl Tryz.func167 rfl (by kernel_rfl)<|gS rfl rfl<|sU<|sN<|gS rfl rfl<|sM rfl<|sM rfl<|sV (rB (!(a0 == a0)))<|sA rfl<|sN<|qR ?_
 cases oI h
 exact qD
theorem gQ {a0 : (List UInt8)} {a1 : (List UInt8)} {r : Int} (h : cA a0 a1 = some r) : EvP prog av ext0 130 [rS a0, rS a1] [] (rI r, []) := by
 refine Ev.body rfl Tryz.func130 rfl (by kernel_rfl)<|gS rfl rfl<|sV (r0)<|sN<|gS rfl rfl<|sM rfl<|bE h fun x1 hx1 h => cD (qU hx1)<|sA rfl<|sN<|gS rfl rfl<|sM rfl<|bE h fun x2 hx2 h => cD (qU hx2)<|sA rfl ?_
 refine sN<|qS<|gS rfl rfl<|sF h (fun h => ?_) fun h => ?_
 ·refine sN<|cT<|qS<|gS rfl rfl<|sF h (fun h => ?_) fun h => ?_
  ·refine sN<|cT<|gS rfl rfl<|sV (r0)<|sN<|qR ?_
   cases oI h
   exact qD
  refine sN<|cF<|qK<|gS rfl rfl<|sV (rI (-1))<|sN<|qR ?_
  cases oI h
  exact qD
 refine sN<|cF<|qK<|qS<|gS rfl rfl<|sF h (fun h => ?_) fun h => ?_
 ·refine sN<|cT<|gS rfl rfl<|sV (rI 1)<|sN<|qR ?_
  cases oI h
  exact qD
 refine sN<|cF<|qK<|qS<|gS rfl rfl<|sM rfl<|sM rfl<|sF h (fun h => ?_) fun h => ?_
 ·refine sN<|cT<|gS rfl rfl<|sV (rI (-1))<|sN<|qR ?_
  cases oI h
  exact qD
 refine sN<|cF<|qK<|qS<|gS rfl rfl<|sM rfl<|sM rfl<|sF h (fun h => ?_) fun h => ?_
 ·refine sN<|cT<|gS rfl rfl<|sV (rI 1)<|sN<|qR ?_
  cases oI h
  exact qD
 refine sN<|cF<|qK<|gS rfl rfl<|sV (r0)<|sN<|qR ?_
 cases oI h
 exact qD
theorem wS {a0 : (List Int)} {r : Int} (h : fP a0 = some r) : EvP prog av ext0 122 [.d (.lst (a0.map (PD.int .i64)))] [] (rI r, []) := by
 refine Ev.body rfl Tryz.func122 rfl (by kernel_rfl)<|gS rfl rfl<|sV (r0)<|sN<|gS rfl rfl<|sV (r0)<|sN<|qS<|gS rfl rfl<|sM rfl<|sE (rI (a0.length : Int)) (lenMap _ _)<|sV (r0)<|sN<|bE h fun o7 ho7 h => WC.block (WC.loop (WL.ofLoop ho7 (fun s R' B' => ghosts prog 0 (A R' B') (av.at_ 122 0 3) = some (A [(3, r0), (6, .d (.lst (a0.map (PD.int .i64)))), (7, rI (a0.length : Int)), (8, rI s)] [])) (fun o e R' B' => match o with | .inl y => e = .exit 0 ∧ ghosts prog 0 (A R' B') (av.at_ 122 0 8) = some (A [(3, r0)] []) | .inr r => e = .ret ∧ finish prog (av.own 122) Tryz.f122 0 (A R' B') = some (rI r, [])) rfl ?_ ?_))
 ·rintro s1 R' B' q2 hI h
  refine gS rfl hI<|sF h (fun h => ?_) fun h => ?_
  ·refine sN<|qS<|cT<|qK<|qS<|qB<|gS rfl rfl<|bE h fun x4 hx4 h => eG hx4 rfl<|sC rfl<|sA rfl<|sN<|gS rfl rfl<|sM rfl<|sM rfl ?_
   refine sF h (fun h => ?_) fun h => ?_
   ·refine sN<|cT<|gS rfl rfl<|sM rfl<|sA rfl<|sN<|qR ?_
    cases oI h
    exact ⟨nofun, rfl, rfl⟩
   refine sN<|cF<|qK<|WC.region rfl rfl<|sV (rI (rW (s1 + (1 : Int))))<|sM rfl<|sN ?_
   cases oI h
   exact ⟨rfl, rfl⟩
  refine sN<|qS<|cF<|qX ?_
  cases oI h
  exact ⟨nofun, rfl, rfl⟩
 intro e R' B' he hq
 rcases o7 with y8 | r9
 ·obtain ⟨rfl, hI⟩ := hq
  refine qE<|gS rfl hI<|sM rfl<|sA rfl<|sN<|qR ?_
  cases oI h
  exact qD
 obtain ⟨rfl, hf⟩ := hq
 cases oI h
 exact hf
theorem tN {a0 : ag} {a1 : ag} {r : Int} (h : co a0 a1 = some r) : EvP prog av ext0 89 [.d (ag.pd a0), .d (ag.pd a1)] [] (rI r, []) := by
 refine Ev.body rfl Tryz.func89 rfl (by kernel_rfl)<|gS rfl rfl<|sB (.ptr 32 0) 32 (.var [rS a0.aB, rS a0.aA, rS a0.aw, rS a0.aC])<|sB (.ptr 48 0) 48 (.var [rS a1.aB, rS a1.aA, rS a1.aw, rS a1.aC])<|sV (r0)<|sN<|WC.regionDSeq rfl rfl<|sV (.ptr 32 0)<|sL rfl<|sV (.ptr 48 0)<|sL rfl<|bE h fun x1 hx1 h => cD (gQ hx1)<|sV (.ptr 32 1)<|sL rfl ?_
 refine sV (.ptr 48 1)<|sL rfl<|bE h fun x2 hx2 h => cD (gQ hx2)<|sV (.ptr 32 2)<|sL rfl<|sV (.ptr 48 2)<|sL rfl<|bE h fun x3 hx3 h => cD (gQ hx3)<|sV (.ptr 32 3)<|sL rfl<|sV (.ptr 48 3)<|sL rfl<|bE h fun x4 hx4 h => ?_
 refine cD (gQ hx4)<|sV (.d (.lst ([x1, x2, x3, x4].map (PD.int .i64))))<|bE h fun x5 hx5 h => cD (wS hx5)<|sA rfl ?_
 refine sN<|sO<|qR ?_
 cases oI h
 exact qD
theorem ug {a0 : Int} {r : Bool} (h : jr a0 = some r) : EvP prog av ext0 126 [rI a0] [] (rB r, []) := by
 refine Ev.body rfl Tryz.func126 rfl (by kernel_rfl)<|gS rfl rfl<|sU<|sN<|gS rfl rfl<|sM rfl<|sM rfl<|sV (rB (a0 != a0))<|sA rfl<|sN<|qR ?_
 cases oI h
 exact qD
theorem fp {a0 : Int} {a1 : Int} {r : Int} (h : bD a0 a1 = some r) : EvP prog av ext0 83 [rI a0, rI a1] [] (rI r, []) := by
 refine Ev.body rfl Tryz.func83 rfl (by kernel_rfl)<|gS rfl rfl<|sV (r0)<|sN<|gS rfl rfl<|sM rfl<|bE h fun x1 hx1 h => cD (ug hx1)<|sA rfl<|sN<|gS rfl rfl<|sM rfl<|bE h fun x2 hx2 h => cD (ug hx2)<|sA rfl ?_
 refine sN<|qS<|gS rfl rfl<|sF h (fun h => ?_) fun h => ?_
 ·refine sN<|cT<|qS<|gS rfl rfl<|sF h (fun h => ?_) fun h => ?_
  ·refine sN<|cT<|gS rfl rfl<|sV (r0)<|sN<|qR ?_
   cases oI h
   exact qD
  refine sN<|cF<|qK<|gS rfl rfl<|sV (rI (-1))<|sN<|qR ?_
  cases oI h
  exact qD
 refine sN<|cF<|qK<|qS<|gS rfl rfl<|sF h (fun h => ?_) fun h => ?_
 ·refine sN<|cT<|gS rfl rfl<|sV (rI 1)<|sN<|qR ?_
  cases oI h
  exact qD
 refine sN<|cF<|qK<|qS<|gS rfl rfl<|sM rfl<|sM rfl<|sF h (fun h => ?_) fun h => ?_
 ·refine sN<|cT<|gS rfl rfl<|sV (rI (-1))<|sN<|qR ?_
  cases oI h
  exact qD
 refine sN<|cF<|qK<|qS<|gS rfl rfl<|sM rfl<|sM rfl<|sF h (fun h => ?_) fun h => ?_
 ·refine sN<|cT<|gS rfl rfl<|sV (rI 1)<|sN<|qR ?_
  cases oI h
  exact qD
 refine sN<|cF<|qK<|gS rfl rfl<|sV (r0)<|sN<|qR ?_
 cases oI h
 exact qD
theorem yl {a0 : aa} {a1 : aa} {r : Int} (h : bz a0 a1 = some r) : EvP prog av ext0 73 [.d (aa.pd a0), .d (aa.pd a1)] [] (rI r, []) := by
 refine Ev.body rfl Tryz.func73 rfl (by kernel_rfl)<|gS rfl rfl<|sB (.ptr 32 0) 32 (.var (aa.rc a0))<|sB (.ptr 48 0) 48 (.var (aa.rc a1))<|sV (r0)<|sN<|WC.regionDSeq rfl rfl<|sV (.ptr 32 0)<|sV (.d (ag.pd a0.al))<|sV (.ptr 48 0)<|sV (.d (ag.pd a1.al))<|bE h fun x1 hx1 h => cD (tN hx1)<|sV (.ptr 32 4)<|sL rfl ?_
 refine sV (.ptr 48 4)<|sL rfl<|bE h fun x2 hx2 h => cD (fp hx2)<|sV (.ptr 32 5)<|sL rfl<|sV (.ptr 48 5)<|sL rfl<|bE h fun x3 hx3 h => cD (fp hx3)<|sV (.ptr 32 6)<|sL rfl<|sV (.ptr 48 6)<|sL rfl<|bE h fun x4 hx4 h => ?_
 refine cD (fp hx4)<|sV (.ptr 32 7)<|sL rfl<|sV (.ptr 48 7)<|sL rfl<|bE h fun x5 hx5 h => cD (fp hx5)<|sV (.ptr 32 8)<|sL rfl<|sV (.ptr 48 8)<|sL rfl<|bE h fun x6 hx6 h => cD (fp hx6)<|sV (.d (.lst ([x1, x2, x3, x4, x5, x6].map (PD.int .i64))))<|bE h fun x7 hx7 h => ?_
 refine cD (wS hx7)<|sA rfl ?_
 refine sN<|sO<|qR ?_
 cases oI h
 exact qG
theorem xj {a0 : aj} {a1 : aj} {r : Int} (h : ch a0 a1 = some r) : EvP prog av ext0 96 [.d (aj.pd a0), .d (aj.pd a1)] [] (rI r, []) := by
 refine Ev.body rfl Tryz.func96 rfl (by kernel_rfl)<|gS rfl rfl<|sB (.ptr 32 0) 32 (.var [rI a0.aM, rI a0.fTo])<|sB (.ptr 48 0) 48 (.var [rI a1.aM, rI a1.fTo])<|sV (r0)<|sN<|gS rfl rfl<|sV (.ptr 32 0)<|sL rfl<|sV (.ptr 48 0)<|sL rfl<|bE h fun x1 hx1 h => cD (fp hx1)<|sA rfl<|sN ?_
 refine qR ?_
 cases oI h
 exact qD
noncomputable def ext : FuncId → Option CallD := fun f => if f = 72 then some (sortD 73 52 aa.pd bz) else if f = 88 then some (sortD 89 50 ag.pd co) else if f = 95 then some (sortD 96 76 aj.pd ch) else if f = 123 then some (cloneD 52 9 104) else if f = 87 then some (cloneD 50 4 64) else if f = 92 then some (cloneD 76 2 16) else if f = 139 then some (cloneD 96 8 80) else if f = 181 then some (cloneD 137 10 96) else if f = 182 then some (cloneD 3 1 8) else none
theorem yF {l r : List aa} (h : sortO bz l = some r) : EvP prog av ext 72 [.ref 0 0, .d (.raw (.func (.func 73) #[] #[]))] [.arr 0 52 (l.map aa.pd)] (.tup [], [.arr 0 52 (r.map aa.pd)]) := sort_ev rfl (sortD_of T_api_Pick_inj h)
theorem sort_88_89 {l r : List ag} (h : sortO co l = some r) : EvP prog av ext 88 [.ref 0 0, .d (.raw (.func (.func 89) #[] #[]))] [.arr 0 50 (l.map ag.pd)] (.tup [], [.arr 0 50 (r.map ag.pd)]) := sort_ev rfl (sortD_of ye h)
theorem sort_95_96 {l r : List aj} (h : sortO ch l = some r) : EvP prog av ext 95 [.ref 0 0, .d (.raw (.func (.func 96) #[] #[]))] [.arr 0 76 (l.map aj.pd)] (.tup [], [.arr 0 76 (r.map aj.pd)]) := sort_ev rfl (sortD_of T_api_Span_inj h)
theorem clone_123 {l r : List aa} (h : cloneO 104 l = some r) : EvP prog av ext 123 [.d (.lst (l.map aa.pd))] [] (.ref 0 0, [.arr 0 52 (r.map aa.pd)]) := clone_ev (g := aa.pd) rfl (fun _ => rfl) h
theorem clone_87 {l r : List ag} (h : cloneO 64 l = some r) : EvP prog av ext 87 [.d (.lst (l.map ag.pd))] [] (.ref 0 0, [.arr 0 50 (r.map ag.pd)]) := clone_ev (g := ag.pd) rfl (fun _ => rfl) h
theorem clone_92 {l r : List aj} (h : cloneO 16 l = some r) : EvP prog av ext 92 [.d (.lst (l.map aj.pd))] [] (.ref 0 0, [.arr 0 76 (r.map aj.pd)]) := clone_ev (g := aj.pd) rfl (fun _ => rfl) h
theorem clone_139 {l r : List ai} (h : cloneO 80 l = some r) : EvP prog av ext 139 [.d (.lst (l.map ai.pd))] [] (.ref 0 0, [.arr 0 96 (r.map ai.pd)]) := clone_ev (g := ai.pd) rfl (fun _ => rfl) h
theorem clone_181 {l r : List ar} (h : cloneO 96 l = some r) : EvP prog av ext 181 [.d (.lst (l.map ar.pd))] [] (.ref 0 0, [.arr 0 137 (r.map ar.pd)]) := clone_ev (g := ar.pd) rfl (fun _ => rfl) h
theorem clone_182 {l r : List Int} (h : cloneO 8 l = some r) : EvP prog av ext 182 [.d (.lst (l.map (PD.int .i64)))] [] (.ref 0 0, [.arr 0 3 (r.map (PD.int .i64))]) := clone_ev (g := (PD.int .i64)) rfl (fun _ => rfl) h
theorem qW {a0 : (List Int)} {r : ah} (h : nu a0 = some r) : EvP prog av ext 8 [.d (.lst (a0.map (PD.int .i64)))] [] (.ptr 0 0, [.var [.d (.lst (r.fL.map (PD.int .i64))), rI r.fAt]]) := by
 refine Ev.body rfl Tryz.func8 rfl (by kernel_rfl)<|gS rfl rfl<|sV (.d (.raw (.pointer none)))<|sN<|gS rfl rfl<|sM rfl<|sM rfl<|sE (rI (a0.length : Int)) (lenMap _ _)<|sV (rI (if (2000 : Int) < (a0.length : Int) then (2000 : Int) else (a0.length : Int)))<|bE h fun x1 hx1 h => WO.cutL (sz := 1) (g := (PD.int .i64)) hx1 (fun _ => rfl) rfl rfl rfl rfl rfl rfl rfl rfl rfl rfl rfl<|sV (.d (ah.pd (ah.mk x1 0)))<|sB (.ptr 144 0) 144 (.var [.d (.lst (x1.map (PD.int .i64))), r0])<|sA rfl<|sN ?_
 refine qR ?_
 cases oI h
 exact qD
theorem Src_Raw_ev {d0 : ah} {r : Int × ah} (h : xp d0 = some r) : EvP prog av ext 76 [.ptr 0 0] [.var [.d (.lst (d0.fL.map (PD.int .i64))), rI d0.fAt]] (rI r.1, [.var [.d (.lst (r.2.fL.map (PD.int .i64))), rI r.2.fAt]]) := by
 refine Ev.body rfl Tryz.func76 rfl (by kernel_rfl)<|gS rfl rfl<|sV (r0)<|sN<|qS<|WC.regionDSeq rfl rfl<|sM rfl<|sV (.ptr 0 0)<|sV (.ptr 0 1)<|sL rfl<|sM rfl<|sV (.ptr 0 0)<|sV (.ptr 0 0)<|sL rfl<|sE (rI (d0.fL.length : Int)) (lenMap _ _) ?_
 refine sF h (fun h => ?_) fun h => ?_
 ·refine sN<|sO<|cT<|gS rfl rfl<|sV (r0)<|sN<|qR ?_
  cases oI h
  exact qD
 refine sN<|sO<|cF<|qK<|gS rfl rfl<|sM rfl<|sV (.ptr 0 0)<|sV (.ptr 0 1)<|sL rfl<|sV (rI (rW (d0.fAt + (1 : Int))))<|sV (.ptr 0 0)<|sV (.ptr 0 1)<|sS 0 (.var [.d (.lst (d0.fL.map (PD.int .i64))), rI (rW (d0.fAt + (1 : Int)))])<|sN<|WC.regionDSeq rfl rfl<|sM rfl ?_
 refine sV (.ptr 0 0)<|sV (.ptr 0 0)<|sL rfl<|sM rfl<|sV (.ptr 0 0)<|sV (.ptr 0 1)<|sL rfl<|sV (rI (rW ((rW (d0.fAt + (1 : Int))) - (1 : Int))))<|bE h fun x2 hx2 h => eG hx2 rfl<|sC rfl<|sA rfl ?_
 refine sN<|sO<|qR ?_
 cases oI h
 exact qD
theorem keep_Mod_ev {a0 : Int} {a1 : Int} {r : Int} (h : th a0 a1 = some r) : EvP prog av ext 75 [rI a0, rI a1] [] (rI r, []) := by
 refine Ev.body rfl Tryz.func75 rfl (by kernel_rfl)<|gS rfl rfl<|sV (r0)<|sN<|qS<|gS rfl rfl<|sM rfl<|sF h (fun h => ?_) fun h => ?_
 ·refine sN<|cT<|gS rfl rfl<|sV (r0)<|sN<|qR ?_
  cases oI h
  exact qD
 refine sN<|cF<|qK<|gS rfl rfl<|sM rfl<|sM rfl<|bE h fun x2 hx2 h => WO.remG hx2 rfl rfl rfl rfl rfl rfl<|sA rfl<|sN<|qS<|gS rfl rfl<|sM rfl<|sF h (fun h => ?_) fun h => ?_
 ·refine sN<|cT<|WC.region rfl rfl<|sM rfl<|sM rfl<|sV (rI (rW (x2 + a1)))<|sA rfl<|sN<|gS rfl rfl<|sM rfl<|sA rfl<|sN<|qR ?_
  cases oI h
  exact qD
 refine sN<|cF<|qK<|gS rfl rfl<|sM rfl<|sA rfl<|sN<|qR ?_
 cases oI h
 exact qD
theorem bw {a1 : Int} {d0 : ah} {r : Int × ah} (h : c6 a1 d0 = some r) : EvP prog av ext 35 [.ptr 0 0, rI a1] [.var [.d (.lst (d0.fL.map (PD.int .i64))), rI d0.fAt]] (rI r.1, [.var [.d (.lst (r.2.fL.map (PD.int .i64))), rI r.2.fAt]]) := by
 refine Ev.body rfl Tryz.func35 rfl (by kernel_rfl)<|gS rfl rfl<|sV (r0)<|sN<|gS rfl rfl<|sM rfl<|bE h fun x1 hx1 h => cR (rI x1.1) [(0, .var [.d (.lst (x1.2.fL.map (PD.int .i64))), rI x1.2.fAt])] (Src_Raw_ev hx1)<|sM rfl<|bE h fun x2 hx2 h => cD (keep_Mod_ev hx2)<|sA rfl<|sN<|qR ?_
 cases oI h
 exact qD
theorem sn {a1 : Int} {d0 : ah} {r : ap × ah} (h : mh a1 d0 = some r) : EvP prog av ext 41 [.ptr 0 0, rI a1] [.var [.d (.lst (d0.fL.map (PD.int .i64))), rI d0.fAt]] (.d (ap.pd r.1), [.var [.d (.lst (r.2.fL.map (PD.int .i64))), rI r.2.fAt]]) := by
 refine Ev.body rfl Tryz.func41 rfl (by kernel_rfl)<|gS rfl rfl<|sB (.ptr 64 0) 64 (.var [r0, r0, r0])<|sN<|gS rfl rfl<|sM rfl<|sM rfl<|sV (rI (rW ((2 : Int) * a1)))<|sV (rI (rW ((rW ((2 : Int) * a1)) + (1 : Int))))<|bE h fun x1 hx1 h => cR (rI x1.1) [(0, .var [.d (.lst (x1.2.fL.map (PD.int .i64))), rI x1.2.fAt])] (bw hx1)<|sM rfl<|sV (rI (rW (x1.1 - a1)))<|sM rfl<|sM rfl ?_
 refine sV (rI (rW ((2 : Int) * a1)))<|sV (rI (rW ((rW ((2 : Int) * a1)) + (1 : Int))))<|bE h fun x2 hx2 h => cR (rI x2.1) [(0, .var [.d (.lst (x2.2.fL.map (PD.int .i64))), rI x2.2.fAt])] (bw hx2)<|sM rfl<|sV (rI (rW (x2.1 - a1)))<|sM rfl<|sM rfl<|sV (rI (rW (a1 + (1 : Int))))<|bE h fun x3 hx3 h => cR (rI x3.1) [(0, .var [.d (.lst (x3.2.fL.map (PD.int .i64))), rI x3.2.fAt])] (bw hx3)<|sV (.d (ap.pd (ap.mk (rW (x1.1 - a1)) (rW (x2.1 - a1)) x3.1)))<|sS 64 (.var [rI (rW (x1.1 - a1)), rI (rW (x2.1 - a1)), rI x3.1])<|sN<|qR ?_
 cases oI h
 exact qD
theorem Src_Box_ev {a1 : Int} {a2 : Int} {d0 : ah} {r : aL × ah} (h : xo a1 a2 d0 = some r) : EvP prog av ext 77 [.ptr 0 0, rI a1, rI a2] [.var [.d (.lst (d0.fL.map (PD.int .i64))), rI d0.fAt]] (.d (aL.pd r.1), [.var [.d (.lst (r.2.fL.map (PD.int .i64))), rI r.2.fAt]]) := by
 refine Ev.body rfl Tryz.func77 rfl (by kernel_rfl)<|gS rfl rfl<|sB (.ptr 96 0) 96 (.var [r0, r0, r0, r0, r0, r0])<|sN<|gS rfl rfl<|sM rfl<|sM rfl<|bE h fun x1 hx1 h => cR (.d (ap.pd x1.1)) [(0, .var [.d (.lst (x1.2.fL.map (PD.int .i64))), rI x1.2.fAt])] (sn hx1)<|sB (.ptr 112 0) 112 (.var [r0, r0, r0])<|sS 112 (.var [rI x1.1.fX, rI x1.1.fY, rI x1.1.fZ])<|sN<|WC.regionDSeq rfl rfl<|sV (.d (ap.pd x1.1))<|sV (.ptr 112 0) ?_
 refine sL rfl<|sM rfl<|sM rfl<|sV (rI (rW (a2 + (1 : Int))))<|bE h fun x2 hx2 h => cR (rI x2.1) [(0, .var [.d (.lst (x2.2.fL.map (PD.int .i64))), rI x2.2.fAt])] (bw hx2)<|sV (rI (rW (x1.1.fX + x2.1)))<|sV (.ptr 112 1)<|sL rfl<|sM rfl<|sM rfl<|sV (rI (rW (a2 + (1 : Int))))<|bE h fun x3 hx3 h => cR (rI x3.1) [(0, .var [.d (.lst (x3.2.fL.map (PD.int .i64))), rI x3.2.fAt])] (bw hx3)<|sV (rI (rW (x1.1.fY + x3.1))) ?_
 refine sV (.ptr 112 2)<|sL rfl<|sM rfl<|sM rfl<|sV (rI (rW (a2 + (1 : Int))))<|bE h fun x4 hx4 h => cR (rI x4.1) [(0, .var [.d (.lst (x4.2.fL.map (PD.int .i64))), rI x4.2.fAt])] (bw hx4)<|sV (rI (rW (x1.1.fZ + x4.1)))<|sV (.d (ap.pd (ap.mk (rW (x1.1.fX + x2.1)) (rW (x1.1.fY + x3.1)) (rW (x1.1.fZ + x4.1)))))<|sG (.d (aL.pd (aL.mk x1.1 (ap.mk (rW (x1.1.fX + x2.1)) (rW (x1.1.fY + x3.1)) (rW (x1.1.fZ + x4.1))))))<|sH 96 (.var [rI x1.1.fX, rI x1.1.fY, rI x1.1.fZ, rI (rW (x1.1.fX + x2.1)), rI (rW (x1.1.fY + x3.1)), rI (rW (x1.1.fZ + x4.1))]) ?_
 refine sN<|sO<|qR ?_
 cases oI h
 exact qG
theorem cE {a1 : (List Int)} {d0 : ah} {r : Int × ah} (h : dj a1 d0 = some r) : EvP prog av ext 12 [.ptr 0 0, .d (.lst (a1.map (PD.int .i64)))] [.var [.d (.lst (d0.fL.map (PD.int .i64))), rI d0.fAt]] (rI r.1, [.var [.d (.lst (r.2.fL.map (PD.int .i64))), rI r.2.fAt]]) := by
 refine Ev.body rfl Tryz.func12 rfl (by kernel_rfl)<|gS rfl rfl<|sV (r0)<|sN<|gS rfl rfl<|sM rfl<|sM rfl<|sM rfl<|sE (rI (a1.length : Int)) (lenMap _ _)<|bE h fun x1 hx1 h => cR (rI x1.1) [(0, .var [.d (.lst (x1.2.fL.map (PD.int .i64))), rI x1.2.fAt])] (bw hx1)<|bE h fun x2 hx2 h => eG hx2 rfl<|sC rfl<|sA rfl ?_
 refine sN<|qR ?_
 cases oI h
 exact qD
theorem yJ {d0 : ah} {r : aK × ah} (h : mj d0 = some r) : EvP prog av ext 78 [.ptr 0 0] [.var [.d (.lst (d0.fL.map (PD.int .i64))), rI d0.fAt]] (.agg [rI r.1.bt, .ref 1 0, .ref 2 0], [.var [.d (.lst (r.2.fL.map (PD.int .i64))), rI r.2.fAt], .arr 0 3 (r.1.a8.map (PD.int .i64)), .arr 0 3 (r.1.aU.map (PD.int .i64))]) := by
 refine Ev.body rfl Tryz.func78 rfl (by kernel_rfl)<|gS rfl rfl<|sB (.ptr 32 0) 32 (.var [r0, .nils, .nils])<|sN<|gS rfl rfl<|sM rfl<|sV (.d (.lst ([20, 25, 40, 100].map (PD.int .i64))))<|bE h fun x1 hx1 h => cR (rI x1.1) [(0, .var [.d (.lst (x1.2.fL.map (PD.int .i64))), rI x1.2.fAt])] (cE hx1)<|sV (.agg [rI x1.1, .nils, .nils])<|sB (.ptr 48 0) 48 (.var [r0, .nils, .nils])<|sS 48 (.var [rI x1.1, .nils, .nils])<|sN<|gS rfl rfl<|sM rfl ?_
 refine bE h fun x2 hx2 h => cR (rI x2.1) [(0, .var [.d (.lst (x2.2.fL.map (PD.int .i64))), rI x2.2.fAt])] (bw hx2)<|sV (r0)<|sA rfl<|sN<|qS<|gS rfl rfl<|sV (r0)<|sN<|bE h fun o24 ho24 h => WC.block (WC.loop (WL.ofLoop ho24 (fun s R' B' => ghosts prog 1 (A R' B') (av.at_ 78 1 4) = some (A [(0, .ptr 0 0), (2, .ptr 32 0), (3, .ptr 48 0), (4, rI s.1), (5, rI s.2.1), (6, rI s.2.2.1)] [(0, .var [.d (.lst (s.2.2.2.1.map (PD.int .i64))), rI s.2.2.2.2.1]), (32, .var [r0, .nils, .nils]), (48, .var [rI x1.1, .ref 432 0, .ref 512 0]), (432, .arr 0 3 (s.2.2.2.2.2.1.map (PD.int .i64))), (512, .arr 0 3 (s.2.2.2.2.2.2.map (PD.int .i64)))])) (fun o e R' B' => e = .exit 0 ∧ ghosts prog 1 (A R' B') (av.at_ 78 1 9) = some (A [(2, .ptr 32 0), (3, .ptr 48 0)] [(0, .var [.d (.lst (o.1.map (PD.int .i64))), rI o.2.1]), (32, .var [r0, .nils, .nils]), (48, .var [rI x1.1, .ref 432 0, .ref 512 0]), (432, .arr 0 3 (o.2.2.1.map (PD.int .i64))), (512, .arr 0 3 (o.2.2.2.map (PD.int .i64)))])) rfl ?_ ?_))
 ·rintro ⟨s3, s4, s5, s6, s7, s8, s9⟩ R' B' q14 hI h
  refine qS<|WC.regionDSeq hI rfl<|sM rfl<|sV (.ptr 48 0)<|sL rfl<|bE h fun x15 hx15 h => WO.quoG hx15 rfl rfl rfl rfl rfl rfl<|sM rfl<|bE h fun x16 hx16 h => cR (rI x16.1) [(0, .var [.d (.lst (x16.2.fL.map (PD.int .i64))), rI x16.2.fAt])] (bw hx16)<|sV (rI (rW (x15 + x16.1)))<|sF h (fun h => ?_) fun h => ?_
  ·refine sN<|sO<|cT<|qK<|qS<|qB<|WC.regionDSeq rfl rfl<|sV (.ptr 48 1)<|sL rfl<|sM rfl<|sV (.d (.lst ([s3].map (PD.int .i64))))<|bE h fun x18 hx18 h => aR hx18 (fun _ => rfl) rfl<|sV (.ptr 48 2)<|sL rfl<|sM rfl ?_
   refine sV (.d (.lst ([s4].map (PD.int .i64))))<|bE h fun x19 hx19 h => aR hx19 (fun _ => rfl) rfl<|sV (.ptr 48 1)<|sS 48 (.var [rI x1.1, .ref 432 1, .ref 512 0])<|sV (.ptr 48 2)<|sS 48 (.var [rI x1.1, .ref 432 1, .ref 512 1]) ?_
   refine sN<|sO<|WC.regionDSeq rfl rfl<|sM rfl<|sM rfl<|sV (.d (.lst ([0, 10, 20, 35].map (PD.int .i64))))<|bE h fun x20 hx20 h => cR (rI x20.1) [(0, .var [.d (.lst (x20.2.fL.map (PD.int .i64))), rI x20.2.fAt])] (cE hx20)<|sV (.ptr 48 0)<|sL rfl<|bE h fun x21 hx21 h => WO.quoG hx21 rfl rfl rfl rfl rfl rfl<|sV (rI (rW (x20.1 + x21)))<|sV (rI (rW (s3 + (rW (x20.1 + x21)))))<|sA rfl ?_
   refine sN<|sO<|WC.region rfl rfl<|sM rfl<|sM rfl<|sV (rI (if (rW (s3 + (rW (x20.1 + x21)))) > s4 then (rW (s3 + (rW (x20.1 + x21)))) else s4))<|sM rfl<|sV (.d (.lst ([0, 0, 5, 30].map (PD.int .i64))))<|bE h fun x22 hx22 h => cR (rI x22.1) [(0, .var [.d (.lst (x22.2.fL.map (PD.int .i64))), rI x22.2.fAt])] (cE hx22)<|sV (rI (rW ((if (rW (s3 + (rW (x20.1 + x21)))) > s4 then (rW (s3 + (rW (x20.1 + x21)))) else s4) + x22.1)))<|sA rfl<|sN<|WC.region rfl rfl<|sM rfl<|sV (rI (rW (s5 + (1 : Int)))) ?_
   refine sA rfl<|sN ?_
   cases oI h
   exact ⟨rfl, rfl⟩
  refine sN<|sO<|cF<|qX ?_
  cases oI h
  exact ⟨nofun, rfl, rfl⟩
 intro e R' B' he hq
 obtain ⟨rfl, hI⟩ := hq
 refine qE<|gS rfl hI<|sV (.agg [rI x1.1, .ref 432 0, .ref 512 0])<|sS 32 (.var [rI x1.1, .ref 432 0, .ref 512 0])<|sN<|qR ?_
 cases oI h
 exact qD
theorem yc {a1 : Int} {d0 : ah} {r : bd × ah} (h : fr a1 d0 = some r) : EvP prog av ext 39 [.ptr 0 0, rI a1] [.var [.d (.lst (d0.fL.map (PD.int .i64))), rI d0.fAt]] (.d (bd.pd r.1), [.var [.d (.lst (r.2.fL.map (PD.int .i64))), rI r.2.fAt]]) := by
 refine Ev.body rfl Tryz.func39 rfl (by kernel_rfl)<|gS rfl rfl<|sB (.ptr 64 0) 64 (.var [r0, r0, r0, r0, r0, r0, r0, .nils, .nils, r0, r0, r0, r0, r0])<|sN<|gS rfl rfl<|sM rfl<|sM rfl<|bE h fun x1 hx1 h => cR (.d (aL.pd x1.1)) [(0, .var [.d (.lst (x1.2.fL.map (PD.int .i64))), rI x1.2.fAt])] (Src_Box_ev hx1)<|sM rfl<|bE h fun x2 hx2 h => cR (.agg [rI x2.1.bt, .ref 144 0, .ref 145 0]) [(0, .var [.d (.lst (x2.2.fL.map (PD.int .i64))), rI x2.2.fAt]), (144, .arr 0 3 (x2.1.a8.map (PD.int .i64))), (145, .arr 0 3 (x2.1.aU.map (PD.int .i64)))] (yJ hx2)<|sM rfl<|sV (.d (.lst ([10, 50, 200].map (PD.int .i64))))<|bE h fun x3 hx3 h => ?_
 refine cR (rI x3.1) [(0, .var [.d (.lst (x3.2.fL.map (PD.int .i64))), rI x3.2.fAt])] (cE hx3)<|sM rfl<|sV (.d (.lst ([0, 0, 10, 40].map (PD.int .i64))))<|bE h fun x4 hx4 h => cR (rI x4.1) [(0, .var [.d (.lst (x4.2.fL.map (PD.int .i64))), rI x4.2.fAt])] (cE hx4)<|sM rfl<|sV (.d (.lst ([0, 50, 200, 400].map (PD.int .i64))))<|bE h fun x5 hx5 h => cR (rI x5.1) [(0, .var [.d (.lst (x5.2.fL.map (PD.int .i64))), rI x5.2.fAt])] (cE hx5)<|sM rfl<|sV (.d (.lst ([0, 5, 20].map (PD.int .i64))))<|bE h fun x6 hx6 h => cR (rI x6.1) [(0, .var [.d (.lst (x6.2.fL.map (PD.int .i64))), rI x6.2.fAt])] (cE hx6)<|sM rfl<|bE h fun x7 hx7 h => ?_
 refine cR (rI x7.1) [(0, .var [.d (.lst (x7.2.fL.map (PD.int .i64))), rI x7.2.fAt])] (bw hx7)<|sV (rI (rW ((2 : Int) + x7.1)))<|sG (.agg [rI x1.1.a8.fX, rI x1.1.a8.fY, rI x1.1.a8.fZ, rI x1.1.aU.fX, rI x1.1.aU.fY, rI x1.1.aU.fZ, rI x2.1.bt, .ref 144 0, .ref 145 0, rI x3.1, rI x4.1, rI x5.1, rI x6.1, rI (rW ((2 : Int) + x7.1))])<|sH 64 (.var [rI x1.1.a8.fX, rI x1.1.a8.fY, rI x1.1.a8.fZ, rI x1.1.aU.fX, rI x1.1.aU.fY, rI x1.1.aU.fZ, rI x2.1.bt, .ref 144 0, .ref 145 0, rI x3.1, rI x4.1, rI x5.1, rI x6.1, rI (rW ((2 : Int) + x7.1))])<|sN<|qR ?_
 cases oI h
 exact qG
theorem Src_Scale_ev {d0 : ah} {r : cu × ah} (h : og d0 = some r) : EvP prog av ext 40 [.ptr 0 0] [.var [.d (.lst (d0.fL.map (PD.int .i64))), rI d0.fAt]] (.d (cu.pd r.1), [.var [.d (.lst (r.2.fL.map (PD.int .i64))), rI r.2.fAt]]) := by
 refine Ev.body rfl Tryz.func40 rfl (by kernel_rfl)<|gS rfl rfl<|sB (.ptr 32 0) 32 (.var [r0, .nils, .nils, r0, r0])<|sN<|gS rfl rfl<|sM rfl<|bE h fun x1 hx1 h => cR (.agg [rI x1.1.bt, .ref 96 0, .ref 97 0]) [(0, .var [.d (.lst (x1.2.fL.map (PD.int .i64))), rI x1.2.fAt]), (96, .arr 0 3 (x1.1.a8.map (PD.int .i64))), (97, .arr 0 3 (x1.1.aU.map (PD.int .i64)))] (yJ hx1)<|sM rfl<|bE h fun x2 hx2 h => cR (rI x2.1) [(0, .var [.d (.lst (x2.2.fL.map (PD.int .i64))), rI x2.2.fAt])] (bw hx2)<|sM rfl<|bE h fun x3 hx3 h => cR (rI x3.1) [(0, .var [.d (.lst (x3.2.fL.map (PD.int .i64))), rI x3.2.fAt])] (bw hx3)<|sV (rI (rW ((1 : Int) + x3.1))) ?_
 refine sV (.agg [rI x1.1.bt, .ref 96 0, .ref 97 0, rI x2.1, rI (rW ((1 : Int) + x3.1))])<|sB (.ptr 48 0) 48 (.var [r0, .nils, .nils, r0, r0])<|sS 48 (.var [rI x1.1.bt, .ref 96 0, .ref 97 0, rI x2.1, rI (rW ((1 : Int) + x3.1))])<|sN<|qS<|gS rfl rfl<|sV (.ptr 48 0)<|sV (.ptr 48 1)<|sL rfl<|WO.lenR rfl rfl rfl rfl rfl rfl rfl rfl rfl<|sV (r0)<|sN<|bE h fun o26 ho26 h => WC.block (WC.loop (WL.ofLoop ho26 (fun s R' B' => ghosts prog 1 (A R' B') (av.at_ 40 1 3) = some (A [(2, .ptr 32 0), (3, .ptr 48 0), (16, rI (x1.1.a8.length : Int)), (17, rI s.1)] [(0, .var [.d (.lst (x3.2.fL.map (PD.int .i64))), rI x3.2.fAt]), (32, .var [r0, .nils, .nils, r0, r0]), (48, .var [rI x1.1.bt, .ref 96 0, .ref 97 0, rI x2.1, rI (rW ((1 : Int) + x3.1))]), (96, .arr 0 3 (s.2.1.map (PD.int .i64))), (97, .arr 0 3 (s.2.2.map (PD.int .i64)))])) (fun o e R' B' => e = .exit 0 ∧ ghosts prog 1 (A R' B') (av.at_ 40 1 7) = some (A [(2, .ptr 32 0), (3, .ptr 48 0)] [(0, .var [.d (.lst (x3.2.fL.map (PD.int .i64))), rI x3.2.fAt]), (32, .var [r0, .nils, .nils, r0, r0]), (48, .var [rI x1.1.bt, .ref 96 0, .ref 97 0, rI x2.1, rI (rW ((1 : Int) + x3.1))]), (96, .arr 0 3 (o.1.map (PD.int .i64))), (97, .arr 0 3 (o.2.map (PD.int .i64)))])) rfl ?_ ?_))
 ·rintro ⟨s4, s5, s6⟩ R' B' q9 hI h
  refine gS rfl hI<|sF h (fun h => ?_) fun h => ?_
  ·refine sN<|qS<|cT<|qK<|qS<|qB<|gS rfl rfl<|sM rfl<|sA rfl<|sN<|WC.regionD rfl rfl<|sV (.ptr 48 0)<|sV (.ptr 48 1)<|sL rfl<|sM rfl ?_
   refine sV (.ptr 48 0)<|sV (.ptr 48 2)<|sL rfl<|sM rfl<|sV (.ptr 48 0)<|sV (.ptr 48 1)<|sL rfl<|sM rfl<|bE h fun x12 hx12 h => WO.eltG hx12 rfl rfl rfl rfl rfl rfl rfl rfl<|bE h fun x13 hx13 h => WO.loadE hx13 rfl rfl rfl rfl rfl rfl<|bE h fun x14 hx14 h => WO.quoG hx14 rfl rfl rfl rfl rfl rfl<|sV (.ptr 48 0) ?_
   refine sV (.ptr 48 2)<|sL rfl<|sM rfl<|bE h fun x16 hx16 h => WO.eltG hx16 rfl rfl rfl rfl rfl rfl rfl rfl<|bE h fun x17 hx17 h => WO.loadE hx17 rfl rfl rfl rfl rfl rfl<|bE h fun x18 hx18 h => WO.quoG hx18 rfl rfl rfl rfl rfl rfl<|bE h fun x20 hx20 h => WO.eltG hx20 rfl rfl rfl rfl rfl rfl rfl rfl<|bE h fun x21 hx21 h => WO.storeE (g := (PD.int .i64)) (sz := 1) (p := .int .i64 x14) hx21 (fun _ => rfl) (fun _ => rfl) rfl rfl rfl rfl rfl rfl rfl rfl rfl<|bE h fun x23 hx23 h => WO.eltG hx23 rfl rfl rfl rfl rfl rfl rfl rfl ?_
   refine bE h fun x24 hx24 h => WO.storeE (g := (PD.int .i64)) (sz := 1) (p := .int .i64 x18) hx24 (fun _ => rfl) (fun _ => rfl) rfl rfl rfl rfl rfl rfl rfl rfl rfl ?_
   refine sN<|sO<|WC.region rfl rfl<|sV (rI (rW (s4 + (1 : Int))))<|sM rfl<|sN ?_
   cases oI h
   exact ⟨rfl, rfl⟩
  refine sN<|qS<|cF<|qX ?_
  cases oI h
  exact ⟨nofun, rfl, rfl⟩
 intro e R' B' he hq
 obtain ⟨rfl, hI⟩ := hq
 refine qE<|gS rfl hI<|sV (.agg [rI x1.1.bt, .ref 96 0, .ref 97 0, rI x2.1, rI (rW ((1 : Int) + x3.1))])<|sS 32 (.var [rI x1.1.bt, .ref 96 0, .ref 97 0, rI x2.1, rI (rW ((1 : Int) + x3.1))])<|sN<|qR ?_
 cases oI h
 exact qD
theorem kD {a1 : Int} {d0 : ah} {r : aG × ah} (h : ew a1 d0 = some r) : EvP prog av ext 10 [.ptr 0 0, rI a1] [.var [.d (.lst (d0.fL.map (PD.int .i64))), rI d0.fAt]] (.d (aG.pd r.1), [.var [.d (.lst (r.2.fL.map (PD.int .i64))), rI r.2.fAt]]) := by
 refine Ev.body rfl Tryz.func10 rfl (by kernel_rfl)<|gS rfl rfl<|sB (.ptr 64 0) 64 (.var zZ0)<|sN<|gS rfl rfl<|sM rfl<|sM rfl<|bE h fun x1 hx1 h => cR (.d (bd.pd x1.1)) [(0, .var [.d (.lst (x1.2.fL.map (PD.int .i64))), rI x1.2.fAt])] (yc hx1)<|sM rfl<|bE h fun x2 hx2 h => cR (.d (cu.pd x2.1)) [(0, .var [.d (.lst (x2.2.fL.map (PD.int .i64))), rI x2.2.fAt])] (Src_Scale_ev hx2)<|sM rfl<|sV (.d (.lst ([0, 0, 10, 40].map (PD.int .i64))))<|bE h fun x3 hx3 h => ?_
 refine cR (rI x3.1) [(0, .var [.d (.lst (x3.2.fL.map (PD.int .i64))), rI x3.2.fAt])] (cE hx3)<|sG (.d (.agg [.int .i64 x1.1.aS.a8.fX, .int .i64 x1.1.aS.a8.fY, .int .i64 x1.1.aS.a8.fZ, .int .i64 x1.1.aS.aU.fX, .int .i64 x1.1.aS.aU.fY, .int .i64 x1.1.aS.aU.fZ, .int .i64 x1.1.bv.bt, .lst (x1.1.bv.a8.map (PD.int .i64)), .lst (x1.1.bv.aU.map (PD.int .i64)), .int .i64 x1.1.vw, .int .i64 x1.1.br, .int .i64 x1.1.jJ, .int .i64 x1.1.kj, .int .i64 x1.1.kg, .int .i64 x2.1.aZ.bt, .lst (x2.1.aZ.a8.map (PD.int .i64)), .lst (x2.1.aZ.aU.map (PD.int .i64)), .int .i64 x2.1.aX, .int .i64 x2.1.aP, .int .i64 x3.1]))<|sH 64 (.var [rI x1.1.aS.a8.fX, rI x1.1.aS.a8.fY, rI x1.1.aS.a8.fZ, rI x1.1.aS.aU.fX, rI x1.1.aS.aU.fY, rI x1.1.aS.aU.fZ, rI x1.1.bv.bt, .d (.lst (x1.1.bv.a8.map (PD.int .i64))), .d (.lst (x1.1.bv.aU.map (PD.int .i64))), rI x1.1.vw, rI x1.1.br, rI x1.1.jJ, rI x1.1.kj, rI x1.1.kg, rI x2.1.aZ.bt, .d (.lst (x2.1.aZ.a8.map (PD.int .i64))), .d (.lst (x2.1.aZ.aU.map (PD.int .i64))), rI x2.1.aX, rI x2.1.aP, rI x3.1])<|sN<|qR ?_
 cases oI h
 exact qG
theorem rx {d0 : ah} {r : aD × ah} (h : ga d0 = some r) : EvP prog av ext 42 [.ptr 0 0] [.var [.d (.lst (d0.fL.map (PD.int .i64))), rI d0.fAt]] (.d (aD.pd r.1), [.var [.d (.lst (r.2.fL.map (PD.int .i64))), rI r.2.fAt]]) := by
 refine Ev.body rfl Tryz.func42 rfl (by kernel_rfl)<|gS rfl rfl<|sB (.ptr 32 0) 32 (.var [.nils])<|sN<|gS rfl rfl<|sB (.ptr 48 0) 48 (.var [.nils])<|sN<|qS<|gS rfl rfl<|sM rfl<|bE h fun x1 hx1 h => cR (rI x1.1) [(0, .var [.d (.lst (x1.2.fL.map (PD.int .i64))), rI x1.2.fAt])] (bw hx1)<|sA rfl<|sN<|bE h fun o28 ho28 h => ?_
 refine WC.block (WC.loop (WL.ofLoop ho28 (fun s R' B' => ghosts prog 1 (A R' B') (av.at_ 42 1 3) = some (A [(0, .ptr 0 0), (2, .ptr 32 0), (3, .ptr 48 0), (4, rI s.1)] [(0, .var [.d (.lst (s.2.1.map (PD.int .i64))), rI s.2.2.1]), (32, .var [.nils]), (48, .var [.ref 1040 0]), (1040, .arr 0 137 (s.2.2.2.map ar.pd))])) (fun o e R' B' => e = .exit 0 ∧ ghosts prog 1 (A R' B') (av.at_ 42 1 13) = some (A [(2, .ptr 32 0), (3, .ptr 48 0)] [(0, .var [.d (.lst (o.1.map (PD.int .i64))), rI o.2.1]), (32, .var [.nils]), (48, .var [.ref 1040 0]), (1040, .arr 0 137 (o.2.2.map ar.pd))])) rfl ?_ ?_))
 ·rintro ⟨s2, s3, s4, s5⟩ R' B' q9 hI h
  refine qS<|gS rfl hI<|sM rfl<|sF h (fun h => ?_) fun h => ?_
  ·refine sN<|cT<|qK<|qS<|qB<|gS rfl rfl<|sM rfl<|bE h fun x11 hx11 h => cR (rI x11.1) [(0, .var [.d (.lst (x11.2.fL.map (PD.int .i64))), rI x11.2.fAt])] (bw hx11)<|sG (.agg [rI x11.1, r0, r0, r0, r0, r0, r0, .nils, r0, r0])<|sB (.ptr 80 0) 80 (.var [r0, r0, r0, r0, r0, r0, r0, .nils, r0, r0])<|sH 80 (.var [rI x11.1, r0, r0, r0, r0, r0, r0, .nils, r0, r0])<|sN<|qS<|gS rfl rfl ?_
   refine sV (.ptr 80 0)<|sL rfl<|sN<|qB<|gS rfl rfl<|sF h (fun h => ?_) fun h => ?_
   ·refine sA rfl<|sN<|cT<|WC.region rfl rfl<|sM rfl<|sV (.d (.lst ([0, 1, 9, 99, 1048575].map (PD.int .i64))))<|bE h fun x13 hx13 h => cR (rI x13.1) [(0, .var [.d (.lst (x13.2.fL.map (PD.int .i64))), rI x13.2.fAt])] (cE hx13)<|sV (rI (rW ((1 : Int) + x13.1)))<|sM rfl<|sV (.d (.lst ([0, 0, 2, 9, 999].map (PD.int .i64))))<|bE h fun x14 hx14 h => cR (rI x14.1) [(0, .var [.d (.lst (x14.2.fL.map (PD.int .i64))), rI x14.2.fAt])] (cE hx14)<|sV (rI (rW ((1 : Int) + x14.1)))<|sV (.ptr 80 1) ?_
    refine sV (.ptr 80 1)<|sS 80 (.var [rI x11.1, rI (rW ((1 : Int) + x13.1)), r0, r0, r0, r0, r0, .nils, r0, r0])<|sV (.ptr 80 4)<|sV (.ptr 80 4)<|sS 80 (.var [rI x11.1, rI (rW ((1 : Int) + x13.1)), r0, r0, rI (rW ((1 : Int) + x14.1)), r0, r0, .nils, r0, r0])<|sN<|WC.region rfl rfl<|sV (.ptr 48 0)<|sL rfl<|sV (.agg [rI x11.1, rI (rW ((1 : Int) + x13.1)), r0, r0, rI (rW ((1 : Int) + x14.1)), r0, r0, .nils, r0, r0])<|sG (.d (.lst ([(ar.mk x11.1 (aV.mk (rW ((1 : Int) + x13.1)) 0 0) (aV.mk (rW ((1 : Int) + x14.1)) 0 0) [] 0 0)].map ar.pd)))<|bE h fun x15 hx15 h => aR hx15 (fun _ => rfl) rfl<|sV (.ptr 48 0)<|sS 48 (.var [.ref 1040 1]) ?_
    refine sN<|WC.region rfl rfl<|sM rfl<|sV (rI (rW (s2 - (1 : Int))))<|sA rfl<|sN ?_
    cases oI h
    exact ⟨rfl, rfl⟩
   refine sA rfl<|sN<|cF<|gS rfl rfl<|sF h (fun h => ?_) fun h => ?_
   ·refine sA rfl<|sN<|cT<|WC.region rfl rfl<|sM rfl<|bE h fun x17 hx17 h => cR (rI x17.1) [(0, .var [.d (.lst (x17.2.fL.map (PD.int .i64))), rI x17.2.fAt])] (bw hx17)<|sM rfl<|bE h fun x18 hx18 h => cR (rI x18.1) [(0, .var [.d (.lst (x18.2.fL.map (PD.int .i64))), rI x18.2.fAt])] (bw hx18)<|sV (rI (rW (x18.1 - (3 : Int))))<|sM rfl<|bE h fun x19 hx19 h => cR (rI x19.1) [(0, .var [.d (.lst (x19.2.fL.map (PD.int .i64))), rI x19.2.fAt])] (bw hx19)<|sV (rI (rW (x19.1 - (1 : Int)))) ?_
    refine sV (.d (aV.pd (aV.mk x17.1 (rW (x18.1 - (3 : Int))) (rW (x19.1 - (1 : Int))))))<|sM rfl<|bE h fun x20 hx20 h => cR (rI x20.1) [(0, .var [.d (.lst (x20.2.fL.map (PD.int .i64))), rI x20.2.fAt])] (bw hx20)<|sV (rI (rW ((1 : Int) + x20.1)))<|sM rfl<|bE h fun x21 hx21 h => cR (rI x21.1) [(0, .var [.d (.lst (x21.2.fL.map (PD.int .i64))), rI x21.2.fAt])] (bw hx21)<|sM rfl<|bE h fun x22 hx22 h => cR (rI x22.1) [(0, .var [.d (.lst (x22.2.fL.map (PD.int .i64))), rI x22.2.fAt])] (bw hx22)<|sV (.d (aV.pd (aV.mk (rW ((1 : Int) + x20.1)) x21.1 x22.1)))<|sV (.ptr 80 1)<|sS 80 (.var [rI x11.1, rI x17.1, rI (rW (x18.1 - (3 : Int))), rI (rW (x19.1 - (1 : Int))), r0, r0, r0, .nils, r0, r0])<|sV (.ptr 80 4) ?_
    refine sS 80 (.var [rI x11.1, rI x17.1, rI (rW (x18.1 - (3 : Int))), rI (rW (x19.1 - (1 : Int))), rI (rW ((1 : Int) + x20.1)), rI x21.1, rI x22.1, .nils, r0, r0])<|sN<|WC.region rfl rfl<|sV (.ptr 48 0)<|sL rfl<|sV (.agg [rI x11.1, rI x17.1, rI (rW (x18.1 - (3 : Int))), rI (rW (x19.1 - (1 : Int))), rI (rW ((1 : Int) + x20.1)), rI x21.1, rI x22.1, .nils, r0, r0])<|sG (.d (.lst ([(ar.mk x11.1 (aV.mk x17.1 (rW (x18.1 - (3 : Int))) (rW (x19.1 - (1 : Int)))) (aV.mk (rW ((1 : Int) + x20.1)) x21.1 x22.1) [] 0 0)].map ar.pd)))<|bE h fun x23 hx23 h => aR hx23 (fun _ => rfl) rfl<|sV (.ptr 48 0)<|sS 48 (.var [.ref 1040 1])<|sN<|WC.region rfl rfl<|sM rfl<|sV (rI (rW (s2 - (1 : Int)))) ?_
    refine sA rfl<|sN ?_
    cases oI h
    exact ⟨rfl, rfl⟩
   refine sA rfl<|sN<|cF<|WC.region rfl rfl<|sM rfl<|bE h fun x24 hx24 h => cR (rI x24.1) [(0, .var [.d (.lst (x24.2.fL.map (PD.int .i64))), rI x24.2.fAt])] (bw hx24)<|sV (rI (rW ((1 : Int) + x24.1)))<|sV (.d (.lst ([(rW ((1 : Int) + x24.1)), 2, 1].map (PD.int .i64))))<|sM rfl<|bE h fun x25 hx25 h => cR (rI x25.1) [(0, .var [.d (.lst (x25.2.fL.map (PD.int .i64))), rI x25.2.fAt])] (bw hx25)<|sV (.ptr 80 7)<|sS 80 (.var [rI x11.1, r0, r0, r0, r0, r0, r0, .d (.lst ([(rW ((1 : Int) + x24.1)), 2, 1].map (PD.int .i64))), r0, r0])<|sV (.ptr 80 8) ?_
   refine sS 80 (.var [rI x11.1, r0, r0, r0, r0, r0, r0, .d (.lst ([(rW ((1 : Int) + x24.1)), 2, 1].map (PD.int .i64))), rI 1, r0])<|sV (.ptr 80 9)<|sS 80 (.var [rI x11.1, r0, r0, r0, r0, r0, r0, .d (.lst ([(rW ((1 : Int) + x24.1)), 2, 1].map (PD.int .i64))), rI 1, rI x25.1])<|sN<|WC.region rfl rfl<|sV (.ptr 48 0)<|sL rfl<|sV (.d (.agg [.int .i64 x11.1, .int .i64 0, .int .i64 0, .int .i64 0, .int .i64 0, .int .i64 0, .int .i64 0, .lst ([(rW ((1 : Int) + x24.1)), 2, 1].map (PD.int .i64)), .int .i64 1, .int .i64 x25.1]))<|sG (.d (.lst ([(ar.mk x11.1 (aV.mk 0 0 0) (aV.mk 0 0 0) [(rW ((1 : Int) + x24.1)), 2, 1] 1 x25.1)].map ar.pd)))<|bE h fun x26 hx26 h => aR hx26 (fun _ => rfl) rfl<|sV (.ptr 48 0)<|sS 48 (.var [.ref 1040 1])<|sN<|WC.region rfl rfl ?_
   refine sM rfl<|sV (rI (rW (s2 - (1 : Int))))<|sA rfl<|sN ?_
   cases oI h
   exact ⟨rfl, rfl⟩
  refine sN<|cF<|qX ?_
  cases oI h
  exact ⟨nofun, rfl, rfl⟩
 intro e R' B' he hq
 obtain ⟨rfl, hI⟩ := hq
 refine qE<|gS rfl hI<|sV (.agg [.ref 1040 0])<|sS 32 (.var [.ref 1040 0])<|sN<|qR ?_
 cases oI h
 exact qD
theorem oS {a0 : Int} {r : ag} (h : fu a0 = some r) : EvP prog av ext 36 [rI a0] [] (.d (ag.pd r), []) := by
 refine Ev.body rfl Tryz.func36 rfl (by kernel_rfl)<|gS rfl rfl<|sB (.ptr 32 0) 32 (.var [rS [], rS [], rS [], rS []])<|sN<|gS rfl rfl<|sV (.d (.lst ([[83, 49], [83, 50], [83, 51], [83, 52], [83, 53], [83, 54]].map PD.str)))<|sM rfl<|bE h fun x1 hx1 h => cD (keep_Mod_ev hx1)<|bE h fun x2 hx2 h => eG hx2 rfl<|sC rfl<|sV (.d (ag.pd (ag.mk [65, 66] x2 [48, 48] [66, 72, 90])))<|sS 32 (.var [rS [65, 66], rS x2, rS [48, 48], rS [66, 72, 90]])<|sN ?_
 refine qR ?_
 cases oI h
 exact qD
theorem oL {a1 : Int} {d0 : ah} {r : ae × ah} (h : jb a1 d0 = some r) : EvP prog av ext 11 [.ptr 0 0, rI a1] [.var [.d (.lst (d0.fL.map (PD.int .i64))), rI d0.fAt]] (.d (ae.pd r.1), [.var [.d (.lst (r.2.fL.map (PD.int .i64))), rI r.2.fAt]]) := by
 refine Ev.body rfl Tryz.func11 rfl (by kernel_rfl)<|gS rfl rfl<|sB (.ptr 64 0) 64 (.var [.nils])<|sN<|gS rfl rfl<|sB (.ptr 80 0) 80 (.var [.nils])<|sN<|qS<|gS rfl rfl<|sV (r0)<|sN<|bE h fun o34 ho34 h => WC.block (WC.loop (WL.ofLoop ho34 (fun s R' B' => ghosts prog 1 (A R' B') (av.at_ 11 1 3) = some (A [(0, .ptr 0 0), (1, rI a1), (4, .ptr 64 0), (5, .ptr 80 0), (6, rI s.1)] [(0, .var [.d (.lst (s.2.1.map (PD.int .i64))), rI s.2.2.1]), (64, .var [.nils]), (80, .var [.ref 1104 0]), (1104, .arr 0 99 (s.2.2.2.map ac.pd))])) (fun o e R' B' => e = .exit 0 ∧ ghosts prog 1 (A R' B') (av.at_ 11 1 16) = some (A [(4, .ptr 64 0), (5, .ptr 80 0)] [(0, .var [.d (.lst (o.1.map (PD.int .i64))), rI o.2.1]), (64, .var [.nils]), (80, .var [.ref 1104 0]), (1104, .arr 0 99 (o.2.2.map ac.pd))])) rfl ?_ ?_))
 ·rintro ⟨s1, s2, s3, s4⟩ R' B' q8 hI h
  refine qS<|gS rfl hI<|sM rfl<|sM rfl<|sF h (fun h => ?_) fun h => ?_
  ·refine sM rfl<|sM rfl<|sV (rB (decide (s1 < (6 : Int))))<|sF h (fun h => ?_) fun h => ?_
   ·refine sN<|cT<|qK<|qS<|qB<|gS rfl rfl<|sV (.d (aT.pd (aT.mk 100 1)))<|sM rfl<|bE h fun x11 hx11 h => cR (.d (ap.pd x11.1)) [(0, .var [.d (.lst (x11.2.fL.map (PD.int .i64))), rI x11.2.fAt])] (sn hx11)<|sM rfl<|bE h fun x12 hx12 h => cR (.d (aD.pd x12.1)) [(0, .var [.d (.lst (x12.2.fL.map (PD.int .i64))), rI x12.2.fAt])] (rx hx12)<|sG (.d (.agg [.int .i64 0, .int .i64 100000, .int .i64 100, .int .i64 1, .int .i64 x11.1.fX, .int .i64 x11.1.fY, .int .i64 x11.1.fZ, .lst (x12.1.aO.map ar.pd)]))<|sB (.ptr 112 0) 112 (.var zZ2) ?_
    refine sH 112 (.var [r0, rI 100000, rI 100, rI 1, rI x11.1.fX, rI x11.1.fY, rI x11.1.fZ, .d (.lst (x12.1.aO.map ar.pd))])<|sN<|WC.regionDSeq rfl rfl<|sM rfl<|bE h fun x13 hx13 h => cD (oS hx13)<|sV (.d (.agg [.int .i64 0, .int .i64 100000, .int .i64 100, .int .i64 1, .int .i64 x11.1.fX, .int .i64 x11.1.fY, .int .i64 x11.1.fZ, .lst (x12.1.aO.map ar.pd)]))<|sB (.ref 448 0) 448 (.arr 0 96 ([(ai.mk 0 100000 (aT.mk 100 1) x11.1 x12.1)].map ai.pd))<|sV (.agg [rS x13.aB, rS x13.aA, rS x13.aw, rS x13.aC, .ref 448 0])<|sB (.ptr 128 0) 128 (.var zZ3)<|sS 128 (.var [rS x13.aB, rS x13.aA, rS x13.aw, rS x13.aC, .ref 448 0]) ?_
    refine sN<|sO<|qS<|gS rfl rfl<|sM rfl<|bE h fun x14 hx14 h => cR (rI x14.1) [(0, .var [.d (.lst (x14.2.fL.map (PD.int .i64))), rI x14.2.fAt])] (bw hx14)<|sN<|qB<|gS rfl rfl<|sF h (fun h => ?_) fun h => ?_
    ·refine sA rfl<|sN<|cT<|gS rfl rfl<|sV (.d (.agg [.int .i64 0, .int .i64 100000, .int .i64 100, .int .i64 1, .int .i64 x11.1.fX, .int .i64 x11.1.fY, .int .i64 x11.1.fZ, .lst (x12.1.aO.map ar.pd)]))<|sB (.ptr 144 0) 144 (.var zZ2)<|sH 144 (.var [r0, rI 100000, rI 100, rI 1, rI x11.1.fX, rI x11.1.fY, rI x11.1.fZ, .d (.lst (x12.1.aO.map ar.pd))])<|sN<|gS rfl rfl<|sM rfl<|bE h fun x16 hx16 h => cR (rI x16.1) [(0, .var [.d (.lst (x16.2.fL.map (PD.int .i64))), rI x16.2.fAt])] (bw hx16)<|sV (rI (rW ((1500 : Int) + x16.1)))<|sM rfl<|bE h fun x17 hx17 h => ?_
     refine cR (.d (ap.pd x17.1)) [(0, .var [.d (.lst (x17.2.fL.map (PD.int .i64))), rI x17.2.fAt])] (sn hx17)<|sM rfl<|bE h fun x18 hx18 h => cR (.d (aD.pd x18.1)) [(0, .var [.d (.lst (x18.2.fL.map (PD.int .i64))), rI x18.2.fAt])] (rx hx18)<|sV (.ptr 144 0)<|sS 144 (.var [rI (rW ((1500 : Int) + x16.1)), rI 100000, rI 100, rI 1, rI x11.1.fX, rI x11.1.fY, rI x11.1.fZ, .d (.lst (x12.1.aO.map ar.pd))])<|sV (.ptr 144 4)<|sS 144 (.var [rI (rW ((1500 : Int) + x16.1)), rI 100000, rI 100, rI 1, rI x17.1.fX, rI x17.1.fY, rI x17.1.fZ, .d (.lst (x12.1.aO.map ar.pd))])<|sV (.ptr 144 7)<|sS 144 (.var [rI (rW ((1500 : Int) + x16.1)), rI 100000, rI 100, rI 1, rI x17.1.fX, rI x17.1.fY, rI x17.1.fZ, .d (.lst (x18.1.aO.map ar.pd))])<|sN<|gS rfl rfl<|sV (.ptr 128 4)<|sL rfl<|sV (.ptr 144 0) ?_
     refine sL rfl<|bE h fun x20 hx20 h => WO.eltG hx20 rfl rfl rfl rfl rfl rfl rfl rfl<|sV (.elt 448 0 ((0 : Int)).toNat 1)<|bE h fun x21 hx21 h => WO.storeF (g := ai.pd) (u := []) (sz := 1) hx21 (fun _ => rfl) (fun _ => Nat.le_of_ble_eq_true rfl) rfl rfl rfl rfl rfl rfl rfl rfl rfl rfl rfl<|sN<|WC.region rfl rfl<|sV (.ptr 128 4)<|sL rfl<|sV (.d (.agg [.int .i64 (rW ((1500 : Int) + x16.1)), .int .i64 100000, .int .i64 100, .int .i64 1, .int .i64 x17.1.fX, .int .i64 x17.1.fY, .int .i64 x17.1.fZ, .lst (x18.1.aO.map ar.pd)]))<|sG (.d (.lst ([(ai.mk (rW ((1500 : Int) + x16.1)) 100000 (aT.mk 100 1) x17.1 x18.1)].map ai.pd)))<|bE h fun x23 hx23 h => aR hx23 (fun _ => rfl) rfl<|sV (.ptr 128 4) ?_
     refine sS 128 (.var [rS x13.aB, rS x13.aA, rS x13.aw, rS x13.aC, .ref 448 1])<|sN<|WC.region rfl rfl<|sV (.ptr 80 0)<|sL rfl<|sV (.agg [rS x13.aB, rS x13.aA, rS x13.aw, rS x13.aC, .ref 448 1])<|sB (.d (.lst [ac.pd (ac.mk x13 x23)])) 448 .dead<|bE h fun x24 hx24 h => aR hx24 (fun _ => rfl) rfl<|sV (.ptr 80 0)<|sS 80 (.var [.ref 1104 1])<|sN<|WC.region rfl rfl<|sM rfl<|sV (rI (rW (s1 + (1 : Int)))) ?_
     refine sA rfl<|sN ?_
     cases oI h
     exact ⟨rfl, rfl⟩
    refine sA rfl<|sN<|cF<|gS rfl rfl<|sF h (fun h => ?_) fun h => ?_
    ·refine sA rfl<|sN<|cT<|WC.regionD rfl rfl<|sV (.ptr 128 4)<|sL rfl<|sM rfl<|bE h fun x26 hx26 h => cR (rI x26.1) [(0, .var [.d (.lst (x26.2.fL.map (PD.int .i64))), rI x26.2.fAt])] (bw hx26)<|bE h fun x28 hx28 h => WO.eltG hx28 rfl rfl rfl rfl rfl rfl rfl rfl<|sV (.elt 448 0 ((0 : Int)).toNat 0)<|bE h fun x29 hx29 h => WO.storeF (g := ai.pd) (u := []) (sz := 1) hx29 (fun _ => rfl) (fun _ => Nat.le_of_ble_eq_true rfl) rfl rfl rfl rfl rfl rfl rfl rfl rfl rfl rfl ?_
     refine sN<|sO<|WC.region rfl rfl<|sV (.ptr 80 0)<|sL rfl<|sV (.agg [rS x13.aB, rS x13.aA, rS x13.aw, rS x13.aC, .ref 448 0])<|sB (.d (.lst [ac.pd (ac.mk x13 x29)])) 448 .dead<|bE h fun x31 hx31 h => aR hx31 (fun _ => rfl) rfl<|sV (.ptr 80 0)<|sS 80 (.var [.ref 1104 1])<|sN<|WC.region rfl rfl<|sM rfl<|sV (rI (rW (s1 + (1 : Int))))<|sA rfl ?_
     refine sN ?_
     cases oI h
     exact ⟨rfl, rfl⟩
    refine sA rfl<|sN<|cF<|qK<|WC.region rfl rfl<|sV (.ptr 80 0)<|sL rfl<|sV (.agg [rS x13.aB, rS x13.aA, rS x13.aw, rS x13.aC, .ref 448 0])<|sB (.d (.lst [ac.pd (ac.mk x13 [(ai.mk 0 100000 (aT.mk 100 1) x11.1 x12.1)])])) 448 .dead<|bE h fun x32 hx32 h => aR hx32 (fun _ => rfl) rfl<|sV (.ptr 80 0)<|sS 80 (.var [.ref 1104 1])<|sN<|WC.region rfl rfl ?_
    refine sM rfl<|sV (rI (rW (s1 + (1 : Int))))<|sA rfl<|sN ?_
    cases oI h
    exact ⟨rfl, rfl⟩
   refine sN<|cF<|qX ?_
   cases oI h
   exact ⟨nofun, rfl, rfl⟩
  refine sM rfl<|sK<|sK<|sU<|sN<|cF<|qX ?_
  cases oI h
  exact ⟨nofun, rfl, rfl⟩
 intro e R' B' he hq
 obtain ⟨rfl, hI⟩ := hq
 refine qE<|gS rfl hI<|sV (.agg [.ref 1104 0])<|sS 64 (.var [.ref 1104 0])<|sN<|qR ?_
 cases oI h
 exact qD
theorem vr {a1 : Int} {a2 : Int} {d0 : ah} {r : Int × ah} (h : oe a1 a2 d0 = some r) : EvP prog av ext 74 [.ptr 0 0, rI a1, rI a2] [.var [.d (.lst (d0.fL.map (PD.int .i64))), rI d0.fAt]] (rI r.1, [.var [.d (.lst (r.2.fL.map (PD.int .i64))), rI r.2.fAt]]) := by
 refine Ev.body rfl Tryz.func74 rfl (by kernel_rfl)<|gS rfl rfl<|sV (r0)<|sN<|gS rfl rfl<|sM rfl<|sM rfl<|sM rfl<|sM rfl<|sV (rI (rW (a2 - a1)))<|sV (rI (rW ((rW (a2 - a1)) + (1 : Int))))<|bE h fun x1 hx1 h => cR (rI x1.1) [(0, .var [.d (.lst (x1.2.fL.map (PD.int .i64))), rI x1.2.fAt])] (bw hx1)<|sV (rI (rW (a1 + x1.1)))<|sA rfl ?_
 refine sN<|qR ?_
 cases oI h
 exact qD
theorem yH {a1 : aL} {d0 : ah} {r : ap × ah} (h : pX a1 d0 = some r) : EvP prog av ext 34 [.ptr 0 0, .d (aL.pd a1)] [.var [.d (.lst (d0.fL.map (PD.int .i64))), rI d0.fAt]] (.d (ap.pd r.1), [.var [.d (.lst (r.2.fL.map (PD.int .i64))), rI r.2.fAt]]) := by
 refine Ev.body rfl Tryz.func34 rfl (by kernel_rfl)<|gS rfl rfl<|sB (.ptr 48 0) 48 (.var (aL.rc a1))<|sB (.ptr 64 0) 64 (.var [r0, r0, r0])<|sN<|WC.regionDSeq rfl rfl<|sM rfl<|sV (.ptr 48 0)<|sV (.ptr 48 0)<|sL rfl<|sV (.ptr 48 3)<|sV (.ptr 48 3)<|sL rfl<|bE h fun x1 hx1 h => cR (rI x1.1) [(0, .var [.d (.lst (x1.2.fL.map (PD.int .i64))), rI x1.2.fAt])] (vr hx1) ?_
 refine sM rfl<|sV (.ptr 48 0)<|sV (.ptr 48 1)<|sL rfl<|sV (.ptr 48 3)<|sV (.ptr 48 4)<|sL rfl<|bE h fun x2 hx2 h => cR (rI x2.1) [(0, .var [.d (.lst (x2.2.fL.map (PD.int .i64))), rI x2.2.fAt])] (vr hx2)<|sM rfl<|sV (.ptr 48 0)<|sV (.ptr 48 2)<|sL rfl<|sV (.ptr 48 3)<|sV (.ptr 48 5) ?_
 refine sL rfl<|bE h fun x3 hx3 h => cR (rI x3.1) [(0, .var [.d (.lst (x3.2.fL.map (PD.int .i64))), rI x3.2.fAt])] (vr hx3)<|sV (.d (ap.pd (ap.mk x1.1 x2.1 x3.1)))<|sS 64 (.var [rI x1.1, rI x2.1, rI x3.1]) ?_
 refine sN<|sO<|qR ?_
 cases oI h
 exact qD
theorem keep_place_ev {a0 : ae} {a1 : ag} {a2 : Int} {r : ap × Bool} (h : p7 a0 a1 a2 = some r) : EvP prog av ext 37 [.d (ae.pd a0), .d (ag.pd a1), rI a2] [] (.tup [.d (ap.pd r.1), rB r.2], []) := by
 refine Ev.body rfl Tryz.func37 rfl (by kernel_rfl)<|gS rfl rfl<|sB (.ptr 48 0) 48 (.var [.d (.lst (a0.aq.map ac.pd))])<|sB (.ptr 64 0) 64 (.var [rS a1.aB, rS a1.aA, rS a1.aw, rS a1.aC])<|sB (.ptr 96 0) 96 (.var [r0, r0, r0])<|sU<|sN<|qS<|gS rfl rfl<|sV (.ptr 48 0)<|sL rfl<|sE (rI (a0.aq.length : Int)) (lenMap _ _)<|sV (r0)<|sN<|bE h fun o18 ho18 h => ?_
 refine WC.block (WC.loop (WL.ofLoop ho18 (fun s R' B' => ghosts prog 0 (A R' B') (av.at_ 37 0 2) = some (A [(2, rI a2), (4, .ptr 64 0), (6, .ptr 96 0), (13, .d (.lst (a0.aq.map ac.pd))), (14, rI (a0.aq.length : Int)), (15, rI s)] [(64, .var [rS a1.aB, rS a1.aA, rS a1.aw, rS a1.aC]), (96, .var [r0, r0, r0])])) (fun o e R' B' => match o with | .inl y => e = .exit 0 ∧ ghosts prog 0 (A R' B') (av.at_ 37 0 11) = some (A [(6, .ptr 96 0)] [(96, .var [r0, r0, r0])]) | .inr r => e = .ret ∧ finish prog (av.own 37) Tryz.f37 0 (A R' B') = some (.tup [.d (ap.pd r.1), rB r.2], [])) rfl ?_ ?_))
 ·rintro s1 R' B' q2 hI h
  refine gS rfl hI<|sF h (fun h => ?_) fun h => ?_
  ·refine sN<|qS<|cT<|qK<|qS<|qB<|gS rfl rfl<|bE h fun x4 hx4 h => eG hx4 rfl<|sV (.d (ac.pd x4))<|sB (.ptr 144 0) 144 (.var zZ3)<|sS 144 (.var (ac.rc x4))<|sN<|gS rfl rfl<|sV (.ptr 144 4) ?_
   refine sL rfl<|sE (rI (x4.aQ.length : Int)) (lenMap _ _)<|sV (r0)<|sN<|bE h fun o14 ho14 h => WC.block (WC.loop (WL.ofLoop ho14 (fun s R' B' => ghosts prog 0 (A R' B') (av.at_ 37 0 5) = some (A [(2, rI a2), (4, .ptr 64 0), (6, .ptr 96 0), (9, .ptr 144 0), (13, .d (.lst (a0.aq.map ac.pd))), (14, rI (a0.aq.length : Int)), (15, rI s1), (20, .d (.lst (x4.aQ.map ai.pd))), (21, rI (x4.aQ.length : Int)), (22, rI s)] [(64, .var [rS a1.aB, rS a1.aA, rS a1.aw, rS a1.aC]), (96, .var [r0, r0, r0]), (144, .var (ac.rc x4))])) (fun o e R' B' => match o with | .inl y => e = .exit 2 ∧ ghosts prog 0 (A R' B') (av.at_ 37 0 10) = some (A [(2, rI a2), (4, .ptr 64 0), (6, .ptr 96 0), (13, .d (.lst (a0.aq.map ac.pd))), (14, rI (a0.aq.length : Int)), (15, rI y)] [(64, .var [rS a1.aB, rS a1.aA, rS a1.aw, rS a1.aC]), (96, .var [r0, r0, r0])]) | .inr r => e = .ret ∧ finish prog (av.own 37) Tryz.f37 0 (A R' B') = some (.tup [.d (ap.pd r.1), rB r.2], [])) rfl ?_ ?_))
   ·rintro s5 R' B' q7 hI h
    refine gS rfl hI<|sF h (fun h => ?_) fun h => ?_
    ·refine sN<|qS<|cT<|qK<|qS<|qB<|gS rfl rfl<|bE h fun x9 hx9 h => eG hx9 rfl<|sV (.d (ai.pd x9))<|sB (.ptr 176 0) 176 (.var zZ2)<|sH 176 (.var (ai.rc x9))<|sN<|gS rfl rfl<|sV (.ptr 144 0) ?_
     refine sV (.d (ag.pd x4.al))<|sV (.d (ag.pd a1))<|ite_elim h (fun hb10 h => ?_) (fun hb10 h => ?_)
     ·refine WO.binS (sW x4.al a1) hb10 rfl rfl rfl rfl rfl<|sM rfl<|sV (.ptr 176 0)<|sL rfl<|sM rfl<|sV (rB (decide (x9.aM ≤ a2)))<|sF h (fun h => ?_) fun h => ?_
      ·refine sM rfl<|sM rfl<|sV (.ptr 176 1)<|sL rfl<|sV (rB (decide (a2 < x9.fTo)))<|sF h (fun h => ?_) fun h => ?_
       ·refine sN<|cT<|gS rfl rfl<|sV (.ptr 176 4)<|sV (.d (ap.pd x9.aF))<|sS 96 (.var [rI x9.aF.fX, rI x9.aF.fY, rI x9.aF.fZ])<|sT<|sN<|qR ?_
        cases oI h
        exact ⟨nofun, rfl, rfl⟩
       refine sN<|cF<|qK<|WC.region rfl rfl<|sV (rI (rW (s5 + (1 : Int))))<|sM rfl<|sN ?_
       cases oI h
       exact ⟨rfl, rfl⟩
      refine sM rfl<|k3<|sK<|sU<|sN<|cF<|qK<|WC.region rfl rfl<|sV (rI (rW (s5 + (1 : Int))))<|sM rfl<|sN ?_
      cases oI h
      exact ⟨rfl, rfl⟩
     refine WO.binS (sW x4.al a1) hb10 rfl rfl rfl rfl rfl<|sM rfl<|k3<|sK<|sU<|sM rfl<|k3<|sK<|sU<|sN<|cF ?_
     refine qK<|WC.region rfl rfl<|sV (rI (rW (s5 + (1 : Int))))<|sM rfl<|sN ?_
     cases oI h
     exact ⟨rfl, rfl⟩
    refine sN<|qS<|cF<|qX ?_
    cases oI h
    exact ⟨nofun, rfl, rfl⟩
   intro e R' B' he hq
   rcases o14 with y15 | r16
   ·obtain ⟨rfl, hI⟩ := hq
    refine qE<|WC.region hI rfl<|sV (rI (rW (y15 + (1 : Int))))<|sM rfl<|sN ?_
    cases oI h
    exact ⟨rfl, rfl⟩
   obtain ⟨rfl, hf⟩ := hq
   cases oI h
   exact ⟨nofun, rfl, hf⟩
  refine sN<|qS<|cF<|qX ?_
  cases oI h
  exact ⟨nofun, rfl, rfl⟩
 intro e R' B' he hq
 rcases o18 with y19 | r20
 ·obtain ⟨rfl, hI⟩ := hq
  refine qE<|gS rfl hI<|sV (.d (ap.pd (ap.mk 0 0 0)))<|sS 96 (.var [r0, r0, r0])<|sU<|sN<|qR ?_
  cases oI h
  exact qD
 obtain ⟨rfl, hf⟩ := hq
 cases oI h
 exact hf
theorem yj {a0 : Int} {r : Int} (h : uj a0 = some r) : EvP prog av ext 38 [rI a0] [] (rI r, []) := by
 refine Ev.body rfl Tryz.func38 rfl (by kernel_rfl)<|gS rfl rfl<|sV (r0)<|sN<|gS rfl rfl<|sM rfl<|sM rfl<|sV (rI (rW (a0 * a0)))<|sA rfl<|sN<|qR ?_
 cases oI h
 exact qD
theorem kb {a1 : aG} {a2 : ae} {a3 : Int} {d0 : ah} {r : (List aa) × ah} (h : iZ a1 a2 a3 d0 = some r) : EvP prog av ext 9 [.ptr 0 0, .d (aG.pd a1), .d (ae.pd a2), rI a3] [.var [.d (.lst (d0.fL.map (PD.int .i64))), rI d0.fAt]] (.d (.lst (r.1.map aa.pd)), [.var [.d (.lst (r.2.fL.map (PD.int .i64))), rI r.2.fAt]]) := by
 refine Ev.body rfl Tryz.func9 rfl (by kernel_rfl)<|gS rfl rfl<|sB (.ptr 80 0) 80 (.var (aG.rc a1))<|sB (.ptr 96 0) 96 (.var [.d (.lst (a2.aq.map ac.pd))])<|sV .nils<|sN<|gS rfl rfl<|sV .nils<|sN<|gS rfl rfl<|sM rfl<|sV (.ptr 80 0)<|sV (.ptr 80 0)<|sV (.d (aL.pd a1.au.aS))<|bE h fun x1 hx1 h => ?_
 refine cR (.d (ap.pd x1.1)) [(0, .var [.d (.lst (x1.2.fL.map (PD.int .i64))), rI x1.2.fAt])] (yH hx1)<|sM rfl<|bE h fun x2 hx2 h => cR (rI x2.1) [(0, .var [.d (.lst (x2.2.fL.map (PD.int .i64))), rI x2.2.fAt])] (bw hx2)<|sV (rI (rW ((1000 : Int) + x2.1)))<|sB (.ptr 160 0) 160 (.var [r0, r0, r0])<|sS 160 (.var [rI x1.1.fX, rI x1.1.fY, rI x1.1.fZ])<|sA rfl<|sN<|qS<|gS rfl rfl<|sM rfl<|sM rfl<|sV (rI (rW (a3 + (1 : Int))))<|bE h fun x3 hx3 h => ?_
 refine cR (rI x3.1) [(0, .var [.d (.lst (x3.2.fL.map (PD.int .i64))), rI x3.2.fAt])] (bw hx3)<|sA rfl<|sN<|bE h fun o61 ho61 h => WC.block (WC.loop (WL.ofLoop ho61 (fun s R' B' => ghosts prog 1 (A R' B') (av.at_ 9 1 4) = some (A [(0, .ptr 0 0), (5, .ptr 80 0), (6, .ptr 96 0), (9, .ref 2192 0), (10, .ptr 160 0), (11, rI s.1), (12, rI s.2.1)] [(0, .var [.d (.lst (s.2.2.1.map (PD.int .i64))), rI s.2.2.2.1]), (80, .var (aG.rc a1)), (96, .var [.d (.lst (a2.aq.map ac.pd))]), (160, .var [rI s.2.2.2.2.2.1, rI s.2.2.2.2.2.2.1, rI s.2.2.2.2.2.2.2]), (2192, .arr 0 52 (s.2.2.2.2.1.map aa.pd))])) (fun o e R' B' => e = .exit 0 ∧ ghosts prog 1 (A R' B') (av.at_ 9 1 21) = some (A [(9, .ref 2192 0)] [(0, .var [.d (.lst (o.2.1.map (PD.int .i64))), rI o.2.2]), (2192, .arr 0 52 (o.1.map aa.pd))])) rfl ?_ ?_))
 ·rintro ⟨s4, s5, s6, s7, s8, s9, s10, s11⟩ R' B' q15 hI h
  refine qS<|gS rfl hI<|sM rfl<|sF h (fun h => ?_) fun h => ?_
  ·refine sN<|cT<|qK<|qS<|qB<|gS rfl rfl<|sM rfl<|bE h fun x17 hx17 h => cR (rI x17.1) [(0, .var [.d (.lst (x17.2.fL.map (PD.int .i64))), rI x17.2.fAt])] (bw hx17)<|bE h fun x18 hx18 h => cD (oS hx18)<|sM rfl<|sV (.d (.lst ([0, 1, 50, 1000, 1048576].map (PD.int .i64))))<|bE h fun x19 hx19 h => cR (rI x19.1) [(0, .var [.d (.lst (x19.2.fL.map (PD.int .i64))), rI x19.2.fAt])] (cE hx19) ?_
   refine sM rfl<|bE h fun x20 hx20 h => cR (rI x20.1) [(0, .var [.d (.lst (x20.2.fL.map (PD.int .i64))), rI x20.2.fAt])] (bw hx20)<|sV (rI (rW (x20.1 - (1 : Int))))<|sG (.d (aa.pd (aa.mk x18 0 0 0 x19.1 (rW (x20.1 - (1 : Int))))))<|sB (.ptr 208 0) 208 (.var zZ1)<|sH 208 (.var [rS x18.aB, rS x18.aA, rS x18.aw, rS x18.aC, r0, r0, r0, rI x19.1, rI (rW (x20.1 - (1 : Int)))])<|sN<|gS rfl rfl<|sM rfl<|bE h fun x21 hx21 h => cR (rI x21.1) [(0, .var [.d (.lst (x21.2.fL.map (PD.int .i64))), rI x21.2.fAt])] (bw hx21)<|sV (rI (rW ((1000 : Int) + x21.1)))<|sV (.ptr 208 5)<|sS 208 (.var [rS x18.aB, rS x18.aA, rS x18.aw, rS x18.aC, r0, rI (rW ((1000 : Int) + x21.1)), r0, rI x19.1, rI (rW (x20.1 - (1 : Int)))]) ?_
   refine sN<|WC.join (α := Int × Int × (List Int) × Int × (List aa) × Int × Int × Int × Int) (fun x R' B' => ghosts prog 1 (A R' B') (av.at_ 9 1 18) = some (A [(0, .ptr 0 0), (5, .ptr 80 0), (6, .ptr 96 0), (9, .ref 2192 0), (10, .ptr 160 0), (11, rI x.1), (12, rI x.2.1), (13, .ptr 208 0)] [(0, .var [.d (.lst (x.2.2.1.map (PD.int .i64))), rI x.2.2.2.1]), (80, .var (aG.rc a1)), (96, .var [.d (.lst (a2.aq.map ac.pd))]), (160, .var [rI x.2.2.2.2.2.1, rI x.2.2.2.2.2.2.1, rI x.2.2.2.2.2.2.2.1]), (208, .var [rS x18.aB, rS x18.aA, rS x18.aw, rS x18.aC, r0, rI x.2.2.2.2.2.2.2.2, r0, rI x19.1, rI (rW (x20.1 - (1 : Int)))]), (2192, .arr 0 52 (x.2.2.2.2.1.map aa.pd))])) (fun x => f9 x18 x19 x20 x.1 x.2.1 x.2.2.1 x.2.2.2.1 x.2.2.2.2.1 x.2.2.2.2.2.1 x.2.2.2.2.2.2.1 x.2.2.2.2.2.2.2.1 x.2.2.2.2.2.2.2.2 = some q15) ?_ ?_
   ·refine gS rfl rfl<|sM rfl<|bE h fun x35 hx35 h => cR (rI x35.1) [(0, .var [.d (.lst (x35.2.fL.map (PD.int .i64))), rI x35.2.fAt])] (bw hx35)<|sN<|qB<|gS rfl rfl<|sF h (fun h => ?_) fun h => ?_
    ·refine sA rfl<|sN<|cT<|WC.region rfl rfl<|sM rfl<|sV (.ptr 80 0)<|sV (.ptr 80 0)<|sV (.d (aL.pd a1.au.aS))<|bE h fun x37 hx37 h => cR (.d (ap.pd x37.1)) [(0, .var [.d (.lst (x37.2.fL.map (PD.int .i64))), rI x37.2.fAt])] (yH hx37)<|sM rfl<|sM rfl<|bE h fun x38 hx38 h => cR (rI x38.1) [(0, .var [.d (.lst (x38.2.fL.map (PD.int .i64))), rI x38.2.fAt])] (bw hx38)<|sV (rI (rW (s4 + x38.1))) ?_
     exact sS 160 (.var [rI x37.1.fX, rI x37.1.fY, rI x37.1.fZ])<|sA rfl<|sN<|⟨((rW (s4 + x38.1)), s5, x38.2.fL, x38.2.fAt, s8, x37.1.fX, x37.1.fY, x37.1.fZ, (rW ((1000 : Int) + x21.1))), rfl, h⟩
    refine sA rfl<|sN<|cF<|gS rfl rfl<|sF h (fun h => ?_) fun h => ?_
    ·exact sA rfl<|sN<|cT<|qK<|⟨(s4, s5, x35.2.fL, x35.2.fAt, s8, s9, s10, s11, (rW ((1000 : Int) + x21.1))), rfl, h⟩
    refine sA rfl<|sN<|cF<|gS rfl rfl<|sV (.d (ae.pd a2))<|sV (.ptr 208 0)<|sV (.d (ag.pd x18))<|sM rfl<|bE h fun x40 hx40 h => cR (.tup [.d (ap.pd x40.1), rB x40.2]) [] (keep_place_ev hx40)<|sM rfl<|sV (.d (ap.pd x40.1))<|sV (rB x40.2)<|sB (.ptr 224 0) 224 (.var [r0, r0, r0])<|sS 224 (.var [rI x40.1.fX, rI x40.1.fY, rI x40.1.fZ]) ?_
    refine sA rfl<|sN<|gS rfl rfl<|sF h (fun h => ?_) fun h => ?_
    ·refine sN<|cT<|gS rfl rfl<|sV (r0)<|sN<|qS<|bE h fun o56 ho56 h => WC.block (WC.loop (WL.ofLoop ho56 (fun s R' B' => ghosts prog 1 (A R' B') (av.at_ 9 1 12) = some (A [(0, .ptr 0 0), (5, .ptr 80 0), (6, .ptr 96 0), (9, .ref 2192 0), (10, .ptr 160 0), (11, rI s4), (12, rI s5), (13, .ptr 208 0), (14, .ptr 224 0), (16, rI s)] [(0, .var [.d (.lst (x35.2.fL.map (PD.int .i64))), rI x35.2.fAt]), (80, .var (aG.rc a1)), (96, .var [.d (.lst (a2.aq.map ac.pd))]), (160, .var [rI s9, rI s10, rI s11]), (208, .var [rS x18.aB, rS x18.aA, rS x18.aw, rS x18.aC, r0, rI (rW ((1000 : Int) + x21.1)), r0, rI x19.1, rI (rW (x20.1 - (1 : Int)))]), (224, .var [rI x40.1.fX, rI x40.1.fY, rI x40.1.fZ]), (2192, .arr 0 52 (s8.map aa.pd))])) (fun o e R' B' => e = .exit 3 ∧ ghosts prog 1 (A R' B') (av.at_ 9 1 14) = some (A [(0, .ptr 0 0), (5, .ptr 80 0), (6, .ptr 96 0), (9, .ref 2192 0), (10, .ptr 160 0), (11, rI o.1), (12, rI o.2.1), (13, .ptr 208 0), (16, rI o.2.2.1)] [(0, .var [.d (.lst (x35.2.fL.map (PD.int .i64))), rI x35.2.fAt]), (80, .var (aG.rc a1)), (96, .var [.d (.lst (a2.aq.map ac.pd))]), (160, .var [rI o.2.2.2.2.1, rI o.2.2.2.2.2.1, rI o.2.2.2.2.2.2]), (208, .var [rS x18.aB, rS x18.aA, rS x18.aw, rS x18.aC, r0, rI (rW ((1000 : Int) + x21.1)), r0, rI x19.1, rI (rW (x20.1 - (1 : Int)))]), (2192, .arr 0 52 (o.2.2.2.1.map aa.pd))])) rfl ?_ ?_))
     ·rintro s42 R' B' q50 hI h
      refine qS<|WC.regionDSeq hI rfl<|sM rfl<|sM rfl<|sV (rI (rW (s42 * s42)))<|sV (.ptr 224 0)<|sL rfl<|sV (.ptr 160 0)<|sL rfl<|sV (rI (rW (x40.1.fX - s9)))<|bE h fun x51 hx51 h => cD (yj hx51)<|sV (.ptr 224 1)<|sL rfl<|sV (.ptr 160 1) ?_
      refine sL rfl<|sV (rI (rW (x40.1.fY - s10)))<|bE h fun x52 hx52 h => cD (yj hx52)<|sV (rI (rW (x51 + x52)))<|sV (.ptr 224 2)<|sL rfl<|sV (.ptr 160 2)<|sL rfl<|sV (rI (rW (x40.1.fZ - s11)))<|bE h fun x53 hx53 h => cD (yj hx53)<|sV (rI (rW ((rW (x51 + x52)) + x53)))<|sF h (fun h => ?_) fun h => ?_
      ·refine sN<|sO<|cT<|qK<|qB<|WC.region rfl rfl<|sM rfl<|sV (rI (rW (s42 + (1 : Int))))<|sA rfl<|sN ?_
       cases oI h
       exact ⟨rfl, rfl⟩
      refine sN<|sO<|cF<|qX ?_
      cases oI h
      exact ⟨nofun, rfl, rfl⟩
     intro e R' B' he hq
     obtain ⟨rfl, hI⟩ := hq
     refine qE<|WC.regionD hI rfl<|sM rfl<|sV (.ptr 80 0)<|sV (.ptr 80 6)<|sV (.ptr 80 7)<|sL rfl<|sM rfl<|sV (.ptr 80 0)<|sV (.ptr 80 6)<|sV (.ptr 80 6)<|sL rfl<|bE h fun x57 hx57 h => WO.quoG hx57 rfl rfl rfl rfl rfl rfl<|sV (.ptr 80 0) ?_
     refine sV (.ptr 80 6)<|sV (.ptr 80 7)<|sL rfl<|sE (rI (a1.au.bv.a8.length : Int)) (lenMap _ _)<|sV (rI (rW ((a1.au.bv.a8.length : Int) - (1 : Int))))<|sV (rI (if (rW ((a1.au.bv.a8.length : Int) - (1 : Int))) < x57 then (rW ((a1.au.bv.a8.length : Int) - (1 : Int))) else x57))<|bE h fun x58 hx58 h => eG hx58 rfl<|sC rfl<|sV (rI (rW (o56.1 + x58)))<|sM rfl<|bE h fun x59 hx59 h => cR (rI x59.1) [(0, .var [.d (.lst (x59.2.fL.map (PD.int .i64))), rI x59.2.fAt])] (bw hx59)<|sV (rI (rW ((rW (o56.1 + x58)) + x59.1)))<|sV (.ptr 208 5) ?_
     refine sS 208 (.var [rS x18.aB, rS x18.aA, rS x18.aw, rS x18.aC, r0, rI (rW ((rW (o56.1 + x58)) + x59.1)), r0, rI x19.1, rI (rW (x20.1 - (1 : Int)))]) ?_
     exact sN<|sO<|⟨(o56.1, o56.2.1, x59.2.fL, x59.2.fAt, o56.2.2.2.1, o56.2.2.2.2.1, o56.2.2.2.2.2.1, o56.2.2.2.2.2.2, (rW ((rW (o56.1 + x58)) + x59.1))), rfl, h⟩
    exact sN<|cF<|qK<|⟨(s4, s5, x35.2.fL, x35.2.fAt, s8, s9, s10, s11, (rW ((1000 : Int) + x21.1))), rfl, h⟩
   rintro ⟨j22, j23, j24, j25, j26, j27, j28, j29, j30⟩ R' B' hI h
   refine WC.regionDSeq hI rfl<|sV (.ptr 208 5)<|sL rfl<|sM rfl<|bE h fun x31 hx31 h => cR (rI x31.1) [(0, .var [.d (.lst (x31.2.fL.map (PD.int .i64))), rI x31.2.fAt])] (bw hx31)<|sV (rI (rW (j30 + x31.1)))<|sV (.ptr 208 4)<|sS 208 (.var [rS x18.aB, rS x18.aA, rS x18.aw, rS x18.aC, rI (rW (j30 + x31.1)), rI j30, r0, rI x19.1, rI (rW (x20.1 - (1 : Int)))]) ?_
   refine sN<|sO<|WC.regionDSeq rfl rfl<|sV (.ptr 208 4)<|sL rfl<|sM rfl<|bE h fun x32 hx32 h => cR (rI x32.1) [(0, .var [.d (.lst (x32.2.fL.map (PD.int .i64))), rI x32.2.fAt])] (bw hx32)<|sV (rI (rW ((rW (j30 + x31.1)) + x32.1)))<|sV (.ptr 208 6)<|sS 208 (.var [rS x18.aB, rS x18.aA, rS x18.aw, rS x18.aC, rI (rW (j30 + x31.1)), rI j30, rI (rW ((rW (j30 + x31.1)) + x32.1)), rI x19.1, rI (rW (x20.1 - (1 : Int)))]) ?_
   refine sN<|sO<|WC.region rfl rfl<|sM rfl<|sV (.d (aa.pd (aa.mk x18 (rW (j30 + x31.1)) j30 (rW ((rW (j30 + x31.1)) + x32.1)) x19.1 (rW (x20.1 - (1 : Int))))))<|sG (.d (.lst ([(aa.mk x18 (rW (j30 + x31.1)) j30 (rW ((rW (j30 + x31.1)) + x32.1)) x19.1 (rW (x20.1 - (1 : Int))))].map aa.pd)))<|bE h fun x33 hx33 h => aR hx33 (fun _ => rfl) rfl<|sA rfl<|sN<|WC.region rfl rfl<|sM rfl<|sV (rI (rW (j23 - (1 : Int))))<|sA rfl<|sN ?_
   cases oI h
   exact ⟨rfl, rfl⟩
  refine sN<|cF<|qX ?_
  cases oI h
  exact ⟨nofun, rfl, rfl⟩
 intro e R' B' he hq
 obtain ⟨rfl, hI⟩ := hq
 refine qE<|gS rfl hI<|sM rfl<|sA rfl<|sN<|qR ?_
 cases oI h
 exact qD
theorem source_plain_ev {a0 : Int} {r : Bool} (h : mI a0 = some r) : EvP prog av ext 158 [.d (.int .u8 a0)] [] (rB r, []) := by
 refine Ev.body rfl Tryz.func158 rfl (by kernel_rfl)<|gS rfl rfl<|sU<|sN<|gS rfl rfl<|sM rfl<|sF h (fun h => ?_) fun h => ?_
 ·refine sM rfl<|sM rfl<|sV (rB (decide (a0 ≤ (90 : Int))))<|sF h (fun h => ?_) fun h => ?_
  ·refine sM rfl<|k3<|k3<|sT<|sA rfl<|sN<|qR ?_
   cases oI h
   exact qD
  refine sM rfl<|sM rfl<|sF h (fun h => ?_) fun h => ?_
  ·refine sM rfl<|sM rfl<|sV (rB (decide (a0 ≤ (57 : Int))))<|sV (rB (decide (a0 ≤ (57 : Int))))<|sV (rB (decide (a0 ≤ (57 : Int))))<|sA rfl<|sN<|qR ?_
   cases oI h
   exact qD
  refine sM rfl<|sK<|sK<|sU<|sU<|sA rfl<|sN<|qR ?_
  cases oI h
  exact qD
 refine sM rfl<|sK<|sK<|sU<|sM rfl<|sM rfl<|sF h (fun h => ?_) fun h => ?_
 ·refine sM rfl<|sM rfl<|sV (rB (decide (a0 ≤ (57 : Int))))<|sV (rB (decide (a0 ≤ (57 : Int))))<|sV (rB (decide (a0 ≤ (57 : Int))))<|sA rfl<|sN<|qR ?_
  cases oI h
  exact qD
 refine sM rfl<|sK<|sK<|sU<|sU<|sA rfl<|sN<|qR ?_
 cases oI h
 exact qD
theorem me {a0 : (List UInt8)} {a1 : Int} {a2 : Int} {r : Bool} (h : jo a0 a1 a2 = some r) : EvP prog av ext 128 [rS a0, rI a1, rI a2] [] (rB r, []) := by
 refine Ev.body rfl Tryz.func128 rfl (by kernel_rfl)<|gS rfl rfl<|sU<|sN<|qS<|gS rfl rfl<|sM rfl<|sV (rI (a0.length : Int))<|sV (r0)<|sN<|bE h fun o8 ho8 h => WC.block (WC.loop (WL.ofLoop ho8 (fun s R' B' => ghosts prog 0 (A R' B') (av.at_ 128 0 2) = some (A [(0, rS a0), (1, rI a1), (2, rI a2), (9, rI (a0.length : Int)), (10, rI s)] [])) (fun o e R' B' => match o with | .inl y => e = .exit 0 ∧ ghosts prog 0 (A R' B') (av.at_ 128 0 7) = some (A [(0, rS a0), (1, rI a1), (2, rI a2)] []) | .inr r => e = .ret ∧ finish prog (av.own 128) Tryz.f128 0 (A R' B') = some (rB r, [])) rfl ?_ ?_))
 ·rintro s1 R' B' q2 hI h
  refine gS rfl hI<|sF h (fun h => ?_) fun h => ?_
  ·refine sN<|qS<|cT<|qK<|qS<|qB<|gS rfl rfl<|sM rfl<|sA rfl<|sN<|gS rfl rfl<|sM rfl<|sM rfl<|bE h fun x4 hx4 h => WO.byteG hx4 rfl rfl rfl rfl rfl rfl ?_
   refine bE h fun x5 hx5 h => cD (source_plain_ev hx5)<|sF h (fun h => ?_) fun h => ?_
   ·refine sN<|cT<|gS rfl rfl<|sU<|sN<|qR ?_
    cases oI h
    exact ⟨nofun, rfl, rfl⟩
   refine sN<|cF<|qK<|WC.region rfl rfl<|sV (rI (rW (s1 + (1 : Int))))<|sM rfl<|sN ?_
   cases oI h
   exact ⟨rfl, rfl⟩
  refine sN<|qS<|cF<|qX ?_
  cases oI h
  exact ⟨nofun, rfl, rfl⟩
 intro e R' B' he hq
 rcases o8 with y9 | r10
 ·obtain ⟨rfl, hI⟩ := hq
  refine qE<|gS rfl hI<|sM rfl<|sV (rI (a0.length : Int))<|sM rfl<|sF h (fun h => ?_) fun h => ?_
  ·refine sM rfl<|sM rfl<|sV (rI (a0.length : Int))<|sM rfl<|sV (rB (decide ((a0.length : Int) ≤ a2)))<|sV (rB (decide ((a0.length : Int) ≤ a2)))<|sA rfl<|sN<|qR ?_
   cases oI h
   exact qD
  refine sM rfl<|k3<|sK<|sU<|sA rfl<|sN<|qR ?_
  cases oI h
  exact qD
 obtain ⟨rfl, hf⟩ := hq
 cases oI h
 exact hf
theorem si {a0 : ag} {r : Bool} (h : kB a0 = some r) : EvP prog av ext 85 [.d (ag.pd a0)] [] (rB r, []) := by
 refine Ev.body rfl Tryz.func85 rfl (by kernel_rfl)<|gS rfl rfl<|sB (.ptr 16 0) 16 (.var [rS a0.aB, rS a0.aA, rS a0.aw, rS a0.aC])<|sU<|sN<|gS rfl rfl<|sV (.ptr 16 0)<|sL rfl<|bE h fun x1 hx1 h => ite_elim h (fun hb2 h => ?_) (fun hb2 h => ?_)
 ·refine WO.callR (v := rB true) (u := []) rfl rfl (fun _ => rfl) rfl rfl rfl rfl rfl (me hx1) rfl rfl (congrArg (fun b => RV.d (.bool b)) hb2) rfl<|sM rfl<|sV (.ptr 16 1)<|sL rfl<|bE h fun x3 hx3 h => cD (me hx3)<|sF h (fun h => ?_) fun h => ?_
  ·refine sM rfl<|sV (.ptr 16 2)<|sL rfl<|bE h fun x5 hx5 h => cD (me hx5)<|sF h (fun h => ?_) fun h => ?_
   ·refine sM rfl<|sV (.ptr 16 2)<|sL rfl<|sV (rI (a0.aw.length : Int))<|sV (rB ((a0.aw.length : Int) != (1 : Int)))<|sF h (fun h => ?_) fun h => ?_
    ·refine sM rfl<|sV (.ptr 16 3)<|sL rfl<|bE h fun x8 hx8 h => cD (me hx8)<|sV (rB x8)<|sA rfl<|sN<|qR ?_
     cases oI h
     exact qD
    refine sM rfl<|k3<|sU<|sA rfl<|sN<|qR ?_
    cases oI h
    exact qD
   refine sM rfl<|k3<|sK<|sU<|sM rfl<|k3<|sU<|sA rfl<|sN<|qR ?_
   cases oI h
   exact qD
  refine sM rfl<|k3<|sU<|sM rfl<|k3<|sK<|sU<|sM rfl<|sK<|sK<|sK ?_
  refine sU<|sA rfl<|sN<|qR ?_
  cases oI h
  exact qD
 refine WO.callR (v := rB false) (u := []) rfl rfl (fun _ => rfl) rfl rfl rfl rfl rfl (me hx1) rfl rfl (congrArg (fun b => RV.d (.bool b)) hb2) rfl<|sM rfl<|k3<|sU<|sM rfl<|k3<|sU<|sM rfl<|sK<|sK<|sK ?_
 refine sK<|sU<|sM rfl<|k3<|sU<|sA rfl<|sN<|qR ?_
 cases oI h
 exact qD
theorem yX {a0 : Int} {a1 : Int} {a2 : Int} {r : Bool} (h : mr a0 a1 a2 = some r) : EvP prog av ext 86 [rI a0, rI a1, rI a2] [] (rB r, []) := by
 refine Ev.body rfl Tryz.func86 rfl (by kernel_rfl)<|gS rfl rfl<|sU<|sN<|gS rfl rfl<|sM rfl<|sM rfl<|sF h (fun h => ?_) fun h => ?_
 ·refine sM rfl<|sM rfl<|sM rfl<|sV (rB (decide (a0 ≤ a2)))<|sV (rB (decide (a0 ≤ a2)))<|sA rfl<|sN<|qR ?_
  cases oI h
  exact qD
 refine sM rfl<|k3<|sU<|sA rfl<|sN<|qR ?_
 cases oI h
 exact qD
theorem mQ {a0 : aa} {r : Bool} (h : eM a0 = some r) : EvP prog av ext 50 [.d (aa.pd a0)] [] (rB r, []) := by
 refine Ev.body rfl Tryz.func50 rfl (by kernel_rfl)<|gS rfl rfl<|sB (.ptr 16 0) 16 (.var (aa.rc a0))<|sU<|sN<|gS rfl rfl<|sV (.ptr 16 0)<|sV (.d (ag.pd a0.al))<|bE h fun x1 hx1 h => ite_elim h (fun hb2 h => ?_) (fun hb2 h => ?_)
 ·refine WO.callR (v := rB true) (u := []) rfl rfl (fun _ => rfl) rfl rfl rfl rfl rfl (si hx1) rfl rfl (congrArg (fun b => RV.d (.bool b)) hb2) rfl<|sM rfl<|sV (.ptr 16 5)<|sL rfl<|sV (rB (decide (a0.aH ≥ (0 : Int))))<|sF h (fun h => ?_) fun h => ?_
  ·refine sM rfl<|sV (.ptr 16 5)<|sL rfl<|sV (.ptr 16 4)<|sL rfl<|sV (rB (decide (a0.aH ≤ a0.aN)))<|sF h (fun h => ?_) fun h => ?_
   ·refine sM rfl<|sV (.ptr 16 4)<|sL rfl<|sV (.ptr 16 6)<|sL rfl<|sV (rB (decide (a0.aN ≤ a0.aY)))<|sF h (fun h => ?_) fun h => ?_
    ·refine sM rfl<|sV (.ptr 16 6)<|sL rfl<|sV (rB (decide (a0.aY ≤ (18014398509481984 : Int))))<|sF h (fun h => ?_) fun h => ?_
     ·refine sM rfl<|sV (.ptr 16 7)<|sL rfl<|bE h fun x7 hx7 h => cD (yX hx7)<|sF h (fun h => ?_) fun h => ?_
      ·refine sM rfl<|sV (.ptr 16 8)<|sL rfl<|bE h fun x9 hx9 h => cD (yX hx9)<|sV (rB x9)<|sA rfl<|sN<|qR ?_
       cases oI h
       exact qG
      refine sM rfl<|k3<|sU<|sA rfl<|sN<|qR ?_
      cases oI h
      exact qG
     refine sM rfl<|k3<|sU<|sM rfl<|k3<|sU<|sA rfl<|sN<|qR ?_
     cases oI h
     exact qG
    refine sM rfl<|k3<|sU<|sM rfl<|k3<|sU<|sM rfl<|k3<|sU ?_
    refine sA rfl<|sN<|qR ?_
    cases oI h
    exact qG
   refine sM rfl<|k3<|sK<|sK<|sU<|sM rfl<|k3<|sU<|sM rfl<|sK<|sK ?_
   refine sK<|sU<|sM rfl<|k3<|sU<|sA rfl<|sN<|qR ?_
   cases oI h
   exact qG
  refine sM rfl<|k3<|sK<|sK<|sU<|sM rfl<|k3<|sK<|sK<|sU<|sM rfl ?_
  refine k3<|sU<|sM rfl<|k3<|sU<|sM rfl<|k3<|sU<|sA rfl ?_
  refine sN<|qR ?_
  cases oI h
  exact qG
 refine WO.callR (v := rB false) (u := []) rfl rfl (fun _ => rfl) rfl rfl rfl rfl rfl (si hx1) rfl rfl (congrArg (fun b => RV.d (.bool b)) hb2) rfl<|sM rfl<|k3<|sU<|sM rfl<|k3<|sK<|sK<|sU<|sM rfl<|sK ?_
 refine k3<|sK<|sU<|sM rfl<|k3<|sU<|sM rfl<|k3<|sU ?_
 refine sM rfl<|k3<|sU<|sA rfl<|sN<|qR ?_
 cases oI h
 exact qG
theorem nr {a0 : aa} {r : Bool} (h : fK a0 = some r) : EvP prog av ext 79 [.d (aa.pd a0)] [] (rB r, []) := by
 refine Ev.body rfl Tryz.func79 rfl (by kernel_rfl)<|gS rfl rfl<|sB (.ptr 16 0) 16 (.var (aa.rc a0))<|sU<|sN<|gS rfl rfl<|sV (.d (aa.pd a0))<|bE h fun x1 hx1 h => cD (mQ hx1)<|sV (rB (!x1))<|sA rfl<|sN<|qR ?_
 cases oI h
 exact qG
theorem rk {a0 : (List aa)} {r : Int} (h : dq a0 = some r) : EvP prog av ext 100 [.d (.lst (a0.map aa.pd)), .d (.raw (.func (.func 79) #[] #[]))] [] (rI r, []) := by
 refine Ev.body rfl Tryz.func100 rfl (by kernel_rfl)<|gS rfl rfl<|sV (r0)<|sN<|qS<|gS rfl rfl<|sM rfl<|sE (rI (a0.length : Int)) (lenMap _ _)<|sV (r0)<|sN<|bE h fun o8 ho8 h => WC.block (WC.loop (WL.ofLoop ho8 (fun s R' B' => ghosts prog 0 (A R' B') (av.at_ 100 0 2) = some (A [(0, .d (.lst (a0.map aa.pd))), (1, .d (.raw (.func (.func 79) #[] #[]))), (7, rI (a0.length : Int)), (8, rI s)] [])) (fun o e R' B' => match o with | .inl y => e = .exit 0 ∧ ghosts prog 0 (A R' B') (av.at_ 100 0 7) = some (A [] []) | .inr r => e = .ret ∧ finish prog (av.own 100) Tryz.f100 0 (A R' B') = some (rI r, [])) rfl ?_ ?_))
 ·rintro s1 R' B' q2 hI h
  refine gS rfl hI<|sF h (fun h => ?_) fun h => ?_
  ·refine sN<|qS<|cT<|qK<|qS<|qB<|gS rfl rfl<|sM rfl<|sA rfl<|sN<|gS rfl rfl<|sM rfl<|sM rfl<|sM rfl<|bE h fun x4 hx4 h => ?_
   refine eG hx4 rfl<|sV (.d (aa.pd x4))<|bE h fun x5 hx5 h => ite_elim h (fun hb6 h => ?_) (fun hb6 h => ?_)
   ·refine WO.callR (v := rB true) (u := []) rfl rfl (fun _ => rfl) rfl rfl rfl rfl rfl (nr hx5) rfl rfl (congrArg (fun b => RV.d (.bool b)) hb6) rfl<|sN<|cT<|gS rfl rfl<|sM rfl<|sA rfl<|sN<|qR ?_
    cases oI h
    exact ⟨nofun, rfl, rfl⟩
   refine WO.callR (v := rB false) (u := []) rfl rfl (fun _ => rfl) rfl rfl rfl rfl rfl (nr hx5) rfl rfl (congrArg (fun b => RV.d (.bool b)) hb6) rfl<|sN<|cF<|qK<|WC.region rfl rfl<|sV (rI (rW (s1 + (1 : Int))))<|sM rfl<|sN ?_
   cases oI h
   exact ⟨rfl, rfl⟩
  refine sN<|qS<|cF<|qX ?_
  cases oI h
  exact ⟨nofun, rfl, rfl⟩
 intro e R' B' he hq
 rcases o8 with y9 | r10
 ·obtain ⟨rfl, hI⟩ := hq
  refine qE<|gS rfl hI<|sV (rI (-1))<|sN<|qR ?_
  cases oI h
  exact qD
 obtain ⟨rfl, hf⟩ := hq
 cases oI h
 exact hf
theorem pB {a0 : (List aa)} {r : Bool} (h : cO a0 = some r) : EvP prog av ext 57 [.d (.lst (a0.map aa.pd)), .d (.raw (.func (.func 79) #[] #[]))] [] (rB r, []) := by
 refine Ev.body rfl Tryz.func57 rfl (by kernel_rfl)<|gS rfl rfl<|sU<|sN<|gS rfl rfl<|sM rfl<|sM rfl<|bE h fun x1 hx1 h => cD (rk hx1)<|sV (rB (decide (x1 ≥ (0 : Int))))<|sA rfl<|sN<|qR ?_
 cases oI h
 exact qD
theorem mN {a0 : (List aa)} {r : Bool} (h : dC a0 = some r) : EvP prog av ext 43 [.d (.lst (a0.map aa.pd))] [] (rB r, []) := by
 refine Ev.body rfl Tryz.func43 rfl (by kernel_rfl)<|gS rfl rfl<|sU<|sN<|gS rfl rfl<|sM rfl<|bE h fun x1 hx1 h => cD (pB hx1)<|sV (rB (!x1))<|sA rfl<|sN<|qR ?_
 cases oI h
 exact qD
theorem sj {a0 : (List UInt8)} {r : Bool} (h : fQ a0 = some r) : EvP prog av ext 167 [rS a0] [] (rB r, []) := by
 refine Ev.body rfl Tryz.func167 rfl (by kernel_rfl)<|gS rfl rfl<|sU<|sN<|gS rfl rfl<|sM rfl<|sM rfl<|sV (rB (!(a0 == a0)))<|sA rfl<|sN<|qR ?_
 cases oI h
 exact qD
theorem iJ {a0 : (List UInt8)} {a1 : (List UInt8)} {r : Int} (h : cA a0 a1 = some r) : EvP prog av ext 130 [rS a0, rS a1] [] (rI r, []) := by
 refine Ev.body rfl Tryz.func130 rfl (by kernel_rfl)<|gS rfl rfl<|sV (r0)<|sN<|gS rfl rfl<|sM rfl<|bE h fun x1 hx1 h => cD (sj hx1)<|sA rfl<|sN<|gS rfl rfl<|sM rfl<|bE h fun x2 hx2 h => cD (sj hx2)<|sA rfl ?_
 refine sN<|qS<|gS rfl rfl<|sF h (fun h => ?_) fun h => ?_
 ·refine sN<|cT<|qS<|gS rfl rfl<|sF h (fun h => ?_) fun h => ?_
  ·refine sN<|cT<|gS rfl rfl<|sV (r0)<|sN<|qR ?_
   cases oI h
   exact qD
  refine sN<|cF<|qK<|gS rfl rfl<|sV (rI (-1))<|sN<|qR ?_
  cases oI h
  exact qD
 refine sN<|cF<|qK<|qS<|gS rfl rfl<|sF h (fun h => ?_) fun h => ?_
 ·refine sN<|cT<|gS rfl rfl<|sV (rI 1)<|sN<|qR ?_
  cases oI h
  exact qD
 refine sN<|cF<|qK<|qS<|gS rfl rfl<|sM rfl<|sM rfl<|sF h (fun h => ?_) fun h => ?_
 ·refine sN<|cT<|gS rfl rfl<|sV (rI (-1))<|sN<|qR ?_
  cases oI h
  exact qD
 refine sN<|cF<|qK<|qS<|gS rfl rfl<|sM rfl<|sM rfl<|sF h (fun h => ?_) fun h => ?_
 ·refine sN<|cT<|gS rfl rfl<|sV (rI 1)<|sN<|qR ?_
  cases oI h
  exact qD
 refine sN<|cF<|qK<|gS rfl rfl<|sV (r0)<|sN<|qR ?_
 cases oI h
 exact qD
theorem qL {a0 : (List Int)} {r : Int} (h : fP a0 = some r) : EvP prog av ext 122 [.d (.lst (a0.map (PD.int .i64)))] [] (rI r, []) := by
 refine Ev.body rfl Tryz.func122 rfl (by kernel_rfl)<|gS rfl rfl<|sV (r0)<|sN<|gS rfl rfl<|sV (r0)<|sN<|qS<|gS rfl rfl<|sM rfl<|sE (rI (a0.length : Int)) (lenMap _ _)<|sV (r0)<|sN<|bE h fun o7 ho7 h => WC.block (WC.loop (WL.ofLoop ho7 (fun s R' B' => ghosts prog 0 (A R' B') (av.at_ 122 0 3) = some (A [(3, r0), (6, .d (.lst (a0.map (PD.int .i64)))), (7, rI (a0.length : Int)), (8, rI s)] [])) (fun o e R' B' => match o with | .inl y => e = .exit 0 ∧ ghosts prog 0 (A R' B') (av.at_ 122 0 8) = some (A [(3, r0)] []) | .inr r => e = .ret ∧ finish prog (av.own 122) Tryz.f122 0 (A R' B') = some (rI r, [])) rfl ?_ ?_))
 ·rintro s1 R' B' q2 hI h
  refine gS rfl hI<|sF h (fun h => ?_) fun h => ?_
  ·refine sN<|qS<|cT<|qK<|qS<|qB<|gS rfl rfl<|bE h fun x4 hx4 h => eG hx4 rfl<|sC rfl<|sA rfl<|sN<|gS rfl rfl<|sM rfl<|sM rfl ?_
   refine sF h (fun h => ?_) fun h => ?_
   ·refine sN<|cT<|gS rfl rfl<|sM rfl<|sA rfl<|sN<|qR ?_
    cases oI h
    exact ⟨nofun, rfl, rfl⟩
   refine sN<|cF<|qK<|WC.region rfl rfl<|sV (rI (rW (s1 + (1 : Int))))<|sM rfl<|sN ?_
   cases oI h
   exact ⟨rfl, rfl⟩
  refine sN<|qS<|cF<|qX ?_
  cases oI h
  exact ⟨nofun, rfl, rfl⟩
 intro e R' B' he hq
 rcases o7 with y8 | r9
 ·obtain ⟨rfl, hI⟩ := hq
  refine qE<|gS rfl hI<|sM rfl<|sA rfl<|sN<|qR ?_
  cases oI h
  exact qD
 obtain ⟨rfl, hf⟩ := hq
 cases oI h
 exact hf
theorem uu {a0 : ag} {a1 : ag} {r : Int} (h : co a0 a1 = some r) : EvP prog av ext 89 [.d (ag.pd a0), .d (ag.pd a1)] [] (rI r, []) := by
 refine Ev.body rfl Tryz.func89 rfl (by kernel_rfl)<|gS rfl rfl<|sB (.ptr 32 0) 32 (.var [rS a0.aB, rS a0.aA, rS a0.aw, rS a0.aC])<|sB (.ptr 48 0) 48 (.var [rS a1.aB, rS a1.aA, rS a1.aw, rS a1.aC])<|sV (r0)<|sN<|WC.regionDSeq rfl rfl<|sV (.ptr 32 0)<|sL rfl<|sV (.ptr 48 0)<|sL rfl<|bE h fun x1 hx1 h => cD (iJ hx1)<|sV (.ptr 32 1)<|sL rfl ?_
 refine sV (.ptr 48 1)<|sL rfl<|bE h fun x2 hx2 h => cD (iJ hx2)<|sV (.ptr 32 2)<|sL rfl<|sV (.ptr 48 2)<|sL rfl<|bE h fun x3 hx3 h => cD (iJ hx3)<|sV (.ptr 32 3)<|sL rfl<|sV (.ptr 48 3)<|sL rfl<|bE h fun x4 hx4 h => ?_
 refine cD (iJ hx4)<|sV (.d (.lst ([x1, x2, x3, x4].map (PD.int .i64))))<|bE h fun x5 hx5 h => cD (qL hx5)<|sA rfl ?_
 refine sN<|sO<|qR ?_
 cases oI h
 exact qD
theorem uQ {a0 : Int} {r : Bool} (h : jr a0 = some r) : EvP prog av ext 126 [rI a0] [] (rB r, []) := by
 refine Ev.body rfl Tryz.func126 rfl (by kernel_rfl)<|gS rfl rfl<|sU<|sN<|gS rfl rfl<|sM rfl<|sM rfl<|sV (rB (a0 != a0))<|sA rfl<|sN<|qR ?_
 cases oI h
 exact qD
theorem bM {a0 : Int} {a1 : Int} {r : Int} (h : bD a0 a1 = some r) : EvP prog av ext 83 [rI a0, rI a1] [] (rI r, []) := by
 refine Ev.body rfl Tryz.func83 rfl (by kernel_rfl)<|gS rfl rfl<|sV (r0)<|sN<|gS rfl rfl<|sM rfl<|bE h fun x1 hx1 h => cD (uQ hx1)<|sA rfl<|sN<|gS rfl rfl<|sM rfl<|bE h fun x2 hx2 h => cD (uQ hx2)<|sA rfl ?_
 refine sN<|qS<|gS rfl rfl<|sF h (fun h => ?_) fun h => ?_
 ·refine sN<|cT<|qS<|gS rfl rfl<|sF h (fun h => ?_) fun h => ?_
  ·refine sN<|cT<|gS rfl rfl<|sV (r0)<|sN<|qR ?_
   cases oI h
   exact qD
  refine sN<|cF<|qK<|gS rfl rfl<|sV (rI (-1))<|sN<|qR ?_
  cases oI h
  exact qD
 refine sN<|cF<|qK<|qS<|gS rfl rfl<|sF h (fun h => ?_) fun h => ?_
 ·refine sN<|cT<|gS rfl rfl<|sV (rI 1)<|sN<|qR ?_
  cases oI h
  exact qD
 refine sN<|cF<|qK<|qS<|gS rfl rfl<|sM rfl<|sM rfl<|sF h (fun h => ?_) fun h => ?_
 ·refine sN<|cT<|gS rfl rfl<|sV (rI (-1))<|sN<|qR ?_
  cases oI h
  exact qD
 refine sN<|cF<|qK<|qS<|gS rfl rfl<|sM rfl<|sM rfl<|sF h (fun h => ?_) fun h => ?_
 ·refine sN<|cT<|gS rfl rfl<|sV (rI 1)<|sN<|qR ?_
  cases oI h
  exact qD
 refine sN<|cF<|qK<|gS rfl rfl<|sV (r0)<|sN<|qR ?_
 cases oI h
 exact qD
theorem v6 {d0 : (List aa)} {r : (List aa)} (h : c8 d0 = some r) : EvP prog av ext 124 [.ref 0 0] [.arr 0 52 (d0.map aa.pd)] (.ref 0 1, [.arr 1 52 (r.map aa.pd)]) := by
 refine Ev.body rfl Tryz.func124 rfl (by kernel_rfl)<|gS rfl rfl<|sV .nils<|sN<|qS<|gS rfl rfl<|sM rfl<|WO.lenR rfl rfl rfl rfl rfl rfl rfl rfl rfl<|sF h (fun h => ?_) fun h => ?_
 ·refine sN<|cT<|WC.regionSeq (R0 := [(0, .ref 0 1)]) (B0 := [(0, .arr 1 52 (d0.map aa.pd))]) rfl rfl<|sM rfl<|sA rfl<|sN<|qR ?_
  cases oI h
  exact qD
 refine sN<|cF<|qK<|qS<|gS rfl rfl<|sV (rI 1)<|sN<|bE h fun o38 ho38 h => WC.block (WC.loop (WL.ofLoop ho38 (fun s R' B' => ghosts prog 1 (A R' B') (av.at_ 124 1 4) = some (A [(0, .ref 0 0), (3, rI s)] [(0, .arr 0 52 (d0.map aa.pd))])) (fun o e R' B' => match o with | .inl y => e = .exit 0 ∧ ghosts prog 1 (A R' B') (av.at_ 124 1 16) = some (A [(0, .ref 0 1)] [(0, .arr 1 52 (d0.map aa.pd))]) | .inr r => e = .ret ∧ finish prog (av.own 124) Tryz.f124 1 (A R' B') = some (.ref 0 1, [.arr 1 52 (r.map aa.pd)])) rfl ?_ ?_))
 ·rintro s2 R' B' q3 hI h
  refine qS<|gS rfl hI<|sM rfl<|sM rfl<|WO.lenR rfl rfl rfl rfl rfl rfl rfl rfl rfl<|sF h (fun h => ?_) fun h => ?_
  ·refine sN<|cT<|qK<|qS<|qB<|WC.regionDSeq rfl rfl<|sM rfl<|sM rfl<|bE h fun x6 hx6 h => WO.eltG hx6 rfl rfl rfl rfl rfl rfl rfl rfl<|bE h fun x7 hx7 h => WO.loadE hx7 rfl rfl rfl rfl rfl rfl<|sM rfl<|sM rfl<|sV (rI (rW (s2 - (1 : Int)))) ?_
   refine bE h fun x9 hx9 h => WO.eltG hx9 rfl rfl rfl rfl rfl rfl rfl rfl<|bE h fun x10 hx10 h => WO.loadE hx10 rfl rfl rfl rfl rfl rfl<|ite_elim h (fun hb11 h => ?_) (fun hb11 h => ?_)
   ·refine WO.binS (yh x7 x10) hb11 rfl rfl rfl rfl rfl ?_
    refine sN<|sO<|cT<|gS rfl rfl<|sM rfl<|sM rfl<|bE h fun x12 hx12 h => WO.subR hx12 rfl rfl rfl rfl rfl rfl rfl rfl rfl rfl rfl rfl<|sA rfl<|sN<|qS<|gS rfl rfl<|sV (rI 1)<|sN<|bE h fun o32 ho32 h => WC.block (WC.loop (WL.ofLoop ho32 (fun s R' B' => ghosts prog 1 (A R' B') (av.at_ 124 1 9) = some (A [(0, .ref 0 0), (3, rI s.1), (4, .view 0 0 (0 + (s2 : Int).toNat) (0 + ((d0.length : Int) : Int).toNat)), (5, rI s.2.1)] [(0, .arr 0 52 (s.2.2.map aa.pd))])) (fun o e R' B' => e = .exit 2 ∧ ghosts prog 1 (A R' B') (av.at_ 124 1 14) = some (A [(0, .ref 0 0), (3, rI o.1)] [(0, .arr 0 52 (o.2.map aa.pd))])) rfl ?_ ?_))
    ·rintro ⟨s13, s14, s15⟩ R' B' q18 hI h
     refine qS<|gS rfl hI<|sM rfl<|sM rfl<|bE h fun x19 hx19 h => WO.lenVw hx19 rfl rfl rfl rfl rfl rfl rfl rfl rfl<|sF h (fun h => ?_) fun h => ?_
     ·refine sN<|cT<|qK<|qS<|qB<|WC.regionDSeq rfl rfl<|sM rfl<|sM rfl<|bE h fun x21 hx21 h => WO.eltV hx21 rfl rfl rfl rfl rfl rfl rfl rfl<|bE h fun x22 hx22 h => WO.loadE hx22 rfl rfl rfl rfl rfl rfl<|sM rfl<|sM rfl<|sV (rI (rW (s14 - (1 : Int)))) ?_
      refine bE h fun x23 hx23 h => WO.eltV hx23 rfl rfl rfl rfl rfl rfl rfl rfl<|bE h fun x24 hx24 h => WO.loadE hx24 rfl rfl rfl rfl rfl rfl<|ite_elim h (fun hb25 h => ?_) (fun hb25 h => ?_)
      ·refine WO.binS (eqN_52 x22 x24) hb25 rfl rfl rfl rfl rfl ?_
       refine sN<|sO<|cT<|gS rfl rfl<|sM rfl<|sM rfl<|sM rfl<|sM rfl<|bE h fun x26 hx26 h => WO.eltV hx26 rfl rfl rfl rfl rfl rfl rfl rfl<|bE h fun x27 hx27 h => WO.loadE hx27 rfl rfl rfl rfl rfl rfl<|bE h fun x29 hx29 h => WO.eltG hx29 rfl rfl rfl rfl rfl rfl rfl rfl<|bE h fun x30 hx30 h => WO.storeE (g := aa.pd) (sz := 9) (p := aa.pd x27) hx30 (by intro _; kernel_rfl) (by intro _; kernel_rfl) rfl rfl rfl rfl rfl rfl rfl rfl rfl ?_
       refine sN<|WC.region rfl rfl<|sM rfl<|sV (rI (rW (s13 + (1 : Int))))<|sA rfl<|sN<|WC.region rfl rfl<|sM rfl<|sV (rI (rW (s14 + (1 : Int))))<|sA rfl<|sN ?_
       cases oI h
       exact ⟨rfl, rfl⟩
      refine WO.binS (eqN_52 x22 x24) hb25 rfl rfl rfl rfl rfl ?_
      refine sN<|sO<|cF<|qK<|WC.region rfl rfl<|sM rfl<|sV (rI (rW (s14 + (1 : Int))))<|sA rfl<|sN ?_
      cases oI h
      exact ⟨rfl, rfl⟩
     refine sN<|cF<|qX ?_
     cases oI h
     exact ⟨nofun, rfl, rfl⟩
    intro e R' B' he hq
    obtain ⟨rfl, hI⟩ := hq
    refine qE<|gS rfl hI<|sM rfl<|sM rfl<|bE h fun x33 hx33 h => WO.subR hx33 rfl rfl rfl rfl rfl rfl rfl rfl rfl rfl rfl rfl<|bE h fun x34 hx34 h => WO.clearN (z := (aa.mk (ag.mk [] [] [] []) 0 0 0 0 0)) (g := aa.pd) rfl rfl rfl rfl rfl rfl rfl (dst_view hx34 rfl) rfl rfl rfl rfl<|sN<|gS rfl rfl<|sM rfl<|sM rfl<|bE h fun x36 hx36 h => WO.resl hx36 rfl rfl rfl rfl rfl rfl rfl rfl rfl rfl rfl rfl<|sA rfl ?_
    refine sN<|qR ?_
    cases oI h
    exact ⟨nofun, rfl, rfl⟩
   refine WO.binS (yh x7 x10) hb11 rfl rfl rfl rfl rfl ?_
   refine sN<|sO<|cF<|qK<|WC.region rfl rfl<|sM rfl<|sV (rI (rW (s2 + (1 : Int))))<|sA rfl<|sN ?_
   cases oI h
   exact ⟨rfl, rfl⟩
  refine sN<|cF<|qX ?_
  cases oI h
  exact ⟨nofun, rfl, rfl⟩
 intro e R' B' he hq
 rcases o38 with y39 | r40
 ·obtain ⟨rfl, hI⟩ := hq
  refine qE<|gS rfl hI<|sM rfl<|sA rfl<|sN<|qR ?_
  cases oI h
  exact qD
 obtain ⟨rfl, hf⟩ := hq
 cases oI h
 exact hf
theorem wY {a0 : (List aa)} {r : (List aa)} (h : jl a0 = some r) : EvP prog av ext 80 [.d (.lst (a0.map aa.pd))] [] (.ref 0 0, [.arr 0 52 (r.map aa.pd)]) := by
 refine Ev.body rfl Tryz.func80 rfl (by kernel_rfl)<|gS rfl rfl<|sV .nils<|sN<|gS rfl rfl<|sM rfl<|bE h fun x1 hx1 h => cR (.ref 80 0) [(80, .arr 0 52 (x1.map aa.pd))] (clone_123 hx1)<|sA rfl<|sN<|gS rfl rfl<|sM rfl<|bE h fun x2 hx2 h => cR (.tup []) [(80, .arr 0 52 (x2.map aa.pd))] (yF hx2)<|sN ?_
 refine gS rfl rfl<|sM rfl<|bE h fun x3 hx3 h => cR (.ref 80 1) [(80, .arr 1 52 (x3.map aa.pd))] (v6 hx3)<|sA rfl<|sN<|qR ?_
 cases oI h
 exact qD
theorem eW {a0 : aa} {a1 : aa} {r : Int} (h : bW a0 a1 = some r) : EvP prog av ext 82 [.d (aa.pd a0), .d (aa.pd a1)] [] (rI r, []) := by
 refine Ev.body rfl Tryz.func82 rfl (by kernel_rfl)<|gS rfl rfl<|sB (.ptr 32 0) 32 (.var (aa.rc a0))<|sB (.ptr 48 0) 48 (.var (aa.rc a1))<|sV (r0)<|sN<|gS rfl rfl<|sV (.ptr 32 5)<|sL rfl<|sV (.ptr 48 5)<|sL rfl<|bE h fun x1 hx1 h => cD (bM hx1)<|sA rfl<|sN ?_
 refine qR ?_
 cases oI h
 exact qG
theorem fM {a1 : Int} {a2 : Int} {d0 : (List aa)} {r : (List aa)} (h : bc a1 a2 d0 = some r) : EvP prog av ext 147 [.ref 0 0, rI a1, rI a2, .d (.raw (.func (.func 82) #[] #[]))] [.arr 0 52 (d0.map aa.pd)] (.tup [], [.arr 0 52 (r.map aa.pd)]) := by
 refine Ev.body rfl Tryz.func147 rfl (by kernel_rfl)<|gS rfl rfl<|sM rfl<|sV (rI (rW (a1 + (1 : Int))))<|sA rfl<|sN<|bE h fun o35 ho35 h => ?_
 cases oI h
 refine WC.block (WC.loop (WL.ofLoopEnd ho35 (fun s R' B' => ghosts prog 1 (A R' B') (av.at_ 147 1 1) = some (A [(0, .ref 0 0), (1, rI a1), (2, rI a2), (3, .d (.raw (.func (.func 82) #[] #[]))), (8, rI s.1)] [(0, .arr 0 52 (s.2.map aa.pd))])) rfl ?_))
 rintro ⟨s1, s2⟩ R' B' q3 hI h
 refine qS<|gS rfl hI<|sM rfl<|sM rfl<|sF h (fun h => ?_) fun h => ?_
 ·refine sN<|cT<|qK<|qS<|qB<|gS rfl rfl<|sM rfl<|sA rfl<|sN<|bE h fun o32 ho32 h => WC.block (WC.loop (WL.ofLoop ho32 (fun s R' B' => ghosts prog 1 (A R' B') (av.at_ 147 1 4) = some (A [(0, .ref 0 0), (1, rI a1), (2, rI a2), (3, .d (.raw (.func (.func 82) #[] #[]))), (8, rI s1), (9, rI s.1)] [(0, .arr 0 52 (s.2.map aa.pd))])) (fun o e R' B' => e = .exit 2 ∧ ghosts prog 1 (A R' B') (av.at_ 147 1 2) = some (A [(0, .ref 0 0), (1, rI a1), (2, rI a2), (3, .d (.raw (.func (.func 82) #[] #[]))), (8, rI o.1)] [(0, .arr 0 52 (o.2.map aa.pd))])) rfl ?_ ?_))
  ·rintro ⟨s5, s6⟩ R' B' q9 hI h
   refine qS<|WC.regionDSeq hI rfl<|sM rfl<|sM rfl<|sF h (fun h => ?_) fun h => ?_
   ·refine sM rfl<|sM rfl<|sM rfl<|sM rfl<|bE h fun x12 hx12 h => WO.eltG hx12 rfl rfl rfl rfl rfl rfl rfl rfl<|bE h fun x13 hx13 h => WO.loadE hx13 rfl rfl rfl rfl rfl rfl<|sM rfl<|sM rfl<|sV (rI (rW (s5 - (1 : Int))))<|bE h fun x15 hx15 h => WO.eltG hx15 rfl rfl rfl rfl rfl rfl rfl rfl<|bE h fun x16 hx16 h => WO.loadE hx16 rfl rfl rfl rfl rfl rfl ?_
    refine bE h fun x17 hx17 h => cD (eW hx17)<|sV (rB (decide (x17 < (0 : Int))))<|sF h (fun h => ?_) fun h => ?_
    ·refine sN<|sO<|cT<|qK<|qS<|qB<|WC.regionD rfl rfl<|sM rfl<|sM rfl<|sM rfl<|sM rfl<|sV (rI (rW (s5 - (1 : Int))))<|sM rfl<|sM rfl<|sV (rI (rW (s5 - (1 : Int))))<|bE h fun x20 hx20 h => ?_
     refine WO.eltG hx20 rfl rfl rfl rfl rfl rfl rfl rfl<|bE h fun x21 hx21 h => WO.loadE hx21 rfl rfl rfl rfl rfl rfl<|sM rfl<|sM rfl<|bE h fun x23 hx23 h => WO.eltG hx23 rfl rfl rfl rfl rfl rfl rfl rfl<|bE h fun x24 hx24 h => WO.loadE hx24 rfl rfl rfl rfl rfl rfl<|bE h fun x26 hx26 h => WO.eltG hx26 rfl rfl rfl rfl rfl rfl rfl rfl<|bE h fun x27 hx27 h => WO.storeE (g := aa.pd) (sz := 9) (p := aa.pd x21) hx27 (by intro _; kernel_rfl) (by intro _; kernel_rfl) rfl rfl rfl rfl rfl rfl rfl rfl rfl<|bE h fun x29 hx29 h => WO.eltG hx29 rfl rfl rfl rfl rfl rfl rfl rfl ?_
     refine bE h fun x30 hx30 h => WO.storeE (g := aa.pd) (sz := 9) (p := aa.pd x24) hx30 (by intro _; kernel_rfl) (by intro _; kernel_rfl) rfl rfl rfl rfl rfl rfl rfl rfl rfl ?_
     refine sN<|sO<|WC.region rfl rfl<|sM rfl<|sV (rI (rW (s5 - (1 : Int))))<|sA rfl<|sN ?_
     cases oI h
     exact ⟨rfl, rfl⟩
    refine sN<|sO<|cF<|qX ?_
    cases oI h
    exact ⟨nofun, rfl, rfl⟩
   refine sM rfl<|k3<|k3<|k3<|k3<|sU ?_
   refine sN<|sO<|cF<|qX ?_
   cases oI h
   exact ⟨nofun, rfl, rfl⟩
  intro e R' B' he hq
  obtain ⟨rfl, hI⟩ := hq
  refine qE<|WC.region hI rfl<|sM rfl<|sV (rI (rW (o32.1 + (1 : Int))))<|sA rfl<|sN ?_
  cases oI h
  exact ⟨rfl, rfl⟩
 refine sN<|cF<|qX<|bind_elim h (fun z33 hkz33 hz => ?_)
 obtain rfl := Option.some.inj hz
 refine ⟨(fun he => by cases he), fun hz2 => ?_⟩
 subst hz2
 have h := hkz33
 refine qE ?_
 cases oI h
 exact qD
theorem dV {a1 : Int} {a2 : Int} {a3 : Int} {d0 : (List aa)} {r : (List aa)} (h : bS a1 a2 a3 d0 = some r) : EvP prog av ext 216 [.ref 0 0, rI a1, rI a2, rI a3, .d (.raw (.func (.func 82) #[] #[]))] [.arr 0 52 (d0.map aa.pd)] (.tup [], [.arr 0 52 (r.map aa.pd)]) := by
 refine Ev.body rfl Tryz.func216 rfl (by kernel_rfl)<|gS rfl rfl<|sV (r0)<|sN<|bE h fun o19 ho19 h => ?_
 cases oI h
 refine WC.block (WC.loop (WL.ofLoopEnd ho19 (fun s R' B' => ghosts prog 1 (A R' B') (av.at_ 216 1 1) = some (A [(0, .ref 0 0), (1, rI a1), (2, rI a2), (3, rI a3), (10, rI s.1)] [(0, .arr 0 52 (s.2.map aa.pd))])) rfl ?_))
 rintro ⟨s1, s2⟩ R' B' q3 hI h
 refine qS<|gS rfl hI<|sM rfl<|sM rfl<|sF h (fun h => ?_) fun h => ?_
 ·refine sN<|cT<|qK<|qS<|qB<|WC.regionD rfl rfl<|sM rfl<|sM rfl<|sM rfl<|sV (rI (rW (a1 + s1)))<|sM rfl<|sM rfl<|sM rfl<|sV (rI (rW (a2 + s1)))<|sM rfl ?_
  refine sM rfl<|sM rfl<|sV (rI (rW (a2 + s1)))<|bE h fun x6 hx6 h => WO.eltG hx6 rfl rfl rfl rfl rfl rfl rfl rfl<|bE h fun x7 hx7 h => WO.loadE hx7 rfl rfl rfl rfl rfl rfl<|sM rfl<|sM rfl<|sM rfl<|sV (rI (rW (a1 + s1)))<|bE h fun x9 hx9 h => WO.eltG hx9 rfl rfl rfl rfl rfl rfl rfl rfl<|bE h fun x10 hx10 h => WO.loadE hx10 rfl rfl rfl rfl rfl rfl ?_
  refine bE h fun x12 hx12 h => WO.eltG hx12 rfl rfl rfl rfl rfl rfl rfl rfl<|bE h fun x13 hx13 h => WO.storeE (g := aa.pd) (sz := 9) (p := aa.pd x7) hx13 (by intro _; kernel_rfl) (by intro _; kernel_rfl) rfl rfl rfl rfl rfl rfl rfl rfl rfl<|bE h fun x15 hx15 h => WO.eltG hx15 rfl rfl rfl rfl rfl rfl rfl rfl<|bE h fun x16 hx16 h => WO.storeE (g := aa.pd) (sz := 9) (p := aa.pd x10) hx16 (by intro _; kernel_rfl) (by intro _; kernel_rfl) rfl rfl rfl rfl rfl rfl rfl rfl rfl ?_
  refine sN<|sO<|WC.region rfl rfl<|sM rfl<|sV (rI (rW (s1 + (1 : Int))))<|sA rfl<|sN ?_
  cases oI h
  exact ⟨rfl, rfl⟩
 refine sN<|cF<|qX<|bind_elim h (fun z17 hkz17 hz => ?_)
 obtain rfl := Option.some.inj hz
 refine ⟨(fun he => by cases he), fun hz2 => ?_⟩
 subst hz2
 have h := hkz17
 refine qE ?_
 cases oI h
 exact qD
theorem oE {a1 : Int} {a2 : Int} {a3 : Int} {d0 : (List aa)} {r : (List aa)} (h : dD a1 a2 a3 d0 = some r) : EvP prog av ext 194 [.ref 0 0, rI a1, rI a2, rI a3, .d (.raw (.func (.func 82) #[] #[]))] [.arr 0 52 (d0.map aa.pd)] (.tup [], [.arr 0 52 (r.map aa.pd)]) := by
 refine Ev.body rfl Tryz.func194 rfl (by kernel_rfl)<|gS rfl rfl<|sM rfl<|sM rfl<|sV (rI (rW (a2 - a1)))<|sA rfl<|sN<|gS rfl rfl<|sM rfl<|sM rfl<|sV (rI (rW (a3 - a2)))<|sA rfl<|sN<|qS<|bE h fun o12 ho12 h => ?_
 refine WC.block (WC.loop (WL.ofLoop ho12 (fun s R' B' => ghosts prog 1 (A R' B') (av.at_ 194 1 2) = some (A [(0, .ref 0 0), (2, rI a2), (4, .d (.raw (.func (.func 82) #[] #[]))), (10, rI s.1), (11, rI s.2.1)] [(0, .arr 0 52 (s.2.2.map aa.pd))])) (fun o e R' B' => e = .exit 0 ∧ ghosts prog 1 (A R' B') (av.at_ 194 1 8) = some (A [(0, .ref 0 0), (2, rI a2), (4, .d (.raw (.func (.func 82) #[] #[]))), (10, rI o.1)] [(0, .arr 0 52 (o.2.map aa.pd))])) rfl ?_ ?_))
 ·rintro ⟨s1, s2, s3⟩ R' B' q6 hI h
  refine qS<|gS rfl hI<|sM rfl<|sM rfl<|sF h (fun h => ?_) fun h => ?_
  ·refine sN<|cT<|qK<|qB<|gS rfl rfl<|sM rfl<|sM rfl<|sF h (fun h => ?_) fun h => ?_
   ·refine sN<|cT<|gS rfl rfl<|sM rfl<|sM rfl<|sM rfl<|sV (rI (rW (a2 - s1)))<|sM rfl<|sM rfl<|sM rfl<|bE h fun x9 hx9 h => cR (.tup []) [(0, .arr 0 52 (x9.map aa.pd))] (dV hx9)<|sN<|WC.region rfl rfl<|sM rfl ?_
    refine sM rfl<|sV (rI (rW (s1 - s2)))<|sA rfl<|sN ?_
    cases oI h
    exact ⟨rfl, rfl⟩
   refine sN<|cF<|gS rfl rfl<|sM rfl<|sM rfl<|sM rfl<|sV (rI (rW (a2 - s1)))<|sM rfl<|sM rfl<|sV (rI (rW (a2 + s2)))<|sM rfl<|sV (rI (rW ((rW (a2 + s2)) - s1)))<|sM rfl<|sM rfl<|bE h fun x10 hx10 h => ?_
   refine cR (.tup []) [(0, .arr 0 52 (x10.map aa.pd))] (dV hx10)<|sN<|WC.region rfl rfl<|sM rfl<|sM rfl<|sV (rI (rW (s2 - s1)))<|sA rfl<|sN ?_
   cases oI h
   exact ⟨rfl, rfl⟩
  refine sN<|cF<|qX ?_
  cases oI h
  exact ⟨nofun, rfl, rfl⟩
 intro e R' B' he hq
 obtain ⟨rfl, hI⟩ := hq
 refine qE<|WC.region hI rfl<|sM rfl<|sM rfl<|sM rfl<|sV (rI (rW (a2 - o12.1)))<|sM rfl<|sM rfl<|sM rfl<|bE h fun x13 hx13 h => cR (.tup []) [(0, .arr 0 52 (x13.map aa.pd))] (dV hx13)<|sN ?_
 cases oI h
 exact qD
theorem dX : ∀ (nfu : Nat) {a1 : Int} {a2 : Int} {a3 : Int} {d0 : (List aa)} {r : (List aa)} (_ : a7 nfu a1 a2 a3 d0 = some r), EvP prog av ext 157 [.ref 0 0, rI a1, rI a2, rI a3, .d (.raw (.func (.func 82) #[] #[]))] [.arr 0 52 (d0.map aa.pd)] (.tup [], [.arr 0 52 (r.map aa.pd)])
  | 0, _, _, _, _,  _, h => by cases h
  | nfu + 1, a1, a2, a3, d0,  r, h => by
   refine Ev.body rfl Tryz.func157 rfl (by kernel_rfl)<|qS<|gS rfl rfl<|sM rfl<|sM rfl<|sV (rI (rW (a2 - a1)))<|sF h (fun h => ?_) fun h => ?_
   ·refine sN<|cT<|gS rfl rfl<|sM rfl<|sA rfl<|sN<|gS rfl rfl<|sM rfl<|sA rfl<|sN<|qS<|bE h fun o16 ho16 h => WC.block (WC.loop (WL.ofLoop ho16 (fun s R' B' => ghosts prog 1 (A R' B') (av.at_ 157 1 3) = some (A [(0, .ref 0 0), (1, rI a1), (4, .d (.raw (.func (.func 82) #[] #[]))), (10, rI s.1), (11, rI s.2)] [(0, .arr 0 52 (d0.map aa.pd))])) (fun o e R' B' => e = .exit 0 ∧ ghosts prog 1 (A R' B') (av.at_ 157 1 8) = some (A [(0, .ref 0 0), (1, rI a1), (10, rI o)] [(0, .arr 0 52 (d0.map aa.pd))])) rfl ?_ ?_))
    ·rintro ⟨s2, s3⟩ R' B' q5 hI h
     refine qS<|gS rfl hI<|sM rfl<|sM rfl<|sF h (fun h => ?_) fun h => ?_
     ·refine sN<|cT<|qK<|qB<|gS rfl rfl<|sM rfl<|sM rfl<|sV (rI (rW (s2 + s3)))<|sV (.d (.int .u64 (IntKind.wrap .u64 (rW (s2 + s3)))))<|sV (.d (.int .u64 (shrI .u64 (IntKind.wrap .u64 (rW (s2 + s3))) (1 : Int))))<|sV (rI (rW (shrI .u64 (IntKind.wrap .u64 (rW (s2 + s3))) (1 : Int))))<|sA rfl<|sN<|WC.regionDSeq rfl rfl<|sM rfl ?_
      refine sM rfl<|sM rfl<|bE h fun x8 hx8 h => WO.eltG hx8 rfl rfl rfl rfl rfl rfl rfl rfl<|bE h fun x9 hx9 h => WO.loadE hx9 rfl rfl rfl rfl rfl rfl<|sM rfl<|sM rfl<|bE h fun x11 hx11 h => WO.eltG hx11 rfl rfl rfl rfl rfl rfl rfl rfl<|bE h fun x12 hx12 h => WO.loadE hx12 rfl rfl rfl rfl rfl rfl<|bE h fun x13 hx13 h => cD (eW hx13)<|sF h (fun h => ?_) fun h => ?_
      ·refine sN<|sO<|cT<|WC.region rfl rfl<|sM rfl<|sV (rI (rW ((rW (shrI .u64 (IntKind.wrap .u64 (rW (s2 + s3))) (1 : Int))) + (1 : Int))))<|sA rfl<|sN ?_
       cases oI h
       exact ⟨rfl, rfl⟩
      refine sN<|sO<|cF<|WC.region rfl rfl<|sM rfl<|sA rfl<|sN ?_
      cases oI h
      exact ⟨rfl, rfl⟩
     refine sN<|cF<|qX ?_
     cases oI h
     exact ⟨nofun, rfl, rfl⟩
    intro e R' B' he hq
    obtain ⟨rfl, hI⟩ := hq
    refine qE<|qS<|gS rfl hI<|sM rfl<|sA rfl<|sN<|bE h fun o35 ho35 h => ?_
    cases oI h
    refine WC.block (WC.loop (WL.ofLoopEnd ho35 (fun s R' B' => ghosts prog 1 (A R' B') (av.at_ 157 1 9) = some (A [(0, .ref 0 0), (10, rI o16), (13, rI s.1)] [(0, .arr 0 52 (s.2.map aa.pd))])) rfl ?_))
    rintro ⟨s17, s18⟩ R' B' q19 hI h
    refine qS<|gS rfl hI<|sM rfl<|sM rfl<|sV (rI (rW (o16 - (1 : Int))))<|sF h (fun h => ?_) fun h => ?_
    ·refine sN<|cT<|qK<|qS<|qB<|WC.regionD rfl rfl<|sM rfl<|sM rfl<|sM rfl<|sM rfl<|sV (rI (rW (s17 + (1 : Int))))<|sM rfl<|sM rfl<|sV (rI (rW (s17 + (1 : Int))))<|bE h fun x22 hx22 h => ?_
     refine WO.eltG hx22 rfl rfl rfl rfl rfl rfl rfl rfl<|bE h fun x23 hx23 h => WO.loadE hx23 rfl rfl rfl rfl rfl rfl<|sM rfl<|sM rfl<|bE h fun x25 hx25 h => WO.eltG hx25 rfl rfl rfl rfl rfl rfl rfl rfl<|bE h fun x26 hx26 h => WO.loadE hx26 rfl rfl rfl rfl rfl rfl<|bE h fun x28 hx28 h => WO.eltG hx28 rfl rfl rfl rfl rfl rfl rfl rfl<|bE h fun x29 hx29 h => WO.storeE (g := aa.pd) (sz := 9) (p := aa.pd x23) hx29 (by intro _; kernel_rfl) (by intro _; kernel_rfl) rfl rfl rfl rfl rfl rfl rfl rfl rfl<|bE h fun x31 hx31 h => WO.eltG hx31 rfl rfl rfl rfl rfl rfl rfl rfl ?_
     refine bE h fun x32 hx32 h => WO.storeE (g := aa.pd) (sz := 9) (p := aa.pd x26) hx32 (by intro _; kernel_rfl) (by intro _; kernel_rfl) rfl rfl rfl rfl rfl rfl rfl rfl rfl ?_
     refine sN<|sO<|WC.region rfl rfl<|sM rfl<|sV (rI (rW (s17 + (1 : Int))))<|sA rfl<|sN ?_
     cases oI h
     exact ⟨rfl, rfl⟩
    refine sN<|cF<|qX<|bind_elim h (fun z33 hkz33 hz => ?_)
    obtain rfl := Option.some.inj hz
    refine ⟨(fun he => by cases he), fun hz2 => ?_⟩
    subst hz2
    have h := hkz33
    refine qE<|qR ?_
    cases oI h
    exact qD
   refine sN<|cF<|qK<|qS<|gS rfl rfl<|sM rfl<|sM rfl<|sV (rI (rW (a3 - a2)))<|sF h (fun h => ?_) fun h => ?_
   ·refine sN<|cT<|gS rfl rfl<|sM rfl<|sA rfl<|sN<|gS rfl rfl<|sM rfl<|sA rfl<|sN<|qS<|bE h fun o51 ho51 h => WC.block (WC.loop (WL.ofLoop ho51 (fun s R' B' => ghosts prog 1 (A R' B') (av.at_ 157 1 15) = some (A [(0, .ref 0 0), (2, rI a2), (4, .d (.raw (.func (.func 82) #[] #[]))), (14, rI s.1), (15, rI s.2)] [(0, .arr 0 52 (d0.map aa.pd))])) (fun o e R' B' => e = .exit 4 ∧ ghosts prog 1 (A R' B') (av.at_ 157 1 20) = some (A [(0, .ref 0 0), (2, rI a2), (14, rI o)] [(0, .arr 0 52 (d0.map aa.pd))])) rfl ?_ ?_))
    ·rintro ⟨s37, s38⟩ R' B' q40 hI h
     refine qS<|gS rfl hI<|sM rfl<|sM rfl<|sF h (fun h => ?_) fun h => ?_
     ·refine sN<|cT<|qK<|qB<|gS rfl rfl<|sM rfl<|sM rfl<|sV (rI (rW (s37 + s38)))<|sV (.d (.int .u64 (IntKind.wrap .u64 (rW (s37 + s38)))))<|sV (.d (.int .u64 (shrI .u64 (IntKind.wrap .u64 (rW (s37 + s38))) (1 : Int))))<|sV (rI (rW (shrI .u64 (IntKind.wrap .u64 (rW (s37 + s38))) (1 : Int))))<|sA rfl<|sN<|WC.regionDSeq rfl rfl<|sM rfl ?_
      refine sM rfl<|sM rfl<|bE h fun x43 hx43 h => WO.eltG hx43 rfl rfl rfl rfl rfl rfl rfl rfl<|bE h fun x44 hx44 h => WO.loadE hx44 rfl rfl rfl rfl rfl rfl<|sM rfl<|sM rfl<|bE h fun x46 hx46 h => WO.eltG hx46 rfl rfl rfl rfl rfl rfl rfl rfl<|bE h fun x47 hx47 h => WO.loadE hx47 rfl rfl rfl rfl rfl rfl<|bE h fun x48 hx48 h => cD (eW hx48)<|sV (rB (decide (x48 < (0 : Int)))) ?_
      refine sF h (fun h => ?_) fun h => ?_
      ·refine sN<|sO<|cT<|WC.region rfl rfl<|sM rfl<|sV (rI (rW ((rW (shrI .u64 (IntKind.wrap .u64 (rW (s37 + s38))) (1 : Int))) + (1 : Int))))<|sA rfl<|sN ?_
       cases oI h
       exact ⟨rfl, rfl⟩
      refine sN<|sO<|cF<|WC.region rfl rfl<|sM rfl<|sA rfl<|sN ?_
      cases oI h
      exact ⟨rfl, rfl⟩
     refine sN<|cF<|qX ?_
     cases oI h
     exact ⟨nofun, rfl, rfl⟩
    intro e R' B' he hq
    obtain ⟨rfl, hI⟩ := hq
    refine qE<|qS<|gS rfl hI<|sM rfl<|sA rfl<|sN<|bE h fun o70 ho70 h => ?_
    cases oI h
    refine WC.block (WC.loop (WL.ofLoopEnd ho70 (fun s R' B' => ghosts prog 1 (A R' B') (av.at_ 157 1 21) = some (A [(0, .ref 0 0), (14, rI o51), (17, rI s.1)] [(0, .arr 0 52 (s.2.map aa.pd))])) rfl ?_))
    rintro ⟨s52, s53⟩ R' B' q54 hI h
    refine qS<|gS rfl hI<|sM rfl<|sM rfl<|sF h (fun h => ?_) fun h => ?_
    ·refine sN<|cT<|qK<|qS<|qB<|WC.regionD rfl rfl<|sM rfl<|sM rfl<|sM rfl<|sM rfl<|sV (rI (rW (s52 - (1 : Int))))<|sM rfl<|sM rfl<|sV (rI (rW (s52 - (1 : Int))))<|bE h fun x57 hx57 h => ?_
     refine WO.eltG hx57 rfl rfl rfl rfl rfl rfl rfl rfl<|bE h fun x58 hx58 h => WO.loadE hx58 rfl rfl rfl rfl rfl rfl<|sM rfl<|sM rfl<|bE h fun x60 hx60 h => WO.eltG hx60 rfl rfl rfl rfl rfl rfl rfl rfl<|bE h fun x61 hx61 h => WO.loadE hx61 rfl rfl rfl rfl rfl rfl<|bE h fun x63 hx63 h => WO.eltG hx63 rfl rfl rfl rfl rfl rfl rfl rfl<|bE h fun x64 hx64 h => WO.storeE (g := aa.pd) (sz := 9) (p := aa.pd x58) hx64 (by intro _; kernel_rfl) (by intro _; kernel_rfl) rfl rfl rfl rfl rfl rfl rfl rfl rfl<|bE h fun x66 hx66 h => WO.eltG hx66 rfl rfl rfl rfl rfl rfl rfl rfl ?_
     refine bE h fun x67 hx67 h => WO.storeE (g := aa.pd) (sz := 9) (p := aa.pd x61) hx67 (by intro _; kernel_rfl) (by intro _; kernel_rfl) rfl rfl rfl rfl rfl rfl rfl rfl rfl ?_
     refine sN<|sO<|WC.region rfl rfl<|sM rfl<|sV (rI (rW (s52 - (1 : Int))))<|sA rfl<|sN ?_
     cases oI h
     exact ⟨rfl, rfl⟩
    refine sN<|cF<|qX<|bind_elim h (fun z68 hkz68 hz => ?_)
    obtain rfl := Option.some.inj hz
    refine ⟨(fun he => by cases he), fun hz2 => ?_⟩
    subst hz2
    have h := hkz68
    refine qE<|qR ?_
    cases oI h
    exact qD
   refine sN<|cF<|qK<|gS rfl rfl<|sM rfl<|sM rfl<|sV (rI (rW (a1 + a3)))<|sV (.d (.int .u64 (IntKind.wrap .u64 (rW (a1 + a3)))))<|sV (.d (.int .u64 (shrI .u64 (IntKind.wrap .u64 (rW (a1 + a3))) (1 : Int))))<|sV (rI (rW (shrI .u64 (IntKind.wrap .u64 (rW (a1 + a3))) (1 : Int))))<|sA rfl<|sN<|gS rfl rfl<|sM rfl<|sM rfl ?_
   refine sV (rI (rW ((rW (shrI .u64 (IntKind.wrap .u64 (rW (a1 + a3))) (1 : Int))) + a2)))<|sA rfl<|sN<|gS rfl rfl<|sV (r0)<|sV (r0)<|sN<|WC.join (α := Int × Int) (fun x R' B' => ghosts prog 1 (A R' B') (av.at_ 157 1 32) = some (A [(0, .ref 0 0), (1, rI a1), (2, rI a2), (3, rI a3), (4, .d (.raw (.func (.func 82) #[] #[]))), (18, rI (rW (shrI .u64 (IntKind.wrap .u64 (rW (a1 + a3))) (1 : Int)))), (19, rI (rW ((rW (shrI .u64 (IntKind.wrap .u64 (rW (a1 + a3))) (1 : Int))) + a2))), (20, rI x.1), (21, rI x.2)] [(0, .arr 0 52 (d0.map aa.pd))])) (fun x => bo d0 a1 a3 a2 (a7 nfu) x.1 x.2 = some r) ?_ ?_
   ·refine gS rfl rfl<|sM rfl<|sM rfl<|sF h (fun h => ?_) fun h => ?_
    ·exact sN<|cT<|gS rfl rfl<|sM rfl<|sM rfl<|sV (rI (rW ((rW ((rW (shrI .u64 (IntKind.wrap .u64 (rW (a1 + a3))) (1 : Int))) + a2)) - a3)))<|sA rfl<|sN<|WC.region rfl rfl<|sM rfl<|sA rfl<|sN<|⟨((rW ((rW ((rW (shrI .u64 (IntKind.wrap .u64 (rW (a1 + a3))) (1 : Int))) + a2)) - a3)), (rW (shrI .u64 (IntKind.wrap .u64 (rW (a1 + a3))) (1 : Int)))), rfl, h⟩
    exact sN<|cF<|gS rfl rfl<|sM rfl<|sA rfl<|sN<|WC.region rfl rfl<|sM rfl<|sA rfl<|sN<|⟨(a1, a2), rfl, h⟩
   rintro ⟨j71, j72⟩ R' B' hI h
   refine gS rfl hI<|sM rfl<|sV (rI (rW ((rW ((rW (shrI .u64 (IntKind.wrap .u64 (rW (a1 + a3))) (1 : Int))) + a2)) - (1 : Int))))<|sA rfl<|sN<|qS<|bE h fun o87 ho87 h => WC.block (WC.loop (WL.ofLoop ho87 (fun s R' B' => ghosts prog 1 (A R' B') (av.at_ 157 1 33) = some (A [(0, .ref 0 0), (1, rI a1), (2, rI a2), (3, rI a3), (4, .d (.raw (.func (.func 82) #[] #[]))), (18, rI (rW (shrI .u64 (IntKind.wrap .u64 (rW (a1 + a3))) (1 : Int)))), (19, rI (rW ((rW (shrI .u64 (IntKind.wrap .u64 (rW (a1 + a3))) (1 : Int))) + a2))), (20, rI s.1), (21, rI s.2), (22, rI (rW ((rW ((rW (shrI .u64 (IntKind.wrap .u64 (rW (a1 + a3))) (1 : Int))) + a2)) - (1 : Int))))] [(0, .arr 0 52 (d0.map aa.pd))])) (fun o e R' B' => e = .exit 8 ∧ ghosts prog 1 (A R' B') (av.at_ 157 1 38) = some (A [(0, .ref 0 0), (1, rI a1), (2, rI a2), (3, rI a3), (4, .d (.raw (.func (.func 82) #[] #[]))), (18, rI (rW (shrI .u64 (IntKind.wrap .u64 (rW (a1 + a3))) (1 : Int)))), (19, rI (rW ((rW (shrI .u64 (IntKind.wrap .u64 (rW (a1 + a3))) (1 : Int))) + a2))), (20, rI o)] [(0, .arr 0 52 (d0.map aa.pd))])) rfl ?_ ?_))
   ·rintro ⟨s73, s74⟩ R' B' q76 hI h
    refine qS<|gS rfl hI<|sM rfl<|sM rfl<|sF h (fun h => ?_) fun h => ?_
    ·refine sN<|cT<|qK<|qB<|gS rfl rfl<|sM rfl<|sM rfl<|sV (rI (rW (s73 + s74)))<|sV (.d (.int .u64 (IntKind.wrap .u64 (rW (s73 + s74)))))<|sV (.d (.int .u64 (shrI .u64 (IntKind.wrap .u64 (rW (s73 + s74))) (1 : Int))))<|sV (rI (rW (shrI .u64 (IntKind.wrap .u64 (rW (s73 + s74))) (1 : Int))))<|sA rfl<|sN<|WC.regionDSeq rfl rfl<|sM rfl ?_
     refine sM rfl<|sM rfl<|sM rfl<|sV (rI (rW ((rW ((rW ((rW (shrI .u64 (IntKind.wrap .u64 (rW (a1 + a3))) (1 : Int))) + a2)) - (1 : Int))) - (rW (shrI .u64 (IntKind.wrap .u64 (rW (s73 + s74))) (1 : Int))))))<|bE h fun x79 hx79 h => WO.eltG hx79 rfl rfl rfl rfl rfl rfl rfl rfl<|bE h fun x80 hx80 h => WO.loadE hx80 rfl rfl rfl rfl rfl rfl<|sM rfl<|sM rfl<|bE h fun x82 hx82 h => WO.eltG hx82 rfl rfl rfl rfl rfl rfl rfl rfl<|bE h fun x83 hx83 h => WO.loadE hx83 rfl rfl rfl rfl rfl rfl<|bE h fun x84 hx84 h => ?_
     refine cD (eW hx84)<|sV (rB (decide (x84 < (0 : Int))))<|sF h (fun h => ?_) fun h => ?_
     ·refine sN<|sO<|cT<|WC.region rfl rfl<|sM rfl<|sV (rI (rW ((rW (shrI .u64 (IntKind.wrap .u64 (rW (s73 + s74))) (1 : Int))) + (1 : Int))))<|sA rfl<|sN ?_
      cases oI h
      exact ⟨rfl, rfl⟩
     refine sN<|sO<|cF<|WC.region rfl rfl<|sM rfl<|sA rfl<|sN ?_
     cases oI h
     exact ⟨rfl, rfl⟩
    refine sN<|cF<|qX ?_
    cases oI h
    exact ⟨nofun, rfl, rfl⟩
   intro e R' B' he hq
   obtain ⟨rfl, hI⟩ := hq
   refine qE<|gS rfl hI<|sM rfl<|sM rfl<|sV (rI (rW ((rW ((rW (shrI .u64 (IntKind.wrap .u64 (rW (a1 + a3))) (1 : Int))) + a2)) - o87)))<|sA rfl<|sN<|WC.join (α := (List aa)) (fun x R' B' => ghosts prog 1 (A R' B') (av.at_ 157 1 41) = some (A [(0, .ref 0 0), (1, rI a1), (3, rI a3), (4, .d (.raw (.func (.func 82) #[] #[]))), (18, rI (rW (shrI .u64 (IntKind.wrap .u64 (rW (a1 + a3))) (1 : Int)))), (20, rI o87), (24, rI (rW ((rW ((rW (shrI .u64 (IntKind.wrap .u64 (rW (a1 + a3))) (1 : Int))) + a2)) - o87)))] [(0, .arr 0 52 (x.map aa.pd))])) (fun x => bi a1 o87 a3 (a7 nfu) a2 x = some r) ?_ ?_
   ·refine gS rfl rfl<|sM rfl<|sM rfl<|sF h (fun h => ?_) fun h => ?_
    ·refine sM rfl<|sM rfl<|sM rfl<|sV (rB (decide (a2 < (rW ((rW ((rW (shrI .u64 (IntKind.wrap .u64 (rW (a1 + a3))) (1 : Int))) + a2)) - o87)))))<|sF h (fun h => ?_) fun h => ?_
     ·exact sN<|cT<|WC.region rfl rfl<|sM rfl<|sM rfl<|sM rfl<|sM rfl<|sM rfl<|bE h fun x100 hx100 h => cR (.tup []) [(0, .arr 0 52 (x100.map aa.pd))] (oE hx100)<|sN<|⟨x100, rfl, h⟩
     exact sN<|cF<|qK<|⟨d0, rfl, h⟩
    exact sM rfl<|k3<|sU<|sN<|cF<|qK<|⟨d0, rfl, h⟩
   rintro j88 R' B' hI h
   refine WC.join (α := (List aa)) (fun x R' B' => ghosts prog 1 (A R' B') (av.at_ 157 1 43) = some (A [(0, .ref 0 0), (3, rI a3), (4, .d (.raw (.func (.func 82) #[] #[]))), (18, rI (rW (shrI .u64 (IntKind.wrap .u64 (rW (a1 + a3))) (1 : Int)))), (24, rI (rW ((rW ((rW (shrI .u64 (IntKind.wrap .u64 (rW (a1 + a3))) (1 : Int))) + a2)) - o87)))] [(0, .arr 0 52 (x.map aa.pd))])) (fun x => bh a1 a3 a2 o87 (a7 nfu) x = some r) ?_ ?_
   ·refine gS rfl hI<|sM rfl<|sM rfl<|sF h (fun h => ?_) fun h => ?_
    ·refine sM rfl<|sM rfl<|sM rfl<|sV (rB (decide (o87 < (rW (shrI .u64 (IntKind.wrap .u64 (rW (a1 + a3))) (1 : Int))))))<|sF h (fun h => ?_) fun h => ?_
     ·exact sN<|cT<|WC.region rfl rfl<|sM rfl<|sM rfl<|sM rfl<|sM rfl<|sM rfl<|bE h fun x96 hx96 h => cR (.tup []) [(0, .arr 0 52 (x96.map aa.pd))] (dX nfu hx96)<|sN<|⟨x96, rfl, h⟩
     exact sN<|cF<|qK<|⟨j88, rfl, h⟩
    exact sM rfl<|k3<|sU<|sN<|cF<|qK<|⟨j88, rfl, h⟩
   rintro j89 R' B' hI h
   refine gS rfl hI<|sM rfl<|sM rfl<|sF h (fun h => ?_) fun h => ?_
   ·refine sM rfl<|sM rfl<|sM rfl<|sV (rB (decide ((rW ((rW ((rW (shrI .u64 (IntKind.wrap .u64 (rW (a1 + a3))) (1 : Int))) + a2)) - o87)) < a3)))<|sF h (fun h => ?_) fun h => ?_
    ·refine sN<|cT<|WC.region rfl rfl<|sM rfl<|sM rfl<|sM rfl<|sM rfl<|sM rfl<|bE h fun x92 hx92 h => cR (.tup []) [(0, .arr 0 52 (x92.map aa.pd))] (dX nfu hx92)<|sN ?_
     cases oI h
     exact qD
    refine sN<|cF<|qK ?_
    cases oI h
    exact qD
   refine sM rfl<|k3<|sU<|sN<|cF<|qK ?_
   cases oI h
   exact qD
theorem ij {a1 : Int} {a2 : Int} {a3 : Int} {d0 : (List aa)} {r : (List aa)} (h : dg a1 a2 a3 d0 = some r) : EvP prog av ext 157 [.ref 0 0, rI a1, rI a2, rI a3, .d (.raw (.func (.func 82) #[] #[]))] [.arr 0 52 (d0.map aa.pd)] (.tup [], [.arr 0 52 (r.map aa.pd)]) :=
  let ⟨n, hn⟩ := recO_some h; dX n hn
theorem oG {a1 : Int} {d0 : (List aa)} {r : (List aa)} (h : cI a1 d0 = some r) : EvP prog av ext 125 [.ref 0 0, rI a1, .d (.raw (.func (.func 82) #[] #[]))] [.arr 0 52 (d0.map aa.pd)] (.tup [], [.arr 0 52 (r.map aa.pd)]) := by
 refine Ev.body rfl Tryz.func125 rfl (by kernel_rfl)<|gS rfl rfl<|sV (rI 20)<|sN<|gS rfl rfl<|sM rfl<|sV (r0)<|sA rfl<|sN<|qS<|bE h fun o10 ho10 h => WC.block (WC.loop (WL.ofLoop ho10 (fun s R' B' => ghosts prog 1 (A R' B') (av.at_ 125 1 2) = some (A [(0, .ref 0 0), (1, rI a1), (2, .d (.raw (.func (.func 82) #[] #[]))), (6, rI 20), (7, rI s.1), (8, rI s.2.1)] [(0, .arr 0 52 (s.2.2.map aa.pd))])) (fun o e R' B' => e = .exit 0 ∧ ghosts prog 1 (A R' B') (av.at_ 125 1 6) = some (A [(0, .ref 0 0), (1, rI a1), (2, .d (.raw (.func (.func 82) #[] #[]))), (6, rI 20), (7, rI o.1)] [(0, .arr 0 52 (o.2.map aa.pd))])) rfl ?_ ?_))
 ·rintro ⟨s1, s2, s3⟩ R' B' q6 hI h
  refine qS<|gS rfl hI<|sM rfl<|sM rfl<|sF h (fun h => ?_) fun h => ?_
  ·refine sN<|cT<|qK<|qB<|gS rfl rfl<|sM rfl<|sM rfl<|sM rfl<|sM rfl<|bE h fun x8 hx8 h => cR (.tup []) [(0, .arr 0 52 (x8.map aa.pd))] (fM hx8)<|sN<|gS rfl rfl<|sM rfl<|sA rfl ?_
   refine sN<|WC.region rfl rfl<|sM rfl<|sM rfl<|sV (rI (rW (s2 + (20 : Int))))<|sA rfl<|sN ?_
   cases oI h
   exact ⟨rfl, rfl⟩
  refine sN<|cF<|qX ?_
  cases oI h
  exact ⟨nofun, rfl, rfl⟩
 intro e R' B' he hq
 obtain ⟨rfl, hI⟩ := hq
 refine qE<|gS rfl hI<|sM rfl<|sM rfl<|sM rfl<|sM rfl<|bE h fun x11 hx11 h => cR (.tup []) [(0, .arr 0 52 (x11.map aa.pd))] (fM hx11)<|sN<|bE h fun o31 ho31 h => ?_
 cases oI h
 refine WC.block (WC.loop (WL.ofLoopEnd ho31 (fun s R' B' => ghosts prog 1 (A R' B') (av.at_ 125 1 7) = some (A [(0, .ref 0 0), (1, rI a1), (2, .d (.raw (.func (.func 82) #[] #[]))), (6, rI s.1)] [(0, .arr 0 52 (s.2.map aa.pd))])) rfl ?_))
 rintro ⟨s12, s13⟩ R' B' q14 hI h
 refine qS<|gS rfl hI<|sM rfl<|sM rfl<|sF h (fun h => ?_) fun h => ?_
 ·refine sN<|cT<|qK<|qB<|gS rfl rfl<|sM rfl<|sV (rI (rW ((2 : Int) * s12)))<|sV (r0)<|sA rfl<|sN<|qS<|bE h fun o26 ho26 h => WC.block (WC.loop (WL.ofLoop ho26 (fun s R' B' => ghosts prog 1 (A R' B') (av.at_ 125 1 9) = some (A [(0, .ref 0 0), (1, rI a1), (2, .d (.raw (.func (.func 82) #[] #[]))), (6, rI s12), (7, rI s.1), (8, rI s.2.1)] [(0, .arr 0 52 (s.2.2.map aa.pd))])) (fun o e R' B' => e = .exit 4 ∧ ghosts prog 1 (A R' B') (av.at_ 125 1 13) = some (A [(0, .ref 0 0), (1, rI a1), (2, .d (.raw (.func (.func 82) #[] #[]))), (6, rI o.1), (7, rI o.2.1)] [(0, .arr 0 52 (o.2.2.map aa.pd))])) rfl ?_ ?_))
  ·rintro ⟨s16, s17, s18⟩ R' B' q22 hI h
   refine qS<|gS rfl hI<|sM rfl<|sM rfl<|sF h (fun h => ?_) fun h => ?_
   ·refine sN<|cT<|qK<|qB<|gS rfl rfl<|sM rfl<|sM rfl<|sM rfl<|sM rfl<|sV (rI (rW (s16 + s12)))<|sM rfl<|sM rfl<|bE h fun x24 hx24 h => cR (.tup []) [(0, .arr 0 52 (x24.map aa.pd))] (ij hx24)<|sN ?_
    refine gS rfl rfl<|sM rfl<|sA rfl<|sN<|WC.region rfl rfl<|sM rfl<|sM rfl<|sV (rI (rW ((2 : Int) * s12)))<|sV (rI (rW (s17 + (rW ((2 : Int) * s12)))))<|sA rfl<|sN ?_
    cases oI h
    exact ⟨rfl, rfl⟩
   refine sN<|cF<|qX ?_
   cases oI h
   exact ⟨nofun, rfl, rfl⟩
  intro e R' B' he hq
  obtain ⟨rfl, hI⟩ := hq
  refine qE<|qS<|gS rfl hI<|sM rfl<|sM rfl<|sV (rI (rW (o26.2.1 + o26.1)))<|sA rfl<|sN<|gS rfl rfl<|sM rfl<|sM rfl<|sF h (fun h => ?_) fun h => ?_
  ·refine sN<|cT<|WC.region rfl rfl<|sM rfl<|sM rfl<|sM rfl<|sM rfl<|sM rfl<|bE h fun x28 hx28 h => cR (.tup []) [(0, .arr 0 52 (x28.map aa.pd))] (ij hx28)<|sN<|WC.region rfl rfl<|sM rfl<|sV (rI (rW (o26.1 * (2 : Int))))<|sA rfl ?_
   refine sN ?_
   cases oI h
   exact ⟨rfl, rfl⟩
  refine sN<|cF<|qK<|WC.region rfl rfl<|sM rfl<|sV (rI (rW (o26.1 * (2 : Int))))<|sA rfl<|sN ?_
  cases oI h
  exact ⟨rfl, rfl⟩
 refine sN<|cF<|qX<|bind_elim h (fun z29 hkz29 hz => ?_)
 obtain rfl := Option.some.inj hz
 refine ⟨(fun he => by cases he), fun hz2 => ?_⟩
 subst hz2
 have h := hkz29
 refine qE ?_
 cases oI h
 exact qD
theorem n9 {d0 : (List aa)} {r : (List aa)} (h : bK d0 = some r) : EvP prog av ext 81 [.ref 0 0, .d (.raw (.func (.func 82) #[] #[]))] [.arr 0 52 (d0.map aa.pd)] (.tup [], [.arr 0 52 (r.map aa.pd)]) := by
 refine Ev.body rfl Tryz.func81 rfl (by kernel_rfl)<|WC.region rfl rfl<|sM rfl<|sM rfl<|WO.lenR rfl rfl rfl rfl rfl rfl rfl rfl rfl<|sM rfl<|bE h fun x1 hx1 h => cR (.tup []) [(0, .arr 0 52 (x1.map aa.pd))] (oG hx1)<|sN ?_
 cases oI h
 exact qD
theorem kZ {a0 : Int} {a1 : (List aa)} {r : (List (List aa))} (h : cC a0 a1 = some r) : EvP prog av ext 44 [rI a0, .d (.lst (a1.map aa.pd))] [] (.d (.lst (r.map (fun l => PD.lst (l.map aa.pd)))), []) := by
 refine Ev.body rfl Tryz.func44 rfl (by kernel_rfl)<|gS rfl rfl<|sV .nils<|sN<|gS rfl rfl<|sM rfl<|bE h fun x1 hx1 h => cR (.ref 192 0) [(192, .arr 0 52 (x1.map aa.pd))] (wY hx1)<|sA rfl<|sN<|gS rfl rfl<|sM rfl<|bE h fun x2 hx2 h => cR (.tup []) [(192, .arr 0 52 (x2.map aa.pd))] (n9 hx2)<|sN ?_
 refine gS rfl rfl<|sV .nils<|sN<|qS<|gS rfl rfl<|sM rfl<|WO.lenR rfl rfl rfl rfl rfl rfl rfl rfl rfl<|sV (r0)<|sN<|bE h fun o37 ho37 h => WC.block (WC.loop (WL.ofLoop ho37 (fun s R' B' => ghosts prog 0 (A R' B') (av.at_ 44 0 5) = some (A [(0, rI a0), (5, .ref 192 0), (6, .ref 624 0), (15, .ref 192 0), (16, rI (x2.length : Int)), (17, rI s.1)] [(192, .arr 0 52 (x2.map aa.pd)), (624, .nest 0 25 52 (s.2.map (List.map aa.pd)) none)])) (fun o e R' B' => e = .exit 0 ∧ ghosts prog 0 (A R' B') (av.at_ 44 0 11) = some (A [(6, .ref 624 0)] [(624, .nest 0 25 52 (o.map (List.map aa.pd)) none)])) rfl ?_ ?_))
 ·rintro ⟨s3, s4⟩ R' B' q6 hI h
  refine gS rfl hI<|sF h (fun h => ?_) fun h => ?_
  ·refine sN<|qS<|cT<|qK<|qS<|qB<|gS rfl rfl<|sM rfl<|bE h fun x9 hx9 h => WO.eltG hx9 rfl rfl rfl rfl rfl rfl rfl rfl<|bE h fun x10 hx10 h => WO.loadE hx10 rfl rfl rfl rfl rfl rfl<|sB (.ptr 128 0) 128 (.var zZ1)<|sA rfl<|sH 128 (.var (aa.rc x10)) ?_
   refine sN<|qS<|WC.regionDSeq rfl rfl<|sM rfl<|sF h (fun h => ?_) fun h => ?_
   ·refine sM rfl<|k3<|k3<|k3<|sK<|sK<|sT ?_
    refine sN<|sO<|cT<|WC.region (R0 := [(0, rI a0), (5, .ref 192 0), (6, .ref 624 0), (8, .ptr 128 0), (15, .ref 192 0), (16, rI (x2.length : Int)), (17, rI s3)]) (B0 := [(128, .var (aa.rc x10)), (192, .arr 0 52 (x2.map aa.pd)), (624, .nest 0 25 52 (s4.map (List.map aa.pd)) none)]) rfl rfl<|sM rfl<|sV (.d (.lst [nil0]))<|bE h fun x12 hx12 h => WO.appNN hx12 rfl rfl rfl rfl rfl rfl rfl rfl rfl rfl rfl rfl rfl rfl<|sA rfl<|sN<|bE h fun x13 hx13 h => WC.regionD (ghosts_lendL hx13 rfl rfl rfl) rfl<|sM rfl<|sM rfl<|WO.lenN rfl rfl rfl rfl rfl rfl rfl rfl rfl<|sV (rI (rW ((x12.length : Int) - (1 : Int)))) ?_
    refine sM rfl<|sM rfl<|WO.lenN rfl rfl rfl rfl rfl rfl rfl rfl rfl<|sV (rI (rW ((x12.length : Int) - (1 : Int))))<|bE h fun x14 hx14 h => WO.eltN hx14 rfl rfl rfl rfl rfl rfl rfl rfl<|bE h fun x15 hx15 h => WO.loadN hx15 rfl rfl rfl rfl rfl rfl<|sV (.d (aa.pd x10))<|sG (.d (.lst ([x10].map aa.pd)))<|bE h fun x16 hx16 h => aR hx16 (fun _ => rfl) rfl<|bE h fun x17 hx17 h => WO.eltN hx17 rfl rfl rfl rfl rfl rfl rfl rfl<|bE h fun x18 hx18 h => ?_
    refine WO.storeN hx18 rfl rfl rfl rfl rfl rfl rfl ?_
    refine sN<|sO<|WC.region rfl rfl<|sV (rI (rW (s3 + (1 : Int))))<|sM rfl<|sN ?_
    cases oI h
    exact ⟨rfl, (ghosts_give rfl rfl (by decide) rfl)⟩
   refine sM rfl<|sV (.ptr 128 5)<|sL rfl<|sM rfl<|sM rfl<|sV (rI (rW (s3 - (1 : Int))))<|bE h fun x20 hx20 h => WO.eltG hx20 rfl rfl rfl rfl rfl rfl rfl rfl<|sV (.elt 192 0 ((rW (s3 - (1 : Int)))).toNat 5)<|bE h fun x21 hx21 h => WO.loadE hx21 rfl rfl rfl rfl rfl rfl<|sV (rI (rW (x10.aH - x21.aH)))<|sM rfl<|sV (rB (decide ((rW (x10.aH - x21.aH)) > a0)))<|sF h (fun h => ?_) fun h => ?_
   ·refine sN<|sO<|cT<|WC.region (R0 := [(0, rI a0), (5, .ref 192 0), (6, .ref 624 0), (8, .ptr 128 0), (15, .ref 192 0), (16, rI (x2.length : Int)), (17, rI s3)]) (B0 := [(128, .var (aa.rc x10)), (192, .arr 0 52 (x2.map aa.pd)), (624, .nest 0 25 52 (s4.map (List.map aa.pd)) none)]) rfl rfl<|sM rfl<|sV (.d (.lst [nil0]))<|bE h fun x23 hx23 h => WO.appNN hx23 rfl rfl rfl rfl rfl rfl rfl rfl rfl rfl rfl rfl rfl rfl<|sA rfl<|sN<|bE h fun x24 hx24 h => WC.regionD (ghosts_lendL hx24 rfl rfl rfl) rfl<|sM rfl<|sM rfl<|WO.lenN rfl rfl rfl rfl rfl rfl rfl rfl rfl<|sV (rI (rW ((x23.length : Int) - (1 : Int)))) ?_
    refine sM rfl<|sM rfl<|WO.lenN rfl rfl rfl rfl rfl rfl rfl rfl rfl<|sV (rI (rW ((x23.length : Int) - (1 : Int))))<|bE h fun x25 hx25 h => WO.eltN hx25 rfl rfl rfl rfl rfl rfl rfl rfl<|bE h fun x26 hx26 h => WO.loadN hx26 rfl rfl rfl rfl rfl rfl<|sV (.d (aa.pd x10))<|sG (.d (.lst ([x10].map aa.pd)))<|bE h fun x27 hx27 h => aR hx27 (fun _ => rfl) rfl<|bE h fun x28 hx28 h => WO.eltN hx28 rfl rfl rfl rfl rfl rfl rfl rfl<|bE h fun x29 hx29 h => ?_
    refine WO.storeN hx29 rfl rfl rfl rfl rfl rfl rfl ?_
    refine sN<|sO<|WC.region rfl rfl<|sV (rI (rW (s3 + (1 : Int))))<|sM rfl<|sN ?_
    cases oI h
    exact ⟨rfl, (ghosts_give rfl rfl (by decide) rfl)⟩
   refine sN<|sO<|cF<|qK<|bE h fun x30 hx30 h => WC.regionD (ghosts_lendL hx30 rfl rfl rfl) rfl<|sM rfl<|sM rfl<|WO.lenN rfl rfl rfl rfl rfl rfl rfl rfl rfl<|sV (rI (rW ((s4.length : Int) - (1 : Int))))<|sM rfl<|sM rfl<|WO.lenN rfl rfl rfl rfl rfl rfl rfl rfl rfl<|sV (rI (rW ((s4.length : Int) - (1 : Int))))<|bE h fun x31 hx31 h => WO.eltN hx31 rfl rfl rfl rfl rfl rfl rfl rfl ?_
   refine bE h fun x32 hx32 h => WO.loadN hx32 rfl rfl rfl rfl rfl rfl<|sV (.d (aa.pd x10))<|sG (.d (.lst ([x10].map aa.pd)))<|bE h fun x33 hx33 h => aR hx33 (fun _ => rfl) rfl<|bE h fun x34 hx34 h => WO.eltN hx34 rfl rfl rfl rfl rfl rfl rfl rfl<|bE h fun x35 hx35 h => WO.storeN hx35 rfl rfl rfl rfl rfl rfl rfl ?_
   refine sN<|sO<|WC.region rfl rfl<|sV (rI (rW (s3 + (1 : Int))))<|sM rfl<|sN ?_
   cases oI h
   exact ⟨rfl, (ghosts_give rfl rfl (by decide) rfl)⟩
  refine sN<|qS<|cF<|qX ?_
  cases oI h
  exact ⟨nofun, rfl, rfl⟩
 intro e R' B' he hq
 obtain ⟨rfl, hI⟩ := hq
 refine qE<|qS<|gS rfl hI<|sM rfl<|WO.lenN rfl rfl rfl rfl rfl rfl rfl rfl rfl<|sV (r0)<|sN<|bE h fun o48 ho48 h => WC.block (WC.loop (WL.ofLoop ho48 (fun s R' B' => ghosts prog 0 (A R' B') (av.at_ 44 0 12) = some (A [(6, .ref 624 0), (55, .ref 624 0), (56, rI (o37.length : Int)), (57, rI s.1)] [(624, .nest 0 25 52 (s.2.map (List.map aa.pd)) none)])) (fun o e R' B' => e = .exit 2 ∧ ghosts prog 0 (A R' B') (av.at_ 44 0 16) = some (A [(6, .d (.lst (o.map (fun l => PD.lst (l.map aa.pd)))))] [])) rfl ?_ ?_))
 ·rintro ⟨s38, s39⟩ R' B' q41 hI h
  refine gS rfl hI<|sF h (fun h => ?_) fun h => ?_
  ·refine sN<|qS<|cT<|qK<|qS<|qB<|bE h fun x43 hx43 h => WC.regionSeq (ghosts_lendR hx43 rfl rfl rfl rfl) rfl<|bE h fun x44 hx44 h => WO.eltN hx44 rfl rfl rfl rfl rfl rfl rfl rfl<|bE h fun x45 hx45 h => WO.loadN hx45 rfl rfl rfl rfl rfl rfl<|sA rfl<|sN<|WC.region rfl rfl ?_
   refine sM rfl<|bE h fun x46 hx46 h => cR (.tup []) [(960, .arr 0 52 (x46.map aa.pd))] (yF hx46)<|sN<|WC.region rfl rfl<|sV (rI (rW (s38 + (1 : Int))))<|sM rfl<|sN ?_
   cases oI h
   exact ⟨rfl, (ghosts_give rfl rfl (by decide) rfl)⟩
  refine sN<|qS<|cF<|qX ?_
  cases oI h
  exact ⟨nofun, rfl, (ghosts_skip rfl (ghosts_frzn rfl rfl rfl))⟩
 intro e R' B' he hq
 obtain ⟨rfl, hI⟩ := hq
 refine qE<|gS rfl hI<|sM rfl<|sA rfl<|sN<|qR ?_
 cases oI h
 exact qD
theorem fH {a0 : Int} {a1 : (List aa)} {r : (List (List aa)) × Int} (h : b7 a0 a1 = some r) : EvP prog av ext 13 [rI a0, .d (.lst (a1.map aa.pd))] [] (.tup [.d (.lst (r.1.map (fun l => PD.lst (l.map aa.pd)))), rI r.2], []) := by
 refine Ev.body rfl Tryz.func13 rfl (by kernel_rfl)<|gS rfl rfl<|sV .nils<|sV (r0)<|sN<|qS<|qB<|gS rfl rfl<|sM rfl<|sF h (fun h => ?_) fun h => ?_
 ·refine sM rfl<|sK<|sK<|sT<|sA rfl<|sN<|cT<|gS rfl rfl<|sV .nils<|sV (rI 2)<|sN<|qR ?_
  cases oI h
  exact qD
 refine sM rfl<|sM rfl<|sV (rB (decide (a0 > (1099511627776 : Int))))<|sF h (fun h => ?_) fun h => ?_
 ·refine sA rfl<|sN<|cT<|gS rfl rfl<|sV .nils<|sV (rI 2)<|sN<|qR ?_
  cases oI h
  exact qD
 refine sA rfl<|sN<|cF<|gS rfl rfl<|sM rfl<|bE h fun x3 hx3 h => cD (mN hx3)<|sF h (fun h => ?_) fun h => ?_
 ·refine sA rfl<|sN<|cT<|gS rfl rfl<|sV .nils<|sV (rI 1)<|sN<|qR ?_
  cases oI h
  exact qD
 refine sA rfl<|sN<|cF<|qK<|gS rfl rfl<|sM rfl<|sM rfl<|bE h fun x5 hx5 h => cD (kZ hx5)<|sA rfl<|sV (r0)<|sN<|qR ?_
 cases oI h
 exact qD
theorem ic {a0 : Int} {r : aa} (h : fS a0 = some r) : EvP prog av ext 46 [rI a0] [] (.d (aa.pd r), []) := by
 refine Ev.body rfl Tryz.func46 rfl (by kernel_rfl)<|gS rfl rfl<|sB (.ptr 32 0) 32 (.var zZ1)<|sN<|gS rfl rfl<|bE h fun x1 hx1 h => cD (oS hx1)<|sM rfl<|sM rfl<|sM rfl<|sG (.d (aa.pd (aa.mk x1 a0 a0 a0 0 0)))<|sH 32 (.var [rS x1.aB, rS x1.aA, rS x1.aw, rS x1.aC, rI a0, rI a0, rI a0, r0, r0])<|sN<|qR ?_
 cases oI h
 exact qG
theorem tK {d0 : (List ag)} {r : (List ag)} (h : eO d0 = some r) : EvP prog av ext 90 [.ref 0 0] [.arr 0 50 (d0.map ag.pd)] (.d (.lst (r.map ag.pd)), [.dead]) := by
 refine Ev.body rfl Tryz.func90 rfl (by kernel_rfl)<|gS rfl rfl<|sV .nils<|sN<|qS<|gS rfl rfl<|sM rfl<|WO.lenR rfl rfl rfl rfl rfl rfl rfl rfl rfl<|sF h (fun h => ?_) fun h => ?_
 ·refine sN<|cT<|gS rfl rfl<|sM rfl<|sA rfl<|sN<|qR ?_
  cases oI h
  exact qD
 refine sN<|cF<|qK<|qS<|gS rfl rfl<|sV (rI 1)<|sN<|bE h fun o39 ho39 h => WC.block (WC.loop (WL.ofLoop ho39 (fun s R' B' => ghosts prog 1 (A R' B') (av.at_ 90 1 4) = some (A [(0, .ref 0 0), (3, rI s)] [(0, .arr 0 50 (d0.map ag.pd))])) (fun o e R' B' => match o with | .inl y => e = .exit 0 ∧ ghosts prog 1 (A R' B') (av.at_ 90 1 16) = some (A [(0, .ref 0 0)] [(0, .arr 0 50 (d0.map ag.pd))]) | .inr r => e = .ret ∧ finish prog (av.own 90) Tryz.f90 1 (A R' B') = some (.d (.lst (r.map ag.pd)), [.dead])) rfl ?_ ?_))
 ·rintro s2 R' B' q3 hI h
  refine qS<|gS rfl hI<|sM rfl<|sM rfl<|WO.lenR rfl rfl rfl rfl rfl rfl rfl rfl rfl<|sF h (fun h => ?_) fun h => ?_
  ·refine sN<|cT<|qK<|qS<|qB<|WC.regionDSeq rfl rfl<|sM rfl<|sM rfl<|bE h fun x6 hx6 h => WO.eltG hx6 rfl rfl rfl rfl rfl rfl rfl rfl<|bE h fun x7 hx7 h => WO.loadE hx7 rfl rfl rfl rfl rfl rfl<|sM rfl<|sM rfl<|sV (rI (rW (s2 - (1 : Int)))) ?_
   refine bE h fun x9 hx9 h => WO.eltG hx9 rfl rfl rfl rfl rfl rfl rfl rfl<|bE h fun x10 hx10 h => WO.loadE hx10 rfl rfl rfl rfl rfl rfl<|ite_elim h (fun hb11 h => ?_) (fun hb11 h => ?_)
   ·refine WO.binS (sW x7 x10) hb11 rfl rfl rfl rfl rfl ?_
    refine sN<|sO<|cT<|gS rfl rfl<|sM rfl<|sM rfl<|bE h fun x12 hx12 h => WO.subR hx12 rfl rfl rfl rfl rfl rfl rfl rfl rfl rfl rfl rfl<|sA rfl<|sN<|qS<|gS rfl rfl<|sV (rI 1)<|sN<|bE h fun o32 ho32 h => WC.block (WC.loop (WL.ofLoop ho32 (fun s R' B' => ghosts prog 1 (A R' B') (av.at_ 90 1 9) = some (A [(0, .ref 0 0), (3, rI s.1), (4, .view 0 0 (0 + (s2 : Int).toNat) (0 + ((d0.length : Int) : Int).toNat)), (5, rI s.2.1)] [(0, .arr 0 50 (s.2.2.map ag.pd))])) (fun o e R' B' => e = .exit 2 ∧ ghosts prog 1 (A R' B') (av.at_ 90 1 14) = some (A [(0, .ref 0 0), (3, rI o.1)] [(0, .arr 0 50 (o.2.map ag.pd))])) rfl ?_ ?_))
    ·rintro ⟨s13, s14, s15⟩ R' B' q18 hI h
     refine qS<|gS rfl hI<|sM rfl<|sM rfl<|bE h fun x19 hx19 h => WO.lenVw hx19 rfl rfl rfl rfl rfl rfl rfl rfl rfl<|sF h (fun h => ?_) fun h => ?_
     ·refine sN<|cT<|qK<|qS<|qB<|WC.regionDSeq rfl rfl<|sM rfl<|sM rfl<|bE h fun x21 hx21 h => WO.eltV hx21 rfl rfl rfl rfl rfl rfl rfl rfl<|bE h fun x22 hx22 h => WO.loadE hx22 rfl rfl rfl rfl rfl rfl<|sM rfl<|sM rfl<|sV (rI (rW (s14 - (1 : Int)))) ?_
      refine bE h fun x23 hx23 h => WO.eltV hx23 rfl rfl rfl rfl rfl rfl rfl rfl<|bE h fun x24 hx24 h => WO.loadE hx24 rfl rfl rfl rfl rfl rfl<|ite_elim h (fun hb25 h => ?_) (fun hb25 h => ?_)
      ·refine WO.binS (eqN_50 x22 x24) hb25 rfl rfl rfl rfl rfl ?_
       refine sN<|sO<|cT<|gS rfl rfl<|sM rfl<|sM rfl<|sM rfl<|sM rfl<|bE h fun x26 hx26 h => WO.eltV hx26 rfl rfl rfl rfl rfl rfl rfl rfl<|bE h fun x27 hx27 h => WO.loadE hx27 rfl rfl rfl rfl rfl rfl<|bE h fun x29 hx29 h => WO.eltG hx29 rfl rfl rfl rfl rfl rfl rfl rfl<|bE h fun x30 hx30 h => WO.storeE (g := ag.pd) (sz := 4) (p := ag.pd x27) hx30 (fun _ => rfl) (fun _ => rfl) rfl rfl rfl rfl rfl rfl rfl rfl rfl ?_
       refine sN<|WC.region rfl rfl<|sM rfl<|sV (rI (rW (s13 + (1 : Int))))<|sA rfl<|sN<|WC.region rfl rfl<|sM rfl<|sV (rI (rW (s14 + (1 : Int))))<|sA rfl<|sN ?_
       cases oI h
       exact ⟨rfl, rfl⟩
      refine WO.binS (eqN_50 x22 x24) hb25 rfl rfl rfl rfl rfl ?_
      refine sN<|sO<|cF<|qK<|WC.region rfl rfl<|sM rfl<|sV (rI (rW (s14 + (1 : Int))))<|sA rfl<|sN ?_
      cases oI h
      exact ⟨rfl, rfl⟩
     refine sN<|cF<|qX ?_
     cases oI h
     exact ⟨nofun, rfl, rfl⟩
    intro e R' B' he hq
    obtain ⟨rfl, hI⟩ := hq
    refine qE<|gS rfl hI<|sM rfl<|sM rfl<|bE h fun x33 hx33 h => WO.subR hx33 rfl rfl rfl rfl rfl rfl rfl rfl rfl rfl rfl rfl<|bE h fun x34 hx34 h => WO.clearN (z := (ag.mk [] [] [] [])) (g := ag.pd) rfl rfl rfl rfl rfl rfl rfl (dst_view hx34 rfl) rfl rfl rfl rfl<|sN<|gS rfl rfl<|sM rfl<|sM rfl<|bE h fun x36 hx36 h => WO.subR hx36 rfl rfl rfl rfl rfl rfl rfl rfl rfl rfl rfl rfl<|sA rfl ?_
    refine sN<|qR<|bE h fun x37 hx37 h => ?_
    cases oI h
    exact ⟨nofun, rfl, (finish_view hx37 rfl rfl rfl rfl rfl)⟩
   refine WO.binS (sW x7 x10) hb11 rfl rfl rfl rfl rfl ?_
   refine sN<|sO<|cF<|qK<|WC.region rfl rfl<|sM rfl<|sV (rI (rW (s2 + (1 : Int))))<|sA rfl<|sN ?_
   cases oI h
   exact ⟨rfl, rfl⟩
  refine sN<|cF<|qX ?_
  cases oI h
  exact ⟨nofun, rfl, rfl⟩
 intro e R' B' he hq
 rcases o39 with y40 | r41
 ·obtain ⟨rfl, hI⟩ := hq
  refine qE<|gS rfl hI<|sM rfl<|sA rfl<|sN<|qR ?_
  cases oI h
  exact qD
 obtain ⟨rfl, hf⟩ := hq
 cases oI h
 exact hf
theorem xi {a0 : (List ag)} {r : (List ag)} (h : rr a0 = some r) : EvP prog av ext 51 [.d (.lst (a0.map ag.pd))] [] (.d (.lst (r.map ag.pd)), []) := by
 refine Ev.body rfl Tryz.func51 rfl (by kernel_rfl)<|gS rfl rfl<|sV .nils<|sN<|gS rfl rfl<|sM rfl<|bE h fun x1 hx1 h => cR (.ref 80 0) [(80, .arr 0 50 (x1.map ag.pd))] (clone_87 hx1)<|sA rfl<|sN<|gS rfl rfl<|sM rfl<|bE h fun x2 hx2 h => cR (.tup []) [(80, .arr 0 50 (x2.map ag.pd))] (sort_88_89 hx2)<|sN ?_
 refine gS rfl rfl<|sM rfl<|bE h fun x3 hx3 h => cR (.d (.lst (x3.map ag.pd))) [(80, .dead)] (tK hx3)<|sA rfl<|sN<|qR ?_
 cases oI h
 exact qD
theorem we {a0 : aj} {r : Bool} (h : vj a0 = some r) : EvP prog av ext 94 [.d (aj.pd a0)] [] (rB r, []) := by
 refine Ev.body rfl Tryz.func94 rfl (by kernel_rfl)<|gS rfl rfl<|sB (.ptr 16 0) 16 (.var [rI a0.aM, rI a0.fTo])<|sU<|sN<|gS rfl rfl<|sV (.ptr 16 0)<|sL rfl<|sV (.ptr 16 1)<|sL rfl<|sV (rB (decide (a0.aM < a0.fTo)))<|sA rfl<|sN<|qR ?_
 cases oI h
 exact qD
theorem ni {a0 : aj} {r : Bool} (h : jW a0 = some r) : EvP prog av ext 93 [.d (aj.pd a0)] [] (rB r, []) := by
 refine Ev.body rfl Tryz.func93 rfl (by kernel_rfl)<|gS rfl rfl<|sB (.ptr 16 0) 16 (.var [rI a0.aM, rI a0.fTo])<|sU<|sN<|gS rfl rfl<|sV (.d (aj.pd a0))<|bE h fun x1 hx1 h => cD (we hx1)<|sV (rB (!x1))<|sA rfl<|sN<|qR ?_
 cases oI h
 exact qD
theorem ro {d0 : (List aj)} {r : Int × (List aj)} (h : ff d0 = some r) : EvP prog av ext 131 [.ref 0 0, .d (.raw (.func (.func 93) #[] #[]))] [.arr 0 76 (d0.map aj.pd)] (rI r.1, [.arr 0 76 (r.2.map aj.pd)]) := by
 refine Ev.body rfl Tryz.func131 rfl (by kernel_rfl)<|gS rfl rfl<|sV (r0)<|sN<|qS<|gS rfl rfl<|sM rfl<|WO.lenR rfl rfl rfl rfl rfl rfl rfl rfl rfl<|sV (r0)<|sN<|bE h fun o10 ho10 h => WC.block (WC.loop (WL.ofLoop ho10 (fun s R' B' => ghosts prog 1 (A R' B') (av.at_ 131 1 2) = some (A [(0, .ref 0 0), (1, .d (.raw (.func (.func 93) #[] #[]))), (7, rI (d0.length : Int)), (8, rI s)] [(0, .arr 0 76 (d0.map aj.pd))])) (fun o e R' B' => match o with | .inl y => e = .exit 0 ∧ ghosts prog 1 (A R' B') (av.at_ 131 1 7) = some (A [] [(0, .arr 0 76 (d0.map aj.pd))]) | .inr r => e = .ret ∧ finish prog (av.own 131) Tryz.f131 1 (A R' B') = some (rI r.1, [.arr 0 76 (r.2.map aj.pd)])) rfl ?_ ?_))
 ·rintro s1 R' B' q2 hI h
  refine gS rfl hI<|sF h (fun h => ?_) fun h => ?_
  ·refine sN<|qS<|cT<|qK<|qS<|qB<|gS rfl rfl<|sM rfl<|sA rfl<|sN<|gS rfl rfl<|sM rfl<|sM rfl<|sM rfl<|bE h fun x5 hx5 h => ?_
   refine WO.eltG hx5 rfl rfl rfl rfl rfl rfl rfl rfl<|bE h fun x6 hx6 h => WO.loadE hx6 rfl rfl rfl rfl rfl rfl<|bE h fun x7 hx7 h => ite_elim h (fun hb8 h => ?_) (fun hb8 h => ?_)
   ·refine WO.callR (v := rB true) (u := []) rfl rfl (fun _ => rfl) rfl rfl rfl rfl rfl (ni hx7) rfl rfl (congrArg (fun b => RV.d (.bool b)) hb8) rfl<|sN<|cT<|gS rfl rfl<|sM rfl<|sA rfl<|sN<|qR ?_
    cases oI h
    exact ⟨nofun, rfl, rfl⟩
   refine WO.callR (v := rB false) (u := []) rfl rfl (fun _ => rfl) rfl rfl rfl rfl rfl (ni hx7) rfl rfl (congrArg (fun b => RV.d (.bool b)) hb8) rfl<|sN<|cF<|qK<|WC.region rfl rfl<|sV (rI (rW (s1 + (1 : Int))))<|sM rfl<|sN ?_
   cases oI h
   exact ⟨rfl, rfl⟩
  refine sN<|qS<|cF<|qX ?_
  cases oI h
  exact ⟨nofun, rfl, rfl⟩
 intro e R' B' he hq
 rcases o10 with y11 | r12
 ·obtain ⟨rfl, hI⟩ := hq
  refine qE<|gS rfl hI<|sV (rI (-1))<|sN<|qR ?_
  cases oI h
  exact qD
 obtain ⟨rfl, hf⟩ := hq
 cases oI h
 exact hf
theorem qu {d0 : (List aj)} {r : (List aj)} (h : db d0 = some r) : EvP prog av ext 91 [.ref 0 0, .d (.raw (.func (.func 93) #[] #[]))] [.arr 0 76 (d0.map aj.pd)] (.ref 0 1, [.arr 1 76 (r.map aj.pd)]) := by
 refine Ev.body rfl Tryz.func91 rfl (by kernel_rfl)<|gS rfl rfl<|sV .nils<|sN<|gS rfl rfl<|sM rfl<|sM rfl<|bE h fun x1 hx1 h => cR (rI x1.1) [(0, .arr 0 76 (x1.2.map aj.pd))] (ro hx1)<|sA rfl<|sN<|qS<|gS rfl rfl<|sM rfl<|sF h (fun h => ?_) fun h => ?_
 ·refine sN<|cT<|WC.regionSeq (R0 := [(0, .ref 0 1)]) (B0 := [(0, .arr 1 76 (x1.2.map aj.pd))]) rfl rfl<|sM rfl<|sA rfl<|sN<|qR ?_
  cases oI h
  exact qD
 refine sN<|cF<|qK<|qS<|gS rfl rfl<|sM rfl<|sV (rI (rW (x1.1 + (1 : Int))))<|sA rfl<|sN<|bE h fun o19 ho19 h => WC.block (WC.loop (WL.ofLoop ho19 (fun s R' B' => ghosts prog 1 (A R' B') (av.at_ 91 1 5) = some (A [(0, .ref 0 0), (1, .d (.raw (.func (.func 93) #[] #[]))), (5, rI s.1), (6, rI s.2.1)] [(0, .arr 0 76 (s.2.2.map aj.pd))])) (fun o e R' B' => e = .exit 0 ∧ ghosts prog 1 (A R' B') (av.at_ 91 1 11) = some (A [(0, .ref 0 0), (5, rI o.1)] [(0, .arr 0 76 (o.2.map aj.pd))])) rfl ?_ ?_))
 ·rintro ⟨s3, s4, s5⟩ R' B' q8 hI h
  refine qS<|gS rfl hI<|sM rfl<|sM rfl<|WO.lenR rfl rfl rfl rfl rfl rfl rfl rfl rfl<|sF h (fun h => ?_) fun h => ?_
  ·refine sN<|cT<|qK<|qS<|qB<|gS rfl rfl<|sM rfl<|sM rfl<|bE h fun x11 hx11 h => WO.eltG hx11 rfl rfl rfl rfl rfl rfl rfl rfl<|bE h fun x12 hx12 h => WO.loadE hx12 rfl rfl rfl rfl rfl rfl<|sB (.ptr 112 0) 112 (.var [r0, r0])<|sS 112 (.var [rI x12.aM, rI x12.fTo])<|sN ?_
   refine gS rfl rfl<|sM rfl<|sV (.d (aj.pd x12))<|bE h fun x13 hx13 h => cD (ni hx13)<|sF h (fun h => ?_) fun h => ?_
   ·refine sN<|cT<|gS rfl rfl<|sM rfl<|sM rfl<|sV (.d (aj.pd x12))<|bE h fun x16 hx16 h => WO.eltG hx16 rfl rfl rfl rfl rfl rfl rfl rfl<|bE h fun x17 hx17 h => WO.storeE (g := aj.pd) (sz := 2) (p := aj.pd x12) hx17 (fun _ => rfl) (fun _ => rfl) rfl rfl rfl rfl rfl rfl rfl rfl rfl<|sN<|WC.region rfl rfl<|sM rfl<|sV (rI (rW (s3 + (1 : Int))))<|sA rfl ?_
    refine sN<|WC.region rfl rfl<|sM rfl<|sV (rI (rW (s4 + (1 : Int))))<|sA rfl<|sN ?_
    cases oI h
    exact ⟨rfl, rfl⟩
   refine sN<|cF<|qK<|WC.region rfl rfl<|sM rfl<|sV (rI (rW (s4 + (1 : Int))))<|sA rfl<|sN ?_
   cases oI h
   exact ⟨rfl, rfl⟩
  refine sN<|cF<|qX ?_
  cases oI h
  exact ⟨nofun, rfl, rfl⟩
 intro e R' B' he hq
 obtain ⟨rfl, hI⟩ := hq
 refine qE<|gS rfl hI<|sM rfl<|sM rfl<|bE h fun x20 hx20 h => WO.subR hx20 rfl rfl rfl rfl rfl rfl rfl rfl rfl rfl rfl rfl<|bE h fun x21 hx21 h => WO.clearN (z := (aj.mk 0 0)) (g := aj.pd) rfl rfl rfl rfl rfl rfl rfl (dst_view hx21 rfl) rfl rfl rfl rfl<|sN<|gS rfl rfl<|sM rfl<|sM rfl<|bE h fun x23 hx23 h => WO.resl hx23 rfl rfl rfl rfl rfl rfl rfl rfl rfl rfl rfl rfl<|sA rfl ?_
 refine sN<|qR ?_
 cases oI h
 exact qD
theorem mf {a0 : (List aj)} {r : (List aj)} (h : jp a0 = some r) : EvP prog av ext 52 [.d (.lst (a0.map aj.pd))] [] (.d (.lst (r.map aj.pd)), []) := by
 refine Ev.body rfl Tryz.func52 rfl (by kernel_rfl)<|gS rfl rfl<|sV .nils<|sN<|gS rfl rfl<|sM rfl<|bE h fun x1 hx1 h => cR (.ref 144 0) [(144, .arr 0 76 (x1.map aj.pd))] (clone_92 hx1)<|bE h fun x2 hx2 h => cR (.ref 144 1) [(144, .arr 1 76 (x2.map aj.pd))] (qu hx2)<|sA rfl<|sN<|gS rfl rfl<|sM rfl<|bE h fun x3 hx3 h => ?_
 refine cR (.tup []) [(144, .arr 1 76 (x3.map aj.pd))] (sort_95_96 hx3)<|sN<|gS rfl rfl<|sV .nils<|sN<|qS<|gS rfl rfl<|sM rfl<|WO.lenR rfl rfl rfl rfl rfl rfl rfl rfl rfl<|sV (r0)<|sN<|bE h fun o27 ho27 h => WC.block (WC.loop (WL.ofLoop ho27 (fun s R' B' => ghosts prog 0 (A R' B') (av.at_ 52 0 5) = some (A [(4, .ref 816 0), (13, .ref 144 0), (14, rI (x3.length : Int)), (15, rI s.1)] [(144, .arr 0 76 (x3.map aj.pd)), (816, .arr 0 76 (s.2.map aj.pd))])) (fun o e R' B' => e = .exit 0 ∧ ghosts prog 0 (A R' B') (av.at_ 52 0 12) = some (A [(4, .ref 816 0)] [(816, .arr 0 76 (o.map aj.pd))])) rfl ?_ ?_))
 ·rintro ⟨s4, s5⟩ R' B' q7 hI h
  refine gS rfl hI<|sF h (fun h => ?_) fun h => ?_
  ·refine sN<|qS<|cT<|qK<|qS<|qB<|gS rfl rfl<|bE h fun x10 hx10 h => WO.eltG hx10 rfl rfl rfl rfl rfl rfl rfl rfl<|bE h fun x11 hx11 h => WO.loadE hx11 rfl rfl rfl rfl rfl rfl<|sB (.ptr 96 0) 96 (.var [r0, r0])<|sS 96 (.var [rI x11.aM, rI x11.fTo])<|sN<|gS rfl rfl ?_
   refine sM rfl<|WO.lenR rfl rfl rfl rfl rfl rfl rfl rfl rfl<|sA rfl<|sN<|WC.regionDSeq rfl rfl<|sM rfl<|sF h (fun h => ?_) fun h => ?_
   ·refine sM rfl<|sV (.ptr 96 0)<|sL rfl<|sM rfl<|sM rfl<|sV (rI (rW ((s5.length : Int) - (1 : Int))))<|bE h fun x14 hx14 h => WO.eltG hx14 rfl rfl rfl rfl rfl rfl rfl rfl<|sV (.elt 816 0 ((rW ((s5.length : Int) - (1 : Int)))).toNat 1)<|bE h fun x15 hx15 h => WO.loadE hx15 rfl rfl rfl rfl rfl rfl<|sV (rB (decide (x11.aM ≤ x15.fTo)))<|sF h (fun h => ?_) fun h => ?_
    ·refine sN<|sO<|cT<|WC.regionD rfl rfl<|sM rfl<|sM rfl<|sV (rI (rW ((s5.length : Int) - (1 : Int))))<|sM rfl<|sM rfl<|sV (rI (rW ((s5.length : Int) - (1 : Int))))<|bE h fun x18 hx18 h => WO.eltG hx18 rfl rfl rfl rfl rfl rfl rfl rfl<|sV (.elt 816 0 ((rW ((s5.length : Int) - (1 : Int)))).toNat 1)<|bE h fun x19 hx19 h => WO.loadE hx19 rfl rfl rfl rfl rfl rfl<|sV (.ptr 96 1) ?_
     refine sL rfl<|sV (rI (if x11.fTo > x19.fTo then x11.fTo else x19.fTo))<|bE h fun x21 hx21 h => WO.eltG hx21 rfl rfl rfl rfl rfl rfl rfl rfl<|sV (.elt 816 0 ((rW ((s5.length : Int) - (1 : Int)))).toNat 1)<|bE h fun x22 hx22 h => WO.storeF (g := aj.pd) (u := []) (sz := 1) hx22 (fun _ => rfl) (fun _ => Nat.le_of_ble_eq_true rfl) rfl rfl rfl rfl rfl rfl rfl rfl rfl rfl rfl ?_
     refine sN<|sO<|WC.region rfl rfl<|sV (rI (rW (s4 + (1 : Int))))<|sM rfl<|sN ?_
     cases oI h
     exact ⟨rfl, rfl⟩
    refine sN<|sO<|cF<|WC.region rfl rfl<|sM rfl<|sV (.d (aj.pd x11))<|sV (.d (.lst ([x11].map aj.pd)))<|bE h fun x24 hx24 h => aR hx24 (fun _ => rfl) rfl<|sA rfl<|sN<|WC.region rfl rfl<|sV (rI (rW (s4 + (1 : Int))))<|sM rfl<|sN ?_
    cases oI h
    exact ⟨rfl, rfl⟩
   refine sM rfl<|k3<|k3<|k3<|sU ?_
   refine sN<|sO<|cF<|WC.region rfl rfl<|sM rfl<|sV (.d (aj.pd x11))<|sV (.d (.lst ([x11].map aj.pd)))<|bE h fun x25 hx25 h => aR hx25 (fun _ => rfl) rfl<|sA rfl<|sN<|WC.region rfl rfl<|sV (rI (rW (s4 + (1 : Int))))<|sM rfl<|sN ?_
   cases oI h
   exact ⟨rfl, rfl⟩
  refine sN<|qS<|cF<|qX ?_
  cases oI h
  exact ⟨nofun, rfl, rfl⟩
 intro e R' B' he hq
 obtain ⟨rfl, hI⟩ := hq
 refine qE<|gS rfl hI<|sM rfl<|sA rfl<|sN<|qR ?_
 cases oI h
 exact qD
theorem kY {a0 : (List aa)} {r : (List az)} (h : fR a0 = some r) : EvP prog av ext 23 [.d (.lst (a0.map aa.pd))] [] (.d (.lst (r.map az.pd)), []) := by
 refine Ev.body rfl Tryz.func23 rfl (by kernel_rfl)<|gS rfl rfl<|sV .nils<|sN<|gS rfl rfl<|sB (.ptr 160 0) 160 (.mapn 50 72 76 [] none)<|sA rfl<|sN<|gS rfl rfl<|sV .nils<|sN<|qS<|gS rfl rfl<|sM rfl<|sE (rI (a0.length : Int)) (lenMap _ _) ?_
 refine sV (r0)<|sN<|bE h fun o14 ho14 h => WC.block (WC.loop (WL.ofLoop ho14 (fun s R' B' => ghosts prog 0 (A R' B') (av.at_ 23 0 4) = some (A [(3, .ptr 160 0), (4, .ref 384 0), (11, .d (.lst (a0.map aa.pd))), (12, rI (a0.length : Int)), (13, rI s.1)] [(160, .mapn 50 72 76 (s.2.1.map fun e => (ag.pd e.1, e.2.map aj.pd)) none), (384, .arr 0 50 (s.2.2.map ag.pd))])) (fun o e R' B' => e = .exit 0 ∧ ghosts prog 0 (A R' B') (av.at_ 23 0 10) = some (A [(3, .ptr 160 0), (4, .ref 384 0)] [(160, .mapn 50 72 76 (o.1.map fun e => (ag.pd e.1, e.2.map aj.pd)) none), (384, .arr 0 50 (o.2.map ag.pd))])) rfl ?_ ?_))
 ·rintro ⟨s1, s2, s3⟩ R' B' q6 hI h
  refine gS rfl hI<|sF h (fun h => ?_) fun h => ?_
  ·refine sN<|qS<|cT<|qK<|qS<|qB<|gS rfl rfl<|bE h fun x8 hx8 h => eG hx8 rfl<|sV (.d (aa.pd x8))<|sB (.ptr 96 0) 96 (.var zZ1)<|sH 96 (.var (aa.rc x8))<|sN<|qS<|gS rfl rfl ?_
   refine sV (.d (aa.pd x8))<|bE h fun x9 hx9 h => cD (mQ hx9)<|sF h (fun h => ?_) fun h => ?_
   ·refine sN<|cT<|qX<|qE<|WC.region rfl rfl<|sV (rI (rW (s1 + (1 : Int))))<|sM rfl<|sN ?_
    cases oI h
    exact ⟨rfl, rfl⟩
   refine sN<|cF<|qK<|gS rfl rfl<|sM rfl<|sV (.ptr 96 0)<|sV (.d (ag.pd x8.al))<|sV (.d (.lst ([x8.al].map ag.pd)))<|bE h fun x11 hx11 h => aR hx11 (fun _ => rfl) rfl<|sA rfl<|sN<|WC.region rfl rfl<|sM rfl<|sV (.ptr 96 0) ?_
   refine sV (.d (ag.pd x8.al))<|sV (.ptr 96 4)<|sL rfl<|sV (.ptr 96 4)<|sL rfl<|sV (rI (rW (x8.aN + (1 : Int))))<|sV (.d (aj.pd (aj.mk x8.aN (rW (x8.aN + (1 : Int))))))<|sV (.d (.lst ([(aj.mk x8.aN (rW (x8.aN + (1 : Int))))].map aj.pd)))<|WO.mapE (gv := aj.pd) keyT_50 rfl rfl rfl rfl rfl rfl rfl rfl rfl rfl<|sV (.ref 576 0)<|bE h fun x12 hx12 h => aR hx12 (fun _ => rfl) rfl<|sV (rI ((mIdx xX x8.al s2 : Nat) : Int))<|WO.entS (gv := aj.pd) keyT_50 rfl rfl rfl rfl rfl rfl rfl rfl rfl<|sN ?_
   refine WC.region rfl rfl<|sV (rI (rW (s1 + (1 : Int))))<|sM rfl<|sN ?_
   cases oI h
   exact ⟨rfl, rfl⟩
  refine sN<|qS<|cF<|qX ?_
  cases oI h
  exact ⟨nofun, rfl, rfl⟩
 intro e R' B' he hq
 obtain ⟨rfl, hI⟩ := hq
 refine qE<|gS rfl hI<|sV .nils<|sN<|qS<|gS rfl rfl<|sM rfl<|bE h fun x15 hx15 h => cR (.d (.lst (x15.map ag.pd))) [(384, .dead)] (xi hx15)<|sE (rI (x15.length : Int)) (lenMap _ _)<|sV (r0)<|sN<|bE h fun o26 ho26 h => WC.block (WC.loop (WL.ofLoop ho26 (fun s R' B' => ghosts prog 0 (A R' B') (av.at_ 23 0 12) = some (A [(3, .ptr 160 0), (7, .ref 880 0), (41, .d (.lst (x15.map ag.pd))), (42, rI (x15.length : Int)), (43, rI s.1)] [(160, .map 50 72 (o14.1.map fun e => (ag.pd e.1, (fun l => PD.lst (l.map aj.pd)) e.2))), (880, .arr 0 74 (s.2.map az.pd))])) (fun o e R' B' => e = .exit 2 ∧ ghosts prog 0 (A R' B') (av.at_ 23 0 16) = some (A [(7, .ref 880 0)] [(880, .arr 0 74 (o.map az.pd))])) (ghosts_frzm rfl rfl) ?_ ?_))
 ·rintro ⟨s17, s18⟩ R' B' q20 hI h
  refine gS rfl hI<|sF h (fun h => ?_) fun h => ?_
  ·refine sN<|qS<|cT<|qK<|qS<|qB<|gS rfl rfl<|bE h fun x22 hx22 h => eG hx22 rfl<|sV (.d (ag.pd x22))<|sB (.ptr 144 0) 144 (.var [rS [], rS [], rS [], rS []])<|sS 144 (.var [rS x22.aB, rS x22.aA, rS x22.aw, rS x22.aC])<|sN<|WC.regionD (R0 := [(3, .ptr 160 0), (7, .ref 880 0), (9, .ptr 144 0), (41, .d (.lst (x15.map ag.pd))), (42, rI (x15.length : Int)), (43, rI s17)]) (B0 := [(144, .var [rS x22.aB, rS x22.aA, rS x22.aw, rS x22.aC]), (160, .map 50 72 (o14.1.map fun e => (ag.pd e.1, (fun l => PD.lst (l.map aj.pd)) e.2))), (880, .arr 0 74 (s18.map az.pd))]) rfl rfl<|sM rfl ?_
   refine sV (.d (ag.pd x22))<|sM rfl<|sV (.d (ag.pd x22))<|WO.look (gv := (fun l => PD.lst (l.map aj.pd))) (z := ([] : (List aj))) keyT_50 rfl rfl rfl rfl rfl rfl rfl rfl<|bE h fun x23 hx23 h => cD (mf hx23)<|sV (.d (.agg [.str x22.aB, .str x22.aA, .str x22.aw, .str x22.aC, .lst (x23.map aj.pd)]))<|sV (.d (.lst ([(az.mk x22 x23)].map az.pd)))<|bE h fun x24 hx24 h => aR hx24 (fun _ => rfl) rfl<|sA rfl ?_
   refine sN<|sO<|WC.region rfl rfl<|sV (rI (rW (s17 + (1 : Int))))<|sM rfl<|sN ?_
   cases oI h
   exact ⟨rfl, rfl⟩
  refine sN<|qS<|cF<|qX ?_
  cases oI h
  exact ⟨nofun, rfl, rfl⟩
 intro e R' B' he hq
 obtain ⟨rfl, hI⟩ := hq
 refine qE<|gS rfl hI<|sM rfl<|sA rfl<|sN<|qR ?_
 cases oI h
 exact qD
theorem pR {a0 : (List az)} {a1 : (List az)} {r : Bool} (h : ey a0 a1 = some r) : EvP prog av ext 22 [.d (.lst (a0.map az.pd)), .d (.lst (a1.map az.pd))] [] (rB r, []) := by
 refine Ev.body rfl Tryz.func22 rfl (by kernel_rfl)<|gS rfl rfl<|sU<|sN<|qS<|gS rfl rfl<|sM rfl<|sE (rI (a0.length : Int)) (lenMap _ _)<|sM rfl<|sE (rI (a1.length : Int)) (lenMap _ _)<|sF h (fun h => ?_) fun h => ?_
 ·refine sN<|cT<|gS rfl rfl<|sU<|sN<|qR ?_
  cases oI h
  exact qD
 refine sN<|cF<|qK<|qS<|gS rfl rfl<|sV (r0)<|sN<|bE h fun o26 ho26 h => WC.block (WC.loop (WL.ofLoop ho26 (fun s R' B' => ghosts prog 0 (A R' B') (av.at_ 22 0 4) = some (A [(0, .d (.lst (a0.map az.pd))), (1, .d (.lst (a1.map az.pd))), (5, rI s)] [])) (fun o e R' B' => match o with | .inl y => e = .exit 0 ∧ ghosts prog 0 (A R' B') (av.at_ 22 0 13) = some (A [] []) | .inr r => e = .ret ∧ finish prog (av.own 22) Tryz.f22 0 (A R' B') = some (rB r, [])) rfl ?_ ?_))
 ·rintro s2 R' B' q3 hI h
  refine qS<|gS rfl hI<|sM rfl<|sM rfl<|sE (rI (a0.length : Int)) (lenMap _ _)<|sF h (fun h => ?_) fun h => ?_
  ·refine sN<|cT<|qK<|qS<|qB<|qS<|WC.regionDSeq rfl rfl<|sM rfl<|sM rfl<|bE h fun x5 hx5 h => eG hx5 rfl<|sV (.cptr [.str x5.al.aB, .str x5.al.aA, .str x5.al.aw, .str x5.al.aC, .lst (x5.eP.map aj.pd)])<|sV (.d (ag.pd x5.al))<|sM rfl<|sM rfl ?_
   refine bE h fun x6 hx6 h => eG hx6 rfl<|sV (.cptr [.str x6.al.aB, .str x6.al.aA, .str x6.al.aw, .str x6.al.aC, .lst (x6.eP.map aj.pd)])<|sV (.d (ag.pd x6.al))<|ite_elim h (fun hb7 h => ?_) (fun hb7 h => ?_)
   ·refine WO.binS (eqN_50 x5.al x6.al) hb7 rfl rfl rfl rfl rfl<|sM rfl<|k3<|k3<|k3<|k3<|sK ?_
    refine sT ?_
    refine sN<|sO<|cT<|gS rfl rfl<|sU<|sN<|qR ?_
    cases oI h
    exact ⟨nofun, rfl, rfl⟩
   refine WO.binS (eqN_50 x5.al x6.al) hb7 rfl rfl rfl rfl rfl<|sM rfl<|sM rfl<|sM rfl<|bE h fun x8 hx8 h => eG hx8 rfl<|sV (.cptr [.lst (x8.eP.map aj.pd)])<|sC rfl<|sE (rI (x8.eP.length : Int)) (lenMap _ _)<|sM rfl<|sM rfl<|bE h fun x9 hx9 h => eG hx9 rfl<|sV (.cptr [.lst (x9.eP.map aj.pd)])<|sC rfl ?_
   refine sE (rI (x9.eP.length : Int)) (lenMap _ _)<|sV (rB ((x8.eP.length : Int) != (x9.eP.length : Int)))<|sF h (fun h => ?_) fun h => ?_
   ·refine sN<|sO<|cT<|gS rfl rfl<|sU<|sN<|qR ?_
    cases oI h
    exact ⟨nofun, rfl, rfl⟩
   refine sN<|sO<|cF<|qK<|gS rfl rfl<|sV (r0)<|sN<|bE h fun o22 ho22 h => WC.block (WC.loop (WL.ofLoop ho22 (fun s R' B' => ghosts prog 0 (A R' B') (av.at_ 22 0 9) = some (A [(0, .d (.lst (a0.map az.pd))), (1, .d (.lst (a1.map az.pd))), (5, rI s2), (6, rI s)] [])) (fun o e R' B' => match o with | .inl y => e = .exit 2 ∧ ghosts prog 0 (A R' B') (av.at_ 22 0 5) = some (A [(0, .d (.lst (a0.map az.pd))), (1, .d (.lst (a1.map az.pd))), (5, rI y)] []) | .inr r => e = .ret ∧ finish prog (av.own 22) Tryz.f22 0 (A R' B') = some (rB r, [])) rfl ?_ ?_))
   ·rintro s11 R' B' q13 hI h
    refine qS<|gS rfl hI<|sM rfl<|sM rfl<|sM rfl<|bE h fun x14 hx14 h => eG hx14 rfl<|sV (.cptr [.lst (x14.eP.map aj.pd)])<|sC rfl<|sE (rI (x14.eP.length : Int)) (lenMap _ _)<|sF h (fun h => ?_) fun h => ?_
    ·refine sN<|cT<|qK<|qS<|qB<|WC.regionDSeq rfl rfl<|sM rfl<|sM rfl<|bE h fun x16 hx16 h => eG hx16 rfl<|sV (.cptr [.lst (x16.eP.map aj.pd)])<|sC rfl<|sM rfl<|bE h fun x17 hx17 h => eG hx17 rfl ?_
     refine sV (.d (aj.pd x17))<|sM rfl<|sM rfl<|bE h fun x18 hx18 h => eG hx18 rfl<|sV (.cptr [.lst (x18.eP.map aj.pd)])<|sC rfl<|sM rfl<|bE h fun x19 hx19 h => eG hx19 rfl<|sV (.d (aj.pd x19))<|ite_elim h (fun hb20 h => ?_) (fun hb20 h => ?_)
     ·refine WO.binS (eqN_76 x17 x19) hb20 rfl rfl rfl rfl rfl ?_
      refine sN<|sO<|cT<|gS rfl rfl<|sU<|sN<|qR ?_
      cases oI h
      exact ⟨nofun, rfl, rfl⟩
     refine WO.binS (eqN_76 x17 x19) hb20 rfl rfl rfl rfl rfl ?_
     refine sN<|sO<|cF<|qK<|WC.region rfl rfl<|sM rfl<|sV (rI (rW (s11 + (1 : Int))))<|sA rfl<|sN ?_
     cases oI h
     exact ⟨rfl, rfl⟩
    refine sN<|cF<|qX ?_
    cases oI h
    exact ⟨nofun, rfl, rfl⟩
   intro e R' B' he hq
   rcases o22 with y23 | r24
   ·obtain ⟨rfl, hI⟩ := hq
    refine qE<|WC.region hI rfl<|sM rfl<|sV (rI (rW (y23 + (1 : Int))))<|sA rfl<|sN ?_
    cases oI h
    exact ⟨rfl, rfl⟩
   obtain ⟨rfl, hf⟩ := hq
   cases oI h
   exact ⟨nofun, rfl, hf⟩
  refine sN<|cF<|qX ?_
  cases oI h
  exact ⟨nofun, rfl, rfl⟩
 intro e R' B' he hq
 rcases o26 with y27 | r28
 ·obtain ⟨rfl, hI⟩ := hq
  refine qE<|gS rfl hI<|sT<|sN<|qR ?_
  cases oI h
  exact qD
 obtain ⟨rfl, hf⟩ := hq
 cases oI h
 exact hf
theorem e8  {r : Bool} (h : fw = some r) : EvP prog av ext 16 [] [] (rB r, []) := by
 refine Ev.body rfl Tryz.func16 rfl (by kernel_rfl)<|gS rfl rfl<|sU<|sN<|gS rfl rfl<|bE h fun x1 hx1 h => cD (ic hx1)<|bE h fun x2 hx2 h => cD (ic hx2)<|bE h fun x3 hx3 h => cD (ic hx3)<|bE h fun x4 hx4 h => cD (ic hx4)<|sG (.d (.lst ([x1, x2, x3, x4].map aa.pd)))<|bE h fun x5 hx5 h => ?_
 refine cR (.tup [.d (.lst (x5.1.map (fun l => PD.lst (l.map aa.pd)))), rI x5.2]) [] (fH hx5)<|sM rfl<|sV (.d (.lst (x5.1.map (fun l => PD.lst (l.map aa.pd)))))<|sV (rI x5.2)<|sA rfl<|sA rfl<|sN<|gS rfl rfl<|bE h fun x6 hx6 h => cD (ic hx6)<|bE h fun x7 hx7 h => cD (ic hx7)<|bE h fun x8 hx8 h => cD (ic hx8)<|sG (.d (.lst ([x6, x7, x8].map aa.pd))) ?_
 refine bE h fun x9 hx9 h => cD (kY hx9)<|sA rfl<|sN<|WC.regionDSeq rfl rfl<|sM rfl<|sF h (fun h => ?_) fun h => ?_
 ·refine sM rfl<|sM rfl<|sE (rI (x5.1.length : Int)) (lenMap _ _)<|sV (rB ((x5.1.length : Int) == (2 : Int)))<|sF h (fun h => ?_) fun h => ?_
  ·refine sM rfl<|sM rfl<|bE h fun x12 hx12 h => eG hx12 rfl<|sC rfl<|sE (rI (x12.length : Int)) (lenMap _ _)<|sV (rB ((x12.length : Int) == (3 : Int)))<|sF h (fun h => ?_) fun h => ?_
   ·refine sM rfl<|sM rfl<|bE h fun x14 hx14 h => eG hx14 rfl<|sC rfl<|bE h fun x15 hx15 h => eG hx15 rfl<|sV (.d (aa.pd x15))<|bE h fun x16 hx16 h => cD (ic hx16)<|WO.bin (yh x15 x16) rfl rfl rfl rfl rfl<|sF h (fun h => ?_) fun h => ?_
    ·refine sM rfl<|sM rfl<|bE h fun x18 hx18 h => cD (oS hx18)<|sV (.d (aj.pd (aj.mk 4 6)))<|sV (.d (aj.pd (aj.mk 9 10)))<|sV (.d (.lst ([(aj.mk 4 6), (aj.mk 9 10)].map aj.pd)))<|sV (.d (.agg [.str x18.aB, .str x18.aA, .str x18.aw, .str x18.aC, .lst ([(aj.mk 4 6), (aj.mk 9 10)].map aj.pd)]))<|sV (.d (.lst ([(az.mk x18 [(aj.mk 4 6), (aj.mk 9 10)])].map az.pd)))<|bE h fun x19 hx19 h => cD (pR hx19)<|sV (rB x19)<|sA rfl ?_
     refine sN<|sO<|qR ?_
     cases oI h
     exact qD
    refine sM rfl<|k3<|k3<|sK<|sK<|sU<|sA rfl ?_
    refine sN<|sO<|qR ?_
    cases oI h
    exact qD
   refine sM rfl<|k3<|k3<|sK<|sU<|sM rfl<|k3<|sK<|sK ?_
   refine k3<|sU<|sA rfl ?_
   refine sN<|sO<|qR ?_
   cases oI h
   exact qD
  refine sM rfl<|k3<|sK<|sK<|sU<|sM rfl<|k3<|k3<|sK ?_
  refine sU<|sM rfl<|k3<|k3<|sK<|sK<|sU<|sA rfl ?_
  refine sN<|sO<|qR ?_
  cases oI h
  exact qD
 refine sM rfl<|k3<|sU<|sM rfl<|k3<|sK<|sK<|sU<|sM rfl<|sK<|sK ?_
 refine k3<|sK<|sK<|sU<|sM rfl<|k3<|k3<|sK<|sK ?_
 refine sU<|sA rfl ?_
 refine sN<|sO<|qR ?_
 cases oI h
 exact qD
end Go.Dw.De
