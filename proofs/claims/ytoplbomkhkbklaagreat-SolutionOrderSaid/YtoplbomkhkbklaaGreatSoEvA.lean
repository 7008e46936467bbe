
import Derived.Test.YtoplbomkhkbklaaGreatSoFn
import Derived.Test.YtoplbomkhkbklaaGreatDwShort
import Derived.Test.YtoplbomkhkbklaaGreatDwNest
import Derived.Test.YtoplbomkhkbklaaGreatProg
import Derived.Test.YtoplbomkhkbklaaGreatDwClone
import Derived.Test.YtoplbomkhkbklaaGreatDwSort






set_option maxRecDepth 100000
set_option maxHeartbeats 4000000
namespace Go.Dw.So
open Go.Proofs Go.Proofs.Tryz Go.Dw
@[reducible] def rW (n : Int) : Int := IntKind.wrap .i64 n
@[reducible] def rI (n : Int) : RV := .d (.int .i64 n)
@[reducible] def r0 : RV := .d (.int .i64 0)
@[reducible] def rS (s : List UInt8) : RV := .d (.str s)
@[reducible] def rB (b : Bool) : RV := .d (.bool b)
@[reducible] def zZ0 : List RV := [.jY, .d (.int .i64 0), .d (.int .i64 0), .d (.int .i64 0), .d (.int .i64 0), .d (.int .i64 0), .d (.int .i64 0), .d (.int .i64 0), .d (.int .i64 0), .d (.int .i64 0), .d (.int .i64 0), .d (.int .i64 0), .d (.int .i64 0), .d (.int .i64 0), .d (.int .i64 0), .d (.int .i64 0)]
@[reducible] def zZ1 : List RV := [.d (.int .i64 0), .d (.int .i64 0), .d (.int .i64 0), .d (.int .i64 0), .d (.int .i64 0), .d (.int .i64 0), .d (.int .i64 0), .d (.int .i64 0), .d (.int .i64 0), .d (.int .i64 0), .d (.int .i64 0), .d (.int .i64 0)]
@[reducible] def zZ2 : List RV := [.d (.int .i64 0), .d (.int .i64 0), .d (.int .i64 0), .d (.int .i64 0), .d (.int .i64 0), .d (.int .i64 0), .d (.int .i64 0), .jY]
@[reducible] def zZ3 : List RV := [.d (.int .i64 0), .d (.int .i64 0), .d (.int .i64 0), .d (.int .i64 0), .d (.int .i64 0), .d (.int .i64 0)]
@[reducible] def aG.rc (x : aG) : List RV := [.d (.int .i64 x.ag.ac.ak.fX), .d (.int .i64 x.ag.ac.ak.fY), .d (.int .i64 x.ag.ac.ak.fZ), .d (.int .i64 x.ag.ac.ae.fX), .d (.int .i64 x.ag.ac.ae.fY), .d (.int .i64 x.ag.ac.ae.fZ), .d (.int .i64 x.ag.az.aT), .d (.lst (x.ag.az.ak.map (PD.int .i64))), .d (.lst (x.ag.az.ae.map (PD.int .i64))), .d (.int .i64 x.ag.bG), .d (.int .i64 x.ag.ba), .d (.int .i64 x.ag.gH), .d (.int .i64 x.ag.eP), .d (.int .i64 x.ag.eO), .d (.int .i64 x.bi.aZ.aT), .d (.lst (x.bi.aZ.ak.map (PD.int .i64))), .d (.lst (x.bi.aZ.ae.map (PD.int .i64))), .d (.int .i64 x.bi.bh), .d (.int .i64 x.bi.bg), .d (.int .i64 x.ba)]
@[reducible] def bd.rc (x : bd) : List RV := [.d (.int .i64 x.ac.ak.fX), .d (.int .i64 x.ac.ak.fY), .d (.int .i64 x.ac.ak.fZ), .d (.int .i64 x.ac.ae.fX), .d (.int .i64 x.ac.ae.fY), .d (.int .i64 x.ac.ae.fZ), .d (.int .i64 x.az.aT), .d (.lst (x.az.ak.map (PD.int .i64))), .d (.lst (x.az.ae.map (PD.int .i64))), .d (.int .i64 x.bG), .d (.int .i64 x.ba), .d (.int .i64 x.gH), .d (.int .i64 x.eP), .d (.int .i64 x.eO)]
@[reducible] def aB.rc (x : aB) : List RV := [.d (.int .i64 x.ej), .d (.int .i64 x.bh.a0), .d (.int .i64 x.bh.a1), .d (.int .i64 x.bh.a2), .d (.int .i64 x.bg.a0), .d (.int .i64 x.bg.a1), .d (.int .i64 x.bg.a2), .d (.lst (x.cO.map (PD.int .i64))), .d (.int .i64 x.cn), .d (.int .i64 x.cN)]
@[reducible] def ap.rc (x : ap) : List RV := [.d (.str x.aJ.aU), .d (.str x.aJ.aL), .d (.str x.aJ.aq), .d (.str x.aJ.aX), .d (.int .i64 x.a8), .d (.int .i64 x.bw), .d (.int .i64 x.bO), .d (.int .i64 x.bn), .d (.int .i64 x.bI)]
@[reducible] def al.rc (x : al) : List RV := [.d (.int .i64 x.bF), .d (.int .i64 x.fTo), .d (.int .i64 x.ct.bh), .d (.int .i64 x.ct.bg), .d (.int .i64 x.aV.fX), .d (.int .i64 x.aV.fY), .d (.int .i64 x.aV.fZ), .d (.lst (x.bq.bj.map aB.pd))]
@[reducible] def aj.rc (x : aj) : List RV := [.d (.int .i64 x.ak.fX), .d (.int .i64 x.ak.fY), .d (.int .i64 x.ak.fZ), .d (.int .i64 x.ae.fX), .d (.int .i64 x.ae.fY), .d (.int .i64 x.ae.fZ)]
@[reducible] def av.rc (x : av) : List RV := [.d (.int .i64 x.aL.fX), .d (.int .i64 x.aL.fY), .d (.int .i64 x.aL.fZ), .d (.int .i64 x.bw), .d (.int .i64 x.bO), .d (.int .i64 x.gi)]
@[reducible] def bt.rc (x : bt) : List RV := [.d (.int .i64 x.aZ.aT), .d (.lst (x.aZ.ak.map (PD.int .i64))), .d (.lst (x.aZ.ae.map (PD.int .i64))), .d (.int .i64 x.bh), .d (.int .i64 x.bg)]
@[reducible] def au.rc (x : au) : List RV := [.d (.str x.aJ.aU), .d (.str x.aJ.aL), .d (.str x.aJ.aq), .d (.str x.aJ.aX), .d (.lst (x.bo.map al.pd))]
@[reducible] def bC.rc (x : bC) : List RV := [.d (.int .i64 x.fp.ac.ak.fX), .d (.int .i64 x.fp.ac.ak.fY), .d (.int .i64 x.fp.ac.ak.fZ), .d (.int .i64 x.fp.ac.ae.fX), .d (.int .i64 x.fp.ac.ae.fY), .d (.int .i64 x.fp.ac.ae.fZ), .d (.int .i64 x.fp.az.aT), .d (.lst (x.fp.az.ak.map (PD.int .i64))), .d (.lst (x.fp.az.ae.map (PD.int .i64))), .d (.lst (x.fp.aY.map av.pd)), .d (.int .i64 x.fp.bG), .d (.lst (x.mq.map ai.pd)), .d (.int .i64 x.fj), .d (.int .i64 x.ftaken), .d (.bool x.ffound), .d (.int .i64 x.br.aC.fX), .d (.int .i64 x.br.aC.fY), .d (.int .i64 x.br.aC.fZ), .d (.int .i64 x.br.a8), .d (.int .i64 x.br.aS), .d (.int .i64 x.br.bc), .d (.int .i64 x.br.ar.ak.fX), .d (.int .i64 x.br.ar.ak.fY), .d (.int .i64 x.br.ar.ak.fZ), .d (.int .i64 x.br.ar.ae.fX), .d (.int .i64 x.br.ar.ae.fY), .d (.int .i64 x.br.ar.ae.fZ)]
@[reducible] def aF.rc (x : aF) : List RV := [.d (.int .i64 x.aC.fX), .d (.int .i64 x.aC.fY), .d (.int .i64 x.aC.fZ), .d (.int .i64 x.a8), .d (.int .i64 x.aS), .d (.int .i64 x.bc), .d (.int .i64 x.ar.ak.fX), .d (.int .i64 x.ar.ak.fY), .d (.int .i64 x.ar.ak.fZ), .d (.int .i64 x.ar.ae.fX), .d (.int .i64 x.ar.ae.fY), .d (.int .i64 x.ar.ae.fZ)]
@[reducible] def aw.rc (x : aw) : List RV := [.d (.int .i64 x.ac.ak.fX), .d (.int .i64 x.ac.ak.fY), .d (.int .i64 x.ac.ak.fZ), .d (.int .i64 x.ac.ae.fX), .d (.int .i64 x.ac.ae.fY), .d (.int .i64 x.ac.ae.fZ), .d (.int .i64 x.az.aT), .d (.lst (x.az.ak.map (PD.int .i64))), .d (.lst (x.az.ae.map (PD.int .i64))), .d (.lst (x.aY.map av.pd)), .d (.int .i64 x.bG)]
@[reducible] def ai.rc (x : ai) : List RV := [.d (.int .i64 x.jW.ak.fX), .d (.int .i64 x.jW.ak.fY), .d (.int .i64 x.jW.ak.fZ), .d (.int .i64 x.jW.ae.fX), .d (.int .i64 x.jW.ae.fY), .d (.int .i64 x.jW.ae.fZ), .d (.int .i64 x.dt), .d (.int .i64 x.fj)]
@[reducible] def aP.rc (x : aP) : List RV := [.d (.lst (x.fi.map ap.pd)), .d (.int .i64 x.aq.aC.fX), .d (.int .i64 x.aq.aC.fY), .d (.int .i64 x.aq.aC.fZ), .d (.int .i64 x.aq.a8), .d (.int .i64 x.aq.aS), .d (.int .i64 x.aq.bc), .d (.int .i64 x.aq.ar.ak.fX), .d (.int .i64 x.aq.ar.ak.fY), .d (.int .i64 x.aq.ar.ak.fZ), .d (.int .i64 x.aq.ar.ae.fX), .d (.int .i64 x.aq.ar.ae.fY), .d (.int .i64 x.aq.ar.ae.fZ), .d (.int .i64 x.bL.ak), .d (.int .i64 x.bL.ae), .d (.int .i64 x.iq)]
def hintAt : FuncId → Nat → Nat → List wY := fun f nb id =>
  if f = 3 then (if nb = 0 then (if id = 6 then [.oE [1, 5, 6, 7, 8, 9, 32, 33] [96, 112, 304, 448]] else if id = 12 then [.oE [5, 6, 7, 8, 9] [96, 112, 304, 448]] else if id = 14 then [.oE [6, 7, 8, 9] [96, 112, 448]] else []) else []) else if f = 4 then (if nb = 0 then (if id = 6 then [.oE [3, 4, 5, 6, 7, 30, 31] [64, 80, 320]] else if id = 10 then [.oE [3, 4, 5, 6, 7] [64, 80, 320]] else if id = 12 then [.ownp (.cell 144 0) 1568 64, .oE [3, 4, 5, 6, 7, 9, 43, 44, 45] [64, 80, 144, 320, 1568]] else if id = 23 then [.oE [4, 5, 6, 9] [64, 80, 144, 1568]] else []) else []) else if f = 7 then (if nb = 1 then (if id = 3 then [.ownp (.cell 80 0) 1104 64, .oE [0, 1, 4, 5, 6] [0, 64, 80, 1104]] else if id = 16 then [.oE [4, 5] [0, 64, 80, 1104]] else []) else []) else if f = 8 then (if nb = 1 then (if id = 4 then [.own 9 2192 48, .oE [0, 5, 6, 9, 10, 11, 12] [0, 80, 96, 160, 2192]] else if id = 12 then [.oE [0, 5, 6, 9, 10, 11, 12, 13, 14, 16] [0, 80, 96, 160, 208, 224, 2192]] else if id = 14 then [.oE [0, 5, 6, 9, 10, 11, 12, 13, 16] [0, 80, 96, 160, 208, 2192]] else if id = 18 then [.oE [0, 5, 6, 9, 10, 11, 12, 13] [0, 80, 96, 160, 208, 2192]] else if id = 21 then [.oE [9] [0, 2192]] else []) else []) else if f = 15 then (if nb = 1 then (if id = 3 then [.ownp (.cell 48 0) 1040 104, .oE [0, 2, 3, 4] [0, 32, 48, 1040]] else if id = 13 then [.oE [2, 3] [0, 32, 48, 1040]] else []) else []) else if f = 17 then (if nb = 1 then (if id = 3 then [.oE [2, 3, 16, 17] [0, 32, 48, 96, 97]] else if id = 7 then [.oE [2, 3] [0, 32, 48, 96, 97]] else []) else []) else if f = 21 then (if nb = 0 then (if id = 2 then [.oE [2, 4, 6, 13, 14, 15] [64, 96]] else if id = 5 then [.oE [2, 4, 6, 9, 13, 14, 15, 20, 21, 22] [64, 96, 144]] else if id = 10 then [.oE [2, 4, 6, 13, 14, 15] [64, 96]] else if id = 11 then [.oE [6] [96]] else []) else []) else if f = 24 then (if nb = 0 then (if id = 7 then [.ownp (.cell 128 0) 704 48, .ownp (.cell 128 1) 784 111, .ownp (.cell 128 2) 864 71, .oE [3, 4, 6, 8, 25, 26, 27] [48, 64, 96, 128, 704, 784, 864]] else if id = 13 then [.oE [6, 8] [96, 128, 704, 784, 864]] else []) else []) else if f = 26 then (if nb = 0 then (if id = 7 then [.oE [4, 8, 37, 38, 39] [64, 128]] else if id = 13 then [.oE [4, 8] [64, 128]] else []) else []) else if f = 27 then (if nb = 0 then (if id = 3 then [.own 7 816 53, .oE [3, 4, 5, 7, 13, 14, 15] [48, 64, 80, 816]] else if id = 9 then [.oE [7] [816]] else []) else []) else if f = 29 then (if nb = 0 then (if id = 4 then [.oE [0, 1, 5] []] else if id = 8 then [.oE [] []] else []) else []) else if f = 32 then (if nb = 1 then (if id = 4 then [.ownp (.cell 48 1) 432 3, .ownp (.cell 48 2) 512 3, .oE [0, 2, 3, 4, 5, 6] [0, 32, 48, 432, 512]] else if id = 9 then [.oE [2, 3] [0, 32, 48, 432, 512]] else []) else []) else if f = 34 then (if nb = 0 then (if id = 2 then [.oE [1, 6, 7, 8] [16]] else if id = 7 then [.oE [1] [16]] else []) else []) else if f = 38 then (if nb = 0 then (if id = 10 then [.oE [1, 7] [304, 368]] else if id = 14 then [.frz (.cell 304 11), .oE [7] [304]] else []) else []) else if f = 39 then (if nb = 0 then (if id = 5 then [.oE [4, 5, 6, 7, 8, 31] [64, 80, 96, 112, 128]] else []) else []) else if f = 45 then (if nb = 0 then (if id = 3 then [.own 5 304 3, .oE [1, 5, 8, 9, 10] [304]] else if id = 7 then [.oE [5] [304]] else []) else []) else if f = 48 then (if nb = 0 then (if id = 6 then [.oE [2, 52, 53, 54] [32]] else if id = 12 then [.oE [] []] else []) else []) else if f = 51 then (if nb = 0 then (if id = 2 then [.oE [0, 5, 6, 7] []] else if id = 7 then [.oE [0] []] else []) else []) else if f = 56 then (if nb = 1 then (if id = 4 then [.oE [0, 3] [0]] else if id = 9 then [.oE [0, 3, 4, 5] [0]] else if id = 14 then [.oE [0, 3] [0]] else if id = 16 then [.oE [0] [0]] else []) else []) else if f = 60 then (if nb = 0 then (if id = 14 then [.oE [1, 38, 39, 40] [16]] else if id = 20 then [.oE [] []] else []) else []) else if f = 61 then (if nb = 1 then (if id = 5 then [.ownp (.cell 0 11) 80176 123, .mv (.cell 0 11) 90081, .oE [6] [0, 90081]] else []) else if nb = 2 then (if id = 5 then [.ownp (.cell 0 11) 80176 123, .bumpp (.cell 0 11), .oE [6] [0, 1]] else []) else []) else if f = 63 then (if nb = 2 then (if id = 2 then [.bumpp (.cell 0 11), .oE [] [0, 1]] else []) else []) else if f = 72 then (if nb = 0 then (if id = 5 then [.oE [2, 7, 8, 9, 28, 29] [128, 144]] else []) else []) else if f = 75 then (if nb = 0 then (if id = 2 then [.oE [0, 1, 7, 8] []] else if id = 7 then [.oE [] []] else []) else []) else if f = 77 then (if nb = 0 then (if id = 6 then [.oE [1, 4, 5, 33, 34] [16]] else if id = 12 then [.oE [] []] else []) else []) else if f = 79 then (if nb = 0 then (if id = 2 then [.oE [0, 1, 2, 9, 10] []] else if id = 7 then [.oE [0, 1, 2] []] else []) else []) else if f = 82 then (if nb = 0 then (if id = 3 then [.oE [3, 6, 7, 8] []] else if id = 8 then [.oE [3] []] else []) else []) else if f = 88 then (if nb = 0 then (if id = 2 then [.oE [3, 4, 9, 10, 11] [48, 64]] else if id = 7 then [.oE [4] [64]] else []) else []) else if f = 89 then (if nb = 0 then (if id = 2 then [.oE [1, 4, 9, 10, 11] [64]] else if id = 7 then [.oE [4] [64]] else []) else []) else if f = 98 then (if nb = 0 then (if id = 7 then [.oE [1, 2, 6, 8, 31, 32, 33] [96, 128]] else if id = 17 then [.oE [6, 8] [96, 128]] else []) else []) else if f = 103 then (if nb = 2 then (if id = 2 then [.oE [1, 5, 6] [0, 1]] else if id = 7 then [.oE [5] [0, 1]] else []) else []) else if f = 105 then (if nb = 0 then (if id = 5 then [.oE [0, 3, 4] []] else if id = 10 then [.oE [3] []] else []) else []) else if f = 107 then (if nb = 1 then (if id = 2 then [.oE [0, 1, 2, 3, 8, 9] [0]] else []) else []) else if f = 121 then (if nb = 0 then (if id = 4 then [.oE [0, 2] []] else if id = 7 then [.oE [0, 2] []] else []) else []) else if f = 123 then (if nb = 0 then (if id = 3 then [.oE [1, 2, 10, 11, 12] [16, 32, 112]] else if id = 7 then [.oE [1, 2] [16, 32, 112]] else []) else []) else if f = 126 then (if nb = 0 then (if id = 3 then [.oE [1, 2, 6, 18, 19, 20] [32, 272]] else if id = 7 then [.oE [1, 2, 6] [32, 272]] else if id = 11 then [.oE [1, 2, 9, 10, 45, 46, 47] [32, 272]] else if id = 17 then [.oE [9, 10] []] else []) else []) else if f = 127 then (if nb = 2 then (if id = 0 then [.oE [0, 1] [0, 1]] else []) else []) else if f = 128 then (if nb = 2 then (if id = 2 then [.oE [0, 1, 2, 7] [0, 1]] else if id = 8 then [.oE [0, 1, 2, 7, 9] [0, 1]] else if id = 11 then [.oE [1, 7] [0, 1]] else []) else []) else if f = 129 then (if nb = 0 then (if id = 5 then [.oE [2, 3, 4, 16] [32, 48, 64]] else []) else []) else if f = 138 then (if nb = 0 then (if id = 9 then [.oE [0, 1, 5, 6] []] else []) else []) else if f = 139 then (if nb = 1 then (if id = 1 then [.oE [0, 1, 2, 6] [0]] else if id = 2 then [.oE [0, 1, 2, 6] [0]] else if id = 4 then [.oE [0, 1, 2, 6, 7] [0]] else []) else []) else if f = 149 then (if nb = 0 then (if id = 1 then [.oE [0, 1] []] else if id = 3 then [.oE [0] []] else []) else []) else if f = 152 then (if nb = 0 then (if id = 6 then [.fixv 16, .oE [1, 3] []] else []) else []) else if f = 153 then (if nb = 0 then (if id = 3 then [.oE [3, 6, 7, 8] []] else if id = 10 then [.oE [3] []] else []) else []) else if f = 160 then (if nb = 0 then (if id = 3 then [.oE [1, 2, 13, 14] [16, 32, 112]] else if id = 7 then [.oE [1, 2] [16, 32, 112]] else []) else []) else if f = 162 then (if nb = 0 then (if id = 3 then [.oE [2, 3, 6, 16, 17, 18] [32, 48, 224]] else if id = 10 then [.oE [6] [224]] else []) else []) else if f = 163 then (if nb = 0 then (if id = 3 then [.oE [1, 2, 3, 7, 11, 12, 13] [48]] else if id = 8 then [.oE [7] []] else []) else []) else if f = 166 then (if nb = 0 then (if id = 3 then [.oE [3, 6, 7, 8] []] else if id = 7 then [.oE [3] []] else []) else []) else if f = 169 then (if nb = 0 then (if id = 3 then [.oE [1, 5, 16, 17, 18] [240]] else if id = 7 then [.oE [1, 5, 6, 7, 8, 16, 17, 18, 25, 26] [240]] else if id = 14 then [.oE [1, 5, 16, 17, 18] [240]] else if id = 15 then [.oE [5] [240]] else []) else []) else if f = 175 then (if nb = 0 then (if id = 2 then [.oE [0, 1, 7, 8] []] else if id = 7 then [.oE [] []] else []) else []) else if f = 181 then (if nb = 0 then (if id = 4 then [.own 4 240 3, .oE [0, 4] [240]] else if id = 7 then [.oE [4] [240]] else []) else []) else if f = 183 then (if nb = 0 then (if id = 6 then [.own 6 560 3, .oE [0, 1, 6, 7, 18, 19] [560]] else if id = 12 then [.oE [6] [560]] else []) else []) else if f = 184 then (if nb = 0 then (if id = 1 then [.oE [0] []] else if id = 3 then [.oE [0] []] else []) else []) else if f = 186 then (if nb = 0 then (if id = 2 then [.oE [0, 1, 7, 8] []] else if id = 7 then [.oE [] []] else []) else []) else if f = 191 then (if nb = 0 then (if id = 2 then [.oE [0, 1, 7, 8] []] else if id = 7 then [.oE [] []] else []) else []) else []
def aH : Hints := { at_ := hintAt, mt := fun f i => (f == 3 && i == 28) || (f == 4 && i == 55) || (f == 7 && i == 28) || (f == 212 && i == 19), by_ := fun f i => (f == 54 && i == 0) || (f == 56 && i == 0) || (f == 76 && i == 0) || (f == 107 && i == 0) || (f == 139 && i == 0) || (f == 209 && i == 0) || (f == 210 && i == 0) || (f == 211 && i == 0), own := fun f i => (f == 32 && i == 0) || (f == 37 && i == 0) || (f == 53 && i == 0) || (f == 159 && i == 0) || (f == 178 && i == 0) }
theorem eqE_46 (a b : aI) : uM prog .eql 46 (.d a.pd) (.d b.pd) = some (.bool ((a.aU == b.aU) && ((a.aL == b.aL) && ((a.aq == b.aq) && ((a.aX == b.aX) && true)))), true) := by kernel_rfl
theorem eqE_48 (a b : ap) : uM prog .eql 48 (.d a.pd) (.d b.pd) = some (.bool (((a.aJ.aU == b.aJ.aU) && ((a.aJ.aL == b.aJ.aL) && ((a.aJ.aq == b.aJ.aq) && ((a.aJ.aX == b.aJ.aX) && true)))) && ((a.a8 == b.a8) && ((a.bw == b.bw) && ((a.bO == b.bO) && ((a.bn == b.bn) && ((a.bI == b.bI) && true)))))), true) := by kernel_rfl
theorem eqN_48 (a b : ap) : uM prog .neq 48 (.d a.pd) (.d b.pd) = some (.bool (!(((a.aJ.aU == b.aJ.aU) && ((a.aJ.aL == b.aJ.aL) && ((a.aJ.aq == b.aJ.aq) && ((a.aJ.aX == b.aJ.aX) && true)))) && ((a.a8 == b.a8) && ((a.bw == b.bw) && ((a.bO == b.bO) && ((a.bn == b.bn) && ((a.bI == b.bI) && true))))))), true) := by kernel_rfl
theorem eqE_51 (a b : aF) : uM prog .eql 51 (.d a.pd) (.d b.pd) = some (.bool (((a.aC.fX == b.aC.fX) && ((a.aC.fY == b.aC.fY) && ((a.aC.fZ == b.aC.fZ) && true))) && ((a.a8 == b.a8) && ((a.aS == b.aS) && ((a.bc == b.bc) && ((((a.ar.ak.fX == b.ar.ak.fX) && ((a.ar.ak.fY == b.ar.ak.fY) && ((a.ar.ak.fZ == b.ar.ak.fZ) && true))) && (((a.ar.ae.fX == b.ar.ae.fX) && ((a.ar.ae.fY == b.ar.ae.fY) && ((a.ar.ae.fZ == b.ar.ae.fZ) && true))) && true)) && true))))), true) := by kernel_rfl
theorem eqE_53 (a b : aA) : uM prog .eql 53 (.d a.pd) (.d b.pd) = some (.bool ((a.ak == b.ak) && ((a.ae == b.ae) && true)), true) := by kernel_rfl
theorem ip (a b : aW) : uM prog .eql 102 (.d a.pd) (.d b.pd) = some (.bool ((a.a0 == b.a0) && ((a.a1 == b.a1) && ((a.a2 == b.a2) && true))), true) := by kernel_rfl


theorem T_api_Pick_inj : ∀ x y : ap, x.pd = y.pd → x = y := by
  rintro ⟨⟨z1, z2, z3, z4⟩, z5, z6, z7, z8, z9⟩ ⟨⟨z10, z11, z12, z13⟩, z14, z15, z16, z17, z18⟩ h
  cases h; rfl
def ext0 : FuncId → Option o0 := fun _ => none
theorem jo {a0 : (List UInt8)} {r : Bool} (h : db a0 = some r) : EvP prog aH ext0 111 [rS a0] [] (rB r, []) := by
 refine Ev.body rfl Tryz.func111 rfl (by kernel_rfl)<|gS rfl rfl<|sU<|sN<|gS rfl rfl<|sM rfl<|sM rfl<|sV (rB (!(a0 == a0)))<|sA rfl<|sN<|qR ?_
 exact oI h▸qD
theorem dS {a0 : (List UInt8)} {a1 : (List UInt8)} {r : Int} (h : bS a0 a1 = some r) : EvP prog aH ext0 83 [rS a0, rS a1] [] (rI r, []) := by
 refine Ev.body rfl Tryz.func83 rfl (by kernel_rfl)<|gS rfl rfl<|sV (r0)<|sN<|gS rfl rfl<|sM rfl<|bE h fun x1 hx1 h => cD (jo hx1)<|sA rfl<|sN<|gS rfl rfl<|sM rfl<|bE h fun x2 hx2 h => cD (jo hx2)<|sA rfl ?_
 refine sN<|qS<|gS rfl rfl<|sF h (fun h => ?_) fun h => ?_
 ·refine sN<|cT<|qS<|gS rfl rfl<|sF h (fun h => ?_) fun h => ?_
  ·refine sN<|cT<|gS rfl rfl<|sV (r0)<|sN<|qR ?_
   exact oI h▸qD
  refine sN<|cF<|qK<|gS rfl rfl<|sV (rI (-1))<|sN<|qR ?_
  exact oI h▸qD
 refine sN<|cF<|qK<|qS<|gS rfl rfl<|sF h (fun h => ?_) fun h => ?_
 ·refine sN<|cT<|gS rfl rfl<|sV (rI 1)<|sN<|qR ?_
  exact oI h▸qD
 refine sN<|cF<|qK<|qS<|gS rfl rfl<|sM rfl<|sM rfl<|sF h (fun h => ?_) fun h => ?_
 ·refine sN<|cT<|gS rfl rfl<|sV (rI (-1))<|sN<|qR ?_
  exact oI h▸qD
 refine sN<|cF<|qK<|qS<|gS rfl rfl<|sM rfl<|sM rfl<|sF h (fun h => ?_) fun h => ?_
 ·refine sN<|cT<|gS rfl rfl<|sV (rI 1)<|sN<|qR ?_
  exact oI h▸qD
 refine sN<|cF<|qK<|gS rfl rfl<|sV (r0)<|sN<|qR ?_
 exact oI h▸qD
theorem mn {a0 : (List Int)} {r : Int} (h : cM a0 = some r) : EvP prog aH ext0 82 [.d (.lst (a0.map (PD.int .i64)))] [] (rI r, []) := by
 refine Ev.body rfl Tryz.func82 rfl (by kernel_rfl)<|gS rfl rfl<|sV (r0)<|sN<|gS rfl rfl<|sV (r0)<|sN<|qS<|gS rfl rfl<|sM rfl<|sE (rI (a0.length : Int)) (oD _ _)<|sV (r0)<|sN<|bE h fun o7 ho7 h => WC.block (WC.loop (WL.oL ho7 (fun s R' B' => jX prog 0 (A R' B') (aH.at_ 82 0 3) = some (A [(3, r0), (6, .d (.lst (a0.map (PD.int .i64)))), (7, rI (a0.length : Int)), (8, rI s)] [])) (fun o e R' B' => match o with | .inl y => e = .exit 0 ∧ jX prog 0 (A R' B') (aH.at_ 82 0 8) = some (A [(3, r0)] []) | .inr r => e = .ret ∧ finish prog (aH.own 82) Tryz.f82 0 (A R' B') = some (rI r, [])) rfl ?_ ?_))
 ·rintro s1 R' B' q2 hI h
  refine gS rfl hI<|sF h (fun h => ?_) fun h => ?_
  ·refine sN<|qS<|cT<|qK<|qS<|qB<|gS rfl rfl<|bE h fun x4 hx4 h => eG hx4 rfl<|sC rfl<|sA rfl<|sN<|gS rfl rfl<|sM rfl<|sM rfl ?_
   refine sF h (fun h => ?_) fun h => ?_
   ·refine sN<|cT<|gS rfl rfl<|sM rfl<|sA rfl<|sN<|qR ?_
    cases oI h
    exact ⟨nofun, rfl, rfl⟩
   refine sN<|cF<|qK<|WC.region rfl rfl<|sV (rI (rW (s1 + (1 : Int))))<|sM rfl<|sN ?_
   cases oI h
   exact ⟨rfl, rfl⟩
  refine sN<|qS<|cF<|qX ?_
  cases oI h
  exact ⟨nofun, rfl, rfl⟩
 intro e R' B' he hq
 rcases o7 with y8 | r9
 ·obtain ⟨rfl, hI⟩ := hq
  refine qE<|gS rfl hI<|sM rfl<|sA rfl<|sN<|qR ?_
  exact oI h▸qD
 obtain ⟨rfl, hf⟩ := hq
 cases oI h
 exact hf
theorem nU {a0 : aI} {a1 : aI} {r : Int} (h : dG a0 a1 = some r) : EvP prog aH ext0 52 [.d (aI.pd a0), .d (aI.pd a1)] [] (rI r, []) := by
 refine Ev.body rfl Tryz.func52 rfl (by kernel_rfl)<|gS rfl rfl<|sB (.ptr 32 0) 32 (.var [rS a0.aU, rS a0.aL, rS a0.aq, rS a0.aX])<|sB (.ptr 48 0) 48 (.var [rS a1.aU, rS a1.aL, rS a1.aq, rS a1.aX])<|sV (r0)<|sN<|WC.cI rfl rfl<|sV (.ptr 32 0)<|sL rfl<|sV (.ptr 48 0)<|sL rfl<|bE h fun x1 hx1 h => cD (dS hx1)<|sV (.ptr 32 1)<|sL rfl ?_
 refine sV (.ptr 48 1)<|sL rfl<|bE h fun x2 hx2 h => cD (dS hx2)<|sV (.ptr 32 2)<|sL rfl<|sV (.ptr 48 2)<|sL rfl<|bE h fun x3 hx3 h => cD (dS hx3)<|sV (.ptr 32 3)<|sL rfl<|sV (.ptr 48 3)<|sL rfl<|bE h fun x4 hx4 h => ?_
 refine cD (dS hx4)<|sV (.d (.lst ([x1, x2, x3, x4].map (PD.int .i64))))<|bE h fun x5 hx5 h => cD (mn hx5)<|sA rfl ?_
 refine sN<|sO<|qR ?_
 exact oI h▸qD
theorem kN {a0 : Int} {r : Bool} (h : dV a0 = some r) : EvP prog aH ext0 122 [rI a0] [] (rB r, []) := by
 refine Ev.body rfl Tryz.func122 rfl (by kernel_rfl)<|gS rfl rfl<|sU<|sN<|gS rfl rfl<|sM rfl<|sM rfl<|sV (rB (a0 != a0))<|sA rfl<|sN<|qR ?_
 exact oI h▸qD
theorem dK {a0 : Int} {a1 : Int} {r : Int} (h : bD a0 a1 = some r) : EvP prog aH ext0 86 [rI a0, rI a1] [] (rI r, []) := by
 refine Ev.body rfl Tryz.func86 rfl (by kernel_rfl)<|gS rfl rfl<|sV (r0)<|sN<|gS rfl rfl<|sM rfl<|bE h fun x1 hx1 h => cD (kN hx1)<|sA rfl<|sN<|gS rfl rfl<|sM rfl<|bE h fun x2 hx2 h => cD (kN hx2)<|sA rfl ?_
 refine sN<|qS<|gS rfl rfl<|sF h (fun h => ?_) fun h => ?_
 ·refine sN<|cT<|qS<|gS rfl rfl<|sF h (fun h => ?_) fun h => ?_
  ·refine sN<|cT<|gS rfl rfl<|sV (r0)<|sN<|qR ?_
   exact oI h▸qD
  refine sN<|cF<|qK<|gS rfl rfl<|sV (rI (-1))<|sN<|qR ?_
  exact oI h▸qD
 refine sN<|cF<|qK<|qS<|gS rfl rfl<|sF h (fun h => ?_) fun h => ?_
 ·refine sN<|cT<|gS rfl rfl<|sV (rI 1)<|sN<|qR ?_
  exact oI h▸qD
 refine sN<|cF<|qK<|qS<|gS rfl rfl<|sM rfl<|sM rfl<|sF h (fun h => ?_) fun h => ?_
 ·refine sN<|cT<|gS rfl rfl<|sV (rI (-1))<|sN<|qR ?_
  exact oI h▸qD
 refine sN<|cF<|qK<|qS<|gS rfl rfl<|sM rfl<|sM rfl<|sF h (fun h => ?_) fun h => ?_
 ·refine sN<|cT<|gS rfl rfl<|sV (rI 1)<|sN<|qR ?_
  exact oI h▸qD
 refine sN<|cF<|qK<|gS rfl rfl<|sV (r0)<|sN<|qR ?_
 exact oI h▸qD
theorem nM {a0 : ap} {a1 : ap} {r : Int} (h : bY a0 a1 = some r) : EvP prog aH ext0 55 [.d (ap.pd a0), .d (ap.pd a1)] [] (rI r, []) := by
 refine Ev.body rfl Tryz.func55 rfl (by kernel_rfl)<|gS rfl rfl<|sB (.ptr 32 0) 32 (.var (ap.rc a0))<|sB (.ptr 48 0) 48 (.var (ap.rc a1))<|sV (r0)<|sN<|WC.cI rfl rfl<|sV (.ptr 32 0)<|sV (.d (aI.pd a0.aJ))<|sV (.ptr 48 0)<|sV (.d (aI.pd a1.aJ))<|bE h fun x1 hx1 h => cD (nU hx1)<|sV (.ptr 32 4)<|sL rfl ?_
 refine sV (.ptr 48 4)<|sL rfl<|bE h fun x2 hx2 h => cD (dK hx2)<|sV (.ptr 32 5)<|sL rfl<|sV (.ptr 48 5)<|sL rfl<|bE h fun x3 hx3 h => cD (dK hx3)<|sV (.ptr 32 6)<|sL rfl<|sV (.ptr 48 6)<|sL rfl<|bE h fun x4 hx4 h => ?_
 refine cD (dK hx4)<|sV (.ptr 32 7)<|sL rfl<|sV (.ptr 48 7)<|sL rfl<|bE h fun x5 hx5 h => cD (dK hx5)<|sV (.ptr 32 8)<|sL rfl<|sV (.ptr 48 8)<|sL rfl<|bE h fun x6 hx6 h => cD (dK hx6)<|sV (.d (.lst ([x1, x2, x3, x4, x5, x6].map (PD.int .i64))))<|bE h fun x7 hx7 h => ?_
 refine cD (mn hx7)<|sA rfl ?_
 refine sN<|sO<|qR ?_
 cases oI h
 exact qG
noncomputable def ext : FuncId → Option o0 := fun f => if f = 54 then some (zB 55 48 ap.pd bY) else if f = 53 then some (tX 48 9 104) else if f = 159 then some (tX 71 8 80) else if f = 178 then some (tX 104 10 96) else if f = 37 then some (tX 3 1 8) else none
theorem sort_54_55 {l r : List ap} (h : uI bY l = some r) : EvP prog aH ext 54 [.ref 0 0, .d (.raw (.func (.func 55) #[] #[]))] [.arr 0 48 (l.map ap.pd)] (.tup [], [.arr 0 48 (r.map ap.pd)]) := sort_ev rfl (sortD_of T_api_Pick_inj h)
theorem clone_53 {l r : List ap} (h : pP 104 l = some r) : EvP prog aH ext 53 [.d (.lst (l.map ap.pd))] [] (.ref 0 0, [.arr 0 48 (r.map ap.pd)]) := vr (g := ap.pd) rfl (fun _ => rfl) h
theorem clone_159 {l r : List al} (h : pP 80 l = some r) : EvP prog aH ext 159 [.d (.lst (l.map al.pd))] [] (.ref 0 0, [.arr 0 71 (r.map al.pd)]) := vr (g := al.pd) rfl (fun _ => rfl) h
theorem clone_178 {l r : List aB} (h : pP 96 l = some r) : EvP prog aH ext 178 [.d (.lst (l.map aB.pd))] [] (.ref 0 0, [.arr 0 104 (r.map aB.pd)]) := vr (g := aB.pd) rfl (fun _ => rfl) h
theorem clone_37 {l r : List Int} (h : pP 8 l = some r) : EvP prog aH ext 37 [.d (.lst (l.map (PD.int .i64)))] [] (.ref 0 0, [.arr 0 3 (r.map (PD.int .i64))]) := vr (g := (PD.int .i64)) rfl (fun _ => rfl) h
theorem mA {a0 : (List Int)} {r : ah} (h : ix a0 = some r) : EvP prog aH ext 5 [.d (.lst (a0.map (PD.int .i64)))] [] (.ptr 0 0, [.var [.d (.lst (r.fL.map (PD.int .i64))), rI r.fAt]]) := by
 refine Ev.body rfl Tryz.func5 rfl (by kernel_rfl)<|gS rfl rfl<|sV (.d (.raw (.pointer none)))<|sN<|gS rfl rfl<|sM rfl<|sM rfl<|sE (rI (a0.length : Int)) (oD _ _)<|sV (rI (if (2000 : Int) < (a0.length : Int) then (2000 : Int) else (a0.length : Int)))<|bE h fun x1 hx1 h => WO.cutL (sz := 1) (g := (PD.int .i64)) hx1 (fun _ => rfl) rfl rfl rfl rfl rfl rfl rfl rfl rfl rfl rfl<|sV (.d (ah.pd (ah.mk x1 0)))<|sB (.ptr 144 0) 144 (.var [.d (.lst (x1.map (PD.int .i64))), r0])<|sA rfl<|sN ?_
 refine qR ?_
 exact oI h▸qD
theorem Src_Raw_ev {d0 : ah} {r : Int × ah} (h : mT d0 = some r) : EvP prog aH ext 23 [.ptr 0 0] [.var [.d (.lst (d0.fL.map (PD.int .i64))), rI d0.fAt]] (rI r.1, [.var [.d (.lst (r.2.fL.map (PD.int .i64))), rI r.2.fAt]]) := by
 refine Ev.body rfl Tryz.func23 rfl (by kernel_rfl)<|gS rfl rfl<|sV (r0)<|sN<|qS<|WC.cI rfl rfl<|sM rfl<|sV (.ptr 0 0)<|sV (.ptr 0 1)<|sL rfl<|sM rfl<|sV (.ptr 0 0)<|sV (.ptr 0 0)<|sL rfl<|sE (rI (d0.fL.length : Int)) (oD _ _) ?_
 refine sF h (fun h => ?_) fun h => ?_
 ·refine sN<|sO<|cT<|gS rfl rfl<|sV (r0)<|sN<|qR ?_
  exact oI h▸qD
 refine sN<|sO<|cF<|qK<|gS rfl rfl<|sM rfl<|sV (.ptr 0 0)<|sV (.ptr 0 1)<|sL rfl<|sV (rI (rW (d0.fAt + (1 : Int))))<|sV (.ptr 0 0)<|sV (.ptr 0 1)<|sS 0 (.var [.d (.lst (d0.fL.map (PD.int .i64))), rI (rW (d0.fAt + (1 : Int)))])<|sN<|WC.cI rfl rfl<|sM rfl ?_
 refine sV (.ptr 0 0)<|sV (.ptr 0 0)<|sL rfl<|sM rfl<|sV (.ptr 0 0)<|sV (.ptr 0 1)<|sL rfl<|sV (rI (rW ((rW (d0.fAt + (1 : Int))) - (1 : Int))))<|bE h fun x2 hx2 h => eG hx2 rfl<|sC rfl<|sA rfl ?_
 refine sN<|sO<|qR ?_
 exact oI h▸qD
theorem mz {a0 : Int} {a1 : Int} {r : Int} (h : jq a0 a1 = some r) : EvP prog aH ext 9 [rI a0, rI a1] [] (rI r, []) := by
 refine Ev.body rfl Tryz.func9 rfl (by kernel_rfl)<|gS rfl rfl<|sV (r0)<|sN<|qS<|gS rfl rfl<|sM rfl<|sF h (fun h => ?_) fun h => ?_
 ·refine sN<|cT<|gS rfl rfl<|sV (r0)<|sN<|qR ?_
  exact oI h▸qD
 refine sN<|cF<|qK<|gS rfl rfl<|sM rfl<|sM rfl<|bE h fun x2 hx2 h => WO.remG hx2 rfl rfl rfl rfl rfl rfl<|sA rfl<|sN<|qS<|gS rfl rfl<|sM rfl<|sF h (fun h => ?_) fun h => ?_
 ·refine sN<|cT<|WC.region rfl rfl<|sM rfl<|sM rfl<|sV (rI (rW (x2 + a1)))<|sA rfl<|sN<|gS rfl rfl<|sM rfl<|sA rfl<|sN<|qR ?_
  exact oI h▸qD
 refine sN<|cF<|qK<|gS rfl rfl<|sM rfl<|sA rfl<|sN<|qR ?_
 exact oI h▸qD
theorem bB {a1 : Int} {d0 : ah} {r : Int × ah} (h : cq a1 d0 = some r) : EvP prog aH ext 10 [.ptr 0 0, rI a1] [.var [.d (.lst (d0.fL.map (PD.int .i64))), rI d0.fAt]] (rI r.1, [.var [.d (.lst (r.2.fL.map (PD.int .i64))), rI r.2.fAt]]) := by
 refine Ev.body rfl Tryz.func10 rfl (by kernel_rfl)<|gS rfl rfl<|sV (r0)<|sN<|gS rfl rfl<|sM rfl<|bE h fun x1 hx1 h => cR (rI x1.1) [(0, .var [.d (.lst (x1.2.fL.map (PD.int .i64))), rI x1.2.fAt])] (Src_Raw_ev hx1)<|sM rfl<|bE h fun x2 hx2 h => cD (mz hx2)<|sA rfl<|sN<|qR ?_
 exact oI h▸qD
theorem jT {a1 : Int} {d0 : ah} {r : aa × ah} (h : gf a1 d0 = some r) : EvP prog aH ext 14 [.ptr 0 0, rI a1] [.var [.d (.lst (d0.fL.map (PD.int .i64))), rI d0.fAt]] (.d (aa.pd r.1), [.var [.d (.lst (r.2.fL.map (PD.int .i64))), rI r.2.fAt]]) := by
 refine Ev.body rfl Tryz.func14 rfl (by kernel_rfl)<|gS rfl rfl<|sB (.ptr 64 0) 64 (.var [r0, r0, r0])<|sN<|gS rfl rfl<|sM rfl<|sM rfl<|sV (rI (rW ((2 : Int) * a1)))<|sV (rI (rW ((rW ((2 : Int) * a1)) + (1 : Int))))<|bE h fun x1 hx1 h => cR (rI x1.1) [(0, .var [.d (.lst (x1.2.fL.map (PD.int .i64))), rI x1.2.fAt])] (bB hx1)<|sM rfl<|sV (rI (rW (x1.1 - a1)))<|sM rfl<|sM rfl ?_
 refine sV (rI (rW ((2 : Int) * a1)))<|sV (rI (rW ((rW ((2 : Int) * a1)) + (1 : Int))))<|bE h fun x2 hx2 h => cR (rI x2.1) [(0, .var [.d (.lst (x2.2.fL.map (PD.int .i64))), rI x2.2.fAt])] (bB hx2)<|sM rfl<|sV (rI (rW (x2.1 - a1)))<|sM rfl<|sM rfl<|sV (rI (rW (a1 + (1 : Int))))<|bE h fun x3 hx3 h => cR (rI x3.1) [(0, .var [.d (.lst (x3.2.fL.map (PD.int .i64))), rI x3.2.fAt])] (bB hx3)<|sV (.d (aa.pd (aa.mk (rW (x1.1 - a1)) (rW (x2.1 - a1)) x3.1)))<|sS 64 (.var [rI (rW (x1.1 - a1)), rI (rW (x2.1 - a1)), rI x3.1])<|sN<|qR ?_
 exact oI h▸qD
theorem Src_Box_ev {a1 : Int} {a2 : Int} {d0 : ah} {r : aj × ah} (h : kL a1 a2 d0 = some r) : EvP prog aH ext 31 [.ptr 0 0, rI a1, rI a2] [.var [.d (.lst (d0.fL.map (PD.int .i64))), rI d0.fAt]] (.d (aj.pd r.1), [.var [.d (.lst (r.2.fL.map (PD.int .i64))), rI r.2.fAt]]) := by
 refine Ev.body rfl Tryz.func31 rfl (by kernel_rfl)<|gS rfl rfl<|sB (.ptr 96 0) 96 (.var zZ3)<|sN<|gS rfl rfl<|sM rfl<|sM rfl<|bE h fun x1 hx1 h => cR (.d (aa.pd x1.1)) [(0, .var [.d (.lst (x1.2.fL.map (PD.int .i64))), rI x1.2.fAt])] (jT hx1)<|sB (.ptr 112 0) 112 (.var [r0, r0, r0])<|sS 112 (.var [rI x1.1.fX, rI x1.1.fY, rI x1.1.fZ])<|sN<|WC.cI rfl rfl<|sV (.d (aa.pd x1.1))<|sV (.ptr 112 0) ?_
 refine sL rfl<|sM rfl<|sM rfl<|sV (rI (rW (a2 + (1 : Int))))<|bE h fun x2 hx2 h => cR (rI x2.1) [(0, .var [.d (.lst (x2.2.fL.map (PD.int .i64))), rI x2.2.fAt])] (bB hx2)<|sV (rI (rW (x1.1.fX + x2.1)))<|sV (.ptr 112 1)<|sL rfl<|sM rfl<|sM rfl<|sV (rI (rW (a2 + (1 : Int))))<|bE h fun x3 hx3 h => cR (rI x3.1) [(0, .var [.d (.lst (x3.2.fL.map (PD.int .i64))), rI x3.2.fAt])] (bB hx3)<|sV (rI (rW (x1.1.fY + x3.1))) ?_
 refine sV (.ptr 112 2)<|sL rfl<|sM rfl<|sM rfl<|sV (rI (rW (a2 + (1 : Int))))<|bE h fun x4 hx4 h => cR (rI x4.1) [(0, .var [.d (.lst (x4.2.fL.map (PD.int .i64))), rI x4.2.fAt])] (bB hx4)<|sV (rI (rW (x1.1.fZ + x4.1)))<|sV (.d (aa.pd (aa.mk (rW (x1.1.fX + x2.1)) (rW (x1.1.fY + x3.1)) (rW (x1.1.fZ + x4.1)))))<|sG (.d (aj.pd (aj.mk x1.1 (aa.mk (rW (x1.1.fX + x2.1)) (rW (x1.1.fY + x3.1)) (rW (x1.1.fZ + x4.1))))))<|sH 96 (.var [rI x1.1.fX, rI x1.1.fY, rI x1.1.fZ, rI (rW (x1.1.fX + x2.1)), rI (rW (x1.1.fY + x3.1)), rI (rW (x1.1.fZ + x4.1))]) ?_
 refine sN<|sO<|qR ?_
 cases oI h
 exact qG
theorem dp {a1 : (List Int)} {d0 : ah} {r : Int × ah} (h : dJ a1 d0 = some r) : EvP prog aH ext 18 [.ptr 0 0, .d (.lst (a1.map (PD.int .i64)))] [.var [.d (.lst (d0.fL.map (PD.int .i64))), rI d0.fAt]] (rI r.1, [.var [.d (.lst (r.2.fL.map (PD.int .i64))), rI r.2.fAt]]) := by
 refine Ev.body rfl Tryz.func18 rfl (by kernel_rfl)<|gS rfl rfl<|sV (r0)<|sN<|gS rfl rfl<|sM rfl<|sM rfl<|sM rfl<|sE (rI (a1.length : Int)) (oD _ _)<|bE h fun x1 hx1 h => cR (rI x1.1) [(0, .var [.d (.lst (x1.2.fL.map (PD.int .i64))), rI x1.2.fAt])] (bB hx1)<|bE h fun x2 hx2 h => eG hx2 rfl<|sC rfl<|sA rfl ?_
 refine sN<|qR ?_
 exact oI h▸qD
theorem nZ {d0 : ah} {r : aK × ah} (h : gg d0 = some r) : EvP prog aH ext 32 [.ptr 0 0] [.var [.d (.lst (d0.fL.map (PD.int .i64))), rI d0.fAt]] (.agg [rI r.1.aT, .ref 1 0, .ref 2 0], [.var [.d (.lst (r.2.fL.map (PD.int .i64))), rI r.2.fAt], .arr 0 3 (r.1.ak.map (PD.int .i64)), .arr 0 3 (r.1.ae.map (PD.int .i64))]) := by
 refine Ev.body rfl Tryz.func32 rfl (by kernel_rfl)<|gS rfl rfl<|sB (.ptr 32 0) 32 (.var [r0, .jY, .jY])<|sN<|gS rfl rfl<|sM rfl<|sV (.d (.lst ([20, 25, 40, 100].map (PD.int .i64))))<|bE h fun x1 hx1 h => cR (rI x1.1) [(0, .var [.d (.lst (x1.2.fL.map (PD.int .i64))), rI x1.2.fAt])] (dp hx1)<|sV (.agg [rI x1.1, .jY, .jY])<|sB (.ptr 48 0) 48 (.var [r0, .jY, .jY])<|sS 48 (.var [rI x1.1, .jY, .jY])<|sN<|gS rfl rfl<|sM rfl ?_
 refine bE h fun x2 hx2 h => cR (rI x2.1) [(0, .var [.d (.lst (x2.2.fL.map (PD.int .i64))), rI x2.2.fAt])] (bB hx2)<|sV (r0)<|sA rfl<|sN<|qS<|gS rfl rfl<|sV (r0)<|sN<|bE h fun o24 ho24 h => WC.block (WC.loop (WL.oL ho24 (fun s R' B' => jX prog 1 (A R' B') (aH.at_ 32 1 4) = some (A [(0, .ptr 0 0), (2, .ptr 32 0), (3, .ptr 48 0), (4, rI s.1), (5, rI s.2.1), (6, rI s.2.2.1)] [(0, .var [.d (.lst (s.2.2.2.1.map (PD.int .i64))), rI s.2.2.2.2.1]), (32, .var [r0, .jY, .jY]), (48, .var [rI x1.1, .ref 432 0, .ref 512 0]), (432, .arr 0 3 (s.2.2.2.2.2.1.map (PD.int .i64))), (512, .arr 0 3 (s.2.2.2.2.2.2.map (PD.int .i64)))])) (fun o e R' B' => e = .exit 0 ∧ jX prog 1 (A R' B') (aH.at_ 32 1 9) = some (A [(2, .ptr 32 0), (3, .ptr 48 0)] [(0, .var [.d (.lst (o.1.map (PD.int .i64))), rI o.2.1]), (32, .var [r0, .jY, .jY]), (48, .var [rI x1.1, .ref 432 0, .ref 512 0]), (432, .arr 0 3 (o.2.2.1.map (PD.int .i64))), (512, .arr 0 3 (o.2.2.2.map (PD.int .i64)))])) rfl ?_ ?_))
 ·rintro ⟨s3, s4, s5, s6, s7, s8, s9⟩ R' B' q14 hI h
  unfold fG at h
  refine qS<|WC.cI hI rfl<|sM rfl<|sV (.ptr 48 0)<|sL rfl<|bE h fun x15 hx15 h => WO.sP hx15 rfl rfl rfl rfl rfl rfl<|sM rfl<|bE h fun x16 hx16 h => cR (rI x16.1) [(0, .var [.d (.lst (x16.2.fL.map (PD.int .i64))), rI x16.2.fAt])] (bB hx16)<|sV (rI (rW (x15 + x16.1)))<|sF h (fun h => ?_) fun h => ?_
  ·refine sN<|sO<|cT<|qK<|qS<|qB<|WC.cI rfl rfl<|sV (.ptr 48 1)<|sL rfl<|sM rfl<|sV (.d (.lst ([s3].map (PD.int .i64))))<|bE h fun x18 hx18 h => aR hx18 (fun _ => rfl) rfl<|sV (.ptr 48 2)<|sL rfl<|sM rfl ?_
   refine sV (.d (.lst ([s4].map (PD.int .i64))))<|bE h fun x19 hx19 h => aR hx19 (fun _ => rfl) rfl<|sV (.ptr 48 1)<|sS 48 (.var [rI x1.1, .ref 432 1, .ref 512 0])<|sV (.ptr 48 2)<|sS 48 (.var [rI x1.1, .ref 432 1, .ref 512 1]) ?_
   refine sN<|sO<|WC.cI rfl rfl<|sM rfl<|sM rfl<|sV (.d (.lst ([0, 10, 20, 35].map (PD.int .i64))))<|bE h fun x20 hx20 h => cR (rI x20.1) [(0, .var [.d (.lst (x20.2.fL.map (PD.int .i64))), rI x20.2.fAt])] (dp hx20)<|sV (.ptr 48 0)<|sL rfl<|bE h fun x21 hx21 h => WO.sP hx21 rfl rfl rfl rfl rfl rfl<|sV (rI (rW (x20.1 + x21)))<|sV (rI (rW (s3 + (rW (x20.1 + x21)))))<|sA rfl ?_
   refine sN<|sO<|WC.region rfl rfl<|sM rfl<|sM rfl<|sV (rI (if (rW (s3 + (rW (x20.1 + x21)))) > s4 then (rW (s3 + (rW (x20.1 + x21)))) else s4))<|sM rfl<|sV (.d (.lst ([0, 0, 5, 30].map (PD.int .i64))))<|bE h fun x22 hx22 h => cR (rI x22.1) [(0, .var [.d (.lst (x22.2.fL.map (PD.int .i64))), rI x22.2.fAt])] (dp hx22)<|sV (rI (rW ((if (rW (s3 + (rW (x20.1 + x21)))) > s4 then (rW (s3 + (rW (x20.1 + x21)))) else s4) + x22.1)))<|sA rfl<|sN<|WC.region rfl rfl<|sM rfl<|sV (rI (rW (s5 + (1 : Int)))) ?_
   refine sA rfl<|sN ?_
   cases oI h
   exact ⟨rfl, rfl⟩
  refine sN<|sO<|cF<|qX ?_
  cases oI h
  exact ⟨nofun, rfl, rfl⟩
 intro e R' B' he hq
 obtain ⟨rfl, hI⟩ := hq
 refine qE<|gS rfl hI<|sV (.agg [rI x1.1, .ref 432 0, .ref 512 0])<|sS 32 (.var [rI x1.1, .ref 432 0, .ref 512 0])<|sN<|qR ?_
 exact oI h▸qD
theorem nA {a1 : Int} {d0 : ah} {r : bd × ah} (h : c9 a1 d0 = some r) : EvP prog aH ext 16 [.ptr 0 0, rI a1] [.var [.d (.lst (d0.fL.map (PD.int .i64))), rI d0.fAt]] (.d (bd.pd r.1), [.var [.d (.lst (r.2.fL.map (PD.int .i64))), rI r.2.fAt]]) := by
 refine Ev.body rfl Tryz.func16 rfl (by kernel_rfl)<|gS rfl rfl<|sB (.ptr 64 0) 64 (.var [r0, r0, r0, r0, r0, r0, r0, .jY, .jY, r0, r0, r0, r0, r0])<|sN<|gS rfl rfl<|sM rfl<|sM rfl<|bE h fun x1 hx1 h => cR (.d (aj.pd x1.1)) [(0, .var [.d (.lst (x1.2.fL.map (PD.int .i64))), rI x1.2.fAt])] (Src_Box_ev hx1)<|sM rfl<|bE h fun x2 hx2 h => cR (.agg [rI x2.1.aT, .ref 144 0, .ref 145 0]) [(0, .var [.d (.lst (x2.2.fL.map (PD.int .i64))), rI x2.2.fAt]), (144, .arr 0 3 (x2.1.ak.map (PD.int .i64))), (145, .arr 0 3 (x2.1.ae.map (PD.int .i64)))] (nZ hx2)<|sM rfl<|sV (.d (.lst ([10, 50, 200].map (PD.int .i64))))<|bE h fun x3 hx3 h => ?_
 refine cR (rI x3.1) [(0, .var [.d (.lst (x3.2.fL.map (PD.int .i64))), rI x3.2.fAt])] (dp hx3)<|sM rfl<|sV (.d (.lst ([0, 0, 10, 40].map (PD.int .i64))))<|bE h fun x4 hx4 h => cR (rI x4.1) [(0, .var [.d (.lst (x4.2.fL.map (PD.int .i64))), rI x4.2.fAt])] (dp hx4)<|sM rfl<|sV (.d (.lst ([0, 50, 200, 400].map (PD.int .i64))))<|bE h fun x5 hx5 h => cR (rI x5.1) [(0, .var [.d (.lst (x5.2.fL.map (PD.int .i64))), rI x5.2.fAt])] (dp hx5)<|sM rfl<|sV (.d (.lst ([0, 5, 20].map (PD.int .i64))))<|bE h fun x6 hx6 h => cR (rI x6.1) [(0, .var [.d (.lst (x6.2.fL.map (PD.int .i64))), rI x6.2.fAt])] (dp hx6)<|sM rfl<|bE h fun x7 hx7 h => ?_
 refine cR (rI x7.1) [(0, .var [.d (.lst (x7.2.fL.map (PD.int .i64))), rI x7.2.fAt])] (bB hx7)<|sV (rI (rW ((2 : Int) + x7.1)))<|sG (.agg [rI x1.1.ak.fX, rI x1.1.ak.fY, rI x1.1.ak.fZ, rI x1.1.ae.fX, rI x1.1.ae.fY, rI x1.1.ae.fZ, rI x2.1.aT, .ref 144 0, .ref 145 0, rI x3.1, rI x4.1, rI x5.1, rI x6.1, rI (rW ((2 : Int) + x7.1))])<|sH 64 (.var [rI x1.1.ak.fX, rI x1.1.ak.fY, rI x1.1.ak.fZ, rI x1.1.ae.fX, rI x1.1.ae.fY, rI x1.1.ae.fZ, rI x2.1.aT, .ref 144 0, .ref 145 0, rI x3.1, rI x4.1, rI x5.1, rI x6.1, rI (rW ((2 : Int) + x7.1))])<|sN<|qR ?_
 cases oI h
 exact qG
theorem Src_Scale_ev {d0 : ah} {r : bt × ah} (h : hX d0 = some r) : EvP prog aH ext 17 [.ptr 0 0] [.var [.d (.lst (d0.fL.map (PD.int .i64))), rI d0.fAt]] (.d (bt.pd r.1), [.var [.d (.lst (r.2.fL.map (PD.int .i64))), rI r.2.fAt]]) := by
 refine Ev.body rfl Tryz.func17 rfl (by kernel_rfl)<|gS rfl rfl<|sB (.ptr 32 0) 32 (.var [r0, .jY, .jY, r0, r0])<|sN<|gS rfl rfl<|sM rfl<|bE h fun x1 hx1 h => cR (.agg [rI x1.1.aT, .ref 96 0, .ref 97 0]) [(0, .var [.d (.lst (x1.2.fL.map (PD.int .i64))), rI x1.2.fAt]), (96, .arr 0 3 (x1.1.ak.map (PD.int .i64))), (97, .arr 0 3 (x1.1.ae.map (PD.int .i64)))] (nZ hx1)<|sM rfl<|bE h fun x2 hx2 h => cR (rI x2.1) [(0, .var [.d (.lst (x2.2.fL.map (PD.int .i64))), rI x2.2.fAt])] (bB hx2)<|sM rfl<|bE h fun x3 hx3 h => cR (rI x3.1) [(0, .var [.d (.lst (x3.2.fL.map (PD.int .i64))), rI x3.2.fAt])] (bB hx3)<|sV (rI (rW ((1 : Int) + x3.1))) ?_
 refine sV (.agg [rI x1.1.aT, .ref 96 0, .ref 97 0, rI x2.1, rI (rW ((1 : Int) + x3.1))])<|sB (.ptr 48 0) 48 (.var [r0, .jY, .jY, r0, r0])<|sS 48 (.var [rI x1.1.aT, .ref 96 0, .ref 97 0, rI x2.1, rI (rW ((1 : Int) + x3.1))])<|sN<|qS<|gS rfl rfl<|sV (.ptr 48 0)<|sV (.ptr 48 1)<|sL rfl<|WO.uB rfl rfl rfl rfl rfl rfl rfl rfl rfl<|sV (r0)<|sN<|bE h fun o26 ho26 h => WC.block (WC.loop (WL.oL ho26 (fun s R' B' => jX prog 1 (A R' B') (aH.at_ 17 1 3) = some (A [(2, .ptr 32 0), (3, .ptr 48 0), (16, rI (x1.1.ak.length : Int)), (17, rI s.1)] [(0, .var [.d (.lst (x3.2.fL.map (PD.int .i64))), rI x3.2.fAt]), (32, .var [r0, .jY, .jY, r0, r0]), (48, .var [rI x1.1.aT, .ref 96 0, .ref 97 0, rI x2.1, rI (rW ((1 : Int) + x3.1))]), (96, .arr 0 3 (s.2.1.map (PD.int .i64))), (97, .arr 0 3 (s.2.2.map (PD.int .i64)))])) (fun o e R' B' => e = .exit 0 ∧ jX prog 1 (A R' B') (aH.at_ 17 1 7) = some (A [(2, .ptr 32 0), (3, .ptr 48 0)] [(0, .var [.d (.lst (x3.2.fL.map (PD.int .i64))), rI x3.2.fAt]), (32, .var [r0, .jY, .jY, r0, r0]), (48, .var [rI x1.1.aT, .ref 96 0, .ref 97 0, rI x2.1, rI (rW ((1 : Int) + x3.1))]), (96, .arr 0 3 (o.1.map (PD.int .i64))), (97, .arr 0 3 (o.2.map (PD.int .i64)))])) rfl ?_ ?_))
 ·rintro ⟨s4, s5, s6⟩ R' B' q9 hI h
  refine gS rfl hI<|sF h (fun h => ?_) fun h => ?_
  ·refine sN<|qS<|cT<|qK<|qS<|qB<|gS rfl rfl<|sM rfl<|sA rfl<|sN<|WC.pC rfl rfl<|sV (.ptr 48 0)<|sV (.ptr 48 1)<|sL rfl<|sM rfl ?_
   refine sV (.ptr 48 0)<|sV (.ptr 48 2)<|sL rfl<|sM rfl<|sV (.ptr 48 0)<|sV (.ptr 48 1)<|sL rfl<|sM rfl<|bE h fun x12 hx12 h => WO.pX hx12 rfl rfl rfl rfl rfl rfl rfl rfl<|bE h fun x13 hx13 h => WO.pN hx13 rfl rfl rfl rfl rfl rfl<|bE h fun x14 hx14 h => WO.sP hx14 rfl rfl rfl rfl rfl rfl<|sV (.ptr 48 0) ?_
   refine sV (.ptr 48 2)<|sL rfl<|sM rfl<|bE h fun x16 hx16 h => WO.pX hx16 rfl rfl rfl rfl rfl rfl rfl rfl<|bE h fun x17 hx17 h => WO.pN hx17 rfl rfl rfl rfl rfl rfl<|bE h fun x18 hx18 h => WO.sP hx18 rfl rfl rfl rfl rfl rfl<|bE h fun x20 hx20 h => WO.pX hx20 rfl rfl rfl rfl rfl rfl rfl rfl<|bE h fun x21 hx21 h => WO.rZ (g := (PD.int .i64)) (sz := 1) (p := .int .i64 x14) hx21 (fun _ => rfl) (fun _ => rfl) rfl rfl rfl rfl rfl rfl rfl rfl rfl<|bE h fun x23 hx23 h => WO.pX hx23 rfl rfl rfl rfl rfl rfl rfl rfl ?_
   refine bE h fun x24 hx24 h => WO.rZ (g := (PD.int .i64)) (sz := 1) (p := .int .i64 x18) hx24 (fun _ => rfl) (fun _ => rfl) rfl rfl rfl rfl rfl rfl rfl rfl rfl ?_
   refine sN<|sO<|WC.region rfl rfl<|sV (rI (rW (s4 + (1 : Int))))<|sM rfl<|sN ?_
   cases oI h
   exact ⟨rfl, rfl⟩
  refine sN<|qS<|cF<|qX ?_
  cases oI h
  exact ⟨nofun, rfl, rfl⟩
 intro e R' B' he hq
 obtain ⟨rfl, hI⟩ := hq
 refine qE<|gS rfl hI<|sV (.agg [rI x1.1.aT, .ref 96 0, .ref 97 0, rI x2.1, rI (rW ((1 : Int) + x3.1))])<|sS 32 (.var [rI x1.1.aT, .ref 96 0, .ref 97 0, rI x2.1, rI (rW ((1 : Int) + x3.1))])<|sN<|qR ?_
 exact oI h▸qD
theorem jA {a1 : Int} {d0 : ah} {r : aG × ah} (h : cL a1 d0 = some r) : EvP prog aH ext 6 [.ptr 0 0, rI a1] [.var [.d (.lst (d0.fL.map (PD.int .i64))), rI d0.fAt]] (.d (aG.pd r.1), [.var [.d (.lst (r.2.fL.map (PD.int .i64))), rI r.2.fAt]]) := by
 refine Ev.body rfl Tryz.func6 rfl (by kernel_rfl)<|gS rfl rfl<|sB (.ptr 64 0) 64 (.var [r0, r0, r0, r0, r0, r0, r0, .jY, .jY, r0, r0, r0, r0, r0, r0, .jY, .jY, r0, r0, r0])<|sN<|gS rfl rfl<|sM rfl<|sM rfl<|bE h fun x1 hx1 h => cR (.d (bd.pd x1.1)) [(0, .var [.d (.lst (x1.2.fL.map (PD.int .i64))), rI x1.2.fAt])] (nA hx1)<|sM rfl<|bE h fun x2 hx2 h => cR (.d (bt.pd x2.1)) [(0, .var [.d (.lst (x2.2.fL.map (PD.int .i64))), rI x2.2.fAt])] (Src_Scale_ev hx2)<|sM rfl<|sV (.d (.lst ([0, 0, 10, 40].map (PD.int .i64))))<|bE h fun x3 hx3 h => ?_
 refine cR (rI x3.1) [(0, .var [.d (.lst (x3.2.fL.map (PD.int .i64))), rI x3.2.fAt])] (dp hx3)<|sG (.d (.agg [.int .i64 x1.1.ac.ak.fX, .int .i64 x1.1.ac.ak.fY, .int .i64 x1.1.ac.ak.fZ, .int .i64 x1.1.ac.ae.fX, .int .i64 x1.1.ac.ae.fY, .int .i64 x1.1.ac.ae.fZ, .int .i64 x1.1.az.aT, .lst (x1.1.az.ak.map (PD.int .i64)), .lst (x1.1.az.ae.map (PD.int .i64)), .int .i64 x1.1.bG, .int .i64 x1.1.ba, .int .i64 x1.1.gH, .int .i64 x1.1.eP, .int .i64 x1.1.eO, .int .i64 x2.1.aZ.aT, .lst (x2.1.aZ.ak.map (PD.int .i64)), .lst (x2.1.aZ.ae.map (PD.int .i64)), .int .i64 x2.1.bh, .int .i64 x2.1.bg, .int .i64 x3.1]))<|sH 64 (.var [rI x1.1.ac.ak.fX, rI x1.1.ac.ak.fY, rI x1.1.ac.ak.fZ, rI x1.1.ac.ae.fX, rI x1.1.ac.ae.fY, rI x1.1.ac.ae.fZ, rI x1.1.az.aT, .d (.lst (x1.1.az.ak.map (PD.int .i64))), .d (.lst (x1.1.az.ae.map (PD.int .i64))), rI x1.1.bG, rI x1.1.ba, rI x1.1.gH, rI x1.1.eP, rI x1.1.eO, rI x2.1.aZ.aT, .d (.lst (x2.1.aZ.ak.map (PD.int .i64))), .d (.lst (x2.1.aZ.ae.map (PD.int .i64))), rI x2.1.bh, rI x2.1.bg, rI x3.1])<|sN<|qR ?_
 cases oI h
 exact qG
theorem jy {d0 : ah} {r : aN × ah} (h : dj d0 = some r) : EvP prog aH ext 15 [.ptr 0 0] [.var [.d (.lst (d0.fL.map (PD.int .i64))), rI d0.fAt]] (.d (aN.pd r.1), [.var [.d (.lst (r.2.fL.map (PD.int .i64))), rI r.2.fAt]]) := by
 refine Ev.body rfl Tryz.func15 rfl (by kernel_rfl)<|gS rfl rfl<|sB (.ptr 32 0) 32 (.var [.jY])<|sN<|gS rfl rfl<|sB (.ptr 48 0) 48 (.var [.jY])<|sN<|qS<|gS rfl rfl<|sM rfl<|bE h fun x1 hx1 h => cR (rI x1.1) [(0, .var [.d (.lst (x1.2.fL.map (PD.int .i64))), rI x1.2.fAt])] (bB hx1)<|sA rfl<|sN<|bE h fun o28 ho28 h => ?_
 refine WC.block (WC.loop (WL.oL ho28 (fun s R' B' => jX prog 1 (A R' B') (aH.at_ 15 1 3) = some (A [(0, .ptr 0 0), (2, .ptr 32 0), (3, .ptr 48 0), (4, rI s.1)] [(0, .var [.d (.lst (s.2.1.map (PD.int .i64))), rI s.2.2.1]), (32, .var [.jY]), (48, .var [.ref 1040 0]), (1040, .arr 0 104 (s.2.2.2.map aB.pd))])) (fun o e R' B' => e = .exit 0 ∧ jX prog 1 (A R' B') (aH.at_ 15 1 13) = some (A [(2, .ptr 32 0), (3, .ptr 48 0)] [(0, .var [.d (.lst (o.1.map (PD.int .i64))), rI o.2.1]), (32, .var [.jY]), (48, .var [.ref 1040 0]), (1040, .arr 0 104 (o.2.2.map aB.pd))])) rfl ?_ ?_))
 ·rintro ⟨s2, s3, s4, s5⟩ R' B' q9 hI h
  refine qS<|gS rfl hI<|sM rfl<|sF h (fun h => ?_) fun h => ?_
  ·refine sN<|cT<|qK<|qS<|qB<|gS rfl rfl<|sM rfl<|bE h fun x11 hx11 h => cR (rI x11.1) [(0, .var [.d (.lst (x11.2.fL.map (PD.int .i64))), rI x11.2.fAt])] (bB hx11)<|sG (.agg [rI x11.1, r0, r0, r0, r0, r0, r0, .jY, r0, r0])<|sB (.ptr 80 0) 80 (.var [r0, r0, r0, r0, r0, r0, r0, .jY, r0, r0])<|sH 80 (.var [rI x11.1, r0, r0, r0, r0, r0, r0, .jY, r0, r0])<|sN<|qS<|gS rfl rfl ?_
   refine sV (.ptr 80 0)<|sL rfl<|sN<|qB<|gS rfl rfl<|sF h (fun h => ?_) fun h => ?_
   ·refine sA rfl<|sN<|cT<|WC.region rfl rfl<|sM rfl<|sV (.d (.lst ([0, 1, 9, 99, 1048575].map (PD.int .i64))))<|bE h fun x13 hx13 h => cR (rI x13.1) [(0, .var [.d (.lst (x13.2.fL.map (PD.int .i64))), rI x13.2.fAt])] (dp hx13)<|sV (rI (rW ((1 : Int) + x13.1)))<|sM rfl<|sV (.d (.lst ([0, 0, 2, 9, 999].map (PD.int .i64))))<|bE h fun x14 hx14 h => cR (rI x14.1) [(0, .var [.d (.lst (x14.2.fL.map (PD.int .i64))), rI x14.2.fAt])] (dp hx14)<|sV (rI (rW ((1 : Int) + x14.1)))<|sV (.ptr 80 1) ?_
    refine sV (.ptr 80 1)<|sS 80 (.var [rI x11.1, rI (rW ((1 : Int) + x13.1)), r0, r0, r0, r0, r0, .jY, r0, r0])<|sV (.ptr 80 4)<|sV (.ptr 80 4)<|sS 80 (.var [rI x11.1, rI (rW ((1 : Int) + x13.1)), r0, r0, rI (rW ((1 : Int) + x14.1)), r0, r0, .jY, r0, r0])<|sN<|WC.region rfl rfl<|sV (.ptr 48 0)<|sL rfl<|sV (.agg [rI x11.1, rI (rW ((1 : Int) + x13.1)), r0, r0, rI (rW ((1 : Int) + x14.1)), r0, r0, .jY, r0, r0])<|sG (.d (.lst ([(aB.mk x11.1 (aW.mk (rW ((1 : Int) + x13.1)) 0 0) (aW.mk (rW ((1 : Int) + x14.1)) 0 0) [] 0 0)].map aB.pd)))<|bE h fun x15 hx15 h => aR hx15 (fun _ => rfl) rfl<|sV (.ptr 48 0)<|sS 48 (.var [.ref 1040 1]) ?_
    refine sN<|WC.region rfl rfl<|sM rfl<|sV (rI (rW (s2 - (1 : Int))))<|sA rfl<|sN ?_
    cases oI h
    exact ⟨rfl, rfl⟩
   refine sA rfl<|sN<|cF<|gS rfl rfl<|sF h (fun h => ?_) fun h => ?_
   ·refine sA rfl<|sN<|cT<|WC.region rfl rfl<|sM rfl<|bE h fun x17 hx17 h => cR (rI x17.1) [(0, .var [.d (.lst (x17.2.fL.map (PD.int .i64))), rI x17.2.fAt])] (bB hx17)<|sM rfl<|bE h fun x18 hx18 h => cR (rI x18.1) [(0, .var [.d (.lst (x18.2.fL.map (PD.int .i64))), rI x18.2.fAt])] (bB hx18)<|sV (rI (rW (x18.1 - (3 : Int))))<|sM rfl<|bE h fun x19 hx19 h => cR (rI x19.1) [(0, .var [.d (.lst (x19.2.fL.map (PD.int .i64))), rI x19.2.fAt])] (bB hx19)<|sV (rI (rW (x19.1 - (1 : Int)))) ?_
    refine sV (.d (aW.pd (aW.mk x17.1 (rW (x18.1 - (3 : Int))) (rW (x19.1 - (1 : Int))))))<|sM rfl<|bE h fun x20 hx20 h => cR (rI x20.1) [(0, .var [.d (.lst (x20.2.fL.map (PD.int .i64))), rI x20.2.fAt])] (bB hx20)<|sV (rI (rW ((1 : Int) + x20.1)))<|sM rfl<|bE h fun x21 hx21 h => cR (rI x21.1) [(0, .var [.d (.lst (x21.2.fL.map (PD.int .i64))), rI x21.2.fAt])] (bB hx21)<|sM rfl<|bE h fun x22 hx22 h => cR (rI x22.1) [(0, .var [.d (.lst (x22.2.fL.map (PD.int .i64))), rI x22.2.fAt])] (bB hx22)<|sV (.d (aW.pd (aW.mk (rW ((1 : Int) + x20.1)) x21.1 x22.1)))<|sV (.ptr 80 1)<|sS 80 (.var [rI x11.1, rI x17.1, rI (rW (x18.1 - (3 : Int))), rI (rW (x19.1 - (1 : Int))), r0, r0, r0, .jY, r0, r0])<|sV (.ptr 80 4) ?_
    refine sS 80 (.var [rI x11.1, rI x17.1, rI (rW (x18.1 - (3 : Int))), rI (rW (x19.1 - (1 : Int))), rI (rW ((1 : Int) + x20.1)), rI x21.1, rI x22.1, .jY, r0, r0])<|sN<|WC.region rfl rfl<|sV (.ptr 48 0)<|sL rfl<|sV (.agg [rI x11.1, rI x17.1, rI (rW (x18.1 - (3 : Int))), rI (rW (x19.1 - (1 : Int))), rI (rW ((1 : Int) + x20.1)), rI x21.1, rI x22.1, .jY, r0, r0])<|sG (.d (.lst ([(aB.mk x11.1 (aW.mk x17.1 (rW (x18.1 - (3 : Int))) (rW (x19.1 - (1 : Int)))) (aW.mk (rW ((1 : Int) + x20.1)) x21.1 x22.1) [] 0 0)].map aB.pd)))<|bE h fun x23 hx23 h => aR hx23 (fun _ => rfl) rfl<|sV (.ptr 48 0)<|sS 48 (.var [.ref 1040 1])<|sN<|WC.region rfl rfl<|sM rfl<|sV (rI (rW (s2 - (1 : Int)))) ?_
    refine sA rfl<|sN ?_
    cases oI h
    exact ⟨rfl, rfl⟩
   refine sA rfl<|sN<|cF<|WC.region rfl rfl<|sM rfl<|bE h fun x24 hx24 h => cR (rI x24.1) [(0, .var [.d (.lst (x24.2.fL.map (PD.int .i64))), rI x24.2.fAt])] (bB hx24)<|sV (rI (rW ((1 : Int) + x24.1)))<|sV (.d (.lst ([(rW ((1 : Int) + x24.1)), 2, 1].map (PD.int .i64))))<|sM rfl<|bE h fun x25 hx25 h => cR (rI x25.1) [(0, .var [.d (.lst (x25.2.fL.map (PD.int .i64))), rI x25.2.fAt])] (bB hx25)<|sV (.ptr 80 7)<|sS 80 (.var [rI x11.1, r0, r0, r0, r0, r0, r0, .d (.lst ([(rW ((1 : Int) + x24.1)), 2, 1].map (PD.int .i64))), r0, r0])<|sV (.ptr 80 8) ?_
   refine sS 80 (.var [rI x11.1, r0, r0, r0, r0, r0, r0, .d (.lst ([(rW ((1 : Int) + x24.1)), 2, 1].map (PD.int .i64))), rI 1, r0])<|sV (.ptr 80 9)<|sS 80 (.var [rI x11.1, r0, r0, r0, r0, r0, r0, .d (.lst ([(rW ((1 : Int) + x24.1)), 2, 1].map (PD.int .i64))), rI 1, rI x25.1])<|sN<|WC.region rfl rfl<|sV (.ptr 48 0)<|sL rfl<|sV (.d (.agg [.int .i64 x11.1, .int .i64 0, .int .i64 0, .int .i64 0, .int .i64 0, .int .i64 0, .int .i64 0, .lst ([(rW ((1 : Int) + x24.1)), 2, 1].map (PD.int .i64)), .int .i64 1, .int .i64 x25.1]))<|sG (.d (.lst ([(aB.mk x11.1 (aW.mk 0 0 0) (aW.mk 0 0 0) [(rW ((1 : Int) + x24.1)), 2, 1] 1 x25.1)].map aB.pd)))<|bE h fun x26 hx26 h => aR hx26 (fun _ => rfl) rfl<|sV (.ptr 48 0)<|sS 48 (.var [.ref 1040 1])<|sN<|WC.region rfl rfl ?_
   refine sM rfl<|sV (rI (rW (s2 - (1 : Int))))<|sA rfl<|sN ?_
   cases oI h
   exact ⟨rfl, rfl⟩
  refine sN<|cF<|qX ?_
  cases oI h
  exact ⟨nofun, rfl, rfl⟩
 intro e R' B' he hq
 obtain ⟨rfl, hI⟩ := hq
 refine qE<|gS rfl hI<|sV (.agg [.ref 1040 0])<|sS 32 (.var [.ref 1040 0])<|sN<|qR ?_
 exact oI h▸qD
theorem ku {a0 : Int} {r : aI} (h : dw a0 = some r) : EvP prog aH ext 19 [rI a0] [] (.d (aI.pd r), []) := by
 refine Ev.body rfl Tryz.func19 rfl (by kernel_rfl)<|gS rfl rfl<|sB (.ptr 32 0) 32 (.var [rS [], rS [], rS [], rS []])<|sN<|gS rfl rfl<|sV (.d (.lst ([[83, 49], [83, 50], [83, 51], [83, 52], [83, 53], [83, 54]].map PD.str)))<|sM rfl<|bE h fun x1 hx1 h => cD (mz hx1)<|bE h fun x2 hx2 h => eG hx2 rfl<|sC rfl<|sV (.d (aI.pd (aI.mk [65, 66] x2 [48, 48] [66, 72, 90])))<|sS 32 (.var [rS [65, 66], rS x2, rS [48, 48], rS [66, 72, 90]])<|sN ?_
 refine qR ?_
 exact oI h▸qD
theorem lA {a1 : Int} {d0 : ah} {r : aD × ah} (h : eU a1 d0 = some r) : EvP prog aH ext 7 [.ptr 0 0, rI a1] [.var [.d (.lst (d0.fL.map (PD.int .i64))), rI d0.fAt]] (.d (aD.pd r.1), [.var [.d (.lst (r.2.fL.map (PD.int .i64))), rI r.2.fAt]]) := by
 refine Ev.body rfl Tryz.func7 rfl (by kernel_rfl)<|gS rfl rfl<|sB (.ptr 64 0) 64 (.var [.jY])<|sN<|gS rfl rfl<|sB (.ptr 80 0) 80 (.var [.jY])<|sN<|qS<|gS rfl rfl<|sV (r0)<|sN<|bE h fun o34 ho34 h => WC.block (WC.loop (WL.oL ho34 (fun s R' B' => jX prog 1 (A R' B') (aH.at_ 7 1 3) = some (A [(0, .ptr 0 0), (1, rI a1), (4, .ptr 64 0), (5, .ptr 80 0), (6, rI s.1)] [(0, .var [.d (.lst (s.2.1.map (PD.int .i64))), rI s.2.2.1]), (64, .var [.jY]), (80, .var [.ref 1104 0]), (1104, .arr 0 64 (s.2.2.2.map au.pd))])) (fun o e R' B' => e = .exit 0 ∧ jX prog 1 (A R' B') (aH.at_ 7 1 16) = some (A [(4, .ptr 64 0), (5, .ptr 80 0)] [(0, .var [.d (.lst (o.1.map (PD.int .i64))), rI o.2.1]), (64, .var [.jY]), (80, .var [.ref 1104 0]), (1104, .arr 0 64 (o.2.2.map au.pd))])) rfl ?_ ?_))
 ·rintro ⟨s1, s2, s3, s4⟩ R' B' q8 hI h
  refine qS<|gS rfl hI<|sM rfl<|sM rfl<|sF h (fun h => ?_) fun h => ?_
  ·refine sM rfl<|sM rfl<|sV (rB (decide (s1 < (6 : Int))))<|sF h (fun h => ?_) fun h => ?_
   ·refine sN<|cT<|qK<|qS<|qB<|gS rfl rfl<|sV (.d (bf.pd (bf.mk 100 1)))<|sM rfl<|bE h fun x11 hx11 h => cR (.d (aa.pd x11.1)) [(0, .var [.d (.lst (x11.2.fL.map (PD.int .i64))), rI x11.2.fAt])] (jT hx11)<|sM rfl<|bE h fun x12 hx12 h => cR (.d (aN.pd x12.1)) [(0, .var [.d (.lst (x12.2.fL.map (PD.int .i64))), rI x12.2.fAt])] (jy hx12)<|sG (.d (.agg [.int .i64 0, .int .i64 100000, .int .i64 100, .int .i64 1, .int .i64 x11.1.fX, .int .i64 x11.1.fY, .int .i64 x11.1.fZ, .lst (x12.1.bj.map aB.pd)]))<|sB (.ptr 112 0) 112 (.var zZ2) ?_
    refine sH 112 (.var [r0, rI 100000, rI 100, rI 1, rI x11.1.fX, rI x11.1.fY, rI x11.1.fZ, .d (.lst (x12.1.bj.map aB.pd))])<|sN<|WC.cI rfl rfl<|sM rfl<|bE h fun x13 hx13 h => cD (ku hx13)<|sV (.d (.agg [.int .i64 0, .int .i64 100000, .int .i64 100, .int .i64 1, .int .i64 x11.1.fX, .int .i64 x11.1.fY, .int .i64 x11.1.fZ, .lst (x12.1.bj.map aB.pd)]))<|sB (.ref 448 0) 448 (.arr 0 71 ([(al.mk 0 100000 (bf.mk 100 1) x11.1 x12.1)].map al.pd))<|sV (.agg [rS x13.aU, rS x13.aL, rS x13.aq, rS x13.aX, .ref 448 0])<|sB (.ptr 128 0) 128 (.var [rS [], rS [], rS [], rS [], .jY])<|sS 128 (.var [rS x13.aU, rS x13.aL, rS x13.aq, rS x13.aX, .ref 448 0]) ?_
    refine sN<|sO<|qS<|gS rfl rfl<|sM rfl<|bE h fun x14 hx14 h => cR (rI x14.1) [(0, .var [.d (.lst (x14.2.fL.map (PD.int .i64))), rI x14.2.fAt])] (bB hx14)<|sN<|qB<|gS rfl rfl<|sF h (fun h => ?_) fun h => ?_
    ·refine sA rfl<|sN<|cT<|gS rfl rfl<|sV (.d (.agg [.int .i64 0, .int .i64 100000, .int .i64 100, .int .i64 1, .int .i64 x11.1.fX, .int .i64 x11.1.fY, .int .i64 x11.1.fZ, .lst (x12.1.bj.map aB.pd)]))<|sB (.ptr 144 0) 144 (.var zZ2)<|sH 144 (.var [r0, rI 100000, rI 100, rI 1, rI x11.1.fX, rI x11.1.fY, rI x11.1.fZ, .d (.lst (x12.1.bj.map aB.pd))])<|sN<|gS rfl rfl<|sM rfl<|bE h fun x16 hx16 h => cR (rI x16.1) [(0, .var [.d (.lst (x16.2.fL.map (PD.int .i64))), rI x16.2.fAt])] (bB hx16)<|sV (rI (rW ((1500 : Int) + x16.1)))<|sM rfl<|bE h fun x17 hx17 h => ?_
     refine cR (.d (aa.pd x17.1)) [(0, .var [.d (.lst (x17.2.fL.map (PD.int .i64))), rI x17.2.fAt])] (jT hx17)<|sM rfl<|bE h fun x18 hx18 h => cR (.d (aN.pd x18.1)) [(0, .var [.d (.lst (x18.2.fL.map (PD.int .i64))), rI x18.2.fAt])] (jy hx18)<|sV (.ptr 144 0)<|sS 144 (.var [rI (rW ((1500 : Int) + x16.1)), rI 100000, rI 100, rI 1, rI x11.1.fX, rI x11.1.fY, rI x11.1.fZ, .d (.lst (x12.1.bj.map aB.pd))])<|sV (.ptr 144 4)<|sS 144 (.var [rI (rW ((1500 : Int) + x16.1)), rI 100000, rI 100, rI 1, rI x17.1.fX, rI x17.1.fY, rI x17.1.fZ, .d (.lst (x12.1.bj.map aB.pd))])<|sV (.ptr 144 7)<|sS 144 (.var [rI (rW ((1500 : Int) + x16.1)), rI 100000, rI 100, rI 1, rI x17.1.fX, rI x17.1.fY, rI x17.1.fZ, .d (.lst (x18.1.bj.map aB.pd))])<|sN<|gS rfl rfl<|sV (.ptr 128 4)<|sL rfl<|sV (.ptr 144 0) ?_
     refine sL rfl<|bE h fun x20 hx20 h => WO.pX hx20 rfl rfl rfl rfl rfl rfl rfl rfl<|sV (.elt 448 0 ((0 : Int)).toNat 1)<|bE h fun x21 hx21 h => WO.Ap (g := al.pd) (u := []) (sz := 1) hx21 (fun _ => rfl) (fun _ => Nat.le_of_ble_eq_true rfl) rfl rfl rfl rfl rfl rfl rfl rfl rfl rfl rfl<|sN<|WC.region rfl rfl<|sV (.ptr 128 4)<|sL rfl<|sV (.d (.agg [.int .i64 (rW ((1500 : Int) + x16.1)), .int .i64 100000, .int .i64 100, .int .i64 1, .int .i64 x17.1.fX, .int .i64 x17.1.fY, .int .i64 x17.1.fZ, .lst (x18.1.bj.map aB.pd)]))<|sG (.d (.lst ([(al.mk (rW ((1500 : Int) + x16.1)) 100000 (bf.mk 100 1) x17.1 x18.1)].map al.pd)))<|bE h fun x23 hx23 h => aR hx23 (fun _ => rfl) rfl<|sV (.ptr 128 4) ?_
     refine sS 128 (.var [rS x13.aU, rS x13.aL, rS x13.aq, rS x13.aX, .ref 448 1])<|sN<|WC.region rfl rfl<|sV (.ptr 80 0)<|sL rfl<|sV (.agg [rS x13.aU, rS x13.aL, rS x13.aq, rS x13.aX, .ref 448 1])<|sB (.d (.lst [au.pd (au.mk x13 x23)])) 448 .dead<|bE h fun x24 hx24 h => aR hx24 (fun _ => rfl) rfl<|sV (.ptr 80 0)<|sS 80 (.var [.ref 1104 1])<|sN<|WC.region rfl rfl<|sM rfl<|sV (rI (rW (s1 + (1 : Int)))) ?_
     refine sA rfl<|sN ?_
     cases oI h
     exact ⟨rfl, rfl⟩
    refine sA rfl<|sN<|cF<|gS rfl rfl<|sF h (fun h => ?_) fun h => ?_
    ·refine sA rfl<|sN<|cT<|WC.pC rfl rfl<|sV (.ptr 128 4)<|sL rfl<|sM rfl<|bE h fun x26 hx26 h => cR (rI x26.1) [(0, .var [.d (.lst (x26.2.fL.map (PD.int .i64))), rI x26.2.fAt])] (bB hx26)<|bE h fun x28 hx28 h => WO.pX hx28 rfl rfl rfl rfl rfl rfl rfl rfl<|sV (.elt 448 0 ((0 : Int)).toNat 0)<|bE h fun x29 hx29 h => WO.Ap (g := al.pd) (u := []) (sz := 1) hx29 (fun _ => rfl) (fun _ => Nat.le_of_ble_eq_true rfl) rfl rfl rfl rfl rfl rfl rfl rfl rfl rfl rfl ?_
     refine sN<|sO<|WC.region rfl rfl<|sV (.ptr 80 0)<|sL rfl<|sV (.agg [rS x13.aU, rS x13.aL, rS x13.aq, rS x13.aX, .ref 448 0])<|sB (.d (.lst [au.pd (au.mk x13 x29)])) 448 .dead<|bE h fun x31 hx31 h => aR hx31 (fun _ => rfl) rfl<|sV (.ptr 80 0)<|sS 80 (.var [.ref 1104 1])<|sN<|WC.region rfl rfl<|sM rfl<|sV (rI (rW (s1 + (1 : Int))))<|sA rfl ?_
     refine sN ?_
     cases oI h
     exact ⟨rfl, rfl⟩
    refine sA rfl<|sN<|cF<|qK<|WC.region rfl rfl<|sV (.ptr 80 0)<|sL rfl<|sV (.agg [rS x13.aU, rS x13.aL, rS x13.aq, rS x13.aX, .ref 448 0])<|sB (.d (.lst [au.pd (au.mk x13 [(al.mk 0 100000 (bf.mk 100 1) x11.1 x12.1)])])) 448 .dead<|bE h fun x32 hx32 h => aR hx32 (fun _ => rfl) rfl<|sV (.ptr 80 0)<|sS 80 (.var [.ref 1104 1])<|sN<|WC.region rfl rfl ?_
    refine sM rfl<|sV (rI (rW (s1 + (1 : Int))))<|sA rfl<|sN ?_
    cases oI h
    exact ⟨rfl, rfl⟩
   refine sN<|cF<|qX ?_
   cases oI h
   exact ⟨nofun, rfl, rfl⟩
  refine sM rfl<|sK<|sK<|sU<|sN<|cF<|qX ?_
  cases oI h
  exact ⟨nofun, rfl, rfl⟩
 intro e R' B' he hq
 obtain ⟨rfl, hI⟩ := hq
 refine qE<|gS rfl hI<|sV (.agg [.ref 1104 0])<|sS 64 (.var [.ref 1104 0])<|sN<|qR ?_
 exact oI h▸qD
theorem lz {a1 : Int} {a2 : Int} {d0 : ah} {r : Int × ah} (h : kb a1 a2 d0 = some r) : EvP prog aH ext 33 [.ptr 0 0, rI a1, rI a2] [.var [.d (.lst (d0.fL.map (PD.int .i64))), rI d0.fAt]] (rI r.1, [.var [.d (.lst (r.2.fL.map (PD.int .i64))), rI r.2.fAt]]) := by
 refine Ev.body rfl Tryz.func33 rfl (by kernel_rfl)<|gS rfl rfl<|sV (r0)<|sN<|gS rfl rfl<|sM rfl<|sM rfl<|sM rfl<|sM rfl<|sV (rI (rW (a2 - a1)))<|sV (rI (rW ((rW (a2 - a1)) + (1 : Int))))<|bE h fun x1 hx1 h => cR (rI x1.1) [(0, .var [.d (.lst (x1.2.fL.map (PD.int .i64))), rI x1.2.fAt])] (bB hx1)<|sV (rI (rW (a1 + x1.1)))<|sA rfl ?_
 refine sN<|qR ?_
 exact oI h▸qD
theorem nY {a1 : aj} {d0 : ah} {r : aa × ah} (h : lg a1 d0 = some r) : EvP prog aH ext 20 [.ptr 0 0, .d (aj.pd a1)] [.var [.d (.lst (d0.fL.map (PD.int .i64))), rI d0.fAt]] (.d (aa.pd r.1), [.var [.d (.lst (r.2.fL.map (PD.int .i64))), rI r.2.fAt]]) := by
 refine Ev.body rfl Tryz.func20 rfl (by kernel_rfl)<|gS rfl rfl<|sB (.ptr 48 0) 48 (.var (aj.rc a1))<|sB (.ptr 64 0) 64 (.var [r0, r0, r0])<|sN<|WC.cI rfl rfl<|sM rfl<|sV (.ptr 48 0)<|sV (.ptr 48 0)<|sL rfl<|sV (.ptr 48 3)<|sV (.ptr 48 3)<|sL rfl<|bE h fun x1 hx1 h => cR (rI x1.1) [(0, .var [.d (.lst (x1.2.fL.map (PD.int .i64))), rI x1.2.fAt])] (lz hx1) ?_
 refine sM rfl<|sV (.ptr 48 0)<|sV (.ptr 48 1)<|sL rfl<|sV (.ptr 48 3)<|sV (.ptr 48 4)<|sL rfl<|bE h fun x2 hx2 h => cR (rI x2.1) [(0, .var [.d (.lst (x2.2.fL.map (PD.int .i64))), rI x2.2.fAt])] (lz hx2)<|sM rfl<|sV (.ptr 48 0)<|sV (.ptr 48 2)<|sL rfl<|sV (.ptr 48 3)<|sV (.ptr 48 5) ?_
 refine sL rfl<|bE h fun x3 hx3 h => cR (rI x3.1) [(0, .var [.d (.lst (x3.2.fL.map (PD.int .i64))), rI x3.2.fAt])] (lz hx3)<|sV (.d (aa.pd (aa.mk x1.1 x2.1 x3.1)))<|sS 64 (.var [rI x1.1, rI x2.1, rI x3.1]) ?_
 refine sN<|sO<|qR ?_
 exact oI h▸qD
theorem keep_place_ev {a0 : aD} {a1 : aI} {a2 : Int} {r : aa × Bool} (h : lK a0 a1 a2 = some r) : EvP prog aH ext 21 [.d (aD.pd a0), .d (aI.pd a1), rI a2] [] (.tup [.d (aa.pd r.1), rB r.2], []) := by
 refine Ev.body rfl Tryz.func21 rfl (by kernel_rfl)<|gS rfl rfl<|sB (.ptr 48 0) 48 (.var [.d (.lst (a0.aQ.map au.pd))])<|sB (.ptr 64 0) 64 (.var [rS a1.aU, rS a1.aL, rS a1.aq, rS a1.aX])<|sB (.ptr 96 0) 96 (.var [r0, r0, r0])<|sU<|sN<|qS<|gS rfl rfl<|sV (.ptr 48 0)<|sL rfl<|sE (rI (a0.aQ.length : Int)) (oD _ _)<|sV (r0)<|sN<|bE h fun o18 ho18 h => ?_
 refine WC.block (WC.loop (WL.oL ho18 (fun s R' B' => jX prog 0 (A R' B') (aH.at_ 21 0 2) = some (A [(2, rI a2), (4, .ptr 64 0), (6, .ptr 96 0), (13, .d (.lst (a0.aQ.map au.pd))), (14, rI (a0.aQ.length : Int)), (15, rI s)] [(64, .var [rS a1.aU, rS a1.aL, rS a1.aq, rS a1.aX]), (96, .var [r0, r0, r0])])) (fun o e R' B' => match o with | .inl y => e = .exit 0 ∧ jX prog 0 (A R' B') (aH.at_ 21 0 11) = some (A [(6, .ptr 96 0)] [(96, .var [r0, r0, r0])]) | .inr r => e = .ret ∧ finish prog (aH.own 21) Tryz.f21 0 (A R' B') = some (.tup [.d (aa.pd r.1), rB r.2], [])) rfl ?_ ?_))
 ·rintro s1 R' B' q2 hI h
  refine gS rfl hI<|sF h (fun h => ?_) fun h => ?_
  ·refine sN<|qS<|cT<|qK<|qS<|qB<|gS rfl rfl<|bE h fun x4 hx4 h => eG hx4 rfl<|sV (.d (au.pd x4))<|sB (.ptr 144 0) 144 (.var [rS [], rS [], rS [], rS [], .jY])<|sS 144 (.var (au.rc x4))<|sN<|gS rfl rfl<|sV (.ptr 144 4) ?_
   refine sL rfl<|sE (rI (x4.bo.length : Int)) (oD _ _)<|sV (r0)<|sN<|bE h fun o14 ho14 h => WC.block (WC.loop (WL.oL ho14 (fun s R' B' => jX prog 0 (A R' B') (aH.at_ 21 0 5) = some (A [(2, rI a2), (4, .ptr 64 0), (6, .ptr 96 0), (9, .ptr 144 0), (13, .d (.lst (a0.aQ.map au.pd))), (14, rI (a0.aQ.length : Int)), (15, rI s1), (20, .d (.lst (x4.bo.map al.pd))), (21, rI (x4.bo.length : Int)), (22, rI s)] [(64, .var [rS a1.aU, rS a1.aL, rS a1.aq, rS a1.aX]), (96, .var [r0, r0, r0]), (144, .var (au.rc x4))])) (fun o e R' B' => match o with | .inl y => e = .exit 2 ∧ jX prog 0 (A R' B') (aH.at_ 21 0 10) = some (A [(2, rI a2), (4, .ptr 64 0), (6, .ptr 96 0), (13, .d (.lst (a0.aQ.map au.pd))), (14, rI (a0.aQ.length : Int)), (15, rI y)] [(64, .var [rS a1.aU, rS a1.aL, rS a1.aq, rS a1.aX]), (96, .var [r0, r0, r0])]) | .inr r => e = .ret ∧ finish prog (aH.own 21) Tryz.f21 0 (A R' B') = some (.tup [.d (aa.pd r.1), rB r.2], [])) rfl ?_ ?_))
   ·rintro s5 R' B' q7 hI h
    refine gS rfl hI<|sF h (fun h => ?_) fun h => ?_
    ·refine sN<|qS<|cT<|qK<|qS<|qB<|gS rfl rfl<|bE h fun x9 hx9 h => eG hx9 rfl<|sV (.d (al.pd x9))<|sB (.ptr 176 0) 176 (.var zZ2)<|sH 176 (.var (al.rc x9))<|sN<|gS rfl rfl<|sV (.ptr 144 0) ?_
     refine sV (.d (aI.pd x4.aJ))<|sV (.d (aI.pd a1))<|pb h (fun hb10 h => ?_) (fun hb10 h => ?_)
     ·refine WO.uA (eqE_46 x4.aJ a1) hb10 rfl rfl rfl rfl rfl<|sM rfl<|sV (.ptr 176 0)<|sL rfl<|sM rfl<|sV (rB (decide (x9.bF ≤ a2)))<|sF h (fun h => ?_) fun h => ?_
      ·refine sM rfl<|sM rfl<|sV (.ptr 176 1)<|sL rfl<|sV (rB (decide (a2 < x9.fTo)))<|sF h (fun h => ?_) fun h => ?_
       ·refine sN<|cT<|gS rfl rfl<|sV (.ptr 176 4)<|sV (.d (aa.pd x9.aV))<|sS 96 (.var [rI x9.aV.fX, rI x9.aV.fY, rI x9.aV.fZ])<|sT<|sN<|qR ?_
        cases oI h
        exact ⟨nofun, rfl, rfl⟩
       refine sN<|cF<|qK<|WC.region rfl rfl<|sV (rI (rW (s5 + (1 : Int))))<|sM rfl<|sN ?_
       cases oI h
       exact ⟨rfl, rfl⟩
      refine sM rfl<|k3<|sK<|sU<|sN<|cF<|qK<|WC.region rfl rfl<|sV (rI (rW (s5 + (1 : Int))))<|sM rfl<|sN ?_
      cases oI h
      exact ⟨rfl, rfl⟩
     refine WO.uA (eqE_46 x4.aJ a1) hb10 rfl rfl rfl rfl rfl<|sM rfl<|k3<|sK<|sU<|sM rfl<|k3<|sK<|sU<|sN<|cF ?_
     refine qK<|WC.region rfl rfl<|sV (rI (rW (s5 + (1 : Int))))<|sM rfl<|sN ?_
     cases oI h
     exact ⟨rfl, rfl⟩
    refine sN<|qS<|cF<|qX ?_
    cases oI h
    exact ⟨nofun, rfl, rfl⟩
   intro e R' B' he hq
   rcases o14 with y15 | r16
   ·obtain ⟨rfl, hI⟩ := hq
    refine qE<|WC.region hI rfl<|sV (rI (rW (y15 + (1 : Int))))<|sM rfl<|sN ?_
    cases oI h
    exact ⟨rfl, rfl⟩
   obtain ⟨rfl, hf⟩ := hq
   cases oI h
   exact ⟨nofun, rfl, hf⟩
  refine sN<|qS<|cF<|qX ?_
  cases oI h
  exact ⟨nofun, rfl, rfl⟩
 intro e R' B' he hq
 rcases o18 with y19 | r20
 ·obtain ⟨rfl, hI⟩ := hq
  refine qE<|gS rfl hI<|sV (.d (aa.pd (aa.mk 0 0 0)))<|sS 96 (.var [r0, r0, r0])<|sU<|sN<|qR ?_
  exact oI h▸qD
 obtain ⟨rfl, hf⟩ := hq
 cases oI h
 exact hf
theorem nJ {a0 : Int} {r : Int} (h : mY a0 = some r) : EvP prog aH ext 22 [rI a0] [] (rI r, []) := by
 refine Ev.body rfl Tryz.func22 rfl (by kernel_rfl)<|gS rfl rfl<|sV (r0)<|sN<|gS rfl rfl<|sM rfl<|sM rfl<|sV (rI (rW (a0 * a0)))<|sA rfl<|sN<|qR ?_
 exact oI h▸qD
theorem nW {a1 : aG} {a2 : aD} {a3 : Int} {d0 : ah} {r : (List ap) × ah} (h : lf a1 a2 a3 d0 = some r) : EvP prog aH ext 8 [.ptr 0 0, .d (aG.pd a1), .d (aD.pd a2), rI a3] [.var [.d (.lst (d0.fL.map (PD.int .i64))), rI d0.fAt]] (.d (.lst (r.1.map ap.pd)), [.var [.d (.lst (r.2.fL.map (PD.int .i64))), rI r.2.fAt]]) := by
 refine Ev.body rfl Tryz.func8 rfl (by kernel_rfl)<|gS rfl rfl<|sB (.ptr 80 0) 80 (.var (aG.rc a1))<|sB (.ptr 96 0) 96 (.var [.d (.lst (a2.aQ.map au.pd))])<|sV .jY<|sN<|gS rfl rfl<|sV .jY<|sN<|gS rfl rfl<|sM rfl<|sV (.ptr 80 0)<|sV (.ptr 80 0)<|sV (.d (aj.pd a1.ag.ac))<|bE h fun x1 hx1 h => ?_
 refine cR (.d (aa.pd x1.1)) [(0, .var [.d (.lst (x1.2.fL.map (PD.int .i64))), rI x1.2.fAt])] (nY hx1)<|sM rfl<|bE h fun x2 hx2 h => cR (rI x2.1) [(0, .var [.d (.lst (x2.2.fL.map (PD.int .i64))), rI x2.2.fAt])] (bB hx2)<|sV (rI (rW ((1000 : Int) + x2.1)))<|sB (.ptr 160 0) 160 (.var [r0, r0, r0])<|sS 160 (.var [rI x1.1.fX, rI x1.1.fY, rI x1.1.fZ])<|sA rfl<|sN<|qS<|gS rfl rfl<|sM rfl<|sM rfl<|sV (rI (rW (a3 + (1 : Int))))<|bE h fun x3 hx3 h => ?_
 refine cR (rI x3.1) [(0, .var [.d (.lst (x3.2.fL.map (PD.int .i64))), rI x3.2.fAt])] (bB hx3)<|sA rfl<|sN<|bE h fun o61 ho61 h => WC.block (WC.loop (WL.oL ho61 (fun s R' B' => jX prog 1 (A R' B') (aH.at_ 8 1 4) = some (A [(0, .ptr 0 0), (5, .ptr 80 0), (6, .ptr 96 0), (9, .ref 2192 0), (10, .ptr 160 0), (11, rI s.1), (12, rI s.2.1)] [(0, .var [.d (.lst (s.2.2.1.map (PD.int .i64))), rI s.2.2.2.1]), (80, .var (aG.rc a1)), (96, .var [.d (.lst (a2.aQ.map au.pd))]), (160, .var [rI s.2.2.2.2.2.1, rI s.2.2.2.2.2.2.1, rI s.2.2.2.2.2.2.2]), (2192, .arr 0 48 (s.2.2.2.2.1.map ap.pd))])) (fun o e R' B' => e = .exit 0 ∧ jX prog 1 (A R' B') (aH.at_ 8 1 21) = some (A [(9, .ref 2192 0)] [(0, .var [.d (.lst (o.2.1.map (PD.int .i64))), rI o.2.2]), (2192, .arr 0 48 (o.1.map ap.pd))])) rfl ?_ ?_))
 ·rintro ⟨s4, s5, s6, s7, s8, s9, s10, s11⟩ R' B' q15 hI h
  refine qS<|gS rfl hI<|sM rfl<|sF h (fun h => ?_) fun h => ?_
  ·refine sN<|cT<|qK<|qS<|qB<|gS rfl rfl<|sM rfl<|bE h fun x17 hx17 h => cR (rI x17.1) [(0, .var [.d (.lst (x17.2.fL.map (PD.int .i64))), rI x17.2.fAt])] (bB hx17)<|bE h fun x18 hx18 h => cD (ku hx18)<|sM rfl<|sV (.d (.lst ([0, 1, 50, 1000, 1048576].map (PD.int .i64))))<|bE h fun x19 hx19 h => cR (rI x19.1) [(0, .var [.d (.lst (x19.2.fL.map (PD.int .i64))), rI x19.2.fAt])] (dp hx19) ?_
   refine sM rfl<|bE h fun x20 hx20 h => cR (rI x20.1) [(0, .var [.d (.lst (x20.2.fL.map (PD.int .i64))), rI x20.2.fAt])] (bB hx20)<|sV (rI (rW (x20.1 - (1 : Int))))<|sG (.d (ap.pd (ap.mk x18 0 0 0 x19.1 (rW (x20.1 - (1 : Int))))))<|sB (.ptr 208 0) 208 (.var [rS [], rS [], rS [], rS [], r0, r0, r0, r0, r0])<|sH 208 (.var [rS x18.aU, rS x18.aL, rS x18.aq, rS x18.aX, r0, r0, r0, rI x19.1, rI (rW (x20.1 - (1 : Int)))])<|sN<|gS rfl rfl<|sM rfl<|bE h fun x21 hx21 h => cR (rI x21.1) [(0, .var [.d (.lst (x21.2.fL.map (PD.int .i64))), rI x21.2.fAt])] (bB hx21)<|sV (rI (rW ((1000 : Int) + x21.1)))<|sV (.ptr 208 5)<|sS 208 (.var [rS x18.aU, rS x18.aL, rS x18.aq, rS x18.aX, r0, rI (rW ((1000 : Int) + x21.1)), r0, rI x19.1, rI (rW (x20.1 - (1 : Int)))]) ?_
   refine sN<|WC.join (α := Int × Int × (List Int) × Int × (List ap) × Int × Int × Int × Int) (fun x R' B' => jX prog 1 (A R' B') (aH.at_ 8 1 18) = some (A [(0, .ptr 0 0), (5, .ptr 80 0), (6, .ptr 96 0), (9, .ref 2192 0), (10, .ptr 160 0), (11, rI x.1), (12, rI x.2.1), (13, .ptr 208 0)] [(0, .var [.d (.lst (x.2.2.1.map (PD.int .i64))), rI x.2.2.2.1]), (80, .var (aG.rc a1)), (96, .var [.d (.lst (a2.aQ.map au.pd))]), (160, .var [rI x.2.2.2.2.2.1, rI x.2.2.2.2.2.2.1, rI x.2.2.2.2.2.2.2.1]), (208, .var [rS x18.aU, rS x18.aL, rS x18.aq, rS x18.aX, r0, rI x.2.2.2.2.2.2.2.2, r0, rI x19.1, rI (rW (x20.1 - (1 : Int)))]), (2192, .arr 0 48 (x.2.2.2.2.1.map ap.pd))])) (fun x => eM x18 x19 x20 x.1 x.2.1 x.2.2.1 x.2.2.2.1 x.2.2.2.2.1 x.2.2.2.2.2.1 x.2.2.2.2.2.2.1 x.2.2.2.2.2.2.2.1 x.2.2.2.2.2.2.2.2 = some q15) ?_ ?_
   ·refine gS rfl rfl<|sM rfl<|bE h fun x35 hx35 h => cR (rI x35.1) [(0, .var [.d (.lst (x35.2.fL.map (PD.int .i64))), rI x35.2.fAt])] (bB hx35)<|sN<|qB<|gS rfl rfl<|sF h (fun h => ?_) fun h => ?_
    ·refine sA rfl<|sN<|cT<|WC.region rfl rfl<|sM rfl<|sV (.ptr 80 0)<|sV (.ptr 80 0)<|sV (.d (aj.pd a1.ag.ac))<|bE h fun x37 hx37 h => cR (.d (aa.pd x37.1)) [(0, .var [.d (.lst (x37.2.fL.map (PD.int .i64))), rI x37.2.fAt])] (nY hx37)<|sM rfl<|sM rfl<|bE h fun x38 hx38 h => cR (rI x38.1) [(0, .var [.d (.lst (x38.2.fL.map (PD.int .i64))), rI x38.2.fAt])] (bB hx38)<|sV (rI (rW (s4 + x38.1))) ?_
     exact sS 160 (.var [rI x37.1.fX, rI x37.1.fY, rI x37.1.fZ])<|sA rfl<|sN<|⟨((rW (s4 + x38.1)), s5, x38.2.fL, x38.2.fAt, s8, x37.1.fX, x37.1.fY, x37.1.fZ, (rW ((1000 : Int) + x21.1))), rfl, h⟩
    refine sA rfl<|sN<|cF<|gS rfl rfl<|sF h (fun h => ?_) fun h => ?_
    ·exact sA rfl<|sN<|cT<|qK<|⟨(s4, s5, x35.2.fL, x35.2.fAt, s8, s9, s10, s11, (rW ((1000 : Int) + x21.1))), rfl, h⟩
    refine sA rfl<|sN<|cF<|gS rfl rfl<|sV (.d (aD.pd a2))<|sV (.ptr 208 0)<|sV (.d (aI.pd x18))<|sM rfl<|bE h fun x40 hx40 h => cR (.tup [.d (aa.pd x40.1), rB x40.2]) [] (keep_place_ev hx40)<|sM rfl<|sV (.d (aa.pd x40.1))<|sV (rB x40.2)<|sB (.ptr 224 0) 224 (.var [r0, r0, r0])<|sS 224 (.var [rI x40.1.fX, rI x40.1.fY, rI x40.1.fZ]) ?_
    refine sA rfl<|sN<|gS rfl rfl<|sF h (fun h => ?_) fun h => ?_
    ·refine sN<|cT<|gS rfl rfl<|sV (r0)<|sN<|qS<|bE h fun o56 ho56 h => WC.block (WC.loop (WL.oL ho56 (fun s R' B' => jX prog 1 (A R' B') (aH.at_ 8 1 12) = some (A [(0, .ptr 0 0), (5, .ptr 80 0), (6, .ptr 96 0), (9, .ref 2192 0), (10, .ptr 160 0), (11, rI s4), (12, rI s5), (13, .ptr 208 0), (14, .ptr 224 0), (16, rI s)] [(0, .var [.d (.lst (x35.2.fL.map (PD.int .i64))), rI x35.2.fAt]), (80, .var (aG.rc a1)), (96, .var [.d (.lst (a2.aQ.map au.pd))]), (160, .var [rI s9, rI s10, rI s11]), (208, .var [rS x18.aU, rS x18.aL, rS x18.aq, rS x18.aX, r0, rI (rW ((1000 : Int) + x21.1)), r0, rI x19.1, rI (rW (x20.1 - (1 : Int)))]), (224, .var [rI x40.1.fX, rI x40.1.fY, rI x40.1.fZ]), (2192, .arr 0 48 (s8.map ap.pd))])) (fun o e R' B' => e = .exit 3 ∧ jX prog 1 (A R' B') (aH.at_ 8 1 14) = some (A [(0, .ptr 0 0), (5, .ptr 80 0), (6, .ptr 96 0), (9, .ref 2192 0), (10, .ptr 160 0), (11, rI o.1), (12, rI o.2.1), (13, .ptr 208 0), (16, rI o.2.2.1)] [(0, .var [.d (.lst (x35.2.fL.map (PD.int .i64))), rI x35.2.fAt]), (80, .var (aG.rc a1)), (96, .var [.d (.lst (a2.aQ.map au.pd))]), (160, .var [rI o.2.2.2.2.1, rI o.2.2.2.2.2.1, rI o.2.2.2.2.2.2]), (208, .var [rS x18.aU, rS x18.aL, rS x18.aq, rS x18.aX, r0, rI (rW ((1000 : Int) + x21.1)), r0, rI x19.1, rI (rW (x20.1 - (1 : Int)))]), (2192, .arr 0 48 (o.2.2.2.1.map ap.pd))])) rfl ?_ ?_))
     ·rintro s42 R' B' q50 hI h
      refine qS<|WC.cI hI rfl<|sM rfl<|sM rfl<|sV (rI (rW (s42 * s42)))<|sV (.ptr 224 0)<|sL rfl<|sV (.ptr 160 0)<|sL rfl<|sV (rI (rW (x40.1.fX - s9)))<|bE h fun x51 hx51 h => cD (nJ hx51)<|sV (.ptr 224 1)<|sL rfl<|sV (.ptr 160 1) ?_
      refine sL rfl<|sV (rI (rW (x40.1.fY - s10)))<|bE h fun x52 hx52 h => cD (nJ hx52)<|sV (rI (rW (x51 + x52)))<|sV (.ptr 224 2)<|sL rfl<|sV (.ptr 160 2)<|sL rfl<|sV (rI (rW (x40.1.fZ - s11)))<|bE h fun x53 hx53 h => cD (nJ hx53)<|sV (rI (rW ((rW (x51 + x52)) + x53)))<|sF h (fun h => ?_) fun h => ?_
      ·refine sN<|sO<|cT<|qK<|qB<|WC.region rfl rfl<|sM rfl<|sV (rI (rW (s42 + (1 : Int))))<|sA rfl<|sN ?_
       cases oI h
       exact ⟨rfl, rfl⟩
      refine sN<|sO<|cF<|qX ?_
      cases oI h
      exact ⟨nofun, rfl, rfl⟩
     intro e R' B' he hq
     obtain ⟨rfl, hI⟩ := hq
     refine qE<|WC.pC hI rfl<|sM rfl<|sV (.ptr 80 0)<|sV (.ptr 80 6)<|sV (.ptr 80 7)<|sL rfl<|sM rfl<|sV (.ptr 80 0)<|sV (.ptr 80 6)<|sV (.ptr 80 6)<|sL rfl<|bE h fun x57 hx57 h => WO.sP hx57 rfl rfl rfl rfl rfl rfl<|sV (.ptr 80 0) ?_
     refine sV (.ptr 80 6)<|sV (.ptr 80 7)<|sL rfl<|sE (rI (a1.ag.az.ak.length : Int)) (oD _ _)<|sV (rI (rW ((a1.ag.az.ak.length : Int) - (1 : Int))))<|sV (rI (if (rW ((a1.ag.az.ak.length : Int) - (1 : Int))) < x57 then (rW ((a1.ag.az.ak.length : Int) - (1 : Int))) else x57))<|bE h fun x58 hx58 h => eG hx58 rfl<|sC rfl<|sV (rI (rW (o56.1 + x58)))<|sM rfl<|bE h fun x59 hx59 h => cR (rI x59.1) [(0, .var [.d (.lst (x59.2.fL.map (PD.int .i64))), rI x59.2.fAt])] (bB hx59)<|sV (rI (rW ((rW (o56.1 + x58)) + x59.1)))<|sV (.ptr 208 5) ?_
     refine sS 208 (.var [rS x18.aU, rS x18.aL, rS x18.aq, rS x18.aX, r0, rI (rW ((rW (o56.1 + x58)) + x59.1)), r0, rI x19.1, rI (rW (x20.1 - (1 : Int)))]) ?_
     exact sN<|sO<|⟨(o56.1, o56.2.1, x59.2.fL, x59.2.fAt, o56.2.2.2.1, o56.2.2.2.2.1, o56.2.2.2.2.2.1, o56.2.2.2.2.2.2, (rW ((rW (o56.1 + x58)) + x59.1))), rfl, h⟩
    exact sN<|cF<|qK<|⟨(s4, s5, x35.2.fL, x35.2.fAt, s8, s9, s10, s11, (rW ((1000 : Int) + x21.1))), rfl, h⟩
   rintro ⟨j22, j23, j24, j25, j26, j27, j28, j29, j30⟩ R' B' hI h
   refine WC.cI hI rfl<|sV (.ptr 208 5)<|sL rfl<|sM rfl<|bE h fun x31 hx31 h => cR (rI x31.1) [(0, .var [.d (.lst (x31.2.fL.map (PD.int .i64))), rI x31.2.fAt])] (bB hx31)<|sV (rI (rW (j30 + x31.1)))<|sV (.ptr 208 4)<|sS 208 (.var [rS x18.aU, rS x18.aL, rS x18.aq, rS x18.aX, rI (rW (j30 + x31.1)), rI j30, r0, rI x19.1, rI (rW (x20.1 - (1 : Int)))]) ?_
   refine sN<|sO<|WC.cI rfl rfl<|sV (.ptr 208 4)<|sL rfl<|sM rfl<|bE h fun x32 hx32 h => cR (rI x32.1) [(0, .var [.d (.lst (x32.2.fL.map (PD.int .i64))), rI x32.2.fAt])] (bB hx32)<|sV (rI (rW ((rW (j30 + x31.1)) + x32.1)))<|sV (.ptr 208 6)<|sS 208 (.var [rS x18.aU, rS x18.aL, rS x18.aq, rS x18.aX, rI (rW (j30 + x31.1)), rI j30, rI (rW ((rW (j30 + x31.1)) + x32.1)), rI x19.1, rI (rW (x20.1 - (1 : Int)))]) ?_
   refine sN<|sO<|WC.region rfl rfl<|sM rfl<|sV (.d (ap.pd (ap.mk x18 (rW (j30 + x31.1)) j30 (rW ((rW (j30 + x31.1)) + x32.1)) x19.1 (rW (x20.1 - (1 : Int))))))<|sG (.d (.lst ([(ap.mk x18 (rW (j30 + x31.1)) j30 (rW ((rW (j30 + x31.1)) + x32.1)) x19.1 (rW (x20.1 - (1 : Int))))].map ap.pd)))<|bE h fun x33 hx33 h => aR hx33 (fun _ => rfl) rfl<|sA rfl<|sN<|WC.region rfl rfl<|sM rfl<|sV (rI (rW (j23 - (1 : Int))))<|sA rfl<|sN ?_
   cases oI h
   exact ⟨rfl, rfl⟩
  refine sN<|cF<|qX ?_
  cases oI h
  exact ⟨nofun, rfl, rfl⟩
 intro e R' B' he hq
 obtain ⟨rfl, hI⟩ := hq
 refine qE<|gS rfl hI<|sM rfl<|sA rfl<|sN<|qR ?_
 exact oI h▸qD
theorem bz {a0 : aa} {r : aW} (h : bp a0 = some r) : EvP prog aH ext 65 [.d (aa.pd a0)] [] (.d (aW.pd r), []) := by
 refine Ev.body rfl Tryz.func65 rfl (by kernel_rfl)<|gS rfl rfl<|sB (.ptr 16 0) 16 (.var [rI a0.fX, rI a0.fY, rI a0.fZ])<|sB (.ptr 32 0) 32 (.var [r0, r0, r0])<|sN<|gS rfl rfl<|sV (.ptr 16 0)<|sL rfl<|sV (.ptr 16 1)<|sL rfl<|sV (.ptr 16 2)<|sL rfl<|sV (.d (aW.pd (aW.mk a0.fX a0.fY a0.fZ)))<|sS 32 (.var [rI a0.fX, rI a0.fY, rI a0.fZ])<|sN ?_
 refine qR ?_
 exact oI h▸qD
theorem co {a0 : aa} {r : Bool} (h : bX a0 = some r) : EvP prog aH ext 97 [.d (aa.pd a0)] [] (rB r, []) := by
 refine Ev.body rfl Tryz.func97 rfl (by kernel_rfl)<|gS rfl rfl<|sB (.ptr 16 0) 16 (.var [rI a0.fX, rI a0.fY, rI a0.fZ])<|sU<|sN<|gS rfl rfl<|sV (.d (aW.pd (aW.mk (-1048576) (-1048576) (-16384))))<|sB (.ptr 48 0) 48 (.var [r0, r0, r0])<|sS 48 (.var [rI (-1048576), rI (-1048576), rI (-16384)])<|sN<|qS<|gS rfl rfl<|sV (.d (aa.pd a0))<|bE h fun x1 hx1 h => cD (bz hx1) ?_
 refine sV (r0)<|sN<|WC.block (WC.loop ?_)
 refine WL.round<|gS rfl rfl<|sT<|sN<|qS<|cT<|qK<|qS<|qB<|gS rfl rfl<|sM rfl<|sV (rI x1.a0)<|sA rfl<|sA rfl<|sN ?_
 refine gS rfl rfl<|sM rfl<|sM rfl<|sV (.ptr 48 0)<|sL rfl<|sF h (fun h => ?_) fun h => ?_
 ·refine sM rfl<|sK<|sK<|sT<|sN<|cT<|gS rfl rfl<|sU<|sN<|qR ?_
  exact oI h▸qD
 refine sM rfl<|sM rfl<|sV (rB (decide (x1.a0 > (1048576 : Int))))<|sF h (fun h => ?_) fun h => ?_
 ·refine sN<|cT<|gS rfl rfl<|sU<|sN<|qR ?_
  exact oI h▸qD
 refine sN<|cF<|qK<|WC.region rfl rfl<|sV (rI 1)<|sM rfl<|sN<|WL.round<|gS rfl rfl<|sT<|sN<|qS<|cT<|qK<|qS ?_
 refine qB<|gS rfl rfl<|sM rfl<|sV (rI x1.a1)<|sA rfl<|sA rfl<|sN<|gS rfl rfl<|sM rfl<|sM rfl<|sV (.ptr 48 1)<|sL rfl<|sF h (fun h => ?_) fun h => ?_
 ·refine sM rfl<|sK<|sK<|sT<|sN<|cT<|gS rfl rfl<|sU<|sN<|qR ?_
  exact oI h▸qD
 refine sM rfl<|sM rfl<|sV (rB (decide (x1.a1 > (1048576 : Int))))<|sF h (fun h => ?_) fun h => ?_
 ·refine sN<|cT<|gS rfl rfl<|sU<|sN<|qR ?_
  exact oI h▸qD
 refine sN<|cF<|qK<|WC.region rfl rfl<|sV (rI 2)<|sM rfl<|sN<|WL.round<|gS rfl rfl<|sT<|sN<|qS<|cT<|qK<|qS ?_
 refine qB<|gS rfl rfl<|sM rfl<|sV (rI x1.a2)<|sA rfl<|sA rfl<|sN<|gS rfl rfl<|sM rfl<|sM rfl<|sV (.ptr 48 2)<|sL rfl<|sF h (fun h => ?_) fun h => ?_
 ·refine sM rfl<|sK<|sK<|sT<|sN<|cT<|gS rfl rfl<|sU<|sN<|qR ?_
  exact oI h▸qD
 refine sM rfl<|sM rfl<|sV (rB (decide (x1.a2 > (1048576 : Int))))<|sF h (fun h => ?_) fun h => ?_
 ·refine sN<|cT<|gS rfl rfl<|sU<|sN<|qR ?_
  exact oI h▸qD
 refine sN<|cF<|qK<|WC.region rfl rfl<|sV (rI 3)<|sM rfl<|sN<|WL.round<|gS rfl rfl<|sU<|sN<|qS<|cF<|qX<|qE ?_
 refine gS rfl rfl<|sT<|sN<|qR ?_
 exact oI h▸qD
theorem bv {a0 : aj} {r : Bool} (h : bu a0 = some r) : EvP prog aH ext 64 [.d (aj.pd a0)] [] (rB r, []) := by
 refine Ev.body rfl Tryz.func64 rfl (by kernel_rfl)<|gS rfl rfl<|sB (.ptr 16 0) 16 (.var (aj.rc a0))<|sU<|sN<|qS<|gS rfl rfl<|sV (.ptr 16 0)<|sV (.d (aa.pd a0.ak))<|bE h fun x1 hx1 h => cD (co hx1)<|sF h (fun h => ?_) fun h => ?_
 ·refine sM rfl<|k3<|sK<|sT<|sN<|cT<|gS rfl rfl<|sU<|sN<|qR ?_
  exact oI h▸qD
 refine sM rfl<|sV (.ptr 16 3)<|sV (.d (aa.pd a0.ae))<|bE h fun x3 hx3 h => cD (co hx3)<|sV (rB (!x3))<|sF h (fun h => ?_) fun h => ?_
 ·refine sN<|cT<|gS rfl rfl<|sU<|sN<|qR ?_
  exact oI h▸qD
 refine sN<|cF<|qK<|gS rfl rfl<|sV (.ptr 16 3)<|sV (.d (aa.pd a0.ae))<|bE h fun x5 hx5 h => cD (bz hx5)<|sB (.ptr 48 0) 48 (.var [r0, r0, r0])<|sS 48 (.var [rI x5.a0, rI x5.a1, rI x5.a2])<|sN<|qS<|gS rfl rfl<|sV (.ptr 16 0)<|sV (.d (aa.pd a0.ak)) ?_
 refine bE h fun x6 hx6 h => cD (bz hx6)<|sV (r0)<|sN<|WC.block (WC.loop ?_)
 refine WL.round<|gS rfl rfl<|sT<|sN<|qS<|cT<|qK<|qS<|qB<|gS rfl rfl<|sM rfl<|sV (rI x6.a0)<|sA rfl<|sA rfl<|sN ?_
 refine gS rfl rfl<|sM rfl<|sM rfl<|sV (.ptr 48 0)<|sL rfl<|sF h (fun h => ?_) fun h => ?_
 ·refine sN<|cT<|gS rfl rfl<|sU<|sN<|qR ?_
  exact oI h▸qD
 refine sN<|cF<|qK<|WC.region rfl rfl<|sV (rI 1)<|sM rfl<|sN<|WL.round<|gS rfl rfl<|sT<|sN<|qS<|cT<|qK<|qS ?_
 refine qB<|gS rfl rfl<|sM rfl<|sV (rI x6.a1)<|sA rfl<|sA rfl<|sN<|gS rfl rfl<|sM rfl<|sM rfl<|sV (.ptr 48 1)<|sL rfl<|sF h (fun h => ?_) fun h => ?_
 ·refine sN<|cT<|gS rfl rfl<|sU<|sN<|qR ?_
  exact oI h▸qD
 refine sN<|cF<|qK<|WC.region rfl rfl<|sV (rI 2)<|sM rfl<|sN<|WL.round<|gS rfl rfl<|sT<|sN<|qS<|cT<|qK<|qS ?_
 refine qB<|gS rfl rfl<|sM rfl<|sV (rI x6.a2)<|sA rfl<|sA rfl<|sN<|gS rfl rfl<|sM rfl<|sM rfl<|sV (.ptr 48 2)<|sL rfl<|sF h (fun h => ?_) fun h => ?_
 ·refine sN<|cT<|gS rfl rfl<|sU<|sN<|qR ?_
  exact oI h▸qD
 refine sN<|cF<|qK<|WC.region rfl rfl<|sV (rI 3)<|sM rfl<|sN<|WL.round<|gS rfl rfl<|sU<|sN<|qS<|cF<|qX<|qE ?_
 refine gS rfl rfl<|sT<|sN<|qR ?_
 exact oI h▸qD
theorem di {a0 : aK} {r : Int} (h : b8 a0 = some r) : EvP prog aH ext 77 [.d (aK.pd a0)] [] (rI r, []) := by
 refine Ev.body rfl Tryz.func77 rfl (by kernel_rfl)<|gS rfl rfl<|sB (.ptr 16 0) 16 (.var [rI a0.aT, .d (.lst (a0.ak.map (PD.int .i64))), .d (.lst (a0.ae.map (PD.int .i64)))])<|sV (r0)<|sN<|gS rfl rfl<|sV (.ptr 16 1)<|sL rfl<|sE (rI (a0.ak.length : Int)) (oD _ _)<|sA rfl<|sN<|qS<|gS rfl rfl<|sV (.ptr 16 0)<|sL rfl ?_
 refine sF h (fun h => ?_) fun h => ?_
 ·refine sM rfl<|k3<|sT<|sM rfl<|k3<|sK<|sK<|sT<|sM rfl<|sK<|sK ?_
  refine sT<|sM rfl<|sK<|sK<|sT<|sN<|cT<|gS rfl rfl<|sV (rI 21)<|sN<|qR ?_
  exact oI h▸qD
 refine sM rfl<|sV (.ptr 16 0)<|sL rfl<|sV (rB (decide (a0.aT > (1048576 : Int))))<|sF h (fun h => ?_) fun h => ?_
 ·refine sM rfl<|k3<|sK<|sK<|sT<|sM rfl<|sK<|sK<|sT<|sM rfl<|sK<|sK<|sT ?_
  refine sN<|cT<|gS rfl rfl<|sV (rI 21)<|sN<|qR ?_
  exact oI h▸qD
 refine sM rfl<|sM rfl<|sV (.ptr 16 2)<|sL rfl<|sE (rI (a0.ae.length : Int)) (oD _ _)<|sV (rB ((a0.ak.length : Int) != (a0.ae.length : Int)))<|sF h (fun h => ?_) fun h => ?_
 ·refine sM rfl<|sK<|sK<|sT<|sM rfl<|sK<|sK<|sT<|sN<|cT<|gS rfl rfl<|sV (rI 21)<|sN<|qR ?_
  exact oI h▸qD
 refine sM rfl<|sM rfl<|sV (rB (decide ((a0.ak.length : Int) < (2 : Int))))<|sF h (fun h => ?_) fun h => ?_
 ·refine sM rfl<|sK<|sK<|sT<|sN<|cT<|gS rfl rfl<|sV (rI 21)<|sN<|qR ?_
  exact oI h▸qD
 refine sM rfl<|sM rfl<|sV (rB (decide ((a0.ak.length : Int) > (256 : Int))))<|sF h (fun h => ?_) fun h => ?_
 ·refine sN<|cT<|gS rfl rfl<|sV (rI 21)<|sN<|qR ?_
  exact oI h▸qD
 refine sN<|cF<|qK<|gS rfl rfl<|sV (r0)<|sV (r0)<|sN<|qS<|gS rfl rfl<|sM rfl<|sV (r0)<|sN<|bE h fun o23 ho23 h => WC.block (WC.loop (WL.oL ho23 (fun s R' B' => jX prog 0 (A R' B') (aH.at_ 77 0 6) = some (A [(1, .ptr 16 0), (4, rI s.1), (5, rI s.2.1), (33, rI (a0.ak.length : Int)), (34, rI s.2.2)] [(16, .var [rI a0.aT, .d (.lst (a0.ak.map (PD.int .i64))), .d (.lst (a0.ae.map (PD.int .i64)))])])) (fun o e R' B' => match o with | .inl y => e = .exit 0 ∧ jX prog 0 (A R' B') (aH.at_ 77 0 12) = some (A [] []) | .inr r => e = .ret ∧ finish prog (aH.own 77) Tryz.f77 0 (A R' B') = some (rI r, [])) rfl ?_ ?_))
 ·rintro ⟨s6, s7, s8⟩ R' B' q9 hI h
  refine gS rfl hI<|sF h (fun h => ?_) fun h => ?_
  ·refine sN<|qS<|cT<|qK<|qS<|qB<|gS rfl rfl<|sM rfl<|sA rfl<|sN<|qS<|WC.cI rfl rfl<|sV (.ptr 16 1)<|sL rfl<|sM rfl ?_
   refine bE h fun x11 hx11 h => eG hx11 rfl<|sC rfl<|sM rfl<|sF h (fun h => ?_) fun h => ?_
   ·refine sM rfl<|k3<|k3<|sK<|sT<|sM rfl<|k3<|sK<|sK ?_
    refine k3<|k3<|sT<|sM rfl<|k3<|k3<|sT ?_
    refine sN<|sO<|cT<|gS rfl rfl<|sV (rI 21)<|sN<|qR ?_
    cases oI h
    exact ⟨nofun, rfl, rfl⟩
   refine sM rfl<|sV (.ptr 16 2)<|sL rfl<|sM rfl<|bE h fun x13 hx13 h => eG hx13 rfl<|sC rfl<|sM rfl<|sV (rB (decide (x13 < s7)))<|sF h (fun h => ?_) fun h => ?_
   ·refine sM rfl<|k3<|k3<|k3<|sK<|sK<|sT<|sM rfl<|sK ?_
    refine k3<|sK<|sK<|sT ?_
    refine sN<|sO<|cT<|gS rfl rfl<|sV (rI 21)<|sN<|qR ?_
    cases oI h
    exact ⟨nofun, rfl, rfl⟩
   refine sM rfl<|sV (.ptr 16 1)<|sL rfl<|sM rfl<|bE h fun x15 hx15 h => eG hx15 rfl<|sC rfl<|sV (.ptr 16 2)<|sL rfl<|sM rfl<|bE h fun x16 hx16 h => eG hx16 rfl<|sC rfl<|sV (rB (decide (x15 > x16)))<|sF h (fun h => ?_) fun h => ?_
   ·refine sM rfl<|k3<|k3<|sT ?_
    refine sN<|sO<|cT<|gS rfl rfl<|sV (rI 21)<|sN<|qR ?_
    cases oI h
    exact ⟨nofun, rfl, rfl⟩
   refine sM rfl<|sV (.ptr 16 2)<|sL rfl<|sM rfl<|bE h fun x18 hx18 h => eG hx18 rfl<|sC rfl<|sV (rB (decide (x18 > (1099511627776 : Int))))<|sF h (fun h => ?_) fun h => ?_
   ·refine sN<|sO<|cT<|gS rfl rfl<|sV (rI 21)<|sN<|qR ?_
    cases oI h
    exact ⟨nofun, rfl, rfl⟩
   refine sN<|sO<|cF<|qK<|WC.pC rfl rfl<|sV (.ptr 16 1)<|sL rfl<|sM rfl<|bE h fun x20 hx20 h => eG hx20 rfl<|sC rfl<|sV (.ptr 16 2)<|sL rfl<|sM rfl<|bE h fun x21 hx21 h => eG hx21 rfl ?_
   refine sC rfl<|sA rfl<|sA rfl ?_
   refine sN<|sO<|WC.region rfl rfl<|sV (rI (rW (s8 + (1 : Int))))<|sM rfl<|sN ?_
   cases oI h
   exact ⟨rfl, rfl⟩
  refine sN<|qS<|cF<|qX ?_
  cases oI h
  exact ⟨nofun, rfl, rfl⟩
 intro e R' B' he hq
 rcases o23 with y24 | r25
 ·obtain ⟨rfl, hI⟩ := hq
  refine qE<|gS rfl hI<|sV (r0)<|sN<|qR ?_
  exact oI h▸qD
 obtain ⟨rfl, hf⟩ := hq
 cases oI h
 exact hf
theorem fy {a0 : Int} {a1 : Int} {a2 : Int} {r : Bool} (h : ev a0 a1 a2 = some r) : EvP prog aH ext 78 [rI a0, rI a1, rI a2] [] (rB r, []) := by
 refine Ev.body rfl Tryz.func78 rfl (by kernel_rfl)<|gS rfl rfl<|sU<|sN<|gS rfl rfl<|sM rfl<|sM rfl<|sF h (fun h => ?_) fun h => ?_
 ·refine sM rfl<|sM rfl<|sM rfl<|sV (rB (decide (a0 ≤ a2)))<|sV (rB (decide (a0 ≤ a2)))<|sA rfl<|sN<|qR ?_
  exact oI h▸qD
 refine sM rfl<|k3<|sU<|sA rfl<|sN<|qR ?_
 exact oI h▸qD
theorem m9 {a0 : av} {r : Bool} (h : dX a0 = some r) : EvP prog aH ext 90 [.d (av.pd a0)] [] (rB r, []) := by
 refine Ev.body rfl Tryz.func90 rfl (by kernel_rfl)<|gS rfl rfl<|sB (.ptr 16 0) 16 (.var (av.rc a0))<|sU<|sN<|gS rfl rfl<|sV (.ptr 16 0)<|sV (.d (aa.pd a0.aL))<|bE h fun x1 hx1 h => pb h (fun hb2 h => ?_) (fun hb2 h => ?_)
 ·refine WO.pD (v := rB true) (u := []) rfl rfl (fun _ => rfl) rfl rfl rfl rfl rfl (co hx1) rfl rfl (congrArg (fun b => RV.d (.bool b)) hb2) rfl<|sM rfl<|sV (.ptr 16 3)<|sL rfl<|sV (rB (decide (a0.bw ≥ (0 : Int))))<|sF h (fun h => ?_) fun h => ?_
  ·refine sM rfl<|sV (.ptr 16 3)<|sL rfl<|sV (.ptr 16 4)<|sL rfl<|sV (rB (decide (a0.bw ≤ a0.bO)))<|sF h (fun h => ?_) fun h => ?_
   ·refine sM rfl<|sV (.ptr 16 4)<|sL rfl<|sV (rB (decide (a0.bO ≤ (18014398509481984 : Int))))<|sF h (fun h => ?_) fun h => ?_
    ·refine sM rfl<|sV (.ptr 16 5)<|sL rfl<|sV (rB (decide (a0.gi ≥ (1 : Int))))<|sF h (fun h => ?_) fun h => ?_
     ·refine sM rfl<|sV (.ptr 16 5)<|sL rfl<|sV (rB (decide (a0.gi ≤ (100 : Int))))<|sV (rB (decide (a0.gi ≤ (100 : Int))))<|sA rfl<|sN<|qR ?_
      exact oI h▸qD
     refine sM rfl<|k3<|sU<|sA rfl<|sN<|qR ?_
     exact oI h▸qD
    refine sM rfl<|k3<|sU<|sM rfl<|k3<|sU<|sA rfl<|sN<|qR ?_
    exact oI h▸qD
   refine sM rfl<|k3<|sU<|sM rfl<|k3<|sU<|sM rfl<|k3<|sU ?_
   refine sA rfl<|sN<|qR ?_
   exact oI h▸qD
  refine sM rfl<|k3<|sK<|sK<|sU<|sM rfl<|k3<|sU<|sM rfl<|sK<|sK ?_
  refine sK<|sU<|sM rfl<|k3<|sU<|sA rfl<|sN<|qR ?_
  exact oI h▸qD
 refine WO.pD (v := rB false) (u := []) rfl rfl (fun _ => rfl) rfl rfl rfl rfl rfl (co hx1) rfl rfl (congrArg (fun b => RV.d (.bool b)) hb2) rfl<|sM rfl<|k3<|sU<|sM rfl<|k3<|sK<|sK<|sU<|sM rfl<|sK ?_
 refine sK<|sK<|sU<|sM rfl<|k3<|sU<|sM rfl<|k3<|sU<|sA rfl<|sN ?_
 refine qR ?_
 exact oI h▸qD
theorem gy {a0 : Int} {a1 : Int} {a2 : Int} {r : Int} (h : cC a0 a1 a2 = some r) : EvP prog aH ext 73 [rI a0, rI a1, rI a2] [] (rI r, []) := by
 refine Ev.body rfl Tryz.func73 rfl (by kernel_rfl)<|gS rfl rfl<|sV (r0)<|sN<|gS rfl rfl<|sM rfl<|sM rfl<|sV (rI (rW (a1 - a0)))<|sM rfl<|sM rfl<|sV (rI (rW (a0 - a2)))<|sV (rI (if (0 : Int) > (if (rW (a0 - a2)) > (rW (a1 - a0)) then (rW (a0 - a2)) else (rW (a1 - a0))) then (0 : Int) else (if (rW (a0 - a2)) > (rW (a1 - a0)) then (rW (a0 - a2)) else (rW (a1 - a0)))))<|sA rfl<|sN<|qR ?_
 exact oI h▸qD
theorem kG {a0 : aj} {a1 : aa} {r : Int} (h : cP a0 a1 = some r) : EvP prog aH ext 72 [.d (aj.pd a0), .d (aa.pd a1), .d (.raw (.func (.func 73) #[] #[]))] [] (rI r, []) := by
 refine Ev.body rfl Tryz.func72 rfl (by kernel_rfl)<|gS rfl rfl<|sB (.ptr 48 0) 48 (.var (aj.rc a0))<|sB (.ptr 64 0) 64 (.var [rI a1.fX, rI a1.fY, rI a1.fZ])<|sV (r0)<|sN<|qS<|gS rfl rfl<|sV (.d (aj.pd a0))<|bE h fun x1 hx1 h => cD (bv hx1)<|sF h (fun h => ?_) fun h => ?_
 ·refine sM rfl<|k3<|sT<|sN<|cT<|gS rfl rfl<|sV (r0)<|sN<|qR ?_
  exact oI h▸qD
 refine sM rfl<|sV (.d (aa.pd a1))<|bE h fun x3 hx3 h => cD (co hx3)<|sV (rB (!x3))<|sF h (fun h => ?_) fun h => ?_
 ·refine sN<|cT<|gS rfl rfl<|sV (r0)<|sN<|qR ?_
  exact oI h▸qD
 refine sN<|cF<|qK<|WC.cI rfl rfl<|sV (.ptr 48 0)<|sV (.d (aa.pd a0.ak))<|bE h fun x5 hx5 h => cD (bz hx5)<|sV (.ptr 48 3)<|sV (.d (aa.pd a0.ae))<|bE h fun x6 hx6 h => cD (bz hx6)<|sB (.ptr 128 0) 128 (.var [r0, r0, r0])<|sB (.ptr 144 0) 144 (.var [r0, r0, r0])<|sV (r0) ?_
 refine sS 128 (.var [rI x5.a0, rI x5.a1, rI x5.a2])<|sS 144 (.var [rI x6.a0, rI x6.a1, rI x6.a2]) ?_
 refine sN<|sO<|qS<|gS rfl rfl<|sV (.d (aa.pd a1))<|bE h fun x7 hx7 h => cD (bz hx7)<|sV (r0)<|sN<|WC.block (WC.loop ?_)
 refine WL.round<|WC.oX (R0 := [(2, .d (.raw (.func (.func 73) #[] #[]))), (7, r0), (8, .ptr 128 0), (9, .ptr 144 0), (28, .d (aW.pd x7)), (29, r0)]) (B0 := [(128, .var [rI x5.a0, rI x5.a1, rI x5.a2]), (144, .var [rI x6.a0, rI x6.a1, rI x6.a2])]) rfl rfl<|sT<|sN<|qS<|cT<|qK<|qS<|qB<|gS rfl rfl<|sM rfl<|sV (rI x7.a0)<|sA rfl<|sA rfl<|sN ?_
 refine WC.cI rfl rfl<|sM rfl<|sM rfl<|sM rfl<|sV (.ptr 128 0)<|sL rfl<|sM rfl<|sV (.ptr 144 0)<|sL rfl<|bE h fun x8 hx8 h => cD (gy hx8)<|sA rfl ?_
 refine sN<|sO<|WC.region rfl rfl<|sM rfl<|sM rfl<|sM rfl<|sV (rI (rW (x8 * x8)))<|sV (rI (rW ((0 : Int) + (rW (x8 * x8)))))<|sA rfl<|sN<|WC.region rfl rfl<|sV (rI 1)<|sM rfl<|sN<|WL.round<|WC.oX (R0 := [(2, .d (.raw (.func (.func 73) #[] #[]))), (7, rI (rW ((0 : Int) + (rW (x8 * x8))))), (8, .ptr 128 0), (9, .ptr 144 0), (28, .d (aW.pd x7)), (29, rI 1)]) (B0 := [(128, .var [rI x5.a0, rI x5.a1, rI x5.a2]), (144, .var [rI x6.a0, rI x6.a1, rI x6.a2])]) rfl rfl ?_
 refine sT<|sN<|qS<|cT<|qK<|qS<|qB<|gS rfl rfl<|sM rfl<|sV (rI x7.a1)<|sA rfl<|sA rfl<|sN<|WC.cI rfl rfl<|sM rfl ?_
 refine sM rfl<|sM rfl<|sV (.ptr 128 1)<|sL rfl<|sM rfl<|sV (.ptr 144 1)<|sL rfl<|bE h fun x9 hx9 h => cD (gy hx9)<|sA rfl ?_
 refine sN<|sO<|WC.region rfl rfl<|sM rfl<|sM rfl<|sM rfl<|sV (rI (rW (x9 * x9)))<|sV (rI (rW ((rW ((0 : Int) + (rW (x8 * x8)))) + (rW (x9 * x9)))))<|sA rfl<|sN<|WC.region rfl rfl<|sV (rI 2)<|sM rfl<|sN<|WL.round<|WC.oX (R0 := [(2, .d (.raw (.func (.func 73) #[] #[]))), (7, rI (rW ((rW ((0 : Int) + (rW (x8 * x8)))) + (rW (x9 * x9))))), (8, .ptr 128 0), (9, .ptr 144 0), (28, .d (aW.pd x7)), (29, rI 2)]) (B0 := [(128, .var [rI x5.a0, rI x5.a1, rI x5.a2]), (144, .var [rI x6.a0, rI x6.a1, rI x6.a2])]) rfl rfl ?_
 refine sT<|sN<|qS<|cT<|qK<|qS<|qB<|gS rfl rfl<|sM rfl<|sV (rI x7.a2)<|sA rfl<|sA rfl<|sN<|WC.cI rfl rfl<|sM rfl ?_
 refine sM rfl<|sM rfl<|sV (.ptr 128 2)<|sL rfl<|sM rfl<|sV (.ptr 144 2)<|sL rfl<|bE h fun x10 hx10 h => cD (gy hx10)<|sA rfl ?_
 refine sN<|sO<|WC.region rfl rfl<|sM rfl<|sM rfl<|sM rfl<|sV (rI (rW (x10 * x10)))<|sV (rI (rW ((rW ((rW ((0 : Int) + (rW (x8 * x8)))) + (rW (x9 * x9)))) + (rW (x10 * x10)))))<|sA rfl<|sN<|WC.region rfl rfl<|sV (rI 3)<|sM rfl<|sN<|WL.round<|WC.oX (R0 := [(2, .d (.raw (.func (.func 73) #[] #[]))), (7, rI (rW ((rW ((rW ((0 : Int) + (rW (x8 * x8)))) + (rW (x9 * x9)))) + (rW (x10 * x10))))), (8, .ptr 128 0), (9, .ptr 144 0), (28, .d (aW.pd x7)), (29, rI 3)]) (B0 := [(128, .var [rI x5.a0, rI x5.a1, rI x5.a2]), (144, .var [rI x6.a0, rI x6.a1, rI x6.a2])]) rfl rfl ?_
 refine sU<|sN<|qS<|cF<|qX<|qE<|gS rfl rfl<|sM rfl<|sA rfl<|sN<|qR ?_
 exact oI h▸qD
theorem iP {a0 : aj} {a1 : aa} {r : Int} (h : dl a0 a1 = some r) : EvP prog aH ext 41 [.d (aj.pd a0), .d (aa.pd a1)] [] (rI r, []) := by
 refine Ev.body rfl Tryz.func41 rfl (by kernel_rfl)<|gS rfl rfl<|sB (.ptr 32 0) 32 (.var (aj.rc a0))<|sB (.ptr 48 0) 48 (.var [rI a1.fX, rI a1.fY, rI a1.fZ])<|sV (r0)<|sN<|gS rfl rfl<|sV (.d (aj.pd a0))<|sV (.d (aa.pd a1))<|bE h fun x1 hx1 h => cD (kG hx1)<|sA rfl<|sN<|qR ?_
 exact oI h▸qD
theorem f5 {a0 : Int} {a1 : Int} {a2 : Int} {r : Int} (h : cp a0 a1 a2 = some r) : EvP prog aH ext 74 [rI a0, rI a1, rI a2] [] (rI r, []) := by
 refine Ev.body rfl Tryz.func74 rfl (by kernel_rfl)<|gS rfl rfl<|sV (r0)<|sN<|gS rfl rfl<|sM rfl<|sM rfl<|sV (rI (rW (a2 - a0)))<|sM rfl<|sM rfl<|sV (rI (rW (a0 - a1)))<|sV (rI (if (rW (a0 - a1)) > (rW (a2 - a0)) then (rW (a0 - a1)) else (rW (a2 - a0))))<|sA rfl<|sN<|qR ?_
 exact oI h▸qD
theorem kk {a0 : aj} {a1 : aa} {r : Int} (h : cE a0 a1 = some r) : EvP prog aH ext 72 [.d (aj.pd a0), .d (aa.pd a1), .d (.raw (.func (.func 74) #[] #[]))] [] (rI r, []) := by
 refine Ev.body rfl Tryz.func72 rfl (by kernel_rfl)<|gS rfl rfl<|sB (.ptr 48 0) 48 (.var (aj.rc a0))<|sB (.ptr 64 0) 64 (.var [rI a1.fX, rI a1.fY, rI a1.fZ])<|sV (r0)<|sN<|qS<|gS rfl rfl<|sV (.d (aj.pd a0))<|bE h fun x1 hx1 h => cD (bv hx1)<|sF h (fun h => ?_) fun h => ?_
 ·refine sM rfl<|k3<|sT<|sN<|cT<|gS rfl rfl<|sV (r0)<|sN<|qR ?_
  exact oI h▸qD
 refine sM rfl<|sV (.d (aa.pd a1))<|bE h fun x3 hx3 h => cD (co hx3)<|sV (rB (!x3))<|sF h (fun h => ?_) fun h => ?_
 ·refine sN<|cT<|gS rfl rfl<|sV (r0)<|sN<|qR ?_
  exact oI h▸qD
 refine sN<|cF<|qK<|WC.cI rfl rfl<|sV (.ptr 48 0)<|sV (.d (aa.pd a0.ak))<|bE h fun x5 hx5 h => cD (bz hx5)<|sV (.ptr 48 3)<|sV (.d (aa.pd a0.ae))<|bE h fun x6 hx6 h => cD (bz hx6)<|sB (.ptr 128 0) 128 (.var [r0, r0, r0])<|sB (.ptr 144 0) 144 (.var [r0, r0, r0])<|sV (r0) ?_
 refine sS 128 (.var [rI x5.a0, rI x5.a1, rI x5.a2])<|sS 144 (.var [rI x6.a0, rI x6.a1, rI x6.a2]) ?_
 refine sN<|sO<|qS<|gS rfl rfl<|sV (.d (aa.pd a1))<|bE h fun x7 hx7 h => cD (bz hx7)<|sV (r0)<|sN<|WC.block (WC.loop ?_)
 refine WL.round<|WC.oX (R0 := [(2, .d (.raw (.func (.func 74) #[] #[]))), (7, r0), (8, .ptr 128 0), (9, .ptr 144 0), (28, .d (aW.pd x7)), (29, r0)]) (B0 := [(128, .var [rI x5.a0, rI x5.a1, rI x5.a2]), (144, .var [rI x6.a0, rI x6.a1, rI x6.a2])]) rfl rfl<|sT<|sN<|qS<|cT<|qK<|qS<|qB<|gS rfl rfl<|sM rfl<|sV (rI x7.a0)<|sA rfl<|sA rfl<|sN ?_
 refine WC.cI rfl rfl<|sM rfl<|sM rfl<|sM rfl<|sV (.ptr 128 0)<|sL rfl<|sM rfl<|sV (.ptr 144 0)<|sL rfl<|bE h fun x8 hx8 h => cD (f5 hx8)<|sA rfl ?_
 refine sN<|sO<|WC.region rfl rfl<|sM rfl<|sM rfl<|sM rfl<|sV (rI (rW (x8 * x8)))<|sV (rI (rW ((0 : Int) + (rW (x8 * x8)))))<|sA rfl<|sN<|WC.region rfl rfl<|sV (rI 1)<|sM rfl<|sN<|WL.round<|WC.oX (R0 := [(2, .d (.raw (.func (.func 74) #[] #[]))), (7, rI (rW ((0 : Int) + (rW (x8 * x8))))), (8, .ptr 128 0), (9, .ptr 144 0), (28, .d (aW.pd x7)), (29, rI 1)]) (B0 := [(128, .var [rI x5.a0, rI x5.a1, rI x5.a2]), (144, .var [rI x6.a0, rI x6.a1, rI x6.a2])]) rfl rfl ?_
 refine sT<|sN<|qS<|cT<|qK<|qS<|qB<|gS rfl rfl<|sM rfl<|sV (rI x7.a1)<|sA rfl<|sA rfl<|sN<|WC.cI rfl rfl<|sM rfl ?_
 refine sM rfl<|sM rfl<|sV (.ptr 128 1)<|sL rfl<|sM rfl<|sV (.ptr 144 1)<|sL rfl<|bE h fun x9 hx9 h => cD (f5 hx9)<|sA rfl ?_
 refine sN<|sO<|WC.region rfl rfl<|sM rfl<|sM rfl<|sM rfl<|sV (rI (rW (x9 * x9)))<|sV (rI (rW ((rW ((0 : Int) + (rW (x8 * x8)))) + (rW (x9 * x9)))))<|sA rfl<|sN<|WC.region rfl rfl<|sV (rI 2)<|sM rfl<|sN<|WL.round<|WC.oX (R0 := [(2, .d (.raw (.func (.func 74) #[] #[]))), (7, rI (rW ((rW ((0 : Int) + (rW (x8 * x8)))) + (rW (x9 * x9))))), (8, .ptr 128 0), (9, .ptr 144 0), (28, .d (aW.pd x7)), (29, rI 2)]) (B0 := [(128, .var [rI x5.a0, rI x5.a1, rI x5.a2]), (144, .var [rI x6.a0, rI x6.a1, rI x6.a2])]) rfl rfl ?_
 refine sT<|sN<|qS<|cT<|qK<|qS<|qB<|gS rfl rfl<|sM rfl<|sV (rI x7.a2)<|sA rfl<|sA rfl<|sN<|WC.cI rfl rfl<|sM rfl ?_
 refine sM rfl<|sM rfl<|sV (.ptr 128 2)<|sL rfl<|sM rfl<|sV (.ptr 144 2)<|sL rfl<|bE h fun x10 hx10 h => cD (f5 hx10)<|sA rfl ?_
 refine sN<|sO<|WC.region rfl rfl<|sM rfl<|sM rfl<|sM rfl<|sV (rI (rW (x10 * x10)))<|sV (rI (rW ((rW ((rW ((0 : Int) + (rW (x8 * x8)))) + (rW (x9 * x9)))) + (rW (x10 * x10)))))<|sA rfl<|sN<|WC.region rfl rfl<|sV (rI 3)<|sM rfl<|sN<|WL.round<|WC.oX (R0 := [(2, .d (.raw (.func (.func 74) #[] #[]))), (7, rI (rW ((rW ((rW ((0 : Int) + (rW (x8 * x8)))) + (rW (x9 * x9)))) + (rW (x10 * x10))))), (8, .ptr 128 0), (9, .ptr 144 0), (28, .d (aW.pd x7)), (29, rI 3)]) (B0 := [(128, .var [rI x5.a0, rI x5.a1, rI x5.a2]), (144, .var [rI x6.a0, rI x6.a1, rI x6.a2])]) rfl rfl ?_
 refine sU<|sN<|qS<|cF<|qX<|qE<|gS rfl rfl<|sM rfl<|sA rfl<|sN<|qR ?_
 exact oI h▸qD
theorem l5 {a0 : aj} {a1 : aa} {r : Int} (h : ey a0 a1 = some r) : EvP prog aH ext 42 [.d (aj.pd a0), .d (aa.pd a1)] [] (rI r, []) := by
 refine Ev.body rfl Tryz.func42 rfl (by kernel_rfl)<|gS rfl rfl<|sB (.ptr 32 0) 32 (.var (aj.rc a0))<|sB (.ptr 48 0) 48 (.var [rI a1.fX, rI a1.fY, rI a1.fZ])<|sV (r0)<|sN<|gS rfl rfl<|sV (.d (aj.pd a0))<|sV (.d (aa.pd a1))<|bE h fun x1 hx1 h => cD (kk hx1)<|sA rfl<|sN<|qR ?_
 exact oI h▸qD
theorem bound_squares_ev {a0 : aK} {a1 : aj} {a2 : aa} {r : aK × Int × Int} (h : gF a0 a1 a2 = some r) : EvP prog aH ext 124 [.d (aK.pd a0), .d (aj.pd a1), .d (aa.pd a2)] [] (.tup [.d (aK.pd r.1), rI r.2.1, rI r.2.2], []) := by
 refine Ev.body rfl Tryz.func124 rfl (by kernel_rfl)<|gS rfl rfl<|sB (.ptr 48 0) 48 (.var [rI a0.aT, .d (.lst (a0.ak.map (PD.int .i64))), .d (.lst (a0.ae.map (PD.int .i64)))])<|sB (.ptr 64 0) 64 (.var (aj.rc a1))<|sB (.ptr 80 0) 80 (.var [rI a2.fX, rI a2.fY, rI a2.fZ])<|sB (.ptr 96 0) 96 (.var [r0, .jY, .jY])<|sV (r0)<|sV (r0)<|sN<|WC.cI rfl rfl<|sV (.d (aK.pd a0))<|sV (.d (aj.pd a1))<|sV (.d (aa.pd a2))<|bE h fun x1 hx1 h => cD (iP hx1) ?_
 refine sV (.d (aj.pd a1))<|sV (.d (aa.pd a2))<|bE h fun x2 hx2 h => cD (l5 hx2)<|sS 96 (.var [rI a0.aT, .d (.lst (a0.ak.map (PD.int .i64))), .d (.lst (a0.ae.map (PD.int .i64)))])<|sA rfl<|sA rfl ?_
 refine sN<|sO<|qR ?_
 exact oI h▸qD
theorem bits_Len64_ev {a0 : Int} {r : Int} (h : iM a0 = some r) : EvP prog aH ext 121 [.d (.int .u64 a0)] [] (rI r, []) := by
 refine Ev.body rfl Tryz.func121 rfl (by kernel_rfl)<|gS rfl rfl<|sV (r0)<|sN<|WC.join (α := Int × Int) (fun x R' B' => jX prog 0 (A R' B') (aH.at_ 121 0 4) = some (A [(0, .d (.int .u64 x.1)), (2, rI x.2)] [])) (fun x => dq x.1 x.2 = some r) ?_ ?_
 ·refine gS rfl rfl<|sM rfl<|sF h (fun h => ?_) fun h => ?_
  ·exact sN<|cT<|gS rfl rfl<|sM rfl<|sV (.d (.int .u64 (oS .u64 a0 (32 : Int))))<|sA rfl<|sN<|WC.region rfl rfl<|sV (rI 32)<|sN<|⟨((oS .u64 a0 (32 : Int)), 32), rfl, h⟩
  exact sN<|cF<|qK<|⟨(a0, 0), rfl, h⟩
 rintro ⟨j1, j2⟩ R' B' hI h
 refine WC.join (α := Int × Int) (fun x R' B' => jX prog 0 (A R' B') (aH.at_ 121 0 7) = some (A [(0, .d (.int .u64 x.1)), (2, rI x.2)] [])) (fun x => dU x.1 x.2 = some r) ?_ ?_
 ·refine gS rfl hI<|sM rfl<|sF h (fun h => ?_) fun h => ?_
  ·exact sN<|cT<|gS rfl rfl<|sM rfl<|sV (.d (.int .u64 (oS .u64 j1 (16 : Int))))<|sA rfl<|sN<|WC.region rfl rfl<|sM rfl<|sV (rI (rW (j2 + (16 : Int))))<|sA rfl<|sN<|⟨((oS .u64 j1 (16 : Int)), (rW (j2 + (16 : Int)))), rfl, h⟩
  exact sN<|cF<|qK<|⟨(j1, j2), rfl, h⟩
 rintro ⟨j3, j4⟩ R' B' hI h
 refine qS<|gS rfl hI<|sM rfl<|sF h (fun h => ?_) fun h => ?_
 ·refine sN<|cT<|gS rfl rfl<|sM rfl<|sV (.d (.int .u64 (oS .u64 j3 (8 : Int))))<|sA rfl<|sN<|WC.region rfl rfl<|sM rfl<|sV (rI (rW (j4 + (8 : Int))))<|sA rfl<|sN<|gS rfl rfl<|sM rfl<|sM rfl ?_
  refine sV (.d (.int .u8 (IntKind.wrap .u8 (oS .u64 j3 (8 : Int)))))<|bE h fun x6 hx6 h => WO.byteG hx6 rfl rfl rfl rfl rfl rfl<|sV (rI (IntKind.wrap .i64 x6))<|sV (rI (rW ((rW (j4 + (8 : Int))) + (IntKind.wrap .i64 x6))))<|sA rfl<|sN<|qR ?_
  exact oI h▸qD
 refine sN<|cF<|qK<|gS rfl rfl<|sM rfl<|sM rfl<|sV (.d (.int .u8 (IntKind.wrap .u8 j3)))<|bE h fun x7 hx7 h => WO.byteG hx7 rfl rfl rfl rfl rfl rfl<|sV (rI (IntKind.wrap .i64 x7))<|sV (rI (rW (j4 + (IntKind.wrap .i64 x7))))<|sA rfl<|sN<|qR ?_
 exact oI h▸qD
theorem mj {a0 : Int} {r : Int} (h : fA a0 = some r) : EvP prog aH ext 85 [.d (.int .u64 a0)] [] (rI r, []) := by
 refine Ev.body rfl Tryz.func85 rfl (by kernel_rfl)<|gS rfl rfl<|sV (r0)<|sN<|qS<|cF<|qK<|gS rfl rfl<|sM rfl<|bE h fun x1 hx1 h => cD (bits_Len64_ev hx1)<|sA rfl<|sN<|qR ?_
 exact oI h▸qD
theorem kO {a0 : Int} {r : Int} (h : d6 a0 = some r) : EvP prog aH ext 105 [rI a0] [] (rI r, []) := by
 refine Ev.body rfl Tryz.func105 rfl (by kernel_rfl)<|gS rfl rfl<|sV (r0)<|sN<|qS<|gS rfl rfl<|sM rfl<|sF h (fun h => ?_) fun h => ?_
 ·refine sN<|cT<|gS rfl rfl<|sV (r0)<|sN<|qR ?_
  exact oI h▸qD
 refine sN<|cF<|qK<|gS rfl rfl<|sV (r0)<|sN<|qS<|gS rfl rfl<|sM rfl<|sV (.d (.int .u64 (IntKind.wrap .u64 a0)))<|bE h fun x2 hx2 h => cD (mj hx2)<|sV (rI (rW (x2 - (1 : Int))))<|bE h fun x3 hx3 h => WO.sP hx3 rfl rfl rfl rfl rfl rfl ?_
 refine bE h fun x4 hx4 h => WO.shlG hx4 rfl rfl rfl rfl rfl<|sA rfl<|sN<|bE h fun o13 ho13 h => WC.block (WC.loop (WL.oL ho13 (fun s R' B' => jX prog 0 (A R' B') (aH.at_ 105 0 5) = some (A [(0, rI a0), (3, rI s.1), (4, rI s.2)] [])) (fun o e R' B' => e = .exit 0 ∧ jX prog 0 (A R' B') (aH.at_ 105 0 10) = some (A [(3, rI o)] [])) rfl ?_ ?_))
 ·rintro ⟨s5, s6⟩ R' B' q8 hI h
  refine qS<|gS rfl hI<|sM rfl<|sF h (fun h => ?_) fun h => ?_
  ·refine sN<|cT<|qK<|qS<|qB<|gS rfl rfl<|sM rfl<|sM rfl<|sV (rI (orI .i64 s5 s6))<|sA rfl<|sN<|gS rfl rfl<|sM rfl<|sM rfl<|sM rfl ?_
   refine bE h fun x10 hx10 h => WO.sP hx10 rfl rfl rfl rfl rfl rfl<|sF h (fun h => ?_) fun h => ?_
   ·refine sN<|cT<|WC.region rfl rfl<|sM rfl<|sA rfl<|sN<|WC.region rfl rfl<|sM rfl<|sV (rI (oS .i64 s6 (1 : Int)))<|sA rfl<|sN ?_
    cases oI h
    exact ⟨rfl, rfl⟩
   refine sN<|cF<|qK<|WC.region rfl rfl<|sM rfl<|sV (rI (oS .i64 s6 (1 : Int)))<|sA rfl<|sN ?_
   cases oI h
   exact ⟨rfl, rfl⟩
  refine sN<|cF<|qX ?_
  cases oI h
  exact ⟨nofun, rfl, rfl⟩
 intro e R' B' he hq
 obtain ⟨rfl, hI⟩ := hq
 refine qE<|gS rfl hI<|sM rfl<|sA rfl<|sN<|qR ?_
 exact oI h▸qD
theorem geometry_Ceil_ev {a0 : Int} {r : Int} (h : fH a0 = some r) : EvP prog aH ext 101 [rI a0] [] (rI r, []) := by
 refine Ev.body rfl Tryz.func101 rfl (by kernel_rfl)<|gS rfl rfl<|sV (r0)<|sN<|gS rfl rfl<|sM rfl<|bE h fun x1 hx1 h => cD (kO hx1)<|sA rfl<|sN<|qS<|gS rfl rfl<|sM rfl<|sM rfl<|sV (rI (rW (x1 * x1))) ?_
 refine sM rfl<|sF h (fun h => ?_) fun h => ?_
 ·refine sN<|cT<|WC.region rfl rfl<|sM rfl<|sV (rI (rW (x1 + (1 : Int))))<|sA rfl<|sN<|gS rfl rfl<|sM rfl<|sA rfl<|sN<|qR ?_
  exact oI h▸qD
 refine sN<|cF<|qK<|gS rfl rfl<|sM rfl<|sA rfl<|sN<|qR ?_
 exact oI h▸qD
theorem travel_reach_ev {a0 : aK} {r : Int} (h : iI a0 = some r) : EvP prog aH ext 102 [.d (aK.pd a0)] [] (rI r, []) := by
 refine Ev.body rfl Tryz.func102 rfl (by kernel_rfl)<|gS rfl rfl<|sB (.ptr 16 0) 16 (.var [rI a0.aT, .d (.lst (a0.ak.map (PD.int .i64))), .d (.lst (a0.ae.map (PD.int .i64)))])<|sV (r0)<|sN<|gS rfl rfl<|sV (.ptr 16 0)<|sL rfl<|sV (.ptr 16 1)<|sL rfl<|sE (rI (a0.ak.length : Int)) (oD _ _)<|sV (rI (rW ((a0.ak.length : Int) - (1 : Int))))<|sV (rI (rW (a0.aT * (rW ((a0.ak.length : Int) - (1 : Int))))))<|sA rfl<|sN ?_
 refine qR ?_
 exact oI h▸qD
theorem lX {a0 : Int} {d0 : aK} {d1 : Int} {r : Bool} (h : dR a0 d0 d1 = some r) : EvP prog aH ext 104 [rI a0, .ptr 0 0, .ptr 1 0] [.var [rI d0.aT, .d (.lst (d0.ak.map (PD.int .i64))), .d (.lst (d0.ae.map (PD.int .i64)))], .var [rI d1]] (rB r, [.var [rI d0.aT, .d (.lst (d0.ak.map (PD.int .i64))), .d (.lst (d0.ae.map (PD.int .i64)))], .var [rI d1]]) := by
 refine Ev.body rfl Tryz.func104 rfl (by kernel_rfl)<|gS rfl rfl<|sU<|sN<|gS rfl rfl<|sM rfl<|sV (.ptr 0 0)<|sL rfl<|sV (rI (rW (a0 * d0.aT)))<|sL rfl<|sV (rB (decide ((rW (a0 * d0.aT)) ≥ d1)))<|sA rfl<|sN<|qR ?_
 exact oI h▸qD
theorem nr {a0 : Int} {d0 : aK} {d1 : Int} {r : Int} (h : d5 a0 d0 d1 = some r) : EvP prog aH ext 103 [rI a0, .clo 104 [.ptr 0 0, .ptr 1 0]] [.var [rI d0.aT, .d (.lst (d0.ak.map (PD.int .i64))), .d (.lst (d0.ae.map (PD.int .i64)))], .var [rI d1]] (rI r, [.var [rI d0.aT, .d (.lst (d0.ak.map (PD.int .i64))), .d (.lst (d0.ae.map (PD.int .i64)))], .var [rI d1]]) := by
 refine Ev.body rfl Tryz.func103 rfl (by kernel_rfl)<|gS rfl rfl<|sV (r0)<|sN<|gS rfl rfl<|sM rfl<|sV (r0)<|sA rfl<|sN<|qS<|bE h fun o9 ho9 h => WC.block (WC.loop (WL.oL ho9 (fun s R' B' => jX prog 2 (A R' B') (aH.at_ 103 2 2) = some (A [(1, .clo 104 [.ptr 0 0, .ptr 1 0]), (5, rI s.1), (6, rI s.2)] [(0, .var [rI d0.aT, .d (.lst (d0.ak.map (PD.int .i64))), .d (.lst (d0.ae.map (PD.int .i64)))]), (1, .var [rI d1])])) (fun o e R' B' => e = .exit 0 ∧ jX prog 2 (A R' B') (aH.at_ 103 2 7) = some (A [(5, rI o)] [(0, .var [rI d0.aT, .d (.lst (d0.ak.map (PD.int .i64))), .d (.lst (d0.ae.map (PD.int .i64)))]), (1, .var [rI d1])])) rfl ?_ ?_))
 ·rintro ⟨s1, s2⟩ R' B' q4 hI h
  refine qS<|gS rfl hI<|sM rfl<|sM rfl<|sF h (fun h => ?_) fun h => ?_
  ·refine sN<|cT<|qK<|qB<|gS rfl rfl<|sM rfl<|sM rfl<|sV (rI (rW (s1 + s2)))<|sV (.d (.int .u64 (IntKind.wrap .u64 (rW (s1 + s2)))))<|sV (.d (.int .u64 (oS .u64 (IntKind.wrap .u64 (rW (s1 + s2))) (1 : Int))))<|sV (rI (rW (oS .u64 (IntKind.wrap .u64 (rW (s1 + s2))) (1 : Int))))<|sA rfl<|sN<|gS rfl rfl<|sM rfl ?_
   refine sM rfl<|bE h fun x6 hx6 h => cR (rB x6) [(0, .var [rI d0.aT, .d (.lst (d0.ak.map (PD.int .i64))), .d (.lst (d0.ae.map (PD.int .i64)))]), (1, .var [rI d1])] (lX hx6)<|sF h (fun h => ?_) fun h => ?_
   ·refine sN<|cT<|WC.region rfl rfl<|sM rfl<|sV (rI (rW ((rW (oS .u64 (IntKind.wrap .u64 (rW (s1 + s2))) (1 : Int))) + (1 : Int))))<|sA rfl<|sN ?_
    cases oI h
    exact ⟨rfl, rfl⟩
   refine sN<|cF<|WC.region rfl rfl<|sM rfl<|sA rfl<|sN ?_
   cases oI h
   exact ⟨rfl, rfl⟩
  refine sN<|cF<|qX ?_
  cases oI h
  exact ⟨nofun, rfl, rfl⟩
 intro e R' B' he hq
 obtain ⟨rfl, hI⟩ := hq
 refine qE<|gS rfl hI<|sM rfl<|sA rfl<|sN<|qR ?_
 exact oI h▸qD
theorem kZ {a0 : aK} {a1 : Int} {a2 : Int} {r : Int × Int × Int} (h : ec a0 a1 a2 = some r) : EvP prog aH ext 68 [.d (aK.pd a0), rI a1, rI a2] [] (.tup [rI r.1, rI r.2.1, rI r.2.2], []) := by
 refine Ev.body rfl Tryz.func68 rfl (by kernel_rfl)<|gS rfl rfl<|sB (.ptr 48 0) 48 (.var [rI a0.aT, .d (.lst (a0.ak.map (PD.int .i64))), .d (.lst (a0.ae.map (PD.int .i64)))])<|sV (r0)<|sV (r0)<|sV (r0)<|sN<|qS<|gS rfl rfl<|sV (.d (aK.pd a0))<|bE h fun x1 hx1 h => cD (di hx1)<|sF h (fun h => ?_) fun h => ?_
 ·refine sN<|cT<|gS rfl rfl<|sV (r0)<|sV (r0)<|sV (rI 21)<|sN<|qR ?_
  exact oI h▸qD
 refine sN<|cF<|qK<|qS<|gS rfl rfl<|sM rfl<|sF h (fun h => ?_) fun h => ?_
 ·refine sM rfl<|k3<|sT<|sN<|cT<|gS rfl rfl<|sV (r0)<|sV (r0)<|sV (rI 2)<|sN<|qR ?_
  exact oI h▸qD
 refine sM rfl<|sM rfl<|sM rfl<|sV (rB (decide (a1 > a2)))<|sF h (fun h => ?_) fun h => ?_
 ·refine sN<|cT<|gS rfl rfl<|sV (r0)<|sV (r0)<|sV (rI 2)<|sN<|qR ?_
  exact oI h▸qD
 refine sN<|cF<|qK<|gS rfl rfl<|sM rfl<|bE h fun x5 hx5 h => cD (geometry_Ceil_ev hx5)<|sB (.ptr 144 0) 144 (.var [r0])<|sS 144 (.var [rI x5])<|sN<|qS<|WC.cI rfl rfl<|sL rfl<|sV (.d (aK.pd a0))<|bE h fun x6 hx6 h => ?_
 refine cD (travel_reach_ev hx6)<|sF h (fun h => ?_) fun h => ?_
 ·refine sN<|sO<|cT<|gS rfl rfl<|sV (r0)<|sV (r0)<|sV (rI 22)<|sN<|qR ?_
  exact oI h▸qD
 refine sN<|sO<|cF<|qK<|gS rfl rfl<|sV (.ptr 48 2)<|sL rfl<|sE (rI (a0.ae.length : Int)) (oD _ _)<|sV (.clo 104 [.ptr 48 0, .ptr 144 0])<|bE h fun x8 hx8 h => cR (rI x8) [(48, .var [rI a0.aT, .d (.lst (a0.ak.map (PD.int .i64))), .d (.lst (a0.ae.map (PD.int .i64)))]), (144, .var [rI x5])] (nr hx8)<|sA rfl<|sN<|WC.cI rfl rfl<|sV (.ptr 48 1)<|sL rfl ?_
 refine sM rfl<|bE h fun x9 hx9 h => cD (kO hx9)<|sV (.ptr 48 0)<|sL rfl<|bE h fun x10 hx10 h => WO.sP hx10 rfl rfl rfl rfl rfl rfl<|bE h fun x11 hx11 h => eG hx11 rfl<|sC rfl<|sV (.ptr 48 2)<|sL rfl<|sM rfl<|bE h fun x12 hx12 h => eG hx12 rfl ?_
 refine sC rfl<|sA rfl<|sA rfl<|sV (r0) ?_
 refine sN<|sO<|qR ?_
 exact oI h▸qD
theorem oa {a0 : aK} {a1 : aj} {a2 : aa} {r : Int × Int × Int} (h : fV a0 a1 a2 = some r) : EvP prog aH ext 91 [.d (aK.pd a0), .d (aj.pd a1), .d (aa.pd a2)] [] (.tup [rI r.1, rI r.2.1, rI r.2.2], []) := by
 refine Ev.body rfl Tryz.func91 rfl (by kernel_rfl)<|gS rfl rfl<|sB (.ptr 48 0) 48 (.var [rI a0.aT, .d (.lst (a0.ak.map (PD.int .i64))), .d (.lst (a0.ae.map (PD.int .i64)))])<|sB (.ptr 64 0) 64 (.var (aj.rc a1))<|sB (.ptr 80 0) 80 (.var [rI a2.fX, rI a2.fY, rI a2.fZ])<|sV (r0)<|sV (r0)<|sV (r0)<|sN<|qS<|gS rfl rfl<|sV (.d (aK.pd a0))<|bE h fun x1 hx1 h => cD (di hx1)<|sA rfl ?_
 refine sN<|gS rfl rfl<|sM rfl<|sF h (fun h => ?_) fun h => ?_
 ·refine sN<|cT<|gS rfl rfl<|sM rfl<|sV (r0)<|sV (r0)<|sA rfl<|sN<|qR ?_
  exact oI h▸qD
 refine sN<|cF<|qK<|qS<|gS rfl rfl<|sV (.d (aj.pd a1))<|bE h fun x3 hx3 h => cD (bv hx3)<|sF h (fun h => ?_) fun h => ?_
 ·refine sM rfl<|k3<|sT<|sN<|cT<|gS rfl rfl<|sV (r0)<|sV (r0)<|sV (rI 20)<|sN<|qR ?_
  exact oI h▸qD
 refine sM rfl<|sV (.d (aa.pd a2))<|bE h fun x5 hx5 h => cD (co hx5)<|sV (rB (!x5))<|sF h (fun h => ?_) fun h => ?_
 ·refine sN<|cT<|gS rfl rfl<|sV (r0)<|sV (r0)<|sV (rI 20)<|sN<|qR ?_
  exact oI h▸qD
 refine sN<|cF<|qK<|gS rfl rfl<|sV (.d (aK.pd a0))<|sV (.d (aj.pd a1))<|sV (.d (aa.pd a2))<|bE h fun x7 hx7 h => cR (.tup [.d (aK.pd x7.1), rI x7.2.1, rI x7.2.2]) [] (bound_squares_ev hx7)<|sV (.d (aK.pd x7.1))<|sV (rI x7.2.1)<|sV (rI x7.2.2)<|bE h fun x8 hx8 h => cR (.tup [rI x8.1, rI x8.2.1, rI x8.2.2]) [] (kZ hx8)<|sV (rI x8.1) ?_
 refine sV (rI x8.2.1)<|sV (rI x8.2.2)<|sA rfl<|sA rfl<|sA rfl<|sN<|qR ?_
 exact oI h▸qD
theorem jg {a0 : aK} {a1 : aj} {a2 : av} {r : aM × Int} (h : eN a0 a1 a2 = some r) : EvP prog aH ext 59 [.d (aK.pd a0), .d (aj.pd a1), .d (av.pd a2)] [] (.tup [.d (aM.pd r.1), rI r.2], []) := by
 refine Ev.body rfl Tryz.func59 rfl (by kernel_rfl)<|gS rfl rfl<|sB (.ptr 48 0) 48 (.var [rI a0.aT, .d (.lst (a0.ak.map (PD.int .i64))), .d (.lst (a0.ae.map (PD.int .i64)))])<|sB (.ptr 64 0) 64 (.var (aj.rc a1))<|sB (.ptr 80 0) 80 (.var (av.rc a2))<|sB (.ptr 96 0) 96 (.var [r0, r0])<|sV (r0)<|sN<|qS<|gS rfl rfl<|sV (.d (aK.pd a0))<|bE h fun x1 hx1 h => cD (di hx1)<|sA rfl<|sN ?_
 refine gS rfl rfl<|sM rfl<|sF h (fun h => ?_) fun h => ?_
 ·refine sN<|cT<|gS rfl rfl<|sV (.d (aM.pd (aM.mk 0 0)))<|sM rfl<|sS 96 (.var [r0, r0])<|sA rfl<|sN<|qR ?_
  exact oI h▸qD
 refine sN<|cF<|qK<|qS<|gS rfl rfl<|sV (.d (aj.pd a1))<|bE h fun x3 hx3 h => cD (bv hx3)<|sF h (fun h => ?_) fun h => ?_
 ·refine sN<|cT<|gS rfl rfl<|sV (.d (aM.pd (aM.mk 0 0)))<|sS 96 (.var [r0, r0])<|sV (rI 20)<|sN<|qR ?_
  exact oI h▸qD
 refine sN<|cF<|qK<|qS<|gS rfl rfl<|sV (.d (av.pd a2))<|bE h fun x5 hx5 h => cD (m9 hx5)<|sF h (fun h => ?_) fun h => ?_
 ·refine sN<|cT<|gS rfl rfl<|sV (.d (aM.pd (aM.mk 0 0)))<|sS 96 (.var [r0, r0])<|sV (rI 23)<|sN<|qR ?_
  exact oI h▸qD
 refine sN<|cF<|qK<|gS rfl rfl<|sV (.d (aK.pd a0))<|sV (.d (aj.pd a1))<|sV (.ptr 80 0)<|sV (.d (aa.pd a2.aL))<|bE h fun x7 hx7 h => cR (.tup [rI x7.1, rI x7.2.1, rI x7.2.2]) [] (oa hx7)<|sM rfl<|sV (rI x7.1)<|sV (rI x7.2.1)<|sV (rI x7.2.2)<|sA rfl ?_
 refine sA rfl<|sA rfl<|sN<|qS<|gS rfl rfl<|sM rfl<|sF h (fun h => ?_) fun h => ?_
 ·refine sN<|cT<|gS rfl rfl<|sV (.d (aM.pd (aM.mk 0 0)))<|sM rfl<|sS 96 (.var [r0, r0])<|sA rfl<|sN<|qR ?_
  exact oI h▸qD
 refine sN<|cF<|qK<|gS rfl rfl<|sV (.ptr 80 3)<|sL rfl<|sM rfl<|sV (rI (rW (a2.bw - x7.2.1)))<|sV (.ptr 80 4)<|sL rfl<|sM rfl<|sV (rI (rW (a2.bO - x7.1)))<|sV (.d (aM.pd (aM.mk (rW (a2.bw - x7.2.1)) (rW (a2.bO - x7.1)))))<|sS 96 (.var [rI (rW (a2.bw - x7.2.1)), rI (rW (a2.bO - x7.1))])<|sV (r0) ?_
 refine sN<|qR ?_
 exact oI h▸qD
theorem mc {a0 : bd} {a1 : (List av)} {r : Int} (h : ff a0 a1 = some r) : EvP prog aH ext 48 [.d (bd.pd a0), .d (.lst (a1.map av.pd))] [] (rI r, []) := by
 refine Ev.body rfl Tryz.func48 rfl (by kernel_rfl)<|gS rfl rfl<|sB (.ptr 32 0) 32 (.var (bd.rc a0))<|sV (r0)<|sN<|qS<|gS rfl rfl<|sV (.ptr 32 0)<|sV (.d (aj.pd a0.ac))<|bE h fun x1 hx1 h => cD (bv hx1)<|sF h (fun h => ?_) fun h => ?_
 ·refine sM rfl<|k3<|sK<|sT<|sM rfl<|k3<|sK<|sT<|sM rfl<|sK<|sK ?_
  refine sK<|sK<|sT<|sM rfl<|k3<|sK<|sT<|sM rfl<|k3<|sK<|sT ?_
  refine sM rfl<|k3<|sK<|sT<|sN<|cT<|gS rfl rfl<|sV (rI 27)<|sN<|qR ?_
  cases oI h
  exact qG
 refine sM rfl<|sV (.ptr 32 6)<|sV (.d (aK.pd a0.az))<|bE h fun x3 hx3 h => cD (di hx3)<|sV (rB (x3 != (0 : Int)))<|sF h (fun h => ?_) fun h => ?_
 ·refine sM rfl<|k3<|sK<|sT<|sM rfl<|k3<|sK<|sT<|sM rfl<|sK<|sK ?_
  refine sK<|sK<|sT<|sM rfl<|k3<|sK<|sT<|sM rfl<|k3<|sK<|sT ?_
  refine sN<|cT<|gS rfl rfl<|sV (rI 27)<|sN<|qR ?_
  cases oI h
  exact qG
 refine sM rfl<|sV (.ptr 32 9)<|sL rfl<|bE h fun x5 hx5 h => cD (fy hx5)<|sV (rB (!x5))<|sF h (fun h => ?_) fun h => ?_
 ·refine sM rfl<|k3<|sK<|sT<|sM rfl<|k3<|sK<|sT<|sM rfl<|sK<|sK ?_
  refine sK<|sK<|sT<|sM rfl<|k3<|sK<|sT<|sN<|cT<|gS rfl rfl<|sV (rI 27)<|sN<|qR ?_
  cases oI h
  exact qG
 refine sM rfl<|sV (.ptr 32 10)<|sL rfl<|bE h fun x7 hx7 h => cD (fy hx7)<|sV (rB (!x7))<|sF h (fun h => ?_) fun h => ?_
 ·refine sM rfl<|k3<|sK<|sT<|sM rfl<|k3<|sK<|sT<|sM rfl<|sK<|sK ?_
  refine sK<|sK<|sT<|sN<|cT<|gS rfl rfl<|sV (rI 27)<|sN<|qR ?_
  cases oI h
  exact qG
 refine sM rfl<|sV (.ptr 32 12)<|sL rfl<|bE h fun x9 hx9 h => cD (fy hx9)<|sV (rB (!x9))<|sF h (fun h => ?_) fun h => ?_
 ·refine sM rfl<|k3<|sK<|sT<|sM rfl<|k3<|sK<|sT<|sN<|cT<|gS rfl rfl ?_
  refine sV (rI 27)<|sN<|qR ?_
  cases oI h
  exact qG
 refine sM rfl<|sV (.ptr 32 11)<|sL rfl<|bE h fun x11 hx11 h => cD (fy hx11)<|sV (rB (!x11))<|sF h (fun h => ?_) fun h => ?_
 ·refine sM rfl<|k3<|sK<|sT<|sN<|cT<|gS rfl rfl<|sV (rI 27)<|sN<|qR ?_
  cases oI h
  exact qG
 refine sM rfl<|sV (.ptr 32 13)<|sL rfl<|bE h fun x13 hx13 h => cD (fy hx13)<|sV (rB (!x13))<|sF h (fun h => ?_) fun h => ?_
 ·refine sN<|cT<|gS rfl rfl<|sV (rI 27)<|sN<|qR ?_
  cases oI h
  exact qG
 refine sN<|cF<|qK<|qS<|gS rfl rfl<|sM rfl<|sE (rI (a1.length : Int)) (oD _ _)<|sF h (fun h => ?_) fun h => ?_
 ·refine sN<|cT<|gS rfl rfl<|sV (rI 8)<|sN<|qR ?_
  cases oI h
  exact qG
 refine sN<|cF<|qK<|qS<|gS rfl rfl<|sM rfl<|sE (rI (a1.length : Int)) (oD _ _)<|sV (r0)<|sN<|bE h fun o23 ho23 h => WC.block (WC.loop (WL.oL ho23 (fun s R' B' => jX prog 0 (A R' B') (aH.at_ 48 0 6) = some (A [(2, .ptr 32 0), (52, .d (.lst (a1.map av.pd))), (53, rI (a1.length : Int)), (54, rI s)] [(32, .var (bd.rc a0))])) (fun o e R' B' => match o with | .inl y => e = .exit 0 ∧ jX prog 0 (A R' B') (aH.at_ 48 0 12) = some (A [] []) | .inr r => e = .ret ∧ finish prog (aH.own 48) Tryz.f48 0 (A R' B') = some (rI r, [])) rfl ?_ ?_))
 ·rintro s16 R' B' q17 hI h
  refine gS rfl hI<|sF h (fun h => ?_) fun h => ?_
  ·refine sN<|qS<|cT<|qK<|qS<|qB<|gS rfl rfl<|bE h fun x19 hx19 h => eG hx19 rfl<|sV (.d (av.pd x19))<|sB (.ptr 96 0) 96 (.var zZ3)<|sH 96 (.var (av.rc x19))<|sN<|gS rfl rfl<|sV (.ptr 32 6) ?_
   refine sV (.d (aK.pd a0.az))<|sV (.ptr 32 0)<|sV (.d (aj.pd a0.ac))<|sV (.d (av.pd x19))<|bE h fun x20 hx20 h => cR (.tup [.d (aM.pd x20.1), rI x20.2]) [] (jg hx20)<|sM rfl<|sV (.d (aM.pd x20.1))<|sV (rI x20.2)<|sB (.ptr 112 0) 112 (.var [r0, r0])<|sS 112 (.var [rI x20.1.bF, rI x20.1.fTo])<|sA rfl<|sN<|gS rfl rfl<|sM rfl ?_
   refine sF h (fun h => ?_) fun h => ?_
   ·refine sN<|cT<|gS rfl rfl<|sM rfl<|sA rfl<|sN<|qR ?_
    cases oI h
    exact ⟨nofun, rfl, rfl⟩
   refine sN<|cF<|qK<|WC.region rfl rfl<|sV (rI (rW (s16 + (1 : Int))))<|sM rfl<|sN ?_
   cases oI h
   exact ⟨rfl, rfl⟩
  refine sN<|qS<|cF<|qX ?_
  cases oI h
  exact ⟨nofun, rfl, rfl⟩
 intro e R' B' he hq
 rcases o23 with y24 | r25
 ·obtain ⟨rfl, hI⟩ := hq
  refine qE<|gS rfl hI<|sV (r0)<|sN<|qR ?_
  exact oI h▸qD
 obtain ⟨rfl, hf⟩ := hq
 cases oI h
 exact hf
theorem ib {a0 : bt} {r : Bool} (h : ch a0 = some r) : EvP prog aH ext 49 [.d (bt.pd a0)] [] (rB r, []) := by
 refine Ev.body rfl Tryz.func49 rfl (by kernel_rfl)<|gS rfl rfl<|sB (.ptr 16 0) 16 (.var (bt.rc a0))<|sU<|sN<|gS rfl rfl<|sV (.ptr 16 0)<|sV (.d (aK.pd a0.aZ))<|bE h fun x1 hx1 h => cD (di hx1)<|sF h (fun h => ?_) fun h => ?_
 ·refine sM rfl<|sV (.ptr 16 3)<|sL rfl<|sV (rB (decide (a0.bh ≥ (0 : Int))))<|sF h (fun h => ?_) fun h => ?_
  ·refine sM rfl<|sV (.ptr 16 3)<|sL rfl<|sV (rB (decide (a0.bh ≤ (65536 : Int))))<|sF h (fun h => ?_) fun h => ?_
   ·refine sM rfl<|sV (.ptr 16 4)<|sL rfl<|sV (rB (decide (a0.bg ≥ (1 : Int))))<|sF h (fun h => ?_) fun h => ?_
    ·refine sM rfl<|sV (.ptr 16 4)<|sL rfl<|sV (rB (decide (a0.bg ≤ (65536 : Int))))<|sV (rB (decide (a0.bg ≤ (65536 : Int))))<|sA rfl<|sN<|qR ?_
     exact oI h▸qD
    refine sM rfl<|k3<|sU<|sA rfl<|sN<|qR ?_
    exact oI h▸qD
   refine sM rfl<|k3<|sU<|sM rfl<|k3<|sU<|sA rfl<|sN<|qR ?_
   exact oI h▸qD
  refine sM rfl<|k3<|sU<|sM rfl<|k3<|sU<|sM rfl<|k3<|sU ?_
  refine sA rfl<|sN<|qR ?_
  exact oI h▸qD
 refine sM rfl<|k3<|sU<|sM rfl<|k3<|sU<|sM rfl<|k3<|sU ?_
 refine sM rfl<|k3<|sU<|sA rfl<|sN<|qR ?_
 exact oI h▸qD
theorem jx {a0 : aG} {r : Int} (h : eJ a0 = some r) : EvP prog aH ext 30 [.d (aG.pd a0)] [] (rI r, []) := by
 refine Ev.body rfl Tryz.func30 rfl (by kernel_rfl)<|gS rfl rfl<|sB (.ptr 16 0) 16 (.var (aG.rc a0))<|sV (r0)<|sN<|qS<|gS rfl rfl<|sV (.ptr 16 0)<|sV (.d (bd.pd a0.ag))<|bE h fun x1 hx1 h => cD (mc hx1)<|sF h (fun h => ?_) fun h => ?_
 ·refine sM rfl<|k3<|sK<|sT<|sM rfl<|k3<|sT<|sM rfl<|sK<|sK<|sK ?_
  refine sT<|sN<|cT<|gS rfl rfl<|sV (rI 27)<|sN<|qR ?_
  cases oI h
  exact qG
 refine sM rfl<|sV (.ptr 16 14)<|sV (.d (bt.pd a0.bi))<|bE h fun x3 hx3 h => cD (ib hx3)<|sV (rB (!x3))<|sF h (fun h => ?_) fun h => ?_
 ·refine sM rfl<|k3<|sT<|sM rfl<|k3<|sT<|sN<|cT<|gS rfl rfl<|sV (rI 27)<|sN ?_
  refine qR ?_
  cases oI h
  exact qG
 refine sM rfl<|sV (.ptr 16 19)<|sL rfl<|sV (rB (decide (a0.ba < (0 : Int))))<|sF h (fun h => ?_) fun h => ?_
 ·refine sM rfl<|k3<|sT<|sN<|cT<|gS rfl rfl<|sV (rI 27)<|sN<|qR ?_
  cases oI h
  exact qG
 refine sM rfl<|sV (.ptr 16 19)<|sL rfl<|sV (rB (decide (a0.ba > (1099511627776 : Int))))<|sF h (fun h => ?_) fun h => ?_
 ·refine sN<|cT<|gS rfl rfl<|sV (rI 27)<|sN<|qR ?_
  cases oI h
  exact qG
 refine sN<|cF<|qK<|gS rfl rfl<|sV (r0)<|sN<|qR ?_
 cases oI h
 exact qG
theorem source_plain_ev {a0 : Int} {r : Bool} (h : gu a0 = some r) : EvP prog aH ext 108 [.d (.int .u8 a0)] [] (rB r, []) := by
 refine Ev.body rfl Tryz.func108 rfl (by kernel_rfl)<|gS rfl rfl<|sU<|sN<|gS rfl rfl<|sM rfl<|sF h (fun h => ?_) fun h => ?_
 ·refine sM rfl<|sM rfl<|sV (rB (decide (a0 ≤ (90 : Int))))<|sF h (fun h => ?_) fun h => ?_
  ·refine sM rfl<|k3<|k3<|sT<|sA rfl<|sN<|qR ?_
   exact oI h▸qD
  refine sM rfl<|sM rfl<|sF h (fun h => ?_) fun h => ?_
  ·refine sM rfl<|sM rfl<|sV (rB (decide (a0 ≤ (57 : Int))))<|sV (rB (decide (a0 ≤ (57 : Int))))<|sV (rB (decide (a0 ≤ (57 : Int))))<|sA rfl<|sN<|qR ?_
   exact oI h▸qD
  refine sM rfl<|sK<|sK<|sU<|sU<|sA rfl<|sN<|qR ?_
  exact oI h▸qD
 refine sM rfl<|sK<|sK<|sU<|sM rfl<|sM rfl<|sF h (fun h => ?_) fun h => ?_
 ·refine sM rfl<|sM rfl<|sV (rB (decide (a0 ≤ (57 : Int))))<|sV (rB (decide (a0 ≤ (57 : Int))))<|sV (rB (decide (a0 ≤ (57 : Int))))<|sA rfl<|sN<|qR ?_
  exact oI h▸qD
 refine sM rfl<|sK<|sK<|sU<|sU<|sA rfl<|sN<|qR ?_
 exact oI h▸qD
theorem ge {a0 : (List UInt8)} {a1 : Int} {a2 : Int} {r : Bool} (h : eK a0 a1 a2 = some r) : EvP prog aH ext 79 [rS a0, rI a1, rI a2] [] (rB r, []) := by
 refine Ev.body rfl Tryz.func79 rfl (by kernel_rfl)<|gS rfl rfl<|sU<|sN<|qS<|gS rfl rfl<|sM rfl<|sV (rI (a0.length : Int))<|sV (r0)<|sN<|bE h fun o8 ho8 h => WC.block (WC.loop (WL.oL ho8 (fun s R' B' => jX prog 0 (A R' B') (aH.at_ 79 0 2) = some (A [(0, rS a0), (1, rI a1), (2, rI a2), (9, rI (a0.length : Int)), (10, rI s)] [])) (fun o e R' B' => match o with | .inl y => e = .exit 0 ∧ jX prog 0 (A R' B') (aH.at_ 79 0 7) = some (A [(0, rS a0), (1, rI a1), (2, rI a2)] []) | .inr r => e = .ret ∧ finish prog (aH.own 79) Tryz.f79 0 (A R' B') = some (rB r, [])) rfl ?_ ?_))
 ·rintro s1 R' B' q2 hI h
  refine gS rfl hI<|sF h (fun h => ?_) fun h => ?_
  ·refine sN<|qS<|cT<|qK<|qS<|qB<|gS rfl rfl<|sM rfl<|sA rfl<|sN<|gS rfl rfl<|sM rfl<|sM rfl<|bE h fun x4 hx4 h => WO.byteG hx4 rfl rfl rfl rfl rfl rfl ?_
   refine bE h fun x5 hx5 h => cD (source_plain_ev hx5)<|sF h (fun h => ?_) fun h => ?_
   ·refine sN<|cT<|gS rfl rfl<|sU<|sN<|qR ?_
    cases oI h
    exact ⟨nofun, rfl, rfl⟩
   refine sN<|cF<|qK<|WC.region rfl rfl<|sV (rI (rW (s1 + (1 : Int))))<|sM rfl<|sN ?_
   cases oI h
   exact ⟨rfl, rfl⟩
  refine sN<|qS<|cF<|qX ?_
  cases oI h
  exact ⟨nofun, rfl, rfl⟩
 intro e R' B' he hq
 rcases o8 with y9 | r10
 ·obtain ⟨rfl, hI⟩ := hq
  refine qE<|gS rfl hI<|sM rfl<|sV (rI (a0.length : Int))<|sM rfl<|sF h (fun h => ?_) fun h => ?_
  ·refine sM rfl<|sM rfl<|sV (rI (a0.length : Int))<|sM rfl<|sV (rB (decide ((a0.length : Int) ≤ a2)))<|sV (rB (decide ((a0.length : Int) ≤ a2)))<|sA rfl<|sN<|qR ?_
   exact oI h▸qD
  refine sM rfl<|k3<|sK<|sU<|sA rfl<|sN<|qR ?_
  exact oI h▸qD
 obtain ⟨rfl, hf⟩ := hq
 cases oI h
 exact hf
theorem jN {a0 : aI} {r : Bool} (h : fx a0 = some r) : EvP prog aH ext 50 [.d (aI.pd a0)] [] (rB r, []) := by
 refine Ev.body rfl Tryz.func50 rfl (by kernel_rfl)<|gS rfl rfl<|sB (.ptr 16 0) 16 (.var [rS a0.aU, rS a0.aL, rS a0.aq, rS a0.aX])<|sU<|sN<|gS rfl rfl<|sV (.ptr 16 0)<|sL rfl<|bE h fun x1 hx1 h => pb h (fun hb2 h => ?_) (fun hb2 h => ?_)
 ·refine WO.pD (v := rB true) (u := []) rfl rfl (fun _ => rfl) rfl rfl rfl rfl rfl (ge hx1) rfl rfl (congrArg (fun b => RV.d (.bool b)) hb2) rfl<|sM rfl<|sV (.ptr 16 1)<|sL rfl<|bE h fun x3 hx3 h => cD (ge hx3)<|sF h (fun h => ?_) fun h => ?_
  ·refine sM rfl<|sV (.ptr 16 2)<|sL rfl<|bE h fun x5 hx5 h => cD (ge hx5)<|sF h (fun h => ?_) fun h => ?_
   ·refine sM rfl<|sV (.ptr 16 2)<|sL rfl<|sV (rI (a0.aq.length : Int))<|sV (rB ((a0.aq.length : Int) != (1 : Int)))<|sF h (fun h => ?_) fun h => ?_
    ·refine sM rfl<|sV (.ptr 16 3)<|sL rfl<|bE h fun x8 hx8 h => cD (ge hx8)<|sV (rB x8)<|sA rfl<|sN<|qR ?_
     exact oI h▸qD
    refine sM rfl<|k3<|sU<|sA rfl<|sN<|qR ?_
    exact oI h▸qD
   refine sM rfl<|k3<|sK<|sU<|sM rfl<|k3<|sU<|sA rfl<|sN<|qR ?_
   exact oI h▸qD
  refine sM rfl<|k3<|sU<|sM rfl<|k3<|sK<|sU<|sM rfl<|sK<|sK<|sK ?_
  refine sU<|sA rfl<|sN<|qR ?_
  exact oI h▸qD
 refine WO.pD (v := rB false) (u := []) rfl rfl (fun _ => rfl) rfl rfl rfl rfl rfl (ge hx1) rfl rfl (congrArg (fun b => RV.d (.bool b)) hb2) rfl<|sM rfl<|k3<|sU<|sM rfl<|k3<|sU<|sM rfl<|sK<|sK<|sK ?_
 refine sK<|sU<|sM rfl<|k3<|sU<|sA rfl<|sN<|qR ?_
 exact oI h▸qD
theorem nP {a0 : Int} {a1 : Int} {a2 : Int} {r : Bool} (h : m6 a0 a1 a2 = some r) : EvP prog aH ext 148 [rI a0, rI a1, rI a2] [] (rB r, []) := by
 refine Ev.body rfl Tryz.func148 rfl (by kernel_rfl)<|gS rfl rfl<|sU<|sN<|gS rfl rfl<|sM rfl<|sM rfl<|sF h (fun h => ?_) fun h => ?_
 ·refine sM rfl<|sM rfl<|sM rfl<|sV (rB (decide (a0 ≤ a2)))<|sV (rB (decide (a0 ≤ a2)))<|sA rfl<|sN<|qR ?_
  exact oI h▸qD
 refine sM rfl<|k3<|sU<|sA rfl<|sN<|qR ?_
 exact oI h▸qD
theorem rate_gcd_ev {a0 : Int} {a1 : Int} {r : Int} (h : mN a0 a1 = some r) : EvP prog aH ext 149 [rI a0, rI a1] [] (rI r, []) := by
 refine Ev.body rfl Tryz.func149 rfl (by kernel_rfl)<|gS rfl rfl<|sV (r0)<|sN<|qS<|bE h fun o8 ho8 h => WC.block (WC.loop (WL.oL ho8 (fun s R' B' => jX prog 0 (A R' B') (aH.at_ 149 0 1) = some (A [(0, rI s.1), (1, rI s.2)] [])) (fun o e R' B' => e = .exit 0 ∧ jX prog 0 (A R' B') (aH.at_ 149 0 3) = some (A [(0, rI o)] [])) rfl ?_ ?_))
 ·rintro ⟨s1, s2⟩ R' B' q4 hI h
  refine qS<|gS rfl hI<|sM rfl<|sF h (fun h => ?_) fun h => ?_
  ·refine sN<|cT<|qK<|qB<|WC.pC rfl rfl<|sM rfl<|sM rfl<|sM rfl<|bE h fun x6 hx6 h => WO.remG hx6 rfl rfl rfl rfl rfl rfl<|sA rfl<|sA rfl ?_
   refine sN<|sO ?_
   cases oI h
   exact ⟨rfl, rfl⟩
  refine sN<|cF<|qX ?_
  cases oI h
  exact ⟨nofun, rfl, rfl⟩
 intro e R' B' he hq
 obtain ⟨rfl, hI⟩ := hq
 refine qE<|gS rfl hI<|sM rfl<|sA rfl<|sN<|qR ?_
 exact oI h▸qD
theorem rate_Valid_ev {a0 : bf} {r : Bool} (h : iX a0 = some r) : EvP prog aH ext 109 [.d (bf.pd a0)] [] (rB r, []) := by
 refine Ev.body rfl Tryz.func109 rfl (by kernel_rfl)<|gS rfl rfl<|sB (.ptr 16 0) 16 (.var [rI a0.bh, rI a0.bg])<|sU<|sN<|gS rfl rfl<|sV (.ptr 16 0)<|sL rfl<|bE h fun x1 hx1 h => pb h (fun hb2 h => ?_) (fun hb2 h => ?_)
 ·refine WO.pD (v := rB true) (u := []) rfl rfl (fun _ => rfl) rfl rfl rfl rfl rfl (nP hx1) rfl rfl (congrArg (fun b => RV.d (.bool b)) hb2) rfl<|sM rfl<|sV (.ptr 16 1)<|sL rfl<|bE h fun x3 hx3 h => cD (nP hx3)<|sF h (fun h => ?_) fun h => ?_
  ·refine sM rfl<|sV (.ptr 16 0)<|sL rfl<|sV (.ptr 16 1)<|sL rfl<|bE h fun x5 hx5 h => cD (rate_gcd_ev hx5)<|sV (rB (x5 == (1 : Int)))<|sV (rB (x5 == (1 : Int)))<|sA rfl<|sN<|qR ?_
   exact oI h▸qD
  refine sM rfl<|k3<|k3<|sU<|sA rfl<|sN<|qR ?_
  exact oI h▸qD
 refine WO.pD (v := rB false) (u := []) rfl rfl (fun _ => rfl) rfl rfl rfl rfl rfl (nP hx1) rfl rfl (congrArg (fun b => RV.d (.bool b)) hb2) rfl<|sM rfl<|k3<|sU<|sM rfl<|k3<|k3<|sU<|sA rfl ?_
 refine sN<|qR ?_
 exact oI h▸qD
theorem bQ {a0 : Int} {a1 : Int} {a2 : Int} {r : Bool} (h : bK a0 a1 a2 = some r) : EvP prog aH ext 134 [rI a0, rI a1, rI a2] [] (rB r, []) := by
 refine Ev.body rfl Tryz.func134 rfl (by kernel_rfl)<|gS rfl rfl<|sU<|sN<|gS rfl rfl<|sM rfl<|sM rfl<|sF h (fun h => ?_) fun h => ?_
 ·refine sM rfl<|sM rfl<|sM rfl<|sV (rB (decide (a0 ≤ a2)))<|sV (rB (decide (a0 ≤ a2)))<|sA rfl<|sN<|qR ?_
  exact oI h▸qD
 refine sM rfl<|k3<|sU<|sA rfl<|sN<|qR ?_
 exact oI h▸qD
theorem iF {a0 : Int} {r : Bool} (h : dO a0 = some r) : EvP prog aH ext 189 [rI a0] [] (rB r, []) := by
 refine Ev.body rfl Tryz.func189 rfl (by kernel_rfl)<|gS rfl rfl<|sU<|sN<|gS rfl rfl<|sM rfl<|bE h fun x1 hx1 h => cD (bQ hx1)<|sV (rB (!x1))<|sA rfl<|sN<|qR ?_
 exact oI h▸qD
theorem jJ {a0 : (List Int)} {r : Int} (h : cm a0 = some r) : EvP prog aH ext 191 [.d (.lst (a0.map (PD.int .i64))), .d (.raw (.func (.func 189) #[] #[]))] [] (rI r, []) := by
 refine Ev.body rfl Tryz.func191 rfl (by kernel_rfl)<|gS rfl rfl<|sV (r0)<|sN<|qS<|gS rfl rfl<|sM rfl<|sE (rI (a0.length : Int)) (oD _ _)<|sV (r0)<|sN<|bE h fun o8 ho8 h => WC.block (WC.loop (WL.oL ho8 (fun s R' B' => jX prog 0 (A R' B') (aH.at_ 191 0 2) = some (A [(0, .d (.lst (a0.map (PD.int .i64)))), (1, .d (.raw (.func (.func 189) #[] #[]))), (7, rI (a0.length : Int)), (8, rI s)] [])) (fun o e R' B' => match o with | .inl y => e = .exit 0 ∧ jX prog 0 (A R' B') (aH.at_ 191 0 7) = some (A [] []) | .inr r => e = .ret ∧ finish prog (aH.own 191) Tryz.f191 0 (A R' B') = some (rI r, [])) rfl ?_ ?_))
 ·rintro s1 R' B' q2 hI h
  refine gS rfl hI<|sF h (fun h => ?_) fun h => ?_
  ·refine sN<|qS<|cT<|qK<|qS<|qB<|gS rfl rfl<|sM rfl<|sA rfl<|sN<|gS rfl rfl<|sM rfl<|sM rfl<|sM rfl<|bE h fun x4 hx4 h => ?_
   refine eG hx4 rfl<|sC rfl<|bE h fun x5 hx5 h => pb h (fun hb6 h => ?_) (fun hb6 h => ?_)
   ·refine WO.pD (v := rB true) (u := []) rfl rfl (fun _ => rfl) rfl rfl rfl rfl rfl (iF hx5) rfl rfl (congrArg (fun b => RV.d (.bool b)) hb6) rfl<|sN<|cT<|gS rfl rfl<|sM rfl<|sA rfl<|sN<|qR ?_
    cases oI h
    exact ⟨nofun, rfl, rfl⟩
   refine WO.pD (v := rB false) (u := []) rfl rfl (fun _ => rfl) rfl rfl rfl rfl rfl (iF hx5) rfl rfl (congrArg (fun b => RV.d (.bool b)) hb6) rfl<|sN<|cF<|qK<|WC.region rfl rfl<|sV (rI (rW (s1 + (1 : Int))))<|sM rfl<|sN ?_
   cases oI h
   exact ⟨rfl, rfl⟩
  refine sN<|qS<|cF<|qX ?_
  cases oI h
  exact ⟨nofun, rfl, rfl⟩
 intro e R' B' he hq
 rcases o8 with y9 | r10
 ·obtain ⟨rfl, hI⟩ := hq
  refine qE<|gS rfl hI<|sV (rI (-1))<|sN<|qR ?_
  exact oI h▸qD
 obtain ⟨rfl, hf⟩ := hq
 cases oI h
 exact hf
theorem iJ {a0 : (List Int)} {r : Bool} (h : bZ a0 = some r) : EvP prog aH ext 188 [.d (.lst (a0.map (PD.int .i64))), .d (.raw (.func (.func 189) #[] #[]))] [] (rB r, []) := by
 refine Ev.body rfl Tryz.func188 rfl (by kernel_rfl)<|gS rfl rfl<|sU<|sN<|gS rfl rfl<|sM rfl<|sM rfl<|bE h fun x1 hx1 h => cD (jJ hx1)<|sV (rB (decide (x1 ≥ (0 : Int))))<|sA rfl<|sN<|qR ?_
 exact oI h▸qD
theorem eH {a0 : (List Int)} {r : Bool} (h : bT a0 = some r) : EvP prog aH ext 176 [.d (.lst (a0.map (PD.int .i64)))] [] (rB r, []) := by
 refine Ev.body rfl Tryz.func176 rfl (by kernel_rfl)<|gS rfl rfl<|sU<|sN<|gS rfl rfl<|sM rfl<|bE h fun x1 hx1 h => cD (iJ hx1)<|sV (rB (!x1))<|sA rfl<|sN<|qR ?_
 exact oI h▸qD
theorem gR {a0 : (List Int)} {r : Int} (h : cS a0 = some r) : EvP prog aH ext 166 [.d (.lst (a0.map (PD.int .i64)))] [] (rI r, []) := by
 refine Ev.body rfl Tryz.func166 rfl (by kernel_rfl)<|gS rfl rfl<|sV (r0)<|sN<|gS rfl rfl<|sV (r0)<|sN<|qS<|gS rfl rfl<|sM rfl<|sE (rI (a0.length : Int)) (oD _ _)<|sV (r0)<|sN<|bE h fun o8 ho8 h => WC.block (WC.loop (WL.oL ho8 (fun s R' B' => jX prog 0 (A R' B') (aH.at_ 166 0 3) = some (A [(3, rI s.1), (6, .d (.lst (a0.map (PD.int .i64)))), (7, rI (a0.length : Int)), (8, rI s.2)] [])) (fun o e R' B' => e = .exit 0 ∧ jX prog 0 (A R' B') (aH.at_ 166 0 7) = some (A [(3, rI o)] [])) rfl ?_ ?_))
 ·rintro ⟨s1, s2⟩ R' B' q4 hI h
  refine gS rfl hI<|sF h (fun h => ?_) fun h => ?_
  ·refine sN<|qS<|cT<|qK<|qS<|qB<|gS rfl rfl<|bE h fun x6 hx6 h => eG hx6 rfl<|sC rfl<|sA rfl<|sN<|WC.region rfl rfl<|sM rfl<|sM rfl ?_
   refine sV (rI (rW (s1 + x6)))<|sA rfl<|sN<|WC.region rfl rfl<|sV (rI (rW (s2 + (1 : Int))))<|sM rfl<|sN ?_
   cases oI h
   exact ⟨rfl, rfl⟩
  refine sN<|qS<|cF<|qX ?_
  cases oI h
  exact ⟨nofun, rfl, rfl⟩
 intro e R' B' he hq
 obtain ⟨rfl, hI⟩ := hq
 refine qE<|gS rfl hI<|sM rfl<|sA rfl<|sN<|qR ?_
 exact oI h▸qD
theorem lQ {a0 : aB} {r : Bool} (h : cb a0 = some r) : EvP prog aH ext 152 [.d (aB.pd a0)] [] (rB r, []) := by
 refine Ev.body rfl Tryz.func152 rfl (by kernel_rfl)<|gS rfl rfl<|sB (.ptr 16 0) 16 (.var (aB.rc a0))<|sU<|sN<|gS rfl rfl<|sV (.ptr 16 7)<|sL rfl<|sE (rI (a0.cO.length : Int)) (oD _ _)<|sF h (fun h => ?_) fun h => ?_
 ·refine sM rfl<|sV (.ptr 16 8)<|sL rfl<|sV (rB (a0.cn == (0 : Int)))<|sF h (fun h => ?_) fun h => ?_
  ·refine sM rfl<|sV (.ptr 16 9)<|sL rfl<|sV (rB (a0.cN == (0 : Int)))<|sV (rB (a0.cN == (0 : Int)))<|sA rfl<|sN<|qS<|gS rfl rfl<|sV (.ptr 16 0)<|sL rfl<|sN<|qB<|gS rfl rfl<|sF h (fun h => ?_) fun h => ?_
   ·refine sA rfl<|sN<|cT<|gS rfl rfl<|sF h (fun h => ?_) fun h => ?_
    ·refine sM rfl<|sV (.ptr 16 1)<|sV (.d (aW.pd a0.bh))<|sV (.ptr 16 1)<|sV (.ptr 16 1)<|sL rfl<|sV (.d (aW.pd (aW.mk a0.bh.a0 0 0)))<|WO.bin (ip a0.bh (aW.mk a0.bh.a0 0 0)) rfl rfl rfl rfl rfl<|sF h (fun h => ?_) fun h => ?_
     ·refine sM rfl<|sV (.ptr 16 4)<|sV (.d (aW.pd a0.bg))<|sV (.ptr 16 4)<|sV (.ptr 16 4)<|sL rfl<|sV (.d (aW.pd (aW.mk a0.bg.a0 0 0)))<|WO.bin (ip a0.bg (aW.mk a0.bg.a0 0 0)) rfl rfl rfl rfl rfl<|sF h (fun h => ?_) fun h => ?_
      ·refine sM rfl<|sV (.ptr 16 1)<|sV (.ptr 16 1)<|sL rfl<|bE h fun x7 hx7 h => cD (bQ hx7)<|sF h (fun h => ?_) fun h => ?_
       ·refine sM rfl<|sV (.ptr 16 4)<|sV (.ptr 16 4)<|sL rfl<|bE h fun x9 hx9 h => cD (bQ hx9)<|sV (rB x9)<|sA rfl<|sN<|qR ?_
        cases oI h
        exact qG
       refine sM rfl<|k3<|sK<|sU<|sA rfl<|sN<|qR ?_
       cases oI h
       exact qG
      refine sM rfl<|k3<|sK<|sU<|sM rfl<|k3<|sK<|sU<|sA rfl<|sN<|qR ?_
      cases oI h
      exact qG
     refine sM rfl<|k3<|k3<|sK<|sU<|sM rfl<|k3<|sK<|sU ?_
     refine sM rfl<|k3<|sK<|sU<|sA rfl<|sN<|qR ?_
     cases oI h
     exact qG
    refine sM rfl<|k3<|k3<|sK<|sU<|sM rfl<|k3<|sK<|sK ?_
    refine sK<|sK<|sU<|sM rfl<|k3<|sK<|sU<|sM rfl<|k3<|sK<|sU ?_
    refine sA rfl<|sN<|qR ?_
    cases oI h
    exact qG
   refine sA rfl<|sN<|cF<|gS rfl rfl<|sF h (fun h => ?_) fun h => ?_
   ·refine sA rfl<|sN<|cT<|WC.oX (R0 := [(1, .cptr [.int .i64 a0.ej, .int .i64 a0.bh.a0, .int .i64 a0.bh.a1, .int .i64 a0.bh.a2, .int .i64 a0.bg.a0, .int .i64 a0.bg.a1, .int .i64 a0.bg.a2, .lst (a0.cO.map (PD.int .i64)), .int .i64 a0.cn, .int .i64 a0.cN]), (3, rB (a0.cN == (0 : Int)))]) (B0 := []) rfl rfl<|sF h (fun h => ?_) fun h => ?_
    ·refine sM rfl<|sV (.cptr [.int .i64 a0.bh.a0, .int .i64 a0.bh.a1, .int .i64 a0.bh.a2, .int .i64 a0.bg.a0, .int .i64 a0.bg.a1, .int .i64 a0.bg.a2, .lst (a0.cO.map (PD.int .i64)), .int .i64 a0.cn, .int .i64 a0.cN])<|sV (.d (.lst ([a0.bh.a0, a0.bh.a1, a0.bh.a2].map (PD.int .i64))))<|bE h fun x12 hx12 h => cD (eH hx12)<|sF h (fun h => ?_) fun h => ?_
     ·refine sM rfl<|sV (.cptr [.int .i64 a0.bg.a0, .int .i64 a0.bg.a1, .int .i64 a0.bg.a2, .lst (a0.cO.map (PD.int .i64)), .int .i64 a0.cn, .int .i64 a0.cN])<|sV (.d (.lst ([a0.bg.a0, a0.bg.a1, a0.bg.a2].map (PD.int .i64))))<|bE h fun x14 hx14 h => cD (eH hx14)<|sF h (fun h => ?_) fun h => ?_
      ·refine sM rfl<|sV (.cptr [.int .i64 a0.bg.a0, .int .i64 a0.bg.a1, .int .i64 a0.bg.a2, .lst (a0.cO.map (PD.int .i64)), .int .i64 a0.cn, .int .i64 a0.cN])<|sV (.cptr [.int .i64 a0.bg.a0, .int .i64 a0.bg.a1, .int .i64 a0.bg.a2, .lst (a0.cO.map (PD.int .i64)), .int .i64 a0.cn, .int .i64 a0.cN])<|sC rfl<|sV (rB (a0.bg.a0 != (0 : Int)))<|sV (rB (a0.bg.a0 != (0 : Int)))<|sA rfl<|sN<|qR ?_
       exact oI h▸qD
      refine sM rfl<|k3<|sK<|sU<|sA rfl<|sN<|qR ?_
      exact oI h▸qD
     refine sM rfl<|k3<|sU<|sM rfl<|k3<|sK<|sU<|sA rfl<|sN<|qR ?_
     exact oI h▸qD
    refine sM rfl<|k3<|sU<|sM rfl<|k3<|sU<|sM rfl<|k3<|sK ?_
    refine sU<|sA rfl<|sN<|qR ?_
    exact oI h▸qD
   refine sA rfl<|sN<|cF<|gS rfl rfl<|sF h (fun h => ?_) fun h => ?_
   ·refine sA rfl<|sN<|cT<|gS rfl rfl<|sV (.ptr 16 1)<|sV (.d (aW.pd a0.bh))<|sV (.d (aW.pd (aW.mk 0 0 0)))<|pb h (fun hb17 h => ?_) (fun hb17 h => ?_)
    ·refine WO.uA (ip a0.bh (aW.mk 0 0 0)) hb17 rfl rfl rfl rfl rfl<|sM rfl<|sV (.ptr 16 4)<|sV (.d (aW.pd a0.bg))<|sV (.d (aW.pd (aW.mk 0 0 0)))<|WO.bin (ip a0.bg (aW.mk 0 0 0)) rfl rfl rfl rfl rfl<|sF h (fun h => ?_) fun h => ?_
     ·refine sM rfl<|sV (.ptr 16 7)<|sL rfl<|sE (rI (a0.cO.length : Int)) (oD _ _)<|bE h fun x19 hx19 h => cD (bQ hx19)<|sF h (fun h => ?_) fun h => ?_
      ·refine sM rfl<|sV (.ptr 16 7)<|sL rfl<|bE h fun x21 hx21 h => cD (eH hx21)<|sF h (fun h => ?_) fun h => ?_
       ·refine sM rfl<|sV (.ptr 16 7)<|sL rfl<|bE h fun x23 hx23 h => cD (gR hx23)<|sV (rB (x23 != (0 : Int)))<|sF h (fun h => ?_) fun h => ?_
        ·refine sM rfl<|sV (.ptr 16 8)<|sL rfl<|bE h fun x25 hx25 h => cD (bQ hx25)<|sF h (fun h => ?_) fun h => ?_
         ·refine sM rfl<|sV (.ptr 16 9)<|sL rfl<|bE h fun x27 hx27 h => cD (bQ hx27)<|sV (rB x27)<|sA rfl<|sN<|qR ?_
          cases oI h
          exact qG
         refine sM rfl<|k3<|sU<|sA rfl<|sN<|qR ?_
         cases oI h
         exact qG
        refine sM rfl<|k3<|sU<|sM rfl<|k3<|sU<|sA rfl<|sN<|qR ?_
        cases oI h
        exact qG
       refine sM rfl<|k3<|sK<|sU<|sM rfl<|k3<|sU<|sM rfl<|sK<|sK<|sK ?_
       refine sU<|sA rfl<|sN<|qR ?_
       cases oI h
       exact qG
      refine sM rfl<|k3<|sU<|sM rfl<|k3<|sK<|sU<|sM rfl<|sK<|sK<|sK ?_
      refine sU<|sM rfl<|k3<|sU<|sA rfl<|sN<|qR ?_
      cases oI h
      exact qG
     refine sM rfl<|k3<|sK<|sU<|sM rfl<|k3<|sU<|sM rfl<|sK<|sK<|sK ?_
     refine sK<|sU<|sM rfl<|k3<|sU<|sM rfl<|k3<|sU<|sA rfl<|sN<|qR ?_
     cases oI h
     exact qG
    refine WO.uA (ip a0.bh (aW.mk 0 0 0)) hb17 rfl rfl rfl rfl rfl<|sM rfl<|k3<|sK<|sU<|sM rfl<|k3<|sK<|sU<|sM rfl<|sK ?_
    refine sK<|sK<|sU<|sM rfl<|k3<|sK<|sU<|sM rfl<|k3<|sU<|sM rfl ?_
    refine k3<|sU<|sA rfl<|sN<|qR ?_
    cases oI h
    exact qG
   refine sA rfl<|sN<|cF<|qK<|gS rfl rfl<|sU<|sN<|qR ?_
   cases oI h
   exact qG
  refine sM rfl<|k3<|sU<|sA rfl<|sN<|qS<|gS rfl rfl<|sV (.ptr 16 0)<|sL rfl<|sN<|qB<|gS rfl rfl<|sF h (fun h => ?_) fun h => ?_
  ·refine sA rfl<|sN<|cT<|gS rfl rfl<|sM rfl<|sM rfl<|k3<|k3<|sK<|sU<|sM rfl ?_
   refine k3<|k3<|sK<|sU<|sM rfl<|k3<|sK<|sU<|sM rfl ?_
   refine k3<|sK<|sU<|sA rfl<|sN<|qR ?_
   cases oI h
   exact qG
  refine sA rfl<|sN<|cF<|gS rfl rfl<|sF h (fun h => ?_) fun h => ?_
  ·refine sA rfl<|sN<|cT<|WC.oX (R0 := [(1, .cptr [.int .i64 a0.ej, .int .i64 a0.bh.a0, .int .i64 a0.bh.a1, .int .i64 a0.bh.a2, .int .i64 a0.bg.a0, .int .i64 a0.bg.a1, .int .i64 a0.bg.a2, .lst (a0.cO.map (PD.int .i64)), .int .i64 a0.cn, .int .i64 a0.cN]), (3, rB false)]) (B0 := []) rfl rfl<|sM rfl<|sM rfl<|k3<|sU<|sM rfl<|k3<|sU ?_
   refine sM rfl<|k3<|sK<|sU<|sA rfl<|sN<|qR ?_
   exact oI h▸qD
  refine sA rfl<|sN<|cF<|gS rfl rfl<|sF h (fun h => ?_) fun h => ?_
  ·refine sA rfl<|sN<|cT<|gS rfl rfl<|sV (.ptr 16 1)<|sV (.d (aW.pd a0.bh))<|sV (.d (aW.pd (aW.mk 0 0 0)))<|pb h (fun hb31 h => ?_) (fun hb31 h => ?_)
   ·refine WO.uA (ip a0.bh (aW.mk 0 0 0)) hb31 rfl rfl rfl rfl rfl<|sM rfl<|sV (.ptr 16 4)<|sV (.d (aW.pd a0.bg))<|sV (.d (aW.pd (aW.mk 0 0 0)))<|WO.bin (ip a0.bg (aW.mk 0 0 0)) rfl rfl rfl rfl rfl<|sF h (fun h => ?_) fun h => ?_
    ·refine sM rfl<|sV (.ptr 16 7)<|sL rfl<|sE (rI (a0.cO.length : Int)) (oD _ _)<|bE h fun x33 hx33 h => cD (bQ hx33)<|sF h (fun h => ?_) fun h => ?_
     ·refine sM rfl<|sV (.ptr 16 7)<|sL rfl<|bE h fun x35 hx35 h => cD (eH hx35)<|sF h (fun h => ?_) fun h => ?_
      ·refine sM rfl<|sV (.ptr 16 7)<|sL rfl<|bE h fun x37 hx37 h => cD (gR hx37)<|sV (rB (x37 != (0 : Int)))<|sF h (fun h => ?_) fun h => ?_
       ·refine sM rfl<|sV (.ptr 16 8)<|sL rfl<|bE h fun x39 hx39 h => cD (bQ hx39)<|sF h (fun h => ?_) fun h => ?_
        ·refine sM rfl<|sV (.ptr 16 9)<|sL rfl<|bE h fun x41 hx41 h => cD (bQ hx41)<|sV (rB x41)<|sA rfl<|sN<|qR ?_
         cases oI h
         exact qG
        refine sM rfl<|k3<|sU<|sA rfl<|sN<|qR ?_
        cases oI h
        exact qG
       refine sM rfl<|k3<|sU<|sM rfl<|k3<|sU<|sA rfl<|sN<|qR ?_
       cases oI h
       exact qG
      refine sM rfl<|k3<|sK<|sU<|sM rfl<|k3<|sU<|sM rfl<|sK<|sK<|sK ?_
      refine sU<|sA rfl<|sN<|qR ?_
      cases oI h
      exact qG
     refine sM rfl<|k3<|sU<|sM rfl<|k3<|sK<|sU<|sM rfl<|sK<|sK<|sK ?_
     refine sU<|sM rfl<|k3<|sU<|sA rfl<|sN<|qR ?_
     cases oI h
     exact qG
    refine sM rfl<|k3<|sK<|sU<|sM rfl<|k3<|sU<|sM rfl<|sK<|sK<|sK ?_
    refine sK<|sU<|sM rfl<|k3<|sU<|sM rfl<|k3<|sU<|sA rfl<|sN<|qR ?_
    cases oI h
    exact qG
   refine WO.uA (ip a0.bh (aW.mk 0 0 0)) hb31 rfl rfl rfl rfl rfl<|sM rfl<|k3<|sK<|sU<|sM rfl<|k3<|sK<|sU<|sM rfl<|sK ?_
   refine sK<|sK<|sU<|sM rfl<|k3<|sK<|sU<|sM rfl<|k3<|sU<|sM rfl ?_
   refine k3<|sU<|sA rfl<|sN<|qR ?_
   cases oI h
   exact qG
  refine sA rfl<|sN<|cF<|qK<|gS rfl rfl<|sU<|sN<|qR ?_
  cases oI h
  exact qG
 refine sM rfl<|k3<|sU<|sM rfl<|k3<|sU<|sA rfl<|sN<|qS<|gS rfl rfl<|sV (.ptr 16 0) ?_
 refine sL rfl<|sN<|qB<|gS rfl rfl<|sF h (fun h => ?_) fun h => ?_
 ·refine sA rfl<|sN<|cT<|gS rfl rfl<|sM rfl<|sM rfl<|k3<|k3<|sK<|sU<|sM rfl ?_
  refine k3<|k3<|sK<|sU<|sM rfl<|k3<|sK<|sU<|sM rfl ?_
  refine k3<|sK<|sU<|sA rfl<|sN<|qR ?_
  cases oI h
  exact qG
 refine sA rfl<|sN<|cF<|gS rfl rfl<|sF h (fun h => ?_) fun h => ?_
 ·refine sA rfl<|sN<|cT<|WC.oX (R0 := [(1, .cptr [.int .i64 a0.ej, .int .i64 a0.bh.a0, .int .i64 a0.bh.a1, .int .i64 a0.bh.a2, .int .i64 a0.bg.a0, .int .i64 a0.bg.a1, .int .i64 a0.bg.a2, .lst (a0.cO.map (PD.int .i64)), .int .i64 a0.cn, .int .i64 a0.cN]), (3, rB false)]) (B0 := []) rfl rfl<|sM rfl<|sM rfl<|k3<|sU<|sM rfl<|k3<|sU ?_
  refine sM rfl<|k3<|sK<|sU<|sA rfl<|sN<|qR ?_
  exact oI h▸qD
 refine sA rfl<|sN<|cF<|gS rfl rfl<|sF h (fun h => ?_) fun h => ?_
 ·refine sA rfl<|sN<|cT<|gS rfl rfl<|sV (.ptr 16 1)<|sV (.d (aW.pd a0.bh))<|sV (.d (aW.pd (aW.mk 0 0 0)))<|pb h (fun hb45 h => ?_) (fun hb45 h => ?_)
  ·refine WO.uA (ip a0.bh (aW.mk 0 0 0)) hb45 rfl rfl rfl rfl rfl<|sM rfl<|sV (.ptr 16 4)<|sV (.d (aW.pd a0.bg))<|sV (.d (aW.pd (aW.mk 0 0 0)))<|WO.bin (ip a0.bg (aW.mk 0 0 0)) rfl rfl rfl rfl rfl<|sF h (fun h => ?_) fun h => ?_
   ·refine sM rfl<|sV (.ptr 16 7)<|sL rfl<|sE (rI (a0.cO.length : Int)) (oD _ _)<|bE h fun x47 hx47 h => cD (bQ hx47)<|sF h (fun h => ?_) fun h => ?_
    ·refine sM rfl<|sV (.ptr 16 7)<|sL rfl<|bE h fun x49 hx49 h => cD (eH hx49)<|sF h (fun h => ?_) fun h => ?_
     ·refine sM rfl<|sV (.ptr 16 7)<|sL rfl<|bE h fun x51 hx51 h => cD (gR hx51)<|sV (rB (x51 != (0 : Int)))<|sF h (fun h => ?_) fun h => ?_
      ·refine sM rfl<|sV (.ptr 16 8)<|sL rfl<|bE h fun x53 hx53 h => cD (bQ hx53)<|sF h (fun h => ?_) fun h => ?_
       ·refine sM rfl<|sV (.ptr 16 9)<|sL rfl<|bE h fun x55 hx55 h => cD (bQ hx55)<|sV (rB x55)<|sA rfl<|sN<|qR ?_
        cases oI h
        exact qG
       refine sM rfl<|k3<|sU<|sA rfl<|sN<|qR ?_
       cases oI h
       exact qG
      refine sM rfl<|k3<|sU<|sM rfl<|k3<|sU<|sA rfl<|sN<|qR ?_
      cases oI h
      exact qG
     refine sM rfl<|k3<|sK<|sU<|sM rfl<|k3<|sU<|sM rfl<|sK<|sK<|sK ?_
     refine sU<|sA rfl<|sN<|qR ?_
     cases oI h
     exact qG
    refine sM rfl<|k3<|sU<|sM rfl<|k3<|sK<|sU<|sM rfl<|sK<|sK<|sK ?_
    refine sU<|sM rfl<|k3<|sU<|sA rfl<|sN<|qR ?_
    cases oI h
    exact qG
   refine sM rfl<|k3<|sK<|sU<|sM rfl<|k3<|sU<|sM rfl<|sK<|sK<|sK ?_
   refine sK<|sU<|sM rfl<|k3<|sU<|sM rfl<|k3<|sU<|sA rfl<|sN<|qR ?_
   cases oI h
   exact qG
  refine WO.uA (ip a0.bh (aW.mk 0 0 0)) hb45 rfl rfl rfl rfl rfl<|sM rfl<|k3<|sK<|sU<|sM rfl<|k3<|sK<|sU<|sM rfl<|sK ?_
  refine sK<|sK<|sU<|sM rfl<|k3<|sK<|sU<|sM rfl<|k3<|sU<|sM rfl ?_
  refine k3<|sU<|sA rfl<|sN<|qR ?_
  cases oI h
  exact qG
 refine sA rfl<|sN<|cF<|qK<|gS rfl rfl<|sU<|sN<|qR ?_
 cases oI h
 exact qG
theorem iC {a0 : aB} {r : Bool} (h : dN a0 = some r) : EvP prog aH ext 151 [.d (aB.pd a0)] [] (rB r, []) := by
 refine Ev.body rfl Tryz.func151 rfl (by kernel_rfl)<|gS rfl rfl<|sB (.ptr 16 0) 16 (.var (aB.rc a0))<|sU<|sN<|gS rfl rfl<|sV (.d (aB.pd a0))<|bE h fun x1 hx1 h => cD (lQ hx1)<|sV (rB (!x1))<|sA rfl<|sN<|qR ?_
 cases oI h
 exact qG
theorem ja {a0 : (List aB)} {r : Int} (h : ce a0 = some r) : EvP prog aH ext 175 [.d (.lst (a0.map aB.pd)), .d (.raw (.func (.func 151) #[] #[]))] [] (rI r, []) := by
 refine Ev.body rfl Tryz.func175 rfl (by kernel_rfl)<|gS rfl rfl<|sV (r0)<|sN<|qS<|gS rfl rfl<|sM rfl<|sE (rI (a0.length : Int)) (oD _ _)<|sV (r0)<|sN<|bE h fun o8 ho8 h => WC.block (WC.loop (WL.oL ho8 (fun s R' B' => jX prog 0 (A R' B') (aH.at_ 175 0 2) = some (A [(0, .d (.lst (a0.map aB.pd))), (1, .d (.raw (.func (.func 151) #[] #[]))), (7, rI (a0.length : Int)), (8, rI s)] [])) (fun o e R' B' => match o with | .inl y => e = .exit 0 ∧ jX prog 0 (A R' B') (aH.at_ 175 0 7) = some (A [] []) | .inr r => e = .ret ∧ finish prog (aH.own 175) Tryz.f175 0 (A R' B') = some (rI r, [])) rfl ?_ ?_))
 ·rintro s1 R' B' q2 hI h
  refine gS rfl hI<|sF h (fun h => ?_) fun h => ?_
  ·refine sN<|qS<|cT<|qK<|qS<|qB<|gS rfl rfl<|sM rfl<|sA rfl<|sN<|gS rfl rfl<|sM rfl<|sM rfl<|sM rfl<|bE h fun x4 hx4 h => ?_
   refine eG hx4 rfl<|sV (.d (aB.pd x4))<|bE h fun x5 hx5 h => pb h (fun hb6 h => ?_) (fun hb6 h => ?_)
   ·refine WO.pD (v := rB true) (u := []) rfl rfl (fun _ => rfl) rfl rfl rfl rfl rfl (iC hx5) rfl rfl (congrArg (fun b => RV.d (.bool b)) hb6) rfl<|sN<|cT<|gS rfl rfl<|sM rfl<|sA rfl<|sN<|qR ?_
    cases oI h
    exact ⟨nofun, rfl, rfl⟩
   refine WO.pD (v := rB false) (u := []) rfl rfl (fun _ => rfl) rfl rfl rfl rfl rfl (iC hx5) rfl rfl (congrArg (fun b => RV.d (.bool b)) hb6) rfl<|sN<|cF<|qK<|WC.region rfl rfl<|sV (rI (rW (s1 + (1 : Int))))<|sM rfl<|sN ?_
   cases oI h
   exact ⟨rfl, rfl⟩
  refine sN<|qS<|cF<|qX ?_
  cases oI h
  exact ⟨nofun, rfl, rfl⟩
 intro e R' B' he hq
 rcases o8 with y9 | r10
 ·obtain ⟨rfl, hI⟩ := hq
  refine qE<|gS rfl hI<|sV (rI (-1))<|sN<|qR ?_
  exact oI h▸qD
 obtain ⟨rfl, hf⟩ := hq
 cases oI h
 exact hf
theorem ig {a0 : (List aB)} {r : Bool} (h : bM a0 = some r) : EvP prog aH ext 150 [.d (.lst (a0.map aB.pd)), .d (.raw (.func (.func 151) #[] #[]))] [] (rB r, []) := by
 refine Ev.body rfl Tryz.func150 rfl (by kernel_rfl)<|gS rfl rfl<|sU<|sN<|gS rfl rfl<|sM rfl<|sM rfl<|bE h fun x1 hx1 h => cD (ja hx1)<|sV (rB (decide (x1 ≥ (0 : Int))))<|sA rfl<|sN<|qR ?_
 exact oI h▸qD
theorem nQ {a0 : (List aB)} {r : Int} (h : eu a0 = some r) : EvP prog aH ext 153 [.d (.lst (a0.map aB.pd))] [] (rI r, []) := by
 refine Ev.body rfl Tryz.func153 rfl (by kernel_rfl)<|gS rfl rfl<|sV (r0)<|sN<|gS rfl rfl<|sV (rI 1)<|sN<|qS<|gS rfl rfl<|sM rfl<|sE (rI (a0.length : Int)) (oD _ _)<|sV (r0)<|sN<|bE h fun o10 ho10 h => WC.block (WC.loop (WL.oL ho10 (fun s R' B' => jX prog 0 (A R' B') (aH.at_ 153 0 3) = some (A [(3, rI s.1), (6, .d (.lst (a0.map aB.pd))), (7, rI (a0.length : Int)), (8, rI s.2)] [])) (fun o e R' B' => match o with | .inl y => e = .exit 0 ∧ jX prog 0 (A R' B') (aH.at_ 153 0 10) = some (A [(3, rI y)] []) | .inr r => e = .ret ∧ finish prog (aH.own 153) Tryz.f153 0 (A R' B') = some (rI r, [])) rfl ?_ ?_))
 ·rintro ⟨s1, s2⟩ R' B' q4 hI h
  refine gS rfl hI<|sF h (fun h => ?_) fun h => ?_
  ·refine sN<|qS<|cT<|qK<|qS<|qB<|gS rfl rfl<|bE h fun x6 hx6 h => eG hx6 rfl<|sV (.d (aB.pd x6))<|sB (.ptr 80 0) 80 (.var [r0, r0, r0, r0, r0, r0, r0, .jY, r0, r0])<|sH 80 (.var (aB.rc x6))<|sN<|qS<|gS rfl rfl ?_
   refine sV (.ptr 80 0)<|sL rfl<|sF h (fun h => ?_) fun h => ?_
   ·refine sN<|cT<|qX<|qE<|WC.region rfl rfl<|sV (rI (rW (s2 + (1 : Int))))<|sM rfl<|sN ?_
    cases oI h
    exact ⟨rfl, rfl⟩
   refine sN<|cF<|qK<|gS rfl rfl<|sM rfl<|sV (.ptr 80 8)<|sL rfl<|sV (rI (rW (s1 * x6.cn)))<|sA rfl<|sN<|gS rfl rfl<|sM rfl<|sF h (fun h => ?_) fun h => ?_
   ·refine sN<|cT<|gS rfl rfl<|sV (r0)<|sN<|qR ?_
    cases oI h
    exact ⟨nofun, rfl, rfl⟩
   refine sN<|cF<|qK<|WC.region rfl rfl<|sV (rI (rW (s2 + (1 : Int))))<|sM rfl<|sN ?_
   cases oI h
   exact ⟨rfl, rfl⟩
  refine sN<|qS<|cF<|qX ?_
  cases oI h
  exact ⟨nofun, rfl, rfl⟩
 intro e R' B' he hq
 rcases o10 with y11 | r12
 ·obtain ⟨rfl, hI⟩ := hq
  refine qE<|gS rfl hI<|sM rfl<|sA rfl<|sN<|qR ?_
  exact oI h▸qD
 obtain ⟨rfl, hf⟩ := hq
 cases oI h
 exact hf
theorem kV {a0 : aN} {r : Bool} (h : d9 a0 = some r) : EvP prog aH ext 110 [.d (aN.pd a0)] [] (rB r, []) := by
 refine Ev.body rfl Tryz.func110 rfl (by kernel_rfl)<|gS rfl rfl<|sB (.ptr 16 0) 16 (.var [.d (.lst (a0.bj.map aB.pd))])<|sU<|sN<|qS<|gS rfl rfl<|sV (.ptr 16 0)<|sL rfl<|sE (rI (a0.bj.length : Int)) (oD _ _)<|sF h (fun h => ?_) fun h => ?_
 ·refine sM rfl<|k3<|sT<|sN<|cT<|gS rfl rfl<|sU<|sN<|qR ?_
  exact oI h▸qD
 refine sM rfl<|sV (.ptr 16 0)<|sL rfl<|bE h fun x2 hx2 h => cD (ig hx2)<|sF h (fun h => ?_) fun h => ?_
 ·refine sN<|cT<|gS rfl rfl<|sU<|sN<|qR ?_
  exact oI h▸qD
 refine sN<|cF<|qK<|gS rfl rfl<|sV (.ptr 16 0)<|sL rfl<|bE h fun x4 hx4 h => cD (nQ hx4)<|sV (rB (decide (x4 > (0 : Int))))<|sA rfl<|sN<|qR ?_
 exact oI h▸qD
theorem gP {a0 : Int} {a1 : Int} {a2 : Int} {r : Bool} (h : dm a0 a1 a2 = some r) : EvP prog aH ext 81 [rI a0, rI a1, rI a2] [] (rB r, []) := by
 refine Ev.body rfl Tryz.func81 rfl (by kernel_rfl)<|gS rfl rfl<|sU<|sN<|gS rfl rfl<|sM rfl<|sM rfl<|sF h (fun h => ?_) fun h => ?_
 ·refine sM rfl<|sM rfl<|sM rfl<|sV (rB (decide (a0 ≤ a2)))<|sV (rB (decide (a0 ≤ a2)))<|sA rfl<|sN<|qR ?_
  exact oI h▸qD
 refine sM rfl<|k3<|sU<|sA rfl<|sN<|qR ?_
 exact oI h▸qD
theorem lk {a0 : al} {r : Bool} (h : cH a0 = some r) : EvP prog aH ext 80 [.d (al.pd a0)] [] (rB r, []) := by
 refine Ev.body rfl Tryz.func80 rfl (by kernel_rfl)<|gS rfl rfl<|sB (.ptr 16 0) 16 (.var (al.rc a0))<|sU<|sN<|gS rfl rfl<|sV (.ptr 16 4)<|sV (.d (aa.pd a0.aV))<|sB (.ptr 48 0) 48 (.var [r0, r0, r0])<|sS 48 (.var [rI a0.aV.fX, rI a0.aV.fY, rI a0.aV.fZ])<|sN<|gS rfl rfl<|sV (.ptr 16 0)<|sL rfl<|sF h (fun h => ?_) fun h => ?_
 ·refine sM rfl<|sV (.ptr 16 0)<|sL rfl<|sV (.ptr 16 1)<|sL rfl<|sV (rB (decide (a0.bF < a0.fTo)))<|sF h (fun h => ?_) fun h => ?_
  ·refine sM rfl<|sV (.ptr 16 1)<|sL rfl<|sV (rB (decide (a0.fTo ≤ (9007199254740992 : Int))))<|sF h (fun h => ?_) fun h => ?_
   ·refine sM rfl<|sV (.ptr 16 2)<|sV (.d (bf.pd a0.ct))<|bE h fun x4 hx4 h => cD (rate_Valid_ev hx4)<|sF h (fun h => ?_) fun h => ?_
    ·refine sM rfl<|sV (.ptr 16 7)<|sV (.d (aN.pd a0.bq))<|bE h fun x6 hx6 h => cD (kV hx6)<|sF h (fun h => ?_) fun h => ?_
     ·refine sM rfl<|sV (.ptr 48 0)<|sL rfl<|bE h fun x8 hx8 h => cD (gP hx8)<|sF h (fun h => ?_) fun h => ?_
      ·refine sM rfl<|sV (.ptr 48 1)<|sL rfl<|bE h fun x10 hx10 h => cD (gP hx10)<|sF h (fun h => ?_) fun h => ?_
       ·refine sM rfl<|sV (.ptr 48 2)<|sL rfl<|bE h fun x12 hx12 h => cD (gP hx12)<|sV (rB x12)<|sA rfl<|sN<|qR ?_
        exact oI h▸qD
       refine sM rfl<|k3<|sU<|sA rfl<|sN<|qR ?_
       exact oI h▸qD
      refine sM rfl<|k3<|sU<|sM rfl<|k3<|sU<|sA rfl<|sN<|qR ?_
      exact oI h▸qD
     refine sM rfl<|k3<|sU<|sM rfl<|k3<|sU<|sM rfl<|k3<|sU ?_
     refine sA rfl<|sN<|qR ?_
     exact oI h▸qD
    refine sM rfl<|k3<|sU<|sM rfl<|k3<|sU<|sM rfl<|k3<|sU ?_
    refine sM rfl<|k3<|sU<|sA rfl<|sN<|qR ?_
    exact oI h▸qD
   refine sM rfl<|k3<|sU<|sM rfl<|k3<|sU<|sM rfl<|k3<|sU ?_
   refine sM rfl<|k3<|sU<|sM rfl<|k3<|sU<|sA rfl<|sN<|qR ?_
   exact oI h▸qD
  refine sM rfl<|k3<|sU<|sM rfl<|k3<|sU<|sM rfl<|k3<|sU ?_
  refine sM rfl<|k3<|sU<|sM rfl<|k3<|sU<|sM rfl<|k3<|sU ?_
  refine sA rfl<|sN<|qR ?_
  exact oI h▸qD
 refine sM rfl<|k3<|sK<|sK<|sU<|sM rfl<|k3<|sU<|sM rfl<|sK<|sK ?_
 refine sK<|sU<|sM rfl<|k3<|sU<|sM rfl<|k3<|sU<|sM rfl<|sK<|sK ?_
 refine sK<|sU<|sM rfl<|k3<|sU<|sA rfl<|sN<|qR ?_
 exact oI h▸qD
theorem nj {a0 : (List al)} {r : Bool} (h : dZ a0 = some r) : EvP prog aH ext 51 [.d (.lst (a0.map al.pd))] [] (rB r, []) := by
 refine Ev.body rfl Tryz.func51 rfl (by kernel_rfl)<|gS rfl rfl<|sU<|sN<|qS<|gS rfl rfl<|sM rfl<|sE (rI (a0.length : Int)) (oD _ _)<|sV (r0)<|sN<|bE h fun o11 ho11 h => WC.block (WC.loop (WL.oL ho11 (fun s R' B' => jX prog 0 (A R' B') (aH.at_ 51 0 2) = some (A [(0, .d (.lst (a0.map al.pd))), (5, .d (.lst (a0.map al.pd))), (6, rI (a0.length : Int)), (7, rI s)] [])) (fun o e R' B' => match o with | .inl y => e = .exit 0 ∧ jX prog 0 (A R' B') (aH.at_ 51 0 7) = some (A [(0, .d (.lst (a0.map al.pd)))] []) | .inr r => e = .ret ∧ finish prog (aH.own 51) Tryz.f51 0 (A R' B') = some (rB r, [])) rfl ?_ ?_))
 ·rintro s1 R' B' q2 hI h
  refine gS rfl hI<|sF h (fun h => ?_) fun h => ?_
  ·refine sN<|qS<|cT<|qK<|qS<|qB<|gS rfl rfl<|sM rfl<|bE h fun x4 hx4 h => eG hx4 rfl<|sV (.d (al.pd x4))<|sB (.ptr 64 0) 64 (.var zZ2)<|sA rfl<|sH 64 (.var (al.rc x4))<|sN ?_
   refine WC.cI rfl rfl<|sV (.d (al.pd x4))<|bE h fun x5 hx5 h => cD (lk hx5)<|sF h (fun h => ?_) fun h => ?_
   ·refine sM rfl<|k3<|k3<|k3<|k3<|sK<|sT ?_
    refine sN<|sO<|cT<|gS rfl rfl<|sU<|sN<|qR ?_
    cases oI h
    exact ⟨nofun, rfl, rfl⟩
   refine sM rfl<|sM rfl<|sF h (fun h => ?_) fun h => ?_
   ·refine sM rfl<|sV (.ptr 64 0)<|sL rfl<|sM rfl<|sM rfl<|sV (rI (rW (s1 - (1 : Int))))<|bE h fun x8 hx8 h => eG hx8 rfl<|sV (.cptr [.int .i64 x8.fTo, .int .i64 x8.ct.bh, .int .i64 x8.ct.bg, .int .i64 x8.aV.fX, .int .i64 x8.aV.fY, .int .i64 x8.aV.fZ, .lst (x8.bq.bj.map aB.pd)])<|sC rfl<|sV (rB (decide (x4.bF < x8.fTo)))<|sV (rB (decide (x4.bF < x8.fTo)))<|sF h (fun h => ?_) fun h => ?_
    ·refine sN<|sO<|cT<|gS rfl rfl<|sU<|sN<|qR ?_
     cases oI h
     exact ⟨nofun, rfl, rfl⟩
    refine sN<|sO<|cF<|qK<|WC.region rfl rfl<|sV (rI (rW (s1 + (1 : Int))))<|sM rfl<|sN ?_
    cases oI h
    exact ⟨rfl, rfl⟩
   refine sM rfl<|k3<|k3<|k3<|sU<|sU ?_
   refine sN<|sO<|cF<|qK<|WC.region rfl rfl<|sV (rI (rW (s1 + (1 : Int))))<|sM rfl<|sN ?_
   cases oI h
   exact ⟨rfl, rfl⟩
  refine sN<|qS<|cF<|qX ?_
  cases oI h
  exact ⟨nofun, rfl, rfl⟩
 intro e R' B' he hq
 rcases o11 with y12 | r13
 ·obtain ⟨rfl, hI⟩ := hq
  refine qE<|gS rfl hI<|sM rfl<|sE (rI (a0.length : Int)) (oD _ _)<|bE h fun x14 hx14 h => cD (gP hx14)<|sA rfl<|sN<|qR ?_
  exact oI h▸qD
 obtain ⟨rfl, hf⟩ := hq
 cases oI h
 exact hf
theorem jO {a0 : (List UInt8)} {r : Bool} (h : db a0 = some r) : EvP prog aH ext 111 [rS a0] [] (rB r, []) := by
 refine Ev.body rfl Tryz.func111 rfl (by kernel_rfl)<|gS rfl rfl<|sU<|sN<|gS rfl rfl<|sM rfl<|sM rfl<|sV (rB (!(a0 == a0)))<|sA rfl<|sN<|qR ?_
 exact oI h▸qD
theorem ed {a0 : (List UInt8)} {a1 : (List UInt8)} {r : Int} (h : bS a0 a1 = some r) : EvP prog aH ext 83 [rS a0, rS a1] [] (rI r, []) := by
 refine Ev.body rfl Tryz.func83 rfl (by kernel_rfl)<|gS rfl rfl<|sV (r0)<|sN<|gS rfl rfl<|sM rfl<|bE h fun x1 hx1 h => cD (jO hx1)<|sA rfl<|sN<|gS rfl rfl<|sM rfl<|bE h fun x2 hx2 h => cD (jO hx2)<|sA rfl ?_
 refine sN<|qS<|gS rfl rfl<|sF h (fun h => ?_) fun h => ?_
 ·refine sN<|cT<|qS<|gS rfl rfl<|sF h (fun h => ?_) fun h => ?_
  ·refine sN<|cT<|gS rfl rfl<|sV (r0)<|sN<|qR ?_
   exact oI h▸qD
  refine sN<|cF<|qK<|gS rfl rfl<|sV (rI (-1))<|sN<|qR ?_
  exact oI h▸qD
 refine sN<|cF<|qK<|qS<|gS rfl rfl<|sF h (fun h => ?_) fun h => ?_
 ·refine sN<|cT<|gS rfl rfl<|sV (rI 1)<|sN<|qR ?_
  exact oI h▸qD
 refine sN<|cF<|qK<|qS<|gS rfl rfl<|sM rfl<|sM rfl<|sF h (fun h => ?_) fun h => ?_
 ·refine sN<|cT<|gS rfl rfl<|sV (rI (-1))<|sN<|qR ?_
  exact oI h▸qD
 refine sN<|cF<|qK<|qS<|gS rfl rfl<|sM rfl<|sM rfl<|sF h (fun h => ?_) fun h => ?_
 ·refine sN<|cT<|gS rfl rfl<|sV (rI 1)<|sN<|qR ?_
  exact oI h▸qD
 refine sN<|cF<|qK<|gS rfl rfl<|sV (r0)<|sN<|qR ?_
 exact oI h▸qD
theorem gG {a0 : (List Int)} {r : Int} (h : cM a0 = some r) : EvP prog aH ext 82 [.d (.lst (a0.map (PD.int .i64)))] [] (rI r, []) := by
 refine Ev.body rfl Tryz.func82 rfl (by kernel_rfl)<|gS rfl rfl<|sV (r0)<|sN<|gS rfl rfl<|sV (r0)<|sN<|qS<|gS rfl rfl<|sM rfl<|sE (rI (a0.length : Int)) (oD _ _)<|sV (r0)<|sN<|bE h fun o7 ho7 h => WC.block (WC.loop (WL.oL ho7 (fun s R' B' => jX prog 0 (A R' B') (aH.at_ 82 0 3) = some (A [(3, r0), (6, .d (.lst (a0.map (PD.int .i64)))), (7, rI (a0.length : Int)), (8, rI s)] [])) (fun o e R' B' => match o with | .inl y => e = .exit 0 ∧ jX prog 0 (A R' B') (aH.at_ 82 0 8) = some (A [(3, r0)] []) | .inr r => e = .ret ∧ finish prog (aH.own 82) Tryz.f82 0 (A R' B') = some (rI r, [])) rfl ?_ ?_))
 ·rintro s1 R' B' q2 hI h
  refine gS rfl hI<|sF h (fun h => ?_) fun h => ?_
  ·refine sN<|qS<|cT<|qK<|qS<|qB<|gS rfl rfl<|bE h fun x4 hx4 h => eG hx4 rfl<|sC rfl<|sA rfl<|sN<|gS rfl rfl<|sM rfl<|sM rfl ?_
   refine sF h (fun h => ?_) fun h => ?_
   ·refine sN<|cT<|gS rfl rfl<|sM rfl<|sA rfl<|sN<|qR ?_
    cases oI h
    exact ⟨nofun, rfl, rfl⟩
   refine sN<|cF<|qK<|WC.region rfl rfl<|sV (rI (rW (s1 + (1 : Int))))<|sM rfl<|sN ?_
   cases oI h
   exact ⟨rfl, rfl⟩
  refine sN<|qS<|cF<|qX ?_
  cases oI h
  exact ⟨nofun, rfl, rfl⟩
 intro e R' B' he hq
 rcases o7 with y8 | r9
 ·obtain ⟨rfl, hI⟩ := hq
  refine qE<|gS rfl hI<|sM rfl<|sA rfl<|sN<|qR ?_
  exact oI h▸qD
 obtain ⟨rfl, hf⟩ := hq
 cases oI h
 exact hf
theorem kY {a0 : aI} {a1 : aI} {r : Int} (h : dG a0 a1 = some r) : EvP prog aH ext 52 [.d (aI.pd a0), .d (aI.pd a1)] [] (rI r, []) := by
 refine Ev.body rfl Tryz.func52 rfl (by kernel_rfl)<|gS rfl rfl<|sB (.ptr 32 0) 32 (.var [rS a0.aU, rS a0.aL, rS a0.aq, rS a0.aX])<|sB (.ptr 48 0) 48 (.var [rS a1.aU, rS a1.aL, rS a1.aq, rS a1.aX])<|sV (r0)<|sN<|WC.cI rfl rfl<|sV (.ptr 32 0)<|sL rfl<|sV (.ptr 48 0)<|sL rfl<|bE h fun x1 hx1 h => cD (ed hx1)<|sV (.ptr 32 1)<|sL rfl ?_
 refine sV (.ptr 48 1)<|sL rfl<|bE h fun x2 hx2 h => cD (ed hx2)<|sV (.ptr 32 2)<|sL rfl<|sV (.ptr 48 2)<|sL rfl<|bE h fun x3 hx3 h => cD (ed hx3)<|sV (.ptr 32 3)<|sL rfl<|sV (.ptr 48 3)<|sL rfl<|bE h fun x4 hx4 h => ?_
 refine cD (ed hx4)<|sV (.d (.lst ([x1, x2, x3, x4].map (PD.int .i64))))<|bE h fun x5 hx5 h => cD (gG hx5)<|sA rfl ?_
 refine sN<|sO<|qR ?_
 exact oI h▸qD
theorem kr {a0 : aD} {r : Bool} (h : da a0 = some r) : EvP prog aH ext 34 [.d (aD.pd a0)] [] (rB r, []) := by
 refine Ev.body rfl Tryz.func34 rfl (by kernel_rfl)<|gS rfl rfl<|sB (.ptr 16 0) 16 (.var [.d (.lst (a0.aQ.map au.pd))])<|sU<|sN<|qS<|gS rfl rfl<|sV (.ptr 16 0)<|sL rfl<|sE (rI (a0.aQ.length : Int)) (oD _ _)<|sV (r0)<|sN<|bE h fun o14 ho14 h => WC.block (WC.loop (WL.oL ho14 (fun s R' B' => jX prog 0 (A R' B') (aH.at_ 34 0 2) = some (A [(1, .ptr 16 0), (6, .d (.lst (a0.aQ.map au.pd))), (7, rI (a0.aQ.length : Int)), (8, rI s)] [(16, .var [.d (.lst (a0.aQ.map au.pd))])])) (fun o e R' B' => match o with | .inl y => e = .exit 0 ∧ jX prog 0 (A R' B') (aH.at_ 34 0 7) = some (A [(1, .ptr 16 0)] [(16, .var [.d (.lst (a0.aQ.map au.pd))])]) | .inr r => e = .ret ∧ finish prog (aH.own 34) Tryz.f34 0 (A R' B') = some (rB r, [])) rfl ?_ ?_))
 ·rintro s1 R' B' q2 hI h
  refine gS rfl hI<|sF h (fun h => ?_) fun h => ?_
  ·refine sN<|qS<|cT<|qK<|qS<|qB<|gS rfl rfl<|sM rfl<|bE h fun x4 hx4 h => eG hx4 rfl<|sV (.d (au.pd x4))<|sB (.ptr 64 0) 64 (.var [rS [], rS [], rS [], rS [], .jY])<|sA rfl<|sS 64 (.var (au.rc x4))<|sN ?_
   refine WC.cI rfl rfl<|sV (.ptr 64 0)<|sV (.d (aI.pd x4.aJ))<|bE h fun x5 hx5 h => cD (jN hx5)<|sF h (fun h => ?_) fun h => ?_
   ·refine sM rfl<|k3<|sK<|sT<|sM rfl<|k3<|k3<|sK<|sK ?_
    refine k3<|k3<|sK<|sT ?_
    refine sN<|sO<|cT<|gS rfl rfl<|sU<|sN<|qR ?_
    cases oI h
    exact ⟨nofun, rfl, rfl⟩
   refine sM rfl<|sV (.ptr 64 4)<|sL rfl<|bE h fun x7 hx7 h => cD (nj hx7)<|sV (rB (!x7))<|sF h (fun h => ?_) fun h => ?_
   ·refine sM rfl<|k3<|k3<|k3<|k3<|sK<|sK ?_
    refine sK<|sT ?_
    refine sN<|sO<|cT<|gS rfl rfl<|sU<|sN<|qR ?_
    cases oI h
    exact ⟨nofun, rfl, rfl⟩
   refine sM rfl<|sM rfl<|sF h (fun h => ?_) fun h => ?_
   ·refine sM rfl<|sV (.ptr 16 0)<|sL rfl<|sM rfl<|sV (rI (rW (s1 - (1 : Int))))<|bE h fun x10 hx10 h => eG hx10 rfl<|sV (.cptr [.str x10.aJ.aU, .str x10.aJ.aL, .str x10.aJ.aq, .str x10.aJ.aX, .lst (x10.bo.map al.pd)])<|sV (.d (aI.pd x10.aJ))<|sV (.ptr 64 0)<|sV (.d (aI.pd x4.aJ))<|bE h fun x11 hx11 h => cD (kY hx11)<|sV (rB (decide (x11 ≥ (0 : Int))))<|sV (rB (decide (x11 ≥ (0 : Int)))) ?_
    refine sF h (fun h => ?_) fun h => ?_
    ·refine sN<|sO<|cT<|gS rfl rfl<|sU<|sN<|qR ?_
     cases oI h
     exact ⟨nofun, rfl, rfl⟩
    refine sN<|sO<|cF<|qK<|WC.region rfl rfl<|sV (rI (rW (s1 + (1 : Int))))<|sM rfl<|sN ?_
    cases oI h
    exact ⟨rfl, rfl⟩
   refine sM rfl<|k3<|k3<|k3<|sK<|sK<|sU<|sU ?_
   refine sN<|sO<|cF<|qK<|WC.region rfl rfl<|sV (rI (rW (s1 + (1 : Int))))<|sM rfl<|sN ?_
   cases oI h
   exact ⟨rfl, rfl⟩
  refine sN<|qS<|cF<|qX ?_
  cases oI h
  exact ⟨nofun, rfl, rfl⟩
 intro e R' B' he hq
 rcases o14 with y15 | r16
 ·obtain ⟨rfl, hI⟩ := hq
  refine qE<|gS rfl hI<|sV (.ptr 16 0)<|sL rfl<|sE (rI (a0.aQ.length : Int)) (oD _ _)<|sV (rB (decide ((a0.aQ.length : Int) ≤ (128 : Int))))<|sA rfl<|sN<|qR ?_
  exact oI h▸qD
 obtain ⟨rfl, hf⟩ := hq
 cases oI h
 exact hf
theorem eW {a0 : Int} {r : Bool} (h : dV a0 = some r) : EvP prog aH ext 122 [rI a0] [] (rB r, []) := by
 refine Ev.body rfl Tryz.func122 rfl (by kernel_rfl)<|gS rfl rfl<|sU<|sN<|gS rfl rfl<|sM rfl<|sM rfl<|sV (rB (a0 != a0))<|sA rfl<|sN<|qR ?_
 exact oI h▸qD
theorem bJ {a0 : Int} {a1 : Int} {r : Int} (h : bD a0 a1 = some r) : EvP prog aH ext 86 [rI a0, rI a1] [] (rI r, []) := by
 refine Ev.body rfl Tryz.func86 rfl (by kernel_rfl)<|gS rfl rfl<|sV (r0)<|sN<|gS rfl rfl<|sM rfl<|bE h fun x1 hx1 h => cD (eW hx1)<|sA rfl<|sN<|gS rfl rfl<|sM rfl<|bE h fun x2 hx2 h => cD (eW hx2)<|sA rfl ?_
 refine sN<|qS<|gS rfl rfl<|sF h (fun h => ?_) fun h => ?_
 ·refine sN<|cT<|qS<|gS rfl rfl<|sF h (fun h => ?_) fun h => ?_
  ·refine sN<|cT<|gS rfl rfl<|sV (r0)<|sN<|qR ?_
   exact oI h▸qD
  refine sN<|cF<|qK<|gS rfl rfl<|sV (rI (-1))<|sN<|qR ?_
  exact oI h▸qD
 refine sN<|cF<|qK<|qS<|gS rfl rfl<|sF h (fun h => ?_) fun h => ?_
 ·refine sN<|cT<|gS rfl rfl<|sV (rI 1)<|sN<|qR ?_
  exact oI h▸qD
 refine sN<|cF<|qK<|qS<|gS rfl rfl<|sM rfl<|sM rfl<|sF h (fun h => ?_) fun h => ?_
 ·refine sN<|cT<|gS rfl rfl<|sV (rI (-1))<|sN<|qR ?_
  exact oI h▸qD
 refine sN<|cF<|qK<|qS<|gS rfl rfl<|sM rfl<|sM rfl<|sF h (fun h => ?_) fun h => ?_
 ·refine sN<|cT<|gS rfl rfl<|sV (rI 1)<|sN<|qR ?_
  exact oI h▸qD
 refine sN<|cF<|qK<|gS rfl rfl<|sV (r0)<|sN<|qR ?_
 exact oI h▸qD
theorem lV {d0 : (List ap)} {r : (List ap)} (h : dP d0 = some r) : EvP prog aH ext 56 [.ref 0 0] [.arr 0 48 (d0.map ap.pd)] (.d (.lst (r.map ap.pd)), [.dead]) := by
 refine Ev.body rfl Tryz.func56 rfl (by kernel_rfl)<|gS rfl rfl<|sV .jY<|sN<|qS<|gS rfl rfl<|sM rfl<|WO.uB rfl rfl rfl rfl rfl rfl rfl rfl rfl<|sF h (fun h => ?_) fun h => ?_
 ·refine sN<|cT<|gS rfl rfl<|sM rfl<|sA rfl<|sN<|qR ?_
  exact oI h▸qD
 refine sN<|cF<|qK<|qS<|gS rfl rfl<|sV (rI 1)<|sN<|bE h fun o39 ho39 h => WC.block (WC.loop (WL.oL ho39 (fun s R' B' => jX prog 1 (A R' B') (aH.at_ 56 1 4) = some (A [(0, .ref 0 0), (3, rI s)] [(0, .arr 0 48 (d0.map ap.pd))])) (fun o e R' B' => match o with | .inl y => e = .exit 0 ∧ jX prog 1 (A R' B') (aH.at_ 56 1 16) = some (A [(0, .ref 0 0)] [(0, .arr 0 48 (d0.map ap.pd))]) | .inr r => e = .ret ∧ finish prog (aH.own 56) Tryz.f56 1 (A R' B') = some (.d (.lst (r.map ap.pd)), [.dead])) rfl ?_ ?_))
 ·rintro s2 R' B' q3 hI h
  refine qS<|gS rfl hI<|sM rfl<|sM rfl<|WO.uB rfl rfl rfl rfl rfl rfl rfl rfl rfl<|sF h (fun h => ?_) fun h => ?_
  ·refine sN<|cT<|qK<|qS<|qB<|WC.cI rfl rfl<|sM rfl<|sM rfl<|bE h fun x6 hx6 h => WO.pX hx6 rfl rfl rfl rfl rfl rfl rfl rfl<|bE h fun x7 hx7 h => WO.pN hx7 rfl rfl rfl rfl rfl rfl<|sM rfl<|sM rfl<|sV (rI (rW (s2 - (1 : Int)))) ?_
   refine bE h fun x9 hx9 h => WO.pX hx9 rfl rfl rfl rfl rfl rfl rfl rfl<|bE h fun x10 hx10 h => WO.pN hx10 rfl rfl rfl rfl rfl rfl<|pb h (fun hb11 h => ?_) (fun hb11 h => ?_)
   ·refine WO.uA (eqE_48 x7 x10) hb11 rfl rfl rfl rfl rfl ?_
    refine sN<|sO<|cT<|gS rfl rfl<|sM rfl<|sM rfl<|bE h fun x12 hx12 h => WO.subR hx12 rfl rfl rfl rfl rfl rfl rfl rfl rfl rfl rfl rfl<|sA rfl<|sN<|qS<|gS rfl rfl<|sV (rI 1)<|sN<|bE h fun o32 ho32 h => WC.block (WC.loop (WL.oL ho32 (fun s R' B' => jX prog 1 (A R' B') (aH.at_ 56 1 9) = some (A [(0, .ref 0 0), (3, rI s.1), (4, .view 0 0 (0 + (s2 : Int).toNat) (0 + ((d0.length : Int) : Int).toNat)), (5, rI s.2.1)] [(0, .arr 0 48 (s.2.2.map ap.pd))])) (fun o e R' B' => e = .exit 2 ∧ jX prog 1 (A R' B') (aH.at_ 56 1 14) = some (A [(0, .ref 0 0), (3, rI o.1)] [(0, .arr 0 48 (o.2.map ap.pd))])) rfl ?_ ?_))
    ·rintro ⟨s13, s14, s15⟩ R' B' q18 hI h
     unfold fb at h
     refine qS<|gS rfl hI<|sM rfl<|sM rfl<|bE h fun x19 hx19 h => WO.lenVw hx19 rfl rfl rfl rfl rfl rfl rfl rfl rfl<|sF h (fun h => ?_) fun h => ?_
     ·refine sN<|cT<|qK<|qS<|qB<|WC.cI rfl rfl<|sM rfl<|sM rfl<|bE h fun x21 hx21 h => WO.eltV hx21 rfl rfl rfl rfl rfl rfl rfl rfl<|bE h fun x22 hx22 h => WO.pN hx22 rfl rfl rfl rfl rfl rfl<|sM rfl<|sM rfl<|sV (rI (rW (s14 - (1 : Int)))) ?_
      refine bE h fun x23 hx23 h => WO.eltV hx23 rfl rfl rfl rfl rfl rfl rfl rfl<|bE h fun x24 hx24 h => WO.pN hx24 rfl rfl rfl rfl rfl rfl<|pb h (fun hb25 h => ?_) (fun hb25 h => ?_)
      ·refine WO.uA (eqN_48 x22 x24) hb25 rfl rfl rfl rfl rfl ?_
       refine sN<|sO<|cT<|gS rfl rfl<|sM rfl<|sM rfl<|sM rfl<|sM rfl<|bE h fun x26 hx26 h => WO.eltV hx26 rfl rfl rfl rfl rfl rfl rfl rfl<|bE h fun x27 hx27 h => WO.pN hx27 rfl rfl rfl rfl rfl rfl<|bE h fun x29 hx29 h => WO.pX hx29 rfl rfl rfl rfl rfl rfl rfl rfl<|bE h fun x30 hx30 h => WO.rZ (g := ap.pd) (sz := 9) (p := ap.pd x27) hx30 (by intro _; kernel_rfl) (by intro _; kernel_rfl) rfl rfl rfl rfl rfl rfl rfl rfl rfl ?_
       refine sN<|WC.region rfl rfl<|sM rfl<|sV (rI (rW (s13 + (1 : Int))))<|sA rfl<|sN<|WC.region rfl rfl<|sM rfl<|sV (rI (rW (s14 + (1 : Int))))<|sA rfl<|sN ?_
       cases oI h
       exact ⟨rfl, rfl⟩
      refine WO.uA (eqN_48 x22 x24) hb25 rfl rfl rfl rfl rfl ?_
      refine sN<|sO<|cF<|qK<|WC.region rfl rfl<|sM rfl<|sV (rI (rW (s14 + (1 : Int))))<|sA rfl<|sN ?_
      cases oI h
      exact ⟨rfl, rfl⟩
     refine sN<|cF<|qX ?_
     cases oI h
     exact ⟨nofun, rfl, rfl⟩
    intro e R' B' he hq
    obtain ⟨rfl, hI⟩ := hq
    refine qE<|gS rfl hI<|sM rfl<|sM rfl<|bE h fun x33 hx33 h => WO.subR hx33 rfl rfl rfl rfl rfl rfl rfl rfl rfl rfl rfl rfl<|bE h fun x34 hx34 h => WO.clearN (z := (ap.mk (aI.mk [] [] [] []) 0 0 0 0 0)) (g := ap.pd) rfl rfl rfl rfl rfl rfl rfl (dst_view hx34 rfl) rfl rfl rfl rfl<|sN<|gS rfl rfl<|sM rfl<|sM rfl<|bE h fun x36 hx36 h => WO.subR hx36 rfl rfl rfl rfl rfl rfl rfl rfl rfl rfl rfl rfl<|sA rfl ?_
    refine sN<|qR<|bE h fun x37 hx37 h => ?_
    cases oI h
    exact ⟨nofun, rfl, (zi hx37 rfl rfl rfl rfl rfl)⟩
   refine WO.uA (eqE_48 x7 x10) hb11 rfl rfl rfl rfl rfl ?_
   refine sN<|sO<|cF<|qK<|WC.region rfl rfl<|sM rfl<|sV (rI (rW (s2 + (1 : Int))))<|sA rfl<|sN ?_
   cases oI h
   exact ⟨rfl, rfl⟩
  refine sN<|cF<|qX ?_
  cases oI h
  exact ⟨nofun, rfl, rfl⟩
 intro e R' B' he hq
 rcases o39 with y40 | r41
 ·obtain ⟨rfl, hI⟩ := hq
  refine qE<|gS rfl hI<|sM rfl<|sA rfl<|sN<|qR ?_
  exact oI h▸qD
 obtain ⟨rfl, hf⟩ := hq
 cases oI h
 exact hf
theorem picker_Sort_ev {a0 : (List ap)} {r : (List ap)} (h : eF a0 = some r) : EvP prog aH ext 35 [.d (.lst (a0.map ap.pd))] [] (.d (.lst (r.map ap.pd)), []) := by
 refine Ev.body rfl Tryz.func35 rfl (by kernel_rfl)<|gS rfl rfl<|sV .jY<|sN<|gS rfl rfl<|sM rfl<|bE h fun x1 hx1 h => cR (.ref 80 0) [(80, .arr 0 48 (x1.map ap.pd))] (clone_53 hx1)<|sA rfl<|sN<|gS rfl rfl<|sM rfl<|bE h fun x2 hx2 h => cR (.tup []) [(80, .arr 0 48 (x2.map ap.pd))] (sort_54_55 hx2)<|sN ?_
 refine gS rfl rfl<|sM rfl<|bE h fun x3 hx3 h => cR (.d (.lst (x3.map ap.pd))) [(80, .dead)] (lV hx3)<|sA rfl<|sN<|qR ?_
 exact oI h▸qD
theorem ot {a0 : Int} {a1 : Int} {a2 : Int} {r : Bool} (h : gt a0 a1 a2 = some r) : EvP prog aH ext 87 [rI a0, rI a1, rI a2] [] (rB r, []) := by
 refine Ev.body rfl Tryz.func87 rfl (by kernel_rfl)<|gS rfl rfl<|sU<|sN<|gS rfl rfl<|sM rfl<|sM rfl<|sF h (fun h => ?_) fun h => ?_
 ·refine sM rfl<|sM rfl<|sM rfl<|sV (rB (decide (a0 ≤ a2)))<|sV (rB (decide (a0 ≤ a2)))<|sA rfl<|sN<|qR ?_
  exact oI h▸qD
 refine sM rfl<|k3<|sU<|sA rfl<|sN<|qR ?_
 exact oI h▸qD
theorem np {a0 : ap} {r : Bool} (h : d4 a0 = some r) : EvP prog aH ext 57 [.d (ap.pd a0)] [] (rB r, []) := by
 refine Ev.body rfl Tryz.func57 rfl (by kernel_rfl)<|gS rfl rfl<|sB (.ptr 16 0) 16 (.var (ap.rc a0))<|sU<|sN<|gS rfl rfl<|sV (.ptr 16 0)<|sV (.d (aI.pd a0.aJ))<|bE h fun x1 hx1 h => pb h (fun hb2 h => ?_) (fun hb2 h => ?_)
 ·refine WO.pD (v := rB true) (u := []) rfl rfl (fun _ => rfl) rfl rfl rfl rfl rfl (jN hx1) rfl rfl (congrArg (fun b => RV.d (.bool b)) hb2) rfl<|sM rfl<|sV (.ptr 16 5)<|sL rfl<|sV (rB (decide (a0.bw ≥ (0 : Int))))<|sF h (fun h => ?_) fun h => ?_
  ·refine sM rfl<|sV (.ptr 16 5)<|sL rfl<|sV (.ptr 16 4)<|sL rfl<|sV (rB (decide (a0.bw ≤ a0.a8)))<|sF h (fun h => ?_) fun h => ?_
   ·refine sM rfl<|sV (.ptr 16 4)<|sL rfl<|sV (.ptr 16 6)<|sL rfl<|sV (rB (decide (a0.a8 ≤ a0.bO)))<|sF h (fun h => ?_) fun h => ?_
    ·refine sM rfl<|sV (.ptr 16 6)<|sL rfl<|sV (rB (decide (a0.bO ≤ (18014398509481984 : Int))))<|sF h (fun h => ?_) fun h => ?_
     ·refine sM rfl<|sV (.ptr 16 7)<|sL rfl<|bE h fun x7 hx7 h => cD (ot hx7)<|sF h (fun h => ?_) fun h => ?_
      ·refine sM rfl<|sV (.ptr 16 8)<|sL rfl<|bE h fun x9 hx9 h => cD (ot hx9)<|sV (rB x9)<|sA rfl<|sN<|qR ?_
       cases oI h
       exact qG
      refine sM rfl<|k3<|sU<|sA rfl<|sN<|qR ?_
      cases oI h
      exact qG
     refine sM rfl<|k3<|sU<|sM rfl<|k3<|sU<|sA rfl<|sN<|qR ?_
     cases oI h
     exact qG
    refine sM rfl<|k3<|sU<|sM rfl<|k3<|sU<|sM rfl<|k3<|sU ?_
    refine sA rfl<|sN<|qR ?_
    cases oI h
    exact qG
   refine sM rfl<|k3<|sK<|sK<|sU<|sM rfl<|k3<|sU<|sM rfl<|sK<|sK ?_
   refine sK<|sU<|sM rfl<|k3<|sU<|sA rfl<|sN<|qR ?_
   cases oI h
   exact qG
  refine sM rfl<|k3<|sK<|sK<|sU<|sM rfl<|k3<|sK<|sK<|sU<|sM rfl ?_
  refine k3<|sU<|sM rfl<|k3<|sU<|sM rfl<|k3<|sU<|sA rfl ?_
  refine sN<|qR ?_
  cases oI h
  exact qG
 refine WO.pD (v := rB false) (u := []) rfl rfl (fun _ => rfl) rfl rfl rfl rfl rfl (jN hx1) rfl rfl (congrArg (fun b => RV.d (.bool b)) hb2) rfl<|sM rfl<|k3<|sU<|sM rfl<|k3<|sK<|sK<|sU<|sM rfl<|sK ?_
 refine k3<|sK<|sU<|sM rfl<|k3<|sU<|sM rfl<|k3<|sU ?_
 refine sM rfl<|k3<|sU<|sA rfl<|sN<|qR ?_
 cases oI h
 exact qG
theorem lG {a0 : al} {r : al} (h : c7 a0 = some r) : EvP prog aH ext 160 [.d (al.pd a0)] [] (.d (al.pd r), []) := by
 refine Ev.body rfl Tryz.func160 rfl (by kernel_rfl)<|gS rfl rfl<|sB (.ptr 16 0) 16 (.var (al.rc a0))<|sB (.ptr 32 0) 32 (.var zZ2)<|sN<|gS rfl rfl<|sV (.ptr 16 7)<|sV (.ptr 16 7)<|sL rfl<|bE h fun x1 hx1 h => cR (.ref 112 0) [(112, .arr 0 104 (x1.map aB.pd))] (clone_178 hx1)<|sV (.ptr 16 7)<|sV (.ptr 16 7)<|sS 16 (.var [rI a0.bF, rI a0.fTo, rI a0.ct.bh, rI a0.ct.bg, rI a0.aV.fX, rI a0.aV.fY, rI a0.aV.fZ, .ref 112 0])<|sN ?_
 refine qS<|gS rfl rfl<|sV (.ptr 16 7)<|sV (.ptr 16 7)<|sL rfl<|WO.uB rfl rfl rfl rfl rfl rfl rfl rfl rfl<|sV (r0)<|sN<|bE h fun o16 ho16 h => WC.block (WC.loop (WL.oL ho16 (fun s R' B' => jX prog 0 (A R' B') (aH.at_ 160 0 3) = some (A [(1, .ptr 16 0), (2, .ptr 32 0), (13, rI (x1.length : Int)), (14, rI s.1)] [(16, .var [rI a0.bF, rI a0.fTo, rI a0.ct.bh, rI a0.ct.bg, rI a0.aV.fX, rI a0.aV.fY, rI a0.aV.fZ, .ref 112 0]), (32, .var zZ2), (112, .arr 0 104 (s.2.map aB.pd))])) (fun o e R' B' => e = .exit 0 ∧ jX prog 0 (A R' B') (aH.at_ 160 0 7) = some (A [(1, .ptr 16 0), (2, .ptr 32 0)] [(16, .var [rI a0.bF, rI a0.fTo, rI a0.ct.bh, rI a0.ct.bg, rI a0.aV.fX, rI a0.aV.fY, rI a0.aV.fZ, .ref 112 0]), (32, .var zZ2), (112, .arr 0 104 (o.map aB.pd))])) rfl ?_ ?_))
 ·rintro ⟨s2, s3⟩ R' B' q5 hI h
  refine gS rfl hI<|sF h (fun h => ?_) fun h => ?_
  ·refine sN<|qS<|cT<|qK<|qS<|qB<|gS rfl rfl<|sM rfl<|sA rfl<|sN<|WC.pC rfl rfl<|sV (.ptr 16 7)<|sV (.ptr 16 7)<|sL rfl<|sM rfl ?_
   refine sV (.ptr 16 7)<|sV (.ptr 16 7)<|sL rfl<|sM rfl<|bE h fun x8 hx8 h => WO.pX hx8 rfl rfl rfl rfl rfl rfl rfl rfl<|sV (.elt 112 0 (s2).toNat 7)<|bE h fun x9 hx9 h => WO.pN hx9 rfl rfl rfl rfl rfl rfl<|bE h fun x10 hx10 h => cR (.ref 448 0) [(448, .arr 0 3 (x10.map (PD.int .i64)))] (clone_37 hx10)<|bE h fun x12 hx12 h => WO.pX hx12 rfl rfl rfl rfl rfl rfl rfl rfl<|sV (.elt 112 0 (s2).toNat 7)<|bE h fun x13 hx13 h => ?_
   refine WO.Ap (g := aB.pd) (u := [(448, .dead)]) (sz := 1) hx13 (fun _ => rfl) (fun _ => Nat.le_of_ble_eq_true rfl) rfl rfl rfl rfl rfl rfl rfl rfl rfl rfl rfl ?_
   refine sN<|sO<|WC.region rfl rfl<|sV (rI (rW (s2 + (1 : Int))))<|sM rfl<|sN ?_
   cases oI h
   exact ⟨rfl, rfl⟩
  refine sN<|qS<|cF<|qX ?_
  cases oI h
  exact ⟨nofun, rfl, rfl⟩
 intro e R' B' he hq
 obtain ⟨rfl, hI⟩ := hq
 refine qE<|gS rfl hI<|sV (.agg [rI a0.bF, rI a0.fTo, rI a0.ct.bh, rI a0.ct.bg, rI a0.aV.fX, rI a0.aV.fY, rI a0.aV.fZ, .ref 112 0])<|sH 32 (.var [rI a0.bF, rI a0.fTo, rI a0.ct.bh, rI a0.ct.bg, rI a0.aV.fX, rI a0.aV.fY, rI a0.aV.fZ, .ref 112 0])<|sN<|qR ?_
 cases oI h
 exact qG
theorem nh {a0 : au} {r : au} (h : dY a0 = some r) : EvP prog aH ext 123 [.d (au.pd a0)] [] (.d (au.pd r), []) := by
 refine Ev.body rfl Tryz.func123 rfl (by kernel_rfl)<|gS rfl rfl<|sB (.ptr 16 0) 16 (.var (au.rc a0))<|sB (.ptr 32 0) 32 (.var [rS [], rS [], rS [], rS [], .jY])<|sN<|gS rfl rfl<|sV (.ptr 16 4)<|sL rfl<|bE h fun x1 hx1 h => cR (.ref 112 0) [(112, .arr 0 71 (x1.map al.pd))] (clone_159 hx1)<|sV (.ptr 16 4)<|sS 16 (.var [rS a0.aJ.aU, rS a0.aJ.aL, rS a0.aJ.aq, rS a0.aJ.aX, .ref 112 0])<|sN<|qS<|gS rfl rfl ?_
 refine sV (.ptr 16 4)<|sL rfl<|WO.uB rfl rfl rfl rfl rfl rfl rfl rfl rfl<|sV (r0)<|sN<|bE h fun o15 ho15 h => WC.block (WC.loop (WL.oL ho15 (fun s R' B' => jX prog 0 (A R' B') (aH.at_ 123 0 3) = some (A [(1, .ptr 16 0), (2, .ptr 32 0), (10, .ref 112 0), (11, rI (x1.length : Int)), (12, rI s.1)] [(16, .var [rS a0.aJ.aU, rS a0.aJ.aL, rS a0.aJ.aq, rS a0.aJ.aX, .ref 112 0]), (32, .var [rS [], rS [], rS [], rS [], .jY]), (112, .arr 0 71 (s.2.map al.pd))])) (fun o e R' B' => e = .exit 0 ∧ jX prog 0 (A R' B') (aH.at_ 123 0 7) = some (A [(1, .ptr 16 0), (2, .ptr 32 0)] [(16, .var [rS a0.aJ.aU, rS a0.aJ.aL, rS a0.aJ.aq, rS a0.aJ.aX, .ref 112 0]), (32, .var [rS [], rS [], rS [], rS [], .jY]), (112, .arr 0 71 (o.map al.pd))])) rfl ?_ ?_))
 ·rintro ⟨s2, s3⟩ R' B' q5 hI h
  refine gS rfl hI<|sF h (fun h => ?_) fun h => ?_
  ·refine sN<|qS<|cT<|qK<|qS<|qB<|gS rfl rfl<|sM rfl<|bE h fun x8 hx8 h => WO.pX hx8 rfl rfl rfl rfl rfl rfl rfl rfl<|bE h fun x9 hx9 h => WO.pN hx9 rfl rfl rfl rfl rfl rfl<|sB (.ptr 64 0) 64 (.var zZ2)<|sA rfl<|sH 64 (.var (al.rc x9)) ?_
   refine sN<|WC.pC rfl rfl<|sV (.ptr 16 4)<|sL rfl<|sM rfl<|sV (.d (al.pd x9))<|bE h fun x10 hx10 h => cD (lG hx10)<|bE h fun x12 hx12 h => WO.pX hx12 rfl rfl rfl rfl rfl rfl rfl rfl<|bE h fun x13 hx13 h => WO.rZ (g := al.pd) (sz := 8) (p := al.pd x10) hx13 (by intro _; kernel_rfl) (by intro _; kernel_rfl) rfl rfl rfl rfl rfl rfl rfl rfl rfl ?_
   refine sN<|sO<|WC.region rfl rfl<|sV (rI (rW (s2 + (1 : Int))))<|sM rfl<|sN ?_
   cases oI h
   exact ⟨rfl, rfl⟩
  refine sN<|qS<|cF<|qX ?_
  cases oI h
  exact ⟨nofun, rfl, rfl⟩
 intro e R' B' he hq
 obtain ⟨rfl, hI⟩ := hq
 refine qE<|gS rfl hI<|sV (.agg [rS a0.aJ.aU, rS a0.aJ.aL, rS a0.aJ.aq, rS a0.aJ.aX, .ref 112 0])<|sS 32 (.var [rS a0.aJ.aU, rS a0.aJ.aL, rS a0.aJ.aq, rS a0.aJ.aX, .ref 112 0])<|sN<|qR ?_
 exact oI h▸qD
theorem oi {a0 : aD} {a1 : aI} {r : au × Bool} (h : eX a0 a1 = some r) : EvP prog aH ext 88 [.d (aD.pd a0), .d (aI.pd a1)] [] (.tup [.d (au.pd r.1), rB r.2], []) := by
 refine Ev.body rfl Tryz.func88 rfl (by kernel_rfl)<|gS rfl rfl<|sB (.ptr 32 0) 32 (.var [.d (.lst (a0.aQ.map au.pd))])<|sB (.ptr 48 0) 48 (.var [rS a1.aU, rS a1.aL, rS a1.aq, rS a1.aX])<|sB (.ptr 64 0) 64 (.var [rS [], rS [], rS [], rS [], .jY])<|sU<|sN<|qS<|gS rfl rfl<|sV (.ptr 32 0)<|sL rfl<|sE (rI (a0.aQ.length : Int)) (oD _ _)<|sV (r0)<|sN<|bE h fun o8 ho8 h => ?_
 refine WC.block (WC.loop (WL.oL ho8 (fun s R' B' => jX prog 0 (A R' B') (aH.at_ 88 0 2) = some (A [(3, .ptr 48 0), (4, .ptr 64 0), (9, .d (.lst (a0.aQ.map au.pd))), (10, rI (a0.aQ.length : Int)), (11, rI s)] [(48, .var [rS a1.aU, rS a1.aL, rS a1.aq, rS a1.aX]), (64, .var [rS [], rS [], rS [], rS [], .jY])])) (fun o e R' B' => match o with | .inl y => e = .exit 0 ∧ jX prog 0 (A R' B') (aH.at_ 88 0 7) = some (A [(4, .ptr 64 0)] [(64, .var [rS [], rS [], rS [], rS [], .jY])]) | .inr r => e = .ret ∧ finish prog (aH.own 88) Tryz.f88 0 (A R' B') = some (.tup [.d (au.pd r.1), rB r.2], [])) rfl ?_ ?_))
 ·rintro s1 R' B' q2 hI h
  refine gS rfl hI<|sF h (fun h => ?_) fun h => ?_
  ·refine sN<|qS<|cT<|qK<|qS<|qB<|gS rfl rfl<|bE h fun x4 hx4 h => eG hx4 rfl<|sV (.d (.agg [.str x4.aJ.aU, .str x4.aJ.aL, .str x4.aJ.aq, .str x4.aJ.aX, .lst (x4.bo.map al.pd)]))<|sB (.ptr 112 0) 112 (.var [rS [], rS [], rS [], rS [], .jY])<|sS 112 (.var (au.rc x4))<|sN<|gS rfl rfl<|sV (.ptr 112 0) ?_
   refine sV (.d (aI.pd x4.aJ))<|sV (.d (aI.pd a1))<|pb h (fun hb5 h => ?_) (fun hb5 h => ?_)
   ·refine WO.uA (eqE_46 x4.aJ a1) hb5 rfl rfl rfl rfl rfl<|sN<|cT<|gS rfl rfl<|sV (.d (.agg [.str x4.aJ.aU, .str x4.aJ.aL, .str x4.aJ.aq, .str x4.aJ.aX, .lst (x4.bo.map al.pd)]))<|bE h fun x6 hx6 h => cD (nh hx6)<|sS 64 (.var (au.rc x6))<|sT<|sN<|qR ?_
    cases oI h
    exact ⟨nofun, rfl, rfl⟩
   refine WO.uA (eqE_46 x4.aJ a1) hb5 rfl rfl rfl rfl rfl<|sN<|cF<|qK<|WC.region rfl rfl<|sV (rI (rW (s1 + (1 : Int))))<|sM rfl<|sN ?_
   cases oI h
   exact ⟨rfl, rfl⟩
  refine sN<|qS<|cF<|qX ?_
  cases oI h
  exact ⟨nofun, rfl, rfl⟩
 intro e R' B' he hq
 rcases o8 with y9 | r10
 ·obtain ⟨rfl, hI⟩ := hq
  refine qE<|gS rfl hI<|sV (.agg [rS [], rS [], rS [], rS [], .jY])<|sS 64 (.var [rS [], rS [], rS [], rS [], .jY])<|sU<|sN<|qR ?_
  exact oI h▸qD
 obtain ⟨rfl, hf⟩ := hq
 cases oI h
 exact hf
theorem inventory_at_ev {a0 : au} {a1 : Int} {r : al × Bool} (h : gn a0 a1 = some r) : EvP prog aH ext 89 [.d (au.pd a0), rI a1] [] (.tup [.d (al.pd r.1), rB r.2], []) := by
 refine Ev.body rfl Tryz.func89 rfl (by kernel_rfl)<|gS rfl rfl<|sB (.ptr 32 0) 32 (.var (au.rc a0))<|sB (.ptr 64 0) 64 (.var zZ2)<|sU<|sN<|qS<|gS rfl rfl<|sV (.ptr 32 4)<|sL rfl<|sE (rI (a0.bo.length : Int)) (oD _ _)<|sV (r0)<|sN<|bE h fun o8 ho8 h => WC.block (WC.loop (WL.oL ho8 (fun s R' B' => jX prog 0 (A R' B') (aH.at_ 89 0 2) = some (A [(1, rI a1), (4, .ptr 64 0), (9, .d (.lst (a0.bo.map al.pd))), (10, rI (a0.bo.length : Int)), (11, rI s)] [(64, .var zZ2)])) (fun o e R' B' => match o with | .inl y => e = .exit 0 ∧ jX prog 0 (A R' B') (aH.at_ 89 0 7) = some (A [(4, .ptr 64 0)] [(64, .var zZ2)]) | .inr r => e = .ret ∧ finish prog (aH.own 89) Tryz.f89 0 (A R' B') = some (.tup [.d (al.pd r.1), rB r.2], [])) rfl ?_ ?_))
 ·rintro s1 R' B' q2 hI h
  refine gS rfl hI<|sF h (fun h => ?_) fun h => ?_
  ·refine sN<|qS<|cT<|qK<|qS<|qB<|gS rfl rfl<|bE h fun x4 hx4 h => eG hx4 rfl<|sV (.d (al.pd x4))<|sB (.ptr 112 0) 112 (.var zZ2)<|sH 112 (.var (al.rc x4))<|sN<|gS rfl rfl<|sV (.ptr 112 0) ?_
   refine sL rfl<|sM rfl<|sF h (fun h => ?_) fun h => ?_
   ·refine sM rfl<|sM rfl<|sV (.ptr 112 1)<|sL rfl<|sV (rB (decide (a1 < x4.fTo)))<|sF h (fun h => ?_) fun h => ?_
    ·refine sN<|cT<|gS rfl rfl<|sV (.d (al.pd x4))<|sH 64 (.var (al.rc x4))<|sT<|sN<|qR ?_
     cases oI h
     exact ⟨nofun, rfl, rfl⟩
    refine sN<|cF<|qK<|WC.region rfl rfl<|sV (rI (rW (s1 + (1 : Int))))<|sM rfl<|sN ?_
    cases oI h
    exact ⟨rfl, rfl⟩
   refine sM rfl<|k3<|sK<|sU<|sN<|cF<|qK<|WC.region rfl rfl<|sV (rI (rW (s1 + (1 : Int))))<|sM rfl<|sN ?_
   cases oI h
   exact ⟨rfl, rfl⟩
  refine sN<|qS<|cF<|qX ?_
  cases oI h
  exact ⟨nofun, rfl, rfl⟩
 intro e R' B' he hq
 rcases o8 with y9 | r10
 ·obtain ⟨rfl, hI⟩ := hq
  refine qE<|gS rfl hI<|sG (.agg zZ2)<|sH 64 (.var zZ2)<|sU<|sN<|qR ?_
  cases oI h
  exact qG
 obtain ⟨rfl, hf⟩ := hq
 cases oI h
 exact hf
theorem inventory_At_ev {a0 : aD} {a1 : aI} {a2 : Int} {r : al × Int} (h : gm a0 a1 a2 = some r) : EvP prog aH ext 58 [.d (aD.pd a0), .d (aI.pd a1), rI a2] [] (.tup [.d (al.pd r.1), rI r.2], []) := by
 refine Ev.body rfl Tryz.func58 rfl (by kernel_rfl)<|gS rfl rfl<|sB (.ptr 48 0) 48 (.var [.d (.lst (a0.aQ.map au.pd))])<|sB (.ptr 64 0) 64 (.var [rS a1.aU, rS a1.aL, rS a1.aq, rS a1.aX])<|sB (.ptr 96 0) 96 (.var zZ2)<|sV (r0)<|sN<|qS<|gS rfl rfl<|sV (.d (aD.pd a0))<|bE h fun x1 hx1 h => cD (kr hx1)<|sF h (fun h => ?_) fun h => ?_
 ·refine sN<|cT<|gS rfl rfl<|sG (.agg zZ2)<|sH 96 (.var zZ2)<|sV (rI 1)<|sN<|qR ?_
  cases oI h
  exact qG
 refine sN<|cF<|qK<|gS rfl rfl<|sV (.d (aD.pd a0))<|sV (.d (aI.pd a1))<|bE h fun x3 hx3 h => cR (.tup [.d (au.pd x3.1), rB x3.2]) [] (oi hx3)<|sM rfl<|sV (.d (au.pd x3.1))<|sV (rB x3.2)<|sB (.ptr 128 0) 128 (.var [rS [], rS [], rS [], rS [], .jY])<|sS 128 (.var (au.rc x3.1))<|sA rfl<|sN ?_
 refine gS rfl rfl<|sV (.d (.agg [.str x3.1.aJ.aU, .str x3.1.aJ.aL, .str x3.1.aJ.aq, .str x3.1.aJ.aX, .lst (x3.1.bo.map al.pd)]))<|sM rfl<|bE h fun x4 hx4 h => cR (.tup [.d (al.pd x4.1), rB x4.2]) [] (inventory_at_ev hx4)<|sM rfl<|sV (.d (al.pd x4.1))<|sV (rB x4.2)<|sB (.ptr 160 0) 160 (.var zZ2)<|sH 160 (.var (al.rc x4.1))<|sA rfl<|sN<|qS<|gS rfl rfl<|sM rfl ?_
 refine sF h (fun h => ?_) fun h => ?_
 ·refine sN<|cT<|gS rfl rfl<|sG (.agg zZ2)<|sH 96 (.var zZ2)<|sV (rI 6)<|sN<|qR ?_
  cases oI h
  exact qG
 refine sN<|cF<|qK<|gS rfl rfl<|sV (.d (.agg [.int .i64 x4.1.bF, .int .i64 x4.1.fTo, .int .i64 x4.1.ct.bh, .int .i64 x4.1.ct.bg, .int .i64 x4.1.aV.fX, .int .i64 x4.1.aV.fY, .int .i64 x4.1.aV.fZ, .lst (x4.1.bq.bj.map aB.pd)]))<|sH 96 (.var (al.rc x4.1))<|sV (r0)<|sN<|qR ?_
 cases oI h
 exact qG
end Go.Dw.So
