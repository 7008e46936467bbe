
import Derived.Test.YtoplbomkhkbklaaGreatSoFn
import Derived.Test.YtoplbomkhkbklaaGreatDwShort
import Derived.Test.YtoplbomkhkbklaaGreatDwNest
import Derived.Test.YtoplbomkhkbklaaGreatProg
import Derived.Test.YtoplbomkhkbklaaGreatDwClone
import Derived.Test.YtoplbomkhkbklaaGreatDwSort






set_option maxRecDepth 100000
set_option maxHeartbeats 4000000
namespace Go.Dw.So
open Go.Proofs Go.Proofs.Tryz Go.Dw
@[reducible] def rW (n : Int) : Int := IntKind.wrap .i64 n
@[reducible] def rI (n : Int) : RV := .d (.int .i64 n)
@[reducible] def r0 : RV := .d (.int .i64 0)
@[reducible] def rS (s : List UInt8) : RV := .d (.str s)
@[reducible] def rB (b : Bool) : RV := .d (.bool b)
@[reducible] def zZ0 : List RV := [.hY, .d (.int .i64 0), .d (.int .i64 0), .d (.int .i64 0), .d (.int .i64 0), .d (.int .i64 0), .d (.int .i64 0), .d (.int .i64 0), .d (.int .i64 0), .d (.int .i64 0), .d (.int .i64 0), .d (.int .i64 0), .d (.int .i64 0), .d (.int .i64 0), .d (.int .i64 0), .d (.int .i64 0)]
@[reducible] def zZ1 : List RV := [.d (.int .i64 0), .d (.int .i64 0), .d (.int .i64 0), .d (.int .i64 0), .d (.int .i64 0), .d (.int .i64 0), .d (.int .i64 0), .d (.int .i64 0), .d (.int .i64 0), .d (.int .i64 0), .d (.int .i64 0), .d (.int .i64 0)]
@[reducible] def zZ2 : List RV := [.d (.int .i64 0), .d (.int .i64 0), .d (.int .i64 0), .d (.int .i64 0), .d (.int .i64 0), .d (.int .i64 0), .d (.int .i64 0), .hY]
@[reducible] def zZ3 : List RV := [.d (.int .i64 0), .d (.int .i64 0), .d (.int .i64 0), .d (.int .i64 0), .d (.int .i64 0), .d (.int .i64 0)]
@[reducible] def aG.rc (x : aG) : List RV := [.d (.int .i64 x.ag.ac.ak.fX), .d (.int .i64 x.ag.ac.ak.fY), .d (.int .i64 x.ag.ac.ak.fZ), .d (.int .i64 x.ag.ac.ae.fX), .d (.int .i64 x.ag.ac.ae.fY), .d (.int .i64 x.ag.ac.ae.fZ), .d (.int .i64 x.ag.az.aU), .d (.lst (x.ag.az.ak.map (PD.int .i64))), .d (.lst (x.ag.az.ae.map (PD.int .i64))), .d (.int .i64 x.ag.bG), .d (.int .i64 x.ag.bc), .d (.int .i64 x.ag.gJ), .d (.int .i64 x.ag.eR), .d (.int .i64 x.ag.eQ), .d (.int .i64 x.bn.aZ.aU), .d (.lst (x.bn.aZ.ak.map (PD.int .i64))), .d (.lst (x.bn.aZ.ae.map (PD.int .i64))), .d (.int .i64 x.bn.bj), .d (.int .i64 x.bn.bh), .d (.int .i64 x.bc)]
@[reducible] def bf.rc (x : bf) : List RV := [.d (.int .i64 x.ac.ak.fX), .d (.int .i64 x.ac.ak.fY), .d (.int .i64 x.ac.ak.fZ), .d (.int .i64 x.ac.ae.fX), .d (.int .i64 x.ac.ae.fY), .d (.int .i64 x.ac.ae.fZ), .d (.int .i64 x.az.aU), .d (.lst (x.az.ak.map (PD.int .i64))), .d (.lst (x.az.ae.map (PD.int .i64))), .d (.int .i64 x.bG), .d (.int .i64 x.bc), .d (.int .i64 x.gJ), .d (.int .i64 x.eR), .d (.int .i64 x.eQ)]
@[reducible] def aB.rc (x : aB) : List RV := [.d (.int .i64 x.ep), .d (.int .i64 x.bj.a0), .d (.int .i64 x.bj.a1), .d (.int .i64 x.bj.a2), .d (.int .i64 x.bh.a0), .d (.int .i64 x.bh.a1), .d (.int .i64 x.bh.a2), .d (.lst (x.cN.map (PD.int .i64))), .d (.int .i64 x.co), .d (.int .i64 x.cM)]
@[reducible] def aq.rc (x : aq) : List RV := [.d (.str x.aH.aV), .d (.str x.aH.aL), .d (.str x.aH.ar), .d (.str x.aH.aX), .d (.int .i64 x.a8), .d (.int .i64 x.bw), .d (.int .i64 x.bO), .d (.int .i64 x.bp), .d (.int .i64 x.bI)]
@[reducible] def al.rc (x : al) : List RV := [.d (.int .i64 x.bB), .d (.int .i64 x.fTo), .d (.int .i64 x.cf.bj), .d (.int .i64 x.cf.bh), .d (.int .i64 x.aS.fX), .d (.int .i64 x.aS.fY), .d (.int .i64 x.aS.fZ), .d (.lst (x.bi.bo.map aB.pd))]
@[reducible] def ai.rc (x : ai) : List RV := [.d (.int .i64 x.ak.fX), .d (.int .i64 x.ak.fY), .d (.int .i64 x.ak.fZ), .d (.int .i64 x.ae.fX), .d (.int .i64 x.ae.fY), .d (.int .i64 x.ae.fZ)]
@[reducible] def av.rc (x : av) : List RV := [.d (.int .i64 x.aL.fX), .d (.int .i64 x.aL.fY), .d (.int .i64 x.aL.fZ), .d (.int .i64 x.bw), .d (.int .i64 x.bO), .d (.int .i64 x.gn)]
@[reducible] def bt.rc (x : bt) : List RV := [.d (.int .i64 x.aZ.aU), .d (.lst (x.aZ.ak.map (PD.int .i64))), .d (.lst (x.aZ.ae.map (PD.int .i64))), .d (.int .i64 x.bj), .d (.int .i64 x.bh)]
@[reducible] def ap.rc (x : ap) : List RV := [.d (.str x.aH.aV), .d (.str x.aH.aL), .d (.str x.aH.ar), .d (.str x.aH.aX), .d (.lst (x.ba.map al.pd))]
@[reducible] def bD.rc (x : bD) : List RV := [.d (.int .i64 x.fp.ac.ak.fX), .d (.int .i64 x.fp.ac.ak.fY), .d (.int .i64 x.fp.ac.ak.fZ), .d (.int .i64 x.fp.ac.ae.fX), .d (.int .i64 x.fp.ac.ae.fY), .d (.int .i64 x.fp.ac.ae.fZ), .d (.int .i64 x.fp.az.aU), .d (.lst (x.fp.az.ak.map (PD.int .i64))), .d (.lst (x.fp.az.ae.map (PD.int .i64))), .d (.lst (x.fp.aY.map av.pd)), .d (.int .i64 x.fp.bG), .d (.lst (x.mC.map ah.pd)), .d (.int .i64 x.fo), .d (.int .i64 x.ftaken), .d (.bool x.ffound), .d (.int .i64 x.br.aD.fX), .d (.int .i64 x.br.aD.fY), .d (.int .i64 x.br.aD.fZ), .d (.int .i64 x.br.a8), .d (.int .i64 x.br.aT), .d (.int .i64 x.br.bd), .d (.int .i64 x.br.au.ak.fX), .d (.int .i64 x.br.au.ak.fY), .d (.int .i64 x.br.au.ak.fZ), .d (.int .i64 x.br.au.ae.fX), .d (.int .i64 x.br.au.ae.fY), .d (.int .i64 x.br.au.ae.fZ)]
@[reducible] def aF.rc (x : aF) : List RV := [.d (.int .i64 x.aD.fX), .d (.int .i64 x.aD.fY), .d (.int .i64 x.aD.fZ), .d (.int .i64 x.a8), .d (.int .i64 x.aT), .d (.int .i64 x.bd), .d (.int .i64 x.au.ak.fX), .d (.int .i64 x.au.ak.fY), .d (.int .i64 x.au.ak.fZ), .d (.int .i64 x.au.ae.fX), .d (.int .i64 x.au.ae.fY), .d (.int .i64 x.au.ae.fZ)]
@[reducible] def aw.rc (x : aw) : List RV := [.d (.int .i64 x.ac.ak.fX), .d (.int .i64 x.ac.ak.fY), .d (.int .i64 x.ac.ak.fZ), .d (.int .i64 x.ac.ae.fX), .d (.int .i64 x.ac.ae.fY), .d (.int .i64 x.ac.ae.fZ), .d (.int .i64 x.az.aU), .d (.lst (x.az.ak.map (PD.int .i64))), .d (.lst (x.az.ae.map (PD.int .i64))), .d (.lst (x.aY.map av.pd)), .d (.int .i64 x.bG)]
@[reducible] def ah.rc (x : ah) : List RV := [.d (.int .i64 x.jZ.ak.fX), .d (.int .i64 x.jZ.ak.fY), .d (.int .i64 x.jZ.ak.fZ), .d (.int .i64 x.jZ.ae.fX), .d (.int .i64 x.jZ.ae.fY), .d (.int .i64 x.jZ.ae.fZ), .d (.int .i64 x.dt), .d (.int .i64 x.fo)]
@[reducible] def aQ.rc (x : aQ) : List RV := [.d (.lst (x.fm.map aq.pd)), .d (.int .i64 x.ar.aD.fX), .d (.int .i64 x.ar.aD.fY), .d (.int .i64 x.ar.aD.fZ), .d (.int .i64 x.ar.a8), .d (.int .i64 x.ar.aT), .d (.int .i64 x.ar.bd), .d (.int .i64 x.ar.au.ak.fX), .d (.int .i64 x.ar.au.ak.fY), .d (.int .i64 x.ar.au.ak.fZ), .d (.int .i64 x.ar.au.ae.fX), .d (.int .i64 x.ar.au.ae.fY), .d (.int .i64 x.ar.au.ae.fZ), .d (.int .i64 x.bL.ak), .d (.int .i64 x.bL.ae), .d (.int .i64 x.iu)]
def hintAt : FuncId → Nat → Nat → List xe := fun f nb id =>
  if f = 3 then (if nb = 0 then (if id = 6 then [.oR [1, 5, 6, 7, 8, 9, 32, 33] [96, 112, 304, 448]] else if id = 12 then [.oR [5, 6, 7, 8, 9] [96, 112, 304, 448]] else if id = 14 then [.oR [6, 7, 8, 9] [96, 112, 448]] else []) else []) else if f = 4 then (if nb = 0 then (if id = 6 then [.oR [3, 4, 5, 6, 7, 30, 31] [64, 80, 320]] else if id = 10 then [.oR [3, 4, 5, 6, 7] [64, 80, 320]] else if id = 12 then [.ownp (.cell 144 0) 1568 64, .oR [3, 4, 5, 6, 7, 9, 43, 44, 45] [64, 80, 144, 320, 1568]] else if id = 23 then [.oR [4, 5, 6, 9] [64, 80, 144, 1568]] else []) else []) else if f = 7 then (if nb = 1 then (if id = 3 then [.ownp (.cell 80 0) 1104 64, .oR [0, 1, 4, 5, 6] [0, 64, 80, 1104]] else if id = 16 then [.oR [4, 5] [0, 64, 80, 1104]] else []) else []) else if f = 8 then (if nb = 1 then (if id = 4 then [.own 9 2192 48, .oR [0, 5, 6, 9, 10, 11, 12] [0, 80, 96, 160, 2192]] else if id = 12 then [.oR [0, 5, 6, 9, 10, 11, 12, 13, 14, 16] [0, 80, 96, 160, 208, 224, 2192]] else if id = 14 then [.oR [0, 5, 6, 9, 10, 11, 12, 13, 16] [0, 80, 96, 160, 208, 2192]] else if id = 18 then [.oR [0, 5, 6, 9, 10, 11, 12, 13] [0, 80, 96, 160, 208, 2192]] else if id = 21 then [.oR [9] [0, 2192]] else []) else []) else if f = 15 then (if nb = 1 then (if id = 3 then [.ownp (.cell 48 0) 1040 104, .oR [0, 2, 3, 4] [0, 32, 48, 1040]] else if id = 13 then [.oR [2, 3] [0, 32, 48, 1040]] else []) else []) else if f = 17 then (if nb = 1 then (if id = 3 then [.oR [2, 3, 16, 17] [0, 32, 48, 96, 97]] else if id = 7 then [.oR [2, 3] [0, 32, 48, 96, 97]] else []) else []) else if f = 21 then (if nb = 0 then (if id = 2 then [.oR [2, 4, 6, 13, 14, 15] [64, 96]] else if id = 5 then [.oR [2, 4, 6, 9, 13, 14, 15, 20, 21, 22] [64, 96, 144]] else if id = 10 then [.oR [2, 4, 6, 13, 14, 15] [64, 96]] else if id = 11 then [.oR [6] [96]] else []) else []) else if f = 24 then (if nb = 0 then (if id = 7 then [.ownp (.cell 128 0) 704 48, .ownp (.cell 128 1) 784 111, .ownp (.cell 128 2) 864 71, .oR [3, 4, 6, 8, 25, 26, 27] [48, 64, 96, 128, 704, 784, 864]] else if id = 13 then [.oR [6, 8] [96, 128, 704, 784, 864]] else []) else []) else if f = 26 then (if nb = 0 then (if id = 7 then [.oR [4, 8, 37, 38, 39] [64, 128]] else if id = 13 then [.oR [4, 8] [64, 128]] else []) else []) else if f = 27 then (if nb = 0 then (if id = 3 then [.own 7 816 53, .oR [3, 4, 5, 7, 13, 14, 15] [48, 64, 80, 816]] else if id = 9 then [.oR [7] [816]] else []) else []) else if f = 29 then (if nb = 0 then (if id = 4 then [.oR [0, 1, 5] []] else if id = 8 then [.oR [] []] else []) else []) else if f = 32 then (if nb = 1 then (if id = 4 then [.ownp (.cell 48 1) 432 3, .ownp (.cell 48 2) 512 3, .oR [0, 2, 3, 4, 5, 6] [0, 32, 48, 432, 512]] else if id = 9 then [.oR [2, 3] [0, 32, 48, 432, 512]] else []) else []) else if f = 34 then (if nb = 0 then (if id = 2 then [.oR [1, 6, 7, 8] [16]] else if id = 7 then [.oR [1] [16]] else []) else []) else if f = 38 then (if nb = 0 then (if id = 10 then [.oR [1, 7] [304, 368]] else if id = 14 then [.frz (.cell 304 11), .oR [7] [304]] else []) else []) else if f = 39 then (if nb = 0 then (if id = 5 then [.oR [4, 5, 6, 7, 8, 31] [64, 80, 96, 112, 128]] else []) else []) else if f = 45 then (if nb = 0 then (if id = 3 then [.own 5 304 3, .oR [1, 5, 8, 9, 10] [304]] else if id = 7 then [.oR [5] [304]] else []) else []) else if f = 48 then (if nb = 0 then (if id = 6 then [.oR [2, 52, 53, 54] [32]] else if id = 12 then [.oR [] []] else []) else []) else if f = 51 then (if nb = 0 then (if id = 2 then [.oR [0, 5, 6, 7] []] else if id = 7 then [.oR [0] []] else []) else []) else if f = 56 then (if nb = 1 then (if id = 4 then [.oR [0, 3] [0]] else if id = 9 then [.oR [0, 3, 4, 5] [0]] else if id = 14 then [.oR [0, 3] [0]] else if id = 16 then [.oR [0] [0]] else []) else []) else if f = 60 then (if nb = 0 then (if id = 14 then [.oR [1, 38, 39, 40] [16]] else if id = 20 then [.oR [] []] else []) else []) else if f = 61 then (if nb = 1 then (if id = 5 then [.ownp (.cell 0 11) 80176 123, .mv (.cell 0 11) 90081, .oR [6] [0, 90081]] else []) else if nb = 2 then (if id = 5 then [.ownp (.cell 0 11) 80176 123, .bumpp (.cell 0 11), .oR [6] [0, 1]] else []) else []) else if f = 63 then (if nb = 2 then (if id = 2 then [.bumpp (.cell 0 11), .oR [] [0, 1]] else []) else []) else if f = 72 then (if nb = 0 then (if id = 5 then [.oR [2, 7, 8, 9, 28, 29] [128, 144]] else []) else []) else if f = 75 then (if nb = 0 then (if id = 2 then [.oR [0, 1, 7, 8] []] else if id = 7 then [.oR [] []] else []) else []) else if f = 77 then (if nb = 0 then (if id = 6 then [.oR [1, 4, 5, 33, 34] [16]] else if id = 12 then [.oR [] []] else []) else []) else if f = 79 then (if nb = 0 then (if id = 2 then [.oR [0, 1, 2, 9, 10] []] else if id = 7 then [.oR [0, 1, 2] []] else []) else []) else if f = 82 then (if nb = 0 then (if id = 3 then [.oR [3, 6, 7, 8] []] else if id = 8 then [.oR [3] []] else []) else []) else if f = 88 then (if nb = 0 then (if id = 2 then [.oR [3, 4, 9, 10, 11] [48, 64]] else if id = 7 then [.oR [4] [64]] else []) else []) else if f = 89 then (if nb = 0 then (if id = 2 then [.oR [1, 4, 9, 10, 11] [64]] else if id = 7 then [.oR [4] [64]] else []) else []) else if f = 98 then (if nb = 0 then (if id = 7 then [.oR [1, 2, 6, 8, 31, 32, 33] [96, 128]] else if id = 17 then [.oR [6, 8] [96, 128]] else []) else []) else if f = 103 then (if nb = 2 then (if id = 2 then [.oR [1, 5, 6] [0, 1]] else if id = 7 then [.oR [5] [0, 1]] else []) else []) else if f = 105 then (if nb = 0 then (if id = 5 then [.oR [0, 3, 4] []] else if id = 10 then [.oR [3] []] else []) else []) else if f = 107 then (if nb = 1 then (if id = 2 then [.oR [0, 1, 2, 3, 8, 9] [0]] else []) else []) else if f = 121 then (if nb = 0 then (if id = 4 then [.oR [0, 2] []] else if id = 7 then [.oR [0, 2] []] else []) else []) else if f = 123 then (if nb = 0 then (if id = 3 then [.oR [1, 2, 10, 11, 12] [16, 32, 112]] else if id = 7 then [.oR [1, 2] [16, 32, 112]] else []) else []) else if f = 126 then (if nb = 0 then (if id = 3 then [.oR [1, 2, 6, 18, 19, 20] [32, 272]] else if id = 7 then [.oR [1, 2, 6] [32, 272]] else if id = 11 then [.oR [1, 2, 9, 10, 45, 46, 47] [32, 272]] else if id = 17 then [.oR [9, 10] []] else []) else []) else if f = 127 then (if nb = 2 then (if id = 0 then [.oR [0, 1] [0, 1]] else []) else []) else if f = 128 then (if nb = 2 then (if id = 2 then [.oR [0, 1, 2, 7] [0, 1]] else if id = 8 then [.oR [0, 1, 2, 7, 9] [0, 1]] else if id = 11 then [.oR [1, 7] [0, 1]] else []) else []) else if f = 129 then (if nb = 0 then (if id = 5 then [.oR [2, 3, 4, 16] [32, 48, 64]] else []) else []) else if f = 138 then (if nb = 0 then (if id = 9 then [.oR [0, 1, 5, 6] []] else []) else []) else if f = 139 then (if nb = 1 then (if id = 1 then [.oR [0, 1, 2, 6] [0]] else if id = 2 then [.oR [0, 1, 2, 6] [0]] else if id = 4 then [.oR [0, 1, 2, 6, 7] [0]] else []) else []) else if f = 149 then (if nb = 0 then (if id = 1 then [.oR [0, 1] []] else if id = 3 then [.oR [0] []] else []) else []) else if f = 152 then (if nb = 0 then (if id = 6 then [.fixv 16, .oR [1, 3] []] else []) else []) else if f = 153 then (if nb = 0 then (if id = 3 then [.oR [3, 6, 7, 8] []] else if id = 10 then [.oR [3] []] else []) else []) else if f = 160 then (if nb = 0 then (if id = 3 then [.oR [1, 2, 13, 14] [16, 32, 112]] else if id = 7 then [.oR [1, 2] [16, 32, 112]] else []) else []) else if f = 162 then (if nb = 0 then (if id = 3 then [.oR [2, 3, 6, 16, 17, 18] [32, 48, 224]] else if id = 10 then [.oR [6] [224]] else []) else []) else if f = 163 then (if nb = 0 then (if id = 3 then [.oR [1, 2, 3, 7, 11, 12, 13] [48]] else if id = 8 then [.oR [7] []] else []) else []) else if f = 166 then (if nb = 0 then (if id = 3 then [.oR [3, 6, 7, 8] []] else if id = 7 then [.oR [3] []] else []) else []) else if f = 169 then (if nb = 0 then (if id = 3 then [.oR [1, 5, 16, 17, 18] [240]] else if id = 7 then [.oR [1, 5, 6, 7, 8, 16, 17, 18, 25, 26] [240]] else if id = 14 then [.oR [1, 5, 16, 17, 18] [240]] else if id = 15 then [.oR [5] [240]] else []) else []) else if f = 175 then (if nb = 0 then (if id = 2 then [.oR [0, 1, 7, 8] []] else if id = 7 then [.oR [] []] else []) else []) else if f = 181 then (if nb = 0 then (if id = 4 then [.own 4 240 3, .oR [0, 4] [240]] else if id = 7 then [.oR [4] [240]] else []) else []) else if f = 183 then (if nb = 0 then (if id = 6 then [.own 6 560 3, .oR [0, 1, 6, 7, 18, 19] [560]] else if id = 12 then [.oR [6] [560]] else []) else []) else if f = 184 then (if nb = 0 then (if id = 1 then [.oR [0] []] else if id = 3 then [.oR [0] []] else []) else []) else if f = 186 then (if nb = 0 then (if id = 2 then [.oR [0, 1, 7, 8] []] else if id = 7 then [.oR [] []] else []) else []) else if f = 191 then (if nb = 0 then (if id = 2 then [.oR [0, 1, 7, 8] []] else if id = 7 then [.oR [] []] else []) else []) else []
def aI : Hints := { at_ := hintAt, mt := fun f i => (f == 3 && i == 28) || (f == 4 && i == 55) || (f == 7 && i == 28) || (f == 212 && i == 19), by_ := fun f i => (f == 54 && i == 0) || (f == 56 && i == 0) || (f == 76 && i == 0) || (f == 107 && i == 0) || (f == 139 && i == 0) || (f == 209 && i == 0) || (f == 210 && i == 0) || (f == 211 && i == 0), own := fun f i => (f == 32 && i == 0) || (f == 37 && i == 0) || (f == 53 && i == 0) || (f == 159 && i == 0) || (f == 178 && i == 0) }
theorem eqE_46 (a b : aJ) : uX prog .eql 46 (.d a.pd) (.d b.pd) = some (.bool ((a.aV == b.aV) && ((a.aL == b.aL) && ((a.ar == b.ar) && ((a.aX == b.aX) && true)))), true) := by kernel_rfl
theorem eqE_48 (a b : aq) : uX prog .eql 48 (.d a.pd) (.d b.pd) = some (.bool (((a.aH.aV == b.aH.aV) && ((a.aH.aL == b.aH.aL) && ((a.aH.ar == b.aH.ar) && ((a.aH.aX == b.aH.aX) && true)))) && ((a.a8 == b.a8) && ((a.bw == b.bw) && ((a.bO == b.bO) && ((a.bp == b.bp) && ((a.bI == b.bI) && true)))))), true) := by kernel_rfl
theorem eqN_48 (a b : aq) : uX prog .neq 48 (.d a.pd) (.d b.pd) = some (.bool (!(((a.aH.aV == b.aH.aV) && ((a.aH.aL == b.aH.aL) && ((a.aH.ar == b.aH.ar) && ((a.aH.aX == b.aH.aX) && true)))) && ((a.a8 == b.a8) && ((a.bw == b.bw) && ((a.bO == b.bO) && ((a.bp == b.bp) && ((a.bI == b.bI) && true))))))), true) := by kernel_rfl
theorem eqE_51 (a b : aF) : uX prog .eql 51 (.d a.pd) (.d b.pd) = some (.bool (((a.aD.fX == b.aD.fX) && ((a.aD.fY == b.aD.fY) && ((a.aD.fZ == b.aD.fZ) && true))) && ((a.a8 == b.a8) && ((a.aT == b.aT) && ((a.bd == b.bd) && ((((a.au.ak.fX == b.au.ak.fX) && ((a.au.ak.fY == b.au.ak.fY) && ((a.au.ak.fZ == b.au.ak.fZ) && true))) && (((a.au.ae.fX == b.au.ae.fX) && ((a.au.ae.fY == b.au.ae.fY) && ((a.au.ae.fZ == b.au.ae.fZ) && true))) && true)) && true))))), true) := by kernel_rfl
theorem eqE_53 (a b : aA) : uX prog .eql 53 (.d a.pd) (.d b.pd) = some (.bool ((a.ak == b.ak) && ((a.ae == b.ae) && true)), true) := by kernel_rfl
theorem ir (a b : aW) : uX prog .eql 102 (.d a.pd) (.d b.pd) = some (.bool ((a.a0 == b.a0) && ((a.a1 == b.a1) && ((a.a2 == b.a2) && true))), true) := by kernel_rfl


theorem T_api_Pick_inj : ∀ x y : aq, x.pd = y.pd → x = y := by
  rintro ⟨⟨z1, z2, z3, z4⟩, z5, z6, z7, z8, z9⟩ ⟨⟨z10, z11, z12, z13⟩, z14, z15, z16, z17, z18⟩ h
  cases h; rfl
def ext0 : FuncId → Option pw := fun _ => none
theorem jr {a0 : (List UInt8)} {r : Bool} (h : db a0 = some r) : EvP prog aI ext0 111 [rS a0] [] (rB r, []) := by
 refine Ev.body rfl Tryz.func111 rfl (by kernel_rfl)<|gS rfl rfl<|sU<|sN<|gS rfl rfl<|sM rfl<|sM rfl<|sV (rB (!(a0 == a0)))<|sA rfl<|sN<|qR ?_
 exact oI h▸qD
theorem dS {a0 : (List UInt8)} {a1 : (List UInt8)} {r : Int} (h : bR a0 a1 = some r) : EvP prog aI ext0 83 [rS a0, rS a1] [] (rI r, []) := by
 refine Ev.body rfl Tryz.func83 rfl (by kernel_rfl)<|gS rfl rfl<|sV (r0)<|sN<|gS rfl rfl<|sM rfl<|bE h fun x1 hx1 h => cD (jr hx1)<|sA rfl<|sN<|gS rfl rfl<|sM rfl<|bE h fun x2 hx2 h => cD (jr hx2)<|sA rfl ?_
 refine sN<|qS<|gS rfl rfl<|sF h (fun h => ?_) fun h => ?_
 ·refine sN<|cT<|qS<|gS rfl rfl<|sF h (fun h => ?_) fun h => ?_
  ·refine sN<|cT<|gS rfl rfl<|sV (r0)<|sN<|qR ?_
   exact oI h▸qD
  refine sN<|cF<|qK<|gS rfl rfl<|sV (rI (-1))<|sN<|qR ?_
  exact oI h▸qD
 refine sN<|cF<|qK<|qS<|gS rfl rfl<|sF h (fun h => ?_) fun h => ?_
 ·refine sN<|cT<|gS rfl rfl<|sV (rI 1)<|sN<|qR ?_
  exact oI h▸qD
 refine sN<|cF<|qK<|qS<|gS rfl rfl<|sM rfl<|sM rfl<|sF h (fun h => ?_) fun h => ?_
 ·refine sN<|cT<|gS rfl rfl<|sV (rI (-1))<|sN<|qR ?_
  exact oI h▸qD
 refine sN<|cF<|qK<|qS<|gS rfl rfl<|sM rfl<|sM rfl<|sF h (fun h => ?_) fun h => ?_
 ·refine sN<|cT<|gS rfl rfl<|sV (rI 1)<|sN<|qR ?_
  exact oI h▸qD
 refine sN<|cF<|qK<|gS rfl rfl<|sV (r0)<|sN<|qR ?_
 exact oI h▸qD
theorem mz {a0 : (List Int)} {r : Int} (h : cL a0 = some r) : EvP prog aI ext0 82 [.d (.lst (a0.map (PD.int .i64)))] [] (rI r, []) := by
 refine Ev.body rfl Tryz.func82 rfl (by kernel_rfl)<|gS rfl rfl<|sV (r0)<|sN<|gS rfl rfl<|sV (r0)<|sN<|qS<|gS rfl rfl<|sM rfl<|sE (rI (a0.length : Int)) (oQ _ _)<|sV (r0)<|sN<|bE h fun o7 ho7 h => WC.block (WC.loop (WL.oW ho7 (fun s R' B' => lC prog 0 (A R' B') (aI.at_ 82 0 3) = some (A [(3, r0), (6, .d (.lst (a0.map (PD.int .i64)))), (7, rI (a0.length : Int)), (8, rI s)] [])) (fun o e R' B' => match o with | .inl y => e = .exit 0 ∧ lC prog 0 (A R' B') (aI.at_ 82 0 8) = some (A [(3, r0)] []) | .inr r => e = .ret ∧ finish prog (aI.own 82) Tryz.f82 0 (A R' B') = some (rI r, [])) rfl ?_ ?_))
 ·rintro s1 R' B' q2 hI h
  refine gS rfl hI<|sF h (fun h => ?_) fun h => ?_
  ·refine sN<|qS<|cT<|qK<|qS<|qB<|gS rfl rfl<|bE h fun x4 hx4 h => eG hx4 rfl<|sC rfl<|sA rfl<|sN<|gS rfl rfl<|sM rfl<|sM rfl ?_
   refine sF h (fun h => ?_) fun h => ?_
   ·refine sN<|cT<|gS rfl rfl<|sM rfl<|sA rfl<|sN<|qR ?_
    cases oI h
    exact ⟨nofun, rfl, rfl⟩
   refine sN<|cF<|qK<|WC.region rfl rfl<|sV (rI (rW (s1 + (1 : Int))))<|sM rfl<|sN ?_
   cases oI h
   exact ⟨rfl, rfl⟩
  refine sN<|qS<|cF<|qX ?_
  cases oI h
  exact ⟨nofun, rfl, rfl⟩
 intro e R' B' he hq
 rcases o7 with y8 | r9
 ·obtain ⟨rfl, hI⟩ := hq
  refine qE<|gS rfl hI<|sM rfl<|sA rfl<|sN<|qR ?_
  exact oI h▸qD
 obtain ⟨rfl, hf⟩ := hq
 cases oI h
 exact hf
theorem oa {a0 : aJ} {a1 : aJ} {r : Int} (h : dG a0 a1 = some r) : EvP prog aI ext0 52 [.d (aJ.pd a0), .d (aJ.pd a1)] [] (rI r, []) := by
 refine Ev.body rfl Tryz.func52 rfl (by kernel_rfl)<|gS rfl rfl<|sB (.ptr 32 0) 32 (.var [rS a0.aV, rS a0.aL, rS a0.ar, rS a0.aX])<|sB (.ptr 48 0) 48 (.var [rS a1.aV, rS a1.aL, rS a1.ar, rS a1.aX])<|sV (r0)<|sN<|WC.cI rfl rfl<|sV (.ptr 32 0)<|sL rfl<|sV (.ptr 48 0)<|sL rfl<|bE h fun x1 hx1 h => cD (dS hx1)<|sV (.ptr 32 1)<|sL rfl ?_
 refine sV (.ptr 48 1)<|sL rfl<|bE h fun x2 hx2 h => cD (dS hx2)<|sV (.ptr 32 2)<|sL rfl<|sV (.ptr 48 2)<|sL rfl<|bE h fun x3 hx3 h => cD (dS hx3)<|sV (.ptr 32 3)<|sL rfl<|sV (.ptr 48 3)<|sL rfl<|bE h fun x4 hx4 h => ?_
 refine cD (dS hx4)<|sV (.d (.lst ([x1, x2, x3, x4].map (PD.int .i64))))<|bE h fun x5 hx5 h => cD (mz hx5)<|sA rfl ?_
 refine sN<|sO<|qR ?_
 exact oI h▸qD
theorem kV {a0 : Int} {r : Bool} (h : dX a0 = some r) : EvP prog aI ext0 122 [rI a0] [] (rB r, []) := by
 refine Ev.body rfl Tryz.func122 rfl (by kernel_rfl)<|gS rfl rfl<|sU<|sN<|gS rfl rfl<|sM rfl<|sM rfl<|sV (rB (a0 != a0))<|sA rfl<|sN<|qR ?_
 exact oI h▸qD
theorem dK {a0 : Int} {a1 : Int} {r : Int} (h : bF a0 a1 = some r) : EvP prog aI ext0 86 [rI a0, rI a1] [] (rI r, []) := by
 refine Ev.body rfl Tryz.func86 rfl (by kernel_rfl)<|gS rfl rfl<|sV (r0)<|sN<|gS rfl rfl<|sM rfl<|bE h fun x1 hx1 h => cD (kV hx1)<|sA rfl<|sN<|gS rfl rfl<|sM rfl<|bE h fun x2 hx2 h => cD (kV hx2)<|sA rfl ?_
 refine sN<|qS<|gS rfl rfl<|sF h (fun h => ?_) fun h => ?_
 ·refine sN<|cT<|qS<|gS rfl rfl<|sF h (fun h => ?_) fun h => ?_
  ·refine sN<|cT<|gS rfl rfl<|sV (r0)<|sN<|qR ?_
   exact oI h▸qD
  refine sN<|cF<|qK<|gS rfl rfl<|sV (rI (-1))<|sN<|qR ?_
  exact oI h▸qD
 refine sN<|cF<|qK<|qS<|gS rfl rfl<|sF h (fun h => ?_) fun h => ?_
 ·refine sN<|cT<|gS rfl rfl<|sV (rI 1)<|sN<|qR ?_
  exact oI h▸qD
 refine sN<|cF<|qK<|qS<|gS rfl rfl<|sM rfl<|sM rfl<|sF h (fun h => ?_) fun h => ?_
 ·refine sN<|cT<|gS rfl rfl<|sV (rI (-1))<|sN<|qR ?_
  exact oI h▸qD
 refine sN<|cF<|qK<|qS<|gS rfl rfl<|sM rfl<|sM rfl<|sF h (fun h => ?_) fun h => ?_
 ·refine sN<|cT<|gS rfl rfl<|sV (rI 1)<|sN<|qR ?_
  exact oI h▸qD
 refine sN<|cF<|qK<|gS rfl rfl<|sV (r0)<|sN<|qR ?_
 exact oI h▸qD
theorem nX {a0 : aq} {a1 : aq} {r : Int} (h : bX a0 a1 = some r) : EvP prog aI ext0 55 [.d (aq.pd a0), .d (aq.pd a1)] [] (rI r, []) := by
 refine Ev.body rfl Tryz.func55 rfl (by kernel_rfl)<|gS rfl rfl<|sB (.ptr 32 0) 32 (.var (aq.rc a0))<|sB (.ptr 48 0) 48 (.var (aq.rc a1))<|sV (r0)<|sN<|WC.cI rfl rfl<|sV (.ptr 32 0)<|sV (.d (aJ.pd a0.aH))<|sV (.ptr 48 0)<|sV (.d (aJ.pd a1.aH))<|bE h fun x1 hx1 h => cD (oa hx1)<|sV (.ptr 32 4)<|sL rfl ?_
 refine sV (.ptr 48 4)<|sL rfl<|bE h fun x2 hx2 h => cD (dK hx2)<|sV (.ptr 32 5)<|sL rfl<|sV (.ptr 48 5)<|sL rfl<|bE h fun x3 hx3 h => cD (dK hx3)<|sV (.ptr 32 6)<|sL rfl<|sV (.ptr 48 6)<|sL rfl<|bE h fun x4 hx4 h => ?_
 refine cD (dK hx4)<|sV (.ptr 32 7)<|sL rfl<|sV (.ptr 48 7)<|sL rfl<|bE h fun x5 hx5 h => cD (dK hx5)<|sV (.ptr 32 8)<|sL rfl<|sV (.ptr 48 8)<|sL rfl<|bE h fun x6 hx6 h => cD (dK hx6)<|sV (.d (.lst ([x1, x2, x3, x4, x5, x6].map (PD.int .i64))))<|bE h fun x7 hx7 h => ?_
 refine cD (mz hx7)<|sA rfl ?_
 refine sN<|sO<|qR ?_
 cases oI h
 exact qG
noncomputable def ext : FuncId → Option pw := fun f => if f = 54 then some (zO 55 48 aq.pd bX) else if f = 53 then some (uk 48 9 104) else if f = 159 then some (uk 71 8 80) else if f = 178 then some (uk 104 10 96) else if f = 37 then some (uk 3 1 8) else none
theorem sort_54_55 {l r : List aq} (h : uT bX l = some r) : EvP prog aI ext 54 [.ref 0 0, .d (.raw (.func (.func 55) #[] #[]))] [.arr 0 48 (l.map aq.pd)] (.tup [], [.arr 0 48 (r.map aq.pd)]) := sort_ev rfl (sortD_of T_api_Pick_inj h)
theorem clone_53 {l r : List aq} (h : p9 104 l = some r) : EvP prog aI ext 53 [.d (.lst (l.map aq.pd))] [] (.ref 0 0, [.arr 0 48 (r.map aq.pd)]) := vG (g := aq.pd) rfl (fun _ => rfl) h
theorem clone_159 {l r : List al} (h : p9 80 l = some r) : EvP prog aI ext 159 [.d (.lst (l.map al.pd))] [] (.ref 0 0, [.arr 0 71 (r.map al.pd)]) := vG (g := al.pd) rfl (fun _ => rfl) h
theorem clone_178 {l r : List aB} (h : p9 96 l = some r) : EvP prog aI ext 178 [.d (.lst (l.map aB.pd))] [] (.ref 0 0, [.arr 0 104 (r.map aB.pd)]) := vG (g := aB.pd) rfl (fun _ => rfl) h
theorem clone_37 {l r : List Int} (h : p9 8 l = some r) : EvP prog aI ext 37 [.d (.lst (l.map (PD.int .i64)))] [] (.ref 0 0, [.arr 0 3 (r.map (PD.int .i64))]) := vG (g := (PD.int .i64)) rfl (fun _ => rfl) h
theorem mI {a0 : (List Int)} {r : aj} (h : iz a0 = some r) : EvP prog aI ext 5 [.d (.lst (a0.map (PD.int .i64)))] [] (.ptr 0 0, [.var [.d (.lst (r.fL.map (PD.int .i64))), rI r.fAt]]) := by
 refine Ev.body rfl Tryz.func5 rfl (by kernel_rfl)<|gS rfl rfl<|sV (.d (.raw (.pointer none)))<|sN<|gS rfl rfl<|sM rfl<|sM rfl<|sE (rI (a0.length : Int)) (oQ _ _)<|sV (rI (if (2000 : Int) < (a0.length : Int) then (2000 : Int) else (a0.length : Int)))<|bE h fun x1 hx1 h => WO.cutL (sz := 1) (g := (PD.int .i64)) hx1 (fun _ => rfl) rfl rfl rfl rfl rfl rfl rfl rfl rfl rfl rfl<|sV (.d (aj.pd (aj.mk x1 0)))<|sB (.ptr 144 0) 144 (.var [.d (.lst (x1.map (PD.int .i64))), r0])<|sA rfl<|sN ?_
 refine qR ?_
 exact oI h▸qD
theorem Src_Raw_ev {d0 : aj} {r : Int × aj} (h : m7 d0 = some r) : EvP prog aI ext 23 [.ptr 0 0] [.var [.d (.lst (d0.fL.map (PD.int .i64))), rI d0.fAt]] (rI r.1, [.var [.d (.lst (r.2.fL.map (PD.int .i64))), rI r.2.fAt]]) := by
 refine Ev.body rfl Tryz.func23 rfl (by kernel_rfl)<|gS rfl rfl<|sV (r0)<|sN<|qS<|WC.cI rfl rfl<|sM rfl<|sV (.ptr 0 0)<|sV (.ptr 0 1)<|sL rfl<|sM rfl<|sV (.ptr 0 0)<|sV (.ptr 0 0)<|sL rfl<|sE (rI (d0.fL.length : Int)) (oQ _ _) ?_
 refine sF h (fun h => ?_) fun h => ?_
 ·refine sN<|sO<|cT<|gS rfl rfl<|sV (r0)<|sN<|qR ?_
  exact oI h▸qD
 refine sN<|sO<|cF<|qK<|gS rfl rfl<|sM rfl<|sV (.ptr 0 0)<|sV (.ptr 0 1)<|sL rfl<|sV (rI (rW (d0.fAt + (1 : Int))))<|sV (.ptr 0 0)<|sV (.ptr 0 1)<|sS 0 (.var [.d (.lst (d0.fL.map (PD.int .i64))), rI (rW (d0.fAt + (1 : Int)))])<|sN<|WC.cI rfl rfl<|sM rfl ?_
 refine sV (.ptr 0 0)<|sV (.ptr 0 0)<|sL rfl<|sM rfl<|sV (.ptr 0 0)<|sV (.ptr 0 1)<|sL rfl<|sV (rI (rW ((rW (d0.fAt + (1 : Int))) - (1 : Int))))<|bE h fun x2 hx2 h => eG hx2 rfl<|sC rfl<|sA rfl ?_
 refine sN<|sO<|qR ?_
 exact oI h▸qD
theorem mH {a0 : Int} {a1 : Int} {r : Int} (h : jt a0 a1 = some r) : EvP prog aI ext 9 [rI a0, rI a1] [] (rI r, []) := by
 refine Ev.body rfl Tryz.func9 rfl (by kernel_rfl)<|gS rfl rfl<|sV (r0)<|sN<|qS<|gS rfl rfl<|sM rfl<|sF h (fun h => ?_) fun h => ?_
 ·refine sN<|cT<|gS rfl rfl<|sV (r0)<|sN<|qR ?_
  exact oI h▸qD
 refine sN<|cF<|qK<|gS rfl rfl<|sM rfl<|sM rfl<|bE h fun x2 hx2 h => WO.remG hx2 rfl rfl rfl rfl rfl rfl<|sA rfl<|sN<|qS<|gS rfl rfl<|sM rfl<|sF h (fun h => ?_) fun h => ?_
 ·refine sN<|cT<|WC.region rfl rfl<|sM rfl<|sM rfl<|sV (rI (rW (x2 + a1)))<|sA rfl<|sN<|gS rfl rfl<|sM rfl<|sA rfl<|sN<|qR ?_
  exact oI h▸qD
 refine sN<|cF<|qK<|gS rfl rfl<|sM rfl<|sA rfl<|sN<|qR ?_
 exact oI h▸qD
theorem bC {a1 : Int} {d0 : aj} {r : Int × aj} (h : cr a1 d0 = some r) : EvP prog aI ext 10 [.ptr 0 0, rI a1] [.var [.d (.lst (d0.fL.map (PD.int .i64))), rI d0.fAt]] (rI r.1, [.var [.d (.lst (r.2.fL.map (PD.int .i64))), rI r.2.fAt]]) := by
 refine Ev.body rfl Tryz.func10 rfl (by kernel_rfl)<|gS rfl rfl<|sV (r0)<|sN<|gS rfl rfl<|sM rfl<|bE h fun x1 hx1 h => cR (rI x1.1) [(0, .var [.d (.lst (x1.2.fL.map (PD.int .i64))), rI x1.2.fAt])] (Src_Raw_ev hx1)<|sM rfl<|bE h fun x2 hx2 h => cD (mH hx2)<|sA rfl<|sN<|qR ?_
 exact oI h▸qD
theorem jW {a1 : Int} {d0 : aj} {r : aa × aj} (h : gj a1 d0 = some r) : EvP prog aI ext 14 [.ptr 0 0, rI a1] [.var [.d (.lst (d0.fL.map (PD.int .i64))), rI d0.fAt]] (.d (aa.pd r.1), [.var [.d (.lst (r.2.fL.map (PD.int .i64))), rI r.2.fAt]]) := by
 refine Ev.body rfl Tryz.func14 rfl (by kernel_rfl)<|gS rfl rfl<|sB (.ptr 64 0) 64 (.var [r0, r0, r0])<|sN<|gS rfl rfl<|sM rfl<|sM rfl<|sV (rI (rW ((2 : Int) * a1)))<|sV (rI (rW ((rW ((2 : Int) * a1)) + (1 : Int))))<|bE h fun x1 hx1 h => cR (rI x1.1) [(0, .var [.d (.lst (x1.2.fL.map (PD.int .i64))), rI x1.2.fAt])] (bC hx1)<|sM rfl<|sV (rI (rW (x1.1 - a1)))<|sM rfl<|sM rfl ?_
 refine sV (rI (rW ((2 : Int) * a1)))<|sV (rI (rW ((rW ((2 : Int) * a1)) + (1 : Int))))<|bE h fun x2 hx2 h => cR (rI x2.1) [(0, .var [.d (.lst (x2.2.fL.map (PD.int .i64))), rI x2.2.fAt])] (bC hx2)<|sM rfl<|sV (rI (rW (x2.1 - a1)))<|sM rfl<|sM rfl<|sV (rI (rW (a1 + (1 : Int))))<|bE h fun x3 hx3 h => cR (rI x3.1) [(0, .var [.d (.lst (x3.2.fL.map (PD.int .i64))), rI x3.2.fAt])] (bC hx3)<|sV (.d (aa.pd (aa.mk (rW (x1.1 - a1)) (rW (x2.1 - a1)) x3.1)))<|sS 64 (.var [rI (rW (x1.1 - a1)), rI (rW (x2.1 - a1)), rI x3.1])<|sN<|qR ?_
 exact oI h▸qD
theorem Src_Box_ev {a1 : Int} {a2 : Int} {d0 : aj} {r : ai × aj} (h : kT a1 a2 d0 = some r) : EvP prog aI ext 31 [.ptr 0 0, rI a1, rI a2] [.var [.d (.lst (d0.fL.map (PD.int .i64))), rI d0.fAt]] (.d (ai.pd r.1), [.var [.d (.lst (r.2.fL.map (PD.int .i64))), rI r.2.fAt]]) := by
 refine Ev.body rfl Tryz.func31 rfl (by kernel_rfl)<|gS rfl rfl<|sB (.ptr 96 0) 96 (.var zZ3)<|sN<|gS rfl rfl<|sM rfl<|sM rfl<|bE h fun x1 hx1 h => cR (.d (aa.pd x1.1)) [(0, .var [.d (.lst (x1.2.fL.map (PD.int .i64))), rI x1.2.fAt])] (jW hx1)<|sB (.ptr 112 0) 112 (.var [r0, r0, r0])<|sS 112 (.var [rI x1.1.fX, rI x1.1.fY, rI x1.1.fZ])<|sN<|WC.cI rfl rfl<|sV (.d (aa.pd x1.1))<|sV (.ptr 112 0) ?_
 refine sL rfl<|sM rfl<|sM rfl<|sV (rI (rW (a2 + (1 : Int))))<|bE h fun x2 hx2 h => cR (rI x2.1) [(0, .var [.d (.lst (x2.2.fL.map (PD.int .i64))), rI x2.2.fAt])] (bC hx2)<|sV (rI (rW (x1.1.fX + x2.1)))<|sV (.ptr 112 1)<|sL rfl<|sM rfl<|sM rfl<|sV (rI (rW (a2 + (1 : Int))))<|bE h fun x3 hx3 h => cR (rI x3.1) [(0, .var [.d (.lst (x3.2.fL.map (PD.int .i64))), rI x3.2.fAt])] (bC hx3)<|sV (rI (rW (x1.1.fY + x3.1))) ?_
 refine sV (.ptr 112 2)<|sL rfl<|sM rfl<|sM rfl<|sV (rI (rW (a2 + (1 : Int))))<|bE h fun x4 hx4 h => cR (rI x4.1) [(0, .var [.d (.lst (x4.2.fL.map (PD.int .i64))), rI x4.2.fAt])] (bC hx4)<|sV (rI (rW (x1.1.fZ + x4.1)))<|sV (.d (aa.pd (aa.mk (rW (x1.1.fX + x2.1)) (rW (x1.1.fY + x3.1)) (rW (x1.1.fZ + x4.1)))))<|sG (.d (ai.pd (ai.mk x1.1 (aa.mk (rW (x1.1.fX + x2.1)) (rW (x1.1.fY + x3.1)) (rW (x1.1.fZ + x4.1))))))<|sH 96 (.var [rI x1.1.fX, rI x1.1.fY, rI x1.1.fZ, rI (rW (x1.1.fX + x2.1)), rI (rW (x1.1.fY + x3.1)), rI (rW (x1.1.fZ + x4.1))]) ?_
 refine sN<|sO<|qR ?_
 cases oI h
 exact qG
theorem dp {a1 : (List Int)} {d0 : aj} {r : Int × aj} (h : dJ a1 d0 = some r) : EvP prog aI ext 18 [.ptr 0 0, .d (.lst (a1.map (PD.int .i64)))] [.var [.d (.lst (d0.fL.map (PD.int .i64))), rI d0.fAt]] (rI r.1, [.var [.d (.lst (r.2.fL.map (PD.int .i64))), rI r.2.fAt]]) := by
 refine Ev.body rfl Tryz.func18 rfl (by kernel_rfl)<|gS rfl rfl<|sV (r0)<|sN<|gS rfl rfl<|sM rfl<|sM rfl<|sM rfl<|sE (rI (a1.length : Int)) (oQ _ _)<|bE h fun x1 hx1 h => cR (rI x1.1) [(0, .var [.d (.lst (x1.2.fL.map (PD.int .i64))), rI x1.2.fAt])] (bC hx1)<|bE h fun x2 hx2 h => eG hx2 rfl<|sC rfl<|sA rfl ?_
 refine sN<|qR ?_
 exact oI h▸qD
theorem oh {d0 : aj} {r : aK × aj} (h : gl d0 = some r) : EvP prog aI ext 32 [.ptr 0 0] [.var [.d (.lst (d0.fL.map (PD.int .i64))), rI d0.fAt]] (.agg [rI r.1.aU, .ref 1 0, .ref 2 0], [.var [.d (.lst (r.2.fL.map (PD.int .i64))), rI r.2.fAt], .arr 0 3 (r.1.ak.map (PD.int .i64)), .arr 0 3 (r.1.ae.map (PD.int .i64))]) := by
 refine Ev.body rfl Tryz.func32 rfl (by kernel_rfl)<|gS rfl rfl<|sB (.ptr 32 0) 32 (.var [r0, .hY, .hY])<|sN<|gS rfl rfl<|sM rfl<|sV (.d (.lst ([20, 25, 40, 100].map (PD.int .i64))))<|bE h fun x1 hx1 h => cR (rI x1.1) [(0, .var [.d (.lst (x1.2.fL.map (PD.int .i64))), rI x1.2.fAt])] (dp hx1)<|sV (.agg [rI x1.1, .hY, .hY])<|sB (.ptr 48 0) 48 (.var [r0, .hY, .hY])<|sS 48 (.var [rI x1.1, .hY, .hY])<|sN<|gS rfl rfl<|sM rfl ?_
 refine bE h fun x2 hx2 h => cR (rI x2.1) [(0, .var [.d (.lst (x2.2.fL.map (PD.int .i64))), rI x2.2.fAt])] (bC hx2)<|sV (r0)<|sA rfl<|sN<|qS<|gS rfl rfl<|sV (r0)<|sN<|bE h fun o24 ho24 h => WC.block (WC.loop (WL.oW ho24 (fun s R' B' => lC prog 1 (A R' B') (aI.at_ 32 1 4) = some (A [(0, .ptr 0 0), (2, .ptr 32 0), (3, .ptr 48 0), (4, rI s.1), (5, rI s.2.1), (6, rI s.2.2.1)] [(0, .var [.d (.lst (s.2.2.2.1.map (PD.int .i64))), rI s.2.2.2.2.1]), (32, .var [r0, .hY, .hY]), (48, .var [rI x1.1, .ref 432 0, .ref 512 0]), (432, .arr 0 3 (s.2.2.2.2.2.1.map (PD.int .i64))), (512, .arr 0 3 (s.2.2.2.2.2.2.map (PD.int .i64)))])) (fun o e R' B' => e = .exit 0 ∧ lC prog 1 (A R' B') (aI.at_ 32 1 9) = some (A [(2, .ptr 32 0), (3, .ptr 48 0)] [(0, .var [.d (.lst (o.1.map (PD.int .i64))), rI o.2.1]), (32, .var [r0, .hY, .hY]), (48, .var [rI x1.1, .ref 432 0, .ref 512 0]), (432, .arr 0 3 (o.2.2.1.map (PD.int .i64))), (512, .arr 0 3 (o.2.2.2.map (PD.int .i64)))])) rfl ?_ ?_))
 ·rintro ⟨s3, s4, s5, s6, s7, s8, s9⟩ R' B' q14 hI h
  unfold fJ at h
  refine qS<|WC.cI hI rfl<|sM rfl<|sV (.ptr 48 0)<|sL rfl<|bE h fun x15 hx15 h => WO.tf hx15 rfl rfl rfl rfl rfl rfl<|sM rfl<|bE h fun x16 hx16 h => cR (rI x16.1) [(0, .var [.d (.lst (x16.2.fL.map (PD.int .i64))), rI x16.2.fAt])] (bC hx16)<|sV (rI (rW (x15 + x16.1)))<|sF h (fun h => ?_) fun h => ?_
  ·refine sN<|sO<|cT<|qK<|qS<|qB<|WC.cI rfl rfl<|sV (.ptr 48 1)<|sL rfl<|sM rfl<|sV (.d (.lst ([s3].map (PD.int .i64))))<|bE h fun x18 hx18 h => aR hx18 (fun _ => rfl) rfl<|sV (.ptr 48 2)<|sL rfl<|sM rfl ?_
   refine sV (.d (.lst ([s4].map (PD.int .i64))))<|bE h fun x19 hx19 h => aR hx19 (fun _ => rfl) rfl<|sV (.ptr 48 1)<|sS 48 (.var [rI x1.1, .ref 432 1, .ref 512 0])<|sV (.ptr 48 2)<|sS 48 (.var [rI x1.1, .ref 432 1, .ref 512 1]) ?_
   refine sN<|sO<|WC.cI rfl rfl<|sM rfl<|sM rfl<|sV (.d (.lst ([0, 10, 20, 35].map (PD.int .i64))))<|bE h fun x20 hx20 h => cR (rI x20.1) [(0, .var [.d (.lst (x20.2.fL.map (PD.int .i64))), rI x20.2.fAt])] (dp hx20)<|sV (.ptr 48 0)<|sL rfl<|bE h fun x21 hx21 h => WO.tf hx21 rfl rfl rfl rfl rfl rfl<|sV (rI (rW (x20.1 + x21)))<|sV (rI (rW (s3 + (rW (x20.1 + x21)))))<|sA rfl ?_
   refine sN<|sO<|WC.region rfl rfl<|sM rfl<|sM rfl<|sV (rI (if (rW (s3 + (rW (x20.1 + x21)))) > s4 then (rW (s3 + (rW (x20.1 + x21)))) else s4))<|sM rfl<|sV (.d (.lst ([0, 0, 5, 30].map (PD.int .i64))))<|bE h fun x22 hx22 h => cR (rI x22.1) [(0, .var [.d (.lst (x22.2.fL.map (PD.int .i64))), rI x22.2.fAt])] (dp hx22)<|sV (rI (rW ((if (rW (s3 + (rW (x20.1 + x21)))) > s4 then (rW (s3 + (rW (x20.1 + x21)))) else s4) + x22.1)))<|sA rfl<|sN<|WC.region rfl rfl<|sM rfl<|sV (rI (rW (s5 + (1 : Int)))) ?_
   refine sA rfl<|sN ?_
   cases oI h
   exact ⟨rfl, rfl⟩
  refine sN<|sO<|cF<|qX ?_
  cases oI h
  exact ⟨nofun, rfl, rfl⟩
 intro e R' B' he hq
 obtain ⟨rfl, hI⟩ := hq
 refine qE<|gS rfl hI<|sV (.agg [rI x1.1, .ref 432 0, .ref 512 0])<|sS 32 (.var [rI x1.1, .ref 432 0, .ref 512 0])<|sN<|qR ?_
 exact oI h▸qD
theorem nK {a1 : Int} {d0 : aj} {r : bf × aj} (h : c9 a1 d0 = some r) : EvP prog aI ext 16 [.ptr 0 0, rI a1] [.var [.d (.lst (d0.fL.map (PD.int .i64))), rI d0.fAt]] (.d (bf.pd r.1), [.var [.d (.lst (r.2.fL.map (PD.int .i64))), rI r.2.fAt]]) := by
 refine Ev.body rfl Tryz.func16 rfl (by kernel_rfl)<|gS rfl rfl<|sB (.ptr 64 0) 64 (.var [r0, r0, r0, r0, r0, r0, r0, .hY, .hY, r0, r0, r0, r0, r0])<|sN<|gS rfl rfl<|sM rfl<|sM rfl<|bE h fun x1 hx1 h => cR (.d (ai.pd x1.1)) [(0, .var [.d (.lst (x1.2.fL.map (PD.int .i64))), rI x1.2.fAt])] (Src_Box_ev hx1)<|sM rfl<|bE h fun x2 hx2 h => cR (.agg [rI x2.1.aU, .ref 144 0, .ref 145 0]) [(0, .var [.d (.lst (x2.2.fL.map (PD.int .i64))), rI x2.2.fAt]), (144, .arr 0 3 (x2.1.ak.map (PD.int .i64))), (145, .arr 0 3 (x2.1.ae.map (PD.int .i64)))] (oh hx2)<|sM rfl<|sV (.d (.lst ([10, 50, 200].map (PD.int .i64))))<|bE h fun x3 hx3 h => ?_
 refine cR (rI x3.1) [(0, .var [.d (.lst (x3.2.fL.map (PD.int .i64))), rI x3.2.fAt])] (dp hx3)<|sM rfl<|sV (.d (.lst ([0, 0, 10, 40].map (PD.int .i64))))<|bE h fun x4 hx4 h => cR (rI x4.1) [(0, .var [.d (.lst (x4.2.fL.map (PD.int .i64))), rI x4.2.fAt])] (dp hx4)<|sM rfl<|sV (.d (.lst ([0, 50, 200, 400].map (PD.int .i64))))<|bE h fun x5 hx5 h => cR (rI x5.1) [(0, .var [.d (.lst (x5.2.fL.map (PD.int .i64))), rI x5.2.fAt])] (dp hx5)<|sM rfl<|sV (.d (.lst ([0, 5, 20].map (PD.int .i64))))<|bE h fun x6 hx6 h => cR (rI x6.1) [(0, .var [.d (.lst (x6.2.fL.map (PD.int .i64))), rI x6.2.fAt])] (dp hx6)<|sM rfl<|bE h fun x7 hx7 h => ?_
 refine cR (rI x7.1) [(0, .var [.d (.lst (x7.2.fL.map (PD.int .i64))), rI x7.2.fAt])] (bC hx7)<|sV (rI (rW ((2 : Int) + x7.1)))<|sG (.agg [rI x1.1.ak.fX, rI x1.1.ak.fY, rI x1.1.ak.fZ, rI x1.1.ae.fX, rI x1.1.ae.fY, rI x1.1.ae.fZ, rI x2.1.aU, .ref 144 0, .ref 145 0, rI x3.1, rI x4.1, rI x5.1, rI x6.1, rI (rW ((2 : Int) + x7.1))])<|sH 64 (.var [rI x1.1.ak.fX, rI x1.1.ak.fY, rI x1.1.ak.fZ, rI x1.1.ae.fX, rI x1.1.ae.fY, rI x1.1.ae.fZ, rI x2.1.aU, .ref 144 0, .ref 145 0, rI x3.1, rI x4.1, rI x5.1, rI x6.1, rI (rW ((2 : Int) + x7.1))])<|sN<|qR ?_
 cases oI h
 exact qG
theorem Src_Scale_ev {d0 : aj} {r : bt × aj} (h : ia d0 = some r) : EvP prog aI ext 17 [.ptr 0 0] [.var [.d (.lst (d0.fL.map (PD.int .i64))), rI d0.fAt]] (.d (bt.pd r.1), [.var [.d (.lst (r.2.fL.map (PD.int .i64))), rI r.2.fAt]]) := by
 refine Ev.body rfl Tryz.func17 rfl (by kernel_rfl)<|gS rfl rfl<|sB (.ptr 32 0) 32 (.var [r0, .hY, .hY, r0, r0])<|sN<|gS rfl rfl<|sM rfl<|bE h fun x1 hx1 h => cR (.agg [rI x1.1.aU, .ref 96 0, .ref 97 0]) [(0, .var [.d (.lst (x1.2.fL.map (PD.int .i64))), rI x1.2.fAt]), (96, .arr 0 3 (x1.1.ak.map (PD.int .i64))), (97, .arr 0 3 (x1.1.ae.map (PD.int .i64)))] (oh hx1)<|sM rfl<|bE h fun x2 hx2 h => cR (rI x2.1) [(0, .var [.d (.lst (x2.2.fL.map (PD.int .i64))), rI x2.2.fAt])] (bC hx2)<|sM rfl<|bE h fun x3 hx3 h => cR (rI x3.1) [(0, .var [.d (.lst (x3.2.fL.map (PD.int .i64))), rI x3.2.fAt])] (bC hx3)<|sV (rI (rW ((1 : Int) + x3.1))) ?_
 refine sV (.agg [rI x1.1.aU, .ref 96 0, .ref 97 0, rI x2.1, rI (rW ((1 : Int) + x3.1))])<|sB (.ptr 48 0) 48 (.var [r0, .hY, .hY, r0, r0])<|sS 48 (.var [rI x1.1.aU, .ref 96 0, .ref 97 0, rI x2.1, rI (rW ((1 : Int) + x3.1))])<|sN<|qS<|gS rfl rfl<|sV (.ptr 48 0)<|sV (.ptr 48 1)<|sL rfl<|WO.vR rfl rfl rfl rfl rfl rfl rfl rfl rfl<|sV (r0)<|sN<|bE h fun o26 ho26 h => WC.block (WC.loop (WL.oW ho26 (fun s R' B' => lC prog 1 (A R' B') (aI.at_ 17 1 3) = some (A [(2, .ptr 32 0), (3, .ptr 48 0), (16, rI (x1.1.ak.length : Int)), (17, rI s.1)] [(0, .var [.d (.lst (x3.2.fL.map (PD.int .i64))), rI x3.2.fAt]), (32, .var [r0, .hY, .hY, r0, r0]), (48, .var [rI x1.1.aU, .ref 96 0, .ref 97 0, rI x2.1, rI (rW ((1 : Int) + x3.1))]), (96, .arr 0 3 (s.2.1.map (PD.int .i64))), (97, .arr 0 3 (s.2.2.map (PD.int .i64)))])) (fun o e R' B' => e = .exit 0 ∧ lC prog 1 (A R' B') (aI.at_ 17 1 7) = some (A [(2, .ptr 32 0), (3, .ptr 48 0)] [(0, .var [.d (.lst (x3.2.fL.map (PD.int .i64))), rI x3.2.fAt]), (32, .var [r0, .hY, .hY, r0, r0]), (48, .var [rI x1.1.aU, .ref 96 0, .ref 97 0, rI x2.1, rI (rW ((1 : Int) + x3.1))]), (96, .arr 0 3 (o.1.map (PD.int .i64))), (97, .arr 0 3 (o.2.map (PD.int .i64)))])) rfl ?_ ?_))
 ·rintro ⟨s4, s5, s6⟩ R' B' q9 hI h
  refine gS rfl hI<|sF h (fun h => ?_) fun h => ?_
  ·refine sN<|qS<|cT<|qK<|qS<|qB<|gS rfl rfl<|sM rfl<|sA rfl<|sN<|WC.pQ rfl rfl<|sV (.ptr 48 0)<|sV (.ptr 48 1)<|sL rfl<|sM rfl ?_
   refine sV (.ptr 48 0)<|sV (.ptr 48 2)<|sL rfl<|sM rfl<|sV (.ptr 48 0)<|sV (.ptr 48 1)<|sL rfl<|sM rfl<|bE h fun x12 hx12 h => WO.qo hx12 rfl rfl rfl rfl rfl rfl rfl rfl<|bE h fun x13 hx13 h => WO.p7 hx13 rfl rfl rfl rfl rfl rfl<|bE h fun x14 hx14 h => WO.tf hx14 rfl rfl rfl rfl rfl rfl<|sV (.ptr 48 0) ?_
   refine sV (.ptr 48 2)<|sL rfl<|sM rfl<|bE h fun x16 hx16 h => WO.qo hx16 rfl rfl rfl rfl rfl rfl rfl rfl<|bE h fun x17 hx17 h => WO.p7 hx17 rfl rfl rfl rfl rfl rfl<|bE h fun x18 hx18 h => WO.tf hx18 rfl rfl rfl rfl rfl rfl<|bE h fun x20 hx20 h => WO.qo hx20 rfl rfl rfl rfl rfl rfl rfl rfl<|bE h fun x21 hx21 h => WO.tV (g := (PD.int .i64)) (sz := 1) (p := .int .i64 x14) hx21 (fun _ => rfl) (fun _ => rfl) rfl rfl rfl rfl rfl rfl rfl rfl rfl<|bE h fun x23 hx23 h => WO.qo hx23 rfl rfl rfl rfl rfl rfl rfl rfl ?_
   refine bE h fun x24 hx24 h => WO.tV (g := (PD.int .i64)) (sz := 1) (p := .int .i64 x18) hx24 (fun _ => rfl) (fun _ => rfl) rfl rfl rfl rfl rfl rfl rfl rfl rfl ?_
   refine sN<|sO<|WC.region rfl rfl<|sV (rI (rW (s4 + (1 : Int))))<|sM rfl<|sN ?_
   cases oI h
   exact ⟨rfl, rfl⟩
  refine sN<|qS<|cF<|qX ?_
  cases oI h
  exact ⟨nofun, rfl, rfl⟩
 intro e R' B' he hq
 obtain ⟨rfl, hI⟩ := hq
 refine qE<|gS rfl hI<|sV (.agg [rI x1.1.aU, .ref 96 0, .ref 97 0, rI x2.1, rI (rW ((1 : Int) + x3.1))])<|sS 32 (.var [rI x1.1.aU, .ref 96 0, .ref 97 0, rI x2.1, rI (rW ((1 : Int) + x3.1))])<|sN<|qR ?_
 exact oI h▸qD
theorem jD {a1 : Int} {d0 : aj} {r : aG × aj} (h : cK a1 d0 = some r) : EvP prog aI ext 6 [.ptr 0 0, rI a1] [.var [.d (.lst (d0.fL.map (PD.int .i64))), rI d0.fAt]] (.d (aG.pd r.1), [.var [.d (.lst (r.2.fL.map (PD.int .i64))), rI r.2.fAt]]) := by
 refine Ev.body rfl Tryz.func6 rfl (by kernel_rfl)<|gS rfl rfl<|sB (.ptr 64 0) 64 (.var [r0, r0, r0, r0, r0, r0, r0, .hY, .hY, r0, r0, r0, r0, r0, r0, .hY, .hY, r0, r0, r0])<|sN<|gS rfl rfl<|sM rfl<|sM rfl<|bE h fun x1 hx1 h => cR (.d (bf.pd x1.1)) [(0, .var [.d (.lst (x1.2.fL.map (PD.int .i64))), rI x1.2.fAt])] (nK hx1)<|sM rfl<|bE h fun x2 hx2 h => cR (.d (bt.pd x2.1)) [(0, .var [.d (.lst (x2.2.fL.map (PD.int .i64))), rI x2.2.fAt])] (Src_Scale_ev hx2)<|sM rfl<|sV (.d (.lst ([0, 0, 10, 40].map (PD.int .i64))))<|bE h fun x3 hx3 h => ?_
 refine cR (rI x3.1) [(0, .var [.d (.lst (x3.2.fL.map (PD.int .i64))), rI x3.2.fAt])] (dp hx3)<|sG (.d (.agg [.int .i64 x1.1.ac.ak.fX, .int .i64 x1.1.ac.ak.fY, .int .i64 x1.1.ac.ak.fZ, .int .i64 x1.1.ac.ae.fX, .int .i64 x1.1.ac.ae.fY, .int .i64 x1.1.ac.ae.fZ, .int .i64 x1.1.az.aU, .lst (x1.1.az.ak.map (PD.int .i64)), .lst (x1.1.az.ae.map (PD.int .i64)), .int .i64 x1.1.bG, .int .i64 x1.1.bc, .int .i64 x1.1.gJ, .int .i64 x1.1.eR, .int .i64 x1.1.eQ, .int .i64 x2.1.aZ.aU, .lst (x2.1.aZ.ak.map (PD.int .i64)), .lst (x2.1.aZ.ae.map (PD.int .i64)), .int .i64 x2.1.bj, .int .i64 x2.1.bh, .int .i64 x3.1]))<|sH 64 (.var [rI x1.1.ac.ak.fX, rI x1.1.ac.ak.fY, rI x1.1.ac.ak.fZ, rI x1.1.ac.ae.fX, rI x1.1.ac.ae.fY, rI x1.1.ac.ae.fZ, rI x1.1.az.aU, .d (.lst (x1.1.az.ak.map (PD.int .i64))), .d (.lst (x1.1.az.ae.map (PD.int .i64))), rI x1.1.bG, rI x1.1.bc, rI x1.1.gJ, rI x1.1.eR, rI x1.1.eQ, rI x2.1.aZ.aU, .d (.lst (x2.1.aZ.ak.map (PD.int .i64))), .d (.lst (x2.1.aZ.ae.map (PD.int .i64))), rI x2.1.bj, rI x2.1.bh, rI x3.1])<|sN<|qR ?_
 cases oI h
 exact qG
theorem jB {d0 : aj} {r : aM × aj} (h : dj d0 = some r) : EvP prog aI ext 15 [.ptr 0 0] [.var [.d (.lst (d0.fL.map (PD.int .i64))), rI d0.fAt]] (.d (aM.pd r.1), [.var [.d (.lst (r.2.fL.map (PD.int .i64))), rI r.2.fAt]]) := by
 refine Ev.body rfl Tryz.func15 rfl (by kernel_rfl)<|gS rfl rfl<|sB (.ptr 32 0) 32 (.var [.hY])<|sN<|gS rfl rfl<|sB (.ptr 48 0) 48 (.var [.hY])<|sN<|qS<|gS rfl rfl<|sM rfl<|bE h fun x1 hx1 h => cR (rI x1.1) [(0, .var [.d (.lst (x1.2.fL.map (PD.int .i64))), rI x1.2.fAt])] (bC hx1)<|sA rfl<|sN<|bE h fun o28 ho28 h => ?_
 refine WC.block (WC.loop (WL.oW ho28 (fun s R' B' => lC prog 1 (A R' B') (aI.at_ 15 1 3) = some (A [(0, .ptr 0 0), (2, .ptr 32 0), (3, .ptr 48 0), (4, rI s.1)] [(0, .var [.d (.lst (s.2.1.map (PD.int .i64))), rI s.2.2.1]), (32, .var [.hY]), (48, .var [.ref 1040 0]), (1040, .arr 0 104 (s.2.2.2.map aB.pd))])) (fun o e R' B' => e = .exit 0 ∧ lC prog 1 (A R' B') (aI.at_ 15 1 13) = some (A [(2, .ptr 32 0), (3, .ptr 48 0)] [(0, .var [.d (.lst (o.1.map (PD.int .i64))), rI o.2.1]), (32, .var [.hY]), (48, .var [.ref 1040 0]), (1040, .arr 0 104 (o.2.2.map aB.pd))])) rfl ?_ ?_))
 ·rintro ⟨s2, s3, s4, s5⟩ R' B' q9 hI h
  refine qS<|gS rfl hI<|sM rfl<|sF h (fun h => ?_) fun h => ?_
  ·refine sN<|cT<|qK<|qS<|qB<|gS rfl rfl<|sM rfl<|bE h fun x11 hx11 h => cR (rI x11.1) [(0, .var [.d (.lst (x11.2.fL.map (PD.int .i64))), rI x11.2.fAt])] (bC hx11)<|sG (.agg [rI x11.1, r0, r0, r0, r0, r0, r0, .hY, r0, r0])<|sB (.ptr 80 0) 80 (.var [r0, r0, r0, r0, r0, r0, r0, .hY, r0, r0])<|sH 80 (.var [rI x11.1, r0, r0, r0, r0, r0, r0, .hY, r0, r0])<|sN<|qS<|gS rfl rfl ?_
   refine sV (.ptr 80 0)<|sL rfl<|sN<|qB<|gS rfl rfl<|sF h (fun h => ?_) fun h => ?_
   ·refine sA rfl<|sN<|cT<|WC.region rfl rfl<|sM rfl<|sV (.d (.lst ([0, 1, 9, 99, 1048575].map (PD.int .i64))))<|bE h fun x13 hx13 h => cR (rI x13.1) [(0, .var [.d (.lst (x13.2.fL.map (PD.int .i64))), rI x13.2.fAt])] (dp hx13)<|sV (rI (rW ((1 : Int) + x13.1)))<|sM rfl<|sV (.d (.lst ([0, 0, 2, 9, 999].map (PD.int .i64))))<|bE h fun x14 hx14 h => cR (rI x14.1) [(0, .var [.d (.lst (x14.2.fL.map (PD.int .i64))), rI x14.2.fAt])] (dp hx14)<|sV (rI (rW ((1 : Int) + x14.1)))<|sV (.ptr 80 1) ?_
    refine sV (.ptr 80 1)<|sS 80 (.var [rI x11.1, rI (rW ((1 : Int) + x13.1)), r0, r0, r0, r0, r0, .hY, r0, r0])<|sV (.ptr 80 4)<|sV (.ptr 80 4)<|sS 80 (.var [rI x11.1, rI (rW ((1 : Int) + x13.1)), r0, r0, rI (rW ((1 : Int) + x14.1)), r0, r0, .hY, r0, r0])<|sN<|WC.region rfl rfl<|sV (.ptr 48 0)<|sL rfl<|sV (.agg [rI x11.1, rI (rW ((1 : Int) + x13.1)), r0, r0, rI (rW ((1 : Int) + x14.1)), r0, r0, .hY, r0, r0])<|sG (.d (.lst ([(aB.mk x11.1 (aW.mk (rW ((1 : Int) + x13.1)) 0 0) (aW.mk (rW ((1 : Int) + x14.1)) 0 0) [] 0 0)].map aB.pd)))<|bE h fun x15 hx15 h => aR hx15 (fun _ => rfl) rfl<|sV (.ptr 48 0)<|sS 48 (.var [.ref 1040 1]) ?_
    refine sN<|WC.region rfl rfl<|sM rfl<|sV (rI (rW (s2 - (1 : Int))))<|sA rfl<|sN ?_
    cases oI h
    exact ⟨rfl, rfl⟩
   refine sA rfl<|sN<|cF<|gS rfl rfl<|sF h (fun h => ?_) fun h => ?_
   ·refine sA rfl<|sN<|cT<|WC.region rfl rfl<|sM rfl<|bE h fun x17 hx17 h => cR (rI x17.1) [(0, .var [.d (.lst (x17.2.fL.map (PD.int .i64))), rI x17.2.fAt])] (bC hx17)<|sM rfl<|bE h fun x18 hx18 h => cR (rI x18.1) [(0, .var [.d (.lst (x18.2.fL.map (PD.int .i64))), rI x18.2.fAt])] (bC hx18)<|sV (rI (rW (x18.1 - (3 : Int))))<|sM rfl<|bE h fun x19 hx19 h => cR (rI x19.1) [(0, .var [.d (.lst (x19.2.fL.map (PD.int .i64))), rI x19.2.fAt])] (bC hx19)<|sV (rI (rW (x19.1 - (1 : Int)))) ?_
    refine sV (.d (aW.pd (aW.mk x17.1 (rW (x18.1 - (3 : Int))) (rW (x19.1 - (1 : Int))))))<|sM rfl<|bE h fun x20 hx20 h => cR (rI x20.1) [(0, .var [.d (.lst (x20.2.fL.map (PD.int .i64))), rI x20.2.fAt])] (bC hx20)<|sV (rI (rW ((1 : Int) + x20.1)))<|sM rfl<|bE h fun x21 hx21 h => cR (rI x21.1) [(0, .var [.d (.lst (x21.2.fL.map (PD.int .i64))), rI x21.2.fAt])] (bC hx21)<|sM rfl<|bE h fun x22 hx22 h => cR (rI x22.1) [(0, .var [.d (.lst (x22.2.fL.map (PD.int .i64))), rI x22.2.fAt])] (bC hx22)<|sV (.d (aW.pd (aW.mk (rW ((1 : Int) + x20.1)) x21.1 x22.1)))<|sV (.ptr 80 1)<|sS 80 (.var [rI x11.1, rI x17.1, rI (rW (x18.1 - (3 : Int))), rI (rW (x19.1 - (1 : Int))), r0, r0, r0, .hY, r0, r0])<|sV (.ptr 80 4) ?_
    refine sS 80 (.var [rI x11.1, rI x17.1, rI (rW (x18.1 - (3 : Int))), rI (rW (x19.1 - (1 : Int))), rI (rW ((1 : Int) + x20.1)), rI x21.1, rI x22.1, .hY, r0, r0])<|sN<|WC.region rfl rfl<|sV (.ptr 48 0)<|sL rfl<|sV (.agg [rI x11.1, rI x17.1, rI (rW (x18.1 - (3 : Int))), rI (rW (x19.1 - (1 : Int))), rI (rW ((1 : Int) + x20.1)), rI x21.1, rI x22.1, .hY, r0, r0])<|sG (.d (.lst ([(aB.mk x11.1 (aW.mk x17.1 (rW (x18.1 - (3 : Int))) (rW (x19.1 - (1 : Int)))) (aW.mk (rW ((1 : Int) + x20.1)) x21.1 x22.1) [] 0 0)].map aB.pd)))<|bE h fun x23 hx23 h => aR hx23 (fun _ => rfl) rfl<|sV (.ptr 48 0)<|sS 48 (.var [.ref 1040 1])<|sN<|WC.region rfl rfl<|sM rfl<|sV (rI (rW (s2 - (1 : Int)))) ?_
    refine sA rfl<|sN ?_
    cases oI h
    exact ⟨rfl, rfl⟩
   refine sA rfl<|sN<|cF<|WC.region rfl rfl<|sM rfl<|bE h fun x24 hx24 h => cR (rI x24.1) [(0, .var [.d (.lst (x24.2.fL.map (PD.int .i64))), rI x24.2.fAt])] (bC hx24)<|sV (rI (rW ((1 : Int) + x24.1)))<|sV (.d (.lst ([(rW ((1 : Int) + x24.1)), 2, 1].map (PD.int .i64))))<|sM rfl<|bE h fun x25 hx25 h => cR (rI x25.1) [(0, .var [.d (.lst (x25.2.fL.map (PD.int .i64))), rI x25.2.fAt])] (bC hx25)<|sV (.ptr 80 7)<|sS 80 (.var [rI x11.1, r0, r0, r0, r0, r0, r0, .d (.lst ([(rW ((1 : Int) + x24.1)), 2, 1].map (PD.int .i64))), r0, r0])<|sV (.ptr 80 8) ?_
   refine sS 80 (.var [rI x11.1, r0, r0, r0, r0, r0, r0, .d (.lst ([(rW ((1 : Int) + x24.1)), 2, 1].map (PD.int .i64))), rI 1, r0])<|sV (.ptr 80 9)<|sS 80 (.var [rI x11.1, r0, r0, r0, r0, r0, r0, .d (.lst ([(rW ((1 : Int) + x24.1)), 2, 1].map (PD.int .i64))), rI 1, rI x25.1])<|sN<|WC.region rfl rfl<|sV (.ptr 48 0)<|sL rfl<|sV (.d (.agg [.int .i64 x11.1, .int .i64 0, .int .i64 0, .int .i64 0, .int .i64 0, .int .i64 0, .int .i64 0, .lst ([(rW ((1 : Int) + x24.1)), 2, 1].map (PD.int .i64)), .int .i64 1, .int .i64 x25.1]))<|sG (.d (.lst ([(aB.mk x11.1 (aW.mk 0 0 0) (aW.mk 0 0 0) [(rW ((1 : Int) + x24.1)), 2, 1] 1 x25.1)].map aB.pd)))<|bE h fun x26 hx26 h => aR hx26 (fun _ => rfl) rfl<|sV (.ptr 48 0)<|sS 48 (.var [.ref 1040 1])<|sN<|WC.region rfl rfl ?_
   refine sM rfl<|sV (rI (rW (s2 - (1 : Int))))<|sA rfl<|sN ?_
   cases oI h
   exact ⟨rfl, rfl⟩
  refine sN<|cF<|qX ?_
  cases oI h
  exact ⟨nofun, rfl, rfl⟩
 intro e R' B' he hq
 obtain ⟨rfl, hI⟩ := hq
 refine qE<|gS rfl hI<|sV (.agg [.ref 1040 0])<|sS 32 (.var [.ref 1040 0])<|sN<|qR ?_
 exact oI h▸qD
theorem kB {a0 : Int} {r : aJ} (h : dw a0 = some r) : EvP prog aI ext 19 [rI a0] [] (.d (aJ.pd r), []) := by
 refine Ev.body rfl Tryz.func19 rfl (by kernel_rfl)<|gS rfl rfl<|sB (.ptr 32 0) 32 (.var [rS [], rS [], rS [], rS []])<|sN<|gS rfl rfl<|sV (.d (.lst ([[83, 49], [83, 50], [83, 51], [83, 52], [83, 53], [83, 54]].map PD.str)))<|sM rfl<|bE h fun x1 hx1 h => cD (mH hx1)<|bE h fun x2 hx2 h => eG hx2 rfl<|sC rfl<|sV (.d (aJ.pd (aJ.mk [65, 66] x2 [48, 48] [66, 72, 90])))<|sS 32 (.var [rS [65, 66], rS x2, rS [48, 48], rS [66, 72, 90]])<|sN ?_
 refine qR ?_
 exact oI h▸qD
theorem lJ {a1 : Int} {d0 : aj} {r : aC × aj} (h : eW a1 d0 = some r) : EvP prog aI ext 7 [.ptr 0 0, rI a1] [.var [.d (.lst (d0.fL.map (PD.int .i64))), rI d0.fAt]] (.d (aC.pd r.1), [.var [.d (.lst (r.2.fL.map (PD.int .i64))), rI r.2.fAt]]) := by
 refine Ev.body rfl Tryz.func7 rfl (by kernel_rfl)<|gS rfl rfl<|sB (.ptr 64 0) 64 (.var [.hY])<|sN<|gS rfl rfl<|sB (.ptr 80 0) 80 (.var [.hY])<|sN<|qS<|gS rfl rfl<|sV (r0)<|sN<|bE h fun o34 ho34 h => WC.block (WC.loop (WL.oW ho34 (fun s R' B' => lC prog 1 (A R' B') (aI.at_ 7 1 3) = some (A [(0, .ptr 0 0), (1, rI a1), (4, .ptr 64 0), (5, .ptr 80 0), (6, rI s.1)] [(0, .var [.d (.lst (s.2.1.map (PD.int .i64))), rI s.2.2.1]), (64, .var [.hY]), (80, .var [.ref 1104 0]), (1104, .arr 0 64 (s.2.2.2.map ap.pd))])) (fun o e R' B' => e = .exit 0 ∧ lC prog 1 (A R' B') (aI.at_ 7 1 16) = some (A [(4, .ptr 64 0), (5, .ptr 80 0)] [(0, .var [.d (.lst (o.1.map (PD.int .i64))), rI o.2.1]), (64, .var [.hY]), (80, .var [.ref 1104 0]), (1104, .arr 0 64 (o.2.2.map ap.pd))])) rfl ?_ ?_))
 ·rintro ⟨s1, s2, s3, s4⟩ R' B' q8 hI h
  refine qS<|gS rfl hI<|sM rfl<|sM rfl<|sF h (fun h => ?_) fun h => ?_
  ·refine sM rfl<|sM rfl<|sV (rB (decide (s1 < (6 : Int))))<|sF h (fun h => ?_) fun h => ?_
   ·refine sN<|cT<|qK<|qS<|qB<|gS rfl rfl<|sV (.d (bg.pd (bg.mk 100 1)))<|sM rfl<|bE h fun x11 hx11 h => cR (.d (aa.pd x11.1)) [(0, .var [.d (.lst (x11.2.fL.map (PD.int .i64))), rI x11.2.fAt])] (jW hx11)<|sM rfl<|bE h fun x12 hx12 h => cR (.d (aM.pd x12.1)) [(0, .var [.d (.lst (x12.2.fL.map (PD.int .i64))), rI x12.2.fAt])] (jB hx12)<|sG (.d (.agg [.int .i64 0, .int .i64 100000, .int .i64 100, .int .i64 1, .int .i64 x11.1.fX, .int .i64 x11.1.fY, .int .i64 x11.1.fZ, .lst (x12.1.bo.map aB.pd)]))<|sB (.ptr 112 0) 112 (.var zZ2) ?_
    refine sH 112 (.var [r0, rI 100000, rI 100, rI 1, rI x11.1.fX, rI x11.1.fY, rI x11.1.fZ, .d (.lst (x12.1.bo.map aB.pd))])<|sN<|WC.cI rfl rfl<|sM rfl<|bE h fun x13 hx13 h => cD (kB hx13)<|sV (.d (.agg [.int .i64 0, .int .i64 100000, .int .i64 100, .int .i64 1, .int .i64 x11.1.fX, .int .i64 x11.1.fY, .int .i64 x11.1.fZ, .lst (x12.1.bo.map aB.pd)]))<|sB (.ref 448 0) 448 (.arr 0 71 ([(al.mk 0 100000 (bg.mk 100 1) x11.1 x12.1)].map al.pd))<|sV (.agg [rS x13.aV, rS x13.aL, rS x13.ar, rS x13.aX, .ref 448 0])<|sB (.ptr 128 0) 128 (.var [rS [], rS [], rS [], rS [], .hY])<|sS 128 (.var [rS x13.aV, rS x13.aL, rS x13.ar, rS x13.aX, .ref 448 0]) ?_
    refine sN<|sO<|qS<|gS rfl rfl<|sM rfl<|bE h fun x14 hx14 h => cR (rI x14.1) [(0, .var [.d (.lst (x14.2.fL.map (PD.int .i64))), rI x14.2.fAt])] (bC hx14)<|sN<|qB<|gS rfl rfl<|sF h (fun h => ?_) fun h => ?_
    ·refine sA rfl<|sN<|cT<|gS rfl rfl<|sV (.d (.agg [.int .i64 0, .int .i64 100000, .int .i64 100, .int .i64 1, .int .i64 x11.1.fX, .int .i64 x11.1.fY, .int .i64 x11.1.fZ, .lst (x12.1.bo.map aB.pd)]))<|sB (.ptr 144 0) 144 (.var zZ2)<|sH 144 (.var [r0, rI 100000, rI 100, rI 1, rI x11.1.fX, rI x11.1.fY, rI x11.1.fZ, .d (.lst (x12.1.bo.map aB.pd))])<|sN<|gS rfl rfl<|sM rfl<|bE h fun x16 hx16 h => cR (rI x16.1) [(0, .var [.d (.lst (x16.2.fL.map (PD.int .i64))), rI x16.2.fAt])] (bC hx16)<|sV (rI (rW ((1500 : Int) + x16.1)))<|sM rfl<|bE h fun x17 hx17 h => ?_
     refine cR (.d (aa.pd x17.1)) [(0, .var [.d (.lst (x17.2.fL.map (PD.int .i64))), rI x17.2.fAt])] (jW hx17)<|sM rfl<|bE h fun x18 hx18 h => cR (.d (aM.pd x18.1)) [(0, .var [.d (.lst (x18.2.fL.map (PD.int .i64))), rI x18.2.fAt])] (jB hx18)<|sV (.ptr 144 0)<|sS 144 (.var [rI (rW ((1500 : Int) + x16.1)), rI 100000, rI 100, rI 1, rI x11.1.fX, rI x11.1.fY, rI x11.1.fZ, .d (.lst (x12.1.bo.map aB.pd))])<|sV (.ptr 144 4)<|sS 144 (.var [rI (rW ((1500 : Int) + x16.1)), rI 100000, rI 100, rI 1, rI x17.1.fX, rI x17.1.fY, rI x17.1.fZ, .d (.lst (x12.1.bo.map aB.pd))])<|sV (.ptr 144 7)<|sS 144 (.var [rI (rW ((1500 : Int) + x16.1)), rI 100000, rI 100, rI 1, rI x17.1.fX, rI x17.1.fY, rI x17.1.fZ, .d (.lst (x18.1.bo.map aB.pd))])<|sN<|gS rfl rfl<|sV (.ptr 128 4)<|sL rfl<|sV (.ptr 144 0) ?_
     refine sL rfl<|bE h fun x20 hx20 h => WO.qo hx20 rfl rfl rfl rfl rfl rfl rfl rfl<|sV (.elt 448 0 ((0 : Int)).toNat 1)<|bE h fun x21 hx21 h => WO.yT (g := al.pd) (u := []) (sz := 1) hx21 (fun _ => rfl) (fun _ => Nat.le_of_ble_eq_true rfl) rfl rfl rfl rfl rfl rfl rfl rfl rfl rfl rfl<|sN<|WC.region rfl rfl<|sV (.ptr 128 4)<|sL rfl<|sV (.d (.agg [.int .i64 (rW ((1500 : Int) + x16.1)), .int .i64 100000, .int .i64 100, .int .i64 1, .int .i64 x17.1.fX, .int .i64 x17.1.fY, .int .i64 x17.1.fZ, .lst (x18.1.bo.map aB.pd)]))<|sG (.d (.lst ([(al.mk (rW ((1500 : Int) + x16.1)) 100000 (bg.mk 100 1) x17.1 x18.1)].map al.pd)))<|bE h fun x23 hx23 h => aR hx23 (fun _ => rfl) rfl<|sV (.ptr 128 4) ?_
     refine sS 128 (.var [rS x13.aV, rS x13.aL, rS x13.ar, rS x13.aX, .ref 448 1])<|sN<|WC.region rfl rfl<|sV (.ptr 80 0)<|sL rfl<|sV (.agg [rS x13.aV, rS x13.aL, rS x13.ar, rS x13.aX, .ref 448 1])<|sB (.d (.lst [ap.pd (ap.mk x13 x23)])) 448 .dead<|bE h fun x24 hx24 h => aR hx24 (fun _ => rfl) rfl<|sV (.ptr 80 0)<|sS 80 (.var [.ref 1104 1])<|sN<|WC.region rfl rfl<|sM rfl<|sV (rI (rW (s1 + (1 : Int)))) ?_
     refine sA rfl<|sN ?_
     cases oI h
     exact ⟨rfl, rfl⟩
    refine sA rfl<|sN<|cF<|gS rfl rfl<|sF h (fun h => ?_) fun h => ?_
    ·refine sA rfl<|sN<|cT<|WC.pQ rfl rfl<|sV (.ptr 128 4)<|sL rfl<|sM rfl<|bE h fun x26 hx26 h => cR (rI x26.1) [(0, .var [.d (.lst (x26.2.fL.map (PD.int .i64))), rI x26.2.fAt])] (bC hx26)<|bE h fun x28 hx28 h => WO.qo hx28 rfl rfl rfl rfl rfl rfl rfl rfl<|sV (.elt 448 0 ((0 : Int)).toNat 0)<|bE h fun x29 hx29 h => WO.yT (g := al.pd) (u := []) (sz := 1) hx29 (fun _ => rfl) (fun _ => Nat.le_of_ble_eq_true rfl) rfl rfl rfl rfl rfl rfl rfl rfl rfl rfl rfl ?_
     refine sN<|sO<|WC.region rfl rfl<|sV (.ptr 80 0)<|sL rfl<|sV (.agg [rS x13.aV, rS x13.aL, rS x13.ar, rS x13.aX, .ref 448 0])<|sB (.d (.lst [ap.pd (ap.mk x13 x29)])) 448 .dead<|bE h fun x31 hx31 h => aR hx31 (fun _ => rfl) rfl<|sV (.ptr 80 0)<|sS 80 (.var [.ref 1104 1])<|sN<|WC.region rfl rfl<|sM rfl<|sV (rI (rW (s1 + (1 : Int))))<|sA rfl ?_
     refine sN ?_
     cases oI h
     exact ⟨rfl, rfl⟩
    refine sA rfl<|sN<|cF<|qK<|WC.region rfl rfl<|sV (.ptr 80 0)<|sL rfl<|sV (.agg [rS x13.aV, rS x13.aL, rS x13.ar, rS x13.aX, .ref 448 0])<|sB (.d (.lst [ap.pd (ap.mk x13 [(al.mk 0 100000 (bg.mk 100 1) x11.1 x12.1)])])) 448 .dead<|bE h fun x32 hx32 h => aR hx32 (fun _ => rfl) rfl<|sV (.ptr 80 0)<|sS 80 (.var [.ref 1104 1])<|sN<|WC.region rfl rfl ?_
    refine sM rfl<|sV (rI (rW (s1 + (1 : Int))))<|sA rfl<|sN ?_
    cases oI h
    exact ⟨rfl, rfl⟩
   refine sN<|cF<|qX ?_
   cases oI h
   exact ⟨nofun, rfl, rfl⟩
  refine sM rfl<|sK<|sK<|sU<|sN<|cF<|qX ?_
  cases oI h
  exact ⟨nofun, rfl, rfl⟩
 intro e R' B' he hq
 obtain ⟨rfl, hI⟩ := hq
 refine qE<|gS rfl hI<|sV (.agg [.ref 1104 0])<|sS 64 (.var [.ref 1104 0])<|sN<|qR ?_
 exact oI h▸qD
theorem lI {a1 : Int} {a2 : Int} {d0 : aj} {r : Int × aj} (h : kc a1 a2 d0 = some r) : EvP prog aI ext 33 [.ptr 0 0, rI a1, rI a2] [.var [.d (.lst (d0.fL.map (PD.int .i64))), rI d0.fAt]] (rI r.1, [.var [.d (.lst (r.2.fL.map (PD.int .i64))), rI r.2.fAt]]) := by
 refine Ev.body rfl Tryz.func33 rfl (by kernel_rfl)<|gS rfl rfl<|sV (r0)<|sN<|gS rfl rfl<|sM rfl<|sM rfl<|sM rfl<|sM rfl<|sV (rI (rW (a2 - a1)))<|sV (rI (rW ((rW (a2 - a1)) + (1 : Int))))<|bE h fun x1 hx1 h => cR (rI x1.1) [(0, .var [.d (.lst (x1.2.fL.map (PD.int .i64))), rI x1.2.fAt])] (bC hx1)<|sV (rI (rW (a1 + x1.1)))<|sA rfl ?_
 refine sN<|qR ?_
 exact oI h▸qD
theorem og {a1 : ai} {d0 : aj} {r : aa × aj} (h : lx a1 d0 = some r) : EvP prog aI ext 20 [.ptr 0 0, .d (ai.pd a1)] [.var [.d (.lst (d0.fL.map (PD.int .i64))), rI d0.fAt]] (.d (aa.pd r.1), [.var [.d (.lst (r.2.fL.map (PD.int .i64))), rI r.2.fAt]]) := by
 refine Ev.body rfl Tryz.func20 rfl (by kernel_rfl)<|gS rfl rfl<|sB (.ptr 48 0) 48 (.var (ai.rc a1))<|sB (.ptr 64 0) 64 (.var [r0, r0, r0])<|sN<|WC.cI rfl rfl<|sM rfl<|sV (.ptr 48 0)<|sV (.ptr 48 0)<|sL rfl<|sV (.ptr 48 3)<|sV (.ptr 48 3)<|sL rfl<|bE h fun x1 hx1 h => cR (rI x1.1) [(0, .var [.d (.lst (x1.2.fL.map (PD.int .i64))), rI x1.2.fAt])] (lI hx1) ?_
 refine sM rfl<|sV (.ptr 48 0)<|sV (.ptr 48 1)<|sL rfl<|sV (.ptr 48 3)<|sV (.ptr 48 4)<|sL rfl<|bE h fun x2 hx2 h => cR (rI x2.1) [(0, .var [.d (.lst (x2.2.fL.map (PD.int .i64))), rI x2.2.fAt])] (lI hx2)<|sM rfl<|sV (.ptr 48 0)<|sV (.ptr 48 2)<|sL rfl<|sV (.ptr 48 3)<|sV (.ptr 48 5) ?_
 refine sL rfl<|bE h fun x3 hx3 h => cR (rI x3.1) [(0, .var [.d (.lst (x3.2.fL.map (PD.int .i64))), rI x3.2.fAt])] (lI hx3)<|sV (.d (aa.pd (aa.mk x1.1 x2.1 x3.1)))<|sS 64 (.var [rI x1.1, rI x2.1, rI x3.1]) ?_
 refine sN<|sO<|qR ?_
 exact oI h▸qD
theorem keep_place_ev {a0 : aC} {a1 : aJ} {a2 : Int} {r : aa × Bool} (h : lT a0 a1 a2 = some r) : EvP prog aI ext 21 [.d (aC.pd a0), .d (aJ.pd a1), rI a2] [] (.tup [.d (aa.pd r.1), rB r.2], []) := by
 refine Ev.body rfl Tryz.func21 rfl (by kernel_rfl)<|gS rfl rfl<|sB (.ptr 48 0) 48 (.var [.d (.lst (a0.aO.map ap.pd))])<|sB (.ptr 64 0) 64 (.var [rS a1.aV, rS a1.aL, rS a1.ar, rS a1.aX])<|sB (.ptr 96 0) 96 (.var [r0, r0, r0])<|sU<|sN<|qS<|gS rfl rfl<|sV (.ptr 48 0)<|sL rfl<|sE (rI (a0.aO.length : Int)) (oQ _ _)<|sV (r0)<|sN<|bE h fun o18 ho18 h => ?_
 refine WC.block (WC.loop (WL.oW ho18 (fun s R' B' => lC prog 0 (A R' B') (aI.at_ 21 0 2) = some (A [(2, rI a2), (4, .ptr 64 0), (6, .ptr 96 0), (13, .d (.lst (a0.aO.map ap.pd))), (14, rI (a0.aO.length : Int)), (15, rI s)] [(64, .var [rS a1.aV, rS a1.aL, rS a1.ar, rS a1.aX]), (96, .var [r0, r0, r0])])) (fun o e R' B' => match o with | .inl y => e = .exit 0 ∧ lC prog 0 (A R' B') (aI.at_ 21 0 11) = some (A [(6, .ptr 96 0)] [(96, .var [r0, r0, r0])]) | .inr r => e = .ret ∧ finish prog (aI.own 21) Tryz.f21 0 (A R' B') = some (.tup [.d (aa.pd r.1), rB r.2], [])) rfl ?_ ?_))
 ·rintro s1 R' B' q2 hI h
  refine gS rfl hI<|sF h (fun h => ?_) fun h => ?_
  ·refine sN<|qS<|cT<|qK<|qS<|qB<|gS rfl rfl<|bE h fun x4 hx4 h => eG hx4 rfl<|sV (.d (ap.pd x4))<|sB (.ptr 144 0) 144 (.var [rS [], rS [], rS [], rS [], .hY])<|sS 144 (.var (ap.rc x4))<|sN<|gS rfl rfl<|sV (.ptr 144 4) ?_
   refine sL rfl<|sE (rI (x4.ba.length : Int)) (oQ _ _)<|sV (r0)<|sN<|bE h fun o14 ho14 h => WC.block (WC.loop (WL.oW ho14 (fun s R' B' => lC prog 0 (A R' B') (aI.at_ 21 0 5) = some (A [(2, rI a2), (4, .ptr 64 0), (6, .ptr 96 0), (9, .ptr 144 0), (13, .d (.lst (a0.aO.map ap.pd))), (14, rI (a0.aO.length : Int)), (15, rI s1), (20, .d (.lst (x4.ba.map al.pd))), (21, rI (x4.ba.length : Int)), (22, rI s)] [(64, .var [rS a1.aV, rS a1.aL, rS a1.ar, rS a1.aX]), (96, .var [r0, r0, r0]), (144, .var (ap.rc x4))])) (fun o e R' B' => match o with | .inl y => e = .exit 2 ∧ lC prog 0 (A R' B') (aI.at_ 21 0 10) = some (A [(2, rI a2), (4, .ptr 64 0), (6, .ptr 96 0), (13, .d (.lst (a0.aO.map ap.pd))), (14, rI (a0.aO.length : Int)), (15, rI y)] [(64, .var [rS a1.aV, rS a1.aL, rS a1.ar, rS a1.aX]), (96, .var [r0, r0, r0])]) | .inr r => e = .ret ∧ finish prog (aI.own 21) Tryz.f21 0 (A R' B') = some (.tup [.d (aa.pd r.1), rB r.2], [])) rfl ?_ ?_))
   ·rintro s5 R' B' q7 hI h
    refine gS rfl hI<|sF h (fun h => ?_) fun h => ?_
    ·refine sN<|qS<|cT<|qK<|qS<|qB<|gS rfl rfl<|bE h fun x9 hx9 h => eG hx9 rfl<|sV (.d (al.pd x9))<|sB (.ptr 176 0) 176 (.var zZ2)<|sH 176 (.var (al.rc x9))<|sN<|gS rfl rfl<|sV (.ptr 144 0) ?_
     refine sV (.d (aJ.pd x4.aH))<|sV (.d (aJ.pd a1))<|py h (fun hb10 h => ?_) (fun hb10 h => ?_)
     ·refine WO.uM (eqE_46 x4.aH a1) hb10 rfl rfl rfl rfl rfl<|sM rfl<|sV (.ptr 176 0)<|sL rfl<|sM rfl<|sV (rB (decide (x9.bB ≤ a2)))<|sF h (fun h => ?_) fun h => ?_
      ·refine sM rfl<|sM rfl<|sV (.ptr 176 1)<|sL rfl<|sV (rB (decide (a2 < x9.fTo)))<|sF h (fun h => ?_) fun h => ?_
       ·refine sN<|cT<|gS rfl rfl<|sV (.ptr 176 4)<|sV (.d (aa.pd x9.aS))<|sS 96 (.var [rI x9.aS.fX, rI x9.aS.fY, rI x9.aS.fZ])<|sT<|sN<|qR ?_
        cases oI h
        exact ⟨nofun, rfl, rfl⟩
       refine sN<|cF<|qK<|WC.region rfl rfl<|sV (rI (rW (s5 + (1 : Int))))<|sM rfl<|sN ?_
       cases oI h
       exact ⟨rfl, rfl⟩
      refine sM rfl<|k3<|sK<|sU<|sN<|cF<|qK<|WC.region rfl rfl<|sV (rI (rW (s5 + (1 : Int))))<|sM rfl<|sN ?_
      cases oI h
      exact ⟨rfl, rfl⟩
     refine WO.uM (eqE_46 x4.aH a1) hb10 rfl rfl rfl rfl rfl<|sM rfl<|k3<|sK<|sU<|sM rfl<|k3<|sK<|sU<|sN<|cF ?_
     refine qK<|WC.region rfl rfl<|sV (rI (rW (s5 + (1 : Int))))<|sM rfl<|sN ?_
     cases oI h
     exact ⟨rfl, rfl⟩
    refine sN<|qS<|cF<|qX ?_
    cases oI h
    exact ⟨nofun, rfl, rfl⟩
   intro e R' B' he hq
   rcases o14 with y15 | r16
   ·obtain ⟨rfl, hI⟩ := hq
    refine qE<|WC.region hI rfl<|sV (rI (rW (y15 + (1 : Int))))<|sM rfl<|sN ?_
    cases oI h
    exact ⟨rfl, rfl⟩
   obtain ⟨rfl, hf⟩ := hq
   cases oI h
   exact ⟨nofun, rfl, hf⟩
  refine sN<|qS<|cF<|qX ?_
  cases oI h
  exact ⟨nofun, rfl, rfl⟩
 intro e R' B' he hq
 rcases o18 with y19 | r20
 ·obtain ⟨rfl, hI⟩ := hq
  refine qE<|gS rfl hI<|sV (.d (aa.pd (aa.mk 0 0 0)))<|sS 96 (.var [r0, r0, r0])<|sU<|sN<|qR ?_
  exact oI h▸qD
 obtain ⟨rfl, hf⟩ := hq
 cases oI h
 exact hf
theorem nU {a0 : Int} {r : Int} (h : ng a0 = some r) : EvP prog aI ext 22 [rI a0] [] (rI r, []) := by
 refine Ev.body rfl Tryz.func22 rfl (by kernel_rfl)<|gS rfl rfl<|sV (r0)<|sN<|gS rfl rfl<|sM rfl<|sM rfl<|sV (rI (rW (a0 * a0)))<|sA rfl<|sN<|qR ?_
 exact oI h▸qD
theorem od {a1 : aG} {a2 : aC} {a3 : Int} {d0 : aj} {r : (List aq) × aj} (h : lw a1 a2 a3 d0 = some r) : EvP prog aI ext 8 [.ptr 0 0, .d (aG.pd a1), .d (aC.pd a2), rI a3] [.var [.d (.lst (d0.fL.map (PD.int .i64))), rI d0.fAt]] (.d (.lst (r.1.map aq.pd)), [.var [.d (.lst (r.2.fL.map (PD.int .i64))), rI r.2.fAt]]) := by
 refine Ev.body rfl Tryz.func8 rfl (by kernel_rfl)<|gS rfl rfl<|sB (.ptr 80 0) 80 (.var (aG.rc a1))<|sB (.ptr 96 0) 96 (.var [.d (.lst (a2.aO.map ap.pd))])<|sV .hY<|sN<|gS rfl rfl<|sV .hY<|sN<|gS rfl rfl<|sM rfl<|sV (.ptr 80 0)<|sV (.ptr 80 0)<|sV (.d (ai.pd a1.ag.ac))<|bE h fun x1 hx1 h => ?_
 refine cR (.d (aa.pd x1.1)) [(0, .var [.d (.lst (x1.2.fL.map (PD.int .i64))), rI x1.2.fAt])] (og hx1)<|sM rfl<|bE h fun x2 hx2 h => cR (rI x2.1) [(0, .var [.d (.lst (x2.2.fL.map (PD.int .i64))), rI x2.2.fAt])] (bC hx2)<|sV (rI (rW ((1000 : Int) + x2.1)))<|sB (.ptr 160 0) 160 (.var [r0, r0, r0])<|sS 160 (.var [rI x1.1.fX, rI x1.1.fY, rI x1.1.fZ])<|sA rfl<|sN<|qS<|gS rfl rfl<|sM rfl<|sM rfl<|sV (rI (rW (a3 + (1 : Int))))<|bE h fun x3 hx3 h => ?_
 refine cR (rI x3.1) [(0, .var [.d (.lst (x3.2.fL.map (PD.int .i64))), rI x3.2.fAt])] (bC hx3)<|sA rfl<|sN<|bE h fun o61 ho61 h => WC.block (WC.loop (WL.oW ho61 (fun s R' B' => lC prog 1 (A R' B') (aI.at_ 8 1 4) = some (A [(0, .ptr 0 0), (5, .ptr 80 0), (6, .ptr 96 0), (9, .ref 2192 0), (10, .ptr 160 0), (11, rI s.1), (12, rI s.2.1)] [(0, .var [.d (.lst (s.2.2.1.map (PD.int .i64))), rI s.2.2.2.1]), (80, .var (aG.rc a1)), (96, .var [.d (.lst (a2.aO.map ap.pd))]), (160, .var [rI s.2.2.2.2.2.1, rI s.2.2.2.2.2.2.1, rI s.2.2.2.2.2.2.2]), (2192, .arr 0 48 (s.2.2.2.2.1.map aq.pd))])) (fun o e R' B' => e = .exit 0 ∧ lC prog 1 (A R' B') (aI.at_ 8 1 21) = some (A [(9, .ref 2192 0)] [(0, .var [.d (.lst (o.2.1.map (PD.int .i64))), rI o.2.2]), (2192, .arr 0 48 (o.1.map aq.pd))])) rfl ?_ ?_))
 ·rintro ⟨s4, s5, s6, s7, s8, s9, s10, s11⟩ R' B' q15 hI h
  refine qS<|gS rfl hI<|sM rfl<|sF h (fun h => ?_) fun h => ?_
  ·refine sN<|cT<|qK<|qS<|qB<|gS rfl rfl<|sM rfl<|bE h fun x17 hx17 h => cR (rI x17.1) [(0, .var [.d (.lst (x17.2.fL.map (PD.int .i64))), rI x17.2.fAt])] (bC hx17)<|bE h fun x18 hx18 h => cD (kB hx18)<|sM rfl<|sV (.d (.lst ([0, 1, 50, 1000, 1048576].map (PD.int .i64))))<|bE h fun x19 hx19 h => cR (rI x19.1) [(0, .var [.d (.lst (x19.2.fL.map (PD.int .i64))), rI x19.2.fAt])] (dp hx19) ?_
   refine sM rfl<|bE h fun x20 hx20 h => cR (rI x20.1) [(0, .var [.d (.lst (x20.2.fL.map (PD.int .i64))), rI x20.2.fAt])] (bC hx20)<|sV (rI (rW (x20.1 - (1 : Int))))<|sG (.d (aq.pd (aq.mk x18 0 0 0 x19.1 (rW (x20.1 - (1 : Int))))))<|sB (.ptr 208 0) 208 (.var [rS [], rS [], rS [], rS [], r0, r0, r0, r0, r0])<|sH 208 (.var [rS x18.aV, rS x18.aL, rS x18.ar, rS x18.aX, r0, r0, r0, rI x19.1, rI (rW (x20.1 - (1 : Int)))])<|sN<|gS rfl rfl<|sM rfl<|bE h fun x21 hx21 h => cR (rI x21.1) [(0, .var [.d (.lst (x21.2.fL.map (PD.int .i64))), rI x21.2.fAt])] (bC hx21)<|sV (rI (rW ((1000 : Int) + x21.1)))<|sV (.ptr 208 5)<|sS 208 (.var [rS x18.aV, rS x18.aL, rS x18.ar, rS x18.aX, r0, rI (rW ((1000 : Int) + x21.1)), r0, rI x19.1, rI (rW (x20.1 - (1 : Int)))]) ?_
   refine sN<|WC.join (α := Int × Int × (List Int) × Int × (List aq) × Int × Int × Int × Int) (fun x R' B' => lC prog 1 (A R' B') (aI.at_ 8 1 18) = some (A [(0, .ptr 0 0), (5, .ptr 80 0), (6, .ptr 96 0), (9, .ref 2192 0), (10, .ptr 160 0), (11, rI x.1), (12, rI x.2.1), (13, .ptr 208 0)] [(0, .var [.d (.lst (x.2.2.1.map (PD.int .i64))), rI x.2.2.2.1]), (80, .var (aG.rc a1)), (96, .var [.d (.lst (a2.aO.map ap.pd))]), (160, .var [rI x.2.2.2.2.2.1, rI x.2.2.2.2.2.2.1, rI x.2.2.2.2.2.2.2.1]), (208, .var [rS x18.aV, rS x18.aL, rS x18.ar, rS x18.aX, r0, rI x.2.2.2.2.2.2.2.2, r0, rI x19.1, rI (rW (x20.1 - (1 : Int)))]), (2192, .arr 0 48 (x.2.2.2.2.1.map aq.pd))])) (fun x => eP x18 x19 x20 x.1 x.2.1 x.2.2.1 x.2.2.2.1 x.2.2.2.2.1 x.2.2.2.2.2.1 x.2.2.2.2.2.2.1 x.2.2.2.2.2.2.2.1 x.2.2.2.2.2.2.2.2 = some q15) ?_ ?_
   ·refine gS rfl rfl<|sM rfl<|bE h fun x35 hx35 h => cR (rI x35.1) [(0, .var [.d (.lst (x35.2.fL.map (PD.int .i64))), rI x35.2.fAt])] (bC hx35)<|sN<|qB<|gS rfl rfl<|sF h (fun h => ?_) fun h => ?_
    ·refine sA rfl<|sN<|cT<|WC.region rfl rfl<|sM rfl<|sV (.ptr 80 0)<|sV (.ptr 80 0)<|sV (.d (ai.pd a1.ag.ac))<|bE h fun x37 hx37 h => cR (.d (aa.pd x37.1)) [(0, .var [.d (.lst (x37.2.fL.map (PD.int .i64))), rI x37.2.fAt])] (og hx37)<|sM rfl<|sM rfl<|bE h fun x38 hx38 h => cR (rI x38.1) [(0, .var [.d (.lst (x38.2.fL.map (PD.int .i64))), rI x38.2.fAt])] (bC hx38)<|sV (rI (rW (s4 + x38.1))) ?_
     exact sS 160 (.var [rI x37.1.fX, rI x37.1.fY, rI x37.1.fZ])<|sA rfl<|sN<|⟨((rW (s4 + x38.1)), s5, x38.2.fL, x38.2.fAt, s8, x37.1.fX, x37.1.fY, x37.1.fZ, (rW ((1000 : Int) + x21.1))), rfl, h⟩
    refine sA rfl<|sN<|cF<|gS rfl rfl<|sF h (fun h => ?_) fun h => ?_
    ·exact sA rfl<|sN<|cT<|qK<|⟨(s4, s5, x35.2.fL, x35.2.fAt, s8, s9, s10, s11, (rW ((1000 : Int) + x21.1))), rfl, h⟩
    refine sA rfl<|sN<|cF<|gS rfl rfl<|sV (.d (aC.pd a2))<|sV (.ptr 208 0)<|sV (.d (aJ.pd x18))<|sM rfl<|bE h fun x40 hx40 h => cR (.tup [.d (aa.pd x40.1), rB x40.2]) [] (keep_place_ev hx40)<|sM rfl<|sV (.d (aa.pd x40.1))<|sV (rB x40.2)<|sB (.ptr 224 0) 224 (.var [r0, r0, r0])<|sS 224 (.var [rI x40.1.fX, rI x40.1.fY, rI x40.1.fZ]) ?_
    refine sA rfl<|sN<|gS rfl rfl<|sF h (fun h => ?_) fun h => ?_
    ·refine sN<|cT<|gS rfl rfl<|sV (r0)<|sN<|qS<|bE h fun o56 ho56 h => WC.block (WC.loop (WL.oW ho56 (fun s R' B' => lC prog 1 (A R' B') (aI.at_ 8 1 12) = some (A [(0, .ptr 0 0), (5, .ptr 80 0), (6, .ptr 96 0), (9, .ref 2192 0), (10, .ptr 160 0), (11, rI s4), (12, rI s5), (13, .ptr 208 0), (14, .ptr 224 0), (16, rI s)] [(0, .var [.d (.lst (x35.2.fL.map (PD.int .i64))), rI x35.2.fAt]), (80, .var (aG.rc a1)), (96, .var [.d (.lst (a2.aO.map ap.pd))]), (160, .var [rI s9, rI s10, rI s11]), (208, .var [rS x18.aV, rS x18.aL, rS x18.ar, rS x18.aX, r0, rI (rW ((1000 : Int) + x21.1)), r0, rI x19.1, rI (rW (x20.1 - (1 : Int)))]), (224, .var [rI x40.1.fX, rI x40.1.fY, rI x40.1.fZ]), (2192, .arr 0 48 (s8.map aq.pd))])) (fun o e R' B' => e = .exit 3 ∧ lC prog 1 (A R' B') (aI.at_ 8 1 14) = some (A [(0, .ptr 0 0), (5, .ptr 80 0), (6, .ptr 96 0), (9, .ref 2192 0), (10, .ptr 160 0), (11, rI o.1), (12, rI o.2.1), (13, .ptr 208 0), (16, rI o.2.2.1)] [(0, .var [.d (.lst (x35.2.fL.map (PD.int .i64))), rI x35.2.fAt]), (80, .var (aG.rc a1)), (96, .var [.d (.lst (a2.aO.map ap.pd))]), (160, .var [rI o.2.2.2.2.1, rI o.2.2.2.2.2.1, rI o.2.2.2.2.2.2]), (208, .var [rS x18.aV, rS x18.aL, rS x18.ar, rS x18.aX, r0, rI (rW ((1000 : Int) + x21.1)), r0, rI x19.1, rI (rW (x20.1 - (1 : Int)))]), (2192, .arr 0 48 (o.2.2.2.1.map aq.pd))])) rfl ?_ ?_))
     ·rintro s42 R' B' q50 hI h
      refine qS<|WC.cI hI rfl<|sM rfl<|sM rfl<|sV (rI (rW (s42 * s42)))<|sV (.ptr 224 0)<|sL rfl<|sV (.ptr 160 0)<|sL rfl<|sV (rI (rW (x40.1.fX - s9)))<|bE h fun x51 hx51 h => cD (nU hx51)<|sV (.ptr 224 1)<|sL rfl<|sV (.ptr 160 1) ?_
      refine sL rfl<|sV (rI (rW (x40.1.fY - s10)))<|bE h fun x52 hx52 h => cD (nU hx52)<|sV (rI (rW (x51 + x52)))<|sV (.ptr 224 2)<|sL rfl<|sV (.ptr 160 2)<|sL rfl<|sV (rI (rW (x40.1.fZ - s11)))<|bE h fun x53 hx53 h => cD (nU hx53)<|sV (rI (rW ((rW (x51 + x52)) + x53)))<|sF h (fun h => ?_) fun h => ?_
      ·refine sN<|sO<|cT<|qK<|qB<|WC.region rfl rfl<|sM rfl<|sV (rI (rW (s42 + (1 : Int))))<|sA rfl<|sN ?_
       cases oI h
       exact ⟨rfl, rfl⟩
      refine sN<|sO<|cF<|qX ?_
      cases oI h
      exact ⟨nofun, rfl, rfl⟩
     intro e R' B' he hq
     obtain ⟨rfl, hI⟩ := hq
     refine qE<|WC.pQ hI rfl<|sM rfl<|sV (.ptr 80 0)<|sV (.ptr 80 6)<|sV (.ptr 80 7)<|sL rfl<|sM rfl<|sV (.ptr 80 0)<|sV (.ptr 80 6)<|sV (.ptr 80 6)<|sL rfl<|bE h fun x57 hx57 h => WO.tf hx57 rfl rfl rfl rfl rfl rfl<|sV (.ptr 80 0) ?_
     refine sV (.ptr 80 6)<|sV (.ptr 80 7)<|sL rfl<|sE (rI (a1.ag.az.ak.length : Int)) (oQ _ _)<|sV (rI (rW ((a1.ag.az.ak.length : Int) - (1 : Int))))<|sV (rI (if (rW ((a1.ag.az.ak.length : Int) - (1 : Int))) < x57 then (rW ((a1.ag.az.ak.length : Int) - (1 : Int))) else x57))<|bE h fun x58 hx58 h => eG hx58 rfl<|sC rfl<|sV (rI (rW (o56.1 + x58)))<|sM rfl<|bE h fun x59 hx59 h => cR (rI x59.1) [(0, .var [.d (.lst (x59.2.fL.map (PD.int .i64))), rI x59.2.fAt])] (bC hx59)<|sV (rI (rW ((rW (o56.1 + x58)) + x59.1)))<|sV (.ptr 208 5) ?_
     refine sS 208 (.var [rS x18.aV, rS x18.aL, rS x18.ar, rS x18.aX, r0, rI (rW ((rW (o56.1 + x58)) + x59.1)), r0, rI x19.1, rI (rW (x20.1 - (1 : Int)))]) ?_
     exact sN<|sO<|⟨(o56.1, o56.2.1, x59.2.fL, x59.2.fAt, o56.2.2.2.1, o56.2.2.2.2.1, o56.2.2.2.2.2.1, o56.2.2.2.2.2.2, (rW ((rW (o56.1 + x58)) + x59.1))), rfl, h⟩
    exact sN<|cF<|qK<|⟨(s4, s5, x35.2.fL, x35.2.fAt, s8, s9, s10, s11, (rW ((1000 : Int) + x21.1))), rfl, h⟩
   rintro ⟨j22, j23, j24, j25, j26, j27, j28, j29, j30⟩ R' B' hI h
   refine WC.cI hI rfl<|sV (.ptr 208 5)<|sL rfl<|sM rfl<|bE h fun x31 hx31 h => cR (rI x31.1) [(0, .var [.d (.lst (x31.2.fL.map (PD.int .i64))), rI x31.2.fAt])] (bC hx31)<|sV (rI (rW (j30 + x31.1)))<|sV (.ptr 208 4)<|sS 208 (.var [rS x18.aV, rS x18.aL, rS x18.ar, rS x18.aX, rI (rW (j30 + x31.1)), rI j30, r0, rI x19.1, rI (rW (x20.1 - (1 : Int)))]) ?_
   refine sN<|sO<|WC.cI rfl rfl<|sV (.ptr 208 4)<|sL rfl<|sM rfl<|bE h fun x32 hx32 h => cR (rI x32.1) [(0, .var [.d (.lst (x32.2.fL.map (PD.int .i64))), rI x32.2.fAt])] (bC hx32)<|sV (rI (rW ((rW (j30 + x31.1)) + x32.1)))<|sV (.ptr 208 6)<|sS 208 (.var [rS x18.aV, rS x18.aL, rS x18.ar, rS x18.aX, rI (rW (j30 + x31.1)), rI j30, rI (rW ((rW (j30 + x31.1)) + x32.1)), rI x19.1, rI (rW (x20.1 - (1 : Int)))]) ?_
   refine sN<|sO<|WC.region rfl rfl<|sM rfl<|sV (.d (aq.pd (aq.mk x18 (rW (j30 + x31.1)) j30 (rW ((rW (j30 + x31.1)) + x32.1)) x19.1 (rW (x20.1 - (1 : Int))))))<|sG (.d (.lst ([(aq.mk x18 (rW (j30 + x31.1)) j30 (rW ((rW (j30 + x31.1)) + x32.1)) x19.1 (rW (x20.1 - (1 : Int))))].map aq.pd)))<|bE h fun x33 hx33 h => aR hx33 (fun _ => rfl) rfl<|sA rfl<|sN<|WC.region rfl rfl<|sM rfl<|sV (rI (rW (j23 - (1 : Int))))<|sA rfl<|sN ?_
   cases oI h
   exact ⟨rfl, rfl⟩
  refine sN<|cF<|qX ?_
  cases oI h
  exact ⟨nofun, rfl, rfl⟩
 intro e R' B' he hq
 obtain ⟨rfl, hI⟩ := hq
 refine qE<|gS rfl hI<|sM rfl<|sA rfl<|sN<|qR ?_
 exact oI h▸qD
theorem bz {a0 : aa} {r : aW} (h : bq a0 = some r) : EvP prog aI ext 65 [.d (aa.pd a0)] [] (.d (aW.pd r), []) := by
 refine Ev.body rfl Tryz.func65 rfl (by kernel_rfl)<|gS rfl rfl<|sB (.ptr 16 0) 16 (.var [rI a0.fX, rI a0.fY, rI a0.fZ])<|sB (.ptr 32 0) 32 (.var [r0, r0, r0])<|sN<|gS rfl rfl<|sV (.ptr 16 0)<|sL rfl<|sV (.ptr 16 1)<|sL rfl<|sV (.ptr 16 2)<|sL rfl<|sV (.d (aW.pd (aW.mk a0.fX a0.fY a0.fZ)))<|sS 32 (.var [rI a0.fX, rI a0.fY, rI a0.fZ])<|sN ?_
 refine qR ?_
 exact oI h▸qD
theorem cp {a0 : aa} {r : Bool} (h : bW a0 = some r) : EvP prog aI ext 97 [.d (aa.pd a0)] [] (rB r, []) := by
 refine Ev.body rfl Tryz.func97 rfl (by kernel_rfl)<|gS rfl rfl<|sB (.ptr 16 0) 16 (.var [rI a0.fX, rI a0.fY, rI a0.fZ])<|sU<|sN<|gS rfl rfl<|sV (.d (aW.pd (aW.mk (-1048576) (-1048576) (-16384))))<|sB (.ptr 48 0) 48 (.var [r0, r0, r0])<|sS 48 (.var [rI (-1048576), rI (-1048576), rI (-16384)])<|sN<|qS<|gS rfl rfl<|sV (.d (aa.pd a0))<|bE h fun x1 hx1 h => cD (bz hx1) ?_
 refine sV (r0)<|sN<|WC.block (WC.loop ?_)
 refine WL.round<|gS rfl rfl<|sT<|sN<|qS<|cT<|qK<|qS<|qB<|gS rfl rfl<|sM rfl<|sV (rI x1.a0)<|sA rfl<|sA rfl<|sN ?_
 refine gS rfl rfl<|sM rfl<|sM rfl<|sV (.ptr 48 0)<|sL rfl<|sF h (fun h => ?_) fun h => ?_
 ·refine sM rfl<|sK<|sK<|sT<|sN<|cT<|gS rfl rfl<|sU<|sN<|qR ?_
  exact oI h▸qD
 refine sM rfl<|sM rfl<|sV (rB (decide (x1.a0 > (1048576 : Int))))<|sF h (fun h => ?_) fun h => ?_
 ·refine sN<|cT<|gS rfl rfl<|sU<|sN<|qR ?_
  exact oI h▸qD
 refine sN<|cF<|qK<|WC.region rfl rfl<|sV (rI 1)<|sM rfl<|sN<|WL.round<|gS rfl rfl<|sT<|sN<|qS<|cT<|qK<|qS ?_
 refine qB<|gS rfl rfl<|sM rfl<|sV (rI x1.a1)<|sA rfl<|sA rfl<|sN<|gS rfl rfl<|sM rfl<|sM rfl<|sV (.ptr 48 1)<|sL rfl<|sF h (fun h => ?_) fun h => ?_
 ·refine sM rfl<|sK<|sK<|sT<|sN<|cT<|gS rfl rfl<|sU<|sN<|qR ?_
  exact oI h▸qD
 refine sM rfl<|sM rfl<|sV (rB (decide (x1.a1 > (1048576 : Int))))<|sF h (fun h => ?_) fun h => ?_
 ·refine sN<|cT<|gS rfl rfl<|sU<|sN<|qR ?_
  exact oI h▸qD
 refine sN<|cF<|qK<|WC.region rfl rfl<|sV (rI 2)<|sM rfl<|sN<|WL.round<|gS rfl rfl<|sT<|sN<|qS<|cT<|qK<|qS ?_
 refine qB<|gS rfl rfl<|sM rfl<|sV (rI x1.a2)<|sA rfl<|sA rfl<|sN<|gS rfl rfl<|sM rfl<|sM rfl<|sV (.ptr 48 2)<|sL rfl<|sF h (fun h => ?_) fun h => ?_
 ·refine sM rfl<|sK<|sK<|sT<|sN<|cT<|gS rfl rfl<|sU<|sN<|qR ?_
  exact oI h▸qD
 refine sM rfl<|sM rfl<|sV (rB (decide (x1.a2 > (1048576 : Int))))<|sF h (fun h => ?_) fun h => ?_
 ·refine sN<|cT<|gS rfl rfl<|sU<|sN<|qR ?_
  exact oI h▸qD
 refine sN<|cF<|qK<|WC.region rfl rfl<|sV (rI 3)<|sM rfl<|sN<|WL.round<|gS rfl rfl<|sU<|sN<|qS<|cF<|qX<|qE ?_
 refine gS rfl rfl<|sT<|sN<|qR ?_
 exact oI h▸qD
theorem bv {a0 : ai} {r : Bool} (h : bu a0 = some r) : EvP prog aI ext 64 [.d (ai.pd a0)] [] (rB r, []) := by
 refine Ev.body rfl Tryz.func64 rfl (by kernel_rfl)<|gS rfl rfl<|sB (.ptr 16 0) 16 (.var (ai.rc a0))<|sU<|sN<|qS<|gS rfl rfl<|sV (.ptr 16 0)<|sV (.d (aa.pd a0.ak))<|bE h fun x1 hx1 h => cD (cp hx1)<|sF h (fun h => ?_) fun h => ?_
 ·refine sM rfl<|k3<|sK<|sT<|sN<|cT<|gS rfl rfl<|sU<|sN<|qR ?_
  exact oI h▸qD
 refine sM rfl<|sV (.ptr 16 3)<|sV (.d (aa.pd a0.ae))<|bE h fun x3 hx3 h => cD (cp hx3)<|sV (rB (!x3))<|sF h (fun h => ?_) fun h => ?_
 ·refine sN<|cT<|gS rfl rfl<|sU<|sN<|qR ?_
  exact oI h▸qD
 refine sN<|cF<|qK<|gS rfl rfl<|sV (.ptr 16 3)<|sV (.d (aa.pd a0.ae))<|bE h fun x5 hx5 h => cD (bz hx5)<|sB (.ptr 48 0) 48 (.var [r0, r0, r0])<|sS 48 (.var [rI x5.a0, rI x5.a1, rI x5.a2])<|sN<|qS<|gS rfl rfl<|sV (.ptr 16 0)<|sV (.d (aa.pd a0.ak)) ?_
 refine bE h fun x6 hx6 h => cD (bz hx6)<|sV (r0)<|sN<|WC.block (WC.loop ?_)
 refine WL.round<|gS rfl rfl<|sT<|sN<|qS<|cT<|qK<|qS<|qB<|gS rfl rfl<|sM rfl<|sV (rI x6.a0)<|sA rfl<|sA rfl<|sN ?_
 refine gS rfl rfl<|sM rfl<|sM rfl<|sV (.ptr 48 0)<|sL rfl<|sF h (fun h => ?_) fun h => ?_
 ·refine sN<|cT<|gS rfl rfl<|sU<|sN<|qR ?_
  exact oI h▸qD
 refine sN<|cF<|qK<|WC.region rfl rfl<|sV (rI 1)<|sM rfl<|sN<|WL.round<|gS rfl rfl<|sT<|sN<|qS<|cT<|qK<|qS ?_
 refine qB<|gS rfl rfl<|sM rfl<|sV (rI x6.a1)<|sA rfl<|sA rfl<|sN<|gS rfl rfl<|sM rfl<|sM rfl<|sV (.ptr 48 1)<|sL rfl<|sF h (fun h => ?_) fun h => ?_
 ·refine sN<|cT<|gS rfl rfl<|sU<|sN<|qR ?_
  exact oI h▸qD
 refine sN<|cF<|qK<|WC.region rfl rfl<|sV (rI 2)<|sM rfl<|sN<|WL.round<|gS rfl rfl<|sT<|sN<|qS<|cT<|qK<|qS ?_
 refine qB<|gS rfl rfl<|sM rfl<|sV (rI x6.a2)<|sA rfl<|sA rfl<|sN<|gS rfl rfl<|sM rfl<|sM rfl<|sV (.ptr 48 2)<|sL rfl<|sF h (fun h => ?_) fun h => ?_
 ·refine sN<|cT<|gS rfl rfl<|sU<|sN<|qR ?_
  exact oI h▸qD
 refine sN<|cF<|qK<|WC.region rfl rfl<|sV (rI 3)<|sM rfl<|sN<|WL.round<|gS rfl rfl<|sU<|sN<|qS<|cF<|qX<|qE ?_
 refine gS rfl rfl<|sT<|sN<|qR ?_
 exact oI h▸qD
theorem di {a0 : aK} {r : Int} (h : b7 a0 = some r) : EvP prog aI ext 77 [.d (aK.pd a0)] [] (rI r, []) := by
 refine Ev.body rfl Tryz.func77 rfl (by kernel_rfl)<|gS rfl rfl<|sB (.ptr 16 0) 16 (.var [rI a0.aU, .d (.lst (a0.ak.map (PD.int .i64))), .d (.lst (a0.ae.map (PD.int .i64)))])<|sV (r0)<|sN<|gS rfl rfl<|sV (.ptr 16 1)<|sL rfl<|sE (rI (a0.ak.length : Int)) (oQ _ _)<|sA rfl<|sN<|qS<|gS rfl rfl<|sV (.ptr 16 0)<|sL rfl ?_
 refine sF h (fun h => ?_) fun h => ?_
 ·refine sM rfl<|k3<|sT<|sM rfl<|k3<|sK<|sK<|sT<|sM rfl<|sK<|sK ?_
  refine sT<|sM rfl<|sK<|sK<|sT<|sN<|cT<|gS rfl rfl<|sV (rI 21)<|sN<|qR ?_
  exact oI h▸qD
 refine sM rfl<|sV (.ptr 16 0)<|sL rfl<|sV (rB (decide (a0.aU > (1048576 : Int))))<|sF h (fun h => ?_) fun h => ?_
 ·refine sM rfl<|k3<|sK<|sK<|sT<|sM rfl<|sK<|sK<|sT<|sM rfl<|sK<|sK<|sT ?_
  refine sN<|cT<|gS rfl rfl<|sV (rI 21)<|sN<|qR ?_
  exact oI h▸qD
 refine sM rfl<|sM rfl<|sV (.ptr 16 2)<|sL rfl<|sE (rI (a0.ae.length : Int)) (oQ _ _)<|sV (rB ((a0.ak.length : Int) != (a0.ae.length : Int)))<|sF h (fun h => ?_) fun h => ?_
 ·refine sM rfl<|sK<|sK<|sT<|sM rfl<|sK<|sK<|sT<|sN<|cT<|gS rfl rfl<|sV (rI 21)<|sN<|qR ?_
  exact oI h▸qD
 refine sM rfl<|sM rfl<|sV (rB (decide ((a0.ak.length : Int) < (2 : Int))))<|sF h (fun h => ?_) fun h => ?_
 ·refine sM rfl<|sK<|sK<|sT<|sN<|cT<|gS rfl rfl<|sV (rI 21)<|sN<|qR ?_
  exact oI h▸qD
 refine sM rfl<|sM rfl<|sV (rB (decide ((a0.ak.length : Int) > (256 : Int))))<|sF h (fun h => ?_) fun h => ?_
 ·refine sN<|cT<|gS rfl rfl<|sV (rI 21)<|sN<|qR ?_
  exact oI h▸qD
 refine sN<|cF<|qK<|gS rfl rfl<|sV (r0)<|sV (r0)<|sN<|qS<|gS rfl rfl<|sM rfl<|sV (r0)<|sN<|bE h fun o23 ho23 h => WC.block (WC.loop (WL.oW ho23 (fun s R' B' => lC prog 0 (A R' B') (aI.at_ 77 0 6) = some (A [(1, .ptr 16 0), (4, rI s.1), (5, rI s.2.1), (33, rI (a0.ak.length : Int)), (34, rI s.2.2)] [(16, .var [rI a0.aU, .d (.lst (a0.ak.map (PD.int .i64))), .d (.lst (a0.ae.map (PD.int .i64)))])])) (fun o e R' B' => match o with | .inl y => e = .exit 0 ∧ lC prog 0 (A R' B') (aI.at_ 77 0 12) = some (A [] []) | .inr r => e = .ret ∧ finish prog (aI.own 77) Tryz.f77 0 (A R' B') = some (rI r, [])) rfl ?_ ?_))
 ·rintro ⟨s6, s7, s8⟩ R' B' q9 hI h
  refine gS rfl hI<|sF h (fun h => ?_) fun h => ?_
  ·refine sN<|qS<|cT<|qK<|qS<|qB<|gS rfl rfl<|sM rfl<|sA rfl<|sN<|qS<|WC.cI rfl rfl<|sV (.ptr 16 1)<|sL rfl<|sM rfl ?_
   refine bE h fun x11 hx11 h => eG hx11 rfl<|sC rfl<|sM rfl<|sF h (fun h => ?_) fun h => ?_
   ·refine sM rfl<|k3<|k3<|sK<|sT<|sM rfl<|k3<|sK<|sK ?_
    refine k3<|k3<|sT<|sM rfl<|k3<|k3<|sT ?_
    refine sN<|sO<|cT<|gS rfl rfl<|sV (rI 21)<|sN<|qR ?_
    cases oI h
    exact ⟨nofun, rfl, rfl⟩
   refine sM rfl<|sV (.ptr 16 2)<|sL rfl<|sM rfl<|bE h fun x13 hx13 h => eG hx13 rfl<|sC rfl<|sM rfl<|sV (rB (decide (x13 < s7)))<|sF h (fun h => ?_) fun h => ?_
   ·refine sM rfl<|k3<|k3<|k3<|sK<|sK<|sT<|sM rfl<|sK ?_
    refine k3<|sK<|sK<|sT ?_
    refine sN<|sO<|cT<|gS rfl rfl<|sV (rI 21)<|sN<|qR ?_
    cases oI h
    exact ⟨nofun, rfl, rfl⟩
   refine sM rfl<|sV (.ptr 16 1)<|sL rfl<|sM rfl<|bE h fun x15 hx15 h => eG hx15 rfl<|sC rfl<|sV (.ptr 16 2)<|sL rfl<|sM rfl<|bE h fun x16 hx16 h => eG hx16 rfl<|sC rfl<|sV (rB (decide (x15 > x16)))<|sF h (fun h => ?_) fun h => ?_
   ·refine sM rfl<|k3<|k3<|sT ?_
    refine sN<|sO<|cT<|gS rfl rfl<|sV (rI 21)<|sN<|qR ?_
    cases oI h
    exact ⟨nofun, rfl, rfl⟩
   refine sM rfl<|sV (.ptr 16 2)<|sL rfl<|sM rfl<|bE h fun x18 hx18 h => eG hx18 rfl<|sC rfl<|sV (rB (decide (x18 > (1099511627776 : Int))))<|sF h (fun h => ?_) fun h => ?_
   ·refine sN<|sO<|cT<|gS rfl rfl<|sV (rI 21)<|sN<|qR ?_
    cases oI h
    exact ⟨nofun, rfl, rfl⟩
   refine sN<|sO<|cF<|qK<|WC.pQ rfl rfl<|sV (.ptr 16 1)<|sL rfl<|sM rfl<|bE h fun x20 hx20 h => eG hx20 rfl<|sC rfl<|sV (.ptr 16 2)<|sL rfl<|sM rfl<|bE h fun x21 hx21 h => eG hx21 rfl ?_
   refine sC rfl<|sA rfl<|sA rfl ?_
   refine sN<|sO<|WC.region rfl rfl<|sV (rI (rW (s8 + (1 : Int))))<|sM rfl<|sN ?_
   cases oI h
   exact ⟨rfl, rfl⟩
  refine sN<|qS<|cF<|qX ?_
  cases oI h
  exact ⟨nofun, rfl, rfl⟩
 intro e R' B' he hq
 rcases o23 with y24 | r25
 ·obtain ⟨rfl, hI⟩ := hq
  refine qE<|gS rfl hI<|sV (r0)<|sN<|qR ?_
  exact oI h▸qD
 obtain ⟨rfl, hf⟩ := hq
 cases oI h
 exact hf
theorem fC {a0 : Int} {a1 : Int} {a2 : Int} {r : Bool} (h : ey a0 a1 a2 = some r) : EvP prog aI ext 78 [rI a0, rI a1, rI a2] [] (rB r, []) := by
 refine Ev.body rfl Tryz.func78 rfl (by kernel_rfl)<|gS rfl rfl<|sU<|sN<|gS rfl rfl<|sM rfl<|sM rfl<|sF h (fun h => ?_) fun h => ?_
 ·refine sM rfl<|sM rfl<|sM rfl<|sV (rB (decide (a0 ≤ a2)))<|sV (rB (decide (a0 ≤ a2)))<|sA rfl<|sN<|qR ?_
  exact oI h▸qD
 refine sM rfl<|k3<|sU<|sA rfl<|sN<|qR ?_
 exact oI h▸qD
theorem nm {a0 : av} {r : Bool} (h : dZ a0 = some r) : EvP prog aI ext 90 [.d (av.pd a0)] [] (rB r, []) := by
 refine Ev.body rfl Tryz.func90 rfl (by kernel_rfl)<|gS rfl rfl<|sB (.ptr 16 0) 16 (.var (av.rc a0))<|sU<|sN<|gS rfl rfl<|sV (.ptr 16 0)<|sV (.d (aa.pd a0.aL))<|bE h fun x1 hx1 h => py h (fun hb2 h => ?_) (fun hb2 h => ?_)
 ·refine WO.pP (v := rB true) (u := []) rfl rfl (fun _ => rfl) rfl rfl rfl rfl rfl (cp hx1) rfl rfl (congrArg (fun b => RV.d (.bool b)) hb2) rfl<|sM rfl<|sV (.ptr 16 3)<|sL rfl<|sV (rB (decide (a0.bw ≥ (0 : Int))))<|sF h (fun h => ?_) fun h => ?_
  ·refine sM rfl<|sV (.ptr 16 3)<|sL rfl<|sV (.ptr 16 4)<|sL rfl<|sV (rB (decide (a0.bw ≤ a0.bO)))<|sF h (fun h => ?_) fun h => ?_
   ·refine sM rfl<|sV (.ptr 16 4)<|sL rfl<|sV (rB (decide (a0.bO ≤ (18014398509481984 : Int))))<|sF h (fun h => ?_) fun h => ?_
    ·refine sM rfl<|sV (.ptr 16 5)<|sL rfl<|sV (rB (decide (a0.gn ≥ (1 : Int))))<|sF h (fun h => ?_) fun h => ?_
     ·refine sM rfl<|sV (.ptr 16 5)<|sL rfl<|sV (rB (decide (a0.gn ≤ (100 : Int))))<|sV (rB (decide (a0.gn ≤ (100 : Int))))<|sA rfl<|sN<|qR ?_
      exact oI h▸qD
     refine sM rfl<|k3<|sU<|sA rfl<|sN<|qR ?_
     exact oI h▸qD
    refine sM rfl<|k3<|sU<|sM rfl<|k3<|sU<|sA rfl<|sN<|qR ?_
    exact oI h▸qD
   refine sM rfl<|k3<|sU<|sM rfl<|k3<|sU<|sM rfl<|k3<|sU ?_
   refine sA rfl<|sN<|qR ?_
   exact oI h▸qD
  refine sM rfl<|k3<|sK<|sK<|sU<|sM rfl<|k3<|sU<|sM rfl<|sK<|sK ?_
  refine sK<|sU<|sM rfl<|k3<|sU<|sA rfl<|sN<|qR ?_
  exact oI h▸qD
 refine WO.pP (v := rB false) (u := []) rfl rfl (fun _ => rfl) rfl rfl rfl rfl rfl (cp hx1) rfl rfl (congrArg (fun b => RV.d (.bool b)) hb2) rfl<|sM rfl<|k3<|sU<|sM rfl<|k3<|sK<|sK<|sU<|sM rfl<|sK ?_
 refine sK<|sK<|sU<|sM rfl<|k3<|sU<|sM rfl<|k3<|sU<|sA rfl<|sN ?_
 refine qR ?_
 exact oI h▸qD
theorem gB {a0 : Int} {a1 : Int} {a2 : Int} {r : Int} (h : cC a0 a1 a2 = some r) : EvP prog aI ext 73 [rI a0, rI a1, rI a2] [] (rI r, []) := by
 refine Ev.body rfl Tryz.func73 rfl (by kernel_rfl)<|gS rfl rfl<|sV (r0)<|sN<|gS rfl rfl<|sM rfl<|sM rfl<|sV (rI (rW (a1 - a0)))<|sM rfl<|sM rfl<|sV (rI (rW (a0 - a2)))<|sV (rI (if (0 : Int) > (if (rW (a0 - a2)) > (rW (a1 - a0)) then (rW (a0 - a2)) else (rW (a1 - a0))) then (0 : Int) else (if (rW (a0 - a2)) > (rW (a1 - a0)) then (rW (a0 - a2)) else (rW (a1 - a0)))))<|sA rfl<|sN<|qR ?_
 exact oI h▸qD
theorem kO {a0 : ai} {a1 : aa} {r : Int} (h : cO a0 a1 = some r) : EvP prog aI ext 72 [.d (ai.pd a0), .d (aa.pd a1), .d (.raw (.func (.func 73) #[] #[]))] [] (rI r, []) := by
 refine Ev.body rfl Tryz.func72 rfl (by kernel_rfl)<|gS rfl rfl<|sB (.ptr 48 0) 48 (.var (ai.rc a0))<|sB (.ptr 64 0) 64 (.var [rI a1.fX, rI a1.fY, rI a1.fZ])<|sV (r0)<|sN<|qS<|gS rfl rfl<|sV (.d (ai.pd a0))<|bE h fun x1 hx1 h => cD (bv hx1)<|sF h (fun h => ?_) fun h => ?_
 ·refine sM rfl<|k3<|sT<|sN<|cT<|gS rfl rfl<|sV (r0)<|sN<|qR ?_
  exact oI h▸qD
 refine sM rfl<|sV (.d (aa.pd a1))<|bE h fun x3 hx3 h => cD (cp hx3)<|sV (rB (!x3))<|sF h (fun h => ?_) fun h => ?_
 ·refine sN<|cT<|gS rfl rfl<|sV (r0)<|sN<|qR ?_
  exact oI h▸qD
 refine sN<|cF<|qK<|WC.cI rfl rfl<|sV (.ptr 48 0)<|sV (.d (aa.pd a0.ak))<|bE h fun x5 hx5 h => cD (bz hx5)<|sV (.ptr 48 3)<|sV (.d (aa.pd a0.ae))<|bE h fun x6 hx6 h => cD (bz hx6)<|sB (.ptr 128 0) 128 (.var [r0, r0, r0])<|sB (.ptr 144 0) 144 (.var [r0, r0, r0])<|sV (r0) ?_
 refine sS 128 (.var [rI x5.a0, rI x5.a1, rI x5.a2])<|sS 144 (.var [rI x6.a0, rI x6.a1, rI x6.a2]) ?_
 refine sN<|sO<|qS<|gS rfl rfl<|sV (.d (aa.pd a1))<|bE h fun x7 hx7 h => cD (bz hx7)<|sV (r0)<|sN<|WC.block (WC.loop ?_)
 refine WL.round<|WC.pn (R0 := [(2, .d (.raw (.func (.func 73) #[] #[]))), (7, r0), (8, .ptr 128 0), (9, .ptr 144 0), (28, .d (aW.pd x7)), (29, r0)]) (B0 := [(128, .var [rI x5.a0, rI x5.a1, rI x5.a2]), (144, .var [rI x6.a0, rI x6.a1, rI x6.a2])]) rfl rfl<|sT<|sN<|qS<|cT<|qK<|qS<|qB<|gS rfl rfl<|sM rfl<|sV (rI x7.a0)<|sA rfl<|sA rfl<|sN ?_
 refine WC.cI rfl rfl<|sM rfl<|sM rfl<|sM rfl<|sV (.ptr 128 0)<|sL rfl<|sM rfl<|sV (.ptr 144 0)<|sL rfl<|bE h fun x8 hx8 h => cD (gB hx8)<|sA rfl ?_
 refine sN<|sO<|WC.region rfl rfl<|sM rfl<|sM rfl<|sM rfl<|sV (rI (rW (x8 * x8)))<|sV (rI (rW ((0 : Int) + (rW (x8 * x8)))))<|sA rfl<|sN<|WC.region rfl rfl<|sV (rI 1)<|sM rfl<|sN<|WL.round<|WC.pn (R0 := [(2, .d (.raw (.func (.func 73) #[] #[]))), (7, rI (rW ((0 : Int) + (rW (x8 * x8))))), (8, .ptr 128 0), (9, .ptr 144 0), (28, .d (aW.pd x7)), (29, rI 1)]) (B0 := [(128, .var [rI x5.a0, rI x5.a1, rI x5.a2]), (144, .var [rI x6.a0, rI x6.a1, rI x6.a2])]) rfl rfl ?_
 refine sT<|sN<|qS<|cT<|qK<|qS<|qB<|gS rfl rfl<|sM rfl<|sV (rI x7.a1)<|sA rfl<|sA rfl<|sN<|WC.cI rfl rfl<|sM rfl ?_
 refine sM rfl<|sM rfl<|sV (.ptr 128 1)<|sL rfl<|sM rfl<|sV (.ptr 144 1)<|sL rfl<|bE h fun x9 hx9 h => cD (gB hx9)<|sA rfl ?_
 refine sN<|sO<|WC.region rfl rfl<|sM rfl<|sM rfl<|sM rfl<|sV (rI (rW (x9 * x9)))<|sV (rI (rW ((rW ((0 : Int) + (rW (x8 * x8)))) + (rW (x9 * x9)))))<|sA rfl<|sN<|WC.region rfl rfl<|sV (rI 2)<|sM rfl<|sN<|WL.round<|WC.pn (R0 := [(2, .d (.raw (.func (.func 73) #[] #[]))), (7, rI (rW ((rW ((0 : Int) + (rW (x8 * x8)))) + (rW (x9 * x9))))), (8, .ptr 128 0), (9, .ptr 144 0), (28, .d (aW.pd x7)), (29, rI 2)]) (B0 := [(128, .var [rI x5.a0, rI x5.a1, rI x5.a2]), (144, .var [rI x6.a0, rI x6.a1, rI x6.a2])]) rfl rfl ?_
 refine sT<|sN<|qS<|cT<|qK<|qS<|qB<|gS rfl rfl<|sM rfl<|sV (rI x7.a2)<|sA rfl<|sA rfl<|sN<|WC.cI rfl rfl<|sM rfl ?_
 refine sM rfl<|sM rfl<|sV (.ptr 128 2)<|sL rfl<|sM rfl<|sV (.ptr 144 2)<|sL rfl<|bE h fun x10 hx10 h => cD (gB hx10)<|sA rfl ?_
 refine sN<|sO<|WC.region rfl rfl<|sM rfl<|sM rfl<|sM rfl<|sV (rI (rW (x10 * x10)))<|sV (rI (rW ((rW ((rW ((0 : Int) + (rW (x8 * x8)))) + (rW (x9 * x9)))) + (rW (x10 * x10)))))<|sA rfl<|sN<|WC.region rfl rfl<|sV (rI 3)<|sM rfl<|sN<|WL.round<|WC.pn (R0 := [(2, .d (.raw (.func (.func 73) #[] #[]))), (7, rI (rW ((rW ((rW ((0 : Int) + (rW (x8 * x8)))) + (rW (x9 * x9)))) + (rW (x10 * x10))))), (8, .ptr 128 0), (9, .ptr 144 0), (28, .d (aW.pd x7)), (29, rI 3)]) (B0 := [(128, .var [rI x5.a0, rI x5.a1, rI x5.a2]), (144, .var [rI x6.a0, rI x6.a1, rI x6.a2])]) rfl rfl ?_
 refine sU<|sN<|qS<|cF<|qX<|qE<|gS rfl rfl<|sM rfl<|sA rfl<|sN<|qR ?_
 exact oI h▸qD
theorem iS {a0 : ai} {a1 : aa} {r : Int} (h : dl a0 a1 = some r) : EvP prog aI ext 41 [.d (ai.pd a0), .d (aa.pd a1)] [] (rI r, []) := by
 refine Ev.body rfl Tryz.func41 rfl (by kernel_rfl)<|gS rfl rfl<|sB (.ptr 32 0) 32 (.var (ai.rc a0))<|sB (.ptr 48 0) 48 (.var [rI a1.fX, rI a1.fY, rI a1.fZ])<|sV (r0)<|sN<|gS rfl rfl<|sV (.d (ai.pd a0))<|sV (.d (aa.pd a1))<|bE h fun x1 hx1 h => cD (kO hx1)<|sA rfl<|sN<|qR ?_
 exact oI h▸qD
theorem gc {a0 : Int} {a1 : Int} {a2 : Int} {r : Int} (h : cq a0 a1 a2 = some r) : EvP prog aI ext 74 [rI a0, rI a1, rI a2] [] (rI r, []) := by
 refine Ev.body rfl Tryz.func74 rfl (by kernel_rfl)<|gS rfl rfl<|sV (r0)<|sN<|gS rfl rfl<|sM rfl<|sM rfl<|sV (rI (rW (a2 - a0)))<|sM rfl<|sM rfl<|sV (rI (rW (a0 - a1)))<|sV (rI (if (rW (a0 - a1)) > (rW (a2 - a0)) then (rW (a0 - a1)) else (rW (a2 - a0))))<|sA rfl<|sN<|qR ?_
 exact oI h▸qD
theorem kr {a0 : ai} {a1 : aa} {r : Int} (h : cE a0 a1 = some r) : EvP prog aI ext 72 [.d (ai.pd a0), .d (aa.pd a1), .d (.raw (.func (.func 74) #[] #[]))] [] (rI r, []) := by
 refine Ev.body rfl Tryz.func72 rfl (by kernel_rfl)<|gS rfl rfl<|sB (.ptr 48 0) 48 (.var (ai.rc a0))<|sB (.ptr 64 0) 64 (.var [rI a1.fX, rI a1.fY, rI a1.fZ])<|sV (r0)<|sN<|qS<|gS rfl rfl<|sV (.d (ai.pd a0))<|bE h fun x1 hx1 h => cD (bv hx1)<|sF h (fun h => ?_) fun h => ?_
 ·refine sM rfl<|k3<|sT<|sN<|cT<|gS rfl rfl<|sV (r0)<|sN<|qR ?_
  exact oI h▸qD
 refine sM rfl<|sV (.d (aa.pd a1))<|bE h fun x3 hx3 h => cD (cp hx3)<|sV (rB (!x3))<|sF h (fun h => ?_) fun h => ?_
 ·refine sN<|cT<|gS rfl rfl<|sV (r0)<|sN<|qR ?_
  exact oI h▸qD
 refine sN<|cF<|qK<|WC.cI rfl rfl<|sV (.ptr 48 0)<|sV (.d (aa.pd a0.ak))<|bE h fun x5 hx5 h => cD (bz hx5)<|sV (.ptr 48 3)<|sV (.d (aa.pd a0.ae))<|bE h fun x6 hx6 h => cD (bz hx6)<|sB (.ptr 128 0) 128 (.var [r0, r0, r0])<|sB (.ptr 144 0) 144 (.var [r0, r0, r0])<|sV (r0) ?_
 refine sS 128 (.var [rI x5.a0, rI x5.a1, rI x5.a2])<|sS 144 (.var [rI x6.a0, rI x6.a1, rI x6.a2]) ?_
 refine sN<|sO<|qS<|gS rfl rfl<|sV (.d (aa.pd a1))<|bE h fun x7 hx7 h => cD (bz hx7)<|sV (r0)<|sN<|WC.block (WC.loop ?_)
 refine WL.round<|WC.pn (R0 := [(2, .d (.raw (.func (.func 74) #[] #[]))), (7, r0), (8, .ptr 128 0), (9, .ptr 144 0), (28, .d (aW.pd x7)), (29, r0)]) (B0 := [(128, .var [rI x5.a0, rI x5.a1, rI x5.a2]), (144, .var [rI x6.a0, rI x6.a1, rI x6.a2])]) rfl rfl<|sT<|sN<|qS<|cT<|qK<|qS<|qB<|gS rfl rfl<|sM rfl<|sV (rI x7.a0)<|sA rfl<|sA rfl<|sN ?_
 refine WC.cI rfl rfl<|sM rfl<|sM rfl<|sM rfl<|sV (.ptr 128 0)<|sL rfl<|sM rfl<|sV (.ptr 144 0)<|sL rfl<|bE h fun x8 hx8 h => cD (gc hx8)<|sA rfl ?_
 refine sN<|sO<|WC.region rfl rfl<|sM rfl<|sM rfl<|sM rfl<|sV (rI (rW (x8 * x8)))<|sV (rI (rW ((0 : Int) + (rW (x8 * x8)))))<|sA rfl<|sN<|WC.region rfl rfl<|sV (rI 1)<|sM rfl<|sN<|WL.round<|WC.pn (R0 := [(2, .d (.raw (.func (.func 74) #[] #[]))), (7, rI (rW ((0 : Int) + (rW (x8 * x8))))), (8, .ptr 128 0), (9, .ptr 144 0), (28, .d (aW.pd x7)), (29, rI 1)]) (B0 := [(128, .var [rI x5.a0, rI x5.a1, rI x5.a2]), (144, .var [rI x6.a0, rI x6.a1, rI x6.a2])]) rfl rfl ?_
 refine sT<|sN<|qS<|cT<|qK<|qS<|qB<|gS rfl rfl<|sM rfl<|sV (rI x7.a1)<|sA rfl<|sA rfl<|sN<|WC.cI rfl rfl<|sM rfl ?_
 refine sM rfl<|sM rfl<|sV (.ptr 128 1)<|sL rfl<|sM rfl<|sV (.ptr 144 1)<|sL rfl<|bE h fun x9 hx9 h => cD (gc hx9)<|sA rfl ?_
 refine sN<|sO<|WC.region rfl rfl<|sM rfl<|sM rfl<|sM rfl<|sV (rI (rW (x9 * x9)))<|sV (rI (rW ((rW ((0 : Int) + (rW (x8 * x8)))) + (rW (x9 * x9)))))<|sA rfl<|sN<|WC.region rfl rfl<|sV (rI 2)<|sM rfl<|sN<|WL.round<|WC.pn (R0 := [(2, .d (.raw (.func (.func 74) #[] #[]))), (7, rI (rW ((rW ((0 : Int) + (rW (x8 * x8)))) + (rW (x9 * x9))))), (8, .ptr 128 0), (9, .ptr 144 0), (28, .d (aW.pd x7)), (29, rI 2)]) (B0 := [(128, .var [rI x5.a0, rI x5.a1, rI x5.a2]), (144, .var [rI x6.a0, rI x6.a1, rI x6.a2])]) rfl rfl ?_
 refine sT<|sN<|qS<|cT<|qK<|qS<|qB<|gS rfl rfl<|sM rfl<|sV (rI x7.a2)<|sA rfl<|sA rfl<|sN<|WC.cI rfl rfl<|sM rfl ?_
 refine sM rfl<|sM rfl<|sV (.ptr 128 2)<|sL rfl<|sM rfl<|sV (.ptr 144 2)<|sL rfl<|bE h fun x10 hx10 h => cD (gc hx10)<|sA rfl ?_
 refine sN<|sO<|WC.region rfl rfl<|sM rfl<|sM rfl<|sM rfl<|sV (rI (rW (x10 * x10)))<|sV (rI (rW ((rW ((rW ((0 : Int) + (rW (x8 * x8)))) + (rW (x9 * x9)))) + (rW (x10 * x10)))))<|sA rfl<|sN<|WC.region rfl rfl<|sV (rI 3)<|sM rfl<|sN<|WL.round<|WC.pn (R0 := [(2, .d (.raw (.func (.func 74) #[] #[]))), (7, rI (rW ((rW ((rW ((0 : Int) + (rW (x8 * x8)))) + (rW (x9 * x9)))) + (rW (x10 * x10))))), (8, .ptr 128 0), (9, .ptr 144 0), (28, .d (aW.pd x7)), (29, rI 3)]) (B0 := [(128, .var [rI x5.a0, rI x5.a1, rI x5.a2]), (144, .var [rI x6.a0, rI x6.a1, rI x6.a2])]) rfl rfl ?_
 refine sU<|sN<|qS<|cF<|qX<|qE<|gS rfl rfl<|sM rfl<|sA rfl<|sN<|qR ?_
 exact oI h▸qD
theorem mc {a0 : ai} {a1 : aa} {r : Int} (h : eB a0 a1 = some r) : EvP prog aI ext 42 [.d (ai.pd a0), .d (aa.pd a1)] [] (rI r, []) := by
 refine Ev.body rfl Tryz.func42 rfl (by kernel_rfl)<|gS rfl rfl<|sB (.ptr 32 0) 32 (.var (ai.rc a0))<|sB (.ptr 48 0) 48 (.var [rI a1.fX, rI a1.fY, rI a1.fZ])<|sV (r0)<|sN<|gS rfl rfl<|sV (.d (ai.pd a0))<|sV (.d (aa.pd a1))<|bE h fun x1 hx1 h => cD (kr hx1)<|sA rfl<|sN<|qR ?_
 exact oI h▸qD
theorem bound_squares_ev {a0 : aK} {a1 : ai} {a2 : aa} {r : aK × Int × Int} (h : gH a0 a1 a2 = some r) : EvP prog aI ext 124 [.d (aK.pd a0), .d (ai.pd a1), .d (aa.pd a2)] [] (.tup [.d (aK.pd r.1), rI r.2.1, rI r.2.2], []) := by
 refine Ev.body rfl Tryz.func124 rfl (by kernel_rfl)<|gS rfl rfl<|sB (.ptr 48 0) 48 (.var [rI a0.aU, .d (.lst (a0.ak.map (PD.int .i64))), .d (.lst (a0.ae.map (PD.int .i64)))])<|sB (.ptr 64 0) 64 (.var (ai.rc a1))<|sB (.ptr 80 0) 80 (.var [rI a2.fX, rI a2.fY, rI a2.fZ])<|sB (.ptr 96 0) 96 (.var [r0, .hY, .hY])<|sV (r0)<|sV (r0)<|sN<|WC.cI rfl rfl<|sV (.d (aK.pd a0))<|sV (.d (ai.pd a1))<|sV (.d (aa.pd a2))<|bE h fun x1 hx1 h => cD (iS hx1) ?_
 refine sV (.d (ai.pd a1))<|sV (.d (aa.pd a2))<|bE h fun x2 hx2 h => cD (mc hx2)<|sS 96 (.var [rI a0.aU, .d (.lst (a0.ak.map (PD.int .i64))), .d (.lst (a0.ae.map (PD.int .i64)))])<|sA rfl<|sA rfl ?_
 refine sN<|sO<|qR ?_
 exact oI h▸qD
theorem bits_Len64_ev {a0 : Int} {r : Int} (h : iP a0 = some r) : EvP prog aI ext 121 [.d (.int .u64 a0)] [] (rI r, []) := by
 refine Ev.body rfl Tryz.func121 rfl (by kernel_rfl)<|gS rfl rfl<|sV (r0)<|sN<|WC.join (α := Int × Int) (fun x R' B' => lC prog 0 (A R' B') (aI.at_ 121 0 4) = some (A [(0, .d (.int .u64 x.1)), (2, rI x.2)] [])) (fun x => dq x.1 x.2 = some r) ?_ ?_
 ·refine gS rfl rfl<|sM rfl<|sF h (fun h => ?_) fun h => ?_
  ·exact sN<|cT<|gS rfl rfl<|sM rfl<|sV (.d (.int .u64 (pe .u64 a0 (32 : Int))))<|sA rfl<|sN<|WC.region rfl rfl<|sV (rI 32)<|sN<|⟨((pe .u64 a0 (32 : Int)), 32), rfl, h⟩
  exact sN<|cF<|qK<|⟨(a0, 0), rfl, h⟩
 rintro ⟨j1, j2⟩ R' B' hI h
 refine WC.join (α := Int × Int) (fun x R' B' => lC prog 0 (A R' B') (aI.at_ 121 0 7) = some (A [(0, .d (.int .u64 x.1)), (2, rI x.2)] [])) (fun x => dW x.1 x.2 = some r) ?_ ?_
 ·refine gS rfl hI<|sM rfl<|sF h (fun h => ?_) fun h => ?_
  ·exact sN<|cT<|gS rfl rfl<|sM rfl<|sV (.d (.int .u64 (pe .u64 j1 (16 : Int))))<|sA rfl<|sN<|WC.region rfl rfl<|sM rfl<|sV (rI (rW (j2 + (16 : Int))))<|sA rfl<|sN<|⟨((pe .u64 j1 (16 : Int)), (rW (j2 + (16 : Int)))), rfl, h⟩
  exact sN<|cF<|qK<|⟨(j1, j2), rfl, h⟩
 rintro ⟨j3, j4⟩ R' B' hI h
 refine qS<|gS rfl hI<|sM rfl<|sF h (fun h => ?_) fun h => ?_
 ·refine sN<|cT<|gS rfl rfl<|sM rfl<|sV (.d (.int .u64 (pe .u64 j3 (8 : Int))))<|sA rfl<|sN<|WC.region rfl rfl<|sM rfl<|sV (rI (rW (j4 + (8 : Int))))<|sA rfl<|sN<|gS rfl rfl<|sM rfl<|sM rfl ?_
  refine sV (.d (.int .u8 (IntKind.wrap .u8 (pe .u64 j3 (8 : Int)))))<|bE h fun x6 hx6 h => WO.byteG hx6 rfl rfl rfl rfl rfl rfl<|sV (rI (IntKind.wrap .i64 x6))<|sV (rI (rW ((rW (j4 + (8 : Int))) + (IntKind.wrap .i64 x6))))<|sA rfl<|sN<|qR ?_
  exact oI h▸qD
 refine sN<|cF<|qK<|gS rfl rfl<|sM rfl<|sM rfl<|sV (.d (.int .u8 (IntKind.wrap .u8 j3)))<|bE h fun x7 hx7 h => WO.byteG hx7 rfl rfl rfl rfl rfl rfl<|sV (rI (IntKind.wrap .i64 x7))<|sV (rI (rW (j4 + (IntKind.wrap .i64 x7))))<|sA rfl<|sN<|qR ?_
 exact oI h▸qD
theorem mu {a0 : Int} {r : Int} (h : fD a0 = some r) : EvP prog aI ext 85 [.d (.int .u64 a0)] [] (rI r, []) := by
 refine Ev.body rfl Tryz.func85 rfl (by kernel_rfl)<|gS rfl rfl<|sV (r0)<|sN<|qS<|cF<|qK<|gS rfl rfl<|sM rfl<|bE h fun x1 hx1 h => cD (bits_Len64_ev hx1)<|sA rfl<|sN<|qR ?_
 exact oI h▸qD
theorem kW {a0 : Int} {r : Int} (h : d9 a0 = some r) : EvP prog aI ext 105 [rI a0] [] (rI r, []) := by
 refine Ev.body rfl Tryz.func105 rfl (by kernel_rfl)<|gS rfl rfl<|sV (r0)<|sN<|qS<|gS rfl rfl<|sM rfl<|sF h (fun h => ?_) fun h => ?_
 ·refine sN<|cT<|gS rfl rfl<|sV (r0)<|sN<|qR ?_
  exact oI h▸qD
 refine sN<|cF<|qK<|gS rfl rfl<|sV (r0)<|sN<|qS<|gS rfl rfl<|sM rfl<|sV (.d (.int .u64 (IntKind.wrap .u64 a0)))<|bE h fun x2 hx2 h => cD (mu hx2)<|sV (rI (rW (x2 - (1 : Int))))<|bE h fun x3 hx3 h => WO.tf hx3 rfl rfl rfl rfl rfl rfl ?_
 refine bE h fun x4 hx4 h => WO.shlG hx4 rfl rfl rfl rfl rfl<|sA rfl<|sN<|bE h fun o13 ho13 h => WC.block (WC.loop (WL.oW ho13 (fun s R' B' => lC prog 0 (A R' B') (aI.at_ 105 0 5) = some (A [(0, rI a0), (3, rI s.1), (4, rI s.2)] [])) (fun o e R' B' => e = .exit 0 ∧ lC prog 0 (A R' B') (aI.at_ 105 0 10) = some (A [(3, rI o)] [])) rfl ?_ ?_))
 ·rintro ⟨s5, s6⟩ R' B' q8 hI h
  refine qS<|gS rfl hI<|sM rfl<|sF h (fun h => ?_) fun h => ?_
  ·refine sN<|cT<|qK<|qS<|qB<|gS rfl rfl<|sM rfl<|sM rfl<|sV (rI (orI .i64 s5 s6))<|sA rfl<|sN<|gS rfl rfl<|sM rfl<|sM rfl<|sM rfl ?_
   refine bE h fun x10 hx10 h => WO.tf hx10 rfl rfl rfl rfl rfl rfl<|sF h (fun h => ?_) fun h => ?_
   ·refine sN<|cT<|WC.region rfl rfl<|sM rfl<|sA rfl<|sN<|WC.region rfl rfl<|sM rfl<|sV (rI (pe .i64 s6 (1 : Int)))<|sA rfl<|sN ?_
    cases oI h
    exact ⟨rfl, rfl⟩
   refine sN<|cF<|qK<|WC.region rfl rfl<|sM rfl<|sV (rI (pe .i64 s6 (1 : Int)))<|sA rfl<|sN ?_
   cases oI h
   exact ⟨rfl, rfl⟩
  refine sN<|cF<|qX ?_
  cases oI h
  exact ⟨nofun, rfl, rfl⟩
 intro e R' B' he hq
 obtain ⟨rfl, hI⟩ := hq
 refine qE<|gS rfl hI<|sM rfl<|sA rfl<|sN<|qR ?_
 exact oI h▸qD
theorem geometry_Ceil_ev {a0 : Int} {r : Int} (h : fK a0 = some r) : EvP prog aI ext 101 [rI a0] [] (rI r, []) := by
 refine Ev.body rfl Tryz.func101 rfl (by kernel_rfl)<|gS rfl rfl<|sV (r0)<|sN<|gS rfl rfl<|sM rfl<|bE h fun x1 hx1 h => cD (kW hx1)<|sA rfl<|sN<|qS<|gS rfl rfl<|sM rfl<|sM rfl<|sV (rI (rW (x1 * x1))) ?_
 refine sM rfl<|sF h (fun h => ?_) fun h => ?_
 ·refine sN<|cT<|WC.region rfl rfl<|sM rfl<|sV (rI (rW (x1 + (1 : Int))))<|sA rfl<|sN<|gS rfl rfl<|sM rfl<|sA rfl<|sN<|qR ?_
  exact oI h▸qD
 refine sN<|cF<|qK<|gS rfl rfl<|sM rfl<|sA rfl<|sN<|qR ?_
 exact oI h▸qD
theorem travel_reach_ev {a0 : aK} {r : Int} (h : iK a0 = some r) : EvP prog aI ext 102 [.d (aK.pd a0)] [] (rI r, []) := by
 refine Ev.body rfl Tryz.func102 rfl (by kernel_rfl)<|gS rfl rfl<|sB (.ptr 16 0) 16 (.var [rI a0.aU, .d (.lst (a0.ak.map (PD.int .i64))), .d (.lst (a0.ae.map (PD.int .i64)))])<|sV (r0)<|sN<|gS rfl rfl<|sV (.ptr 16 0)<|sL rfl<|sV (.ptr 16 1)<|sL rfl<|sE (rI (a0.ak.length : Int)) (oQ _ _)<|sV (rI (rW ((a0.ak.length : Int) - (1 : Int))))<|sV (rI (rW (a0.aU * (rW ((a0.ak.length : Int) - (1 : Int))))))<|sA rfl<|sN ?_
 refine qR ?_
 exact oI h▸qD
theorem l9 {a0 : Int} {d0 : aK} {d1 : Int} {r : Bool} (h : dR a0 d0 d1 = some r) : EvP prog aI ext 104 [rI a0, .ptr 0 0, .ptr 1 0] [.var [rI d0.aU, .d (.lst (d0.ak.map (PD.int .i64))), .d (.lst (d0.ae.map (PD.int .i64)))], .var [rI d1]] (rB r, [.var [rI d0.aU, .d (.lst (d0.ak.map (PD.int .i64))), .d (.lst (d0.ae.map (PD.int .i64)))], .var [rI d1]]) := by
 refine Ev.body rfl Tryz.func104 rfl (by kernel_rfl)<|gS rfl rfl<|sU<|sN<|gS rfl rfl<|sM rfl<|sV (.ptr 0 0)<|sL rfl<|sV (rI (rW (a0 * d0.aU)))<|sL rfl<|sV (rB (decide ((rW (a0 * d0.aU)) ≥ d1)))<|sA rfl<|sN<|qR ?_
 exact oI h▸qD
theorem nF {a0 : Int} {d0 : aK} {d1 : Int} {r : Int} (h : d7 a0 d0 d1 = some r) : EvP prog aI ext 103 [rI a0, .clo 104 [.ptr 0 0, .ptr 1 0]] [.var [rI d0.aU, .d (.lst (d0.ak.map (PD.int .i64))), .d (.lst (d0.ae.map (PD.int .i64)))], .var [rI d1]] (rI r, [.var [rI d0.aU, .d (.lst (d0.ak.map (PD.int .i64))), .d (.lst (d0.ae.map (PD.int .i64)))], .var [rI d1]]) := by
 refine Ev.body rfl Tryz.func103 rfl (by kernel_rfl)<|gS rfl rfl<|sV (r0)<|sN<|gS rfl rfl<|sM rfl<|sV (r0)<|sA rfl<|sN<|qS<|bE h fun o9 ho9 h => WC.block (WC.loop (WL.oW ho9 (fun s R' B' => lC prog 2 (A R' B') (aI.at_ 103 2 2) = some (A [(1, .clo 104 [.ptr 0 0, .ptr 1 0]), (5, rI s.1), (6, rI s.2)] [(0, .var [rI d0.aU, .d (.lst (d0.ak.map (PD.int .i64))), .d (.lst (d0.ae.map (PD.int .i64)))]), (1, .var [rI d1])])) (fun o e R' B' => e = .exit 0 ∧ lC prog 2 (A R' B') (aI.at_ 103 2 7) = some (A [(5, rI o)] [(0, .var [rI d0.aU, .d (.lst (d0.ak.map (PD.int .i64))), .d (.lst (d0.ae.map (PD.int .i64)))]), (1, .var [rI d1])])) rfl ?_ ?_))
 ·rintro ⟨s1, s2⟩ R' B' q4 hI h
  refine qS<|gS rfl hI<|sM rfl<|sM rfl<|sF h (fun h => ?_) fun h => ?_
  ·refine sN<|cT<|qK<|qB<|gS rfl rfl<|sM rfl<|sM rfl<|sV (rI (rW (s1 + s2)))<|sV (.d (.int .u64 (IntKind.wrap .u64 (rW (s1 + s2)))))<|sV (.d (.int .u64 (pe .u64 (IntKind.wrap .u64 (rW (s1 + s2))) (1 : Int))))<|sV (rI (rW (pe .u64 (IntKind.wrap .u64 (rW (s1 + s2))) (1 : Int))))<|sA rfl<|sN<|gS rfl rfl<|sM rfl ?_
   refine sM rfl<|bE h fun x6 hx6 h => cR (rB x6) [(0, .var [rI d0.aU, .d (.lst (d0.ak.map (PD.int .i64))), .d (.lst (d0.ae.map (PD.int .i64)))]), (1, .var [rI d1])] (l9 hx6)<|sF h (fun h => ?_) fun h => ?_
   ·refine sN<|cT<|WC.region rfl rfl<|sM rfl<|sV (rI (rW ((rW (pe .u64 (IntKind.wrap .u64 (rW (s1 + s2))) (1 : Int))) + (1 : Int))))<|sA rfl<|sN ?_
    cases oI h
    exact ⟨rfl, rfl⟩
   refine sN<|cF<|WC.region rfl rfl<|sM rfl<|sA rfl<|sN ?_
   cases oI h
   exact ⟨rfl, rfl⟩
  refine sN<|cF<|qX ?_
  cases oI h
  exact ⟨nofun, rfl, rfl⟩
 intro e R' B' he hq
 obtain ⟨rfl, hI⟩ := hq
 refine qE<|gS rfl hI<|sM rfl<|sA rfl<|sN<|qR ?_
 exact oI h▸qD
theorem lg {a0 : aK} {a1 : Int} {a2 : Int} {r : Int × Int × Int} (h : ei a0 a1 a2 = some r) : EvP prog aI ext 68 [.d (aK.pd a0), rI a1, rI a2] [] (.tup [rI r.1, rI r.2.1, rI r.2.2], []) := by
 refine Ev.body rfl Tryz.func68 rfl (by kernel_rfl)<|gS rfl rfl<|sB (.ptr 48 0) 48 (.var [rI a0.aU, .d (.lst (a0.ak.map (PD.int .i64))), .d (.lst (a0.ae.map (PD.int .i64)))])<|sV (r0)<|sV (r0)<|sV (r0)<|sN<|qS<|gS rfl rfl<|sV (.d (aK.pd a0))<|bE h fun x1 hx1 h => cD (di hx1)<|sF h (fun h => ?_) fun h => ?_
 ·refine sN<|cT<|gS rfl rfl<|sV (r0)<|sV (r0)<|sV (rI 21)<|sN<|qR ?_
  exact oI h▸qD
 refine sN<|cF<|qK<|qS<|gS rfl rfl<|sM rfl<|sF h (fun h => ?_) fun h => ?_
 ·refine sM rfl<|k3<|sT<|sN<|cT<|gS rfl rfl<|sV (r0)<|sV (r0)<|sV (rI 2)<|sN<|qR ?_
  exact oI h▸qD
 refine sM rfl<|sM rfl<|sM rfl<|sV (rB (decide (a1 > a2)))<|sF h (fun h => ?_) fun h => ?_
 ·refine sN<|cT<|gS rfl rfl<|sV (r0)<|sV (r0)<|sV (rI 2)<|sN<|qR ?_
  exact oI h▸qD
 refine sN<|cF<|qK<|gS rfl rfl<|sM rfl<|bE h fun x5 hx5 h => cD (geometry_Ceil_ev hx5)<|sB (.ptr 144 0) 144 (.var [r0])<|sS 144 (.var [rI x5])<|sN<|qS<|WC.cI rfl rfl<|sL rfl<|sV (.d (aK.pd a0))<|bE h fun x6 hx6 h => ?_
 refine cD (travel_reach_ev hx6)<|sF h (fun h => ?_) fun h => ?_
 ·refine sN<|sO<|cT<|gS rfl rfl<|sV (r0)<|sV (r0)<|sV (rI 22)<|sN<|qR ?_
  exact oI h▸qD
 refine sN<|sO<|cF<|qK<|gS rfl rfl<|sV (.ptr 48 2)<|sL rfl<|sE (rI (a0.ae.length : Int)) (oQ _ _)<|sV (.clo 104 [.ptr 48 0, .ptr 144 0])<|bE h fun x8 hx8 h => cR (rI x8) [(48, .var [rI a0.aU, .d (.lst (a0.ak.map (PD.int .i64))), .d (.lst (a0.ae.map (PD.int .i64)))]), (144, .var [rI x5])] (nF hx8)<|sA rfl<|sN<|WC.cI rfl rfl<|sV (.ptr 48 1)<|sL rfl ?_
 refine sM rfl<|bE h fun x9 hx9 h => cD (kW hx9)<|sV (.ptr 48 0)<|sL rfl<|bE h fun x10 hx10 h => WO.tf hx10 rfl rfl rfl rfl rfl rfl<|bE h fun x11 hx11 h => eG hx11 rfl<|sC rfl<|sV (.ptr 48 2)<|sL rfl<|sM rfl<|bE h fun x12 hx12 h => eG hx12 rfl ?_
 refine sC rfl<|sA rfl<|sA rfl<|sV (r0) ?_
 refine sN<|sO<|qR ?_
 exact oI h▸qD
theorem oo {a0 : aK} {a1 : ai} {a2 : aa} {r : Int × Int × Int} (h : f7 a0 a1 a2 = some r) : EvP prog aI ext 91 [.d (aK.pd a0), .d (ai.pd a1), .d (aa.pd a2)] [] (.tup [rI r.1, rI r.2.1, rI r.2.2], []) := by
 refine Ev.body rfl Tryz.func91 rfl (by kernel_rfl)<|gS rfl rfl<|sB (.ptr 48 0) 48 (.var [rI a0.aU, .d (.lst (a0.ak.map (PD.int .i64))), .d (.lst (a0.ae.map (PD.int .i64)))])<|sB (.ptr 64 0) 64 (.var (ai.rc a1))<|sB (.ptr 80 0) 80 (.var [rI a2.fX, rI a2.fY, rI a2.fZ])<|sV (r0)<|sV (r0)<|sV (r0)<|sN<|qS<|gS rfl rfl<|sV (.d (aK.pd a0))<|bE h fun x1 hx1 h => cD (di hx1)<|sA rfl ?_
 refine sN<|gS rfl rfl<|sM rfl<|sF h (fun h => ?_) fun h => ?_
 ·refine sN<|cT<|gS rfl rfl<|sM rfl<|sV (r0)<|sV (r0)<|sA rfl<|sN<|qR ?_
  exact oI h▸qD
 refine sN<|cF<|qK<|qS<|gS rfl rfl<|sV (.d (ai.pd a1))<|bE h fun x3 hx3 h => cD (bv hx3)<|sF h (fun h => ?_) fun h => ?_
 ·refine sM rfl<|k3<|sT<|sN<|cT<|gS rfl rfl<|sV (r0)<|sV (r0)<|sV (rI 20)<|sN<|qR ?_
  exact oI h▸qD
 refine sM rfl<|sV (.d (aa.pd a2))<|bE h fun x5 hx5 h => cD (cp hx5)<|sV (rB (!x5))<|sF h (fun h => ?_) fun h => ?_
 ·refine sN<|cT<|gS rfl rfl<|sV (r0)<|sV (r0)<|sV (rI 20)<|sN<|qR ?_
  exact oI h▸qD
 refine sN<|cF<|qK<|gS rfl rfl<|sV (.d (aK.pd a0))<|sV (.d (ai.pd a1))<|sV (.d (aa.pd a2))<|bE h fun x7 hx7 h => cR (.tup [.d (aK.pd x7.1), rI x7.2.1, rI x7.2.2]) [] (bound_squares_ev hx7)<|sV (.d (aK.pd x7.1))<|sV (rI x7.2.1)<|sV (rI x7.2.2)<|bE h fun x8 hx8 h => cR (.tup [rI x8.1, rI x8.2.1, rI x8.2.2]) [] (lg hx8)<|sV (rI x8.1) ?_
 refine sV (rI x8.2.1)<|sV (rI x8.2.2)<|sA rfl<|sA rfl<|sA rfl<|sN<|qR ?_
 exact oI h▸qD
theorem jj {a0 : aK} {a1 : ai} {a2 : av} {r : aN × Int} (h : dI a0 a1 a2 = some r) : EvP prog aI ext 59 [.d (aK.pd a0), .d (ai.pd a1), .d (av.pd a2)] [] (.tup [.d (aN.pd r.1), rI r.2], []) := by
 refine Ev.body rfl Tryz.func59 rfl (by kernel_rfl)<|gS rfl rfl<|sB (.ptr 48 0) 48 (.var [rI a0.aU, .d (.lst (a0.ak.map (PD.int .i64))), .d (.lst (a0.ae.map (PD.int .i64)))])<|sB (.ptr 64 0) 64 (.var (ai.rc a1))<|sB (.ptr 80 0) 80 (.var (av.rc a2))<|sB (.ptr 96 0) 96 (.var [r0, r0])<|sV (r0)<|sN<|qS<|gS rfl rfl<|sV (.d (aK.pd a0))<|bE h fun x1 hx1 h => cD (di hx1)<|sA rfl<|sN ?_
 refine gS rfl rfl<|sM rfl<|sF h (fun h => ?_) fun h => ?_
 ·refine sN<|cT<|gS rfl rfl<|sV (.d (aN.pd (aN.mk 0 0)))<|sM rfl<|sS 96 (.var [r0, r0])<|sA rfl<|sN<|qR ?_
  exact oI h▸qD
 refine sN<|cF<|qK<|qS<|gS rfl rfl<|sV (.d (ai.pd a1))<|bE h fun x3 hx3 h => cD (bv hx3)<|sF h (fun h => ?_) fun h => ?_
 ·refine sN<|cT<|gS rfl rfl<|sV (.d (aN.pd (aN.mk 0 0)))<|sS 96 (.var [r0, r0])<|sV (rI 20)<|sN<|qR ?_
  exact oI h▸qD
 refine sN<|cF<|qK<|qS<|gS rfl rfl<|sV (.d (av.pd a2))<|bE h fun x5 hx5 h => cD (nm hx5)<|sF h (fun h => ?_) fun h => ?_
 ·refine sN<|cT<|gS rfl rfl<|sV (.d (aN.pd (aN.mk 0 0)))<|sS 96 (.var [r0, r0])<|sV (rI 23)<|sN<|qR ?_
  exact oI h▸qD
 refine sN<|cF<|qK<|gS rfl rfl<|sV (.d (aK.pd a0))<|sV (.d (ai.pd a1))<|sV (.ptr 80 0)<|sV (.d (aa.pd a2.aL))<|bE h fun x7 hx7 h => cR (.tup [rI x7.1, rI x7.2.1, rI x7.2.2]) [] (oo hx7)<|sM rfl<|sV (rI x7.1)<|sV (rI x7.2.1)<|sV (rI x7.2.2)<|sA rfl ?_
 refine sA rfl<|sA rfl<|sN<|qS<|gS rfl rfl<|sM rfl<|sF h (fun h => ?_) fun h => ?_
 ·refine sN<|cT<|gS rfl rfl<|sV (.d (aN.pd (aN.mk 0 0)))<|sM rfl<|sS 96 (.var [r0, r0])<|sA rfl<|sN<|qR ?_
  exact oI h▸qD
 refine sN<|cF<|qK<|gS rfl rfl<|sV (.ptr 80 3)<|sL rfl<|sM rfl<|sV (rI (rW (a2.bw - x7.2.1)))<|sV (.ptr 80 4)<|sL rfl<|sM rfl<|sV (rI (rW (a2.bO - x7.1)))<|sV (.d (aN.pd (aN.mk (rW (a2.bw - x7.2.1)) (rW (a2.bO - x7.1)))))<|sS 96 (.var [rI (rW (a2.bw - x7.2.1)), rI (rW (a2.bO - x7.1))])<|sV (r0) ?_
 refine sN<|qR ?_
 exact oI h▸qD
theorem ml {a0 : bf} {a1 : (List av)} {r : Int} (h : fi a0 a1 = some r) : EvP prog aI ext 48 [.d (bf.pd a0), .d (.lst (a1.map av.pd))] [] (rI r, []) := by
 refine Ev.body rfl Tryz.func48 rfl (by kernel_rfl)<|gS rfl rfl<|sB (.ptr 32 0) 32 (.var (bf.rc a0))<|sV (r0)<|sN<|qS<|gS rfl rfl<|sV (.ptr 32 0)<|sV (.d (ai.pd a0.ac))<|bE h fun x1 hx1 h => cD (bv hx1)<|sF h (fun h => ?_) fun h => ?_
 ·refine sM rfl<|k3<|sK<|sT<|sM rfl<|k3<|sK<|sT<|sM rfl<|sK<|sK ?_
  refine sK<|sK<|sT<|sM rfl<|k3<|sK<|sT<|sM rfl<|k3<|sK<|sT ?_
  refine sM rfl<|k3<|sK<|sT<|sN<|cT<|gS rfl rfl<|sV (rI 27)<|sN<|qR ?_
  cases oI h
  exact qG
 refine sM rfl<|sV (.ptr 32 6)<|sV (.d (aK.pd a0.az))<|bE h fun x3 hx3 h => cD (di hx3)<|sV (rB (x3 != (0 : Int)))<|sF h (fun h => ?_) fun h => ?_
 ·refine sM rfl<|k3<|sK<|sT<|sM rfl<|k3<|sK<|sT<|sM rfl<|sK<|sK ?_
  refine sK<|sK<|sT<|sM rfl<|k3<|sK<|sT<|sM rfl<|k3<|sK<|sT ?_
  refine sN<|cT<|gS rfl rfl<|sV (rI 27)<|sN<|qR ?_
  cases oI h
  exact qG
 refine sM rfl<|sV (.ptr 32 9)<|sL rfl<|bE h fun x5 hx5 h => cD (fC hx5)<|sV (rB (!x5))<|sF h (fun h => ?_) fun h => ?_
 ·refine sM rfl<|k3<|sK<|sT<|sM rfl<|k3<|sK<|sT<|sM rfl<|sK<|sK ?_
  refine sK<|sK<|sT<|sM rfl<|k3<|sK<|sT<|sN<|cT<|gS rfl rfl<|sV (rI 27)<|sN<|qR ?_
  cases oI h
  exact qG
 refine sM rfl<|sV (.ptr 32 10)<|sL rfl<|bE h fun x7 hx7 h => cD (fC hx7)<|sV (rB (!x7))<|sF h (fun h => ?_) fun h => ?_
 ·refine sM rfl<|k3<|sK<|sT<|sM rfl<|k3<|sK<|sT<|sM rfl<|sK<|sK ?_
  refine sK<|sK<|sT<|sN<|cT<|gS rfl rfl<|sV (rI 27)<|sN<|qR ?_
  cases oI h
  exact qG
 refine sM rfl<|sV (.ptr 32 12)<|sL rfl<|bE h fun x9 hx9 h => cD (fC hx9)<|sV (rB (!x9))<|sF h (fun h => ?_) fun h => ?_
 ·refine sM rfl<|k3<|sK<|sT<|sM rfl<|k3<|sK<|sT<|sN<|cT<|gS rfl rfl ?_
  refine sV (rI 27)<|sN<|qR ?_
  cases oI h
  exact qG
 refine sM rfl<|sV (.ptr 32 11)<|sL rfl<|bE h fun x11 hx11 h => cD (fC hx11)<|sV (rB (!x11))<|sF h (fun h => ?_) fun h => ?_
 ·refine sM rfl<|k3<|sK<|sT<|sN<|cT<|gS rfl rfl<|sV (rI 27)<|sN<|qR ?_
  cases oI h
  exact qG
 refine sM rfl<|sV (.ptr 32 13)<|sL rfl<|bE h fun x13 hx13 h => cD (fC hx13)<|sV (rB (!x13))<|sF h (fun h => ?_) fun h => ?_
 ·refine sN<|cT<|gS rfl rfl<|sV (rI 27)<|sN<|qR ?_
  cases oI h
  exact qG
 refine sN<|cF<|qK<|qS<|gS rfl rfl<|sM rfl<|sE (rI (a1.length : Int)) (oQ _ _)<|sF h (fun h => ?_) fun h => ?_
 ·refine sN<|cT<|gS rfl rfl<|sV (rI 8)<|sN<|qR ?_
  cases oI h
  exact qG
 refine sN<|cF<|qK<|qS<|gS rfl rfl<|sM rfl<|sE (rI (a1.length : Int)) (oQ _ _)<|sV (r0)<|sN<|bE h fun o23 ho23 h => WC.block (WC.loop (WL.oW ho23 (fun s R' B' => lC prog 0 (A R' B') (aI.at_ 48 0 6) = some (A [(2, .ptr 32 0), (52, .d (.lst (a1.map av.pd))), (53, rI (a1.length : Int)), (54, rI s)] [(32, .var (bf.rc a0))])) (fun o e R' B' => match o with | .inl y => e = .exit 0 ∧ lC prog 0 (A R' B') (aI.at_ 48 0 12) = some (A [] []) | .inr r => e = .ret ∧ finish prog (aI.own 48) Tryz.f48 0 (A R' B') = some (rI r, [])) rfl ?_ ?_))
 ·rintro s16 R' B' q17 hI h
  refine gS rfl hI<|sF h (fun h => ?_) fun h => ?_
  ·refine sN<|qS<|cT<|qK<|qS<|qB<|gS rfl rfl<|bE h fun x19 hx19 h => eG hx19 rfl<|sV (.d (av.pd x19))<|sB (.ptr 96 0) 96 (.var zZ3)<|sH 96 (.var (av.rc x19))<|sN<|gS rfl rfl<|sV (.ptr 32 6) ?_
   refine sV (.d (aK.pd a0.az))<|sV (.ptr 32 0)<|sV (.d (ai.pd a0.ac))<|sV (.d (av.pd x19))<|bE h fun x20 hx20 h => cR (.tup [.d (aN.pd x20.1), rI x20.2]) [] (jj hx20)<|sM rfl<|sV (.d (aN.pd x20.1))<|sV (rI x20.2)<|sB (.ptr 112 0) 112 (.var [r0, r0])<|sS 112 (.var [rI x20.1.bB, rI x20.1.fTo])<|sA rfl<|sN<|gS rfl rfl<|sM rfl ?_
   refine sF h (fun h => ?_) fun h => ?_
   ·refine sN<|cT<|gS rfl rfl<|sM rfl<|sA rfl<|sN<|qR ?_
    cases oI h
    exact ⟨nofun, rfl, rfl⟩
   refine sN<|cF<|qK<|WC.region rfl rfl<|sV (rI (rW (s16 + (1 : Int))))<|sM rfl<|sN ?_
   cases oI h
   exact ⟨rfl, rfl⟩
  refine sN<|qS<|cF<|qX ?_
  cases oI h
  exact ⟨nofun, rfl, rfl⟩
 intro e R' B' he hq
 rcases o23 with y24 | r25
 ·obtain ⟨rfl, hI⟩ := hq
  refine qE<|gS rfl hI<|sV (r0)<|sN<|qR ?_
  exact oI h▸qD
 obtain ⟨rfl, hf⟩ := hq
 cases oI h
 exact hf
theorem ie {a0 : bt} {r : Bool} (h : ch a0 = some r) : EvP prog aI ext 49 [.d (bt.pd a0)] [] (rB r, []) := by
 refine Ev.body rfl Tryz.func49 rfl (by kernel_rfl)<|gS rfl rfl<|sB (.ptr 16 0) 16 (.var (bt.rc a0))<|sU<|sN<|gS rfl rfl<|sV (.ptr 16 0)<|sV (.d (aK.pd a0.aZ))<|bE h fun x1 hx1 h => cD (di hx1)<|sF h (fun h => ?_) fun h => ?_
 ·refine sM rfl<|sV (.ptr 16 3)<|sL rfl<|sV (rB (decide (a0.bj ≥ (0 : Int))))<|sF h (fun h => ?_) fun h => ?_
  ·refine sM rfl<|sV (.ptr 16 3)<|sL rfl<|sV (rB (decide (a0.bj ≤ (65536 : Int))))<|sF h (fun h => ?_) fun h => ?_
   ·refine sM rfl<|sV (.ptr 16 4)<|sL rfl<|sV (rB (decide (a0.bh ≥ (1 : Int))))<|sF h (fun h => ?_) fun h => ?_
    ·refine sM rfl<|sV (.ptr 16 4)<|sL rfl<|sV (rB (decide (a0.bh ≤ (65536 : Int))))<|sV (rB (decide (a0.bh ≤ (65536 : Int))))<|sA rfl<|sN<|qR ?_
     exact oI h▸qD
    refine sM rfl<|k3<|sU<|sA rfl<|sN<|qR ?_
    exact oI h▸qD
   refine sM rfl<|k3<|sU<|sM rfl<|k3<|sU<|sA rfl<|sN<|qR ?_
   exact oI h▸qD
  refine sM rfl<|k3<|sU<|sM rfl<|k3<|sU<|sM rfl<|k3<|sU ?_
  refine sA rfl<|sN<|qR ?_
  exact oI h▸qD
 refine sM rfl<|k3<|sU<|sM rfl<|k3<|sU<|sM rfl<|k3<|sU ?_
 refine sM rfl<|k3<|sU<|sA rfl<|sN<|qR ?_
 exact oI h▸qD
theorem jA {a0 : aG} {r : Int} (h : eM a0 = some r) : EvP prog aI ext 30 [.d (aG.pd a0)] [] (rI r, []) := by
 refine Ev.body rfl Tryz.func30 rfl (by kernel_rfl)<|gS rfl rfl<|sB (.ptr 16 0) 16 (.var (aG.rc a0))<|sV (r0)<|sN<|qS<|gS rfl rfl<|sV (.ptr 16 0)<|sV (.d (bf.pd a0.ag))<|bE h fun x1 hx1 h => cD (ml hx1)<|sF h (fun h => ?_) fun h => ?_
 ·refine sM rfl<|k3<|sK<|sT<|sM rfl<|k3<|sT<|sM rfl<|sK<|sK<|sK ?_
  refine sT<|sN<|cT<|gS rfl rfl<|sV (rI 27)<|sN<|qR ?_
  cases oI h
  exact qG
 refine sM rfl<|sV (.ptr 16 14)<|sV (.d (bt.pd a0.bn))<|bE h fun x3 hx3 h => cD (ie hx3)<|sV (rB (!x3))<|sF h (fun h => ?_) fun h => ?_
 ·refine sM rfl<|k3<|sT<|sM rfl<|k3<|sT<|sN<|cT<|gS rfl rfl<|sV (rI 27)<|sN ?_
  refine qR ?_
  cases oI h
  exact qG
 refine sM rfl<|sV (.ptr 16 19)<|sL rfl<|sV (rB (decide (a0.bc < (0 : Int))))<|sF h (fun h => ?_) fun h => ?_
 ·refine sM rfl<|k3<|sT<|sN<|cT<|gS rfl rfl<|sV (rI 27)<|sN<|qR ?_
  cases oI h
  exact qG
 refine sM rfl<|sV (.ptr 16 19)<|sL rfl<|sV (rB (decide (a0.bc > (1099511627776 : Int))))<|sF h (fun h => ?_) fun h => ?_
 ·refine sN<|cT<|gS rfl rfl<|sV (rI 27)<|sN<|qR ?_
  cases oI h
  exact qG
 refine sN<|cF<|qK<|gS rfl rfl<|sV (r0)<|sN<|qR ?_
 cases oI h
 exact qG
theorem source_plain_ev {a0 : Int} {r : Bool} (h : gz a0 = some r) : EvP prog aI ext 108 [.d (.int .u8 a0)] [] (rB r, []) := by
 refine Ev.body rfl Tryz.func108 rfl (by kernel_rfl)<|gS rfl rfl<|sU<|sN<|gS rfl rfl<|sM rfl<|sF h (fun h => ?_) fun h => ?_
 ·refine sM rfl<|sM rfl<|sV (rB (decide (a0 ≤ (90 : Int))))<|sF h (fun h => ?_) fun h => ?_
  ·refine sM rfl<|k3<|k3<|sT<|sA rfl<|sN<|qR ?_
   exact oI h▸qD
  refine sM rfl<|sM rfl<|sF h (fun h => ?_) fun h => ?_
  ·refine sM rfl<|sM rfl<|sV (rB (decide (a0 ≤ (57 : Int))))<|sV (rB (decide (a0 ≤ (57 : Int))))<|sV (rB (decide (a0 ≤ (57 : Int))))<|sA rfl<|sN<|qR ?_
   exact oI h▸qD
  refine sM rfl<|sK<|sK<|sU<|sU<|sA rfl<|sN<|qR ?_
  exact oI h▸qD
 refine sM rfl<|sK<|sK<|sU<|sM rfl<|sM rfl<|sF h (fun h => ?_) fun h => ?_
 ·refine sM rfl<|sM rfl<|sV (rB (decide (a0 ≤ (57 : Int))))<|sV (rB (decide (a0 ≤ (57 : Int))))<|sV (rB (decide (a0 ≤ (57 : Int))))<|sA rfl<|sN<|qR ?_
  exact oI h▸qD
 refine sM rfl<|sK<|sK<|sU<|sU<|sA rfl<|sN<|qR ?_
 exact oI h▸qD
theorem gi {a0 : (List UInt8)} {a1 : Int} {a2 : Int} {r : Bool} (h : eN a0 a1 a2 = some r) : EvP prog aI ext 79 [rS a0, rI a1, rI a2] [] (rB r, []) := by
 refine Ev.body rfl Tryz.func79 rfl (by kernel_rfl)<|gS rfl rfl<|sU<|sN<|qS<|gS rfl rfl<|sM rfl<|sV (rI (a0.length : Int))<|sV (r0)<|sN<|bE h fun o8 ho8 h => WC.block (WC.loop (WL.oW ho8 (fun s R' B' => lC prog 0 (A R' B') (aI.at_ 79 0 2) = some (A [(0, rS a0), (1, rI a1), (2, rI a2), (9, rI (a0.length : Int)), (10, rI s)] [])) (fun o e R' B' => match o with | .inl y => e = .exit 0 ∧ lC prog 0 (A R' B') (aI.at_ 79 0 7) = some (A [(0, rS a0), (1, rI a1), (2, rI a2)] []) | .inr r => e = .ret ∧ finish prog (aI.own 79) Tryz.f79 0 (A R' B') = some (rB r, [])) rfl ?_ ?_))
 ·rintro s1 R' B' q2 hI h
  refine gS rfl hI<|sF h (fun h => ?_) fun h => ?_
  ·refine sN<|qS<|cT<|qK<|qS<|qB<|gS rfl rfl<|sM rfl<|sA rfl<|sN<|gS rfl rfl<|sM rfl<|sM rfl<|bE h fun x4 hx4 h => WO.byteG hx4 rfl rfl rfl rfl rfl rfl ?_
   refine bE h fun x5 hx5 h => cD (source_plain_ev hx5)<|sF h (fun h => ?_) fun h => ?_
   ·refine sN<|cT<|gS rfl rfl<|sU<|sN<|qR ?_
    cases oI h
    exact ⟨nofun, rfl, rfl⟩
   refine sN<|cF<|qK<|WC.region rfl rfl<|sV (rI (rW (s1 + (1 : Int))))<|sM rfl<|sN ?_
   cases oI h
   exact ⟨rfl, rfl⟩
  refine sN<|qS<|cF<|qX ?_
  cases oI h
  exact ⟨nofun, rfl, rfl⟩
 intro e R' B' he hq
 rcases o8 with y9 | r10
 ·obtain ⟨rfl, hI⟩ := hq
  refine qE<|gS rfl hI<|sM rfl<|sV (rI (a0.length : Int))<|sM rfl<|sF h (fun h => ?_) fun h => ?_
  ·refine sM rfl<|sM rfl<|sV (rI (a0.length : Int))<|sM rfl<|sV (rB (decide ((a0.length : Int) ≤ a2)))<|sV (rB (decide ((a0.length : Int) ≤ a2)))<|sA rfl<|sN<|qR ?_
   exact oI h▸qD
  refine sM rfl<|k3<|sK<|sU<|sA rfl<|sN<|qR ?_
  exact oI h▸qD
 obtain ⟨rfl, hf⟩ := hq
 cases oI h
 exact hf
theorem jQ {a0 : aJ} {r : Bool} (h : fB a0 = some r) : EvP prog aI ext 50 [.d (aJ.pd a0)] [] (rB r, []) := by
 refine Ev.body rfl Tryz.func50 rfl (by kernel_rfl)<|gS rfl rfl<|sB (.ptr 16 0) 16 (.var [rS a0.aV, rS a0.aL, rS a0.ar, rS a0.aX])<|sU<|sN<|gS rfl rfl<|sV (.ptr 16 0)<|sL rfl<|bE h fun x1 hx1 h => py h (fun hb2 h => ?_) (fun hb2 h => ?_)
 ·refine WO.pP (v := rB true) (u := []) rfl rfl (fun _ => rfl) rfl rfl rfl rfl rfl (gi hx1) rfl rfl (congrArg (fun b => RV.d (.bool b)) hb2) rfl<|sM rfl<|sV (.ptr 16 1)<|sL rfl<|bE h fun x3 hx3 h => cD (gi hx3)<|sF h (fun h => ?_) fun h => ?_
  ·refine sM rfl<|sV (.ptr 16 2)<|sL rfl<|bE h fun x5 hx5 h => cD (gi hx5)<|sF h (fun h => ?_) fun h => ?_
   ·refine sM rfl<|sV (.ptr 16 2)<|sL rfl<|sV (rI (a0.ar.length : Int))<|sV (rB ((a0.ar.length : Int) != (1 : Int)))<|sF h (fun h => ?_) fun h => ?_
    ·refine sM rfl<|sV (.ptr 16 3)<|sL rfl<|bE h fun x8 hx8 h => cD (gi hx8)<|sV (rB x8)<|sA rfl<|sN<|qR ?_
     exact oI h▸qD
    refine sM rfl<|k3<|sU<|sA rfl<|sN<|qR ?_
    exact oI h▸qD
   refine sM rfl<|k3<|sK<|sU<|sM rfl<|k3<|sU<|sA rfl<|sN<|qR ?_
   exact oI h▸qD
  refine sM rfl<|k3<|sU<|sM rfl<|k3<|sK<|sU<|sM rfl<|sK<|sK<|sK ?_
  refine sU<|sA rfl<|sN<|qR ?_
  exact oI h▸qD
 refine WO.pP (v := rB false) (u := []) rfl rfl (fun _ => rfl) rfl rfl rfl rfl rfl (gi hx1) rfl rfl (congrArg (fun b => RV.d (.bool b)) hb2) rfl<|sM rfl<|k3<|sU<|sM rfl<|k3<|sU<|sM rfl<|sK<|sK<|sK ?_
 refine sK<|sU<|sM rfl<|k3<|sU<|sA rfl<|sN<|qR ?_
 exact oI h▸qD
theorem n4 {a0 : Int} {a1 : Int} {a2 : Int} {r : Bool} (h : nj a0 a1 a2 = some r) : EvP prog aI ext 148 [rI a0, rI a1, rI a2] [] (rB r, []) := by
 refine Ev.body rfl Tryz.func148 rfl (by kernel_rfl)<|gS rfl rfl<|sU<|sN<|gS rfl rfl<|sM rfl<|sM rfl<|sF h (fun h => ?_) fun h => ?_
 ·refine sM rfl<|sM rfl<|sM rfl<|sV (rB (decide (a0 ≤ a2)))<|sV (rB (decide (a0 ≤ a2)))<|sA rfl<|sN<|qR ?_
  exact oI h▸qD
 refine sM rfl<|k3<|sU<|sA rfl<|sN<|qR ?_
 exact oI h▸qD
theorem rate_gcd_ev {a0 : Int} {a1 : Int} {r : Int} (h : mV a0 a1 = some r) : EvP prog aI ext 149 [rI a0, rI a1] [] (rI r, []) := by
 refine Ev.body rfl Tryz.func149 rfl (by kernel_rfl)<|gS rfl rfl<|sV (r0)<|sN<|qS<|bE h fun o8 ho8 h => WC.block (WC.loop (WL.oW ho8 (fun s R' B' => lC prog 0 (A R' B') (aI.at_ 149 0 1) = some (A [(0, rI s.1), (1, rI s.2)] [])) (fun o e R' B' => e = .exit 0 ∧ lC prog 0 (A R' B') (aI.at_ 149 0 3) = some (A [(0, rI o)] [])) rfl ?_ ?_))
 ·rintro ⟨s1, s2⟩ R' B' q4 hI h
  refine qS<|gS rfl hI<|sM rfl<|sF h (fun h => ?_) fun h => ?_
  ·refine sN<|cT<|qK<|qB<|WC.pQ rfl rfl<|sM rfl<|sM rfl<|sM rfl<|bE h fun x6 hx6 h => WO.remG hx6 rfl rfl rfl rfl rfl rfl<|sA rfl<|sA rfl ?_
   refine sN<|sO ?_
   cases oI h
   exact ⟨rfl, rfl⟩
  refine sN<|cF<|qX ?_
  cases oI h
  exact ⟨nofun, rfl, rfl⟩
 intro e R' B' he hq
 obtain ⟨rfl, hI⟩ := hq
 refine qE<|gS rfl hI<|sM rfl<|sA rfl<|sN<|qR ?_
 exact oI h▸qD
theorem rate_Valid_ev {a0 : bg} {r : Bool} (h : ja a0 = some r) : EvP prog aI ext 109 [.d (bg.pd a0)] [] (rB r, []) := by
 refine Ev.body rfl Tryz.func109 rfl (by kernel_rfl)<|gS rfl rfl<|sB (.ptr 16 0) 16 (.var [rI a0.bj, rI a0.bh])<|sU<|sN<|gS rfl rfl<|sV (.ptr 16 0)<|sL rfl<|bE h fun x1 hx1 h => py h (fun hb2 h => ?_) (fun hb2 h => ?_)
 ·refine WO.pP (v := rB true) (u := []) rfl rfl (fun _ => rfl) rfl rfl rfl rfl rfl (n4 hx1) rfl rfl (congrArg (fun b => RV.d (.bool b)) hb2) rfl<|sM rfl<|sV (.ptr 16 1)<|sL rfl<|bE h fun x3 hx3 h => cD (n4 hx3)<|sF h (fun h => ?_) fun h => ?_
  ·refine sM rfl<|sV (.ptr 16 0)<|sL rfl<|sV (.ptr 16 1)<|sL rfl<|bE h fun x5 hx5 h => cD (rate_gcd_ev hx5)<|sV (rB (x5 == (1 : Int)))<|sV (rB (x5 == (1 : Int)))<|sA rfl<|sN<|qR ?_
   exact oI h▸qD
  refine sM rfl<|k3<|k3<|sU<|sA rfl<|sN<|qR ?_
  exact oI h▸qD
 refine WO.pP (v := rB false) (u := []) rfl rfl (fun _ => rfl) rfl rfl rfl rfl rfl (n4 hx1) rfl rfl (congrArg (fun b => RV.d (.bool b)) hb2) rfl<|sM rfl<|k3<|sU<|sM rfl<|k3<|k3<|sU<|sA rfl ?_
 refine sN<|qR ?_
 exact oI h▸qD
theorem bQ {a0 : Int} {a1 : Int} {a2 : Int} {r : Bool} (h : bK a0 a1 a2 = some r) : EvP prog aI ext 134 [rI a0, rI a1, rI a2] [] (rB r, []) := by
 refine Ev.body rfl Tryz.func134 rfl (by kernel_rfl)<|gS rfl rfl<|sU<|sN<|gS rfl rfl<|sM rfl<|sM rfl<|sF h (fun h => ?_) fun h => ?_
 ·refine sM rfl<|sM rfl<|sM rfl<|sV (rB (decide (a0 ≤ a2)))<|sV (rB (decide (a0 ≤ a2)))<|sA rfl<|sN<|qR ?_
  exact oI h▸qD
 refine sM rfl<|k3<|sU<|sA rfl<|sN<|qR ?_
 exact oI h▸qD
theorem iH {a0 : Int} {r : Bool} (h : dO a0 = some r) : EvP prog aI ext 189 [rI a0] [] (rB r, []) := by
 refine Ev.body rfl Tryz.func189 rfl (by kernel_rfl)<|gS rfl rfl<|sU<|sN<|gS rfl rfl<|sM rfl<|bE h fun x1 hx1 h => cD (bQ hx1)<|sV (rB (!x1))<|sA rfl<|sN<|qR ?_
 exact oI h▸qD
theorem jM {a0 : (List Int)} {r : Int} (h : cn a0 = some r) : EvP prog aI ext 191 [.d (.lst (a0.map (PD.int .i64))), .d (.raw (.func (.func 189) #[] #[]))] [] (rI r, []) := by
 refine Ev.body rfl Tryz.func191 rfl (by kernel_rfl)<|gS rfl rfl<|sV (r0)<|sN<|qS<|gS rfl rfl<|sM rfl<|sE (rI (a0.length : Int)) (oQ _ _)<|sV (r0)<|sN<|bE h fun o8 ho8 h => WC.block (WC.loop (WL.oW ho8 (fun s R' B' => lC prog 0 (A R' B') (aI.at_ 191 0 2) = some (A [(0, .d (.lst (a0.map (PD.int .i64)))), (1, .d (.raw (.func (.func 189) #[] #[]))), (7, rI (a0.length : Int)), (8, rI s)] [])) (fun o e R' B' => match o with | .inl y => e = .exit 0 ∧ lC prog 0 (A R' B') (aI.at_ 191 0 7) = some (A [] []) | .inr r => e = .ret ∧ finish prog (aI.own 191) Tryz.f191 0 (A R' B') = some (rI r, [])) rfl ?_ ?_))
 ·rintro s1 R' B' q2 hI h
  refine gS rfl hI<|sF h (fun h => ?_) fun h => ?_
  ·refine sN<|qS<|cT<|qK<|qS<|qB<|gS rfl rfl<|sM rfl<|sA rfl<|sN<|gS rfl rfl<|sM rfl<|sM rfl<|sM rfl<|bE h fun x4 hx4 h => ?_
   refine eG hx4 rfl<|sC rfl<|bE h fun x5 hx5 h => py h (fun hb6 h => ?_) (fun hb6 h => ?_)
   ·refine WO.pP (v := rB true) (u := []) rfl rfl (fun _ => rfl) rfl rfl rfl rfl rfl (iH hx5) rfl rfl (congrArg (fun b => RV.d (.bool b)) hb6) rfl<|sN<|cT<|gS rfl rfl<|sM rfl<|sA rfl<|sN<|qR ?_
    cases oI h
    exact ⟨nofun, rfl, rfl⟩
   refine WO.pP (v := rB false) (u := []) rfl rfl (fun _ => rfl) rfl rfl rfl rfl rfl (iH hx5) rfl rfl (congrArg (fun b => RV.d (.bool b)) hb6) rfl<|sN<|cF<|qK<|WC.region rfl rfl<|sV (rI (rW (s1 + (1 : Int))))<|sM rfl<|sN ?_
   cases oI h
   exact ⟨rfl, rfl⟩
  refine sN<|qS<|cF<|qX ?_
  cases oI h
  exact ⟨nofun, rfl, rfl⟩
 intro e R' B' he hq
 rcases o8 with y9 | r10
 ·obtain ⟨rfl, hI⟩ := hq
  refine qE<|gS rfl hI<|sV (rI (-1))<|sN<|qR ?_
  exact oI h▸qD
 obtain ⟨rfl, hf⟩ := hq
 cases oI h
 exact hf
theorem iL {a0 : (List Int)} {r : Bool} (h : bY a0 = some r) : EvP prog aI ext 188 [.d (.lst (a0.map (PD.int .i64))), .d (.raw (.func (.func 189) #[] #[]))] [] (rB r, []) := by
 refine Ev.body rfl Tryz.func188 rfl (by kernel_rfl)<|gS rfl rfl<|sU<|sN<|gS rfl rfl<|sM rfl<|sM rfl<|bE h fun x1 hx1 h => cD (jM hx1)<|sV (rB (decide (x1 ≥ (0 : Int))))<|sA rfl<|sN<|qR ?_
 exact oI h▸qD
theorem eK {a0 : (List Int)} {r : Bool} (h : bS a0 = some r) : EvP prog aI ext 176 [.d (.lst (a0.map (PD.int .i64)))] [] (rB r, []) := by
 refine Ev.body rfl Tryz.func176 rfl (by kernel_rfl)<|gS rfl rfl<|sU<|sN<|gS rfl rfl<|sM rfl<|bE h fun x1 hx1 h => cD (iL hx1)<|sV (rB (!x1))<|sA rfl<|sN<|qR ?_
 exact oI h▸qD
theorem gU {a0 : (List Int)} {r : Int} (h : cQ a0 = some r) : EvP prog aI ext 166 [.d (.lst (a0.map (PD.int .i64)))] [] (rI r, []) := by
 refine Ev.body rfl Tryz.func166 rfl (by kernel_rfl)<|gS rfl rfl<|sV (r0)<|sN<|gS rfl rfl<|sV (r0)<|sN<|qS<|gS rfl rfl<|sM rfl<|sE (rI (a0.length : Int)) (oQ _ _)<|sV (r0)<|sN<|bE h fun o8 ho8 h => WC.block (WC.loop (WL.oW ho8 (fun s R' B' => lC prog 0 (A R' B') (aI.at_ 166 0 3) = some (A [(3, rI s.1), (6, .d (.lst (a0.map (PD.int .i64)))), (7, rI (a0.length : Int)), (8, rI s.2)] [])) (fun o e R' B' => e = .exit 0 ∧ lC prog 0 (A R' B') (aI.at_ 166 0 7) = some (A [(3, rI o)] [])) rfl ?_ ?_))
 ·rintro ⟨s1, s2⟩ R' B' q4 hI h
  refine gS rfl hI<|sF h (fun h => ?_) fun h => ?_
  ·refine sN<|qS<|cT<|qK<|qS<|qB<|gS rfl rfl<|bE h fun x6 hx6 h => eG hx6 rfl<|sC rfl<|sA rfl<|sN<|WC.region rfl rfl<|sM rfl<|sM rfl ?_
   refine sV (rI (rW (s1 + x6)))<|sA rfl<|sN<|WC.region rfl rfl<|sV (rI (rW (s2 + (1 : Int))))<|sM rfl<|sN ?_
   cases oI h
   exact ⟨rfl, rfl⟩
  refine sN<|qS<|cF<|qX ?_
  cases oI h
  exact ⟨nofun, rfl, rfl⟩
 intro e R' B' he hq
 obtain ⟨rfl, hI⟩ := hq
 refine qE<|gS rfl hI<|sM rfl<|sA rfl<|sN<|qR ?_
 exact oI h▸qD
theorem lY {a0 : aB} {r : Bool} (h : ca a0 = some r) : EvP prog aI ext 152 [.d (aB.pd a0)] [] (rB r, []) := by
 refine Ev.body rfl Tryz.func152 rfl (by kernel_rfl)<|gS rfl rfl<|sB (.ptr 16 0) 16 (.var (aB.rc a0))<|sU<|sN<|gS rfl rfl<|sV (.ptr 16 7)<|sL rfl<|sE (rI (a0.cN.length : Int)) (oQ _ _)<|sF h (fun h => ?_) fun h => ?_
 ·refine sM rfl<|sV (.ptr 16 8)<|sL rfl<|sV (rB (a0.co == (0 : Int)))<|sF h (fun h => ?_) fun h => ?_
  ·refine sM rfl<|sV (.ptr 16 9)<|sL rfl<|sV (rB (a0.cM == (0 : Int)))<|sV (rB (a0.cM == (0 : Int)))<|sA rfl<|sN<|qS<|gS rfl rfl<|sV (.ptr 16 0)<|sL rfl<|sN<|qB<|gS rfl rfl<|sF h (fun h => ?_) fun h => ?_
   ·refine sA rfl<|sN<|cT<|gS rfl rfl<|sF h (fun h => ?_) fun h => ?_
    ·refine sM rfl<|sV (.ptr 16 1)<|sV (.d (aW.pd a0.bj))<|sV (.ptr 16 1)<|sV (.ptr 16 1)<|sL rfl<|sV (.d (aW.pd (aW.mk a0.bj.a0 0 0)))<|WO.bin (ir a0.bj (aW.mk a0.bj.a0 0 0)) rfl rfl rfl rfl rfl<|sF h (fun h => ?_) fun h => ?_
     ·refine sM rfl<|sV (.ptr 16 4)<|sV (.d (aW.pd a0.bh))<|sV (.ptr 16 4)<|sV (.ptr 16 4)<|sL rfl<|sV (.d (aW.pd (aW.mk a0.bh.a0 0 0)))<|WO.bin (ir a0.bh (aW.mk a0.bh.a0 0 0)) rfl rfl rfl rfl rfl<|sF h (fun h => ?_) fun h => ?_
      ·refine sM rfl<|sV (.ptr 16 1)<|sV (.ptr 16 1)<|sL rfl<|bE h fun x7 hx7 h => cD (bQ hx7)<|sF h (fun h => ?_) fun h => ?_
       ·refine sM rfl<|sV (.ptr 16 4)<|sV (.ptr 16 4)<|sL rfl<|bE h fun x9 hx9 h => cD (bQ hx9)<|sV (rB x9)<|sA rfl<|sN<|qR ?_
        cases oI h
        exact qG
       refine sM rfl<|k3<|sK<|sU<|sA rfl<|sN<|qR ?_
       cases oI h
       exact qG
      refine sM rfl<|k3<|sK<|sU<|sM rfl<|k3<|sK<|sU<|sA rfl<|sN<|qR ?_
      cases oI h
      exact qG
     refine sM rfl<|k3<|k3<|sK<|sU<|sM rfl<|k3<|sK<|sU ?_
     refine sM rfl<|k3<|sK<|sU<|sA rfl<|sN<|qR ?_
     cases oI h
     exact qG
    refine sM rfl<|k3<|k3<|sK<|sU<|sM rfl<|k3<|sK<|sK ?_
    refine sK<|sK<|sU<|sM rfl<|k3<|sK<|sU<|sM rfl<|k3<|sK<|sU ?_
    refine sA rfl<|sN<|qR ?_
    cases oI h
    exact qG
   refine sA rfl<|sN<|cF<|gS rfl rfl<|sF h (fun h => ?_) fun h => ?_
   ·refine sA rfl<|sN<|cT<|WC.pn (R0 := [(1, .cptr [.int .i64 a0.ep, .int .i64 a0.bj.a0, .int .i64 a0.bj.a1, .int .i64 a0.bj.a2, .int .i64 a0.bh.a0, .int .i64 a0.bh.a1, .int .i64 a0.bh.a2, .lst (a0.cN.map (PD.int .i64)), .int .i64 a0.co, .int .i64 a0.cM]), (3, rB (a0.cM == (0 : Int)))]) (B0 := []) rfl rfl<|sF h (fun h => ?_) fun h => ?_
    ·refine sM rfl<|sV (.cptr [.int .i64 a0.bj.a0, .int .i64 a0.bj.a1, .int .i64 a0.bj.a2, .int .i64 a0.bh.a0, .int .i64 a0.bh.a1, .int .i64 a0.bh.a2, .lst (a0.cN.map (PD.int .i64)), .int .i64 a0.co, .int .i64 a0.cM])<|sV (.d (.lst ([a0.bj.a0, a0.bj.a1, a0.bj.a2].map (PD.int .i64))))<|bE h fun x12 hx12 h => cD (eK hx12)<|sF h (fun h => ?_) fun h => ?_
     ·refine sM rfl<|sV (.cptr [.int .i64 a0.bh.a0, .int .i64 a0.bh.a1, .int .i64 a0.bh.a2, .lst (a0.cN.map (PD.int .i64)), .int .i64 a0.co, .int .i64 a0.cM])<|sV (.d (.lst ([a0.bh.a0, a0.bh.a1, a0.bh.a2].map (PD.int .i64))))<|bE h fun x14 hx14 h => cD (eK hx14)<|sF h (fun h => ?_) fun h => ?_
      ·refine sM rfl<|sV (.cptr [.int .i64 a0.bh.a0, .int .i64 a0.bh.a1, .int .i64 a0.bh.a2, .lst (a0.cN.map (PD.int .i64)), .int .i64 a0.co, .int .i64 a0.cM])<|sV (.cptr [.int .i64 a0.bh.a0, .int .i64 a0.bh.a1, .int .i64 a0.bh.a2, .lst (a0.cN.map (PD.int .i64)), .int .i64 a0.co, .int .i64 a0.cM])<|sC rfl<|sV (rB (a0.bh.a0 != (0 : Int)))<|sV (rB (a0.bh.a0 != (0 : Int)))<|sA rfl<|sN<|qR ?_
       exact oI h▸qD
      refine sM rfl<|k3<|sK<|sU<|sA rfl<|sN<|qR ?_
      exact oI h▸qD
     refine sM rfl<|k3<|sU<|sM rfl<|k3<|sK<|sU<|sA rfl<|sN<|qR ?_
     exact oI h▸qD
    refine sM rfl<|k3<|sU<|sM rfl<|k3<|sU<|sM rfl<|k3<|sK ?_
    refine sU<|sA rfl<|sN<|qR ?_
    exact oI h▸qD
   refine sA rfl<|sN<|cF<|gS rfl rfl<|sF h (fun h => ?_) fun h => ?_
   ·refine sA rfl<|sN<|cT<|gS rfl rfl<|sV (.ptr 16 1)<|sV (.d (aW.pd a0.bj))<|sV (.d (aW.pd (aW.mk 0 0 0)))<|py h (fun hb17 h => ?_) (fun hb17 h => ?_)
    ·refine WO.uM (ir a0.bj (aW.mk 0 0 0)) hb17 rfl rfl rfl rfl rfl<|sM rfl<|sV (.ptr 16 4)<|sV (.d (aW.pd a0.bh))<|sV (.d (aW.pd (aW.mk 0 0 0)))<|WO.bin (ir a0.bh (aW.mk 0 0 0)) rfl rfl rfl rfl rfl<|sF h (fun h => ?_) fun h => ?_
     ·refine sM rfl<|sV (.ptr 16 7)<|sL rfl<|sE (rI (a0.cN.length : Int)) (oQ _ _)<|bE h fun x19 hx19 h => cD (bQ hx19)<|sF h (fun h => ?_) fun h => ?_
      ·refine sM rfl<|sV (.ptr 16 7)<|sL rfl<|bE h fun x21 hx21 h => cD (eK hx21)<|sF h (fun h => ?_) fun h => ?_
       ·refine sM rfl<|sV (.ptr 16 7)<|sL rfl<|bE h fun x23 hx23 h => cD (gU hx23)<|sV (rB (x23 != (0 : Int)))<|sF h (fun h => ?_) fun h => ?_
        ·refine sM rfl<|sV (.ptr 16 8)<|sL rfl<|bE h fun x25 hx25 h => cD (bQ hx25)<|sF h (fun h => ?_) fun h => ?_
         ·refine sM rfl<|sV (.ptr 16 9)<|sL rfl<|bE h fun x27 hx27 h => cD (bQ hx27)<|sV (rB x27)<|sA rfl<|sN<|qR ?_
          cases oI h
          exact qG
         refine sM rfl<|k3<|sU<|sA rfl<|sN<|qR ?_
         cases oI h
         exact qG
        refine sM rfl<|k3<|sU<|sM rfl<|k3<|sU<|sA rfl<|sN<|qR ?_
        cases oI h
        exact qG
       refine sM rfl<|k3<|sK<|sU<|sM rfl<|k3<|sU<|sM rfl<|sK<|sK<|sK ?_
       refine sU<|sA rfl<|sN<|qR ?_
       cases oI h
       exact qG
      refine sM rfl<|k3<|sU<|sM rfl<|k3<|sK<|sU<|sM rfl<|sK<|sK<|sK ?_
      refine sU<|sM rfl<|k3<|sU<|sA rfl<|sN<|qR ?_
      cases oI h
      exact qG
     refine sM rfl<|k3<|sK<|sU<|sM rfl<|k3<|sU<|sM rfl<|sK<|sK<|sK ?_
     refine sK<|sU<|sM rfl<|k3<|sU<|sM rfl<|k3<|sU<|sA rfl<|sN<|qR ?_
     cases oI h
     exact qG
    refine WO.uM (ir a0.bj (aW.mk 0 0 0)) hb17 rfl rfl rfl rfl rfl<|sM rfl<|k3<|sK<|sU<|sM rfl<|k3<|sK<|sU<|sM rfl<|sK ?_
    refine sK<|sK<|sU<|sM rfl<|k3<|sK<|sU<|sM rfl<|k3<|sU<|sM rfl ?_
    refine k3<|sU<|sA rfl<|sN<|qR ?_
    cases oI h
    exact qG
   refine sA rfl<|sN<|cF<|qK<|gS rfl rfl<|sU<|sN<|qR ?_
   cases oI h
   exact qG
  refine sM rfl<|k3<|sU<|sA rfl<|sN<|qS<|gS rfl rfl<|sV (.ptr 16 0)<|sL rfl<|sN<|qB<|gS rfl rfl<|sF h (fun h => ?_) fun h => ?_
  ·refine sA rfl<|sN<|cT<|gS rfl rfl<|sM rfl<|sM rfl<|k3<|k3<|sK<|sU<|sM rfl ?_
   refine k3<|k3<|sK<|sU<|sM rfl<|k3<|sK<|sU<|sM rfl ?_
   refine k3<|sK<|sU<|sA rfl<|sN<|qR ?_
   cases oI h
   exact qG
  refine sA rfl<|sN<|cF<|gS rfl rfl<|sF h (fun h => ?_) fun h => ?_
  ·refine sA rfl<|sN<|cT<|WC.pn (R0 := [(1, .cptr [.int .i64 a0.ep, .int .i64 a0.bj.a0, .int .i64 a0.bj.a1, .int .i64 a0.bj.a2, .int .i64 a0.bh.a0, .int .i64 a0.bh.a1, .int .i64 a0.bh.a2, .lst (a0.cN.map (PD.int .i64)), .int .i64 a0.co, .int .i64 a0.cM]), (3, rB false)]) (B0 := []) rfl rfl<|sM rfl<|sM rfl<|k3<|sU<|sM rfl<|k3<|sU ?_
   refine sM rfl<|k3<|sK<|sU<|sA rfl<|sN<|qR ?_
   exact oI h▸qD
  refine sA rfl<|sN<|cF<|gS rfl rfl<|sF h (fun h => ?_) fun h => ?_
  ·refine sA rfl<|sN<|cT<|gS rfl rfl<|sV (.ptr 16 1)<|sV (.d (aW.pd a0.bj))<|sV (.d (aW.pd (aW.mk 0 0 0)))<|py h (fun hb31 h => ?_) (fun hb31 h => ?_)
   ·refine WO.uM (ir a0.bj (aW.mk 0 0 0)) hb31 rfl rfl rfl rfl rfl<|sM rfl<|sV (.ptr 16 4)<|sV (.d (aW.pd a0.bh))<|sV (.d (aW.pd (aW.mk 0 0 0)))<|WO.bin (ir a0.bh (aW.mk 0 0 0)) rfl rfl rfl rfl rfl<|sF h (fun h => ?_) fun h => ?_
    ·refine sM rfl<|sV (.ptr 16 7)<|sL rfl<|sE (rI (a0.cN.length : Int)) (oQ _ _)<|bE h fun x33 hx33 h => cD (bQ hx33)<|sF h (fun h => ?_) fun h => ?_
     ·refine sM rfl<|sV (.ptr 16 7)<|sL rfl<|bE h fun x35 hx35 h => cD (eK hx35)<|sF h (fun h => ?_) fun h => ?_
      ·refine sM rfl<|sV (.ptr 16 7)<|sL rfl<|bE h fun x37 hx37 h => cD (gU hx37)<|sV (rB (x37 != (0 : Int)))<|sF h (fun h => ?_) fun h => ?_
       ·refine sM rfl<|sV (.ptr 16 8)<|sL rfl<|bE h fun x39 hx39 h => cD (bQ hx39)<|sF h (fun h => ?_) fun h => ?_
        ·refine sM rfl<|sV (.ptr 16 9)<|sL rfl<|bE h fun x41 hx41 h => cD (bQ hx41)<|sV (rB x41)<|sA rfl<|sN<|qR ?_
         cases oI h
         exact qG
        refine sM rfl<|k3<|sU<|sA rfl<|sN<|qR ?_
        cases oI h
        exact qG
       refine sM rfl<|k3<|sU<|sM rfl<|k3<|sU<|sA rfl<|sN<|qR ?_
       cases oI h
       exact qG
      refine sM rfl<|k3<|sK<|sU<|sM rfl<|k3<|sU<|sM rfl<|sK<|sK<|sK ?_
      refine sU<|sA rfl<|sN<|qR ?_
      cases oI h
      exact qG
     refine sM rfl<|k3<|sU<|sM rfl<|k3<|sK<|sU<|sM rfl<|sK<|sK<|sK ?_
     refine sU<|sM rfl<|k3<|sU<|sA rfl<|sN<|qR ?_
     cases oI h
     exact qG
    refine sM rfl<|k3<|sK<|sU<|sM rfl<|k3<|sU<|sM rfl<|sK<|sK<|sK ?_
    refine sK<|sU<|sM rfl<|k3<|sU<|sM rfl<|k3<|sU<|sA rfl<|sN<|qR ?_
    cases oI h
    exact qG
   refine WO.uM (ir a0.bj (aW.mk 0 0 0)) hb31 rfl rfl rfl rfl rfl<|sM rfl<|k3<|sK<|sU<|sM rfl<|k3<|sK<|sU<|sM rfl<|sK ?_
   refine sK<|sK<|sU<|sM rfl<|k3<|sK<|sU<|sM rfl<|k3<|sU<|sM rfl ?_
   refine k3<|sU<|sA rfl<|sN<|qR ?_
   cases oI h
   exact qG
  refine sA rfl<|sN<|cF<|qK<|gS rfl rfl<|sU<|sN<|qR ?_
  cases oI h
  exact qG
 refine sM rfl<|k3<|sU<|sM rfl<|k3<|sU<|sA rfl<|sN<|qS<|gS rfl rfl<|sV (.ptr 16 0) ?_
 refine sL rfl<|sN<|qB<|gS rfl rfl<|sF h (fun h => ?_) fun h => ?_
 ·refine sA rfl<|sN<|cT<|gS rfl rfl<|sM rfl<|sM rfl<|k3<|k3<|sK<|sU<|sM rfl ?_
  refine k3<|k3<|sK<|sU<|sM rfl<|k3<|sK<|sU<|sM rfl ?_
  refine k3<|sK<|sU<|sA rfl<|sN<|qR ?_
  cases oI h
  exact qG
 refine sA rfl<|sN<|cF<|gS rfl rfl<|sF h (fun h => ?_) fun h => ?_
 ·refine sA rfl<|sN<|cT<|WC.pn (R0 := [(1, .cptr [.int .i64 a0.ep, .int .i64 a0.bj.a0, .int .i64 a0.bj.a1, .int .i64 a0.bj.a2, .int .i64 a0.bh.a0, .int .i64 a0.bh.a1, .int .i64 a0.bh.a2, .lst (a0.cN.map (PD.int .i64)), .int .i64 a0.co, .int .i64 a0.cM]), (3, rB false)]) (B0 := []) rfl rfl<|sM rfl<|sM rfl<|k3<|sU<|sM rfl<|k3<|sU ?_
  refine sM rfl<|k3<|sK<|sU<|sA rfl<|sN<|qR ?_
  exact oI h▸qD
 refine sA rfl<|sN<|cF<|gS rfl rfl<|sF h (fun h => ?_) fun h => ?_
 ·refine sA rfl<|sN<|cT<|gS rfl rfl<|sV (.ptr 16 1)<|sV (.d (aW.pd a0.bj))<|sV (.d (aW.pd (aW.mk 0 0 0)))<|py h (fun hb45 h => ?_) (fun hb45 h => ?_)
  ·refine WO.uM (ir a0.bj (aW.mk 0 0 0)) hb45 rfl rfl rfl rfl rfl<|sM rfl<|sV (.ptr 16 4)<|sV (.d (aW.pd a0.bh))<|sV (.d (aW.pd (aW.mk 0 0 0)))<|WO.bin (ir a0.bh (aW.mk 0 0 0)) rfl rfl rfl rfl rfl<|sF h (fun h => ?_) fun h => ?_
   ·refine sM rfl<|sV (.ptr 16 7)<|sL rfl<|sE (rI (a0.cN.length : Int)) (oQ _ _)<|bE h fun x47 hx47 h => cD (bQ hx47)<|sF h (fun h => ?_) fun h => ?_
    ·refine sM rfl<|sV (.ptr 16 7)<|sL rfl<|bE h fun x49 hx49 h => cD (eK hx49)<|sF h (fun h => ?_) fun h => ?_
     ·refine sM rfl<|sV (.ptr 16 7)<|sL rfl<|bE h fun x51 hx51 h => cD (gU hx51)<|sV (rB (x51 != (0 : Int)))<|sF h (fun h => ?_) fun h => ?_
      ·refine sM rfl<|sV (.ptr 16 8)<|sL rfl<|bE h fun x53 hx53 h => cD (bQ hx53)<|sF h (fun h => ?_) fun h => ?_
       ·refine sM rfl<|sV (.ptr 16 9)<|sL rfl<|bE h fun x55 hx55 h => cD (bQ hx55)<|sV (rB x55)<|sA rfl<|sN<|qR ?_
        cases oI h
        exact qG
       refine sM rfl<|k3<|sU<|sA rfl<|sN<|qR ?_
       cases oI h
       exact qG
      refine sM rfl<|k3<|sU<|sM rfl<|k3<|sU<|sA rfl<|sN<|qR ?_
      cases oI h
      exact qG
     refine sM rfl<|k3<|sK<|sU<|sM rfl<|k3<|sU<|sM rfl<|sK<|sK<|sK ?_
     refine sU<|sA rfl<|sN<|qR ?_
     cases oI h
     exact qG
    refine sM rfl<|k3<|sU<|sM rfl<|k3<|sK<|sU<|sM rfl<|sK<|sK<|sK ?_
    refine sU<|sM rfl<|k3<|sU<|sA rfl<|sN<|qR ?_
    cases oI h
    exact qG
   refine sM rfl<|k3<|sK<|sU<|sM rfl<|k3<|sU<|sM rfl<|sK<|sK<|sK ?_
   refine sK<|sU<|sM rfl<|k3<|sU<|sM rfl<|k3<|sU<|sA rfl<|sN<|qR ?_
   cases oI h
   exact qG
  refine WO.uM (ir a0.bj (aW.mk 0 0 0)) hb45 rfl rfl rfl rfl rfl<|sM rfl<|k3<|sK<|sU<|sM rfl<|k3<|sK<|sU<|sM rfl<|sK ?_
  refine sK<|sK<|sU<|sM rfl<|k3<|sK<|sU<|sM rfl<|k3<|sU<|sM rfl ?_
  refine k3<|sU<|sA rfl<|sN<|qR ?_
  cases oI h
  exact qG
 refine sA rfl<|sN<|cF<|qK<|gS rfl rfl<|sU<|sN<|qR ?_
 cases oI h
 exact qG
theorem iE {a0 : aB} {r : Bool} (h : dN a0 = some r) : EvP prog aI ext 151 [.d (aB.pd a0)] [] (rB r, []) := by
 refine Ev.body rfl Tryz.func151 rfl (by kernel_rfl)<|gS rfl rfl<|sB (.ptr 16 0) 16 (.var (aB.rc a0))<|sU<|sN<|gS rfl rfl<|sV (.d (aB.pd a0))<|bE h fun x1 hx1 h => cD (lY hx1)<|sV (rB (!x1))<|sA rfl<|sN<|qR ?_
 cases oI h
 exact qG
theorem jd {a0 : (List aB)} {r : Int} (h : cb a0 = some r) : EvP prog aI ext 175 [.d (.lst (a0.map aB.pd)), .d (.raw (.func (.func 151) #[] #[]))] [] (rI r, []) := by
 refine Ev.body rfl Tryz.func175 rfl (by kernel_rfl)<|gS rfl rfl<|sV (r0)<|sN<|qS<|gS rfl rfl<|sM rfl<|sE (rI (a0.length : Int)) (oQ _ _)<|sV (r0)<|sN<|bE h fun o8 ho8 h => WC.block (WC.loop (WL.oW ho8 (fun s R' B' => lC prog 0 (A R' B') (aI.at_ 175 0 2) = some (A [(0, .d (.lst (a0.map aB.pd))), (1, .d (.raw (.func (.func 151) #[] #[]))), (7, rI (a0.length : Int)), (8, rI s)] [])) (fun o e R' B' => match o with | .inl y => e = .exit 0 ∧ lC prog 0 (A R' B') (aI.at_ 175 0 7) = some (A [] []) | .inr r => e = .ret ∧ finish prog (aI.own 175) Tryz.f175 0 (A R' B') = some (rI r, [])) rfl ?_ ?_))
 ·rintro s1 R' B' q2 hI h
  refine gS rfl hI<|sF h (fun h => ?_) fun h => ?_
  ·refine sN<|qS<|cT<|qK<|qS<|qB<|gS rfl rfl<|sM rfl<|sA rfl<|sN<|gS rfl rfl<|sM rfl<|sM rfl<|sM rfl<|bE h fun x4 hx4 h => ?_
   refine eG hx4 rfl<|sV (.d (aB.pd x4))<|bE h fun x5 hx5 h => py h (fun hb6 h => ?_) (fun hb6 h => ?_)
   ·refine WO.pP (v := rB true) (u := []) rfl rfl (fun _ => rfl) rfl rfl rfl rfl rfl (iE hx5) rfl rfl (congrArg (fun b => RV.d (.bool b)) hb6) rfl<|sN<|cT<|gS rfl rfl<|sM rfl<|sA rfl<|sN<|qR ?_
    cases oI h
    exact ⟨nofun, rfl, rfl⟩
   refine WO.pP (v := rB false) (u := []) rfl rfl (fun _ => rfl) rfl rfl rfl rfl rfl (iE hx5) rfl rfl (congrArg (fun b => RV.d (.bool b)) hb6) rfl<|sN<|cF<|qK<|WC.region rfl rfl<|sV (rI (rW (s1 + (1 : Int))))<|sM rfl<|sN ?_
   cases oI h
   exact ⟨rfl, rfl⟩
  refine sN<|qS<|cF<|qX ?_
  cases oI h
  exact ⟨nofun, rfl, rfl⟩
 intro e R' B' he hq
 rcases o8 with y9 | r10
 ·obtain ⟨rfl, hI⟩ := hq
  refine qE<|gS rfl hI<|sV (rI (-1))<|sN<|qR ?_
  exact oI h▸qD
 obtain ⟨rfl, hf⟩ := hq
 cases oI h
 exact hf
theorem ik {a0 : (List aB)} {r : Bool} (h : bM a0 = some r) : EvP prog aI ext 150 [.d (.lst (a0.map aB.pd)), .d (.raw (.func (.func 151) #[] #[]))] [] (rB r, []) := by
 refine Ev.body rfl Tryz.func150 rfl (by kernel_rfl)<|gS rfl rfl<|sU<|sN<|gS rfl rfl<|sM rfl<|sM rfl<|bE h fun x1 hx1 h => cD (jd hx1)<|sV (rB (decide (x1 ≥ (0 : Int))))<|sA rfl<|sN<|qR ?_
 exact oI h▸qD
theorem n5 {a0 : (List aB)} {r : Int} (h : ex a0 = some r) : EvP prog aI ext 153 [.d (.lst (a0.map aB.pd))] [] (rI r, []) := by
 refine Ev.body rfl Tryz.func153 rfl (by kernel_rfl)<|gS rfl rfl<|sV (r0)<|sN<|gS rfl rfl<|sV (rI 1)<|sN<|qS<|gS rfl rfl<|sM rfl<|sE (rI (a0.length : Int)) (oQ _ _)<|sV (r0)<|sN<|bE h fun o10 ho10 h => WC.block (WC.loop (WL.oW ho10 (fun s R' B' => lC prog 0 (A R' B') (aI.at_ 153 0 3) = some (A [(3, rI s.1), (6, .d (.lst (a0.map aB.pd))), (7, rI (a0.length : Int)), (8, rI s.2)] [])) (fun o e R' B' => match o with | .inl y => e = .exit 0 ∧ lC prog 0 (A R' B') (aI.at_ 153 0 10) = some (A [(3, rI y)] []) | .inr r => e = .ret ∧ finish prog (aI.own 153) Tryz.f153 0 (A R' B') = some (rI r, [])) rfl ?_ ?_))
 ·rintro ⟨s1, s2⟩ R' B' q4 hI h
  refine gS rfl hI<|sF h (fun h => ?_) fun h => ?_
  ·refine sN<|qS<|cT<|qK<|qS<|qB<|gS rfl rfl<|bE h fun x6 hx6 h => eG hx6 rfl<|sV (.d (aB.pd x6))<|sB (.ptr 80 0) 80 (.var [r0, r0, r0, r0, r0, r0, r0, .hY, r0, r0])<|sH 80 (.var (aB.rc x6))<|sN<|qS<|gS rfl rfl ?_
   refine sV (.ptr 80 0)<|sL rfl<|sF h (fun h => ?_) fun h => ?_
   ·refine sN<|cT<|qX<|qE<|WC.region rfl rfl<|sV (rI (rW (s2 + (1 : Int))))<|sM rfl<|sN ?_
    cases oI h
    exact ⟨rfl, rfl⟩
   refine sN<|cF<|qK<|gS rfl rfl<|sM rfl<|sV (.ptr 80 8)<|sL rfl<|sV (rI (rW (s1 * x6.co)))<|sA rfl<|sN<|gS rfl rfl<|sM rfl<|sF h (fun h => ?_) fun h => ?_
   ·refine sN<|cT<|gS rfl rfl<|sV (r0)<|sN<|qR ?_
    cases oI h
    exact ⟨nofun, rfl, rfl⟩
   refine sN<|cF<|qK<|WC.region rfl rfl<|sV (rI (rW (s2 + (1 : Int))))<|sM rfl<|sN ?_
   cases oI h
   exact ⟨rfl, rfl⟩
  refine sN<|qS<|cF<|qX ?_
  cases oI h
  exact ⟨nofun, rfl, rfl⟩
 intro e R' B' he hq
 rcases o10 with y11 | r12
 ·obtain ⟨rfl, hI⟩ := hq
  refine qE<|gS rfl hI<|sM rfl<|sA rfl<|sN<|qR ?_
  exact oI h▸qD
 obtain ⟨rfl, hf⟩ := hq
 cases oI h
 exact hf
theorem lb {a0 : aM} {r : Bool} (h : ed a0 = some r) : EvP prog aI ext 110 [.d (aM.pd a0)] [] (rB r, []) := by
 refine Ev.body rfl Tryz.func110 rfl (by kernel_rfl)<|gS rfl rfl<|sB (.ptr 16 0) 16 (.var [.d (.lst (a0.bo.map aB.pd))])<|sU<|sN<|qS<|gS rfl rfl<|sV (.ptr 16 0)<|sL rfl<|sE (rI (a0.bo.length : Int)) (oQ _ _)<|sF h (fun h => ?_) fun h => ?_
 ·refine sM rfl<|k3<|sT<|sN<|cT<|gS rfl rfl<|sU<|sN<|qR ?_
  exact oI h▸qD
 refine sM rfl<|sV (.ptr 16 0)<|sL rfl<|bE h fun x2 hx2 h => cD (ik hx2)<|sF h (fun h => ?_) fun h => ?_
 ·refine sN<|cT<|gS rfl rfl<|sU<|sN<|qR ?_
  exact oI h▸qD
 refine sN<|cF<|qK<|gS rfl rfl<|sV (.ptr 16 0)<|sL rfl<|bE h fun x4 hx4 h => cD (n5 hx4)<|sV (rB (decide (x4 > (0 : Int))))<|sA rfl<|sN<|qR ?_
 exact oI h▸qD
theorem gR {a0 : Int} {a1 : Int} {a2 : Int} {r : Bool} (h : dm a0 a1 a2 = some r) : EvP prog aI ext 81 [rI a0, rI a1, rI a2] [] (rB r, []) := by
 refine Ev.body rfl Tryz.func81 rfl (by kernel_rfl)<|gS rfl rfl<|sU<|sN<|gS rfl rfl<|sM rfl<|sM rfl<|sF h (fun h => ?_) fun h => ?_
 ·refine sM rfl<|sM rfl<|sM rfl<|sV (rB (decide (a0 ≤ a2)))<|sV (rB (decide (a0 ≤ a2)))<|sA rfl<|sN<|qR ?_
  exact oI h▸qD
 refine sM rfl<|k3<|sU<|sA rfl<|sN<|qR ?_
 exact oI h▸qD
theorem ly {a0 : al} {r : Bool} (h : cH a0 = some r) : EvP prog aI ext 80 [.d (al.pd a0)] [] (rB r, []) := by
 refine Ev.body rfl Tryz.func80 rfl (by kernel_rfl)<|gS rfl rfl<|sB (.ptr 16 0) 16 (.var (al.rc a0))<|sU<|sN<|gS rfl rfl<|sV (.ptr 16 4)<|sV (.d (aa.pd a0.aS))<|sB (.ptr 48 0) 48 (.var [r0, r0, r0])<|sS 48 (.var [rI a0.aS.fX, rI a0.aS.fY, rI a0.aS.fZ])<|sN<|gS rfl rfl<|sV (.ptr 16 0)<|sL rfl<|sF h (fun h => ?_) fun h => ?_
 ·refine sM rfl<|sV (.ptr 16 0)<|sL rfl<|sV (.ptr 16 1)<|sL rfl<|sV (rB (decide (a0.bB < a0.fTo)))<|sF h (fun h => ?_) fun h => ?_
  ·refine sM rfl<|sV (.ptr 16 1)<|sL rfl<|sV (rB (decide (a0.fTo ≤ (9007199254740992 : Int))))<|sF h (fun h => ?_) fun h => ?_
   ·refine sM rfl<|sV (.ptr 16 2)<|sV (.d (bg.pd a0.cf))<|bE h fun x4 hx4 h => cD (rate_Valid_ev hx4)<|sF h (fun h => ?_) fun h => ?_
    ·refine sM rfl<|sV (.ptr 16 7)<|sV (.d (aM.pd a0.bi))<|bE h fun x6 hx6 h => cD (lb hx6)<|sF h (fun h => ?_) fun h => ?_
     ·refine sM rfl<|sV (.ptr 48 0)<|sL rfl<|bE h fun x8 hx8 h => cD (gR hx8)<|sF h (fun h => ?_) fun h => ?_
      ·refine sM rfl<|sV (.ptr 48 1)<|sL rfl<|bE h fun x10 hx10 h => cD (gR hx10)<|sF h (fun h => ?_) fun h => ?_
       ·refine sM rfl<|sV (.ptr 48 2)<|sL rfl<|bE h fun x12 hx12 h => cD (gR hx12)<|sV (rB x12)<|sA rfl<|sN<|qR ?_
        exact oI h▸qD
       refine sM rfl<|k3<|sU<|sA rfl<|sN<|qR ?_
       exact oI h▸qD
      refine sM rfl<|k3<|sU<|sM rfl<|k3<|sU<|sA rfl<|sN<|qR ?_
      exact oI h▸qD
     refine sM rfl<|k3<|sU<|sM rfl<|k3<|sU<|sM rfl<|k3<|sU ?_
     refine sA rfl<|sN<|qR ?_
     exact oI h▸qD
    refine sM rfl<|k3<|sU<|sM rfl<|k3<|sU<|sM rfl<|k3<|sU ?_
    refine sM rfl<|k3<|sU<|sA rfl<|sN<|qR ?_
    exact oI h▸qD
   refine sM rfl<|k3<|sU<|sM rfl<|k3<|sU<|sM rfl<|k3<|sU ?_
   refine sM rfl<|k3<|sU<|sM rfl<|k3<|sU<|sA rfl<|sN<|qR ?_
   exact oI h▸qD
  refine sM rfl<|k3<|sU<|sM rfl<|k3<|sU<|sM rfl<|k3<|sU ?_
  refine sM rfl<|k3<|sU<|sM rfl<|k3<|sU<|sM rfl<|k3<|sU ?_
  refine sA rfl<|sN<|qR ?_
  exact oI h▸qD
 refine sM rfl<|k3<|sK<|sK<|sU<|sM rfl<|k3<|sU<|sM rfl<|sK<|sK ?_
 refine sK<|sU<|sM rfl<|k3<|sU<|sM rfl<|k3<|sU<|sM rfl<|sK<|sK ?_
 refine sK<|sU<|sM rfl<|k3<|sU<|sA rfl<|sN<|qR ?_
 exact oI h▸qD
theorem nw {a0 : (List al)} {r : Bool} (h : d5 a0 = some r) : EvP prog aI ext 51 [.d (.lst (a0.map al.pd))] [] (rB r, []) := by
 refine Ev.body rfl Tryz.func51 rfl (by kernel_rfl)<|gS rfl rfl<|sU<|sN<|qS<|gS rfl rfl<|sM rfl<|sE (rI (a0.length : Int)) (oQ _ _)<|sV (r0)<|sN<|bE h fun o11 ho11 h => WC.block (WC.loop (WL.oW ho11 (fun s R' B' => lC prog 0 (A R' B') (aI.at_ 51 0 2) = some (A [(0, .d (.lst (a0.map al.pd))), (5, .d (.lst (a0.map al.pd))), (6, rI (a0.length : Int)), (7, rI s)] [])) (fun o e R' B' => match o with | .inl y => e = .exit 0 ∧ lC prog 0 (A R' B') (aI.at_ 51 0 7) = some (A [(0, .d (.lst (a0.map al.pd)))] []) | .inr r => e = .ret ∧ finish prog (aI.own 51) Tryz.f51 0 (A R' B') = some (rB r, [])) rfl ?_ ?_))
 ·rintro s1 R' B' q2 hI h
  refine gS rfl hI<|sF h (fun h => ?_) fun h => ?_
  ·refine sN<|qS<|cT<|qK<|qS<|qB<|gS rfl rfl<|sM rfl<|bE h fun x4 hx4 h => eG hx4 rfl<|sV (.d (al.pd x4))<|sB (.ptr 64 0) 64 (.var zZ2)<|sA rfl<|sH 64 (.var (al.rc x4))<|sN ?_
   refine WC.cI rfl rfl<|sV (.d (al.pd x4))<|bE h fun x5 hx5 h => cD (ly hx5)<|sF h (fun h => ?_) fun h => ?_
   ·refine sM rfl<|k3<|k3<|k3<|k3<|sK<|sT ?_
    refine sN<|sO<|cT<|gS rfl rfl<|sU<|sN<|qR ?_
    cases oI h
    exact ⟨nofun, rfl, rfl⟩
   refine sM rfl<|sM rfl<|sF h (fun h => ?_) fun h => ?_
   ·refine sM rfl<|sV (.ptr 64 0)<|sL rfl<|sM rfl<|sM rfl<|sV (rI (rW (s1 - (1 : Int))))<|bE h fun x8 hx8 h => eG hx8 rfl<|sV (.cptr [.int .i64 x8.fTo, .int .i64 x8.cf.bj, .int .i64 x8.cf.bh, .int .i64 x8.aS.fX, .int .i64 x8.aS.fY, .int .i64 x8.aS.fZ, .lst (x8.bi.bo.map aB.pd)])<|sC rfl<|sV (rB (decide (x4.bB < x8.fTo)))<|sV (rB (decide (x4.bB < x8.fTo)))<|sF h (fun h => ?_) fun h => ?_
    ·refine sN<|sO<|cT<|gS rfl rfl<|sU<|sN<|qR ?_
     cases oI h
     exact ⟨nofun, rfl, rfl⟩
    refine sN<|sO<|cF<|qK<|WC.region rfl rfl<|sV (rI (rW (s1 + (1 : Int))))<|sM rfl<|sN ?_
    cases oI h
    exact ⟨rfl, rfl⟩
   refine sM rfl<|k3<|k3<|k3<|sU<|sU ?_
   refine sN<|sO<|cF<|qK<|WC.region rfl rfl<|sV (rI (rW (s1 + (1 : Int))))<|sM rfl<|sN ?_
   cases oI h
   exact ⟨rfl, rfl⟩
  refine sN<|qS<|cF<|qX ?_
  cases oI h
  exact ⟨nofun, rfl, rfl⟩
 intro e R' B' he hq
 rcases o11 with y12 | r13
 ·obtain ⟨rfl, hI⟩ := hq
  refine qE<|gS rfl hI<|sM rfl<|sE (rI (a0.length : Int)) (oQ _ _)<|bE h fun x14 hx14 h => cD (gR hx14)<|sA rfl<|sN<|qR ?_
  exact oI h▸qD
 obtain ⟨rfl, hf⟩ := hq
 cases oI h
 exact hf
theorem jR {a0 : (List UInt8)} {r : Bool} (h : db a0 = some r) : EvP prog aI ext 111 [rS a0] [] (rB r, []) := by
 refine Ev.body rfl Tryz.func111 rfl (by kernel_rfl)<|gS rfl rfl<|sU<|sN<|gS rfl rfl<|sM rfl<|sM rfl<|sV (rB (!(a0 == a0)))<|sA rfl<|sN<|qR ?_
 exact oI h▸qD
theorem ej {a0 : (List UInt8)} {a1 : (List UInt8)} {r : Int} (h : bR a0 a1 = some r) : EvP prog aI ext 83 [rS a0, rS a1] [] (rI r, []) := by
 refine Ev.body rfl Tryz.func83 rfl (by kernel_rfl)<|gS rfl rfl<|sV (r0)<|sN<|gS rfl rfl<|sM rfl<|bE h fun x1 hx1 h => cD (jR hx1)<|sA rfl<|sN<|gS rfl rfl<|sM rfl<|bE h fun x2 hx2 h => cD (jR hx2)<|sA rfl ?_
 refine sN<|qS<|gS rfl rfl<|sF h (fun h => ?_) fun h => ?_
 ·refine sN<|cT<|qS<|gS rfl rfl<|sF h (fun h => ?_) fun h => ?_
  ·refine sN<|cT<|gS rfl rfl<|sV (r0)<|sN<|qR ?_
   exact oI h▸qD
  refine sN<|cF<|qK<|gS rfl rfl<|sV (rI (-1))<|sN<|qR ?_
  exact oI h▸qD
 refine sN<|cF<|qK<|qS<|gS rfl rfl<|sF h (fun h => ?_) fun h => ?_
 ·refine sN<|cT<|gS rfl rfl<|sV (rI 1)<|sN<|qR ?_
  exact oI h▸qD
 refine sN<|cF<|qK<|qS<|gS rfl rfl<|sM rfl<|sM rfl<|sF h (fun h => ?_) fun h => ?_
 ·refine sN<|cT<|gS rfl rfl<|sV (rI (-1))<|sN<|qR ?_
  exact oI h▸qD
 refine sN<|cF<|qK<|qS<|gS rfl rfl<|sM rfl<|sM rfl<|sF h (fun h => ?_) fun h => ?_
 ·refine sN<|cT<|gS rfl rfl<|sV (rI 1)<|sN<|qR ?_
  exact oI h▸qD
 refine sN<|cF<|qK<|gS rfl rfl<|sV (r0)<|sN<|qR ?_
 exact oI h▸qD
theorem gI {a0 : (List Int)} {r : Int} (h : cL a0 = some r) : EvP prog aI ext 82 [.d (.lst (a0.map (PD.int .i64)))] [] (rI r, []) := by
 refine Ev.body rfl Tryz.func82 rfl (by kernel_rfl)<|gS rfl rfl<|sV (r0)<|sN<|gS rfl rfl<|sV (r0)<|sN<|qS<|gS rfl rfl<|sM rfl<|sE (rI (a0.length : Int)) (oQ _ _)<|sV (r0)<|sN<|bE h fun o7 ho7 h => WC.block (WC.loop (WL.oW ho7 (fun s R' B' => lC prog 0 (A R' B') (aI.at_ 82 0 3) = some (A [(3, r0), (6, .d (.lst (a0.map (PD.int .i64)))), (7, rI (a0.length : Int)), (8, rI s)] [])) (fun o e R' B' => match o with | .inl y => e = .exit 0 ∧ lC prog 0 (A R' B') (aI.at_ 82 0 8) = some (A [(3, r0)] []) | .inr r => e = .ret ∧ finish prog (aI.own 82) Tryz.f82 0 (A R' B') = some (rI r, [])) rfl ?_ ?_))
 ·rintro s1 R' B' q2 hI h
  refine gS rfl hI<|sF h (fun h => ?_) fun h => ?_
  ·refine sN<|qS<|cT<|qK<|qS<|qB<|gS rfl rfl<|bE h fun x4 hx4 h => eG hx4 rfl<|sC rfl<|sA rfl<|sN<|gS rfl rfl<|sM rfl<|sM rfl ?_
   refine sF h (fun h => ?_) fun h => ?_
   ·refine sN<|cT<|gS rfl rfl<|sM rfl<|sA rfl<|sN<|qR ?_
    cases oI h
    exact ⟨nofun, rfl, rfl⟩
   refine sN<|cF<|qK<|WC.region rfl rfl<|sV (rI (rW (s1 + (1 : Int))))<|sM rfl<|sN ?_
   cases oI h
   exact ⟨rfl, rfl⟩
  refine sN<|qS<|cF<|qX ?_
  cases oI h
  exact ⟨nofun, rfl, rfl⟩
 intro e R' B' he hq
 rcases o7 with y8 | r9
 ·obtain ⟨rfl, hI⟩ := hq
  refine qE<|gS rfl hI<|sM rfl<|sA rfl<|sN<|qR ?_
  exact oI h▸qD
 obtain ⟨rfl, hf⟩ := hq
 cases oI h
 exact hf
theorem lf {a0 : aJ} {a1 : aJ} {r : Int} (h : dG a0 a1 = some r) : EvP prog aI ext 52 [.d (aJ.pd a0), .d (aJ.pd a1)] [] (rI r, []) := by
 refine Ev.body rfl Tryz.func52 rfl (by kernel_rfl)<|gS rfl rfl<|sB (.ptr 32 0) 32 (.var [rS a0.aV, rS a0.aL, rS a0.ar, rS a0.aX])<|sB (.ptr 48 0) 48 (.var [rS a1.aV, rS a1.aL, rS a1.ar, rS a1.aX])<|sV (r0)<|sN<|WC.cI rfl rfl<|sV (.ptr 32 0)<|sL rfl<|sV (.ptr 48 0)<|sL rfl<|bE h fun x1 hx1 h => cD (ej hx1)<|sV (.ptr 32 1)<|sL rfl ?_
 refine sV (.ptr 48 1)<|sL rfl<|bE h fun x2 hx2 h => cD (ej hx2)<|sV (.ptr 32 2)<|sL rfl<|sV (.ptr 48 2)<|sL rfl<|bE h fun x3 hx3 h => cD (ej hx3)<|sV (.ptr 32 3)<|sL rfl<|sV (.ptr 48 3)<|sL rfl<|bE h fun x4 hx4 h => ?_
 refine cD (ej hx4)<|sV (.d (.lst ([x1, x2, x3, x4].map (PD.int .i64))))<|bE h fun x5 hx5 h => cD (gI hx5)<|sA rfl ?_
 refine sN<|sO<|qR ?_
 exact oI h▸qD
theorem kz {a0 : aC} {r : Bool} (h : da a0 = some r) : EvP prog aI ext 34 [.d (aC.pd a0)] [] (rB r, []) := by
 refine Ev.body rfl Tryz.func34 rfl (by kernel_rfl)<|gS rfl rfl<|sB (.ptr 16 0) 16 (.var [.d (.lst (a0.aO.map ap.pd))])<|sU<|sN<|qS<|gS rfl rfl<|sV (.ptr 16 0)<|sL rfl<|sE (rI (a0.aO.length : Int)) (oQ _ _)<|sV (r0)<|sN<|bE h fun o14 ho14 h => WC.block (WC.loop (WL.oW ho14 (fun s R' B' => lC prog 0 (A R' B') (aI.at_ 34 0 2) = some (A [(1, .ptr 16 0), (6, .d (.lst (a0.aO.map ap.pd))), (7, rI (a0.aO.length : Int)), (8, rI s)] [(16, .var [.d (.lst (a0.aO.map ap.pd))])])) (fun o e R' B' => match o with | .inl y => e = .exit 0 ∧ lC prog 0 (A R' B') (aI.at_ 34 0 7) = some (A [(1, .ptr 16 0)] [(16, .var [.d (.lst (a0.aO.map ap.pd))])]) | .inr r => e = .ret ∧ finish prog (aI.own 34) Tryz.f34 0 (A R' B') = some (rB r, [])) rfl ?_ ?_))
 ·rintro s1 R' B' q2 hI h
  refine gS rfl hI<|sF h (fun h => ?_) fun h => ?_
  ·refine sN<|qS<|cT<|qK<|qS<|qB<|gS rfl rfl<|sM rfl<|bE h fun x4 hx4 h => eG hx4 rfl<|sV (.d (ap.pd x4))<|sB (.ptr 64 0) 64 (.var [rS [], rS [], rS [], rS [], .hY])<|sA rfl<|sS 64 (.var (ap.rc x4))<|sN ?_
   refine WC.cI rfl rfl<|sV (.ptr 64 0)<|sV (.d (aJ.pd x4.aH))<|bE h fun x5 hx5 h => cD (jQ hx5)<|sF h (fun h => ?_) fun h => ?_
   ·refine sM rfl<|k3<|sK<|sT<|sM rfl<|k3<|k3<|sK<|sK ?_
    refine k3<|k3<|sK<|sT ?_
    refine sN<|sO<|cT<|gS rfl rfl<|sU<|sN<|qR ?_
    cases oI h
    exact ⟨nofun, rfl, rfl⟩
   refine sM rfl<|sV (.ptr 64 4)<|sL rfl<|bE h fun x7 hx7 h => cD (nw hx7)<|sV (rB (!x7))<|sF h (fun h => ?_) fun h => ?_
   ·refine sM rfl<|k3<|k3<|k3<|k3<|sK<|sK ?_
    refine sK<|sT ?_
    refine sN<|sO<|cT<|gS rfl rfl<|sU<|sN<|qR ?_
    cases oI h
    exact ⟨nofun, rfl, rfl⟩
   refine sM rfl<|sM rfl<|sF h (fun h => ?_) fun h => ?_
   ·refine sM rfl<|sV (.ptr 16 0)<|sL rfl<|sM rfl<|sV (rI (rW (s1 - (1 : Int))))<|bE h fun x10 hx10 h => eG hx10 rfl<|sV (.cptr [.str x10.aH.aV, .str x10.aH.aL, .str x10.aH.ar, .str x10.aH.aX, .lst (x10.ba.map al.pd)])<|sV (.d (aJ.pd x10.aH))<|sV (.ptr 64 0)<|sV (.d (aJ.pd x4.aH))<|bE h fun x11 hx11 h => cD (lf hx11)<|sV (rB (decide (x11 ≥ (0 : Int))))<|sV (rB (decide (x11 ≥ (0 : Int)))) ?_
    refine sF h (fun h => ?_) fun h => ?_
    ·refine sN<|sO<|cT<|gS rfl rfl<|sU<|sN<|qR ?_
     cases oI h
     exact ⟨nofun, rfl, rfl⟩
    refine sN<|sO<|cF<|qK<|WC.region rfl rfl<|sV (rI (rW (s1 + (1 : Int))))<|sM rfl<|sN ?_
    cases oI h
    exact ⟨rfl, rfl⟩
   refine sM rfl<|k3<|k3<|k3<|sK<|sK<|sU<|sU ?_
   refine sN<|sO<|cF<|qK<|WC.region rfl rfl<|sV (rI (rW (s1 + (1 : Int))))<|sM rfl<|sN ?_
   cases oI h
   exact ⟨rfl, rfl⟩
  refine sN<|qS<|cF<|qX ?_
  cases oI h
  exact ⟨nofun, rfl, rfl⟩
 intro e R' B' he hq
 rcases o14 with y15 | r16
 ·obtain ⟨rfl, hI⟩ := hq
  refine qE<|gS rfl hI<|sV (.ptr 16 0)<|sL rfl<|sE (rI (a0.aO.length : Int)) (oQ _ _)<|sV (rB (decide ((a0.aO.length : Int) ≤ (128 : Int))))<|sA rfl<|sN<|qR ?_
  exact oI h▸qD
 obtain ⟨rfl, hf⟩ := hq
 cases oI h
 exact hf
theorem eY {a0 : Int} {r : Bool} (h : dX a0 = some r) : EvP prog aI ext 122 [rI a0] [] (rB r, []) := by
 refine Ev.body rfl Tryz.func122 rfl (by kernel_rfl)<|gS rfl rfl<|sU<|sN<|gS rfl rfl<|sM rfl<|sM rfl<|sV (rB (a0 != a0))<|sA rfl<|sN<|qR ?_
 exact oI h▸qD
theorem bJ {a0 : Int} {a1 : Int} {r : Int} (h : bF a0 a1 = some r) : EvP prog aI ext 86 [rI a0, rI a1] [] (rI r, []) := by
 refine Ev.body rfl Tryz.func86 rfl (by kernel_rfl)<|gS rfl rfl<|sV (r0)<|sN<|gS rfl rfl<|sM rfl<|bE h fun x1 hx1 h => cD (eY hx1)<|sA rfl<|sN<|gS rfl rfl<|sM rfl<|bE h fun x2 hx2 h => cD (eY hx2)<|sA rfl ?_
 refine sN<|qS<|gS rfl rfl<|sF h (fun h => ?_) fun h => ?_
 ·refine sN<|cT<|qS<|gS rfl rfl<|sF h (fun h => ?_) fun h => ?_
  ·refine sN<|cT<|gS rfl rfl<|sV (r0)<|sN<|qR ?_
   exact oI h▸qD
  refine sN<|cF<|qK<|gS rfl rfl<|sV (rI (-1))<|sN<|qR ?_
  exact oI h▸qD
 refine sN<|cF<|qK<|qS<|gS rfl rfl<|sF h (fun h => ?_) fun h => ?_
 ·refine sN<|cT<|gS rfl rfl<|sV (rI 1)<|sN<|qR ?_
  exact oI h▸qD
 refine sN<|cF<|qK<|qS<|gS rfl rfl<|sM rfl<|sM rfl<|sF h (fun h => ?_) fun h => ?_
 ·refine sN<|cT<|gS rfl rfl<|sV (rI (-1))<|sN<|qR ?_
  exact oI h▸qD
 refine sN<|cF<|qK<|qS<|gS rfl rfl<|sM rfl<|sM rfl<|sF h (fun h => ?_) fun h => ?_
 ·refine sN<|cT<|gS rfl rfl<|sV (rI 1)<|sN<|qR ?_
  exact oI h▸qD
 refine sN<|cF<|qK<|gS rfl rfl<|sV (r0)<|sN<|qR ?_
 exact oI h▸qD
theorem l7 {d0 : (List aq)} {r : (List aq)} (h : dP d0 = some r) : EvP prog aI ext 56 [.ref 0 0] [.arr 0 48 (d0.map aq.pd)] (.d (.lst (r.map aq.pd)), [.dead]) := by
 refine Ev.body rfl Tryz.func56 rfl (by kernel_rfl)<|gS rfl rfl<|sV .hY<|sN<|qS<|gS rfl rfl<|sM rfl<|WO.vR rfl rfl rfl rfl rfl rfl rfl rfl rfl<|sF h (fun h => ?_) fun h => ?_
 ·refine sN<|cT<|gS rfl rfl<|sM rfl<|sA rfl<|sN<|qR ?_
  exact oI h▸qD
 refine sN<|cF<|qK<|qS<|gS rfl rfl<|sV (rI 1)<|sN<|bE h fun o39 ho39 h => WC.block (WC.loop (WL.oW ho39 (fun s R' B' => lC prog 1 (A R' B') (aI.at_ 56 1 4) = some (A [(0, .ref 0 0), (3, rI s)] [(0, .arr 0 48 (d0.map aq.pd))])) (fun o e R' B' => match o with | .inl y => e = .exit 0 ∧ lC prog 1 (A R' B') (aI.at_ 56 1 16) = some (A [(0, .ref 0 0)] [(0, .arr 0 48 (d0.map aq.pd))]) | .inr r => e = .ret ∧ finish prog (aI.own 56) Tryz.f56 1 (A R' B') = some (.d (.lst (r.map aq.pd)), [.dead])) rfl ?_ ?_))
 ·rintro s2 R' B' q3 hI h
  refine qS<|gS rfl hI<|sM rfl<|sM rfl<|WO.vR rfl rfl rfl rfl rfl rfl rfl rfl rfl<|sF h (fun h => ?_) fun h => ?_
  ·refine sN<|cT<|qK<|qS<|qB<|WC.cI rfl rfl<|sM rfl<|sM rfl<|bE h fun x6 hx6 h => WO.qo hx6 rfl rfl rfl rfl rfl rfl rfl rfl<|bE h fun x7 hx7 h => WO.p7 hx7 rfl rfl rfl rfl rfl rfl<|sM rfl<|sM rfl<|sV (rI (rW (s2 - (1 : Int)))) ?_
   refine bE h fun x9 hx9 h => WO.qo hx9 rfl rfl rfl rfl rfl rfl rfl rfl<|bE h fun x10 hx10 h => WO.p7 hx10 rfl rfl rfl rfl rfl rfl<|py h (fun hb11 h => ?_) (fun hb11 h => ?_)
   ·refine WO.uM (eqE_48 x7 x10) hb11 rfl rfl rfl rfl rfl ?_
    refine sN<|sO<|cT<|gS rfl rfl<|sM rfl<|sM rfl<|bE h fun x12 hx12 h => WO.subR hx12 rfl rfl rfl rfl rfl rfl rfl rfl rfl rfl rfl rfl<|sA rfl<|sN<|qS<|gS rfl rfl<|sV (rI 1)<|sN<|bE h fun o32 ho32 h => WC.block (WC.loop (WL.oW ho32 (fun s R' B' => lC prog 1 (A R' B') (aI.at_ 56 1 9) = some (A [(0, .ref 0 0), (3, rI s.1), (4, .view 0 0 (0 + (s2 : Int).toNat) (0 + ((d0.length : Int) : Int).toNat)), (5, rI s.2.1)] [(0, .arr 0 48 (s.2.2.map aq.pd))])) (fun o e R' B' => e = .exit 2 ∧ lC prog 1 (A R' B') (aI.at_ 56 1 14) = some (A [(0, .ref 0 0), (3, rI o.1)] [(0, .arr 0 48 (o.2.map aq.pd))])) rfl ?_ ?_))
    ·rintro ⟨s13, s14, s15⟩ R' B' q18 hI h
     unfold fe at h
     refine qS<|gS rfl hI<|sM rfl<|sM rfl<|bE h fun x19 hx19 h => WO.lenVw hx19 rfl rfl rfl rfl rfl rfl rfl rfl rfl<|sF h (fun h => ?_) fun h => ?_
     ·refine sN<|cT<|qK<|qS<|qB<|WC.cI rfl rfl<|sM rfl<|sM rfl<|bE h fun x21 hx21 h => WO.eltV hx21 rfl rfl rfl rfl rfl rfl rfl rfl<|bE h fun x22 hx22 h => WO.p7 hx22 rfl rfl rfl rfl rfl rfl<|sM rfl<|sM rfl<|sV (rI (rW (s14 - (1 : Int)))) ?_
      refine bE h fun x23 hx23 h => WO.eltV hx23 rfl rfl rfl rfl rfl rfl rfl rfl<|bE h fun x24 hx24 h => WO.p7 hx24 rfl rfl rfl rfl rfl rfl<|py h (fun hb25 h => ?_) (fun hb25 h => ?_)
      ·refine WO.uM (eqN_48 x22 x24) hb25 rfl rfl rfl rfl rfl ?_
       refine sN<|sO<|cT<|gS rfl rfl<|sM rfl<|sM rfl<|sM rfl<|sM rfl<|bE h fun x26 hx26 h => WO.eltV hx26 rfl rfl rfl rfl rfl rfl rfl rfl<|bE h fun x27 hx27 h => WO.p7 hx27 rfl rfl rfl rfl rfl rfl<|bE h fun x29 hx29 h => WO.qo hx29 rfl rfl rfl rfl rfl rfl rfl rfl<|bE h fun x30 hx30 h => WO.tV (g := aq.pd) (sz := 9) (p := aq.pd x27) hx30 (by intro _; kernel_rfl) (by intro _; kernel_rfl) rfl rfl rfl rfl rfl rfl rfl rfl rfl ?_
       refine sN<|WC.region rfl rfl<|sM rfl<|sV (rI (rW (s13 + (1 : Int))))<|sA rfl<|sN<|WC.region rfl rfl<|sM rfl<|sV (rI (rW (s14 + (1 : Int))))<|sA rfl<|sN ?_
       cases oI h
       exact ⟨rfl, rfl⟩
      refine WO.uM (eqN_48 x22 x24) hb25 rfl rfl rfl rfl rfl ?_
      refine sN<|sO<|cF<|qK<|WC.region rfl rfl<|sM rfl<|sV (rI (rW (s14 + (1 : Int))))<|sA rfl<|sN ?_
      cases oI h
      exact ⟨rfl, rfl⟩
     refine sN<|cF<|qX ?_
     cases oI h
     exact ⟨nofun, rfl, rfl⟩
    intro e R' B' he hq
    obtain ⟨rfl, hI⟩ := hq
    refine qE<|gS rfl hI<|sM rfl<|sM rfl<|bE h fun x33 hx33 h => WO.subR hx33 rfl rfl rfl rfl rfl rfl rfl rfl rfl rfl rfl rfl<|bE h fun x34 hx34 h => WO.clearN (z := (aq.mk (aJ.mk [] [] [] []) 0 0 0 0 0)) (g := aq.pd) rfl rfl rfl rfl rfl rfl rfl (dst_view hx34 rfl) rfl rfl rfl rfl<|sN<|gS rfl rfl<|sM rfl<|sM rfl<|bE h fun x36 hx36 h => WO.subR hx36 rfl rfl rfl rfl rfl rfl rfl rfl rfl rfl rfl rfl<|sA rfl ?_
    refine sN<|qR<|bE h fun x37 hx37 h => ?_
    cases oI h
    exact ⟨nofun, rfl, (zx hx37 rfl rfl rfl rfl rfl)⟩
   refine WO.uM (eqE_48 x7 x10) hb11 rfl rfl rfl rfl rfl ?_
   refine sN<|sO<|cF<|qK<|WC.region rfl rfl<|sM rfl<|sV (rI (rW (s2 + (1 : Int))))<|sA rfl<|sN ?_
   cases oI h
   exact ⟨rfl, rfl⟩
  refine sN<|cF<|qX ?_
  cases oI h
  exact ⟨nofun, rfl, rfl⟩
 intro e R' B' he hq
 rcases o39 with y40 | r41
 ·obtain ⟨rfl, hI⟩ := hq
  refine qE<|gS rfl hI<|sM rfl<|sA rfl<|sN<|qR ?_
  exact oI h▸qD
 obtain ⟨rfl, hf⟩ := hq
 cases oI h
 exact hf
theorem picker_Sort_ev {a0 : (List aq)} {r : (List aq)} (h : eJ a0 = some r) : EvP prog aI ext 35 [.d (.lst (a0.map aq.pd))] [] (.d (.lst (r.map aq.pd)), []) := by
 refine Ev.body rfl Tryz.func35 rfl (by kernel_rfl)<|gS rfl rfl<|sV .hY<|sN<|gS rfl rfl<|sM rfl<|bE h fun x1 hx1 h => cR (.ref 80 0) [(80, .arr 0 48 (x1.map aq.pd))] (clone_53 hx1)<|sA rfl<|sN<|gS rfl rfl<|sM rfl<|bE h fun x2 hx2 h => cR (.tup []) [(80, .arr 0 48 (x2.map aq.pd))] (sort_54_55 hx2)<|sN ?_
 refine gS rfl rfl<|sM rfl<|bE h fun x3 hx3 h => cR (.d (.lst (x3.map aq.pd))) [(80, .dead)] (l7 hx3)<|sA rfl<|sN<|qR ?_
 exact oI h▸qD
theorem oG {a0 : Int} {a1 : Int} {a2 : Int} {r : Bool} (h : gy a0 a1 a2 = some r) : EvP prog aI ext 87 [rI a0, rI a1, rI a2] [] (rB r, []) := by
 refine Ev.body rfl Tryz.func87 rfl (by kernel_rfl)<|gS rfl rfl<|sU<|sN<|gS rfl rfl<|sM rfl<|sM rfl<|sF h (fun h => ?_) fun h => ?_
 ·refine sM rfl<|sM rfl<|sM rfl<|sV (rB (decide (a0 ≤ a2)))<|sV (rB (decide (a0 ≤ a2)))<|sA rfl<|sN<|qR ?_
  exact oI h▸qD
 refine sM rfl<|k3<|sU<|sA rfl<|sN<|qR ?_
 exact oI h▸qD
theorem nD {a0 : aq} {r : Bool} (h : d6 a0 = some r) : EvP prog aI ext 57 [.d (aq.pd a0)] [] (rB r, []) := by
 refine Ev.body rfl Tryz.func57 rfl (by kernel_rfl)<|gS rfl rfl<|sB (.ptr 16 0) 16 (.var (aq.rc a0))<|sU<|sN<|gS rfl rfl<|sV (.ptr 16 0)<|sV (.d (aJ.pd a0.aH))<|bE h fun x1 hx1 h => py h (fun hb2 h => ?_) (fun hb2 h => ?_)
 ·refine WO.pP (v := rB true) (u := []) rfl rfl (fun _ => rfl) rfl rfl rfl rfl rfl (jQ hx1) rfl rfl (congrArg (fun b => RV.d (.bool b)) hb2) rfl<|sM rfl<|sV (.ptr 16 5)<|sL rfl<|sV (rB (decide (a0.bw ≥ (0 : Int))))<|sF h (fun h => ?_) fun h => ?_
  ·refine sM rfl<|sV (.ptr 16 5)<|sL rfl<|sV (.ptr 16 4)<|sL rfl<|sV (rB (decide (a0.bw ≤ a0.a8)))<|sF h (fun h => ?_) fun h => ?_
   ·refine sM rfl<|sV (.ptr 16 4)<|sL rfl<|sV (.ptr 16 6)<|sL rfl<|sV (rB (decide (a0.a8 ≤ a0.bO)))<|sF h (fun h => ?_) fun h => ?_
    ·refine sM rfl<|sV (.ptr 16 6)<|sL rfl<|sV (rB (decide (a0.bO ≤ (18014398509481984 : Int))))<|sF h (fun h => ?_) fun h => ?_
     ·refine sM rfl<|sV (.ptr 16 7)<|sL rfl<|bE h fun x7 hx7 h => cD (oG hx7)<|sF h (fun h => ?_) fun h => ?_
      ·refine sM rfl<|sV (.ptr 16 8)<|sL rfl<|bE h fun x9 hx9 h => cD (oG hx9)<|sV (rB x9)<|sA rfl<|sN<|qR ?_
       cases oI h
       exact qG
      refine sM rfl<|k3<|sU<|sA rfl<|sN<|qR ?_
      cases oI h
      exact qG
     refine sM rfl<|k3<|sU<|sM rfl<|k3<|sU<|sA rfl<|sN<|qR ?_
     cases oI h
     exact qG
    refine sM rfl<|k3<|sU<|sM rfl<|k3<|sU<|sM rfl<|k3<|sU ?_
    refine sA rfl<|sN<|qR ?_
    cases oI h
    exact qG
   refine sM rfl<|k3<|sK<|sK<|sU<|sM rfl<|k3<|sU<|sM rfl<|sK<|sK ?_
   refine sK<|sU<|sM rfl<|k3<|sU<|sA rfl<|sN<|qR ?_
   cases oI h
   exact qG
  refine sM rfl<|k3<|sK<|sK<|sU<|sM rfl<|k3<|sK<|sK<|sU<|sM rfl ?_
  refine k3<|sU<|sM rfl<|k3<|sU<|sM rfl<|k3<|sU<|sA rfl ?_
  refine sN<|qR ?_
  cases oI h
  exact qG
 refine WO.pP (v := rB false) (u := []) rfl rfl (fun _ => rfl) rfl rfl rfl rfl rfl (jQ hx1) rfl rfl (congrArg (fun b => RV.d (.bool b)) hb2) rfl<|sM rfl<|k3<|sU<|sM rfl<|k3<|sK<|sK<|sU<|sM rfl<|sK ?_
 refine k3<|sK<|sU<|sM rfl<|k3<|sU<|sM rfl<|k3<|sU ?_
 refine sM rfl<|k3<|sU<|sA rfl<|sN<|qR ?_
 cases oI h
 exact qG
theorem lP {a0 : al} {r : al} (h : c7 a0 = some r) : EvP prog aI ext 160 [.d (al.pd a0)] [] (.d (al.pd r), []) := by
 refine Ev.body rfl Tryz.func160 rfl (by kernel_rfl)<|gS rfl rfl<|sB (.ptr 16 0) 16 (.var (al.rc a0))<|sB (.ptr 32 0) 32 (.var zZ2)<|sN<|gS rfl rfl<|sV (.ptr 16 7)<|sV (.ptr 16 7)<|sL rfl<|bE h fun x1 hx1 h => cR (.ref 112 0) [(112, .arr 0 104 (x1.map aB.pd))] (clone_178 hx1)<|sV (.ptr 16 7)<|sV (.ptr 16 7)<|sS 16 (.var [rI a0.bB, rI a0.fTo, rI a0.cf.bj, rI a0.cf.bh, rI a0.aS.fX, rI a0.aS.fY, rI a0.aS.fZ, .ref 112 0])<|sN ?_
 refine qS<|gS rfl rfl<|sV (.ptr 16 7)<|sV (.ptr 16 7)<|sL rfl<|WO.vR rfl rfl rfl rfl rfl rfl rfl rfl rfl<|sV (r0)<|sN<|bE h fun o16 ho16 h => WC.block (WC.loop (WL.oW ho16 (fun s R' B' => lC prog 0 (A R' B') (aI.at_ 160 0 3) = some (A [(1, .ptr 16 0), (2, .ptr 32 0), (13, rI (x1.length : Int)), (14, rI s.1)] [(16, .var [rI a0.bB, rI a0.fTo, rI a0.cf.bj, rI a0.cf.bh, rI a0.aS.fX, rI a0.aS.fY, rI a0.aS.fZ, .ref 112 0]), (32, .var zZ2), (112, .arr 0 104 (s.2.map aB.pd))])) (fun o e R' B' => e = .exit 0 ∧ lC prog 0 (A R' B') (aI.at_ 160 0 7) = some (A [(1, .ptr 16 0), (2, .ptr 32 0)] [(16, .var [rI a0.bB, rI a0.fTo, rI a0.cf.bj, rI a0.cf.bh, rI a0.aS.fX, rI a0.aS.fY, rI a0.aS.fZ, .ref 112 0]), (32, .var zZ2), (112, .arr 0 104 (o.map aB.pd))])) rfl ?_ ?_))
 ·rintro ⟨s2, s3⟩ R' B' q5 hI h
  refine gS rfl hI<|sF h (fun h => ?_) fun h => ?_
  ·refine sN<|qS<|cT<|qK<|qS<|qB<|gS rfl rfl<|sM rfl<|sA rfl<|sN<|WC.pQ rfl rfl<|sV (.ptr 16 7)<|sV (.ptr 16 7)<|sL rfl<|sM rfl ?_
   refine sV (.ptr 16 7)<|sV (.ptr 16 7)<|sL rfl<|sM rfl<|bE h fun x8 hx8 h => WO.qo hx8 rfl rfl rfl rfl rfl rfl rfl rfl<|sV (.elt 112 0 (s2).toNat 7)<|bE h fun x9 hx9 h => WO.p7 hx9 rfl rfl rfl rfl rfl rfl<|bE h fun x10 hx10 h => cR (.ref 448 0) [(448, .arr 0 3 (x10.map (PD.int .i64)))] (clone_37 hx10)<|bE h fun x12 hx12 h => WO.qo hx12 rfl rfl rfl rfl rfl rfl rfl rfl<|sV (.elt 112 0 (s2).toNat 7)<|bE h fun x13 hx13 h => ?_
   refine WO.yT (g := aB.pd) (u := [(448, .dead)]) (sz := 1) hx13 (fun _ => rfl) (fun _ => Nat.le_of_ble_eq_true rfl) rfl rfl rfl rfl rfl rfl rfl rfl rfl rfl rfl ?_
   refine sN<|sO<|WC.region rfl rfl<|sV (rI (rW (s2 + (1 : Int))))<|sM rfl<|sN ?_
   cases oI h
   exact ⟨rfl, rfl⟩
  refine sN<|qS<|cF<|qX ?_
  cases oI h
  exact ⟨nofun, rfl, rfl⟩
 intro e R' B' he hq
 obtain ⟨rfl, hI⟩ := hq
 refine qE<|gS rfl hI<|sV (.agg [rI a0.bB, rI a0.fTo, rI a0.cf.bj, rI a0.cf.bh, rI a0.aS.fX, rI a0.aS.fY, rI a0.aS.fZ, .ref 112 0])<|sH 32 (.var [rI a0.bB, rI a0.fTo, rI a0.cf.bj, rI a0.cf.bh, rI a0.aS.fX, rI a0.aS.fY, rI a0.aS.fZ, .ref 112 0])<|sN<|qR ?_
 cases oI h
 exact qG
theorem nu {a0 : ap} {r : ap} (h : d4 a0 = some r) : EvP prog aI ext 123 [.d (ap.pd a0)] [] (.d (ap.pd r), []) := by
 refine Ev.body rfl Tryz.func123 rfl (by kernel_rfl)<|gS rfl rfl<|sB (.ptr 16 0) 16 (.var (ap.rc a0))<|sB (.ptr 32 0) 32 (.var [rS [], rS [], rS [], rS [], .hY])<|sN<|gS rfl rfl<|sV (.ptr 16 4)<|sL rfl<|bE h fun x1 hx1 h => cR (.ref 112 0) [(112, .arr 0 71 (x1.map al.pd))] (clone_159 hx1)<|sV (.ptr 16 4)<|sS 16 (.var [rS a0.aH.aV, rS a0.aH.aL, rS a0.aH.ar, rS a0.aH.aX, .ref 112 0])<|sN<|qS<|gS rfl rfl ?_
 refine sV (.ptr 16 4)<|sL rfl<|WO.vR rfl rfl rfl rfl rfl rfl rfl rfl rfl<|sV (r0)<|sN<|bE h fun o15 ho15 h => WC.block (WC.loop (WL.oW ho15 (fun s R' B' => lC prog 0 (A R' B') (aI.at_ 123 0 3) = some (A [(1, .ptr 16 0), (2, .ptr 32 0), (10, .ref 112 0), (11, rI (x1.length : Int)), (12, rI s.1)] [(16, .var [rS a0.aH.aV, rS a0.aH.aL, rS a0.aH.ar, rS a0.aH.aX, .ref 112 0]), (32, .var [rS [], rS [], rS [], rS [], .hY]), (112, .arr 0 71 (s.2.map al.pd))])) (fun o e R' B' => e = .exit 0 ∧ lC prog 0 (A R' B') (aI.at_ 123 0 7) = some (A [(1, .ptr 16 0), (2, .ptr 32 0)] [(16, .var [rS a0.aH.aV, rS a0.aH.aL, rS a0.aH.ar, rS a0.aH.aX, .ref 112 0]), (32, .var [rS [], rS [], rS [], rS [], .hY]), (112, .arr 0 71 (o.map al.pd))])) rfl ?_ ?_))
 ·rintro ⟨s2, s3⟩ R' B' q5 hI h
  refine gS rfl hI<|sF h (fun h => ?_) fun h => ?_
  ·refine sN<|qS<|cT<|qK<|qS<|qB<|gS rfl rfl<|sM rfl<|bE h fun x8 hx8 h => WO.qo hx8 rfl rfl rfl rfl rfl rfl rfl rfl<|bE h fun x9 hx9 h => WO.p7 hx9 rfl rfl rfl rfl rfl rfl<|sB (.ptr 64 0) 64 (.var zZ2)<|sA rfl<|sH 64 (.var (al.rc x9)) ?_
   refine sN<|WC.pQ rfl rfl<|sV (.ptr 16 4)<|sL rfl<|sM rfl<|sV (.d (al.pd x9))<|bE h fun x10 hx10 h => cD (lP hx10)<|bE h fun x12 hx12 h => WO.qo hx12 rfl rfl rfl rfl rfl rfl rfl rfl<|bE h fun x13 hx13 h => WO.tV (g := al.pd) (sz := 8) (p := al.pd x10) hx13 (by intro _; kernel_rfl) (by intro _; kernel_rfl) rfl rfl rfl rfl rfl rfl rfl rfl rfl ?_
   refine sN<|sO<|WC.region rfl rfl<|sV (rI (rW (s2 + (1 : Int))))<|sM rfl<|sN ?_
   cases oI h
   exact ⟨rfl, rfl⟩
  refine sN<|qS<|cF<|qX ?_
  cases oI h
  exact ⟨nofun, rfl, rfl⟩
 intro e R' B' he hq
 obtain ⟨rfl, hI⟩ := hq
 refine qE<|gS rfl hI<|sV (.agg [rS a0.aH.aV, rS a0.aH.aL, rS a0.aH.ar, rS a0.aH.aX, .ref 112 0])<|sS 32 (.var [rS a0.aH.aV, rS a0.aH.aL, rS a0.aH.ar, rS a0.aH.aX, .ref 112 0])<|sN<|qR ?_
 exact oI h▸qD
theorem oA {a0 : aC} {a1 : aJ} {r : ap × Bool} (h : eZ a0 a1 = some r) : EvP prog aI ext 88 [.d (aC.pd a0), .d (aJ.pd a1)] [] (.tup [.d (ap.pd r.1), rB r.2], []) := by
 refine Ev.body rfl Tryz.func88 rfl (by kernel_rfl)<|gS rfl rfl<|sB (.ptr 32 0) 32 (.var [.d (.lst (a0.aO.map ap.pd))])<|sB (.ptr 48 0) 48 (.var [rS a1.aV, rS a1.aL, rS a1.ar, rS a1.aX])<|sB (.ptr 64 0) 64 (.var [rS [], rS [], rS [], rS [], .hY])<|sU<|sN<|qS<|gS rfl rfl<|sV (.ptr 32 0)<|sL rfl<|sE (rI (a0.aO.length : Int)) (oQ _ _)<|sV (r0)<|sN<|bE h fun o8 ho8 h => ?_
 refine WC.block (WC.loop (WL.oW ho8 (fun s R' B' => lC prog 0 (A R' B') (aI.at_ 88 0 2) = some (A [(3, .ptr 48 0), (4, .ptr 64 0), (9, .d (.lst (a0.aO.map ap.pd))), (10, rI (a0.aO.length : Int)), (11, rI s)] [(48, .var [rS a1.aV, rS a1.aL, rS a1.ar, rS a1.aX]), (64, .var [rS [], rS [], rS [], rS [], .hY])])) (fun o e R' B' => match o with | .inl y => e = .exit 0 ∧ lC prog 0 (A R' B') (aI.at_ 88 0 7) = some (A [(4, .ptr 64 0)] [(64, .var [rS [], rS [], rS [], rS [], .hY])]) | .inr r => e = .ret ∧ finish prog (aI.own 88) Tryz.f88 0 (A R' B') = some (.tup [.d (ap.pd r.1), rB r.2], [])) rfl ?_ ?_))
 ·rintro s1 R' B' q2 hI h
  refine gS rfl hI<|sF h (fun h => ?_) fun h => ?_
  ·refine sN<|qS<|cT<|qK<|qS<|qB<|gS rfl rfl<|bE h fun x4 hx4 h => eG hx4 rfl<|sV (.d (.agg [.str x4.aH.aV, .str x4.aH.aL, .str x4.aH.ar, .str x4.aH.aX, .lst (x4.ba.map al.pd)]))<|sB (.ptr 112 0) 112 (.var [rS [], rS [], rS [], rS [], .hY])<|sS 112 (.var (ap.rc x4))<|sN<|gS rfl rfl<|sV (.ptr 112 0) ?_
   refine sV (.d (aJ.pd x4.aH))<|sV (.d (aJ.pd a1))<|py h (fun hb5 h => ?_) (fun hb5 h => ?_)
   ·refine WO.uM (eqE_46 x4.aH a1) hb5 rfl rfl rfl rfl rfl<|sN<|cT<|gS rfl rfl<|sV (.d (.agg [.str x4.aH.aV, .str x4.aH.aL, .str x4.aH.ar, .str x4.aH.aX, .lst (x4.ba.map al.pd)]))<|bE h fun x6 hx6 h => cD (nu hx6)<|sS 64 (.var (ap.rc x6))<|sT<|sN<|qR ?_
    cases oI h
    exact ⟨nofun, rfl, rfl⟩
   refine WO.uM (eqE_46 x4.aH a1) hb5 rfl rfl rfl rfl rfl<|sN<|cF<|qK<|WC.region rfl rfl<|sV (rI (rW (s1 + (1 : Int))))<|sM rfl<|sN ?_
   cases oI h
   exact ⟨rfl, rfl⟩
  refine sN<|qS<|cF<|qX ?_
  cases oI h
  exact ⟨nofun, rfl, rfl⟩
 intro e R' B' he hq
 rcases o8 with y9 | r10
 ·obtain ⟨rfl, hI⟩ := hq
  refine qE<|gS rfl hI<|sV (.agg [rS [], rS [], rS [], rS [], .hY])<|sS 64 (.var [rS [], rS [], rS [], rS [], .hY])<|sU<|sN<|qR ?_
  exact oI h▸qD
 obtain ⟨rfl, hf⟩ := hq
 cases oI h
 exact hf
theorem inventory_at_ev {a0 : ap} {a1 : Int} {r : al × Bool} (h : gt a0 a1 = some r) : EvP prog aI ext 89 [.d (ap.pd a0), rI a1] [] (.tup [.d (al.pd r.1), rB r.2], []) := by
 refine Ev.body rfl Tryz.func89 rfl (by kernel_rfl)<|gS rfl rfl<|sB (.ptr 32 0) 32 (.var (ap.rc a0))<|sB (.ptr 64 0) 64 (.var zZ2)<|sU<|sN<|qS<|gS rfl rfl<|sV (.ptr 32 4)<|sL rfl<|sE (rI (a0.ba.length : Int)) (oQ _ _)<|sV (r0)<|sN<|bE h fun o8 ho8 h => WC.block (WC.loop (WL.oW ho8 (fun s R' B' => lC prog 0 (A R' B') (aI.at_ 89 0 2) = some (A [(1, rI a1), (4, .ptr 64 0), (9, .d (.lst (a0.ba.map al.pd))), (10, rI (a0.ba.length : Int)), (11, rI s)] [(64, .var zZ2)])) (fun o e R' B' => match o with | .inl y => e = .exit 0 ∧ lC prog 0 (A R' B') (aI.at_ 89 0 7) = some (A [(4, .ptr 64 0)] [(64, .var zZ2)]) | .inr r => e = .ret ∧ finish prog (aI.own 89) Tryz.f89 0 (A R' B') = some (.tup [.d (al.pd r.1), rB r.2], [])) rfl ?_ ?_))
 ·rintro s1 R' B' q2 hI h
  refine gS rfl hI<|sF h (fun h => ?_) fun h => ?_
  ·refine sN<|qS<|cT<|qK<|qS<|qB<|gS rfl rfl<|bE h fun x4 hx4 h => eG hx4 rfl<|sV (.d (al.pd x4))<|sB (.ptr 112 0) 112 (.var zZ2)<|sH 112 (.var (al.rc x4))<|sN<|gS rfl rfl<|sV (.ptr 112 0) ?_
   refine sL rfl<|sM rfl<|sF h (fun h => ?_) fun h => ?_
   ·refine sM rfl<|sM rfl<|sV (.ptr 112 1)<|sL rfl<|sV (rB (decide (a1 < x4.fTo)))<|sF h (fun h => ?_) fun h => ?_
    ·refine sN<|cT<|gS rfl rfl<|sV (.d (al.pd x4))<|sH 64 (.var (al.rc x4))<|sT<|sN<|qR ?_
     cases oI h
     exact ⟨nofun, rfl, rfl⟩
    refine sN<|cF<|qK<|WC.region rfl rfl<|sV (rI (rW (s1 + (1 : Int))))<|sM rfl<|sN ?_
    cases oI h
    exact ⟨rfl, rfl⟩
   refine sM rfl<|k3<|sK<|sU<|sN<|cF<|qK<|WC.region rfl rfl<|sV (rI (rW (s1 + (1 : Int))))<|sM rfl<|sN ?_
   cases oI h
   exact ⟨rfl, rfl⟩
  refine sN<|qS<|cF<|qX ?_
  cases oI h
  exact ⟨nofun, rfl, rfl⟩
 intro e R' B' he hq
 rcases o8 with y9 | r10
 ·obtain ⟨rfl, hI⟩ := hq
  refine qE<|gS rfl hI<|sG (.agg zZ2)<|sH 64 (.var zZ2)<|sU<|sN<|qR ?_
  cases oI h
  exact qG
 obtain ⟨rfl, hf⟩ := hq
 cases oI h
 exact hf
theorem inventory_At_ev {a0 : aC} {a1 : aJ} {a2 : Int} {r : al × Int} (h : gr a0 a1 a2 = some r) : EvP prog aI ext 58 [.d (aC.pd a0), .d (aJ.pd a1), rI a2] [] (.tup [.d (al.pd r.1), rI r.2], []) := by
 refine Ev.body rfl Tryz.func58 rfl (by kernel_rfl)<|gS rfl rfl<|sB (.ptr 48 0) 48 (.var [.d (.lst (a0.aO.map ap.pd))])<|sB (.ptr 64 0) 64 (.var [rS a1.aV, rS a1.aL, rS a1.ar, rS a1.aX])<|sB (.ptr 96 0) 96 (.var zZ2)<|sV (r0)<|sN<|qS<|gS rfl rfl<|sV (.d (aC.pd a0))<|bE h fun x1 hx1 h => cD (kz hx1)<|sF h (fun h => ?_) fun h => ?_
 ·refine sN<|cT<|gS rfl rfl<|sG (.agg zZ2)<|sH 96 (.var zZ2)<|sV (rI 1)<|sN<|qR ?_
  cases oI h
  exact qG
 refine sN<|cF<|qK<|gS rfl rfl<|sV (.d (aC.pd a0))<|sV (.d (aJ.pd a1))<|bE h fun x3 hx3 h => cR (.tup [.d (ap.pd x3.1), rB x3.2]) [] (oA hx3)<|sM rfl<|sV (.d (ap.pd x3.1))<|sV (rB x3.2)<|sB (.ptr 128 0) 128 (.var [rS [], rS [], rS [], rS [], .hY])<|sS 128 (.var (ap.rc x3.1))<|sA rfl<|sN ?_
 refine gS rfl rfl<|sV (.d (.agg [.str x3.1.aH.aV, .str x3.1.aH.aL, .str x3.1.aH.ar, .str x3.1.aH.aX, .lst (x3.1.ba.map al.pd)]))<|sM rfl<|bE h fun x4 hx4 h => cR (.tup [.d (al.pd x4.1), rB x4.2]) [] (inventory_at_ev hx4)<|sM rfl<|sV (.d (al.pd x4.1))<|sV (rB x4.2)<|sB (.ptr 160 0) 160 (.var zZ2)<|sH 160 (.var (al.rc x4.1))<|sA rfl<|sN<|qS<|gS rfl rfl<|sM rfl ?_
 refine sF h (fun h => ?_) fun h => ?_
 ·refine sN<|cT<|gS rfl rfl<|sG (.agg zZ2)<|sH 96 (.var zZ2)<|sV (rI 6)<|sN<|qR ?_
  cases oI h
  exact qG
 refine sN<|cF<|qK<|gS rfl rfl<|sV (.d (.agg [.int .i64 x4.1.bB, .int .i64 x4.1.fTo, .int .i64 x4.1.cf.bj, .int .i64 x4.1.cf.bh, .int .i64 x4.1.aS.fX, .int .i64 x4.1.aS.fY, .int .i64 x4.1.aS.fZ, .lst (x4.1.bi.bo.map aB.pd)]))<|sH 96 (.var (al.rc x4.1))<|sV (r0)<|sN<|qR ?_
 cases oI h
 exact qG
end Go.Dw.So
