
import Derived.Test.YtoplbomkhkbklaaGreatDwLift4
import Derived.Test.YtoplbomkhkbklaaGreatDwSortP



namespace Go.Dw.So
open Go.Dw
noncomputable section

structure aj where
  fL : (List Int)
  fAt : Int
  deriving DecidableEq
def aj.pd (x : aj) : PD := .agg [.lst (x.fL.map (PD.int .i64)), .int .i64 x.fAt]
structure aa where
  fX : Int
  fY : Int
  fZ : Int
  deriving DecidableEq
def aa.pd (x : aa) : PD := .agg [.int .i64 x.fX, .int .i64 x.fY, .int .i64 x.fZ]
structure ai where
  ak : aa
  ae : aa
  deriving DecidableEq
def ai.pd (x : ai) : PD := .agg [.int .i64 x.ak.fX, .int .i64 x.ak.fY, .int .i64 x.ak.fZ, .int .i64 x.ae.fX, .int .i64 x.ae.fY, .int .i64 x.ae.fZ]
structure aK where
  aU : Int
  ak : (List Int)
  ae : (List Int)
  deriving DecidableEq
def aK.pd (x : aK) : PD := .agg [.int .i64 x.aU, .lst (x.ak.map (PD.int .i64)), .lst (x.ae.map (PD.int .i64))]
structure bf where
  ac : ai
  az : aK
  bG : Int
  bc : Int
  gJ : Int
  eR : Int
  eQ : Int
  deriving DecidableEq
def bf.pd (x : bf) : PD := .agg [.int .i64 x.ac.ak.fX, .int .i64 x.ac.ak.fY, .int .i64 x.ac.ak.fZ, .int .i64 x.ac.ae.fX, .int .i64 x.ac.ae.fY, .int .i64 x.ac.ae.fZ, .int .i64 x.az.aU, .lst (x.az.ak.map (PD.int .i64)), .lst (x.az.ae.map (PD.int .i64)), .int .i64 x.bG, .int .i64 x.bc, .int .i64 x.gJ, .int .i64 x.eR, .int .i64 x.eQ]
structure bt where
  aZ : aK
  bj : Int
  bh : Int
  deriving DecidableEq
def bt.pd (x : bt) : PD := .agg [.int .i64 x.aZ.aU, .lst (x.aZ.ak.map (PD.int .i64)), .lst (x.aZ.ae.map (PD.int .i64)), .int .i64 x.bj, .int .i64 x.bh]
structure aG where
  ag : bf
  bn : bt
  bc : Int
  deriving DecidableEq
def aG.pd (x : aG) : PD := .agg [.int .i64 x.ag.ac.ak.fX, .int .i64 x.ag.ac.ak.fY, .int .i64 x.ag.ac.ak.fZ, .int .i64 x.ag.ac.ae.fX, .int .i64 x.ag.ac.ae.fY, .int .i64 x.ag.ac.ae.fZ, .int .i64 x.ag.az.aU, .lst (x.ag.az.ak.map (PD.int .i64)), .lst (x.ag.az.ae.map (PD.int .i64)), .int .i64 x.ag.bG, .int .i64 x.ag.bc, .int .i64 x.ag.gJ, .int .i64 x.ag.eR, .int .i64 x.ag.eQ, .int .i64 x.bn.aZ.aU, .lst (x.bn.aZ.ak.map (PD.int .i64)), .lst (x.bn.aZ.ae.map (PD.int .i64)), .int .i64 x.bn.bj, .int .i64 x.bn.bh, .int .i64 x.bc]
structure aJ where
  aV : (List UInt8)
  aL : (List UInt8)
  ar : (List UInt8)
  aX : (List UInt8)
  deriving DecidableEq
def aJ.pd (x : aJ) : PD := .agg [.str x.aV, .str x.aL, .str x.ar, .str x.aX]
structure bg where
  bj : Int
  bh : Int
  deriving DecidableEq
def bg.pd (x : bg) : PD := .agg [.int .i64 x.bj, .int .i64 x.bh]
structure aW where
  a0 : Int
  a1 : Int
  a2 : Int
  deriving DecidableEq
def aW.pd (x : aW) : PD := .agg [.int .i64 x.a0, .int .i64 x.a1, .int .i64 x.a2]
structure aB where
  ep : Int
  bj : aW
  bh : aW
  cN : (List Int)
  co : Int
  cM : Int
  deriving DecidableEq
def aB.pd (x : aB) : PD := .agg [.int .i64 x.ep, .int .i64 x.bj.a0, .int .i64 x.bj.a1, .int .i64 x.bj.a2, .int .i64 x.bh.a0, .int .i64 x.bh.a1, .int .i64 x.bh.a2, .lst (x.cN.map (PD.int .i64)), .int .i64 x.co, .int .i64 x.cM]
structure aM where
  bo : (List aB)
  deriving DecidableEq
def aM.pd (x : aM) : PD := .agg [.lst (x.bo.map aB.pd)]
structure al where
  bB : Int
  fTo : Int
  cf : bg
  aS : aa
  bi : aM
  deriving DecidableEq
def al.pd (x : al) : PD := .agg [.int .i64 x.bB, .int .i64 x.fTo, .int .i64 x.cf.bj, .int .i64 x.cf.bh, .int .i64 x.aS.fX, .int .i64 x.aS.fY, .int .i64 x.aS.fZ, .lst (x.bi.bo.map aB.pd)]
structure ap where
  aH : aJ
  ba : (List al)
  deriving DecidableEq
def ap.pd (x : ap) : PD := .agg [.str x.aH.aV, .str x.aH.aL, .str x.aH.ar, .str x.aH.aX, .lst (x.ba.map al.pd)]
structure aC where
  aO : (List ap)
  deriving DecidableEq
def aC.pd (x : aC) : PD := .agg [.lst (x.aO.map ap.pd)]
structure aq where
  aH : aJ
  a8 : Int
  bw : Int
  bO : Int
  bp : Int
  bI : Int
  deriving DecidableEq
def aq.pd (x : aq) : PD := .agg [.str x.aH.aV, .str x.aH.aL, .str x.aH.ar, .str x.aH.aX, .int .i64 x.a8, .int .i64 x.bw, .int .i64 x.bO, .int .i64 x.bp, .int .i64 x.bI]
structure aF where
  aD : aa
  a8 : Int
  aT : Int
  bd : Int
  au : ai
  deriving DecidableEq
def aF.pd (x : aF) : PD := .agg [.int .i64 x.aD.fX, .int .i64 x.aD.fY, .int .i64 x.aD.fZ, .int .i64 x.a8, .int .i64 x.aT, .int .i64 x.bd, .int .i64 x.au.ak.fX, .int .i64 x.au.ak.fY, .int .i64 x.au.ak.fZ, .int .i64 x.au.ae.fX, .int .i64 x.au.ae.fY, .int .i64 x.au.ae.fZ]
structure aA where
  ak : Int
  ae : Int
  deriving DecidableEq
def aA.pd (x : aA) : PD := .agg [.int .i64 x.ak, .int .i64 x.ae]
structure aQ where
  fm : (List aq)
  ar : aF
  bL : aA
  iu : Int
  deriving DecidableEq
def aQ.pd (x : aQ) : PD := .agg [.lst (x.fm.map aq.pd), .int .i64 x.ar.aD.fX, .int .i64 x.ar.aD.fY, .int .i64 x.ar.aD.fZ, .int .i64 x.ar.a8, .int .i64 x.ar.aT, .int .i64 x.ar.bd, .int .i64 x.ar.au.ak.fX, .int .i64 x.ar.au.ak.fY, .int .i64 x.ar.au.ak.fZ, .int .i64 x.ar.au.ae.fX, .int .i64 x.ar.au.ae.fY, .int .i64 x.ar.au.ae.fZ, .int .i64 x.bL.ak, .int .i64 x.bL.ae, .int .i64 x.iu]
structure av where
  aL : aa
  bw : Int
  bO : Int
  gn : Int
  deriving DecidableEq
def av.pd (x : av) : PD := .agg [.int .i64 x.aL.fX, .int .i64 x.aL.fY, .int .i64 x.aL.fZ, .int .i64 x.bw, .int .i64 x.bO, .int .i64 x.gn]
structure a7 where
  cg : (List aq)
  b8 : (List av)
  ez : (List al)
  deriving DecidableEq
def a7.pd (x : a7) : PD := .agg [.lst (x.cg.map aq.pd), .lst (x.b8.map av.pd), .lst (x.ez.map al.pd)]
structure aN where
  bB : Int
  fTo : Int
  deriving DecidableEq
def aN.pd (x : aN) : PD := .agg [.int .i64 x.bB, .int .i64 x.fTo]
structure aw where
  ac : ai
  az : aK
  aY : (List av)
  bG : Int
  deriving DecidableEq
def aw.pd (x : aw) : PD := .agg [.int .i64 x.ac.ak.fX, .int .i64 x.ac.ak.fY, .int .i64 x.ac.ak.fZ, .int .i64 x.ac.ae.fX, .int .i64 x.ac.ae.fY, .int .i64 x.ac.ae.fZ, .int .i64 x.az.aU, .lst (x.az.ak.map (PD.int .i64)), .lst (x.az.ae.map (PD.int .i64)), .lst (x.aY.map av.pd), .int .i64 x.bG]
structure ah where
  jZ : ai
  dt : Int
  fo : Int
  deriving DecidableEq
def ah.pd (x : ah) : PD := .agg [.int .i64 x.jZ.ak.fX, .int .i64 x.jZ.ak.fY, .int .i64 x.jZ.ak.fZ, .int .i64 x.jZ.ae.fX, .int .i64 x.jZ.ae.fY, .int .i64 x.jZ.ae.fZ, .int .i64 x.dt, .int .i64 x.fo]
structure bD where
  fp : aw
  mC : (List ah)
  fo : Int
  ftaken : Int
  ffound : Bool
  br : aF
  deriving DecidableEq
def bD.pd (x : bD) : PD := .agg [.int .i64 x.fp.ac.ak.fX, .int .i64 x.fp.ac.ak.fY, .int .i64 x.fp.ac.ak.fZ, .int .i64 x.fp.ac.ae.fX, .int .i64 x.fp.ac.ae.fY, .int .i64 x.fp.ac.ae.fZ, .int .i64 x.fp.az.aU, .lst (x.fp.az.ak.map (PD.int .i64)), .lst (x.fp.az.ae.map (PD.int .i64)), .lst (x.fp.aY.map av.pd), .int .i64 x.fp.bG, .lst (x.mC.map ah.pd), .int .i64 x.fo, .int .i64 x.ftaken, .bool x.ffound, .int .i64 x.br.aD.fX, .int .i64 x.br.aD.fY, .int .i64 x.br.aD.fZ, .int .i64 x.br.a8, .int .i64 x.br.aT, .int .i64 x.br.bd, .int .i64 x.br.au.ak.fX, .int .i64 x.br.au.ak.fY, .int .i64 x.br.au.ak.fZ, .int .i64 x.br.au.ae.fX, .int .i64 x.br.au.ae.fY, .int .i64 x.br.au.ae.fZ]
structure aP where
  bj : (List Int)
  bh : (List Int)
  deriving DecidableEq
def aP.pd (x : aP) : PD := .agg [.lst (x.bj.map (PD.int .i64)), .lst (x.bh.map (PD.int .i64))]

def iz (a0 : (List Int)) : Option (aj) :=
  (cutO a0 0 (if 2000 < (a0.length : Int) then 2000 else (a0.length : Int))).bind fun x1 => some (aj.mk x1 0)
def m7 (d0 : aj) : Option (Int × aj) :=
  if (decide (d0.fAt ≥ (d0.fL.length : Int))) = true then (some (0, d0)) else ((oT d0.fL (IntKind.wrap .i64 ((IntKind.wrap .i64 (d0.fAt + 1)) - 1))).bind fun x2 => some (x2, (aj.mk d0.fL (IntKind.wrap .i64 (d0.fAt + 1)))))
def jt (a0 : Int) (a1 : Int) : Option (Int) :=
  if (decide (a1 < 1)) = true then (some 0) else ((vj a0 a1).bind fun x2 => if (decide (x2 < 0)) = true then (some (IntKind.wrap .i64 (x2 + a1))) else (some x2))
def cr (a1 : Int) (d0 : aj) : Option (Int × aj) :=
  (m7 d0).bind fun x1 => (jt x1.1 a1).bind fun x2 => some (x2, x1.2)
def gj (a1 : Int) (d0 : aj) : Option (aa × aj) :=
  (cr (IntKind.wrap .i64 ((IntKind.wrap .i64 (2 * a1)) + 1)) d0).bind fun x1 => (cr (IntKind.wrap .i64 ((IntKind.wrap .i64 (2 * a1)) + 1)) x1.2).bind fun x2 => (cr (IntKind.wrap .i64 (a1 + 1)) x2.2).bind fun x3 => some ((aa.mk (IntKind.wrap .i64 (x1.1 - a1)) (IntKind.wrap .i64 (x2.1 - a1)) x3.1), x3.2)
def kT (a1 : Int) (a2 : Int) (d0 : aj) : Option (ai × aj) :=
  (gj a1 d0).bind fun x1 => (cr (IntKind.wrap .i64 (a2 + 1)) x1.2).bind fun x2 => (cr (IntKind.wrap .i64 (a2 + 1)) x2.2).bind fun x3 => (cr (IntKind.wrap .i64 (a2 + 1)) x3.2).bind fun x4 => some ((ai.mk x1.1 (aa.mk (IntKind.wrap .i64 (x1.1.fX + x2.1)) (IntKind.wrap .i64 (x1.1.fY + x3.1)) (IntKind.wrap .i64 (x1.1.fZ + x4.1)))), x4.2)
def dJ (a1 : (List Int)) (d0 : aj) : Option (Int × aj) :=
  (cr (a1.length : Int) d0).bind fun x1 => (oT a1 x1.1).bind fun x2 => some (x2, x1.2)
def fJ (x1 : Int × aj) : (Int × Int × Int × (List Int) × Int × (List Int) × (List Int)) → Option (oP (Int × Int × Int × (List Int) × Int × (List Int) × (List Int)) ((List Int) × Int × (List Int) × (List Int))) := fun (s3, s4, s5, s6, s7, s8, s9) =>
  (qd .i64 400 x1.1).bind fun x15 => (cr 3 (aj.mk s6 s7)).bind fun x16 => if (decide (s5 ≤ (IntKind.wrap .i64 (x15 + x16.1)))) = true then ((pS s8 [s3] 8).bind fun x18 => (pS s9 [s4] 8).bind fun x19 => (dJ [0, 10, 20, 35] x16.2).bind fun x20 => (qd .i64 x1.1 4).bind fun x21 => (dJ [0, 0, 5, 30] x20.2).bind fun x22 => some (.next ((IntKind.wrap .i64 (s3 + (IntKind.wrap .i64 (x20.1 + x21)))), (IntKind.wrap .i64 ((if (IntKind.wrap .i64 (s3 + (IntKind.wrap .i64 (x20.1 + x21)))) > s4 then (IntKind.wrap .i64 (s3 + (IntKind.wrap .i64 (x20.1 + x21)))) else s4) + x22.1)), (IntKind.wrap .i64 (s5 + 1)), x22.2.fL, x22.2.fAt, x18, x19))) else (some (.stop (x16.2.fL, x16.2.fAt, s8, s9)))
def gl (d0 : aj) : Option (aK × aj) :=
  (dJ [20, 25, 40, 100] d0).bind fun x1 => (cr 3 x1.2).bind fun x2 => (e8 (fJ x1) (0, x2.1, 0, x2.2.fL, x2.2.fAt, ([] : (List Int)), ([] : (List Int)))).bind fun o24 => some ((aK.mk x1.1 o24.2.2.1 o24.2.2.2), (aj.mk o24.1 o24.2.1))
def c9 (a1 : Int) (d0 : aj) : Option (bf × aj) :=
  (kT 20 a1 d0).bind fun x1 => (gl x1.2).bind fun x2 => (dJ [10, 50, 200] x2.2).bind fun x3 => (dJ [0, 0, 10, 40] x3.2).bind fun x4 => (dJ [0, 50, 200, 400] x4.2).bind fun x5 => (dJ [0, 5, 20] x5.2).bind fun x6 => (cr 2 x6.2).bind fun x7 => some ((bf.mk x1.1 x2.1 x3.1 x4.1 x5.1 x6.1 (IntKind.wrap .i64 (2 + x7.1))), x7.2)
def gF (x1 : aK × aj) : (Int × (List Int) × (List Int)) → Option (oP (Int × (List Int) × (List Int)) ((List Int) × (List Int))) := fun (s4, s5, s6) =>
  if (decide (s4 < (x1.1.ak.length : Int))) = true then ((inO s5 s4).bind fun _ => (oT s5 s4).bind fun x13 => (qd .i64 x13 3).bind fun x14 => (inO s6 s4).bind fun _ => (oT s6 s4).bind fun x17 => (qd .i64 x17 3).bind fun x18 => (inO s5 s4).bind fun _ => (tg s5 s4 x14).bind fun x21 => (inO s6 s4).bind fun _ => (tg s6 s4 x18).bind fun x24 => some (.next ((IntKind.wrap .i64 (s4 + 1)), x21, x24))) else (some (.stop (s5, s6)))
def ia (d0 : aj) : Option (bt × aj) :=
  (gl d0).bind fun x1 => (cr 20 x1.2).bind fun x2 => (cr 9 x2.2).bind fun x3 => (e8 (gF x1) (0, x1.1.ak, x1.1.ae)).bind fun o26 => some ((bt.mk (aK.mk x1.1.aU o26.1 o26.2) x2.1 (IntKind.wrap .i64 (1 + x3.1))), x3.2)
def cK (a1 : Int) (d0 : aj) : Option (aG × aj) :=
  (c9 a1 d0).bind fun x1 => (ia x1.2).bind fun x2 => (dJ [0, 0, 10, 40] x2.2).bind fun x3 => some ((aG.mk x1.1 x2.1 x3.1), x3.2)
def eV  : (Int × (List Int) × Int × (List aB)) → Option (oP (Int × (List Int) × Int × (List aB)) ((List Int) × Int × (List aB))) := fun (s2, s3, s4, s5) =>
  if (decide (s2 > 0)) = true then ((cr 3 (aj.mk s3 s4)).bind fun x11 => if (x11.1 == 0) = true then ((dJ [0, 1, 9, 99, 1048575] x11.2).bind fun x13 => (dJ [0, 0, 2, 9, 999] x13.2).bind fun x14 => (pS s5 [(aB.mk x11.1 (aW.mk (IntKind.wrap .i64 (1 + x13.1)) 0 0) (aW.mk (IntKind.wrap .i64 (1 + x14.1)) 0 0) [] 0 0)] 96).bind fun x15 => some (.next ((IntKind.wrap .i64 (s2 - 1)), x14.2.fL, x14.2.fAt, x15))) else (if (x11.1 == 1) = true then ((cr 5 x11.2).bind fun x17 => (cr 7 x17.2).bind fun x18 => (cr 3 x18.2).bind fun x19 => (cr 5 x19.2).bind fun x20 => (cr 7 x20.2).bind fun x21 => (cr 3 x21.2).bind fun x22 => (pS s5 [(aB.mk x11.1 (aW.mk x17.1 (IntKind.wrap .i64 (x18.1 - 3)) (IntKind.wrap .i64 (x19.1 - 1))) (aW.mk (IntKind.wrap .i64 (1 + x20.1)) x21.1 x22.1) [] 0 0)] 96).bind fun x23 => some (.next ((IntKind.wrap .i64 (s2 - 1)), x22.2.fL, x22.2.fAt, x23))) else ((cr 3 x11.2).bind fun x24 => (cr 4 x24.2).bind fun x25 => (pS s5 [(aB.mk x11.1 (aW.mk 0 0 0) (aW.mk 0 0 0) [(IntKind.wrap .i64 (1 + x24.1)), 2, 1] 1 x25.1)] 96).bind fun x26 => some (.next ((IntKind.wrap .i64 (s2 - 1)), x25.2.fL, x25.2.fAt, x26))))) else (some (.stop (s3, s4, s5)))
def dj (d0 : aj) : Option (aM × aj) :=
  (cr 4 d0).bind fun x1 => (e8 (eV) (x1.1, x1.2.fL, x1.2.fAt, ([] : (List aB)))).bind fun o28 => some ((aM.mk o28.2.2), (aj.mk o28.1 o28.2.1))
def dw (a0 : Int) : Option (aJ) :=
  (jt a0 6).bind fun x1 => (oT [[83, 49], [83, 50], [83, 51], [83, 52], [83, 53], [83, 54]] x1).bind fun x2 => some (aJ.mk [65, 66] x2 [48, 48] [66, 72, 90])
def gG (a1 : Int) : (Int × (List Int) × Int × (List ap)) → Option (oP (Int × (List Int) × Int × (List ap)) ((List Int) × Int × (List ap))) := fun (s1, s2, s3, s4) =>
  if (decide (s1 < a1)) = true then (if (decide (s1 < 6)) = true then ((gj 60 (aj.mk s2 s3)).bind fun x11 => (dj x11.2).bind fun x12 => (dw s1).bind fun x13 => (cr 6 x12.2).bind fun x14 => if (x14.1 == 0) = true then ((cr 500 x14.2).bind fun x16 => (gj 60 x16.2).bind fun x17 => (dj x17.2).bind fun x18 => (inO [(al.mk 0 100000 (bg.mk 100 1) x11.1 x12.1)] 0).bind fun _ => (w2 [(al.mk 0 100000 (bg.mk 100 1) x11.1 x12.1)] 0 (fun (z22 : al) => (al.mk z22.bB (IntKind.wrap .i64 (1500 + x16.1)) z22.cf z22.aS z22.bi))).bind fun x21 => (pS x21 [(al.mk (IntKind.wrap .i64 (1500 + x16.1)) 100000 (bg.mk 100 1) x17.1 x18.1)] 80).bind fun x23 => (pS s4 [(ap.mk x13 x23)] 88).bind fun x24 => some (.next ((IntKind.wrap .i64 (s1 + 1)), x18.2.fL, x18.2.fAt, x24))) else (if (x14.1 == 1) = true then ((cr 1500 x14.2).bind fun x26 => (inO [(al.mk 0 100000 (bg.mk 100 1) x11.1 x12.1)] 0).bind fun _ => (w2 [(al.mk 0 100000 (bg.mk 100 1) x11.1 x12.1)] 0 (fun (z30 : al) => (al.mk x26.1 z30.fTo z30.cf z30.aS z30.bi))).bind fun x29 => (pS s4 [(ap.mk x13 x29)] 88).bind fun x31 => some (.next ((IntKind.wrap .i64 (s1 + 1)), x26.2.fL, x26.2.fAt, x31))) else ((pS s4 [(ap.mk x13 [(al.mk 0 100000 (bg.mk 100 1) x11.1 x12.1)])] 88).bind fun x32 => some (.next ((IntKind.wrap .i64 (s1 + 1)), x14.2.fL, x14.2.fAt, x32))))) else (some (.stop (s2, s3, s4)))) else (some (.stop (s2, s3, s4)))
def eW (a1 : Int) (d0 : aj) : Option (aC × aj) :=
  (e8 (gG a1) (0, d0.fL, d0.fAt, ([] : (List ap)))).bind fun o34 => some ((aC.mk o34.2.2), (aj.mk o34.1 o34.2.1))
def kc (a1 : Int) (a2 : Int) (d0 : aj) : Option (Int × aj) :=
  (cr (IntKind.wrap .i64 ((IntKind.wrap .i64 (a2 - a1)) + 1)) d0).bind fun x1 => some ((IntKind.wrap .i64 (a1 + x1.1)), x1.2)
def lx (a1 : ai) (d0 : aj) : Option (aa × aj) :=
  (kc a1.ak.fX a1.ae.fX d0).bind fun x1 => (kc a1.ak.fY a1.ae.fY x1.2).bind fun x2 => (kc a1.ak.fZ a1.ae.fZ x2.2).bind fun x3 => some ((aa.mk x1.1 x2.1 x3.1), x3.2)
def mK (x4 : ap) (a1 : aJ) (a2 : Int) (s1 : Int) : Int → Option (oP (Int) ((Int) ⊕ (aa × Bool))) := fun s5 =>
  if (decide (s5 < (x4.ba.length : Int))) = true then ((oT x4.ba s5).bind fun x9 => if ((x4.aH.aV == a1.aV) && ((x4.aH.aL == a1.aL) && ((x4.aH.ar == a1.ar) && ((x4.aH.aX == a1.aX) && true)))) = true then (if (decide (x9.bB ≤ a2)) = true then (if (decide (a2 < x9.fTo)) = true then (some (.stop (.inr (x9.aS, true)))) else (some (.next (IntKind.wrap .i64 (s5 + 1))))) else (some (.next (IntKind.wrap .i64 (s5 + 1))))) else (some (.next (IntKind.wrap .i64 (s5 + 1))))) else (some (.stop (.inl s1)))
def mL (a0 : aC) (a1 : aJ) (a2 : Int) : Int → Option (oP (Int) ((Unit) ⊕ (aa × Bool))) := fun s1 =>
  if (decide (s1 < (a0.aO.length : Int))) = true then ((oT a0.aO s1).bind fun x4 => (e8 (mK x4 a1 a2 s1) 0).bind fun o14 => match o14 with | .inl y15 => (some (.next (IntKind.wrap .i64 (y15 + 1)))) | .inr r16 => (some (.stop (.inr r16)))) else (some (.stop (.inl ())))
def lT (a0 : aC) (a1 : aJ) (a2 : Int) : Option (aa × Bool) :=
  (e8 (mL a0 a1 a2) 0).bind fun o18 => match o18 with | .inl _ => (some ((aa.mk 0 0 0), false)) | .inr r20 => (some r20)
def ng (a0 : Int) : Option (Int) :=
  some (IntKind.wrap .i64 (a0 * a0))
def eP (x18 : aJ) (x19 : Int × aj) (x20 : Int × aj) (j22 : Int) (j23 : Int) (j24 : (List Int)) (j25 : Int) (j26 : (List aq)) (j27 : Int) (j28 : Int) (j29 : Int) (j30 : Int) : Option (oP (Int × Int × (List Int) × Int × (List aq) × Int × Int × Int) ((List aq) × (List Int) × Int)) :=
  (cr 5 (aj.mk j24 j25)).bind fun x31 => (cr 5 x31.2).bind fun x32 => (pS j26 [(aq.mk x18 (IntKind.wrap .i64 (j30 + x31.1)) j30 (IntKind.wrap .i64 ((IntKind.wrap .i64 (j30 + x31.1)) + x32.1)) x19.1 (IntKind.wrap .i64 (x20.1 - 1)))] 104).bind fun x33 => some (.next (j22, (IntKind.wrap .i64 (j23 - 1)), x32.2.fL, x32.2.fAt, x33, j27, j28, j29))
def lk (x40 : aa × Bool) (s9 : Int) (s10 : Int) (s11 : Int) (s4 : Int) (s5 : Int) (s8 : (List aq)) : Int → Option (oP (Int) (Int × Int × Int × (List aq) × Int × Int × Int)) := fun s42 =>
  (ng (IntKind.wrap .i64 (x40.1.fX - s9))).bind fun x51 => (ng (IntKind.wrap .i64 (x40.1.fY - s10))).bind fun x52 => (ng (IntKind.wrap .i64 (x40.1.fZ - s11))).bind fun x53 => if (decide ((IntKind.wrap .i64 (s42 * s42)) < (IntKind.wrap .i64 ((IntKind.wrap .i64 (x51 + x52)) + x53)))) = true then (some (.next (IntKind.wrap .i64 (s42 + 1)))) else (some (.stop (s4, s5, s42, s8, s9, s10, s11)))
def nH (a1 : aG) (a2 : aC) : (Int × Int × (List Int) × Int × (List aq) × Int × Int × Int) → Option (oP (Int × Int × (List Int) × Int × (List aq) × Int × Int × Int) ((List aq) × (List Int) × Int)) := fun (s4, s5, s6, s7, s8, s9, s10, s11) =>
  if (decide (s5 > 0)) = true then ((cr 6 (aj.mk s6 s7)).bind fun x17 => (dw x17.1).bind fun x18 => (dJ [0, 1, 50, 1000, 1048576] x17.2).bind fun x19 => (cr 3 x19.2).bind fun x20 => (cr 2000 x20.2).bind fun x21 => (cr 6 x21.2).bind fun x35 => if (x35.1 == 0) = true then ((lx a1.ag.ac x35.2).bind fun x37 => (cr 900 x37.2).bind fun x38 => eP x18 x19 x20 (IntKind.wrap .i64 (s4 + x38.1)) s5 x38.2.fL x38.2.fAt s8 x37.1.fX x37.1.fY x37.1.fZ (IntKind.wrap .i64 (1000 + x21.1))) else (if (x35.1 == 1) = true then (eP x18 x19 x20 s4 s5 x35.2.fL x35.2.fAt s8 s9 s10 s11 (IntKind.wrap .i64 (1000 + x21.1))) else ((lT a2 x18 s4).bind fun x40 => if x40.2 = true then ((e8 (lk x40 s9 s10 s11 s4 s5 s8) 0).bind fun o56 => (qd .i64 o56.2.2.1 a1.ag.az.aU).bind fun x57 => (oT a1.ag.az.ak (if (IntKind.wrap .i64 ((a1.ag.az.ak.length : Int) - 1)) < x57 then (IntKind.wrap .i64 ((a1.ag.az.ak.length : Int) - 1)) else x57)).bind fun x58 => (cr 6 x35.2).bind fun x59 => eP x18 x19 x20 o56.1 o56.2.1 x59.2.fL x59.2.fAt o56.2.2.2.1 o56.2.2.2.2.1 o56.2.2.2.2.2.1 o56.2.2.2.2.2.2 (IntKind.wrap .i64 ((IntKind.wrap .i64 (o56.1 + x58)) + x59.1))) else (eP x18 x19 x20 s4 s5 x35.2.fL x35.2.fAt s8 s9 s10 s11 (IntKind.wrap .i64 (1000 + x21.1)))))) else (some (.stop (s8, s6, s7)))
def lw (a1 : aG) (a2 : aC) (a3 : Int) (d0 : aj) : Option ((List aq) × aj) :=
  (lx a1.ag.ac d0).bind fun x1 => (cr 500 x1.2).bind fun x2 => (cr (IntKind.wrap .i64 (a3 + 1)) x2.2).bind fun x3 => (e8 (nH a1 a2) ((IntKind.wrap .i64 (1000 + x2.1)), x3.1, x3.2.fL, x3.2.fAt, ([] : (List aq)), x1.1.fX, x1.1.fY, x1.1.fZ)).bind fun o61 => some (o61.1, (aj.mk o61.2.1 o61.2.2))
def bq (a0 : aa) : Option (aW) :=
  some (aW.mk a0.fX a0.fY a0.fZ)
def bW (a0 : aa) : Option (Bool) :=
  (bq a0).bind fun x1 => if (decide (x1.a0 < (-1048576))) = true then (some false) else (if (decide (x1.a0 > 1048576)) = true then (some false) else (if (decide (x1.a1 < (-1048576))) = true then (some false) else (if (decide (x1.a1 > 1048576)) = true then (some false) else (if (decide (x1.a2 < (-16384))) = true then (some false) else (if (decide (x1.a2 > 1048576)) = true then (some false) else (some true))))))
def bu (a0 : ai) : Option (Bool) :=
  (bW a0.ak).bind fun x1 => if (!x1) = true then (some false) else ((bW a0.ae).bind fun x3 => if (!x3) = true then (some false) else ((bq a0.ae).bind fun x5 => (bq a0.ak).bind fun x6 => if (decide (x6.a0 > x5.a0)) = true then (some false) else (if (decide (x6.a1 > x5.a1)) = true then (some false) else (if (decide (x6.a2 > x5.a2)) = true then (some false) else (some true)))))
def eU (a0 : aK) : (Int × Int × Int) → Option (oP (Int × Int × Int) ((Unit) ⊕ (Int))) := fun (s6, s7, s8) =>
  if (decide (s8 < (a0.ak.length : Int))) = true then ((oT a0.ak s8).bind fun x11 => if (decide (x11 < s6)) = true then (some (.stop (.inr 21))) else ((oT a0.ae s8).bind fun x13 => if (decide (x13 < s7)) = true then (some (.stop (.inr 21))) else ((oT a0.ak s8).bind fun x15 => (oT a0.ae s8).bind fun x16 => if (decide (x15 > x16)) = true then (some (.stop (.inr 21))) else ((oT a0.ae s8).bind fun x18 => if (decide (x18 > 1099511627776)) = true then (some (.stop (.inr 21))) else ((oT a0.ak s8).bind fun x20 => (oT a0.ae s8).bind fun x21 => some (.next (x20, x21, (IntKind.wrap .i64 (s8 + 1))))))))) else (some (.stop (.inl ())))
def b7 (a0 : aK) : Option (Int) :=
  if (decide (a0.aU < 1)) = true then (some 21) else (if (decide (a0.aU > 1048576)) = true then (some 21) else (if ((a0.ak.length : Int) != (a0.ae.length : Int)) = true then (some 21) else (if (decide ((a0.ak.length : Int) < 2)) = true then (some 21) else (if (decide ((a0.ak.length : Int) > 256)) = true then (some 21) else ((e8 (eU a0) (0, 0, 0)).bind fun o23 => match o23 with | .inl _ => (some 0) | .inr r25 => (some r25))))))
def ey (a0 : Int) (a1 : Int) (a2 : Int) : Option (Bool) :=
  if (decide (a0 ≥ a1)) = true then (some (decide (a0 ≤ a2))) else (some false)
def dZ (a0 : av) : Option (Bool) :=
  (bW a0.aL).bind fun x1 => if x1 = true then (if (decide (a0.bw ≥ 0)) = true then (if (decide (a0.bw ≤ a0.bO)) = true then (if (decide (a0.bO ≤ 18014398509481984)) = true then (if (decide (a0.gn ≥ 1)) = true then (some (decide (a0.gn ≤ 100))) else (some false)) else (some false)) else (some false)) else (some false)) else (some false)
def cC (a0 : Int) (a1 : Int) (a2 : Int) : Option (Int) :=
  some (if 0 > (if (IntKind.wrap .i64 (a0 - a2)) > (IntKind.wrap .i64 (a1 - a0)) then (IntKind.wrap .i64 (a0 - a2)) else (IntKind.wrap .i64 (a1 - a0))) then 0 else (if (IntKind.wrap .i64 (a0 - a2)) > (IntKind.wrap .i64 (a1 - a0)) then (IntKind.wrap .i64 (a0 - a2)) else (IntKind.wrap .i64 (a1 - a0))))
def cO (a0 : ai) (a1 : aa) : Option (Int) :=
  (bu a0).bind fun x1 => if (!x1) = true then (some 0) else ((bW a1).bind fun x3 => if (!x3) = true then (some 0) else ((bq a0.ak).bind fun x5 => (bq a0.ae).bind fun x6 => (bq a1).bind fun x7 => (cC x7.a0 x5.a0 x6.a0).bind fun x8 => (cC x7.a1 x5.a1 x6.a1).bind fun x9 => (cC x7.a2 x5.a2 x6.a2).bind fun x10 => some (IntKind.wrap .i64 ((IntKind.wrap .i64 ((IntKind.wrap .i64 (0 + (IntKind.wrap .i64 (x8 * x8)))) + (IntKind.wrap .i64 (x9 * x9)))) + (IntKind.wrap .i64 (x10 * x10))))))
def dl (a0 : ai) (a1 : aa) : Option (Int) :=
  (cO a0 a1).bind fun x1 => some x1
def cq (a0 : Int) (a1 : Int) (a2 : Int) : Option (Int) :=
  some (if (IntKind.wrap .i64 (a0 - a1)) > (IntKind.wrap .i64 (a2 - a0)) then (IntKind.wrap .i64 (a0 - a1)) else (IntKind.wrap .i64 (a2 - a0)))
def cE (a0 : ai) (a1 : aa) : Option (Int) :=
  (bu a0).bind fun x1 => if (!x1) = true then (some 0) else ((bW a1).bind fun x3 => if (!x3) = true then (some 0) else ((bq a0.ak).bind fun x5 => (bq a0.ae).bind fun x6 => (bq a1).bind fun x7 => (cq x7.a0 x5.a0 x6.a0).bind fun x8 => (cq x7.a1 x5.a1 x6.a1).bind fun x9 => (cq x7.a2 x5.a2 x6.a2).bind fun x10 => some (IntKind.wrap .i64 ((IntKind.wrap .i64 ((IntKind.wrap .i64 (0 + (IntKind.wrap .i64 (x8 * x8)))) + (IntKind.wrap .i64 (x9 * x9)))) + (IntKind.wrap .i64 (x10 * x10))))))
def eB (a0 : ai) (a1 : aa) : Option (Int) :=
  (cE a0 a1).bind fun x1 => some x1
def gH (a0 : aK) (a1 : ai) (a2 : aa) : Option (aK × Int × Int) :=
  (dl a1 a2).bind fun x1 => (eB a1 a2).bind fun x2 => some (a0, x1, x2)
def dW (j3 : Int) (j4 : Int) : Option (Int) :=
  if (decide (j3 ≥ 256)) = true then ((sn [0, 1, 2, 2, 3, 3, 3, 3, 4, 4, 4, 4, 4, 4, 4, 4, 5, 5, 5, 5, 5, 5, 5, 5, 5, 5, 5, 5, 5, 5, 5, 5, 6, 6, 6, 6, 6, 6, 6, 6, 6, 6, 6, 6, 6, 6, 6, 6, 6, 6, 6, 6, 6, 6, 6, 6, 6, 6, 6, 6, 6, 6, 6, 6, 7, 7, 7, 7, 7, 7, 7, 7, 7, 7, 7, 7, 7, 7, 7, 7, 7, 7, 7, 7, 7, 7, 7, 7, 7, 7, 7, 7, 7, 7, 7, 7, 7, 7, 7, 7, 7, 7, 7, 7, 7, 7, 7, 7, 7, 7, 7, 7, 7, 7, 7, 7, 7, 7, 7, 7, 7, 7, 7, 7, 7, 7, 7, 7, 8, 8, 8, 8, 8, 8, 8, 8, 8, 8, 8, 8, 8, 8, 8, 8, 8, 8, 8, 8, 8, 8, 8, 8, 8, 8, 8, 8, 8, 8, 8, 8, 8, 8, 8, 8, 8, 8, 8, 8, 8, 8, 8, 8, 8, 8, 8, 8, 8, 8, 8, 8, 8, 8, 8, 8, 8, 8, 8, 8, 8, 8, 8, 8, 8, 8, 8, 8, 8, 8, 8, 8, 8, 8, 8, 8, 8, 8, 8, 8, 8, 8, 8, 8, 8, 8, 8, 8, 8, 8, 8, 8, 8, 8, 8, 8, 8, 8, 8, 8, 8, 8, 8, 8, 8, 8, 8, 8, 8, 8, 8, 8, 8, 8, 8, 8, 8, 8, 8, 8, 8, 8, 8, 8, 8, 8, 8, 8] (IntKind.wrap .u8 (pe .u64 j3 8))).bind fun x6 => some (IntKind.wrap .i64 ((IntKind.wrap .i64 (j4 + 8)) + (IntKind.wrap .i64 x6)))) else ((sn [0, 1, 2, 2, 3, 3, 3, 3, 4, 4, 4, 4, 4, 4, 4, 4, 5, 5, 5, 5, 5, 5, 5, 5, 5, 5, 5, 5, 5, 5, 5, 5, 6, 6, 6, 6, 6, 6, 6, 6, 6, 6, 6, 6, 6, 6, 6, 6, 6, 6, 6, 6, 6, 6, 6, 6, 6, 6, 6, 6, 6, 6, 6, 6, 7, 7, 7, 7, 7, 7, 7, 7, 7, 7, 7, 7, 7, 7, 7, 7, 7, 7, 7, 7, 7, 7, 7, 7, 7, 7, 7, 7, 7, 7, 7, 7, 7, 7, 7, 7, 7, 7, 7, 7, 7, 7, 7, 7, 7, 7, 7, 7, 7, 7, 7, 7, 7, 7, 7, 7, 7, 7, 7, 7, 7, 7, 7, 7, 8, 8, 8, 8, 8, 8, 8, 8, 8, 8, 8, 8, 8, 8, 8, 8, 8, 8, 8, 8, 8, 8, 8, 8, 8, 8, 8, 8, 8, 8, 8, 8, 8, 8, 8, 8, 8, 8, 8, 8, 8, 8, 8, 8, 8, 8, 8, 8, 8, 8, 8, 8, 8, 8, 8, 8, 8, 8, 8, 8, 8, 8, 8, 8, 8, 8, 8, 8, 8, 8, 8, 8, 8, 8, 8, 8, 8, 8, 8, 8, 8, 8, 8, 8, 8, 8, 8, 8, 8, 8, 8, 8, 8, 8, 8, 8, 8, 8, 8, 8, 8, 8, 8, 8, 8, 8, 8, 8, 8, 8, 8, 8, 8, 8, 8, 8, 8, 8, 8, 8, 8, 8, 8, 8, 8, 8, 8, 8] (IntKind.wrap .u8 j3)).bind fun x7 => some (IntKind.wrap .i64 (j4 + (IntKind.wrap .i64 x7))))
def dq (j1 : Int) (j2 : Int) : Option (Int) :=
  if (decide (j1 ≥ 65536)) = true then (dW (pe .u64 j1 16) (IntKind.wrap .i64 (j2 + 16))) else (dW j1 j2)
def iP (a0 : Int) : Option (Int) :=
  if (decide (a0 ≥ 4294967296)) = true then (dq (pe .u64 a0 32) 32) else (dq a0 0)
def fD (a0 : Int) : Option (Int) :=
  (iP a0).bind fun x1 => some x1
def ea (a0 : Int) : (Int × Int) → Option (oP (Int × Int) (Int)) := fun (s5, s6) =>
  if (decide (s6 > 0)) = true then ((qd .i64 a0 (orI .i64 s5 s6)).bind fun x10 => if (decide ((orI .i64 s5 s6) ≤ x10)) = true then (some (.next ((orI .i64 s5 s6), (pe .i64 s6 1)))) else (some (.next (s5, (pe .i64 s6 1))))) else (some (.stop s5))
def d9 (a0 : Int) : Option (Int) :=
  if (decide (a0 ≤ 0)) = true then (some 0) else ((fD (IntKind.wrap .u64 a0)).bind fun x2 => (qd .i64 (IntKind.wrap .i64 (x2 - 1)) 2).bind fun x3 => (vW .i64 1 x3).bind fun x4 => (e8 (ea a0) (0, x4)).bind fun o13 => some o13)
def fK (a0 : Int) : Option (Int) :=
  (d9 a0).bind fun x1 => if (decide ((IntKind.wrap .i64 (x1 * x1)) < a0)) = true then (some (IntKind.wrap .i64 (x1 + 1))) else (some x1)
def iK (a0 : aK) : Option (Int) :=
  some (IntKind.wrap .i64 (a0.aU * (IntKind.wrap .i64 ((a0.ak.length : Int) - 1))))
def dR (a0 : Int) (d0 : aK) (d1 : Int) : Option (Bool) :=
  some (decide ((IntKind.wrap .i64 (a0 * d0.aU)) ≥ d1))
def eT (d0 : aK) (d1 : Int) : (Int × Int) → Option (oP (Int × Int) (Int)) := fun (s1, s2) =>
  if (decide (s1 < s2)) = true then ((dR (IntKind.wrap .i64 (pe .u64 (IntKind.wrap .u64 (IntKind.wrap .i64 (s1 + s2))) 1)) d0 d1).bind fun x6 => if (!x6) = true then (some (.next ((IntKind.wrap .i64 ((IntKind.wrap .i64 (pe .u64 (IntKind.wrap .u64 (IntKind.wrap .i64 (s1 + s2))) 1)) + 1)), s2))) else (some (.next (s1, (IntKind.wrap .i64 (pe .u64 (IntKind.wrap .u64 (IntKind.wrap .i64 (s1 + s2))) 1)))))) else (some (.stop s1))
def d7 (a0 : Int) (d0 : aK) (d1 : Int) : Option (Int) :=
  (e8 (eT d0 d1) (0, a0)).bind fun o9 => some o9
def ei (a0 : aK) (a1 : Int) (a2 : Int) : Option (Int × Int × Int) :=
  (b7 a0).bind fun x1 => if (x1 != 0) = true then (some (0, 0, 21)) else (if (decide (a1 < 0)) = true then (some (0, 0, 2)) else (if (decide (a1 > a2)) = true then (some (0, 0, 2)) else ((fK a2).bind fun x5 => (iK a0).bind fun x6 => if (decide (x5 > x6)) = true then (some (0, 0, 22)) else ((d7 (a0.ae.length : Int) a0 x5).bind fun x8 => (d9 a1).bind fun x9 => (qd .i64 x9 a0.aU).bind fun x10 => (oT a0.ak x10).bind fun x11 => (oT a0.ae x8).bind fun x12 => some (x11, x12, 0)))))
def f7 (a0 : aK) (a1 : ai) (a2 : aa) : Option (Int × Int × Int) :=
  (b7 a0).bind fun x1 => if (x1 != 0) = true then (some (0, 0, x1)) else ((bu a1).bind fun x3 => if (!x3) = true then (some (0, 0, 20)) else ((bW a2).bind fun x5 => if (!x5) = true then (some (0, 0, 20)) else ((gH a0 a1 a2).bind fun x7 => (ei x7.1 x7.2.1 x7.2.2).bind fun x8 => some (x8.1, x8.2.1, x8.2.2))))
def dI (a0 : aK) (a1 : ai) (a2 : av) : Option (aN × Int) :=
  (b7 a0).bind fun x1 => if (x1 != 0) = true then (some ((aN.mk 0 0), x1)) else ((bu a1).bind fun x3 => if (!x3) = true then (some ((aN.mk 0 0), 20)) else ((dZ a2).bind fun x5 => if (!x5) = true then (some ((aN.mk 0 0), 23)) else ((f7 a0 a1 a2.aL).bind fun x7 => if (x7.2.2 != 0) = true then (some ((aN.mk 0 0), x7.2.2)) else (some ((aN.mk (IntKind.wrap .i64 (a2.bw - x7.2.1)) (IntKind.wrap .i64 (a2.bO - x7.1))), 0)))))
def fj (a1 : (List av)) (a0 : bf) : Int → Option (oP (Int) ((Unit) ⊕ (Int))) := fun s16 =>
  if (decide (s16 < (a1.length : Int))) = true then ((oT a1 s16).bind fun x19 => (dI a0.az a0.ac x19).bind fun x20 => if (x20.2 != 0) = true then (some (.stop (.inr x20.2))) else (some (.next (IntKind.wrap .i64 (s16 + 1))))) else (some (.stop (.inl ())))
def fi (a0 : bf) (a1 : (List av)) : Option (Int) :=
  (bu a0.ac).bind fun x1 => if (!x1) = true then (some 27) else ((b7 a0.az).bind fun x3 => if (x3 != 0) = true then (some 27) else ((ey a0.bG 1 1099511627776).bind fun x5 => if (!x5) = true then (some 27) else ((ey a0.bc 0 1099511627776).bind fun x7 => if (!x7) = true then (some 27) else ((ey a0.eR 0 1099511627776).bind fun x9 => if (!x9) = true then (some 27) else ((ey a0.gJ 0 1099511627776).bind fun x11 => if (!x11) = true then (some 27) else ((ey a0.eQ 2 16).bind fun x13 => if (!x13) = true then (some 27) else (if (decide ((a1.length : Int) > 256)) = true then (some 8) else ((e8 (fj a1 a0) 0).bind fun o23 => match o23 with | .inl _ => (some 0) | .inr r25 => (some r25)))))))))
def ch (a0 : bt) : Option (Bool) :=
  (b7 a0.aZ).bind fun x1 => if (x1 == 0) = true then (if (decide (a0.bj ≥ 0)) = true then (if (decide (a0.bj ≤ 65536)) = true then (if (decide (a0.bh ≥ 1)) = true then (some (decide (a0.bh ≤ 65536))) else (some false)) else (some false)) else (some false)) else (some false)
def eM (a0 : aG) : Option (Int) :=
  (fi a0.ag []).bind fun x1 => if (x1 != 0) = true then (some 27) else ((ch a0.bn).bind fun x3 => if (!x3) = true then (some 27) else (if (decide (a0.bc < 0)) = true then (some 27) else (if (decide (a0.bc > 1099511627776)) = true then (some 27) else (some 0))))
def gz (a0 : Int) : Option (Bool) :=
  if (decide (a0 ≥ 65)) = true then (if (decide (a0 ≤ 90)) = true then (some true) else (if (decide (a0 ≥ 48)) = true then (some (decide (a0 ≤ 57))) else (some false))) else (if (decide (a0 ≥ 48)) = true then (some (decide (a0 ≤ 57))) else (some false))
def fg (a0 : (List UInt8)) : Int → Option (oP (Int) ((Unit) ⊕ (Bool))) := fun s1 =>
  if (decide (s1 < (a0.length : Int))) = true then ((sn a0 s1).bind fun x4 => (gz x4).bind fun x5 => if (!x5) = true then (some (.stop (.inr false))) else (some (.next (IntKind.wrap .i64 (s1 + 1))))) else (some (.stop (.inl ())))
def eN (a0 : (List UInt8)) (a1 : Int) (a2 : Int) : Option (Bool) :=
  (e8 (fg a0) 0).bind fun o8 => match o8 with | .inl _ => (if (decide ((a0.length : Int) ≥ a1)) = true then (some (decide ((a0.length : Int) ≤ a2))) else (some false)) | .inr r10 => (some r10)
def fB (a0 : aJ) : Option (Bool) :=
  (eN a0.aV 1 2).bind fun x1 => if x1 = true then ((eN a0.aL 1 5).bind fun x3 => if x3 = true then ((eN a0.ar 0 2).bind fun x5 => if x5 = true then (if ((a0.ar.length : Int) != 1) = true then ((eN a0.aX 3 3).bind fun x8 => some x8) else (some false)) else (some false)) else (some false)) else (some false)
def nj (a0 : Int) (a1 : Int) (a2 : Int) : Option (Bool) :=
  if (decide (a0 ≥ a1)) = true then (some (decide (a0 ≤ a2))) else (some false)
def mW  : (Int × Int) → Option (oP (Int × Int) (Int)) := fun (s1, s2) =>
  if (s2 != 0) = true then ((vj s1 s2).bind fun x6 => some (.next (s2, x6))) else (some (.stop s1))
def mV (a0 : Int) (a1 : Int) : Option (Int) :=
  (e8 (mW) (a0, a1)).bind fun o8 => some o8
def ja (a0 : bg) : Option (Bool) :=
  (nj a0.bj 1 4096).bind fun x1 => if x1 = true then ((nj a0.bh 1 4096).bind fun x3 => if x3 = true then ((mV a0.bj a0.bh).bind fun x5 => some (x5 == 1)) else (some false)) else (some false)
def bK (a0 : Int) (a1 : Int) (a2 : Int) : Option (Bool) :=
  if (decide (a0 ≥ a1)) = true then (some (decide (a0 ≤ a2))) else (some false)
def dO (a0 : Int) : Option (Bool) :=
  (bK a0 (-1048576) 1048576).bind fun x1 => some (!x1)
def bZ (a0 : (List Int)) : Int → Option (oP (Int) ((Unit) ⊕ (Int))) := fun s1 =>
  if (decide (s1 < (a0.length : Int))) = true then ((oT a0 s1).bind fun x4 => (dO x4).bind fun x5 => if x5 = true then (some (.stop (.inr s1))) else (some (.next (IntKind.wrap .i64 (s1 + 1))))) else (some (.stop (.inl ())))
def cn (a0 : (List Int)) : Option (Int) :=
  (e8 (bZ a0) 0).bind fun o8 => match o8 with | .inl _ => (some (-1)) | .inr r10 => (some r10)
def bY (a0 : (List Int)) : Option (Bool) :=
  (cn a0).bind fun x1 => some (decide (x1 ≥ 0))
def bS (a0 : (List Int)) : Option (Bool) :=
  (bY a0).bind fun x1 => some (!x1)
def gV (a0 : (List Int)) : (Int × Int) → Option (oP (Int × Int) (Int)) := fun (s1, s2) =>
  if (decide (s2 < (a0.length : Int))) = true then ((oT a0 s2).bind fun x6 => some (.next ((IntKind.wrap .i64 (s1 + x6)), (IntKind.wrap .i64 (s2 + 1))))) else (some (.stop s1))
def cQ (a0 : (List Int)) : Option (Int) :=
  (e8 (gV a0) (0, 0)).bind fun o8 => some o8
def ca (a0 : aB) : Option (Bool) :=
  if ((a0.cN.length : Int) == 0) = true then (if (a0.co == 0) = true then (if (a0.ep == 0) = true then (if (a0.cM == 0) = true then (if ((a0.bj.a0 == a0.bj.a0) && ((a0.bj.a1 == 0) && ((a0.bj.a2 == 0) && true))) = true then (if ((a0.bh.a0 == a0.bh.a0) && ((a0.bh.a1 == 0) && ((a0.bh.a2 == 0) && true))) = true then ((bK a0.bj.a0 1 1048576).bind fun x7 => if x7 = true then ((bK a0.bh.a0 1 1048576).bind fun x9 => some x9) else (some false)) else (some false)) else (some false)) else (some false)) else (if (a0.ep == 1) = true then (if (a0.cM == 0) = true then ((bS [a0.bj.a0, a0.bj.a1, a0.bj.a2]).bind fun x12 => if x12 = true then ((bS [a0.bh.a0, a0.bh.a1, a0.bh.a2]).bind fun x14 => if x14 = true then (some (a0.bh.a0 != 0)) else (some false)) else (some false)) else (some false)) else (if (a0.ep == 2) = true then (if ((a0.bj.a0 == 0) && ((a0.bj.a1 == 0) && ((a0.bj.a2 == 0) && true))) = true then (if ((a0.bh.a0 == 0) && ((a0.bh.a1 == 0) && ((a0.bh.a2 == 0) && true))) = true then ((bK (a0.cN.length : Int) 1 128).bind fun x19 => if x19 = true then ((bS a0.cN).bind fun x21 => if x21 = true then ((cQ a0.cN).bind fun x23 => if (x23 != 0) = true then ((bK a0.co 1 64).bind fun x25 => if x25 = true then ((bK a0.cM 0 40).bind fun x27 => some x27) else (some false)) else (some false)) else (some false)) else (some false)) else (some false)) else (some false)) else (some false)))) else (if (a0.ep == 0) = true then (some false) else (if (a0.ep == 1) = true then (some false) else (if (a0.ep == 2) = true then (if ((a0.bj.a0 == 0) && ((a0.bj.a1 == 0) && ((a0.bj.a2 == 0) && true))) = true then (if ((a0.bh.a0 == 0) && ((a0.bh.a1 == 0) && ((a0.bh.a2 == 0) && true))) = true then ((bK (a0.cN.length : Int) 1 128).bind fun x33 => if x33 = true then ((bS a0.cN).bind fun x35 => if x35 = true then ((cQ a0.cN).bind fun x37 => if (x37 != 0) = true then ((bK a0.co 1 64).bind fun x39 => if x39 = true then ((bK a0.cM 0 40).bind fun x41 => some x41) else (some false)) else (some false)) else (some false)) else (some false)) else (some false)) else (some false)) else (some false))))) else (if (a0.ep == 0) = true then (some false) else (if (a0.ep == 1) = true then (some false) else (if (a0.ep == 2) = true then (if ((a0.bj.a0 == 0) && ((a0.bj.a1 == 0) && ((a0.bj.a2 == 0) && true))) = true then (if ((a0.bh.a0 == 0) && ((a0.bh.a1 == 0) && ((a0.bh.a2 == 0) && true))) = true then ((bK (a0.cN.length : Int) 1 128).bind fun x47 => if x47 = true then ((bS a0.cN).bind fun x49 => if x49 = true then ((cQ a0.cN).bind fun x51 => if (x51 != 0) = true then ((bK a0.co 1 64).bind fun x53 => if x53 = true then ((bK a0.cM 0 40).bind fun x55 => some x55) else (some false)) else (some false)) else (some false)) else (some false)) else (some false)) else (some false)) else (some false))))
def dN (a0 : aB) : Option (Bool) :=
  (ca a0).bind fun x1 => some (!x1)
def bT (a0 : (List aB)) : Int → Option (oP (Int) ((Unit) ⊕ (Int))) := fun s1 =>
  if (decide (s1 < (a0.length : Int))) = true then ((oT a0 s1).bind fun x4 => (dN x4).bind fun x5 => if x5 = true then (some (.stop (.inr s1))) else (some (.next (IntKind.wrap .i64 (s1 + 1))))) else (some (.stop (.inl ())))
def cb (a0 : (List aB)) : Option (Int) :=
  (e8 (bT a0) 0).bind fun o8 => match o8 with | .inl _ => (some (-1)) | .inr r10 => (some r10)
def bM (a0 : (List aB)) : Option (Bool) :=
  (cb a0).bind fun x1 => some (decide (x1 ≥ 0))
def ef (a0 : (List aB)) : (Int × Int) → Option (oP (Int × Int) ((Int) ⊕ (Int))) := fun (s1, s2) =>
  if (decide (s2 < (a0.length : Int))) = true then ((oT a0 s2).bind fun x6 => if (x6.ep != 2) = true then (some (.next (s1, (IntKind.wrap .i64 (s2 + 1))))) else (if (decide ((IntKind.wrap .i64 (s1 * x6.co)) > 64)) = true then (some (.stop (.inr 0))) else (some (.next ((IntKind.wrap .i64 (s1 * x6.co)), (IntKind.wrap .i64 (s2 + 1))))))) else (some (.stop (.inl s1)))
def ex (a0 : (List aB)) : Option (Int) :=
  (e8 (ef a0) (1, 0)).bind fun o10 => match o10 with | .inl y11 => (some y11) | .inr r12 => (some r12)
def ed (a0 : aM) : Option (Bool) :=
  if (decide ((a0.bo.length : Int) > 8)) = true then (some false) else ((bM a0.bo).bind fun x2 => if x2 = true then (some false) else ((ex a0.bo).bind fun x4 => some (decide (x4 > 0))))
def dm (a0 : Int) (a1 : Int) (a2 : Int) : Option (Bool) :=
  if (decide (a0 ≥ a1)) = true then (some (decide (a0 ≤ a2))) else (some false)
def cH (a0 : al) : Option (Bool) :=
  if (decide (a0.bB ≥ 0)) = true then (if (decide (a0.bB < a0.fTo)) = true then (if (decide (a0.fTo ≤ 9007199254740992)) = true then ((ja a0.cf).bind fun x4 => if x4 = true then ((ed a0.bi).bind fun x6 => if x6 = true then ((dm a0.aS.fX (-1048576) 1048576).bind fun x8 => if x8 = true then ((dm a0.aS.fY (-1048576) 1048576).bind fun x10 => if x10 = true then ((dm a0.aS.fZ (-16384) 1048576).bind fun x12 => some x12) else (some false)) else (some false)) else (some false)) else (some false)) else (some false)) else (some false)) else (some false)
def dv (a0 : (List al)) : Int → Option (oP (Int) ((Unit) ⊕ (Bool))) := fun s1 =>
  if (decide (s1 < (a0.length : Int))) = true then ((oT a0 s1).bind fun x4 => (cH x4).bind fun x5 => if (!x5) = true then (some (.stop (.inr false))) else (if (decide (s1 > 0)) = true then ((oT a0 (IntKind.wrap .i64 (s1 - 1))).bind fun x8 => if (decide (x4.bB < x8.fTo)) = true then (some (.stop (.inr false))) else (some (.next (IntKind.wrap .i64 (s1 + 1))))) else (some (.next (IntKind.wrap .i64 (s1 + 1)))))) else (some (.stop (.inl ())))
def d5 (a0 : (List al)) : Option (Bool) :=
  (e8 (dv a0) 0).bind fun o11 => match o11 with | .inl _ => ((dm (a0.length : Int) 1 32).bind fun x14 => some x14) | .inr r13 => (some r13)
def db (a0 : (List UInt8)) : Option (Bool) :=
  some (!(a0 == a0))
def bR (a0 : (List UInt8)) (a1 : (List UInt8)) : Option (Int) :=
  (db a0).bind fun x1 => (db a1).bind fun x2 => if x1 = true then (if x2 = true then (some 0) else (some (-1))) else (if x2 = true then (some 1) else (if (Op.bytesLess a0 a1) = true then (some (-1)) else (if (!(Op.bytesLess a0 a1 || a0 == a1)) = true then (some 1) else (some 0))))
def ct (a0 : (List Int)) : Int → Option (oP (Int) ((Unit) ⊕ (Int))) := fun s1 =>
  if (decide (s1 < (a0.length : Int))) = true then ((oT a0 s1).bind fun x4 => if (x4 != 0) = true then (some (.stop (.inr x4))) else (some (.next (IntKind.wrap .i64 (s1 + 1))))) else (some (.stop (.inl ())))
def cL (a0 : (List Int)) : Option (Int) :=
  (e8 (ct a0) 0).bind fun o7 => match o7 with | .inl _ => (some 0) | .inr r9 => (some r9)
def dG (a0 : aJ) (a1 : aJ) : Option (Int) :=
  (bR a0.aV a1.aV).bind fun x1 => (bR a0.aL a1.aL).bind fun x2 => (bR a0.ar a1.ar).bind fun x3 => (bR a0.aX a1.aX).bind fun x4 => (cL [x1, x2, x3, x4]).bind fun x5 => some x5
def dM (a0 : aC) : Int → Option (oP (Int) ((Unit) ⊕ (Bool))) := fun s1 =>
  if (decide (s1 < (a0.aO.length : Int))) = true then ((oT a0.aO s1).bind fun x4 => (fB x4.aH).bind fun x5 => if (!x5) = true then (some (.stop (.inr false))) else ((d5 x4.ba).bind fun x7 => if (!x7) = true then (some (.stop (.inr false))) else (if (decide (s1 > 0)) = true then ((oT a0.aO (IntKind.wrap .i64 (s1 - 1))).bind fun x10 => (dG x10.aH x4.aH).bind fun x11 => if (decide (x11 ≥ 0)) = true then (some (.stop (.inr false))) else (some (.next (IntKind.wrap .i64 (s1 + 1))))) else (some (.next (IntKind.wrap .i64 (s1 + 1))))))) else (some (.stop (.inl ())))
def da (a0 : aC) : Option (Bool) :=
  (e8 (dM a0) 0).bind fun o14 => match o14 with | .inl _ => (some (decide ((a0.aO.length : Int) ≤ 128))) | .inr r16 => (some r16)
def dX (a0 : Int) : Option (Bool) :=
  some (a0 != a0)
def bF (a0 : Int) (a1 : Int) : Option (Int) :=
  (dX a0).bind fun x1 => (dX a1).bind fun x2 => if x1 = true then (if x2 = true then (some 0) else (some (-1))) else (if x2 = true then (some 1) else (if (decide (a0 < a1)) = true then (some (-1)) else (if (decide (a0 > a1)) = true then (some 1) else (some 0))))
def bX (a0 : aq) (a1 : aq) : Option (Int) :=
  (dG a0.aH a1.aH).bind fun x1 => (bF a0.a8 a1.a8).bind fun x2 => (bF a0.bw a1.bw).bind fun x3 => (bF a0.bO a1.bO).bind fun x4 => (bF a0.bp a1.bp).bind fun x5 => (bF a0.bI a1.bI).bind fun x6 => (cL [x1, x2, x3, x4, x5, x6]).bind fun x7 => some x7
def fe (s2 : Int) (d0 : (List aq)) : (Int × Int × (List aq)) → Option (oP (Int × Int × (List aq)) (Int × (List aq))) := fun (s13, s14, s15) =>
  (lenV s15.length (0 + (s2 : Int).toNat) (0 + ((d0.length : Int) : Int).toNat)).bind fun x19 => if (decide (s14 < x19)) = true then ((inV s15.length (0 + (s2 : Int).toNat) (0 + ((d0.length : Int) : Int).toNat) s14).bind fun _ => (oT s15 (((0 + (s2 : Int).toNat) + (s14 : Int).toNat : Nat) : Int)).bind fun x22 => (inV s15.length (0 + (s2 : Int).toNat) (0 + ((d0.length : Int) : Int).toNat) (IntKind.wrap .i64 (s14 - 1))).bind fun _ => (oT s15 (((0 + (s2 : Int).toNat) + ((IntKind.wrap .i64 (s14 - 1)) : Int).toNat : Nat) : Int)).bind fun x24 => if (!(((x22.aH.aV == x24.aH.aV) && ((x22.aH.aL == x24.aH.aL) && ((x22.aH.ar == x24.aH.ar) && ((x22.aH.aX == x24.aH.aX) && true)))) && ((x22.a8 == x24.a8) && ((x22.bw == x24.bw) && ((x22.bO == x24.bO) && ((x22.bp == x24.bp) && ((x22.bI == x24.bI) && true))))))) = true then ((inV s15.length (0 + (s2 : Int).toNat) (0 + ((d0.length : Int) : Int).toNat) s14).bind fun _ => (oT s15 (((0 + (s2 : Int).toNat) + (s14 : Int).toNat : Nat) : Int)).bind fun x27 => (inO s15 s13).bind fun _ => (tg s15 s13 x27).bind fun x30 => some (.next ((IntKind.wrap .i64 (s13 + 1)), (IntKind.wrap .i64 (s14 + 1)), x30))) else (some (.next (s13, (IntKind.wrap .i64 (s14 + 1)), s15)))) else (some (.stop (s13, s15)))
def ff (d0 : (List aq)) : Int → Option (oP (Int) ((Unit) ⊕ ((List aq)))) := fun s2 =>
  if (decide (s2 < (d0.length : Int))) = true then ((inO d0 s2).bind fun _ => (oT d0 s2).bind fun x7 => (inO d0 (IntKind.wrap .i64 (s2 - 1))).bind fun _ => (oT d0 (IntKind.wrap .i64 (s2 - 1))).bind fun x10 => if (((x7.aH.aV == x10.aH.aV) && ((x7.aH.aL == x10.aH.aL) && ((x7.aH.ar == x10.aH.ar) && ((x7.aH.aX == x10.aH.aX) && true)))) && ((x7.a8 == x10.a8) && ((x7.bw == x10.bw) && ((x7.bO == x10.bO) && ((x7.bp == x10.bp) && ((x7.bI == x10.bI) && true)))))) = true then ((vz d0.length s2 (d0.length : Int)).bind fun _ => (e8 (fe s2 d0) (s2, 1, d0)).bind fun o32 => (vz o32.2.length o32.1 (o32.2.length : Int)).bind fun _ => (xS o32.2.length (0 + (o32.1 : Int).toNat) (0 + ((o32.2.length : Int) : Int).toNat)).bind fun _ => (vz (sf o32.2 (0 + (o32.1 : Int).toNat) ((0 + ((o32.2.length : Int) : Int).toNat) - (0 + (o32.1 : Int).toNat)) (aq.mk (aJ.mk [] [] [] []) 0 0 0 0 0)).length 0 o32.1).bind fun _ => (wQ (sf o32.2 (0 + (o32.1 : Int).toNat) ((0 + ((o32.2.length : Int) : Int).toNat) - (0 + (o32.1 : Int).toNat)) (aq.mk (aJ.mk [] [] [] []) 0 0 0 0 0)) (0 + (0 : Int).toNat) (0 + (o32.1 : Int).toNat)).bind fun x37 => some (.stop (.inr x37))) else (some (.next (IntKind.wrap .i64 (s2 + 1))))) else (some (.stop (.inl ())))
def dP (d0 : (List aq)) : Option ((List aq)) :=
  if (decide ((d0.length : Int) < 2)) = true then (some d0) else ((e8 (ff d0) 1).bind fun o39 => match o39 with | .inl _ => (some d0) | .inr r41 => (some r41))
def eJ (a0 : (List aq)) : Option ((List aq)) :=
  (p9 104 a0).bind fun x1 => (uT bX x1).bind fun x2 => (dP x2).bind fun x3 => some x3
def gy (a0 : Int) (a1 : Int) (a2 : Int) : Option (Bool) :=
  if (decide (a0 ≥ a1)) = true then (some (decide (a0 ≤ a2))) else (some false)
def d6 (a0 : aq) : Option (Bool) :=
  (fB a0.aH).bind fun x1 => if x1 = true then (if (decide (a0.bw ≥ 0)) = true then (if (decide (a0.bw ≤ a0.a8)) = true then (if (decide (a0.a8 ≤ a0.bO)) = true then (if (decide (a0.bO ≤ 18014398509481984)) = true then ((gy a0.bp 0 1073741823).bind fun x7 => if x7 = true then ((gy a0.bI (-1) 1).bind fun x9 => some x9) else (some false)) else (some false)) else (some false)) else (some false)) else (some false)) else (some false)
def cG (x1 : (List aB)) : (Int × (List aB)) → Option (oP (Int × (List aB)) ((List aB))) := fun (s2, s3) =>
  if (decide (s2 < (x1.length : Int))) = true then ((inO s3 s2).bind fun _ => (oT s3 s2).bind fun x9 => (p9 8 x9.cN).bind fun x10 => (inO s3 s2).bind fun _ => (w2 s3 s2 (fun (z14 : aB) => (aB.mk z14.ep z14.bj z14.bh x10 z14.co z14.cM))).bind fun x13 => some (.next ((IntKind.wrap .i64 (s2 + 1)), x13))) else (some (.stop s3))
def c7 (a0 : al) : Option (al) :=
  (p9 96 a0.bi.bo).bind fun x1 => (e8 (cG x1) (0, x1)).bind fun o16 => some (al.mk a0.bB a0.fTo a0.cf a0.aS (aM.mk o16))
def du (x1 : (List al)) : (Int × (List al)) → Option (oP (Int × (List al)) ((List al))) := fun (s2, s3) =>
  if (decide (s2 < (x1.length : Int))) = true then ((inO s3 s2).bind fun _ => (oT s3 s2).bind fun x9 => (c7 x9).bind fun x10 => (inO s3 s2).bind fun _ => (tg s3 s2 x10).bind fun x13 => some (.next ((IntKind.wrap .i64 (s2 + 1)), x13))) else (some (.stop s3))
def d4 (a0 : ap) : Option (ap) :=
  (p9 80 a0.ba).bind fun x1 => (e8 (du x1) (0, x1)).bind fun o15 => some (ap.mk a0.aH o15)
def eE (a0 : aC) (a1 : aJ) : Int → Option (oP (Int) ((Unit) ⊕ (ap × Bool))) := fun s1 =>
  if (decide (s1 < (a0.aO.length : Int))) = true then ((oT a0.aO s1).bind fun x4 => if ((x4.aH.aV == a1.aV) && ((x4.aH.aL == a1.aL) && ((x4.aH.ar == a1.ar) && ((x4.aH.aX == a1.aX) && true)))) = true then ((d4 x4).bind fun x6 => some (.stop (.inr (x6, true)))) else (some (.next (IntKind.wrap .i64 (s1 + 1))))) else (some (.stop (.inl ())))
def eZ (a0 : aC) (a1 : aJ) : Option (ap × Bool) :=
  (e8 (eE a0 a1) 0).bind fun o8 => match o8 with | .inl _ => (some ((ap.mk (aJ.mk [] [] [] []) []), false)) | .inr r10 => (some r10)
def fE (a0 : ap) (a1 : Int) : Int → Option (oP (Int) ((Unit) ⊕ (al × Bool))) := fun s1 =>
  if (decide (s1 < (a0.ba.length : Int))) = true then ((oT a0.ba s1).bind fun x4 => if (decide (x4.bB ≤ a1)) = true then (if (decide (a1 < x4.fTo)) = true then (some (.stop (.inr (x4, true)))) else (some (.next (IntKind.wrap .i64 (s1 + 1))))) else (some (.next (IntKind.wrap .i64 (s1 + 1))))) else (some (.stop (.inl ())))
def gt (a0 : ap) (a1 : Int) : Option (al × Bool) :=
  (e8 (fE a0 a1) 0).bind fun o8 => match o8 with | .inl _ => (some ((al.mk 0 0 (bg.mk 0 0) (aa.mk 0 0 0) (aM.mk [])), false)) | .inr r10 => (some r10)
def gr (a0 : aC) (a1 : aJ) (a2 : Int) : Option (al × Int) :=
  (da a0).bind fun x1 => if (!x1) = true then (some ((al.mk 0 0 (bg.mk 0 0) (aa.mk 0 0 0) (aM.mk [])), 1)) else ((eZ a0 a1).bind fun x3 => (gt x3.1 a2).bind fun x4 => if (!x4.2) = true then (some ((al.mk 0 0 (bg.mk 0 0) (aa.mk 0 0 0) (aM.mk [])), 6)) else (some (x4.1, 0)))
def cw (a0 : aG) (a1 : aC) (a2 : aq) : Option (av × al × Bool) :=
  (d6 a2).bind fun x1 => if (!x1) = true then (some ((av.mk (aa.mk 0 0 0) 0 0 0), (al.mk 0 0 (bg.mk 0 0) (aa.mk 0 0 0) (aM.mk [])), false)) else ((gr a1 a2.aH a2.a8).bind fun x3 => if (x3.2 != 0) = true then (some ((av.mk (aa.mk 0 0 0) 0 0 0), (al.mk 0 0 (bg.mk 0 0) (aa.mk 0 0 0) (aM.mk [])), false)) else ((dI a0.ag.az a0.ag.ac (av.mk x3.1.aS a2.bw a2.bO 1)).bind fun x5 => if (x5.2 != 0) = true then (some ((av.mk (aa.mk 0 0 0) 0 0 0), (al.mk 0 0 (bg.mk 0 0) (aa.mk 0 0 0) (aM.mk [])), false)) else (some ((av.mk x3.1.aS a2.bw a2.bO 1), x3.1, true))))
def gD (x5 : (List aq)) (a0 : aG) (a1 : aC) : (Int × (List aq) × (List av) × (List al)) → Option (oP (Int × (List aq) × (List av) × (List al)) ((List aq) × (List av) × (List al))) := fun (s6, s7, s8, s9) =>
  if (decide (s6 < (x5.length : Int))) = true then ((oT x5 s6).bind fun x15 => (cw a0 a1 x15).bind fun x16 => if x16.2.2 = true then ((pS s7 [x15] 104).bind fun x18 => (pS s8 [x16.1] 48).bind fun x19 => (pS s9 [x16.2.1] 80).bind fun x20 => some (.next ((IntKind.wrap .i64 (s6 + 1)), x18, x19, x20))) else (some (.next ((IntKind.wrap .i64 (s6 + 1)), s7, s8, s9)))) else (some (.stop (s7, s8, s9)))
def fI (a0 : aG) (a1 : aC) (a2 : (List aq)) : Option (a7 × Int) :=
  (eM a0).bind fun x1 => if (x1 != 0) = true then (some ((a7.mk [] [] []), 27)) else ((da a1).bind fun x3 => if (!x3) = true then (some ((a7.mk [] [] []), 1)) else ((eJ a2).bind fun x5 => (e8 (gD x5 a0 a1) (0, ([] : (List aq)), ([] : (List av)), ([] : (List al)))).bind fun o22 => some ((a7.mk o22.1 o22.2.1 o22.2.2), 0)))
def gw (a0 : a7) (a1 : aG) : Option (aw × Int) :=
  if ((a0.b8.length : Int) == 0) = true then (some ((aw.mk (ai.mk (aa.mk 0 0 0) (aa.mk 0 0 0)) (aK.mk 0 [] []) [] 0), 24)) else (if (decide ((a0.b8.length : Int) > 64)) = true then (some ((aw.mk (ai.mk (aa.mk 0 0 0) (aa.mk 0 0 0)) (aK.mk 0 [] []) [] 0), 8)) else ((p9 8 a1.ag.az.ak).bind fun x3 => (p9 8 a1.ag.az.ae).bind fun x4 => some ((aw.mk a1.ag.ac (aK.mk a1.ag.az.aU x3 x4) a0.b8 a1.ag.bG), 0)))
def jU (a0 : aw) : Int → Option (oP (Int) ((Unit) ⊕ (Int))) := fun s9 =>
  if (decide (s9 < (a0.aY.length : Int))) = true then ((oT a0.aY s9).bind fun x12 => (dI a0.az a0.ac x12).bind fun x13 => if (x13.2 != 0) = true then (some (.stop (.inr x13.2))) else (some (.next (IntKind.wrap .i64 (s9 + 1))))) else (some (.stop (.inl ())))
def fG (a0 : aw) : Option (Int) :=
  (bu a0.ac).bind fun x1 => if (!x1) = true then (some 20) else ((b7 a0.az).bind fun x3 => if (x3 != 0) = true then (some x3) else (if ((a0.aY.length : Int) == 0) = true then (some 24) else (if (decide ((a0.aY.length : Int) > 64)) = true then (some 8) else (if (decide (a0.bG < 1)) = true then (some 2) else (if (decide (a0.bG > 1099511627776)) = true then (some 2) else ((e8 (jU a0) 0).bind fun o16 => match o16 with | .inl _ => (some 0) | .inr r18 => (some r18)))))))
def eA (a0 : ai) (a1 : aa) : Option (Bool) :=
  (bu a0).bind fun x1 => if x1 = true then ((bW a1).bind fun x3 => if x3 = true then ((dl a0 a1).bind fun x5 => some (x5 == 0)) else (some false)) else (some false)
def gQ (a0 : ai) (a1 : ai) : Option (Bool) :=
  (bu a0).bind fun x1 => if x1 = true then ((eA a1 a0.ak).bind fun x3 => if x3 = true then ((eA a1 a0.ae).bind fun x5 => some x5) else (some false)) else (some false)
def lE (a0 : aw) (a1 : ai) : (Int × (List aN)) → Option (oP (Int × (List aN)) (((List aN)) ⊕ ((List aN) × Int))) := fun (s2, s3) =>
  if (decide (s2 < (a0.aY.length : Int))) = true then ((oT a0.aY s2).bind fun x7 => (dI a0.az a1 x7).bind fun x8 => if (x8.2 != 0) = true then (some (.stop (.inr (([] : (List aN)), x8.2)))) else ((pS s3 [x8.1] 16).bind fun x10 => some (.next ((IntKind.wrap .i64 (s2 + 1)), x10)))) else (some (.stop (.inl s3)))
def lV (a0 : aw) (a1 : ai) : Option ((List aN) × Int) :=
  (mkCO 0 (a0.aY.length : Int) (aN.mk 0 0) 16).bind fun x1 => (e8 (lE a0 a1) (0, x1)).bind fun o12 => match o12 with | .inl y13 => (some (y13, 0)) | .inr r14 => (some r14)
def iC (a0 : aw) (a1 : ai) : Option ((List aN) × Int) :=
  (fG a0).bind fun x1 => if (x1 != 0) = true then (some (([] : (List aN)), x1)) else ((gQ a1 a0.ac).bind fun x3 => if (!x3) = true then (some (([] : (List aN)), 20)) else ((lV a0 a1).bind fun x5 => some (x5.1, x5.2)))
def jK (a0 : aN) (a1 : Int) : Option (Int) :=
  some (if 0 > (if (IntKind.wrap .i64 (a1 - a0.fTo)) > (IntKind.wrap .i64 (a0.bB - a1)) then (IntKind.wrap .i64 (a1 - a0.fTo)) else (IntKind.wrap .i64 (a0.bB - a1))) then 0 else (if (IntKind.wrap .i64 (a1 - a0.fTo)) > (IntKind.wrap .i64 (a0.bB - a1)) then (IntKind.wrap .i64 (a1 - a0.fTo)) else (IntKind.wrap .i64 (a0.bB - a1))))
def mg (a0 : aw) (a1 : (List aN)) (a2 : Int) : (Int × Int) → Option (oP (Int × Int) (Int)) := fun (s1, s2) =>
  if (decide (s2 < (a0.aY.length : Int))) = true then ((oT a0.aY s2).bind fun x6 => if (decide (s2 < (a1.length : Int))) = true then ((oT a1 s2).bind fun x8 => (jK x8 a2).bind fun x9 => some (.next ((IntKind.wrap .i64 (s1 + (IntKind.wrap .i64 (x6.gn * (if x9 < a0.bG then x9 else a0.bG))))), (IntKind.wrap .i64 (s2 + 1))))) else (some (.next (s1, (IntKind.wrap .i64 (s2 + 1)))))) else (some (.stop s1))
def jv (a0 : aw) (a1 : (List aN)) (a2 : Int) : Option (Int) :=
  (e8 (mg a0 a1 a2) (0, 0)).bind fun o11 => some o11
def mP (a1 : (List aN)) : (Int × (List Int)) → Option (oP (Int × (List Int)) ((List Int))) := fun (s2, s3) =>
  if (decide (s2 < (a1.length : Int))) = true then ((oT a1 s2).bind fun x7 => (pS s3 [x7.bB, x7.fTo] 8).bind fun x8 => some (.next ((IntKind.wrap .i64 (s2 + 1)), x8))) else (some (.stop s3))
def me (x20 : Int) (o10 : (List Int)) (a0 : aw) (a1 : (List aN)) : (Int × Int × Int) → Option (oP (Int × Int × Int) (Int × Int)) := fun (s21, s22, s23) =>
  if (decide (s23 < x20)) = true then ((inV o10.length (0 + (1 : Int).toNat) (0 + ((o10.length : Int) : Int).toNat) s23).bind fun _ => (oT o10 (((0 + (1 : Int).toNat) + (s23 : Int).toNat : Nat) : Int)).bind fun x29 => (jv a0 a1 x29).bind fun x30 => if (decide (x30 < s22)) = true then (some (.next (x29, x30, (IntKind.wrap .i64 (s23 + 1))))) else (if (x30 == s22) = true then (if (decide (x29 < s21)) = true then (some (.next (x29, x30, (IntKind.wrap .i64 (s23 + 1))))) else (some (.next (s21, s22, (IntKind.wrap .i64 (s23 + 1)))))) else (some (.next (s21, s22, (IntKind.wrap .i64 (s23 + 1))))))) else (some (.stop (s21, s22)))
def ju (a0 : aw) (a1 : (List aN)) : Option (Int × Int) :=
  (mkCO 0 (IntKind.wrap .i64 (2 * (a1.length : Int))) 0 8).bind fun x1 => (e8 (mP a1) (0, x1)).bind fun o10 => if ((o10.length : Int) == 0) = true then (some (0, 0)) else ((inO o10 0).bind fun _ => (oT o10 0).bind fun x14 => (inO o10 0).bind fun _ => (oT o10 0).bind fun x17 => (jv a0 a1 x17).bind fun x18 => (vz o10.length 1 (o10.length : Int)).bind fun _ => (lenV o10.length (0 + (1 : Int).toNat) (0 + ((o10.length : Int) : Int).toNat)).bind fun x20 => (e8 (me x20 o10 a0 a1) (x14, x18, 0)).bind fun o35 => some (o35.1, o35.2))
def iB (a0 : aw) (a1 : ai) : Option (Int × Int) :=
  (iC a0 a1).bind fun x1 => if (x1.2 != 0) = true then (some (0, x1.2)) else ((ju a0 x1.1).bind fun x3 => some (x3.2, 0))
def nY (a0 : ah) (e1 : aw) (e2 : Int) (e3 : Int) (e4 : Bool) (e5 : aF) : Option ((List ah)) :=
  (pS ([] : List ah) [a0] 64).bind fun x1 => some x1
def hJ (d0 : (List ah)) : Option (Int × (List ah)) :=
  some ((d0.length : Int), d0)
def iZ (a1 : Int) (a2 : Int) (d0 : (List ah)) : Option ((List ah)) :=
  (inO d0 a2).bind fun _ => (oT d0 a2).bind fun x3 => (inO d0 a1).bind fun _ => (oT d0 a1).bind fun x6 => (inO d0 a1).bind fun _ => (tg d0 a1 x3).bind fun x9 => (inO x9 a2).bind fun _ => (tg x9 a2 x6).bind fun x12 => some x12
def ij (a1 : Int) (a2 : Int) (d0 : (List ah)) : Option (Bool × (List ah)) :=
  (inO d0 a1).bind fun _ => (oT d0 a1).bind fun x3 => (inO d0 a2).bind fun _ => (oT d0 a2).bind fun x6 => (bF x3.dt x6.dt).bind fun x7 => (inO d0 a1).bind fun _ => (oT d0 a1).bind fun x10 => (inO d0 a2).bind fun _ => (oT d0 a2).bind fun x13 => (bF x10.fo x13.fo).bind fun x14 => (cL [x7, x14]).bind fun x15 => some ((decide (x15 < 0)), d0)
def mE  : (Int × (List ah)) → Option (oP (Int × (List ah)) ((List ah))) := fun (s1, s2) =>
  (qd .i64 (IntKind.wrap .i64 (s1 - 1)) 2).bind fun x4 => if (x4 == s1) = true then ((some s2).bind fun z6 => some (.stop z6)) else ((ij s1 x4 s2).bind fun x7 => if (!x7.1) = true then ((some x7.2).bind fun z9 => some (.stop z9)) else ((iZ x4 s1 x7.2).bind fun x10 => some (.next (x4, x10))))
def oz (a0 : Int) (e1 : aw) (e2 : Int) (e3 : Int) (e4 : Bool) (e5 : aF) (d1 : (List ah)) : Option ((List ah)) :=
  (e8 (mE) (a0, d1)).bind fun o12 => some o12
def nd (a0 : ah) (e1 : aw) (e2 : Int) (e3 : Int) (e4 : Bool) (e5 : aF) : Option ((List ah)) :=
  (nY a0 e1 e2 e3 e4 e5).bind fun x1 => (hJ x1).bind fun x2 => (oz (IntKind.wrap .i64 (x2.1 - 1)) e1 e2 e3 e4 e5 x2.2).bind fun x3 => some x3
def jo (x1 : Int × Int) (j2 : Int) (j3 : (List ah)) : Option (Int × (List ah) × Int) :=
  some (x1.2, j3, j2)
def l6 (a0 : ai) (e1 : aw) (e2 : Int) (e3 : Int) (e4 : Bool) (e5 : aF) : Option (Int × (List ah) × Int) :=
  (iB e1 a0).bind fun x1 => if (x1.2 == 0) = true then ((nd (ah.mk a0 x1.1 e2) e1 e2 e3 e4 e5).bind fun x6 => jo x1 (IntKind.wrap .i64 (e2 + 1)) x6) else (jo x1 e2 ([] : List ah))
def kb (a0 : Int) (e1 : aw) (e2 : Int) (e3 : Int) (e4 : Bool) (e5 : aF) (d1 : (List ah)) : Option (Bool) :=
  if ((d1.length : Int) == 0) = true then (some true) else (if e4 = true then ((inO d1 0).bind fun _ => (oT d1 0).bind fun x5 => some (decide ((IntKind.wrap .i64 (e5.aT - x5.dt)) ≤ a0))) else (some false))
def fM (s1 : Int) (j8 : Int) (j9 : (List ah)) : Option (oP (Int × (List ah)) (Int × (List ah))) :=
  (ij j8 s1 j9).bind fun x10 => if (!x10.1) = true then (some (.stop (s1, x10.2))) else ((iZ s1 j8 x10.2).bind fun x12 => some (.next (j8, x12)))
def nI (a1 : Int) : (Int × (List ah)) → Option (oP (Int × (List ah)) (Int × (List ah))) := fun (s1, s2) =>
  if (decide ((IntKind.wrap .i64 ((IntKind.wrap .i64 (2 * s1)) + 1)) ≥ a1)) = true then (some (.stop (s1, s2))) else (if (decide ((IntKind.wrap .i64 ((IntKind.wrap .i64 (2 * s1)) + 1)) < 0)) = true then (some (.stop (s1, s2))) else (if (decide ((IntKind.wrap .i64 ((IntKind.wrap .i64 ((IntKind.wrap .i64 (2 * s1)) + 1)) + 1)) < a1)) = true then ((ij (IntKind.wrap .i64 ((IntKind.wrap .i64 ((IntKind.wrap .i64 (2 * s1)) + 1)) + 1)) (IntKind.wrap .i64 ((IntKind.wrap .i64 (2 * s1)) + 1)) s2).bind fun x15 => if x15.1 = true then (fM s1 (IntKind.wrap .i64 ((IntKind.wrap .i64 ((IntKind.wrap .i64 (2 * s1)) + 1)) + 1)) x15.2) else (fM s1 (IntKind.wrap .i64 ((IntKind.wrap .i64 (2 * s1)) + 1)) x15.2)) else (fM s1 (IntKind.wrap .i64 ((IntKind.wrap .i64 (2 * s1)) + 1)) s2)))
def nf (a0 : Int) (a1 : Int) (e2 : aw) (e3 : Int) (e4 : Int) (e5 : Bool) (e6 : aF) (d1 : (List ah)) : Option (Bool × (List ah)) :=
  (e8 (nI a1) (a0, d1)).bind fun o18 => some ((decide (o18.1 > a0)), o18.2)
def queue_Pop (e0 : aw) (e1 : Int) (e2 : Int) (e3 : Bool) (e4 : aF) (d1 : (List ah)) : Option (ah × (List ah)) :=
  (inO d1 (IntKind.wrap .i64 ((d1.length : Int) - 1))).bind fun _ => (oT d1 (IntKind.wrap .i64 ((d1.length : Int) - 1))).bind fun x3 => (vz d1.length 0 (IntKind.wrap .i64 ((d1.length : Int) - 1))).bind fun _ => some (x3, (d1.take ((IntKind.wrap .i64 ((d1.length : Int) - 1)) : Int).toNat))
def ow (e0 : aw) (e1 : Int) (e2 : Int) (e3 : Bool) (e4 : aF) (d1 : (List ah)) : Option (ah × (List ah)) :=
  (hJ d1).bind fun x1 => (iZ 0 (IntKind.wrap .i64 (x1.1 - 1)) x1.2).bind fun x2 => (nf 0 (IntKind.wrap .i64 (x1.1 - 1)) e0 e1 e2 e3 e4 x2).bind fun x3 => (queue_Pop e0 e1 e2 e3 e4 x3.2).bind fun x4 => some (x4.1, x4.2)
def bP (a0 : Int) (a1 : Int) : Option (Int) :=
  (qd .i64 (IntKind.wrap .i64 (a1 - a0)) 2).bind fun x1 => some (IntKind.wrap .i64 (a0 + x1))
def bA (a0 : aW) : Option (aa) :=
  some (aa.mk a0.a0 a0.a1 a0.a2)
def gO (a0 : ai) : Option (aa) :=
  (bu a0).bind fun x1 => if (!x1) = true then (some (aa.mk 0 0 0)) else ((bq a0.ak).bind fun x3 => (bq a0.ae).bind fun x4 => (bP x3.a0 x4.a0).bind fun x5 => (bP x3.a1 x4.a1).bind fun x6 => (bP x3.a2 x4.a2).bind fun x7 => (bA (aW.mk x5 x6 x7)).bind fun x8 => some x8)
def nh (a0 : aw) (a1 : aa) : Option (Int × Int × Int) :=
  (iC a0 (ai.mk a1 a1)).bind fun x1 => if (x1.2 != 0) = true then (some (0, 0, x1.2)) else ((ju a0 x1.1).bind fun x3 => some (x3.1, x3.2, 0))
def gp (a0 : aa) (a1 : aa) : Option (Int) :=
  (bF a0.fX a1.fX).bind fun x1 => (bF a0.fY a1.fY).bind fun x2 => (bF a0.fZ a1.fZ).bind fun x3 => (cL [x1, x2, x3]).bind fun x4 => some x4
def lc (a0 : ai) (e1 : aw) (e2 : Int) (e3 : Int) (e4 : Bool) (e5 : aF) (d1 : (List ah)) : Option (Int × Bool × aF) :=
  (gO a0).bind fun x1 => (nh e1 x1).bind fun x2 => if (x2.2.2 != 0) = true then (some (x2.2.2, e4, e5)) else (if (!e4) = true then (some (0, true, (aF.mk x1 x2.1 x2.2.1 0 (ai.mk (aa.mk 0 0 0) (aa.mk 0 0 0))))) else (if (decide (x2.2.1 < e5.aT)) = true then (some (0, true, (aF.mk x1 x2.1 x2.2.1 0 (ai.mk (aa.mk 0 0 0) (aa.mk 0 0 0))))) else (if (x2.2.1 == e5.aT) = true then ((gp x1 e5.aD).bind fun x7 => if (decide (x7 < 0)) = true then (some (0, true, (aF.mk x1 x2.1 x2.2.1 0 (ai.mk (aa.mk 0 0 0) (aa.mk 0 0 0))))) else (some (0, e4, e5))) else (some (0, e4, e5)))))
def gP (a0 : ai) : Option (Int) :=
  (bu a0).bind fun x1 => if (!x1) = true then (some 0) else ((bq a0.ae).bind fun x3 => (bq a0.ak).bind fun x4 => some (IntKind.wrap .i64 ((IntKind.wrap .i64 ((IntKind.wrap .i64 (1 * (IntKind.wrap .i64 ((IntKind.wrap .i64 (x3.a0 - x4.a0)) + 1)))) * (IntKind.wrap .i64 ((IntKind.wrap .i64 (x3.a1 - x4.a1)) + 1)))) * (IntKind.wrap .i64 ((IntKind.wrap .i64 (x3.a2 - x4.a2)) + 1)))))
def iv (a0 : ai) : Option (ai × ai × Bool) :=
  (gP a0).bind fun x1 => if (decide (x1 < 2)) = true then (some ((ai.mk (aa.mk 0 0 0) (aa.mk 0 0 0)), (ai.mk (aa.mk 0 0 0) (aa.mk 0 0 0)), false)) else ((bq a0.ak).bind fun x3 => (bq a0.ae).bind fun x4 => if (decide ((IntKind.wrap .i64 (x4.a1 - x3.a1)) > (IntKind.wrap .i64 (x4.a0 - x3.a0)))) = true then (if (decide ((IntKind.wrap .i64 (x4.a2 - x3.a2)) > (IntKind.wrap .i64 (x4.a1 - x3.a1)))) = true then ((bP x3.a2 x4.a2).bind fun x7 => (bA (aW.mk x4.a0 x4.a1 x7)).bind fun x8 => (bA (aW.mk x3.a0 x3.a1 (IntKind.wrap .i64 (x7 + 1)))).bind fun x9 => some ((ai.mk a0.ak x8), (ai.mk x9 a0.ae), true)) else ((bP x3.a1 x4.a1).bind fun x10 => (bA (aW.mk x4.a0 x10 x4.a2)).bind fun x11 => (bA (aW.mk x3.a0 (IntKind.wrap .i64 (x10 + 1)) x3.a2)).bind fun x12 => some ((ai.mk a0.ak x11), (ai.mk x12 a0.ae), true))) else (if (decide ((IntKind.wrap .i64 (x4.a2 - x3.a2)) > (IntKind.wrap .i64 (x4.a0 - x3.a0)))) = true then ((bP x3.a2 x4.a2).bind fun x14 => (bA (aW.mk x4.a0 x4.a1 x14)).bind fun x15 => (bA (aW.mk x3.a0 x3.a1 (IntKind.wrap .i64 (x14 + 1)))).bind fun x16 => some ((ai.mk a0.ak x15), (ai.mk x16 a0.ae), true)) else ((bP x3.a0 x4.a0).bind fun x17 => (bA (aW.mk x17 x4.a1 x4.a2)).bind fun x18 => (bA (aW.mk (IntKind.wrap .i64 (x17 + 1)) x3.a1 x3.a2)).bind fun x19 => some ((ai.mk a0.ak x18), (ai.mk x19 a0.ae), true))))
def mU (a0 : ah) (e1 : aw) (e2 : Int) (e3 : Int) (e4 : Bool) (e5 : aF) (d1 : (List ah)) : Option ((List ah)) :=
  (pS d1 [a0] 64).bind fun x1 => some x1
def lO (a0 : ah) (e1 : aw) (e2 : Int) (e3 : Int) (e4 : Bool) (e5 : aF) (d1 : (List ah)) : Option ((List ah)) :=
  (mU a0 e1 e2 e3 e4 e5 d1).bind fun x1 => (hJ x1).bind fun x2 => (oz (IntKind.wrap .i64 (x2.1 - 1)) e1 e2 e3 e4 e5 x2.2).bind fun x3 => some x3
def iI (x1 : Int × Int) (j2 : Int) (j3 : (List ah)) : Option (Int × Int × (List ah)) :=
  some (x1.2, j2, j3)
def jx (a0 : ai) (e1 : aw) (e2 : Int) (e3 : Int) (e4 : Bool) (e5 : aF) (d1 : (List ah)) : Option (Int × Int × (List ah)) :=
  (iB e1 a0).bind fun x1 => if (x1.2 == 0) = true then ((lO (ah.mk a0 x1.1 e2) e1 e2 e3 e4 e5 d1).bind fun x6 => iI x1 (IntKind.wrap .i64 (e2 + 1)) x6) else (iI x1 e2 d1)
def ld (e0 : aw) (e1 : Int) (e2 : Int) (e3 : Bool) (e4 : aF) (d1 : (List ah)) : Option (Int × Int × Int × Bool × aF × (List ah)) :=
  if (e2 == 3000) = true then (some (25, e1, e2, e3, e4, d1)) else ((inO d1 0).bind fun _ => (oT d1 0).bind fun x4 => (ow e0 e1 e2 e3 e4 d1).bind fun x5 => (lc x4.jZ e0 e1 (IntKind.wrap .i64 (e2 + 1)) e3 e4 x5.2).bind fun x6 => if (x6.1 != 0) = true then (some (x6.1, e1, (IntKind.wrap .i64 (e2 + 1)), x6.2.1, x6.2.2, x5.2)) else ((iv x4.jZ).bind fun x8 => if (!x8.2.2) = true then (some (0, e1, (IntKind.wrap .i64 (e2 + 1)), x6.2.1, x6.2.2, x5.2)) else ((jx x8.1 e0 e1 (IntKind.wrap .i64 (e2 + 1)) x6.2.1 x6.2.2 x5.2).bind fun x10 => if (x10.1 != 0) = true then (some (x10.1, x10.2.1, (IntKind.wrap .i64 (e2 + 1)), x6.2.1, x6.2.2, x10.2.2)) else ((jx x8.2.1 e0 x10.2.1 (IntKind.wrap .i64 (e2 + 1)) x6.2.1 x6.2.2 x10.2.2).bind fun x12 => some (x12.1, x12.2.1, (IntKind.wrap .i64 (e2 + 1)), x6.2.1, x6.2.2, x12.2.2)))))
def kE (a1 : Int) (a0 : aw) : (Int × Int × Bool × aF × (List ah)) → Option (oP (Int × Int × Bool × aF × (List ah)) (((List ah) × Int × Int × Bool × aF) ⊕ ((Option bD) × Int))) := fun (s6, s7, s8, s9, s10) =>
  (kb a1 a0 s6 s7 s8 s9 s10).bind fun x17 => if (!x17) = true then ((ld a0 s6 s7 s8 s9 s10).bind fun x19 => if (x19.1 != 0) = true then (some (.stop (.inr (none, x19.1)))) else (some (.next (x19.2.1, x19.2.2.1, x19.2.2.2.1, x19.2.2.2.2.1, x19.2.2.2.2.2)))) else (some (.stop (.inl (s10, s6, s7, s8, s9))))
def iU (a0 : aw) (a1 : Int) : Option ((Option bD) × Int) :=
  (fG a0).bind fun x1 => if (x1 != 0) = true then (some (none, x1)) else (if (decide (a1 < 0)) = true then (some (none, 2)) else ((l6 a0.ac a0 0 0 false (aF.mk (aa.mk 0 0 0) 0 0 0 (ai.mk (aa.mk 0 0 0) (aa.mk 0 0 0)))).bind fun x4 => if (x4.1 != 0) = true then (some (none, x4.1)) else ((e8 (kE a1 a0) (x4.2.2, 0, false, (aF.mk (aa.mk 0 0 0) 0 0 0 (ai.mk (aa.mk 0 0 0) (aa.mk 0 0 0))), x4.2.1)).bind fun o22 => match o22 with | .inl y23 => (some ((some (bD.mk a0 y23.1 y23.2.1 y23.2.2.1 y23.2.2.2.1 (aF.mk (aa.mk y23.2.2.2.2.aD.fX y23.2.2.2.2.aD.fY y23.2.2.2.2.aD.fZ) y23.2.2.2.2.a8 y23.2.2.2.2.aT y23.2.2.2.2.bd (ai.mk (aa.mk y23.2.2.2.2.au.ak.fX y23.2.2.2.2.au.ak.fY y23.2.2.2.2.au.ak.fZ) (aa.mk y23.2.2.2.2.au.ae.fX y23.2.2.2.2.au.ae.fY y23.2.2.2.2.au.ae.fZ))))), 0)) | .inr r24 => (some r24))))
def jk (a0 : ai) (a1 : ai) : Option (ai) :=
  (bu a0).bind fun x1 => if (!x1) = true then (some (ai.mk (aa.mk 0 0 0) (aa.mk 0 0 0))) else ((bu a1).bind fun x3 => if (!x3) = true then (some (ai.mk (aa.mk 0 0 0) (aa.mk 0 0 0))) else ((bq a0.ak).bind fun x5 => (bq a0.ae).bind fun x6 => (bq a1.ak).bind fun x7 => (bq a1.ae).bind fun x8 => (bA (aW.mk (if x7.a0 < x5.a0 then x7.a0 else x5.a0) (if x7.a1 < x5.a1 then x7.a1 else x5.a1) (if x7.a2 < x5.a2 then x7.a2 else x5.a2))).bind fun x9 => (bA (aW.mk (if x8.a0 > x6.a0 then x8.a0 else x6.a0) (if x8.a1 > x6.a1 then x8.a1 else x6.a1) (if x8.a2 > x6.a2 then x8.a2 else x6.a2))).bind fun x10 => some (ai.mk x9 x10)))
def kY (y2 : bD) : (Int × Int × ai) → Option (oP (Int × Int × ai) (Int × ai)) := fun (s5, s6, s7) =>
  if (decide (s5 < (y2.mC.length : Int))) = true then ((oT y2.mC s5).bind fun x12 => if (decide (x12.dt < y2.br.aT)) = true then ((jk s7 x12.jZ).bind fun x14 => some (.next ((IntKind.wrap .i64 (s5 + 1)), (if x12.dt < s6 then x12.dt else s6), x14))) else (some (.next ((IntKind.wrap .i64 (s5 + 1)), (if x12.dt < s6 then x12.dt else s6), s7)))) else (some (.stop (s6, s7)))
def gK (a0 : aw) (a1 : Int) : Option (aF × Int) :=
  (iU a0 a1).bind fun x1 => optC x1.1 (if (x1.2 != 0) = true then (some ((aF.mk (aa.mk 0 0 0) 0 0 0 (ai.mk (aa.mk 0 0 0) (aa.mk 0 0 0))), x1.2)) else (none)) (fun y2 => if (x1.2 != 0) = true then (some ((aF.mk (aa.mk 0 0 0) 0 0 0 (ai.mk (aa.mk 0 0 0) (aa.mk 0 0 0))), x1.2)) else ((e8 (kY y2) (0, y2.br.aT, (ai.mk y2.br.aD y2.br.aD))).bind fun o16 => some ((aF.mk y2.br.aD y2.br.a8 y2.br.aT o16.1 (ai.mk (aa.mk o16.2.ak.fX o16.2.ak.fY o16.2.ak.fZ) (aa.mk o16.2.ae.fX o16.2.ae.fY o16.2.ae.fZ))), 0)))
def nat_From_l9  : (Int × (List Int)) → Option (oP (Int × (List Int)) ((List Int))) := fun (s2, s3) =>
  if (decide (s2 > 0)) = true then ((vj s2 1073741824).bind fun x7 => (pS s3 [x7] 8).bind fun x8 => some (.next ((pe .i64 s2 30), x8))) else (some (.stop s3))
def oD (a0 : Int) : Option ((List Int) × Int) :=
  if (decide (a0 < 0)) = true then (some (([] : (List Int)), 2)) else ((e8 (nat_From_l9) (a0, ([] : (List Int)))).bind fun o10 => some (o10, 0))
def kH (a0 : Int) : Option (Bool) :=
  if (decide (a0 < 0)) = true then (some true) else (some (decide (a0 ≥ 1073741824)))
def fh (a0 : (List Int)) : Int → Option (oP (Int) ((Unit) ⊕ (Int))) := fun s1 =>
  if (decide (s1 < (a0.length : Int))) = true then ((oT a0 s1).bind fun x4 => (kH x4).bind fun x5 => if x5 = true then (some (.stop (.inr s1))) else (some (.next (IntKind.wrap .i64 (s1 + 1))))) else (some (.stop (.inl ())))
def eh (a0 : (List Int)) : Option (Int) :=
  (e8 (fh a0) 0).bind fun o8 => match o8 with | .inl _ => (some (-1)) | .inr r10 => (some r10)
def bV (a0 : (List Int)) : Option (Bool) :=
  (eh a0).bind fun x1 => some (decide (x1 ≥ 0))
def ig (a0 : (List Int)) : Option (Bool) :=
  if (decide ((a0.length : Int) > 64)) = true then (some false) else (if (decide ((a0.length : Int) > 0)) = true then ((oT a0 (IntKind.wrap .i64 ((a0.length : Int) - 1))).bind fun x3 => if (x3 == 0) = true then (some false) else ((bV a0).bind fun x5 => some (!x5))) else ((bV a0).bind fun x6 => some (!x6)))
def mS (a0 : (List Int)) (a1 : (List Int)) : Option (Bool) :=
  (ig a0).bind fun x1 => if x1 = true then ((ig a1).bind fun x3 => some x3) else (some false)
def kd (a0 : (List Int)) (a1 : Int) : Option (Int) :=
  if (decide (a1 ≥ (a0.length : Int))) = true then (some 0) else ((oT a0 a1).bind fun x2 => some x2)
def nat_trim_l8  : (List Int) → Option (oP ((List Int)) ((List Int))) := fun s1 =>
  if (decide ((s1.length : Int) > 0)) = true then ((oT s1 (IntKind.wrap .i64 ((s1.length : Int) - 1))).bind fun x5 => if (x5 == 0) = true then ((cutO s1 0 (IntKind.wrap .i64 ((s1.length : Int) - 1))).bind fun x7 => some (.next x7)) else (some (.stop s1))) else (some (.stop s1))
def mT (a0 : (List Int)) : Option ((List Int)) :=
  (e8 (nat_trim_l8) a0).bind fun o9 => some o9
def lF (a1 : (List Int)) (s2 : Int) (x7 : Int) : (Int × Int × (List Int)) → Option (oP (Int × Int × (List Int)) (Int × (List Int))) := fun (s8, s9, s10) =>
  if (decide (s9 < (IntKind.wrap .i64 ((a1.length : Int) + 1)))) = true then (if (decide ((IntKind.wrap .i64 (s2 + s9)) < (s10.length : Int))) = true then ((inO s10 (IntKind.wrap .i64 (s2 + s9))).bind fun _ => (oT s10 (IntKind.wrap .i64 (s2 + s9))).bind fun x18 => (kd a1 s9).bind fun x19 => (vj (IntKind.wrap .i64 (s8 + (IntKind.wrap .i64 (x18 + (IntKind.wrap .i64 (x7 * x19)))))) 1073741824).bind fun x20 => (inO s10 (IntKind.wrap .i64 (s2 + s9))).bind fun _ => (tg s10 (IntKind.wrap .i64 (s2 + s9)) x20).bind fun x23 => some (.next ((pe .i64 (IntKind.wrap .i64 (s8 + (IntKind.wrap .i64 (x18 + (IntKind.wrap .i64 (x7 * x19)))))) 30), (IntKind.wrap .i64 (s9 + 1)), x23))) else (some (.next (s8, (IntKind.wrap .i64 (s9 + 1)), s10)))) else (some (.stop (s2, s10)))
def lG (a0 : (List Int)) (a1 : (List Int)) : (Int × (List Int)) → Option (oP (Int × (List Int)) ((List Int))) := fun (s2, s3) =>
  if (decide (s2 < (a0.length : Int))) = true then ((oT a0 s2).bind fun x7 => (e8 (lF a1 s2 x7) (0, 0, s3)).bind fun o25 => some (.next ((IntKind.wrap .i64 (o25.1 + 1)), o25.2))) else (some (.stop s3))
def gx (a0 : (List Int)) (a1 : (List Int)) : Option ((List Int)) :=
  (mkO (IntKind.wrap .i64 ((a0.length : Int) + (a1.length : Int))) 0 8).bind fun x1 => (e8 (lG a0 a1) (0, x1)).bind fun o27 => (mT o27).bind fun x28 => some x28
def ge (a0 : (List Int)) : Option ((List Int) × Int) :=
  (mT a0).bind fun x1 => if (decide ((x1.length : Int) > 64)) = true then (some (([] : (List Int)), 8)) else (some (x1, 0))
def nat_Mul (a0 : (List Int)) (a1 : (List Int)) : Option ((List Int) × Int) :=
  (mS a0 a1).bind fun x1 => if (!x1) = true then (some (([] : (List Int)), 1)) else ((gx a0 a1).bind fun x3 => (ge x3).bind fun x4 => some (x4.1, x4.2))
def cx (a0 : Int) : Option ((List Int)) :=
  (oD (if (IntKind.wrap .i64 (0 - a0)) > a0 then (IntKind.wrap .i64 (0 - a0)) else a0)).bind fun x1 => (nat_Mul x1.1 x1.1).bind fun x2 => some x2.1
def nat_Add_l13 (a1 : (List Int)) (a0 : (List Int)) : (Int × Int × (List Int)) → Option (oP (Int × Int × (List Int)) ((List Int))) := fun (s3, s4, s5) =>
  if (decide (s4 < (IntKind.wrap .i64 ((if (a1.length : Int) > (a0.length : Int) then (a1.length : Int) else (a0.length : Int)) + 1)))) = true then ((kd a0 s4).bind fun x9 => (kd a1 s4).bind fun x10 => (vj (IntKind.wrap .i64 (s3 + (IntKind.wrap .i64 (x9 + x10)))) 1073741824).bind fun x11 => (pS s5 [x11] 8).bind fun x12 => some (.next ((pe .i64 (IntKind.wrap .i64 (s3 + (IntKind.wrap .i64 (x9 + x10)))) 30), (IntKind.wrap .i64 (s4 + 1)), x12))) else (some (.stop s5))
def nat_Add (a0 : (List Int)) (a1 : (List Int)) : Option ((List Int) × Int) :=
  (mS a0 a1).bind fun x1 => if (!x1) = true then (some (([] : (List Int)), 1)) else ((e8 (nat_Add_l13 a1 a0) (0, 0, ([] : (List Int)))).bind fun o14 => (ge o14).bind fun x15 => some (x15.1, x15.2))
def fd (a0 : aW) (a1 : Int) (a2 : Int) : Option ((List Int)) :=
  (cx (IntKind.wrap .i64 ((IntKind.wrap .i64 ((IntKind.wrap .i64 (a0.a0 * a2)) * a2)) - (IntKind.wrap .i64 ((IntKind.wrap .i64 (a0.a2 * a1)) * a1))))).bind fun x1 => (cx (IntKind.wrap .i64 ((IntKind.wrap .i64 (a0.a1 * a1)) * a2))).bind fun x2 => (nat_Add x1 x2).bind fun x3 => some x3.1
def jn (a0 : aB) (a1 : Int) (a2 : Int) : Option (aP × Bool) :=
  if (a0.ep == 0) = true then ((cx a0.bj.a0).bind fun x2 => (cx a0.bh.a0).bind fun x3 => some ((aP.mk x2 x3), true)) else (if (a0.ep == 1) = true then ((fd a0.bj a1 a2).bind fun x5 => (fd a0.bh a1 a2).bind fun x6 => some ((aP.mk x5 x6), (decide ((x6.length : Int) > 0)))) else ((cQ a0.cN).bind fun x7 => (cx x7).bind fun x8 => (vW .i64 1 a0.cM).bind fun x9 => (cx x9).bind fun x10 => some ((aP.mk x8 x10), true)))
def eI (a0 : aP) : Option (Bool) :=
  (ig a0.bj).bind fun x1 => if x1 = true then ((ig a0.bh).bind fun x3 => if x3 = true then (some (decide ((a0.bh.length : Int) > 0))) else (some false)) else (some false)
def ni (a0 : aP) (a1 : aP) : Option (aP × Int) :=
  (eI a0).bind fun x1 => if (!x1) = true then (some ((aP.mk [] []), 1)) else ((eI a1).bind fun x3 => if (!x3) = true then (some ((aP.mk [] []), 1)) else ((gx a0.bj a1.bj).bind fun x5 => (ge x5).bind fun x6 => (gx a0.bh a1.bh).bind fun x7 => (ge x7).bind fun x8 => if (x6.2 != 0) = true then (some ((aP.mk [] []), 8)) else (if (x8.2 != 0) = true then (some ((aP.mk [] []), 8)) else (some ((aP.mk x6.1 x8.1), 0)))))
def la (a0 : aM) (a1 : Int) (a2 : Int) : (Int × (List Int) × (List Int)) → Option (oP (Int × (List Int) × (List Int)) (((List Int) × (List Int)) ⊕ (aP × Int))) := fun (s7, s8, s9) =>
  if (decide (s7 < (a0.bo.length : Int))) = true then ((oT a0.bo s7).bind fun x14 => (jn x14 a1 a2).bind fun x15 => if (!x15.2) = true then (some (.stop (.inr ((aP.mk [] []), 11)))) else ((ni (aP.mk s8 s9) x15.1).bind fun x17 => if (x17.2 != 0) = true then (some (.stop (.inr ((aP.mk [] []), x17.2)))) else (some (.next ((IntKind.wrap .i64 (s7 + 1)), x17.1.bj, x17.1.bh))))) else (some (.stop (.inl (s8, s9))))
def jm (a0 : aM) (a1 : Int) (a2 : Int) : Option (aP × Int) :=
  (ed a0).bind fun x1 => if (!x1) = true then (some ((aP.mk [] []), 1)) else ((bK a1 0 65536).bind fun x3 => if (!x3) = true then (some ((aP.mk [] []), 2)) else ((bK a2 1 65536).bind fun x5 => if (!x5) = true then (some ((aP.mk [] []), 2)) else ((e8 (la a0 a1 a2) (0, [1], [1])).bind fun o20 => match o20 with | .inl y21 => (some ((aP.mk y21.1 y21.2), 0)) | .inr r22 => (some r22))))
def dx (a0 : Int) (j15 : Int) (j16 : Int) : Option (Int) :=
  some (IntKind.wrap .i64 ((IntKind.wrap .i64 (256 * a0)) + j16))
def dy (a0 : Int) (j13 : Int) (j14 : Int) : Option (Int) :=
  if (decide ((pe .i64 (IntKind.wrap .i64 (j13 * j13)) 30) ≥ 2147483648)) = true then ((qd .i64 (pe .i64 (IntKind.wrap .i64 (j13 * j13)) 30) 2).bind fun x19 => dx a0 x19 (IntKind.wrap .i64 ((IntKind.wrap .i64 (j14 * 2)) + 1))) else (dx a0 (pe .i64 (IntKind.wrap .i64 (j13 * j13)) 30) (IntKind.wrap .i64 (j14 * 2)))
def dz (a0 : Int) (j11 : Int) (j12 : Int) : Option (Int) :=
  if (decide ((pe .i64 (IntKind.wrap .i64 (j11 * j11)) 30) ≥ 2147483648)) = true then ((qd .i64 (pe .i64 (IntKind.wrap .i64 (j11 * j11)) 30) 2).bind fun x22 => dy a0 x22 (IntKind.wrap .i64 ((IntKind.wrap .i64 (j12 * 2)) + 1))) else (dy a0 (pe .i64 (IntKind.wrap .i64 (j11 * j11)) 30) (IntKind.wrap .i64 (j12 * 2)))
def dA (a0 : Int) (j9 : Int) (j10 : Int) : Option (Int) :=
  if (decide ((pe .i64 (IntKind.wrap .i64 (j9 * j9)) 30) ≥ 2147483648)) = true then ((qd .i64 (pe .i64 (IntKind.wrap .i64 (j9 * j9)) 30) 2).bind fun x25 => dz a0 x25 (IntKind.wrap .i64 ((IntKind.wrap .i64 (j10 * 2)) + 1))) else (dz a0 (pe .i64 (IntKind.wrap .i64 (j9 * j9)) 30) (IntKind.wrap .i64 (j10 * 2)))
def dB (a0 : Int) (j7 : Int) (j8 : Int) : Option (Int) :=
  if (decide ((pe .i64 (IntKind.wrap .i64 (j7 * j7)) 30) ≥ 2147483648)) = true then ((qd .i64 (pe .i64 (IntKind.wrap .i64 (j7 * j7)) 30) 2).bind fun x28 => dA a0 x28 (IntKind.wrap .i64 ((IntKind.wrap .i64 (j8 * 2)) + 1))) else (dA a0 (pe .i64 (IntKind.wrap .i64 (j7 * j7)) 30) (IntKind.wrap .i64 (j8 * 2)))
def dC (a0 : Int) (j5 : Int) (j6 : Int) : Option (Int) :=
  if (decide ((pe .i64 (IntKind.wrap .i64 (j5 * j5)) 30) ≥ 2147483648)) = true then ((qd .i64 (pe .i64 (IntKind.wrap .i64 (j5 * j5)) 30) 2).bind fun x31 => dB a0 x31 (IntKind.wrap .i64 ((IntKind.wrap .i64 (j6 * 2)) + 1))) else (dB a0 (pe .i64 (IntKind.wrap .i64 (j5 * j5)) 30) (IntKind.wrap .i64 (j6 * 2)))
def dD (a0 : Int) (j3 : Int) (j4 : Int) : Option (Int) :=
  if (decide ((pe .i64 (IntKind.wrap .i64 (j3 * j3)) 30) ≥ 2147483648)) = true then ((qd .i64 (pe .i64 (IntKind.wrap .i64 (j3 * j3)) 30) 2).bind fun x34 => dC a0 x34 (IntKind.wrap .i64 ((IntKind.wrap .i64 (j4 * 2)) + 1))) else (dC a0 (pe .i64 (IntKind.wrap .i64 (j3 * j3)) 30) (IntKind.wrap .i64 (j4 * 2)))
def dE (a0 : Int) (j1 : Int) (j2 : Int) : Option (Int) :=
  if (decide ((pe .i64 (IntKind.wrap .i64 (j1 * j1)) 30) ≥ 2147483648)) = true then ((qd .i64 (pe .i64 (IntKind.wrap .i64 (j1 * j1)) 30) 2).bind fun x37 => dD a0 x37 (IntKind.wrap .i64 ((IntKind.wrap .i64 (j2 * 2)) + 1))) else (dD a0 (pe .i64 (IntKind.wrap .i64 (j1 * j1)) 30) (IntKind.wrap .i64 (j2 * 2)))
def fc (a0 : Int) (a1 : Int) : Option (Int) :=
  if (decide ((pe .i64 (IntKind.wrap .i64 (a1 * a1)) 30) ≥ 2147483648)) = true then ((qd .i64 (pe .i64 (IntKind.wrap .i64 (a1 * a1)) 30) 2).bind fun x40 => dE a0 x40 1) else (dE a0 (pe .i64 (IntKind.wrap .i64 (a1 * a1)) 30) 0)
def fN (a0 : Int) : Option (Int × Int) :=
  if (decide (a0 < 1)) = true then (some (0, 2)) else ((fD (IntKind.wrap .u64 a0)).bind fun x2 => if (decide ((IntKind.wrap .i64 (x2 - 1)) ≤ 30)) = true then ((vW .i64 a0 (IntKind.wrap .i64 (30 - (IntKind.wrap .i64 (x2 - 1))))).bind fun x4 => (fc (IntKind.wrap .i64 (x2 - 1)) x4).bind fun x5 => some (x5, 0)) else ((shrO .i64 a0 (IntKind.wrap .i64 ((IntKind.wrap .i64 (x2 - 1)) - 30))).bind fun x6 => (fc (IntKind.wrap .i64 (x2 - 1)) x6).bind fun x7 => some (x7, 0)))
def fb (a0 : (List Int)) : Option (Int × Int) :=
  (ig a0).bind fun x1 => if (!x1) = true then (some (0, 1)) else (if (decide ((IntKind.wrap .i64 ((a0.length : Int) - 1)) < 0)) = true then (some (0, 2)) else (if ((IntKind.wrap .i64 ((a0.length : Int) - 1)) == 0) = true then ((oT a0 0).bind fun x5 => (fN x5).bind fun x6 => some (x6.1, x6.2)) else ((oT a0 (IntKind.wrap .i64 ((a0.length : Int) - 1))).bind fun x7 => (oT a0 (IntKind.wrap .i64 ((IntKind.wrap .i64 ((a0.length : Int) - 1)) - 1))).bind fun x8 => (fN (orI .i64 (shlI .i64 x7 30) x8)).bind fun x9 => some ((IntKind.wrap .i64 (x9.1 + (IntKind.wrap .i64 (7680 * (IntKind.wrap .i64 ((IntKind.wrap .i64 ((a0.length : Int) - 1)) - 1)))))), x9.2))))
def gu (a0 : bt) (a1 : aM) (a2 : Int) : Option (Int × Int) :=
  (jm a1 a0.bj a0.bh).bind fun x1 => if (x1.2 != 0) = true then (some (0, x1.2)) else ((fb x1.1.bj).bind fun x3 => if (x3.2 != 0) = true then (some (0, 24)) else ((fb x1.1.bh).bind fun x5 => if (x5.2 != 0) = true then (some (0, x5.2)) else ((fN a2).bind fun x7 => some ((IntKind.wrap .i64 ((IntKind.wrap .i64 ((IntKind.wrap .i64 (2 * x7.1)) + x5.1)) - x3.1)), x7.2))))
def gd (a0 : Int) : Option (Int) :=
  some (pe .i64 a0 1)
def iW (a0 : Int) : Option (Int × Bool) :=
  if (decide (a0 ≥ (-16777216))) = true then (some ((IntKind.wrap .i64 (a0 * 30103)), (decide (a0 ≤ 16777216)))) else (some ((IntKind.wrap .i64 (a0 * 30103)), false))
def fF (a0 : Int) : Option (Int) :=
  (iW a0).bind fun x1 => if (!x1.2) = true then (some 0) else ((qd .i64 x1.1 256000).bind fun x3 => (vj x1.1 256000).bind fun x4 => if (decide (x4 < 0)) = true then (some (IntKind.wrap .i64 (x3 - 1))) else (some x3))
def iA (a0 : Int) : Option (Int) :=
  (fF (IntKind.wrap .i64 (0 - a0))).bind fun x1 => some (IntKind.wrap .i64 (0 - x1))
def eH (a0 : bt) (a1 : aM) (a2 : Int) (a3 : Int) (a4 : Int) : Option (aA × Int) :=
  (ch a0).bind fun x1 => if (!x1) = true then (some ((aA.mk 0 0), 27)) else (if (decide (a2 < 1)) = true then (some ((aA.mk 0 0), 2)) else (if (decide (a2 > 1073741823)) = true then (some ((aA.mk 0 0), 2)) else ((gu a0 a1 a2).bind fun x5 => if (x5.2 != 0) = true then (some ((aA.mk 0 0), x5.2)) else ((ei a0.aZ a3 a4).bind fun x7 => if (x7.2.2 != 0) = true then (some ((aA.mk 0 0), x7.2.2)) else ((gd (IntKind.wrap .i64 (x5.1 - 2))).bind fun x9 => (fF x9).bind fun x10 => (gd (IntKind.wrap .i64 ((IntKind.wrap .i64 (0 - x5.1)) - 6))).bind fun x11 => (iA (IntKind.wrap .i64 (0 - x11))).bind fun x12 => some ((aA.mk (IntKind.wrap .i64 (x10 + x7.1)) (IntKind.wrap .i64 (x12 + x7.2.1))), 0))))))
def cP (a0 : a7) (a2 : ai) (a1 : aG) : (Int × (List aA)) → Option (oP (Int × (List aA)) ((List aA))) := fun (s1, s2) =>
  if (decide (s1 < (a0.b8.length : Int))) = true then ((oT a0.b8 s1).bind fun x6 => (oT a0.ez s1).bind fun x7 => (oT a0.cg s1).bind fun x8 => (dl a2 x6.aL).bind fun x9 => (eB a2 x6.aL).bind fun x10 => (eH a1.bn x7.bi x8.bp x9 x10).bind fun x11 => if (x11.2 == 0) = true then ((pS s2 [x11.1] 16).bind fun x13 => some (.next ((IntKind.wrap .i64 (s1 + 1)), x13))) else (some (.next ((IntKind.wrap .i64 (s1 + 1)), s2)))) else (some (.stop s2))
def ci (a0 : a7) (a1 : aG) (a2 : ai) : Option ((List aA)) :=
  (e8 (cP a0 a2 a1) (0, ([] : (List aA)))).bind fun o15 => some o15
def fw (a0 : aA) : Option (Bool) :=
  some (decide (a0.ak > a0.ae))
def cJ (a0 : (List aA)) : Int → Option (oP (Int) ((Unit) ⊕ (Int))) := fun s1 =>
  if (decide (s1 < (a0.length : Int))) = true then ((oT a0 s1).bind fun x4 => (fw x4).bind fun x5 => if x5 = true then (some (.stop (.inr s1))) else (some (.next (IntKind.wrap .i64 (s1 + 1))))) else (some (.stop (.inl ())))
def dg (a0 : (List aA)) : Option (Int) :=
  (e8 (cJ a0) 0).bind fun o8 => match o8 with | .inl _ => (some (-1)) | .inr r10 => (some r10)
def b9 (a0 : (List aA)) : Option (Bool) :=
  (dg a0).bind fun x1 => some (decide (x1 ≥ 0))
def fx (a0 : aA) : Option (Int) :=
  some a0.ak
def jY (a0 : Int) (a1 : Int) : Option (Bool) :=
  (dX a0).bind fun x1 => if x1 = true then ((dX a1).bind fun x3 => if (!x3) = true then (some true) else (some (decide (a0 < a1)))) else (some (decide (a0 < a1)))
def cv (a1 : Int) (s1 : Int) : (Int × (List Int)) → Option (oP (Int × (List Int)) (Int × (List Int))) := fun (s5, s6) =>
  if (decide (s5 > a1)) = true then ((inO s6 s5).bind fun _ => (oT s6 s5).bind fun x13 => (inO s6 (IntKind.wrap .i64 (s5 - 1))).bind fun _ => (oT s6 (IntKind.wrap .i64 (s5 - 1))).bind fun x16 => (jY x13 x16).bind fun x17 => if x17 = true then ((inO s6 (IntKind.wrap .i64 (s5 - 1))).bind fun _ => (oT s6 (IntKind.wrap .i64 (s5 - 1))).bind fun x21 => (inO s6 s5).bind fun _ => (oT s6 s5).bind fun x24 => (inO s6 s5).bind fun _ => (tg s6 s5 x21).bind fun x27 => (inO x27 (IntKind.wrap .i64 (s5 - 1))).bind fun _ => (tg x27 (IntKind.wrap .i64 (s5 - 1)) x24).bind fun x30 => some (.next ((IntKind.wrap .i64 (s5 - 1)), x30))) else (some (.stop (s1, s6)))) else (some (.stop (s1, s6)))
def dY (a2 : Int) (a1 : Int) : (Int × (List Int)) → Option (oP (Int × (List Int)) ((List Int))) := fun (s1, s2) =>
  if (decide (s1 < a2)) = true then ((e8 (cv a1 s1) (s1, s2)).bind fun o32 => some (.next ((IntKind.wrap .i64 (o32.1 + 1)), o32.2))) else ((some s2).bind fun z33 => some (.stop z33))
def ce (a1 : Int) (a2 : Int) (d0 : (List Int)) : Option ((List Int)) :=
  (e8 (dY a2 a1) ((IntKind.wrap .i64 (a1 + 1)), d0)).bind fun o35 => some o35
def cy (a2 : Int) (a1 : Int) (d0 : (List Int)) (a3 : Int) : Unit → Option (oP (Unit) ((List Int))) := fun _ =>
  if (decide ((IntKind.wrap .i64 (a2 - a1)) ≤ 12)) = true then ((ce a1 a2 d0).bind fun x3 => some (.stop x3)) else (if (a3 == 0) = true then (none) else (none))
def gh : Nat → Int → Int → Int → (List Int) → Option ((List Int))
  | 0, _, _, _, _ => none
  | nfu + 1, a1, a2, a3, d0 =>
  (e8 (cy a2 a1 d0 a3) ()).bind fun o6 => some o6
def ev (a1 : Int) (a2 : Int) (a3 : Int) (d0 : (List Int)) : Option ((List Int)) := recO fun n => gh n a1 a2 a3 d0
def fH (d0 : (List Int)) : Option ((List Int)) :=
  (fD (IntKind.wrap .u64 (d0.length : Int))).bind fun x1 => (ev 0 (d0.length : Int) x1 d0).bind fun x2 => some x2
def gL (a0 : (List aA)) : (Int × (List Int)) → Option (oP (Int × (List Int)) ((List Int))) := fun (s1, s2) =>
  if (decide (s1 < (a0.length : Int))) = true then ((oT a0 s1).bind fun x6 => (fx x6).bind fun x7 => (pS s2 [x7] 8).bind fun x8 => some (.next ((IntKind.wrap .i64 (s1 + 1)), x8))) else (some (.stop s2))
def ek (a0 : (List aA)) : Option (Int) :=
  (e8 (gL a0) (0, ([] : (List Int)))).bind fun o10 => (fH o10).bind fun x11 => (qd .i64 (IntKind.wrap .i64 ((x11.length : Int) - 1)) 2).bind fun x12 => (inO x11 x12).bind fun _ => (oT x11 x12).bind fun x15 => some x15
def fy (a0 : aA) : Option (Int) :=
  some a0.ae
def gM (a0 : (List aA)) : (Int × (List Int)) → Option (oP (Int × (List Int)) ((List Int))) := fun (s1, s2) =>
  if (decide (s1 < (a0.length : Int))) = true then ((oT a0 s1).bind fun x6 => (fy x6).bind fun x7 => (pS s2 [x7] 8).bind fun x8 => some (.next ((IntKind.wrap .i64 (s1 + 1)), x8))) else (some (.stop s2))
def eo (a0 : (List aA)) : Option (Int) :=
  (e8 (gM a0) (0, ([] : (List Int)))).bind fun o10 => (fH o10).bind fun x11 => (qd .i64 (IntKind.wrap .i64 ((x11.length : Int) - 1)) 2).bind fun x12 => (inO x11 x12).bind fun _ => (oT x11 x12).bind fun x15 => some x15
def eF (a0 : (List aA)) : Option (aA × Int) :=
  if ((a0.length : Int) == 0) = true then (some ((aA.mk 0 0), 24)) else ((b9 a0).bind fun x2 => if x2 = true then (some ((aA.mk 0 0), 1)) else ((ek a0).bind fun x4 => (eo a0).bind fun x5 => some ((aA.mk x4 x5), 0)))
def cj (a0 : aG) (a1 : aC) (a2 : (List aq)) : Option (aQ × Int) :=
  (fI a0 a1 a2).bind fun x1 => if (x1.2 != 0) = true then (some ((aQ.mk [] (aF.mk (aa.mk 0 0 0) 0 0 0 (ai.mk (aa.mk 0 0 0) (aa.mk 0 0 0))) (aA.mk 0 0) 0), x1.2)) else ((gw x1.1 a0).bind fun x3 => if (x3.2 != 0) = true then (some ((aQ.mk [] (aF.mk (aa.mk 0 0 0) 0 0 0 (ai.mk (aa.mk 0 0 0) (aa.mk 0 0 0))) (aA.mk 0 0) 0), x3.2)) else ((gK x3.1 a0.bc).bind fun x5 => if (x5.2 != 0) = true then (some ((aQ.mk [] (aF.mk (aa.mk 0 0 0) 0 0 0 (ai.mk (aa.mk 0 0 0) (aa.mk 0 0 0))) (aA.mk 0 0) 0), x5.2)) else ((ci x1.1 a0 x5.1.au).bind fun x7 => if (decide ((x7.length : Int) > 0)) = true then ((eF x7).bind fun x9 => if (x9.2 != 0) = true then (some ((aQ.mk [] (aF.mk (aa.mk 0 0 0) 0 0 0 (ai.mk (aa.mk 0 0 0) (aa.mk 0 0 0))) (aA.mk 0 0) 0), x9.2)) else (some ((aQ.mk x1.1.cg x5.1 x9.1 (x7.length : Int)), 0))) else (some ((aQ.mk x1.1.cg x5.1 (aA.mk 0 0) 0), 0)))))
def hM (a0 : (List aq)) (a1 : (List aq)) : Int → Option (oP (Int) ((Unit) ⊕ (Bool))) := fun s2 =>
  if (decide (s2 < (a0.length : Int))) = true then ((oT a0 s2).bind fun x5 => (oT a1 s2).bind fun x6 => if (!(((x5.aH.aV == x6.aH.aV) && ((x5.aH.aL == x6.aH.aL) && ((x5.aH.ar == x6.aH.ar) && ((x5.aH.aX == x6.aH.aX) && true)))) && ((x5.a8 == x6.a8) && ((x5.bw == x6.bw) && ((x5.bO == x6.bO) && ((x5.bp == x6.bp) && ((x5.bI == x6.bI) && true))))))) = true then (some (.stop (.inr false))) else (some (.next (IntKind.wrap .i64 (s2 + 1))))) else (some (.stop (.inl ())))
def gT (a0 : (List aq)) (a1 : (List aq)) : Option (Bool) :=
  if ((a0.length : Int) != (a1.length : Int)) = true then (some false) else ((e8 (hM a0 a1) 0).bind fun o9 => match o9 with | .inl _ => (some true) | .inr r11 => (some r11))
def jb (a0 : aQ) (a1 : aQ) : Option (Bool) :=
  (gT a0.fm a1.fm).bind fun x1 => if x1 = true then (if (((a0.ar.aD.fX == a1.ar.aD.fX) && ((a0.ar.aD.fY == a1.ar.aD.fY) && ((a0.ar.aD.fZ == a1.ar.aD.fZ) && true))) && ((a0.ar.a8 == a1.ar.a8) && ((a0.ar.aT == a1.ar.aT) && ((a0.ar.bd == a1.ar.bd) && ((((a0.ar.au.ak.fX == a1.ar.au.ak.fX) && ((a0.ar.au.ak.fY == a1.ar.au.ak.fY) && ((a0.ar.au.ak.fZ == a1.ar.au.ak.fZ) && true))) && (((a0.ar.au.ae.fX == a1.ar.au.ae.fX) && ((a0.ar.au.ae.fY == a1.ar.au.ae.fY) && ((a0.ar.au.ae.fZ == a1.ar.au.ae.fZ) && true))) && true)) && true))))) = true then (if ((a0.bL.ak == a1.bL.ak) && ((a0.bL.ae == a1.bL.ae) && true)) = true then (some (a0.iu == a1.iu)) else (some false)) else (some false)) else (some false)
def ic  : Option (Bool) :=
  (iz []).bind fun x1 => (cK 2 x1).bind fun x2 => (eW 3 x2.2).bind fun x3 => (cj x2.1 x3.1 []).bind fun x4 => (dw 1).bind fun x5 => (cj x2.1 x3.1 [(aq.mk x5 2500 2500 2500 10 0)]).bind fun x6 => if (x4.2 == 24) = true then (if (x6.2 == 0) = true then (if ((x6.1.fm.length : Int) == 1) = true then ((oT x6.1.fm 0).bind fun x10 => if (((x10.aH.aV == x5.aV) && ((x10.aH.aL == x5.aL) && ((x10.aH.ar == x5.ar) && ((x10.aH.aX == x5.aX) && true)))) && ((x10.a8 == 2500) && ((x10.bw == 2500) && ((x10.bO == 2500) && ((x10.bp == 10) && ((x10.bI == 0) && true)))))) = true then (if (x6.1.ar.aT == 0) = true then ((eM x2.1).bind fun x13 => some (x13 == 0)) else (some false)) else (some false)) else (some false)) else (some false)) else (some false)
def dT (x4 : (List aq) × aj) : (Int × Int) → Option (oP (Int × Int) (Int)) := fun (s5, s6) =>
  if (decide (s6 < (x4.1.length : Int))) = true then ((oT x4.1 s6).bind fun x10 => some (.next ((if x10.a8 > s5 then x10.a8 else s5), (IntKind.wrap .i64 (s6 + 1))))) else (some (.stop s5))
def dU (x3 : aC × aj) (o12 : Int) : (Int × (List Int) × Int × (List ap)) → Option (oP (Int × (List Int) × Int × (List ap)) ((List ap))) := fun (s13, s14, s15, s16) =>
  if (decide (s13 < (x3.1.aO.length : Int))) = true then ((oT x3.1.aO s13).bind fun x20 => (pS ([] : List al) x20.ba 80).bind fun x21 => (inO x21 (IntKind.wrap .i64 ((x20.ba.length : Int) - 1))).bind fun _ => (oT x21 (IntKind.wrap .i64 ((x20.ba.length : Int) - 1))).bind fun x24 => if (decide (x24.bB ≤ o12)) = true then ((inO x21 (IntKind.wrap .i64 ((x20.ba.length : Int) - 1))).bind fun _ => (w2 x21 (IntKind.wrap .i64 ((x20.ba.length : Int) - 1)) (fun (z29 : al) => (al.mk z29.bB (IntKind.wrap .i64 (o12 + 1)) z29.cf z29.aS z29.bi))).bind fun x28 => (cr 5 (aj.mk s14 s15)).bind fun x30 => (gj 60 x30.2).bind fun x31 => (dj x31.2).bind fun x32 => (pS x28 [(al.mk (IntKind.wrap .i64 ((IntKind.wrap .i64 (o12 + 1)) + x30.1)) x24.fTo x24.cf x31.1 x32.1)] 80).bind fun x33 => (pS s16 [(ap.mk x20.aH x33)] 88).bind fun x34 => some (.next ((IntKind.wrap .i64 (s13 + 1)), x32.2.fL, x32.2.fAt, x34))) else ((pS s16 [(ap.mk x20.aH x21)] 88).bind fun x35 => some (.next ((IntKind.wrap .i64 (s13 + 1)), s14, s15, x35)))) else (some (.stop s16))
def e9 (a0 : (List Int)) : Option (Bool) :=
  (iz a0).bind fun x1 => (cK 3 x1).bind fun x2 => (eW 6 x2.2).bind fun x3 => (lw x2.1 x3.1 7 x3.2).bind fun x4 => (e8 (dT x4) (0, 0)).bind fun o12 => (e8 (dU x3 o12) (0, x4.2.fL, x4.2.fAt, ([] : (List ap)))).bind fun o37 => (cj x2.1 x3.1 x4.1).bind fun x38 => (cj x2.1 (aC.mk o37) x4.1).bind fun x39 => if (x38.2 == x39.2) = true then ((jb x38.1 x39.1).bind fun x41 => if x41 = true then ((ic ).bind fun x43 => some x43) else (some false)) else (some false)
end
end Go.Dw.So
