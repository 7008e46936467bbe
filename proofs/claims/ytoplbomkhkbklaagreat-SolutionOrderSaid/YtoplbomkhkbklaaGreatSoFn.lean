
import Derived.Test.YtoplbomkhkbklaaGreatDwLift4
import Derived.Test.YtoplbomkhkbklaaGreatDwSortP



namespace Go.Dw.So
open Go.Dw
noncomputable section

structure ah where
  fL : (List Int)
  fAt : Int
  deriving DecidableEq
def ah.pd (x : ah) : PD := .agg [.lst (x.fL.map (PD.int .i64)), .int .i64 x.fAt]
structure aa where
  fX : Int
  fY : Int
  fZ : Int
  deriving DecidableEq
def aa.pd (x : aa) : PD := .agg [.int .i64 x.fX, .int .i64 x.fY, .int .i64 x.fZ]
structure aj where
  ak : aa
  ae : aa
  deriving DecidableEq
def aj.pd (x : aj) : PD := .agg [.int .i64 x.ak.fX, .int .i64 x.ak.fY, .int .i64 x.ak.fZ, .int .i64 x.ae.fX, .int .i64 x.ae.fY, .int .i64 x.ae.fZ]
structure aK where
  aT : Int
  ak : (List Int)
  ae : (List Int)
  deriving DecidableEq
def aK.pd (x : aK) : PD := .agg [.int .i64 x.aT, .lst (x.ak.map (PD.int .i64)), .lst (x.ae.map (PD.int .i64))]
structure bd where
  ac : aj
  az : aK
  bG : Int
  ba : Int
  gH : Int
  eP : Int
  eO : Int
  deriving DecidableEq
def bd.pd (x : bd) : PD := .agg [.int .i64 x.ac.ak.fX, .int .i64 x.ac.ak.fY, .int .i64 x.ac.ak.fZ, .int .i64 x.ac.ae.fX, .int .i64 x.ac.ae.fY, .int .i64 x.ac.ae.fZ, .int .i64 x.az.aT, .lst (x.az.ak.map (PD.int .i64)), .lst (x.az.ae.map (PD.int .i64)), .int .i64 x.bG, .int .i64 x.ba, .int .i64 x.gH, .int .i64 x.eP, .int .i64 x.eO]
structure bt where
  aZ : aK
  bh : Int
  bg : Int
  deriving DecidableEq
def bt.pd (x : bt) : PD := .agg [.int .i64 x.aZ.aT, .lst (x.aZ.ak.map (PD.int .i64)), .lst (x.aZ.ae.map (PD.int .i64)), .int .i64 x.bh, .int .i64 x.bg]
structure aG where
  ag : bd
  bi : bt
  ba : Int
  deriving DecidableEq
def aG.pd (x : aG) : PD := .agg [.int .i64 x.ag.ac.ak.fX, .int .i64 x.ag.ac.ak.fY, .int .i64 x.ag.ac.ak.fZ, .int .i64 x.ag.ac.ae.fX, .int .i64 x.ag.ac.ae.fY, .int .i64 x.ag.ac.ae.fZ, .int .i64 x.ag.az.aT, .lst (x.ag.az.ak.map (PD.int .i64)), .lst (x.ag.az.ae.map (PD.int .i64)), .int .i64 x.ag.bG, .int .i64 x.ag.ba, .int .i64 x.ag.gH, .int .i64 x.ag.eP, .int .i64 x.ag.eO, .int .i64 x.bi.aZ.aT, .lst (x.bi.aZ.ak.map (PD.int .i64)), .lst (x.bi.aZ.ae.map (PD.int .i64)), .int .i64 x.bi.bh, .int .i64 x.bi.bg, .int .i64 x.ba]
structure aI where
  aU : (List UInt8)
  aL : (List UInt8)
  aq : (List UInt8)
  aX : (List UInt8)
  deriving DecidableEq
def aI.pd (x : aI) : PD := .agg [.str x.aU, .str x.aL, .str x.aq, .str x.aX]
structure bf where
  bh : Int
  bg : Int
  deriving DecidableEq
def bf.pd (x : bf) : PD := .agg [.int .i64 x.bh, .int .i64 x.bg]
structure aW where
  a0 : Int
  a1 : Int
  a2 : Int
  deriving DecidableEq
def aW.pd (x : aW) : PD := .agg [.int .i64 x.a0, .int .i64 x.a1, .int .i64 x.a2]
structure aB where
  ej : Int
  bh : aW
  bg : aW
  cO : (List Int)
  cn : Int
  cN : Int
  deriving DecidableEq
def aB.pd (x : aB) : PD := .agg [.int .i64 x.ej, .int .i64 x.bh.a0, .int .i64 x.bh.a1, .int .i64 x.bh.a2, .int .i64 x.bg.a0, .int .i64 x.bg.a1, .int .i64 x.bg.a2, .lst (x.cO.map (PD.int .i64)), .int .i64 x.cn, .int .i64 x.cN]
structure aN where
  bj : (List aB)
  deriving DecidableEq
def aN.pd (x : aN) : PD := .agg [.lst (x.bj.map aB.pd)]
structure al where
  bF : Int
  fTo : Int
  ct : bf
  aV : aa
  bq : aN
  deriving DecidableEq
def al.pd (x : al) : PD := .agg [.int .i64 x.bF, .int .i64 x.fTo, .int .i64 x.ct.bh, .int .i64 x.ct.bg, .int .i64 x.aV.fX, .int .i64 x.aV.fY, .int .i64 x.aV.fZ, .lst (x.bq.bj.map aB.pd)]
structure au where
  aJ : aI
  bo : (List al)
  deriving DecidableEq
def au.pd (x : au) : PD := .agg [.str x.aJ.aU, .str x.aJ.aL, .str x.aJ.aq, .str x.aJ.aX, .lst (x.bo.map al.pd)]
structure aD where
  aQ : (List au)
  deriving DecidableEq
def aD.pd (x : aD) : PD := .agg [.lst (x.aQ.map au.pd)]
structure ap where
  aJ : aI
  a8 : Int
  bw : Int
  bO : Int
  bn : Int
  bI : Int
  deriving DecidableEq
def ap.pd (x : ap) : PD := .agg [.str x.aJ.aU, .str x.aJ.aL, .str x.aJ.aq, .str x.aJ.aX, .int .i64 x.a8, .int .i64 x.bw, .int .i64 x.bO, .int .i64 x.bn, .int .i64 x.bI]
structure aF where
  aC : aa
  a8 : Int
  aS : Int
  bc : Int
  ar : aj
  deriving DecidableEq
def aF.pd (x : aF) : PD := .agg [.int .i64 x.aC.fX, .int .i64 x.aC.fY, .int .i64 x.aC.fZ, .int .i64 x.a8, .int .i64 x.aS, .int .i64 x.bc, .int .i64 x.ar.ak.fX, .int .i64 x.ar.ak.fY, .int .i64 x.ar.ak.fZ, .int .i64 x.ar.ae.fX, .int .i64 x.ar.ae.fY, .int .i64 x.ar.ae.fZ]
structure aA where
  ak : Int
  ae : Int
  deriving DecidableEq
def aA.pd (x : aA) : PD := .agg [.int .i64 x.ak, .int .i64 x.ae]
structure aP where
  fi : (List ap)
  aq : aF
  bL : aA
  iq : Int
  deriving DecidableEq
def aP.pd (x : aP) : PD := .agg [.lst (x.fi.map ap.pd), .int .i64 x.aq.aC.fX, .int .i64 x.aq.aC.fY, .int .i64 x.aq.aC.fZ, .int .i64 x.aq.a8, .int .i64 x.aq.aS, .int .i64 x.aq.bc, .int .i64 x.aq.ar.ak.fX, .int .i64 x.aq.ar.ak.fY, .int .i64 x.aq.ar.ak.fZ, .int .i64 x.aq.ar.ae.fX, .int .i64 x.aq.ar.ae.fY, .int .i64 x.aq.ar.ae.fZ, .int .i64 x.bL.ak, .int .i64 x.bL.ae, .int .i64 x.iq]
structure av where
  aL : aa
  bw : Int
  bO : Int
  gi : Int
  deriving DecidableEq
def av.pd (x : av) : PD := .agg [.int .i64 x.aL.fX, .int .i64 x.aL.fY, .int .i64 x.aL.fZ, .int .i64 x.bw, .int .i64 x.bO, .int .i64 x.gi]
structure a7 where
  cg : (List ap)
  b9 : (List av)
  ew : (List al)
  deriving DecidableEq
def a7.pd (x : a7) : PD := .agg [.lst (x.cg.map ap.pd), .lst (x.b9.map av.pd), .lst (x.ew.map al.pd)]
structure aM where
  bF : Int
  fTo : Int
  deriving DecidableEq
def aM.pd (x : aM) : PD := .agg [.int .i64 x.bF, .int .i64 x.fTo]
structure aw where
  ac : aj
  az : aK
  aY : (List av)
  bG : Int
  deriving DecidableEq
def aw.pd (x : aw) : PD := .agg [.int .i64 x.ac.ak.fX, .int .i64 x.ac.ak.fY, .int .i64 x.ac.ak.fZ, .int .i64 x.ac.ae.fX, .int .i64 x.ac.ae.fY, .int .i64 x.ac.ae.fZ, .int .i64 x.az.aT, .lst (x.az.ak.map (PD.int .i64)), .lst (x.az.ae.map (PD.int .i64)), .lst (x.aY.map av.pd), .int .i64 x.bG]
structure ai where
  jW : aj
  dt : Int
  fj : Int
  deriving DecidableEq
def ai.pd (x : ai) : PD := .agg [.int .i64 x.jW.ak.fX, .int .i64 x.jW.ak.fY, .int .i64 x.jW.ak.fZ, .int .i64 x.jW.ae.fX, .int .i64 x.jW.ae.fY, .int .i64 x.jW.ae.fZ, .int .i64 x.dt, .int .i64 x.fj]
structure bC where
  fp : aw
  mq : (List ai)
  fj : Int
  ftaken : Int
  ffound : Bool
  br : aF
  deriving DecidableEq
def bC.pd (x : bC) : PD := .agg [.int .i64 x.fp.ac.ak.fX, .int .i64 x.fp.ac.ak.fY, .int .i64 x.fp.ac.ak.fZ, .int .i64 x.fp.ac.ae.fX, .int .i64 x.fp.ac.ae.fY, .int .i64 x.fp.ac.ae.fZ, .int .i64 x.fp.az.aT, .lst (x.fp.az.ak.map (PD.int .i64)), .lst (x.fp.az.ae.map (PD.int .i64)), .lst (x.fp.aY.map av.pd), .int .i64 x.fp.bG, .lst (x.mq.map ai.pd), .int .i64 x.fj, .int .i64 x.ftaken, .bool x.ffound, .int .i64 x.br.aC.fX, .int .i64 x.br.aC.fY, .int .i64 x.br.aC.fZ, .int .i64 x.br.a8, .int .i64 x.br.aS, .int .i64 x.br.bc, .int .i64 x.br.ar.ak.fX, .int .i64 x.br.ar.ak.fY, .int .i64 x.br.ar.ak.fZ, .int .i64 x.br.ar.ae.fX, .int .i64 x.br.ar.ae.fY, .int .i64 x.br.ar.ae.fZ]
structure aO where
  bh : (List Int)
  bg : (List Int)
  deriving DecidableEq
def aO.pd (x : aO) : PD := .agg [.lst (x.bh.map (PD.int .i64)), .lst (x.bg.map (PD.int .i64))]

def ix (a0 : (List Int)) : Option (ah) :=
  (cutO a0 0 (if 2000 < (a0.length : Int) then 2000 else (a0.length : Int))).bind fun x1 => some (ah.mk x1 0)
def mT (d0 : ah) : Option (Int × ah) :=
  if (decide (d0.fAt ≥ (d0.fL.length : Int))) = true then (some (0, d0)) else ((oG d0.fL (IntKind.wrap .i64 ((IntKind.wrap .i64 (d0.fAt + 1)) - 1))).bind fun x2 => some (x2, (ah.mk d0.fL (IntKind.wrap .i64 (d0.fAt + 1)))))
def jq (a0 : Int) (a1 : Int) : Option (Int) :=
  if (decide (a1 < 1)) = true then (some 0) else ((uX a0 a1).bind fun x2 => if (decide (x2 < 0)) = true then (some (IntKind.wrap .i64 (x2 + a1))) else (some x2))
def cq (a1 : Int) (d0 : ah) : Option (Int × ah) :=
  (mT d0).bind fun x1 => (jq x1.1 a1).bind fun x2 => some (x2, x1.2)
def gf (a1 : Int) (d0 : ah) : Option (aa × ah) :=
  (cq (IntKind.wrap .i64 ((IntKind.wrap .i64 (2 * a1)) + 1)) d0).bind fun x1 => (cq (IntKind.wrap .i64 ((IntKind.wrap .i64 (2 * a1)) + 1)) x1.2).bind fun x2 => (cq (IntKind.wrap .i64 (a1 + 1)) x2.2).bind fun x3 => some ((aa.mk (IntKind.wrap .i64 (x1.1 - a1)) (IntKind.wrap .i64 (x2.1 - a1)) x3.1), x3.2)
def kL (a1 : Int) (a2 : Int) (d0 : ah) : Option (aj × ah) :=
  (gf a1 d0).bind fun x1 => (cq (IntKind.wrap .i64 (a2 + 1)) x1.2).bind fun x2 => (cq (IntKind.wrap .i64 (a2 + 1)) x2.2).bind fun x3 => (cq (IntKind.wrap .i64 (a2 + 1)) x3.2).bind fun x4 => some ((aj.mk x1.1 (aa.mk (IntKind.wrap .i64 (x1.1.fX + x2.1)) (IntKind.wrap .i64 (x1.1.fY + x3.1)) (IntKind.wrap .i64 (x1.1.fZ + x4.1)))), x4.2)
def dJ (a1 : (List Int)) (d0 : ah) : Option (Int × ah) :=
  (cq (a1.length : Int) d0).bind fun x1 => (oG a1 x1.1).bind fun x2 => some (x2, x1.2)
def fG (x1 : Int × ah) : (Int × Int × Int × (List Int) × Int × (List Int) × (List Int)) → Option (oC (Int × Int × Int × (List Int) × Int × (List Int) × (List Int)) ((List Int) × Int × (List Int) × (List Int))) := fun (s3, s4, s5, s6, s7, s8, s9) =>
  (pT .i64 400 x1.1).bind fun x15 => (cq 3 (ah.mk s6 s7)).bind fun x16 => if (decide (s5 ≤ (IntKind.wrap .i64 (x15 + x16.1)))) = true then ((pJ s8 [s3] 8).bind fun x18 => (pJ s9 [s4] 8).bind fun x19 => (dJ [0, 10, 20, 35] x16.2).bind fun x20 => (pT .i64 x1.1 4).bind fun x21 => (dJ [0, 0, 5, 30] x20.2).bind fun x22 => some (.next ((IntKind.wrap .i64 (s3 + (IntKind.wrap .i64 (x20.1 + x21)))), (IntKind.wrap .i64 ((if (IntKind.wrap .i64 (s3 + (IntKind.wrap .i64 (x20.1 + x21)))) > s4 then (IntKind.wrap .i64 (s3 + (IntKind.wrap .i64 (x20.1 + x21)))) else s4) + x22.1)), (IntKind.wrap .i64 (s5 + 1)), x22.2.fL, x22.2.fAt, x18, x19))) else (some (.stop (x16.2.fL, x16.2.fAt, s8, s9)))
def gg (d0 : ah) : Option (aK × ah) :=
  (dJ [20, 25, 40, 100] d0).bind fun x1 => (cq 3 x1.2).bind fun x2 => (hY (fG x1) (0, x2.1, 0, x2.2.fL, x2.2.fAt, ([] : (List Int)), ([] : (List Int)))).bind fun o24 => some ((aK.mk x1.1 o24.2.2.1 o24.2.2.2), (ah.mk o24.1 o24.2.1))
def c9 (a1 : Int) (d0 : ah) : Option (bd × ah) :=
  (kL 20 a1 d0).bind fun x1 => (gg x1.2).bind fun x2 => (dJ [10, 50, 200] x2.2).bind fun x3 => (dJ [0, 0, 10, 40] x3.2).bind fun x4 => (dJ [0, 50, 200, 400] x4.2).bind fun x5 => (dJ [0, 5, 20] x5.2).bind fun x6 => (cq 2 x6.2).bind fun x7 => some ((bd.mk x1.1 x2.1 x3.1 x4.1 x5.1 x6.1 (IntKind.wrap .i64 (2 + x7.1))), x7.2)
def gD (x1 : aK × ah) : (Int × (List Int) × (List Int)) → Option (oC (Int × (List Int) × (List Int)) ((List Int) × (List Int))) := fun (s4, s5, s6) =>
  if (decide (s4 < (x1.1.ak.length : Int))) = true then ((inO s5 s4).bind fun _ => (oG s5 s4).bind fun x13 => (pT .i64 x13 3).bind fun x14 => (inO s6 s4).bind fun _ => (oG s6 s4).bind fun x17 => (pT .i64 x17 3).bind fun x18 => (inO s5 s4).bind fun _ => (rY s5 s4 x14).bind fun x21 => (inO s6 s4).bind fun _ => (rY s6 s4 x18).bind fun x24 => some (.next ((IntKind.wrap .i64 (s4 + 1)), x21, x24))) else (some (.stop (s5, s6)))
def hX (d0 : ah) : Option (bt × ah) :=
  (gg d0).bind fun x1 => (cq 20 x1.2).bind fun x2 => (cq 9 x2.2).bind fun x3 => (hY (gD x1) (0, x1.1.ak, x1.1.ae)).bind fun o26 => some ((bt.mk (aK.mk x1.1.aT o26.1 o26.2) x2.1 (IntKind.wrap .i64 (1 + x3.1))), x3.2)
def cL (a1 : Int) (d0 : ah) : Option (aG × ah) :=
  (c9 a1 d0).bind fun x1 => (hX x1.2).bind fun x2 => (dJ [0, 0, 10, 40] x2.2).bind fun x3 => some ((aG.mk x1.1 x2.1 x3.1), x3.2)
def eT  : (Int × (List Int) × Int × (List aB)) → Option (oC (Int × (List Int) × Int × (List aB)) ((List Int) × Int × (List aB))) := fun (s2, s3, s4, s5) =>
  if (decide (s2 > 0)) = true then ((cq 3 (ah.mk s3 s4)).bind fun x11 => if (x11.1 == 0) = true then ((dJ [0, 1, 9, 99, 1048575] x11.2).bind fun x13 => (dJ [0, 0, 2, 9, 999] x13.2).bind fun x14 => (pJ s5 [(aB.mk x11.1 (aW.mk (IntKind.wrap .i64 (1 + x13.1)) 0 0) (aW.mk (IntKind.wrap .i64 (1 + x14.1)) 0 0) [] 0 0)] 96).bind fun x15 => some (.next ((IntKind.wrap .i64 (s2 - 1)), x14.2.fL, x14.2.fAt, x15))) else (if (x11.1 == 1) = true then ((cq 5 x11.2).bind fun x17 => (cq 7 x17.2).bind fun x18 => (cq 3 x18.2).bind fun x19 => (cq 5 x19.2).bind fun x20 => (cq 7 x20.2).bind fun x21 => (cq 3 x21.2).bind fun x22 => (pJ s5 [(aB.mk x11.1 (aW.mk x17.1 (IntKind.wrap .i64 (x18.1 - 3)) (IntKind.wrap .i64 (x19.1 - 1))) (aW.mk (IntKind.wrap .i64 (1 + x20.1)) x21.1 x22.1) [] 0 0)] 96).bind fun x23 => some (.next ((IntKind.wrap .i64 (s2 - 1)), x22.2.fL, x22.2.fAt, x23))) else ((cq 3 x11.2).bind fun x24 => (cq 4 x24.2).bind fun x25 => (pJ s5 [(aB.mk x11.1 (aW.mk 0 0 0) (aW.mk 0 0 0) [(IntKind.wrap .i64 (1 + x24.1)), 2, 1] 1 x25.1)] 96).bind fun x26 => some (.next ((IntKind.wrap .i64 (s2 - 1)), x25.2.fL, x25.2.fAt, x26))))) else (some (.stop (s3, s4, s5)))
def dj (d0 : ah) : Option (aN × ah) :=
  (cq 4 d0).bind fun x1 => (hY (eT) (x1.1, x1.2.fL, x1.2.fAt, ([] : (List aB)))).bind fun o28 => some ((aN.mk o28.2.2), (ah.mk o28.1 o28.2.1))
def dw (a0 : Int) : Option (aI) :=
  (jq a0 6).bind fun x1 => (oG [[83, 49], [83, 50], [83, 51], [83, 52], [83, 53], [83, 54]] x1).bind fun x2 => some (aI.mk [65, 66] x2 [48, 48] [66, 72, 90])
def gE (a1 : Int) : (Int × (List Int) × Int × (List au)) → Option (oC (Int × (List Int) × Int × (List au)) ((List Int) × Int × (List au))) := fun (s1, s2, s3, s4) =>
  if (decide (s1 < a1)) = true then (if (decide (s1 < 6)) = true then ((gf 60 (ah.mk s2 s3)).bind fun x11 => (dj x11.2).bind fun x12 => (dw s1).bind fun x13 => (cq 6 x12.2).bind fun x14 => if (x14.1 == 0) = true then ((cq 500 x14.2).bind fun x16 => (gf 60 x16.2).bind fun x17 => (dj x17.2).bind fun x18 => (inO [(al.mk 0 100000 (bf.mk 100 1) x11.1 x12.1)] 0).bind fun _ => (xx [(al.mk 0 100000 (bf.mk 100 1) x11.1 x12.1)] 0 (fun (z22 : al) => (al.mk z22.bF (IntKind.wrap .i64 (1500 + x16.1)) z22.ct z22.aV z22.bq))).bind fun x21 => (pJ x21 [(al.mk (IntKind.wrap .i64 (1500 + x16.1)) 100000 (bf.mk 100 1) x17.1 x18.1)] 80).bind fun x23 => (pJ s4 [(au.mk x13 x23)] 88).bind fun x24 => some (.next ((IntKind.wrap .i64 (s1 + 1)), x18.2.fL, x18.2.fAt, x24))) else (if (x14.1 == 1) = true then ((cq 1500 x14.2).bind fun x26 => (inO [(al.mk 0 100000 (bf.mk 100 1) x11.1 x12.1)] 0).bind fun _ => (xx [(al.mk 0 100000 (bf.mk 100 1) x11.1 x12.1)] 0 (fun (z30 : al) => (al.mk x26.1 z30.fTo z30.ct z30.aV z30.bq))).bind fun x29 => (pJ s4 [(au.mk x13 x29)] 88).bind fun x31 => some (.next ((IntKind.wrap .i64 (s1 + 1)), x26.2.fL, x26.2.fAt, x31))) else ((pJ s4 [(au.mk x13 [(al.mk 0 100000 (bf.mk 100 1) x11.1 x12.1)])] 88).bind fun x32 => some (.next ((IntKind.wrap .i64 (s1 + 1)), x14.2.fL, x14.2.fAt, x32))))) else (some (.stop (s2, s3, s4)))) else (some (.stop (s2, s3, s4)))
def eU (a1 : Int) (d0 : ah) : Option (aD × ah) :=
  (hY (gE a1) (0, d0.fL, d0.fAt, ([] : (List au)))).bind fun o34 => some ((aD.mk o34.2.2), (ah.mk o34.1 o34.2.1))
def kb (a1 : Int) (a2 : Int) (d0 : ah) : Option (Int × ah) :=
  (cq (IntKind.wrap .i64 ((IntKind.wrap .i64 (a2 - a1)) + 1)) d0).bind fun x1 => some ((IntKind.wrap .i64 (a1 + x1.1)), x1.2)
def lg (a1 : aj) (d0 : ah) : Option (aa × ah) :=
  (kb a1.ak.fX a1.ae.fX d0).bind fun x1 => (kb a1.ak.fY a1.ae.fY x1.2).bind fun x2 => (kb a1.ak.fZ a1.ae.fZ x2.2).bind fun x3 => some ((aa.mk x1.1 x2.1 x3.1), x3.2)
def mC (x4 : au) (a1 : aI) (a2 : Int) (s1 : Int) : Int → Option (oC (Int) ((Int) ⊕ (aa × Bool))) := fun s5 =>
  if (decide (s5 < (x4.bo.length : Int))) = true then ((oG x4.bo s5).bind fun x9 => if ((x4.aJ.aU == a1.aU) && ((x4.aJ.aL == a1.aL) && ((x4.aJ.aq == a1.aq) && ((x4.aJ.aX == a1.aX) && true)))) = true then (if (decide (x9.bF ≤ a2)) = true then (if (decide (a2 < x9.fTo)) = true then (some (.stop (.inr (x9.aV, true)))) else (some (.next (IntKind.wrap .i64 (s5 + 1))))) else (some (.next (IntKind.wrap .i64 (s5 + 1))))) else (some (.next (IntKind.wrap .i64 (s5 + 1))))) else (some (.stop (.inl s1)))
def mD (a0 : aD) (a1 : aI) (a2 : Int) : Int → Option (oC (Int) ((Unit) ⊕ (aa × Bool))) := fun s1 =>
  if (decide (s1 < (a0.aQ.length : Int))) = true then ((oG a0.aQ s1).bind fun x4 => (hY (mC x4 a1 a2 s1) 0).bind fun o14 => match o14 with | .inl y15 => (some (.next (IntKind.wrap .i64 (y15 + 1)))) | .inr r16 => (some (.stop (.inr r16)))) else (some (.stop (.inl ())))
def lK (a0 : aD) (a1 : aI) (a2 : Int) : Option (aa × Bool) :=
  (hY (mD a0 a1 a2) 0).bind fun o18 => match o18 with | .inl _ => (some ((aa.mk 0 0 0), false)) | .inr r20 => (some r20)
def mY (a0 : Int) : Option (Int) :=
  some (IntKind.wrap .i64 (a0 * a0))
def eM (x18 : aI) (x19 : Int × ah) (x20 : Int × ah) (j22 : Int) (j23 : Int) (j24 : (List Int)) (j25 : Int) (j26 : (List ap)) (j27 : Int) (j28 : Int) (j29 : Int) (j30 : Int) : Option (oC (Int × Int × (List Int) × Int × (List ap) × Int × Int × Int) ((List ap) × (List Int) × Int)) :=
  (cq 5 (ah.mk j24 j25)).bind fun x31 => (cq 5 x31.2).bind fun x32 => (pJ j26 [(ap.mk x18 (IntKind.wrap .i64 (j30 + x31.1)) j30 (IntKind.wrap .i64 ((IntKind.wrap .i64 (j30 + x31.1)) + x32.1)) x19.1 (IntKind.wrap .i64 (x20.1 - 1)))] 104).bind fun x33 => some (.next (j22, (IntKind.wrap .i64 (j23 - 1)), x32.2.fL, x32.2.fAt, x33, j27, j28, j29))
def k5 (x40 : aa × Bool) (s9 : Int) (s10 : Int) (s11 : Int) (s4 : Int) (s5 : Int) (s8 : (List ap)) : Int → Option (oC (Int) (Int × Int × Int × (List ap) × Int × Int × Int)) := fun s42 =>
  (mY (IntKind.wrap .i64 (x40.1.fX - s9))).bind fun x51 => (mY (IntKind.wrap .i64 (x40.1.fY - s10))).bind fun x52 => (mY (IntKind.wrap .i64 (x40.1.fZ - s11))).bind fun x53 => if (decide ((IntKind.wrap .i64 (s42 * s42)) < (IntKind.wrap .i64 ((IntKind.wrap .i64 (x51 + x52)) + x53)))) = true then (some (.next (IntKind.wrap .i64 (s42 + 1)))) else (some (.stop (s4, s5, s42, s8, s9, s10, s11)))
def nv (a1 : aG) (a2 : aD) : (Int × Int × (List Int) × Int × (List ap) × Int × Int × Int) → Option (oC (Int × Int × (List Int) × Int × (List ap) × Int × Int × Int) ((List ap) × (List Int) × Int)) := fun (s4, s5, s6, s7, s8, s9, s10, s11) =>
  if (decide (s5 > 0)) = true then ((cq 6 (ah.mk s6 s7)).bind fun x17 => (dw x17.1).bind fun x18 => (dJ [0, 1, 50, 1000, 1048576] x17.2).bind fun x19 => (cq 3 x19.2).bind fun x20 => (cq 2000 x20.2).bind fun x21 => (cq 6 x21.2).bind fun x35 => if (x35.1 == 0) = true then ((lg a1.ag.ac x35.2).bind fun x37 => (cq 900 x37.2).bind fun x38 => eM x18 x19 x20 (IntKind.wrap .i64 (s4 + x38.1)) s5 x38.2.fL x38.2.fAt s8 x37.1.fX x37.1.fY x37.1.fZ (IntKind.wrap .i64 (1000 + x21.1))) else (if (x35.1 == 1) = true then (eM x18 x19 x20 s4 s5 x35.2.fL x35.2.fAt s8 s9 s10 s11 (IntKind.wrap .i64 (1000 + x21.1))) else ((lK a2 x18 s4).bind fun x40 => if x40.2 = true then ((hY (k5 x40 s9 s10 s11 s4 s5 s8) 0).bind fun o56 => (pT .i64 o56.2.2.1 a1.ag.az.aT).bind fun x57 => (oG a1.ag.az.ak (if (IntKind.wrap .i64 ((a1.ag.az.ak.length : Int) - 1)) < x57 then (IntKind.wrap .i64 ((a1.ag.az.ak.length : Int) - 1)) else x57)).bind fun x58 => (cq 6 x35.2).bind fun x59 => eM x18 x19 x20 o56.1 o56.2.1 x59.2.fL x59.2.fAt o56.2.2.2.1 o56.2.2.2.2.1 o56.2.2.2.2.2.1 o56.2.2.2.2.2.2 (IntKind.wrap .i64 ((IntKind.wrap .i64 (o56.1 + x58)) + x59.1))) else (eM x18 x19 x20 s4 s5 x35.2.fL x35.2.fAt s8 s9 s10 s11 (IntKind.wrap .i64 (1000 + x21.1)))))) else (some (.stop (s8, s6, s7)))
def lf (a1 : aG) (a2 : aD) (a3 : Int) (d0 : ah) : Option ((List ap) × ah) :=
  (lg a1.ag.ac d0).bind fun x1 => (cq 500 x1.2).bind fun x2 => (cq (IntKind.wrap .i64 (a3 + 1)) x2.2).bind fun x3 => (hY (nv a1 a2) ((IntKind.wrap .i64 (1000 + x2.1)), x3.1, x3.2.fL, x3.2.fAt, ([] : (List ap)), x1.1.fX, x1.1.fY, x1.1.fZ)).bind fun o61 => some (o61.1, (ah.mk o61.2.1 o61.2.2))
def bp (a0 : aa) : Option (aW) :=
  some (aW.mk a0.fX a0.fY a0.fZ)
def bX (a0 : aa) : Option (Bool) :=
  (bp a0).bind fun x1 => if (decide (x1.a0 < (-1048576))) = true then (some false) else (if (decide (x1.a0 > 1048576)) = true then (some false) else (if (decide (x1.a1 < (-1048576))) = true then (some false) else (if (decide (x1.a1 > 1048576)) = true then (some false) else (if (decide (x1.a2 < (-16384))) = true then (some false) else (if (decide (x1.a2 > 1048576)) = true then (some false) else (some true))))))
def bu (a0 : aj) : Option (Bool) :=
  (bX a0.ak).bind fun x1 => if (!x1) = true then (some false) else ((bX a0.ae).bind fun x3 => if (!x3) = true then (some false) else ((bp a0.ae).bind fun x5 => (bp a0.ak).bind fun x6 => if (decide (x6.a0 > x5.a0)) = true then (some false) else (if (decide (x6.a1 > x5.a1)) = true then (some false) else (if (decide (x6.a2 > x5.a2)) = true then (some false) else (some true)))))
def eS (a0 : aK) : (Int × Int × Int) → Option (oC (Int × Int × Int) ((Unit) ⊕ (Int))) := fun (s6, s7, s8) =>
  if (decide (s8 < (a0.ak.length : Int))) = true then ((oG a0.ak s8).bind fun x11 => if (decide (x11 < s6)) = true then (some (.stop (.inr 21))) else ((oG a0.ae s8).bind fun x13 => if (decide (x13 < s7)) = true then (some (.stop (.inr 21))) else ((oG a0.ak s8).bind fun x15 => (oG a0.ae s8).bind fun x16 => if (decide (x15 > x16)) = true then (some (.stop (.inr 21))) else ((oG a0.ae s8).bind fun x18 => if (decide (x18 > 1099511627776)) = true then (some (.stop (.inr 21))) else ((oG a0.ak s8).bind fun x20 => (oG a0.ae s8).bind fun x21 => some (.next (x20, x21, (IntKind.wrap .i64 (s8 + 1))))))))) else (some (.stop (.inl ())))
def b8 (a0 : aK) : Option (Int) :=
  if (decide (a0.aT < 1)) = true then (some 21) else (if (decide (a0.aT > 1048576)) = true then (some 21) else (if ((a0.ak.length : Int) != (a0.ae.length : Int)) = true then (some 21) else (if (decide ((a0.ak.length : Int) < 2)) = true then (some 21) else (if (decide ((a0.ak.length : Int) > 256)) = true then (some 21) else ((hY (eS a0) (0, 0, 0)).bind fun o23 => match o23 with | .inl _ => (some 0) | .inr r25 => (some r25))))))
def ev (a0 : Int) (a1 : Int) (a2 : Int) : Option (Bool) :=
  if (decide (a0 ≥ a1)) = true then (some (decide (a0 ≤ a2))) else (some false)
def dX (a0 : av) : Option (Bool) :=
  (bX a0.aL).bind fun x1 => if x1 = true then (if (decide (a0.bw ≥ 0)) = true then (if (decide (a0.bw ≤ a0.bO)) = true then (if (decide (a0.bO ≤ 18014398509481984)) = true then (if (decide (a0.gi ≥ 1)) = true then (some (decide (a0.gi ≤ 100))) else (some false)) else (some false)) else (some false)) else (some false)) else (some false)
def cC (a0 : Int) (a1 : Int) (a2 : Int) : Option (Int) :=
  some (if 0 > (if (IntKind.wrap .i64 (a0 - a2)) > (IntKind.wrap .i64 (a1 - a0)) then (IntKind.wrap .i64 (a0 - a2)) else (IntKind.wrap .i64 (a1 - a0))) then 0 else (if (IntKind.wrap .i64 (a0 - a2)) > (IntKind.wrap .i64 (a1 - a0)) then (IntKind.wrap .i64 (a0 - a2)) else (IntKind.wrap .i64 (a1 - a0))))
def cP (a0 : aj) (a1 : aa) : Option (Int) :=
  (bu a0).bind fun x1 => if (!x1) = true then (some 0) else ((bX a1).bind fun x3 => if (!x3) = true then (some 0) else ((bp a0.ak).bind fun x5 => (bp a0.ae).bind fun x6 => (bp a1).bind fun x7 => (cC x7.a0 x5.a0 x6.a0).bind fun x8 => (cC x7.a1 x5.a1 x6.a1).bind fun x9 => (cC x7.a2 x5.a2 x6.a2).bind fun x10 => some (IntKind.wrap .i64 ((IntKind.wrap .i64 ((IntKind.wrap .i64 (0 + (IntKind.wrap .i64 (x8 * x8)))) + (IntKind.wrap .i64 (x9 * x9)))) + (IntKind.wrap .i64 (x10 * x10))))))
def dl (a0 : aj) (a1 : aa) : Option (Int) :=
  (cP a0 a1).bind fun x1 => some x1
def cp (a0 : Int) (a1 : Int) (a2 : Int) : Option (Int) :=
  some (if (IntKind.wrap .i64 (a0 - a1)) > (IntKind.wrap .i64 (a2 - a0)) then (IntKind.wrap .i64 (a0 - a1)) else (IntKind.wrap .i64 (a2 - a0)))
def cE (a0 : aj) (a1 : aa) : Option (Int) :=
  (bu a0).bind fun x1 => if (!x1) = true then (some 0) else ((bX a1).bind fun x3 => if (!x3) = true then (some 0) else ((bp a0.ak).bind fun x5 => (bp a0.ae).bind fun x6 => (bp a1).bind fun x7 => (cp x7.a0 x5.a0 x6.a0).bind fun x8 => (cp x7.a1 x5.a1 x6.a1).bind fun x9 => (cp x7.a2 x5.a2 x6.a2).bind fun x10 => some (IntKind.wrap .i64 ((IntKind.wrap .i64 ((IntKind.wrap .i64 (0 + (IntKind.wrap .i64 (x8 * x8)))) + (IntKind.wrap .i64 (x9 * x9)))) + (IntKind.wrap .i64 (x10 * x10))))))
def ey (a0 : aj) (a1 : aa) : Option (Int) :=
  (cE a0 a1).bind fun x1 => some x1
def gF (a0 : aK) (a1 : aj) (a2 : aa) : Option (aK × Int × Int) :=
  (dl a1 a2).bind fun x1 => (ey a1 a2).bind fun x2 => some (a0, x1, x2)
def dU (j3 : Int) (j4 : Int) : Option (Int) :=
  if (decide (j3 ≥ 256)) = true then ((sc [0, 1, 2, 2, 3, 3, 3, 3, 4, 4, 4, 4, 4, 4, 4, 4, 5, 5, 5, 5, 5, 5, 5, 5, 5, 5, 5, 5, 5, 5, 5, 5, 6, 6, 6, 6, 6, 6, 6, 6, 6, 6, 6, 6, 6, 6, 6, 6, 6, 6, 6, 6, 6, 6, 6, 6, 6, 6, 6, 6, 6, 6, 6, 6, 7, 7, 7, 7, 7, 7, 7, 7, 7, 7, 7, 7, 7, 7, 7, 7, 7, 7, 7, 7, 7, 7, 7, 7, 7, 7, 7, 7, 7, 7, 7, 7, 7, 7, 7, 7, 7, 7, 7, 7, 7, 7, 7, 7, 7, 7, 7, 7, 7, 7, 7, 7, 7, 7, 7, 7, 7, 7, 7, 7, 7, 7, 7, 7, 8, 8, 8, 8, 8, 8, 8, 8, 8, 8, 8, 8, 8, 8, 8, 8, 8, 8, 8, 8, 8, 8, 8, 8, 8, 8, 8, 8, 8, 8, 8, 8, 8, 8, 8, 8, 8, 8, 8, 8, 8, 8, 8, 8, 8, 8, 8, 8, 8, 8, 8, 8, 8, 8, 8, 8, 8, 8, 8, 8, 8, 8, 8, 8, 8, 8, 8, 8, 8, 8, 8, 8, 8, 8, 8, 8, 8, 8, 8, 8, 8, 8, 8, 8, 8, 8, 8, 8, 8, 8, 8, 8, 8, 8, 8, 8, 8, 8, 8, 8, 8, 8, 8, 8, 8, 8, 8, 8, 8, 8, 8, 8, 8, 8, 8, 8, 8, 8, 8, 8, 8, 8, 8, 8, 8, 8, 8, 8] (IntKind.wrap .u8 (oS .u64 j3 8))).bind fun x6 => some (IntKind.wrap .i64 ((IntKind.wrap .i64 (j4 + 8)) + (IntKind.wrap .i64 x6)))) else ((sc [0, 1, 2, 2, 3, 3, 3, 3, 4, 4, 4, 4, 4, 4, 4, 4, 5, 5, 5, 5, 5, 5, 5, 5, 5, 5, 5, 5, 5, 5, 5, 5, 6, 6, 6, 6, 6, 6, 6, 6, 6, 6, 6, 6, 6, 6, 6, 6, 6, 6, 6, 6, 6, 6, 6, 6, 6, 6, 6, 6, 6, 6, 6, 6, 7, 7, 7, 7, 7, 7, 7, 7, 7, 7, 7, 7, 7, 7, 7, 7, 7, 7, 7, 7, 7, 7, 7, 7, 7, 7, 7, 7, 7, 7, 7, 7, 7, 7, 7, 7, 7, 7, 7, 7, 7, 7, 7, 7, 7, 7, 7, 7, 7, 7, 7, 7, 7, 7, 7, 7, 7, 7, 7, 7, 7, 7, 7, 7, 8, 8, 8, 8, 8, 8, 8, 8, 8, 8, 8, 8, 8, 8, 8, 8, 8, 8, 8, 8, 8, 8, 8, 8, 8, 8, 8, 8, 8, 8, 8, 8, 8, 8, 8, 8, 8, 8, 8, 8, 8, 8, 8, 8, 8, 8, 8, 8, 8, 8, 8, 8, 8, 8, 8, 8, 8, 8, 8, 8, 8, 8, 8, 8, 8, 8, 8, 8, 8, 8, 8, 8, 8, 8, 8, 8, 8, 8, 8, 8, 8, 8, 8, 8, 8, 8, 8, 8, 8, 8, 8, 8, 8, 8, 8, 8, 8, 8, 8, 8, 8, 8, 8, 8, 8, 8, 8, 8, 8, 8, 8, 8, 8, 8, 8, 8, 8, 8, 8, 8, 8, 8, 8, 8, 8, 8, 8, 8] (IntKind.wrap .u8 j3)).bind fun x7 => some (IntKind.wrap .i64 (j4 + (IntKind.wrap .i64 x7))))
def dq (j1 : Int) (j2 : Int) : Option (Int) :=
  if (decide (j1 ≥ 65536)) = true then (dU (oS .u64 j1 16) (IntKind.wrap .i64 (j2 + 16))) else (dU j1 j2)
def iM (a0 : Int) : Option (Int) :=
  if (decide (a0 ≥ 4294967296)) = true then (dq (oS .u64 a0 32) 32) else (dq a0 0)
def fA (a0 : Int) : Option (Int) :=
  (iM a0).bind fun x1 => some x1
def d7 (a0 : Int) : (Int × Int) → Option (oC (Int × Int) (Int)) := fun (s5, s6) =>
  if (decide (s6 > 0)) = true then ((pT .i64 a0 (orI .i64 s5 s6)).bind fun x10 => if (decide ((orI .i64 s5 s6) ≤ x10)) = true then (some (.next ((orI .i64 s5 s6), (oS .i64 s6 1)))) else (some (.next (s5, (oS .i64 s6 1))))) else (some (.stop s5))
def d6 (a0 : Int) : Option (Int) :=
  if (decide (a0 ≤ 0)) = true then (some 0) else ((fA (IntKind.wrap .u64 a0)).bind fun x2 => (pT .i64 (IntKind.wrap .i64 (x2 - 1)) 2).bind fun x3 => (vK .i64 1 x3).bind fun x4 => (hY (d7 a0) (0, x4)).bind fun o13 => some o13)
def fH (a0 : Int) : Option (Int) :=
  (d6 a0).bind fun x1 => if (decide ((IntKind.wrap .i64 (x1 * x1)) < a0)) = true then (some (IntKind.wrap .i64 (x1 + 1))) else (some x1)
def iI (a0 : aK) : Option (Int) :=
  some (IntKind.wrap .i64 (a0.aT * (IntKind.wrap .i64 ((a0.ak.length : Int) - 1))))
def dR (a0 : Int) (d0 : aK) (d1 : Int) : Option (Bool) :=
  some (decide ((IntKind.wrap .i64 (a0 * d0.aT)) ≥ d1))
def eR (d0 : aK) (d1 : Int) : (Int × Int) → Option (oC (Int × Int) (Int)) := fun (s1, s2) =>
  if (decide (s1 < s2)) = true then ((dR (IntKind.wrap .i64 (oS .u64 (IntKind.wrap .u64 (IntKind.wrap .i64 (s1 + s2))) 1)) d0 d1).bind fun x6 => if (!x6) = true then (some (.next ((IntKind.wrap .i64 ((IntKind.wrap .i64 (oS .u64 (IntKind.wrap .u64 (IntKind.wrap .i64 (s1 + s2))) 1)) + 1)), s2))) else (some (.next (s1, (IntKind.wrap .i64 (oS .u64 (IntKind.wrap .u64 (IntKind.wrap .i64 (s1 + s2))) 1)))))) else (some (.stop s1))
def d5 (a0 : Int) (d0 : aK) (d1 : Int) : Option (Int) :=
  (hY (eR d0 d1) (0, a0)).bind fun o9 => some o9
def ec (a0 : aK) (a1 : Int) (a2 : Int) : Option (Int × Int × Int) :=
  (b8 a0).bind fun x1 => if (x1 != 0) = true then (some (0, 0, 21)) else (if (decide (a1 < 0)) = true then (some (0, 0, 2)) else (if (decide (a1 > a2)) = true then (some (0, 0, 2)) else ((fH a2).bind fun x5 => (iI a0).bind fun x6 => if (decide (x5 > x6)) = true then (some (0, 0, 22)) else ((d5 (a0.ae.length : Int) a0 x5).bind fun x8 => (d6 a1).bind fun x9 => (pT .i64 x9 a0.aT).bind fun x10 => (oG a0.ak x10).bind fun x11 => (oG a0.ae x8).bind fun x12 => some (x11, x12, 0)))))
def fV (a0 : aK) (a1 : aj) (a2 : aa) : Option (Int × Int × Int) :=
  (b8 a0).bind fun x1 => if (x1 != 0) = true then (some (0, 0, x1)) else ((bu a1).bind fun x3 => if (!x3) = true then (some (0, 0, 20)) else ((bX a2).bind fun x5 => if (!x5) = true then (some (0, 0, 20)) else ((gF a0 a1 a2).bind fun x7 => (ec x7.1 x7.2.1 x7.2.2).bind fun x8 => some (x8.1, x8.2.1, x8.2.2))))
def eN (a0 : aK) (a1 : aj) (a2 : av) : Option (aM × Int) :=
  (b8 a0).bind fun x1 => if (x1 != 0) = true then (some ((aM.mk 0 0), x1)) else ((bu a1).bind fun x3 => if (!x3) = true then (some ((aM.mk 0 0), 20)) else ((dX a2).bind fun x5 => if (!x5) = true then (some ((aM.mk 0 0), 23)) else ((fV a0 a1 a2.aL).bind fun x7 => if (x7.2.2 != 0) = true then (some ((aM.mk 0 0), x7.2.2)) else (some ((aM.mk (IntKind.wrap .i64 (a2.bw - x7.2.1)) (IntKind.wrap .i64 (a2.bO - x7.1))), 0)))))
def fg (a1 : (List av)) (a0 : bd) : Int → Option (oC (Int) ((Unit) ⊕ (Int))) := fun s16 =>
  if (decide (s16 < (a1.length : Int))) = true then ((oG a1 s16).bind fun x19 => (eN a0.az a0.ac x19).bind fun x20 => if (x20.2 != 0) = true then (some (.stop (.inr x20.2))) else (some (.next (IntKind.wrap .i64 (s16 + 1))))) else (some (.stop (.inl ())))
def ff (a0 : bd) (a1 : (List av)) : Option (Int) :=
  (bu a0.ac).bind fun x1 => if (!x1) = true then (some 27) else ((b8 a0.az).bind fun x3 => if (x3 != 0) = true then (some 27) else ((ev a0.bG 1 1099511627776).bind fun x5 => if (!x5) = true then (some 27) else ((ev a0.ba 0 1099511627776).bind fun x7 => if (!x7) = true then (some 27) else ((ev a0.eP 0 1099511627776).bind fun x9 => if (!x9) = true then (some 27) else ((ev a0.gH 0 1099511627776).bind fun x11 => if (!x11) = true then (some 27) else ((ev a0.eO 2 16).bind fun x13 => if (!x13) = true then (some 27) else (if (decide ((a1.length : Int) > 256)) = true then (some 8) else ((hY (fg a1 a0) 0).bind fun o23 => match o23 with | .inl _ => (some 0) | .inr r25 => (some r25)))))))))
def ch (a0 : bt) : Option (Bool) :=
  (b8 a0.aZ).bind fun x1 => if (x1 == 0) = true then (if (decide (a0.bh ≥ 0)) = true then (if (decide (a0.bh ≤ 65536)) = true then (if (decide (a0.bg ≥ 1)) = true then (some (decide (a0.bg ≤ 65536))) else (some false)) else (some false)) else (some false)) else (some false)
def eJ (a0 : aG) : Option (Int) :=
  (ff a0.ag []).bind fun x1 => if (x1 != 0) = true then (some 27) else ((ch a0.bi).bind fun x3 => if (!x3) = true then (some 27) else (if (decide (a0.ba < 0)) = true then (some 27) else (if (decide (a0.ba > 1099511627776)) = true then (some 27) else (some 0))))
def gu (a0 : Int) : Option (Bool) :=
  if (decide (a0 ≥ 65)) = true then (if (decide (a0 ≤ 90)) = true then (some true) else (if (decide (a0 ≥ 48)) = true then (some (decide (a0 ≤ 57))) else (some false))) else (if (decide (a0 ≥ 48)) = true then (some (decide (a0 ≤ 57))) else (some false))
def fd (a0 : (List UInt8)) : Int → Option (oC (Int) ((Unit) ⊕ (Bool))) := fun s1 =>
  if (decide (s1 < (a0.length : Int))) = true then ((sc a0 s1).bind fun x4 => (gu x4).bind fun x5 => if (!x5) = true then (some (.stop (.inr false))) else (some (.next (IntKind.wrap .i64 (s1 + 1))))) else (some (.stop (.inl ())))
def eK (a0 : (List UInt8)) (a1 : Int) (a2 : Int) : Option (Bool) :=
  (hY (fd a0) 0).bind fun o8 => match o8 with | .inl _ => (if (decide ((a0.length : Int) ≥ a1)) = true then (some (decide ((a0.length : Int) ≤ a2))) else (some false)) | .inr r10 => (some r10)
def fx (a0 : aI) : Option (Bool) :=
  (eK a0.aU 1 2).bind fun x1 => if x1 = true then ((eK a0.aL 1 5).bind fun x3 => if x3 = true then ((eK a0.aq 0 2).bind fun x5 => if x5 = true then (if ((a0.aq.length : Int) != 1) = true then ((eK a0.aX 3 3).bind fun x8 => some x8) else (some false)) else (some false)) else (some false)) else (some false)
def m6 (a0 : Int) (a1 : Int) (a2 : Int) : Option (Bool) :=
  if (decide (a0 ≥ a1)) = true then (some (decide (a0 ≤ a2))) else (some false)
def mO  : (Int × Int) → Option (oC (Int × Int) (Int)) := fun (s1, s2) =>
  if (s2 != 0) = true then ((uX s1 s2).bind fun x6 => some (.next (s2, x6))) else (some (.stop s1))
def mN (a0 : Int) (a1 : Int) : Option (Int) :=
  (hY (mO) (a0, a1)).bind fun o8 => some o8
def iX (a0 : bf) : Option (Bool) :=
  (m6 a0.bh 1 4096).bind fun x1 => if x1 = true then ((m6 a0.bg 1 4096).bind fun x3 => if x3 = true then ((mN a0.bh a0.bg).bind fun x5 => some (x5 == 1)) else (some false)) else (some false)
def bK (a0 : Int) (a1 : Int) (a2 : Int) : Option (Bool) :=
  if (decide (a0 ≥ a1)) = true then (some (decide (a0 ≤ a2))) else (some false)
def dO (a0 : Int) : Option (Bool) :=
  (bK a0 (-1048576) 1048576).bind fun x1 => some (!x1)
def b7 (a0 : (List Int)) : Int → Option (oC (Int) ((Unit) ⊕ (Int))) := fun s1 =>
  if (decide (s1 < (a0.length : Int))) = true then ((oG a0 s1).bind fun x4 => (dO x4).bind fun x5 => if x5 = true then (some (.stop (.inr s1))) else (some (.next (IntKind.wrap .i64 (s1 + 1))))) else (some (.stop (.inl ())))
def cm (a0 : (List Int)) : Option (Int) :=
  (hY (b7 a0) 0).bind fun o8 => match o8 with | .inl _ => (some (-1)) | .inr r10 => (some r10)
def bZ (a0 : (List Int)) : Option (Bool) :=
  (cm a0).bind fun x1 => some (decide (x1 ≥ 0))
def bT (a0 : (List Int)) : Option (Bool) :=
  (bZ a0).bind fun x1 => some (!x1)
def gT (a0 : (List Int)) : (Int × Int) → Option (oC (Int × Int) (Int)) := fun (s1, s2) =>
  if (decide (s2 < (a0.length : Int))) = true then ((oG a0 s2).bind fun x6 => some (.next ((IntKind.wrap .i64 (s1 + x6)), (IntKind.wrap .i64 (s2 + 1))))) else (some (.stop s1))
def cS (a0 : (List Int)) : Option (Int) :=
  (hY (gT a0) (0, 0)).bind fun o8 => some o8
def cb (a0 : aB) : Option (Bool) :=
  if ((a0.cO.length : Int) == 0) = true then (if (a0.cn == 0) = true then (if (a0.ej == 0) = true then (if (a0.cN == 0) = true then (if ((a0.bh.a0 == a0.bh.a0) && ((a0.bh.a1 == 0) && ((a0.bh.a2 == 0) && true))) = true then (if ((a0.bg.a0 == a0.bg.a0) && ((a0.bg.a1 == 0) && ((a0.bg.a2 == 0) && true))) = true then ((bK a0.bh.a0 1 1048576).bind fun x7 => if x7 = true then ((bK a0.bg.a0 1 1048576).bind fun x9 => some x9) else (some false)) else (some false)) else (some false)) else (some false)) else (if (a0.ej == 1) = true then (if (a0.cN == 0) = true then ((bT [a0.bh.a0, a0.bh.a1, a0.bh.a2]).bind fun x12 => if x12 = true then ((bT [a0.bg.a0, a0.bg.a1, a0.bg.a2]).bind fun x14 => if x14 = true then (some (a0.bg.a0 != 0)) else (some false)) else (some false)) else (some false)) else (if (a0.ej == 2) = true then (if ((a0.bh.a0 == 0) && ((a0.bh.a1 == 0) && ((a0.bh.a2 == 0) && true))) = true then (if ((a0.bg.a0 == 0) && ((a0.bg.a1 == 0) && ((a0.bg.a2 == 0) && true))) = true then ((bK (a0.cO.length : Int) 1 128).bind fun x19 => if x19 = true then ((bT a0.cO).bind fun x21 => if x21 = true then ((cS a0.cO).bind fun x23 => if (x23 != 0) = true then ((bK a0.cn 1 64).bind fun x25 => if x25 = true then ((bK a0.cN 0 40).bind fun x27 => some x27) else (some false)) else (some false)) else (some false)) else (some false)) else (some false)) else (some false)) else (some false)))) else (if (a0.ej == 0) = true then (some false) else (if (a0.ej == 1) = true then (some false) else (if (a0.ej == 2) = true then (if ((a0.bh.a0 == 0) && ((a0.bh.a1 == 0) && ((a0.bh.a2 == 0) && true))) = true then (if ((a0.bg.a0 == 0) && ((a0.bg.a1 == 0) && ((a0.bg.a2 == 0) && true))) = true then ((bK (a0.cO.length : Int) 1 128).bind fun x33 => if x33 = true then ((bT a0.cO).bind fun x35 => if x35 = true then ((cS a0.cO).bind fun x37 => if (x37 != 0) = true then ((bK a0.cn 1 64).bind fun x39 => if x39 = true then ((bK a0.cN 0 40).bind fun x41 => some x41) else (some false)) else (some false)) else (some false)) else (some false)) else (some false)) else (some false)) else (some false))))) else (if (a0.ej == 0) = true then (some false) else (if (a0.ej == 1) = true then (some false) else (if (a0.ej == 2) = true then (if ((a0.bh.a0 == 0) && ((a0.bh.a1 == 0) && ((a0.bh.a2 == 0) && true))) = true then (if ((a0.bg.a0 == 0) && ((a0.bg.a1 == 0) && ((a0.bg.a2 == 0) && true))) = true then ((bK (a0.cO.length : Int) 1 128).bind fun x47 => if x47 = true then ((bT a0.cO).bind fun x49 => if x49 = true then ((cS a0.cO).bind fun x51 => if (x51 != 0) = true then ((bK a0.cn 1 64).bind fun x53 => if x53 = true then ((bK a0.cN 0 40).bind fun x55 => some x55) else (some false)) else (some false)) else (some false)) else (some false)) else (some false)) else (some false)) else (some false))))
def dN (a0 : aB) : Option (Bool) :=
  (cb a0).bind fun x1 => some (!x1)
def bU (a0 : (List aB)) : Int → Option (oC (Int) ((Unit) ⊕ (Int))) := fun s1 =>
  if (decide (s1 < (a0.length : Int))) = true then ((oG a0 s1).bind fun x4 => (dN x4).bind fun x5 => if x5 = true then (some (.stop (.inr s1))) else (some (.next (IntKind.wrap .i64 (s1 + 1))))) else (some (.stop (.inl ())))
def ce (a0 : (List aB)) : Option (Int) :=
  (hY (bU a0) 0).bind fun o8 => match o8 with | .inl _ => (some (-1)) | .inr r10 => (some r10)
def bM (a0 : (List aB)) : Option (Bool) :=
  (ce a0).bind fun x1 => some (decide (x1 ≥ 0))
def ea (a0 : (List aB)) : (Int × Int) → Option (oC (Int × Int) ((Int) ⊕ (Int))) := fun (s1, s2) =>
  if (decide (s2 < (a0.length : Int))) = true then ((oG a0 s2).bind fun x6 => if (x6.ej != 2) = true then (some (.next (s1, (IntKind.wrap .i64 (s2 + 1))))) else (if (decide ((IntKind.wrap .i64 (s1 * x6.cn)) > 64)) = true then (some (.stop (.inr 0))) else (some (.next ((IntKind.wrap .i64 (s1 * x6.cn)), (IntKind.wrap .i64 (s2 + 1))))))) else (some (.stop (.inl s1)))
def eu (a0 : (List aB)) : Option (Int) :=
  (hY (ea a0) (1, 0)).bind fun o10 => match o10 with | .inl y11 => (some y11) | .inr r12 => (some r12)
def d9 (a0 : aN) : Option (Bool) :=
  if (decide ((a0.bj.length : Int) > 8)) = true then (some false) else ((bM a0.bj).bind fun x2 => if x2 = true then (some false) else ((eu a0.bj).bind fun x4 => some (decide (x4 > 0))))
def dm (a0 : Int) (a1 : Int) (a2 : Int) : Option (Bool) :=
  if (decide (a0 ≥ a1)) = true then (some (decide (a0 ≤ a2))) else (some false)
def cH (a0 : al) : Option (Bool) :=
  if (decide (a0.bF ≥ 0)) = true then (if (decide (a0.bF < a0.fTo)) = true then (if (decide (a0.fTo ≤ 9007199254740992)) = true then ((iX a0.ct).bind fun x4 => if x4 = true then ((d9 a0.bq).bind fun x6 => if x6 = true then ((dm a0.aV.fX (-1048576) 1048576).bind fun x8 => if x8 = true then ((dm a0.aV.fY (-1048576) 1048576).bind fun x10 => if x10 = true then ((dm a0.aV.fZ (-16384) 1048576).bind fun x12 => some x12) else (some false)) else (some false)) else (some false)) else (some false)) else (some false)) else (some false)) else (some false)
def dv (a0 : (List al)) : Int → Option (oC (Int) ((Unit) ⊕ (Bool))) := fun s1 =>
  if (decide (s1 < (a0.length : Int))) = true then ((oG a0 s1).bind fun x4 => (cH x4).bind fun x5 => if (!x5) = true then (some (.stop (.inr false))) else (if (decide (s1 > 0)) = true then ((oG a0 (IntKind.wrap .i64 (s1 - 1))).bind fun x8 => if (decide (x4.bF < x8.fTo)) = true then (some (.stop (.inr false))) else (some (.next (IntKind.wrap .i64 (s1 + 1))))) else (some (.next (IntKind.wrap .i64 (s1 + 1)))))) else (some (.stop (.inl ())))
def dZ (a0 : (List al)) : Option (Bool) :=
  (hY (dv a0) 0).bind fun o11 => match o11 with | .inl _ => ((dm (a0.length : Int) 1 32).bind fun x14 => some x14) | .inr r13 => (some r13)
def db (a0 : (List UInt8)) : Option (Bool) :=
  some (!(a0 == a0))
def bS (a0 : (List UInt8)) (a1 : (List UInt8)) : Option (Int) :=
  (db a0).bind fun x1 => (db a1).bind fun x2 => if x1 = true then (if x2 = true then (some 0) else (some (-1))) else (if x2 = true then (some 1) else (if (Op.bytesLess a0 a1) = true then (some (-1)) else (if (!(Op.bytesLess a0 a1 || a0 == a1)) = true then (some 1) else (some 0))))
def cr (a0 : (List Int)) : Int → Option (oC (Int) ((Unit) ⊕ (Int))) := fun s1 =>
  if (decide (s1 < (a0.length : Int))) = true then ((oG a0 s1).bind fun x4 => if (x4 != 0) = true then (some (.stop (.inr x4))) else (some (.next (IntKind.wrap .i64 (s1 + 1))))) else (some (.stop (.inl ())))
def cM (a0 : (List Int)) : Option (Int) :=
  (hY (cr a0) 0).bind fun o7 => match o7 with | .inl _ => (some 0) | .inr r9 => (some r9)
def dG (a0 : aI) (a1 : aI) : Option (Int) :=
  (bS a0.aU a1.aU).bind fun x1 => (bS a0.aL a1.aL).bind fun x2 => (bS a0.aq a1.aq).bind fun x3 => (bS a0.aX a1.aX).bind fun x4 => (cM [x1, x2, x3, x4]).bind fun x5 => some x5
def dM (a0 : aD) : Int → Option (oC (Int) ((Unit) ⊕ (Bool))) := fun s1 =>
  if (decide (s1 < (a0.aQ.length : Int))) = true then ((oG a0.aQ s1).bind fun x4 => (fx x4.aJ).bind fun x5 => if (!x5) = true then (some (.stop (.inr false))) else ((dZ x4.bo).bind fun x7 => if (!x7) = true then (some (.stop (.inr false))) else (if (decide (s1 > 0)) = true then ((oG a0.aQ (IntKind.wrap .i64 (s1 - 1))).bind fun x10 => (dG x10.aJ x4.aJ).bind fun x11 => if (decide (x11 ≥ 0)) = true then (some (.stop (.inr false))) else (some (.next (IntKind.wrap .i64 (s1 + 1))))) else (some (.next (IntKind.wrap .i64 (s1 + 1))))))) else (some (.stop (.inl ())))
def da (a0 : aD) : Option (Bool) :=
  (hY (dM a0) 0).bind fun o14 => match o14 with | .inl _ => (some (decide ((a0.aQ.length : Int) ≤ 128))) | .inr r16 => (some r16)
def dV (a0 : Int) : Option (Bool) :=
  some (a0 != a0)
def bD (a0 : Int) (a1 : Int) : Option (Int) :=
  (dV a0).bind fun x1 => (dV a1).bind fun x2 => if x1 = true then (if x2 = true then (some 0) else (some (-1))) else (if x2 = true then (some 1) else (if (decide (a0 < a1)) = true then (some (-1)) else (if (decide (a0 > a1)) = true then (some 1) else (some 0))))
def bY (a0 : ap) (a1 : ap) : Option (Int) :=
  (dG a0.aJ a1.aJ).bind fun x1 => (bD a0.a8 a1.a8).bind fun x2 => (bD a0.bw a1.bw).bind fun x3 => (bD a0.bO a1.bO).bind fun x4 => (bD a0.bn a1.bn).bind fun x5 => (bD a0.bI a1.bI).bind fun x6 => (cM [x1, x2, x3, x4, x5, x6]).bind fun x7 => some x7
def fb (s2 : Int) (d0 : (List ap)) : (Int × Int × (List ap)) → Option (oC (Int × Int × (List ap)) (Int × (List ap))) := fun (s13, s14, s15) =>
  (lenV s15.length (0 + (s2 : Int).toNat) (0 + ((d0.length : Int) : Int).toNat)).bind fun x19 => if (decide (s14 < x19)) = true then ((inV s15.length (0 + (s2 : Int).toNat) (0 + ((d0.length : Int) : Int).toNat) s14).bind fun _ => (oG s15 (((0 + (s2 : Int).toNat) + (s14 : Int).toNat : Nat) : Int)).bind fun x22 => (inV s15.length (0 + (s2 : Int).toNat) (0 + ((d0.length : Int) : Int).toNat) (IntKind.wrap .i64 (s14 - 1))).bind fun _ => (oG s15 (((0 + (s2 : Int).toNat) + ((IntKind.wrap .i64 (s14 - 1)) : Int).toNat : Nat) : Int)).bind fun x24 => if (!(((x22.aJ.aU == x24.aJ.aU) && ((x22.aJ.aL == x24.aJ.aL) && ((x22.aJ.aq == x24.aJ.aq) && ((x22.aJ.aX == x24.aJ.aX) && true)))) && ((x22.a8 == x24.a8) && ((x22.bw == x24.bw) && ((x22.bO == x24.bO) && ((x22.bn == x24.bn) && ((x22.bI == x24.bI) && true))))))) = true then ((inV s15.length (0 + (s2 : Int).toNat) (0 + ((d0.length : Int) : Int).toNat) s14).bind fun _ => (oG s15 (((0 + (s2 : Int).toNat) + (s14 : Int).toNat : Nat) : Int)).bind fun x27 => (inO s15 s13).bind fun _ => (rY s15 s13 x27).bind fun x30 => some (.next ((IntKind.wrap .i64 (s13 + 1)), (IntKind.wrap .i64 (s14 + 1)), x30))) else (some (.next (s13, (IntKind.wrap .i64 (s14 + 1)), s15)))) else (some (.stop (s13, s15)))
def fc (d0 : (List ap)) : Int → Option (oC (Int) ((Unit) ⊕ ((List ap)))) := fun s2 =>
  if (decide (s2 < (d0.length : Int))) = true then ((inO d0 s2).bind fun _ => (oG d0 s2).bind fun x7 => (inO d0 (IntKind.wrap .i64 (s2 - 1))).bind fun _ => (oG d0 (IntKind.wrap .i64 (s2 - 1))).bind fun x10 => if (((x7.aJ.aU == x10.aJ.aU) && ((x7.aJ.aL == x10.aJ.aL) && ((x7.aJ.aq == x10.aJ.aq) && ((x7.aJ.aX == x10.aJ.aX) && true)))) && ((x7.a8 == x10.a8) && ((x7.bw == x10.bw) && ((x7.bO == x10.bO) && ((x7.bn == x10.bn) && ((x7.bI == x10.bI) && true)))))) = true then ((u9 d0.length s2 (d0.length : Int)).bind fun _ => (hY (fb s2 d0) (s2, 1, d0)).bind fun o32 => (u9 o32.2.length o32.1 (o32.2.length : Int)).bind fun _ => (xG o32.2.length (0 + (o32.1 : Int).toNat) (0 + ((o32.2.length : Int) : Int).toNat)).bind fun _ => (u9 (rR o32.2 (0 + (o32.1 : Int).toNat) ((0 + ((o32.2.length : Int) : Int).toNat) - (0 + (o32.1 : Int).toNat)) (ap.mk (aI.mk [] [] [] []) 0 0 0 0 0)).length 0 o32.1).bind fun _ => (wE (rR o32.2 (0 + (o32.1 : Int).toNat) ((0 + ((o32.2.length : Int) : Int).toNat) - (0 + (o32.1 : Int).toNat)) (ap.mk (aI.mk [] [] [] []) 0 0 0 0 0)) (0 + (0 : Int).toNat) (0 + (o32.1 : Int).toNat)).bind fun x37 => some (.stop (.inr x37))) else (some (.next (IntKind.wrap .i64 (s2 + 1))))) else (some (.stop (.inl ())))
def dP (d0 : (List ap)) : Option ((List ap)) :=
  if (decide ((d0.length : Int) < 2)) = true then (some d0) else ((hY (fc d0) 1).bind fun o39 => match o39 with | .inl _ => (some d0) | .inr r41 => (some r41))
def eF (a0 : (List ap)) : Option ((List ap)) :=
  (pP 104 a0).bind fun x1 => (uI bY x1).bind fun x2 => (dP x2).bind fun x3 => some x3
def gt (a0 : Int) (a1 : Int) (a2 : Int) : Option (Bool) :=
  if (decide (a0 ≥ a1)) = true then (some (decide (a0 ≤ a2))) else (some false)
def d4 (a0 : ap) : Option (Bool) :=
  (fx a0.aJ).bind fun x1 => if x1 = true then (if (decide (a0.bw ≥ 0)) = true then (if (decide (a0.bw ≤ a0.a8)) = true then (if (decide (a0.a8 ≤ a0.bO)) = true then (if (decide (a0.bO ≤ 18014398509481984)) = true then ((gt a0.bn 0 1073741823).bind fun x7 => if x7 = true then ((gt a0.bI (-1) 1).bind fun x9 => some x9) else (some false)) else (some false)) else (some false)) else (some false)) else (some false)) else (some false)
def cG (x1 : (List aB)) : (Int × (List aB)) → Option (oC (Int × (List aB)) ((List aB))) := fun (s2, s3) =>
  if (decide (s2 < (x1.length : Int))) = true then ((inO s3 s2).bind fun _ => (oG s3 s2).bind fun x9 => (pP 8 x9.cO).bind fun x10 => (inO s3 s2).bind fun _ => (xx s3 s2 (fun (z14 : aB) => (aB.mk z14.ej z14.bh z14.bg x10 z14.cn z14.cN))).bind fun x13 => some (.next ((IntKind.wrap .i64 (s2 + 1)), x13))) else (some (.stop s3))
def c7 (a0 : al) : Option (al) :=
  (pP 96 a0.bq.bj).bind fun x1 => (hY (cG x1) (0, x1)).bind fun o16 => some (al.mk a0.bF a0.fTo a0.ct a0.aV (aN.mk o16))
def du (x1 : (List al)) : (Int × (List al)) → Option (oC (Int × (List al)) ((List al))) := fun (s2, s3) =>
  if (decide (s2 < (x1.length : Int))) = true then ((inO s3 s2).bind fun _ => (oG s3 s2).bind fun x9 => (c7 x9).bind fun x10 => (inO s3 s2).bind fun _ => (rY s3 s2 x10).bind fun x13 => some (.next ((IntKind.wrap .i64 (s2 + 1)), x13))) else (some (.stop s3))
def dY (a0 : au) : Option (au) :=
  (pP 80 a0.bo).bind fun x1 => (hY (du x1) (0, x1)).bind fun o15 => some (au.mk a0.aJ o15)
def eB (a0 : aD) (a1 : aI) : Int → Option (oC (Int) ((Unit) ⊕ (au × Bool))) := fun s1 =>
  if (decide (s1 < (a0.aQ.length : Int))) = true then ((oG a0.aQ s1).bind fun x4 => if ((x4.aJ.aU == a1.aU) && ((x4.aJ.aL == a1.aL) && ((x4.aJ.aq == a1.aq) && ((x4.aJ.aX == a1.aX) && true)))) = true then ((dY x4).bind fun x6 => some (.stop (.inr (x6, true)))) else (some (.next (IntKind.wrap .i64 (s1 + 1))))) else (some (.stop (.inl ())))
def eX (a0 : aD) (a1 : aI) : Option (au × Bool) :=
  (hY (eB a0 a1) 0).bind fun o8 => match o8 with | .inl _ => (some ((au.mk (aI.mk [] [] [] []) []), false)) | .inr r10 => (some r10)
def fB (a0 : au) (a1 : Int) : Int → Option (oC (Int) ((Unit) ⊕ (al × Bool))) := fun s1 =>
  if (decide (s1 < (a0.bo.length : Int))) = true then ((oG a0.bo s1).bind fun x4 => if (decide (x4.bF ≤ a1)) = true then (if (decide (a1 < x4.fTo)) = true then (some (.stop (.inr (x4, true)))) else (some (.next (IntKind.wrap .i64 (s1 + 1))))) else (some (.next (IntKind.wrap .i64 (s1 + 1))))) else (some (.stop (.inl ())))
def gn (a0 : au) (a1 : Int) : Option (al × Bool) :=
  (hY (fB a0 a1) 0).bind fun o8 => match o8 with | .inl _ => (some ((al.mk 0 0 (bf.mk 0 0) (aa.mk 0 0 0) (aN.mk [])), false)) | .inr r10 => (some r10)
def gm (a0 : aD) (a1 : aI) (a2 : Int) : Option (al × Int) :=
  (da a0).bind fun x1 => if (!x1) = true then (some ((al.mk 0 0 (bf.mk 0 0) (aa.mk 0 0 0) (aN.mk [])), 1)) else ((eX a0 a1).bind fun x3 => (gn x3.1 a2).bind fun x4 => if (!x4.2) = true then (some ((al.mk 0 0 (bf.mk 0 0) (aa.mk 0 0 0) (aN.mk [])), 6)) else (some (x4.1, 0)))
def cw (a0 : aG) (a1 : aD) (a2 : ap) : Option (av × al × Bool) :=
  (d4 a2).bind fun x1 => if (!x1) = true then (some ((av.mk (aa.mk 0 0 0) 0 0 0), (al.mk 0 0 (bf.mk 0 0) (aa.mk 0 0 0) (aN.mk [])), false)) else ((gm a1 a2.aJ a2.a8).bind fun x3 => if (x3.2 != 0) = true then (some ((av.mk (aa.mk 0 0 0) 0 0 0), (al.mk 0 0 (bf.mk 0 0) (aa.mk 0 0 0) (aN.mk [])), false)) else ((eN a0.ag.az a0.ag.ac (av.mk x3.1.aV a2.bw a2.bO 1)).bind fun x5 => if (x5.2 != 0) = true then (some ((av.mk (aa.mk 0 0 0) 0 0 0), (al.mk 0 0 (bf.mk 0 0) (aa.mk 0 0 0) (aN.mk [])), false)) else (some ((av.mk x3.1.aV a2.bw a2.bO 1), x3.1, true))))
def gB (x5 : (List ap)) (a0 : aG) (a1 : aD) : (Int × (List ap) × (List av) × (List al)) → Option (oC (Int × (List ap) × (List av) × (List al)) ((List ap) × (List av) × (List al))) := fun (s6, s7, s8, s9) =>
  if (decide (s6 < (x5.length : Int))) = true then ((oG x5 s6).bind fun x15 => (cw a0 a1 x15).bind fun x16 => if x16.2.2 = true then ((pJ s7 [x15] 104).bind fun x18 => (pJ s8 [x16.1] 48).bind fun x19 => (pJ s9 [x16.2.1] 80).bind fun x20 => some (.next ((IntKind.wrap .i64 (s6 + 1)), x18, x19, x20))) else (some (.next ((IntKind.wrap .i64 (s6 + 1)), s7, s8, s9)))) else (some (.stop (s7, s8, s9)))
def fF (a0 : aG) (a1 : aD) (a2 : (List ap)) : Option (a7 × Int) :=
  (eJ a0).bind fun x1 => if (x1 != 0) = true then (some ((a7.mk [] [] []), 27)) else ((da a1).bind fun x3 => if (!x3) = true then (some ((a7.mk [] [] []), 1)) else ((eF a2).bind fun x5 => (hY (gB x5 a0 a1) (0, ([] : (List ap)), ([] : (List av)), ([] : (List al)))).bind fun o22 => some ((a7.mk o22.1 o22.2.1 o22.2.2), 0)))
def gq (a0 : a7) (a1 : aG) : Option (aw × Int) :=
  if ((a0.b9.length : Int) == 0) = true then (some ((aw.mk (aj.mk (aa.mk 0 0 0) (aa.mk 0 0 0)) (aK.mk 0 [] []) [] 0), 24)) else (if (decide ((a0.b9.length : Int) > 64)) = true then (some ((aw.mk (aj.mk (aa.mk 0 0 0) (aa.mk 0 0 0)) (aK.mk 0 [] []) [] 0), 8)) else ((pP 8 a1.ag.az.ak).bind fun x3 => (pP 8 a1.ag.az.ae).bind fun x4 => some ((aw.mk a1.ag.ac (aK.mk a1.ag.az.aT x3 x4) a0.b9 a1.ag.bG), 0)))
def jR (a0 : aw) : Int → Option (oC (Int) ((Unit) ⊕ (Int))) := fun s9 =>
  if (decide (s9 < (a0.aY.length : Int))) = true then ((oG a0.aY s9).bind fun x12 => (eN a0.az a0.ac x12).bind fun x13 => if (x13.2 != 0) = true then (some (.stop (.inr x13.2))) else (some (.next (IntKind.wrap .i64 (s9 + 1))))) else (some (.stop (.inl ())))
def fD (a0 : aw) : Option (Int) :=
  (bu a0.ac).bind fun x1 => if (!x1) = true then (some 20) else ((b8 a0.az).bind fun x3 => if (x3 != 0) = true then (some x3) else (if ((a0.aY.length : Int) == 0) = true then (some 24) else (if (decide ((a0.aY.length : Int) > 64)) = true then (some 8) else (if (decide (a0.bG < 1)) = true then (some 2) else (if (decide (a0.bG > 1099511627776)) = true then (some 2) else ((hY (jR a0) 0).bind fun o16 => match o16 with | .inl _ => (some 0) | .inr r18 => (some r18)))))))
def ex (a0 : aj) (a1 : aa) : Option (Bool) :=
  (bu a0).bind fun x1 => if x1 = true then ((bX a1).bind fun x3 => if x3 = true then ((dl a0 a1).bind fun x5 => some (x5 == 0)) else (some false)) else (some false)
def gO (a0 : aj) (a1 : aj) : Option (Bool) :=
  (bu a0).bind fun x1 => if x1 = true then ((ex a1 a0.ak).bind fun x3 => if x3 = true then ((ex a1 a0.ae).bind fun x5 => some x5) else (some false)) else (some false)
def lu (a0 : aw) (a1 : aj) : (Int × (List aM)) → Option (oC (Int × (List aM)) (((List aM)) ⊕ ((List aM) × Int))) := fun (s2, s3) =>
  if (decide (s2 < (a0.aY.length : Int))) = true then ((oG a0.aY s2).bind fun x7 => (eN a0.az a1 x7).bind fun x8 => if (x8.2 != 0) = true then (some (.stop (.inr (([] : (List aM)), x8.2)))) else ((pJ s3 [x8.1] 16).bind fun x10 => some (.next ((IntKind.wrap .i64 (s2 + 1)), x10)))) else (some (.stop (.inl s3)))
def lN (a0 : aw) (a1 : aj) : Option ((List aM) × Int) :=
  (mkCO 0 (a0.aY.length : Int) (aM.mk 0 0) 16).bind fun x1 => (hY (lu a0 a1) (0, x1)).bind fun o12 => match o12 with | .inl y13 => (some (y13, 0)) | .inr r14 => (some r14)
def iA (a0 : aw) (a1 : aj) : Option ((List aM) × Int) :=
  (fD a0).bind fun x1 => if (x1 != 0) = true then (some (([] : (List aM)), x1)) else ((gO a1 a0.ac).bind fun x3 => if (!x3) = true then (some (([] : (List aM)), 20)) else ((lN a0 a1).bind fun x5 => some (x5.1, x5.2)))
def jH (a0 : aM) (a1 : Int) : Option (Int) :=
  some (if 0 > (if (IntKind.wrap .i64 (a1 - a0.fTo)) > (IntKind.wrap .i64 (a0.bF - a1)) then (IntKind.wrap .i64 (a1 - a0.fTo)) else (IntKind.wrap .i64 (a0.bF - a1))) then 0 else (if (IntKind.wrap .i64 (a1 - a0.fTo)) > (IntKind.wrap .i64 (a0.bF - a1)) then (IntKind.wrap .i64 (a1 - a0.fTo)) else (IntKind.wrap .i64 (a0.bF - a1))))
def l9 (a0 : aw) (a1 : (List aM)) (a2 : Int) : (Int × Int) → Option (oC (Int × Int) (Int)) := fun (s1, s2) =>
  if (decide (s2 < (a0.aY.length : Int))) = true then ((oG a0.aY s2).bind fun x6 => if (decide (s2 < (a1.length : Int))) = true then ((oG a1 s2).bind fun x8 => (jH x8 a2).bind fun x9 => some (.next ((IntKind.wrap .i64 (s1 + (IntKind.wrap .i64 (x6.gi * (if x9 < a0.bG then x9 else a0.bG))))), (IntKind.wrap .i64 (s2 + 1))))) else (some (.next (s1, (IntKind.wrap .i64 (s2 + 1)))))) else (some (.stop s1))
def js (a0 : aw) (a1 : (List aM)) (a2 : Int) : Option (Int) :=
  (hY (l9 a0 a1 a2) (0, 0)).bind fun o11 => some o11
def mH (a1 : (List aM)) : (Int × (List Int)) → Option (oC (Int × (List Int)) ((List Int))) := fun (s2, s3) =>
  if (decide (s2 < (a1.length : Int))) = true then ((oG a1 s2).bind fun x7 => (pJ s3 [x7.bF, x7.fTo] 8).bind fun x8 => some (.next ((IntKind.wrap .i64 (s2 + 1)), x8))) else (some (.stop s3))
def l7 (x20 : Int) (o10 : (List Int)) (a0 : aw) (a1 : (List aM)) : (Int × Int × Int) → Option (oC (Int × Int × Int) (Int × Int)) := fun (s21, s22, s23) =>
  if (decide (s23 < x20)) = true then ((inV o10.length (0 + (1 : Int).toNat) (0 + ((o10.length : Int) : Int).toNat) s23).bind fun _ => (oG o10 (((0 + (1 : Int).toNat) + (s23 : Int).toNat : Nat) : Int)).bind fun x29 => (js a0 a1 x29).bind fun x30 => if (decide (x30 < s22)) = true then (some (.next (x29, x30, (IntKind.wrap .i64 (s23 + 1))))) else (if (x30 == s22) = true then (if (decide (x29 < s21)) = true then (some (.next (x29, x30, (IntKind.wrap .i64 (s23 + 1))))) else (some (.next (s21, s22, (IntKind.wrap .i64 (s23 + 1)))))) else (some (.next (s21, s22, (IntKind.wrap .i64 (s23 + 1))))))) else (some (.stop (s21, s22)))
def jr (a0 : aw) (a1 : (List aM)) : Option (Int × Int) :=
  (mkCO 0 (IntKind.wrap .i64 (2 * (a1.length : Int))) 0 8).bind fun x1 => (hY (mH a1) (0, x1)).bind fun o10 => if ((o10.length : Int) == 0) = true then (some (0, 0)) else ((inO o10 0).bind fun _ => (oG o10 0).bind fun x14 => (inO o10 0).bind fun _ => (oG o10 0).bind fun x17 => (js a0 a1 x17).bind fun x18 => (u9 o10.length 1 (o10.length : Int)).bind fun _ => (lenV o10.length (0 + (1 : Int).toNat) (0 + ((o10.length : Int) : Int).toNat)).bind fun x20 => (hY (l7 x20 o10 a0 a1) (x14, x18, 0)).bind fun o35 => some (o35.1, o35.2))
def iz (a0 : aw) (a1 : aj) : Option (Int × Int) :=
  (iA a0 a1).bind fun x1 => if (x1.2 != 0) = true then (some (0, x1.2)) else ((jr a0 x1.1).bind fun x3 => some (x3.2, 0))
def nN (a0 : ai) (e1 : aw) (e2 : Int) (e3 : Int) (e4 : Bool) (e5 : aF) : Option ((List ai)) :=
  (pJ ([] : List ai) [a0] 64).bind fun x1 => some x1
def hC (d0 : (List ai)) : Option (Int × (List ai)) :=
  some ((d0.length : Int), d0)
def iW (a1 : Int) (a2 : Int) (d0 : (List ai)) : Option ((List ai)) :=
  (inO d0 a2).bind fun _ => (oG d0 a2).bind fun x3 => (inO d0 a1).bind fun _ => (oG d0 a1).bind fun x6 => (inO d0 a1).bind fun _ => (rY d0 a1 x3).bind fun x9 => (inO x9 a2).bind fun _ => (rY x9 a2 x6).bind fun x12 => some x12
def ie (a1 : Int) (a2 : Int) (d0 : (List ai)) : Option (Bool × (List ai)) :=
  (inO d0 a1).bind fun _ => (oG d0 a1).bind fun x3 => (inO d0 a2).bind fun _ => (oG d0 a2).bind fun x6 => (bD x3.dt x6.dt).bind fun x7 => (inO d0 a1).bind fun _ => (oG d0 a1).bind fun x10 => (inO d0 a2).bind fun _ => (oG d0 a2).bind fun x13 => (bD x10.fj x13.fj).bind fun x14 => (cM [x7, x14]).bind fun x15 => some ((decide (x15 < 0)), d0)
def mu  : (Int × (List ai)) → Option (oC (Int × (List ai)) ((List ai))) := fun (s1, s2) =>
  (pT .i64 (IntKind.wrap .i64 (s1 - 1)) 2).bind fun x4 => if (x4 == s1) = true then ((some s2).bind fun z6 => some (.stop z6)) else ((ie s1 x4 s2).bind fun x7 => if (!x7.1) = true then ((some x7.2).bind fun z9 => some (.stop z9)) else ((iW x4 s1 x7.2).bind fun x10 => some (.next (x4, x10))))
def oh (a0 : Int) (e1 : aw) (e2 : Int) (e3 : Int) (e4 : Bool) (e5 : aF) (d1 : (List ai)) : Option ((List ai)) :=
  (hY (mu) (a0, d1)).bind fun o12 => some o12
def mW (a0 : ai) (e1 : aw) (e2 : Int) (e3 : Int) (e4 : Bool) (e5 : aF) : Option ((List ai)) :=
  (nN a0 e1 e2 e3 e4 e5).bind fun x1 => (hC x1).bind fun x2 => (oh (IntKind.wrap .i64 (x2.1 - 1)) e1 e2 e3 e4 e5 x2.2).bind fun x3 => some x3
def jl (x1 : Int × Int) (j2 : Int) (j3 : (List ai)) : Option (Int × (List ai) × Int) :=
  some (x1.2, j3, j2)
def lU (a0 : aj) (e1 : aw) (e2 : Int) (e3 : Int) (e4 : Bool) (e5 : aF) : Option (Int × (List ai) × Int) :=
  (iz e1 a0).bind fun x1 => if (x1.2 == 0) = true then ((mW (ai.mk a0 x1.1 e2) e1 e2 e3 e4 e5).bind fun x6 => jl x1 (IntKind.wrap .i64 (e2 + 1)) x6) else (jl x1 e2 ([] : List ai))
def jZ (a0 : Int) (e1 : aw) (e2 : Int) (e3 : Int) (e4 : Bool) (e5 : aF) (d1 : (List ai)) : Option (Bool) :=
  if ((d1.length : Int) == 0) = true then (some true) else (if e4 = true then ((inO d1 0).bind fun _ => (oG d1 0).bind fun x5 => some (decide ((IntKind.wrap .i64 (e5.aS - x5.dt)) ≤ a0))) else (some false))
def fI (s1 : Int) (j8 : Int) (j9 : (List ai)) : Option (oC (Int × (List ai)) (Int × (List ai))) :=
  (ie j8 s1 j9).bind fun x10 => if (!x10.1) = true then (some (.stop (s1, x10.2))) else ((iW s1 j8 x10.2).bind fun x12 => some (.next (j8, x12)))
def nw (a1 : Int) : (Int × (List ai)) → Option (oC (Int × (List ai)) (Int × (List ai))) := fun (s1, s2) =>
  if (decide ((IntKind.wrap .i64 ((IntKind.wrap .i64 (2 * s1)) + 1)) ≥ a1)) = true then (some (.stop (s1, s2))) else (if (decide ((IntKind.wrap .i64 ((IntKind.wrap .i64 (2 * s1)) + 1)) < 0)) = true then (some (.stop (s1, s2))) else (if (decide ((IntKind.wrap .i64 ((IntKind.wrap .i64 ((IntKind.wrap .i64 (2 * s1)) + 1)) + 1)) < a1)) = true then ((ie (IntKind.wrap .i64 ((IntKind.wrap .i64 ((IntKind.wrap .i64 (2 * s1)) + 1)) + 1)) (IntKind.wrap .i64 ((IntKind.wrap .i64 (2 * s1)) + 1)) s2).bind fun x15 => if x15.1 = true then (fI s1 (IntKind.wrap .i64 ((IntKind.wrap .i64 ((IntKind.wrap .i64 (2 * s1)) + 1)) + 1)) x15.2) else (fI s1 (IntKind.wrap .i64 ((IntKind.wrap .i64 (2 * s1)) + 1)) x15.2)) else (fI s1 (IntKind.wrap .i64 ((IntKind.wrap .i64 (2 * s1)) + 1)) s2)))
def mX (a0 : Int) (a1 : Int) (e2 : aw) (e3 : Int) (e4 : Int) (e5 : Bool) (e6 : aF) (d1 : (List ai)) : Option (Bool × (List ai)) :=
  (hY (nw a1) (a0, d1)).bind fun o18 => some ((decide (o18.1 > a0)), o18.2)
def queue_Pop (e0 : aw) (e1 : Int) (e2 : Int) (e3 : Bool) (e4 : aF) (d1 : (List ai)) : Option (ai × (List ai)) :=
  (inO d1 (IntKind.wrap .i64 ((d1.length : Int) - 1))).bind fun _ => (oG d1 (IntKind.wrap .i64 ((d1.length : Int) - 1))).bind fun x3 => (u9 d1.length 0 (IntKind.wrap .i64 ((d1.length : Int) - 1))).bind fun _ => some (x3, (d1.take ((IntKind.wrap .i64 ((d1.length : Int) - 1)) : Int).toNat))
def og (e0 : aw) (e1 : Int) (e2 : Int) (e3 : Bool) (e4 : aF) (d1 : (List ai)) : Option (ai × (List ai)) :=
  (hC d1).bind fun x1 => (iW 0 (IntKind.wrap .i64 (x1.1 - 1)) x1.2).bind fun x2 => (mX 0 (IntKind.wrap .i64 (x1.1 - 1)) e0 e1 e2 e3 e4 x2).bind fun x3 => (queue_Pop e0 e1 e2 e3 e4 x3.2).bind fun x4 => some (x4.1, x4.2)
def bP (a0 : Int) (a1 : Int) : Option (Int) :=
  (pT .i64 (IntKind.wrap .i64 (a1 - a0)) 2).bind fun x1 => some (IntKind.wrap .i64 (a0 + x1))
def bA (a0 : aW) : Option (aa) :=
  some (aa.mk a0.a0 a0.a1 a0.a2)
def gM (a0 : aj) : Option (aa) :=
  (bu a0).bind fun x1 => if (!x1) = true then (some (aa.mk 0 0 0)) else ((bp a0.ak).bind fun x3 => (bp a0.ae).bind fun x4 => (bP x3.a0 x4.a0).bind fun x5 => (bP x3.a1 x4.a1).bind fun x6 => (bP x3.a2 x4.a2).bind fun x7 => (bA (aW.mk x5 x6 x7)).bind fun x8 => some x8)
def mZ (a0 : aw) (a1 : aa) : Option (Int × Int × Int) :=
  (iA a0 (aj.mk a1 a1)).bind fun x1 => if (x1.2 != 0) = true then (some (0, 0, x1.2)) else ((jr a0 x1.1).bind fun x3 => some (x3.1, x3.2, 0))
def gj (a0 : aa) (a1 : aa) : Option (Int) :=
  (bD a0.fX a1.fX).bind fun x1 => (bD a0.fY a1.fY).bind fun x2 => (bD a0.fZ a1.fZ).bind fun x3 => (cM [x1, x2, x3]).bind fun x4 => some x4
def kW (a0 : aj) (e1 : aw) (e2 : Int) (e3 : Int) (e4 : Bool) (e5 : aF) (d1 : (List ai)) : Option (Int × Bool × aF) :=
  (gM a0).bind fun x1 => (mZ e1 x1).bind fun x2 => if (x2.2.2 != 0) = true then (some (x2.2.2, e4, e5)) else (if (!e4) = true then (some (0, true, (aF.mk x1 x2.1 x2.2.1 0 (aj.mk (aa.mk 0 0 0) (aa.mk 0 0 0))))) else (if (decide (x2.2.1 < e5.aS)) = true then (some (0, true, (aF.mk x1 x2.1 x2.2.1 0 (aj.mk (aa.mk 0 0 0) (aa.mk 0 0 0))))) else (if (x2.2.1 == e5.aS) = true then ((gj x1 e5.aC).bind fun x7 => if (decide (x7 < 0)) = true then (some (0, true, (aF.mk x1 x2.1 x2.2.1 0 (aj.mk (aa.mk 0 0 0) (aa.mk 0 0 0))))) else (some (0, e4, e5))) else (some (0, e4, e5)))))
def gN (a0 : aj) : Option (Int) :=
  (bu a0).bind fun x1 => if (!x1) = true then (some 0) else ((bp a0.ae).bind fun x3 => (bp a0.ak).bind fun x4 => some (IntKind.wrap .i64 ((IntKind.wrap .i64 ((IntKind.wrap .i64 (1 * (IntKind.wrap .i64 ((IntKind.wrap .i64 (x3.a0 - x4.a0)) + 1)))) * (IntKind.wrap .i64 ((IntKind.wrap .i64 (x3.a1 - x4.a1)) + 1)))) * (IntKind.wrap .i64 ((IntKind.wrap .i64 (x3.a2 - x4.a2)) + 1)))))
def ir (a0 : aj) : Option (aj × aj × Bool) :=
  (gN a0).bind fun x1 => if (decide (x1 < 2)) = true then (some ((aj.mk (aa.mk 0 0 0) (aa.mk 0 0 0)), (aj.mk (aa.mk 0 0 0) (aa.mk 0 0 0)), false)) else ((bp a0.ak).bind fun x3 => (bp a0.ae).bind fun x4 => if (decide ((IntKind.wrap .i64 (x4.a1 - x3.a1)) > (IntKind.wrap .i64 (x4.a0 - x3.a0)))) = true then (if (decide ((IntKind.wrap .i64 (x4.a2 - x3.a2)) > (IntKind.wrap .i64 (x4.a1 - x3.a1)))) = true then ((bP x3.a2 x4.a2).bind fun x7 => (bA (aW.mk x4.a0 x4.a1 x7)).bind fun x8 => (bA (aW.mk x3.a0 x3.a1 (IntKind.wrap .i64 (x7 + 1)))).bind fun x9 => some ((aj.mk a0.ak x8), (aj.mk x9 a0.ae), true)) else ((bP x3.a1 x4.a1).bind fun x10 => (bA (aW.mk x4.a0 x10 x4.a2)).bind fun x11 => (bA (aW.mk x3.a0 (IntKind.wrap .i64 (x10 + 1)) x3.a2)).bind fun x12 => some ((aj.mk a0.ak x11), (aj.mk x12 a0.ae), true))) else (if (decide ((IntKind.wrap .i64 (x4.a2 - x3.a2)) > (IntKind.wrap .i64 (x4.a0 - x3.a0)))) = true then ((bP x3.a2 x4.a2).bind fun x14 => (bA (aW.mk x4.a0 x4.a1 x14)).bind fun x15 => (bA (aW.mk x3.a0 x3.a1 (IntKind.wrap .i64 (x14 + 1)))).bind fun x16 => some ((aj.mk a0.ak x15), (aj.mk x16 a0.ae), true)) else ((bP x3.a0 x4.a0).bind fun x17 => (bA (aW.mk x17 x4.a1 x4.a2)).bind fun x18 => (bA (aW.mk (IntKind.wrap .i64 (x17 + 1)) x3.a1 x3.a2)).bind fun x19 => some ((aj.mk a0.ak x18), (aj.mk x19 a0.ae), true))))
def mM (a0 : ai) (e1 : aw) (e2 : Int) (e3 : Int) (e4 : Bool) (e5 : aF) (d1 : (List ai)) : Option ((List ai)) :=
  (pJ d1 [a0] 64).bind fun x1 => some x1
def lF (a0 : ai) (e1 : aw) (e2 : Int) (e3 : Int) (e4 : Bool) (e5 : aF) (d1 : (List ai)) : Option ((List ai)) :=
  (mM a0 e1 e2 e3 e4 e5 d1).bind fun x1 => (hC x1).bind fun x2 => (oh (IntKind.wrap .i64 (x2.1 - 1)) e1 e2 e3 e4 e5 x2.2).bind fun x3 => some x3
def iG (x1 : Int × Int) (j2 : Int) (j3 : (List ai)) : Option (Int × Int × (List ai)) :=
  some (x1.2, j2, j3)
def ju (a0 : aj) (e1 : aw) (e2 : Int) (e3 : Int) (e4 : Bool) (e5 : aF) (d1 : (List ai)) : Option (Int × Int × (List ai)) :=
  (iz e1 a0).bind fun x1 => if (x1.2 == 0) = true then ((lF (ai.mk a0 x1.1 e2) e1 e2 e3 e4 e5 d1).bind fun x6 => iG x1 (IntKind.wrap .i64 (e2 + 1)) x6) else (iG x1 e2 d1)
def kX (e0 : aw) (e1 : Int) (e2 : Int) (e3 : Bool) (e4 : aF) (d1 : (List ai)) : Option (Int × Int × Int × Bool × aF × (List ai)) :=
  if (e2 == 3000) = true then (some (25, e1, e2, e3, e4, d1)) else ((inO d1 0).bind fun _ => (oG d1 0).bind fun x4 => (og e0 e1 e2 e3 e4 d1).bind fun x5 => (kW x4.jW e0 e1 (IntKind.wrap .i64 (e2 + 1)) e3 e4 x5.2).bind fun x6 => if (x6.1 != 0) = true then (some (x6.1, e1, (IntKind.wrap .i64 (e2 + 1)), x6.2.1, x6.2.2, x5.2)) else ((ir x4.jW).bind fun x8 => if (!x8.2.2) = true then (some (0, e1, (IntKind.wrap .i64 (e2 + 1)), x6.2.1, x6.2.2, x5.2)) else ((ju x8.1 e0 e1 (IntKind.wrap .i64 (e2 + 1)) x6.2.1 x6.2.2 x5.2).bind fun x10 => if (x10.1 != 0) = true then (some (x10.1, x10.2.1, (IntKind.wrap .i64 (e2 + 1)), x6.2.1, x6.2.2, x10.2.2)) else ((ju x8.2.1 e0 x10.2.1 (IntKind.wrap .i64 (e2 + 1)) x6.2.1 x6.2.2 x10.2.2).bind fun x12 => some (x12.1, x12.2.1, (IntKind.wrap .i64 (e2 + 1)), x6.2.1, x6.2.2, x12.2.2)))))
def kx (a1 : Int) (a0 : aw) : (Int × Int × Bool × aF × (List ai)) → Option (oC (Int × Int × Bool × aF × (List ai)) (((List ai) × Int × Int × Bool × aF) ⊕ ((Option bC) × Int))) := fun (s6, s7, s8, s9, s10) =>
  (jZ a1 a0 s6 s7 s8 s9 s10).bind fun x17 => if (!x17) = true then ((kX a0 s6 s7 s8 s9 s10).bind fun x19 => if (x19.1 != 0) = true then (some (.stop (.inr (none, x19.1)))) else (some (.next (x19.2.1, x19.2.2.1, x19.2.2.2.1, x19.2.2.2.2.1, x19.2.2.2.2.2)))) else (some (.stop (.inl (s10, s6, s7, s8, s9))))
def iR (a0 : aw) (a1 : Int) : Option ((Option bC) × Int) :=
  (fD a0).bind fun x1 => if (x1 != 0) = true then (some (none, x1)) else (if (decide (a1 < 0)) = true then (some (none, 2)) else ((lU a0.ac a0 0 0 false (aF.mk (aa.mk 0 0 0) 0 0 0 (aj.mk (aa.mk 0 0 0) (aa.mk 0 0 0)))).bind fun x4 => if (x4.1 != 0) = true then (some (none, x4.1)) else ((hY (kx a1 a0) (x4.2.2, 0, false, (aF.mk (aa.mk 0 0 0) 0 0 0 (aj.mk (aa.mk 0 0 0) (aa.mk 0 0 0))), x4.2.1)).bind fun o22 => match o22 with | .inl y23 => (some ((some (bC.mk a0 y23.1 y23.2.1 y23.2.2.1 y23.2.2.2.1 (aF.mk (aa.mk y23.2.2.2.2.aC.fX y23.2.2.2.2.aC.fY y23.2.2.2.2.aC.fZ) y23.2.2.2.2.a8 y23.2.2.2.2.aS y23.2.2.2.2.bc (aj.mk (aa.mk y23.2.2.2.2.ar.ak.fX y23.2.2.2.2.ar.ak.fY y23.2.2.2.2.ar.ak.fZ) (aa.mk y23.2.2.2.2.ar.ae.fX y23.2.2.2.2.ar.ae.fY y23.2.2.2.2.ar.ae.fZ))))), 0)) | .inr r24 => (some r24))))
def jh (a0 : aj) (a1 : aj) : Option (aj) :=
  (bu a0).bind fun x1 => if (!x1) = true then (some (aj.mk (aa.mk 0 0 0) (aa.mk 0 0 0))) else ((bu a1).bind fun x3 => if (!x3) = true then (some (aj.mk (aa.mk 0 0 0) (aa.mk 0 0 0))) else ((bp a0.ak).bind fun x5 => (bp a0.ae).bind fun x6 => (bp a1.ak).bind fun x7 => (bp a1.ae).bind fun x8 => (bA (aW.mk (if x7.a0 < x5.a0 then x7.a0 else x5.a0) (if x7.a1 < x5.a1 then x7.a1 else x5.a1) (if x7.a2 < x5.a2 then x7.a2 else x5.a2))).bind fun x9 => (bA (aW.mk (if x8.a0 > x6.a0 then x8.a0 else x6.a0) (if x8.a1 > x6.a1 then x8.a1 else x6.a1) (if x8.a2 > x6.a2 then x8.a2 else x6.a2))).bind fun x10 => some (aj.mk x9 x10)))
def kQ (y2 : bC) : (Int × Int × aj) → Option (oC (Int × Int × aj) (Int × aj)) := fun (s5, s6, s7) =>
  if (decide (s5 < (y2.mq.length : Int))) = true then ((oG y2.mq s5).bind fun x12 => if (decide (x12.dt < y2.br.aS)) = true then ((jh s7 x12.jW).bind fun x14 => some (.next ((IntKind.wrap .i64 (s5 + 1)), (if x12.dt < s6 then x12.dt else s6), x14))) else (some (.next ((IntKind.wrap .i64 (s5 + 1)), (if x12.dt < s6 then x12.dt else s6), s7)))) else (some (.stop (s6, s7)))
def gI (a0 : aw) (a1 : Int) : Option (aF × Int) :=
  (iR a0 a1).bind fun x1 => optC x1.1 (if (x1.2 != 0) = true then (some ((aF.mk (aa.mk 0 0 0) 0 0 0 (aj.mk (aa.mk 0 0 0) (aa.mk 0 0 0))), x1.2)) else (none)) (fun y2 => if (x1.2 != 0) = true then (some ((aF.mk (aa.mk 0 0 0) 0 0 0 (aj.mk (aa.mk 0 0 0) (aa.mk 0 0 0))), x1.2)) else ((hY (kQ y2) (0, y2.br.aS, (aj.mk y2.br.aC y2.br.aC))).bind fun o16 => some ((aF.mk y2.br.aC y2.br.a8 y2.br.aS o16.1 (aj.mk (aa.mk o16.2.ak.fX o16.2.ak.fY o16.2.ak.fZ) (aa.mk o16.2.ae.fX o16.2.ae.fY o16.2.ae.fZ))), 0)))
def nat_From_l9  : (Int × (List Int)) → Option (oC (Int × (List Int)) ((List Int))) := fun (s2, s3) =>
  if (decide (s2 > 0)) = true then ((uX s2 1073741824).bind fun x7 => (pJ s3 [x7] 8).bind fun x8 => some (.next ((oS .i64 s2 30), x8))) else (some (.stop s3))
def om (a0 : Int) : Option ((List Int) × Int) :=
  if (decide (a0 < 0)) = true then (some (([] : (List Int)), 2)) else ((hY (nat_From_l9) (a0, ([] : (List Int)))).bind fun o10 => some (o10, 0))
def kA (a0 : Int) : Option (Bool) :=
  if (decide (a0 < 0)) = true then (some true) else (some (decide (a0 ≥ 1073741824)))
def fe (a0 : (List Int)) : Int → Option (oC (Int) ((Unit) ⊕ (Int))) := fun s1 =>
  if (decide (s1 < (a0.length : Int))) = true then ((oG a0 s1).bind fun x4 => (kA x4).bind fun x5 => if x5 = true then (some (.stop (.inr s1))) else (some (.next (IntKind.wrap .i64 (s1 + 1))))) else (some (.stop (.inl ())))
def eb (a0 : (List Int)) : Option (Int) :=
  (hY (fe a0) 0).bind fun o8 => match o8 with | .inl _ => (some (-1)) | .inr r10 => (some r10)
def bW (a0 : (List Int)) : Option (Bool) :=
  (eb a0).bind fun x1 => some (decide (x1 ≥ 0))
def ic (a0 : (List Int)) : Option (Bool) :=
  if (decide ((a0.length : Int) > 64)) = true then (some false) else (if (decide ((a0.length : Int) > 0)) = true then ((oG a0 (IntKind.wrap .i64 ((a0.length : Int) - 1))).bind fun x3 => if (x3 == 0) = true then (some false) else ((bW a0).bind fun x5 => some (!x5))) else ((bW a0).bind fun x6 => some (!x6)))
def mK (a0 : (List Int)) (a1 : (List Int)) : Option (Bool) :=
  (ic a0).bind fun x1 => if x1 = true then ((ic a1).bind fun x3 => some x3) else (some false)
def kc (a0 : (List Int)) (a1 : Int) : Option (Int) :=
  if (decide (a1 ≥ (a0.length : Int))) = true then (some 0) else ((oG a0 a1).bind fun x2 => some x2)
def nat_trim_l8  : (List Int) → Option (oC ((List Int)) ((List Int))) := fun s1 =>
  if (decide ((s1.length : Int) > 0)) = true then ((oG s1 (IntKind.wrap .i64 ((s1.length : Int) - 1))).bind fun x5 => if (x5 == 0) = true then ((cutO s1 0 (IntKind.wrap .i64 ((s1.length : Int) - 1))).bind fun x7 => some (.next x7)) else (some (.stop s1))) else (some (.stop s1))
def mL (a0 : (List Int)) : Option ((List Int)) :=
  (hY (nat_trim_l8) a0).bind fun o9 => some o9
def lv (a1 : (List Int)) (s2 : Int) (x7 : Int) : (Int × Int × (List Int)) → Option (oC (Int × Int × (List Int)) (Int × (List Int))) := fun (s8, s9, s10) =>
  if (decide (s9 < (IntKind.wrap .i64 ((a1.length : Int) + 1)))) = true then (if (decide ((IntKind.wrap .i64 (s2 + s9)) < (s10.length : Int))) = true then ((inO s10 (IntKind.wrap .i64 (s2 + s9))).bind fun _ => (oG s10 (IntKind.wrap .i64 (s2 + s9))).bind fun x18 => (kc a1 s9).bind fun x19 => (uX (IntKind.wrap .i64 (s8 + (IntKind.wrap .i64 (x18 + (IntKind.wrap .i64 (x7 * x19)))))) 1073741824).bind fun x20 => (inO s10 (IntKind.wrap .i64 (s2 + s9))).bind fun _ => (rY s10 (IntKind.wrap .i64 (s2 + s9)) x20).bind fun x23 => some (.next ((oS .i64 (IntKind.wrap .i64 (s8 + (IntKind.wrap .i64 (x18 + (IntKind.wrap .i64 (x7 * x19)))))) 30), (IntKind.wrap .i64 (s9 + 1)), x23))) else (some (.next (s8, (IntKind.wrap .i64 (s9 + 1)), s10)))) else (some (.stop (s2, s10)))
def lw (a0 : (List Int)) (a1 : (List Int)) : (Int × (List Int)) → Option (oC (Int × (List Int)) ((List Int))) := fun (s2, s3) =>
  if (decide (s2 < (a0.length : Int))) = true then ((oG a0 s2).bind fun x7 => (hY (lv a1 s2 x7) (0, 0, s3)).bind fun o25 => some (.next ((IntKind.wrap .i64 (o25.1 + 1)), o25.2))) else (some (.stop s3))
def gr (a0 : (List Int)) (a1 : (List Int)) : Option ((List Int)) :=
  (mkO (IntKind.wrap .i64 ((a0.length : Int) + (a1.length : Int))) 0 8).bind fun x1 => (hY (lw a0 a1) (0, x1)).bind fun o27 => (mL o27).bind fun x28 => some x28
def f8 (a0 : (List Int)) : Option ((List Int) × Int) :=
  (mL a0).bind fun x1 => if (decide ((x1.length : Int) > 64)) = true then (some (([] : (List Int)), 8)) else (some (x1, 0))
def nat_Mul (a0 : (List Int)) (a1 : (List Int)) : Option ((List Int) × Int) :=
  (mK a0 a1).bind fun x1 => if (!x1) = true then (some (([] : (List Int)), 1)) else ((gr a0 a1).bind fun x3 => (f8 x3).bind fun x4 => some (x4.1, x4.2))
def cx (a0 : Int) : Option ((List Int)) :=
  (om (if (IntKind.wrap .i64 (0 - a0)) > a0 then (IntKind.wrap .i64 (0 - a0)) else a0)).bind fun x1 => (nat_Mul x1.1 x1.1).bind fun x2 => some x2.1
def nat_Add_l13 (a1 : (List Int)) (a0 : (List Int)) : (Int × Int × (List Int)) → Option (oC (Int × Int × (List Int)) ((List Int))) := fun (s3, s4, s5) =>
  if (decide (s4 < (IntKind.wrap .i64 ((if (a1.length : Int) > (a0.length : Int) then (a1.length : Int) else (a0.length : Int)) + 1)))) = true then ((kc a0 s4).bind fun x9 => (kc a1 s4).bind fun x10 => (uX (IntKind.wrap .i64 (s3 + (IntKind.wrap .i64 (x9 + x10)))) 1073741824).bind fun x11 => (pJ s5 [x11] 8).bind fun x12 => some (.next ((oS .i64 (IntKind.wrap .i64 (s3 + (IntKind.wrap .i64 (x9 + x10)))) 30), (IntKind.wrap .i64 (s4 + 1)), x12))) else (some (.stop s5))
def nat_Add (a0 : (List Int)) (a1 : (List Int)) : Option ((List Int) × Int) :=
  (mK a0 a1).bind fun x1 => if (!x1) = true then (some (([] : (List Int)), 1)) else ((hY (nat_Add_l13 a1 a0) (0, 0, ([] : (List Int)))).bind fun o14 => (f8 o14).bind fun x15 => some (x15.1, x15.2))
def e9 (a0 : aW) (a1 : Int) (a2 : Int) : Option ((List Int)) :=
  (cx (IntKind.wrap .i64 ((IntKind.wrap .i64 ((IntKind.wrap .i64 (a0.a0 * a2)) * a2)) - (IntKind.wrap .i64 ((IntKind.wrap .i64 (a0.a2 * a1)) * a1))))).bind fun x1 => (cx (IntKind.wrap .i64 ((IntKind.wrap .i64 (a0.a1 * a1)) * a2))).bind fun x2 => (nat_Add x1 x2).bind fun x3 => some x3.1
def jk (a0 : aB) (a1 : Int) (a2 : Int) : Option (aO × Bool) :=
  if (a0.ej == 0) = true then ((cx a0.bh.a0).bind fun x2 => (cx a0.bg.a0).bind fun x3 => some ((aO.mk x2 x3), true)) else (if (a0.ej == 1) = true then ((e9 a0.bh a1 a2).bind fun x5 => (e9 a0.bg a1 a2).bind fun x6 => some ((aO.mk x5 x6), (decide ((x6.length : Int) > 0)))) else ((cS a0.cO).bind fun x7 => (cx x7).bind fun x8 => (vK .i64 1 a0.cN).bind fun x9 => (cx x9).bind fun x10 => some ((aO.mk x8 x10), true)))
def eE (a0 : aO) : Option (Bool) :=
  (ic a0.bh).bind fun x1 => if x1 = true then ((ic a0.bg).bind fun x3 => if x3 = true then (some (decide ((a0.bg.length : Int) > 0))) else (some false)) else (some false)
def m5 (a0 : aO) (a1 : aO) : Option (aO × Int) :=
  (eE a0).bind fun x1 => if (!x1) = true then (some ((aO.mk [] []), 1)) else ((eE a1).bind fun x3 => if (!x3) = true then (some ((aO.mk [] []), 1)) else ((gr a0.bh a1.bh).bind fun x5 => (f8 x5).bind fun x6 => (gr a0.bg a1.bg).bind fun x7 => (f8 x7).bind fun x8 => if (x6.2 != 0) = true then (some ((aO.mk [] []), 8)) else (if (x8.2 != 0) = true then (some ((aO.mk [] []), 8)) else (some ((aO.mk x6.1 x8.1), 0)))))
def kU (a0 : aN) (a1 : Int) (a2 : Int) : (Int × (List Int) × (List Int)) → Option (oC (Int × (List Int) × (List Int)) (((List Int) × (List Int)) ⊕ (aO × Int))) := fun (s7, s8, s9) =>
  if (decide (s7 < (a0.bj.length : Int))) = true then ((oG a0.bj s7).bind fun x14 => (jk x14 a1 a2).bind fun x15 => if (!x15.2) = true then (some (.stop (.inr ((aO.mk [] []), 11)))) else ((m5 (aO.mk s8 s9) x15.1).bind fun x17 => if (x17.2 != 0) = true then (some (.stop (.inr ((aO.mk [] []), x17.2)))) else (some (.next ((IntKind.wrap .i64 (s7 + 1)), x17.1.bh, x17.1.bg))))) else (some (.stop (.inl (s8, s9))))
def jj (a0 : aN) (a1 : Int) (a2 : Int) : Option (aO × Int) :=
  (d9 a0).bind fun x1 => if (!x1) = true then (some ((aO.mk [] []), 1)) else ((bK a1 0 65536).bind fun x3 => if (!x3) = true then (some ((aO.mk [] []), 2)) else ((bK a2 1 65536).bind fun x5 => if (!x5) = true then (some ((aO.mk [] []), 2)) else ((hY (kU a0 a1 a2) (0, [1], [1])).bind fun o20 => match o20 with | .inl y21 => (some ((aO.mk y21.1 y21.2), 0)) | .inr r22 => (some r22))))
def dx (a0 : Int) (j15 : Int) (j16 : Int) : Option (Int) :=
  some (IntKind.wrap .i64 ((IntKind.wrap .i64 (256 * a0)) + j16))
def dy (a0 : Int) (j13 : Int) (j14 : Int) : Option (Int) :=
  if (decide ((oS .i64 (IntKind.wrap .i64 (j13 * j13)) 30) ≥ 2147483648)) = true then ((pT .i64 (oS .i64 (IntKind.wrap .i64 (j13 * j13)) 30) 2).bind fun x19 => dx a0 x19 (IntKind.wrap .i64 ((IntKind.wrap .i64 (j14 * 2)) + 1))) else (dx a0 (oS .i64 (IntKind.wrap .i64 (j13 * j13)) 30) (IntKind.wrap .i64 (j14 * 2)))
def dz (a0 : Int) (j11 : Int) (j12 : Int) : Option (Int) :=
  if (decide ((oS .i64 (IntKind.wrap .i64 (j11 * j11)) 30) ≥ 2147483648)) = true then ((pT .i64 (oS .i64 (IntKind.wrap .i64 (j11 * j11)) 30) 2).bind fun x22 => dy a0 x22 (IntKind.wrap .i64 ((IntKind.wrap .i64 (j12 * 2)) + 1))) else (dy a0 (oS .i64 (IntKind.wrap .i64 (j11 * j11)) 30) (IntKind.wrap .i64 (j12 * 2)))
def dA (a0 : Int) (j9 : Int) (j10 : Int) : Option (Int) :=
  if (decide ((oS .i64 (IntKind.wrap .i64 (j9 * j9)) 30) ≥ 2147483648)) = true then ((pT .i64 (oS .i64 (IntKind.wrap .i64 (j9 * j9)) 30) 2).bind fun x25 => dz a0 x25 (IntKind.wrap .i64 ((IntKind.wrap .i64 (j10 * 2)) + 1))) else (dz a0 (oS .i64 (IntKind.wrap .i64 (j9 * j9)) 30) (IntKind.wrap .i64 (j10 * 2)))
def dB (a0 : Int) (j7 : Int) (j8 : Int) : Option (Int) :=
  if (decide ((oS .i64 (IntKind.wrap .i64 (j7 * j7)) 30) ≥ 2147483648)) = true then ((pT .i64 (oS .i64 (IntKind.wrap .i64 (j7 * j7)) 30) 2).bind fun x28 => dA a0 x28 (IntKind.wrap .i64 ((IntKind.wrap .i64 (j8 * 2)) + 1))) else (dA a0 (oS .i64 (IntKind.wrap .i64 (j7 * j7)) 30) (IntKind.wrap .i64 (j8 * 2)))
def dC (a0 : Int) (j5 : Int) (j6 : Int) : Option (Int) :=
  if (decide ((oS .i64 (IntKind.wrap .i64 (j5 * j5)) 30) ≥ 2147483648)) = true then ((pT .i64 (oS .i64 (IntKind.wrap .i64 (j5 * j5)) 30) 2).bind fun x31 => dB a0 x31 (IntKind.wrap .i64 ((IntKind.wrap .i64 (j6 * 2)) + 1))) else (dB a0 (oS .i64 (IntKind.wrap .i64 (j5 * j5)) 30) (IntKind.wrap .i64 (j6 * 2)))
def dD (a0 : Int) (j3 : Int) (j4 : Int) : Option (Int) :=
  if (decide ((oS .i64 (IntKind.wrap .i64 (j3 * j3)) 30) ≥ 2147483648)) = true then ((pT .i64 (oS .i64 (IntKind.wrap .i64 (j3 * j3)) 30) 2).bind fun x34 => dC a0 x34 (IntKind.wrap .i64 ((IntKind.wrap .i64 (j4 * 2)) + 1))) else (dC a0 (oS .i64 (IntKind.wrap .i64 (j3 * j3)) 30) (IntKind.wrap .i64 (j4 * 2)))
def dE (a0 : Int) (j1 : Int) (j2 : Int) : Option (Int) :=
  if (decide ((oS .i64 (IntKind.wrap .i64 (j1 * j1)) 30) ≥ 2147483648)) = true then ((pT .i64 (oS .i64 (IntKind.wrap .i64 (j1 * j1)) 30) 2).bind fun x37 => dD a0 x37 (IntKind.wrap .i64 ((IntKind.wrap .i64 (j2 * 2)) + 1))) else (dD a0 (oS .i64 (IntKind.wrap .i64 (j1 * j1)) 30) (IntKind.wrap .i64 (j2 * 2)))
def e8 (a0 : Int) (a1 : Int) : Option (Int) :=
  if (decide ((oS .i64 (IntKind.wrap .i64 (a1 * a1)) 30) ≥ 2147483648)) = true then ((pT .i64 (oS .i64 (IntKind.wrap .i64 (a1 * a1)) 30) 2).bind fun x40 => dE a0 x40 1) else (dE a0 (oS .i64 (IntKind.wrap .i64 (a1 * a1)) 30) 0)
def fJ (a0 : Int) : Option (Int × Int) :=
  if (decide (a0 < 1)) = true then (some (0, 2)) else ((fA (IntKind.wrap .u64 a0)).bind fun x2 => if (decide ((IntKind.wrap .i64 (x2 - 1)) ≤ 30)) = true then ((vK .i64 a0 (IntKind.wrap .i64 (30 - (IntKind.wrap .i64 (x2 - 1))))).bind fun x4 => (e8 (IntKind.wrap .i64 (x2 - 1)) x4).bind fun x5 => some (x5, 0)) else ((shrO .i64 a0 (IntKind.wrap .i64 ((IntKind.wrap .i64 (x2 - 1)) - 30))).bind fun x6 => (e8 (IntKind.wrap .i64 (x2 - 1)) x6).bind fun x7 => some (x7, 0)))
def e7 (a0 : (List Int)) : Option (Int × Int) :=
  (ic a0).bind fun x1 => if (!x1) = true then (some (0, 1)) else (if (decide ((IntKind.wrap .i64 ((a0.length : Int) - 1)) < 0)) = true then (some (0, 2)) else (if ((IntKind.wrap .i64 ((a0.length : Int) - 1)) == 0) = true then ((oG a0 0).bind fun x5 => (fJ x5).bind fun x6 => some (x6.1, x6.2)) else ((oG a0 (IntKind.wrap .i64 ((a0.length : Int) - 1))).bind fun x7 => (oG a0 (IntKind.wrap .i64 ((IntKind.wrap .i64 ((a0.length : Int) - 1)) - 1))).bind fun x8 => (fJ (orI .i64 (shlI .i64 x7 30) x8)).bind fun x9 => some ((IntKind.wrap .i64 (x9.1 + (IntKind.wrap .i64 (7680 * (IntKind.wrap .i64 ((IntKind.wrap .i64 ((a0.length : Int) - 1)) - 1)))))), x9.2))))
def gp (a0 : bt) (a1 : aN) (a2 : Int) : Option (Int × Int) :=
  (jj a1 a0.bh a0.bg).bind fun x1 => if (x1.2 != 0) = true then (some (0, x1.2)) else ((e7 x1.1.bh).bind fun x3 => if (x3.2 != 0) = true then (some (0, 24)) else ((e7 x1.1.bg).bind fun x5 => if (x5.2 != 0) = true then (some (0, x5.2)) else ((fJ a2).bind fun x7 => some ((IntKind.wrap .i64 ((IntKind.wrap .i64 ((IntKind.wrap .i64 (2 * x7.1)) + x5.1)) - x3.1)), x7.2))))
def f7 (a0 : Int) : Option (Int) :=
  some (oS .i64 a0 1)
def iT (a0 : Int) : Option (Int × Bool) :=
  if (decide (a0 ≥ (-16777216))) = true then (some ((IntKind.wrap .i64 (a0 * 30103)), (decide (a0 ≤ 16777216)))) else (some ((IntKind.wrap .i64 (a0 * 30103)), false))
def fC (a0 : Int) : Option (Int) :=
  (iT a0).bind fun x1 => if (!x1.2) = true then (some 0) else ((pT .i64 x1.1 256000).bind fun x3 => (uX x1.1 256000).bind fun x4 => if (decide (x4 < 0)) = true then (some (IntKind.wrap .i64 (x3 - 1))) else (some x3))
def iy (a0 : Int) : Option (Int) :=
  (fC (IntKind.wrap .i64 (0 - a0))).bind fun x1 => some (IntKind.wrap .i64 (0 - x1))
def eD (a0 : bt) (a1 : aN) (a2 : Int) (a3 : Int) (a4 : Int) : Option (aA × Int) :=
  (ch a0).bind fun x1 => if (!x1) = true then (some ((aA.mk 0 0), 27)) else (if (decide (a2 < 1)) = true then (some ((aA.mk 0 0), 2)) else (if (decide (a2 > 1073741823)) = true then (some ((aA.mk 0 0), 2)) else ((gp a0 a1 a2).bind fun x5 => if (x5.2 != 0) = true then (some ((aA.mk 0 0), x5.2)) else ((ec a0.aZ a3 a4).bind fun x7 => if (x7.2.2 != 0) = true then (some ((aA.mk 0 0), x7.2.2)) else ((f7 (IntKind.wrap .i64 (x5.1 - 2))).bind fun x9 => (fC x9).bind fun x10 => (f7 (IntKind.wrap .i64 ((IntKind.wrap .i64 (0 - x5.1)) - 6))).bind fun x11 => (iy (IntKind.wrap .i64 (0 - x11))).bind fun x12 => some ((aA.mk (IntKind.wrap .i64 (x10 + x7.1)) (IntKind.wrap .i64 (x12 + x7.2.1))), 0))))))
def cQ (a0 : a7) (a2 : aj) (a1 : aG) : (Int × (List aA)) → Option (oC (Int × (List aA)) ((List aA))) := fun (s1, s2) =>
  if (decide (s1 < (a0.b9.length : Int))) = true then ((oG a0.b9 s1).bind fun x6 => (oG a0.ew s1).bind fun x7 => (oG a0.cg s1).bind fun x8 => (dl a2 x6.aL).bind fun x9 => (ey a2 x6.aL).bind fun x10 => (eD a1.bi x7.bq x8.bn x9 x10).bind fun x11 => if (x11.2 == 0) = true then ((pJ s2 [x11.1] 16).bind fun x13 => some (.next ((IntKind.wrap .i64 (s1 + 1)), x13))) else (some (.next ((IntKind.wrap .i64 (s1 + 1)), s2)))) else (some (.stop s2))
def ci (a0 : a7) (a1 : aG) (a2 : aj) : Option ((List aA)) :=
  (hY (cQ a0 a2 a1) (0, ([] : (List aA)))).bind fun o15 => some o15
def fq (a0 : aA) : Option (Bool) :=
  some (decide (a0.ak > a0.ae))
def cK (a0 : (List aA)) : Int → Option (oC (Int) ((Unit) ⊕ (Int))) := fun s1 =>
  if (decide (s1 < (a0.length : Int))) = true then ((oG a0 s1).bind fun x4 => (fq x4).bind fun x5 => if x5 = true then (some (.stop (.inr s1))) else (some (.next (IntKind.wrap .i64 (s1 + 1))))) else (some (.stop (.inl ())))
def dg (a0 : (List aA)) : Option (Int) :=
  (hY (cK a0) 0).bind fun o8 => match o8 with | .inl _ => (some (-1)) | .inr r10 => (some r10)
def ca (a0 : (List aA)) : Option (Bool) :=
  (dg a0).bind fun x1 => some (decide (x1 ≥ 0))
def fr (a0 : aA) : Option (Int) :=
  some a0.ak
def jV (a0 : Int) (a1 : Int) : Option (Bool) :=
  (dV a0).bind fun x1 => if x1 = true then ((dV a1).bind fun x3 => if (!x3) = true then (some true) else (some (decide (a0 < a1)))) else (some (decide (a0 < a1)))
def cv (a1 : Int) (s1 : Int) : (Int × (List Int)) → Option (oC (Int × (List Int)) (Int × (List Int))) := fun (s5, s6) =>
  if (decide (s5 > a1)) = true then ((inO s6 s5).bind fun _ => (oG s6 s5).bind fun x13 => (inO s6 (IntKind.wrap .i64 (s5 - 1))).bind fun _ => (oG s6 (IntKind.wrap .i64 (s5 - 1))).bind fun x16 => (jV x13 x16).bind fun x17 => if x17 = true then ((inO s6 (IntKind.wrap .i64 (s5 - 1))).bind fun _ => (oG s6 (IntKind.wrap .i64 (s5 - 1))).bind fun x21 => (inO s6 s5).bind fun _ => (oG s6 s5).bind fun x24 => (inO s6 s5).bind fun _ => (rY s6 s5 x21).bind fun x27 => (inO x27 (IntKind.wrap .i64 (s5 - 1))).bind fun _ => (rY x27 (IntKind.wrap .i64 (s5 - 1)) x24).bind fun x30 => some (.next ((IntKind.wrap .i64 (s5 - 1)), x30))) else (some (.stop (s1, s6)))) else (some (.stop (s1, s6)))
def dW (a2 : Int) (a1 : Int) : (Int × (List Int)) → Option (oC (Int × (List Int)) ((List Int))) := fun (s1, s2) =>
  if (decide (s1 < a2)) = true then ((hY (cv a1 s1) (s1, s2)).bind fun o32 => some (.next ((IntKind.wrap .i64 (o32.1 + 1)), o32.2))) else ((some s2).bind fun z33 => some (.stop z33))
def cf (a1 : Int) (a2 : Int) (d0 : (List Int)) : Option ((List Int)) :=
  (hY (dW a2 a1) ((IntKind.wrap .i64 (a1 + 1)), d0)).bind fun o35 => some o35
def cy (a2 : Int) (a1 : Int) (d0 : (List Int)) (a3 : Int) : Unit → Option (oC (Unit) ((List Int))) := fun _ =>
  if (decide ((IntKind.wrap .i64 (a2 - a1)) ≤ 12)) = true then ((cf a1 a2 d0).bind fun x3 => some (.stop x3)) else (if (a3 == 0) = true then (none) else (none))
def gd : Nat → Int → Int → Int → (List Int) → Option ((List Int))
  | 0, _, _, _, _ => none
  | nfu + 1, a1, a2, a3, d0 =>
  (hY (cy a2 a1 d0 a3) ()).bind fun o6 => some o6
def ep (a1 : Int) (a2 : Int) (a3 : Int) (d0 : (List Int)) : Option ((List Int)) := recO fun n => gd n a1 a2 a3 d0
def fE (d0 : (List Int)) : Option ((List Int)) :=
  (fA (IntKind.wrap .u64 (d0.length : Int))).bind fun x1 => (ep 0 (d0.length : Int) x1 d0).bind fun x2 => some x2
def gJ (a0 : (List aA)) : (Int × (List Int)) → Option (oC (Int × (List Int)) ((List Int))) := fun (s1, s2) =>
  if (decide (s1 < (a0.length : Int))) = true then ((oG a0 s1).bind fun x6 => (fr x6).bind fun x7 => (pJ s2 [x7] 8).bind fun x8 => some (.next ((IntKind.wrap .i64 (s1 + 1)), x8))) else (some (.stop s2))
def ef (a0 : (List aA)) : Option (Int) :=
  (hY (gJ a0) (0, ([] : (List Int)))).bind fun o10 => (fE o10).bind fun x11 => (pT .i64 (IntKind.wrap .i64 ((x11.length : Int) - 1)) 2).bind fun x12 => (inO x11 x12).bind fun _ => (oG x11 x12).bind fun x15 => some x15
def fu (a0 : aA) : Option (Int) :=
  some a0.ae
def gK (a0 : (List aA)) : (Int × (List Int)) → Option (oC (Int × (List Int)) ((List Int))) := fun (s1, s2) =>
  if (decide (s1 < (a0.length : Int))) = true then ((oG a0 s1).bind fun x6 => (fu x6).bind fun x7 => (pJ s2 [x7] 8).bind fun x8 => some (.next ((IntKind.wrap .i64 (s1 + 1)), x8))) else (some (.stop s2))
def eh (a0 : (List aA)) : Option (Int) :=
  (hY (gK a0) (0, ([] : (List Int)))).bind fun o10 => (fE o10).bind fun x11 => (pT .i64 (IntKind.wrap .i64 ((x11.length : Int) - 1)) 2).bind fun x12 => (inO x11 x12).bind fun _ => (oG x11 x12).bind fun x15 => some x15
def eC (a0 : (List aA)) : Option (aA × Int) :=
  if ((a0.length : Int) == 0) = true then (some ((aA.mk 0 0), 24)) else ((ca a0).bind fun x2 => if x2 = true then (some ((aA.mk 0 0), 1)) else ((ef a0).bind fun x4 => (eh a0).bind fun x5 => some ((aA.mk x4 x5), 0)))
def bR (a0 : aG) (a1 : aD) (a2 : (List ap)) : Option (aP × Int) :=
  (fF a0 a1 a2).bind fun x1 => if (x1.2 != 0) = true then (some ((aP.mk [] (aF.mk (aa.mk 0 0 0) 0 0 0 (aj.mk (aa.mk 0 0 0) (aa.mk 0 0 0))) (aA.mk 0 0) 0), x1.2)) else ((gq x1.1 a0).bind fun x3 => if (x3.2 != 0) = true then (some ((aP.mk [] (aF.mk (aa.mk 0 0 0) 0 0 0 (aj.mk (aa.mk 0 0 0) (aa.mk 0 0 0))) (aA.mk 0 0) 0), x3.2)) else ((gI x3.1 a0.ba).bind fun x5 => if (x5.2 != 0) = true then (some ((aP.mk [] (aF.mk (aa.mk 0 0 0) 0 0 0 (aj.mk (aa.mk 0 0 0) (aa.mk 0 0 0))) (aA.mk 0 0) 0), x5.2)) else ((ci x1.1 a0 x5.1.ar).bind fun x7 => if (decide ((x7.length : Int) > 0)) = true then ((eC x7).bind fun x9 => if (x9.2 != 0) = true then (some ((aP.mk [] (aF.mk (aa.mk 0 0 0) 0 0 0 (aj.mk (aa.mk 0 0 0) (aa.mk 0 0 0))) (aA.mk 0 0) 0), x9.2)) else (some ((aP.mk x1.1.cg x5.1 x9.1 (x7.length : Int)), 0))) else (some ((aP.mk x1.1.cg x5.1 (aA.mk 0 0) 0), 0)))))
def hF (a0 : (List ap)) (a1 : (List ap)) : Int → Option (oC (Int) ((Unit) ⊕ (Bool))) := fun s2 =>
  if (decide (s2 < (a0.length : Int))) = true then ((oG a0 s2).bind fun x5 => (oG a1 s2).bind fun x6 => if (!(((x5.aJ.aU == x6.aJ.aU) && ((x5.aJ.aL == x6.aJ.aL) && ((x5.aJ.aq == x6.aJ.aq) && ((x5.aJ.aX == x6.aJ.aX) && true)))) && ((x5.a8 == x6.a8) && ((x5.bw == x6.bw) && ((x5.bO == x6.bO) && ((x5.bn == x6.bn) && ((x5.bI == x6.bI) && true))))))) = true then (some (.stop (.inr false))) else (some (.next (IntKind.wrap .i64 (s2 + 1))))) else (some (.stop (.inl ())))
def gQ (a0 : (List ap)) (a1 : (List ap)) : Option (Bool) :=
  if ((a0.length : Int) != (a1.length : Int)) = true then (some false) else ((hY (hF a0 a1) 0).bind fun o9 => match o9 with | .inl _ => (some true) | .inr r11 => (some r11))
def iY (a0 : aP) (a1 : aP) : Option (Bool) :=
  (gQ a0.fi a1.fi).bind fun x1 => if x1 = true then (if (((a0.aq.aC.fX == a1.aq.aC.fX) && ((a0.aq.aC.fY == a1.aq.aC.fY) && ((a0.aq.aC.fZ == a1.aq.aC.fZ) && true))) && ((a0.aq.a8 == a1.aq.a8) && ((a0.aq.aS == a1.aq.aS) && ((a0.aq.bc == a1.aq.bc) && ((((a0.aq.ar.ak.fX == a1.aq.ar.ak.fX) && ((a0.aq.ar.ak.fY == a1.aq.ar.ak.fY) && ((a0.aq.ar.ak.fZ == a1.aq.ar.ak.fZ) && true))) && (((a0.aq.ar.ae.fX == a1.aq.ar.ae.fX) && ((a0.aq.ar.ae.fY == a1.aq.ar.ae.fY) && ((a0.aq.ar.ae.fZ == a1.aq.ar.ae.fZ) && true))) && true)) && true))))) = true then (if ((a0.bL.ak == a1.bL.ak) && ((a0.bL.ae == a1.bL.ae) && true)) = true then (some (a0.iq == a1.iq)) else (some false)) else (some false)) else (some false)
def ia  : Option (Bool) :=
  (ix []).bind fun x1 => (cL 2 x1).bind fun x2 => (eU 3 x2.2).bind fun x3 => (bR x2.1 x3.1 []).bind fun x4 => (dw 1).bind fun x5 => (bR x2.1 x3.1 [(ap.mk x5 2500 2500 2500 10 0)]).bind fun x6 => if (x4.2 == 24) = true then (if (x6.2 == 0) = true then (if ((x6.1.fi.length : Int) == 1) = true then ((oG x6.1.fi 0).bind fun x10 => if (((x10.aJ.aU == x5.aU) && ((x10.aJ.aL == x5.aL) && ((x10.aJ.aq == x5.aq) && ((x10.aJ.aX == x5.aX) && true)))) && ((x10.a8 == 2500) && ((x10.bw == 2500) && ((x10.bO == 2500) && ((x10.bn == 10) && ((x10.bI == 0) && true)))))) = true then (if (x6.1.aq.aS == 0) = true then ((eJ x2.1).bind fun x13 => some (x13 == 0)) else (some false)) else (some false)) else (some false)) else (some false)) else (some false)
def eZ (x5 : (List ap)) (a1 : (List Int)) : (Int × (List ap)) → Option (oC (Int × (List ap)) ((List ap))) := fun (s6, s7) =>
  if (decide (s6 < (x5.length : Int))) = true then (if (decide (s6 < (a1.length : Int))) = true then ((oG a1 s6).bind fun x12 => (jq x12 (s7.length : Int)).bind fun x13 => (inO s7 x13).bind fun _ => (oG s7 x13).bind fun x16 => (inO s7 s6).bind fun _ => (oG s7 s6).bind fun x19 => (inO s7 s6).bind fun _ => (rY s7 s6 x16).bind fun x22 => (inO x22 x13).bind fun _ => (rY x22 x13 x19).bind fun x25 => some (.next ((IntKind.wrap .i64 (s6 + 1)), x25))) else (some (.next ((IntKind.wrap .i64 (s6 + 1)), s7)))) else (some (.stop s7))
def cJ (x2 : aG × ah) (x3 : aD × ah) (x4 : (List ap) × ah) (j28 : (List ap)) : Option (Bool) :=
  (pJ j28 [(ap.mk (aI.mk [90, 90] [78, 79] [48, 48] [66, 72, 90]) 1500 1500 1500 0 0)] 104).bind fun x29 => (bR x2.1 x3.1 x4.1).bind fun x30 => (bR x2.1 x3.1 x29).bind fun x31 => if (x30.2 != x31.2) = true then (some false) else ((iY x30.1 x31.1).bind fun x33 => if (!x33) = true then (some false) else (if (x30.2 != 0) = true then (if (x30.2 == 24) = true then ((ia ).bind fun x37 => some x37) else (some false)) else ((bR x2.1 x3.1 x30.1.fi).bind fun x38 => if (x38.2 == 0) = true then ((iY x30.1 x38.1).bind fun x40 => if x40 = true then ((ia ).bind fun x42 => some x42) else (some false)) else (some false))))
def gA (a0 : (List Int)) (a1 : (List Int)) : Option (Bool) :=
  (ix a0).bind fun x1 => (cL 3 x1).bind fun x2 => (eU 6 x2.2).bind fun x3 => (lf x2.1 x3.1 7 x3.2).bind fun x4 => (pJ ([] : List ap) x4.1 104).bind fun x5 => (hY (eZ x5 a1) (0, x5)).bind fun o27 => if (decide ((x4.1.length : Int) > 0)) = true then ((cq (x4.1.length : Int) x4.2).bind fun x45 => (oG x4.1 x45.1).bind fun x46 => (pJ o27 [x46] 104).bind fun x47 => cJ x2 x3 x4 x47) else (cJ x2 x3 x4 o27)
end
end Go.Dw.So
