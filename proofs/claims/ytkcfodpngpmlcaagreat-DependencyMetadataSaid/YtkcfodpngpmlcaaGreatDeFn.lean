
import Derived.Test.YtkcfodpngpmlcaaGreatDwNest
import Derived.Test.YtkcfodpngpmlcaaGreatDwSortP



namespace Go.Dw.De
open Go.Dw

structure ah where
  fL : (List Int)
  fAt : Int
  deriving DecidableEq
def ah.pd (x : ah) : PD := .agg [.lst (x.fL.map (PD.int .i64)), .int .i64 x.fAt]
structure aq where
  fX : Int
  fY : Int
  fZ : Int
  deriving DecidableEq
def aq.pd (x : aq) : PD := .agg [.int .i64 x.fX, .int .i64 x.fY, .int .i64 x.fZ]
structure aN where
  bf : aq
  aY : aq
  deriving DecidableEq
def aN.pd (x : aN) : PD := .agg [.int .i64 x.bf.fX, .int .i64 x.bf.fY, .int .i64 x.bf.fZ, .int .i64 x.aY.fX, .int .i64 x.aY.fY, .int .i64 x.aY.fZ]
structure aL where
  bH : Int
  bf : (List Int)
  aY : (List Int)
  deriving DecidableEq
def aL.pd (x : aL) : PD := .agg [.int .i64 x.bH, .lst (x.bf.map (PD.int .i64)), .lst (x.aY.map (PD.int .i64))]
structure bc where
  aT : aN
  bw : aL
  ye : Int
  bB : Int
  oH : Int
  nP : Int
  nO : Int
  deriving DecidableEq
def bc.pd (x : bc) : PD := .agg [.int .i64 x.aT.bf.fX, .int .i64 x.aT.bf.fY, .int .i64 x.aT.bf.fZ, .int .i64 x.aT.aY.fX, .int .i64 x.aT.aY.fY, .int .i64 x.aT.aY.fZ, .int .i64 x.bw.bH, .lst (x.bw.bf.map (PD.int .i64)), .lst (x.bw.aY.map (PD.int .i64)), .int .i64 x.ye, .int .i64 x.bB, .int .i64 x.oH, .int .i64 x.nP, .int .i64 x.nO]
structure cw where
  a8 : aL
  aW : Int
  aQ : Int
  deriving DecidableEq
def cw.pd (x : cw) : PD := .agg [.int .i64 x.a8.bH, .lst (x.a8.bf.map (PD.int .i64)), .lst (x.a8.aY.map (PD.int .i64)), .int .i64 x.aW, .int .i64 x.aQ]
structure aG where
  av : bc
  cg : cw
  bB : Int
  deriving DecidableEq
def aG.pd (x : aG) : PD := .agg [.int .i64 x.av.aT.bf.fX, .int .i64 x.av.aT.bf.fY, .int .i64 x.av.aT.bf.fZ, .int .i64 x.av.aT.aY.fX, .int .i64 x.av.aT.aY.fY, .int .i64 x.av.aT.aY.fZ, .int .i64 x.av.bw.bH, .lst (x.av.bw.bf.map (PD.int .i64)), .lst (x.av.bw.aY.map (PD.int .i64)), .int .i64 x.av.ye, .int .i64 x.av.bB, .int .i64 x.av.oH, .int .i64 x.av.nP, .int .i64 x.av.nO, .int .i64 x.cg.a8.bH, .lst (x.cg.a8.bf.map (PD.int .i64)), .lst (x.cg.a8.aY.map (PD.int .i64)), .int .i64 x.cg.aW, .int .i64 x.cg.aQ, .int .i64 x.bB]
structure ag where
  aB : (List UInt8)
  aA : (List UInt8)
  aw : (List UInt8)
  aC : (List UInt8)
  deriving DecidableEq
def ag.pd (x : ag) : PD := .agg [.str x.aB, .str x.aA, .str x.aw, .str x.aC]
structure aU where
  aW : Int
  aQ : Int
  deriving DecidableEq
def aU.pd (x : aU) : PD := .agg [.int .i64 x.aW, .int .i64 x.aQ]
structure aV where
  a0 : Int
  a1 : Int
  a2 : Int
  deriving DecidableEq
def aV.pd (x : aV) : PD := .agg [.int .i64 x.a0, .int .i64 x.a1, .int .i64 x.a2]
structure ar where
  cb : Int
  aW : aV
  aQ : aV
  br : (List Int)
  bg : Int
  bz : Int
  deriving DecidableEq
def ar.pd (x : ar) : PD := .agg [.int .i64 x.cb, .int .i64 x.aW.a0, .int .i64 x.aW.a1, .int .i64 x.aW.a2, .int .i64 x.aQ.a0, .int .i64 x.aQ.a1, .int .i64 x.aQ.a2, .lst (x.br.map (PD.int .i64)), .int .i64 x.bg, .int .i64 x.bz]
structure aD where
  aO : (List ar)
  deriving DecidableEq
def aD.pd (x : aD) : PD := .agg [.lst (x.aO.map ar.pd)]
structure ai where
  aK : Int
  fTo : Int
  bI : aU
  aF : aq
  aS : aD
  deriving DecidableEq
def ai.pd (x : ai) : PD := .agg [.int .i64 x.aK, .int .i64 x.fTo, .int .i64 x.bI.aW, .int .i64 x.bI.aQ, .int .i64 x.aF.fX, .int .i64 x.aF.fY, .int .i64 x.aF.fZ, .lst (x.aS.aO.map ar.pd)]
structure ac where
  ak : ag
  aP : (List ai)
  deriving DecidableEq
def ac.pd (x : ac) : PD := .agg [.str x.ak.aB, .str x.ak.aA, .str x.ak.aw, .str x.ak.aC, .lst (x.aP.map ai.pd)]
structure ae where
  ap : (List ac)
  deriving DecidableEq
def ae.pd (x : ae) : PD := .agg [.lst (x.ap.map ac.pd)]
structure aa where
  ak : ag
  aM : Int
  aI : Int
  aX : Int
  aH : Int
  aJ : Int
  deriving DecidableEq
def aa.pd (x : aa) : PD := .agg [.str x.ak.aB, .str x.ak.aA, .str x.ak.aw, .str x.ak.aC, .int .i64 x.aM, .int .i64 x.aI, .int .i64 x.aX, .int .i64 x.aH, .int .i64 x.aJ]
structure A4_Int where
  a0 : Int
  a1 : Int
  a2 : Int
  a3 : Int
  deriving DecidableEq
def A4_Int.pd (x : A4_Int) : PD := .agg [.int .i64 x.a0, .int .i64 x.a1, .int .i64 x.a2, .int .i64 x.a3]
structure bC where
  a0 : Int
  a1 : Int
  deriving DecidableEq
def bC.pd (x : bC) : PD := .agg [.int .i64 x.a0, .int .i64 x.a1]
structure fm where
  a0 : bC
  a1 : bC
  a2 : bC
  a3 : bC
  a4 : bC
  deriving DecidableEq
def fm.pd (x : fm) : PD := .agg [.int .i64 x.a0.a0, .int .i64 x.a0.a1, .int .i64 x.a1.a0, .int .i64 x.a1.a1, .int .i64 x.a2.a0, .int .i64 x.a2.a1, .int .i64 x.a3.a0, .int .i64 x.a3.a1, .int .i64 x.a4.a0, .int .i64 x.a4.a1]
structure aj where
  aK : Int
  fTo : Int
  deriving DecidableEq
def aj.pd (x : aj) : PD := .agg [.int .i64 x.aK, .int .i64 x.fTo]
structure az where
  ak : ag
  cj : (List aj)
  deriving DecidableEq
def az.pd (x : az) : PD := .agg [.str x.ak.aB, .str x.ak.aA, .str x.ak.aw, .str x.ak.aC, .lst (x.cj.map aj.pd)]
structure al where
  aA : aq
  aI : Int
  aX : Int
  jf : Int
  deriving DecidableEq
def al.pd (x : al) : PD := .agg [.int .i64 x.aA.fX, .int .i64 x.aA.fY, .int .i64 x.aA.fZ, .int .i64 x.aI, .int .i64 x.aX, .int .i64 x.jf]
structure bD where
  aK : Int
  fTo : Int
  deriving DecidableEq
def bD.pd (x : bD) : PD := .agg [.int .i64 x.aK, .int .i64 x.fTo]
def si (a b : ag) : Bool := ((a.aB == b.aB) && ((a.aA == b.aA) && ((a.aw == b.aw) && ((a.aC == b.aC) && true))))
def pJ (a b : aa) : Bool := (((a.ak.aB == b.ak.aB) && ((a.ak.aA == b.ak.aA) && ((a.ak.aw == b.ak.aw) && ((a.ak.aC == b.ak.aC) && true)))) && ((a.aM == b.aM) && ((a.aI == b.aI) && ((a.aX == b.aX) && ((a.aH == b.aH) && ((a.aJ == b.aJ) && true))))))
noncomputable def nn (a0 : (List Int)) : Option (ah) :=
  (cutO a0 0 (if (2000 : Int) < (a0.length : Int) then (2000 : Int) else (a0.length : Int))).bind fun x1 => some (ah.mk x1 0)
noncomputable def xg (d0 : ah) : Option (Int × ah) :=
  if (decide (d0.fAt ≥ (d0.fL.length : Int))) = true then (some ((0 : Int), d0)) else ((getO d0.fL (IntKind.wrap .i64 ((IntKind.wrap .i64 (d0.fAt + (1 : Int))) - (1 : Int)))).bind fun x2 => some (x2, (ah.mk d0.fL (IntKind.wrap .i64 (d0.fAt + (1 : Int))))))
noncomputable def tg (a0 : Int) (a1 : Int) : Option (Int) :=
  if (decide (a1 < (1 : Int))) = true then (some (0 : Int)) else ((remO a0 a1).bind fun x2 => if (decide (x2 < (0 : Int))) = true then (some (IntKind.wrap .i64 (x2 + a1))) else (some x2))
noncomputable def c6 (a1 : Int) (d0 : ah) : Option (Int × ah) :=
  (xg d0).bind fun x1 => (tg x1.1 a1).bind fun x2 => some (x2, x1.2)
noncomputable def mb (a1 : Int) (d0 : ah) : Option (aq × ah) :=
  (c6 (IntKind.wrap .i64 ((IntKind.wrap .i64 ((2 : Int) * a1)) + (1 : Int))) d0).bind fun x1 => (c6 (IntKind.wrap .i64 ((IntKind.wrap .i64 ((2 : Int) * a1)) + (1 : Int))) x1.2).bind fun x2 => (c6 (IntKind.wrap .i64 (a1 + (1 : Int))) x2.2).bind fun x3 => some ((aq.mk (IntKind.wrap .i64 (x1.1 - a1)) (IntKind.wrap .i64 (x2.1 - a1)) x3.1), x3.2)
noncomputable def xf (a1 : Int) (a2 : Int) (d0 : ah) : Option (aN × ah) :=
  (mb a1 d0).bind fun x1 => (c6 (IntKind.wrap .i64 (a2 + (1 : Int))) x1.2).bind fun x2 => (c6 (IntKind.wrap .i64 (a2 + (1 : Int))) x2.2).bind fun x3 => (c6 (IntKind.wrap .i64 (a2 + (1 : Int))) x3.2).bind fun x4 => some ((aN.mk x1.1 (aq.mk (IntKind.wrap .i64 (x1.1.fX + x2.1)) (IntKind.wrap .i64 (x1.1.fY + x3.1)) (IntKind.wrap .i64 (x1.1.fZ + x4.1)))), x4.2)
noncomputable def dm (a1 : (List Int)) (d0 : ah) : Option (Int × ah) :=
  (c6 (a1.length : Int) d0).bind fun x1 => (getO a1 x1.1).bind fun x2 => some (x2, x1.2)
noncomputable def qF (x1 : Int × ah) : (Int × Int × Int × (List Int) × Int × (List Int) × (List Int)) → Option (Step1 (Int × Int × Int × (List Int) × Int × (List Int) × (List Int)) ((List Int) × Int × (List Int) × (List Int))) := fun (s3, s4, s5, s6, s7, s8, s9) =>
  (quoO .i64 (400 : Int) x1.1).bind fun x15 => (c6 (3 : Int) (ah.mk s6 s7)).bind fun x16 => if (decide (s5 ≤ (IntKind.wrap .i64 (x15 + x16.1)))) = true then ((appO s8 [s3] 8).bind fun x18 => (appO s9 [s4] 8).bind fun x19 => (dm [0, 10, 20, 35] x16.2).bind fun x20 => (quoO .i64 x1.1 (4 : Int)).bind fun x21 => (dm [0, 0, 5, 30] x20.2).bind fun x22 => some (.next ((IntKind.wrap .i64 (s3 + (IntKind.wrap .i64 (x20.1 + x21)))), (IntKind.wrap .i64 ((if (IntKind.wrap .i64 (s3 + (IntKind.wrap .i64 (x20.1 + x21)))) > s4 then (IntKind.wrap .i64 (s3 + (IntKind.wrap .i64 (x20.1 + x21)))) else s4) + x22.1)), (IntKind.wrap .i64 (s5 + (1 : Int))), x22.2.fL, x22.2.fAt, x18, x19))) else (some (.stop (x16.2.fL, x16.2.fAt, s8, s9)))
noncomputable def pS (d0 : ah) : Option (aL × ah) :=
  (dm [20, 25, 40, 100] d0).bind fun x1 => (c6 (3 : Int) x1.2).bind fun x2 => (loopO (qF x1) ((0 : Int), x2.1, (0 : Int), x2.2.fL, x2.2.fAt, ([] : (List Int)), ([] : (List Int)))).bind fun o24 => some ((aL.mk x1.1 o24.2.2.1 o24.2.2.2), (ah.mk o24.1 o24.2.1))
noncomputable def iY (a1 : Int) (d0 : ah) : Option (bc × ah) :=
  (xf (20 : Int) a1 d0).bind fun x1 => (pS x1.2).bind fun x2 => (dm [10, 50, 200] x2.2).bind fun x3 => (dm [0, 0, 10, 40] x3.2).bind fun x4 => (dm [0, 50, 200, 400] x4.2).bind fun x5 => (dm [0, 5, 20] x5.2).bind fun x6 => (c6 (2 : Int) x6.2).bind fun x7 => some ((bc.mk x1.1 x2.1 x3.1 x4.1 x5.1 x6.1 (IntKind.wrap .i64 ((2 : Int) + x7.1))), x7.2)
noncomputable def qC (x1 : aL × ah) : (Int × (List Int) × (List Int)) → Option (Step1 (Int × (List Int) × (List Int)) ((List Int) × (List Int))) := fun (s4, s5, s6) =>
  if (decide (s4 < (x1.1.bf.length : Int))) = true then ((inO s5 s4).bind fun _ => (getO s5 s4).bind fun x13 => (quoO .i64 x13 (3 : Int)).bind fun x14 => (inO s6 s4).bind fun _ => (getO s6 s4).bind fun x17 => (quoO .i64 x17 (3 : Int)).bind fun x18 => (inO s5 s4).bind fun _ => (setO s5 s4 x14).bind fun x21 => (inO s6 s4).bind fun _ => (setO s6 s4 x18).bind fun x24 => some (.next ((IntKind.wrap .i64 (s4 + (1 : Int))), x21, x24))) else (some (.stop (s5, s6)))
noncomputable def sJ (d0 : ah) : Option (cw × ah) :=
  (pS d0).bind fun x1 => (c6 (20 : Int) x1.2).bind fun x2 => (c6 (9 : Int) x2.2).bind fun x3 => (loopO (qC x1) ((0 : Int), x1.1.bf, x1.1.aY)).bind fun o26 => some ((cw.mk (aL.mk x1.1.bH o26.1 o26.2) x2.1 (IntKind.wrap .i64 ((1 : Int) + x3.1))), x3.2)
noncomputable def gb (a1 : Int) (d0 : ah) : Option (aG × ah) :=
  (iY a1 d0).bind fun x1 => (sJ x1.2).bind fun x2 => (dm [0, 0, 10, 40] x2.2).bind fun x3 => some ((aG.mk x1.1 x2.1 x3.1), x3.2)
noncomputable def jD  : (Int × (List Int) × Int × (List ar)) → Option (Step1 (Int × (List Int) × Int × (List ar)) ((List Int) × Int × (List ar))) := fun (s2, s3, s4, s5) =>
  if (decide (s2 > (0 : Int))) = true then ((c6 (3 : Int) (ah.mk s3 s4)).bind fun x11 => if (x11.1 == (0 : Int)) = true then ((dm [0, 1, 9, 99, 1048575] x11.2).bind fun x13 => (dm [0, 0, 2, 9, 999] x13.2).bind fun x14 => (appO s5 [(ar.mk x11.1 (aV.mk (IntKind.wrap .i64 ((1 : Int) + x13.1)) 0 0) (aV.mk (IntKind.wrap .i64 ((1 : Int) + x14.1)) 0 0) [] 0 0)] 96).bind fun x15 => some (.next ((IntKind.wrap .i64 (s2 - (1 : Int))), x14.2.fL, x14.2.fAt, x15))) else (if (x11.1 == (1 : Int)) = true then ((c6 (5 : Int) x11.2).bind fun x17 => (c6 (7 : Int) x17.2).bind fun x18 => (c6 (3 : Int) x18.2).bind fun x19 => (c6 (5 : Int) x19.2).bind fun x20 => (c6 (7 : Int) x20.2).bind fun x21 => (c6 (3 : Int) x21.2).bind fun x22 => (appO s5 [(ar.mk x11.1 (aV.mk x17.1 (IntKind.wrap .i64 (x18.1 - (3 : Int))) (IntKind.wrap .i64 (x19.1 - (1 : Int)))) (aV.mk (IntKind.wrap .i64 ((1 : Int) + x20.1)) x21.1 x22.1) [] 0 0)] 96).bind fun x23 => some (.next ((IntKind.wrap .i64 (s2 - (1 : Int))), x22.2.fL, x22.2.fAt, x23))) else ((c6 (3 : Int) x11.2).bind fun x24 => (c6 (4 : Int) x24.2).bind fun x25 => (appO s5 [(ar.mk x11.1 (aV.mk 0 0 0) (aV.mk 0 0 0) [(IntKind.wrap .i64 ((1 : Int) + x24.1)), 2, 1] 1 x25.1)] 96).bind fun x26 => some (.next ((IntKind.wrap .i64 (s2 - (1 : Int))), x25.2.fL, x25.2.fAt, x26))))) else (some (.stop (s3, s4, s5)))
noncomputable def ga (d0 : ah) : Option (aD × ah) :=
  (c6 (4 : Int) d0).bind fun x1 => (loopO (jD) (x1.1, x1.2.fL, x1.2.fAt, ([] : (List ar)))).bind fun o28 => some ((aD.mk o28.2.2), (ah.mk o28.1 o28.2.1))
noncomputable def fw (a0 : Int) : Option (ag) :=
  (tg a0 (6 : Int)).bind fun x1 => (getO [[83, 49], [83, 50], [83, 51], [83, 52], [83, 53], [83, 54]] x1).bind fun x2 => some (ag.mk [65, 66] x2 [48, 48] [66, 72, 90])
noncomputable def nh (a1 : Int) : (Int × (List Int) × Int × (List ac)) → Option (Step1 (Int × (List Int) × Int × (List ac)) ((List Int) × Int × (List ac))) := fun (s1, s2, s3, s4) =>
  if (decide (s1 < a1)) = true then (if (decide (s1 < (6 : Int))) = true then ((mb (60 : Int) (ah.mk s2 s3)).bind fun x11 => (ga x11.2).bind fun x12 => (fw s1).bind fun x13 => (c6 (6 : Int) x12.2).bind fun x14 => if (x14.1 == (0 : Int)) = true then ((c6 (500 : Int) x14.2).bind fun x16 => (mb (60 : Int) x16.2).bind fun x17 => (ga x17.2).bind fun x18 => (inO [(ai.mk 0 100000 (aU.mk 100 1) x11.1 x12.1)] (0 : Int)).bind fun _ => (modO [(ai.mk 0 100000 (aU.mk 100 1) x11.1 x12.1)] (0 : Int) (fun (z22 : ai) => (ai.mk z22.aK (IntKind.wrap .i64 ((1500 : Int) + x16.1)) z22.bI z22.aF z22.aS))).bind fun x21 => (appO x21 [(ai.mk (IntKind.wrap .i64 ((1500 : Int) + x16.1)) 100000 (aU.mk 100 1) x17.1 x18.1)] 80).bind fun x23 => (appO s4 [(ac.mk x13 x23)] 88).bind fun x24 => some (.next ((IntKind.wrap .i64 (s1 + (1 : Int))), x18.2.fL, x18.2.fAt, x24))) else (if (x14.1 == (1 : Int)) = true then ((c6 (1500 : Int) x14.2).bind fun x26 => (inO [(ai.mk 0 100000 (aU.mk 100 1) x11.1 x12.1)] (0 : Int)).bind fun _ => (modO [(ai.mk 0 100000 (aU.mk 100 1) x11.1 x12.1)] (0 : Int) (fun (z30 : ai) => (ai.mk x26.1 z30.fTo z30.bI z30.aF z30.aS))).bind fun x29 => (appO s4 [(ac.mk x13 x29)] 88).bind fun x31 => some (.next ((IntKind.wrap .i64 (s1 + (1 : Int))), x26.2.fL, x26.2.fAt, x31))) else ((appO s4 [(ac.mk x13 [(ai.mk 0 100000 (aU.mk 100 1) x11.1 x12.1)])] 88).bind fun x32 => some (.next ((IntKind.wrap .i64 (s1 + (1 : Int))), x14.2.fL, x14.2.fAt, x32))))) else (some (.stop (s2, s3, s4)))) else (some (.stop (s2, s3, s4)))
noncomputable def ja (a1 : Int) (d0 : ah) : Option (ae × ah) :=
  (loopO (nh a1) ((0 : Int), d0.fL, d0.fAt, ([] : (List ac)))).bind fun o34 => some ((ae.mk o34.2.2), (ah.mk o34.1 o34.2.1))
noncomputable def n9 (a1 : Int) (a2 : Int) (d0 : ah) : Option (Int × ah) :=
  (c6 (IntKind.wrap .i64 ((IntKind.wrap .i64 (a2 - a1)) + (1 : Int))) d0).bind fun x1 => some ((IntKind.wrap .i64 (a1 + x1.1)), x1.2)
noncomputable def pR (a1 : aN) (d0 : ah) : Option (aq × ah) :=
  (n9 a1.bf.fX a1.aY.fX d0).bind fun x1 => (n9 a1.bf.fY a1.aY.fY x1.2).bind fun x2 => (n9 a1.bf.fZ a1.aY.fZ x2.2).bind fun x3 => some ((aq.mk x1.1 x2.1 x3.1), x3.2)
noncomputable def oO (x4 : ac) (a1 : ag) (a2 : Int) (s1 : Int) : Int → Option (Step1 (Int) ((Int) ⊕ (aq × Bool))) := fun s5 =>
  if (decide (s5 < (x4.aP.length : Int))) = true then ((getO x4.aP s5).bind fun x9 => if ((x4.ak.aB == a1.aB) && ((x4.ak.aA == a1.aA) && ((x4.ak.aw == a1.aw) && ((x4.ak.aC == a1.aC) && true)))) = true then (if (decide (x9.aK ≤ a2)) = true then (if (decide (a2 < x9.fTo)) = true then (some (.stop (.inr (x9.aF, true)))) else (some (.next (IntKind.wrap .i64 (s5 + (1 : Int)))))) else (some (.next (IntKind.wrap .i64 (s5 + (1 : Int)))))) else (some (.next (IntKind.wrap .i64 (s5 + (1 : Int)))))) else (some (.stop (.inl s1)))
noncomputable def oP (a0 : ae) (a1 : ag) (a2 : Int) : Int → Option (Step1 (Int) ((Unit) ⊕ (aq × Bool))) := fun s1 =>
  if (decide (s1 < (a0.ap.length : Int))) = true then ((getO a0.ap s1).bind fun x4 => (loopO (oO x4 a1 a2 s1) (0 : Int)).bind fun o14 => match o14 with | .inl y15 => (some (.next (IntKind.wrap .i64 (y15 + (1 : Int))))) | .inr r16 => (some (.stop (.inr r16)))) else (some (.stop (.inl ())))
noncomputable def pW (a0 : ae) (a1 : ag) (a2 : Int) : Option (aq × Bool) :=
  (loopO (oP a0 a1 a2) (0 : Int)).bind fun o18 => match o18 with | .inl _ => (some ((aq.mk 0 0 0), false)) | .inr r20 => (some r20)
noncomputable def uf (a0 : Int) : Option (Int) :=
  some (IntKind.wrap .i64 (a0 * a0))
noncomputable def f9 (x18 : ag) (x19 : Int × ah) (x20 : Int × ah) (j22 : Int) (j23 : Int) (j24 : (List Int)) (j25 : Int) (j26 : (List aa)) (j27 : Int) (j28 : Int) (j29 : Int) (j30 : Int) : Option (Step1 (Int × Int × (List Int) × Int × (List aa) × Int × Int × Int) ((List aa) × (List Int) × Int)) :=
  (c6 (5 : Int) (ah.mk j24 j25)).bind fun x31 => (c6 (5 : Int) x31.2).bind fun x32 => (appO j26 [(aa.mk x18 (IntKind.wrap .i64 (j30 + x31.1)) j30 (IntKind.wrap .i64 ((IntKind.wrap .i64 (j30 + x31.1)) + x32.1)) x19.1 (IntKind.wrap .i64 (x20.1 - (1 : Int))))] 104).bind fun x33 => some (.next (j22, (IntKind.wrap .i64 (j23 - (1 : Int))), x32.2.fL, x32.2.fAt, x33, j27, j28, j29))
noncomputable def ng (x40 : aq × Bool) (s9 : Int) (s10 : Int) (s11 : Int) (s4 : Int) (s5 : Int) (s8 : (List aa)) : Int → Option (Step1 (Int) (Int × Int × Int × (List aa) × Int × Int × Int)) := fun s42 =>
  (uf (IntKind.wrap .i64 (x40.1.fX - s9))).bind fun x51 => (uf (IntKind.wrap .i64 (x40.1.fY - s10))).bind fun x52 => (uf (IntKind.wrap .i64 (x40.1.fZ - s11))).bind fun x53 => if (decide ((IntKind.wrap .i64 (s42 * s42)) < (IntKind.wrap .i64 ((IntKind.wrap .i64 (x51 + x52)) + x53)))) = true then (some (.next (IntKind.wrap .i64 (s42 + (1 : Int))))) else (some (.stop (s4, s5, s42, s8, s9, s10, s11)))
noncomputable def qA (a1 : aG) (a2 : ae) : (Int × Int × (List Int) × Int × (List aa) × Int × Int × Int) → Option (Step1 (Int × Int × (List Int) × Int × (List aa) × Int × Int × Int) ((List aa) × (List Int) × Int)) := fun (s4, s5, s6, s7, s8, s9, s10, s11) =>
  if (decide (s5 > (0 : Int))) = true then ((c6 (6 : Int) (ah.mk s6 s7)).bind fun x17 => (fw x17.1).bind fun x18 => (dm [0, 1, 50, 1000, 1048576] x17.2).bind fun x19 => (c6 (3 : Int) x19.2).bind fun x20 => (c6 (2000 : Int) x20.2).bind fun x21 => (c6 (6 : Int) x21.2).bind fun x35 => if (x35.1 == (0 : Int)) = true then ((pR a1.av.aT x35.2).bind fun x37 => (c6 (900 : Int) x37.2).bind fun x38 => f9 x18 x19 x20 (IntKind.wrap .i64 (s4 + x38.1)) s5 x38.2.fL x38.2.fAt s8 x37.1.fX x37.1.fY x37.1.fZ (IntKind.wrap .i64 ((1000 : Int) + x21.1))) else (if (x35.1 == (1 : Int)) = true then (f9 x18 x19 x20 s4 s5 x35.2.fL x35.2.fAt s8 s9 s10 s11 (IntKind.wrap .i64 ((1000 : Int) + x21.1))) else ((pW a2 x18 s4).bind fun x40 => if x40.2 = true then ((loopO (ng x40 s9 s10 s11 s4 s5 s8) (0 : Int)).bind fun o56 => (quoO .i64 o56.2.2.1 a1.av.bw.bH).bind fun x57 => (getO a1.av.bw.bf (if (IntKind.wrap .i64 ((a1.av.bw.bf.length : Int) - (1 : Int))) < x57 then (IntKind.wrap .i64 ((a1.av.bw.bf.length : Int) - (1 : Int))) else x57)).bind fun x58 => (c6 (6 : Int) x35.2).bind fun x59 => f9 x18 x19 x20 o56.1 o56.2.1 x59.2.fL x59.2.fAt o56.2.2.2.1 o56.2.2.2.2.1 o56.2.2.2.2.2.1 o56.2.2.2.2.2.2 (IntKind.wrap .i64 ((IntKind.wrap .i64 (o56.1 + x58)) + x59.1))) else (f9 x18 x19 x20 s4 s5 x35.2.fL x35.2.fAt s8 s9 s10 s11 (IntKind.wrap .i64 ((1000 : Int) + x21.1)))))) else (some (.stop (s8, s6, s7)))
noncomputable def iZ (a1 : aG) (a2 : ae) (a3 : Int) (d0 : ah) : Option ((List aa) × ah) :=
  (pR a1.av.aT d0).bind fun x1 => (c6 (500 : Int) x1.2).bind fun x2 => (c6 (IntKind.wrap .i64 (a3 + (1 : Int))) x2.2).bind fun x3 => (loopO (qA a1 a2) ((IntKind.wrap .i64 ((1000 : Int) + x2.1)), x3.1, x3.2.fL, x3.2.fAt, ([] : (List aa)), x1.1.fX, x1.1.fY, x1.1.fZ)).bind fun o61 => some (o61.1, (ah.mk o61.2.1 o61.2.2))
noncomputable def mD (a0 : Int) : Option (Bool) :=
  if (decide (a0 ≥ (65 : Int))) = true then (if (decide (a0 ≤ (90 : Int))) = true then (some true) else (if (decide (a0 ≥ (48 : Int))) = true then (some (decide (a0 ≤ (57 : Int)))) else (some false))) else (if (decide (a0 ≥ (48 : Int))) = true then (some (decide (a0 ≤ (57 : Int)))) else (some false))
noncomputable def jQ (a0 : (List UInt8)) : Int → Option (Step1 (Int) ((Unit) ⊕ (Bool))) := fun s1 =>
  if (decide (s1 < (a0.length : Int))) = true then ((byteO a0 s1).bind fun x4 => (mD x4).bind fun x5 => if (!x5) = true then (some (.stop (.inr false))) else (some (.next (IntKind.wrap .i64 (s1 + (1 : Int)))))) else (some (.stop (.inl ())))
noncomputable def jo (a0 : (List UInt8)) (a1 : Int) (a2 : Int) : Option (Bool) :=
  (loopO (jQ a0) (0 : Int)).bind fun o8 => match o8 with | .inl _ => (if (decide ((a0.length : Int) ≥ a1)) = true then (some (decide ((a0.length : Int) ≤ a2))) else (some false)) | .inr r10 => (some r10)
noncomputable def ks (a0 : ag) : Option (Bool) :=
  (jo a0.aB (1 : Int) (2 : Int)).bind fun x1 => if x1 = true then ((jo a0.aA (1 : Int) (5 : Int)).bind fun x3 => if x3 = true then ((jo a0.aw (0 : Int) (2 : Int)).bind fun x5 => if x5 = true then (if ((a0.aw.length : Int) != (1 : Int)) = true then ((jo a0.aC (3 : Int) (3 : Int)).bind fun x8 => some x8) else (some false)) else (some false)) else (some false)) else (some false)
noncomputable def ml (a0 : Int) (a1 : Int) (a2 : Int) : Option (Bool) :=
  if (decide (a0 ≥ a1)) = true then (some (decide (a0 ≤ a2))) else (some false)
noncomputable def eL (a0 : aa) : Option (Bool) :=
  (ks a0.ak).bind fun x1 => if x1 = true then (if (decide (a0.aI ≥ (0 : Int))) = true then (if (decide (a0.aI ≤ a0.aM)) = true then (if (decide (a0.aM ≤ a0.aX)) = true then (if (decide (a0.aX ≤ (18014398509481984 : Int))) = true then ((ml a0.aH (0 : Int) (1073741823 : Int)).bind fun x7 => if x7 = true then ((ml a0.aJ (-1 : Int) (1 : Int)).bind fun x9 => some x9) else (some false)) else (some false)) else (some false)) else (some false)) else (some false)) else (some false)
noncomputable def fM (a0 : aa) : Option (Bool) :=
  (eL a0).bind fun x1 => some (!x1)
noncomputable def cP (a0 : (List aa)) : Int → Option (Step1 (Int) ((Unit) ⊕ (Int))) := fun s1 =>
  if (decide (s1 < (a0.length : Int))) = true then ((getO a0 s1).bind fun x4 => (fM x4).bind fun x5 => if x5 = true then (some (.stop (.inr s1))) else (some (.next (IntKind.wrap .i64 (s1 + (1 : Int)))))) else (some (.stop (.inl ())))
noncomputable def dq (a0 : (List aa)) : Option (Int) :=
  (loopO (cP a0) (0 : Int)).bind fun o8 => match o8 with | .inl _ => (some (-1 : Int)) | .inr r10 => (some r10)
noncomputable def cO (a0 : (List aa)) : Option (Bool) :=
  (dq a0).bind fun x1 => some (decide (x1 ≥ (0 : Int)))
noncomputable def dC (a0 : (List aa)) : Option (Bool) :=
  (cO a0).bind fun x1 => some (!x1)
noncomputable def fQ (a0 : (List UInt8)) : Option (Bool) :=
  some (!(a0 == a0))
noncomputable def cA (a0 : (List UInt8)) (a1 : (List UInt8)) : Option (Int) :=
  (fQ a0).bind fun x1 => (fQ a1).bind fun x2 => if x1 = true then (if x2 = true then (some (0 : Int)) else (some (-1 : Int))) else (if x2 = true then (some (1 : Int)) else (if (Op.bytesLess a0 a1) = true then (some (-1 : Int)) else (if (!(Op.bytesLess a0 a1 || a0 == a1)) = true then (some (1 : Int)) else (some (0 : Int)))))
noncomputable def eh (a0 : (List Int)) : Int → Option (Step1 (Int) ((Unit) ⊕ (Int))) := fun s1 =>
  if (decide (s1 < (a0.length : Int))) = true then ((getO a0 s1).bind fun x4 => if (x4 != (0 : Int)) = true then (some (.stop (.inr x4))) else (some (.next (IntKind.wrap .i64 (s1 + (1 : Int)))))) else (some (.stop (.inl ())))
noncomputable def iw (a0 : (List Int)) : Option (Int) :=
  (loopO (eh a0) (0 : Int)).bind fun o7 => match o7 with | .inl _ => (some (0 : Int)) | .inr r9 => (some r9)
noncomputable def ca (a0 : ag) (a1 : ag) : Option (Int) :=
  (cA a0.aB a1.aB).bind fun x1 => (cA a0.aA a1.aA).bind fun x2 => (cA a0.aw a1.aw).bind fun x3 => (cA a0.aC a1.aC).bind fun x4 => (iw [x1, x2, x3, x4]).bind fun x5 => some x5
noncomputable def jq (a0 : Int) : Option (Bool) :=
  some (a0 != a0)
noncomputable def bA (a0 : Int) (a1 : Int) : Option (Int) :=
  (jq a0).bind fun x1 => (jq a1).bind fun x2 => if x1 = true then (if x2 = true then (some (0 : Int)) else (some (-1 : Int))) else (if x2 = true then (some (1 : Int)) else (if (decide (a0 < a1)) = true then (some (-1 : Int)) else (if (decide (a0 > a1)) = true then (some (1 : Int)) else (some (0 : Int)))))
noncomputable def bu (a0 : aa) (a1 : aa) : Option (Int) :=
  (ca a0.ak a1.ak).bind fun x1 => (bA a0.aM a1.aM).bind fun x2 => (bA a0.aI a1.aI).bind fun x3 => (bA a0.aX a1.aX).bind fun x4 => (bA a0.aH a1.aH).bind fun x5 => (bA a0.aJ a1.aJ).bind fun x6 => (iw [x1, x2, x3, x4, x5, x6]).bind fun x7 => some x7
noncomputable def gC (s2 : Int) (d0 : (List aa)) : (Int × Int × (List aa)) → Option (Step1 (Int × Int × (List aa)) (Int × (List aa))) := fun (s13, s14, s15) =>
  (lenV s15.length (0 + (s2 : Int).toNat) (0 + ((d0.length : Int) : Int).toNat)).bind fun x19 => if (decide (s14 < x19)) = true then ((inV s15.length (0 + (s2 : Int).toNat) (0 + ((d0.length : Int) : Int).toNat) s14).bind fun _ => (getO s15 (((0 + (s2 : Int).toNat) + (s14 : Int).toNat : Nat) : Int)).bind fun x22 => (inV s15.length (0 + (s2 : Int).toNat) (0 + ((d0.length : Int) : Int).toNat) (IntKind.wrap .i64 (s14 - (1 : Int)))).bind fun _ => (getO s15 (((0 + (s2 : Int).toNat) + ((IntKind.wrap .i64 (s14 - (1 : Int))) : Int).toNat : Nat) : Int)).bind fun x24 => if (!(((x22.ak.aB == x24.ak.aB) && ((x22.ak.aA == x24.ak.aA) && ((x22.ak.aw == x24.ak.aw) && ((x22.ak.aC == x24.ak.aC) && true)))) && ((x22.aM == x24.aM) && ((x22.aI == x24.aI) && ((x22.aX == x24.aX) && ((x22.aH == x24.aH) && ((x22.aJ == x24.aJ) && true))))))) = true then ((inV s15.length (0 + (s2 : Int).toNat) (0 + ((d0.length : Int) : Int).toNat) s14).bind fun _ => (getO s15 (((0 + (s2 : Int).toNat) + (s14 : Int).toNat : Nat) : Int)).bind fun x27 => (inO s15 s13).bind fun _ => (setO s15 s13 x27).bind fun x30 => some (.next ((IntKind.wrap .i64 (s13 + (1 : Int))), (IntKind.wrap .i64 (s14 + (1 : Int))), x30))) else (some (.next (s13, (IntKind.wrap .i64 (s14 + (1 : Int))), s15)))) else (some (.stop (s13, s15)))
noncomputable def eM (d0 : (List aa)) : Int → Option (Step1 (Int) ((Unit) ⊕ ((List aa)))) := fun s2 =>
  if (decide (s2 < (d0.length : Int))) = true then ((inO d0 s2).bind fun _ => (getO d0 s2).bind fun x7 => (inO d0 (IntKind.wrap .i64 (s2 - (1 : Int)))).bind fun _ => (getO d0 (IntKind.wrap .i64 (s2 - (1 : Int)))).bind fun x10 => if (((x7.ak.aB == x10.ak.aB) && ((x7.ak.aA == x10.ak.aA) && ((x7.ak.aw == x10.ak.aw) && ((x7.ak.aC == x10.ak.aC) && true)))) && ((x7.aM == x10.aM) && ((x7.aI == x10.aI) && ((x7.aX == x10.aX) && ((x7.aH == x10.aH) && ((x7.aJ == x10.aJ) && true)))))) = true then ((subO d0.length s2 (d0.length : Int)).bind fun _ => (loopO (gC s2 d0) (s2, (1 : Int), d0)).bind fun o32 => (subO o32.2.length o32.1 (o32.2.length : Int)).bind fun _ => (viewO o32.2.length (0 + (o32.1 : Int).toNat) (0 + ((o32.2.length : Int) : Int).toNat)).bind fun _ => (subO (clearL o32.2 (0 + (o32.1 : Int).toNat) ((0 + ((o32.2.length : Int) : Int).toNat) - (0 + (o32.1 : Int).toNat)) (aa.mk (ag.mk [] [] [] []) 0 0 0 0 0)).length (0 : Int) o32.1).bind fun _ => some (.stop (.inr ((clearL o32.2 (0 + (o32.1 : Int).toNat) ((0 + ((o32.2.length : Int) : Int).toNat) - (0 + (o32.1 : Int).toNat)) (aa.mk (ag.mk [] [] [] []) 0 0 0 0 0)).take (o32.1 : Int).toNat)))) else (some (.next (IntKind.wrap .i64 (s2 + (1 : Int)))))) else (some (.stop (.inl ())))
noncomputable def c7 (d0 : (List aa)) : Option ((List aa)) :=
  if (decide ((d0.length : Int) < (2 : Int))) = true then (some d0) else ((loopO (eM d0) (1 : Int)).bind fun o38 => match o38 with | .inl _ => (some d0) | .inr r40 => (some r40))
noncomputable def jk (a0 : (List aa)) : Option ((List aa)) :=
  (cloneO 104 a0).bind fun x1 => (sortO bu x1).bind fun x2 => (c7 x2).bind fun x3 => some x3
noncomputable def bU (a0 : aa) (a1 : aa) : Option (Int) :=
  (bA a0.aI a1.aI).bind fun x1 => some x1
noncomputable def bJ (a1 : Int) (s1 : Int) : (Int × (List aa)) → Option (Step1 (Int × (List aa)) (Int × (List aa))) := fun (s5, s6) =>
  if (decide (s5 > a1)) = true then ((inO s6 s5).bind fun _ => (getO s6 s5).bind fun x13 => (inO s6 (IntKind.wrap .i64 (s5 - (1 : Int)))).bind fun _ => (getO s6 (IntKind.wrap .i64 (s5 - (1 : Int)))).bind fun x16 => (bU x13 x16).bind fun x17 => if (decide (x17 < (0 : Int))) = true then ((inO s6 (IntKind.wrap .i64 (s5 - (1 : Int)))).bind fun _ => (getO s6 (IntKind.wrap .i64 (s5 - (1 : Int)))).bind fun x21 => (inO s6 s5).bind fun _ => (getO s6 s5).bind fun x24 => (inO s6 s5).bind fun _ => (setO s6 s5 x21).bind fun x27 => (inO x27 (IntKind.wrap .i64 (s5 - (1 : Int)))).bind fun _ => (setO x27 (IntKind.wrap .i64 (s5 - (1 : Int))) x24).bind fun x30 => some (.next ((IntKind.wrap .i64 (s5 - (1 : Int))), x30))) else (some (.stop (s1, s6)))) else (some (.stop (s1, s6)))
noncomputable def bv (a2 : Int) (a1 : Int) : (Int × (List aa)) → Option (Step1 (Int × (List aa)) ((List aa))) := fun (s1, s2) =>
  if (decide (s1 < a2)) = true then ((loopO (bJ a1 s1) (s1, s2)).bind fun o32 => some (.next ((IntKind.wrap .i64 (o32.1 + (1 : Int))), o32.2))) else ((some s2).bind fun z33 => some (.stop z33))
noncomputable def ba (a1 : Int) (a2 : Int) (d0 : (List aa)) : Option ((List aa)) :=
  (loopO (bv a2 a1) ((IntKind.wrap .i64 (a1 + (1 : Int))), d0)).bind fun o35 => some o35
noncomputable def dG (a3 : Int) (a2 : Int) (a1 : Int) : (Int × (List aa)) → Option (Step1 (Int × (List aa)) ((List aa))) := fun (s1, s2) =>
  if (decide (s1 < a3)) = true then ((inO s2 (IntKind.wrap .i64 (a2 + s1))).bind fun _ => (getO s2 (IntKind.wrap .i64 (a2 + s1))).bind fun x7 => (inO s2 (IntKind.wrap .i64 (a1 + s1))).bind fun _ => (getO s2 (IntKind.wrap .i64 (a1 + s1))).bind fun x10 => (inO s2 (IntKind.wrap .i64 (a1 + s1))).bind fun _ => (setO s2 (IntKind.wrap .i64 (a1 + s1)) x7).bind fun x13 => (inO x13 (IntKind.wrap .i64 (a2 + s1))).bind fun _ => (setO x13 (IntKind.wrap .i64 (a2 + s1)) x10).bind fun x16 => some (.next ((IntKind.wrap .i64 (s1 + (1 : Int))), x16))) else ((some s2).bind fun z17 => some (.stop z17))
noncomputable def bQ (a1 : Int) (a2 : Int) (a3 : Int) (d0 : (List aa)) : Option ((List aa)) :=
  (loopO (dG a3 a2 a1) ((0 : Int), d0)).bind fun o19 => some o19
noncomputable def eB (a2 : Int) : (Int × Int × (List aa)) → Option (Step1 (Int × Int × (List aa)) (Int × (List aa))) := fun (s1, s2, s3) =>
  if (s1 != s2) = true then (if (decide (s1 > s2)) = true then ((bQ (IntKind.wrap .i64 (a2 - s1)) a2 s2 s3).bind fun x9 => some (.next ((IntKind.wrap .i64 (s1 - s2)), s2, x9))) else ((bQ (IntKind.wrap .i64 (a2 - s1)) (IntKind.wrap .i64 ((IntKind.wrap .i64 (a2 + s2)) - s1)) s1 s3).bind fun x10 => some (.next (s1, (IntKind.wrap .i64 (s2 - s1)), x10)))) else (some (.stop (s1, s3)))
noncomputable def dF (a1 : Int) (a2 : Int) (a3 : Int) (d0 : (List aa)) : Option ((List aa)) :=
  (loopO (eB a2) ((IntKind.wrap .i64 (a2 - a1)), (IntKind.wrap .i64 (a3 - a2)), d0)).bind fun o12 => (bQ (IntKind.wrap .i64 (a2 - o12.1)) a2 o12.1 o12.2).bind fun x13 => some x13
noncomputable def d6 (d0 : (List aa)) (a1 : Int) : (Int × Int) → Option (Step1 (Int × Int) (Int)) := fun (s2, s3) =>
  if (decide (s2 < s3)) = true then ((inO d0 (IntKind.wrap .i64 (shrI .u64 (IntKind.wrap .u64 (IntKind.wrap .i64 (s2 + s3))) (1 : Int)))).bind fun _ => (getO d0 (IntKind.wrap .i64 (shrI .u64 (IntKind.wrap .u64 (IntKind.wrap .i64 (s2 + s3))) (1 : Int)))).bind fun x9 => (inO d0 a1).bind fun _ => (getO d0 a1).bind fun x12 => (bU x9 x12).bind fun x13 => if (decide (x13 < (0 : Int))) = true then (some (.next ((IntKind.wrap .i64 ((IntKind.wrap .i64 (shrI .u64 (IntKind.wrap .u64 (IntKind.wrap .i64 (s2 + s3))) (1 : Int))) + (1 : Int))), s3))) else (some (.next (s2, (IntKind.wrap .i64 (shrI .u64 (IntKind.wrap .u64 (IntKind.wrap .i64 (s2 + s3))) (1 : Int))))))) else (some (.stop s2))
noncomputable def d7 (o16 : Int) : (Int × (List aa)) → Option (Step1 (Int × (List aa)) ((List aa))) := fun (s17, s18) =>
  if (decide (s17 < (IntKind.wrap .i64 (o16 - (1 : Int))))) = true then ((inO s18 (IntKind.wrap .i64 (s17 + (1 : Int)))).bind fun _ => (getO s18 (IntKind.wrap .i64 (s17 + (1 : Int)))).bind fun x23 => (inO s18 s17).bind fun _ => (getO s18 s17).bind fun x26 => (inO s18 s17).bind fun _ => (setO s18 s17 x23).bind fun x29 => (inO x29 (IntKind.wrap .i64 (s17 + (1 : Int)))).bind fun _ => (setO x29 (IntKind.wrap .i64 (s17 + (1 : Int))) x26).bind fun x32 => some (.next ((IntKind.wrap .i64 (s17 + (1 : Int))), x32))) else ((some s18).bind fun z33 => some (.stop z33))
noncomputable def d8 (d0 : (List aa)) (a2 : Int) : (Int × Int) → Option (Step1 (Int × Int) (Int)) := fun (s37, s38) =>
  if (decide (s37 < s38)) = true then ((inO d0 a2).bind fun _ => (getO d0 a2).bind fun x44 => (inO d0 (IntKind.wrap .i64 (shrI .u64 (IntKind.wrap .u64 (IntKind.wrap .i64 (s37 + s38))) (1 : Int)))).bind fun _ => (getO d0 (IntKind.wrap .i64 (shrI .u64 (IntKind.wrap .u64 (IntKind.wrap .i64 (s37 + s38))) (1 : Int)))).bind fun x47 => (bU x44 x47).bind fun x48 => if (!(decide (x48 < (0 : Int)))) = true then (some (.next ((IntKind.wrap .i64 ((IntKind.wrap .i64 (shrI .u64 (IntKind.wrap .u64 (IntKind.wrap .i64 (s37 + s38))) (1 : Int))) + (1 : Int))), s38))) else (some (.next (s37, (IntKind.wrap .i64 (shrI .u64 (IntKind.wrap .u64 (IntKind.wrap .i64 (s37 + s38))) (1 : Int))))))) else (some (.stop s37))
noncomputable def d9 (o51 : Int) : (Int × (List aa)) → Option (Step1 (Int × (List aa)) ((List aa))) := fun (s52, s53) =>
  if (decide (s52 > o51)) = true then ((inO s53 (IntKind.wrap .i64 (s52 - (1 : Int)))).bind fun _ => (getO s53 (IntKind.wrap .i64 (s52 - (1 : Int)))).bind fun x58 => (inO s53 s52).bind fun _ => (getO s53 s52).bind fun x61 => (inO s53 s52).bind fun _ => (setO s53 s52 x58).bind fun x64 => (inO x64 (IntKind.wrap .i64 (s52 - (1 : Int)))).bind fun _ => (setO x64 (IntKind.wrap .i64 (s52 - (1 : Int))) x61).bind fun x67 => some (.next ((IntKind.wrap .i64 (s52 - (1 : Int))), x67))) else ((some s53).bind fun z68 => some (.stop z68))
noncomputable def ea (d0 : (List aa)) (a1 : Int) (a3 : Int) (a2 : Int) : (Int × Int) → Option (Step1 (Int × Int) (Int)) := fun (s73, s74) =>
  if (decide (s73 < s74)) = true then ((inO d0 (IntKind.wrap .i64 ((IntKind.wrap .i64 ((IntKind.wrap .i64 ((IntKind.wrap .i64 (shrI .u64 (IntKind.wrap .u64 (IntKind.wrap .i64 (a1 + a3))) (1 : Int))) + a2)) - (1 : Int))) - (IntKind.wrap .i64 (shrI .u64 (IntKind.wrap .u64 (IntKind.wrap .i64 (s73 + s74))) (1 : Int)))))).bind fun _ => (getO d0 (IntKind.wrap .i64 ((IntKind.wrap .i64 ((IntKind.wrap .i64 ((IntKind.wrap .i64 (shrI .u64 (IntKind.wrap .u64 (IntKind.wrap .i64 (a1 + a3))) (1 : Int))) + a2)) - (1 : Int))) - (IntKind.wrap .i64 (shrI .u64 (IntKind.wrap .u64 (IntKind.wrap .i64 (s73 + s74))) (1 : Int)))))).bind fun x80 => (inO d0 (IntKind.wrap .i64 (shrI .u64 (IntKind.wrap .u64 (IntKind.wrap .i64 (s73 + s74))) (1 : Int)))).bind fun _ => (getO d0 (IntKind.wrap .i64 (shrI .u64 (IntKind.wrap .u64 (IntKind.wrap .i64 (s73 + s74))) (1 : Int)))).bind fun x83 => (bU x80 x83).bind fun x84 => if (!(decide (x84 < (0 : Int)))) = true then (some (.next ((IntKind.wrap .i64 ((IntKind.wrap .i64 (shrI .u64 (IntKind.wrap .u64 (IntKind.wrap .i64 (s73 + s74))) (1 : Int))) + (1 : Int))), s74))) else (some (.next (s73, (IntKind.wrap .i64 (shrI .u64 (IntKind.wrap .u64 (IntKind.wrap .i64 (s73 + s74))) (1 : Int))))))) else (some (.stop s73))
noncomputable def bh (a1 : Int) (a3 : Int) (a2 : Int) (o87 : Int) (rc : Int → Int → Int → (List aa) → Option ((List aa))) (j89 : (List aa)) : Option ((List aa)) :=
  if (decide ((IntKind.wrap .i64 (shrI .u64 (IntKind.wrap .u64 (IntKind.wrap .i64 (a1 + a3))) (1 : Int))) < (IntKind.wrap .i64 ((IntKind.wrap .i64 ((IntKind.wrap .i64 (shrI .u64 (IntKind.wrap .u64 (IntKind.wrap .i64 (a1 + a3))) (1 : Int))) + a2)) - o87)))) = true then (if (decide ((IntKind.wrap .i64 ((IntKind.wrap .i64 ((IntKind.wrap .i64 (shrI .u64 (IntKind.wrap .u64 (IntKind.wrap .i64 (a1 + a3))) (1 : Int))) + a2)) - o87)) < a3)) = true then ((rc (IntKind.wrap .i64 (shrI .u64 (IntKind.wrap .u64 (IntKind.wrap .i64 (a1 + a3))) (1 : Int))) (IntKind.wrap .i64 ((IntKind.wrap .i64 ((IntKind.wrap .i64 (shrI .u64 (IntKind.wrap .u64 (IntKind.wrap .i64 (a1 + a3))) (1 : Int))) + a2)) - o87)) a3 j89).bind fun x92 => some x92) else (some j89)) else (some j89)
noncomputable def bi (a1 : Int) (o87 : Int) (a3 : Int) (rc : Int → Int → Int → (List aa) → Option ((List aa))) (a2 : Int) (j88 : (List aa)) : Option ((List aa)) :=
  if (decide (a1 < o87)) = true then (if (decide (o87 < (IntKind.wrap .i64 (shrI .u64 (IntKind.wrap .u64 (IntKind.wrap .i64 (a1 + a3))) (1 : Int))))) = true then ((rc a1 o87 (IntKind.wrap .i64 (shrI .u64 (IntKind.wrap .u64 (IntKind.wrap .i64 (a1 + a3))) (1 : Int))) j88).bind fun x96 => bh a1 a3 a2 o87 rc x96) else (bh a1 a3 a2 o87 rc j88)) else (bh a1 a3 a2 o87 rc j88)
noncomputable def bo (d0 : (List aa)) (a1 : Int) (a3 : Int) (a2 : Int) (rc : Int → Int → Int → (List aa) → Option ((List aa))) (j71 : Int) (j72 : Int) : Option ((List aa)) :=
  (loopO (ea d0 a1 a3 a2) (j71, j72)).bind fun o87 => if (decide (o87 < a2)) = true then (if (decide (a2 < (IntKind.wrap .i64 ((IntKind.wrap .i64 ((IntKind.wrap .i64 (shrI .u64 (IntKind.wrap .u64 (IntKind.wrap .i64 (a1 + a3))) (1 : Int))) + a2)) - o87)))) = true then ((dF o87 a2 (IntKind.wrap .i64 ((IntKind.wrap .i64 ((IntKind.wrap .i64 (shrI .u64 (IntKind.wrap .u64 (IntKind.wrap .i64 (a1 + a3))) (1 : Int))) + a2)) - o87)) d0).bind fun x100 => bi a1 o87 a3 rc a2 x100) else (bi a1 o87 a3 rc a2 d0)) else (bi a1 o87 a3 rc a2 d0)
noncomputable def aZ : Nat → Int → Int → Int → (List aa) → Option ((List aa))
  | 0, _, _, _, _ => none
  | nfu + 1, a1, a2, a3, d0 =>
  if ((IntKind.wrap .i64 (a2 - a1)) == (1 : Int)) = true then ((loopO (d6 d0 a1) (a2, a3)).bind fun o16 => (loopO (d7 o16) (a1, d0)).bind fun o35 => some o35) else (if ((IntKind.wrap .i64 (a3 - a2)) == (1 : Int)) = true then ((loopO (d8 d0 a2) (a1, a2)).bind fun o51 => (loopO (d9 o51) (a2, d0)).bind fun o70 => some o70) else (if (decide (a2 > (IntKind.wrap .i64 (shrI .u64 (IntKind.wrap .u64 (IntKind.wrap .i64 (a1 + a3))) (1 : Int))))) = true then (bo d0 a1 a3 a2 (aZ nfu) (IntKind.wrap .i64 ((IntKind.wrap .i64 ((IntKind.wrap .i64 (shrI .u64 (IntKind.wrap .u64 (IntKind.wrap .i64 (a1 + a3))) (1 : Int))) + a2)) - a3)) (IntKind.wrap .i64 (shrI .u64 (IntKind.wrap .u64 (IntKind.wrap .i64 (a1 + a3))) (1 : Int)))) else (bo d0 a1 a3 a2 (aZ nfu) a1 a2)))
noncomputable def di (a1 : Int) (a2 : Int) (a3 : Int) (d0 : (List aa)) : Option ((List aa)) := recO fun n => aZ n a1 a2 a3 d0
noncomputable def bp (a1 : Int) : (Int × Int × (List aa)) → Option (Step1 (Int × Int × (List aa)) (Int × (List aa))) := fun (s1, s2, s3) =>
  if (decide (s2 ≤ a1)) = true then ((ba s1 s2 s3).bind fun x8 => some (.next (s2, (IntKind.wrap .i64 (s2 + (20 : Int))), x8))) else (some (.stop (s1, s3)))
noncomputable def eC (a1 : Int) (s12 : Int) : (Int × Int × (List aa)) → Option (Step1 (Int × Int × (List aa)) (Int × Int × (List aa))) := fun (s16, s17, s18) =>
  if (decide (s17 ≤ a1)) = true then ((di s16 (IntKind.wrap .i64 (s16 + s12)) s17 s18).bind fun x24 => some (.next (s17, (IntKind.wrap .i64 (s17 + (IntKind.wrap .i64 ((2 : Int) * s12)))), x24))) else (some (.stop (s12, s16, s18)))
noncomputable def cm (a1 : Int) : (Int × (List aa)) → Option (Step1 (Int × (List aa)) ((List aa))) := fun (s12, s13) =>
  if (decide (s12 < a1)) = true then ((loopO (eC a1 s12) ((0 : Int), (IntKind.wrap .i64 ((2 : Int) * s12)), s13)).bind fun o26 => if (decide ((IntKind.wrap .i64 (o26.2.1 + o26.1)) < a1)) = true then ((di o26.2.1 (IntKind.wrap .i64 (o26.2.1 + o26.1)) a1 o26.2.2).bind fun x28 => some (.next ((IntKind.wrap .i64 (o26.1 * (2 : Int))), x28))) else (some (.next ((IntKind.wrap .i64 (o26.1 * (2 : Int))), o26.2.2)))) else ((some s13).bind fun z29 => some (.stop z29))
noncomputable def cJ (a1 : Int) (d0 : (List aa)) : Option ((List aa)) :=
  (loopO (bp a1) ((0 : Int), (20 : Int), d0)).bind fun o10 => (ba o10.1 a1 o10.2).bind fun x11 => (loopO (cm a1) ((20 : Int), x11)).bind fun o31 => some o31
noncomputable def bK (d0 : (List aa)) : Option ((List aa)) :=
  (cJ (d0.length : Int) d0).bind fun x1 => some x1
noncomputable def dB (x2 : (List aa)) (a0 : Int) : (Int × (List (List aa))) → Option (Step1 (Int × (List (List aa))) ((List (List aa)))) := fun (s3, s4) =>
  if (decide (s3 < (x2.length : Int))) = true then ((inO x2 s3).bind fun _ => (getO x2 s3).bind fun x10 => if (s3 == (0 : Int)) = true then ((appO s4 [[]] 24).bind fun x12 => (lastO x12).bind fun x13 => (inO x12 (IntKind.wrap .i64 ((x12.length : Int) - (1 : Int)))).bind fun _ => (atO (IntKind.wrap .i64 ((x12.length : Int) - (1 : Int))) (x12.length - 1)).bind fun _ => (appO x13 [x10] 104).bind fun x16 => (inO x12 (IntKind.wrap .i64 ((x12.length : Int) - (1 : Int)))).bind fun _ => (stO x12.length (IntKind.wrap .i64 ((x12.length : Int) - (1 : Int))) (x12.length - 1)).bind fun _ => some (.next ((IntKind.wrap .i64 (s3 + (1 : Int))), (x12.set (x12.length - 1) x16)))) else ((inO x2 (IntKind.wrap .i64 (s3 - (1 : Int)))).bind fun _ => (getO x2 (IntKind.wrap .i64 (s3 - (1 : Int)))).bind fun x21 => if (decide ((IntKind.wrap .i64 (x10.aI - x21.aI)) > a0)) = true then ((appO s4 [[]] 24).bind fun x23 => (lastO x23).bind fun x24 => (inO x23 (IntKind.wrap .i64 ((x23.length : Int) - (1 : Int)))).bind fun _ => (atO (IntKind.wrap .i64 ((x23.length : Int) - (1 : Int))) (x23.length - 1)).bind fun _ => (appO x24 [x10] 104).bind fun x27 => (inO x23 (IntKind.wrap .i64 ((x23.length : Int) - (1 : Int)))).bind fun _ => (stO x23.length (IntKind.wrap .i64 ((x23.length : Int) - (1 : Int))) (x23.length - 1)).bind fun _ => some (.next ((IntKind.wrap .i64 (s3 + (1 : Int))), (x23.set (x23.length - 1) x27)))) else ((lastO s4).bind fun x30 => (inO s4 (IntKind.wrap .i64 ((s4.length : Int) - (1 : Int)))).bind fun _ => (atO (IntKind.wrap .i64 ((s4.length : Int) - (1 : Int))) (s4.length - 1)).bind fun _ => (appO x30 [x10] 104).bind fun x33 => (inO s4 (IntKind.wrap .i64 ((s4.length : Int) - (1 : Int)))).bind fun _ => (stO s4.length (IntKind.wrap .i64 ((s4.length : Int) - (1 : Int))) (s4.length - 1)).bind fun _ => some (.next ((IntKind.wrap .i64 (s3 + (1 : Int))), (s4.set (s4.length - 1) x33)))))) else (some (.stop s4))
noncomputable def cS (o37 : (List (List aa))) : (Int × (List (List aa))) → Option (Step1 (Int × (List (List aa))) ((List (List aa)))) := fun (s38, s39) =>
  if (decide (s38 < (o37.length : Int))) = true then ((getO s39 s38).bind fun x43 => (inO s39 s38).bind fun _ => (atO s38 (Int.toNat s38)).bind fun _ => (sortO bu x43).bind fun x46 => some (.next ((IntKind.wrap .i64 (s38 + (1 : Int))), (s39.set (Int.toNat s38) x46)))) else (some (.stop s39))
noncomputable def cC (a0 : Int) (a1 : (List aa)) : Option ((List (List aa))) :=
  (jk a1).bind fun x1 => (bK x1).bind fun x2 => (loopO (dB x2 a0) ((0 : Int), ([] : (List (List aa))))).bind fun o37 => (loopO (cS o37) ((0 : Int), o37)).bind fun o48 => some o48
noncomputable def bZ (a0 : Int) (a1 : (List aa)) : Option ((List (List aa)) × Int) :=
  if (decide (a0 < (0 : Int))) = true then (some (([] : (List (List aa))), (2 : Int))) else (if (decide (a0 > (1099511627776 : Int))) = true then (some (([] : (List (List aa))), (2 : Int))) else ((dC a1).bind fun x3 => if (!x3) = true then (some (([] : (List (List aa))), (1 : Int))) else ((cC a0 a1).bind fun x5 => some (x5, (0 : Int)))))
noncomputable def fR (a0 : Int) : Option (aa) :=
  (fw (0 : Int)).bind fun x1 => some (aa.mk x1 a0 a0 a0 0 0)
noncomputable def eO (s2 : Int) (d0 : (List ag)) : (Int × Int × (List ag)) → Option (Step1 (Int × Int × (List ag)) (Int × (List ag))) := fun (s13, s14, s15) =>
  (lenV s15.length (0 + (s2 : Int).toNat) (0 + ((d0.length : Int) : Int).toNat)).bind fun x19 => if (decide (s14 < x19)) = true then ((inV s15.length (0 + (s2 : Int).toNat) (0 + ((d0.length : Int) : Int).toNat) s14).bind fun _ => (getO s15 (((0 + (s2 : Int).toNat) + (s14 : Int).toNat : Nat) : Int)).bind fun x22 => (inV s15.length (0 + (s2 : Int).toNat) (0 + ((d0.length : Int) : Int).toNat) (IntKind.wrap .i64 (s14 - (1 : Int)))).bind fun _ => (getO s15 (((0 + (s2 : Int).toNat) + ((IntKind.wrap .i64 (s14 - (1 : Int))) : Int).toNat : Nat) : Int)).bind fun x24 => if (!((x22.aB == x24.aB) && ((x22.aA == x24.aA) && ((x22.aw == x24.aw) && ((x22.aC == x24.aC) && true))))) = true then ((inV s15.length (0 + (s2 : Int).toNat) (0 + ((d0.length : Int) : Int).toNat) s14).bind fun _ => (getO s15 (((0 + (s2 : Int).toNat) + (s14 : Int).toNat : Nat) : Int)).bind fun x27 => (inO s15 s13).bind fun _ => (setO s15 s13 x27).bind fun x30 => some (.next ((IntKind.wrap .i64 (s13 + (1 : Int))), (IntKind.wrap .i64 (s14 + (1 : Int))), x30))) else (some (.next (s13, (IntKind.wrap .i64 (s14 + (1 : Int))), s15)))) else (some (.stop (s13, s15)))
noncomputable def de (d0 : (List ag)) : Int → Option (Step1 (Int) ((Unit) ⊕ ((List ag)))) := fun s2 =>
  if (decide (s2 < (d0.length : Int))) = true then ((inO d0 s2).bind fun _ => (getO d0 s2).bind fun x7 => (inO d0 (IntKind.wrap .i64 (s2 - (1 : Int)))).bind fun _ => (getO d0 (IntKind.wrap .i64 (s2 - (1 : Int)))).bind fun x10 => if ((x7.aB == x10.aB) && ((x7.aA == x10.aA) && ((x7.aw == x10.aw) && ((x7.aC == x10.aC) && true)))) = true then ((subO d0.length s2 (d0.length : Int)).bind fun _ => (loopO (eO s2 d0) (s2, (1 : Int), d0)).bind fun o32 => (subO o32.2.length o32.1 (o32.2.length : Int)).bind fun _ => (viewO o32.2.length (0 + (o32.1 : Int).toNat) (0 + ((o32.2.length : Int) : Int).toNat)).bind fun _ => (subO (clearL o32.2 (0 + (o32.1 : Int).toNat) ((0 + ((o32.2.length : Int) : Int).toNat) - (0 + (o32.1 : Int).toNat)) (ag.mk [] [] [] [])).length (0 : Int) o32.1).bind fun _ => (partO (clearL o32.2 (0 + (o32.1 : Int).toNat) ((0 + ((o32.2.length : Int) : Int).toNat) - (0 + (o32.1 : Int).toNat)) (ag.mk [] [] [] [])) (0 + (0 : Int).toNat) (0 + (o32.1 : Int).toNat)).bind fun x37 => some (.stop (.inr x37))) else (some (.next (IntKind.wrap .i64 (s2 + (1 : Int)))))) else (some (.stop (.inl ())))
noncomputable def cp (d0 : (List ag)) : Option ((List ag)) :=
  if (decide ((d0.length : Int) < (2 : Int))) = true then (some d0) else ((loopO (de d0) (1 : Int)).bind fun o39 => match o39 with | .inl _ => (some d0) | .inr r41 => (some r41))
noncomputable def l7 (a0 : (List ag)) : Option ((List ag)) :=
  (cloneO 64 a0).bind fun x1 => (sortO ca x1).bind fun x2 => (cp x2).bind fun x3 => some x3
noncomputable def sP (a0 : aj) : Option (Bool) :=
  some (decide (a0.aK < a0.fTo))
noncomputable def iq (a0 : aj) : Option (Bool) :=
  (sP a0).bind fun x1 => some (!x1)
noncomputable def bR (d0 : (List aj)) : Int → Option (Step1 (Int) ((Unit) ⊕ (Int × (List aj)))) := fun s1 =>
  if (decide (s1 < (d0.length : Int))) = true then ((inO d0 s1).bind fun _ => (getO d0 s1).bind fun x6 => (iq x6).bind fun x7 => if x7 = true then (some (.stop (.inr (s1, d0)))) else (some (.next (IntKind.wrap .i64 (s1 + (1 : Int)))))) else (some (.stop (.inl ())))
noncomputable def dt (d0 : (List aj)) : Option (Int × (List aj)) :=
  (loopO (bR d0) (0 : Int)).bind fun o10 => match o10 with | .inl _ => (some ((-1 : Int), d0)) | .inr r12 => (some r12)
noncomputable def cE  : (Int × Int × (List aj)) → Option (Step1 (Int × Int × (List aj)) (Int × (List aj))) := fun (s3, s4, s5) =>
  if (decide (s4 < (s5.length : Int))) = true then ((inO s5 s4).bind fun _ => (getO s5 s4).bind fun x12 => (iq x12).bind fun x13 => if (!x13) = true then ((inO s5 s3).bind fun _ => (setO s5 s3 x12).bind fun x17 => some (.next ((IntKind.wrap .i64 (s3 + (1 : Int))), (IntKind.wrap .i64 (s4 + (1 : Int))), x17))) else (some (.next (s3, (IntKind.wrap .i64 (s4 + (1 : Int))), s5)))) else (some (.stop (s3, s5)))
noncomputable def bL (d0 : (List aj)) : Option ((List aj)) :=
  (dt d0).bind fun x1 => if (x1.1 == (-1 : Int)) = true then (some x1.2) else ((loopO (cE) (x1.1, (IntKind.wrap .i64 (x1.1 + (1 : Int))), x1.2)).bind fun o19 => (subO o19.2.length o19.1 (o19.2.length : Int)).bind fun _ => (viewO o19.2.length (0 + (o19.1 : Int).toNat) (0 + ((o19.2.length : Int) : Int).toNat)).bind fun _ => (subO (clearL o19.2 (0 + (o19.1 : Int).toNat) ((0 + ((o19.2.length : Int) : Int).toNat) - (0 + (o19.1 : Int).toNat)) (aj.mk 0 0)).length (0 : Int) o19.1).bind fun _ => some ((clearL o19.2 (0 + (o19.1 : Int).toNat) ((0 + ((o19.2.length : Int) : Int).toNat) - (0 + (o19.1 : Int).toNat)) (aj.mk 0 0)).take (o19.1 : Int).toNat))
noncomputable def bY (a0 : aj) (a1 : aj) : Option (Int) :=
  (bA a0.aK a1.aK).bind fun x1 => some x1
noncomputable def gN (x3 : (List aj)) : (Int × (List aj)) → Option (Step1 (Int × (List aj)) ((List aj))) := fun (s4, s5) =>
  if (decide (s4 < (x3.length : Int))) = true then ((inO x3 s4).bind fun _ => (getO x3 s4).bind fun x11 => if (decide ((s5.length : Int) > (0 : Int))) = true then ((inO s5 (IntKind.wrap .i64 ((s5.length : Int) - (1 : Int)))).bind fun _ => (getO s5 (IntKind.wrap .i64 ((s5.length : Int) - (1 : Int)))).bind fun x15 => if (decide (x11.aK ≤ x15.fTo)) = true then ((inO s5 (IntKind.wrap .i64 ((s5.length : Int) - (1 : Int)))).bind fun _ => (getO s5 (IntKind.wrap .i64 ((s5.length : Int) - (1 : Int)))).bind fun x19 => (inO s5 (IntKind.wrap .i64 ((s5.length : Int) - (1 : Int)))).bind fun _ => (modO s5 (IntKind.wrap .i64 ((s5.length : Int) - (1 : Int))) (fun (z23 : aj) => (aj.mk z23.aK (if x11.fTo > x19.fTo then x11.fTo else x19.fTo)))).bind fun x22 => some (.next ((IntKind.wrap .i64 (s4 + (1 : Int))), x22))) else ((appO s5 [x11] 16).bind fun x24 => some (.next ((IntKind.wrap .i64 (s4 + (1 : Int))), x24)))) else ((appO s5 [x11] 16).bind fun x25 => some (.next ((IntKind.wrap .i64 (s4 + (1 : Int))), x25)))) else (some (.stop s5))
noncomputable def gw (a0 : (List aj)) : Option ((List aj)) :=
  (cloneO 16 a0).bind fun x1 => (bL x1).bind fun x2 => (sortO bY x2).bind fun x3 => (loopO (gN x3) ((0 : Int), ([] : (List aj)))).bind fun o27 => some o27
noncomputable def eV (a0 : (List aa)) : (Int × (List (ag × (List aj))) × (List ag)) → Option (Step1 (Int × (List (ag × (List aj))) × (List ag)) ((List (ag × (List aj))) × (List ag))) := fun (s1, s2, s3) =>
  if (decide (s1 < (a0.length : Int))) = true then ((getO a0 s1).bind fun x8 => (eL x8).bind fun x9 => if (!x9) = true then (some (.next ((IntKind.wrap .i64 (s1 + (1 : Int))), s2, s3))) else ((appO s3 [x8.ak] 64).bind fun x11 => (appO (mGet si x8.ak [] s2) [(aj.mk x8.aM (IntKind.wrap .i64 (x8.aM + (1 : Int))))] 16).bind fun x12 => some (.next ((IntKind.wrap .i64 (s1 + (1 : Int))), (mPut si x8.ak x12 s2), x11)))) else (some (.stop (s2, s3)))
noncomputable def eW (x15 : (List ag)) (o14 : (List (ag × (List aj))) × (List ag)) : (Int × (List az)) → Option (Step1 (Int × (List az)) ((List az))) := fun (s17, s18) =>
  if (decide (s17 < (x15.length : Int))) = true then ((getO x15 s17).bind fun x22 => (gw (mGet si x22 ([] : (List aj)) o14.1)).bind fun x23 => (appO s18 [(az.mk x22 x23)] 88).bind fun x24 => some (.next ((IntKind.wrap .i64 (s17 + (1 : Int))), x24))) else (some (.stop s18))
noncomputable def dp (a0 : (List aa)) : Option ((List az)) :=
  (loopO (eV a0) ((0 : Int), ([] : List (ag × (List aj))), ([] : (List ag)))).bind fun o14 => (l7 o14.2).bind fun x15 => (loopO (eW x15 o14) ((0 : Int), ([] : (List az)))).bind fun o26 => some o26
noncomputable def ko (a0 : (List az)) (s2 : Int) (a1 : (List az)) : Int → Option (Step1 (Int) ((Int) ⊕ (Bool))) := fun s11 =>
  (getO a0 s2).bind fun x14 => if (decide (s11 < (x14.cj.length : Int))) = true then ((getO a0 s2).bind fun x16 => (getO x16.cj s11).bind fun x17 => (getO a1 s2).bind fun x18 => (getO x18.cj s11).bind fun x19 => if (!((x17.aK == x19.aK) && ((x17.fTo == x19.fTo) && true))) = true then (some (.stop (.inr false))) else (some (.next (IntKind.wrap .i64 (s11 + (1 : Int)))))) else (some (.stop (.inl s2)))
noncomputable def kq (a0 : (List az)) (a1 : (List az)) : Int → Option (Step1 (Int) ((Unit) ⊕ (Bool))) := fun s2 =>
  if (decide (s2 < (a0.length : Int))) = true then ((getO a0 s2).bind fun x5 => (getO a1 s2).bind fun x6 => if (!((x5.ak.aB == x6.ak.aB) && ((x5.ak.aA == x6.ak.aA) && ((x5.ak.aw == x6.ak.aw) && ((x5.ak.aC == x6.ak.aC) && true))))) = true then (some (.stop (.inr false))) else ((getO a0 s2).bind fun x8 => (getO a1 s2).bind fun x9 => if ((x8.cj.length : Int) != (x9.cj.length : Int)) = true then (some (.stop (.inr false))) else ((loopO (ko a0 s2 a1) (0 : Int)).bind fun o22 => match o22 with | .inl y23 => (some (.next (IntKind.wrap .i64 (y23 + (1 : Int))))) | .inr r24 => (some (.stop (.inr r24)))))) else (some (.stop (.inl ())))
noncomputable def eA (a0 : (List az)) (a1 : (List az)) : Option (Bool) :=
  if ((a0.length : Int) != (a1.length : Int)) = true then (some false) else ((loopO (kq a0 a1) (0 : Int)).bind fun o26 => match o26 with | .inl _ => (some true) | .inr r28 => (some r28))
noncomputable def fx  : Option (Bool) :=
  (fR (16 : Int)).bind fun x1 => (fR (0 : Int)).bind fun x2 => (fR (40 : Int)).bind fun x3 => (fR (8 : Int)).bind fun x4 => (bZ (10 : Int) [x1, x2, x3, x4]).bind fun x5 => (fR (4 : Int)).bind fun x6 => (fR (5 : Int)).bind fun x7 => (fR (9 : Int)).bind fun x8 => (dp [x6, x7, x8]).bind fun x9 => if (x5.2 == (0 : Int)) = true then (if ((x5.1.length : Int) == (2 : Int)) = true then ((getO x5.1 (0 : Int)).bind fun x12 => if ((x12.length : Int) == (3 : Int)) = true then ((getO x5.1 (1 : Int)).bind fun x14 => (getO x14 (0 : Int)).bind fun x15 => (fR (40 : Int)).bind fun x16 => if (((x15.ak.aB == x16.ak.aB) && ((x15.ak.aA == x16.ak.aA) && ((x15.ak.aw == x16.ak.aw) && ((x15.ak.aC == x16.ak.aC) && true)))) && ((x15.aM == x16.aM) && ((x15.aI == x16.aI) && ((x15.aX == x16.aX) && ((x15.aH == x16.aH) && ((x15.aJ == x16.aJ) && true)))))) = true then ((fw (0 : Int)).bind fun x18 => (eA x9 [(az.mk x18 [(aj.mk 4 6), (aj.mk 9 10)])]).bind fun x19 => some x19) else (some false)) else (some false)) else (some false)) else (some false)
noncomputable def lk (a1 : ae) : (Int × (List Int) × Int × (List ac)) → Option (Step1 (Int × (List Int) × Int × (List ac)) ((List Int) × Int × (List ac))) := fun (s1, s2, s3, s4) =>
  if (decide (s1 < (a1.ap.length : Int))) = true then ((getO a1.ap s1).bind fun x10 => (appO ([] : List ai) x10.aP 80).bind fun x11 => (c6 (x11.length : Int) (ah.mk s2 s3)).bind fun x12 => (c6 (10 : Int) x12.2).bind fun x13 => if (x13.1 == (0 : Int)) = true then ((mb (60 : Int) x13.2).bind fun x15 => (inO x11 x12.1).bind fun _ => (modO x11 x12.1 (fun (z19 : ai) => (ai.mk z19.aK z19.fTo z19.bI x15.1 z19.aS))).bind fun x18 => (appO s4 [(ac.mk x10.ak x18)] 88).bind fun x20 => some (.next ((IntKind.wrap .i64 (s1 + (1 : Int))), x15.2.fL, x15.2.fAt, x20))) else (if (x13.1 == (1 : Int)) = true then ((ga x13.2).bind fun x22 => (inO x11 x12.1).bind fun _ => (modO x11 x12.1 (fun (z26 : ai) => (ai.mk z26.aK z26.fTo z26.bI z26.aF x22.1))).bind fun x25 => (appO s4 [(ac.mk x10.ak x25)] 88).bind fun x27 => some (.next ((IntKind.wrap .i64 (s1 + (1 : Int))), x22.2.fL, x22.2.fAt, x27))) else (if (x13.1 == (2 : Int)) = true then ((inO x11 (IntKind.wrap .i64 ((x11.length : Int) - (1 : Int)))).bind fun _ => (getO x11 (IntKind.wrap .i64 ((x11.length : Int) - (1 : Int)))).bind fun x31 => (c6 (4000 : Int) x13.2).bind fun x32 => (dm [1, 1000] x32.2).bind fun x33 => (inO x11 (IntKind.wrap .i64 ((x11.length : Int) - (1 : Int)))).bind fun _ => (modO x11 (IntKind.wrap .i64 ((x11.length : Int) - (1 : Int))) (fun (z37 : ai) => (ai.mk z37.aK (IntKind.wrap .i64 ((IntKind.wrap .i64 (x31.aK + (1 : Int))) + (IntKind.wrap .i64 (x32.1 * x33.1)))) z37.bI z37.aF z37.aS))).bind fun x36 => (appO s4 [(ac.mk x10.ak x36)] 88).bind fun x38 => some (.next ((IntKind.wrap .i64 (s1 + (1 : Int))), x33.2.fL, x33.2.fAt, x38))) else (if (x13.1 == (3 : Int)) = true then (some (.next ((IntKind.wrap .i64 (s1 + (1 : Int))), x13.2.fL, x13.2.fAt, s4))) else (if (x13.1 == (4 : Int)) = true then ((c6 (2 : Int) x13.2).bind fun x41 => (inO x11 x12.1).bind fun _ => (modO x11 x12.1 (fun (z45 : ai) => (ai.mk z45.aK z45.fTo (aU.mk (IntKind.wrap .i64 ((50 : Int) + x41.1)) z45.bI.aQ) z45.aF z45.aS))).bind fun x44 => (inO x44 x12.1).bind fun _ => (modO x44 x12.1 (fun (z49 : ai) => (ai.mk z49.aK z49.fTo (aU.mk z49.bI.aW 1) z49.aF z49.aS))).bind fun x48 => (appO s4 [(ac.mk x10.ak x48)] 88).bind fun x50 => some (.next ((IntKind.wrap .i64 (s1 + (1 : Int))), x41.2.fL, x41.2.fAt, x50))) else ((appO s4 [(ac.mk x10.ak x11)] 88).bind fun x51 => some (.next ((IntKind.wrap .i64 (s1 + (1 : Int))), x13.2.fL, x13.2.fAt, x51)))))))) else (some (.stop (s2, s3, s4)))
noncomputable def ia (a1 : ae) (d0 : ah) : Option (ae × ah) :=
  (loopO (lk a1) ((0 : Int), d0.fL, d0.fAt, ([] : (List ac)))).bind fun o53 => some ((ae.mk o53.2.2), (ah.mk o53.1 o53.2.1))
noncomputable def zc (a0 : Int) (a1 : Int) (a2 : Int) : Option (Bool) :=
  if (decide (a0 ≥ a1)) = true then (some (decide (a0 ≤ a2))) else (some false)
noncomputable def wR  : (Int × Int) → Option (Step1 (Int × Int) (Int)) := fun (s1, s2) =>
  if (s2 != (0 : Int)) = true then ((remO s1 s2).bind fun x6 => some (.next (s2, x6))) else (some (.stop s1))
noncomputable def zb (a0 : Int) (a1 : Int) : Option (Int) :=
  (loopO (wR) (a0, a1)).bind fun o8 => some o8
noncomputable def tk (a0 : aU) : Option (Bool) :=
  (zc a0.aW (1 : Int) (4096 : Int)).bind fun x1 => if x1 = true then ((zc a0.aQ (1 : Int) (4096 : Int)).bind fun x3 => if x3 = true then ((zb a0.aW a0.aQ).bind fun x5 => some (x5 == (1 : Int))) else (some false)) else (some false)
noncomputable def cN (a0 : Int) (a1 : Int) (a2 : Int) : Option (Bool) :=
  if (decide (a0 ≥ a1)) = true then (some (decide (a0 ≤ a2))) else (some false)
noncomputable def gT (a0 : Int) : Option (Bool) :=
  (cN a0 (-1048576 : Int) (1048576 : Int)).bind fun x1 => some (!x1)
noncomputable def cZ (a0 : (List Int)) : Int → Option (Step1 (Int) ((Unit) ⊕ (Int))) := fun s1 =>
  if (decide (s1 < (a0.length : Int))) = true then ((getO a0 s1).bind fun x4 => (gT x4).bind fun x5 => if x5 = true then (some (.stop (.inr s1))) else (some (.next (IntKind.wrap .i64 (s1 + (1 : Int)))))) else (some (.stop (.inl ())))
noncomputable def dP (a0 : (List Int)) : Option (Int) :=
  (loopO (cZ a0) (0 : Int)).bind fun o8 => match o8 with | .inl _ => (some (-1 : Int)) | .inr r10 => (some r10)
noncomputable def cY (a0 : (List Int)) : Option (Bool) :=
  (dP a0).bind fun x1 => some (decide (x1 ≥ (0 : Int)))
noncomputable def cX (a0 : (List Int)) : Option (Bool) :=
  (cY a0).bind fun x1 => some (!x1)
noncomputable def sb (a0 : (List Int)) : (Int × Int) → Option (Step1 (Int × Int) (Int)) := fun (s1, s2) =>
  if (decide (s2 < (a0.length : Int))) = true then ((getO a0 s2).bind fun x6 => some (.next ((IntKind.wrap .i64 (s1 + x6)), (IntKind.wrap .i64 (s2 + (1 : Int)))))) else (some (.stop s1))
noncomputable def mw (a0 : (List Int)) : Option (Int) :=
  (loopO (sb a0) ((0 : Int), (0 : Int))).bind fun o8 => some o8
noncomputable def dS (a0 : ar) : Option (Bool) :=
  if ((a0.br.length : Int) == (0 : Int)) = true then (if (a0.bg == (0 : Int)) = true then (if (a0.cb == (0 : Int)) = true then (if (a0.bz == (0 : Int)) = true then (if ((a0.aW.a0 == a0.aW.a0) && ((a0.aW.a1 == 0) && ((a0.aW.a2 == 0) && true))) = true then (if ((a0.aQ.a0 == a0.aQ.a0) && ((a0.aQ.a1 == 0) && ((a0.aQ.a2 == 0) && true))) = true then ((cN a0.aW.a0 (1 : Int) (1048576 : Int)).bind fun x7 => if x7 = true then ((cN a0.aQ.a0 (1 : Int) (1048576 : Int)).bind fun x9 => some x9) else (some false)) else (some false)) else (some false)) else (some false)) else (if (a0.cb == (1 : Int)) = true then (if (a0.bz == (0 : Int)) = true then ((cX [a0.aW.a0, a0.aW.a1, a0.aW.a2]).bind fun x12 => if x12 = true then ((cX [a0.aQ.a0, a0.aQ.a1, a0.aQ.a2]).bind fun x14 => if x14 = true then (some (a0.aQ.a0 != (0 : Int))) else (some false)) else (some false)) else (some false)) else (if (a0.cb == (2 : Int)) = true then (if ((a0.aW.a0 == 0) && ((a0.aW.a1 == 0) && ((a0.aW.a2 == 0) && true))) = true then (if ((a0.aQ.a0 == 0) && ((a0.aQ.a1 == 0) && ((a0.aQ.a2 == 0) && true))) = true then ((cN (a0.br.length : Int) (1 : Int) (128 : Int)).bind fun x19 => if x19 = true then ((cX a0.br).bind fun x21 => if x21 = true then ((mw a0.br).bind fun x23 => if (x23 != (0 : Int)) = true then ((cN a0.bg (1 : Int) (64 : Int)).bind fun x25 => if x25 = true then ((cN a0.bz (0 : Int) (40 : Int)).bind fun x27 => some x27) else (some false)) else (some false)) else (some false)) else (some false)) else (some false)) else (some false)) else (some false)))) else (if (a0.cb == (0 : Int)) = true then (some false) else (if (a0.cb == (1 : Int)) = true then (some false) else (if (a0.cb == (2 : Int)) = true then (if ((a0.aW.a0 == 0) && ((a0.aW.a1 == 0) && ((a0.aW.a2 == 0) && true))) = true then (if ((a0.aQ.a0 == 0) && ((a0.aQ.a1 == 0) && ((a0.aQ.a2 == 0) && true))) = true then ((cN (a0.br.length : Int) (1 : Int) (128 : Int)).bind fun x33 => if x33 = true then ((cX a0.br).bind fun x35 => if x35 = true then ((mw a0.br).bind fun x37 => if (x37 != (0 : Int)) = true then ((cN a0.bg (1 : Int) (64 : Int)).bind fun x39 => if x39 = true then ((cN a0.bz (0 : Int) (40 : Int)).bind fun x41 => some x41) else (some false)) else (some false)) else (some false)) else (some false)) else (some false)) else (some false)) else (some false))))) else (if (a0.cb == (0 : Int)) = true then (some false) else (if (a0.cb == (1 : Int)) = true then (some false) else (if (a0.cb == (2 : Int)) = true then (if ((a0.aW.a0 == 0) && ((a0.aW.a1 == 0) && ((a0.aW.a2 == 0) && true))) = true then (if ((a0.aQ.a0 == 0) && ((a0.aQ.a1 == 0) && ((a0.aQ.a2 == 0) && true))) = true then ((cN (a0.br.length : Int) (1 : Int) (128 : Int)).bind fun x47 => if x47 = true then ((cX a0.br).bind fun x49 => if x49 = true then ((mw a0.br).bind fun x51 => if (x51 != (0 : Int)) = true then ((cN a0.bg (1 : Int) (64 : Int)).bind fun x53 => if x53 = true then ((cN a0.bz (0 : Int) (40 : Int)).bind fun x55 => some x55) else (some false)) else (some false)) else (some false)) else (some false)) else (some false)) else (some false)) else (some false))))
noncomputable def gR (a0 : ar) : Option (Bool) :=
  (dS a0).bind fun x1 => some (!x1)
noncomputable def cI (a0 : (List ar)) : Int → Option (Step1 (Int) ((Unit) ⊕ (Int))) := fun s1 =>
  if (decide (s1 < (a0.length : Int))) = true then ((getO a0 s1).bind fun x4 => (gR x4).bind fun x5 => if x5 = true then (some (.stop (.inr s1))) else (some (.next (IntKind.wrap .i64 (s1 + (1 : Int)))))) else (some (.stop (.inl ())))
noncomputable def dh (a0 : (List ar)) : Option (Int) :=
  (loopO (cI a0) (0 : Int)).bind fun o8 => match o8 with | .inl _ => (some (-1 : Int)) | .inr r10 => (some r10)
noncomputable def ci (a0 : (List ar)) : Option (Bool) :=
  (dh a0).bind fun x1 => some (decide (x1 ≥ (0 : Int)))
noncomputable def iE (a0 : (List ar)) : (Int × Int) → Option (Step1 (Int × Int) ((Int) ⊕ (Int))) := fun (s1, s2) =>
  if (decide (s2 < (a0.length : Int))) = true then ((getO a0 s2).bind fun x6 => if (x6.cb != (2 : Int)) = true then (some (.next (s1, (IntKind.wrap .i64 (s2 + (1 : Int)))))) else (if (decide ((IntKind.wrap .i64 (s1 * x6.bg)) > (64 : Int))) = true then (some (.stop (.inr (0 : Int)))) else (some (.next ((IntKind.wrap .i64 (s1 * x6.bg)), (IntKind.wrap .i64 (s2 + (1 : Int)))))))) else (some (.stop (.inl s1)))
noncomputable def jd (a0 : (List ar)) : Option (Int) :=
  (loopO (iE a0) ((1 : Int), (0 : Int))).bind fun o10 => match o10 with | .inl y11 => (some y11) | .inr r12 => (some r12)
noncomputable def jL (a0 : aD) : Option (Bool) :=
  if (decide ((a0.aO.length : Int) > (8 : Int))) = true then (some false) else ((ci a0.aO).bind fun x2 => if x2 = true then (some false) else ((jd a0.aO).bind fun x4 => some (decide (x4 > (0 : Int)))))
noncomputable def gc (a0 : Int) (a1 : Int) (a2 : Int) : Option (Bool) :=
  if (decide (a0 ≥ a1)) = true then (some (decide (a0 ≤ a2))) else (some false)
noncomputable def eK (a0 : ai) : Option (Bool) :=
  if (decide (a0.aK ≥ (0 : Int))) = true then (if (decide (a0.aK < a0.fTo)) = true then (if (decide (a0.fTo ≤ (9007199254740992 : Int))) = true then ((tk a0.bI).bind fun x4 => if x4 = true then ((jL a0.aS).bind fun x6 => if x6 = true then ((gc a0.aF.fX (-1048576 : Int) (1048576 : Int)).bind fun x8 => if x8 = true then ((gc a0.aF.fY (-1048576 : Int) (1048576 : Int)).bind fun x10 => if x10 = true then ((gc a0.aF.fZ (-16384 : Int) (1048576 : Int)).bind fun x12 => some x12) else (some false)) else (some false)) else (some false)) else (some false)) else (some false)) else (some false)) else (some false)
noncomputable def gm (a0 : (List ai)) : Int → Option (Step1 (Int) ((Unit) ⊕ (Bool))) := fun s1 =>
  if (decide (s1 < (a0.length : Int))) = true then ((getO a0 s1).bind fun x4 => (eK x4).bind fun x5 => if (!x5) = true then (some (.stop (.inr false))) else (if (decide (s1 > (0 : Int))) = true then ((getO a0 (IntKind.wrap .i64 (s1 - (1 : Int)))).bind fun x8 => if (decide (x4.aK < x8.fTo)) = true then (some (.stop (.inr false))) else (some (.next (IntKind.wrap .i64 (s1 + (1 : Int)))))) else (some (.next (IntKind.wrap .i64 (s1 + (1 : Int))))))) else (some (.stop (.inl ())))
noncomputable def io (a0 : (List ai)) : Option (Bool) :=
  (loopO (gm a0) (0 : Int)).bind fun o11 => match o11 with | .inl _ => ((gc (a0.length : Int) (1 : Int) (32 : Int)).bind fun x14 => some x14) | .inr r13 => (some r13)
noncomputable def gQ (a0 : ae) : Int → Option (Step1 (Int) ((Unit) ⊕ (Bool))) := fun s1 =>
  if (decide (s1 < (a0.ap.length : Int))) = true then ((getO a0.ap s1).bind fun x4 => (ks x4.ak).bind fun x5 => if (!x5) = true then (some (.stop (.inr false))) else ((io x4.aP).bind fun x7 => if (!x7) = true then (some (.stop (.inr false))) else (if (decide (s1 > (0 : Int))) = true then ((getO a0.ap (IntKind.wrap .i64 (s1 - (1 : Int)))).bind fun x10 => (ca x10.ak x4.ak).bind fun x11 => if (decide (x11 ≥ (0 : Int))) = true then (some (.stop (.inr false))) else (some (.next (IntKind.wrap .i64 (s1 + (1 : Int)))))) else (some (.next (IntKind.wrap .i64 (s1 + (1 : Int)))))))) else (some (.stop (.inl ())))
noncomputable def bP (a0 : ae) : Option (Bool) :=
  (loopO (gQ a0) (0 : Int)).bind fun o14 => match o14 with | .inl _ => (some (decide ((a0.ap.length : Int) ≤ (128 : Int)))) | .inr r16 => (some r16)
noncomputable def dD (j2 : (List ac)) : Option ((List ac)) :=
  some j2
noncomputable def fr (a0 : Int) : Option ((List ac)) :=
  if (decide (a0 < (0 : Int))) = true then (none) else (if (decide ((IntKind.wrap .i64 (a0 - (0 : Int))) > (0 : Int))) = true then ((mkZ (IntKind.wrap .i64 (a0 - (0 : Int))) (ac.mk (ag.mk [] [] [] []) []) 88).bind fun x5 => (subO x5.length (0 : Int) (0 : Int)).bind fun _ => dD (x5.take (0 : Int).toNat)) else (dD ([] : List ac)))
noncomputable def cd (a0 : (List (List ac))) : (Int × Int) → Option (Step1 (Int × Int) (Int)) := fun (s1, s2) =>
  if (decide (s2 < (a0.length : Int))) = true then ((getO a0 s2).bind fun x6 => if (decide ((IntKind.wrap .i64 (s1 + (x6.length : Int))) < (0 : Int))) = true then (none) else (some (.next ((IntKind.wrap .i64 (s1 + (x6.length : Int))), (IntKind.wrap .i64 (s2 + (1 : Int))))))) else (some (.stop s1))
noncomputable def b8 (a0 : (List (List ac))) : (Int × (List ac)) → Option (Step1 (Int × (List ac)) ((List ac))) := fun (s11, s12) =>
  if (decide (s11 < (a0.length : Int))) = true then ((getO a0 s11).bind fun x16 => (appO s12 x16 88).bind fun x17 => some (.next ((IntKind.wrap .i64 (s11 + (1 : Int))), x17))) else (some (.stop s12))
noncomputable def ef (a0 : (List (List ac))) : Option ((List ac)) :=
  (loopO (cd a0) ((0 : Int), (0 : Int))).bind fun o9 => (fr o9).bind fun x10 => (loopO (b8 a0) ((0 : Int), x10)).bind fun o19 => some o19
noncomputable def eJ (x1 : (List ar)) : (Int × (List ar)) → Option (Step1 (Int × (List ar)) ((List ar))) := fun (s2, s3) =>
  if (decide (s2 < (x1.length : Int))) = true then ((inO s3 s2).bind fun _ => (getO s3 s2).bind fun x9 => (cloneO 8 x9.br).bind fun x10 => (inO s3 s2).bind fun _ => (modO s3 s2 (fun (z14 : ar) => (ar.mk z14.cb z14.aW z14.aQ x10 z14.bg z14.bz))).bind fun x13 => some (.next ((IntKind.wrap .i64 (s2 + (1 : Int))), x13))) else (some (.stop s3))
noncomputable def fp (a0 : ai) : Option (ai) :=
  (cloneO 96 a0.aS.aO).bind fun x1 => (loopO (eJ x1) ((0 : Int), x1)).bind fun o16 => some (ai.mk a0.aK a0.fTo a0.bI a0.aF (aD.mk o16))
noncomputable def gl (x1 : (List ai)) : (Int × (List ai)) → Option (Step1 (Int × (List ai)) ((List ai))) := fun (s2, s3) =>
  if (decide (s2 < (x1.length : Int))) = true then ((inO s3 s2).bind fun _ => (getO s3 s2).bind fun x9 => (fp x9).bind fun x10 => (inO s3 s2).bind fun _ => (setO s3 s2 x10).bind fun x13 => some (.next ((IntKind.wrap .i64 (s2 + (1 : Int))), x13))) else (some (.stop s3))
noncomputable def im (a0 : ac) : Option (ac) :=
  (cloneO 80 a0.aP).bind fun x1 => (loopO (gl x1) ((0 : Int), x1)).bind fun o15 => some (ac.mk a0.ak o15)
noncomputable def ji (a0 : ae) (a1 : ag) : Int → Option (Step1 (Int) ((Unit) ⊕ (ac × Bool))) := fun s1 =>
  if (decide (s1 < (a0.ap.length : Int))) = true then ((getO a0.ap s1).bind fun x4 => if ((x4.ak.aB == a1.aB) && ((x4.ak.aA == a1.aA) && ((x4.ak.aw == a1.aw) && ((x4.ak.aC == a1.aC) && true)))) = true then ((im x4).bind fun x6 => some (.stop (.inr (x6, true)))) else (some (.next (IntKind.wrap .i64 (s1 + (1 : Int)))))) else (some (.stop (.inl ())))
noncomputable def e9 (a0 : ae) (a1 : ag) : Option (ac × Bool) :=
  (loopO (ji a0 a1) (0 : Int)).bind fun o8 => match o8 with | .inl _ => (some ((ac.mk (ag.mk [] [] [] []) []), false)) | .inr r10 => (some r10)
noncomputable def eN (j2 : (List ai)) : Option ((List ai)) :=
  some j2
noncomputable def gD (a0 : Int) : Option ((List ai)) :=
  if (decide (a0 < (0 : Int))) = true then (none) else (if (decide ((IntKind.wrap .i64 (a0 - (0 : Int))) > (0 : Int))) = true then ((mkZ (IntKind.wrap .i64 (a0 - (0 : Int))) (ai.mk 0 0 (aU.mk 0 0) (aq.mk 0 0 0) (aD.mk [])) 80).bind fun x5 => (subO x5.length (0 : Int) (0 : Int)).bind fun _ => eN (x5.take (0 : Int).toNat)) else (eN ([] : List ai)))
noncomputable def cx (a0 : (List (List ai))) : (Int × Int) → Option (Step1 (Int × Int) (Int)) := fun (s1, s2) =>
  if (decide (s2 < (a0.length : Int))) = true then ((getO a0 s2).bind fun x6 => if (decide ((IntKind.wrap .i64 (s1 + (x6.length : Int))) < (0 : Int))) = true then (none) else (some (.next ((IntKind.wrap .i64 (s1 + (x6.length : Int))), (IntKind.wrap .i64 (s2 + (1 : Int))))))) else (some (.stop s1))
noncomputable def cq (a0 : (List (List ai))) : (Int × (List ai)) → Option (Step1 (Int × (List ai)) ((List ai))) := fun (s11, s12) =>
  if (decide (s11 < (a0.length : Int))) = true then ((getO a0 s11).bind fun x16 => (appO s12 x16 80).bind fun x17 => some (.next ((IntKind.wrap .i64 (s11 + (1 : Int))), x17))) else (some (.stop s12))
noncomputable def fq (a0 : (List (List ai))) : Option ((List ai)) :=
  (loopO (cx a0) ((0 : Int), (0 : Int))).bind fun o9 => (gD o9).bind fun x10 => (loopO (cq a0) ((0 : Int), x10)).bind fun o19 => some o19
noncomputable def dT (a0 : (List Int)) (a1 : (List Int)) : Int → Option (Step1 (Int) ((Unit) ⊕ (Bool))) := fun s2 =>
  if (decide (s2 < (a0.length : Int))) = true then ((getO a0 s2).bind fun x5 => (getO a1 s2).bind fun x6 => if (x5 != x6) = true then (some (.stop (.inr false))) else (some (.next (IntKind.wrap .i64 (s2 + (1 : Int)))))) else (some (.stop (.inl ())))
noncomputable def ip (a0 : (List Int)) (a1 : (List Int)) : Option (Bool) :=
  if ((a0.length : Int) != (a1.length : Int)) = true then (some false) else ((loopO (dT a0 a1) (0 : Int)).bind fun o9 => match o9 with | .inl _ => (some true) | .inr r11 => (some r11))
noncomputable def fS (a0 : ar) (a1 : ar) : Option (Bool) :=
  if (a0.cb == a1.cb) = true then (if ((a0.aW.a0 == a1.aW.a0) && ((a0.aW.a1 == a1.aW.a1) && ((a0.aW.a2 == a1.aW.a2) && true))) = true then (if ((a0.aQ.a0 == a1.aQ.a0) && ((a0.aQ.a1 == a1.aQ.a1) && ((a0.aQ.a2 == a1.aQ.a2) && true))) = true then ((ip a0.br a1.br).bind fun x4 => if x4 = true then (if (a0.bg == a1.bg) = true then (some (a0.bz == a1.bz)) else (some false)) else (some false)) else (some false)) else (some false)) else (some false)
noncomputable def bN (a0 : (List ar)) (a1 : (List ar)) : Int → Option (Step1 (Int) ((Unit) ⊕ (Bool))) := fun s2 =>
  if (decide (s2 < (a0.length : Int))) = true then ((getO a0 s2).bind fun x5 => (getO a1 s2).bind fun x6 => (fS x5 x6).bind fun x7 => if (!x7) = true then (some (.stop (.inr false))) else (some (.next (IntKind.wrap .i64 (s2 + (1 : Int)))))) else (some (.stop (.inl ())))
noncomputable def df (a0 : (List ar)) (a1 : (List ar)) : Option (Bool) :=
  if ((a0.length : Int) != (a1.length : Int)) = true then (some false) else ((loopO (bN a0 a1) (0 : Int)).bind fun o10 => match o10 with | .inl _ => (some true) | .inr r12 => (some r12))
noncomputable def jw (a0 : aD) (a1 : aD) : Option (Bool) :=
  (df a0.aO a1.aO).bind fun x1 => some x1
noncomputable def jN (a0 : ai) (a1 : ai) : Option (Bool) :=
  if ((a0.bI.aW == a1.bI.aW) && ((a0.bI.aQ == a1.bI.aQ) && true)) = true then (if ((a0.aF.fX == a1.aF.fX) && ((a0.aF.fY == a1.aF.fY) && ((a0.aF.fZ == a1.aF.fZ) && true))) = true then ((jw a0.aS a1.aS).bind fun x3 => some x3) else (some false)) else (some false)
noncomputable def pD (x1 : (List aj)) (x8 : aj) (s3 : Int) : (Int × Int × (List aj)) → Option (Step1 (Int × Int × (List aj)) (Int × Int × (List aj))) := fun (s9, s10, s11) =>
  if (decide (s10 < (x1.length : Int))) = true then ((getO x1 s10).bind fun x17 => if (decide (x17.fTo ≤ s9)) = true then (some (.next (s9, (IntKind.wrap .i64 (s10 + (1 : Int))), s11))) else (if (decide (x17.aK ≥ x8.fTo)) = true then (some (.next (s9, (IntKind.wrap .i64 (s10 + (1 : Int))), s11))) else (if (decide (s9 < x17.aK)) = true then ((appO s11 [(aj.mk s9 x17.aK)] 16).bind fun x21 => some (.next ((if x17.fTo > s9 then x17.fTo else s9), (IntKind.wrap .i64 (s10 + (1 : Int))), x21))) else (some (.next ((if x17.fTo > s9 then x17.fTo else s9), (IntKind.wrap .i64 (s10 + (1 : Int))), s11)))))) else (some (.stop (s9, s3, s11)))
noncomputable def pE (x2 : (List aj)) (x1 : (List aj)) : (Int × (List aj)) → Option (Step1 (Int × (List aj)) ((List aj))) := fun (s3, s4) =>
  if (decide (s3 < (x2.length : Int))) = true then ((getO x2 s3).bind fun x8 => (loopO (pD x1 x8 s3) (x8.aK, (0 : Int), s4)).bind fun o23 => if (decide (o23.1 < x8.fTo)) = true then ((appO o23.2.2 [(aj.mk o23.1 x8.fTo)] 16).bind fun x25 => some (.next ((IntKind.wrap .i64 (o23.2.1 + (1 : Int))), x25))) else (some (.next ((IntKind.wrap .i64 (o23.2.1 + (1 : Int))), o23.2.2)))) else (some (.stop s4))
noncomputable def v7 (a0 : (List aj)) (a1 : (List aj)) : Option ((List aj)) :=
  (gw a1).bind fun x1 => (gw a0).bind fun x2 => (loopO (pE x2 x1) ((0 : Int), ([] : (List aj)))).bind fun o27 => some o27
noncomputable def kr (x1 : (List ai)) : (Int × (List aj)) → Option (Step1 (Int × (List aj)) ((List aj))) := fun (s2, s3) =>
  if (decide (s2 < (x1.length : Int))) = true then ((getO x1 s2).bind fun x7 => (appO s3 [(aj.mk x7.aK x7.fTo)] 16).bind fun x8 => some (.next ((IntKind.wrap .i64 (s2 + (1 : Int))), x8))) else (some (.stop s3))
noncomputable def jA (a1 : (List ai)) (x16 : ai) (s11 : Int) : (Int × (List aj)) → Option (Step1 (Int × (List aj)) (Int × (List aj))) := fun (s17, s18) =>
  if (decide (s17 < (a1.length : Int))) = true then ((getO a1 s17).bind fun x23 => (jN x16 x23).bind fun x24 => if x24 = true then ((appO s18 [(aj.mk (if x23.aK > x16.aK then x23.aK else x16.aK) (if x23.fTo < x16.fTo then x23.fTo else x16.fTo))] 16).bind fun x26 => some (.next ((IntKind.wrap .i64 (s17 + (1 : Int))), x26))) else (some (.next ((IntKind.wrap .i64 (s17 + (1 : Int))), s18)))) else (some (.stop (s11, s18)))
noncomputable def jB (a0 : (List ai)) (a1 : (List ai)) : (Int × (List aj)) → Option (Step1 (Int × (List aj)) ((List aj))) := fun (s11, s12) =>
  if (decide (s11 < (a0.length : Int))) = true then ((getO a0 s11).bind fun x16 => (loopO (jA a1 x16 s11) ((0 : Int), s12)).bind fun o28 => some (.next ((IntKind.wrap .i64 (o28.1 + (1 : Int))), o28.2))) else (some (.stop s12))
noncomputable def nH (a0 : (List ai)) (a1 : (List ai)) : Option ((List aj)) :=
  (fq [a0, a1]).bind fun x1 => (loopO (kr x1) ((0 : Int), ([] : (List aj)))).bind fun o10 => (loopO (jB a0 a1) ((0 : Int), ([] : (List aj)))).bind fun o30 => (v7 o10 o30).bind fun x31 => some x31
noncomputable def iL (x5 : (List ac)) : (Int × (List ag)) → Option (Step1 (Int × (List ag)) ((List ag))) := fun (s6, s7) =>
  if (decide (s6 < (x5.length : Int))) = true then ((getO x5 s6).bind fun x11 => (appO s7 [x11.ak] 64).bind fun x12 => some (.next ((IntKind.wrap .i64 (s6 + (1 : Int))), x12))) else (some (.stop s7))
noncomputable def pM (x15 : (List ag)) (a0 : ae) (a1 : ae) : (Int × (List az)) → Option (Step1 (Int × (List az)) ((List az))) := fun (s16, s17) =>
  if (decide (s16 < (x15.length : Int))) = true then ((getO x15 s16).bind fun x21 => (e9 a0 x21).bind fun x22 => (e9 a1 x21).bind fun x23 => (nH x22.1.aP x23.1.aP).bind fun x24 => if (decide ((x24.length : Int) > (0 : Int))) = true then ((appO s17 [(az.mk x21 x24)] 88).bind fun x26 => some (.next ((IntKind.wrap .i64 (s16 + (1 : Int))), x26))) else (some (.next ((IntKind.wrap .i64 (s16 + (1 : Int))), s17)))) else (some (.stop s17))
noncomputable def lu (a0 : ae) (a1 : ae) : Option ((List az)) :=
  (bP a0).bind fun x1 => if (!x1) = true then (some ([] : (List az))) else ((bP a1).bind fun x3 => if (!x3) = true then (some ([] : (List az))) else ((ef [a0.ap, a1.ap]).bind fun x5 => (loopO (iL x5) ((0 : Int), ([] : (List ag)))).bind fun o14 => (l7 o14).bind fun x15 => (loopO (pM x15 a0 a1) ((0 : Int), ([] : (List az)))).bind fun o28 => some o28))
noncomputable def jy (x1 : (List aj)) (s3 : Int) (x2 : (List aj)) (s4 : Int) (j10 : (List aj)) : Option (Step1 (Int × Int × (List aj)) ((List aj))) :=
  (getO x1 s3).bind fun x11 => (getO x2 s4).bind fun x12 => if (decide (x11.fTo < x12.fTo)) = true then (some (.next ((IntKind.wrap .i64 (s3 + (1 : Int))), s4, j10))) else (some (.next (s3, (IntKind.wrap .i64 (s4 + (1 : Int))), j10)))
noncomputable def qT (x1 : (List aj)) (x2 : (List aj)) : (Int × Int × (List aj)) → Option (Step1 (Int × Int × (List aj)) ((List aj))) := fun (s3, s4, s5) =>
  if (decide (s3 < (x1.length : Int))) = true then (if (decide (s4 < (x2.length : Int))) = true then ((getO x1 s3).bind fun x15 => (getO x2 s4).bind fun x16 => (getO x1 s3).bind fun x17 => (getO x2 s4).bind fun x18 => (sP (aj.mk (if x16.aK > x15.aK then x16.aK else x15.aK) (if x18.fTo < x17.fTo then x18.fTo else x17.fTo))).bind fun x19 => if x19 = true then ((appO s5 [(aj.mk (if x16.aK > x15.aK then x16.aK else x15.aK) (if x18.fTo < x17.fTo then x18.fTo else x17.fTo))] 16).bind fun x21 => jy x1 s3 x2 s4 x21) else (jy x1 s3 x2 s4 s5)) else (some (.stop s5))) else (some (.stop s5))
noncomputable def xr (a0 : (List aj)) (a1 : (List aj)) : Option ((List aj)) :=
  (gw a0).bind fun x1 => (gw a1).bind fun x2 => (loopO (qT x1 x2) ((0 : Int), (0 : Int), ([] : (List aj)))).bind fun o23 => some o23
noncomputable def span_Cut (a0 : (List aj)) (a1 : Int) (a2 : Int) : Option ((List aj)) :=
  (xr a0 [(aj.mk a1 a2)]).bind fun x1 => some x1
noncomputable def cH (a0 : az) (d0 : ag) (d1 : Int) (d2 : Int) : Option (Bool) :=
  if ((a0.ak.aB == d0.aB) && ((a0.ak.aA == d0.aA) && ((a0.ak.aw == d0.aw) && ((a0.ak.aC == d0.aC) && true)))) = true then ((span_Cut a0.cj d1 d2).bind fun x2 => some (decide ((x2.length : Int) > (0 : Int)))) else (some false)
noncomputable def cr (a0 : (List az)) (d0 : ag) (d1 : Int) (d2 : Int) : Int → Option (Step1 (Int) ((Unit) ⊕ (Int))) := fun s1 =>
  if (decide (s1 < (a0.length : Int))) = true then ((getO a0 s1).bind fun x4 => (cH x4 d0 d1 d2).bind fun x5 => if x5 = true then (some (.stop (.inr s1))) else (some (.next (IntKind.wrap .i64 (s1 + (1 : Int)))))) else (some (.stop (.inl ())))
noncomputable def fV (a0 : (List az)) (d0 : ag) (d1 : Int) (d2 : Int) : Option (Int) :=
  (loopO (cr a0 d0 d1 d2) (0 : Int)).bind fun o8 => match o8 with | .inl _ => (some (-1 : Int)) | .inr r10 => (some r10)
noncomputable def eP (a0 : (List az)) (d0 : ag) (d1 : Int) (d2 : Int) : Option (Bool) :=
  (fV a0 d0 d1 d2).bind fun x1 => some (decide (x1 ≥ (0 : Int)))
noncomputable def jM (a0 : (List az)) (a1 : ag) (a2 : Int) (a3 : Int) : Option (Bool) :=
  (eP a0 a1 a2 a3).bind fun x1 => some x1
noncomputable def kA (a0 : ac) (a1 : Int) : Int → Option (Step1 (Int) ((Unit) ⊕ (ai × Bool))) := fun s1 =>
  if (decide (s1 < (a0.aP.length : Int))) = true then ((getO a0.aP s1).bind fun x4 => if (decide (x4.aK ≤ a1)) = true then (if (decide (a1 < x4.fTo)) = true then (some (.stop (.inr (x4, true)))) else (some (.next (IntKind.wrap .i64 (s1 + (1 : Int)))))) else (some (.next (IntKind.wrap .i64 (s1 + (1 : Int)))))) else (some (.stop (.inl ())))
noncomputable def mj (a0 : ac) (a1 : Int) : Option (ai × Bool) :=
  (loopO (kA a0 a1) (0 : Int)).bind fun o8 => match o8 with | .inl _ => (some ((ai.mk 0 0 (aU.mk 0 0) (aq.mk 0 0 0) (aD.mk [])), false)) | .inr r10 => (some r10)
noncomputable def jh (a0 : ae) (a1 : ag) (a2 : Int) : Option (ai × Int) :=
  (bP a0).bind fun x1 => if (!x1) = true then (some ((ai.mk 0 0 (aU.mk 0 0) (aq.mk 0 0 0) (aD.mk [])), (1 : Int))) else ((e9 a0 a1).bind fun x3 => (mj x3.1 a2).bind fun x4 => if (!x4.2) = true then (some ((ai.mk 0 0 (aU.mk 0 0) (aq.mk 0 0 0) (aD.mk [])), (6 : Int))) else (some (x4.1, (0 : Int))))
noncomputable def cB (a0 : ae) (a1 : ae) (a2 : aa) : Option (Bool) :=
  (jh a0 a2.ak a2.aM).bind fun x1 => (jh a1 a2.ak a2.aM).bind fun x2 => if (x1.2 != (0 : Int)) = true then (some (!((x1.2 == (0 : Int)) == (x2.2 == (0 : Int))))) else (if (x2.2 != (0 : Int)) = true then (some (!((x1.2 == (0 : Int)) == (x2.2 == (0 : Int))))) else (if (!((x1.1.aF.fX == x2.1.aF.fX) && ((x1.1.aF.fY == x2.1.aF.fY) && ((x1.1.aF.fZ == x2.1.aF.fZ) && true)))) = true then (some true) else ((jw x1.1.aS x2.1.aS).bind fun x6 => some (!x6))))
noncomputable def gH (x13 : az) (x6 : (List az)) (s9 : Int) : (Bool × Int) → Option (Step1 (Bool × Int) (Bool × Int)) := fun (s14, s15) =>
  if (decide (s15 < (x13.cj.length : Int))) = true then ((getO x13.cj s15).bind fun x20 => if s14 = true then (some (.next (true, (IntKind.wrap .i64 (s15 + (1 : Int)))))) else ((jM x6 x13.ak x20.aK x20.fTo).bind fun x22 => some (.next (x22, (IntKind.wrap .i64 (s15 + (1 : Int))))))) else (some (.stop (s14, s9)))
noncomputable def gI (x7 : (List az)) (x6 : (List az)) : (Bool × Int) → Option (Step1 (Bool × Int) (Bool)) := fun (s8, s9) =>
  if (decide (s9 < (x7.length : Int))) = true then ((getO x7 s9).bind fun x13 => (loopO (gH x13 x6 s9) (s8, (0 : Int))).bind fun o24 => some (.next (o24.1, (IntKind.wrap .i64 (o24.2 + (1 : Int)))))) else (some (.stop s8))
noncomputable def gJ (x4 : (List aa) × ah) (x3 : ae × ah) (x5 : ae × ah) (x6 : (List az)) : (Bool × Int) → Option (Step1 (Bool × Int) ((Bool) ⊕ (Bool))) := fun (s27, s28) =>
  if (decide (s28 < (x4.1.length : Int))) = true then ((getO x4.1 s28).bind fun x32 => (cB x3.1 x5.1 x32).bind fun x33 => if x33 = true then ((jM x6 x32.ak x32.aM (IntKind.wrap .i64 (x32.aM + (1 : Int)))).bind fun x35 => if (!x35) = true then (some (.stop (.inr false))) else (if s27 = true then (some (.next (true, (IntKind.wrap .i64 (s28 + (1 : Int)))))) else (some (.next (x33, (IntKind.wrap .i64 (s28 + (1 : Int)))))))) else (if s27 = true then (some (.next (true, (IntKind.wrap .i64 (s28 + (1 : Int)))))) else (some (.next (x33, (IntKind.wrap .i64 (s28 + (1 : Int)))))))) else (some (.stop (.inl s27)))
noncomputable def js (a0 : (List Int)) : Option (Bool) :=
  (nn a0).bind fun x1 => (gb (3 : Int) x1).bind fun x2 => (ja (6 : Int) x2.2).bind fun x3 => (iZ x2.1 x3.1 (8 : Int) x3.2).bind fun x4 => (ia x3.1 x4.2).bind fun x5 => (lu x3.1 x5.1).bind fun x6 => (dp x4.1).bind fun x7 => (loopO (gI x7 x6) (false, (0 : Int))).bind fun o26 => (loopO (gJ x4 x3 x5 x6) (false, (0 : Int))).bind fun o40 => match o40 with | .inl y41 => (if (!y41) = true then ((fx ).bind fun x44 => some x44) else (if o26 = true then ((fx ).bind fun x46 => some x46) else (some false))) | .inr r42 => (some r42)
end Go.Dw.De
