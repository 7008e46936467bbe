
import Derived.Test.YtkcfodpngpmlcaaGreatDwNest
import Derived.Test.YtkcfodpngpmlcaaGreatDwSortP



namespace Go.Dw.De
open Go.Dw

structure ah where
  fL : (List Int)
  fAt : Int
  deriving DecidableEq
def ah.pd (x : ah) : PD := .agg [.lst (x.fL.map (PD.int .i64)), .int .i64 x.fAt]
structure ap where
  fX : Int
  fY : Int
  fZ : Int
  deriving DecidableEq
def ap.pd (x : ap) : PD := .agg [.int .i64 x.fX, .int .i64 x.fY, .int .i64 x.fZ]
structure aM where
  bf : ap
  aY : ap
  deriving DecidableEq
def aM.pd (x : aM) : PD := .agg [.int .i64 x.bf.fX, .int .i64 x.bf.fY, .int .i64 x.bf.fZ, .int .i64 x.aY.fX, .int .i64 x.aY.fY, .int .i64 x.aY.fZ]
structure aK where
  bH : Int
  bf : (List Int)
  aY : (List Int)
  deriving DecidableEq
def aK.pd (x : aK) : PD := .agg [.int .i64 x.bH, .lst (x.bf.map (PD.int .i64)), .lst (x.aY.map (PD.int .i64))]
structure bc where
  aS : aM
  bw : aK
  xN : Int
  bB : Int
  oh : Int
  nr : Int
  nq : Int
  deriving DecidableEq
def bc.pd (x : bc) : PD := .agg [.int .i64 x.aS.bf.fX, .int .i64 x.aS.bf.fY, .int .i64 x.aS.bf.fZ, .int .i64 x.aS.aY.fX, .int .i64 x.aS.aY.fY, .int .i64 x.aS.aY.fZ, .int .i64 x.bw.bH, .lst (x.bw.bf.map (PD.int .i64)), .lst (x.bw.aY.map (PD.int .i64)), .int .i64 x.xN, .int .i64 x.bB, .int .i64 x.oh, .int .i64 x.nr, .int .i64 x.nq]
structure cn where
  a8 : aK
  aW : Int
  aQ : Int
  deriving DecidableEq
def cn.pd (x : cn) : PD := .agg [.int .i64 x.a8.bH, .lst (x.a8.bf.map (PD.int .i64)), .lst (x.a8.aY.map (PD.int .i64)), .int .i64 x.aW, .int .i64 x.aQ]
structure aG where
  av : bc
  b9 : cn
  bB : Int
  deriving DecidableEq
def aG.pd (x : aG) : PD := .agg [.int .i64 x.av.aS.bf.fX, .int .i64 x.av.aS.bf.fY, .int .i64 x.av.aS.bf.fZ, .int .i64 x.av.aS.aY.fX, .int .i64 x.av.aS.aY.fY, .int .i64 x.av.aS.aY.fZ, .int .i64 x.av.bw.bH, .lst (x.av.bw.bf.map (PD.int .i64)), .lst (x.av.bw.aY.map (PD.int .i64)), .int .i64 x.av.xN, .int .i64 x.av.bB, .int .i64 x.av.oh, .int .i64 x.av.nr, .int .i64 x.av.nq, .int .i64 x.b9.a8.bH, .lst (x.b9.a8.bf.map (PD.int .i64)), .lst (x.b9.a8.aY.map (PD.int .i64)), .int .i64 x.b9.aW, .int .i64 x.b9.aQ, .int .i64 x.bB]
structure ag where
  aB : (List UInt8)
  aA : (List UInt8)
  aw : (List UInt8)
  aC : (List UInt8)
  deriving DecidableEq
def ag.pd (x : ag) : PD := .agg [.str x.aB, .str x.aA, .str x.aw, .str x.aC]
structure aT where
  aW : Int
  aQ : Int
  deriving DecidableEq
def aT.pd (x : aT) : PD := .agg [.int .i64 x.aW, .int .i64 x.aQ]
structure aU where
  a0 : Int
  a1 : Int
  a2 : Int
  deriving DecidableEq
def aU.pd (x : aU) : PD := .agg [.int .i64 x.a0, .int .i64 x.a1, .int .i64 x.a2]
structure ar where
  bZ : Int
  aW : aU
  aQ : aU
  br : (List Int)
  bg : Int
  bz : Int
  deriving DecidableEq
def ar.pd (x : ar) : PD := .agg [.int .i64 x.bZ, .int .i64 x.aW.a0, .int .i64 x.aW.a1, .int .i64 x.aW.a2, .int .i64 x.aQ.a0, .int .i64 x.aQ.a1, .int .i64 x.aQ.a2, .lst (x.br.map (PD.int .i64)), .int .i64 x.bg, .int .i64 x.bz]
structure aD where
  aO : (List ar)
  deriving DecidableEq
def aD.pd (x : aD) : PD := .agg [.lst (x.aO.map ar.pd)]
structure ai where
  aL : Int
  fTo : Int
  bN : aT
  aF : ap
  aV : aD
  deriving DecidableEq
def ai.pd (x : ai) : PD := .agg [.int .i64 x.aL, .int .i64 x.fTo, .int .i64 x.bN.aW, .int .i64 x.bN.aQ, .int .i64 x.aF.fX, .int .i64 x.aF.fY, .int .i64 x.aF.fZ, .lst (x.aV.aO.map ar.pd)]
structure ac where
  al : ag
  aP : (List ai)
  deriving DecidableEq
def ac.pd (x : ac) : PD := .agg [.str x.al.aB, .str x.al.aA, .str x.al.aw, .str x.al.aC, .lst (x.aP.map ai.pd)]
structure ae where
  aq : (List ac)
  deriving DecidableEq
def ae.pd (x : ae) : PD := .agg [.lst (x.aq.map ac.pd)]
structure aa where
  al : ag
  aN : Int
  aI : Int
  aX : Int
  aH : Int
  aJ : Int
  deriving DecidableEq
def aa.pd (x : aa) : PD := .agg [.str x.al.aB, .str x.al.aA, .str x.al.aw, .str x.al.aC, .int .i64 x.aN, .int .i64 x.aI, .int .i64 x.aX, .int .i64 x.aH, .int .i64 x.aJ]
structure A4_Int where
  a0 : Int
  a1 : Int
  a2 : Int
  a3 : Int
  deriving DecidableEq
def A4_Int.pd (x : A4_Int) : PD := .agg [.int .i64 x.a0, .int .i64 x.a1, .int .i64 x.a2, .int .i64 x.a3]
structure bC where
  a0 : Int
  a1 : Int
  deriving DecidableEq
def bC.pd (x : bC) : PD := .agg [.int .i64 x.a0, .int .i64 x.a1]
structure eV where
  a0 : bC
  a1 : bC
  a2 : bC
  a3 : bC
  a4 : bC
  deriving DecidableEq
def eV.pd (x : eV) : PD := .agg [.int .i64 x.a0.a0, .int .i64 x.a0.a1, .int .i64 x.a1.a0, .int .i64 x.a1.a1, .int .i64 x.a2.a0, .int .i64 x.a2.a1, .int .i64 x.a3.a0, .int .i64 x.a3.a1, .int .i64 x.a4.a0, .int .i64 x.a4.a1]
structure aj where
  aL : Int
  fTo : Int
  deriving DecidableEq
def aj.pd (x : aj) : PD := .agg [.int .i64 x.aL, .int .i64 x.fTo]
structure az where
  al : ag
  ew : (List aj)
  deriving DecidableEq
def az.pd (x : az) : PD := .agg [.str x.al.aB, .str x.al.aA, .str x.al.aw, .str x.al.aC, .lst (x.ew.map aj.pd)]
structure ak where
  aA : ap
  aI : Int
  aX : Int
  iN : Int
  deriving DecidableEq
def ak.pd (x : ak) : PD := .agg [.int .i64 x.aA.fX, .int .i64 x.aA.fY, .int .i64 x.aA.fZ, .int .i64 x.aI, .int .i64 x.aX, .int .i64 x.iN]
structure bD where
  aL : Int
  fTo : Int
  deriving DecidableEq
def bD.pd (x : bD) : PD := .agg [.int .i64 x.aL, .int .i64 x.fTo]
def xA (a b : ag) : Bool := ((a.aB == b.aB) && ((a.aA == b.aA) && ((a.aw == b.aw) && ((a.aC == b.aC) && true))))
def pg (a b : aa) : Bool := (((a.al.aB == b.al.aB) && ((a.al.aA == b.al.aA) && ((a.al.aw == b.al.aw) && ((a.al.aC == b.al.aC) && true)))) && ((a.aN == b.aN) && ((a.aI == b.aI) && ((a.aX == b.aX) && ((a.aH == b.aH) && ((a.aJ == b.aJ) && true))))))
noncomputable def mS (a0 : (List Int)) : Option (ah) :=
  (cutO a0 0 (if (2000 : Int) < (a0.length : Int) then (2000 : Int) else (a0.length : Int))).bind fun x1 => some (ah.mk x1 0)
noncomputable def wW (d0 : ah) : Option (Int × ah) :=
  if (decide (d0.fAt ≥ (d0.fL.length : Int))) = true then (some ((0 : Int), d0)) else ((getO d0.fL (IntKind.wrap .i64 ((IntKind.wrap .i64 (d0.fAt + (1 : Int))) - (1 : Int)))).bind fun x2 => some (x2, (ah.mk d0.fL (IntKind.wrap .i64 (d0.fAt + (1 : Int))))))
noncomputable def sr (a0 : Int) (a1 : Int) : Option (Int) :=
  if (decide (a1 < (1 : Int))) = true then (some (0 : Int)) else ((remO a0 a1).bind fun x2 => if (decide (x2 < (0 : Int))) = true then (some (IntKind.wrap .i64 (x2 + a1))) else (some x2))
noncomputable def cN (a1 : Int) (d0 : ah) : Option (Int × ah) :=
  (wW d0).bind fun x1 => (sr x1.1 a1).bind fun x2 => some (x2, x1.2)
noncomputable def lJ (a1 : Int) (d0 : ah) : Option (ap × ah) :=
  (cN (IntKind.wrap .i64 ((IntKind.wrap .i64 ((2 : Int) * a1)) + (1 : Int))) d0).bind fun x1 => (cN (IntKind.wrap .i64 ((IntKind.wrap .i64 ((2 : Int) * a1)) + (1 : Int))) x1.2).bind fun x2 => (cN (IntKind.wrap .i64 (a1 + (1 : Int))) x2.2).bind fun x3 => some ((ap.mk (IntKind.wrap .i64 (x1.1 - a1)) (IntKind.wrap .i64 (x2.1 - a1)) x3.1), x3.2)
noncomputable def wV (a1 : Int) (a2 : Int) (d0 : ah) : Option (aM × ah) :=
  (lJ a1 d0).bind fun x1 => (cN (IntKind.wrap .i64 (a2 + (1 : Int))) x1.2).bind fun x2 => (cN (IntKind.wrap .i64 (a2 + (1 : Int))) x2.2).bind fun x3 => (cN (IntKind.wrap .i64 (a2 + (1 : Int))) x3.2).bind fun x4 => some ((aM.mk x1.1 (ap.mk (IntKind.wrap .i64 (x1.1.fX + x2.1)) (IntKind.wrap .i64 (x1.1.fY + x3.1)) (IntKind.wrap .i64 (x1.1.fZ + x4.1)))), x4.2)
noncomputable def c7 (a1 : (List Int)) (d0 : ah) : Option (Int × ah) :=
  (cN (a1.length : Int) d0).bind fun x1 => (getO a1 x1.1).bind fun x2 => some (x2, x1.2)
noncomputable def qi (x1 : Int × ah) : (Int × Int × Int × (List Int) × Int × (List Int) × (List Int)) → Option (Step1 (Int × Int × Int × (List Int) × Int × (List Int) × (List Int)) ((List Int) × Int × (List Int) × (List Int))) := fun (s3, s4, s5, s6, s7, s8, s9) =>
  (quoO .i64 (400 : Int) x1.1).bind fun x15 => (cN (3 : Int) (ah.mk s6 s7)).bind fun x16 => if (decide (s5 ≤ (IntKind.wrap .i64 (x15 + x16.1)))) = true then ((appO s8 [s3] 8).bind fun x18 => (appO s9 [s4] 8).bind fun x19 => (c7 [0, 10, 20, 35] x16.2).bind fun x20 => (quoO .i64 x1.1 (4 : Int)).bind fun x21 => (c7 [0, 0, 5, 30] x20.2).bind fun x22 => some (.next ((IntKind.wrap .i64 (s3 + (IntKind.wrap .i64 (x20.1 + x21)))), (IntKind.wrap .i64 ((if (IntKind.wrap .i64 (s3 + (IntKind.wrap .i64 (x20.1 + x21)))) > s4 then (IntKind.wrap .i64 (s3 + (IntKind.wrap .i64 (x20.1 + x21)))) else s4) + x22.1)), (IntKind.wrap .i64 (s5 + (1 : Int))), x22.2.fL, x22.2.fAt, x18, x19))) else (some (.stop (x16.2.fL, x16.2.fAt, s8, s9)))
noncomputable def px (d0 : ah) : Option (aK × ah) :=
  (c7 [20, 25, 40, 100] d0).bind fun x1 => (cN (3 : Int) x1.2).bind fun x2 => (loopO (qi x1) ((0 : Int), x2.1, (0 : Int), x2.2.fL, x2.2.fAt, ([] : (List Int)), ([] : (List Int)))).bind fun o24 => some ((aK.mk x1.1 o24.2.2.1 o24.2.2.2), (ah.mk o24.1 o24.2.1))
noncomputable def iF (a1 : Int) (d0 : ah) : Option (bc × ah) :=
  (wV (20 : Int) a1 d0).bind fun x1 => (px x1.2).bind fun x2 => (c7 [10, 50, 200] x2.2).bind fun x3 => (c7 [0, 0, 10, 40] x3.2).bind fun x4 => (c7 [0, 50, 200, 400] x4.2).bind fun x5 => (c7 [0, 5, 20] x5.2).bind fun x6 => (cN (2 : Int) x6.2).bind fun x7 => some ((bc.mk x1.1 x2.1 x3.1 x4.1 x5.1 x6.1 (IntKind.wrap .i64 ((2 : Int) + x7.1))), x7.2)
noncomputable def qh (x1 : aK × ah) : (Int × (List Int) × (List Int)) → Option (Step1 (Int × (List Int) × (List Int)) ((List Int) × (List Int))) := fun (s4, s5, s6) =>
  if (decide (s4 < (x1.1.bf.length : Int))) = true then ((inO s5 s4).bind fun _ => (getO s5 s4).bind fun x13 => (quoO .i64 x13 (3 : Int)).bind fun x14 => (inO s6 s4).bind fun _ => (getO s6 s4).bind fun x17 => (quoO .i64 x17 (3 : Int)).bind fun x18 => (inO s5 s4).bind fun _ => (setO s5 s4 x14).bind fun x21 => (inO s6 s4).bind fun _ => (setO s6 s4 x18).bind fun x24 => some (.next ((IntKind.wrap .i64 (s4 + (1 : Int))), x21, x24))) else (some (.stop (s5, s6)))
noncomputable def sd (d0 : ah) : Option (cn × ah) :=
  (px d0).bind fun x1 => (cN (20 : Int) x1.2).bind fun x2 => (cN (9 : Int) x2.2).bind fun x3 => (loopO (qh x1) ((0 : Int), x1.1.bf, x1.1.aY)).bind fun o26 => some ((cn.mk (aK.mk x1.1.bH o26.1 o26.2) x2.1 (IntKind.wrap .i64 ((1 : Int) + x3.1))), x3.2)
noncomputable def fG (a1 : Int) (d0 : ah) : Option (aG × ah) :=
  (iF a1 d0).bind fun x1 => (sd x1.2).bind fun x2 => (c7 [0, 0, 10, 40] x2.2).bind fun x3 => some ((aG.mk x1.1 x2.1 x3.1), x3.2)
noncomputable def jk  : (Int × (List Int) × Int × (List ar)) → Option (Step1 (Int × (List Int) × Int × (List ar)) ((List Int) × Int × (List ar))) := fun (s2, s3, s4, s5) =>
  if (decide (s2 > (0 : Int))) = true then ((cN (3 : Int) (ah.mk s3 s4)).bind fun x11 => if (x11.1 == (0 : Int)) = true then ((c7 [0, 1, 9, 99, 1048575] x11.2).bind fun x13 => (c7 [0, 0, 2, 9, 999] x13.2).bind fun x14 => (appO s5 [(ar.mk x11.1 (aU.mk (IntKind.wrap .i64 ((1 : Int) + x13.1)) 0 0) (aU.mk (IntKind.wrap .i64 ((1 : Int) + x14.1)) 0 0) [] 0 0)] 96).bind fun x15 => some (.next ((IntKind.wrap .i64 (s2 - (1 : Int))), x14.2.fL, x14.2.fAt, x15))) else (if (x11.1 == (1 : Int)) = true then ((cN (5 : Int) x11.2).bind fun x17 => (cN (7 : Int) x17.2).bind fun x18 => (cN (3 : Int) x18.2).bind fun x19 => (cN (5 : Int) x19.2).bind fun x20 => (cN (7 : Int) x20.2).bind fun x21 => (cN (3 : Int) x21.2).bind fun x22 => (appO s5 [(ar.mk x11.1 (aU.mk x17.1 (IntKind.wrap .i64 (x18.1 - (3 : Int))) (IntKind.wrap .i64 (x19.1 - (1 : Int)))) (aU.mk (IntKind.wrap .i64 ((1 : Int) + x20.1)) x21.1 x22.1) [] 0 0)] 96).bind fun x23 => some (.next ((IntKind.wrap .i64 (s2 - (1 : Int))), x22.2.fL, x22.2.fAt, x23))) else ((cN (3 : Int) x11.2).bind fun x24 => (cN (4 : Int) x24.2).bind fun x25 => (appO s5 [(ar.mk x11.1 (aU.mk 0 0 0) (aU.mk 0 0 0) [(IntKind.wrap .i64 ((1 : Int) + x24.1)), 2, 1] 1 x25.1)] 96).bind fun x26 => some (.next ((IntKind.wrap .i64 (s2 - (1 : Int))), x25.2.fL, x25.2.fAt, x26))))) else (some (.stop (s3, s4, s5)))
noncomputable def fF (d0 : ah) : Option (aD × ah) :=
  (cN (4 : Int) d0).bind fun x1 => (loopO (jk) (x1.1, x1.2.fL, x1.2.fAt, ([] : (List ar)))).bind fun o28 => some ((aD.mk o28.2.2), (ah.mk o28.1 o28.2.1))
noncomputable def eZ (a0 : Int) : Option (ag) :=
  (sr a0 (6 : Int)).bind fun x1 => (getO [[83, 49], [83, 50], [83, 51], [83, 52], [83, 53], [83, 54]] x1).bind fun x2 => some (ag.mk [65, 66] x2 [48, 48] [66, 72, 90])
noncomputable def mM (a1 : Int) : (Int × (List Int) × Int × (List ac)) → Option (Step1 (Int × (List Int) × Int × (List ac)) ((List Int) × Int × (List ac))) := fun (s1, s2, s3, s4) =>
  if (decide (s1 < a1)) = true then (if (decide (s1 < (6 : Int))) = true then ((lJ (60 : Int) (ah.mk s2 s3)).bind fun x11 => (fF x11.2).bind fun x12 => (eZ s1).bind fun x13 => (cN (6 : Int) x12.2).bind fun x14 => if (x14.1 == (0 : Int)) = true then ((cN (500 : Int) x14.2).bind fun x16 => (lJ (60 : Int) x16.2).bind fun x17 => (fF x17.2).bind fun x18 => (inO [(ai.mk 0 100000 (aT.mk 100 1) x11.1 x12.1)] (0 : Int)).bind fun _ => (modO [(ai.mk 0 100000 (aT.mk 100 1) x11.1 x12.1)] (0 : Int) (fun (z22 : ai) => (ai.mk z22.aL (IntKind.wrap .i64 ((1500 : Int) + x16.1)) z22.bN z22.aF z22.aV))).bind fun x21 => (appO x21 [(ai.mk (IntKind.wrap .i64 ((1500 : Int) + x16.1)) 100000 (aT.mk 100 1) x17.1 x18.1)] 80).bind fun x23 => (appO s4 [(ac.mk x13 x23)] 88).bind fun x24 => some (.next ((IntKind.wrap .i64 (s1 + (1 : Int))), x18.2.fL, x18.2.fAt, x24))) else (if (x14.1 == (1 : Int)) = true then ((cN (1500 : Int) x14.2).bind fun x26 => (inO [(ai.mk 0 100000 (aT.mk 100 1) x11.1 x12.1)] (0 : Int)).bind fun _ => (modO [(ai.mk 0 100000 (aT.mk 100 1) x11.1 x12.1)] (0 : Int) (fun (z30 : ai) => (ai.mk x26.1 z30.fTo z30.bN z30.aF z30.aV))).bind fun x29 => (appO s4 [(ac.mk x13 x29)] 88).bind fun x31 => some (.next ((IntKind.wrap .i64 (s1 + (1 : Int))), x26.2.fL, x26.2.fAt, x31))) else ((appO s4 [(ac.mk x13 [(ai.mk 0 100000 (aT.mk 100 1) x11.1 x12.1)])] 88).bind fun x32 => some (.next ((IntKind.wrap .i64 (s1 + (1 : Int))), x14.2.fL, x14.2.fAt, x32))))) else (some (.stop (s2, s3, s4)))) else (some (.stop (s2, s3, s4)))
noncomputable def iI (a1 : Int) (d0 : ah) : Option (ae × ah) :=
  (loopO (mM a1) ((0 : Int), d0.fL, d0.fAt, ([] : (List ac)))).bind fun o34 => some ((ae.mk o34.2.2), (ah.mk o34.1 o34.2.1))
noncomputable def nK (a1 : Int) (a2 : Int) (d0 : ah) : Option (Int × ah) :=
  (cN (IntKind.wrap .i64 ((IntKind.wrap .i64 (a2 - a1)) + (1 : Int))) d0).bind fun x1 => some ((IntKind.wrap .i64 (a1 + x1.1)), x1.2)
noncomputable def pw (a1 : aM) (d0 : ah) : Option (ap × ah) :=
  (nK a1.bf.fX a1.aY.fX d0).bind fun x1 => (nK a1.bf.fY a1.aY.fY x1.2).bind fun x2 => (nK a1.bf.fZ a1.aY.fZ x2.2).bind fun x3 => some ((ap.mk x1.1 x2.1 x3.1), x3.2)
noncomputable def oq (x4 : ac) (a1 : ag) (a2 : Int) (s1 : Int) : Int → Option (Step1 (Int) ((Int) ⊕ (ap × Bool))) := fun s5 =>
  if (decide (s5 < (x4.aP.length : Int))) = true then ((getO x4.aP s5).bind fun x9 => if ((x4.al.aB == a1.aB) && ((x4.al.aA == a1.aA) && ((x4.al.aw == a1.aw) && ((x4.al.aC == a1.aC) && true)))) = true then (if (decide (x9.aL ≤ a2)) = true then (if (decide (a2 < x9.fTo)) = true then (some (.stop (.inr (x9.aF, true)))) else (some (.next (IntKind.wrap .i64 (s5 + (1 : Int)))))) else (some (.next (IntKind.wrap .i64 (s5 + (1 : Int)))))) else (some (.next (IntKind.wrap .i64 (s5 + (1 : Int)))))) else (some (.stop (.inl s1)))
noncomputable def ot (a0 : ae) (a1 : ag) (a2 : Int) : Int → Option (Step1 (Int) ((Unit) ⊕ (ap × Bool))) := fun s1 =>
  if (decide (s1 < (a0.aq.length : Int))) = true then ((getO a0.aq s1).bind fun x4 => (loopO (oq x4 a1 a2 s1) (0 : Int)).bind fun o14 => match o14 with | .inl y15 => (some (.next (IntKind.wrap .i64 (y15 + (1 : Int))))) | .inr r16 => (some (.stop (.inr r16)))) else (some (.stop (.inl ())))
noncomputable def pC (a0 : ae) (a1 : ag) (a2 : Int) : Option (ap × Bool) :=
  (loopO (ot a0 a1 a2) (0 : Int)).bind fun o18 => match o18 with | .inl _ => (some ((ap.mk 0 0 0), false)) | .inr r20 => (some r20)
noncomputable def tO (a0 : Int) : Option (Int) :=
  some (IntKind.wrap .i64 (a0 * a0))
noncomputable def fE (x18 : ag) (x19 : Int × ah) (x20 : Int × ah) (j22 : Int) (j23 : Int) (j24 : (List Int)) (j25 : Int) (j26 : (List aa)) (j27 : Int) (j28 : Int) (j29 : Int) (j30 : Int) : Option (Step1 (Int × Int × (List Int) × Int × (List aa) × Int × Int × Int) ((List aa) × (List Int) × Int)) :=
  (cN (5 : Int) (ah.mk j24 j25)).bind fun x31 => (cN (5 : Int) x31.2).bind fun x32 => (appO j26 [(aa.mk x18 (IntKind.wrap .i64 (j30 + x31.1)) j30 (IntKind.wrap .i64 ((IntKind.wrap .i64 (j30 + x31.1)) + x32.1)) x19.1 (IntKind.wrap .i64 (x20.1 - (1 : Int))))] 104).bind fun x33 => some (.next (j22, (IntKind.wrap .i64 (j23 - (1 : Int))), x32.2.fL, x32.2.fAt, x33, j27, j28, j29))
noncomputable def mL (x40 : ap × Bool) (s9 : Int) (s10 : Int) (s11 : Int) (s4 : Int) (s5 : Int) (s8 : (List aa)) : Int → Option (Step1 (Int) (Int × Int × Int × (List aa) × Int × Int × Int)) := fun s42 =>
  (tO (IntKind.wrap .i64 (x40.1.fX - s9))).bind fun x51 => (tO (IntKind.wrap .i64 (x40.1.fY - s10))).bind fun x52 => (tO (IntKind.wrap .i64 (x40.1.fZ - s11))).bind fun x53 => if (decide ((IntKind.wrap .i64 (s42 * s42)) < (IntKind.wrap .i64 ((IntKind.wrap .i64 (x51 + x52)) + x53)))) = true then (some (.next (IntKind.wrap .i64 (s42 + (1 : Int))))) else (some (.stop (s4, s5, s42, s8, s9, s10, s11)))
noncomputable def qg (a1 : aG) (a2 : ae) : (Int × Int × (List Int) × Int × (List aa) × Int × Int × Int) → Option (Step1 (Int × Int × (List Int) × Int × (List aa) × Int × Int × Int) ((List aa) × (List Int) × Int)) := fun (s4, s5, s6, s7, s8, s9, s10, s11) =>
  if (decide (s5 > (0 : Int))) = true then ((cN (6 : Int) (ah.mk s6 s7)).bind fun x17 => (eZ x17.1).bind fun x18 => (c7 [0, 1, 50, 1000, 1048576] x17.2).bind fun x19 => (cN (3 : Int) x19.2).bind fun x20 => (cN (2000 : Int) x20.2).bind fun x21 => (cN (6 : Int) x21.2).bind fun x35 => if (x35.1 == (0 : Int)) = true then ((pw a1.av.aS x35.2).bind fun x37 => (cN (900 : Int) x37.2).bind fun x38 => fE x18 x19 x20 (IntKind.wrap .i64 (s4 + x38.1)) s5 x38.2.fL x38.2.fAt s8 x37.1.fX x37.1.fY x37.1.fZ (IntKind.wrap .i64 ((1000 : Int) + x21.1))) else (if (x35.1 == (1 : Int)) = true then (fE x18 x19 x20 s4 s5 x35.2.fL x35.2.fAt s8 s9 s10 s11 (IntKind.wrap .i64 ((1000 : Int) + x21.1))) else ((pC a2 x18 s4).bind fun x40 => if x40.2 = true then ((loopO (mL x40 s9 s10 s11 s4 s5 s8) (0 : Int)).bind fun o56 => (quoO .i64 o56.2.2.1 a1.av.bw.bH).bind fun x57 => (getO a1.av.bw.bf (if (IntKind.wrap .i64 ((a1.av.bw.bf.length : Int) - (1 : Int))) < x57 then (IntKind.wrap .i64 ((a1.av.bw.bf.length : Int) - (1 : Int))) else x57)).bind fun x58 => (cN (6 : Int) x35.2).bind fun x59 => fE x18 x19 x20 o56.1 o56.2.1 x59.2.fL x59.2.fAt o56.2.2.2.1 o56.2.2.2.2.1 o56.2.2.2.2.2.1 o56.2.2.2.2.2.2 (IntKind.wrap .i64 ((IntKind.wrap .i64 (o56.1 + x58)) + x59.1))) else (fE x18 x19 x20 s4 s5 x35.2.fL x35.2.fAt s8 s9 s10 s11 (IntKind.wrap .i64 ((1000 : Int) + x21.1)))))) else (some (.stop (s8, s6, s7)))
noncomputable def iG (a1 : aG) (a2 : ae) (a3 : Int) (d0 : ah) : Option ((List aa) × ah) :=
  (pw a1.av.aS d0).bind fun x1 => (cN (500 : Int) x1.2).bind fun x2 => (cN (IntKind.wrap .i64 (a3 + (1 : Int))) x2.2).bind fun x3 => (loopO (qg a1 a2) ((IntKind.wrap .i64 ((1000 : Int) + x2.1)), x3.1, x3.2.fL, x3.2.fAt, ([] : (List aa)), x1.1.fX, x1.1.fY, x1.1.fZ)).bind fun o61 => some (o61.1, (ah.mk o61.2.1 o61.2.2))
noncomputable def l8 (a0 : Int) : Option (Bool) :=
  if (decide (a0 ≥ (65 : Int))) = true then (if (decide (a0 ≤ (90 : Int))) = true then (some true) else (if (decide (a0 ≥ (48 : Int))) = true then (some (decide (a0 ≤ (57 : Int)))) else (some false))) else (if (decide (a0 ≥ (48 : Int))) = true then (some (decide (a0 ≤ (57 : Int)))) else (some false))
noncomputable def jx (a0 : (List UInt8)) : Int → Option (Step1 (Int) ((Unit) ⊕ (Bool))) := fun s1 =>
  if (decide (s1 < (a0.length : Int))) = true then ((byteO a0 s1).bind fun x4 => (l8 x4).bind fun x5 => if (!x5) = true then (some (.stop (.inr false))) else (some (.next (IntKind.wrap .i64 (s1 + (1 : Int)))))) else (some (.stop (.inl ())))
noncomputable def iW (a0 : (List UInt8)) (a1 : Int) (a2 : Int) : Option (Bool) :=
  (loopO (jx a0) (0 : Int)).bind fun o8 => match o8 with | .inl _ => (if (decide ((a0.length : Int) ≥ a1)) = true then (some (decide ((a0.length : Int) ≤ a2))) else (some false)) | .inr r10 => (some r10)
noncomputable def jZ (a0 : ag) : Option (Bool) :=
  (iW a0.aB (1 : Int) (2 : Int)).bind fun x1 => if x1 = true then ((iW a0.aA (1 : Int) (5 : Int)).bind fun x3 => if x3 = true then ((iW a0.aw (0 : Int) (2 : Int)).bind fun x5 => if x5 = true then (if ((a0.aw.length : Int) != (1 : Int)) = true then ((iW a0.aC (3 : Int) (3 : Int)).bind fun x8 => some x8) else (some false)) else (some false)) else (some false)) else (some false)
noncomputable def lR (a0 : Int) (a1 : Int) (a2 : Int) : Option (Bool) :=
  if (decide (a0 ≥ a1)) = true then (some (decide (a0 ≤ a2))) else (some false)
noncomputable def et (a0 : aa) : Option (Bool) :=
  (jZ a0.al).bind fun x1 => if x1 = true then (if (decide (a0.aI ≥ (0 : Int))) = true then (if (decide (a0.aI ≤ a0.aN)) = true then (if (decide (a0.aN ≤ a0.aX)) = true then (if (decide (a0.aX ≤ (18014398509481984 : Int))) = true then ((lR a0.aH (0 : Int) (1073741823 : Int)).bind fun x7 => if x7 = true then ((lR a0.aJ (-1 : Int) (1 : Int)).bind fun x9 => some x9) else (some false)) else (some false)) else (some false)) else (some false)) else (some false)) else (some false)
noncomputable def fm (a0 : aa) : Option (Bool) :=
  (et a0).bind fun x1 => some (!x1)
noncomputable def cC (a0 : (List aa)) : Int → Option (Step1 (Int) ((Unit) ⊕ (Int))) := fun s1 =>
  if (decide (s1 < (a0.length : Int))) = true then ((getO a0 s1).bind fun x4 => (fm x4).bind fun x5 => if x5 = true then (some (.stop (.inr s1))) else (some (.next (IntKind.wrap .i64 (s1 + (1 : Int)))))) else (some (.stop (.inl ())))
noncomputable def da (a0 : (List aa)) : Option (Int) :=
  (loopO (cC a0) (0 : Int)).bind fun o8 => match o8 with | .inl _ => (some (-1 : Int)) | .inr r10 => (some r10)
noncomputable def cB (a0 : (List aa)) : Option (Bool) :=
  (da a0).bind fun x1 => some (decide (x1 ≥ (0 : Int)))
noncomputable def dl (a0 : (List aa)) : Option (Bool) :=
  (cB a0).bind fun x1 => some (!x1)
noncomputable def fr (a0 : (List UInt8)) : Option (Bool) :=
  some (!(a0 == a0))
noncomputable def cq (a0 : (List UInt8)) (a1 : (List UInt8)) : Option (Int) :=
  (fr a0).bind fun x1 => (fr a1).bind fun x2 => if x1 = true then (if x2 = true then (some (0 : Int)) else (some (-1 : Int))) else (if x2 = true then (some (1 : Int)) else (if (Op.bytesLess a0 a1) = true then (some (-1 : Int)) else (if (!(Op.bytesLess a0 a1 || a0 == a1)) = true then (some (1 : Int)) else (some (0 : Int)))))
noncomputable def dT (a0 : (List Int)) : Int → Option (Step1 (Int) ((Unit) ⊕ (Int))) := fun s1 =>
  if (decide (s1 < (a0.length : Int))) = true then ((getO a0 s1).bind fun x4 => if (x4 != (0 : Int)) = true then (some (.stop (.inr x4))) else (some (.next (IntKind.wrap .i64 (s1 + (1 : Int)))))) else (some (.stop (.inl ())))
noncomputable def hF (a0 : (List Int)) : Option (Int) :=
  (loopO (dT a0) (0 : Int)).bind fun o7 => match o7 with | .inl _ => (some (0 : Int)) | .inr r9 => (some r9)
noncomputable def ci (a0 : ag) (a1 : ag) : Option (Int) :=
  (cq a0.aB a1.aB).bind fun x1 => (cq a0.aA a1.aA).bind fun x2 => (cq a0.aw a1.aw).bind fun x3 => (cq a0.aC a1.aC).bind fun x4 => (hF [x1, x2, x3, x4]).bind fun x5 => some x5
noncomputable def iZ (a0 : Int) : Option (Bool) :=
  some (a0 != a0)
noncomputable def bA (a0 : Int) (a1 : Int) : Option (Int) :=
  (iZ a0).bind fun x1 => (iZ a1).bind fun x2 => if x1 = true then (if x2 = true then (some (0 : Int)) else (some (-1 : Int))) else (if x2 = true then (some (1 : Int)) else (if (decide (a0 < a1)) = true then (some (-1 : Int)) else (if (decide (a0 > a1)) = true then (some (1 : Int)) else (some (0 : Int)))))
noncomputable def bu (a0 : aa) (a1 : aa) : Option (Int) :=
  (ci a0.al a1.al).bind fun x1 => (bA a0.aN a1.aN).bind fun x2 => (bA a0.aI a1.aI).bind fun x3 => (bA a0.aX a1.aX).bind fun x4 => (bA a0.aH a1.aH).bind fun x5 => (bA a0.aJ a1.aJ).bind fun x6 => (hF [x1, x2, x3, x4, x5, x6]).bind fun x7 => some x7
noncomputable def gf (s2 : Int) (d0 : (List aa)) : (Int × Int × (List aa)) → Option (Step1 (Int × Int × (List aa)) (Int × (List aa))) := fun (s13, s14, s15) =>
  (lenV s15.length (0 + (s2 : Int).toNat) (0 + ((d0.length : Int) : Int).toNat)).bind fun x19 => if (decide (s14 < x19)) = true then ((inV s15.length (0 + (s2 : Int).toNat) (0 + ((d0.length : Int) : Int).toNat) s14).bind fun _ => (getO s15 (((0 + (s2 : Int).toNat) + (s14 : Int).toNat : Nat) : Int)).bind fun x22 => (inV s15.length (0 + (s2 : Int).toNat) (0 + ((d0.length : Int) : Int).toNat) (IntKind.wrap .i64 (s14 - (1 : Int)))).bind fun _ => (getO s15 (((0 + (s2 : Int).toNat) + ((IntKind.wrap .i64 (s14 - (1 : Int))) : Int).toNat : Nat) : Int)).bind fun x24 => if (!(((x22.al.aB == x24.al.aB) && ((x22.al.aA == x24.al.aA) && ((x22.al.aw == x24.al.aw) && ((x22.al.aC == x24.al.aC) && true)))) && ((x22.aN == x24.aN) && ((x22.aI == x24.aI) && ((x22.aX == x24.aX) && ((x22.aH == x24.aH) && ((x22.aJ == x24.aJ) && true))))))) = true then ((inV s15.length (0 + (s2 : Int).toNat) (0 + ((d0.length : Int) : Int).toNat) s14).bind fun _ => (getO s15 (((0 + (s2 : Int).toNat) + (s14 : Int).toNat : Nat) : Int)).bind fun x27 => (inO s15 s13).bind fun _ => (setO s15 s13 x27).bind fun x30 => some (.next ((IntKind.wrap .i64 (s13 + (1 : Int))), (IntKind.wrap .i64 (s14 + (1 : Int))), x30))) else (some (.next (s13, (IntKind.wrap .i64 (s14 + (1 : Int))), s15)))) else (some (.stop (s13, s15)))
noncomputable def eu (d0 : (List aa)) : Int → Option (Step1 (Int) ((Unit) ⊕ ((List aa)))) := fun s2 =>
  if (decide (s2 < (d0.length : Int))) = true then ((inO d0 s2).bind fun _ => (getO d0 s2).bind fun x7 => (inO d0 (IntKind.wrap .i64 (s2 - (1 : Int)))).bind fun _ => (getO d0 (IntKind.wrap .i64 (s2 - (1 : Int)))).bind fun x10 => if (((x7.al.aB == x10.al.aB) && ((x7.al.aA == x10.al.aA) && ((x7.al.aw == x10.al.aw) && ((x7.al.aC == x10.al.aC) && true)))) && ((x7.aN == x10.aN) && ((x7.aI == x10.aI) && ((x7.aX == x10.aX) && ((x7.aH == x10.aH) && ((x7.aJ == x10.aJ) && true)))))) = true then ((subO d0.length s2 (d0.length : Int)).bind fun _ => (loopO (gf s2 d0) (s2, (1 : Int), d0)).bind fun o32 => (subO o32.2.length o32.1 (o32.2.length : Int)).bind fun _ => (viewO o32.2.length (0 + (o32.1 : Int).toNat) (0 + ((o32.2.length : Int) : Int).toNat)).bind fun _ => (subO (clearL o32.2 (0 + (o32.1 : Int).toNat) ((0 + ((o32.2.length : Int) : Int).toNat) - (0 + (o32.1 : Int).toNat)) (aa.mk (ag.mk [] [] [] []) 0 0 0 0 0)).length (0 : Int) o32.1).bind fun _ => some (.stop (.inr ((clearL o32.2 (0 + (o32.1 : Int).toNat) ((0 + ((o32.2.length : Int) : Int).toNat) - (0 + (o32.1 : Int).toNat)) (aa.mk (ag.mk [] [] [] []) 0 0 0 0 0)).take (o32.1 : Int).toNat)))) else (some (.next (IntKind.wrap .i64 (s2 + (1 : Int)))))) else (some (.stop (.inl ())))
noncomputable def cO (d0 : (List aa)) : Option ((List aa)) :=
  if (decide ((d0.length : Int) < (2 : Int))) = true then (some d0) else ((loopO (eu d0) (1 : Int)).bind fun o38 => match o38 with | .inl _ => (some d0) | .inr r40 => (some r40))
noncomputable def iS (a0 : (List aa)) : Option ((List aa)) :=
  (cloneO 104 a0).bind fun x1 => (sortO bu x1).bind fun x2 => (cO x2).bind fun x3 => some x3
noncomputable def bS (a0 : aa) (a1 : aa) : Option (Int) :=
  (bA a0.aI a1.aI).bind fun x1 => some x1
noncomputable def bI (a1 : Int) (s1 : Int) : (Int × (List aa)) → Option (Step1 (Int × (List aa)) (Int × (List aa))) := fun (s5, s6) =>
  if (decide (s5 > a1)) = true then ((inO s6 s5).bind fun _ => (getO s6 s5).bind fun x13 => (inO s6 (IntKind.wrap .i64 (s5 - (1 : Int)))).bind fun _ => (getO s6 (IntKind.wrap .i64 (s5 - (1 : Int)))).bind fun x16 => (bS x13 x16).bind fun x17 => if (decide (x17 < (0 : Int))) = true then ((inO s6 (IntKind.wrap .i64 (s5 - (1 : Int)))).bind fun _ => (getO s6 (IntKind.wrap .i64 (s5 - (1 : Int)))).bind fun x21 => (inO s6 s5).bind fun _ => (getO s6 s5).bind fun x24 => (inO s6 s5).bind fun _ => (setO s6 s5 x21).bind fun x27 => (inO x27 (IntKind.wrap .i64 (s5 - (1 : Int)))).bind fun _ => (setO x27 (IntKind.wrap .i64 (s5 - (1 : Int))) x24).bind fun x30 => some (.next ((IntKind.wrap .i64 (s5 - (1 : Int))), x30))) else (some (.stop (s1, s6)))) else (some (.stop (s1, s6)))
noncomputable def bv (a2 : Int) (a1 : Int) : (Int × (List aa)) → Option (Step1 (Int × (List aa)) ((List aa))) := fun (s1, s2) =>
  if (decide (s1 < a2)) = true then ((loopO (bI a1 s1) (s1, s2)).bind fun o32 => some (.next ((IntKind.wrap .i64 (o32.1 + (1 : Int))), o32.2))) else ((some s2).bind fun z33 => some (.stop z33))
noncomputable def ba (a1 : Int) (a2 : Int) (d0 : (List aa)) : Option ((List aa)) :=
  (loopO (bv a2 a1) ((IntKind.wrap .i64 (a1 + (1 : Int))), d0)).bind fun o35 => some o35
noncomputable def dp (a3 : Int) (a2 : Int) (a1 : Int) : (Int × (List aa)) → Option (Step1 (Int × (List aa)) ((List aa))) := fun (s1, s2) =>
  if (decide (s1 < a3)) = true then ((inO s2 (IntKind.wrap .i64 (a2 + s1))).bind fun _ => (getO s2 (IntKind.wrap .i64 (a2 + s1))).bind fun x7 => (inO s2 (IntKind.wrap .i64 (a1 + s1))).bind fun _ => (getO s2 (IntKind.wrap .i64 (a1 + s1))).bind fun x10 => (inO s2 (IntKind.wrap .i64 (a1 + s1))).bind fun _ => (setO s2 (IntKind.wrap .i64 (a1 + s1)) x7).bind fun x13 => (inO x13 (IntKind.wrap .i64 (a2 + s1))).bind fun _ => (setO x13 (IntKind.wrap .i64 (a2 + s1)) x10).bind fun x16 => some (.next ((IntKind.wrap .i64 (s1 + (1 : Int))), x16))) else ((some s2).bind fun z17 => some (.stop z17))
noncomputable def bP (a1 : Int) (a2 : Int) (a3 : Int) (d0 : (List aa)) : Option ((List aa)) :=
  (loopO (dp a3 a2 a1) ((0 : Int), d0)).bind fun o19 => some o19
noncomputable def ef (a2 : Int) : (Int × Int × (List aa)) → Option (Step1 (Int × Int × (List aa)) (Int × (List aa))) := fun (s1, s2, s3) =>
  if (s1 != s2) = true then (if (decide (s1 > s2)) = true then ((bP (IntKind.wrap .i64 (a2 - s1)) a2 s2 s3).bind fun x9 => some (.next ((IntKind.wrap .i64 (s1 - s2)), s2, x9))) else ((bP (IntKind.wrap .i64 (a2 - s1)) (IntKind.wrap .i64 ((IntKind.wrap .i64 (a2 + s2)) - s1)) s1 s3).bind fun x10 => some (.next (s1, (IntKind.wrap .i64 (s2 - s1)), x10)))) else (some (.stop (s1, s3)))
noncomputable def dn (a1 : Int) (a2 : Int) (a3 : Int) (d0 : (List aa)) : Option ((List aa)) :=
  (loopO (ef a2) ((IntKind.wrap .i64 (a2 - a1)), (IntKind.wrap .i64 (a3 - a2)), d0)).bind fun o12 => (bP (IntKind.wrap .i64 (a2 - o12.1)) a2 o12.1 o12.2).bind fun x13 => some x13
noncomputable def dL (d0 : (List aa)) (a1 : Int) : (Int × Int) → Option (Step1 (Int × Int) (Int)) := fun (s2, s3) =>
  if (decide (s2 < s3)) = true then ((inO d0 (IntKind.wrap .i64 (shrI .u64 (IntKind.wrap .u64 (IntKind.wrap .i64 (s2 + s3))) (1 : Int)))).bind fun _ => (getO d0 (IntKind.wrap .i64 (shrI .u64 (IntKind.wrap .u64 (IntKind.wrap .i64 (s2 + s3))) (1 : Int)))).bind fun x9 => (inO d0 a1).bind fun _ => (getO d0 a1).bind fun x12 => (bS x9 x12).bind fun x13 => if (decide (x13 < (0 : Int))) = true then (some (.next ((IntKind.wrap .i64 ((IntKind.wrap .i64 (shrI .u64 (IntKind.wrap .u64 (IntKind.wrap .i64 (s2 + s3))) (1 : Int))) + (1 : Int))), s3))) else (some (.next (s2, (IntKind.wrap .i64 (shrI .u64 (IntKind.wrap .u64 (IntKind.wrap .i64 (s2 + s3))) (1 : Int))))))) else (some (.stop s2))
noncomputable def dM (o16 : Int) : (Int × (List aa)) → Option (Step1 (Int × (List aa)) ((List aa))) := fun (s17, s18) =>
  if (decide (s17 < (IntKind.wrap .i64 (o16 - (1 : Int))))) = true then ((inO s18 (IntKind.wrap .i64 (s17 + (1 : Int)))).bind fun _ => (getO s18 (IntKind.wrap .i64 (s17 + (1 : Int)))).bind fun x23 => (inO s18 s17).bind fun _ => (getO s18 s17).bind fun x26 => (inO s18 s17).bind fun _ => (setO s18 s17 x23).bind fun x29 => (inO x29 (IntKind.wrap .i64 (s17 + (1 : Int)))).bind fun _ => (setO x29 (IntKind.wrap .i64 (s17 + (1 : Int))) x26).bind fun x32 => some (.next ((IntKind.wrap .i64 (s17 + (1 : Int))), x32))) else ((some s18).bind fun z33 => some (.stop z33))
noncomputable def dN (d0 : (List aa)) (a2 : Int) : (Int × Int) → Option (Step1 (Int × Int) (Int)) := fun (s37, s38) =>
  if (decide (s37 < s38)) = true then ((inO d0 a2).bind fun _ => (getO d0 a2).bind fun x44 => (inO d0 (IntKind.wrap .i64 (shrI .u64 (IntKind.wrap .u64 (IntKind.wrap .i64 (s37 + s38))) (1 : Int)))).bind fun _ => (getO d0 (IntKind.wrap .i64 (shrI .u64 (IntKind.wrap .u64 (IntKind.wrap .i64 (s37 + s38))) (1 : Int)))).bind fun x47 => (bS x44 x47).bind fun x48 => if (!(decide (x48 < (0 : Int)))) = true then (some (.next ((IntKind.wrap .i64 ((IntKind.wrap .i64 (shrI .u64 (IntKind.wrap .u64 (IntKind.wrap .i64 (s37 + s38))) (1 : Int))) + (1 : Int))), s38))) else (some (.next (s37, (IntKind.wrap .i64 (shrI .u64 (IntKind.wrap .u64 (IntKind.wrap .i64 (s37 + s38))) (1 : Int))))))) else (some (.stop s37))
noncomputable def dO (o51 : Int) : (Int × (List aa)) → Option (Step1 (Int × (List aa)) ((List aa))) := fun (s52, s53) =>
  if (decide (s52 > o51)) = true then ((inO s53 (IntKind.wrap .i64 (s52 - (1 : Int)))).bind fun _ => (getO s53 (IntKind.wrap .i64 (s52 - (1 : Int)))).bind fun x58 => (inO s53 s52).bind fun _ => (getO s53 s52).bind fun x61 => (inO s53 s52).bind fun _ => (setO s53 s52 x58).bind fun x64 => (inO x64 (IntKind.wrap .i64 (s52 - (1 : Int)))).bind fun _ => (setO x64 (IntKind.wrap .i64 (s52 - (1 : Int))) x61).bind fun x67 => some (.next ((IntKind.wrap .i64 (s52 - (1 : Int))), x67))) else ((some s53).bind fun z68 => some (.stop z68))
noncomputable def dP (d0 : (List aa)) (a1 : Int) (a3 : Int) (a2 : Int) : (Int × Int) → Option (Step1 (Int × Int) (Int)) := fun (s73, s74) =>
  if (decide (s73 < s74)) = true then ((inO d0 (IntKind.wrap .i64 ((IntKind.wrap .i64 ((IntKind.wrap .i64 ((IntKind.wrap .i64 (shrI .u64 (IntKind.wrap .u64 (IntKind.wrap .i64 (a1 + a3))) (1 : Int))) + a2)) - (1 : Int))) - (IntKind.wrap .i64 (shrI .u64 (IntKind.wrap .u64 (IntKind.wrap .i64 (s73 + s74))) (1 : Int)))))).bind fun _ => (getO d0 (IntKind.wrap .i64 ((IntKind.wrap .i64 ((IntKind.wrap .i64 ((IntKind.wrap .i64 (shrI .u64 (IntKind.wrap .u64 (IntKind.wrap .i64 (a1 + a3))) (1 : Int))) + a2)) - (1 : Int))) - (IntKind.wrap .i64 (shrI .u64 (IntKind.wrap .u64 (IntKind.wrap .i64 (s73 + s74))) (1 : Int)))))).bind fun x80 => (inO d0 (IntKind.wrap .i64 (shrI .u64 (IntKind.wrap .u64 (IntKind.wrap .i64 (s73 + s74))) (1 : Int)))).bind fun _ => (getO d0 (IntKind.wrap .i64 (shrI .u64 (IntKind.wrap .u64 (IntKind.wrap .i64 (s73 + s74))) (1 : Int)))).bind fun x83 => (bS x80 x83).bind fun x84 => if (!(decide (x84 < (0 : Int)))) = true then (some (.next ((IntKind.wrap .i64 ((IntKind.wrap .i64 (shrI .u64 (IntKind.wrap .u64 (IntKind.wrap .i64 (s73 + s74))) (1 : Int))) + (1 : Int))), s74))) else (some (.next (s73, (IntKind.wrap .i64 (shrI .u64 (IntKind.wrap .u64 (IntKind.wrap .i64 (s73 + s74))) (1 : Int))))))) else (some (.stop s73))
noncomputable def bh (a1 : Int) (a3 : Int) (a2 : Int) (o87 : Int) (rc : Int → Int → Int → (List aa) → Option ((List aa))) (j89 : (List aa)) : Option ((List aa)) :=
  if (decide ((IntKind.wrap .i64 (shrI .u64 (IntKind.wrap .u64 (IntKind.wrap .i64 (a1 + a3))) (1 : Int))) < (IntKind.wrap .i64 ((IntKind.wrap .i64 ((IntKind.wrap .i64 (shrI .u64 (IntKind.wrap .u64 (IntKind.wrap .i64 (a1 + a3))) (1 : Int))) + a2)) - o87)))) = true then (if (decide ((IntKind.wrap .i64 ((IntKind.wrap .i64 ((IntKind.wrap .i64 (shrI .u64 (IntKind.wrap .u64 (IntKind.wrap .i64 (a1 + a3))) (1 : Int))) + a2)) - o87)) < a3)) = true then ((rc (IntKind.wrap .i64 (shrI .u64 (IntKind.wrap .u64 (IntKind.wrap .i64 (a1 + a3))) (1 : Int))) (IntKind.wrap .i64 ((IntKind.wrap .i64 ((IntKind.wrap .i64 (shrI .u64 (IntKind.wrap .u64 (IntKind.wrap .i64 (a1 + a3))) (1 : Int))) + a2)) - o87)) a3 j89).bind fun x92 => some x92) else (some j89)) else (some j89)
noncomputable def bi (a1 : Int) (o87 : Int) (a3 : Int) (rc : Int → Int → Int → (List aa) → Option ((List aa))) (a2 : Int) (j88 : (List aa)) : Option ((List aa)) :=
  if (decide (a1 < o87)) = true then (if (decide (o87 < (IntKind.wrap .i64 (shrI .u64 (IntKind.wrap .u64 (IntKind.wrap .i64 (a1 + a3))) (1 : Int))))) = true then ((rc a1 o87 (IntKind.wrap .i64 (shrI .u64 (IntKind.wrap .u64 (IntKind.wrap .i64 (a1 + a3))) (1 : Int))) j88).bind fun x96 => bh a1 a3 a2 o87 rc x96) else (bh a1 a3 a2 o87 rc j88)) else (bh a1 a3 a2 o87 rc j88)
noncomputable def bo (d0 : (List aa)) (a1 : Int) (a3 : Int) (a2 : Int) (rc : Int → Int → Int → (List aa) → Option ((List aa))) (j71 : Int) (j72 : Int) : Option ((List aa)) :=
  (loopO (dP d0 a1 a3 a2) (j71, j72)).bind fun o87 => if (decide (o87 < a2)) = true then (if (decide (a2 < (IntKind.wrap .i64 ((IntKind.wrap .i64 ((IntKind.wrap .i64 (shrI .u64 (IntKind.wrap .u64 (IntKind.wrap .i64 (a1 + a3))) (1 : Int))) + a2)) - o87)))) = true then ((dn o87 a2 (IntKind.wrap .i64 ((IntKind.wrap .i64 ((IntKind.wrap .i64 (shrI .u64 (IntKind.wrap .u64 (IntKind.wrap .i64 (a1 + a3))) (1 : Int))) + a2)) - o87)) d0).bind fun x100 => bi a1 o87 a3 rc a2 x100) else (bi a1 o87 a3 rc a2 d0)) else (bi a1 o87 a3 rc a2 d0)
noncomputable def aZ : Nat → Int → Int → Int → (List aa) → Option ((List aa))
  | 0, _, _, _, _ => none
  | nfu + 1, a1, a2, a3, d0 =>
  if ((IntKind.wrap .i64 (a2 - a1)) == (1 : Int)) = true then ((loopO (dL d0 a1) (a2, a3)).bind fun o16 => (loopO (dM o16) (a1, d0)).bind fun o35 => some o35) else (if ((IntKind.wrap .i64 (a3 - a2)) == (1 : Int)) = true then ((loopO (dN d0 a2) (a1, a2)).bind fun o51 => (loopO (dO o51) (a2, d0)).bind fun o70 => some o70) else (if (decide (a2 > (IntKind.wrap .i64 (shrI .u64 (IntKind.wrap .u64 (IntKind.wrap .i64 (a1 + a3))) (1 : Int))))) = true then (bo d0 a1 a3 a2 (aZ nfu) (IntKind.wrap .i64 ((IntKind.wrap .i64 ((IntKind.wrap .i64 (shrI .u64 (IntKind.wrap .u64 (IntKind.wrap .i64 (a1 + a3))) (1 : Int))) + a2)) - a3)) (IntKind.wrap .i64 (shrI .u64 (IntKind.wrap .u64 (IntKind.wrap .i64 (a1 + a3))) (1 : Int)))) else (bo d0 a1 a3 a2 (aZ nfu) a1 a2)))
noncomputable def cY (a1 : Int) (a2 : Int) (a3 : Int) (d0 : (List aa)) : Option ((List aa)) := recO fun n => aZ n a1 a2 a3 d0
noncomputable def bp (a1 : Int) : (Int × Int × (List aa)) → Option (Step1 (Int × Int × (List aa)) (Int × (List aa))) := fun (s1, s2, s3) =>
  if (decide (s2 ≤ a1)) = true then ((ba s1 s2 s3).bind fun x8 => some (.next (s2, (IntKind.wrap .i64 (s2 + (20 : Int))), x8))) else (some (.stop (s1, s3)))
noncomputable def eh (a1 : Int) (s12 : Int) : (Int × Int × (List aa)) → Option (Step1 (Int × Int × (List aa)) (Int × Int × (List aa))) := fun (s16, s17, s18) =>
  if (decide (s17 ≤ a1)) = true then ((cY s16 (IntKind.wrap .i64 (s16 + s12)) s17 s18).bind fun x24 => some (.next (s17, (IntKind.wrap .i64 (s17 + (IntKind.wrap .i64 ((2 : Int) * s12)))), x24))) else (some (.stop (s12, s16, s18)))
noncomputable def cf (a1 : Int) : (Int × (List aa)) → Option (Step1 (Int × (List aa)) ((List aa))) := fun (s12, s13) =>
  if (decide (s12 < a1)) = true then ((loopO (eh a1 s12) ((0 : Int), (IntKind.wrap .i64 ((2 : Int) * s12)), s13)).bind fun o26 => if (decide ((IntKind.wrap .i64 (o26.2.1 + o26.1)) < a1)) = true then ((cY o26.2.1 (IntKind.wrap .i64 (o26.2.1 + o26.1)) a1 o26.2.2).bind fun x28 => some (.next ((IntKind.wrap .i64 (o26.1 * (2 : Int))), x28))) else (some (.next ((IntKind.wrap .i64 (o26.1 * (2 : Int))), o26.2.2)))) else ((some s13).bind fun z29 => some (.stop z29))
noncomputable def cw (a1 : Int) (d0 : (List aa)) : Option ((List aa)) :=
  (loopO (bp a1) ((0 : Int), (20 : Int), d0)).bind fun o10 => (ba o10.1 a1 o10.2).bind fun x11 => (loopO (cf a1) ((20 : Int), x11)).bind fun o31 => some o31
noncomputable def bJ (d0 : (List aa)) : Option ((List aa)) :=
  (cw (d0.length : Int) d0).bind fun x1 => some x1
noncomputable def dj (x2 : (List aa)) (a0 : Int) : (Int × (List (List aa))) → Option (Step1 (Int × (List (List aa))) ((List (List aa)))) := fun (s3, s4) =>
  if (decide (s3 < (x2.length : Int))) = true then ((inO x2 s3).bind fun _ => (getO x2 s3).bind fun x10 => if (s3 == (0 : Int)) = true then ((appO s4 [[]] 24).bind fun x12 => (lastO x12).bind fun x13 => (inO x12 (IntKind.wrap .i64 ((x12.length : Int) - (1 : Int)))).bind fun _ => (atO (IntKind.wrap .i64 ((x12.length : Int) - (1 : Int))) (x12.length - 1)).bind fun _ => (appO x13 [x10] 104).bind fun x16 => (inO x12 (IntKind.wrap .i64 ((x12.length : Int) - (1 : Int)))).bind fun _ => (stO x12.length (IntKind.wrap .i64 ((x12.length : Int) - (1 : Int))) (x12.length - 1)).bind fun _ => some (.next ((IntKind.wrap .i64 (s3 + (1 : Int))), (x12.set (x12.length - 1) x16)))) else ((inO x2 (IntKind.wrap .i64 (s3 - (1 : Int)))).bind fun _ => (getO x2 (IntKind.wrap .i64 (s3 - (1 : Int)))).bind fun x21 => if (decide ((IntKind.wrap .i64 (x10.aI - x21.aI)) > a0)) = true then ((appO s4 [[]] 24).bind fun x23 => (lastO x23).bind fun x24 => (inO x23 (IntKind.wrap .i64 ((x23.length : Int) - (1 : Int)))).bind fun _ => (atO (IntKind.wrap .i64 ((x23.length : Int) - (1 : Int))) (x23.length - 1)).bind fun _ => (appO x24 [x10] 104).bind fun x27 => (inO x23 (IntKind.wrap .i64 ((x23.length : Int) - (1 : Int)))).bind fun _ => (stO x23.length (IntKind.wrap .i64 ((x23.length : Int) - (1 : Int))) (x23.length - 1)).bind fun _ => some (.next ((IntKind.wrap .i64 (s3 + (1 : Int))), (x23.set (x23.length - 1) x27)))) else ((lastO s4).bind fun x30 => (inO s4 (IntKind.wrap .i64 ((s4.length : Int) - (1 : Int)))).bind fun _ => (atO (IntKind.wrap .i64 ((s4.length : Int) - (1 : Int))) (s4.length - 1)).bind fun _ => (appO x30 [x10] 104).bind fun x33 => (inO s4 (IntKind.wrap .i64 ((s4.length : Int) - (1 : Int)))).bind fun _ => (stO s4.length (IntKind.wrap .i64 ((s4.length : Int) - (1 : Int))) (s4.length - 1)).bind fun _ => some (.next ((IntKind.wrap .i64 (s3 + (1 : Int))), (s4.set (s4.length - 1) x33)))))) else (some (.stop s4))
noncomputable def cG (o37 : (List (List aa))) : (Int × (List (List aa))) → Option (Step1 (Int × (List (List aa))) ((List (List aa)))) := fun (s38, s39) =>
  if (decide (s38 < (o37.length : Int))) = true then ((getO s39 s38).bind fun x43 => (inO s39 s38).bind fun _ => (atO s38 (Int.toNat s38)).bind fun _ => (sortO bu x43).bind fun x46 => some (.next ((IntKind.wrap .i64 (s38 + (1 : Int))), (s39.set (Int.toNat s38) x46)))) else (some (.stop s39))
noncomputable def ct (a0 : Int) (a1 : (List aa)) : Option ((List (List aa))) :=
  (iS a1).bind fun x1 => (bJ x1).bind fun x2 => (loopO (dj x2 a0) ((0 : Int), ([] : (List (List aa))))).bind fun o37 => (loopO (cG o37) ((0 : Int), o37)).bind fun o48 => some o48
noncomputable def bW (a0 : Int) (a1 : (List aa)) : Option ((List (List aa)) × Int) :=
  if (decide (a0 < (0 : Int))) = true then (some (([] : (List (List aa))), (2 : Int))) else (if (decide (a0 > (1099511627776 : Int))) = true then (some (([] : (List (List aa))), (2 : Int))) else ((dl a1).bind fun x3 => if (!x3) = true then (some (([] : (List (List aa))), (1 : Int))) else ((ct a0 a1).bind fun x5 => some (x5, (0 : Int)))))
noncomputable def fw (a0 : Int) : Option (aa) :=
  (eZ (0 : Int)).bind fun x1 => some (aa.mk x1 a0 a0 a0 0 0)
noncomputable def gI (s2 : Int) (d0 : (List ag)) : (Int × Int × (List ag)) → Option (Step1 (Int × Int × (List ag)) (Int × (List ag))) := fun (s13, s14, s15) =>
  (lenV s15.length (0 + (s2 : Int).toNat) (0 + ((d0.length : Int) : Int).toNat)).bind fun x19 => if (decide (s14 < x19)) = true then ((inV s15.length (0 + (s2 : Int).toNat) (0 + ((d0.length : Int) : Int).toNat) s14).bind fun _ => (getO s15 (((0 + (s2 : Int).toNat) + (s14 : Int).toNat : Nat) : Int)).bind fun x22 => (inV s15.length (0 + (s2 : Int).toNat) (0 + ((d0.length : Int) : Int).toNat) (IntKind.wrap .i64 (s14 - (1 : Int)))).bind fun _ => (getO s15 (((0 + (s2 : Int).toNat) + ((IntKind.wrap .i64 (s14 - (1 : Int))) : Int).toNat : Nat) : Int)).bind fun x24 => if (!((x22.aB == x24.aB) && ((x22.aA == x24.aA) && ((x22.aw == x24.aw) && ((x22.aC == x24.aC) && true))))) = true then ((inV s15.length (0 + (s2 : Int).toNat) (0 + ((d0.length : Int) : Int).toNat) s14).bind fun _ => (getO s15 (((0 + (s2 : Int).toNat) + (s14 : Int).toNat : Nat) : Int)).bind fun x27 => (inO s15 s13).bind fun _ => (setO s15 s13 x27).bind fun x30 => some (.next ((IntKind.wrap .i64 (s13 + (1 : Int))), (IntKind.wrap .i64 (s14 + (1 : Int))), x30))) else (some (.next (s13, (IntKind.wrap .i64 (s14 + (1 : Int))), s15)))) else (some (.stop (s13, s15)))
noncomputable def gJ (d0 : (List ag)) : Int → Option (Step1 (Int) ((Unit) ⊕ ((List ag)))) := fun s2 =>
  if (decide (s2 < (d0.length : Int))) = true then ((inO d0 s2).bind fun _ => (getO d0 s2).bind fun x7 => (inO d0 (IntKind.wrap .i64 (s2 - (1 : Int)))).bind fun _ => (getO d0 (IntKind.wrap .i64 (s2 - (1 : Int)))).bind fun x10 => if ((x7.aB == x10.aB) && ((x7.aA == x10.aA) && ((x7.aw == x10.aw) && ((x7.aC == x10.aC) && true)))) = true then ((subO d0.length s2 (d0.length : Int)).bind fun _ => (loopO (gI s2 d0) (s2, (1 : Int), d0)).bind fun o32 => (subO o32.2.length o32.1 (o32.2.length : Int)).bind fun _ => (viewO o32.2.length (0 + (o32.1 : Int).toNat) (0 + ((o32.2.length : Int) : Int).toNat)).bind fun _ => (subO (clearL o32.2 (0 + (o32.1 : Int).toNat) ((0 + ((o32.2.length : Int) : Int).toNat) - (0 + (o32.1 : Int).toNat)) (ag.mk [] [] [] [])).length (0 : Int) o32.1).bind fun _ => (partO (clearL o32.2 (0 + (o32.1 : Int).toNat) ((0 + ((o32.2.length : Int) : Int).toNat) - (0 + (o32.1 : Int).toNat)) (ag.mk [] [] [] [])) (0 + (0 : Int).toNat) (0 + (o32.1 : Int).toNat)).bind fun x37 => some (.stop (.inr x37))) else (some (.next (IntKind.wrap .i64 (s2 + (1 : Int)))))) else (some (.stop (.inl ())))
noncomputable def ev (d0 : (List ag)) : Option ((List ag)) :=
  if (decide ((d0.length : Int) < (2 : Int))) = true then (some d0) else ((loopO (gJ d0) (1 : Int)).bind fun o39 => match o39 with | .inl _ => (some d0) | .inr r41 => (some r41))
noncomputable def qN (a0 : (List ag)) : Option ((List ag)) :=
  (cloneO 64 a0).bind fun x1 => (sortO ci x1).bind fun x2 => (ev x2).bind fun x3 => some x3
noncomputable def uN (a0 : aj) : Option (Bool) :=
  some (decide (a0.aL < a0.fTo))
noncomputable def jy (a0 : aj) : Option (Bool) :=
  (uN a0).bind fun x1 => some (!x1)
noncomputable def f9 (d0 : (List aj)) : Int → Option (Step1 (Int) ((Unit) ⊕ (Int × (List aj)))) := fun s1 =>
  if (decide (s1 < (d0.length : Int))) = true then ((inO d0 s1).bind fun _ => (getO d0 s1).bind fun x6 => (jy x6).bind fun x7 => if x7 = true then (some (.stop (.inr (s1, d0)))) else (some (.next (IntKind.wrap .i64 (s1 + (1 : Int)))))) else (some (.stop (.inl ())))
noncomputable def eO (d0 : (List aj)) : Option (Int × (List aj)) :=
  (loopO (f9 d0) (0 : Int)).bind fun o10 => match o10 with | .inl _ => (some ((-1 : Int), d0)) | .inr r12 => (some r12)
noncomputable def fb  : (Int × Int × (List aj)) → Option (Step1 (Int × Int × (List aj)) (Int × (List aj))) := fun (s3, s4, s5) =>
  if (decide (s4 < (s5.length : Int))) = true then ((inO s5 s4).bind fun _ => (getO s5 s4).bind fun x12 => (jy x12).bind fun x13 => if (!x13) = true then ((inO s5 s3).bind fun _ => (setO s5 s3 x12).bind fun x17 => some (.next ((IntKind.wrap .i64 (s3 + (1 : Int))), (IntKind.wrap .i64 (s4 + (1 : Int))), x17))) else (some (.next (s3, (IntKind.wrap .i64 (s4 + (1 : Int))), s5)))) else (some (.stop (s3, s5)))
noncomputable def cU (d0 : (List aj)) : Option ((List aj)) :=
  (eO d0).bind fun x1 => if (x1.1 == (-1 : Int)) = true then (some x1.2) else ((loopO (fb) (x1.1, (IntKind.wrap .i64 (x1.1 + (1 : Int))), x1.2)).bind fun o19 => (subO o19.2.length o19.1 (o19.2.length : Int)).bind fun _ => (viewO o19.2.length (0 + (o19.1 : Int).toNat) (0 + ((o19.2.length : Int) : Int).toNat)).bind fun _ => (subO (clearL o19.2 (0 + (o19.1 : Int).toNat) ((0 + ((o19.2.length : Int) : Int).toNat) - (0 + (o19.1 : Int).toNat)) (aj.mk 0 0)).length (0 : Int) o19.1).bind fun _ => some ((clearL o19.2 (0 + (o19.1 : Int).toNat) ((0 + ((o19.2.length : Int) : Int).toNat) - (0 + (o19.1 : Int).toNat)) (aj.mk 0 0)).take (o19.1 : Int).toNat))
noncomputable def cd (a0 : aj) (a1 : aj) : Option (Int) :=
  (bA a0.aL a1.aL).bind fun x1 => some x1
noncomputable def ni (x3 : (List aj)) : (Int × (List aj)) → Option (Step1 (Int × (List aj)) ((List aj))) := fun (s4, s5) =>
  if (decide (s4 < (x3.length : Int))) = true then ((inO x3 s4).bind fun _ => (getO x3 s4).bind fun x11 => if (decide ((s5.length : Int) > (0 : Int))) = true then ((inO s5 (IntKind.wrap .i64 ((s5.length : Int) - (1 : Int)))).bind fun _ => (getO s5 (IntKind.wrap .i64 ((s5.length : Int) - (1 : Int)))).bind fun x15 => if (decide (x11.aL ≤ x15.fTo)) = true then ((inO s5 (IntKind.wrap .i64 ((s5.length : Int) - (1 : Int)))).bind fun _ => (getO s5 (IntKind.wrap .i64 ((s5.length : Int) - (1 : Int)))).bind fun x19 => (inO s5 (IntKind.wrap .i64 ((s5.length : Int) - (1 : Int)))).bind fun _ => (modO s5 (IntKind.wrap .i64 ((s5.length : Int) - (1 : Int))) (fun (z23 : aj) => (aj.mk z23.aL (if x11.fTo > x19.fTo then x11.fTo else x19.fTo)))).bind fun x22 => some (.next ((IntKind.wrap .i64 (s4 + (1 : Int))), x22))) else ((appO s5 [x11] 16).bind fun x24 => some (.next ((IntKind.wrap .i64 (s4 + (1 : Int))), x24)))) else ((appO s5 [x11] 16).bind fun x25 => some (.next ((IntKind.wrap .i64 (s4 + (1 : Int))), x25)))) else (some (.stop s5))
noncomputable def iX (a0 : (List aj)) : Option ((List aj)) :=
  (cloneO 16 a0).bind fun x1 => (cU x1).bind fun x2 => (sortO cd x2).bind fun x3 => (loopO (ni x3) ((0 : Int), ([] : (List aj)))).bind fun o27 => some o27
noncomputable def gx (a0 : (List aa)) : (Int × (List (ag × (List aj))) × (List ag)) → Option (Step1 (Int × (List (ag × (List aj))) × (List ag)) ((List (ag × (List aj))) × (List ag))) := fun (s1, s2, s3) =>
  if (decide (s1 < (a0.length : Int))) = true then ((getO a0 s1).bind fun x8 => (et x8).bind fun x9 => if (!x9) = true then (some (.next ((IntKind.wrap .i64 (s1 + (1 : Int))), s2, s3))) else ((appO s3 [x8.al] 64).bind fun x11 => (appO (mGet xA x8.al [] s2) [(aj.mk x8.aN (IntKind.wrap .i64 (x8.aN + (1 : Int))))] 16).bind fun x12 => some (.next ((IntKind.wrap .i64 (s1 + (1 : Int))), (mPut xA x8.al x12 s2), x11)))) else (some (.stop (s2, s3)))
noncomputable def gy (x15 : (List ag)) (o14 : (List (ag × (List aj))) × (List ag)) : (Int × (List az)) → Option (Step1 (Int × (List az)) ((List az))) := fun (s17, s18) =>
  if (decide (s17 < (x15.length : Int))) = true then ((getO x15 s17).bind fun x22 => (iX (mGet xA x22 ([] : (List aj)) o14.1)).bind fun x23 => (appO s18 [(az.mk x22 x23)] 88).bind fun x24 => some (.next ((IntKind.wrap .i64 (s17 + (1 : Int))), x24))) else (some (.stop s18))
noncomputable def fu (a0 : (List aa)) : Option ((List az)) :=
  (loopO (gx a0) ((0 : Int), ([] : List (ag × (List aj))), ([] : (List ag)))).bind fun o14 => (qN o14.2).bind fun x15 => (loopO (gy x15 o14) ((0 : Int), ([] : (List az)))).bind fun o26 => some o26
noncomputable def jW (a0 : (List az)) (s2 : Int) (a1 : (List az)) : Int → Option (Step1 (Int) ((Int) ⊕ (Bool))) := fun s11 =>
  (getO a0 s2).bind fun x14 => if (decide (s11 < (x14.ew.length : Int))) = true then ((getO a0 s2).bind fun x16 => (getO x16.ew s11).bind fun x17 => (getO a1 s2).bind fun x18 => (getO x18.ew s11).bind fun x19 => if (!((x17.aL == x19.aL) && ((x17.fTo == x19.fTo) && true))) = true then (some (.stop (.inr false))) else (some (.next (IntKind.wrap .i64 (s11 + (1 : Int)))))) else (some (.stop (.inl s2)))
noncomputable def jX (a0 : (List az)) (a1 : (List az)) : Int → Option (Step1 (Int) ((Unit) ⊕ (Bool))) := fun s2 =>
  if (decide (s2 < (a0.length : Int))) = true then ((getO a0 s2).bind fun x5 => (getO a1 s2).bind fun x6 => if (!((x5.al.aB == x6.al.aB) && ((x5.al.aA == x6.al.aA) && ((x5.al.aw == x6.al.aw) && ((x5.al.aC == x6.al.aC) && true))))) = true then (some (.stop (.inr false))) else ((getO a0 s2).bind fun x8 => (getO a1 s2).bind fun x9 => if ((x8.ew.length : Int) != (x9.ew.length : Int)) = true then (some (.stop (.inr false))) else ((loopO (jW a0 s2 a1) (0 : Int)).bind fun o22 => match o22 with | .inl y23 => (some (.next (IntKind.wrap .i64 (y23 + (1 : Int))))) | .inr r24 => (some (.stop (.inr r24)))))) else (some (.stop (.inl ())))
noncomputable def ed (a0 : (List az)) (a1 : (List az)) : Option (Bool) :=
  if ((a0.length : Int) != (a1.length : Int)) = true then (some false) else ((loopO (jX a0 a1) (0 : Int)).bind fun o26 => match o26 with | .inl _ => (some true) | .inr r28 => (some r28))
noncomputable def e7  : Option (Bool) :=
  (fw (16 : Int)).bind fun x1 => (fw (0 : Int)).bind fun x2 => (fw (40 : Int)).bind fun x3 => (fw (8 : Int)).bind fun x4 => (bW (10 : Int) [x1, x2, x3, x4]).bind fun x5 => (fw (4 : Int)).bind fun x6 => (fw (5 : Int)).bind fun x7 => (fw (9 : Int)).bind fun x8 => (fu [x6, x7, x8]).bind fun x9 => if (x5.2 == (0 : Int)) = true then (if ((x5.1.length : Int) == (2 : Int)) = true then ((getO x5.1 (0 : Int)).bind fun x12 => if ((x12.length : Int) == (3 : Int)) = true then ((getO x5.1 (1 : Int)).bind fun x14 => (getO x14 (0 : Int)).bind fun x15 => (fw (40 : Int)).bind fun x16 => if (((x15.al.aB == x16.al.aB) && ((x15.al.aA == x16.al.aA) && ((x15.al.aw == x16.al.aw) && ((x15.al.aC == x16.al.aC) && true)))) && ((x15.aN == x16.aN) && ((x15.aI == x16.aI) && ((x15.aX == x16.aX) && ((x15.aH == x16.aH) && ((x15.aJ == x16.aJ) && true)))))) = true then ((eZ (0 : Int)).bind fun x18 => (ed x9 [(az.mk x18 [(aj.mk 4 6), (aj.mk 9 10)])]).bind fun x19 => some x19) else (some false)) else (some false)) else (some false)) else (some false)
noncomputable def kS (a1 : ae) : (Int × (List Int) × Int × (List ac)) → Option (Step1 (Int × (List Int) × Int × (List ac)) ((List Int) × Int × (List ac))) := fun (s1, s2, s3, s4) =>
  if (decide (s1 < (a1.aq.length : Int))) = true then ((getO a1.aq s1).bind fun x10 => (appO ([] : List ai) x10.aP 80).bind fun x11 => (cN (x11.length : Int) (ah.mk s2 s3)).bind fun x12 => (cN (10 : Int) x12.2).bind fun x13 => if (x13.1 == (0 : Int)) = true then ((lJ (60 : Int) x13.2).bind fun x15 => (inO x11 x12.1).bind fun _ => (modO x11 x12.1 (fun (z19 : ai) => (ai.mk z19.aL z19.fTo z19.bN x15.1 z19.aV))).bind fun x18 => (appO s4 [(ac.mk x10.al x18)] 88).bind fun x20 => some (.next ((IntKind.wrap .i64 (s1 + (1 : Int))), x15.2.fL, x15.2.fAt, x20))) else (if (x13.1 == (1 : Int)) = true then ((fF x13.2).bind fun x22 => (inO x11 x12.1).bind fun _ => (modO x11 x12.1 (fun (z26 : ai) => (ai.mk z26.aL z26.fTo z26.bN z26.aF x22.1))).bind fun x25 => (appO s4 [(ac.mk x10.al x25)] 88).bind fun x27 => some (.next ((IntKind.wrap .i64 (s1 + (1 : Int))), x22.2.fL, x22.2.fAt, x27))) else (if (x13.1 == (2 : Int)) = true then ((inO x11 (IntKind.wrap .i64 ((x11.length : Int) - (1 : Int)))).bind fun _ => (getO x11 (IntKind.wrap .i64 ((x11.length : Int) - (1 : Int)))).bind fun x31 => (cN (4000 : Int) x13.2).bind fun x32 => (c7 [1, 1000] x32.2).bind fun x33 => (inO x11 (IntKind.wrap .i64 ((x11.length : Int) - (1 : Int)))).bind fun _ => (modO x11 (IntKind.wrap .i64 ((x11.length : Int) - (1 : Int))) (fun (z37 : ai) => (ai.mk z37.aL (IntKind.wrap .i64 ((IntKind.wrap .i64 (x31.aL + (1 : Int))) + (IntKind.wrap .i64 (x32.1 * x33.1)))) z37.bN z37.aF z37.aV))).bind fun x36 => (appO s4 [(ac.mk x10.al x36)] 88).bind fun x38 => some (.next ((IntKind.wrap .i64 (s1 + (1 : Int))), x33.2.fL, x33.2.fAt, x38))) else (if (x13.1 == (3 : Int)) = true then (some (.next ((IntKind.wrap .i64 (s1 + (1 : Int))), x13.2.fL, x13.2.fAt, s4))) else (if (x13.1 == (4 : Int)) = true then ((cN (2 : Int) x13.2).bind fun x41 => (inO x11 x12.1).bind fun _ => (modO x11 x12.1 (fun (z45 : ai) => (ai.mk z45.aL z45.fTo (aT.mk (IntKind.wrap .i64 ((50 : Int) + x41.1)) z45.bN.aQ) z45.aF z45.aV))).bind fun x44 => (inO x44 x12.1).bind fun _ => (modO x44 x12.1 (fun (z49 : ai) => (ai.mk z49.aL z49.fTo (aT.mk z49.bN.aW 1) z49.aF z49.aV))).bind fun x48 => (appO s4 [(ac.mk x10.al x48)] 88).bind fun x50 => some (.next ((IntKind.wrap .i64 (s1 + (1 : Int))), x41.2.fL, x41.2.fAt, x50))) else ((appO s4 [(ac.mk x10.al x11)] 88).bind fun x51 => some (.next ((IntKind.wrap .i64 (s1 + (1 : Int))), x13.2.fL, x13.2.fAt, x51)))))))) else (some (.stop (s2, s3, s4)))
noncomputable def gN (a1 : ae) (d0 : ah) : Option (ae × ah) :=
  (loopO (kS a1) ((0 : Int), d0.fL, d0.fAt, ([] : (List ac)))).bind fun o53 => some ((ae.mk o53.2.2), (ah.mk o53.1 o53.2.1))
noncomputable def yH (a0 : Int) (a1 : Int) (a2 : Int) : Option (Bool) :=
  if (decide (a0 ≥ a1)) = true then (some (decide (a0 ≤ a2))) else (some false)
noncomputable def wA  : (Int × Int) → Option (Step1 (Int × Int) (Int)) := fun (s1, s2) =>
  if (s2 != (0 : Int)) = true then ((remO s1 s2).bind fun x6 => some (.next (s2, x6))) else (some (.stop s1))
noncomputable def yG (a0 : Int) (a1 : Int) : Option (Int) :=
  (loopO (wA) (a0, a1)).bind fun o8 => some o8
noncomputable def sw (a0 : aT) : Option (Bool) :=
  (yH a0.aW (1 : Int) (4096 : Int)).bind fun x1 => if x1 = true then ((yH a0.aQ (1 : Int) (4096 : Int)).bind fun x3 => if x3 = true then ((yG a0.aW a0.aQ).bind fun x5 => some (x5 == (1 : Int))) else (some false)) else (some false)
noncomputable def cA (a0 : Int) (a1 : Int) (a2 : Int) : Option (Bool) :=
  if (decide (a0 ≥ a1)) = true then (some (decide (a0 ≤ a2))) else (some false)
noncomputable def gt (a0 : Int) : Option (Bool) :=
  (cA a0 (-1048576 : Int) (1048576 : Int)).bind fun x1 => some (!x1)
noncomputable def cM (a0 : (List Int)) : Int → Option (Step1 (Int) ((Unit) ⊕ (Int))) := fun s1 =>
  if (decide (s1 < (a0.length : Int))) = true then ((getO a0 s1).bind fun x4 => (gt x4).bind fun x5 => if x5 = true then (some (.stop (.inr s1))) else (some (.next (IntKind.wrap .i64 (s1 + (1 : Int)))))) else (some (.stop (.inl ())))
noncomputable def dA (a0 : (List Int)) : Option (Int) :=
  (loopO (cM a0) (0 : Int)).bind fun o8 => match o8 with | .inl _ => (some (-1 : Int)) | .inr r10 => (some r10)
noncomputable def cL (a0 : (List Int)) : Option (Bool) :=
  (dA a0).bind fun x1 => some (decide (x1 ≥ (0 : Int)))
noncomputable def cK (a0 : (List Int)) : Option (Bool) :=
  (cL a0).bind fun x1 => some (!x1)
noncomputable def rH (a0 : (List Int)) : (Int × Int) → Option (Step1 (Int × Int) (Int)) := fun (s1, s2) =>
  if (decide (s2 < (a0.length : Int))) = true then ((getO a0 s2).bind fun x6 => some (.next ((IntKind.wrap .i64 (s1 + x6)), (IntKind.wrap .i64 (s2 + (1 : Int)))))) else (some (.stop s1))
noncomputable def lY (a0 : (List Int)) : Option (Int) :=
  (loopO (rH a0) ((0 : Int), (0 : Int))).bind fun o8 => some o8
noncomputable def dD (a0 : ar) : Option (Bool) :=
  if ((a0.br.length : Int) == (0 : Int)) = true then (if (a0.bg == (0 : Int)) = true then (if (a0.bZ == (0 : Int)) = true then (if (a0.bz == (0 : Int)) = true then (if ((a0.aW.a0 == a0.aW.a0) && ((a0.aW.a1 == 0) && ((a0.aW.a2 == 0) && true))) = true then (if ((a0.aQ.a0 == a0.aQ.a0) && ((a0.aQ.a1 == 0) && ((a0.aQ.a2 == 0) && true))) = true then ((cA a0.aW.a0 (1 : Int) (1048576 : Int)).bind fun x7 => if x7 = true then ((cA a0.aQ.a0 (1 : Int) (1048576 : Int)).bind fun x9 => some x9) else (some false)) else (some false)) else (some false)) else (some false)) else (if (a0.bZ == (1 : Int)) = true then (if (a0.bz == (0 : Int)) = true then ((cK [a0.aW.a0, a0.aW.a1, a0.aW.a2]).bind fun x12 => if x12 = true then ((cK [a0.aQ.a0, a0.aQ.a1, a0.aQ.a2]).bind fun x14 => if x14 = true then (some (a0.aQ.a0 != (0 : Int))) else (some false)) else (some false)) else (some false)) else (if (a0.bZ == (2 : Int)) = true then (if ((a0.aW.a0 == 0) && ((a0.aW.a1 == 0) && ((a0.aW.a2 == 0) && true))) = true then (if ((a0.aQ.a0 == 0) && ((a0.aQ.a1 == 0) && ((a0.aQ.a2 == 0) && true))) = true then ((cA (a0.br.length : Int) (1 : Int) (128 : Int)).bind fun x19 => if x19 = true then ((cK a0.br).bind fun x21 => if x21 = true then ((lY a0.br).bind fun x23 => if (x23 != (0 : Int)) = true then ((cA a0.bg (1 : Int) (64 : Int)).bind fun x25 => if x25 = true then ((cA a0.bz (0 : Int) (40 : Int)).bind fun x27 => some x27) else (some false)) else (some false)) else (some false)) else (some false)) else (some false)) else (some false)) else (some false)))) else (if (a0.bZ == (0 : Int)) = true then (some false) else (if (a0.bZ == (1 : Int)) = true then (some false) else (if (a0.bZ == (2 : Int)) = true then (if ((a0.aW.a0 == 0) && ((a0.aW.a1 == 0) && ((a0.aW.a2 == 0) && true))) = true then (if ((a0.aQ.a0 == 0) && ((a0.aQ.a1 == 0) && ((a0.aQ.a2 == 0) && true))) = true then ((cA (a0.br.length : Int) (1 : Int) (128 : Int)).bind fun x33 => if x33 = true then ((cK a0.br).bind fun x35 => if x35 = true then ((lY a0.br).bind fun x37 => if (x37 != (0 : Int)) = true then ((cA a0.bg (1 : Int) (64 : Int)).bind fun x39 => if x39 = true then ((cA a0.bz (0 : Int) (40 : Int)).bind fun x41 => some x41) else (some false)) else (some false)) else (some false)) else (some false)) else (some false)) else (some false)) else (some false))))) else (if (a0.bZ == (0 : Int)) = true then (some false) else (if (a0.bZ == (1 : Int)) = true then (some false) else (if (a0.bZ == (2 : Int)) = true then (if ((a0.aW.a0 == 0) && ((a0.aW.a1 == 0) && ((a0.aW.a2 == 0) && true))) = true then (if ((a0.aQ.a0 == 0) && ((a0.aQ.a1 == 0) && ((a0.aQ.a2 == 0) && true))) = true then ((cA (a0.br.length : Int) (1 : Int) (128 : Int)).bind fun x47 => if x47 = true then ((cK a0.br).bind fun x49 => if x49 = true then ((lY a0.br).bind fun x51 => if (x51 != (0 : Int)) = true then ((cA a0.bg (1 : Int) (64 : Int)).bind fun x53 => if x53 = true then ((cA a0.bz (0 : Int) (40 : Int)).bind fun x55 => some x55) else (some false)) else (some false)) else (some false)) else (some false)) else (some false)) else (some false)) else (some false))))
noncomputable def gr (a0 : ar) : Option (Bool) :=
  (dD a0).bind fun x1 => some (!x1)
noncomputable def cv (a0 : (List ar)) : Int → Option (Step1 (Int) ((Unit) ⊕ (Int))) := fun s1 =>
  if (decide (s1 < (a0.length : Int))) = true then ((getO a0 s1).bind fun x4 => (gr x4).bind fun x5 => if x5 = true then (some (.stop (.inr s1))) else (some (.next (IntKind.wrap .i64 (s1 + (1 : Int)))))) else (some (.stop (.inl ())))
noncomputable def cX (a0 : (List ar)) : Option (Int) :=
  (loopO (cv a0) (0 : Int)).bind fun o8 => match o8 with | .inl _ => (some (-1 : Int)) | .inr r10 => (some r10)
noncomputable def cb (a0 : (List ar)) : Option (Bool) :=
  (cX a0).bind fun x1 => some (decide (x1 ≥ (0 : Int)))
noncomputable def ib (a0 : (List ar)) : (Int × Int) → Option (Step1 (Int × Int) ((Int) ⊕ (Int))) := fun (s1, s2) =>
  if (decide (s2 < (a0.length : Int))) = true then ((getO a0 s2).bind fun x6 => if (x6.bZ != (2 : Int)) = true then (some (.next (s1, (IntKind.wrap .i64 (s2 + (1 : Int)))))) else (if (decide ((IntKind.wrap .i64 (s1 * x6.bg)) > (64 : Int))) = true then (some (.stop (.inr (0 : Int)))) else (some (.next ((IntKind.wrap .i64 (s1 * x6.bg)), (IntKind.wrap .i64 (s2 + (1 : Int)))))))) else (some (.stop (.inl s1)))
noncomputable def iL (a0 : (List ar)) : Option (Int) :=
  (loopO (ib a0) ((1 : Int), (0 : Int))).bind fun o10 => match o10 with | .inl y11 => (some y11) | .inr r12 => (some r12)
noncomputable def js (a0 : aD) : Option (Bool) :=
  if (decide ((a0.aO.length : Int) > (8 : Int))) = true then (some false) else ((cb a0.aO).bind fun x2 => if x2 = true then (some false) else ((iL a0.aO).bind fun x4 => some (decide (x4 > (0 : Int)))))
noncomputable def fH (a0 : Int) (a1 : Int) (a2 : Int) : Option (Bool) :=
  if (decide (a0 ≥ a1)) = true then (some (decide (a0 ≤ a2))) else (some false)
noncomputable def er (a0 : ai) : Option (Bool) :=
  if (decide (a0.aL ≥ (0 : Int))) = true then (if (decide (a0.aL < a0.fTo)) = true then (if (decide (a0.fTo ≤ (9007199254740992 : Int))) = true then ((sw a0.bN).bind fun x4 => if x4 = true then ((js a0.aV).bind fun x6 => if x6 = true then ((fH a0.aF.fX (-1048576 : Int) (1048576 : Int)).bind fun x8 => if x8 = true then ((fH a0.aF.fY (-1048576 : Int) (1048576 : Int)).bind fun x10 => if x10 = true then ((fH a0.aF.fZ (-16384 : Int) (1048576 : Int)).bind fun x12 => some x12) else (some false)) else (some false)) else (some false)) else (some false)) else (some false)) else (some false)) else (some false)
noncomputable def fS (a0 : (List ai)) : Int → Option (Step1 (Int) ((Unit) ⊕ (Bool))) := fun s1 =>
  if (decide (s1 < (a0.length : Int))) = true then ((getO a0 s1).bind fun x4 => (er x4).bind fun x5 => if (!x5) = true then (some (.stop (.inr false))) else (if (decide (s1 > (0 : Int))) = true then ((getO a0 (IntKind.wrap .i64 (s1 - (1 : Int)))).bind fun x8 => if (decide (x4.aL < x8.fTo)) = true then (some (.stop (.inr false))) else (some (.next (IntKind.wrap .i64 (s1 + (1 : Int)))))) else (some (.next (IntKind.wrap .i64 (s1 + (1 : Int))))))) else (some (.stop (.inl ())))
noncomputable def gX (a0 : (List ai)) : Option (Bool) :=
  (loopO (fS a0) (0 : Int)).bind fun o11 => match o11 with | .inl _ => ((fH (a0.length : Int) (1 : Int) (32 : Int)).bind fun x14 => some x14) | .inr r13 => (some r13)
noncomputable def gq (a0 : ae) : Int → Option (Step1 (Int) ((Unit) ⊕ (Bool))) := fun s1 =>
  if (decide (s1 < (a0.aq.length : Int))) = true then ((getO a0.aq s1).bind fun x4 => (jZ x4.al).bind fun x5 => if (!x5) = true then (some (.stop (.inr false))) else ((gX x4.aP).bind fun x7 => if (!x7) = true then (some (.stop (.inr false))) else (if (decide (s1 > (0 : Int))) = true then ((getO a0.aq (IntKind.wrap .i64 (s1 - (1 : Int)))).bind fun x10 => (ci x10.al x4.al).bind fun x11 => if (decide (x11 ≥ (0 : Int))) = true then (some (.stop (.inr false))) else (some (.next (IntKind.wrap .i64 (s1 + (1 : Int)))))) else (some (.next (IntKind.wrap .i64 (s1 + (1 : Int)))))))) else (some (.stop (.inl ())))
noncomputable def bO (a0 : ae) : Option (Bool) :=
  (loopO (gq a0) (0 : Int)).bind fun o14 => match o14 with | .inl _ => (some (decide ((a0.aq.length : Int) ≤ (128 : Int)))) | .inr r16 => (some r16)
noncomputable def ep (x1 : (List ar)) : (Int × (List ar)) → Option (Step1 (Int × (List ar)) ((List ar))) := fun (s2, s3) =>
  if (decide (s2 < (x1.length : Int))) = true then ((inO s3 s2).bind fun _ => (getO s3 s2).bind fun x9 => (cloneO 8 x9.br).bind fun x10 => (inO s3 s2).bind fun _ => (modO s3 s2 (fun (z14 : ar) => (ar.mk z14.bZ z14.aW z14.aQ x10 z14.bg z14.bz))).bind fun x13 => some (.next ((IntKind.wrap .i64 (s2 + (1 : Int))), x13))) else (some (.stop s3))
noncomputable def eX (a0 : ai) : Option (ai) :=
  (cloneO 96 a0.aV.aO).bind fun x1 => (loopO (ep x1) ((0 : Int), x1)).bind fun o16 => some (ai.mk a0.aL a0.fTo a0.bN a0.aF (aD.mk o16))
noncomputable def fR (x1 : (List ai)) : (Int × (List ai)) → Option (Step1 (Int × (List ai)) ((List ai))) := fun (s2, s3) =>
  if (decide (s2 < (x1.length : Int))) = true then ((inO s3 s2).bind fun _ => (getO s3 s2).bind fun x9 => (eX x9).bind fun x10 => (inO s3 s2).bind fun _ => (setO s3 s2 x10).bind fun x13 => some (.next ((IntKind.wrap .i64 (s2 + (1 : Int))), x13))) else (some (.stop s3))
noncomputable def gW (a0 : ac) : Option (ac) :=
  (cloneO 80 a0.aP).bind fun x1 => (loopO (fR x1) ((0 : Int), x1)).bind fun o15 => some (ac.mk a0.al o15)
noncomputable def iQ (a0 : ae) (a1 : ag) : Int → Option (Step1 (Int) ((Unit) ⊕ (ac × Bool))) := fun s1 =>
  if (decide (s1 < (a0.aq.length : Int))) = true then ((getO a0.aq s1).bind fun x4 => if ((x4.al.aB == a1.aB) && ((x4.al.aA == a1.aA) && ((x4.al.aw == a1.aw) && ((x4.al.aC == a1.aC) && true)))) = true then ((gW x4).bind fun x6 => some (.stop (.inr (x6, true)))) else (some (.next (IntKind.wrap .i64 (s1 + (1 : Int)))))) else (some (.stop (.inl ())))
noncomputable def fQ (a0 : ae) (a1 : ag) : Option (ac × Bool) :=
  (loopO (iQ a0 a1) (0 : Int)).bind fun o8 => match o8 with | .inl _ => (some ((ac.mk (ag.mk [] [] [] []) []), false)) | .inr r10 => (some r10)
noncomputable def dE (a0 : (List Int)) (a1 : (List Int)) : Int → Option (Step1 (Int) ((Unit) ⊕ (Bool))) := fun s2 =>
  if (decide (s2 < (a0.length : Int))) = true then ((getO a0 s2).bind fun x5 => (getO a1 s2).bind fun x6 => if (x5 != x6) = true then (some (.stop (.inr false))) else (some (.next (IntKind.wrap .i64 (s2 + (1 : Int)))))) else (some (.stop (.inl ())))
noncomputable def gY (a0 : (List Int)) (a1 : (List Int)) : Option (Bool) :=
  if ((a0.length : Int) != (a1.length : Int)) = true then (some false) else ((loopO (dE a0 a1) (0 : Int)).bind fun o9 => match o9 with | .inl _ => (some true) | .inr r11 => (some r11))
noncomputable def fx (a0 : ar) (a1 : ar) : Option (Bool) :=
  if (a0.bZ == a1.bZ) = true then (if ((a0.aW.a0 == a1.aW.a0) && ((a0.aW.a1 == a1.aW.a1) && ((a0.aW.a2 == a1.aW.a2) && true))) = true then (if ((a0.aQ.a0 == a1.aQ.a0) && ((a0.aQ.a1 == a1.aQ.a1) && ((a0.aQ.a2 == a1.aQ.a2) && true))) = true then ((gY a0.br a1.br).bind fun x4 => if x4 = true then (if (a0.bg == a1.bg) = true then (some (a0.bz == a1.bz)) else (some false)) else (some false)) else (some false)) else (some false)) else (some false)
noncomputable def bL (a0 : (List ar)) (a1 : (List ar)) : Int → Option (Step1 (Int) ((Unit) ⊕ (Bool))) := fun s2 =>
  if (decide (s2 < (a0.length : Int))) = true then ((getO a0 s2).bind fun x5 => (getO a1 s2).bind fun x6 => (fx x5 x6).bind fun x7 => if (!x7) = true then (some (.stop (.inr false))) else (some (.next (IntKind.wrap .i64 (s2 + (1 : Int)))))) else (some (.stop (.inl ())))
noncomputable def cV (a0 : (List ar)) (a1 : (List ar)) : Option (Bool) :=
  if ((a0.length : Int) != (a1.length : Int)) = true then (some false) else ((loopO (bL a0 a1) (0 : Int)).bind fun o10 => match o10 with | .inl _ => (some true) | .inr r12 => (some r12))
noncomputable def jd (a0 : aD) (a1 : aD) : Option (Bool) :=
  (cV a0.aO a1.aO).bind fun x1 => some x1
noncomputable def j7 (a0 : ac) (a1 : Int) : Int → Option (Step1 (Int) ((Unit) ⊕ (ai × Bool))) := fun s1 =>
  if (decide (s1 < (a0.aP.length : Int))) = true then ((getO a0.aP s1).bind fun x4 => if (decide (x4.aL ≤ a1)) = true then (if (decide (a1 < x4.fTo)) = true then (some (.stop (.inr (x4, true)))) else (some (.next (IntKind.wrap .i64 (s1 + (1 : Int)))))) else (some (.next (IntKind.wrap .i64 (s1 + (1 : Int)))))) else (some (.stop (.inl ())))
noncomputable def lQ (a0 : ac) (a1 : Int) : Option (ai × Bool) :=
  (loopO (j7 a0 a1) (0 : Int)).bind fun o8 => match o8 with | .inl _ => (some ((ai.mk 0 0 (aT.mk 0 0) (ap.mk 0 0 0) (aD.mk [])), false)) | .inr r10 => (some r10)
noncomputable def iP (a0 : ae) (a1 : ag) (a2 : Int) : Option (ai × Int) :=
  (bO a0).bind fun x1 => if (!x1) = true then (some ((ai.mk 0 0 (aT.mk 0 0) (ap.mk 0 0 0) (aD.mk [])), (1 : Int))) else ((fQ a0 a1).bind fun x3 => (lQ x3.1 a2).bind fun x4 => if (!x4.2) = true then (some ((ai.mk 0 0 (aT.mk 0 0) (ap.mk 0 0 0) (aD.mk [])), (6 : Int))) else (some (x4.1, (0 : Int))))
noncomputable def cr (a0 : ae) (a1 : ae) (a2 : aa) : Option (Bool) :=
  (iP a0 a2.al a2.aN).bind fun x1 => (iP a1 a2.al a2.aN).bind fun x2 => if (x1.2 != (0 : Int)) = true then (some (!((x1.2 == (0 : Int)) == (x2.2 == (0 : Int))))) else (if (x2.2 != (0 : Int)) = true then (some (!((x1.2 == (0 : Int)) == (x2.2 == (0 : Int))))) else (if (!((x1.1.aF.fX == x2.1.aF.fX) && ((x1.1.aF.fY == x2.1.aF.fY) && ((x1.1.aF.fZ == x2.1.aF.fZ) && true)))) = true then (some true) else ((jd x1.1.aV x2.1.aV).bind fun x6 => some (!x6))))
noncomputable def lK (a1 : (List aa)) : (Int × (List Int) × Int × (List aa)) → Option (Step1 (Int × (List Int) × Int × (List aa)) ((List Int) × Int × (List aa))) := fun (s1, s2, s3, s4) =>
  if (decide (s1 < (a1.length : Int))) = true then ((cN (5 : Int) (ah.mk s2 s3)).bind fun x10 => if (decide (x10.1 > (0 : Int))) = true then ((getO a1 s1).bind fun x12 => (appO s4 [x12] 104).bind fun x13 => some (.next ((IntKind.wrap .i64 (s1 + (1 : Int))), x10.2.fL, x10.2.fAt, x13))) else (some (.next ((IntKind.wrap .i64 (s1 + (1 : Int))), x10.2.fL, x10.2.fAt, s4)))) else (some (.stop (s2, s3, s4)))
noncomputable def jH (a1 : (List aa)) (a2 : (List aa)) (d0 : ah) : Option ((List aa) × ah) :=
  (loopO (lK a1) ((0 : Int), d0.fL, d0.fAt, ([] : (List aa)))).bind fun o15 => (cN (2 : Int) (ah.mk o15.1 o15.2.1)).bind fun x16 => if (x16.1 == (0 : Int)) = true then (if (decide ((a2.length : Int) > (0 : Int))) = true then ((cN (a2.length : Int) x16.2).bind fun x19 => (getO a2 x19.1).bind fun x20 => (appO o15.2.2 [x20] 104).bind fun x21 => some (x21, x19.2)) else (some (o15.2.2, x16.2))) else (some (o15.2.2, x16.2))
noncomputable def fk (a0 : aa) (d1 : Int) (d2 : ae) (d3 : ae) (d4 : (List (aa × Int))) : Option (Bool) :=
  if ((mGet pg a0 (0 : Int) d4) != d1) = true then (some true) else ((cr d2 d3 a0).bind fun x2 => some x2)
noncomputable def bM (a0 : (List aa)) (d1 : Int) (d2 : ae) (d3 : ae) (d4 : (List (aa × Int))) : Int → Option (Step1 (Int) ((Unit) ⊕ (Int))) := fun s1 =>
  if (decide (s1 < (a0.length : Int))) = true then ((getO a0 s1).bind fun x4 => (fk x4 d1 d2 d3 d4).bind fun x5 => if x5 = true then (some (.stop (.inr s1))) else (some (.next (IntKind.wrap .i64 (s1 + (1 : Int)))))) else (some (.stop (.inl ())))
noncomputable def cW (a0 : (List aa)) (d1 : Int) (d2 : ae) (d3 : ae) (d4 : (List (aa × Int))) : Option (Int) :=
  (loopO (bM a0 d1 d2 d3 d4) (0 : Int)).bind fun o8 => match o8 with | .inl _ => (some (-1 : Int)) | .inr r10 => (some r10)
noncomputable def ca (a0 : (List aa)) (d1 : Int) (d2 : ae) (d3 : ae) (d4 : (List (aa × Int))) : Option (Bool) :=
  (cW a0 d1 d2 d3 d4).bind fun x1 => some (decide (x1 ≥ (0 : Int)))
noncomputable def fK (x17 : (List aa)) (s12 : Int) : (Int × (List (aa × Int))) → Option (Step1 (Int × (List (aa × Int))) (Int × (List (aa × Int)))) := fun (s18, s19) =>
  if (decide (s18 < (x17.length : Int))) = true then ((getO x17 s18).bind fun x24 => some (.next ((IntKind.wrap .i64 (s18 + (1 : Int))), (mPut pg x24 (IntKind.wrap .i64 (s12 + (1 : Int))) s19)))) else (some (.stop (s12, s19)))
noncomputable def fM (x11 : (List (List aa))) : (Int × (List (aa × Int))) → Option (Step1 (Int × (List (aa × Int))) ((List (aa × Int)))) := fun (s12, s13) =>
  if (decide (s12 < (x11.length : Int))) = true then ((getO x11 s12).bind fun x17 => (loopO (fK x17 s12) ((0 : Int), s13)).bind fun o26 => some (.next ((IntKind.wrap .i64 (o26.1 + (1 : Int))), o26.2))) else (some (.stop s13))
noncomputable def fN (x29 : (List (List aa))) (o28 : (List (aa × Int))) (x11 : (List (List aa))) (a3 : ae) (a4 : ae) : (Int × (List Int)) → Option (Step1 (Int × (List Int)) ((List Int))) := fun (s30, s31) =>
  if (decide (s30 < (x29.length : Int))) = true then ((getO x29 s30).bind fun x35 => (getO x35 (0 : Int)).bind fun x36 => if ((mGet pg x36 (0 : Int) o28) == (0 : Int)) = true then ((appO s31 [s30] 8).bind fun x38 => some (.next ((IntKind.wrap .i64 (s30 + (1 : Int))), x38))) else ((getO x11 (IntKind.wrap .i64 ((mGet pg x36 (0 : Int) o28) - (1 : Int)))).bind fun x39 => if ((x39.length : Int) != (x35.length : Int)) = true then ((appO s31 [s30] 8).bind fun x41 => some (.next ((IntKind.wrap .i64 (s30 + (1 : Int))), x41))) else ((ca x35 (mGet pg x36 (0 : Int) o28) a3 a4 o28).bind fun x42 => if x42 = true then ((appO s31 [s30] 8).bind fun x44 => some (.next ((IntKind.wrap .i64 (s30 + (1 : Int))), x44))) else (some (.next ((IntKind.wrap .i64 (s30 + (1 : Int))), s31)))))) else (some (.stop s31))
noncomputable def gU (a0 : Int) (a1 : (List aa)) (a2 : (List aa)) (a3 : ae) (a4 : ae) : Option ((List Int) × Int) :=
  if (decide (a0 < (0 : Int))) = true then (some (([] : (List Int)), (2 : Int))) else (if (decide (a0 > (1099511627776 : Int))) = true then (some (([] : (List Int)), (2 : Int))) else ((dl a1).bind fun x3 => if (!x3) = true then (some (([] : (List Int)), (1 : Int))) else ((dl a2).bind fun x5 => if (!x5) = true then (some (([] : (List Int)), (1 : Int))) else ((bO a3).bind fun x7 => if (!x7) = true then (some (([] : (List Int)), (1 : Int))) else ((bO a4).bind fun x9 => if (!x9) = true then (some (([] : (List Int)), (1 : Int))) else ((ct a0 a1).bind fun x11 => (loopO (fM x11) ((0 : Int), ([] : List (aa × Int)))).bind fun o28 => (ct a0 a2).bind fun x29 => (loopO (fN x29 o28 x11 a3 a4) ((0 : Int), ([] : (List Int)))).bind fun o46 => some (o46, (0 : Int))))))))
noncomputable def nz (a0 : (List Int)) (a1 : Int) : Int → Option (Step1 (Int) ((Unit) ⊕ (Bool))) := fun s1 =>
  if (decide (s1 < (a0.length : Int))) = true then ((getO a0 s1).bind fun x4 => if (x4 == a1) = true then (some (.stop (.inr true))) else (some (.next (IntKind.wrap .i64 (s1 + (1 : Int)))))) else (some (.stop (.inl ())))
noncomputable def wZ (a0 : (List Int)) (a1 : Int) : Option (Bool) :=
  (loopO (nz a0 a1) (0 : Int)).bind fun o7 => match o7 with | .inl _ => (some false) | .inr r9 => (some r9)
noncomputable def dx (x4 : (List aa) × ah) (x29 : aa) (s20 : Int) (s21 : Bool) (s22 : Int) (s23 : Int) : (Bool × Int) → Option (Step1 (Bool × Int) (Int × Bool × Bool × Int × Int)) := fun (s30, s31) =>
  if (decide (s31 < (x4.1.length : Int))) = true then ((getO x4.1 s31).bind fun x39 => if s30 = true then (some (.next (true, (IntKind.wrap .i64 (s31 + (1 : Int)))))) else (some (.next ((((x29.al.aB == x39.al.aB) && ((x29.al.aA == x39.al.aA) && ((x29.al.aw == x39.al.aw) && ((x29.al.aC == x39.al.aC) && true)))) && ((x29.aN == x39.aN) && ((x29.aI == x39.aI) && ((x29.aX == x39.aX) && ((x29.aH == x39.aH) && ((x29.aJ == x39.aJ) && true)))))), (IntKind.wrap .i64 (s31 + (1 : Int))))))) else (some (.stop (s20, s21, s30, s22, s23)))
noncomputable def dy (x19 : (List aa)) (x4 : (List aa) × ah) (x3 : ae × ah) (x8 : ae × ah) : (Int × Bool × Int × Int) → Option (Step1 (Int × Bool × Int × Int) (Int × Bool × Int)) := fun (s20, s21, s22, s23) =>
  if (decide (s23 < (x19.length : Int))) = true then ((getO x19 s23).bind fun x29 => (loopO (dx x4 x29 s20 s21 s22 s23) (false, (0 : Int))).bind fun o42 => if o42.2.1 = true then (some (.next (o42.1, true, o42.2.2.2.1, (IntKind.wrap .i64 (o42.2.2.2.2 + (1 : Int)))))) else (if (!o42.2.2.1) = true then (some (.next (o42.1, true, o42.2.2.2.1, (IntKind.wrap .i64 (o42.2.2.2.2 + (1 : Int)))))) else ((cr x3.1 x8.1 x29).bind fun x45 => some (.next (o42.1, x45, o42.2.2.2.1, (IntKind.wrap .i64 (o42.2.2.2.2 + (1 : Int)))))))) else (some (.stop (s20, s21, s22)))
noncomputable def dz (x11 : (List (List aa)) × Int) (x4 : (List aa) × ah) (x3 : ae × ah) (x8 : ae × ah) (x10 : (List Int) × Int) : Int → Option (Step1 (Int) ((Unit) ⊕ (Bool))) := fun s16 =>
  if (decide (s16 < (x11.1.length : Int))) = true then ((getO x11.1 s16).bind fun x19 => (loopO (dy x19 x4 x3 x8) (s16, false, s16, (0 : Int))).bind fun o47 => if o47.2.1 = true then ((wZ x10.1 o47.1).bind fun x49 => if (!x49) = true then (some (.stop (.inr false))) else (some (.next (IntKind.wrap .i64 (o47.2.2 + (1 : Int)))))) else (some (.next (IntKind.wrap .i64 (o47.2.2 + (1 : Int)))))) else (some (.stop (.inl ())))
noncomputable def kz (a0 : (List Int)) : Option (Bool) :=
  (mS a0).bind fun x1 => (fG (3 : Int) x1).bind fun x2 => (iI (6 : Int) x2.2).bind fun x3 => (iG x2.1 x3.1 (9 : Int) x3.2).bind fun x4 => (c7 [0, 50, 400] x4.2).bind fun x5 => (iG x2.1 x3.1 (3 : Int) x5.2).bind fun x6 => (jH x4.1 x6.1 x6.2).bind fun x7 => (gN x3.1 x7.2).bind fun x8 => (gU x5.1 x4.1 x4.1 x3.1 x3.1).bind fun x9 => (gU x5.1 x4.1 x7.1 x3.1 x8.1).bind fun x10 => (bW x5.1 x7.1).bind fun x11 => if (x9.2 != (0 : Int)) = true then (some false) else (if (x10.2 != (0 : Int)) = true then (some false) else (if (x11.2 != (0 : Int)) = true then (some false) else (if (decide ((x9.1.length : Int) > (0 : Int))) = true then (some false) else ((loopO (dz x11 x4 x3 x8 x10) (0 : Int)).bind fun o52 => match o52 with | .inl _ => ((e7 ).bind fun x55 => some x55) | .inr r54 => (some r54)))))
end Go.Dw.De
