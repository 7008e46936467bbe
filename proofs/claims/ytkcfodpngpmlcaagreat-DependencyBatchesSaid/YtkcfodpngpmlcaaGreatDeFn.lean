
import Derived.Test.YtkcfodpngpmlcaaGreatDwNest
import Derived.Test.YtkcfodpngpmlcaaGreatDwSortP



namespace Go.Dw.De
open Go.Dw
noncomputable section

structure ah where
  fL : (List Int)
  fAt : Int
  deriving DecidableEq
def ah.pd (x : ah) : PD := .agg [.lst (x.fL.map (PD.int .i64)), .int .i64 x.fAt]
structure ap where
  fX : Int
  fY : Int
  fZ : Int
  deriving DecidableEq
def ap.pd (x : ap) : PD := .agg [.int .i64 x.fX, .int .i64 x.fY, .int .i64 x.fZ]
structure aP where
  bd : ap
  aZ : ap
  deriving DecidableEq
def aP.pd (x : aP) : PD := .agg [.int .i64 x.bd.fX, .int .i64 x.bd.fY, .int .i64 x.bd.fZ, .int .i64 x.aZ.fX, .int .i64 x.aZ.fY, .int .i64 x.aZ.fZ]
structure aO where
  bJ : Int
  bd : (List Int)
  aZ : (List Int)
  deriving DecidableEq
def aO.pd (x : aO) : PD := .agg [.int .i64 x.bJ, .lst (x.bd.map (PD.int .i64)), .lst (x.aZ.map (PD.int .i64))]
structure ba where
  aW : aP
  bp : aO
  xw : Int
  bw : Int
  nZ : Int
  na : Int
  m9 : Int
  deriving DecidableEq
def ba.pd (x : ba) : PD := .agg [.int .i64 x.aW.bd.fX, .int .i64 x.aW.bd.fY, .int .i64 x.aW.bd.fZ, .int .i64 x.aW.aZ.fX, .int .i64 x.aW.aZ.fY, .int .i64 x.aW.aZ.fZ, .int .i64 x.bp.bJ, .lst (x.bp.bd.map (PD.int .i64)), .lst (x.bp.aZ.map (PD.int .i64)), .int .i64 x.xw, .int .i64 x.bw, .int .i64 x.nZ, .int .i64 x.na, .int .i64 x.m9]
structure cr where
  a7 : aO
  aU : Int
  aS : Int
  deriving DecidableEq
def cr.pd (x : cr) : PD := .agg [.int .i64 x.a7.bJ, .lst (x.a7.bd.map (PD.int .i64)), .lst (x.a7.aZ.map (PD.int .i64)), .int .i64 x.aU, .int .i64 x.aS]
structure aI where
  au : ba
  b9 : cr
  bw : Int
  deriving DecidableEq
def aI.pd (x : aI) : PD := .agg [.int .i64 x.au.aW.bd.fX, .int .i64 x.au.aW.bd.fY, .int .i64 x.au.aW.bd.fZ, .int .i64 x.au.aW.aZ.fX, .int .i64 x.au.aW.aZ.fY, .int .i64 x.au.aW.aZ.fZ, .int .i64 x.au.bp.bJ, .lst (x.au.bp.bd.map (PD.int .i64)), .lst (x.au.bp.aZ.map (PD.int .i64)), .int .i64 x.au.xw, .int .i64 x.au.bw, .int .i64 x.au.nZ, .int .i64 x.au.na, .int .i64 x.au.m9, .int .i64 x.b9.a7.bJ, .lst (x.b9.a7.bd.map (PD.int .i64)), .lst (x.b9.a7.aZ.map (PD.int .i64)), .int .i64 x.b9.aU, .int .i64 x.b9.aS, .int .i64 x.bw]
structure ag where
  aC : (List UInt8)
  aA : (List UInt8)
  av : (List UInt8)
  aD : (List UInt8)
  deriving DecidableEq
def ag.pd (x : ag) : PD := .agg [.str x.aC, .str x.aA, .str x.av, .str x.aD]
structure aT where
  aU : Int
  aS : Int
  deriving DecidableEq
def aT.pd (x : aT) : PD := .agg [.int .i64 x.aU, .int .i64 x.aS]
structure aV where
  a0 : Int
  a1 : Int
  a2 : Int
  deriving DecidableEq
def aV.pd (x : aV) : PD := .agg [.int .i64 x.a0, .int .i64 x.a1, .int .i64 x.a2]
structure aq where
  br : Int
  aU : aV
  aS : aV
  bc : (List Int)
  aX : Int
  bi : Int
  deriving DecidableEq
def aq.pd (x : aq) : PD := .agg [.int .i64 x.br, .int .i64 x.aU.a0, .int .i64 x.aU.a1, .int .i64 x.aU.a2, .int .i64 x.aS.a0, .int .i64 x.aS.a1, .int .i64 x.aS.a2, .lst (x.bc.map (PD.int .i64)), .int .i64 x.aX, .int .i64 x.bi]
structure aB where
  aL : (List aq)
  deriving DecidableEq
def aB.pd (x : aB) : PD := .agg [.lst (x.aL.map aq.pd)]
structure ai where
  aJ : Int
  fTo : Int
  bI : aT
  aF : ap
  aQ : aB
  deriving DecidableEq
def ai.pd (x : ai) : PD := .agg [.int .i64 x.aJ, .int .i64 x.fTo, .int .i64 x.bI.aU, .int .i64 x.bI.aS, .int .i64 x.aF.fX, .int .i64 x.aF.fY, .int .i64 x.aF.fZ, .lst (x.aQ.aL.map aq.pd)]
structure ae where
  ak : ag
  aM : (List ai)
  deriving DecidableEq
def ae.pd (x : ae) : PD := .agg [.str x.ak.aC, .str x.ak.aA, .str x.ak.av, .str x.ak.aD, .lst (x.aM.map ai.pd)]
structure ac where
  al : (List ae)
  deriving DecidableEq
def ac.pd (x : ac) : PD := .agg [.lst (x.al.map ae.pd)]
structure aa where
  ak : ag
  aN : Int
  aG : Int
  aY : Int
  aH : Int
  aK : Int
  deriving DecidableEq
def aa.pd (x : aa) : PD := .agg [.str x.ak.aC, .str x.ak.aA, .str x.ak.av, .str x.ak.aD, .int .i64 x.aN, .int .i64 x.aG, .int .i64 x.aY, .int .i64 x.aH, .int .i64 x.aK]
structure A4_Int where
  a0 : Int
  a1 : Int
  a2 : Int
  a3 : Int
  deriving DecidableEq
def A4_Int.pd (x : A4_Int) : PD := .agg [.int .i64 x.a0, .int .i64 x.a1, .int .i64 x.a2, .int .i64 x.a3]
structure bz where
  a0 : Int
  a1 : Int
  deriving DecidableEq
def bz.pd (x : bz) : PD := .agg [.int .i64 x.a0, .int .i64 x.a1]
structure eH where
  a0 : bz
  a1 : bz
  a2 : bz
  a3 : bz
  a4 : bz
  deriving DecidableEq
def eH.pd (x : eH) : PD := .agg [.int .i64 x.a0.a0, .int .i64 x.a0.a1, .int .i64 x.a1.a0, .int .i64 x.a1.a1, .int .i64 x.a2.a0, .int .i64 x.a2.a1, .int .i64 x.a3.a0, .int .i64 x.a3.a1, .int .i64 x.a4.a0, .int .i64 x.a4.a1]
structure aj where
  aJ : Int
  fTo : Int
  deriving DecidableEq
def aj.pd (x : aj) : PD := .agg [.int .i64 x.aJ, .int .i64 x.fTo]
structure ar where
  ak : ag
  bM : (List aj)
  deriving DecidableEq
def ar.pd (x : ar) : PD := .agg [.str x.ak.aC, .str x.ak.aA, .str x.ak.av, .str x.ak.aD, .lst (x.bM.map aj.pd)]
structure az where
  aA : ap
  aG : Int
  aY : Int
  iR : Int
  deriving DecidableEq
def az.pd (x : az) : PD := .agg [.int .i64 x.aA.fX, .int .i64 x.aA.fY, .int .i64 x.aA.fZ, .int .i64 x.aG, .int .i64 x.aY, .int .i64 x.iR]
structure bC where
  aJ : Int
  fTo : Int
  deriving DecidableEq
def bC.pd (x : bC) : PD := .agg [.int .i64 x.aJ, .int .i64 x.fTo]
def nz (a b : ag) : Bool := ((a.aC == b.aC) && ((a.aA == b.aA) && ((a.av == b.av) && ((a.aD == b.aD) && true))))
def oM (a b : aa) : Bool := (((a.ak.aC == b.ak.aC) && ((a.ak.aA == b.ak.aA) && ((a.ak.av == b.ak.av) && ((a.ak.aD == b.ak.aD) && true)))) && ((a.aN == b.aN) && ((a.aG == b.aG) && ((a.aY == b.aY) && ((a.aH == b.aH) && ((a.aK == b.aK) && true))))))
def mI (a0 : (List Int)) : Option (ah) :=
  (cutO a0 0 (if 2000 < (a0.length : Int) then 2000 else (a0.length : Int))).bind fun x1 => some (ah.mk x1 0)
def wG (d0 : ah) : Option (Int × ah) :=
  if (decide (d0.fAt ≥ (d0.fL.length : Int))) = true then (some (0, d0)) else ((cA d0.fL (IntKind.wrap .i64 ((IntKind.wrap .i64 (d0.fAt + 1)) - 1))).bind fun x2 => some (x2, (ah.mk d0.fL (IntKind.wrap .i64 (d0.fAt + 1)))))
def sa (a0 : Int) (a1 : Int) : Option (Int) :=
  if (decide (a1 < 1)) = true then (some 0) else ((remO a0 a1).bind fun x2 => if (decide (x2 < 0)) = true then (some (IntKind.wrap .i64 (x2 + a1))) else (some x2))
def cV (a1 : Int) (d0 : ah) : Option (Int × ah) :=
  (wG d0).bind fun x1 => (sa x1.1 a1).bind fun x2 => some (x2, x1.2)
def lH (a1 : Int) (d0 : ah) : Option (ap × ah) :=
  (cV (IntKind.wrap .i64 ((IntKind.wrap .i64 (2 * a1)) + 1)) d0).bind fun x1 => (cV (IntKind.wrap .i64 ((IntKind.wrap .i64 (2 * a1)) + 1)) x1.2).bind fun x2 => (cV (IntKind.wrap .i64 (a1 + 1)) x2.2).bind fun x3 => some ((ap.mk (IntKind.wrap .i64 (x1.1 - a1)) (IntKind.wrap .i64 (x2.1 - a1)) x3.1), x3.2)
def wF (a1 : Int) (a2 : Int) (d0 : ah) : Option (aP × ah) :=
  (lH a1 d0).bind fun x1 => (cV (IntKind.wrap .i64 (a2 + 1)) x1.2).bind fun x2 => (cV (IntKind.wrap .i64 (a2 + 1)) x2.2).bind fun x3 => (cV (IntKind.wrap .i64 (a2 + 1)) x3.2).bind fun x4 => some ((aP.mk x1.1 (ap.mk (IntKind.wrap .i64 (x1.1.fX + x2.1)) (IntKind.wrap .i64 (x1.1.fY + x3.1)) (IntKind.wrap .i64 (x1.1.fZ + x4.1)))), x4.2)
def di (a1 : (List Int)) (d0 : ah) : Option (Int × ah) :=
  (cV (a1.length : Int) d0).bind fun x1 => (cA a1 x1.1).bind fun x2 => some (x2, x1.2)
def pT (x1 : Int × ah) : (Int × Int × Int × (List Int) × Int × (List Int) × (List Int)) → Option (cb (Int × Int × Int × (List Int) × Int × (List Int) × (List Int)) ((List Int) × Int × (List Int) × (List Int))) := fun (s3, s4, s5, s6, s7, s8, s9) =>
  (quoO .i64 400 x1.1).bind fun x15 => (cV 3 (ah.mk s6 s7)).bind fun x16 => if (decide (s5 ≤ (IntKind.wrap .i64 (x15 + x16.1)))) = true then ((dJ s8 [s3] 8).bind fun x18 => (dJ s9 [s4] 8).bind fun x19 => (di [0, 10, 20, 35] x16.2).bind fun x20 => (quoO .i64 x1.1 4).bind fun x21 => (di [0, 0, 5, 30] x20.2).bind fun x22 => some (.next ((IntKind.wrap .i64 (s3 + (IntKind.wrap .i64 (x20.1 + x21)))), (IntKind.wrap .i64 ((if (IntKind.wrap .i64 (s3 + (IntKind.wrap .i64 (x20.1 + x21)))) > s4 then (IntKind.wrap .i64 (s3 + (IntKind.wrap .i64 (x20.1 + x21)))) else s4) + x22.1)), (IntKind.wrap .i64 (s5 + 1)), x22.2.fL, x22.2.fAt, x18, x19))) else (some (.stop (x16.2.fL, x16.2.fAt, s8, s9)))
def oV (d0 : ah) : Option (aO × ah) :=
  (di [20, 25, 40, 100] d0).bind fun x1 => (cV 3 x1.2).bind fun x2 => (bF (pT x1) (0, x2.1, 0, x2.2.fL, x2.2.fAt, ([] : (List Int)), ([] : (List Int)))).bind fun o24 => some ((aO.mk x1.1 o24.2.2.1 o24.2.2.2), (ah.mk o24.1 o24.2.1))
def iE (a1 : Int) (d0 : ah) : Option (ba × ah) :=
  (wF 20 a1 d0).bind fun x1 => (oV x1.2).bind fun x2 => (di [10, 50, 200] x2.2).bind fun x3 => (di [0, 0, 10, 40] x3.2).bind fun x4 => (di [0, 50, 200, 400] x4.2).bind fun x5 => (di [0, 5, 20] x5.2).bind fun x6 => (cV 2 x6.2).bind fun x7 => some ((ba.mk x1.1 x2.1 x3.1 x4.1 x5.1 x6.1 (IntKind.wrap .i64 (2 + x7.1))), x7.2)
def pS (x1 : aO × ah) : (Int × (List Int) × (List Int)) → Option (cb (Int × (List Int) × (List Int)) ((List Int) × (List Int))) := fun (s4, s5, s6) =>
  if (decide (s4 < (x1.1.bd.length : Int))) = true then ((inO s5 s4).bind fun _ => (cA s5 s4).bind fun x13 => (quoO .i64 x13 3).bind fun x14 => (inO s6 s4).bind fun _ => (cA s6 s4).bind fun x17 => (quoO .i64 x17 3).bind fun x18 => (inO s5 s4).bind fun _ => (kC s5 s4 x14).bind fun x21 => (inO s6 s4).bind fun _ => (kC s6 s4 x18).bind fun x24 => some (.next ((IntKind.wrap .i64 (s4 + 1)), x21, x24))) else (some (.stop (s5, s6)))
def rD (d0 : ah) : Option (cr × ah) :=
  (oV d0).bind fun x1 => (cV 20 x1.2).bind fun x2 => (cV 9 x2.2).bind fun x3 => (bF (pS x1) (0, x1.1.bd, x1.1.aZ)).bind fun o26 => some ((cr.mk (aO.mk x1.1.bJ o26.1 o26.2) x2.1 (IntKind.wrap .i64 (1 + x3.1))), x3.2)
def fr (a1 : Int) (d0 : ah) : Option (aI × ah) :=
  (iE a1 d0).bind fun x1 => (rD x1.2).bind fun x2 => (di [0, 0, 10, 40] x2.2).bind fun x3 => some ((aI.mk x1.1 x2.1 x3.1), x3.2)
def jy  : (Int × (List Int) × Int × (List aq)) → Option (cb (Int × (List Int) × Int × (List aq)) ((List Int) × Int × (List aq))) := fun (s2, s3, s4, s5) =>
  if (decide (s2 > 0)) = true then ((cV 3 (ah.mk s3 s4)).bind fun x11 => if (x11.1 == 0) = true then ((di [0, 1, 9, 99, 1048575] x11.2).bind fun x13 => (di [0, 0, 2, 9, 999] x13.2).bind fun x14 => (dJ s5 [(aq.mk x11.1 (aV.mk (IntKind.wrap .i64 (1 + x13.1)) 0 0) (aV.mk (IntKind.wrap .i64 (1 + x14.1)) 0 0) [] 0 0)] 96).bind fun x15 => some (.next ((IntKind.wrap .i64 (s2 - 1)), x14.2.fL, x14.2.fAt, x15))) else (if (x11.1 == 1) = true then ((cV 5 x11.2).bind fun x17 => (cV 7 x17.2).bind fun x18 => (cV 3 x18.2).bind fun x19 => (cV 5 x19.2).bind fun x20 => (cV 7 x20.2).bind fun x21 => (cV 3 x21.2).bind fun x22 => (dJ s5 [(aq.mk x11.1 (aV.mk x17.1 (IntKind.wrap .i64 (x18.1 - 3)) (IntKind.wrap .i64 (x19.1 - 1))) (aV.mk (IntKind.wrap .i64 (1 + x20.1)) x21.1 x22.1) [] 0 0)] 96).bind fun x23 => some (.next ((IntKind.wrap .i64 (s2 - 1)), x22.2.fL, x22.2.fAt, x23))) else ((cV 3 x11.2).bind fun x24 => (cV 4 x24.2).bind fun x25 => (dJ s5 [(aq.mk x11.1 (aV.mk 0 0 0) (aV.mk 0 0 0) [(IntKind.wrap .i64 (1 + x24.1)), 2, 1] 1 x25.1)] 96).bind fun x26 => some (.next ((IntKind.wrap .i64 (s2 - 1)), x25.2.fL, x25.2.fAt, x26))))) else (some (.stop (s3, s4, s5)))
def fq (d0 : ah) : Option (aB × ah) :=
  (cV 4 d0).bind fun x1 => (bF (jy) (x1.1, x1.2.fL, x1.2.fAt, ([] : (List aq)))).bind fun o28 => some ((aB.mk o28.2.2), (ah.mk o28.1 o28.2.1))
def dF (a0 : Int) : Option (ag) :=
  (sa a0 6).bind fun x1 => (cA [[83, 49], [83, 50], [83, 51], [83, 52], [83, 53], [83, 54]] x1).bind fun x2 => some (ag.mk [65, 66] x2 [48, 48] [66, 72, 90])
def mC (a1 : Int) : (Int × (List Int) × Int × (List ae)) → Option (cb (Int × (List Int) × Int × (List ae)) ((List Int) × Int × (List ae))) := fun (s1, s2, s3, s4) =>
  if (decide (s1 < a1)) = true then (if (decide (s1 < 6)) = true then ((lH 60 (ah.mk s2 s3)).bind fun x11 => (fq x11.2).bind fun x12 => (dF s1).bind fun x13 => (cV 6 x12.2).bind fun x14 => if (x14.1 == 0) = true then ((cV 500 x14.2).bind fun x16 => (lH 60 x16.2).bind fun x17 => (fq x17.2).bind fun x18 => (inO [(ai.mk 0 100000 (aT.mk 100 1) x11.1 x12.1)] 0).bind fun _ => (lB [(ai.mk 0 100000 (aT.mk 100 1) x11.1 x12.1)] 0 (fun (z22 : ai) => (ai.mk z22.aJ (IntKind.wrap .i64 (1500 + x16.1)) z22.bI z22.aF z22.aQ))).bind fun x21 => (dJ x21 [(ai.mk (IntKind.wrap .i64 (1500 + x16.1)) 100000 (aT.mk 100 1) x17.1 x18.1)] 80).bind fun x23 => (dJ s4 [(ae.mk x13 x23)] 88).bind fun x24 => some (.next ((IntKind.wrap .i64 (s1 + 1)), x18.2.fL, x18.2.fAt, x24))) else (if (x14.1 == 1) = true then ((cV 1500 x14.2).bind fun x26 => (inO [(ai.mk 0 100000 (aT.mk 100 1) x11.1 x12.1)] 0).bind fun _ => (lB [(ai.mk 0 100000 (aT.mk 100 1) x11.1 x12.1)] 0 (fun (z30 : ai) => (ai.mk x26.1 z30.fTo z30.bI z30.aF z30.aQ))).bind fun x29 => (dJ s4 [(ae.mk x13 x29)] 88).bind fun x31 => some (.next ((IntKind.wrap .i64 (s1 + 1)), x26.2.fL, x26.2.fAt, x31))) else ((dJ s4 [(ae.mk x13 [(ai.mk 0 100000 (aT.mk 100 1) x11.1 x12.1)])] 88).bind fun x32 => some (.next ((IntKind.wrap .i64 (s1 + 1)), x14.2.fL, x14.2.fAt, x32))))) else (some (.stop (s2, s3, s4)))) else (some (.stop (s2, s3, s4)))
def iH (a1 : Int) (d0 : ah) : Option (ac × ah) :=
  (bF (mC a1) (0, d0.fL, d0.fAt, ([] : (List ae)))).bind fun o34 => some ((ac.mk o34.2.2), (ah.mk o34.1 o34.2.1))
def ny (a1 : Int) (a2 : Int) (d0 : ah) : Option (Int × ah) :=
  (cV (IntKind.wrap .i64 ((IntKind.wrap .i64 (a2 - a1)) + 1)) d0).bind fun x1 => some ((IntKind.wrap .i64 (a1 + x1.1)), x1.2)
def oU (a1 : aP) (d0 : ah) : Option (ap × ah) :=
  (ny a1.bd.fX a1.aZ.fX d0).bind fun x1 => (ny a1.bd.fY a1.aZ.fY x1.2).bind fun x2 => (ny a1.bd.fZ a1.aZ.fZ x2.2).bind fun x3 => some ((ap.mk x1.1 x2.1 x3.1), x3.2)
def oa (x4 : ae) (a1 : ag) (a2 : Int) (s1 : Int) : Int → Option (cb (Int) ((Int) ⊕ (ap × Bool))) := fun s5 =>
  if (decide (s5 < (x4.aM.length : Int))) = true then ((cA x4.aM s5).bind fun x9 => if ((x4.ak.aC == a1.aC) && ((x4.ak.aA == a1.aA) && ((x4.ak.av == a1.av) && ((x4.ak.aD == a1.aD) && true)))) = true then (if (decide (x9.aJ ≤ a2)) = true then (if (decide (a2 < x9.fTo)) = true then (some (.stop (.inr (x9.aF, true)))) else (some (.next (IntKind.wrap .i64 (s5 + 1))))) else (some (.next (IntKind.wrap .i64 (s5 + 1))))) else (some (.next (IntKind.wrap .i64 (s5 + 1))))) else (some (.stop (.inl s1)))
def oc (a0 : ac) (a1 : ag) (a2 : Int) : Int → Option (cb (Int) ((Unit) ⊕ (ap × Bool))) := fun s1 =>
  if (decide (s1 < (a0.al.length : Int))) = true then ((cA a0.al s1).bind fun x4 => (bF (oa x4 a1 a2 s1) 0).bind fun o14 => match o14 with | .inl y15 => (some (.next (IntKind.wrap .i64 (y15 + 1)))) | .inr r16 => (some (.stop (.inr r16)))) else (some (.stop (.inl ())))
def oZ (a0 : ac) (a1 : ag) (a2 : Int) : Option (ap × Bool) :=
  (bF (oc a0 a1 a2) 0).bind fun o18 => match o18 with | .inl _ => (some ((ap.mk 0 0 0), false)) | .inr r20 => (some r20)
def tl (a0 : Int) : Option (Int) :=
  some (IntKind.wrap .i64 (a0 * a0))
def fp (x18 : ag) (x19 : Int × ah) (x20 : Int × ah) (j22 : Int) (j23 : Int) (j24 : (List Int)) (j25 : Int) (j26 : (List aa)) (j27 : Int) (j28 : Int) (j29 : Int) (j30 : Int) : Option (cb (Int × Int × (List Int) × Int × (List aa) × Int × Int × Int) ((List aa) × (List Int) × Int)) :=
  (cV 5 (ah.mk j24 j25)).bind fun x31 => (cV 5 x31.2).bind fun x32 => (dJ j26 [(aa.mk x18 (IntKind.wrap .i64 (j30 + x31.1)) j30 (IntKind.wrap .i64 ((IntKind.wrap .i64 (j30 + x31.1)) + x32.1)) x19.1 (IntKind.wrap .i64 (x20.1 - 1)))] 104).bind fun x33 => some (.next (j22, (IntKind.wrap .i64 (j23 - 1)), x32.2.fL, x32.2.fAt, x33, j27, j28, j29))
def mB (x40 : ap × Bool) (s9 : Int) (s10 : Int) (s11 : Int) (s4 : Int) (s5 : Int) (s8 : (List aa)) : Int → Option (cb (Int) (Int × Int × Int × (List aa) × Int × Int × Int)) := fun s42 =>
  (tl (IntKind.wrap .i64 (x40.1.fX - s9))).bind fun x51 => (tl (IntKind.wrap .i64 (x40.1.fY - s10))).bind fun x52 => (tl (IntKind.wrap .i64 (x40.1.fZ - s11))).bind fun x53 => if (decide ((IntKind.wrap .i64 (s42 * s42)) < (IntKind.wrap .i64 ((IntKind.wrap .i64 (x51 + x52)) + x53)))) = true then (some (.next (IntKind.wrap .i64 (s42 + 1)))) else (some (.stop (s4, s5, s42, s8, s9, s10, s11)))
def pR (a1 : aI) (a2 : ac) : (Int × Int × (List Int) × Int × (List aa) × Int × Int × Int) → Option (cb (Int × Int × (List Int) × Int × (List aa) × Int × Int × Int) ((List aa) × (List Int) × Int)) := fun (s4, s5, s6, s7, s8, s9, s10, s11) =>
  if (decide (s5 > 0)) = true then ((cV 6 (ah.mk s6 s7)).bind fun x17 => (dF x17.1).bind fun x18 => (di [0, 1, 50, 1000, 1048576] x17.2).bind fun x19 => (cV 3 x19.2).bind fun x20 => (cV 2000 x20.2).bind fun x21 => (cV 6 x21.2).bind fun x35 => if (x35.1 == 0) = true then ((oU a1.au.aW x35.2).bind fun x37 => (cV 900 x37.2).bind fun x38 => fp x18 x19 x20 (IntKind.wrap .i64 (s4 + x38.1)) s5 x38.2.fL x38.2.fAt s8 x37.1.fX x37.1.fY x37.1.fZ (IntKind.wrap .i64 (1000 + x21.1))) else (if (x35.1 == 1) = true then (fp x18 x19 x20 s4 s5 x35.2.fL x35.2.fAt s8 s9 s10 s11 (IntKind.wrap .i64 (1000 + x21.1))) else ((oZ a2 x18 s4).bind fun x40 => if x40.2 = true then ((bF (mB x40 s9 s10 s11 s4 s5 s8) 0).bind fun o56 => (quoO .i64 o56.2.2.1 a1.au.bp.bJ).bind fun x57 => (cA a1.au.bp.bd (if (IntKind.wrap .i64 ((a1.au.bp.bd.length : Int) - 1)) < x57 then (IntKind.wrap .i64 ((a1.au.bp.bd.length : Int) - 1)) else x57)).bind fun x58 => (cV 6 x35.2).bind fun x59 => fp x18 x19 x20 o56.1 o56.2.1 x59.2.fL x59.2.fAt o56.2.2.2.1 o56.2.2.2.2.1 o56.2.2.2.2.2.1 o56.2.2.2.2.2.2 (IntKind.wrap .i64 ((IntKind.wrap .i64 (o56.1 + x58)) + x59.1))) else (fp x18 x19 x20 s4 s5 x35.2.fL x35.2.fAt s8 s9 s10 s11 (IntKind.wrap .i64 (1000 + x21.1)))))) else (some (.stop (s8, s6, s7)))
def iF (a1 : aI) (a2 : ac) (a3 : Int) (d0 : ah) : Option ((List aa) × ah) :=
  (oU a1.au.aW d0).bind fun x1 => (cV 500 x1.2).bind fun x2 => (cV (IntKind.wrap .i64 (a3 + 1)) x2.2).bind fun x3 => (bF (pR a1 a2) ((IntKind.wrap .i64 (1000 + x2.1)), x3.1, x3.2.fL, x3.2.fAt, ([] : (List aa)), x1.1.fX, x1.1.fY, x1.1.fZ)).bind fun o61 => some (o61.1, (ah.mk o61.2.1 o61.2.2))
def lY (a0 : Int) : Option (Bool) :=
  if (decide (a0 ≥ 65)) = true then (if (decide (a0 ≤ 90)) = true then (some true) else (if (decide (a0 ≥ 48)) = true then (some (decide (a0 ≤ 57))) else (some false))) else (if (decide (a0 ≥ 48)) = true then (some (decide (a0 ≤ 57))) else (some false))
def jL (a0 : (List UInt8)) : Int → Option (cb (Int) ((Unit) ⊕ (Bool))) := fun s1 =>
  if (decide (s1 < (a0.length : Int))) = true then ((mo a0 s1).bind fun x4 => (lY x4).bind fun x5 => if (!x5) = true then (some (.stop (.inr false))) else (some (.next (IntKind.wrap .i64 (s1 + 1))))) else (some (.stop (.inl ())))
def je (a0 : (List UInt8)) (a1 : Int) (a2 : Int) : Option (Bool) :=
  (bF (jL a0) 0).bind fun o8 => match o8 with | .inl _ => (if (decide ((a0.length : Int) ≥ a1)) = true then (some (decide ((a0.length : Int) ≤ a2))) else (some false)) | .inr r10 => (some r10)
def jd (a0 : ag) : Option (Bool) :=
  (je a0.aC 1 2).bind fun x1 => if x1 = true then ((je a0.aA 1 5).bind fun x3 => if x3 = true then ((je a0.av 0 2).bind fun x5 => if x5 = true then (if ((a0.av.length : Int) != 1) = true then ((je a0.aD 3 3).bind fun x8 => some x8) else (some false)) else (some false)) else (some false)) else (some false)
def iI (a0 : Int) (a1 : Int) (a2 : Int) : Option (Bool) :=
  if (decide (a0 ≥ a1)) = true then (some (decide (a0 ≤ a2))) else (some false)
def cC (a0 : aa) : Option (Bool) :=
  (jd a0.ak).bind fun x1 => if x1 = true then (if (decide (a0.aG ≥ 0)) = true then (if (decide (a0.aG ≤ a0.aN)) = true then (if (decide (a0.aN ≤ a0.aY)) = true then (if (decide (a0.aY ≤ 18014398509481984)) = true then ((iI a0.aH 0 1073741823).bind fun x7 => if x7 = true then ((iI a0.aK (-1) 1).bind fun x9 => some x9) else (some false)) else (some false)) else (some false)) else (some false)) else (some false)) else (some false)
def dI (a0 : aa) : Option (Bool) :=
  (cC a0).bind fun x1 => some (!x1)
def bq (a0 : (List aa)) : Int → Option (cb (Int) ((Unit) ⊕ (Int))) := fun s1 =>
  if (decide (s1 < (a0.length : Int))) = true then ((cA a0 s1).bind fun x4 => (dI x4).bind fun x5 => if x5 = true then (some (.stop (.inr s1))) else (some (.next (IntKind.wrap .i64 (s1 + 1))))) else (some (.stop (.inl ())))
def cG (a0 : (List aa)) : Option (Int) :=
  (bF (bq a0) 0).bind fun o8 => match o8 with | .inl _ => (some (-1)) | .inr r10 => (some r10)
def cj (a0 : (List aa)) : Option (Bool) :=
  (cG a0).bind fun x1 => some (decide (x1 ≥ 0))
def cB (a0 : (List aa)) : Option (Bool) :=
  (cj a0).bind fun x1 => some (!x1)
def fd (a0 : (List UInt8)) : Option (Bool) :=
  some (!(a0 == a0))
def cw (a0 : (List UInt8)) (a1 : (List UInt8)) : Option (Int) :=
  (fd a0).bind fun x1 => (fd a1).bind fun x2 => if x1 = true then (if x2 = true then (some 0) else (some (-1))) else (if x2 = true then (some 1) else (if (Op.bytesLess a0 a1) = true then (some (-1)) else (if (!(Op.bytesLess a0 a1 || a0 == a1)) = true then (some 1) else (some 0))))
def dK (a0 : (List Int)) : Int → Option (cb (Int) ((Unit) ⊕ (Int))) := fun s1 =>
  if (decide (s1 < (a0.length : Int))) = true then ((cA a0 s1).bind fun x4 => if (x4 != 0) = true then (some (.stop (.inr x4))) else (some (.next (IntKind.wrap .i64 (s1 + 1))))) else (some (.stop (.inl ())))
def gW (a0 : (List Int)) : Option (Int) :=
  (bF (dK a0) 0).bind fun o7 => match o7 with | .inl _ => (some 0) | .inr r9 => (some r9)
def bY (a0 : ag) (a1 : ag) : Option (Int) :=
  (cw a0.aC a1.aC).bind fun x1 => (cw a0.aA a1.aA).bind fun x2 => (cw a0.av a1.av).bind fun x3 => (cw a0.aD a1.aD).bind fun x4 => (gW [x1, x2, x3, x4]).bind fun x5 => some x5
def jg (a0 : Int) : Option (Bool) :=
  some (a0 != a0)
def bu (a0 : Int) (a1 : Int) : Option (Int) :=
  (jg a0).bind fun x1 => (jg a1).bind fun x2 => if x1 = true then (if x2 = true then (some 0) else (some (-1))) else (if x2 = true then (some 1) else (if (decide (a0 < a1)) = true then (some (-1)) else (if (decide (a0 > a1)) = true then (some 1) else (some 0))))
def bf (a0 : aa) (a1 : aa) : Option (Int) :=
  (bY a0.ak a1.ak).bind fun x1 => (bu a0.aN a1.aN).bind fun x2 => (bu a0.aG a1.aG).bind fun x3 => (bu a0.aY a1.aY).bind fun x4 => (bu a0.aH a1.aH).bind fun x5 => (bu a0.aK a1.aK).bind fun x6 => (gW [x1, x2, x3, x4, x5, x6]).bind fun x7 => some x7
def ga (s2 : Int) (d0 : (List aa)) : (Int × Int × (List aa)) → Option (cb (Int × Int × (List aa)) (Int × (List aa))) := fun (s13, s14, s15) =>
  (lenV s15.length (0 + (s2 : Int).toNat) (0 + ((d0.length : Int) : Int).toNat)).bind fun x19 => if (decide (s14 < x19)) = true then ((inV s15.length (0 + (s2 : Int).toNat) (0 + ((d0.length : Int) : Int).toNat) s14).bind fun _ => (cA s15 (((0 + (s2 : Int).toNat) + (s14 : Int).toNat : Nat) : Int)).bind fun x22 => (inV s15.length (0 + (s2 : Int).toNat) (0 + ((d0.length : Int) : Int).toNat) (IntKind.wrap .i64 (s14 - 1))).bind fun _ => (cA s15 (((0 + (s2 : Int).toNat) + ((IntKind.wrap .i64 (s14 - 1)) : Int).toNat : Nat) : Int)).bind fun x24 => if (!(((x22.ak.aC == x24.ak.aC) && ((x22.ak.aA == x24.ak.aA) && ((x22.ak.av == x24.ak.av) && ((x22.ak.aD == x24.ak.aD) && true)))) && ((x22.aN == x24.aN) && ((x22.aG == x24.aG) && ((x22.aY == x24.aY) && ((x22.aH == x24.aH) && ((x22.aK == x24.aK) && true))))))) = true then ((inV s15.length (0 + (s2 : Int).toNat) (0 + ((d0.length : Int) : Int).toNat) s14).bind fun _ => (cA s15 (((0 + (s2 : Int).toNat) + (s14 : Int).toNat : Nat) : Int)).bind fun x27 => (inO s15 s13).bind fun _ => (kC s15 s13 x27).bind fun x30 => some (.next ((IntKind.wrap .i64 (s13 + 1)), (IntKind.wrap .i64 (s14 + 1)), x30))) else (some (.next (s13, (IntKind.wrap .i64 (s14 + 1)), s15)))) else (some (.stop (s13, s15)))
def dZ (d0 : (List aa)) : Int → Option (cb (Int) ((Unit) ⊕ ((List aa)))) := fun s2 =>
  if (decide (s2 < (d0.length : Int))) = true then ((inO d0 s2).bind fun _ => (cA d0 s2).bind fun x7 => (inO d0 (IntKind.wrap .i64 (s2 - 1))).bind fun _ => (cA d0 (IntKind.wrap .i64 (s2 - 1))).bind fun x10 => if (((x7.ak.aC == x10.ak.aC) && ((x7.ak.aA == x10.ak.aA) && ((x7.ak.av == x10.ak.av) && ((x7.ak.aD == x10.ak.aD) && true)))) && ((x7.aN == x10.aN) && ((x7.aG == x10.aG) && ((x7.aY == x10.aY) && ((x7.aH == x10.aH) && ((x7.aK == x10.aK) && true)))))) = true then ((jz d0.length s2 (d0.length : Int)).bind fun _ => (bF (ga s2 d0) (s2, 1, d0)).bind fun o32 => (jz o32.2.length o32.1 (o32.2.length : Int)).bind fun _ => (my o32.2.length (0 + (o32.1 : Int).toNat) (0 + ((o32.2.length : Int) : Int).toNat)).bind fun _ => (jz (gg o32.2 (0 + (o32.1 : Int).toNat) ((0 + ((o32.2.length : Int) : Int).toNat) - (0 + (o32.1 : Int).toNat)) (aa.mk (ag.mk [] [] [] []) 0 0 0 0 0)).length 0 o32.1).bind fun _ => some (.stop (.inr ((gg o32.2 (0 + (o32.1 : Int).toNat) ((0 + ((o32.2.length : Int) : Int).toNat) - (0 + (o32.1 : Int).toNat)) (aa.mk (ag.mk [] [] [] []) 0 0 0 0 0)).take (o32.1 : Int).toNat)))) else (some (.next (IntKind.wrap .i64 (s2 + 1))))) else (some (.stop (.inl ())))
def cX (d0 : (List aa)) : Option ((List aa)) :=
  if (decide ((d0.length : Int) < 2)) = true then (some d0) else ((bF (dZ d0) 1).bind fun o38 => match o38 with | .inl _ => (some d0) | .inr r40 => (some r40))
def gK (a0 : (List aa)) : Option ((List aa)) :=
  (gh 104 a0).bind fun x1 => (gH bf x1).bind fun x2 => (cX x2).bind fun x3 => some x3
def dh (a0 : aa) (a1 : aa) : Option (Int) :=
  (bu a0.aG a1.aG).bind fun x1 => some x1
def bL (a1 : Int) (s1 : Int) : (Int × (List aa)) → Option (cb (Int × (List aa)) (Int × (List aa))) := fun (s5, s6) =>
  if (decide (s5 > a1)) = true then ((inO s6 s5).bind fun _ => (cA s6 s5).bind fun x13 => (inO s6 (IntKind.wrap .i64 (s5 - 1))).bind fun _ => (cA s6 (IntKind.wrap .i64 (s5 - 1))).bind fun x16 => (dh x13 x16).bind fun x17 => if (decide (x17 < 0)) = true then ((inO s6 (IntKind.wrap .i64 (s5 - 1))).bind fun _ => (cA s6 (IntKind.wrap .i64 (s5 - 1))).bind fun x21 => (inO s6 s5).bind fun _ => (cA s6 s5).bind fun x24 => (inO s6 s5).bind fun _ => (kC s6 s5 x21).bind fun x27 => (inO x27 (IntKind.wrap .i64 (s5 - 1))).bind fun _ => (kC x27 (IntKind.wrap .i64 (s5 - 1)) x24).bind fun x30 => some (.next ((IntKind.wrap .i64 (s5 - 1)), x30))) else (some (.stop (s1, s6)))) else (some (.stop (s1, s6)))
def bn (a2 : Int) (a1 : Int) : (Int × (List aa)) → Option (cb (Int × (List aa)) ((List aa))) := fun (s1, s2) =>
  if (decide (s1 < a2)) = true then ((bF (bL a1 s1) (s1, s2)).bind fun o32 => some (.next ((IntKind.wrap .i64 (o32.1 + 1)), o32.2))) else ((some s2).bind fun z33 => some (.stop z33))
def a8 (a1 : Int) (a2 : Int) (d0 : (List aa)) : Option ((List aa)) :=
  (bF (bn a2 a1) ((IntKind.wrap .i64 (a1 + 1)), d0)).bind fun o35 => some o35
def bh (a1 : Int) : (Int × Int × (List aa)) → Option (cb (Int × Int × (List aa)) (Int × (List aa))) := fun (s1, s2, s3) =>
  if (decide (s2 ≤ a1)) = true then ((a8 s1 s2 s3).bind fun x8 => some (.next (s2, (IntKind.wrap .i64 (s2 + 20)), x8))) else (some (.stop (s1, s3)))
def dS (s12 : Int) (a1 : Int) : Unit → Option (cb (Unit) (Int)) := fun _ =>
  if (decide ((IntKind.wrap .i64 (2 * s12)) ≤ a1)) = true then (none) else (some (.stop s12))
def cf (a1 : Int) (x11 : (List aa)) : Int → Option (cb (Int) ((List aa))) := fun s12 =>
  if (decide (s12 < a1)) = true then ((bF (dS s12 a1) ()).bind fun o19 => if (decide ((IntKind.wrap .i64 (0 + o19)) < a1)) = true then (none) else (some (.next (IntKind.wrap .i64 (o19 * 2))))) else ((some x11).bind fun z21 => some (.stop z21))
def cH (a1 : Int) (d0 : (List aa)) : Option ((List aa)) :=
  (bF (bh a1) (0, 20, d0)).bind fun o10 => (a8 o10.1 a1 o10.2).bind fun x11 => (bF (cf a1 x11) 20).bind fun o23 => some o23
def bt (d0 : (List aa)) : Option ((List aa)) :=
  (cH (d0.length : Int) d0).bind fun x1 => some x1
def bZ (x2 : (List aa)) (a0 : Int) : (Int × (List (List aa))) → Option (cb (Int × (List (List aa))) ((List (List aa)))) := fun (s3, s4) =>
  if (decide (s3 < (x2.length : Int))) = true then ((inO x2 s3).bind fun _ => (cA x2 s3).bind fun x10 => if (s3 == 0) = true then ((dJ s4 [[]] 24).bind fun x12 => (mu x12).bind fun x13 => (inO x12 (IntKind.wrap .i64 ((x12.length : Int) - 1))).bind fun _ => (atO (IntKind.wrap .i64 ((x12.length : Int) - 1)) (x12.length - 1)).bind fun _ => (dJ x13 [x10] 104).bind fun x16 => (inO x12 (IntKind.wrap .i64 ((x12.length : Int) - 1))).bind fun _ => (stO x12.length (IntKind.wrap .i64 ((x12.length : Int) - 1)) (x12.length - 1)).bind fun _ => some (.next ((IntKind.wrap .i64 (s3 + 1)), (x12.set (x12.length - 1) x16)))) else ((inO x2 (IntKind.wrap .i64 (s3 - 1))).bind fun _ => (cA x2 (IntKind.wrap .i64 (s3 - 1))).bind fun x21 => if (decide ((IntKind.wrap .i64 (x10.aG - x21.aG)) > a0)) = true then ((dJ s4 [[]] 24).bind fun x23 => (mu x23).bind fun x24 => (inO x23 (IntKind.wrap .i64 ((x23.length : Int) - 1))).bind fun _ => (atO (IntKind.wrap .i64 ((x23.length : Int) - 1)) (x23.length - 1)).bind fun _ => (dJ x24 [x10] 104).bind fun x27 => (inO x23 (IntKind.wrap .i64 ((x23.length : Int) - 1))).bind fun _ => (stO x23.length (IntKind.wrap .i64 ((x23.length : Int) - 1)) (x23.length - 1)).bind fun _ => some (.next ((IntKind.wrap .i64 (s3 + 1)), (x23.set (x23.length - 1) x27)))) else ((mu s4).bind fun x30 => (inO s4 (IntKind.wrap .i64 ((s4.length : Int) - 1))).bind fun _ => (atO (IntKind.wrap .i64 ((s4.length : Int) - 1)) (s4.length - 1)).bind fun _ => (dJ x30 [x10] 104).bind fun x33 => (inO s4 (IntKind.wrap .i64 ((s4.length : Int) - 1))).bind fun _ => (stO s4.length (IntKind.wrap .i64 ((s4.length : Int) - 1)) (s4.length - 1)).bind fun _ => some (.next ((IntKind.wrap .i64 (s3 + 1)), (s4.set (s4.length - 1) x33)))))) else (some (.stop s4))
def bH (o37 : (List (List aa))) : (Int × (List (List aa))) → Option (cb (Int × (List (List aa))) ((List (List aa)))) := fun (s38, s39) =>
  if (decide (s38 < (o37.length : Int))) = true then ((cA s39 s38).bind fun x43 => (inO s39 s38).bind fun _ => (atO s38 (Int.toNat s38)).bind fun _ => (gH bf x43).bind fun x46 => some (.next ((IntKind.wrap .i64 (s38 + 1)), (s39.set (Int.toNat s38) x46)))) else (some (.stop s39))
def bG (a0 : Int) (a1 : (List aa)) : Option ((List (List aa))) :=
  (gK a1).bind fun x1 => (bt x1).bind fun x2 => (bF (bZ x2 a0) (0, ([] : (List (List aa))))).bind fun o37 => (bF (bH o37) (0, o37)).bind fun o48 => some o48
def bo (a0 : Int) (a1 : (List aa)) : Option ((List (List aa)) × Int) :=
  if (decide (a0 < 0)) = true then (some (([] : (List (List aa))), 2)) else (if (decide (a0 > 1099511627776)) = true then (some (([] : (List (List aa))), 2)) else ((cB a1).bind fun x3 => if (!x3) = true then (some (([] : (List (List aa))), 1)) else ((bG a0 a1).bind fun x5 => some (x5, 0))))
def fw (a0 : (List UInt8)) (a1 : (List UInt8)) : Option (Int) :=
  if (Op.bytesLess a0 a1) = true then (some (-1)) else (if (!(Op.bytesLess a0 a1 || a0 == a1)) = true then (some 1) else (some 0))
def gL (a0 : ag) (a1 : ag) : Option (Int) :=
  (fw a0.aC a1.aC).bind fun x1 => (fw a0.aA a1.aA).bind fun x2 => (fw a0.av a1.av).bind fun x3 => (fw a0.aD a1.aD).bind fun x4 => if (x1 != 0) = true then (some x1) else (if (x2 != 0) = true then (some x2) else (if (x3 != 0) = true then (some x3) else (if (x4 != 0) = true then (some x4) else (some 0))))
def ky (a0 : aa) (a1 : aa) : Option (Int) :=
  (gL a0.ak a1.ak).bind fun x1 => if (x1 != 0) = true then (some x1) else (if (decide (a0.aN < a1.aN)) = true then (some (-1)) else (if (decide (a0.aN > a1.aN)) = true then (some 1) else (if (decide (a0.aG < a1.aG)) = true then (some (-1)) else (if (decide (a0.aG > a1.aG)) = true then (some 1) else (if (decide (a0.aY < a1.aY)) = true then (some (-1)) else (if (decide (a0.aY > a1.aY)) = true then (some 1) else (if (decide (a0.aH < a1.aH)) = true then (some (-1)) else (if (decide (a0.aH > a1.aH)) = true then (some 1) else (if (decide (a0.aK < a1.aK)) = true then (some (-1)) else (if (decide (a0.aK > a1.aK)) = true then (some 1) else (some 0)))))))))))
def jG (s2 : (List aa)) (a0 : (List aa)) (s1 : Int) : Int → Option (cb (Int) (Int × Int × (List aa))) := fun s6 =>
  if (decide (s6 > 0)) = true then ((inO s2 (IntKind.wrap .i64 (s6 - 1))).bind fun _ => (cA s2 (IntKind.wrap .i64 (s6 - 1))).bind fun x14 => (cA a0 s1).bind fun x15 => (ky x14 x15).bind fun x16 => if (decide (x16 > 0)) = true then (some (.next (IntKind.wrap .i64 (s6 - 1)))) else (some (.stop (s1, s6, s2)))) else (some (.stop (s1, s6, s2)))
def fM (a0 : (List aa)) (o19 : Int × Int × (List aa)) : Option (cb (Int × (List aa)) ((List aa))) :=
  (cA a0 o19.1).bind fun x20 => (dJ o19.2.2 [x20] 104).bind fun x21 => (jz x21.length (IntKind.wrap .i64 (o19.2.1 + 1)) (x21.length : Int)).bind fun _ => (jz x21.length o19.2.1 (x21.length : Int)).bind fun _ => (my x21.length (0 + ((IntKind.wrap .i64 (o19.2.1 + 1)) : Int).toNat) (0 + ((x21.length : Int) : Int).toNat)).bind fun _ => (kK x21 (0 + (o19.2.1 : Int).toNat) (0 + ((x21.length : Int) : Int).toNat)).bind fun x25 => (cA a0 o19.1).bind fun x27 => (inO (jH x21 (0 + ((IntKind.wrap .i64 (o19.2.1 + 1)) : Int).toNat) ((0 + ((x21.length : Int) : Int).toNat) - (0 + ((IntKind.wrap .i64 (o19.2.1 + 1)) : Int).toNat)) x25) o19.2.1).bind fun _ => (kC (jH x21 (0 + ((IntKind.wrap .i64 (o19.2.1 + 1)) : Int).toNat) ((0 + ((x21.length : Int) : Int).toNat) - (0 + ((IntKind.wrap .i64 (o19.2.1 + 1)) : Int).toNat)) x25) o19.2.1 x27).bind fun x30 => some (.next ((IntKind.wrap .i64 (o19.1 + 1)), x30))
def lw (a0 : (List aa)) : (Int × (List aa)) → Option (cb (Int × (List aa)) ((List aa))) := fun (s1, s2) =>
  if (decide (s1 < (a0.length : Int))) = true then ((bF (jG s2 a0 s1) (s2.length : Int)).bind fun o19 => if (decide (o19.2.1 > 0)) = true then ((inO o19.2.2 (IntKind.wrap .i64 (o19.2.1 - 1))).bind fun _ => (cA o19.2.2 (IntKind.wrap .i64 (o19.2.1 - 1))).bind fun x35 => (cA a0 o19.1).bind fun x36 => if (((x35.ak.aC == x36.ak.aC) && ((x35.ak.aA == x36.ak.aA) && ((x35.ak.av == x36.ak.av) && ((x35.ak.aD == x36.ak.aD) && true)))) && ((x35.aN == x36.aN) && ((x35.aG == x36.aG) && ((x35.aY == x36.aY) && ((x35.aH == x36.aH) && ((x35.aK == x36.aK) && true)))))) = true then (some (.next ((IntKind.wrap .i64 (o19.1 + 1)), o19.2.2))) else (fM a0 o19)) else (fM a0 o19)) else (some (.stop s2))
def gi (a0 : (List aa)) : Option ((List aa)) :=
  (bF (lw a0) (0, ([] : (List aa)))).bind fun o39 => some o39
def cP (a0 : (List aa)) (a1 : (List aa)) : Int → Option (cb (Int) ((Unit) ⊕ (Bool))) := fun s2 =>
  if (decide (s2 < (a0.length : Int))) = true then ((cA a0 s2).bind fun x5 => (cA a1 s2).bind fun x6 => if (!(((x5.ak.aC == x6.ak.aC) && ((x5.ak.aA == x6.ak.aA) && ((x5.ak.av == x6.ak.av) && ((x5.ak.aD == x6.ak.aD) && true)))) && ((x5.aN == x6.aN) && ((x5.aG == x6.aG) && ((x5.aY == x6.aY) && ((x5.aH == x6.aH) && ((x5.aK == x6.aK) && true))))))) = true then (some (.stop (.inr false))) else (some (.next (IntKind.wrap .i64 (s2 + 1))))) else (some (.stop (.inl ())))
def dm (a0 : (List aa)) (a1 : (List aa)) : Option (Bool) :=
  if ((a0.length : Int) != (a1.length : Int)) = true then (some false) else ((bF (cP a0 a1) 0).bind fun o9 => match o9 with | .inl _ => (some true) | .inr r11 => (some r11))
def ff (a0 : Int) : Option (aa) :=
  (dF 0).bind fun x1 => some (aa.mk x1 a0 a0 a0 0 0)
def d7 (s2 : Int) (d0 : (List ag)) : (Int × Int × (List ag)) → Option (cb (Int × Int × (List ag)) (Int × (List ag))) := fun (s13, s14, s15) =>
  (lenV s15.length (0 + (s2 : Int).toNat) (0 + ((d0.length : Int) : Int).toNat)).bind fun x19 => if (decide (s14 < x19)) = true then ((inV s15.length (0 + (s2 : Int).toNat) (0 + ((d0.length : Int) : Int).toNat) s14).bind fun _ => (cA s15 (((0 + (s2 : Int).toNat) + (s14 : Int).toNat : Nat) : Int)).bind fun x22 => (inV s15.length (0 + (s2 : Int).toNat) (0 + ((d0.length : Int) : Int).toNat) (IntKind.wrap .i64 (s14 - 1))).bind fun _ => (cA s15 (((0 + (s2 : Int).toNat) + ((IntKind.wrap .i64 (s14 - 1)) : Int).toNat : Nat) : Int)).bind fun x24 => if (!((x22.aC == x24.aC) && ((x22.aA == x24.aA) && ((x22.av == x24.av) && ((x22.aD == x24.aD) && true))))) = true then ((inV s15.length (0 + (s2 : Int).toNat) (0 + ((d0.length : Int) : Int).toNat) s14).bind fun _ => (cA s15 (((0 + (s2 : Int).toNat) + (s14 : Int).toNat : Nat) : Int)).bind fun x27 => (inO s15 s13).bind fun _ => (kC s15 s13 x27).bind fun x30 => some (.next ((IntKind.wrap .i64 (s13 + 1)), (IntKind.wrap .i64 (s14 + 1)), x30))) else (some (.next (s13, (IntKind.wrap .i64 (s14 + 1)), s15)))) else (some (.stop (s13, s15)))
def de (d0 : (List ag)) : Int → Option (cb (Int) ((Unit) ⊕ ((List ag)))) := fun s2 =>
  if (decide (s2 < (d0.length : Int))) = true then ((inO d0 s2).bind fun _ => (cA d0 s2).bind fun x7 => (inO d0 (IntKind.wrap .i64 (s2 - 1))).bind fun _ => (cA d0 (IntKind.wrap .i64 (s2 - 1))).bind fun x10 => if ((x7.aC == x10.aC) && ((x7.aA == x10.aA) && ((x7.av == x10.av) && ((x7.aD == x10.aD) && true)))) = true then ((jz d0.length s2 (d0.length : Int)).bind fun _ => (bF (d7 s2 d0) (s2, 1, d0)).bind fun o32 => (jz o32.2.length o32.1 (o32.2.length : Int)).bind fun _ => (my o32.2.length (0 + (o32.1 : Int).toNat) (0 + ((o32.2.length : Int) : Int).toNat)).bind fun _ => (jz (gg o32.2 (0 + (o32.1 : Int).toNat) ((0 + ((o32.2.length : Int) : Int).toNat) - (0 + (o32.1 : Int).toNat)) (ag.mk [] [] [] [])).length 0 o32.1).bind fun _ => (kK (gg o32.2 (0 + (o32.1 : Int).toNat) ((0 + ((o32.2.length : Int) : Int).toNat) - (0 + (o32.1 : Int).toNat)) (ag.mk [] [] [] [])) (0 + (0 : Int).toNat) (0 + (o32.1 : Int).toNat)).bind fun x37 => some (.stop (.inr x37))) else (some (.next (IntKind.wrap .i64 (s2 + 1))))) else (some (.stop (.inl ())))
def ch (d0 : (List ag)) : Option ((List ag)) :=
  if (decide ((d0.length : Int) < 2)) = true then (some d0) else ((bF (de d0) 1).bind fun o39 => match o39 with | .inl _ => (some d0) | .inr r41 => (some r41))
def jc (a0 : (List ag)) : Option ((List ag)) :=
  (gh 64 a0).bind fun x1 => (gH bY x1).bind fun x2 => (ch x2).bind fun x3 => some x3
def rH (a0 : aj) : Option (Bool) :=
  some (decide (a0.aJ < a0.fTo))
def gT (a0 : aj) : Option (Bool) :=
  (rH a0).bind fun x1 => some (!x1)
def bR (d0 : (List aj)) : Int → Option (cb (Int) ((Unit) ⊕ (Int × (List aj)))) := fun s1 =>
  if (decide (s1 < (d0.length : Int))) = true then ((inO d0 s1).bind fun _ => (cA d0 s1).bind fun x6 => (gT x6).bind fun x7 => if x7 = true then (some (.stop (.inr (s1, d0)))) else (some (.next (IntKind.wrap .i64 (s1 + 1))))) else (some (.stop (.inl ())))
def dl (d0 : (List aj)) : Option (Int × (List aj)) :=
  (bF (bR d0) 0).bind fun o10 => match o10 with | .inl _ => (some ((-1), d0)) | .inr r12 => (some r12)
def cy  : (Int × Int × (List aj)) → Option (cb (Int × Int × (List aj)) (Int × (List aj))) := fun (s3, s4, s5) =>
  if (decide (s4 < (s5.length : Int))) = true then ((inO s5 s4).bind fun _ => (cA s5 s4).bind fun x12 => (gT x12).bind fun x13 => if (!x13) = true then ((inO s5 s3).bind fun _ => (kC s5 s3 x12).bind fun x17 => some (.next ((IntKind.wrap .i64 (s3 + 1)), (IntKind.wrap .i64 (s4 + 1)), x17))) else (some (.next (s3, (IntKind.wrap .i64 (s4 + 1)), s5)))) else (some (.stop (s3, s5)))
def bN (d0 : (List aj)) : Option ((List aj)) :=
  (dl d0).bind fun x1 => if (x1.1 == (-1)) = true then (some x1.2) else ((bF (cy) (x1.1, (IntKind.wrap .i64 (x1.1 + 1)), x1.2)).bind fun o19 => (jz o19.2.length o19.1 (o19.2.length : Int)).bind fun _ => (my o19.2.length (0 + (o19.1 : Int).toNat) (0 + ((o19.2.length : Int) : Int).toNat)).bind fun _ => (jz (gg o19.2 (0 + (o19.1 : Int).toNat) ((0 + ((o19.2.length : Int) : Int).toNat) - (0 + (o19.1 : Int).toNat)) (aj.mk 0 0)).length 0 o19.1).bind fun _ => some ((gg o19.2 (0 + (o19.1 : Int).toNat) ((0 + ((o19.2.length : Int) : Int).toNat) - (0 + (o19.1 : Int).toNat)) (aj.mk 0 0)).take (o19.1 : Int).toNat))
def bS (a0 : aj) (a1 : aj) : Option (Int) :=
  (bu a0.aJ a1.aJ).bind fun x1 => some x1
def gn (x3 : (List aj)) : (Int × (List aj)) → Option (cb (Int × (List aj)) ((List aj))) := fun (s4, s5) =>
  if (decide (s4 < (x3.length : Int))) = true then ((inO x3 s4).bind fun _ => (cA x3 s4).bind fun x11 => if (decide ((s5.length : Int) > 0)) = true then ((inO s5 (IntKind.wrap .i64 ((s5.length : Int) - 1))).bind fun _ => (cA s5 (IntKind.wrap .i64 ((s5.length : Int) - 1))).bind fun x15 => if (decide (x11.aJ ≤ x15.fTo)) = true then ((inO s5 (IntKind.wrap .i64 ((s5.length : Int) - 1))).bind fun _ => (cA s5 (IntKind.wrap .i64 ((s5.length : Int) - 1))).bind fun x19 => (inO s5 (IntKind.wrap .i64 ((s5.length : Int) - 1))).bind fun _ => (lB s5 (IntKind.wrap .i64 ((s5.length : Int) - 1)) (fun (z23 : aj) => (aj.mk z23.aJ (if x11.fTo > x19.fTo then x11.fTo else x19.fTo)))).bind fun x22 => some (.next ((IntKind.wrap .i64 (s4 + 1)), x22))) else ((dJ s5 [x11] 16).bind fun x24 => some (.next ((IntKind.wrap .i64 (s4 + 1)), x24)))) else ((dJ s5 [x11] 16).bind fun x25 => some (.next ((IntKind.wrap .i64 (s4 + 1)), x25)))) else (some (.stop s5))
def fT (a0 : (List aj)) : Option ((List aj)) :=
  (gh 16 a0).bind fun x1 => (bN x1).bind fun x2 => (gH bS x2).bind fun x3 => (bF (gn x3) (0, ([] : (List aj)))).bind fun o27 => some o27
def dp (a0 : (List aa)) : (Int × (List (ag × (List aj))) × (List ag)) → Option (cb (Int × (List (ag × (List aj))) × (List ag)) ((List (ag × (List aj))) × (List ag))) := fun (s1, s2, s3) =>
  if (decide (s1 < (a0.length : Int))) = true then ((cA a0 s1).bind fun x8 => (cC x8).bind fun x9 => if (!x9) = true then (some (.next ((IntKind.wrap .i64 (s1 + 1)), s2, s3))) else ((dJ s3 [x8.ak] 64).bind fun x11 => (dJ (gl nz x8.ak [] s2) [(aj.mk x8.aN (IntKind.wrap .i64 (x8.aN + 1)))] 16).bind fun x12 => some (.next ((IntKind.wrap .i64 (s1 + 1)), (mD nz x8.ak x12 s2), x11)))) else (some (.stop (s2, s3)))
def dq (x15 : (List ag)) (o14 : (List (ag × (List aj))) × (List ag)) : (Int × (List ar)) → Option (cb (Int × (List ar)) ((List ar))) := fun (s17, s18) =>
  if (decide (s17 < (x15.length : Int))) = true then ((cA x15 s17).bind fun x22 => (fT (gl nz x22 ([] : (List aj)) o14.1)).bind fun x23 => (dJ s18 [(ar.mk x22 x23)] 88).bind fun x24 => some (.next ((IntKind.wrap .i64 (s17 + 1)), x24))) else (some (.stop s18))
def bU (a0 : (List aa)) : Option ((List ar)) :=
  (bF (dp a0) (0, ([] : List (ag × (List aj))), ([] : (List ag)))).bind fun o14 => (jc o14.2).bind fun x15 => (bF (dq x15 o14) (0, ([] : (List ar)))).bind fun o26 => some o26
def ev (a0 : (List ar)) (s2 : Int) (a1 : (List ar)) : Int → Option (cb (Int) ((Int) ⊕ (Bool))) := fun s11 =>
  (cA a0 s2).bind fun x14 => if (decide (s11 < (x14.bM.length : Int))) = true then ((cA a0 s2).bind fun x16 => (cA x16.bM s11).bind fun x17 => (cA a1 s2).bind fun x18 => (cA x18.bM s11).bind fun x19 => if (!((x17.aJ == x19.aJ) && ((x17.fTo == x19.fTo) && true))) = true then (some (.stop (.inr false))) else (some (.next (IntKind.wrap .i64 (s11 + 1))))) else (some (.stop (.inl s2)))
def ew (a0 : (List ar)) (a1 : (List ar)) : Int → Option (cb (Int) ((Unit) ⊕ (Bool))) := fun s2 =>
  if (decide (s2 < (a0.length : Int))) = true then ((cA a0 s2).bind fun x5 => (cA a1 s2).bind fun x6 => if (!((x5.ak.aC == x6.ak.aC) && ((x5.ak.aA == x6.ak.aA) && ((x5.ak.av == x6.ak.av) && ((x5.ak.aD == x6.ak.aD) && true))))) = true then (some (.stop (.inr false))) else ((cA a0 s2).bind fun x8 => (cA a1 s2).bind fun x9 => if ((x8.bM.length : Int) != (x9.bM.length : Int)) = true then (some (.stop (.inr false))) else ((bF (ev a0 s2 a1) 0).bind fun o22 => match o22 with | .inl y23 => (some (.next (IntKind.wrap .i64 (y23 + 1)))) | .inr r24 => (some (.stop (.inr r24)))))) else (some (.stop (.inl ())))
def cd (a0 : (List ar)) (a1 : (List ar)) : Option (Bool) :=
  if ((a0.length : Int) != (a1.length : Int)) = true then (some false) else ((bF (ew a0 a1) 0).bind fun o26 => match o26 with | .inl _ => (some true) | .inr r28 => (some r28))
def dG  : Option (Bool) :=
  (ff 16).bind fun x1 => (ff 0).bind fun x2 => (ff 40).bind fun x3 => (ff 8).bind fun x4 => (bo 10 [x1, x2, x3, x4]).bind fun x5 => (ff 4).bind fun x6 => (ff 5).bind fun x7 => (ff 9).bind fun x8 => (bU [x6, x7, x8]).bind fun x9 => if (x5.2 == 0) = true then (if ((x5.1.length : Int) == 2) = true then ((cA x5.1 0).bind fun x12 => if ((x12.length : Int) == 3) = true then ((cA x5.1 1).bind fun x14 => (cA x14 0).bind fun x15 => (ff 40).bind fun x16 => if (((x15.ak.aC == x16.ak.aC) && ((x15.ak.aA == x16.ak.aA) && ((x15.ak.av == x16.ak.av) && ((x15.ak.aD == x16.ak.aD) && true)))) && ((x15.aN == x16.aN) && ((x15.aG == x16.aG) && ((x15.aY == x16.aY) && ((x15.aH == x16.aH) && ((x15.aK == x16.aK) && true)))))) = true then ((dF 0).bind fun x18 => (cd x9 [(ar.mk x18 [(aj.mk 4 6), (aj.mk 9 10)])]).bind fun x19 => some x19) else (some false)) else (some false)) else (some false)) else (some false)
def kU (a1 : ac) : (Int × (List Int) × Int × (List ae)) → Option (cb (Int × (List Int) × Int × (List ae)) ((List Int) × Int × (List ae))) := fun (s1, s2, s3, s4) =>
  if (decide (s1 < (a1.al.length : Int))) = true then ((cA a1.al s1).bind fun x10 => (dJ ([] : List ai) x10.aM 80).bind fun x11 => (cV (x11.length : Int) (ah.mk s2 s3)).bind fun x12 => (cV 10 x12.2).bind fun x13 => if (x13.1 == 0) = true then ((lH 60 x13.2).bind fun x15 => (inO x11 x12.1).bind fun _ => (lB x11 x12.1 (fun (z19 : ai) => (ai.mk z19.aJ z19.fTo z19.bI x15.1 z19.aQ))).bind fun x18 => (dJ s4 [(ae.mk x10.ak x18)] 88).bind fun x20 => some (.next ((IntKind.wrap .i64 (s1 + 1)), x15.2.fL, x15.2.fAt, x20))) else (if (x13.1 == 1) = true then ((fq x13.2).bind fun x22 => (inO x11 x12.1).bind fun _ => (lB x11 x12.1 (fun (z26 : ai) => (ai.mk z26.aJ z26.fTo z26.bI z26.aF x22.1))).bind fun x25 => (dJ s4 [(ae.mk x10.ak x25)] 88).bind fun x27 => some (.next ((IntKind.wrap .i64 (s1 + 1)), x22.2.fL, x22.2.fAt, x27))) else (if (x13.1 == 2) = true then ((inO x11 (IntKind.wrap .i64 ((x11.length : Int) - 1))).bind fun _ => (cA x11 (IntKind.wrap .i64 ((x11.length : Int) - 1))).bind fun x31 => (cV 4000 x13.2).bind fun x32 => (di [1, 1000] x32.2).bind fun x33 => (inO x11 (IntKind.wrap .i64 ((x11.length : Int) - 1))).bind fun _ => (lB x11 (IntKind.wrap .i64 ((x11.length : Int) - 1)) (fun (z37 : ai) => (ai.mk z37.aJ (IntKind.wrap .i64 ((IntKind.wrap .i64 (x31.aJ + 1)) + (IntKind.wrap .i64 (x32.1 * x33.1)))) z37.bI z37.aF z37.aQ))).bind fun x36 => (dJ s4 [(ae.mk x10.ak x36)] 88).bind fun x38 => some (.next ((IntKind.wrap .i64 (s1 + 1)), x33.2.fL, x33.2.fAt, x38))) else (if (x13.1 == 3) = true then (some (.next ((IntKind.wrap .i64 (s1 + 1)), x13.2.fL, x13.2.fAt, s4))) else (if (x13.1 == 4) = true then ((cV 2 x13.2).bind fun x41 => (inO x11 x12.1).bind fun _ => (lB x11 x12.1 (fun (z45 : ai) => (ai.mk z45.aJ z45.fTo (aT.mk (IntKind.wrap .i64 (50 + x41.1)) z45.bI.aS) z45.aF z45.aQ))).bind fun x44 => (inO x44 x12.1).bind fun _ => (lB x44 x12.1 (fun (z49 : ai) => (ai.mk z49.aJ z49.fTo (aT.mk z49.bI.aU 1) z49.aF z49.aQ))).bind fun x48 => (dJ s4 [(ae.mk x10.ak x48)] 88).bind fun x50 => some (.next ((IntKind.wrap .i64 (s1 + 1)), x41.2.fL, x41.2.fAt, x50))) else ((dJ s4 [(ae.mk x10.ak x11)] 88).bind fun x51 => some (.next ((IntKind.wrap .i64 (s1 + 1)), x13.2.fL, x13.2.fAt, x51)))))))) else (some (.stop (s2, s3, s4)))
def gI (a1 : ac) (d0 : ah) : Option (ac × ah) :=
  (bF (kU a1) (0, d0.fL, d0.fAt, ([] : (List ae)))).bind fun o53 => some ((ac.mk o53.2.2), (ah.mk o53.1 o53.2.1))
def tp (a0 : Int) (a1 : Int) (a2 : Int) : Option (Bool) :=
  if (decide (a0 ≥ a1)) = true then (some (decide (a0 ≤ a2))) else (some false)
def qk  : (Int × Int) → Option (cb (Int × Int) (Int)) := fun (s1, s2) =>
  if (s2 != 0) = true then ((remO s1 s2).bind fun x6 => some (.next (s2, x6))) else (some (.stop s1))
def qj (a0 : Int) (a1 : Int) : Option (Int) :=
  (bF (qk) (a0, a1)).bind fun o8 => some o8
def lp (a0 : aT) : Option (Bool) :=
  (tp a0.aU 1 4096).bind fun x1 => if x1 = true then ((tp a0.aS 1 4096).bind fun x3 => if x3 = true then ((qj a0.aU a0.aS).bind fun x5 => some (x5 == 1)) else (some false)) else (some false)
def ct (a0 : Int) (a1 : Int) (a2 : Int) : Option (Bool) :=
  if (decide (a0 ≥ a1)) = true then (some (decide (a0 ≤ a2))) else (some false)
def eN (a0 : Int) : Option (Bool) :=
  (ct a0 (-1048576) 1048576).bind fun x1 => some (!x1)
def bK (a0 : (List Int)) : Int → Option (cb (Int) ((Unit) ⊕ (Int))) := fun s1 =>
  if (decide (s1 < (a0.length : Int))) = true then ((cA a0 s1).bind fun x4 => (eN x4).bind fun x5 => if x5 = true then (some (.stop (.inr s1))) else (some (.next (IntKind.wrap .i64 (s1 + 1))))) else (some (.stop (.inl ())))
def cO (a0 : (List Int)) : Option (Int) :=
  (bF (bK a0) 0).bind fun o8 => match o8 with | .inl _ => (some (-1)) | .inr r10 => (some r10)
def cq (a0 : (List Int)) : Option (Bool) :=
  (cO a0).bind fun x1 => some (decide (x1 ≥ 0))
def ce (a0 : (List Int)) : Option (Bool) :=
  (cq a0).bind fun x1 => some (!x1)
def ku (a0 : (List Int)) : (Int × Int) → Option (cb (Int × Int) (Int)) := fun (s1, s2) =>
  if (decide (s2 < (a0.length : Int))) = true then ((cA a0 s2).bind fun x6 => some (.next ((IntKind.wrap .i64 (s1 + x6)), (IntKind.wrap .i64 (s2 + 1))))) else (some (.stop s1))
def dP (a0 : (List Int)) : Option (Int) :=
  (bF (ku a0) (0, 0)).bind fun o8 => some o8
def cm (a0 : aq) : Option (Bool) :=
  if ((a0.bc.length : Int) == 0) = true then (if (a0.aX == 0) = true then (if (a0.br == 0) = true then (if (a0.bi == 0) = true then (if ((a0.aU.a0 == a0.aU.a0) && ((a0.aU.a1 == 0) && ((a0.aU.a2 == 0) && true))) = true then (if ((a0.aS.a0 == a0.aS.a0) && ((a0.aS.a1 == 0) && ((a0.aS.a2 == 0) && true))) = true then ((ct a0.aU.a0 1 1048576).bind fun x7 => if x7 = true then ((ct a0.aS.a0 1 1048576).bind fun x9 => some x9) else (some false)) else (some false)) else (some false)) else (some false)) else (if (a0.br == 1) = true then (if (a0.bi == 0) = true then ((ce [a0.aU.a0, a0.aU.a1, a0.aU.a2]).bind fun x12 => if x12 = true then ((ce [a0.aS.a0, a0.aS.a1, a0.aS.a2]).bind fun x14 => if x14 = true then (some (a0.aS.a0 != 0)) else (some false)) else (some false)) else (some false)) else (if (a0.br == 2) = true then (if ((a0.aU.a0 == 0) && ((a0.aU.a1 == 0) && ((a0.aU.a2 == 0) && true))) = true then (if ((a0.aS.a0 == 0) && ((a0.aS.a1 == 0) && ((a0.aS.a2 == 0) && true))) = true then ((ct (a0.bc.length : Int) 1 128).bind fun x19 => if x19 = true then ((ce a0.bc).bind fun x21 => if x21 = true then ((dP a0.bc).bind fun x23 => if (x23 != 0) = true then ((ct a0.aX 1 64).bind fun x25 => if x25 = true then ((ct a0.bi 0 40).bind fun x27 => some x27) else (some false)) else (some false)) else (some false)) else (some false)) else (some false)) else (some false)) else (some false)))) else (if (a0.br == 0) = true then (some false) else (if (a0.br == 1) = true then (some false) else (if (a0.br == 2) = true then (if ((a0.aU.a0 == 0) && ((a0.aU.a1 == 0) && ((a0.aU.a2 == 0) && true))) = true then (if ((a0.aS.a0 == 0) && ((a0.aS.a1 == 0) && ((a0.aS.a2 == 0) && true))) = true then ((ct (a0.bc.length : Int) 1 128).bind fun x33 => if x33 = true then ((ce a0.bc).bind fun x35 => if x35 = true then ((dP a0.bc).bind fun x37 => if (x37 != 0) = true then ((ct a0.aX 1 64).bind fun x39 => if x39 = true then ((ct a0.bi 0 40).bind fun x41 => some x41) else (some false)) else (some false)) else (some false)) else (some false)) else (some false)) else (some false)) else (some false))))) else (if (a0.br == 0) = true then (some false) else (if (a0.br == 1) = true then (some false) else (if (a0.br == 2) = true then (if ((a0.aU.a0 == 0) && ((a0.aU.a1 == 0) && ((a0.aU.a2 == 0) && true))) = true then (if ((a0.aS.a0 == 0) && ((a0.aS.a1 == 0) && ((a0.aS.a2 == 0) && true))) = true then ((ct (a0.bc.length : Int) 1 128).bind fun x47 => if x47 = true then ((ce a0.bc).bind fun x49 => if x49 = true then ((dP a0.bc).bind fun x51 => if (x51 != 0) = true then ((ct a0.aX 1 64).bind fun x53 => if x53 = true then ((ct a0.bi 0 40).bind fun x55 => some x55) else (some false)) else (some false)) else (some false)) else (some false)) else (some false)) else (some false)) else (some false))))
def eM (a0 : aq) : Option (Bool) :=
  (cm a0).bind fun x1 => some (!x1)
def bB (a0 : (List aq)) : Int → Option (cb (Int) ((Unit) ⊕ (Int))) := fun s1 =>
  if (decide (s1 < (a0.length : Int))) = true then ((cA a0 s1).bind fun x4 => (eM x4).bind fun x5 => if x5 = true then (some (.stop (.inr s1))) else (some (.next (IntKind.wrap .i64 (s1 + 1))))) else (some (.stop (.inl ())))
def cx (a0 : (List aq)) : Option (Int) :=
  (bF (bB a0) 0).bind fun o8 => match o8 with | .inl _ => (some (-1)) | .inr r10 => (some r10)
def bA (a0 : (List aq)) : Option (Bool) :=
  (cx a0).bind fun x1 => some (decide (x1 ≥ 0))
def dR (a0 : (List aq)) : (Int × Int) → Option (cb (Int × Int) ((Int) ⊕ (Int))) := fun (s1, s2) =>
  if (decide (s2 < (a0.length : Int))) = true then ((cA a0 s2).bind fun x6 => if (x6.br != 2) = true then (some (.next (s1, (IntKind.wrap .i64 (s2 + 1))))) else (if (decide ((IntKind.wrap .i64 (s1 * x6.aX)) > 64)) = true then (some (.stop (.inr 0))) else (some (.next ((IntKind.wrap .i64 (s1 * x6.aX)), (IntKind.wrap .i64 (s2 + 1))))))) else (some (.stop (.inl s1)))
def eT (a0 : (List aq)) : Option (Int) :=
  (bF (dR a0) (1, 0)).bind fun o10 => match o10 with | .inl y11 => (some y11) | .inr r12 => (some r12)
def fN (a0 : aB) : Option (Bool) :=
  if (decide ((a0.aL.length : Int) > 8)) = true then (some false) else ((bA a0.aL).bind fun x2 => if x2 = true then (some false) else ((eT a0.aL).bind fun x4 => some (decide (x4 > 0))))
def et (a0 : Int) (a1 : Int) (a2 : Int) : Option (Bool) :=
  if (decide (a0 ≥ a1)) = true then (some (decide (a0 ≤ a2))) else (some false)
def cL (a0 : ai) : Option (Bool) :=
  if (decide (a0.aJ ≥ 0)) = true then (if (decide (a0.aJ < a0.fTo)) = true then (if (decide (a0.fTo ≤ 9007199254740992)) = true then ((lp a0.bI).bind fun x4 => if x4 = true then ((fN a0.aQ).bind fun x6 => if x6 = true then ((et a0.aF.fX (-1048576) 1048576).bind fun x8 => if x8 = true then ((et a0.aF.fY (-1048576) 1048576).bind fun x10 => if x10 = true then ((et a0.aF.fZ (-16384) 1048576).bind fun x12 => some x12) else (some false)) else (some false)) else (some false)) else (some false)) else (some false)) else (some false)) else (some false)
def cM (a0 : (List ai)) : Int → Option (cb (Int) ((Unit) ⊕ (Bool))) := fun s1 =>
  if (decide (s1 < (a0.length : Int))) = true then ((cA a0 s1).bind fun x4 => (cL x4).bind fun x5 => if (!x5) = true then (some (.stop (.inr false))) else (if (decide (s1 > 0)) = true then ((cA a0 (IntKind.wrap .i64 (s1 - 1))).bind fun x8 => if (decide (x4.aJ < x8.fTo)) = true then (some (.stop (.inr false))) else (some (.next (IntKind.wrap .i64 (s1 + 1))))) else (some (.next (IntKind.wrap .i64 (s1 + 1)))))) else (some (.stop (.inl ())))
def dY (a0 : (List ai)) : Option (Bool) :=
  (bF (cM a0) 0).bind fun o11 => match o11 with | .inl _ => ((et (a0.length : Int) 1 32).bind fun x14 => some x14) | .inr r13 => (some r13)
def cW (a0 : ac) : Int → Option (cb (Int) ((Unit) ⊕ (Bool))) := fun s1 =>
  if (decide (s1 < (a0.al.length : Int))) = true then ((cA a0.al s1).bind fun x4 => (jd x4.ak).bind fun x5 => if (!x5) = true then (some (.stop (.inr false))) else ((dY x4.aM).bind fun x7 => if (!x7) = true then (some (.stop (.inr false))) else (if (decide (s1 > 0)) = true then ((cA a0.al (IntKind.wrap .i64 (s1 - 1))).bind fun x10 => (bY x10.ak x4.ak).bind fun x11 => if (decide (x11 ≥ 0)) = true then (some (.stop (.inr false))) else (some (.next (IntKind.wrap .i64 (s1 + 1))))) else (some (.next (IntKind.wrap .i64 (s1 + 1))))))) else (some (.stop (.inl ())))
def bv (a0 : ac) : Option (Bool) :=
  (bF (cW a0) 0).bind fun o14 => match o14 with | .inl _ => (some (decide ((a0.al.length : Int) ≤ 128))) | .inr r16 => (some r16)
def dX (x1 : (List aq)) : (Int × (List aq)) → Option (cb (Int × (List aq)) ((List aq))) := fun (s2, s3) =>
  if (decide (s2 < (x1.length : Int))) = true then ((inO s3 s2).bind fun _ => (cA s3 s2).bind fun x9 => (gh 8 x9.bc).bind fun x10 => (inO s3 s2).bind fun _ => (lB s3 s2 (fun (z14 : aq) => (aq.mk z14.br z14.aU z14.aS x10 z14.aX z14.bi))).bind fun x13 => some (.next ((IntKind.wrap .i64 (s2 + 1)), x13))) else (some (.stop s3))
def eK (a0 : ai) : Option (ai) :=
  (gh 96 a0.aQ.aL).bind fun x1 => (bF (dX x1) (0, x1)).bind fun o16 => some (ai.mk a0.aJ a0.fTo a0.bI a0.aF (aB.mk o16))
def fJ (x1 : (List ai)) : (Int × (List ai)) → Option (cb (Int × (List ai)) ((List ai))) := fun (s2, s3) =>
  if (decide (s2 < (x1.length : Int))) = true then ((inO s3 s2).bind fun _ => (cA s3 s2).bind fun x9 => (eK x9).bind fun x10 => (inO s3 s2).bind fun _ => (kC s3 s2 x10).bind fun x13 => some (.next ((IntKind.wrap .i64 (s2 + 1)), x13))) else (some (.stop s3))
def gO (a0 : ae) : Option (ae) :=
  (gh 80 a0.aM).bind fun x1 => (bF (fJ x1) (0, x1)).bind fun o15 => some (ae.mk a0.ak o15)
def iT (a0 : ac) (a1 : ag) : Int → Option (cb (Int) ((Unit) ⊕ (ae × Bool))) := fun s1 =>
  if (decide (s1 < (a0.al.length : Int))) = true then ((cA a0.al s1).bind fun x4 => if ((x4.ak.aC == a1.aC) && ((x4.ak.aA == a1.aA) && ((x4.ak.av == a1.av) && ((x4.ak.aD == a1.aD) && true)))) = true then ((gO x4).bind fun x6 => some (.stop (.inr (x6, true)))) else (some (.next (IntKind.wrap .i64 (s1 + 1))))) else (some (.stop (.inl ())))
def ep (a0 : ac) (a1 : ag) : Option (ae × Bool) :=
  (bF (iT a0 a1) 0).bind fun o8 => match o8 with | .inl _ => (some ((ae.mk (ag.mk [] [] [] []) []), false)) | .inr r10 => (some r10)
def dB (a0 : (List Int)) (a1 : (List Int)) : Int → Option (cb (Int) ((Unit) ⊕ (Bool))) := fun s2 =>
  if (decide (s2 < (a0.length : Int))) = true then ((cA a0 s2).bind fun x5 => (cA a1 s2).bind fun x6 => if (x5 != x6) = true then (some (.stop (.inr false))) else (some (.next (IntKind.wrap .i64 (s2 + 1))))) else (some (.stop (.inl ())))
def gR (a0 : (List Int)) (a1 : (List Int)) : Option (Bool) :=
  if ((a0.length : Int) != (a1.length : Int)) = true then (some false) else ((bF (dB a0 a1) 0).bind fun o9 => match o9 with | .inl _ => (some true) | .inr r11 => (some r11))
def fg (a0 : aq) (a1 : aq) : Option (Bool) :=
  if (a0.br == a1.br) = true then (if ((a0.aU.a0 == a1.aU.a0) && ((a0.aU.a1 == a1.aU.a1) && ((a0.aU.a2 == a1.aU.a2) && true))) = true then (if ((a0.aS.a0 == a1.aS.a0) && ((a0.aS.a1 == a1.aS.a1) && ((a0.aS.a2 == a1.aS.a2) && true))) = true then ((gR a0.bc a1.bc).bind fun x4 => if x4 = true then (if (a0.aX == a1.aX) = true then (some (a0.bi == a1.bi)) else (some false)) else (some false)) else (some false)) else (some false)) else (some false)
def bP (a0 : (List aq)) (a1 : (List aq)) : Int → Option (cb (Int) ((Unit) ⊕ (Bool))) := fun s2 =>
  if (decide (s2 < (a0.length : Int))) = true then ((cA a0 s2).bind fun x5 => (cA a1 s2).bind fun x6 => (fg x5 x6).bind fun x7 => if (!x7) = true then (some (.stop (.inr false))) else (some (.next (IntKind.wrap .i64 (s2 + 1))))) else (some (.stop (.inl ())))
def df (a0 : (List aq)) (a1 : (List aq)) : Option (Bool) :=
  if ((a0.length : Int) != (a1.length : Int)) = true then (some false) else ((bF (bP a0 a1) 0).bind fun o10 => match o10 with | .inl _ => (some true) | .inr r12 => (some r12))
def jq (a0 : aB) (a1 : aB) : Option (Bool) :=
  (df a0.aL a1.aL).bind fun x1 => some x1
def kk (a0 : ae) (a1 : Int) : Int → Option (cb (Int) ((Unit) ⊕ (ai × Bool))) := fun s1 =>
  if (decide (s1 < (a0.aM.length : Int))) = true then ((cA a0.aM s1).bind fun x4 => if (decide (x4.aJ ≤ a1)) = true then (if (decide (a1 < x4.fTo)) = true then (some (.stop (.inr (x4, true)))) else (some (.next (IntKind.wrap .i64 (s1 + 1))))) else (some (.next (IntKind.wrap .i64 (s1 + 1))))) else (some (.stop (.inl ())))
def lO (a0 : ae) (a1 : Int) : Option (ai × Bool) :=
  (bF (kk a0 a1) 0).bind fun o8 => match o8 with | .inl _ => (some ((ai.mk 0 0 (aT.mk 0 0) (ap.mk 0 0 0) (aB.mk [])), false)) | .inr r10 => (some r10)
def fu (a0 : ac) (a1 : ag) (a2 : Int) : Option (ai × Int) :=
  (bv a0).bind fun x1 => if (!x1) = true then (some ((ai.mk 0 0 (aT.mk 0 0) (ap.mk 0 0 0) (aB.mk [])), 1)) else ((ep a0 a1).bind fun x3 => (lO x3.1 a2).bind fun x4 => if (!x4.2) = true then (some ((ai.mk 0 0 (aT.mk 0 0) (ap.mk 0 0 0) (aB.mk [])), 6)) else (some (x4.1, 0)))
def bT (a0 : ac) (a1 : ac) (a2 : aa) : Option (Bool) :=
  (fu a0 a2.ak a2.aN).bind fun x1 => (fu a1 a2.ak a2.aN).bind fun x2 => if (x1.2 != 0) = true then (some (!((x1.2 == 0) == (x2.2 == 0)))) else (if (x2.2 != 0) = true then (some (!((x1.2 == 0) == (x2.2 == 0)))) else (if (!((x1.1.aF.fX == x2.1.aF.fX) && ((x1.1.aF.fY == x2.1.aF.fY) && ((x1.1.aF.fZ == x2.1.aF.fZ) && true)))) = true then (some true) else ((jq x1.1.aQ x2.1.aQ).bind fun x6 => some (!x6))))
def lI (a1 : (List aa)) : (Int × (List Int) × Int × (List aa)) → Option (cb (Int × (List Int) × Int × (List aa)) ((List Int) × Int × (List aa))) := fun (s1, s2, s3, s4) =>
  if (decide (s1 < (a1.length : Int))) = true then ((cV 5 (ah.mk s2 s3)).bind fun x10 => if (decide (x10.1 > 0)) = true then ((cA a1 s1).bind fun x12 => (dJ s4 [x12] 104).bind fun x13 => some (.next ((IntKind.wrap .i64 (s1 + 1)), x10.2.fL, x10.2.fAt, x13))) else (some (.next ((IntKind.wrap .i64 (s1 + 1)), x10.2.fL, x10.2.fAt, s4)))) else (some (.stop (s2, s3, s4)))
def jV (a1 : (List aa)) (a2 : (List aa)) (d0 : ah) : Option ((List aa) × ah) :=
  (bF (lI a1) (0, d0.fL, d0.fAt, ([] : (List aa)))).bind fun o15 => (cV 2 (ah.mk o15.1 o15.2.1)).bind fun x16 => if (x16.1 == 0) = true then (if (decide ((a2.length : Int) > 0)) = true then ((cV (a2.length : Int) x16.2).bind fun x19 => (cA a2 x19.1).bind fun x20 => (dJ o15.2.2 [x20] 104).bind fun x21 => some (x21, x19.2)) else (some (o15.2.2, x16.2))) else (some (o15.2.2, x16.2))
def fa (a0 : aa) (d1 : Int) (d2 : ac) (d3 : ac) (d4 : (List (aa × Int))) : Option (Bool) :=
  if ((gl oM a0 0 d4) != d1) = true then (some true) else ((bT d2 d3 a0).bind fun x2 => some x2)
def bQ (a0 : (List aa)) (d1 : Int) (d2 : ac) (d3 : ac) (d4 : (List (aa × Int))) : Int → Option (cb (Int) ((Unit) ⊕ (Int))) := fun s1 =>
  if (decide (s1 < (a0.length : Int))) = true then ((cA a0 s1).bind fun x4 => (fa x4 d1 d2 d3 d4).bind fun x5 => if x5 = true then (some (.stop (.inr s1))) else (some (.next (IntKind.wrap .i64 (s1 + 1))))) else (some (.stop (.inl ())))
def dg (a0 : (List aa)) (d1 : Int) (d2 : ac) (d3 : ac) (d4 : (List (aa × Int))) : Option (Int) :=
  (bF (bQ a0 d1 d2 d3 d4) 0).bind fun o8 => match o8 with | .inl _ => (some (-1)) | .inr r10 => (some r10)
def ca (a0 : (List aa)) (d1 : Int) (d2 : ac) (d3 : ac) (d4 : (List (aa × Int))) : Option (Bool) :=
  (dg a0 d1 d2 d3 d4).bind fun x1 => some (decide (x1 ≥ 0))
def fC (x17 : (List aa)) (s12 : Int) : (Int × (List (aa × Int))) → Option (cb (Int × (List (aa × Int))) (Int × (List (aa × Int)))) := fun (s18, s19) =>
  if (decide (s18 < (x17.length : Int))) = true then ((cA x17 s18).bind fun x24 => some (.next ((IntKind.wrap .i64 (s18 + 1)), (mD oM x24 (IntKind.wrap .i64 (s12 + 1)) s19)))) else (some (.stop (s12, s19)))
def fD (x11 : (List (List aa))) : (Int × (List (aa × Int))) → Option (cb (Int × (List (aa × Int))) ((List (aa × Int)))) := fun (s12, s13) =>
  if (decide (s12 < (x11.length : Int))) = true then ((cA x11 s12).bind fun x17 => (bF (fC x17 s12) (0, s13)).bind fun o26 => some (.next ((IntKind.wrap .i64 (o26.1 + 1)), o26.2))) else (some (.stop s13))
def fE (x29 : (List (List aa))) (o28 : (List (aa × Int))) (x11 : (List (List aa))) (a3 : ac) (a4 : ac) : (Int × (List Int)) → Option (cb (Int × (List Int)) ((List Int))) := fun (s30, s31) =>
  if (decide (s30 < (x29.length : Int))) = true then ((cA x29 s30).bind fun x35 => (cA x35 0).bind fun x36 => if ((gl oM x36 0 o28) == 0) = true then ((dJ s31 [s30] 8).bind fun x38 => some (.next ((IntKind.wrap .i64 (s30 + 1)), x38))) else ((cA x11 (IntKind.wrap .i64 ((gl oM x36 0 o28) - 1))).bind fun x39 => if ((x39.length : Int) != (x35.length : Int)) = true then ((dJ s31 [s30] 8).bind fun x41 => some (.next ((IntKind.wrap .i64 (s30 + 1)), x41))) else ((ca x35 (gl oM x36 0 o28) a3 a4 o28).bind fun x42 => if x42 = true then ((dJ s31 [s30] 8).bind fun x44 => some (.next ((IntKind.wrap .i64 (s30 + 1)), x44))) else (some (.next ((IntKind.wrap .i64 (s30 + 1)), s31)))))) else (some (.stop s31))
def cp (a0 : Int) (a1 : (List aa)) (a2 : (List aa)) (a3 : ac) (a4 : ac) : Option ((List Int) × Int) :=
  if (decide (a0 < 0)) = true then (some (([] : (List Int)), 2)) else (if (decide (a0 > 1099511627776)) = true then (some (([] : (List Int)), 2)) else ((cB a1).bind fun x3 => if (!x3) = true then (some (([] : (List Int)), 1)) else ((cB a2).bind fun x5 => if (!x5) = true then (some (([] : (List Int)), 1)) else ((bv a3).bind fun x7 => if (!x7) = true then (some (([] : (List Int)), 1)) else ((bv a4).bind fun x9 => if (!x9) = true then (some (([] : (List Int)), 1)) else ((bG a0 a1).bind fun x11 => (bF (fD x11) (0, ([] : List (aa × Int)))).bind fun o28 => (bG a0 a2).bind fun x29 => (bF (fE x29 o28 x11 a3 a4) (0, ([] : (List Int)))).bind fun o46 => some (o46, 0)))))))
def ij (a0 : aB) : Int → Option (cb (Int) ((Unit) ⊕ (Bool))) := fun s1 =>
  if (decide (s1 < (a0.aL.length : Int))) = true then ((cA a0.aL s1).bind fun x4 => if (decide ((x4.bc.length : Int) > 200)) = true then (some (.stop (.inr false))) else (some (.next (IntKind.wrap .i64 (s1 + 1))))) else (some (.stop (.inl ())))
def fe (a0 : aB) : Option (Bool) :=
  (bF (ij a0) 0).bind fun o7 => match o7 with | .inl _ => (some (decide ((a0.aL.length : Int) ≤ 12))) | .inr r9 => (some r9)
def fW (x6 : ae) (a0 : ac) (s1 : Int) : Int → Option (cb (Int) ((Int) ⊕ (Bool))) := fun s7 =>
  if (decide (s7 < (x6.aM.length : Int))) = true then ((cA a0.al s1).bind fun x11 => (cA x11.aM s7).bind fun x12 => (fe x12.aQ).bind fun x13 => if (!x13) = true then (some (.stop (.inr false))) else (some (.next (IntKind.wrap .i64 (s7 + 1))))) else (some (.stop (.inl s1)))
def f8 (a0 : ac) : Int → Option (cb (Int) ((Unit) ⊕ (Bool))) := fun s1 =>
  if (decide (s1 < (a0.al.length : Int))) = true then ((cA a0.al s1).bind fun x4 => if (decide ((x4.aM.length : Int) > 10)) = true then (some (.stop (.inr false))) else ((cA a0.al s1).bind fun x6 => (bF (fW x6 a0 s1) 0).bind fun o16 => match o16 with | .inl y17 => (some (.next (IntKind.wrap .i64 (y17 + 1)))) | .inr r18 => (some (.stop (.inr r18))))) else (some (.stop (.inl ())))
def eL (a0 : ac) : Option (Bool) :=
  (bF (f8 a0) 0).bind fun o20 => match o20 with | .inl _ => (some (decide ((a0.al.length : Int) ≤ 10))) | .inr r22 => (some r22)
def lG (a1 : aa) (d0 : ah) : Option (aa × ah) :=
  (cV 5 d0).bind fun x1 => if (x1.1 == 0) = true then (some ((aa.mk (ag.mk a1.ak.aC [] a1.ak.av a1.ak.aD) a1.aN a1.aG a1.aY a1.aH a1.aK), x1.2)) else (if (x1.1 == 1) = true then (some ((aa.mk a1.ak a1.aN (IntKind.wrap .i64 (a1.aN + 1)) a1.aY a1.aH a1.aK), x1.2)) else (if (x1.1 == 2) = true then ((di [0, 18014398509481984, 18014398509481985] x1.2).bind fun x5 => some ((aa.mk a1.ak a1.aN a1.aG x5.1 a1.aH a1.aK), x5.2)) else (if (x1.1 == 3) = true then ((di [-1, 0, 1073741823, 1073741824] x1.2).bind fun x7 => some ((aa.mk a1.ak a1.aN a1.aG a1.aY x7.1 a1.aK), x7.2)) else ((cV 5 x1.2).bind fun x8 => some ((aa.mk a1.ak a1.aN a1.aG a1.aY a1.aH (IntKind.wrap .i64 (x8.1 - 2))), x8.2)))))
def jE (a0 : (List UInt8)) : Int → Option (cb (Int) ((Unit) ⊕ (Bool))) := fun s1 =>
  if (decide (s1 < (a0.length : Int))) = true then ((mo a0 s1).bind fun x4 => if (decide (x4 ≥ 65)) = true then ((mo a0 s1).bind fun x6 => if (decide (x6 ≤ 90)) = true then (some (.next (IntKind.wrap .i64 (s1 + 1)))) else ((mo a0 s1).bind fun x8 => if (decide (x8 ≥ 48)) = true then ((mo a0 s1).bind fun x10 => if (!(decide (x10 ≤ 57))) = true then (some (.stop (.inr false))) else (some (.next (IntKind.wrap .i64 (s1 + 1))))) else (some (.stop (.inr false))))) else ((mo a0 s1).bind fun x12 => if (decide (x12 ≥ 48)) = true then ((mo a0 s1).bind fun x14 => if (!(decide (x14 ≤ 57))) = true then (some (.stop (.inr false))) else (some (.next (IntKind.wrap .i64 (s1 + 1))))) else (some (.stop (.inr false))))) else (some (.stop (.inl ())))
def jj (a0 : (List UInt8)) (a1 : Int) (a2 : Int) : Option (Bool) :=
  (bF (jE a0) 0).bind fun o17 => match o17 with | .inl _ => (if (decide ((a0.length : Int) ≥ a1)) = true then (some (decide ((a0.length : Int) ≤ a2))) else (some false)) | .inr r19 => (some r19)
def jR (a0 : ag) : Option (Bool) :=
  (jj a0.aC 1 2).bind fun x1 => if x1 = true then ((jj a0.aA 1 5).bind fun x3 => if x3 = true then (if (a0.av == []) = true then ((jj a0.aD 3 3).bind fun x6 => some x6) else ((jj a0.av 2 2).bind fun x7 => if x7 = true then ((jj a0.aD 3 3).bind fun x9 => some x9) else (some false))) else (some false)) else (some false)
def cN (a0 : Int) (a1 : Int) (a2 : Int) : Option (Bool) :=
  if (decide (a0 ≥ a1)) = true then (some (decide (a0 ≤ a2))) else (some false)
def eS (a0 : aa) : Option (Bool) :=
  (jR a0.ak).bind fun x1 => if x1 = true then (if (decide (a0.aG ≥ 0)) = true then (if (decide (a0.aG ≤ a0.aN)) = true then (if (decide (a0.aN ≤ a0.aY)) = true then (if (decide (a0.aY ≤ 18014398509481984)) = true then ((cN a0.aH 0 1073741823).bind fun x7 => if x7 = true then ((cN a0.aK (-1) 1).bind fun x9 => some x9) else (some false)) else (some false)) else (some false)) else (some false)) else (some false)) else (some false)
def hZ (a0 : (List aa)) : Int → Option (cb (Int) ((Unit) ⊕ (Bool))) := fun s1 =>
  if (decide (s1 < (a0.length : Int))) = true then ((cA a0 s1).bind fun x4 => (eS x4).bind fun x5 => if (!x5) = true then (some (.stop (.inr false))) else (some (.next (IntKind.wrap .i64 (s1 + 1))))) else (some (.stop (.inl ())))
def nE (a0 : (List aa)) : Option (Bool) :=
  (bF (hZ a0) 0).bind fun o8 => match o8 with | .inl _ => (some true) | .inr r10 => (some r10)
def k9 (s2 : (List aa)) (a0 : (List aa)) (s1 : Int) : Int → Option (cb (Int) (Int × Int × (List aa))) := fun s6 =>
  if (decide (s6 < (s2.length : Int))) = true then ((inO s2 s6).bind fun _ => (cA s2 s6).bind fun x14 => (cA a0 s1).bind fun x15 => if (decide (x14.aG ≤ x15.aG)) = true then (some (.next (IntKind.wrap .i64 (s6 + 1)))) else (some (.stop (s1, s6, s2)))) else (some (.stop (s1, s6, s2)))
def la (a0 : (List aa)) : (Int × (List aa)) → Option (cb (Int × (List aa)) ((List aa))) := fun (s1, s2) =>
  if (decide (s1 < (a0.length : Int))) = true then ((bF (k9 s2 a0 s1) 0).bind fun o18 => (dJ o18.2.2 [(aa.mk (ag.mk [] [] [] []) 0 0 0 0 0)] 104).bind fun x19 => (jz x19.length (IntKind.wrap .i64 (o18.2.1 + 1)) (x19.length : Int)).bind fun _ => (jz x19.length o18.2.1 (x19.length : Int)).bind fun _ => (my x19.length (0 + ((IntKind.wrap .i64 (o18.2.1 + 1)) : Int).toNat) (0 + ((x19.length : Int) : Int).toNat)).bind fun _ => (kK x19 (0 + (o18.2.1 : Int).toNat) (0 + ((x19.length : Int) : Int).toNat)).bind fun x23 => (cA a0 o18.1).bind fun x25 => (inO (jH x19 (0 + ((IntKind.wrap .i64 (o18.2.1 + 1)) : Int).toNat) ((0 + ((x19.length : Int) : Int).toNat) - (0 + ((IntKind.wrap .i64 (o18.2.1 + 1)) : Int).toNat)) x23) o18.2.1).bind fun _ => (kC (jH x19 (0 + ((IntKind.wrap .i64 (o18.2.1 + 1)) : Int).toNat) ((0 + ((x19.length : Int) : Int).toNat) - (0 + ((IntKind.wrap .i64 (o18.2.1 + 1)) : Int).toNat)) x23) o18.2.1 x25).bind fun x28 => some (.next ((IntKind.wrap .i64 (o18.1 + 1)), x28))) else (some (.stop s2))
def kA (a0 : (List aa)) : Option ((List aa)) :=
  (bF (la a0) (0, ([] : (List aa)))).bind fun o30 => some o30
def iX (x6 : (List aa)) (a0 : Int) : (Int × (List (List aa))) → Option (cb (Int × (List (List aa))) ((List (List aa)))) := fun (s7, s8) =>
  if (decide (s7 < (x6.length : Int))) = true then (if (s7 == 0) = true then ((dJ s8 [[]] 24).bind fun x13 => (mu x13).bind fun x14 => (inO x13 (IntKind.wrap .i64 ((x13.length : Int) - 1))).bind fun _ => (atO (IntKind.wrap .i64 ((x13.length : Int) - 1)) (x13.length - 1)).bind fun _ => (cA x6 s7).bind fun x17 => (dJ x14 [x17] 104).bind fun x18 => (inO x13 (IntKind.wrap .i64 ((x13.length : Int) - 1))).bind fun _ => (stO x13.length (IntKind.wrap .i64 ((x13.length : Int) - 1)) (x13.length - 1)).bind fun _ => some (.next ((IntKind.wrap .i64 (s7 + 1)), (x13.set (x13.length - 1) x18)))) else ((cA x6 s7).bind fun x21 => (cA x6 (IntKind.wrap .i64 (s7 - 1))).bind fun x22 => if (decide ((IntKind.wrap .i64 (x21.aG - x22.aG)) > a0)) = true then ((dJ s8 [[]] 24).bind fun x24 => (mu x24).bind fun x25 => (inO x24 (IntKind.wrap .i64 ((x24.length : Int) - 1))).bind fun _ => (atO (IntKind.wrap .i64 ((x24.length : Int) - 1)) (x24.length - 1)).bind fun _ => (cA x6 s7).bind fun x28 => (dJ x25 [x28] 104).bind fun x29 => (inO x24 (IntKind.wrap .i64 ((x24.length : Int) - 1))).bind fun _ => (stO x24.length (IntKind.wrap .i64 ((x24.length : Int) - 1)) (x24.length - 1)).bind fun _ => some (.next ((IntKind.wrap .i64 (s7 + 1)), (x24.set (x24.length - 1) x29)))) else ((mu s8).bind fun x32 => (inO s8 (IntKind.wrap .i64 ((s8.length : Int) - 1))).bind fun _ => (atO (IntKind.wrap .i64 ((s8.length : Int) - 1)) (s8.length - 1)).bind fun _ => (cA x6 s7).bind fun x35 => (dJ x32 [x35] 104).bind fun x36 => (inO s8 (IntKind.wrap .i64 ((s8.length : Int) - 1))).bind fun _ => (stO s8.length (IntKind.wrap .i64 ((s8.length : Int) - 1)) (s8.length - 1)).bind fun _ => some (.next ((IntKind.wrap .i64 (s7 + 1)), (s8.set (s8.length - 1) x36)))))) else (some (.stop s8))
def iY  : (Int × (List (List aa))) → Option (cb (Int × (List (List aa))) ((List (List aa)))) := fun (s41, s42) =>
  if (decide (s41 < (s42.length : Int))) = true then ((cA s42 s41).bind fun x46 => (inO s42 s41).bind fun _ => (atO s41 (Int.toNat s41)).bind fun _ => (gi x46).bind fun x49 => (inO s42 s41).bind fun _ => (stO s42.length s41 (Int.toNat s41)).bind fun _ => some (.next ((IntKind.wrap .i64 (s41 + 1)), (s42.set (Int.toNat s41) x49)))) else (some (.stop s42))
def dn (a0 : Int) (a1 : (List aa)) : Option ((List (List aa)) × Int) :=
  if (decide (a0 < 0)) = true then (some (([] : (List (List aa))), 2)) else (if (decide (a0 > 1099511627776)) = true then (some (([] : (List (List aa))), 2)) else ((nE a1).bind fun x3 => if (!x3) = true then (some (([] : (List (List aa))), 1)) else ((gi a1).bind fun x5 => (kA x5).bind fun x6 => (bF (iX x6 a0) (0, ([] : (List (List aa))))).bind fun o40 => (bF (iY) (0, o40)).bind fun o53 => some (o53, 0))))
def jD (s2 : (List ag)) (a0 : (List ag)) (s1 : Int) : Int → Option (cb (Int) (Int × Int × (List ag))) := fun s6 =>
  if (decide (s6 < (s2.length : Int))) = true then ((inO s2 s6).bind fun _ => (cA s2 s6).bind fun x14 => (cA a0 s1).bind fun x15 => (gL x14 x15).bind fun x16 => if (decide (x16 < 0)) = true then (some (.next (IntKind.wrap .i64 (s6 + 1)))) else (some (.stop (s1, s6, s2)))) else (some (.stop (s1, s6, s2)))
def fK (a0 : (List ag)) (o19 : Int × Int × (List ag)) : Option (cb (Int × (List ag)) ((List ag))) :=
  (cA a0 o19.1).bind fun x20 => (dJ o19.2.2 [x20] 64).bind fun x21 => (jz x21.length (IntKind.wrap .i64 (o19.2.1 + 1)) (x21.length : Int)).bind fun _ => (jz x21.length o19.2.1 (x21.length : Int)).bind fun _ => (my x21.length (0 + ((IntKind.wrap .i64 (o19.2.1 + 1)) : Int).toNat) (0 + ((x21.length : Int) : Int).toNat)).bind fun _ => (kK x21 (0 + (o19.2.1 : Int).toNat) (0 + ((x21.length : Int) : Int).toNat)).bind fun x25 => (cA a0 o19.1).bind fun x27 => (inO (jH x21 (0 + ((IntKind.wrap .i64 (o19.2.1 + 1)) : Int).toNat) ((0 + ((x21.length : Int) : Int).toNat) - (0 + ((IntKind.wrap .i64 (o19.2.1 + 1)) : Int).toNat)) x25) o19.2.1).bind fun _ => (kC (jH x21 (0 + ((IntKind.wrap .i64 (o19.2.1 + 1)) : Int).toNat) ((0 + ((x21.length : Int) : Int).toNat) - (0 + ((IntKind.wrap .i64 (o19.2.1 + 1)) : Int).toNat)) x25) o19.2.1 x27).bind fun x30 => some (.next ((IntKind.wrap .i64 (o19.1 + 1)), x30))
def lr (a0 : (List ag)) : (Int × (List ag)) → Option (cb (Int × (List ag)) ((List ag))) := fun (s1, s2) =>
  if (decide (s1 < (a0.length : Int))) = true then ((bF (jD s2 a0 s1) 0).bind fun o19 => if (decide (o19.2.1 < (o19.2.2.length : Int))) = true then ((inO o19.2.2 o19.2.1).bind fun _ => (cA o19.2.2 o19.2.1).bind fun x35 => (cA a0 o19.1).bind fun x36 => if ((x35.aC == x36.aC) && ((x35.aA == x36.aA) && ((x35.av == x36.av) && ((x35.aD == x36.aD) && true)))) = true then (some (.next ((IntKind.wrap .i64 (o19.1 + 1)), o19.2.2))) else (fK a0 o19)) else (fK a0 o19)) else (some (.stop s2))
def lq (a0 : (List ag)) : Option ((List ag)) :=
  (bF (lr a0) (0, ([] : (List ag)))).bind fun o39 => some o39
def iZ (a0 : (List aa)) : (Int × (List ag)) → Option (cb (Int × (List ag)) ((List ag))) := fun (s1, s2) =>
  if (decide (s1 < (a0.length : Int))) = true then ((cA a0 s1).bind fun x6 => (eS x6).bind fun x7 => if x7 = true then ((cA a0 s1).bind fun x9 => (dJ s2 [x9.ak] 64).bind fun x10 => some (.next ((IntKind.wrap .i64 (s1 + 1)), x10))) else (some (.next ((IntKind.wrap .i64 (s1 + 1)), s2)))) else (some (.stop s2))
def i8 (x20 : (List aa)) (x19 : ag) (s14 : Int) (s15 : (List ar)) : (Int × (List aj)) → Option (cb (Int × (List aj)) (Int × (List ar) × (List aj))) := fun (s21, s22) =>
  if (decide (s21 < (x20.length : Int))) = true then ((inO x20 s21).bind fun _ => (cA x20 s21).bind fun x30 => (eS x30).bind fun x31 => if (!x31) = true then (some (.next ((IntKind.wrap .i64 (s21 + 1)), s22))) else (if (!((x30.ak.aC == x19.aC) && ((x30.ak.aA == x19.aA) && ((x30.ak.av == x19.av) && ((x30.ak.aD == x19.aD) && true))))) = true then (some (.next ((IntKind.wrap .i64 (s21 + 1)), s22))) else (if (decide ((s22.length : Int) > 0)) = true then ((inO s22 (IntKind.wrap .i64 ((s22.length : Int) - 1))).bind fun _ => (cA s22 (IntKind.wrap .i64 ((s22.length : Int) - 1))).bind fun x37 => if (decide (x37.fTo > x30.aN)) = true then (some (.next ((IntKind.wrap .i64 (s21 + 1)), s22))) else (if (decide ((s22.length : Int) > 0)) = true then ((inO s22 (IntKind.wrap .i64 ((s22.length : Int) - 1))).bind fun _ => (cA s22 (IntKind.wrap .i64 ((s22.length : Int) - 1))).bind fun x42 => if (x42.fTo == x30.aN) = true then ((inO s22 (IntKind.wrap .i64 ((s22.length : Int) - 1))).bind fun _ => (cA s22 (IntKind.wrap .i64 ((s22.length : Int) - 1))).bind fun x46 => (inO s22 (IntKind.wrap .i64 ((s22.length : Int) - 1))).bind fun _ => (lB s22 (IntKind.wrap .i64 ((s22.length : Int) - 1)) (fun (z50 : aj) => (aj.mk z50.aJ (IntKind.wrap .i64 (x46.fTo + 1))))).bind fun x49 => some (.next ((IntKind.wrap .i64 (s21 + 1)), x49))) else ((dJ s22 [(aj.mk x30.aN (IntKind.wrap .i64 (x30.aN + 1)))] 16).bind fun x51 => some (.next ((IntKind.wrap .i64 (s21 + 1)), x51)))) else ((dJ s22 [(aj.mk x30.aN (IntKind.wrap .i64 (x30.aN + 1)))] 16).bind fun x52 => some (.next ((IntKind.wrap .i64 (s21 + 1)), x52))))) else (if (decide ((s22.length : Int) > 0)) = true then ((inO s22 (IntKind.wrap .i64 ((s22.length : Int) - 1))).bind fun _ => (cA s22 (IntKind.wrap .i64 ((s22.length : Int) - 1))).bind fun x56 => if (x56.fTo == x30.aN) = true then ((inO s22 (IntKind.wrap .i64 ((s22.length : Int) - 1))).bind fun _ => (cA s22 (IntKind.wrap .i64 ((s22.length : Int) - 1))).bind fun x60 => (inO s22 (IntKind.wrap .i64 ((s22.length : Int) - 1))).bind fun _ => (lB s22 (IntKind.wrap .i64 ((s22.length : Int) - 1)) (fun (z64 : aj) => (aj.mk z64.aJ (IntKind.wrap .i64 (x60.fTo + 1))))).bind fun x63 => some (.next ((IntKind.wrap .i64 (s21 + 1)), x63))) else ((dJ s22 [(aj.mk x30.aN (IntKind.wrap .i64 (x30.aN + 1)))] 16).bind fun x65 => some (.next ((IntKind.wrap .i64 (s21 + 1)), x65)))) else ((dJ s22 [(aj.mk x30.aN (IntKind.wrap .i64 (x30.aN + 1)))] 16).bind fun x66 => some (.next ((IntKind.wrap .i64 (s21 + 1)), x66))))))) else (some (.stop (s14, s15, s22)))
def k8 (x13 : (List ag)) (a0 : (List aa)) : (Int × (List ar)) → Option (cb (Int × (List ar)) ((List ar))) := fun (s14, s15) =>
  if (decide (s14 < (x13.length : Int))) = true then ((cA x13 s14).bind fun x19 => (gi a0).bind fun x20 => (bF (i8 x20 x19 s14 s15) (0, ([] : (List aj)))).bind fun o68 => (dJ o68.2.1 [(ar.mk x19 o68.2.2)] 88).bind fun x69 => some (.next ((IntKind.wrap .i64 (o68.1 + 1)), x69))) else (some (.stop s15))
def jn (a0 : (List aa)) : Option ((List ar)) :=
  (bF (iZ a0) (0, ([] : (List ag)))).bind fun o12 => (lq o12).bind fun x13 => (bF (k8 x13 a0) (0, ([] : (List ar)))).bind fun o71 => some o71
def uE  : (Int × Int) → Option (cb (Int × Int) (Int)) := fun (s1, s2) =>
  if (s2 != 0) = true then ((remO s1 s2).bind fun x6 => some (.next (s2, x6))) else (some (.stop s1))
def wM (a0 : Int) (a1 : Int) : Option (Int) :=
  (bF (uE) (a0, a1)).bind fun o8 => some o8
def ql (a0 : aT) : Option (Bool) :=
  (cN a0.aU 1 4096).bind fun x1 => if x1 = true then ((cN a0.aS 1 4096).bind fun x3 => if x3 = true then ((wM a0.aU a0.aS).bind fun x5 => some (x5 == 1)) else (some false)) else (some false)
def jF (a0 : (List Int)) : Int → Option (cb (Int) ((Unit) ⊕ (Bool))) := fun s1 =>
  if (decide (s1 < (a0.length : Int))) = true then ((cA a0 s1).bind fun x4 => (cN x4 (-1048576) 1048576).bind fun x5 => if (!x5) = true then (some (.stop (.inr false))) else (some (.next (IntKind.wrap .i64 (s1 + 1))))) else (some (.stop (.inl ())))
def gM (a0 : (List Int)) : Option (Bool) :=
  (bF (jF a0) 0).bind fun o8 => match o8 with | .inl _ => (some true) | .inr r10 => (some r10)
def si (a0 : (List Int)) : (Int × Int) → Option (cb (Int × Int) (Int)) := fun (s1, s2) =>
  if (decide (s2 < (a0.length : Int))) = true then ((cA a0 s2).bind fun x6 => some (.next ((IntKind.wrap .i64 (s1 + x6)), (IntKind.wrap .i64 (s2 + 1))))) else (some (.stop s1))
def lv (a0 : (List Int)) : Option (Int) :=
  (bF (si a0) (0, 0)).bind fun o8 => some o8
def gP (a0 : aq) : Option (Bool) :=
  if ((a0.bc.length : Int) == 0) = true then (if (a0.aX == 0) = true then (if (a0.br == 0) = true then (if (a0.bi == 0) = true then ((cN a0.aU.a0 1 1048576).bind fun x5 => if x5 = true then ((cN a0.aS.a0 1 1048576).bind fun x7 => if x7 = true then (if (a0.aU.a1 == 0) = true then (if (a0.aU.a2 == 0) = true then (if (a0.aS.a1 == 0) = true then (some (a0.aS.a2 == 0)) else (some false)) else (some false)) else (some false)) else (some false)) else (some false)) else (some false)) else (if (a0.br == 1) = true then (if (a0.bi == 0) = true then ((gM [a0.aU.a0, a0.aU.a1, a0.aU.a2]).bind fun x14 => if x14 = true then ((gM [a0.aS.a0, a0.aS.a1, a0.aS.a2]).bind fun x16 => if x16 = true then (some (a0.aS.a0 != 0)) else (some false)) else (some false)) else (some false)) else (if (a0.br == 2) = true then (if ((a0.aU.a0 == 0) && ((a0.aU.a1 == 0) && ((a0.aU.a2 == 0) && true))) = true then (if ((a0.aS.a0 == 0) && ((a0.aS.a1 == 0) && ((a0.aS.a2 == 0) && true))) = true then ((cN (a0.bc.length : Int) 1 128).bind fun x21 => if x21 = true then ((gM a0.bc).bind fun x23 => if x23 = true then ((lv a0.bc).bind fun x25 => if (x25 != 0) = true then ((cN a0.aX 1 64).bind fun x27 => if x27 = true then ((cN a0.bi 0 40).bind fun x29 => some x29) else (some false)) else (some false)) else (some false)) else (some false)) else (some false)) else (some false)) else (some false)))) else (if (a0.br == 0) = true then (some false) else (if (a0.br == 1) = true then (some false) else (if (a0.br == 2) = true then (if ((a0.aU.a0 == 0) && ((a0.aU.a1 == 0) && ((a0.aU.a2 == 0) && true))) = true then (if ((a0.aS.a0 == 0) && ((a0.aS.a1 == 0) && ((a0.aS.a2 == 0) && true))) = true then ((cN (a0.bc.length : Int) 1 128).bind fun x35 => if x35 = true then ((gM a0.bc).bind fun x37 => if x37 = true then ((lv a0.bc).bind fun x39 => if (x39 != 0) = true then ((cN a0.aX 1 64).bind fun x41 => if x41 = true then ((cN a0.bi 0 40).bind fun x43 => some x43) else (some false)) else (some false)) else (some false)) else (some false)) else (some false)) else (some false)) else (some false))))) else (if (a0.br == 0) = true then (some false) else (if (a0.br == 1) = true then (some false) else (if (a0.br == 2) = true then (if ((a0.aU.a0 == 0) && ((a0.aU.a1 == 0) && ((a0.aU.a2 == 0) && true))) = true then (if ((a0.aS.a0 == 0) && ((a0.aS.a1 == 0) && ((a0.aS.a2 == 0) && true))) = true then ((cN (a0.bc.length : Int) 1 128).bind fun x49 => if x49 = true then ((gM a0.bc).bind fun x51 => if x51 = true then ((lv a0.bc).bind fun x53 => if (x53 != 0) = true then ((cN a0.aX 1 64).bind fun x55 => if x55 = true then ((cN a0.bi 0 40).bind fun x57 => some x57) else (some false)) else (some false)) else (some false)) else (some false)) else (some false)) else (some false)) else (some false))))
def kq (a0 : aB) : (Int × Int) → Option (cb (Int × Int) ((Unit) ⊕ (Bool))) := fun (s1, s2) =>
  if (decide (s2 < (a0.aL.length : Int))) = true then ((cA a0.aL s2).bind fun x5 => (gP x5).bind fun x6 => if (!x6) = true then (some (.stop (.inr false))) else ((cA a0.aL s2).bind fun x8 => if (x8.br == 2) = true then ((cA a0.aL s2).bind fun x10 => if (decide ((IntKind.wrap .i64 (s1 * x10.aX)) > 64)) = true then (some (.stop (.inr false))) else (some (.next ((IntKind.wrap .i64 (s1 * x10.aX)), (IntKind.wrap .i64 (s2 + 1)))))) else (some (.next (s1, (IntKind.wrap .i64 (s2 + 1))))))) else (some (.stop (.inl ())))
def nB (a0 : aB) : Option (Bool) :=
  (bF (kq a0) (1, 0)).bind fun o13 => match o13 with | .inl _ => (some (decide ((a0.aL.length : Int) ≤ 8))) | .inr r15 => (some r15)
def gQ (a0 : ai) : Option (Bool) :=
  if (decide (a0.aJ ≥ 0)) = true then (if (decide (a0.aJ < a0.fTo)) = true then (if (decide (a0.fTo ≤ 9007199254740992)) = true then ((ql a0.bI).bind fun x4 => if x4 = true then ((nB a0.aQ).bind fun x6 => if x6 = true then ((cN a0.aF.fX (-1048576) 1048576).bind fun x8 => if x8 = true then ((cN a0.aF.fY (-1048576) 1048576).bind fun x10 => if x10 = true then ((cN a0.aF.fZ (-16384) 1048576).bind fun x12 => some x12) else (some false)) else (some false)) else (some false)) else (some false)) else (some false)) else (some false)) else (some false)
def iN (x4 : ae) (s1 : Int) : Int → Option (cb (Int) ((Int) ⊕ (Bool))) := fun s5 =>
  if (decide (s5 < (x4.aM.length : Int))) = true then ((cA x4.aM s5).bind fun x9 => (gQ x9).bind fun x10 => if (!x10) = true then (some (.stop (.inr false))) else (if (decide (s5 > 0)) = true then ((cA x4.aM s5).bind fun x13 => (cA x4.aM (IntKind.wrap .i64 (s5 - 1))).bind fun x14 => if (decide (x13.aJ < x14.fTo)) = true then (some (.stop (.inr false))) else (some (.next (IntKind.wrap .i64 (s5 + 1))))) else (some (.next (IntKind.wrap .i64 (s5 + 1)))))) else (some (.stop (.inl s1)))
def iM (x4 : ae) (s1 : Int) : Option (cb (Int) ((Unit) ⊕ (Bool))) :=
  (bF (iN x4 s1) 0).bind fun o17 => match o17 with | .inl y18 => (some (.next (IntKind.wrap .i64 (y18 + 1)))) | .inr r19 => (some (.stop (.inr r19)))
def iO (a0 : ac) : Int → Option (cb (Int) ((Unit) ⊕ (Bool))) := fun s1 =>
  if (decide (s1 < (a0.al.length : Int))) = true then ((cA a0.al s1).bind fun x4 => (jR x4.ak).bind fun x21 => if (!x21) = true then (some (.stop (.inr false))) else (if (decide (s1 > 0)) = true then ((cA a0.al (IntKind.wrap .i64 (s1 - 1))).bind fun x24 => (gL x24.ak x4.ak).bind fun x25 => if (decide (x25 ≥ 0)) = true then (some (.stop (.inr false))) else ((cN (x4.aM.length : Int) 1 32).bind fun x27 => if (!x27) = true then (some (.stop (.inr false))) else (iM x4 s1))) else ((cN (x4.aM.length : Int) 1 32).bind fun x29 => if (!x29) = true then (some (.stop (.inr false))) else (iM x4 s1)))) else (some (.stop (.inl ())))
def iV (a0 : ac) : Option (Bool) :=
  (bF (iO a0) 0).bind fun o32 => match o32 with | .inl _ => (some (decide ((a0.al.length : Int) ≤ 128))) | .inr r34 => (some r34)
def jk (a0 : aB) : (Int × (List aq)) → Option (cb (Int × (List aq)) ((List aq))) := fun (s1, s2) =>
  if (decide (s1 < (a0.aL.length : Int))) = true then ((cA a0.aL s1).bind fun x6 => (dJ ([] : List Int) x6.bc 8).bind fun x7 => (dJ s2 [(aq.mk x6.br x6.aU x6.aS x7 x6.aX x6.bi)] 96).bind fun x8 => some (.next ((IntKind.wrap .i64 (s1 + 1)), x8))) else (some (.stop s2))
def pj (a0 : aB) : Option (aB) :=
  (bF (jk a0) (0, ([] : (List aq)))).bind fun o10 => some (aB.mk o10)
def iL (a0 : ai) : Option (ai) :=
  (pj a0.aQ).bind fun x1 => some (ai.mk a0.aJ a0.fTo a0.bI a0.aF x1)
def hM (a0 : ac) (s1 : Int) (s2 : (List ae)) : (Int × (List ai)) → Option (cb (Int × (List ai)) (Int × (List ae) × (List ai))) := fun (s7, s8) =>
  (cA a0.al s1).bind fun x13 => if (decide (s7 < (x13.aM.length : Int))) = true then ((cA a0.al s1).bind fun x15 => (cA x15.aM s7).bind fun x16 => (iL x16).bind fun x17 => (dJ s8 [x17] 80).bind fun x18 => some (.next ((IntKind.wrap .i64 (s7 + 1)), x18))) else (some (.stop (s1, s2, s8)))
def hP (a0 : ac) : (Int × (List ae)) → Option (cb (Int × (List ae)) ((List ae))) := fun (s1, s2) =>
  if (decide (s1 < (a0.al.length : Int))) = true then ((cA a0.al s1).bind fun x6 => (bF (hM a0 s1 s2) (0, ([] : (List ai)))).bind fun o20 => (dJ o20.2.1 [(ae.mk x6.ak o20.2.2)] 88).bind fun x21 => some (.next ((IntKind.wrap .i64 (o20.1 + 1)), x21))) else (some (.stop s2))
def nl (a0 : ac) : Option (ac) :=
  (bF (hP a0) (0, ([] : (List ae)))).bind fun o23 => some (ac.mk o23)
def mL (a0 : ac) (a1 : ag) : Int → Option (cb (Int) ((Unit) ⊕ (ae × Bool))) := fun s1 =>
  if (decide (s1 < (a0.al.length : Int))) = true then ((cA a0.al s1).bind fun x4 => if ((x4.ak.aC == a1.aC) && ((x4.ak.aA == a1.aA) && ((x4.ak.av == a1.av) && ((x4.ak.aD == a1.aD) && true)))) = true then ((cutO a0.al s1 (IntKind.wrap .i64 (s1 + 1))).bind fun x6 => (nl (ac.mk x6)).bind fun x7 => (cA x7.al 0).bind fun x8 => some (.stop (.inr (x8, true)))) else (some (.next (IntKind.wrap .i64 (s1 + 1))))) else (some (.stop (.inl ())))
def pu (a0 : ac) (a1 : ag) : Option (ae × Bool) :=
  (bF (mL a0 a1) 0).bind fun o10 => match o10 with | .inl _ => (some ((ae.mk (ag.mk [] [] [] []) []), false)) | .inr r12 => (some r12)
def lR (x3 : ae × Bool) (a2 : Int) : Int → Option (cb (Int) ((Unit) ⊕ (ai × Int))) := fun s4 =>
  if (decide (s4 < (x3.1.aM.length : Int))) = true then ((cA x3.1.aM s4).bind fun x7 => if (decide (x7.aJ ≤ a2)) = true then ((cA x3.1.aM s4).bind fun x9 => if (decide (a2 < x9.fTo)) = true then ((cA x3.1.aM s4).bind fun x11 => some (.stop (.inr (x11, 0)))) else (some (.next (IntKind.wrap .i64 (s4 + 1))))) else (some (.next (IntKind.wrap .i64 (s4 + 1))))) else (some (.stop (.inl ())))
def qm (a0 : ac) (a1 : ag) (a2 : Int) : Option (ai × Int) :=
  (iV a0).bind fun x1 => if (!x1) = true then (some ((ai.mk 0 0 (aT.mk 0 0) (ap.mk 0 0 0) (aB.mk [])), 1)) else ((pu a0 a1).bind fun x3 => (bF (lR x3 a2) 0).bind fun o13 => match o13 with | .inl _ => (some ((ai.mk 0 0 (aT.mk 0 0) (ap.mk 0 0 0) (aB.mk [])), 6)) | .inr r15 => (some r15))
def dA (a0 : aq) (a1 : aq) : Int → Option (cb (Int) ((Unit) ⊕ (Bool))) := fun s7 =>
  if (decide (s7 < (a0.bc.length : Int))) = true then ((cA a0.bc s7).bind fun x10 => (cA a1.bc s7).bind fun x11 => if (x10 != x11) = true then (some (.stop (.inr false))) else (some (.next (IntKind.wrap .i64 (s7 + 1))))) else (some (.stop (.inl ())))
def iK (a0 : aq) (a1 : aq) : Option (Bool) :=
  if (a0.br != a1.br) = true then (some false) else (if (!((a0.aU.a0 == a1.aU.a0) && ((a0.aU.a1 == a1.aU.a1) && ((a0.aU.a2 == a1.aU.a2) && true)))) = true then (some false) else (if (!((a0.aS.a0 == a1.aS.a0) && ((a0.aS.a1 == a1.aS.a1) && ((a0.aS.a2 == a1.aS.a2) && true)))) = true then (some false) else (if (a0.aX != a1.aX) = true then (some false) else (if (a0.bi != a1.bi) = true then (some false) else (if ((a0.bc.length : Int) != (a1.bc.length : Int)) = true then (some false) else ((bF (dA a0 a1) 0).bind fun o14 => match o14 with | .inl _ => (some true) | .inr r16 => (some r16)))))))
def jl (a0 : aB) (a1 : aB) : Int → Option (cb (Int) ((Unit) ⊕ (Bool))) := fun s2 =>
  if (decide (s2 < (a0.aL.length : Int))) = true then ((cA a0.aL s2).bind fun x5 => (cA a1.aL s2).bind fun x6 => (iK x5 x6).bind fun x7 => if (!x7) = true then (some (.stop (.inr false))) else (some (.next (IntKind.wrap .i64 (s2 + 1))))) else (some (.stop (.inl ())))
def pk (a0 : aB) (a1 : aB) : Option (Bool) :=
  if ((a0.aL.length : Int) != (a1.aL.length : Int)) = true then (some false) else ((bF (jl a0 a1) 0).bind fun o10 => match o10 with | .inl _ => (some true) | .inr r12 => (some r12))
def fx (a0 : ac) (a1 : ac) (a2 : aa) : Option (Bool) :=
  (qm a0 a2.ak a2.aN).bind fun x1 => (qm a1 a2.ak a2.aN).bind fun x2 => if (x1.2 != 0) = true then (some (!((x1.2 == 0) == (x2.2 == 0)))) else (if (x2.2 != 0) = true then (some (!((x1.2 == 0) == (x2.2 == 0)))) else (if (!((x1.1.aF.fX == x2.1.aF.fX) && ((x1.1.aF.fY == x2.1.aF.fY) && ((x1.1.aF.fZ == x2.1.aF.fZ) && true)))) = true then (some true) else ((pk x1.1.aQ x2.1.aQ).bind fun x6 => some (!x6))))
def hU (a0 : (List aa)) (a2 : ac) (a3 : ac) : Int → Option (cb (Int) ((Unit) ⊕ (Bool))) := fun s1 =>
  if (decide (s1 < (a0.length : Int))) = true then ((cA a0 s1).bind fun x4 => (fx a2 a3 x4).bind fun x5 => if x5 = true then (some (.stop (.inr false))) else (some (.next (IntKind.wrap .i64 (s1 + 1))))) else (some (.stop (.inl ())))
def gj (a1 : (List (List aa))) (a0 : (List aa)) : Int → Option (cb (Int) ((Unit) ⊕ (Bool))) := fun s11 =>
  if (decide (s11 < (a1.length : Int))) = true then ((cA a1 s11).bind fun x14 => (dm a0 x14).bind fun x15 => if x15 = true then (some (.stop (.inr true))) else (some (.next (IntKind.wrap .i64 (s11 + 1))))) else (some (.stop (.inl ())))
def nC (a0 : (List aa)) (a1 : (List (List aa))) (a2 : ac) (a3 : ac) : Option (Bool) :=
  (bF (hU a0 a2 a3) 0).bind fun o8 => match o8 with | .inl _ => ((bF (gj a1 a0) 0).bind fun o18 => match o18 with | .inl _ => (some false) | .inr r20 => (some r20)) | .inr r10 => (some r10)
def ks (x2 : (List (List aa)) × Int) (x1 : (List (List aa)) × Int) (a3 : ac) (a4 : ac) : (Int × (List Int)) → Option (cb (Int × (List Int)) ((List Int))) := fun (s10, s11) =>
  if (decide (s10 < (x2.1.length : Int))) = true then ((cA x2.1 s10).bind fun x15 => (nC x15 x1.1 a3 a4).bind fun x16 => if (!x16) = true then ((dJ s11 [s10] 8).bind fun x18 => some (.next ((IntKind.wrap .i64 (s10 + 1)), x18))) else (some (.next ((IntKind.wrap .i64 (s10 + 1)), s11)))) else (some (.stop s11))
def nD (a0 : Int) (a1 : (List aa)) (a2 : (List aa)) (a3 : ac) (a4 : ac) : Option ((List Int) × Int) :=
  (dn a0 a1).bind fun x1 => (dn a0 a2).bind fun x2 => if (x1.2 == 2) = true then (some (([] : (List Int)), 2)) else (if (x1.2 != 0) = true then (some (([] : (List Int)), 1)) else (if (x2.2 != 0) = true then (some (([] : (List Int)), 1)) else ((iV a3).bind fun x6 => if (!x6) = true then (some (([] : (List Int)), 1)) else ((iV a4).bind fun x8 => if (!x8) = true then (some (([] : (List Int)), 1)) else ((bF (ks x2 x1 a3 a4) (0, ([] : (List Int)))).bind fun o20 => some (o20, 0))))))
def n8 (a0 : (List Int)) (a1 : (List Int)) : Int → Option (cb (Int) ((Unit) ⊕ (Bool))) := fun s2 =>
  if (decide (s2 < (a0.length : Int))) = true then ((cA a0 s2).bind fun x5 => (cA a1 s2).bind fun x6 => if (x5 != x6) = true then (some (.stop (.inr false))) else (some (.next (IntKind.wrap .i64 (s2 + 1))))) else (some (.stop (.inl ())))
def rE (a0 : (List Int)) (a1 : (List Int)) : Option (Bool) :=
  if ((a0.length : Int) != (a1.length : Int)) = true then (some false) else ((bF (n8 a0 a1) 0).bind fun o9 => match o9 with | .inl _ => (some true) | .inr r11 => (some r11))
def db (x31 : (List (List aa)) × Int) (x32 : (List (List aa)) × Int) (s25 : Int) (s26 : Int) : Int → Option (cb (Int) ((Int × Int) ⊕ (Bool))) := fun s39 =>
  if (decide (s39 < (x31.1.length : Int))) = true then ((cA x31.1 s39).bind fun x44 => (cA x32.1 s39).bind fun x45 => (dm x44 x45).bind fun x46 => if (!x46) = true then (some (.stop (.inr false))) else (some (.next (IntKind.wrap .i64 (s39 + 1))))) else (some (.stop (.inl (s25, s26))))
def gy (x14 : ac × ah) (a3 : ac) (x24 : Int) (x30 : (List aa)) (x55 : (List aa)) (x10 : ac × ah) (s52 : Int) : Int → Option (cb (Int) ((Int) ⊕ (Bool))) := fun s56 =>
  if (decide (s56 < 2)) = true then ((cA [x14.1, a3] s56).bind fun x60 => (cp x24 x30 x55 x10.1 x60).bind fun x61 => (nD x24 x30 x55 x10.1 x60).bind fun x62 => if (x61.2 != x62.2) = true then (some (.stop (.inr false))) else ((rE x61.1 x62.1).bind fun x64 => if (!x64) = true then (some (.stop (.inr false))) else (some (.next (IntKind.wrap .i64 (s56 + 1)))))) else (some (.stop (.inl s52)))
def gz (x13 : (List aa) × ah) (a2 : (List aa)) (x14 : ac × ah) (a3 : ac) (x24 : Int) (x30 : (List aa)) (x10 : ac × ah) : Int → Option (cb (Int) ((Unit) ⊕ (Bool))) := fun s52 =>
  if (decide (s52 < 2)) = true then ((cA [x13.1, a2] s52).bind fun x55 => (bF (gy x14 a3 x24 x30 x55 x10 s52) 0).bind fun o67 => match o67 with | .inl y68 => (some (.next (IntKind.wrap .i64 (y68 + 1)))) | .inr r69 => (some (.stop (.inr r69)))) else (some (.stop (.inl ())))
def dc (x30 : (List aa)) (x10 : ac × ah) (x14 : ac × ah) (a3 : ac) : Int → Option (cb (Int) ((Unit) ⊕ (Bool))) := fun s74 =>
  if (decide (s74 < (x30.length : Int))) = true then ((cA x30 s74).bind fun x77 => (bT x10.1 x14.1 x77).bind fun x78 => (fx x10.1 x14.1 x77).bind fun x79 => if (!(x78 == x79)) = true then (some (.stop (.inr false))) else ((bT a3 x10.1 x77).bind fun x81 => (fx a3 x10.1 x77).bind fun x82 => if (!(x81 == x82)) = true then (some (.stop (.inr false))) else (some (.next (IntKind.wrap .i64 (s74 + 1)))))) else (some (.stop (.inl ())))
def gA (x11 : (List aa) × ah) (a1 : (List aa)) (j16 : (List aa)) (x24 : Int) (x13 : (List aa) × ah) (a2 : (List aa)) (x14 : ac × ah) (a3 : ac) (x10 : ac × ah) : (Int × Int) → Option (cb (Int × Int) ((Int) ⊕ (Bool))) := fun (s25, s26) =>
  if (decide (s26 < 3)) = true then ((cA [x11.1, a1, j16] s26).bind fun x30 => (bo x24 x30).bind fun x31 => (dn x24 x30).bind fun x32 => if (x31.2 != x32.2) = true then (some (.stop (.inr false))) else (if ((x31.1.length : Int) != (x32.1.length : Int)) = true then (some (.stop (.inr false))) else ((bU x30).bind fun x35 => (jn x30).bind fun x36 => (cd x35 x36).bind fun x37 => if (!x37) = true then (some (.stop (.inr false))) else ((bF (db x31 x32 s25 s26) 0).bind fun o49 => match o49 with | .inl y50 => ((bF (gz x13 a2 x14 a3 x24 x30 x10) 0).bind fun o71 => match o71 with | .inl _ => ((bF (dc x30 x10 x14 a3) 0).bind fun o85 => match o85 with | .inl _ => (some (.next (y50.1, (IntKind.wrap .i64 (y50.2 + 1))))) | .inr r87 => (some (.stop (.inr r87)))) | .inr r73 => (some (.stop (.inr r73)))) | .inr r51 => (some (.stop (.inr r51))))))) else (some (.stop (.inl s25)))
def gB (a0 : Int) (x19 : Int × ah) (x20 : Int × ah) (x11 : (List aa) × ah) (a1 : (List aa)) (j16 : (List aa)) (x13 : (List aa) × ah) (a2 : (List aa)) (x14 : ac × ah) (a3 : ac) (x10 : ac × ah) : Int → Option (cb (Int) ((Unit) ⊕ (Bool))) := fun s21 =>
  if (decide (s21 < 3)) = true then ((cA [a0, x19.1, x20.1] s21).bind fun x24 => (bF (gA x11 a1 j16 x24 x13 a2 x14 a3 x10) (s21, 0)).bind fun o89 => match o89 with | .inl y90 => (some (.next (IntKind.wrap .i64 (y90 + 1)))) | .inr r91 => (some (.stop (.inr r91)))) else (some (.stop (.inl ())))
def da (a0 : Int) (x11 : (List aa) × ah) (a1 : (List aa)) (x13 : (List aa) × ah) (a2 : (List aa)) (x14 : ac × ah) (a3 : ac) (x10 : ac × ah) (j16 : (List aa)) (j17 : (List Int)) (j18 : Int) : Option (Bool) :=
  (di [0, 10, 100, 400] (ah.mk j17 j18)).bind fun x19 => (di [-1, 1099511627776, 1099511627777] x19.2).bind fun x20 => (bF (gB a0 x19 x20 x11 a1 j16 x13 a2 x14 a3 x10) 0).bind fun o93 => match o93 with | .inl _ => ((dG ).bind fun x96 => some x96) | .inr r95 => (some r95)
def f9 (a0 : Int) (a1 : (List aa)) (a2 : (List aa)) (a3 : ac) (a4 : (List Int)) : Option (Bool) :=
  if (decide ((a1.length : Int) > 20)) = true then ((dG ).bind fun x2 => some x2) else (if (decide ((a2.length : Int) > 20)) = true then ((dG ).bind fun x4 => some x4) else ((eL a3).bind fun x5 => if (!x5) = true then ((dG ).bind fun x7 => some x7) else ((mI a4).bind fun x8 => (fr 3 x8).bind fun x9 => (iH 6 x9.2).bind fun x10 => (iF x9.1 x10.1 10 x10.2).bind fun x11 => (iF x9.1 x10.1 3 x11.2).bind fun x12 => (jV x11.1 x12.1 x12.2).bind fun x13 => (gI x10.1 x13.2).bind fun x14 => (dJ ([] : List aa) x11.1 104).bind fun x15 => if (decide ((x15.length : Int) > 0)) = true then ((inO x15 0).bind fun _ => (cA x15 0).bind fun x101 => (lG x101 x14.2).bind fun x102 => (inO x15 0).bind fun _ => (kC x15 0 x102.1).bind fun x105 => da a0 x11 a1 x13 a2 x14 a3 x10 x105 x102.2.fL x102.2.fAt) else (da a0 x11 a1 x13 a2 x14 a3 x10 x15 x14.2.fL x14.2.fAt))))
end
end Go.Dw.De
