
import Derived.Test.YtkcfodpngpmlcaaGreatDwNest
import Derived.Test.YtkcfodpngpmlcaaGreatDwSortP



namespace Go.Dw.De
open Go.Dw

structure ah where
  fL : (List Int)
  fAt : Int
  deriving DecidableEq
def ah.pd (x : ah) : PD := .agg [.lst (x.fL.map (PD.int .i64)), .int .i64 x.fAt]
structure ap where
  fX : Int
  fY : Int
  fZ : Int
  deriving DecidableEq
def ap.pd (x : ap) : PD := .agg [.int .i64 x.fX, .int .i64 x.fY, .int .i64 x.fZ]
structure aL where
  a8 : ap
  aU : ap
  deriving DecidableEq
def aL.pd (x : aL) : PD := .agg [.int .i64 x.a8.fX, .int .i64 x.a8.fY, .int .i64 x.a8.fZ, .int .i64 x.aU.fX, .int .i64 x.aU.fY, .int .i64 x.aU.fZ]
structure aK where
  bt : Int
  a8 : (List Int)
  aU : (List Int)
  deriving DecidableEq
def aK.pd (x : aK) : PD := .agg [.int .i64 x.bt, .lst (x.a8.map (PD.int .i64)), .lst (x.aU.map (PD.int .i64))]
structure bd where
  aS : aL
  bv : aK
  vw : Int
  br : Int
  jJ : Int
  kj : Int
  kg : Int
  deriving DecidableEq
def bd.pd (x : bd) : PD := .agg [.int .i64 x.aS.a8.fX, .int .i64 x.aS.a8.fY, .int .i64 x.aS.a8.fZ, .int .i64 x.aS.aU.fX, .int .i64 x.aS.aU.fY, .int .i64 x.aS.aU.fZ, .int .i64 x.bv.bt, .lst (x.bv.a8.map (PD.int .i64)), .lst (x.bv.aU.map (PD.int .i64)), .int .i64 x.vw, .int .i64 x.br, .int .i64 x.jJ, .int .i64 x.kj, .int .i64 x.kg]
structure cu where
  aZ : aK
  aX : Int
  aP : Int
  deriving DecidableEq
def cu.pd (x : cu) : PD := .agg [.int .i64 x.aZ.bt, .lst (x.aZ.a8.map (PD.int .i64)), .lst (x.aZ.aU.map (PD.int .i64)), .int .i64 x.aX, .int .i64 x.aP]
structure aG where
  au : bd
  bR : cu
  br : Int
  deriving DecidableEq
def aG.pd (x : aG) : PD := .agg [.int .i64 x.au.aS.a8.fX, .int .i64 x.au.aS.a8.fY, .int .i64 x.au.aS.a8.fZ, .int .i64 x.au.aS.aU.fX, .int .i64 x.au.aS.aU.fY, .int .i64 x.au.aS.aU.fZ, .int .i64 x.au.bv.bt, .lst (x.au.bv.a8.map (PD.int .i64)), .lst (x.au.bv.aU.map (PD.int .i64)), .int .i64 x.au.vw, .int .i64 x.au.br, .int .i64 x.au.jJ, .int .i64 x.au.kj, .int .i64 x.au.kg, .int .i64 x.bR.aZ.bt, .lst (x.bR.aZ.a8.map (PD.int .i64)), .lst (x.bR.aZ.aU.map (PD.int .i64)), .int .i64 x.bR.aX, .int .i64 x.bR.aP, .int .i64 x.br]
structure ag where
  aB : (List UInt8)
  aA : (List UInt8)
  aw : (List UInt8)
  aC : (List UInt8)
  deriving DecidableEq
def ag.pd (x : ag) : PD := .agg [.str x.aB, .str x.aA, .str x.aw, .str x.aC]
structure aT where
  aX : Int
  aP : Int
  deriving DecidableEq
def aT.pd (x : aT) : PD := .agg [.int .i64 x.aX, .int .i64 x.aP]
structure aV where
  a0 : Int
  a1 : Int
  a2 : Int
  deriving DecidableEq
def aV.pd (x : aV) : PD := .agg [.int .i64 x.a0, .int .i64 x.a1, .int .i64 x.a2]
structure ar where
  b9 : Int
  aX : aV
  aP : aV
  bu : (List Int)
  bg : Int
  bC : Int
  deriving DecidableEq
def ar.pd (x : ar) : PD := .agg [.int .i64 x.b9, .int .i64 x.aX.a0, .int .i64 x.aX.a1, .int .i64 x.aX.a2, .int .i64 x.aP.a0, .int .i64 x.aP.a1, .int .i64 x.aP.a2, .lst (x.bu.map (PD.int .i64)), .int .i64 x.bg, .int .i64 x.bC]
structure aD where
  aO : (List ar)
  deriving DecidableEq
def aD.pd (x : aD) : PD := .agg [.lst (x.aO.map ar.pd)]
structure ai where
  aM : Int
  fTo : Int
  bP : aT
  aF : ap
  aW : aD
  deriving DecidableEq
def ai.pd (x : ai) : PD := .agg [.int .i64 x.aM, .int .i64 x.fTo, .int .i64 x.bP.aX, .int .i64 x.bP.aP, .int .i64 x.aF.fX, .int .i64 x.aF.fY, .int .i64 x.aF.fZ, .lst (x.aW.aO.map ar.pd)]
structure ac where
  al : ag
  aQ : (List ai)
  deriving DecidableEq
def ac.pd (x : ac) : PD := .agg [.str x.al.aB, .str x.al.aA, .str x.al.aw, .str x.al.aC, .lst (x.aQ.map ai.pd)]
structure ae where
  aq : (List ac)
  deriving DecidableEq
def ae.pd (x : ae) : PD := .agg [.lst (x.aq.map ac.pd)]
structure aa where
  al : ag
  aN : Int
  aH : Int
  aY : Int
  aI : Int
  aJ : Int
  deriving DecidableEq
def aa.pd (x : aa) : PD := .agg [.str x.al.aB, .str x.al.aA, .str x.al.aw, .str x.al.aC, .int .i64 x.aN, .int .i64 x.aH, .int .i64 x.aY, .int .i64 x.aI, .int .i64 x.aJ]
structure A4_Int where
  a0 : Int
  a1 : Int
  a2 : Int
  a3 : Int
  deriving DecidableEq
def A4_Int.pd (x : A4_Int) : PD := .agg [.int .i64 x.a0, .int .i64 x.a1, .int .i64 x.a2, .int .i64 x.a3]
structure bF where
  a0 : Int
  a1 : Int
  deriving DecidableEq
def bF.pd (x : bF) : PD := .agg [.int .i64 x.a0, .int .i64 x.a1]
structure fo where
  a0 : bF
  a1 : bF
  a2 : bF
  a3 : bF
  a4 : bF
  deriving DecidableEq
def fo.pd (x : fo) : PD := .agg [.int .i64 x.a0.a0, .int .i64 x.a0.a1, .int .i64 x.a1.a0, .int .i64 x.a1.a1, .int .i64 x.a2.a0, .int .i64 x.a2.a1, .int .i64 x.a3.a0, .int .i64 x.a3.a1, .int .i64 x.a4.a0, .int .i64 x.a4.a1]
structure aj where
  aM : Int
  fTo : Int
  deriving DecidableEq
def aj.pd (x : aj) : PD := .agg [.int .i64 x.aM, .int .i64 x.fTo]
structure az where
  al : ag
  eP : (List aj)
  deriving DecidableEq
def az.pd (x : az) : PD := .agg [.str x.al.aB, .str x.al.aA, .str x.al.aw, .str x.al.aC, .lst (x.eP.map aj.pd)]
structure ak where
  aA : ap
  aH : Int
  aY : Int
  jh : Int
  deriving DecidableEq
def ak.pd (x : ak) : PD := .agg [.int .i64 x.aA.fX, .int .i64 x.aA.fY, .int .i64 x.aA.fZ, .int .i64 x.aH, .int .i64 x.aY, .int .i64 x.jh]
structure bG where
  aM : Int
  fTo : Int
  deriving DecidableEq
def bG.pd (x : bG) : PD := .agg [.int .i64 x.aM, .int .i64 x.fTo]
def xX (a b : ag) : Bool := ((a.aB == b.aB) && ((a.aA == b.aA) && ((a.aw == b.aw) && ((a.aC == b.aC) && true))))
def pP (a b : aa) : Bool := (((a.al.aB == b.al.aB) && ((a.al.aA == b.al.aA) && ((a.al.aw == b.al.aw) && ((a.al.aC == b.al.aC) && true)))) && ((a.aN == b.aN) && ((a.aH == b.aH) && ((a.aY == b.aY) && ((a.aI == b.aI) && ((a.aJ == b.aJ) && true))))))
noncomputable def nu (a0 : (List Int)) : Option (ah) :=
  (cutO a0 0 (if (2000 : Int) < (a0.length : Int) then (2000 : Int) else (a0.length : Int))).bind fun x1 => some (ah.mk x1 0)
noncomputable def xp (d0 : ah) : Option (Int × ah) :=
  if (decide (d0.fAt ≥ (d0.fL.length : Int))) = true then (some ((0 : Int), d0)) else ((getO d0.fL (IntKind.wrap .i64 ((IntKind.wrap .i64 (d0.fAt + (1 : Int))) - (1 : Int)))).bind fun x2 => some (x2, (ah.mk d0.fL (IntKind.wrap .i64 (d0.fAt + (1 : Int))))))
noncomputable def th (a0 : Int) (a1 : Int) : Option (Int) :=
  if (decide (a1 < (1 : Int))) = true then (some (0 : Int)) else ((remO a0 a1).bind fun x2 => if (decide (x2 < (0 : Int))) = true then (some (IntKind.wrap .i64 (x2 + a1))) else (some x2))
noncomputable def c6 (a1 : Int) (d0 : ah) : Option (Int × ah) :=
  (xp d0).bind fun x1 => (th x1.1 a1).bind fun x2 => some (x2, x1.2)
noncomputable def mh (a1 : Int) (d0 : ah) : Option (ap × ah) :=
  (c6 (IntKind.wrap .i64 ((IntKind.wrap .i64 ((2 : Int) * a1)) + (1 : Int))) d0).bind fun x1 => (c6 (IntKind.wrap .i64 ((IntKind.wrap .i64 ((2 : Int) * a1)) + (1 : Int))) x1.2).bind fun x2 => (c6 (IntKind.wrap .i64 (a1 + (1 : Int))) x2.2).bind fun x3 => some ((ap.mk (IntKind.wrap .i64 (x1.1 - a1)) (IntKind.wrap .i64 (x2.1 - a1)) x3.1), x3.2)
noncomputable def xo (a1 : Int) (a2 : Int) (d0 : ah) : Option (aL × ah) :=
  (mh a1 d0).bind fun x1 => (c6 (IntKind.wrap .i64 (a2 + (1 : Int))) x1.2).bind fun x2 => (c6 (IntKind.wrap .i64 (a2 + (1 : Int))) x2.2).bind fun x3 => (c6 (IntKind.wrap .i64 (a2 + (1 : Int))) x3.2).bind fun x4 => some ((aL.mk x1.1 (ap.mk (IntKind.wrap .i64 (x1.1.fX + x2.1)) (IntKind.wrap .i64 (x1.1.fY + x3.1)) (IntKind.wrap .i64 (x1.1.fZ + x4.1)))), x4.2)
noncomputable def dj (a1 : (List Int)) (d0 : ah) : Option (Int × ah) :=
  (c6 (a1.length : Int) d0).bind fun x1 => (getO a1 x1.1).bind fun x2 => some (x2, x1.2)
noncomputable def nm (x1 : Int × ah) : (Int × Int × Int × (List Int) × Int × (List Int) × (List Int)) → Option (Step1 (Int × Int × Int × (List Int) × Int × (List Int) × (List Int)) ((List Int) × Int × (List Int) × (List Int))) := fun (s3, s4, s5, s6, s7, s8, s9) =>
  (quoO .i64 (400 : Int) x1.1).bind fun x15 => (c6 (3 : Int) (ah.mk s6 s7)).bind fun x16 => if (decide (s5 ≤ (IntKind.wrap .i64 (x15 + x16.1)))) = true then ((appO s8 [s3] 8).bind fun x18 => (appO s9 [s4] 8).bind fun x19 => (dj [0, 10, 20, 35] x16.2).bind fun x20 => (quoO .i64 x1.1 (4 : Int)).bind fun x21 => (dj [0, 0, 5, 30] x20.2).bind fun x22 => some (.next ((IntKind.wrap .i64 (s3 + (IntKind.wrap .i64 (x20.1 + x21)))), (IntKind.wrap .i64 ((if (IntKind.wrap .i64 (s3 + (IntKind.wrap .i64 (x20.1 + x21)))) > s4 then (IntKind.wrap .i64 (s3 + (IntKind.wrap .i64 (x20.1 + x21)))) else s4) + x22.1)), (IntKind.wrap .i64 (s5 + (1 : Int))), x22.2.fL, x22.2.fAt, x18, x19))) else (some (.stop (x16.2.fL, x16.2.fAt, s8, s9)))
noncomputable def mj (d0 : ah) : Option (aK × ah) :=
  (dj [20, 25, 40, 100] d0).bind fun x1 => (c6 (3 : Int) x1.2).bind fun x2 => (loopO (nm x1) ((0 : Int), x2.1, (0 : Int), x2.2.fL, x2.2.fAt, ([] : (List Int)), ([] : (List Int)))).bind fun o24 => some ((aK.mk x1.1 o24.2.2.1 o24.2.2.2), (ah.mk o24.1 o24.2.1))
noncomputable def fr (a1 : Int) (d0 : ah) : Option (bd × ah) :=
  (xo (20 : Int) a1 d0).bind fun x1 => (mj x1.2).bind fun x2 => (dj [10, 50, 200] x2.2).bind fun x3 => (dj [0, 0, 10, 40] x3.2).bind fun x4 => (dj [0, 50, 200, 400] x4.2).bind fun x5 => (dj [0, 5, 20] x5.2).bind fun x6 => (c6 (2 : Int) x6.2).bind fun x7 => some ((bd.mk x1.1 x2.1 x3.1 x4.1 x5.1 x6.1 (IntKind.wrap .i64 ((2 : Int) + x7.1))), x7.2)
noncomputable def nk (x1 : aK × ah) : (Int × (List Int) × (List Int)) → Option (Step1 (Int × (List Int) × (List Int)) ((List Int) × (List Int))) := fun (s4, s5, s6) =>
  if (decide (s4 < (x1.1.a8.length : Int))) = true then ((inO s5 s4).bind fun _ => (getO s5 s4).bind fun x13 => (quoO .i64 x13 (3 : Int)).bind fun x14 => (inO s6 s4).bind fun _ => (getO s6 s4).bind fun x17 => (quoO .i64 x17 (3 : Int)).bind fun x18 => (inO s5 s4).bind fun _ => (setO s5 s4 x14).bind fun x21 => (inO s6 s4).bind fun _ => (setO s6 s4 x18).bind fun x24 => some (.next ((IntKind.wrap .i64 (s4 + (1 : Int))), x21, x24))) else (some (.stop (s5, s6)))
noncomputable def og (d0 : ah) : Option (cu × ah) :=
  (mj d0).bind fun x1 => (c6 (20 : Int) x1.2).bind fun x2 => (c6 (9 : Int) x2.2).bind fun x3 => (loopO (nk x1) ((0 : Int), x1.1.a8, x1.1.aU)).bind fun o26 => some ((cu.mk (aK.mk x1.1.bt o26.1 o26.2) x2.1 (IntKind.wrap .i64 ((1 : Int) + x3.1))), x3.2)
noncomputable def ew (a1 : Int) (d0 : ah) : Option (aG × ah) :=
  (fr a1 d0).bind fun x1 => (og x1.2).bind fun x2 => (dj [0, 0, 10, 40] x2.2).bind fun x3 => some ((aG.mk x1.1 x2.1 x3.1), x3.2)
noncomputable def jF  : (Int × (List Int) × Int × (List ar)) → Option (Step1 (Int × (List Int) × Int × (List ar)) ((List Int) × Int × (List ar))) := fun (s2, s3, s4, s5) =>
  if (decide (s2 > (0 : Int))) = true then ((c6 (3 : Int) (ah.mk s3 s4)).bind fun x11 => if (x11.1 == (0 : Int)) = true then ((dj [0, 1, 9, 99, 1048575] x11.2).bind fun x13 => (dj [0, 0, 2, 9, 999] x13.2).bind fun x14 => (appO s5 [(ar.mk x11.1 (aV.mk (IntKind.wrap .i64 ((1 : Int) + x13.1)) 0 0) (aV.mk (IntKind.wrap .i64 ((1 : Int) + x14.1)) 0 0) [] 0 0)] 96).bind fun x15 => some (.next ((IntKind.wrap .i64 (s2 - (1 : Int))), x14.2.fL, x14.2.fAt, x15))) else (if (x11.1 == (1 : Int)) = true then ((c6 (5 : Int) x11.2).bind fun x17 => (c6 (7 : Int) x17.2).bind fun x18 => (c6 (3 : Int) x18.2).bind fun x19 => (c6 (5 : Int) x19.2).bind fun x20 => (c6 (7 : Int) x20.2).bind fun x21 => (c6 (3 : Int) x21.2).bind fun x22 => (appO s5 [(ar.mk x11.1 (aV.mk x17.1 (IntKind.wrap .i64 (x18.1 - (3 : Int))) (IntKind.wrap .i64 (x19.1 - (1 : Int)))) (aV.mk (IntKind.wrap .i64 ((1 : Int) + x20.1)) x21.1 x22.1) [] 0 0)] 96).bind fun x23 => some (.next ((IntKind.wrap .i64 (s2 - (1 : Int))), x22.2.fL, x22.2.fAt, x23))) else ((c6 (3 : Int) x11.2).bind fun x24 => (c6 (4 : Int) x24.2).bind fun x25 => (appO s5 [(ar.mk x11.1 (aV.mk 0 0 0) (aV.mk 0 0 0) [(IntKind.wrap .i64 ((1 : Int) + x24.1)), 2, 1] 1 x25.1)] 96).bind fun x26 => some (.next ((IntKind.wrap .i64 (s2 - (1 : Int))), x25.2.fL, x25.2.fAt, x26))))) else (some (.stop (s3, s4, s5)))
noncomputable def ga (d0 : ah) : Option (aD × ah) :=
  (c6 (4 : Int) d0).bind fun x1 => (loopO (jF) (x1.1, x1.2.fL, x1.2.fAt, ([] : (List ar)))).bind fun o28 => some ((aD.mk o28.2.2), (ah.mk o28.1 o28.2.1))
noncomputable def fu (a0 : Int) : Option (ag) :=
  (th a0 (6 : Int)).bind fun x1 => (getO [[83, 49], [83, 50], [83, 51], [83, 52], [83, 53], [83, 54]] x1).bind fun x2 => some (ag.mk [65, 66] x2 [48, 48] [66, 72, 90])
noncomputable def nl (a1 : Int) : (Int × (List Int) × Int × (List ac)) → Option (Step1 (Int × (List Int) × Int × (List ac)) ((List Int) × Int × (List ac))) := fun (s1, s2, s3, s4) =>
  if (decide (s1 < a1)) = true then (if (decide (s1 < (6 : Int))) = true then ((mh (60 : Int) (ah.mk s2 s3)).bind fun x11 => (ga x11.2).bind fun x12 => (fu s1).bind fun x13 => (c6 (6 : Int) x12.2).bind fun x14 => if (x14.1 == (0 : Int)) = true then ((c6 (500 : Int) x14.2).bind fun x16 => (mh (60 : Int) x16.2).bind fun x17 => (ga x17.2).bind fun x18 => (inO [(ai.mk 0 100000 (aT.mk 100 1) x11.1 x12.1)] (0 : Int)).bind fun _ => (modO [(ai.mk 0 100000 (aT.mk 100 1) x11.1 x12.1)] (0 : Int) (fun (z22 : ai) => (ai.mk z22.aM (IntKind.wrap .i64 ((1500 : Int) + x16.1)) z22.bP z22.aF z22.aW))).bind fun x21 => (appO x21 [(ai.mk (IntKind.wrap .i64 ((1500 : Int) + x16.1)) 100000 (aT.mk 100 1) x17.1 x18.1)] 80).bind fun x23 => (appO s4 [(ac.mk x13 x23)] 88).bind fun x24 => some (.next ((IntKind.wrap .i64 (s1 + (1 : Int))), x18.2.fL, x18.2.fAt, x24))) else (if (x14.1 == (1 : Int)) = true then ((c6 (1500 : Int) x14.2).bind fun x26 => (inO [(ai.mk 0 100000 (aT.mk 100 1) x11.1 x12.1)] (0 : Int)).bind fun _ => (modO [(ai.mk 0 100000 (aT.mk 100 1) x11.1 x12.1)] (0 : Int) (fun (z30 : ai) => (ai.mk x26.1 z30.fTo z30.bP z30.aF z30.aW))).bind fun x29 => (appO s4 [(ac.mk x13 x29)] 88).bind fun x31 => some (.next ((IntKind.wrap .i64 (s1 + (1 : Int))), x26.2.fL, x26.2.fAt, x31))) else ((appO s4 [(ac.mk x13 [(ai.mk 0 100000 (aT.mk 100 1) x11.1 x12.1)])] 88).bind fun x32 => some (.next ((IntKind.wrap .i64 (s1 + (1 : Int))), x14.2.fL, x14.2.fAt, x32))))) else (some (.stop (s2, s3, s4)))) else (some (.stop (s2, s3, s4)))
noncomputable def jb (a1 : Int) (d0 : ah) : Option (ae × ah) :=
  (loopO (nl a1) ((0 : Int), d0.fL, d0.fAt, ([] : (List ac)))).bind fun o34 => some ((ae.mk o34.2.2), (ah.mk o34.1 o34.2.1))
noncomputable def oe (a1 : Int) (a2 : Int) (d0 : ah) : Option (Int × ah) :=
  (c6 (IntKind.wrap .i64 ((IntKind.wrap .i64 (a2 - a1)) + (1 : Int))) d0).bind fun x1 => some ((IntKind.wrap .i64 (a1 + x1.1)), x1.2)
noncomputable def pX (a1 : aL) (d0 : ah) : Option (ap × ah) :=
  (oe a1.a8.fX a1.aU.fX d0).bind fun x1 => (oe a1.a8.fY a1.aU.fY x1.2).bind fun x2 => (oe a1.a8.fZ a1.aU.fZ x2.2).bind fun x3 => some ((ap.mk x1.1 x2.1 x3.1), x3.2)
noncomputable def oU (x4 : ac) (a1 : ag) (a2 : Int) (s1 : Int) : Int → Option (Step1 (Int) ((Int) ⊕ (ap × Bool))) := fun s5 =>
  if (decide (s5 < (x4.aQ.length : Int))) = true then ((getO x4.aQ s5).bind fun x9 => if ((x4.al.aB == a1.aB) && ((x4.al.aA == a1.aA) && ((x4.al.aw == a1.aw) && ((x4.al.aC == a1.aC) && true)))) = true then (if (decide (x9.aM ≤ a2)) = true then (if (decide (a2 < x9.fTo)) = true then (some (.stop (.inr (x9.aF, true)))) else (some (.next (IntKind.wrap .i64 (s5 + (1 : Int)))))) else (some (.next (IntKind.wrap .i64 (s5 + (1 : Int)))))) else (some (.next (IntKind.wrap .i64 (s5 + (1 : Int)))))) else (some (.stop (.inl s1)))
noncomputable def oV (a0 : ae) (a1 : ag) (a2 : Int) : Int → Option (Step1 (Int) ((Unit) ⊕ (ap × Bool))) := fun s1 =>
  if (decide (s1 < (a0.aq.length : Int))) = true then ((getO a0.aq s1).bind fun x4 => (loopO (oU x4 a1 a2 s1) (0 : Int)).bind fun o14 => match o14 with | .inl y15 => (some (.next (IntKind.wrap .i64 (y15 + (1 : Int))))) | .inr r16 => (some (.stop (.inr r16)))) else (some (.stop (.inl ())))
noncomputable def p7 (a0 : ae) (a1 : ag) (a2 : Int) : Option (ap × Bool) :=
  (loopO (oV a0 a1 a2) (0 : Int)).bind fun o18 => match o18 with | .inl _ => (some ((ap.mk 0 0 0), false)) | .inr r20 => (some r20)
noncomputable def uj (a0 : Int) : Option (Int) :=
  some (IntKind.wrap .i64 (a0 * a0))
noncomputable def f9 (x18 : ag) (x19 : Int × ah) (x20 : Int × ah) (j22 : Int) (j23 : Int) (j24 : (List Int)) (j25 : Int) (j26 : (List aa)) (j27 : Int) (j28 : Int) (j29 : Int) (j30 : Int) : Option (Step1 (Int × Int × (List Int) × Int × (List aa) × Int × Int × Int) ((List aa) × (List Int) × Int)) :=
  (c6 (5 : Int) (ah.mk j24 j25)).bind fun x31 => (c6 (5 : Int) x31.2).bind fun x32 => (appO j26 [(aa.mk x18 (IntKind.wrap .i64 (j30 + x31.1)) j30 (IntKind.wrap .i64 ((IntKind.wrap .i64 (j30 + x31.1)) + x32.1)) x19.1 (IntKind.wrap .i64 (x20.1 - (1 : Int))))] 104).bind fun x33 => some (.next (j22, (IntKind.wrap .i64 (j23 - (1 : Int))), x32.2.fL, x32.2.fAt, x33, j27, j28, j29))
noncomputable def nj (x40 : ap × Bool) (s9 : Int) (s10 : Int) (s11 : Int) (s4 : Int) (s5 : Int) (s8 : (List aa)) : Int → Option (Step1 (Int) (Int × Int × Int × (List aa) × Int × Int × Int)) := fun s42 =>
  (uj (IntKind.wrap .i64 (x40.1.fX - s9))).bind fun x51 => (uj (IntKind.wrap .i64 (x40.1.fY - s10))).bind fun x52 => (uj (IntKind.wrap .i64 (x40.1.fZ - s11))).bind fun x53 => if (decide ((IntKind.wrap .i64 (s42 * s42)) < (IntKind.wrap .i64 ((IntKind.wrap .i64 (x51 + x52)) + x53)))) = true then (some (.next (IntKind.wrap .i64 (s42 + (1 : Int))))) else (some (.stop (s4, s5, s42, s8, s9, s10, s11)))
noncomputable def qJ (a1 : aG) (a2 : ae) : (Int × Int × (List Int) × Int × (List aa) × Int × Int × Int) → Option (Step1 (Int × Int × (List Int) × Int × (List aa) × Int × Int × Int) ((List aa) × (List Int) × Int)) := fun (s4, s5, s6, s7, s8, s9, s10, s11) =>
  if (decide (s5 > (0 : Int))) = true then ((c6 (6 : Int) (ah.mk s6 s7)).bind fun x17 => (fu x17.1).bind fun x18 => (dj [0, 1, 50, 1000, 1048576] x17.2).bind fun x19 => (c6 (3 : Int) x19.2).bind fun x20 => (c6 (2000 : Int) x20.2).bind fun x21 => (c6 (6 : Int) x21.2).bind fun x35 => if (x35.1 == (0 : Int)) = true then ((pX a1.au.aS x35.2).bind fun x37 => (c6 (900 : Int) x37.2).bind fun x38 => f9 x18 x19 x20 (IntKind.wrap .i64 (s4 + x38.1)) s5 x38.2.fL x38.2.fAt s8 x37.1.fX x37.1.fY x37.1.fZ (IntKind.wrap .i64 ((1000 : Int) + x21.1))) else (if (x35.1 == (1 : Int)) = true then (f9 x18 x19 x20 s4 s5 x35.2.fL x35.2.fAt s8 s9 s10 s11 (IntKind.wrap .i64 ((1000 : Int) + x21.1))) else ((p7 a2 x18 s4).bind fun x40 => if x40.2 = true then ((loopO (nj x40 s9 s10 s11 s4 s5 s8) (0 : Int)).bind fun o56 => (quoO .i64 o56.2.2.1 a1.au.bv.bt).bind fun x57 => (getO a1.au.bv.a8 (if (IntKind.wrap .i64 ((a1.au.bv.a8.length : Int) - (1 : Int))) < x57 then (IntKind.wrap .i64 ((a1.au.bv.a8.length : Int) - (1 : Int))) else x57)).bind fun x58 => (c6 (6 : Int) x35.2).bind fun x59 => f9 x18 x19 x20 o56.1 o56.2.1 x59.2.fL x59.2.fAt o56.2.2.2.1 o56.2.2.2.2.1 o56.2.2.2.2.2.1 o56.2.2.2.2.2.2 (IntKind.wrap .i64 ((IntKind.wrap .i64 (o56.1 + x58)) + x59.1))) else (f9 x18 x19 x20 s4 s5 x35.2.fL x35.2.fAt s8 s9 s10 s11 (IntKind.wrap .i64 ((1000 : Int) + x21.1)))))) else (some (.stop (s8, s6, s7)))
noncomputable def iZ (a1 : aG) (a2 : ae) (a3 : Int) (d0 : ah) : Option ((List aa) × ah) :=
  (pX a1.au.aS d0).bind fun x1 => (c6 (500 : Int) x1.2).bind fun x2 => (c6 (IntKind.wrap .i64 (a3 + (1 : Int))) x2.2).bind fun x3 => (loopO (qJ a1 a2) ((IntKind.wrap .i64 ((1000 : Int) + x2.1)), x3.1, x3.2.fL, x3.2.fAt, ([] : (List aa)), x1.1.fX, x1.1.fY, x1.1.fZ)).bind fun o61 => some (o61.1, (ah.mk o61.2.1 o61.2.2))
noncomputable def mI (a0 : Int) : Option (Bool) :=
  if (decide (a0 ≥ (65 : Int))) = true then (if (decide (a0 ≤ (90 : Int))) = true then (some true) else (if (decide (a0 ≥ (48 : Int))) = true then (some (decide (a0 ≤ (57 : Int)))) else (some false))) else (if (decide (a0 ≥ (48 : Int))) = true then (some (decide (a0 ≤ (57 : Int)))) else (some false))
noncomputable def jV (a0 : (List UInt8)) : Int → Option (Step1 (Int) ((Unit) ⊕ (Bool))) := fun s1 =>
  if (decide (s1 < (a0.length : Int))) = true then ((byteO a0 s1).bind fun x4 => (mI x4).bind fun x5 => if (!x5) = true then (some (.stop (.inr false))) else (some (.next (IntKind.wrap .i64 (s1 + (1 : Int)))))) else (some (.stop (.inl ())))
noncomputable def jo (a0 : (List UInt8)) (a1 : Int) (a2 : Int) : Option (Bool) :=
  (loopO (jV a0) (0 : Int)).bind fun o8 => match o8 with | .inl _ => (if (decide ((a0.length : Int) ≥ a1)) = true then (some (decide ((a0.length : Int) ≤ a2))) else (some false)) | .inr r10 => (some r10)
noncomputable def kB (a0 : ag) : Option (Bool) :=
  (jo a0.aB (1 : Int) (2 : Int)).bind fun x1 => if x1 = true then ((jo a0.aA (1 : Int) (5 : Int)).bind fun x3 => if x3 = true then ((jo a0.aw (0 : Int) (2 : Int)).bind fun x5 => if x5 = true then (if ((a0.aw.length : Int) != (1 : Int)) = true then ((jo a0.aC (3 : Int) (3 : Int)).bind fun x8 => some x8) else (some false)) else (some false)) else (some false)) else (some false)
noncomputable def mr (a0 : Int) (a1 : Int) (a2 : Int) : Option (Bool) :=
  if (decide (a0 ≥ a1)) = true then (some (decide (a0 ≤ a2))) else (some false)
noncomputable def eM (a0 : aa) : Option (Bool) :=
  (kB a0.al).bind fun x1 => if x1 = true then (if (decide (a0.aH ≥ (0 : Int))) = true then (if (decide (a0.aH ≤ a0.aN)) = true then (if (decide (a0.aN ≤ a0.aY)) = true then (if (decide (a0.aY ≤ (18014398509481984 : Int))) = true then ((mr a0.aI (0 : Int) (1073741823 : Int)).bind fun x7 => if x7 = true then ((mr a0.aJ (-1 : Int) (1 : Int)).bind fun x9 => some x9) else (some false)) else (some false)) else (some false)) else (some false)) else (some false)) else (some false)
noncomputable def fK (a0 : aa) : Option (Bool) :=
  (eM a0).bind fun x1 => some (!x1)
noncomputable def cP (a0 : (List aa)) : Int → Option (Step1 (Int) ((Unit) ⊕ (Int))) := fun s1 =>
  if (decide (s1 < (a0.length : Int))) = true then ((getO a0 s1).bind fun x4 => (fK x4).bind fun x5 => if x5 = true then (some (.stop (.inr s1))) else (some (.next (IntKind.wrap .i64 (s1 + (1 : Int)))))) else (some (.stop (.inl ())))
noncomputable def dq (a0 : (List aa)) : Option (Int) :=
  (loopO (cP a0) (0 : Int)).bind fun o8 => match o8 with | .inl _ => (some (-1 : Int)) | .inr r10 => (some r10)
noncomputable def cO (a0 : (List aa)) : Option (Bool) :=
  (dq a0).bind fun x1 => some (decide (x1 ≥ (0 : Int)))
noncomputable def dC (a0 : (List aa)) : Option (Bool) :=
  (cO a0).bind fun x1 => some (!x1)
noncomputable def fQ (a0 : (List UInt8)) : Option (Bool) :=
  some (!(a0 == a0))
noncomputable def cA (a0 : (List UInt8)) (a1 : (List UInt8)) : Option (Int) :=
  (fQ a0).bind fun x1 => (fQ a1).bind fun x2 => if x1 = true then (if x2 = true then (some (0 : Int)) else (some (-1 : Int))) else (if x2 = true then (some (1 : Int)) else (if (Op.bytesLess a0 a1) = true then (some (-1 : Int)) else (if (!(Op.bytesLess a0 a1 || a0 == a1)) = true then (some (1 : Int)) else (some (0 : Int)))))
noncomputable def eb (a0 : (List Int)) : Int → Option (Step1 (Int) ((Unit) ⊕ (Int))) := fun s1 =>
  if (decide (s1 < (a0.length : Int))) = true then ((getO a0 s1).bind fun x4 => if (x4 != (0 : Int)) = true then (some (.stop (.inr x4))) else (some (.next (IntKind.wrap .i64 (s1 + (1 : Int)))))) else (some (.stop (.inl ())))
noncomputable def fP (a0 : (List Int)) : Option (Int) :=
  (loopO (eb a0) (0 : Int)).bind fun o7 => match o7 with | .inl _ => (some (0 : Int)) | .inr r9 => (some r9)
noncomputable def co (a0 : ag) (a1 : ag) : Option (Int) :=
  (cA a0.aB a1.aB).bind fun x1 => (cA a0.aA a1.aA).bind fun x2 => (cA a0.aw a1.aw).bind fun x3 => (cA a0.aC a1.aC).bind fun x4 => (fP [x1, x2, x3, x4]).bind fun x5 => some x5
noncomputable def jr (a0 : Int) : Option (Bool) :=
  some (a0 != a0)
noncomputable def bD (a0 : Int) (a1 : Int) : Option (Int) :=
  (jr a0).bind fun x1 => (jr a1).bind fun x2 => if x1 = true then (if x2 = true then (some (0 : Int)) else (some (-1 : Int))) else (if x2 = true then (some (1 : Int)) else (if (decide (a0 < a1)) = true then (some (-1 : Int)) else (if (decide (a0 > a1)) = true then (some (1 : Int)) else (some (0 : Int)))))
noncomputable def bz (a0 : aa) (a1 : aa) : Option (Int) :=
  (co a0.al a1.al).bind fun x1 => (bD a0.aN a1.aN).bind fun x2 => (bD a0.aH a1.aH).bind fun x3 => (bD a0.aY a1.aY).bind fun x4 => (bD a0.aI a1.aI).bind fun x5 => (bD a0.aJ a1.aJ).bind fun x6 => (fP [x1, x2, x3, x4, x5, x6]).bind fun x7 => some x7
noncomputable def gC (s2 : Int) (d0 : (List aa)) : (Int × Int × (List aa)) → Option (Step1 (Int × Int × (List aa)) (Int × (List aa))) := fun (s13, s14, s15) =>
  (lenV s15.length (0 + (s2 : Int).toNat) (0 + ((d0.length : Int) : Int).toNat)).bind fun x19 => if (decide (s14 < x19)) = true then ((inV s15.length (0 + (s2 : Int).toNat) (0 + ((d0.length : Int) : Int).toNat) s14).bind fun _ => (getO s15 (((0 + (s2 : Int).toNat) + (s14 : Int).toNat : Nat) : Int)).bind fun x22 => (inV s15.length (0 + (s2 : Int).toNat) (0 + ((d0.length : Int) : Int).toNat) (IntKind.wrap .i64 (s14 - (1 : Int)))).bind fun _ => (getO s15 (((0 + (s2 : Int).toNat) + ((IntKind.wrap .i64 (s14 - (1 : Int))) : Int).toNat : Nat) : Int)).bind fun x24 => if (!(((x22.al.aB == x24.al.aB) && ((x22.al.aA == x24.al.aA) && ((x22.al.aw == x24.al.aw) && ((x22.al.aC == x24.al.aC) && true)))) && ((x22.aN == x24.aN) && ((x22.aH == x24.aH) && ((x22.aY == x24.aY) && ((x22.aI == x24.aI) && ((x22.aJ == x24.aJ) && true))))))) = true then ((inV s15.length (0 + (s2 : Int).toNat) (0 + ((d0.length : Int) : Int).toNat) s14).bind fun _ => (getO s15 (((0 + (s2 : Int).toNat) + (s14 : Int).toNat : Nat) : Int)).bind fun x27 => (inO s15 s13).bind fun _ => (setO s15 s13 x27).bind fun x30 => some (.next ((IntKind.wrap .i64 (s13 + (1 : Int))), (IntKind.wrap .i64 (s14 + (1 : Int))), x30))) else (some (.next (s13, (IntKind.wrap .i64 (s14 + (1 : Int))), s15)))) else (some (.stop (s13, s15)))
noncomputable def eN (d0 : (List aa)) : Int → Option (Step1 (Int) ((Unit) ⊕ ((List aa)))) := fun s2 =>
  if (decide (s2 < (d0.length : Int))) = true then ((inO d0 s2).bind fun _ => (getO d0 s2).bind fun x7 => (inO d0 (IntKind.wrap .i64 (s2 - (1 : Int)))).bind fun _ => (getO d0 (IntKind.wrap .i64 (s2 - (1 : Int)))).bind fun x10 => if (((x7.al.aB == x10.al.aB) && ((x7.al.aA == x10.al.aA) && ((x7.al.aw == x10.al.aw) && ((x7.al.aC == x10.al.aC) && true)))) && ((x7.aN == x10.aN) && ((x7.aH == x10.aH) && ((x7.aY == x10.aY) && ((x7.aI == x10.aI) && ((x7.aJ == x10.aJ) && true)))))) = true then ((subO d0.length s2 (d0.length : Int)).bind fun _ => (loopO (gC s2 d0) (s2, (1 : Int), d0)).bind fun o32 => (subO o32.2.length o32.1 (o32.2.length : Int)).bind fun _ => (viewO o32.2.length (0 + (o32.1 : Int).toNat) (0 + ((o32.2.length : Int) : Int).toNat)).bind fun _ => (subO (clearL o32.2 (0 + (o32.1 : Int).toNat) ((0 + ((o32.2.length : Int) : Int).toNat) - (0 + (o32.1 : Int).toNat)) (aa.mk (ag.mk [] [] [] []) 0 0 0 0 0)).length (0 : Int) o32.1).bind fun _ => some (.stop (.inr ((clearL o32.2 (0 + (o32.1 : Int).toNat) ((0 + ((o32.2.length : Int) : Int).toNat) - (0 + (o32.1 : Int).toNat)) (aa.mk (ag.mk [] [] [] []) 0 0 0 0 0)).take (o32.1 : Int).toNat)))) else (some (.next (IntKind.wrap .i64 (s2 + (1 : Int)))))) else (some (.stop (.inl ())))
noncomputable def c8 (d0 : (List aa)) : Option ((List aa)) :=
  if (decide ((d0.length : Int) < (2 : Int))) = true then (some d0) else ((loopO (eN d0) (1 : Int)).bind fun o38 => match o38 with | .inl _ => (some d0) | .inr r40 => (some r40))
noncomputable def jl (a0 : (List aa)) : Option ((List aa)) :=
  (cloneO 104 a0).bind fun x1 => (sortO bz x1).bind fun x2 => (c8 x2).bind fun x3 => some x3
noncomputable def bW (a0 : aa) (a1 : aa) : Option (Int) :=
  (bD a0.aH a1.aH).bind fun x1 => some x1
noncomputable def bJ (a1 : Int) (s1 : Int) : (Int × (List aa)) → Option (Step1 (Int × (List aa)) (Int × (List aa))) := fun (s5, s6) =>
  if (decide (s5 > a1)) = true then ((inO s6 s5).bind fun _ => (getO s6 s5).bind fun x13 => (inO s6 (IntKind.wrap .i64 (s5 - (1 : Int)))).bind fun _ => (getO s6 (IntKind.wrap .i64 (s5 - (1 : Int)))).bind fun x16 => (bW x13 x16).bind fun x17 => if (decide (x17 < (0 : Int))) = true then ((inO s6 (IntKind.wrap .i64 (s5 - (1 : Int)))).bind fun _ => (getO s6 (IntKind.wrap .i64 (s5 - (1 : Int)))).bind fun x21 => (inO s6 s5).bind fun _ => (getO s6 s5).bind fun x24 => (inO s6 s5).bind fun _ => (setO s6 s5 x21).bind fun x27 => (inO x27 (IntKind.wrap .i64 (s5 - (1 : Int)))).bind fun _ => (setO x27 (IntKind.wrap .i64 (s5 - (1 : Int))) x24).bind fun x30 => some (.next ((IntKind.wrap .i64 (s5 - (1 : Int))), x30))) else (some (.stop (s1, s6)))) else (some (.stop (s1, s6)))
noncomputable def bA (a2 : Int) (a1 : Int) : (Int × (List aa)) → Option (Step1 (Int × (List aa)) ((List aa))) := fun (s1, s2) =>
  if (decide (s1 < a2)) = true then ((loopO (bJ a1 s1) (s1, s2)).bind fun o32 => some (.next ((IntKind.wrap .i64 (o32.1 + (1 : Int))), o32.2))) else ((some s2).bind fun z33 => some (.stop z33))
noncomputable def bc (a1 : Int) (a2 : Int) (d0 : (List aa)) : Option ((List aa)) :=
  (loopO (bA a2 a1) ((IntKind.wrap .i64 (a1 + (1 : Int))), d0)).bind fun o35 => some o35
noncomputable def dE (a3 : Int) (a2 : Int) (a1 : Int) : (Int × (List aa)) → Option (Step1 (Int × (List aa)) ((List aa))) := fun (s1, s2) =>
  if (decide (s1 < a3)) = true then ((inO s2 (IntKind.wrap .i64 (a2 + s1))).bind fun _ => (getO s2 (IntKind.wrap .i64 (a2 + s1))).bind fun x7 => (inO s2 (IntKind.wrap .i64 (a1 + s1))).bind fun _ => (getO s2 (IntKind.wrap .i64 (a1 + s1))).bind fun x10 => (inO s2 (IntKind.wrap .i64 (a1 + s1))).bind fun _ => (setO s2 (IntKind.wrap .i64 (a1 + s1)) x7).bind fun x13 => (inO x13 (IntKind.wrap .i64 (a2 + s1))).bind fun _ => (setO x13 (IntKind.wrap .i64 (a2 + s1)) x10).bind fun x16 => some (.next ((IntKind.wrap .i64 (s1 + (1 : Int))), x16))) else ((some s2).bind fun z17 => some (.stop z17))
noncomputable def bS (a1 : Int) (a2 : Int) (a3 : Int) (d0 : (List aa)) : Option ((List aa)) :=
  (loopO (dE a3 a2 a1) ((0 : Int), d0)).bind fun o19 => some o19
noncomputable def ez (a2 : Int) : (Int × Int × (List aa)) → Option (Step1 (Int × Int × (List aa)) (Int × (List aa))) := fun (s1, s2, s3) =>
  if (s1 != s2) = true then (if (decide (s1 > s2)) = true then ((bS (IntKind.wrap .i64 (a2 - s1)) a2 s2 s3).bind fun x9 => some (.next ((IntKind.wrap .i64 (s1 - s2)), s2, x9))) else ((bS (IntKind.wrap .i64 (a2 - s1)) (IntKind.wrap .i64 ((IntKind.wrap .i64 (a2 + s2)) - s1)) s1 s3).bind fun x10 => some (.next (s1, (IntKind.wrap .i64 (s2 - s1)), x10)))) else (some (.stop (s1, s3)))
noncomputable def dD (a1 : Int) (a2 : Int) (a3 : Int) (d0 : (List aa)) : Option ((List aa)) :=
  (loopO (ez a2) ((IntKind.wrap .i64 (a2 - a1)), (IntKind.wrap .i64 (a3 - a2)), d0)).bind fun o12 => (bS (IntKind.wrap .i64 (a2 - o12.1)) a2 o12.1 o12.2).bind fun x13 => some x13
noncomputable def dY (d0 : (List aa)) (a1 : Int) : (Int × Int) → Option (Step1 (Int × Int) (Int)) := fun (s2, s3) =>
  if (decide (s2 < s3)) = true then ((inO d0 (IntKind.wrap .i64 (shrI .u64 (IntKind.wrap .u64 (IntKind.wrap .i64 (s2 + s3))) (1 : Int)))).bind fun _ => (getO d0 (IntKind.wrap .i64 (shrI .u64 (IntKind.wrap .u64 (IntKind.wrap .i64 (s2 + s3))) (1 : Int)))).bind fun x9 => (inO d0 a1).bind fun _ => (getO d0 a1).bind fun x12 => (bW x9 x12).bind fun x13 => if (decide (x13 < (0 : Int))) = true then (some (.next ((IntKind.wrap .i64 ((IntKind.wrap .i64 (shrI .u64 (IntKind.wrap .u64 (IntKind.wrap .i64 (s2 + s3))) (1 : Int))) + (1 : Int))), s3))) else (some (.next (s2, (IntKind.wrap .i64 (shrI .u64 (IntKind.wrap .u64 (IntKind.wrap .i64 (s2 + s3))) (1 : Int))))))) else (some (.stop s2))
noncomputable def dZ (o16 : Int) : (Int × (List aa)) → Option (Step1 (Int × (List aa)) ((List aa))) := fun (s17, s18) =>
  if (decide (s17 < (IntKind.wrap .i64 (o16 - (1 : Int))))) = true then ((inO s18 (IntKind.wrap .i64 (s17 + (1 : Int)))).bind fun _ => (getO s18 (IntKind.wrap .i64 (s17 + (1 : Int)))).bind fun x23 => (inO s18 s17).bind fun _ => (getO s18 s17).bind fun x26 => (inO s18 s17).bind fun _ => (setO s18 s17 x23).bind fun x29 => (inO x29 (IntKind.wrap .i64 (s17 + (1 : Int)))).bind fun _ => (setO x29 (IntKind.wrap .i64 (s17 + (1 : Int))) x26).bind fun x32 => some (.next ((IntKind.wrap .i64 (s17 + (1 : Int))), x32))) else ((some s18).bind fun z33 => some (.stop z33))
noncomputable def d6 (d0 : (List aa)) (a2 : Int) : (Int × Int) → Option (Step1 (Int × Int) (Int)) := fun (s37, s38) =>
  if (decide (s37 < s38)) = true then ((inO d0 a2).bind fun _ => (getO d0 a2).bind fun x44 => (inO d0 (IntKind.wrap .i64 (shrI .u64 (IntKind.wrap .u64 (IntKind.wrap .i64 (s37 + s38))) (1 : Int)))).bind fun _ => (getO d0 (IntKind.wrap .i64 (shrI .u64 (IntKind.wrap .u64 (IntKind.wrap .i64 (s37 + s38))) (1 : Int)))).bind fun x47 => (bW x44 x47).bind fun x48 => if (!(decide (x48 < (0 : Int)))) = true then (some (.next ((IntKind.wrap .i64 ((IntKind.wrap .i64 (shrI .u64 (IntKind.wrap .u64 (IntKind.wrap .i64 (s37 + s38))) (1 : Int))) + (1 : Int))), s38))) else (some (.next (s37, (IntKind.wrap .i64 (shrI .u64 (IntKind.wrap .u64 (IntKind.wrap .i64 (s37 + s38))) (1 : Int))))))) else (some (.stop s37))
noncomputable def d7 (o51 : Int) : (Int × (List aa)) → Option (Step1 (Int × (List aa)) ((List aa))) := fun (s52, s53) =>
  if (decide (s52 > o51)) = true then ((inO s53 (IntKind.wrap .i64 (s52 - (1 : Int)))).bind fun _ => (getO s53 (IntKind.wrap .i64 (s52 - (1 : Int)))).bind fun x58 => (inO s53 s52).bind fun _ => (getO s53 s52).bind fun x61 => (inO s53 s52).bind fun _ => (setO s53 s52 x58).bind fun x64 => (inO x64 (IntKind.wrap .i64 (s52 - (1 : Int)))).bind fun _ => (setO x64 (IntKind.wrap .i64 (s52 - (1 : Int))) x61).bind fun x67 => some (.next ((IntKind.wrap .i64 (s52 - (1 : Int))), x67))) else ((some s53).bind fun z68 => some (.stop z68))
noncomputable def d8 (d0 : (List aa)) (a1 : Int) (a3 : Int) (a2 : Int) : (Int × Int) → Option (Step1 (Int × Int) (Int)) := fun (s73, s74) =>
  if (decide (s73 < s74)) = true then ((inO d0 (IntKind.wrap .i64 ((IntKind.wrap .i64 ((IntKind.wrap .i64 ((IntKind.wrap .i64 (shrI .u64 (IntKind.wrap .u64 (IntKind.wrap .i64 (a1 + a3))) (1 : Int))) + a2)) - (1 : Int))) - (IntKind.wrap .i64 (shrI .u64 (IntKind.wrap .u64 (IntKind.wrap .i64 (s73 + s74))) (1 : Int)))))).bind fun _ => (getO d0 (IntKind.wrap .i64 ((IntKind.wrap .i64 ((IntKind.wrap .i64 ((IntKind.wrap .i64 (shrI .u64 (IntKind.wrap .u64 (IntKind.wrap .i64 (a1 + a3))) (1 : Int))) + a2)) - (1 : Int))) - (IntKind.wrap .i64 (shrI .u64 (IntKind.wrap .u64 (IntKind.wrap .i64 (s73 + s74))) (1 : Int)))))).bind fun x80 => (inO d0 (IntKind.wrap .i64 (shrI .u64 (IntKind.wrap .u64 (IntKind.wrap .i64 (s73 + s74))) (1 : Int)))).bind fun _ => (getO d0 (IntKind.wrap .i64 (shrI .u64 (IntKind.wrap .u64 (IntKind.wrap .i64 (s73 + s74))) (1 : Int)))).bind fun x83 => (bW x80 x83).bind fun x84 => if (!(decide (x84 < (0 : Int)))) = true then (some (.next ((IntKind.wrap .i64 ((IntKind.wrap .i64 (shrI .u64 (IntKind.wrap .u64 (IntKind.wrap .i64 (s73 + s74))) (1 : Int))) + (1 : Int))), s74))) else (some (.next (s73, (IntKind.wrap .i64 (shrI .u64 (IntKind.wrap .u64 (IntKind.wrap .i64 (s73 + s74))) (1 : Int))))))) else (some (.stop s73))
noncomputable def bh (a1 : Int) (a3 : Int) (a2 : Int) (o87 : Int) (rc : Int → Int → Int → (List aa) → Option ((List aa))) (j89 : (List aa)) : Option ((List aa)) :=
  if (decide ((IntKind.wrap .i64 (shrI .u64 (IntKind.wrap .u64 (IntKind.wrap .i64 (a1 + a3))) (1 : Int))) < (IntKind.wrap .i64 ((IntKind.wrap .i64 ((IntKind.wrap .i64 (shrI .u64 (IntKind.wrap .u64 (IntKind.wrap .i64 (a1 + a3))) (1 : Int))) + a2)) - o87)))) = true then (if (decide ((IntKind.wrap .i64 ((IntKind.wrap .i64 ((IntKind.wrap .i64 (shrI .u64 (IntKind.wrap .u64 (IntKind.wrap .i64 (a1 + a3))) (1 : Int))) + a2)) - o87)) < a3)) = true then ((rc (IntKind.wrap .i64 (shrI .u64 (IntKind.wrap .u64 (IntKind.wrap .i64 (a1 + a3))) (1 : Int))) (IntKind.wrap .i64 ((IntKind.wrap .i64 ((IntKind.wrap .i64 (shrI .u64 (IntKind.wrap .u64 (IntKind.wrap .i64 (a1 + a3))) (1 : Int))) + a2)) - o87)) a3 j89).bind fun x92 => some x92) else (some j89)) else (some j89)
noncomputable def bi (a1 : Int) (o87 : Int) (a3 : Int) (rc : Int → Int → Int → (List aa) → Option ((List aa))) (a2 : Int) (j88 : (List aa)) : Option ((List aa)) :=
  if (decide (a1 < o87)) = true then (if (decide (o87 < (IntKind.wrap .i64 (shrI .u64 (IntKind.wrap .u64 (IntKind.wrap .i64 (a1 + a3))) (1 : Int))))) = true then ((rc a1 o87 (IntKind.wrap .i64 (shrI .u64 (IntKind.wrap .u64 (IntKind.wrap .i64 (a1 + a3))) (1 : Int))) j88).bind fun x96 => bh a1 a3 a2 o87 rc x96) else (bh a1 a3 a2 o87 rc j88)) else (bh a1 a3 a2 o87 rc j88)
noncomputable def bo (d0 : (List aa)) (a1 : Int) (a3 : Int) (a2 : Int) (rc : Int → Int → Int → (List aa) → Option ((List aa))) (j71 : Int) (j72 : Int) : Option ((List aa)) :=
  (loopO (d8 d0 a1 a3 a2) (j71, j72)).bind fun o87 => if (decide (o87 < a2)) = true then (if (decide (a2 < (IntKind.wrap .i64 ((IntKind.wrap .i64 ((IntKind.wrap .i64 (shrI .u64 (IntKind.wrap .u64 (IntKind.wrap .i64 (a1 + a3))) (1 : Int))) + a2)) - o87)))) = true then ((dD o87 a2 (IntKind.wrap .i64 ((IntKind.wrap .i64 ((IntKind.wrap .i64 (shrI .u64 (IntKind.wrap .u64 (IntKind.wrap .i64 (a1 + a3))) (1 : Int))) + a2)) - o87)) d0).bind fun x100 => bi a1 o87 a3 rc a2 x100) else (bi a1 o87 a3 rc a2 d0)) else (bi a1 o87 a3 rc a2 d0)
noncomputable def a7 : Nat → Int → Int → Int → (List aa) → Option ((List aa))
  | 0, _, _, _, _ => none
  | nfu + 1, a1, a2, a3, d0 =>
  if ((IntKind.wrap .i64 (a2 - a1)) == (1 : Int)) = true then ((loopO (dY d0 a1) (a2, a3)).bind fun o16 => (loopO (dZ o16) (a1, d0)).bind fun o35 => some o35) else (if ((IntKind.wrap .i64 (a3 - a2)) == (1 : Int)) = true then ((loopO (d6 d0 a2) (a1, a2)).bind fun o51 => (loopO (d7 o51) (a2, d0)).bind fun o70 => some o70) else (if (decide (a2 > (IntKind.wrap .i64 (shrI .u64 (IntKind.wrap .u64 (IntKind.wrap .i64 (a1 + a3))) (1 : Int))))) = true then (bo d0 a1 a3 a2 (a7 nfu) (IntKind.wrap .i64 ((IntKind.wrap .i64 ((IntKind.wrap .i64 (shrI .u64 (IntKind.wrap .u64 (IntKind.wrap .i64 (a1 + a3))) (1 : Int))) + a2)) - a3)) (IntKind.wrap .i64 (shrI .u64 (IntKind.wrap .u64 (IntKind.wrap .i64 (a1 + a3))) (1 : Int)))) else (bo d0 a1 a3 a2 (a7 nfu) a1 a2)))
noncomputable def dg (a1 : Int) (a2 : Int) (a3 : Int) (d0 : (List aa)) : Option ((List aa)) := recO fun n => a7 n a1 a2 a3 d0
noncomputable def bp (a1 : Int) : (Int × Int × (List aa)) → Option (Step1 (Int × Int × (List aa)) (Int × (List aa))) := fun (s1, s2, s3) =>
  if (decide (s2 ≤ a1)) = true then ((bc s1 s2 s3).bind fun x8 => some (.next (s2, (IntKind.wrap .i64 (s2 + (20 : Int))), x8))) else (some (.stop (s1, s3)))
noncomputable def eA (a1 : Int) (s12 : Int) : (Int × Int × (List aa)) → Option (Step1 (Int × Int × (List aa)) (Int × Int × (List aa))) := fun (s16, s17, s18) =>
  if (decide (s17 ≤ a1)) = true then ((dg s16 (IntKind.wrap .i64 (s16 + s12)) s17 s18).bind fun x24 => some (.next (s17, (IntKind.wrap .i64 (s17 + (IntKind.wrap .i64 ((2 : Int) * s12)))), x24))) else (some (.stop (s12, s16, s18)))
noncomputable def cj (a1 : Int) : (Int × (List aa)) → Option (Step1 (Int × (List aa)) ((List aa))) := fun (s12, s13) =>
  if (decide (s12 < a1)) = true then ((loopO (eA a1 s12) ((0 : Int), (IntKind.wrap .i64 ((2 : Int) * s12)), s13)).bind fun o26 => if (decide ((IntKind.wrap .i64 (o26.2.1 + o26.1)) < a1)) = true then ((dg o26.2.1 (IntKind.wrap .i64 (o26.2.1 + o26.1)) a1 o26.2.2).bind fun x28 => some (.next ((IntKind.wrap .i64 (o26.1 * (2 : Int))), x28))) else (some (.next ((IntKind.wrap .i64 (o26.1 * (2 : Int))), o26.2.2)))) else ((some s13).bind fun z29 => some (.stop z29))
noncomputable def cI (a1 : Int) (d0 : (List aa)) : Option ((List aa)) :=
  (loopO (bp a1) ((0 : Int), (20 : Int), d0)).bind fun o10 => (bc o10.1 a1 o10.2).bind fun x11 => (loopO (cj a1) ((20 : Int), x11)).bind fun o31 => some o31
noncomputable def bK (d0 : (List aa)) : Option ((List aa)) :=
  (cI (d0.length : Int) d0).bind fun x1 => some x1
noncomputable def dB (x2 : (List aa)) (a0 : Int) : (Int × (List (List aa))) → Option (Step1 (Int × (List (List aa))) ((List (List aa)))) := fun (s3, s4) =>
  if (decide (s3 < (x2.length : Int))) = true then ((inO x2 s3).bind fun _ => (getO x2 s3).bind fun x10 => if (s3 == (0 : Int)) = true then ((appO s4 [[]] 24).bind fun x12 => (lastO x12).bind fun x13 => (inO x12 (IntKind.wrap .i64 ((x12.length : Int) - (1 : Int)))).bind fun _ => (atO (IntKind.wrap .i64 ((x12.length : Int) - (1 : Int))) (x12.length - 1)).bind fun _ => (appO x13 [x10] 104).bind fun x16 => (inO x12 (IntKind.wrap .i64 ((x12.length : Int) - (1 : Int)))).bind fun _ => (stO x12.length (IntKind.wrap .i64 ((x12.length : Int) - (1 : Int))) (x12.length - 1)).bind fun _ => some (.next ((IntKind.wrap .i64 (s3 + (1 : Int))), (x12.set (x12.length - 1) x16)))) else ((inO x2 (IntKind.wrap .i64 (s3 - (1 : Int)))).bind fun _ => (getO x2 (IntKind.wrap .i64 (s3 - (1 : Int)))).bind fun x21 => if (decide ((IntKind.wrap .i64 (x10.aH - x21.aH)) > a0)) = true then ((appO s4 [[]] 24).bind fun x23 => (lastO x23).bind fun x24 => (inO x23 (IntKind.wrap .i64 ((x23.length : Int) - (1 : Int)))).bind fun _ => (atO (IntKind.wrap .i64 ((x23.length : Int) - (1 : Int))) (x23.length - 1)).bind fun _ => (appO x24 [x10] 104).bind fun x27 => (inO x23 (IntKind.wrap .i64 ((x23.length : Int) - (1 : Int)))).bind fun _ => (stO x23.length (IntKind.wrap .i64 ((x23.length : Int) - (1 : Int))) (x23.length - 1)).bind fun _ => some (.next ((IntKind.wrap .i64 (s3 + (1 : Int))), (x23.set (x23.length - 1) x27)))) else ((lastO s4).bind fun x30 => (inO s4 (IntKind.wrap .i64 ((s4.length : Int) - (1 : Int)))).bind fun _ => (atO (IntKind.wrap .i64 ((s4.length : Int) - (1 : Int))) (s4.length - 1)).bind fun _ => (appO x30 [x10] 104).bind fun x33 => (inO s4 (IntKind.wrap .i64 ((s4.length : Int) - (1 : Int)))).bind fun _ => (stO s4.length (IntKind.wrap .i64 ((s4.length : Int) - (1 : Int))) (s4.length - 1)).bind fun _ => some (.next ((IntKind.wrap .i64 (s3 + (1 : Int))), (s4.set (s4.length - 1) x33)))))) else (some (.stop s4))
noncomputable def cw (o37 : (List (List aa))) : (Int × (List (List aa))) → Option (Step1 (Int × (List (List aa))) ((List (List aa)))) := fun (s38, s39) =>
  if (decide (s38 < (o37.length : Int))) = true then ((getO s39 s38).bind fun x43 => (inO s39 s38).bind fun _ => (atO s38 (Int.toNat s38)).bind fun _ => (sortO bz x43).bind fun x46 => some (.next ((IntKind.wrap .i64 (s38 + (1 : Int))), (s39.set (Int.toNat s38) x46)))) else (some (.stop s39))
noncomputable def cC (a0 : Int) (a1 : (List aa)) : Option ((List (List aa))) :=
  (jl a1).bind fun x1 => (bK x1).bind fun x2 => (loopO (dB x2 a0) ((0 : Int), ([] : (List (List aa))))).bind fun o37 => (loopO (cw o37) ((0 : Int), o37)).bind fun o48 => some o48
noncomputable def b7 (a0 : Int) (a1 : (List aa)) : Option ((List (List aa)) × Int) :=
  if (decide (a0 < (0 : Int))) = true then (some (([] : (List (List aa))), (2 : Int))) else (if (decide (a0 > (1099511627776 : Int))) = true then (some (([] : (List (List aa))), (2 : Int))) else ((dC a1).bind fun x3 => if (!x3) = true then (some (([] : (List (List aa))), (1 : Int))) else ((cC a0 a1).bind fun x5 => some (x5, (0 : Int)))))
noncomputable def fS (a0 : Int) : Option (aa) :=
  (fu (0 : Int)).bind fun x1 => some (aa.mk x1 a0 a0 a0 0 0)
noncomputable def hM (s2 : Int) (d0 : (List ag)) : (Int × Int × (List ag)) → Option (Step1 (Int × Int × (List ag)) (Int × (List ag))) := fun (s13, s14, s15) =>
  (lenV s15.length (0 + (s2 : Int).toNat) (0 + ((d0.length : Int) : Int).toNat)).bind fun x19 => if (decide (s14 < x19)) = true then ((inV s15.length (0 + (s2 : Int).toNat) (0 + ((d0.length : Int) : Int).toNat) s14).bind fun _ => (getO s15 (((0 + (s2 : Int).toNat) + (s14 : Int).toNat : Nat) : Int)).bind fun x22 => (inV s15.length (0 + (s2 : Int).toNat) (0 + ((d0.length : Int) : Int).toNat) (IntKind.wrap .i64 (s14 - (1 : Int)))).bind fun _ => (getO s15 (((0 + (s2 : Int).toNat) + ((IntKind.wrap .i64 (s14 - (1 : Int))) : Int).toNat : Nat) : Int)).bind fun x24 => if (!((x22.aB == x24.aB) && ((x22.aA == x24.aA) && ((x22.aw == x24.aw) && ((x22.aC == x24.aC) && true))))) = true then ((inV s15.length (0 + (s2 : Int).toNat) (0 + ((d0.length : Int) : Int).toNat) s14).bind fun _ => (getO s15 (((0 + (s2 : Int).toNat) + (s14 : Int).toNat : Nat) : Int)).bind fun x27 => (inO s15 s13).bind fun _ => (setO s15 s13 x27).bind fun x30 => some (.next ((IntKind.wrap .i64 (s13 + (1 : Int))), (IntKind.wrap .i64 (s14 + (1 : Int))), x30))) else (some (.next (s13, (IntKind.wrap .i64 (s14 + (1 : Int))), s15)))) else (some (.stop (s13, s15)))
noncomputable def hP (d0 : (List ag)) : Int → Option (Step1 (Int) ((Unit) ⊕ ((List ag)))) := fun s2 =>
  if (decide (s2 < (d0.length : Int))) = true then ((inO d0 s2).bind fun _ => (getO d0 s2).bind fun x7 => (inO d0 (IntKind.wrap .i64 (s2 - (1 : Int)))).bind fun _ => (getO d0 (IntKind.wrap .i64 (s2 - (1 : Int)))).bind fun x10 => if ((x7.aB == x10.aB) && ((x7.aA == x10.aA) && ((x7.aw == x10.aw) && ((x7.aC == x10.aC) && true)))) = true then ((subO d0.length s2 (d0.length : Int)).bind fun _ => (loopO (hM s2 d0) (s2, (1 : Int), d0)).bind fun o32 => (subO o32.2.length o32.1 (o32.2.length : Int)).bind fun _ => (viewO o32.2.length (0 + (o32.1 : Int).toNat) (0 + ((o32.2.length : Int) : Int).toNat)).bind fun _ => (subO (clearL o32.2 (0 + (o32.1 : Int).toNat) ((0 + ((o32.2.length : Int) : Int).toNat) - (0 + (o32.1 : Int).toNat)) (ag.mk [] [] [] [])).length (0 : Int) o32.1).bind fun _ => (partO (clearL o32.2 (0 + (o32.1 : Int).toNat) ((0 + ((o32.2.length : Int) : Int).toNat) - (0 + (o32.1 : Int).toNat)) (ag.mk [] [] [] [])) (0 + (0 : Int).toNat) (0 + (o32.1 : Int).toNat)).bind fun x37 => some (.stop (.inr x37))) else (some (.next (IntKind.wrap .i64 (s2 + (1 : Int)))))) else (some (.stop (.inl ())))
noncomputable def eO (d0 : (List ag)) : Option ((List ag)) :=
  if (decide ((d0.length : Int) < (2 : Int))) = true then (some d0) else ((loopO (hP d0) (1 : Int)).bind fun o39 => match o39 with | .inl _ => (some d0) | .inr r41 => (some r41))
noncomputable def rr (a0 : (List ag)) : Option ((List ag)) :=
  (cloneO 64 a0).bind fun x1 => (sortO co x1).bind fun x2 => (eO x2).bind fun x3 => some x3
noncomputable def vj (a0 : aj) : Option (Bool) :=
  some (decide (a0.aM < a0.fTo))
noncomputable def jW (a0 : aj) : Option (Bool) :=
  (vj a0).bind fun x1 => some (!x1)
noncomputable def gx (d0 : (List aj)) : Int → Option (Step1 (Int) ((Unit) ⊕ (Int × (List aj)))) := fun s1 =>
  if (decide (s1 < (d0.length : Int))) = true then ((inO d0 s1).bind fun _ => (getO d0 s1).bind fun x6 => (jW x6).bind fun x7 => if x7 = true then (some (.stop (.inr (s1, d0)))) else (some (.next (IntKind.wrap .i64 (s1 + (1 : Int)))))) else (some (.stop (.inl ())))
noncomputable def ff (d0 : (List aj)) : Option (Int × (List aj)) :=
  (loopO (gx d0) (0 : Int)).bind fun o10 => match o10 with | .inl _ => (some ((-1 : Int), d0)) | .inr r12 => (some r12)
noncomputable def fA  : (Int × Int × (List aj)) → Option (Step1 (Int × Int × (List aj)) (Int × (List aj))) := fun (s3, s4, s5) =>
  if (decide (s4 < (s5.length : Int))) = true then ((inO s5 s4).bind fun _ => (getO s5 s4).bind fun x12 => (jW x12).bind fun x13 => if (!x13) = true then ((inO s5 s3).bind fun _ => (setO s5 s3 x12).bind fun x17 => some (.next ((IntKind.wrap .i64 (s3 + (1 : Int))), (IntKind.wrap .i64 (s4 + (1 : Int))), x17))) else (some (.next (s3, (IntKind.wrap .i64 (s4 + (1 : Int))), s5)))) else (some (.stop (s3, s5)))
noncomputable def db (d0 : (List aj)) : Option ((List aj)) :=
  (ff d0).bind fun x1 => if (x1.1 == (-1 : Int)) = true then (some x1.2) else ((loopO (fA) (x1.1, (IntKind.wrap .i64 (x1.1 + (1 : Int))), x1.2)).bind fun o19 => (subO o19.2.length o19.1 (o19.2.length : Int)).bind fun _ => (viewO o19.2.length (0 + (o19.1 : Int).toNat) (0 + ((o19.2.length : Int) : Int).toNat)).bind fun _ => (subO (clearL o19.2 (0 + (o19.1 : Int).toNat) ((0 + ((o19.2.length : Int) : Int).toNat) - (0 + (o19.1 : Int).toNat)) (aj.mk 0 0)).length (0 : Int) o19.1).bind fun _ => some ((clearL o19.2 (0 + (o19.1 : Int).toNat) ((0 + ((o19.2.length : Int) : Int).toNat) - (0 + (o19.1 : Int).toNat)) (aj.mk 0 0)).take (o19.1 : Int).toNat))
noncomputable def ch (a0 : aj) (a1 : aj) : Option (Int) :=
  (bD a0.aM a1.aM).bind fun x1 => some x1
noncomputable def nN (x3 : (List aj)) : (Int × (List aj)) → Option (Step1 (Int × (List aj)) ((List aj))) := fun (s4, s5) =>
  if (decide (s4 < (x3.length : Int))) = true then ((inO x3 s4).bind fun _ => (getO x3 s4).bind fun x11 => if (decide ((s5.length : Int) > (0 : Int))) = true then ((inO s5 (IntKind.wrap .i64 ((s5.length : Int) - (1 : Int)))).bind fun _ => (getO s5 (IntKind.wrap .i64 ((s5.length : Int) - (1 : Int)))).bind fun x15 => if (decide (x11.aM ≤ x15.fTo)) = true then ((inO s5 (IntKind.wrap .i64 ((s5.length : Int) - (1 : Int)))).bind fun _ => (getO s5 (IntKind.wrap .i64 ((s5.length : Int) - (1 : Int)))).bind fun x19 => (inO s5 (IntKind.wrap .i64 ((s5.length : Int) - (1 : Int)))).bind fun _ => (modO s5 (IntKind.wrap .i64 ((s5.length : Int) - (1 : Int))) (fun (z23 : aj) => (aj.mk z23.aM (if x11.fTo > x19.fTo then x11.fTo else x19.fTo)))).bind fun x22 => some (.next ((IntKind.wrap .i64 (s4 + (1 : Int))), x22))) else ((appO s5 [x11] 16).bind fun x24 => some (.next ((IntKind.wrap .i64 (s4 + (1 : Int))), x24)))) else ((appO s5 [x11] 16).bind fun x25 => some (.next ((IntKind.wrap .i64 (s4 + (1 : Int))), x25)))) else (some (.stop s5))
noncomputable def jp (a0 : (List aj)) : Option ((List aj)) :=
  (cloneO 16 a0).bind fun x1 => (db x1).bind fun x2 => (sortO ch x2).bind fun x3 => (loopO (nN x3) ((0 : Int), ([] : (List aj)))).bind fun o27 => some o27
noncomputable def gR (a0 : (List aa)) : (Int × (List (ag × (List aj))) × (List ag)) → Option (Step1 (Int × (List (ag × (List aj))) × (List ag)) ((List (ag × (List aj))) × (List ag))) := fun (s1, s2, s3) =>
  if (decide (s1 < (a0.length : Int))) = true then ((getO a0 s1).bind fun x8 => (eM x8).bind fun x9 => if (!x9) = true then (some (.next ((IntKind.wrap .i64 (s1 + (1 : Int))), s2, s3))) else ((appO s3 [x8.al] 64).bind fun x11 => (appO (mGet xX x8.al [] s2) [(aj.mk x8.aN (IntKind.wrap .i64 (x8.aN + (1 : Int))))] 16).bind fun x12 => some (.next ((IntKind.wrap .i64 (s1 + (1 : Int))), (mPut xX x8.al x12 s2), x11)))) else (some (.stop (s2, s3)))
noncomputable def gT (x15 : (List ag)) (o14 : (List (ag × (List aj))) × (List ag)) : (Int × (List az)) → Option (Step1 (Int × (List az)) ((List az))) := fun (s17, s18) =>
  if (decide (s17 < (x15.length : Int))) = true then ((getO x15 s17).bind fun x22 => (jp (mGet xX x22 ([] : (List aj)) o14.1)).bind fun x23 => (appO s18 [(az.mk x22 x23)] 88).bind fun x24 => some (.next ((IntKind.wrap .i64 (s17 + (1 : Int))), x24))) else (some (.stop s18))
noncomputable def fR (a0 : (List aa)) : Option ((List az)) :=
  (loopO (gR a0) ((0 : Int), ([] : List (ag × (List aj))), ([] : (List ag)))).bind fun o14 => (rr o14.2).bind fun x15 => (loopO (gT x15 o14) ((0 : Int), ([] : (List az)))).bind fun o26 => some o26
noncomputable def ky (a0 : (List az)) (s2 : Int) (a1 : (List az)) : Int → Option (Step1 (Int) ((Int) ⊕ (Bool))) := fun s11 =>
  (getO a0 s2).bind fun x14 => if (decide (s11 < (x14.eP.length : Int))) = true then ((getO a0 s2).bind fun x16 => (getO x16.eP s11).bind fun x17 => (getO a1 s2).bind fun x18 => (getO x18.eP s11).bind fun x19 => if (!((x17.aM == x19.aM) && ((x17.fTo == x19.fTo) && true))) = true then (some (.stop (.inr false))) else (some (.next (IntKind.wrap .i64 (s11 + (1 : Int)))))) else (some (.stop (.inl s2)))
noncomputable def kz (a0 : (List az)) (a1 : (List az)) : Int → Option (Step1 (Int) ((Unit) ⊕ (Bool))) := fun s2 =>
  if (decide (s2 < (a0.length : Int))) = true then ((getO a0 s2).bind fun x5 => (getO a1 s2).bind fun x6 => if (!((x5.al.aB == x6.al.aB) && ((x5.al.aA == x6.al.aA) && ((x5.al.aw == x6.al.aw) && ((x5.al.aC == x6.al.aC) && true))))) = true then (some (.stop (.inr false))) else ((getO a0 s2).bind fun x8 => (getO a1 s2).bind fun x9 => if ((x8.eP.length : Int) != (x9.eP.length : Int)) = true then (some (.stop (.inr false))) else ((loopO (ky a0 s2 a1) (0 : Int)).bind fun o22 => match o22 with | .inl y23 => (some (.next (IntKind.wrap .i64 (y23 + (1 : Int))))) | .inr r24 => (some (.stop (.inr r24)))))) else (some (.stop (.inl ())))
noncomputable def ey (a0 : (List az)) (a1 : (List az)) : Option (Bool) :=
  if ((a0.length : Int) != (a1.length : Int)) = true then (some false) else ((loopO (kz a0 a1) (0 : Int)).bind fun o26 => match o26 with | .inl _ => (some true) | .inr r28 => (some r28))
noncomputable def fw  : Option (Bool) :=
  (fS (16 : Int)).bind fun x1 => (fS (0 : Int)).bind fun x2 => (fS (40 : Int)).bind fun x3 => (fS (8 : Int)).bind fun x4 => (b7 (10 : Int) [x1, x2, x3, x4]).bind fun x5 => (fS (4 : Int)).bind fun x6 => (fS (5 : Int)).bind fun x7 => (fS (9 : Int)).bind fun x8 => (fR [x6, x7, x8]).bind fun x9 => if (x5.2 == (0 : Int)) = true then (if ((x5.1.length : Int) == (2 : Int)) = true then ((getO x5.1 (0 : Int)).bind fun x12 => if ((x12.length : Int) == (3 : Int)) = true then ((getO x5.1 (1 : Int)).bind fun x14 => (getO x14 (0 : Int)).bind fun x15 => (fS (40 : Int)).bind fun x16 => if (((x15.al.aB == x16.al.aB) && ((x15.al.aA == x16.al.aA) && ((x15.al.aw == x16.al.aw) && ((x15.al.aC == x16.al.aC) && true)))) && ((x15.aN == x16.aN) && ((x15.aH == x16.aH) && ((x15.aY == x16.aY) && ((x15.aI == x16.aI) && ((x15.aJ == x16.aJ) && true)))))) = true then ((fu (0 : Int)).bind fun x18 => (ey x9 [(az.mk x18 [(aj.mk 4 6), (aj.mk 9 10)])]).bind fun x19 => some x19) else (some false)) else (some false)) else (some false)) else (some false)
noncomputable def yZ (a0 : Int) (a1 : Int) (a2 : Int) : Option (Bool) :=
  if (decide (a0 ≥ a1)) = true then (some (decide (a0 ≤ a2))) else (some false)
noncomputable def wZ  : (Int × Int) → Option (Step1 (Int × Int) (Int)) := fun (s1, s2) =>
  if (s2 != (0 : Int)) = true then ((remO s1 s2).bind fun x6 => some (.next (s2, x6))) else (some (.stop s1))
noncomputable def yY (a0 : Int) (a1 : Int) : Option (Int) :=
  (loopO (wZ) (a0, a1)).bind fun o8 => some o8
noncomputable def tl (a0 : aT) : Option (Bool) :=
  (yZ a0.aX (1 : Int) (4096 : Int)).bind fun x1 => if x1 = true then ((yZ a0.aP (1 : Int) (4096 : Int)).bind fun x3 => if x3 = true then ((yY a0.aX a0.aP).bind fun x5 => some (x5 == (1 : Int))) else (some false)) else (some false)
noncomputable def cN (a0 : Int) (a1 : Int) (a2 : Int) : Option (Bool) :=
  if (decide (a0 ≥ a1)) = true then (some (decide (a0 ≤ a2))) else (some false)
noncomputable def gN (a0 : Int) : Option (Bool) :=
  (cN a0 (-1048576 : Int) (1048576 : Int)).bind fun x1 => some (!x1)
noncomputable def cZ (a0 : (List Int)) : Int → Option (Step1 (Int) ((Unit) ⊕ (Int))) := fun s1 =>
  if (decide (s1 < (a0.length : Int))) = true then ((getO a0 s1).bind fun x4 => (gN x4).bind fun x5 => if x5 = true then (some (.stop (.inr s1))) else (some (.next (IntKind.wrap .i64 (s1 + (1 : Int)))))) else (some (.stop (.inl ())))
noncomputable def dN (a0 : (List Int)) : Option (Int) :=
  (loopO (cZ a0) (0 : Int)).bind fun o8 => match o8 with | .inl _ => (some (-1 : Int)) | .inr r10 => (some r10)
noncomputable def cY (a0 : (List Int)) : Option (Bool) :=
  (dN a0).bind fun x1 => some (decide (x1 ≥ (0 : Int)))
noncomputable def cX (a0 : (List Int)) : Option (Bool) :=
  (cY a0).bind fun x1 => some (!x1)
noncomputable def sd (a0 : (List Int)) : (Int × Int) → Option (Step1 (Int × Int) (Int)) := fun (s1, s2) =>
  if (decide (s2 < (a0.length : Int))) = true then ((getO a0 s2).bind fun x6 => some (.next ((IntKind.wrap .i64 (s1 + x6)), (IntKind.wrap .i64 (s2 + (1 : Int)))))) else (some (.stop s1))
noncomputable def mD (a0 : (List Int)) : Option (Int) :=
  (loopO (sd a0) ((0 : Int), (0 : Int))).bind fun o8 => some o8
noncomputable def dQ (a0 : ar) : Option (Bool) :=
  if ((a0.bu.length : Int) == (0 : Int)) = true then (if (a0.bg == (0 : Int)) = true then (if (a0.b9 == (0 : Int)) = true then (if (a0.bC == (0 : Int)) = true then (if ((a0.aX.a0 == a0.aX.a0) && ((a0.aX.a1 == 0) && ((a0.aX.a2 == 0) && true))) = true then (if ((a0.aP.a0 == a0.aP.a0) && ((a0.aP.a1 == 0) && ((a0.aP.a2 == 0) && true))) = true then ((cN a0.aX.a0 (1 : Int) (1048576 : Int)).bind fun x7 => if x7 = true then ((cN a0.aP.a0 (1 : Int) (1048576 : Int)).bind fun x9 => some x9) else (some false)) else (some false)) else (some false)) else (some false)) else (if (a0.b9 == (1 : Int)) = true then (if (a0.bC == (0 : Int)) = true then ((cX [a0.aX.a0, a0.aX.a1, a0.aX.a2]).bind fun x12 => if x12 = true then ((cX [a0.aP.a0, a0.aP.a1, a0.aP.a2]).bind fun x14 => if x14 = true then (some (a0.aP.a0 != (0 : Int))) else (some false)) else (some false)) else (some false)) else (if (a0.b9 == (2 : Int)) = true then (if ((a0.aX.a0 == 0) && ((a0.aX.a1 == 0) && ((a0.aX.a2 == 0) && true))) = true then (if ((a0.aP.a0 == 0) && ((a0.aP.a1 == 0) && ((a0.aP.a2 == 0) && true))) = true then ((cN (a0.bu.length : Int) (1 : Int) (128 : Int)).bind fun x19 => if x19 = true then ((cX a0.bu).bind fun x21 => if x21 = true then ((mD a0.bu).bind fun x23 => if (x23 != (0 : Int)) = true then ((cN a0.bg (1 : Int) (64 : Int)).bind fun x25 => if x25 = true then ((cN a0.bC (0 : Int) (40 : Int)).bind fun x27 => some x27) else (some false)) else (some false)) else (some false)) else (some false)) else (some false)) else (some false)) else (some false)))) else (if (a0.b9 == (0 : Int)) = true then (some false) else (if (a0.b9 == (1 : Int)) = true then (some false) else (if (a0.b9 == (2 : Int)) = true then (if ((a0.aX.a0 == 0) && ((a0.aX.a1 == 0) && ((a0.aX.a2 == 0) && true))) = true then (if ((a0.aP.a0 == 0) && ((a0.aP.a1 == 0) && ((a0.aP.a2 == 0) && true))) = true then ((cN (a0.bu.length : Int) (1 : Int) (128 : Int)).bind fun x33 => if x33 = true then ((cX a0.bu).bind fun x35 => if x35 = true then ((mD a0.bu).bind fun x37 => if (x37 != (0 : Int)) = true then ((cN a0.bg (1 : Int) (64 : Int)).bind fun x39 => if x39 = true then ((cN a0.bC (0 : Int) (40 : Int)).bind fun x41 => some x41) else (some false)) else (some false)) else (some false)) else (some false)) else (some false)) else (some false)) else (some false))))) else (if (a0.b9 == (0 : Int)) = true then (some false) else (if (a0.b9 == (1 : Int)) = true then (some false) else (if (a0.b9 == (2 : Int)) = true then (if ((a0.aX.a0 == 0) && ((a0.aX.a1 == 0) && ((a0.aX.a2 == 0) && true))) = true then (if ((a0.aP.a0 == 0) && ((a0.aP.a1 == 0) && ((a0.aP.a2 == 0) && true))) = true then ((cN (a0.bu.length : Int) (1 : Int) (128 : Int)).bind fun x47 => if x47 = true then ((cX a0.bu).bind fun x49 => if x49 = true then ((mD a0.bu).bind fun x51 => if (x51 != (0 : Int)) = true then ((cN a0.bg (1 : Int) (64 : Int)).bind fun x53 => if x53 = true then ((cN a0.bC (0 : Int) (40 : Int)).bind fun x55 => some x55) else (some false)) else (some false)) else (some false)) else (some false)) else (some false)) else (some false)) else (some false))))
noncomputable def gM (a0 : ar) : Option (Bool) :=
  (dQ a0).bind fun x1 => some (!x1)
noncomputable def cH (a0 : (List ar)) : Int → Option (Step1 (Int) ((Unit) ⊕ (Int))) := fun s1 =>
  if (decide (s1 < (a0.length : Int))) = true then ((getO a0 s1).bind fun x4 => (gM x4).bind fun x5 => if x5 = true then (some (.stop (.inr s1))) else (some (.next (IntKind.wrap .i64 (s1 + (1 : Int)))))) else (some (.stop (.inl ())))
noncomputable def df (a0 : (List ar)) : Option (Int) :=
  (loopO (cH a0) (0 : Int)).bind fun o8 => match o8 with | .inl _ => (some (-1 : Int)) | .inr r10 => (some r10)
noncomputable def cf (a0 : (List ar)) : Option (Bool) :=
  (df a0).bind fun x1 => some (decide (x1 ≥ (0 : Int)))
noncomputable def iD (a0 : (List ar)) : (Int × Int) → Option (Step1 (Int × Int) ((Int) ⊕ (Int))) := fun (s1, s2) =>
  if (decide (s2 < (a0.length : Int))) = true then ((getO a0 s2).bind fun x6 => if (x6.b9 != (2 : Int)) = true then (some (.next (s1, (IntKind.wrap .i64 (s2 + (1 : Int)))))) else (if (decide ((IntKind.wrap .i64 (s1 * x6.bg)) > (64 : Int))) = true then (some (.stop (.inr (0 : Int)))) else (some (.next ((IntKind.wrap .i64 (s1 * x6.bg)), (IntKind.wrap .i64 (s2 + (1 : Int)))))))) else (some (.stop (.inl s1)))
noncomputable def jf (a0 : (List ar)) : Option (Int) :=
  (loopO (iD a0) ((1 : Int), (0 : Int))).bind fun o10 => match o10 with | .inl y11 => (some y11) | .inr r12 => (some r12)
noncomputable def jQ (a0 : aD) : Option (Bool) :=
  if (decide ((a0.aO.length : Int) > (8 : Int))) = true then (some false) else ((cf a0.aO).bind fun x2 => if x2 = true then (some false) else ((jf a0.aO).bind fun x4 => some (decide (x4 > (0 : Int)))))
noncomputable def gc (a0 : Int) (a1 : Int) (a2 : Int) : Option (Bool) :=
  if (decide (a0 ≥ a1)) = true then (some (decide (a0 ≤ a2))) else (some false)
noncomputable def eK (a0 : ai) : Option (Bool) :=
  if (decide (a0.aM ≥ (0 : Int))) = true then (if (decide (a0.aM < a0.fTo)) = true then (if (decide (a0.fTo ≤ (9007199254740992 : Int))) = true then ((tl a0.bP).bind fun x4 => if x4 = true then ((jQ a0.aW).bind fun x6 => if x6 = true then ((gc a0.aF.fX (-1048576 : Int) (1048576 : Int)).bind fun x8 => if x8 = true then ((gc a0.aF.fY (-1048576 : Int) (1048576 : Int)).bind fun x10 => if x10 = true then ((gc a0.aF.fZ (-16384 : Int) (1048576 : Int)).bind fun x12 => some x12) else (some false)) else (some false)) else (some false)) else (some false)) else (some false)) else (some false)) else (some false)
noncomputable def gn (a0 : (List ai)) : Int → Option (Step1 (Int) ((Unit) ⊕ (Bool))) := fun s1 =>
  if (decide (s1 < (a0.length : Int))) = true then ((getO a0 s1).bind fun x4 => (eK x4).bind fun x5 => if (!x5) = true then (some (.stop (.inr false))) else (if (decide (s1 > (0 : Int))) = true then ((getO a0 (IntKind.wrap .i64 (s1 - (1 : Int)))).bind fun x8 => if (decide (x4.aM < x8.fTo)) = true then (some (.stop (.inr false))) else (some (.next (IntKind.wrap .i64 (s1 + (1 : Int)))))) else (some (.next (IntKind.wrap .i64 (s1 + (1 : Int))))))) else (some (.stop (.inl ())))
noncomputable def ip (a0 : (List ai)) : Option (Bool) :=
  (loopO (gn a0) (0 : Int)).bind fun o11 => match o11 with | .inl _ => ((gc (a0.length : Int) (1 : Int) (32 : Int)).bind fun x14 => some x14) | .inr r13 => (some r13)
noncomputable def gL (a0 : ae) : Int → Option (Step1 (Int) ((Unit) ⊕ (Bool))) := fun s1 =>
  if (decide (s1 < (a0.aq.length : Int))) = true then ((getO a0.aq s1).bind fun x4 => (kB x4.al).bind fun x5 => if (!x5) = true then (some (.stop (.inr false))) else ((ip x4.aQ).bind fun x7 => if (!x7) = true then (some (.stop (.inr false))) else (if (decide (s1 > (0 : Int))) = true then ((getO a0.aq (IntKind.wrap .i64 (s1 - (1 : Int)))).bind fun x10 => (co x10.al x4.al).bind fun x11 => if (decide (x11 ≥ (0 : Int))) = true then (some (.stop (.inr false))) else (some (.next (IntKind.wrap .i64 (s1 + (1 : Int)))))) else (some (.next (IntKind.wrap .i64 (s1 + (1 : Int)))))))) else (some (.stop (.inl ())))
noncomputable def bQ (a0 : ae) : Option (Bool) :=
  (loopO (gL a0) (0 : Int)).bind fun o14 => match o14 with | .inl _ => (some (decide ((a0.aq.length : Int) ≤ (128 : Int)))) | .inr r16 => (some r16)
noncomputable def eJ (x1 : (List ar)) : (Int × (List ar)) → Option (Step1 (Int × (List ar)) ((List ar))) := fun (s2, s3) =>
  if (decide (s2 < (x1.length : Int))) = true then ((inO s3 s2).bind fun _ => (getO s3 s2).bind fun x9 => (cloneO 8 x9.bu).bind fun x10 => (inO s3 s2).bind fun _ => (modO s3 s2 (fun (z14 : ar) => (ar.mk z14.b9 z14.aX z14.aP x10 z14.bg z14.bC))).bind fun x13 => some (.next ((IntKind.wrap .i64 (s2 + (1 : Int))), x13))) else (some (.stop s3))
noncomputable def fq (a0 : ai) : Option (ai) :=
  (cloneO 96 a0.aW.aO).bind fun x1 => (loopO (eJ x1) ((0 : Int), x1)).bind fun o16 => some (ai.mk a0.aM a0.fTo a0.bP a0.aF (aD.mk o16))
noncomputable def gm (x1 : (List ai)) : (Int × (List ai)) → Option (Step1 (Int × (List ai)) ((List ai))) := fun (s2, s3) =>
  if (decide (s2 < (x1.length : Int))) = true then ((inO s3 s2).bind fun _ => (getO s3 s2).bind fun x9 => (fq x9).bind fun x10 => (inO s3 s2).bind fun _ => (setO s3 s2 x10).bind fun x13 => some (.next ((IntKind.wrap .i64 (s2 + (1 : Int))), x13))) else (some (.stop s3))
noncomputable def io (a0 : ac) : Option (ac) :=
  (cloneO 80 a0.aQ).bind fun x1 => (loopO (gm x1) ((0 : Int), x1)).bind fun o15 => some (ac.mk a0.al o15)
noncomputable def jk (a0 : ae) (a1 : ag) : Int → Option (Step1 (Int) ((Unit) ⊕ (ac × Bool))) := fun s1 =>
  if (decide (s1 < (a0.aq.length : Int))) = true then ((getO a0.aq s1).bind fun x4 => if ((x4.al.aB == a1.aB) && ((x4.al.aA == a1.aA) && ((x4.al.aw == a1.aw) && ((x4.al.aC == a1.aC) && true)))) = true then ((io x4).bind fun x6 => some (.stop (.inr (x6, true)))) else (some (.next (IntKind.wrap .i64 (s1 + (1 : Int)))))) else (some (.stop (.inl ())))
noncomputable def gl (a0 : ae) (a1 : ag) : Option (ac × Bool) :=
  (loopO (jk a0 a1) (0 : Int)).bind fun o8 => match o8 with | .inl _ => (some ((ac.mk (ag.mk [] [] [] []) []), false)) | .inr r10 => (some r10)
noncomputable def kF (a0 : ac) (a1 : Int) : Int → Option (Step1 (Int) ((Unit) ⊕ (ai × Bool))) := fun s1 =>
  if (decide (s1 < (a0.aQ.length : Int))) = true then ((getO a0.aQ s1).bind fun x4 => if (decide (x4.aM ≤ a1)) = true then (if (decide (a1 < x4.fTo)) = true then (some (.stop (.inr (x4, true)))) else (some (.next (IntKind.wrap .i64 (s1 + (1 : Int)))))) else (some (.next (IntKind.wrap .i64 (s1 + (1 : Int)))))) else (some (.stop (.inl ())))
noncomputable def mq (a0 : ac) (a1 : Int) : Option (ai × Bool) :=
  (loopO (kF a0 a1) (0 : Int)).bind fun o8 => match o8 with | .inl _ => (some ((ai.mk 0 0 (aT.mk 0 0) (ap.mk 0 0 0) (aD.mk [])), false)) | .inr r10 => (some r10)
noncomputable def jj (a0 : ae) (a1 : ag) (a2 : Int) : Option (ai × Int) :=
  (bQ a0).bind fun x1 => if (!x1) = true then (some ((ai.mk 0 0 (aT.mk 0 0) (ap.mk 0 0 0) (aD.mk [])), (1 : Int))) else ((gl a0 a1).bind fun x3 => (mq x3.1 a2).bind fun x4 => if (!x4.2) = true then (some ((ai.mk 0 0 (aT.mk 0 0) (ap.mk 0 0 0) (aD.mk [])), (6 : Int))) else (some (x4.1, (0 : Int))))
noncomputable def c7 (a0 : ap) : Option (aV) :=
  some (aV.mk a0.fX a0.fY a0.fZ)
noncomputable def dl (a0 : ap) : Option (Bool) :=
  (c7 a0).bind fun x1 => if (decide (x1.a0 < (-1048576 : Int))) = true then (some false) else (if (decide (x1.a0 > (1048576 : Int))) = true then (some false) else (if (decide (x1.a1 < (-1048576 : Int))) = true then (some false) else (if (decide (x1.a1 > (1048576 : Int))) = true then (some false) else (if (decide (x1.a2 < (-16384 : Int))) = true then (some false) else (if (decide (x1.a2 > (1048576 : Int))) = true then (some false) else (some true))))))
noncomputable def cJ (a0 : aL) : Option (Bool) :=
  (dl a0.a8).bind fun x1 => if (!x1) = true then (some false) else ((dl a0.aU).bind fun x3 => if (!x3) = true then (some false) else ((c7 a0.aU).bind fun x5 => (c7 a0.a8).bind fun x6 => if (decide (x6.a0 > x5.a0)) = true then (some false) else (if (decide (x6.a1 > x5.a1)) = true then (some false) else (if (decide (x6.a2 > x5.a2)) = true then (some false) else (some true)))))
noncomputable def jE (a0 : aK) : (Int × Int × Int) → Option (Step1 (Int × Int × Int) ((Unit) ⊕ (Int))) := fun (s6, s7, s8) =>
  if (decide (s8 < (a0.a8.length : Int))) = true then ((getO a0.a8 s8).bind fun x11 => if (decide (x11 < s6)) = true then (some (.stop (.inr (21 : Int)))) else ((getO a0.aU s8).bind fun x13 => if (decide (x13 < s7)) = true then (some (.stop (.inr (21 : Int)))) else ((getO a0.a8 s8).bind fun x15 => (getO a0.aU s8).bind fun x16 => if (decide (x15 > x16)) = true then (some (.stop (.inr (21 : Int)))) else ((getO a0.aU s8).bind fun x18 => if (decide (x18 > (1099511627776 : Int))) = true then (some (.stop (.inr (21 : Int)))) else ((getO a0.a8 s8).bind fun x20 => (getO a0.aU s8).bind fun x21 => some (.next (x20, x21, (IntKind.wrap .i64 (s8 + (1 : Int)))))))))) else (some (.stop (.inl ())))
noncomputable def dz (a0 : aK) : Option (Int) :=
  if (decide (a0.bt < (1 : Int))) = true then (some (21 : Int)) else (if (decide (a0.bt > (1048576 : Int))) = true then (some (21 : Int)) else (if ((a0.a8.length : Int) != (a0.aU.length : Int)) = true then (some (21 : Int)) else (if (decide ((a0.a8.length : Int) < (2 : Int))) = true then (some (21 : Int)) else (if (decide ((a0.a8.length : Int) > (256 : Int))) = true then (some (21 : Int)) else ((loopO (jE a0) ((0 : Int), (0 : Int), (0 : Int))).bind fun o23 => match o23 with | .inl _ => (some (0 : Int)) | .inr r25 => (some r25))))))
noncomputable def gb (a0 : Int) (a1 : Int) (a2 : Int) : Option (Bool) :=
  if (decide (a0 ≥ a1)) = true then (some (decide (a0 ≤ a2))) else (some false)
noncomputable def il (a0 : ak) : Option (Bool) :=
  (dl a0.aA).bind fun x1 => if x1 = true then (if (decide (a0.aH ≥ (0 : Int))) = true then (if (decide (a0.aH ≤ a0.aY)) = true then (if (decide (a0.aY ≤ (18014398509481984 : Int))) = true then (if (decide (a0.jh ≥ (1 : Int))) = true then (some (decide (a0.jh ≤ (100 : Int)))) else (some false)) else (some false)) else (some false)) else (some false)) else (some false)
noncomputable def eH (a0 : Int) (a1 : Int) (a2 : Int) : Option (Int) :=
  some (if (0 : Int) > (if (IntKind.wrap .i64 (a0 - a2)) > (IntKind.wrap .i64 (a1 - a0)) then (IntKind.wrap .i64 (a0 - a2)) else (IntKind.wrap .i64 (a1 - a0))) then (0 : Int) else (if (IntKind.wrap .i64 (a0 - a2)) > (IntKind.wrap .i64 (a1 - a0)) then (IntKind.wrap .i64 (a0 - a2)) else (IntKind.wrap .i64 (a1 - a0))))
noncomputable def e7 (a0 : aL) (a1 : ap) : Option (Int) :=
  (cJ a0).bind fun x1 => if (!x1) = true then (some (0 : Int)) else ((dl a1).bind fun x3 => if (!x3) = true then (some (0 : Int)) else ((c7 a0.a8).bind fun x5 => (c7 a0.aU).bind fun x6 => (c7 a1).bind fun x7 => (eH x7.a0 x5.a0 x6.a0).bind fun x8 => (eH x7.a1 x5.a1 x6.a1).bind fun x9 => (eH x7.a2 x5.a2 x6.a2).bind fun x10 => some (IntKind.wrap .i64 ((IntKind.wrap .i64 ((IntKind.wrap .i64 ((0 : Int) + (IntKind.wrap .i64 (x8 * x8)))) + (IntKind.wrap .i64 (x9 * x9)))) + (IntKind.wrap .i64 (x10 * x10))))))
noncomputable def kP (a0 : aL) (a1 : ap) : Option (Int) :=
  (e7 a0 a1).bind fun x1 => some x1
noncomputable def d9 (a0 : Int) (a1 : Int) (a2 : Int) : Option (Int) :=
  some (if (IntKind.wrap .i64 (a0 - a1)) > (IntKind.wrap .i64 (a2 - a0)) then (IntKind.wrap .i64 (a0 - a1)) else (IntKind.wrap .i64 (a2 - a0)))
noncomputable def eI (a0 : aL) (a1 : ap) : Option (Int) :=
  (cJ a0).bind fun x1 => if (!x1) = true then (some (0 : Int)) else ((dl a1).bind fun x3 => if (!x3) = true then (some (0 : Int)) else ((c7 a0.a8).bind fun x5 => (c7 a0.aU).bind fun x6 => (c7 a1).bind fun x7 => (d9 x7.a0 x5.a0 x6.a0).bind fun x8 => (d9 x7.a1 x5.a1 x6.a1).bind fun x9 => (d9 x7.a2 x5.a2 x6.a2).bind fun x10 => some (IntKind.wrap .i64 ((IntKind.wrap .i64 ((IntKind.wrap .i64 ((0 : Int) + (IntKind.wrap .i64 (x8 * x8)))) + (IntKind.wrap .i64 (x9 * x9)))) + (IntKind.wrap .i64 (x10 * x10))))))
noncomputable def mo (a0 : aL) (a1 : ap) : Option (Int) :=
  (eI a0 a1).bind fun x1 => some x1
noncomputable def kN (a0 : aK) (a1 : aL) (a2 : ap) : Option (aK × Int × Int) :=
  (kP a1 a2).bind fun x1 => (mo a1 a2).bind fun x2 => some (a0, x1, x2)
noncomputable def kM (j3 : Int) (j4 : Int) : Option (Int) :=
  if (decide (j3 ≥ (256 : Int))) = true then ((byteO [0, 1, 2, 2, 3, 3, 3, 3, 4, 4, 4, 4, 4, 4, 4, 4, 5, 5, 5, 5, 5, 5, 5, 5, 5, 5, 5, 5, 5, 5, 5, 5, 6, 6, 6, 6, 6, 6, 6, 6, 6, 6, 6, 6, 6, 6, 6, 6, 6, 6, 6, 6, 6, 6, 6, 6, 6, 6, 6, 6, 6, 6, 6, 6, 7, 7, 7, 7, 7, 7, 7, 7, 7, 7, 7, 7, 7, 7, 7, 7, 7, 7, 7, 7, 7, 7, 7, 7, 7, 7, 7, 7, 7, 7, 7, 7, 7, 7, 7, 7, 7, 7, 7, 7, 7, 7, 7, 7, 7, 7, 7, 7, 7, 7, 7, 7, 7, 7, 7, 7, 7, 7, 7, 7, 7, 7, 7, 7, 8, 8, 8, 8, 8, 8, 8, 8, 8, 8, 8, 8, 8, 8, 8, 8, 8, 8, 8, 8, 8, 8, 8, 8, 8, 8, 8, 8, 8, 8, 8, 8, 8, 8, 8, 8, 8, 8, 8, 8, 8, 8, 8, 8, 8, 8, 8, 8, 8, 8, 8, 8, 8, 8, 8, 8, 8, 8, 8, 8, 8, 8, 8, 8, 8, 8, 8, 8, 8, 8, 8, 8, 8, 8, 8, 8, 8, 8, 8, 8, 8, 8, 8, 8, 8, 8, 8, 8, 8, 8, 8, 8, 8, 8, 8, 8, 8, 8, 8, 8, 8, 8, 8, 8, 8, 8, 8, 8, 8, 8, 8, 8, 8, 8, 8, 8, 8, 8, 8, 8, 8, 8, 8, 8, 8, 8, 8, 8] (IntKind.wrap .u8 (shrI .u64 j3 (8 : Int)))).bind fun x6 => some (IntKind.wrap .i64 ((IntKind.wrap .i64 (j4 + (8 : Int))) + (IntKind.wrap .i64 x6)))) else ((byteO [0, 1, 2, 2, 3, 3, 3, 3, 4, 4, 4, 4, 4, 4, 4, 4, 5, 5, 5, 5, 5, 5, 5, 5, 5, 5, 5, 5, 5, 5, 5, 5, 6, 6, 6, 6, 6, 6, 6, 6, 6, 6, 6, 6, 6, 6, 6, 6, 6, 6, 6, 6, 6, 6, 6, 6, 6, 6, 6, 6, 6, 6, 6, 6, 7, 7, 7, 7, 7, 7, 7, 7, 7, 7, 7, 7, 7, 7, 7, 7, 7, 7, 7, 7, 7, 7, 7, 7, 7, 7, 7, 7, 7, 7, 7, 7, 7, 7, 7, 7, 7, 7, 7, 7, 7, 7, 7, 7, 7, 7, 7, 7, 7, 7, 7, 7, 7, 7, 7, 7, 7, 7, 7, 7, 7, 7, 7, 7, 8, 8, 8, 8, 8, 8, 8, 8, 8, 8, 8, 8, 8, 8, 8, 8, 8, 8, 8, 8, 8, 8, 8, 8, 8, 8, 8, 8, 8, 8, 8, 8, 8, 8, 8, 8, 8, 8, 8, 8, 8, 8, 8, 8, 8, 8, 8, 8, 8, 8, 8, 8, 8, 8, 8, 8, 8, 8, 8, 8, 8, 8, 8, 8, 8, 8, 8, 8, 8, 8, 8, 8, 8, 8, 8, 8, 8, 8, 8, 8, 8, 8, 8, 8, 8, 8, 8, 8, 8, 8, 8, 8, 8, 8, 8, 8, 8, 8, 8, 8, 8, 8, 8, 8, 8, 8, 8, 8, 8, 8, 8, 8, 8, 8, 8, 8, 8, 8, 8, 8, 8, 8, 8, 8, 8, 8, 8, 8] (IntKind.wrap .u8 j3)).bind fun x7 => some (IntKind.wrap .i64 (j4 + (IntKind.wrap .i64 x7))))
noncomputable def jG (j1 : Int) (j2 : Int) : Option (Int) :=
  if (decide (j1 ≥ (65536 : Int))) = true then (kM (shrI .u64 j1 (16 : Int)) (IntKind.wrap .i64 (j2 + (16 : Int)))) else (kM j1 j2)
noncomputable def sP (a0 : Int) : Option (Int) :=
  if (decide (a0 ≥ (4294967296 : Int))) = true then (jG (shrI .u64 a0 (32 : Int)) (32 : Int)) else (jG a0 (0 : Int))
noncomputable def qT (a0 : Int) : Option (Int) :=
  (sP a0).bind fun x1 => some x1
noncomputable def iz (a0 : Int) : (Int × Int) → Option (Step1 (Int × Int) (Int)) := fun (s5, s6) =>
  if (decide (s6 > (0 : Int))) = true then ((quoO .i64 a0 (orI .i64 s5 s6)).bind fun x10 => if (decide ((orI .i64 s5 s6) ≤ x10)) = true then (some (.next ((orI .i64 s5 s6), (shrI .i64 s6 (1 : Int))))) else (some (.next (s5, (shrI .i64 s6 (1 : Int)))))) else (some (.stop s5))
noncomputable def iy (a0 : Int) : Option (Int) :=
  if (decide (a0 ≤ (0 : Int))) = true then (some (0 : Int)) else ((qT (IntKind.wrap .u64 a0)).bind fun x2 => (quoO .i64 (IntKind.wrap .i64 (x2 - (1 : Int))) (2 : Int)).bind fun x3 => (shlO .i64 (1 : Int) x3).bind fun x4 => (loopO (iz a0) ((0 : Int), x4)).bind fun o13 => some o13)
noncomputable def kO (a0 : Int) : Option (Int) :=
  (iy a0).bind fun x1 => if (decide ((IntKind.wrap .i64 (x1 * x1)) < a0)) = true then (some (IntKind.wrap .i64 (x1 + (1 : Int)))) else (some x1)
noncomputable def pL (a0 : aK) : Option (Int) :=
  some (IntKind.wrap .i64 (a0.bt * (IntKind.wrap .i64 ((a0.a8.length : Int) - (1 : Int)))))
noncomputable def gP (a0 : Int) (d0 : aK) (d1 : Int) : Option (Bool) :=
  some (decide ((IntKind.wrap .i64 (a0 * d0.bt)) ≥ d1))
noncomputable def jD (d0 : aK) (d1 : Int) : (Int × Int) → Option (Step1 (Int × Int) (Int)) := fun (s1, s2) =>
  if (decide (s1 < s2)) = true then ((gP (IntKind.wrap .i64 (shrI .u64 (IntKind.wrap .u64 (IntKind.wrap .i64 (s1 + s2))) (1 : Int))) d0 d1).bind fun x6 => if (!x6) = true then (some (.next ((IntKind.wrap .i64 ((IntKind.wrap .i64 (shrI .u64 (IntKind.wrap .u64 (IntKind.wrap .i64 (s1 + s2))) (1 : Int))) + (1 : Int))), s2))) else (some (.next (s1, (IntKind.wrap .i64 (shrI .u64 (IntKind.wrap .u64 (IntKind.wrap .i64 (s1 + s2))) (1 : Int))))))) else (some (.stop s1))
noncomputable def ir (a0 : Int) (d0 : aK) (d1 : Int) : Option (Int) :=
  (loopO (jD d0 d1) ((0 : Int), a0)).bind fun o9 => some o9
noncomputable def jX (a0 : aK) (a1 : Int) (a2 : Int) : Option (Int × Int × Int) :=
  (dz a0).bind fun x1 => if (x1 != (0 : Int)) = true then (some ((0 : Int), (0 : Int), (21 : Int))) else (if (decide (a1 < (0 : Int))) = true then (some ((0 : Int), (0 : Int), (2 : Int))) else (if (decide (a1 > a2)) = true then (some ((0 : Int), (0 : Int), (2 : Int))) else ((kO a2).bind fun x5 => (pL a0).bind fun x6 => if (decide (x5 > x6)) = true then (some ((0 : Int), (0 : Int), (22 : Int))) else ((ir (a0.aU.length : Int) a0 x5).bind fun x8 => (iy a1).bind fun x9 => (quoO .i64 x9 a0.bt).bind fun x10 => (getO a0.a8 x10).bind fun x11 => (getO a0.aU x8).bind fun x12 => some (x11, x12, (0 : Int))))))
noncomputable def lS (a0 : aK) (a1 : aL) (a2 : ap) : Option (Int × Int × Int) :=
  (dz a0).bind fun x1 => if (x1 != (0 : Int)) = true then (some ((0 : Int), (0 : Int), x1)) else ((cJ a1).bind fun x3 => if (!x3) = true then (some ((0 : Int), (0 : Int), (20 : Int))) else ((dl a2).bind fun x5 => if (!x5) = true then (some ((0 : Int), (0 : Int), (20 : Int))) else ((kN a0 a1 a2).bind fun x7 => (jX x7.1 x7.2.1 x7.2.2).bind fun x8 => some (x8.1, x8.2.1, x8.2.2))))
noncomputable def nT (a0 : aK) (a1 : aL) (a2 : ak) : Option (bG × Int) :=
  (dz a0).bind fun x1 => if (x1 != (0 : Int)) = true then (some ((bG.mk 0 0), x1)) else ((cJ a1).bind fun x3 => if (!x3) = true then (some ((bG.mk 0 0), (20 : Int))) else ((il a2).bind fun x5 => if (!x5) = true then (some ((bG.mk 0 0), (23 : Int))) else ((lS a0 a1 a2.aA).bind fun x7 => if (x7.2.2 != (0 : Int)) = true then (some ((bG.mk 0 0), x7.2.2)) else (some ((bG.mk (IntKind.wrap .i64 (a2.aH - x7.2.1)) (IntKind.wrap .i64 (a2.aY - x7.1))), (0 : Int))))))
noncomputable def eV (a1 : (List ak)) (a0 : bd) : Int → Option (Step1 (Int) ((Unit) ⊕ (Int))) := fun s16 =>
  if (decide (s16 < (a1.length : Int))) = true then ((getO a1 s16).bind fun x19 => (nT a0.bv a0.aS x19).bind fun x20 => if (x20.2 != (0 : Int)) = true then (some (.stop (.inr x20.2))) else (some (.next (IntKind.wrap .i64 (s16 + (1 : Int)))))) else (some (.stop (.inl ())))
noncomputable def fO (a0 : bd) (a1 : (List ak)) : Option (Int) :=
  (cJ a0.aS).bind fun x1 => if (!x1) = true then (some (27 : Int)) else ((dz a0.bv).bind fun x3 => if (x3 != (0 : Int)) = true then (some (27 : Int)) else ((gb a0.vw (1 : Int) (1099511627776 : Int)).bind fun x5 => if (!x5) = true then (some (27 : Int)) else ((gb a0.br (0 : Int) (1099511627776 : Int)).bind fun x7 => if (!x7) = true then (some (27 : Int)) else ((gb a0.kj (0 : Int) (1099511627776 : Int)).bind fun x9 => if (!x9) = true then (some (27 : Int)) else ((gb a0.jJ (0 : Int) (1099511627776 : Int)).bind fun x11 => if (!x11) = true then (some (27 : Int)) else ((gb a0.kg (2 : Int) (16 : Int)).bind fun x13 => if (!x13) = true then (some (27 : Int)) else (if (decide ((a1.length : Int) > (256 : Int))) = true then (some (8 : Int)) else ((loopO (eV a1 a0) (0 : Int)).bind fun o23 => match o23 with | .inl _ => (some (0 : Int)) | .inr r25 => (some r25)))))))))
noncomputable def eL (a0 : cu) : Option (Bool) :=
  (dz a0.aZ).bind fun x1 => if (x1 == (0 : Int)) = true then (if (decide (a0.aX ≥ (0 : Int))) = true then (if (decide (a0.aX ≤ (65536 : Int))) = true then (if (decide (a0.aP ≥ (1 : Int))) = true then (some (decide (a0.aP ≤ (65536 : Int)))) else (some false)) else (some false)) else (some false)) else (some false)
noncomputable def fk (a0 : aG) : Option (Int) :=
  (fO a0.au []).bind fun x1 => if (x1 != (0 : Int)) = true then (some (27 : Int)) else ((eL a0.bR).bind fun x3 => if (!x3) = true then (some (27 : Int)) else (if (decide (a0.br < (0 : Int))) = true then (some (27 : Int)) else (if (decide (a0.br > (1099511627776 : Int))) = true then (some (27 : Int)) else (some (0 : Int)))))
noncomputable def nD (a0 : aG) (a1 : ae) (a2 : aa) : Option (ak × ai × Bool) :=
  (eM a2).bind fun x1 => if (!x1) = true then (some ((ak.mk (ap.mk 0 0 0) 0 0 0), (ai.mk 0 0 (aT.mk 0 0) (ap.mk 0 0 0) (aD.mk [])), false)) else ((jj a1 a2.al a2.aN).bind fun x3 => if (x3.2 != (0 : Int)) = true then (some ((ak.mk (ap.mk 0 0 0) 0 0 0), (ai.mk 0 0 (aT.mk 0 0) (ap.mk 0 0 0) (aD.mk [])), false)) else ((nT a0.au.bv a0.au.aS (ak.mk x3.1.aF a2.aH a2.aY 1)).bind fun x5 => if (x5.2 != (0 : Int)) = true then (some ((ak.mk (ap.mk 0 0 0) 0 0 0), (ai.mk 0 0 (aT.mk 0 0) (ap.mk 0 0 0) (aD.mk [])), false)) else (some ((ak.mk x3.1.aF a2.aH a2.aY 1), x3.1, true))))
noncomputable def jg (a0 : aG) (a1 : ae) (a2 : aa) : Option (ak × Bool) :=
  (fk a0).bind fun x1 => if (x1 != (0 : Int)) = true then (some ((ak.mk (ap.mk 0 0 0) 0 0 0), false)) else ((bQ a1).bind fun x3 => if (!x3) = true then (some ((ak.mk (ap.mk 0 0 0) 0 0 0), false)) else ((nD a0 a1 a2).bind fun x5 => some (x5.1, x5.2.2)))
noncomputable def mn (x5 : (List aa)) (a0 : aG) (a1 : ae) : (Int × (List aa) × (List ak)) → Option (Step1 (Int × (List aa) × (List ak)) ((List aa) × (List ak))) := fun (s6, s7, s8) =>
  if (decide (s6 < (x5.length : Int))) = true then ((inO x5 s6).bind fun _ => (getO x5 s6).bind fun x15 => (jg a0 a1 x15).bind fun x16 => if x16.2 = true then ((appO s7 [x15] 104).bind fun x18 => (appO s8 [x16.1] 48).bind fun x19 => some (.next ((IntKind.wrap .i64 (s6 + (1 : Int))), x18, x19))) else (some (.next ((IntKind.wrap .i64 (s6 + (1 : Int))), s7, s8)))) else (some (.stop (s7, s8)))
noncomputable def ss (a0 : aG) (a1 : ae) (a2 : (List aa)) : Option ((List aa) × (List ak) × Int) :=
  (fk a0).bind fun x1 => if (x1 != (0 : Int)) = true then (some (([] : (List aa)), ([] : (List ak)), (27 : Int))) else ((bQ a1).bind fun x3 => if (!x3) = true then (some (([] : (List aa)), ([] : (List ak)), (1 : Int))) else ((jl a2).bind fun x5 => (loopO (mn x5 a0 a1) ((0 : Int), ([] : (List aa)), ([] : (List ak)))).bind fun o21 => if (decide ((o21.1.length : Int) > (256 : Int))) = true then (some (([] : (List aa)), ([] : (List ak)), (8 : Int))) else (some (o21.1, o21.2, (0 : Int)))))
noncomputable def jK (a0 : ap) (a1 : ap) : Option (Int) :=
  (bD a0.fX a1.fX).bind fun x1 => (bD a0.fY a1.fY).bind fun x2 => (bD a0.fZ a1.fZ).bind fun x3 => (fP [x1, x2, x3]).bind fun x4 => some x4
noncomputable def gB (a0 : ak) (a1 : ak) : Option (Int) :=
  (bD a0.aH a1.aH).bind fun x1 => (bD a0.aY a1.aY).bind fun x2 => (jK a0.aA a1.aA).bind fun x3 => (bD a0.jh a1.jh).bind fun x4 => (fP [x1, x2, x3, x4]).bind fun x5 => some x5
noncomputable def cv (a0 : Int) (a1 : Int) (d0 : (List ak)) : Option (Int) :=
  (getO d0 a0).bind fun x1 => (getO d0 a1).bind fun x2 => (gB x1 x2).bind fun x3 => some x3
noncomputable def bL (a0 : Int) (d1 : (List ak)) (s1 : Int) : (Int × (List Int)) → Option (Step1 (Int × (List Int)) (Int × (List Int))) := fun (s5, s6) =>
  if (decide (s5 > a0)) = true then ((inO s6 s5).bind fun _ => (getO s6 s5).bind fun x13 => (inO s6 (IntKind.wrap .i64 (s5 - (1 : Int)))).bind fun _ => (getO s6 (IntKind.wrap .i64 (s5 - (1 : Int)))).bind fun x16 => (cv x13 x16 d1).bind fun x17 => if (decide (x17 < (0 : Int))) = true then ((inO s6 (IntKind.wrap .i64 (s5 - (1 : Int)))).bind fun _ => (getO s6 (IntKind.wrap .i64 (s5 - (1 : Int)))).bind fun x21 => (inO s6 s5).bind fun _ => (getO s6 s5).bind fun x24 => (inO s6 s5).bind fun _ => (setO s6 s5 x21).bind fun x27 => (inO x27 (IntKind.wrap .i64 (s5 - (1 : Int)))).bind fun _ => (setO x27 (IntKind.wrap .i64 (s5 - (1 : Int))) x24).bind fun x30 => some (.next ((IntKind.wrap .i64 (s5 - (1 : Int))), x30))) else (some (.stop (s1, s6)))) else (some (.stop (s1, s6)))
noncomputable def cp (a1 : Int) (a0 : Int) (d1 : (List ak)) : (Int × (List Int)) → Option (Step1 (Int × (List Int)) ((List Int))) := fun (s1, s2) =>
  if (decide (s1 < a1)) = true then ((loopO (bL a0 d1 s1) (s1, s2)).bind fun o32 => some (.next ((IntKind.wrap .i64 (o32.1 + (1 : Int))), o32.2))) else ((some s2).bind fun z33 => some (.stop z33))
noncomputable def bB (a0 : Int) (a1 : Int) (d0 : (List Int)) (d1 : (List ak)) : Option ((List Int)) :=
  (loopO (cp a1 a0 d1) ((IntKind.wrap .i64 (a0 + (1 : Int))), d0)).bind fun o35 => some o35
noncomputable def dW (a2 : Int) (a1 : Int) (a0 : Int) : (Int × (List Int)) → Option (Step1 (Int × (List Int)) ((List Int))) := fun (s1, s2) =>
  if (decide (s1 < a2)) = true then ((inO s2 (IntKind.wrap .i64 (a1 + s1))).bind fun _ => (getO s2 (IntKind.wrap .i64 (a1 + s1))).bind fun x7 => (inO s2 (IntKind.wrap .i64 (a0 + s1))).bind fun _ => (getO s2 (IntKind.wrap .i64 (a0 + s1))).bind fun x10 => (inO s2 (IntKind.wrap .i64 (a0 + s1))).bind fun _ => (setO s2 (IntKind.wrap .i64 (a0 + s1)) x7).bind fun x13 => (inO x13 (IntKind.wrap .i64 (a1 + s1))).bind fun _ => (setO x13 (IntKind.wrap .i64 (a1 + s1)) x10).bind fun x16 => some (.next ((IntKind.wrap .i64 (s1 + (1 : Int))), x16))) else ((some s2).bind fun z17 => some (.stop z17))
noncomputable def bX (a0 : Int) (a1 : Int) (a2 : Int) (d0 : (List Int)) (d1 : (List ak)) : Option ((List Int)) :=
  (loopO (dW a2 a1 a0) ((0 : Int), d0)).bind fun o19 => some o19
noncomputable def eS (a1 : Int) (d1 : (List ak)) : (Int × Int × (List Int)) → Option (Step1 (Int × Int × (List Int)) (Int × (List Int))) := fun (s1, s2, s3) =>
  if (s1 != s2) = true then (if (decide (s1 > s2)) = true then ((bX (IntKind.wrap .i64 (a1 - s1)) a1 s2 s3 d1).bind fun x9 => some (.next ((IntKind.wrap .i64 (s1 - s2)), s2, x9))) else ((bX (IntKind.wrap .i64 (a1 - s1)) (IntKind.wrap .i64 ((IntKind.wrap .i64 (a1 + s2)) - s1)) s1 s3 d1).bind fun x10 => some (.next (s1, (IntKind.wrap .i64 (s2 - s1)), x10)))) else (some (.stop (s1, s3)))
noncomputable def ea (a0 : Int) (a1 : Int) (a2 : Int) (d0 : (List Int)) (d1 : (List ak)) : Option ((List Int)) :=
  (loopO (eS a1 d1) ((IntKind.wrap .i64 (a1 - a0)), (IntKind.wrap .i64 (a2 - a1)), d0)).bind fun o12 => (bX (IntKind.wrap .i64 (a1 - o12.1)) a1 o12.1 o12.2 d1).bind fun x13 => some x13
noncomputable def em (d0 : (List Int)) (a0 : Int) (d1 : (List ak)) : (Int × Int) → Option (Step1 (Int × Int) (Int)) := fun (s2, s3) =>
  if (decide (s2 < s3)) = true then ((inO d0 (IntKind.wrap .i64 (shrI .u64 (IntKind.wrap .u64 (IntKind.wrap .i64 (s2 + s3))) (1 : Int)))).bind fun _ => (getO d0 (IntKind.wrap .i64 (shrI .u64 (IntKind.wrap .u64 (IntKind.wrap .i64 (s2 + s3))) (1 : Int)))).bind fun x9 => (inO d0 a0).bind fun _ => (getO d0 a0).bind fun x12 => (cv x9 x12 d1).bind fun x13 => if (decide (x13 < (0 : Int))) = true then (some (.next ((IntKind.wrap .i64 ((IntKind.wrap .i64 (shrI .u64 (IntKind.wrap .u64 (IntKind.wrap .i64 (s2 + s3))) (1 : Int))) + (1 : Int))), s3))) else (some (.next (s2, (IntKind.wrap .i64 (shrI .u64 (IntKind.wrap .u64 (IntKind.wrap .i64 (s2 + s3))) (1 : Int))))))) else (some (.stop s2))
noncomputable def ep (o16 : Int) (d1 : (List ak)) : (Int × (List Int)) → Option (Step1 (Int × (List Int)) ((List Int) × (List ak))) := fun (s17, s18) =>
  if (decide (s17 < (IntKind.wrap .i64 (o16 - (1 : Int))))) = true then ((inO s18 (IntKind.wrap .i64 (s17 + (1 : Int)))).bind fun _ => (getO s18 (IntKind.wrap .i64 (s17 + (1 : Int)))).bind fun x23 => (inO s18 s17).bind fun _ => (getO s18 s17).bind fun x26 => (inO s18 s17).bind fun _ => (setO s18 s17 x23).bind fun x29 => (inO x29 (IntKind.wrap .i64 (s17 + (1 : Int)))).bind fun _ => (setO x29 (IntKind.wrap .i64 (s17 + (1 : Int))) x26).bind fun x32 => some (.next ((IntKind.wrap .i64 (s17 + (1 : Int))), x32))) else ((some (s18, d1)).bind fun z33 => some (.stop z33))
noncomputable def et (d0 : (List Int)) (a1 : Int) (d1 : (List ak)) : (Int × Int) → Option (Step1 (Int × Int) (Int)) := fun (s37, s38) =>
  if (decide (s37 < s38)) = true then ((inO d0 a1).bind fun _ => (getO d0 a1).bind fun x44 => (inO d0 (IntKind.wrap .i64 (shrI .u64 (IntKind.wrap .u64 (IntKind.wrap .i64 (s37 + s38))) (1 : Int)))).bind fun _ => (getO d0 (IntKind.wrap .i64 (shrI .u64 (IntKind.wrap .u64 (IntKind.wrap .i64 (s37 + s38))) (1 : Int)))).bind fun x47 => (cv x44 x47 d1).bind fun x48 => if (!(decide (x48 < (0 : Int)))) = true then (some (.next ((IntKind.wrap .i64 ((IntKind.wrap .i64 (shrI .u64 (IntKind.wrap .u64 (IntKind.wrap .i64 (s37 + s38))) (1 : Int))) + (1 : Int))), s38))) else (some (.next (s37, (IntKind.wrap .i64 (shrI .u64 (IntKind.wrap .u64 (IntKind.wrap .i64 (s37 + s38))) (1 : Int))))))) else (some (.stop s37))
noncomputable def eu (o51 : Int) (d1 : (List ak)) : (Int × (List Int)) → Option (Step1 (Int × (List Int)) ((List Int) × (List ak))) := fun (s52, s53) =>
  if (decide (s52 > o51)) = true then ((inO s53 (IntKind.wrap .i64 (s52 - (1 : Int)))).bind fun _ => (getO s53 (IntKind.wrap .i64 (s52 - (1 : Int)))).bind fun x58 => (inO s53 s52).bind fun _ => (getO s53 s52).bind fun x61 => (inO s53 s52).bind fun _ => (setO s53 s52 x58).bind fun x64 => (inO x64 (IntKind.wrap .i64 (s52 - (1 : Int)))).bind fun _ => (setO x64 (IntKind.wrap .i64 (s52 - (1 : Int))) x61).bind fun x67 => some (.next ((IntKind.wrap .i64 (s52 - (1 : Int))), x67))) else ((some (s53, d1)).bind fun z68 => some (.stop z68))
noncomputable def ev (d0 : (List Int)) (a0 : Int) (a2 : Int) (a1 : Int) (d1 : (List ak)) : (Int × Int) → Option (Step1 (Int × Int) (Int)) := fun (s73, s74) =>
  if (decide (s73 < s74)) = true then ((inO d0 (IntKind.wrap .i64 ((IntKind.wrap .i64 ((IntKind.wrap .i64 ((IntKind.wrap .i64 (shrI .u64 (IntKind.wrap .u64 (IntKind.wrap .i64 (a0 + a2))) (1 : Int))) + a1)) - (1 : Int))) - (IntKind.wrap .i64 (shrI .u64 (IntKind.wrap .u64 (IntKind.wrap .i64 (s73 + s74))) (1 : Int)))))).bind fun _ => (getO d0 (IntKind.wrap .i64 ((IntKind.wrap .i64 ((IntKind.wrap .i64 ((IntKind.wrap .i64 (shrI .u64 (IntKind.wrap .u64 (IntKind.wrap .i64 (a0 + a2))) (1 : Int))) + a1)) - (1 : Int))) - (IntKind.wrap .i64 (shrI .u64 (IntKind.wrap .u64 (IntKind.wrap .i64 (s73 + s74))) (1 : Int)))))).bind fun x80 => (inO d0 (IntKind.wrap .i64 (shrI .u64 (IntKind.wrap .u64 (IntKind.wrap .i64 (s73 + s74))) (1 : Int)))).bind fun _ => (getO d0 (IntKind.wrap .i64 (shrI .u64 (IntKind.wrap .u64 (IntKind.wrap .i64 (s73 + s74))) (1 : Int)))).bind fun x83 => (cv x80 x83 d1).bind fun x84 => if (!(decide (x84 < (0 : Int)))) = true then (some (.next ((IntKind.wrap .i64 ((IntKind.wrap .i64 (shrI .u64 (IntKind.wrap .u64 (IntKind.wrap .i64 (s73 + s74))) (1 : Int))) + (1 : Int))), s74))) else (some (.next (s73, (IntKind.wrap .i64 (shrI .u64 (IntKind.wrap .u64 (IntKind.wrap .i64 (s73 + s74))) (1 : Int))))))) else (some (.stop s73))
noncomputable def bj (a0 : Int) (a2 : Int) (a1 : Int) (o87 : Int) (rc : Int → Int → Int → (List Int) → (List ak) → Option ((List Int) × (List ak))) (j89 : (List Int)) (j90 : (List ak)) : Option ((List Int) × (List ak)) :=
  if (decide ((IntKind.wrap .i64 (shrI .u64 (IntKind.wrap .u64 (IntKind.wrap .i64 (a0 + a2))) (1 : Int))) < (IntKind.wrap .i64 ((IntKind.wrap .i64 ((IntKind.wrap .i64 (shrI .u64 (IntKind.wrap .u64 (IntKind.wrap .i64 (a0 + a2))) (1 : Int))) + a1)) - o87)))) = true then (if (decide ((IntKind.wrap .i64 ((IntKind.wrap .i64 ((IntKind.wrap .i64 (shrI .u64 (IntKind.wrap .u64 (IntKind.wrap .i64 (a0 + a2))) (1 : Int))) + a1)) - o87)) < a2)) = true then ((rc (IntKind.wrap .i64 (shrI .u64 (IntKind.wrap .u64 (IntKind.wrap .i64 (a0 + a2))) (1 : Int))) (IntKind.wrap .i64 ((IntKind.wrap .i64 ((IntKind.wrap .i64 (shrI .u64 (IntKind.wrap .u64 (IntKind.wrap .i64 (a0 + a2))) (1 : Int))) + a1)) - o87)) a2 j89 j90).bind fun x93 => some (x93.1, x93.2)) else (some (j89, j90))) else (some (j89, j90))
noncomputable def bn (a0 : Int) (o87 : Int) (a2 : Int) (rc : Int → Int → Int → (List Int) → (List ak) → Option ((List Int) × (List ak))) (d1 : (List ak)) (a1 : Int) (j88 : (List Int)) : Option ((List Int) × (List ak)) :=
  if (decide (a0 < o87)) = true then (if (decide (o87 < (IntKind.wrap .i64 (shrI .u64 (IntKind.wrap .u64 (IntKind.wrap .i64 (a0 + a2))) (1 : Int))))) = true then ((rc a0 o87 (IntKind.wrap .i64 (shrI .u64 (IntKind.wrap .u64 (IntKind.wrap .i64 (a0 + a2))) (1 : Int))) j88 d1).bind fun x97 => bj a0 a2 a1 o87 rc x97.1 x97.2) else (bj a0 a2 a1 o87 rc j88 d1)) else (bj a0 a2 a1 o87 rc j88 d1)
noncomputable def bq (d0 : (List Int)) (a0 : Int) (a2 : Int) (a1 : Int) (d1 : (List ak)) (rc : Int → Int → Int → (List Int) → (List ak) → Option ((List Int) × (List ak))) (j71 : Int) (j72 : Int) : Option ((List Int) × (List ak)) :=
  (loopO (ev d0 a0 a2 a1 d1) (j71, j72)).bind fun o87 => if (decide (o87 < a1)) = true then (if (decide (a1 < (IntKind.wrap .i64 ((IntKind.wrap .i64 ((IntKind.wrap .i64 (shrI .u64 (IntKind.wrap .u64 (IntKind.wrap .i64 (a0 + a2))) (1 : Int))) + a1)) - o87)))) = true then ((ea o87 a1 (IntKind.wrap .i64 ((IntKind.wrap .i64 ((IntKind.wrap .i64 (shrI .u64 (IntKind.wrap .u64 (IntKind.wrap .i64 (a0 + a2))) (1 : Int))) + a1)) - o87)) d0 d1).bind fun x101 => bn a0 o87 a2 rc d1 a1 x101) else (bn a0 o87 a2 rc d1 a1 d0)) else (bn a0 o87 a2 rc d1 a1 d0)
noncomputable def ba : Nat → Int → Int → Int → (List Int) → (List ak) → Option ((List Int) × (List ak))
  | 0, _, _, _, _, _ => none
  | nfu + 1, a0, a1, a2, d0, d1 =>
  if ((IntKind.wrap .i64 (a1 - a0)) == (1 : Int)) = true then ((loopO (em d0 a0 d1) (a1, a2)).bind fun o16 => (loopO (ep o16 d1) (a0, d0)).bind fun o35 => some o35) else (if ((IntKind.wrap .i64 (a2 - a1)) == (1 : Int)) = true then ((loopO (et d0 a1 d1) (a0, a1)).bind fun o51 => (loopO (eu o51 d1) (a1, d0)).bind fun o70 => some o70) else (if (decide (a1 > (IntKind.wrap .i64 (shrI .u64 (IntKind.wrap .u64 (IntKind.wrap .i64 (a0 + a2))) (1 : Int))))) = true then (bq d0 a0 a2 a1 d1 (ba nfu) (IntKind.wrap .i64 ((IntKind.wrap .i64 ((IntKind.wrap .i64 (shrI .u64 (IntKind.wrap .u64 (IntKind.wrap .i64 (a0 + a2))) (1 : Int))) + a1)) - a2)) (IntKind.wrap .i64 (shrI .u64 (IntKind.wrap .u64 (IntKind.wrap .i64 (a0 + a2))) (1 : Int)))) else (bq d0 a0 a2 a1 d1 (ba nfu) a0 a1)))
noncomputable def di (a0 : Int) (a1 : Int) (a2 : Int) (d0 : (List Int)) (d1 : (List ak)) : Option ((List Int) × (List ak)) := recO fun n => ba n a0 a1 a2 d0 d1
noncomputable def cy (a0 : Int) (d1 : (List ak)) : (Int × Int × (List Int)) → Option (Step1 (Int × Int × (List Int)) (Int × (List Int))) := fun (s1, s2, s3) =>
  if (decide (s2 ≤ a0)) = true then ((bB s1 s2 s3 d1).bind fun x8 => some (.next (s2, (IntKind.wrap .i64 (s2 + (20 : Int))), x8))) else (some (.stop (s1, s3)))
noncomputable def eT (a0 : Int) (s12 : Int) : (Int × Int × (List Int) × (List ak)) → Option (Step1 (Int × Int × (List Int) × (List ak)) (Int × Int × (List Int) × (List ak))) := fun (s17, s18, s19, s20) =>
  if (decide (s18 ≤ a0)) = true then ((di s17 (IntKind.wrap .i64 (s17 + s12)) s18 s19 s20).bind fun x27 => some (.next (s18, (IntKind.wrap .i64 (s18 + (IntKind.wrap .i64 ((2 : Int) * s12)))), x27.1, x27.2))) else (some (.stop (s12, s17, s19, s20)))
noncomputable def cq (a0 : Int) : (Int × (List Int) × (List ak)) → Option (Step1 (Int × (List Int) × (List ak)) ((List Int) × (List ak))) := fun (s12, s13, s14) =>
  if (decide (s12 < a0)) = true then ((loopO (eT a0 s12) ((0 : Int), (IntKind.wrap .i64 ((2 : Int) * s12)), s13, s14)).bind fun o29 => if (decide ((IntKind.wrap .i64 (o29.2.1 + o29.1)) < a0)) = true then ((di o29.2.1 (IntKind.wrap .i64 (o29.2.1 + o29.1)) a0 o29.2.2.1 o29.2.2.2).bind fun x31 => some (.next ((IntKind.wrap .i64 (o29.1 * (2 : Int))), x31.1, x31.2))) else (some (.next ((IntKind.wrap .i64 (o29.1 * (2 : Int))), o29.2.2.1, o29.2.2.2)))) else ((some (s13, s14)).bind fun z32 => some (.stop z32))
noncomputable def cQ (a0 : Int) (d0 : (List Int)) (d1 : (List ak)) : Option ((List Int) × (List ak)) :=
  (loopO (cy a0 d1) ((0 : Int), (20 : Int), d0)).bind fun o10 => (bB o10.1 a0 o10.2 d1).bind fun x11 => (loopO (cq a0) ((20 : Int), x11, d1)).bind fun o34 => some o34
noncomputable def cg (d0 : (List Int)) (d1 : (List ak)) : Option ((List Int) × (List ak)) :=
  (cQ (d0.length : Int) d0 d1).bind fun x1 => some (x1.1, x1.2)
noncomputable def jz (x1 : (List Int)) : (Int × (List Int)) → Option (Step1 (Int × (List Int)) ((List Int))) := fun (s2, s3) =>
  if (decide (s2 < (x1.length : Int))) = true then ((inO s3 s2).bind fun _ => (setO s3 s2 s2).bind fun x9 => some (.next ((IntKind.wrap .i64 (s2 + (1 : Int))), x9))) else (some (.stop s3))
noncomputable def jc (a0 : (List ak)) : Option ((List Int)) :=
  (mkO (a0.length : Int) (0 : Int) 8).bind fun x1 => (loopO (jz x1) ((0 : Int), x1)).bind fun o11 => (cg o11 a0).bind fun x12 => some x12.1
noncomputable def ix (x3 : (List Int)) (x1 : (List aa) × (List ak) × Int) (a0 : aG) : (Int × Int × (List (List aa))) → Option (Step1 (Int × Int × (List (List aa))) ((List (List aa)))) := fun (s4, s5, s6) =>
  if (decide (s5 < (x3.length : Int))) = true then ((getO x3 s5).bind fun x10 => if (s5 == (0 : Int)) = true then ((appO s6 [[]] 24).bind fun x12 => (getO x1.2.1 x10).bind fun x13 => (lastO x12).bind fun x14 => (inO x12 (IntKind.wrap .i64 ((x12.length : Int) - (1 : Int)))).bind fun _ => (atO (IntKind.wrap .i64 ((x12.length : Int) - (1 : Int))) (x12.length - 1)).bind fun _ => (getO x1.1 x10).bind fun x17 => (appO x14 [x17] 104).bind fun x18 => (inO x12 (IntKind.wrap .i64 ((x12.length : Int) - (1 : Int)))).bind fun _ => (stO x12.length (IntKind.wrap .i64 ((x12.length : Int) - (1 : Int))) (x12.length - 1)).bind fun _ => some (.next (x13.aH, (IntKind.wrap .i64 (s5 + (1 : Int))), (x12.set (x12.length - 1) x18)))) else ((getO x1.2.1 x10).bind fun x21 => if (decide ((IntKind.wrap .i64 (x21.aH - s4)) > a0.au.jJ)) = true then ((appO s6 [[]] 24).bind fun x23 => (getO x1.2.1 x10).bind fun x24 => (lastO x23).bind fun x25 => (inO x23 (IntKind.wrap .i64 ((x23.length : Int) - (1 : Int)))).bind fun _ => (atO (IntKind.wrap .i64 ((x23.length : Int) - (1 : Int))) (x23.length - 1)).bind fun _ => (getO x1.1 x10).bind fun x28 => (appO x25 [x28] 104).bind fun x29 => (inO x23 (IntKind.wrap .i64 ((x23.length : Int) - (1 : Int)))).bind fun _ => (stO x23.length (IntKind.wrap .i64 ((x23.length : Int) - (1 : Int))) (x23.length - 1)).bind fun _ => some (.next (x24.aH, (IntKind.wrap .i64 (s5 + (1 : Int))), (x23.set (x23.length - 1) x29)))) else ((getO x1.2.1 x10).bind fun x32 => (lastO s6).bind fun x33 => (inO s6 (IntKind.wrap .i64 ((s6.length : Int) - (1 : Int)))).bind fun _ => (atO (IntKind.wrap .i64 ((s6.length : Int) - (1 : Int))) (s6.length - 1)).bind fun _ => (getO x1.1 x10).bind fun x36 => (appO x33 [x36] 104).bind fun x37 => (inO s6 (IntKind.wrap .i64 ((s6.length : Int) - (1 : Int)))).bind fun _ => (stO s6.length (IntKind.wrap .i64 ((s6.length : Int) - (1 : Int))) (s6.length - 1)).bind fun _ => some (.next (x32.aH, (IntKind.wrap .i64 (s5 + (1 : Int))), (s6.set (s6.length - 1) x37)))))) else (some (.stop s6))
noncomputable def sX (o41 : (List (List aa))) : (Int × (List (List aa))) → Option (Step1 (Int × (List (List aa))) ((List (List aa)))) := fun (s42, s43) =>
  if (decide (s42 < (o41.length : Int))) = true then ((getO s43 s42).bind fun x47 => (inO s43 s42).bind fun _ => (atO s42 (Int.toNat s42)).bind fun _ => (sortO bz x47).bind fun x50 => some (.next ((IntKind.wrap .i64 (s42 + (1 : Int))), (s43.set (Int.toNat s42) x50)))) else (some (.stop s43))
noncomputable def oO (a0 : aG) (a1 : ae) (a2 : (List aa)) : Option ((List (List aa)) × Int) :=
  (ss a0 a1 a2).bind fun x1 => if (x1.2.2 != (0 : Int)) = true then (some (([] : (List (List aa))), x1.2.2)) else ((jc x1.2.1).bind fun x3 => (loopO (ix x3 x1 a0) ((0 : Int), (0 : Int), ([] : (List (List aa))))).bind fun o41 => (loopO (sX o41) ((0 : Int), o41)).bind fun o52 => some (o52, (0 : Int)))
noncomputable def dm (x20 : (List aa)) (x32 : aa) (s21 : Bool) (s23 : Int) (s24 : Int) (s25 : Int) : (Int × Int) → Option (Step1 (Int × Int) (Bool × Int × Int × Int × Int)) := fun (s33, s34) =>
  if (decide (s34 < (x20.length : Int))) = true then ((getO x20 s34).bind fun x42 => if (((x32.al.aB == x42.al.aB) && ((x32.al.aA == x42.al.aA) && ((x32.al.aw == x42.al.aw) && ((x32.al.aC == x42.al.aC) && true)))) && ((x32.aN == x42.aN) && ((x32.aH == x42.aH) && ((x32.aY == x42.aY) && ((x32.aI == x42.aI) && ((x32.aJ == x42.aJ) && true)))))) = true then (some (.next ((IntKind.wrap .i64 (s33 + (1 : Int))), (IntKind.wrap .i64 (s34 + (1 : Int)))))) else (some (.next (s33, (IntKind.wrap .i64 (s34 + (1 : Int))))))) else (some (.stop (s21, s33, s23, s24, s25)))
noncomputable def dn (x12 : (List aa)) (x20 : (List aa)) : (Bool × Int × Int × Int × Int) → Option (Step1 (Bool × Int × Int × Int × Int) (Bool × Int × Int × Int)) := fun (s21, s22, s23, s24, s25) =>
  if (decide (s25 < (x12.length : Int))) = true then ((getO x12 s25).bind fun x32 => (loopO (dm x20 x32 s21 s23 s24 s25) (s22, (0 : Int))).bind fun o45 => some (.next (o45.1, o45.2.1, o45.2.2.1, o45.2.2.2.1, (IntKind.wrap .i64 (o45.2.2.2.2 + (1 : Int)))))) else (some (.stop (s21, s22, s23, s24)))
noncomputable def dp (x5 : (List (List aa)) × Int) (x12 : (List aa)) : (Bool × Int × Int) → Option (Step1 (Bool × Int × Int) (Bool × Int)) := fun (s13, s14, s15) =>
  if (decide (s15 < (x5.1.length : Int))) = true then ((getO x5.1 s15).bind fun x20 => (loopO (dn x12 x20) (s13, (0 : Int), s14, s15, (0 : Int))).bind fun o47 => if o47.1 = true then (some (.next (true, o47.2.2.1, (IntKind.wrap .i64 (o47.2.2.2 + (1 : Int)))))) else (some (.next ((o47.2.1 == (x12.length : Int)), o47.2.2.1, (IntKind.wrap .i64 (o47.2.2.2 + (1 : Int))))))) else (some (.stop (s13, s14)))
noncomputable def cG (x6 : (List (List aa)) × Int) (x5 : (List (List aa)) × Int) : Int → Option (Step1 (Int) ((Unit) ⊕ (Bool))) := fun s9 =>
  if (decide (s9 < (x6.1.length : Int))) = true then ((getO x6.1 s9).bind fun x12 => (loopO (dp x5 x12) (false, s9, (0 : Int))).bind fun o50 => if (!o50.1) = true then (some (.stop (.inr false))) else (if ((x12.length : Int) == (0 : Int)) = true then (some (.stop (.inr false))) else (some (.next (IntKind.wrap .i64 (o50.2 + (1 : Int))))))) else (some (.stop (.inl ())))
noncomputable def kr (a0 : (List Int)) : Option (Bool) :=
  (nu a0).bind fun x1 => (ew (3 : Int) x1).bind fun x2 => (jb (6 : Int) x2.2).bind fun x3 => (iZ x2.1 x3.1 (12 : Int) x3.2).bind fun x4 => (b7 x2.1.au.jJ x4.1).bind fun x5 => (oO x2.1 x3.1 x4.1).bind fun x6 => if (x5.2 != (0 : Int)) = true then (some false) else (if (x6.2 != (0 : Int)) = true then (some false) else ((loopO (cG x6 x5) (0 : Int)).bind fun o54 => match o54 with | .inl _ => ((fw ).bind fun x57 => some x57) | .inr r56 => (some r56)))
end Go.Dw.De
