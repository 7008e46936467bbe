
import Derived.Test.YtpeijlelfekcoaaGreatDoorDwLift4
import Derived.Test.YtpeijlelfekcoaaGreatDoorDwAtoi
import Derived.Test.YtpeijlelfekcoaaGreatDoorDwItoa
import Derived.Test.YtpeijlelfekcoaaGreatDoorDwJoin
import Derived.Test.YtpeijlelfekcoaaGreatDoorDwSplit





namespace Go.Dw.Ft
open Go.Dw

structure am where
  aC : (List UInt8)
  aE : (List UInt8)
  ac : (List UInt8)
  aD : (List UInt8)
  deriving DecidableEq
def am.pd (x : am) : PD := .agg [.str x.aC, .str x.aE, .str x.ac, .str x.aD]
structure ag where
  ah : am
  aF : Int
  aJ : Int
  aN : Int
  au : Int
  av : Int
  deriving DecidableEq
def ag.pd (x : ag) : PD := .agg [.str x.ah.aC, .str x.ah.aE, .str x.ah.ac, .str x.ah.aD, .int .i64 x.aF, .int .i64 x.aJ, .int .i64 x.aN, .int .i64 x.au, .int .i64 x.av]
structure aj where
  fX : Int
  fY : Int
  fZ : Int
  deriving DecidableEq
def aj.pd (x : aj) : PD := .agg [.int .i64 x.fX, .int .i64 x.fY, .int .i64 x.fZ]
structure aP where
  aI : aj
  az : aj
  deriving DecidableEq
def aP.pd (x : aP) : PD := .agg [.int .i64 x.aI.fX, .int .i64 x.aI.fY, .int .i64 x.aI.fZ, .int .i64 x.az.fX, .int .i64 x.az.fY, .int .i64 x.az.fZ]
structure aB where
  aA : aj
  aF : Int
  aO : Int
  aV : Int
  ap : aP
  deriving DecidableEq
def aB.pd (x : aB) : PD := .agg [.int .i64 x.aA.fX, .int .i64 x.aA.fY, .int .i64 x.aA.fZ, .int .i64 x.aF, .int .i64 x.aO, .int .i64 x.aV, .int .i64 x.ap.aI.fX, .int .i64 x.ap.aI.fY, .int .i64 x.ap.aI.fZ, .int .i64 x.ap.az.fX, .int .i64 x.ap.az.fY, .int .i64 x.ap.az.fZ]
structure aG where
  aI : Int
  az : Int
  deriving DecidableEq
def aG.pd (x : aG) : PD := .agg [.int .i64 x.aI, .int .i64 x.az]
structure aw where
  aK : (List ag)
  ac : aB
  aq : aG
  aU : Int
  deriving DecidableEq
def aw.pd (x : aw) : PD := .agg [.lst (x.aK.map ag.pd), .int .i64 x.ac.aA.fX, .int .i64 x.ac.aA.fY, .int .i64 x.ac.aA.fZ, .int .i64 x.ac.aF, .int .i64 x.ac.aO, .int .i64 x.ac.aV, .int .i64 x.ac.ap.aI.fX, .int .i64 x.ac.ap.aI.fY, .int .i64 x.ac.ap.aI.fZ, .int .i64 x.ac.ap.az.fX, .int .i64 x.ac.ap.az.fY, .int .i64 x.ac.ap.az.fZ, .int .i64 x.aq.aI, .int .i64 x.aq.az, .int .i64 x.aU]
structure ar where
  ak : ag
  aa : aw
  deriving DecidableEq
def ar.pd (x : ar) : PD := .agg [.str x.ak.ah.aC, .str x.ak.ah.aE, .str x.ak.ah.ac, .str x.ak.ah.aD, .int .i64 x.ak.aF, .int .i64 x.ak.aJ, .int .i64 x.ak.aN, .int .i64 x.ak.au, .int .i64 x.ak.av, .lst (x.aa.aK.map ag.pd), .int .i64 x.aa.ac.aA.fX, .int .i64 x.aa.ac.aA.fY, .int .i64 x.aa.ac.aA.fZ, .int .i64 x.aa.ac.aF, .int .i64 x.aa.ac.aO, .int .i64 x.aa.ac.aV, .int .i64 x.aa.ac.ap.aI.fX, .int .i64 x.aa.ac.ap.aI.fY, .int .i64 x.aa.ac.ap.aI.fZ, .int .i64 x.aa.ac.ap.az.fX, .int .i64 x.aa.ac.ap.az.fY, .int .i64 x.aa.ac.ap.az.fZ, .int .i64 x.aa.aq.aI, .int .i64 x.aa.aq.az, .int .i64 x.aa.aU]
structure ai where
  aQ : Int
  bh : Int
  fID : Int
  fAt : Int
  aW : Int
  ae : ar
  deriving DecidableEq
def ai.pd (x : ai) : PD := .agg [.int .i64 x.aQ, .int .i64 x.bh, .int .i64 x.fID, .int .i64 x.fAt, .int .i64 x.aW, .str x.ae.ak.ah.aC, .str x.ae.ak.ah.aE, .str x.ae.ak.ah.ac, .str x.ae.ak.ah.aD, .int .i64 x.ae.ak.aF, .int .i64 x.ae.ak.aJ, .int .i64 x.ae.ak.aN, .int .i64 x.ae.ak.au, .int .i64 x.ae.ak.av, .lst (x.ae.aa.aK.map ag.pd), .int .i64 x.ae.aa.ac.aA.fX, .int .i64 x.ae.aa.ac.aA.fY, .int .i64 x.ae.aa.ac.aA.fZ, .int .i64 x.ae.aa.ac.aF, .int .i64 x.ae.aa.ac.aO, .int .i64 x.ae.aa.ac.aV, .int .i64 x.ae.aa.ac.ap.aI.fX, .int .i64 x.ae.aa.ac.ap.aI.fY, .int .i64 x.ae.aa.ac.ap.aI.fZ, .int .i64 x.ae.aa.ac.ap.az.fX, .int .i64 x.ae.aa.ac.ap.az.fY, .int .i64 x.ae.aa.ac.ap.az.fZ, .int .i64 x.ae.aa.aq.aI, .int .i64 x.ae.aa.aq.az, .int .i64 x.ae.aa.aU]
structure ci where
  a0 : (List UInt8)
  a1 : (List UInt8)
  a2 : (List UInt8)
  a3 : (List UInt8)
  deriving DecidableEq
def ci.pd (x : ci) : PD := .agg [.str x.a0, .str x.a1, .str x.a2, .str x.a3]
structure aT where
  bg : (List (List UInt8))
  cX : Bool
  deriving DecidableEq
def aT.pd (x : aT) : PD := .agg [.lst (x.bg.map PD.str), .bool x.cX]
structure bn where
  dV : Int
  fAt : Int
  fData : (List UInt8)
  deriving DecidableEq
def bn.pd (x : bn) : PD := .agg [.int .i64 x.dV, .int .i64 x.fAt, .str x.fData]
structure aH where
  fL : (List Int)
  fAt : Int
  deriving DecidableEq
def aH.pd (x : aH) : PD := .agg [.lst (x.fL.map (PD.int .i64)), .int .i64 x.fAt]
structure bj where
  aq : Int
  aK : Int
  aO : Int
  iC : Int
  deriving DecidableEq
def bj.pd (x : bj) : PD := .agg [.int .i64 x.aq, .int .i64 x.aK, .int .i64 x.aO, .int .i64 x.iC]
structure aX where
  bN : (List bj)
  bO : Int
  dP : Int
  deriving DecidableEq
def aX.pd (x : aX) : PD := .agg [.lst (x.bN.map bj.pd), .int .i64 x.bO, .int .i64 x.dP]
structure aL where
  fID : Int
  br : Bool
  ak : ag
  aW : Int
  ae : ar
  fAt : Int
  deriving DecidableEq
def aL.pd (x : aL) : PD := .agg [.int .i64 x.fID, .bool x.br, .str x.ak.ah.aC, .str x.ak.ah.aE, .str x.ak.ah.ac, .str x.ak.ah.aD, .int .i64 x.ak.aF, .int .i64 x.ak.aJ, .int .i64 x.ak.aN, .int .i64 x.ak.au, .int .i64 x.ak.av, .int .i64 x.aW, .str x.ae.ak.ah.aC, .str x.ae.ak.ah.aE, .str x.ae.ak.ah.ac, .str x.ae.ak.ah.aD, .int .i64 x.ae.ak.aF, .int .i64 x.ae.ak.aJ, .int .i64 x.ae.ak.aN, .int .i64 x.ae.ak.au, .int .i64 x.ae.ak.av, .lst (x.ae.aa.aK.map ag.pd), .int .i64 x.ae.aa.ac.aA.fX, .int .i64 x.ae.aa.ac.aA.fY, .int .i64 x.ae.aa.ac.aA.fZ, .int .i64 x.ae.aa.ac.aF, .int .i64 x.ae.aa.ac.aO, .int .i64 x.ae.aa.ac.aV, .int .i64 x.ae.aa.ac.ap.aI.fX, .int .i64 x.ae.aa.ac.ap.aI.fY, .int .i64 x.ae.aa.ac.ap.aI.fZ, .int .i64 x.ae.aa.ac.ap.az.fX, .int .i64 x.ae.aa.ac.ap.az.fY, .int .i64 x.ae.aa.ac.ap.az.fZ, .int .i64 x.ae.aa.aq.aI, .int .i64 x.ae.aa.aq.az, .int .i64 x.ae.aa.aU, .int .i64 x.fAt]
structure A4_Int where
  a0 : Int
  a1 : Int
  a2 : Int
  a3 : Int
  deriving DecidableEq
def A4_Int.pd (x : A4_Int) : PD := .agg [.int .i64 x.a0, .int .i64 x.a1, .int .i64 x.a2, .int .i64 x.a3]
structure bp where
  a0 : Int
  a1 : Int
  deriving DecidableEq
def bp.pd (x : bp) : PD := .agg [.int .i64 x.a0, .int .i64 x.a1]
structure cQ where
  a0 : bp
  a1 : bp
  a2 : bp
  a3 : bp
  a4 : bp
  deriving DecidableEq
def cQ.pd (x : cQ) : PD := .agg [.int .i64 x.a0.a0, .int .i64 x.a0.a1, .int .i64 x.a1.a0, .int .i64 x.a1.a1, .int .i64 x.a2.a0, .int .i64 x.a2.a1, .int .i64 x.a3.a0, .int .i64 x.a3.a1, .int .i64 x.a4.a0, .int .i64 x.a4.a1]
structure aS where
  fL : (List (List UInt8))
  deriving DecidableEq
def aS.pd (x : aS) : PD := .agg [.lst (x.fL.map PD.str)]

noncomputable def jZ (a0 : (List ai)) : Int → Option (Step1 (Int) ((Unit) ⊕ (Bool))) := fun s1 =>
  if (decide (s1 < (a0.length : Int))) = true then ((getO a0 s1).bind fun x4 => if (decide ((x4.ae.aa.aK.length : Int) > (80 : Int))) = true then (some (.stop (.inr false))) else (some (.next (IntKind.wrap .i64 (s1 + (1 : Int)))))) else (some (.stop (.inl ())))
noncomputable def iF (a0 : (List ai)) : Option (Bool) :=
  (loopO (jZ a0) (0 : Int)).bind fun o7 => match o7 with | .inl y8 => (some (decide ((a0.length : Int) ≤ (20 : Int)))) | .inr r9 => (some r9)
noncomputable def gE (a0 : Int) (a1 : Int) : Option (Int) :=
  if (decide (a1 < (1 : Int))) = true then (some (0 : Int)) else ((remO a0 a1).bind fun x2 => if (decide (x2 < (0 : Int))) = true then (some (IntKind.wrap .i64 (x2 + a1))) else (some x2))
noncomputable def eF (a0 : Int) : Option (am) :=
  (gE a0 (6 : Int)).bind fun x1 => (getO [[83, 49], [83, 50], [83, 51], [83, 52], [83, 53], [83, 54]] x1).bind fun x2 => some (am.mk [65, 66] x2 [48, 48] [66, 72, 90])
noncomputable def ew (a0 : Int) : Option (ai) :=
  (eF (0 : Int)).bind fun x1 => some (ai.mk a0 1 a0 7 1 (ar.mk (ag.mk x1 5 4 9 0 (-1)) (aw.mk [(ag.mk x1 5 4 9 0 (-1))] (aB.mk (aj.mk 0 0 0) 0 0 0 (aP.mk (aj.mk 0 0 0) (aj.mk 0 0 0))) (aG.mk 0 0) 0)))
noncomputable def dO (a0 : Int) : Option (Bool) :=
  if (decide (a0 ≥ (65 : Int))) = true then (if (decide (a0 ≤ (90 : Int))) = true then (some true) else (if (decide (a0 ≥ (48 : Int))) = true then (some (decide (a0 ≤ (57 : Int)))) else (some false))) else (if (decide (a0 ≥ (48 : Int))) = true then (some (decide (a0 ≤ (57 : Int)))) else (some false))
noncomputable def dx (a0 : (List UInt8)) : Int → Option (Step1 (Int) ((Unit) ⊕ (Bool))) := fun s1 =>
  if (decide (s1 < (a0.length : Int))) = true then ((byteO a0 s1).bind fun x4 => (dO x4).bind fun x5 => if (!x5) = true then (some (.stop (.inr false))) else (some (.next (IntKind.wrap .i64 (s1 + (1 : Int)))))) else (some (.stop (.inl ())))
noncomputable def di (a0 : (List UInt8)) (a1 : Int) (a2 : Int) : Option (Bool) :=
  (loopO (dx a0) (0 : Int)).bind fun o8 => match o8 with | .inl y9 => (if (decide ((a0.length : Int) ≥ a1)) = true then (some (decide ((a0.length : Int) ≤ a2))) else (some false)) | .inr r10 => (some r10)
noncomputable def cO (a0 : am) : Option (Bool) :=
  (di a0.aC (1 : Int) (2 : Int)).bind fun x1 => if x1 = true then ((di a0.aE (1 : Int) (5 : Int)).bind fun x3 => if x3 = true then ((di a0.ac (0 : Int) (2 : Int)).bind fun x5 => if x5 = true then (if ((a0.ac.length : Int) != (1 : Int)) = true then ((di a0.aD (3 : Int) (3 : Int)).bind fun x8 => some x8) else (some false)) else (some false)) else (some false)) else (some false)
noncomputable def eS (a0 : Int) (a1 : Int) (a2 : Int) : Option (Bool) :=
  if (decide (a0 ≥ a1)) = true then (some (decide (a0 ≤ a2))) else (some false)
noncomputable def bW (a0 : ag) : Option (Bool) :=
  (cO a0.ah).bind fun x1 => if x1 = true then (if (decide (a0.aJ ≥ (0 : Int))) = true then (if (decide (a0.aJ ≤ a0.aF)) = true then (if (decide (a0.aF ≤ a0.aN)) = true then (if (decide (a0.aN ≤ (18014398509481984 : Int))) = true then ((eS a0.au (0 : Int) (1073741823 : Int)).bind fun x7 => if x7 = true then ((eS a0.av (-1 : Int) (1 : Int)).bind fun x9 => some x9) else (some false)) else (some false)) else (some false)) else (some false)) else (some false)) else (some false)
noncomputable def cA (a0 : ag) : Option (Bool) :=
  (bW a0).bind fun x1 => some (!x1)
noncomputable def bf (a0 : (List ag)) : Int → Option (Step1 (Int) ((Unit) ⊕ (Int))) := fun s1 =>
  if (decide (s1 < (a0.length : Int))) = true then ((getO a0 s1).bind fun x4 => (cA x4).bind fun x5 => if x5 = true then (some (.stop (.inr s1))) else (some (.next (IntKind.wrap .i64 (s1 + (1 : Int)))))) else (some (.stop (.inl ())))
noncomputable def bt (a0 : (List ag)) : Option (Int) :=
  (loopO (bf a0) (0 : Int)).bind fun o8 => match o8 with | .inl y9 => (some (-1 : Int)) | .inr r10 => (some r10)
noncomputable def bd (a0 : (List ag)) : Option (Bool) :=
  (bt a0).bind fun x1 => some (decide (x1 ≥ (0 : Int)))
noncomputable def cY (a0 : Int) : Option (Bool) :=
  if (decide (a0 < (-1152921504606846976 : Int))) = true then (some true) else (some (decide (a0 > (1152921504606846976 : Int))))
noncomputable def bo (a0 : (List Int)) : Int → Option (Step1 (Int) ((Unit) ⊕ (Int))) := fun s1 =>
  if (decide (s1 < (a0.length : Int))) = true then ((getO a0 s1).bind fun x4 => (cY x4).bind fun x5 => if x5 = true then (some (.stop (.inr s1))) else (some (.next (IntKind.wrap .i64 (s1 + (1 : Int)))))) else (some (.stop (.inl ())))
noncomputable def bV (a0 : (List Int)) : Option (Int) :=
  (loopO (bo a0) (0 : Int)).bind fun o8 => match o8 with | .inl y9 => (some (-1 : Int)) | .inr r10 => (some r10)
noncomputable def bJ (a0 : (List Int)) : Option (Bool) :=
  (bV a0).bind fun x1 => some (decide (x1 ≥ (0 : Int)))
noncomputable def cE (a0 : (List Int)) : Option (Bool) :=
  (bJ a0).bind fun x1 => some (!x1)
noncomputable def dv (a0 : aj) : Option ((List Int)) :=
  some [a0.fX, a0.fY, a0.fZ]
noncomputable def dc (j2 : (List Int)) : Option ((List Int)) :=
  some j2
noncomputable def dE (a0 : Int) : Option ((List Int)) :=
  if (decide (a0 < (0 : Int))) = true then (none) else (if (decide ((IntKind.wrap .i64 (a0 - (0 : Int))) > (0 : Int))) = true then ((mkZ (IntKind.wrap .i64 (a0 - (0 : Int))) (0 : Int) 8).bind fun x5 => (subO x5.length (0 : Int) (0 : Int)).bind fun x6 => dc (x5.take (0 : Int).toNat)) else (dc ([] : List Int)))
noncomputable def cG (a0 : (List (List Int))) : (Int × Int) → Option (Step1 (Int × Int) (Int)) := fun (s1, s2) =>
  if (decide (s2 < (a0.length : Int))) = true then ((getO a0 s2).bind fun x6 => if (decide ((IntKind.wrap .i64 (s1 + (x6.length : Int))) < (0 : Int))) = true then (none) else (some (.next ((IntKind.wrap .i64 (s1 + (x6.length : Int))), (IntKind.wrap .i64 (s2 + (1 : Int))))))) else (some (.stop s1))
noncomputable def cy (a0 : (List (List Int))) : (Int × (List Int)) → Option (Step1 (Int × (List Int)) ((List Int))) := fun (s11, s12) =>
  if (decide (s11 < (a0.length : Int))) = true then ((getO a0 s11).bind fun x16 => (appO s12 x16 8).bind fun x17 => some (.next ((IntKind.wrap .i64 (s11 + (1 : Int))), x17))) else (some (.stop s12))
noncomputable def cK (a0 : (List (List Int))) : Option ((List Int)) :=
  (loopO (cG a0) ((0 : Int), (0 : Int))).bind fun o9 => (dE o9).bind fun x10 => (loopO (cy a0) ((0 : Int), x10)).bind fun o19 => some o19
noncomputable def ee (a0 : aw) : Option ((List Int)) :=
  (dv a0.ac.aA).bind fun x1 => (dv a0.ac.ap.aI).bind fun x2 => (dv a0.ac.ap.az).bind fun x3 => (cK [x1, [a0.ac.aF, a0.ac.aO, a0.ac.aV], x2, x3, [a0.aq.aI, a0.aq.az, a0.aU]]).bind fun x4 => some x4
noncomputable def cC (a0 : ai) : Option (Bool) :=
  if (decide (a0.aQ < (0 : Int))) = true then (some false) else (if (decide (a0.aQ ≥ (1000 : Int))) = true then (some false) else (if (decide (a0.bh < (1 : Int))) = true then (some false) else (if (decide (a0.bh > (3 : Int))) = true then (some false) else (if (decide (a0.fID < (0 : Int))) = true then (some false) else (if (decide (a0.fID > a0.aQ)) = true then (some false) else (if (!((a0.fID == a0.aQ) == (a0.bh == (1 : Int)))) = true then (some false) else (if (decide (a0.aW < (0 : Int))) = true then (some false) else (if (decide (a0.aW > (8 : Int))) = true then (some false) else (if (decide ((a0.ae.aa.aK.length : Int) > (64 : Int))) = true then (some false) else ((bW a0.ae.ak).bind fun x11 => if (!x11) = true then (some false) else ((bd a0.ae.aa.aK).bind fun x13 => if x13 = true then (some false) else ((cE [a0.fAt]).bind fun x15 => if x15 = true then ((ee a0.ae.aa).bind fun x17 => (cE x17).bind fun x18 => some x18) else (some false)))))))))))))
noncomputable def gc (a0 : (List Int)) : (Int × (List (List UInt8))) → Option (Step1 (Int × (List (List UInt8))) ((List (List UInt8)))) := fun (s1, s2) =>
  if (decide (s1 < (a0.length : Int))) = true then ((getO a0 s1).bind fun x5 => (itoaO x5).bind fun x6 => (appO s2 [x6] 16).bind fun x7 => some (.next ((IntKind.wrap .i64 (s1 + (1 : Int))), x7))) else ((some s2).bind fun z8 => some (.stop z8))
noncomputable def dy (a0 : (List Int)) : Option ((List (List UInt8))) :=
  (loopO (gc a0) ((0 : Int), ([] : (List (List UInt8))))).bind fun o10 => some o10
noncomputable def eV (a0 : am) : Option (ci) :=
  some (ci.mk a0.aC a0.aE a0.ac a0.aD)
noncomputable def df (a0 : am) : Option ((List UInt8) × Int) :=
  (cO a0).bind fun x1 => if (!x1) = true then (some (([] : (List UInt8)), (1 : Int))) else ((eV a0).bind fun x3 => (joinO [x3.a0, x3.a1, x3.a2, x3.a3] ([46] : List UInt8)).bind fun x4 => some (x4, (0 : Int)))
noncomputable def cS (a0 : (List Int)) : (Int × (List (List UInt8))) → Option (Step1 (Int × (List (List UInt8))) ((List (List UInt8)))) := fun (s2, s3) =>
  if (decide (s2 < (a0.length : Int))) = true then ((getO a0 s2).bind fun x6 => (itoaO x6).bind fun x7 => (appO s3 [x7] 16).bind fun x8 => some (.next ((IntKind.wrap .i64 (s2 + (1 : Int))), x8))) else ((some s3).bind fun z9 => some (.stop z9))
noncomputable def ca (a0 : (List Int)) (d1 : (List (List UInt8))) : Option ((List (List UInt8))) :=
  (loopO (cS a0) ((0 : Int), d1)).bind fun o11 => some o11
noncomputable def dj (a0 : ag) (d1 : (List (List UInt8))) : Option ((List (List UInt8))) :=
  (df a0.ah).bind fun x1 => (appO d1 [x1.1] 16).bind fun x2 => (ca [a0.aF, a0.aJ, a0.aN, a0.au, a0.av] x2).bind fun x3 => some x3
noncomputable def cz (a0 : ai) : (Int × (List (List UInt8))) → Option (Step1 (Int × (List (List UInt8))) ((List (List UInt8)))) := fun (s6, s7) =>
  if (decide (s6 < (a0.ae.aa.aK.length : Int))) = true then ((getO a0.ae.aa.aK s6).bind fun x11 => (dj x11 s7).bind fun x12 => some (.next ((IntKind.wrap .i64 (s6 + (1 : Int))), x12))) else (some (.stop s7))
noncomputable def cf (a0 : ai) : Option ((List UInt8) × Int) :=
  (cC a0).bind fun x1 => if (!x1) = true then (some (([] : (List UInt8)), (1 : Int))) else ((dy [a0.aQ, a0.bh, a0.fID, a0.fAt, a0.aW]).bind fun x3 => (dj a0.ae.ak x3).bind fun x4 => (ca [(a0.ae.aa.aK.length : Int)] x4).bind fun x5 => (loopO (cz a0) ((0 : Int), x5)).bind fun o14 => (ee a0.ae.aa).bind fun x15 => (ca x15 o14).bind fun x16 => (joinO x16 ([32] : List UInt8)).bind fun x17 => some (x17, (0 : Int)))
noncomputable def dK (d0 : aT) : Option ((List UInt8) × aT) :=
  if ((d0.bg.length : Int) == (0 : Int)) = true then (some (([] : (List UInt8)), (aT.mk d0.bg true))) else ((getO d0.bg (0 : Int)).bind fun x2 => (cutO d0.bg 1 (d0.bg.length : Int)).bind fun x3 => some (x2, (aT.mk x3 d0.cX)))
noncomputable def aY (d0 : aT) : Option (Int × aT) :=
  (dK d0).bind fun x1 => (atoiO x1.1).bind fun x2 => if x1.2.cX = true then (some (x2.1, (aT.mk x1.2.bg true))) else (if (!x2.2) = true then (some (x2.1, (aT.mk x1.2.bg true))) else ((itoaO x2.1).bind fun x5 => some (x2.1, (aT.mk x1.2.bg (!(x5 == x1.1))))))
noncomputable def cN (a0 : (List UInt8)) : Option (am × Int) :=
  (splitO a0 ([46] : List UInt8)).bind fun x1 => if ((x1.length : Int) != (4 : Int)) = true then (some ((am.mk [] [] [] []), (3 : Int))) else ((getO x1 (0 : Int)).bind fun x3 => (getO x1 (1 : Int)).bind fun x4 => (getO x1 (2 : Int)).bind fun x5 => (getO x1 (3 : Int)).bind fun x6 => (cO (am.mk x3 x4 x5 x6)).bind fun x7 => if (!x7) = true then (some ((am.mk [] [] [] []), (3 : Int))) else (some ((am.mk x3 x4 x5 x6), (0 : Int))))
noncomputable def dH (d0 : aT) : Option (ag × aT) :=
  (dK d0).bind fun x1 => (cN x1.1).bind fun x2 => if x1.2.cX = true then ((aY (aT.mk x1.2.bg true)).bind fun x4 => (aY x4.2).bind fun x5 => (aY x5.2).bind fun x6 => (aY x6.2).bind fun x7 => (aY x7.2).bind fun x8 => some ((ag.mk x2.1 x4.1 x5.1 x6.1 x7.1 x8.1), x8.2)) else ((aY (aT.mk x1.2.bg (x2.2 != (0 : Int)))).bind fun x9 => (aY x9.2).bind fun x10 => (aY x10.2).bind fun x11 => (aY x11.2).bind fun x12 => (aY x12.2).bind fun x13 => some ((ag.mk x2.1 x9.1 x10.1 x11.1 x12.1 x13.1), x13.2))
noncomputable def cj (d0 : aT) : Option (aj × aT) :=
  (aY d0).bind fun x1 => (aY x1.2).bind fun x2 => (aY x2.2).bind fun x3 => some ((aj.mk x1.1 x2.1 x3.1), x3.2)
noncomputable def bZ (d0 : (List ag)) : Int → Option (Step1 (Int) ((Unit) ⊕ (Int × (List ag)))) := fun s1 =>
  if (decide (s1 < (d0.length : Int))) = true then ((inO d0 s1).bind fun x5 => (getO d0 s1).bind fun x6 => (cA x6).bind fun x7 => if x7 = true then (some (.stop (.inr (s1, d0)))) else (some (.next (IntKind.wrap .i64 (s1 + (1 : Int)))))) else (some (.stop (.inl ())))
noncomputable def cb (d0 : (List ag)) : Option (Int × (List ag)) :=
  (loopO (bZ d0) (0 : Int)).bind fun o10 => match o10 with | .inl y11 => (some ((-1 : Int), d0)) | .inr r12 => (some r12)
noncomputable def bQ (d0 : (List ag)) : Option (Bool × (List ag)) :=
  (cb d0).bind fun x1 => some ((decide (x1.1 ≥ (0 : Int))), x1.2)
noncomputable def dQ (b6 : Int) (b8 : Int) (cr : Int) (ce : Int) (cp : Int) (cq : Int) (ct : Int) (cu : Int) (cv : Int) (bK : Int) (bL : Int) (bM : Int) (bP : Int) (jD : Int) (bq : Int) (d0 : (List ag)) : Option ((List Int) × (List ag)) :=
  (dv (aj.mk b6 b8 cr)).bind fun x1 => (dv (aj.mk ct cu cv)).bind fun x2 => (dv (aj.mk bK bL bM)).bind fun x3 => (cK [x1, [ce, cp, cq], x2, x3, [bP, jD, bq]]).bind fun x4 => some (x4, d0)
noncomputable def fu (co : Int) (b6 : Int) (b8 : Int) (cr : Int) (ce : Int) (cp : (List UInt8)) (cq : (List UInt8)) (ct : (List UInt8)) (cu : (List UInt8)) (cv : Int) (bK : Int) (bL : Int) (bM : Int) (bP : Int) (bq : Int) (bu : Int) (bv : Int) (bw : Int) (bz : Int) (bA : Int) (bB : Int) (bC : Int) (bD : Int) (bF : Int) (bG : Int) (bH : Int) (bR : Int) (bS : Int) (bT : Int) (d0 : (List ag)) : Option (Bool × (List ag)) :=
  if (decide (co < (0 : Int))) = true then (some (false, d0)) else (if (decide (co ≥ (1000 : Int))) = true then (some (false, d0)) else (if (decide (b6 < (1 : Int))) = true then (some (false, d0)) else (if (decide (b6 > (3 : Int))) = true then (some (false, d0)) else (if (decide (b8 < (0 : Int))) = true then (some (false, d0)) else (if (decide (b8 > co)) = true then (some (false, d0)) else (if (!((b8 == co) == (b6 == (1 : Int)))) = true then (some (false, d0)) else (if (decide (ce < (0 : Int))) = true then (some (false, d0)) else (if (decide (ce > (8 : Int))) = true then (some (false, d0)) else (if (decide ((d0.length : Int) > (64 : Int))) = true then (some (false, d0)) else ((bW (ag.mk (am.mk cp cq ct cu) cv bK bL bM bP)).bind fun x11 => if (!x11) = true then (some (false, d0)) else ((bQ d0).bind fun x13 => if x13.1 = true then (some (false, x13.2)) else ((cE [cr]).bind fun x15 => if x15 = true then ((dQ bq bu bv bw bz bA bB bC bD bF bG bH bR bS bT x13.2).bind fun x17 => (cE x17.1).bind fun x18 => some (x18, x17.2)) else (some (false, x13.2))))))))))))))
noncomputable def dW (x1 : Bool × (List ag)) : (Int × (List (List UInt8))) → Option (Step1 (Int × (List (List UInt8))) ((List (List UInt8)))) := fun (s6, s7) =>
  if (decide (s6 < (x1.2.length : Int))) = true then ((inO x1.2 s6).bind fun x12 => (getO x1.2 s6).bind fun x13 => (dj x13 s7).bind fun x14 => some (.next ((IntKind.wrap .i64 (s6 + (1 : Int))), x14))) else (some (.stop s7))
noncomputable def eQ (co : Int) (b6 : Int) (b8 : Int) (cr : Int) (ce : Int) (cp : (List UInt8)) (cq : (List UInt8)) (ct : (List UInt8)) (cu : (List UInt8)) (cv : Int) (bK : Int) (bL : Int) (bM : Int) (bP : Int) (bq : Int) (bu : Int) (bv : Int) (bw : Int) (bz : Int) (bA : Int) (bB : Int) (bC : Int) (bD : Int) (bF : Int) (bG : Int) (bH : Int) (bR : Int) (bS : Int) (bT : Int) (d0 : (List ag)) : Option ((List UInt8) × Int × (List ag)) :=
  (fu co b6 b8 cr ce cp cq ct cu cv bK bL bM bP bq bu bv bw bz bA bB bC bD bF bG bH bR bS bT d0).bind fun x1 => if (!x1.1) = true then (some (([] : (List UInt8)), (1 : Int), x1.2)) else ((dy [co, b6, b8, cr, ce]).bind fun x3 => (dj (ag.mk (am.mk cp cq ct cu) cv bK bL bM bP) x3).bind fun x4 => (ca [(x1.2.length : Int)] x4).bind fun x5 => (loopO (dW x1) ((0 : Int), x5)).bind fun o16 => (dQ bq bu bv bw bz bA bB bC bD bF bG bH bR bS bT x1.2).bind fun x17 => (ca x17.1 o16).bind fun x18 => (joinO x18 ([32] : List UInt8)).bind fun x19 => some (x19, (0 : Int), x17.2))
noncomputable def cU  : (Int × (List (List UInt8)) × Bool × (List ag)) → Option (Step1 (Int × (List (List UInt8)) × Bool × (List ag)) ((List (List UInt8)) × Bool × (List ag))) := fun (s9, s10, s11, s12) =>
  if (decide (s9 > (0 : Int))) = true then (if (!s11) = true then ((dH (aT.mk s10 s11)).bind fun x19 => (appO s12 [x19.1] 104).bind fun x20 => some (.next ((IntKind.wrap .i64 (s9 - (1 : Int))), x19.2.bg, x19.2.cX, x20))) else (some (.stop (s10, s11, s12)))) else (some (.stop (s10, s11, s12)))
noncomputable def cw (a0 : (List UInt8)) : Option (ai × Int) :=
  (splitO a0 ([32] : List UInt8)).bind fun x1 => (aY (aT.mk x1 false)).bind fun x2 => (aY x2.2).bind fun x3 => (aY x3.2).bind fun x4 => (aY x4.2).bind fun x5 => (aY x5.2).bind fun x6 => (dH x6.2).bind fun x7 => (aY x7.2).bind fun x8 => (loopO (cU) (x8.1, x8.2.bg, x8.2.cX, ([] : (List ag)))).bind fun o22 => (cj (aT.mk o22.1 o22.2.1)).bind fun x23 => (aY x23.2).bind fun x24 => (aY x24.2).bind fun x25 => (aY x25.2).bind fun x26 => (cj x26.2).bind fun x27 => (cj x27.2).bind fun x28 => (aY x28.2).bind fun x29 => (aY x29.2).bind fun x30 => (aY x30.2).bind fun x31 => if x31.2.cX = true then (some ((ai.mk 0 0 0 0 0 (ar.mk (ag.mk (am.mk [] [] [] []) 0 0 0 0 0) (aw.mk [] (aB.mk (aj.mk 0 0 0) 0 0 0 (aP.mk (aj.mk 0 0 0) (aj.mk 0 0 0))) (aG.mk 0 0) 0))), (3 : Int))) else (if (decide ((x31.2.bg.length : Int) > (0 : Int))) = true then (some ((ai.mk 0 0 0 0 0 (ar.mk (ag.mk (am.mk [] [] [] []) 0 0 0 0 0) (aw.mk [] (aB.mk (aj.mk 0 0 0) 0 0 0 (aP.mk (aj.mk 0 0 0) (aj.mk 0 0 0))) (aG.mk 0 0) 0))), (3 : Int))) else ((eQ x2.1 x3.1 x4.1 x5.1 x6.1 x7.1.ah.aC x7.1.ah.aE x7.1.ah.ac x7.1.ah.aD x7.1.aF x7.1.aJ x7.1.aN x7.1.au x7.1.av x23.1.fX x23.1.fY x23.1.fZ x24.1 x25.1 x26.1 x27.1.fX x27.1.fY x27.1.fZ x28.1.fX x28.1.fY x28.1.fZ x29.1 x30.1 x31.1 o22.2.2).bind fun x34 => if (x34.2.1 != (0 : Int)) = true then (some ((ai.mk 0 0 0 0 0 (ar.mk (ag.mk (am.mk [] [] [] []) 0 0 0 0 0) (aw.mk [] (aB.mk (aj.mk 0 0 0) 0 0 0 (aP.mk (aj.mk 0 0 0) (aj.mk 0 0 0))) (aG.mk 0 0) 0))), (3 : Int))) else (if (!(x34.1 == a0)) = true then (some ((ai.mk 0 0 0 0 0 (ar.mk (ag.mk (am.mk [] [] [] []) 0 0 0 0 0) (aw.mk [] (aB.mk (aj.mk 0 0 0) 0 0 0 (aP.mk (aj.mk 0 0 0) (aj.mk 0 0 0))) (aG.mk 0 0) 0))), (3 : Int))) else (some ((ai.mk x2.1 x3.1 x4.1 x5.1 x6.1 (ar.mk x7.1 (aw.mk x34.2.2 (aB.mk x23.1 x24.1 x25.1 x26.1 (aP.mk x27.1 x28.1)) (aG.mk x29.1 x30.1) x31.1))), (0 : Int))))))
noncomputable def da (a0 : (List ag)) (a1 : (List ag)) : Int → Option (Step1 (Int) ((Unit) ⊕ (Bool))) := fun s2 =>
  if (decide (s2 < (a0.length : Int))) = true then ((getO a0 s2).bind fun x5 => (getO a1 s2).bind fun x6 => if (!(((x5.ah.aC == x6.ah.aC) && ((x5.ah.aE == x6.ah.aE) && ((x5.ah.ac == x6.ah.ac) && ((x5.ah.aD == x6.ah.aD) && true)))) && ((x5.aF == x6.aF) && ((x5.aJ == x6.aJ) && ((x5.aN == x6.aN) && ((x5.au == x6.au) && ((x5.av == x6.av) && true))))))) = true then (some (.stop (.inr false))) else (some (.next (IntKind.wrap .i64 (s2 + (1 : Int)))))) else (some (.stop (.inl ())))
noncomputable def cB (a0 : (List ag)) (a1 : (List ag)) : Option (Bool) :=
  if ((a0.length : Int) != (a1.length : Int)) = true then (some false) else ((loopO (da a0 a1) (0 : Int)).bind fun o9 => match o9 with | .inl y10 => (some true) | .inr r11 => (some r11))
noncomputable def iu (a0 : aw) (a1 : aw) : Option (Bool) :=
  (cB a0.aK a1.aK).bind fun x1 => if x1 = true then (if (((a0.ac.aA.fX == a1.ac.aA.fX) && ((a0.ac.aA.fY == a1.ac.aA.fY) && ((a0.ac.aA.fZ == a1.ac.aA.fZ) && true))) && ((a0.ac.aF == a1.ac.aF) && ((a0.ac.aO == a1.ac.aO) && ((a0.ac.aV == a1.ac.aV) && ((((a0.ac.ap.aI.fX == a1.ac.ap.aI.fX) && ((a0.ac.ap.aI.fY == a1.ac.ap.aI.fY) && ((a0.ac.ap.aI.fZ == a1.ac.ap.aI.fZ) && true))) && (((a0.ac.ap.az.fX == a1.ac.ap.az.fX) && ((a0.ac.ap.az.fY == a1.ac.ap.az.fY) && ((a0.ac.ap.az.fZ == a1.ac.ap.az.fZ) && true))) && true)) && true))))) = true then (if ((a0.aq.aI == a1.aq.aI) && ((a0.aq.az == a1.aq.az) && true)) = true then (some (a0.aU == a1.aU)) else (some false)) else (some false)) else (some false)
noncomputable def eo (a0 : ar) (a1 : ar) : Option (Bool) :=
  if (((a0.ak.ah.aC == a1.ak.ah.aC) && ((a0.ak.ah.aE == a1.ak.ah.aE) && ((a0.ak.ah.ac == a1.ak.ah.ac) && ((a0.ak.ah.aD == a1.ak.ah.aD) && true)))) && ((a0.ak.aF == a1.ak.aF) && ((a0.ak.aJ == a1.ak.aJ) && ((a0.ak.aN == a1.ak.aN) && ((a0.ak.au == a1.ak.au) && ((a0.ak.av == a1.ak.av) && true)))))) = true then ((iu a0.aa a1.aa).bind fun x2 => some x2) else (some false)
noncomputable def ch (a0 : ai) (a1 : ai) : Option (Bool) :=
  if (a0.aQ == a1.aQ) = true then (if (a0.bh == a1.bh) = true then (if (a0.fID == a1.fID) = true then (if (a0.fAt == a1.fAt) = true then (if (a0.aW == a1.aW) = true then ((eo a0.ae a1.ae).bind fun x6 => some x6) else (some false)) else (some false)) else (some false)) else (some false)) else (some false)
noncomputable def gL (a0 : (List bn)) : (Int × (List (Int × ai))) → Option (Step1 (Int × (List (Int × ai))) ((List (Int × ai)))) := fun (s1, s2) =>
  if (decide (s1 < (a0.length : Int))) = true then ((getO a0 s1).bind fun x6 => if (mHas (fun a b => a == b) x6.dV s2) = true then (some (.next ((IntKind.wrap .i64 (s1 + (1 : Int))), s2))) else ((cw x6.fData).bind fun x8 => if (x8.2 == (0 : Int)) = true then (if (x8.1.aQ == x6.dV) = true then (some (.next ((IntKind.wrap .i64 (s1 + (1 : Int))), (mPut (fun a b => a == b) x6.dV x8.1 s2)))) else (some (.next ((IntKind.wrap .i64 (s1 + (1 : Int))), s2)))) else (some (.next ((IntKind.wrap .i64 (s1 + (1 : Int))), s2))))) else (some (.stop s2))
noncomputable def gM (o12 : (List (Int × ai))) : (Int × (List ai)) → Option (Step1 (Int × (List ai)) ((List ai))) := fun (s13, s14) =>
  if (!(mHas (fun a b => a == b) s13 o12)) = true then (some (.stop s14)) else ((appO s14 [(ai.mk ((mGet (fun a b => a == b) s13 (ai.mk 0 0 0 0 0 (ar.mk (ag.mk (am.mk [] [] [] []) 0 0 0 0 0) (aw.mk [] (aB.mk (aj.mk 0 0 0) 0 0 0 (aP.mk (aj.mk 0 0 0) (aj.mk 0 0 0))) (aG.mk 0 0) 0))) o12).aQ) ((mGet (fun a b => a == b) s13 (ai.mk 0 0 0 0 0 (ar.mk (ag.mk (am.mk [] [] [] []) 0 0 0 0 0) (aw.mk [] (aB.mk (aj.mk 0 0 0) 0 0 0 (aP.mk (aj.mk 0 0 0) (aj.mk 0 0 0))) (aG.mk 0 0) 0))) o12).bh) ((mGet (fun a b => a == b) s13 (ai.mk 0 0 0 0 0 (ar.mk (ag.mk (am.mk [] [] [] []) 0 0 0 0 0) (aw.mk [] (aB.mk (aj.mk 0 0 0) 0 0 0 (aP.mk (aj.mk 0 0 0) (aj.mk 0 0 0))) (aG.mk 0 0) 0))) o12).fID) ((mGet (fun a b => a == b) s13 (ai.mk 0 0 0 0 0 (ar.mk (ag.mk (am.mk [] [] [] []) 0 0 0 0 0) (aw.mk [] (aB.mk (aj.mk 0 0 0) 0 0 0 (aP.mk (aj.mk 0 0 0) (aj.mk 0 0 0))) (aG.mk 0 0) 0))) o12).fAt) ((mGet (fun a b => a == b) s13 (ai.mk 0 0 0 0 0 (ar.mk (ag.mk (am.mk [] [] [] []) 0 0 0 0 0) (aw.mk [] (aB.mk (aj.mk 0 0 0) 0 0 0 (aP.mk (aj.mk 0 0 0) (aj.mk 0 0 0))) (aG.mk 0 0) 0))) o12).aW) (ar.mk (ag.mk ((((mGet (fun a b => a == b) s13 (ai.mk 0 0 0 0 0 (ar.mk (ag.mk (am.mk [] [] [] []) 0 0 0 0 0) (aw.mk [] (aB.mk (aj.mk 0 0 0) 0 0 0 (aP.mk (aj.mk 0 0 0) (aj.mk 0 0 0))) (aG.mk 0 0) 0))) o12).ae).ak).ah) ((((mGet (fun a b => a == b) s13 (ai.mk 0 0 0 0 0 (ar.mk (ag.mk (am.mk [] [] [] []) 0 0 0 0 0) (aw.mk [] (aB.mk (aj.mk 0 0 0) 0 0 0 (aP.mk (aj.mk 0 0 0) (aj.mk 0 0 0))) (aG.mk 0 0) 0))) o12).ae).ak).aF) ((((mGet (fun a b => a == b) s13 (ai.mk 0 0 0 0 0 (ar.mk (ag.mk (am.mk [] [] [] []) 0 0 0 0 0) (aw.mk [] (aB.mk (aj.mk 0 0 0) 0 0 0 (aP.mk (aj.mk 0 0 0) (aj.mk 0 0 0))) (aG.mk 0 0) 0))) o12).ae).ak).aJ) ((((mGet (fun a b => a == b) s13 (ai.mk 0 0 0 0 0 (ar.mk (ag.mk (am.mk [] [] [] []) 0 0 0 0 0) (aw.mk [] (aB.mk (aj.mk 0 0 0) 0 0 0 (aP.mk (aj.mk 0 0 0) (aj.mk 0 0 0))) (aG.mk 0 0) 0))) o12).ae).ak).aN) ((((mGet (fun a b => a == b) s13 (ai.mk 0 0 0 0 0 (ar.mk (ag.mk (am.mk [] [] [] []) 0 0 0 0 0) (aw.mk [] (aB.mk (aj.mk 0 0 0) 0 0 0 (aP.mk (aj.mk 0 0 0) (aj.mk 0 0 0))) (aG.mk 0 0) 0))) o12).ae).ak).au) ((((mGet (fun a b => a == b) s13 (ai.mk 0 0 0 0 0 (ar.mk (ag.mk (am.mk [] [] [] []) 0 0 0 0 0) (aw.mk [] (aB.mk (aj.mk 0 0 0) 0 0 0 (aP.mk (aj.mk 0 0 0) (aj.mk 0 0 0))) (aG.mk 0 0) 0))) o12).ae).ak).av)) (aw.mk ((((mGet (fun a b => a == b) s13 (ai.mk 0 0 0 0 0 (ar.mk (ag.mk (am.mk [] [] [] []) 0 0 0 0 0) (aw.mk [] (aB.mk (aj.mk 0 0 0) 0 0 0 (aP.mk (aj.mk 0 0 0) (aj.mk 0 0 0))) (aG.mk 0 0) 0))) o12).ae).aa).aK) (aB.mk (((((mGet (fun a b => a == b) s13 (ai.mk 0 0 0 0 0 (ar.mk (ag.mk (am.mk [] [] [] []) 0 0 0 0 0) (aw.mk [] (aB.mk (aj.mk 0 0 0) 0 0 0 (aP.mk (aj.mk 0 0 0) (aj.mk 0 0 0))) (aG.mk 0 0) 0))) o12).ae).aa).ac).aA) (((((mGet (fun a b => a == b) s13 (ai.mk 0 0 0 0 0 (ar.mk (ag.mk (am.mk [] [] [] []) 0 0 0 0 0) (aw.mk [] (aB.mk (aj.mk 0 0 0) 0 0 0 (aP.mk (aj.mk 0 0 0) (aj.mk 0 0 0))) (aG.mk 0 0) 0))) o12).ae).aa).ac).aF) (((((mGet (fun a b => a == b) s13 (ai.mk 0 0 0 0 0 (ar.mk (ag.mk (am.mk [] [] [] []) 0 0 0 0 0) (aw.mk [] (aB.mk (aj.mk 0 0 0) 0 0 0 (aP.mk (aj.mk 0 0 0) (aj.mk 0 0 0))) (aG.mk 0 0) 0))) o12).ae).aa).ac).aO) (((((mGet (fun a b => a == b) s13 (ai.mk 0 0 0 0 0 (ar.mk (ag.mk (am.mk [] [] [] []) 0 0 0 0 0) (aw.mk [] (aB.mk (aj.mk 0 0 0) 0 0 0 (aP.mk (aj.mk 0 0 0) (aj.mk 0 0 0))) (aG.mk 0 0) 0))) o12).ae).aa).ac).aV) (aP.mk ((((((mGet (fun a b => a == b) s13 (ai.mk 0 0 0 0 0 (ar.mk (ag.mk (am.mk [] [] [] []) 0 0 0 0 0) (aw.mk [] (aB.mk (aj.mk 0 0 0) 0 0 0 (aP.mk (aj.mk 0 0 0) (aj.mk 0 0 0))) (aG.mk 0 0) 0))) o12).ae).aa).ac).ap).aI) ((((((mGet (fun a b => a == b) s13 (ai.mk 0 0 0 0 0 (ar.mk (ag.mk (am.mk [] [] [] []) 0 0 0 0 0) (aw.mk [] (aB.mk (aj.mk 0 0 0) 0 0 0 (aP.mk (aj.mk 0 0 0) (aj.mk 0 0 0))) (aG.mk 0 0) 0))) o12).ae).aa).ac).ap).az))) ((((mGet (fun a b => a == b) s13 (ai.mk 0 0 0 0 0 (ar.mk (ag.mk (am.mk [] [] [] []) 0 0 0 0 0) (aw.mk [] (aB.mk (aj.mk 0 0 0) 0 0 0 (aP.mk (aj.mk 0 0 0) (aj.mk 0 0 0))) (aG.mk 0 0) 0))) o12).ae).aa).aq) ((((mGet (fun a b => a == b) s13 (ai.mk 0 0 0 0 0 (ar.mk (ag.mk (am.mk [] [] [] []) 0 0 0 0 0) (aw.mk [] (aB.mk (aj.mk 0 0 0) 0 0 0 (aP.mk (aj.mk 0 0 0) (aj.mk 0 0 0))) (aG.mk 0 0) 0))) o12).ae).aa).aU))))] 288).bind fun x17 => some (.next ((IntKind.wrap .i64 (s13 + (1 : Int))), x17)))
noncomputable def iD (a0 : (List bn)) : Option ((List ai)) :=
  (loopO (gL a0) ((0 : Int), ([] : List (Int × ai)))).bind fun o12 => (loopO (gM o12) ((0 : Int), ([] : (List ai)))).bind fun o19 => some o19
noncomputable def ek (x5 : ai) (s2 : (List (Int × Bool))) (s1 : Int) : Option (Step1 (Int × (List (Int × Bool))) ((Unit) ⊕ (Bool))) :=
  if (x5.bh != (1 : Int)) = true then (if (!(mGet (fun a b => a == b) x5.fID false s2)) = true then (some (.stop (.inr false))) else (some (.next ((IntKind.wrap .i64 (s1 + (1 : Int))), (mPut (fun a b => a == b) x5.fID (x5.bh != (3 : Int)) s2))))) else (some (.next ((IntKind.wrap .i64 (s1 + (1 : Int))), (mPut (fun a b => a == b) x5.fID (x5.bh != (3 : Int)) s2))))
noncomputable def gl (a0 : (List ai)) : (Int × (List (Int × Bool))) → Option (Step1 (Int × (List (Int × Bool))) ((Unit) ⊕ (Bool))) := fun (s1, s2) =>
  if (decide (s1 < (a0.length : Int))) = true then ((getO a0 s1).bind fun x5 => (cC x5).bind fun x9 => if (!x9) = true then (some (.stop (.inr false))) else (if (x5.aQ != s1) = true then (some (.stop (.inr false))) else (if (decide (s1 > (0 : Int))) = true then ((getO a0 (IntKind.wrap .i64 (s1 - (1 : Int)))).bind fun x13 => if (decide (x5.fAt < x13.fAt)) = true then (some (.stop (.inr false))) else (ek x5 s2 s1)) else (ek x5 s2 s1)))) else (some (.stop (.inl ())))
noncomputable def hJ (a0 : (List ai)) : Option (Bool) :=
  (loopO (gl a0) ((0 : Int), ([] : List (Int × Bool)))).bind fun o16 => match o16 with | .inl y17 => (some true) | .inr r18 => (some r18)
noncomputable def ea  : Option (Bool) :=
  (ew (0 : Int)).bind fun x1 => (cf x1).bind fun x2 => (ew (2 : Int)).bind fun x3 => (cf x3).bind fun x4 => (cw x2.1).bind fun x5 => (catO x2.1 [32]).bind fun x6 => (cw x6).bind fun x7 => if (x2.2 == (0 : Int)) = true then (if (x4.2 == (0 : Int)) = true then (if (x5.2 == (0 : Int)) = true then ((ew (0 : Int)).bind fun x11 => (ch x5.1 x11).bind fun x12 => if x12 = true then (if (x7.2 == (3 : Int)) = true then ((iD [(bn.mk 2 0 x4.1), (bn.mk 0 0 x2.1)]).bind fun x15 => if ((x15.length : Int) == (1 : Int)) = true then ((ew (0 : Int)).bind fun x17 => (ew (1 : Int)).bind fun x18 => (hJ [x17, x18]).bind fun x19 => some x19) else (some false)) else (some false)) else (some false)) else (some false)) else (some false)) else (some false)
noncomputable def lc (a0 : (List Int)) : Option (aH) :=
  (cutO a0 0 (if (2000 : Int) < (a0.length : Int) then (2000 : Int) else (a0.length : Int))).bind fun x1 => some (aH.mk x1 0)
noncomputable def Src_Raw (d0 : aH) : Option (Int × aH) :=
  if (decide (d0.fAt ≥ (d0.fL.length : Int))) = true then (some ((0 : Int), d0)) else ((getO d0.fL (IntKind.wrap .i64 ((IntKind.wrap .i64 (d0.fAt + (1 : Int))) - (1 : Int)))).bind fun x2 => some (x2, (aH.mk d0.fL (IntKind.wrap .i64 (d0.fAt + (1 : Int))))))
noncomputable def dT (a1 : Int) (d0 : aH) : Option (Int × aH) :=
  (Src_Raw d0).bind fun x1 => (gE x1.1 a1).bind fun x2 => some (x2, x1.2)
noncomputable def dF (a1 : (List Int)) (d0 : aH) : Option (Int × aH) :=
  (dT (a1.length : Int) d0).bind fun x1 => (getO a1 x1.1).bind fun x2 => some (x2, x1.2)
noncomputable def jT  : (Int × (List Int) × Int × (List bj)) → Option (Step1 (Int × (List Int) × Int × (List bj)) ((List Int) × Int × (List bj))) := fun (s4, s5, s6, s7) =>
  if (decide (s4 > (0 : Int))) = true then ((dT (400 : Int) (aH.mk s5 s6)).bind fun x13 => (dT (4 : Int) x13.2).bind fun x14 => (dF [0, 10, 100, 10000] x14.2).bind fun x15 => (dF [0, 500, 2000, 100000] x15.2).bind fun x16 => (appO s7 [(bj.mk (IntKind.wrap .i64 (x13.1 - (100 : Int))) (IntKind.wrap .i64 ((1 : Int) + x14.1)) x15.1 x16.1)] 32).bind fun x17 => some (.next ((IntKind.wrap .i64 (s4 - (1 : Int))), x16.2.fL, x16.2.fAt, x17))) else (some (.stop (s5, s6, s7)))
noncomputable def jo (d0 : aH) : Option (aX × aH) :=
  (dF [0, 2, 10, 1000] d0).bind fun x1 => (dF [0, 0, 50, 500] x1.2).bind fun x2 => (dT (3 : Int) x2.2).bind fun x3 => (loopO (jT) ((IntKind.wrap .i64 ((1 : Int) + x3.1)), x3.2.fL, x3.2.fAt, ([] : (List bj)))).bind fun o19 => some ((aX.mk o19.2.2 x1.1 x2.1), (aH.mk o19.1 o19.2.1))
noncomputable def kx (a1 : Int) (d0 : aH) : Option (aj × aH) :=
  (dT (IntKind.wrap .i64 ((IntKind.wrap .i64 ((2 : Int) * a1)) + (1 : Int))) d0).bind fun x1 => (dT (IntKind.wrap .i64 ((IntKind.wrap .i64 ((2 : Int) * a1)) + (1 : Int))) x1.2).bind fun x2 => (dT (IntKind.wrap .i64 (a1 + (1 : Int))) x2.2).bind fun x3 => some ((aj.mk (IntKind.wrap .i64 (x1.1 - a1)) (IntKind.wrap .i64 (x2.1 - a1)) x3.1), x3.2)
noncomputable def kG (x1 : Int × aH) (a1 : Int) : (Int × (List Int) × Int × (List ag)) → Option (Step1 (Int × (List Int) × Int × (List ag)) ((List Int) × Int × (List ag))) := fun (s2, s3, s4, s5) =>
  (dT (4 : Int) (aH.mk s3 s4)).bind fun x10 => if (decide (s2 < (IntKind.wrap .i64 ((1 : Int) + x10.1)))) = true then ((eF s2).bind fun x12 => (dT (3 : Int) x10.2).bind fun x13 => (appO s5 [(ag.mk x12 (IntKind.wrap .i64 ((IntKind.wrap .i64 ((1000 : Int) + x1.1)) + (IntKind.wrap .i64 ((10 : Int) * a1)))) (IntKind.wrap .i64 ((IntKind.wrap .i64 ((1000 : Int) + x1.1)) + (IntKind.wrap .i64 ((10 : Int) * a1)))) (IntKind.wrap .i64 ((IntKind.wrap .i64 ((IntKind.wrap .i64 ((1000 : Int) + x1.1)) + (IntKind.wrap .i64 ((10 : Int) * a1)))) + x13.1)) a1 0)] 104).bind fun x14 => some (.next ((IntKind.wrap .i64 (s2 + (1 : Int))), x13.2.fL, x13.2.fAt, x14))) else (some (.stop (x10.2.fL, x10.2.fAt, s5)))
noncomputable def kw (a1 : Int) (d0 : aH) : Option (ar × aH) :=
  (dT (300 : Int) d0).bind fun x1 => (loopO (kG x1 a1) ((0 : Int), x1.2.fL, x1.2.fAt, ([] : (List ag)))).bind fun o16 => (inO o16.2.2 (0 : Int)).bind fun x18 => (getO o16.2.2 (0 : Int)).bind fun x19 => (kx (20 : Int) (aH.mk o16.1 o16.2.1)).bind fun x20 => (dT (40 : Int) x20.2).bind fun x21 => (dF [0, 0, 5, 500] x21.2).bind fun x22 => (dT (3 : Int) x22.2).bind fun x23 => if (decide (x23.1 > (0 : Int))) = true then ((dT (400 : Int) x23.2).bind fun x25 => (dT (60 : Int) x25.2).bind fun x26 => some ((ar.mk x19 (aw.mk o16.2.2 (aB.mk x20.1 (IntKind.wrap .i64 ((IntKind.wrap .i64 ((1000 : Int) + x1.1)) - x21.1)) x22.1 0 (aP.mk x20.1 x20.1)) (aG.mk x25.1 (IntKind.wrap .i64 (x25.1 + x26.1))) x23.1)), x26.2)) else (some ((ar.mk x19 (aw.mk o16.2.2 (aB.mk x20.1 (IntKind.wrap .i64 ((IntKind.wrap .i64 ((1000 : Int) + x1.1)) - x21.1)) x22.1 0 (aP.mk x20.1 x20.1)) (aG.mk 0 0) x23.1)), x23.2))
noncomputable def ii (x12 : ar × aH) (s1 : Int) (s4 : (List ar)) : (Int × (List ag)) → Option (Step1 (Int × (List ag)) (Int × (List ar) × (List ag))) := fun (s13, s14) =>
  if (decide (s13 < (x12.1.aa.aK.length : Int))) = true then ((inO s14 s13).bind fun x21 => (modO s14 s13 (fun (z23 : ag) => (ag.mk z23.ah (IntKind.wrap .i64 ((IntKind.wrap .i64 ((1000 : Int) + (IntKind.wrap .i64 ((400 : Int) * s1)))) + s13)) z23.aJ z23.aN z23.au z23.av))).bind fun x22 => (modO x22 s13 (fun (z25 : ag) => (ag.mk z25.ah z25.aF (IntKind.wrap .i64 ((IntKind.wrap .i64 ((1000 : Int) + (IntKind.wrap .i64 ((400 : Int) * s1)))) + s13)) z25.aN z25.au z25.av))).bind fun x24 => (modO x24 s13 (fun (z27 : ag) => (ag.mk z27.ah z27.aF z27.aJ (IntKind.wrap .i64 ((IntKind.wrap .i64 ((IntKind.wrap .i64 ((1000 : Int) + (IntKind.wrap .i64 ((400 : Int) * s1)))) + s13)) + (2 : Int))) z27.au z27.av))).bind fun x26 => (modO x26 s13 (fun (z29 : ag) => (ag.mk z29.ah z29.aF z29.aJ z29.aN 7 z29.av))).bind fun x28 => some (.next ((IntKind.wrap .i64 (s13 + (1 : Int))), x28))) else (some (.stop (s1, s4, s14)))
noncomputable def jS (a1 : Int) : (Int × (List Int) × Int × (List ar)) → Option (Step1 (Int × (List Int) × Int × (List ar)) ((List ar) × (List Int) × Int)) := fun (s1, s2, s3, s4) =>
  if (decide (s1 < a1)) = true then ((dT (3 : Int) (aH.mk s2 s3)).bind fun x10 => if (x10.1 == (0 : Int)) = true then (some (.next ((IntKind.wrap .i64 (s1 + (1 : Int))), x10.2.fL, x10.2.fAt, s4))) else ((kw (1 : Int) x10.2).bind fun x12 => (loopO (ii x12 s1 s4) ((0 : Int), x12.1.aa.aK)).bind fun o31 => (dT (2 : Int) x12.2).bind fun x32 => (cutO o31.2.2 (if (IntKind.wrap .i64 ((o31.2.2.length : Int) - (1 : Int))) < x32.1 then (IntKind.wrap .i64 ((o31.2.2.length : Int) - (1 : Int))) else x32.1) (o31.2.2.length : Int)).bind fun x33 => (getO x33 (0 : Int)).bind fun x34 => (appO o31.2.1 [(ar.mk x34 (aw.mk x33 x12.1.aa.ac x12.1.aa.aq x12.1.aa.aU))] 248).bind fun x35 => some (.next ((IntKind.wrap .i64 (o31.1 + (1 : Int))), x32.2.fL, x32.2.fAt, x35)))) else (some (.stop (s4, s2, s3)))
noncomputable def jn (a1 : Int) (d0 : aH) : Option ((List ar) × aH) :=
  (loopO (jS a1) ((0 : Int), d0.fL, d0.fAt, ([] : (List ar)))).bind fun o37 => some (o37.1, (aH.mk o37.2.1 o37.2.2))
noncomputable def eh (a0 : Int) : Option (Bool) :=
  if (decide (a0 ≥ (0 : Int))) = true then (some (decide (a0 ≤ (9007199254740992 : Int)))) else (some false)
noncomputable def iv (a0 : aX) : Int → Option (Step1 (Int) ((Unit) ⊕ (Int))) := fun s7 =>
  if (decide (s7 < (a0.bN.length : Int))) = true then ((getO a0.bN s7).bind fun x10 => if (decide (x10.aq < (-1000 : Int))) = true then (some (.stop (.inr (27 : Int)))) else (if (decide (x10.aq > (2000 : Int))) = true then (some (.stop (.inr (27 : Int)))) else (if (decide (x10.aK < (1 : Int))) = true then (some (.stop (.inr (27 : Int)))) else (if (decide (x10.aK > (64 : Int))) = true then (some (.stop (.inr (27 : Int)))) else ((eh x10.aO).bind fun x15 => if (!x15) = true then (some (.stop (.inr (27 : Int)))) else ((eh x10.iC).bind fun x17 => if (!x17) = true then (some (.stop (.inr (27 : Int)))) else (some (.next (IntKind.wrap .i64 (s7 + (1 : Int))))))))))) else (some (.stop (.inl ())))
noncomputable def dZ (a0 : aX) : Option (Int) :=
  if (decide ((a0.bN.length : Int) < (1 : Int))) = true then (some (27 : Int)) else (if (decide ((a0.bN.length : Int) > (8 : Int))) = true then (some (27 : Int)) else ((eh a0.bO).bind fun x3 => if (!x3) = true then (some (27 : Int)) else ((eh a0.dP).bind fun x5 => if (!x5) = true then (some (27 : Int)) else ((loopO (iv a0) (0 : Int)).bind fun o20 => match o20 with | .inl y21 => (some (0 : Int)) | .inr r22 => (some r22)))))
noncomputable def gR (s1 : Int) (a0 : (List aL)) : Int → Option (Step1 (Int) ((Int) ⊕ (Bool))) := fun s4 =>
  if (decide (s4 < s1)) = true then ((getO a0 s1).bind fun x8 => if (!x8.br) = true then ((getO a0 s4).bind fun x10 => if (!x10.br) = true then ((getO a0 s1).bind fun x12 => (getO a0 s4).bind fun x13 => if (((x12.ak.ah.aC == x13.ak.ah.aC) && ((x12.ak.ah.aE == x13.ak.ah.aE) && ((x12.ak.ah.ac == x13.ak.ah.ac) && ((x12.ak.ah.aD == x13.ak.ah.aD) && true)))) && ((x12.ak.aF == x13.ak.aF) && ((x12.ak.aJ == x13.ak.aJ) && ((x12.ak.aN == x13.ak.aN) && ((x12.ak.au == x13.ak.au) && ((x12.ak.av == x13.ak.av) && true)))))) = true then (some (.stop (.inr false))) else (some (.next (IntKind.wrap .i64 (s4 + (1 : Int)))))) else (some (.next (IntKind.wrap .i64 (s4 + (1 : Int)))))) else (some (.next (IntKind.wrap .i64 (s4 + (1 : Int)))))) else (some (.stop (.inl s1)))
noncomputable def ep (s1 : Int) (a0 : (List aL)) : Option (Step1 (Int) ((Unit) ⊕ (Bool))) :=
  (loopO (gR s1 a0) (0 : Int)).bind fun o16 => match o16 with | .inl y17 => (some (.next (IntKind.wrap .i64 (y17 + (1 : Int))))) | .inr r18 => (some (.stop (.inr r18)))
noncomputable def jM (a0 : (List aL)) : Int → Option (Step1 (Int) ((Unit) ⊕ (Bool))) := fun s1 =>
  if (decide (s1 < (a0.length : Int))) = true then ((getO a0 s1).bind fun x20 => if (decide (x20.fID < (0 : Int))) = true then (some (.stop (.inr false))) else ((getO a0 s1).bind fun x22 => if (decide (x22.fID ≥ (1000 : Int))) = true then (some (.stop (.inr false))) else (if (decide (s1 > (0 : Int))) = true then ((getO a0 s1).bind fun x25 => (getO a0 (IntKind.wrap .i64 (s1 - (1 : Int)))).bind fun x26 => if (decide (x25.fID ≤ x26.fID)) = true then (some (.stop (.inr false))) else ((getO a0 s1).bind fun x28 => if (decide (x28.fAt < (0 : Int))) = true then (some (.stop (.inr false))) else ((getO a0 s1).bind fun x30 => if (decide (x30.fAt > (18014398509481984 : Int))) = true then (some (.stop (.inr false))) else (ep s1 a0)))) else ((getO a0 s1).bind fun x32 => if (decide (x32.fAt < (0 : Int))) = true then (some (.stop (.inr false))) else ((getO a0 s1).bind fun x34 => if (decide (x34.fAt > (18014398509481984 : Int))) = true then (some (.stop (.inr false))) else (ep s1 a0)))))) else (some (.stop (.inl ())))
noncomputable def iM (a0 : (List aL)) : Option (Bool) :=
  (loopO (jM a0) (0 : Int)).bind fun o37 => match o37 with | .inl y38 => (some (decide ((a0.length : Int) ≤ (200 : Int)))) | .inr r39 => (some r39)
noncomputable def dR (a0 : (List UInt8)) (a1 : (List UInt8)) : Option (Int) :=
  if (Op.bytesLess a0 a1) = true then (some (-1 : Int)) else (if (!(Op.bytesLess a0 a1 || a0 == a1)) = true then (some (1 : Int)) else (some (0 : Int)))
noncomputable def gB (a0 : am) (a1 : am) : Option (Int) :=
  (dR a0.aC a1.aC).bind fun x1 => (dR a0.aE a1.aE).bind fun x2 => (dR a0.ac a1.ac).bind fun x3 => (dR a0.aD a1.aD).bind fun x4 => if (x1 != (0 : Int)) = true then (some x1) else (if (x2 != (0 : Int)) = true then (some x2) else (if (x3 != (0 : Int)) = true then (some x3) else (if (x4 != (0 : Int)) = true then (some x4) else (some (0 : Int)))))
noncomputable def fa (a0 : ag) (a1 : ag) : Option (Int) :=
  (gB a0.ah a1.ah).bind fun x1 => if (x1 != (0 : Int)) = true then (some x1) else (if (decide (a0.aF < a1.aF)) = true then (some (-1 : Int)) else (if (decide (a0.aF > a1.aF)) = true then (some (1 : Int)) else (if (decide (a0.aJ < a1.aJ)) = true then (some (-1 : Int)) else (if (decide (a0.aJ > a1.aJ)) = true then (some (1 : Int)) else (if (decide (a0.aN < a1.aN)) = true then (some (-1 : Int)) else (if (decide (a0.aN > a1.aN)) = true then (some (1 : Int)) else (if (decide (a0.au < a1.au)) = true then (some (-1 : Int)) else (if (decide (a0.au > a1.au)) = true then (some (1 : Int)) else (if (decide (a0.av < a1.av)) = true then (some (-1 : Int)) else (if (decide (a0.av > a1.av)) = true then (some (1 : Int)) else (some (0 : Int))))))))))))
noncomputable def fb (a0 : ag) (a1 : ag) : Option (Int) :=
  if (decide (a0.aF < a1.aF)) = true then (some (-1 : Int)) else (if (decide (a0.aF > a1.aF)) = true then (some (1 : Int)) else ((fa a0 a1).bind fun x3 => some x3))
noncomputable def kj (a0 : (List ag)) : (Int × (List UInt8) × (List UInt8) × (List UInt8) × (List UInt8) × Int × Int × Int × Int × Int) → Option (Step1 (Int × (List UInt8) × (List UInt8) × (List UInt8) × (List UInt8) × Int × Int × Int × Int × Int) ((List UInt8) × (List UInt8) × (List UInt8) × (List UInt8) × Int × Int × Int × Int × Int)) := fun (s2, s3, s4, s5, s6, s7, s8, s9, s10, s11) =>
  if (decide (s2 < (a0.length : Int))) = true then ((getO a0 s2).bind fun x23 => (fb x23 (ag.mk (am.mk s3 s4 s5 s6) s7 s8 s9 s10 s11)).bind fun x24 => if (decide (x24 < (0 : Int))) = true then ((getO a0 s2).bind fun x26 => some (.next ((IntKind.wrap .i64 (s2 + (1 : Int))), x26.ah.aC, x26.ah.aE, x26.ah.ac, x26.ah.aD, x26.aF, x26.aJ, x26.aN, x26.au, x26.av))) else (some (.next ((IntKind.wrap .i64 (s2 + (1 : Int))), s3, s4, s5, s6, s7, s8, s9, s10, s11)))) else (some (.stop (s3, s4, s5, s6, s7, s8, s9, s10, s11)))
noncomputable def jt (a0 : (List ag)) : Option (ag) :=
  (getO a0 (0 : Int)).bind fun x1 => (loopO (kj a0) ((1 : Int), x1.ah.aC, x1.ah.aE, x1.ah.ac, x1.ah.aD, x1.aF, x1.aJ, x1.aN, x1.au, x1.av)).bind fun o28 => some (ag.mk (am.mk o28.1 o28.2.1 o28.2.2.1 o28.2.2.2.1) o28.2.2.2.2.1 o28.2.2.2.2.2.1 o28.2.2.2.2.2.2.1 o28.2.2.2.2.2.2.2.1 o28.2.2.2.2.2.2.2.2)
noncomputable def kc (s2 : (List ag)) (a0 : (List ag)) (s1 : Int) : Int → Option (Step1 (Int) (Int × Int × (List ag))) := fun s6 =>
  if (decide (s6 > (0 : Int))) = true then ((inO s2 (IntKind.wrap .i64 (s6 - (1 : Int)))).bind fun x13 => (getO s2 (IntKind.wrap .i64 (s6 - (1 : Int)))).bind fun x14 => (getO a0 s1).bind fun x15 => (fa x14 x15).bind fun x16 => if (decide (x16 > (0 : Int))) = true then (some (.next (IntKind.wrap .i64 (s6 - (1 : Int))))) else (some (.stop (s1, s6, s2)))) else (some (.stop (s1, s6, s2)))
noncomputable def eJ (a0 : (List ag)) (o19 : Int × Int × (List ag)) : Option (Step1 (Int × (List ag)) ((List ag))) :=
  (getO a0 o19.1).bind fun x20 => (appO o19.2.2 [x20] 104).bind fun x21 => (subO x21.length (IntKind.wrap .i64 (o19.2.1 + (1 : Int))) (x21.length : Int)).bind fun x22 => (subO x21.length o19.2.1 (x21.length : Int)).bind fun x23 => (viewO x21.length (0 + ((IntKind.wrap .i64 (o19.2.1 + (1 : Int))) : Int).toNat) (0 + ((x21.length : Int) : Int).toNat)).bind fun x24 => (partO x21 (0 + (o19.2.1 : Int).toNat) (0 + ((x21.length : Int) : Int).toNat)).bind fun x25 => (getO a0 o19.1).bind fun x27 => (inO (copyL x21 (0 + ((IntKind.wrap .i64 (o19.2.1 + (1 : Int))) : Int).toNat) ((0 + ((x21.length : Int) : Int).toNat) - (0 + ((IntKind.wrap .i64 (o19.2.1 + (1 : Int))) : Int).toNat)) x25) o19.2.1).bind fun x29 => (setO (copyL x21 (0 + ((IntKind.wrap .i64 (o19.2.1 + (1 : Int))) : Int).toNat) ((0 + ((x21.length : Int) : Int).toNat) - (0 + ((IntKind.wrap .i64 (o19.2.1 + (1 : Int))) : Int).toNat)) x25) o19.2.1 x27).bind fun x30 => some (.next ((IntKind.wrap .i64 (o19.1 + (1 : Int))), x30))
noncomputable def kd (a0 : (List ag)) : (Int × (List ag)) → Option (Step1 (Int × (List ag)) ((List ag))) := fun (s1, s2) =>
  if (decide (s1 < (a0.length : Int))) = true then ((loopO (kc s2 a0 s1) (s2.length : Int)).bind fun o19 => if (decide (o19.2.1 > (0 : Int))) = true then ((inO o19.2.2 (IntKind.wrap .i64 (o19.2.1 - (1 : Int)))).bind fun x34 => (getO o19.2.2 (IntKind.wrap .i64 (o19.2.1 - (1 : Int)))).bind fun x35 => (getO a0 o19.1).bind fun x36 => if (((x35.ah.aC == x36.ah.aC) && ((x35.ah.aE == x36.ah.aE) && ((x35.ah.ac == x36.ah.ac) && ((x35.ah.aD == x36.ah.aD) && true)))) && ((x35.aF == x36.aF) && ((x35.aJ == x36.aJ) && ((x35.aN == x36.aN) && ((x35.au == x36.au) && ((x35.av == x36.av) && true)))))) = true then (some (.next ((IntKind.wrap .i64 (o19.1 + (1 : Int))), o19.2.2))) else (eJ a0 o19)) else (eJ a0 o19)) else (some (.stop s2))
noncomputable def jr (a0 : (List ag)) : Option ((List ag)) :=
  (loopO (kd a0) ((0 : Int), ([] : (List ag)))).bind fun o39 => some o39
noncomputable def gp (a1 : (List ag)) (a0 : (List ag)) (s1 : Int) : Int → Option (Step1 (Int) ((Int) ⊕ (Bool))) := fun s4 =>
  if (decide (s4 < (a1.length : Int))) = true then ((getO a0 s1).bind fun x8 => (getO a1 s4).bind fun x9 => if (((x8.ah.aC == x9.ah.aC) && ((x8.ah.aE == x9.ah.aE) && ((x8.ah.ac == x9.ah.ac) && ((x8.ah.aD == x9.ah.aD) && true)))) && ((x8.aF == x9.aF) && ((x8.aJ == x9.aJ) && ((x8.aN == x9.aN) && ((x8.au == x9.au) && ((x8.av == x9.av) && true)))))) = true then (some (.stop (.inr true))) else (some (.next (IntKind.wrap .i64 (s4 + (1 : Int)))))) else (some (.stop (.inl s1)))
noncomputable def je (a0 : (List ag)) (a1 : (List ag)) : Int → Option (Step1 (Int) ((Unit) ⊕ (Bool))) := fun s1 =>
  if (decide (s1 < (a0.length : Int))) = true then ((loopO (gp a1 a0 s1) (0 : Int)).bind fun o12 => match o12 with | .inl y13 => (some (.next (IntKind.wrap .i64 (y13 + (1 : Int))))) | .inr r14 => (some (.stop (.inr r14)))) else (some (.stop (.inl ())))
noncomputable def fS (a0 : (List ag)) (a1 : (List ag)) : Option (Bool) :=
  (loopO (je a0 a1) (0 : Int)).bind fun o16 => match o16 with | .inl y17 => (some false) | .inr r18 => (some r18)
noncomputable def jI (s1 : Int) (a0 : (List ar)) (x4 : ar) : Int → Option (Step1 (Int) ((Int) ⊕ (Bool))) := fun s5 =>
  if (decide (s5 < s1)) = true then ((getO a0 s5).bind fun x9 => (fS x4.aa.aK x9.aa.aK).bind fun x10 => if x10 = true then (some (.stop (.inr false))) else (some (.next (IntKind.wrap .i64 (s5 + (1 : Int)))))) else (some (.stop (.inl s1)))
noncomputable def em (s1 : Int) (a0 : (List ar)) (x4 : ar) : Option (Step1 (Int) ((Unit) ⊕ (Bool))) :=
  (loopO (jI s1 a0 x4) (0 : Int)).bind fun o13 => match o13 with | .inl y14 => (some (.next (IntKind.wrap .i64 (y14 + (1 : Int))))) | .inr r15 => (some (.stop (.inr r15)))
noncomputable def jJ (a0 : (List ar)) : Int → Option (Step1 (Int) ((Unit) ⊕ (Bool))) := fun s1 =>
  if (decide (s1 < (a0.length : Int))) = true then ((getO a0 s1).bind fun x4 => if ((x4.aa.aK.length : Int) == (0 : Int)) = true then (some (.stop (.inr false))) else ((getO a0 s1).bind fun x18 => (jt x4.aa.aK).bind fun x19 => if (!(((x18.ak.ah.aC == x19.ah.aC) && ((x18.ak.ah.aE == x19.ah.aE) && ((x18.ak.ah.ac == x19.ah.ac) && ((x18.ak.ah.aD == x19.ah.aD) && true)))) && ((x18.ak.aF == x19.aF) && ((x18.ak.aJ == x19.aJ) && ((x18.ak.aN == x19.aN) && ((x18.ak.au == x19.au) && ((x18.ak.av == x19.av) && true))))))) = true then (some (.stop (.inr false))) else ((jr x4.aa.aK).bind fun x21 => (cB x4.aa.aK x21).bind fun x22 => if (!x22) = true then (some (.stop (.inr false))) else (if (decide (s1 > (0 : Int))) = true then ((getO a0 (IntKind.wrap .i64 (s1 - (1 : Int)))).bind fun x25 => (getO a0 s1).bind fun x26 => (fb x25.ak x26.ak).bind fun x27 => if (decide (x27 ≥ (0 : Int))) = true then (some (.stop (.inr false))) else (em s1 a0 x4)) else (em s1 a0 x4))))) else (some (.stop (.inl ())))
noncomputable def iJ (a0 : (List ar)) : Option (Bool) :=
  (loopO (jJ a0) (0 : Int)).bind fun o30 => match o30 with | .inl y31 => (some true) | .inr r32 => (some r32)
noncomputable def jf (a1 : (List aL)) (a4 : Int) : Int → Option (Step1 (Int) ((Unit) ⊕ (Int))) := fun s5 =>
  if (decide (s5 < (a1.length : Int))) = true then ((getO a1 s5).bind fun x8 => if (decide (a4 < x8.fAt)) = true then (some (.stop (.inr (9 : Int)))) else (some (.next (IntKind.wrap .i64 (s5 + (1 : Int)))))) else (some (.stop (.inl ())))
noncomputable def d7 (a4 : Int) (a1 : (List aL)) : Option (Int) :=
  if (decide (a4 < (0 : Int))) = true then (some (2 : Int)) else (if (decide (a4 > (18014398509481984 : Int))) = true then (some (2 : Int)) else ((loopO (jf a1 a4) (0 : Int)).bind fun o11 => match o11 with | .inl y12 => (some (0 : Int)) | .inr r13 => (some r13)))
noncomputable def hU (a0 : aX) (a1 : (List aL)) (a2 : Int) (a3 : (List ar)) (a4 : Int) : Option (Int) :=
  (dZ a0).bind fun x1 => if (x1 != (0 : Int)) = true then (some (27 : Int)) else ((iM a1).bind fun x15 => if (!x15) = true then (some (1 : Int)) else ((iJ a3).bind fun x17 => if (!x17) = true then (some (1 : Int)) else (if (decide (a2 < (0 : Int))) = true then (some (1 : Int)) else (if (decide ((a1.length : Int) > (0 : Int))) = true then ((getO a1 (IntKind.wrap .i64 ((a1.length : Int) - (1 : Int)))).bind fun x21 => if (decide (a2 ≤ x21.fID)) = true then (some (1 : Int)) else (d7 a4 a1)) else (d7 a4 a1)))))
noncomputable def kg (a0 : (List ar)) (a1 : ag) : Int → Option (Step1 (Int) ((Unit) ⊕ (Int))) := fun s1 =>
  if (decide (s1 < (a0.length : Int))) = true then ((getO a0 s1).bind fun x4 => if (((x4.ak.ah.aC == a1.ah.aC) && ((x4.ak.ah.aE == a1.ah.aE) && ((x4.ak.ah.ac == a1.ah.ac) && ((x4.ak.ah.aD == a1.ah.aD) && true)))) && ((x4.ak.aF == a1.aF) && ((x4.ak.aJ == a1.aJ) && ((x4.ak.aN == a1.aN) && ((x4.ak.au == a1.au) && ((x4.ak.av == a1.av) && true)))))) = true then (some (.stop (.inr s1))) else (some (.next (IntKind.wrap .i64 (s1 + (1 : Int)))))) else (some (.stop (.inl ())))
noncomputable def iI (a0 : (List ar)) (a1 : ag) : Option (Int) :=
  (loopO (kg a0 a1) (0 : Int)).bind fun o7 => match o7 with | .inl y8 => (some (-1 : Int)) | .inr r9 => (some r9)
noncomputable def lj (d0 : (List Int)) (a1 : Int) : Int → Option (Step1 (Int) ((Unit) ⊕ (Bool × (List Int)))) := fun s1 =>
  if (decide (s1 < (d0.length : Int))) = true then ((inO d0 s1).bind fun x5 => (getO d0 s1).bind fun x6 => if (x6 == a1) = true then (some (.stop (.inr (true, d0)))) else (some (.next (IntKind.wrap .i64 (s1 + (1 : Int)))))) else (some (.stop (.inl ())))
noncomputable def jj (a1 : Int) (d0 : (List Int)) : Option (Bool × (List Int)) :=
  (loopO (lj d0 a1) (0 : Int)).bind fun o9 => match o9 with | .inl y10 => (some (false, d0)) | .inr r11 => (some r11)
noncomputable def ref36_common_l11 (a1 : (List ag)) (a0 : (List ag)) (s1 : Int) : Int → Option (Step1 (Int) ((Int) ⊕ (Bool))) := fun s4 =>
  if (decide (s4 < (a1.length : Int))) = true then ((getO a0 s1).bind fun x8 => (getO a1 s4).bind fun x9 => if (((x8.ah.aC == x9.ah.aC) && ((x8.ah.aE == x9.ah.aE) && ((x8.ah.ac == x9.ah.ac) && ((x8.ah.aD == x9.ah.aD) && true)))) && ((x8.aF == x9.aF) && ((x8.aJ == x9.aJ) && ((x8.aN == x9.aN) && ((x8.au == x9.au) && ((x8.av == x9.av) && true)))))) = true then (some (.stop (.inr true))) else (some (.next (IntKind.wrap .i64 (s4 + (1 : Int)))))) else (some (.stop (.inl s1)))
noncomputable def ref36_common_l15 (a0 : (List ag)) (a1 : (List ag)) : Int → Option (Step1 (Int) ((Unit) ⊕ (Bool))) := fun s1 =>
  if (decide (s1 < (a0.length : Int))) = true then ((loopO (ref36_common_l11 a1 a0 s1) (0 : Int)).bind fun o12 => match o12 with | .inl y13 => (some (.next (IntKind.wrap .i64 (y13 + (1 : Int))))) | .inr r14 => (some (.stop (.inr r14)))) else (some (.stop (.inl ())))
noncomputable def jv (a0 : (List ag)) (a1 : (List ag)) : Option (Bool) :=
  (loopO (ref36_common_l15 a0 a1) (0 : Int)).bind fun o16 => match o16 with | .inl y17 => (some false) | .inr r18 => (some r18)
noncomputable def d8 (s2 : (List Int)) (s1 : Int) (j6 : Int) : Option (Step1 (Int × (List Int)) ((List Int))) :=
  (jj j6 s2).bind fun x7 => if x7.1 = true then ((appO x7.2 [-1] 8).bind fun x9 => some (.next ((IntKind.wrap .i64 (s1 + (1 : Int))), x9))) else ((appO x7.2 [j6] 8).bind fun x10 => some (.next ((IntKind.wrap .i64 (s1 + (1 : Int))), x10)))
noncomputable def jg (a0 : (List aL)) (a1 : (List ar)) : (Int × (List Int)) → Option (Step1 (Int × (List Int)) ((List Int))) := fun (s1, s2) =>
  if (decide (s1 < (a0.length : Int))) = true then ((getO a0 s1).bind fun x12 => if (!x12.br) = true then ((getO a0 s1).bind fun x14 => (iI a1 x14.ak).bind fun x15 => d8 s2 s1 x15) else (d8 s2 s1 (-1 : Int))) else (some (.stop s2))
noncomputable def jh (a1 : (List ar)) (s18 : Int) (a0 : (List aL)) : (Int × (List Int)) → Option (Step1 (Int × (List Int)) (Int × (List Int))) := fun (s23, s24) =>
  if (decide (s23 < (a1.length : Int))) = true then ((inO s24 s18).bind fun x30 => (getO s24 s18).bind fun x31 => if (decide (x31 < (0 : Int))) = true then ((getO a0 s18).bind fun x33 => if (!x33.br) = true then ((jj s23 s24).bind fun x35 => if (!x35.1) = true then ((getO a0 s18).bind fun x37 => (getO a1 s23).bind fun x38 => (jv x37.ae.aa.aK x38.aa.aK).bind fun x39 => if x39 = true then ((inO x35.2 s18).bind fun x42 => (setO x35.2 s18 s23).bind fun x43 => some (.next ((IntKind.wrap .i64 (s23 + (1 : Int))), x43))) else (some (.next ((IntKind.wrap .i64 (s23 + (1 : Int))), x35.2)))) else (some (.next ((IntKind.wrap .i64 (s23 + (1 : Int))), x35.2)))) else (some (.stop (s18, s24)))) else (some (.stop (s18, s24)))) else (some (.stop (s18, s24)))
noncomputable def ji (a0 : (List aL)) (a1 : (List ar)) : (Int × (List Int)) → Option (Step1 (Int × (List Int)) ((List Int))) := fun (s18, s19) =>
  if (decide (s18 < (a0.length : Int))) = true then ((loopO (jh a1 s18 a0) ((0 : Int), s19)).bind fun o45 => some (.next ((IntKind.wrap .i64 (o45.1 + (1 : Int))), o45.2))) else (some (.stop s19))
noncomputable def hX (a0 : (List aL)) (a1 : (List ar)) : Option ((List Int)) :=
  (loopO (jg a0 a1) ((0 : Int), ([] : (List Int)))).bind fun o17 => (loopO (ji a0 a1) ((0 : Int), o17)).bind fun o47 => some o47
noncomputable def iK (a0 : bj) (a1 : ar) : Option (Bool) :=
  if (decide (a1.aa.aU ≥ (1 : Int))) = true then (if (decide (a1.aa.aq.aI ≥ a0.aq)) = true then (if (decide ((a1.aa.aK.length : Int) ≥ a0.aK)) = true then (some (decide (a1.aa.ac.aO ≤ a0.aO))) else (some false)) else (some false)) else (some false)
noncomputable def jL (a0 : aX) (a1 : ar) : (Int × Int) → Option (Step1 (Int × Int) (Int)) := fun (s1, s2) =>
  if (decide (s2 < (a0.bN.length : Int))) = true then ((dZ a0).bind fun x6 => if (x6 == (0 : Int)) = true then ((getO a0.bN s2).bind fun x8 => (iK x8 a1).bind fun x9 => if x9 = true then (some (.next ((IntKind.wrap .i64 (s2 + (1 : Int))), (IntKind.wrap .i64 (s2 + (1 : Int)))))) else (some (.next (s1, (IntKind.wrap .i64 (s2 + (1 : Int))))))) else (some (.stop s1))) else (some (.stop s1))
noncomputable def dL (a0 : aX) (a1 : ar) : Option (Int) :=
  (loopO (jL a0 a1) ((0 : Int), (0 : Int))).bind fun o12 => some o12
noncomputable def kf (a0 : aG) (a1 : aG) : Option (Bool) :=
  some (decide ((if a1.aI > a0.aI then a1.aI else a0.aI) ≤ (if a1.az < a0.az then a1.az else a0.az)))
noncomputable def gF (a0 : aj) : Option (Bool) :=
  if (decide (a0.fX ≥ (-1048576 : Int))) = true then (if (decide (a0.fX ≤ (1048576 : Int))) = true then (if (decide (a0.fY ≥ (-1048576 : Int))) = true then (if (decide (a0.fY ≤ (1048576 : Int))) = true then (if (decide (a0.fZ ≥ (-16384 : Int))) = true then (some (decide (a0.fZ ≤ (1048576 : Int)))) else (some false)) else (some false)) else (some false)) else (some false)) else (some false)
noncomputable def fQ (a0 : Int) : Option (Int) :=
  some (IntKind.wrap .i64 (a0 * a0))
noncomputable def hP (a0 : aj) (a1 : aj) : Option (Int) :=
  (gF a0).bind fun x1 => if (!x1) = true then (some (0 : Int)) else ((gF a1).bind fun x3 => if (!x3) = true then (some (0 : Int)) else ((fQ (IntKind.wrap .i64 (a0.fX - a1.fX))).bind fun x5 => (fQ (IntKind.wrap .i64 (a0.fY - a1.fY))).bind fun x6 => (fQ (IntKind.wrap .i64 (a0.fZ - a1.fZ))).bind fun x7 => some (IntKind.wrap .i64 ((IntKind.wrap .i64 (x5 + x6)) + x7))))
noncomputable def fT (a2 : ar) (a1 : ar) (a0 : aX) : Option (Bool) :=
  some (decide ((if (IntKind.wrap .i64 (a2.aa.ac.aF - a1.aa.ac.aF)) > (IntKind.wrap .i64 (a1.aa.ac.aF - a2.aa.ac.aF)) then (IntKind.wrap .i64 (a2.aa.ac.aF - a1.aa.ac.aF)) else (IntKind.wrap .i64 (a1.aa.ac.aF - a2.aa.ac.aF))) > a0.bO))
noncomputable def iL (a0 : aX) (a1 : ar) (a2 : ar) : Option (Bool) :=
  (dZ a0).bind fun x1 => if (x1 != (0 : Int)) = true then (some false) else ((dL a0 a1).bind fun x3 => (dL a0 a2).bind fun x4 => if (x3 != x4) = true then (some true) else ((kf a1.aa.aq a2.aa.aq).bind fun x6 => if (!x6) = true then (some true) else (if (decide (a0.bO ≤ (4194304 : Int))) = true then ((hP a1.aa.ac.aA a2.aa.ac.aA).bind fun x10 => if (decide (x10 > (IntKind.wrap .i64 (a0.bO * a0.bO)))) = true then (some true) else (fT a2 a1 a0)) else (fT a2 a1 a0))))
noncomputable def kM (a0 : (List Int)) (a1 : Int) : Int → Option (Step1 (Int) ((Unit) ⊕ (Bool))) := fun s1 =>
  if (decide (s1 < (a0.length : Int))) = true then ((getO a0 s1).bind fun x4 => if (x4 == a1) = true then (some (.stop (.inr true))) else (some (.next (IntKind.wrap .i64 (s1 + (1 : Int)))))) else (some (.stop (.inl ())))
noncomputable def jx (a0 : (List Int)) (a1 : Int) : Option (Bool) :=
  (loopO (kM a0 a1) (0 : Int)).bind fun o7 => match o7 with | .inl y8 => (some false) | .inr r9 => (some r9)
noncomputable def hT (a0 : aX) (a1 : ar) (a2 : Int) : Option (Bool) :=
  (dL a0 a1).bind fun x1 => if (x1 == (0 : Int)) = true then (some false) else (if (decide ((IntKind.wrap .i64 (a2 - a1.aa.ac.aF)) ≥ (0 : Int))) = true then ((getO a0.bN (IntKind.wrap .i64 (x1 - (1 : Int)))).bind fun x4 => some (decide ((IntKind.wrap .i64 (a2 - a1.aa.ac.aF)) ≤ x4.iC))) else (some false))
noncomputable def cI (s6 : (List ai)) (a2 : Int) (x11 : aL) (a4 : Int) (s5 : (List aL)) (j12 : (List UInt8)) (j13 : (List UInt8)) (j14 : (List UInt8)) (j15 : (List UInt8)) (j16 : Int) (j17 : Int) (j18 : Int) (j19 : Int) (j20 : Int) (s4 : Int) (j21 : Int) (j22 : Bool) (j23 : Int) (j24 : (List UInt8)) (j25 : (List UInt8)) (j26 : (List UInt8)) (j27 : (List UInt8)) (j28 : Int) (j29 : Int) (j30 : Int) (j31 : Int) (j32 : Int) (j33 : (List ag)) (j34 : Int) (j35 : Int) (j36 : Int) (j37 : Int) (j38 : Int) (j39 : Int) (j40 : Int) (j41 : Int) (j42 : Int) (j43 : Int) (j44 : Int) (j45 : Int) (j46 : Int) (j47 : Int) (j48 : Int) : Option (Step1 (Int × (List aL) × (List ai)) ((List aL) × (List ai))) :=
  if (decide (j21 > (0 : Int))) = true then ((appO s6 [(ai.mk (IntKind.wrap .i64 (a2 + (s6.length : Int))) j21 x11.fID a4 j23 (ar.mk (ag.mk (am.mk j24 j25 j26 j27) j28 j29 j30 j31 j32) (aw.mk j33 (aB.mk (aj.mk j34 j35 j36) j37 j38 j39 (aP.mk (aj.mk j40 j41 j42) (aj.mk j43 j44 j45))) (aG.mk j46 j47) j48)))] 288).bind fun x50 => (appO s5 [(aL.mk x11.fID j22 (ag.mk (am.mk j12 j13 j14 j15) j16 j17 j18 j19 j20) j23 (ar.mk (ag.mk (am.mk j24 j25 j26 j27) j28 j29 j30 j31 j32) (aw.mk j33 (aB.mk (aj.mk j34 j35 j36) j37 j38 j39 (aP.mk (aj.mk j40 j41 j42) (aj.mk j43 j44 j45))) (aG.mk j46 j47) j48)) a4)] 384).bind fun x51 => some (.next ((IntKind.wrap .i64 (s4 + (1 : Int))), x51, x50))) else ((appO s5 [(aL.mk x11.fID j22 (ag.mk (am.mk j12 j13 j14 j15) j16 j17 j18 j19 j20) j23 (ar.mk (ag.mk (am.mk j24 j25 j26 j27) j28 j29 j30 j31 j32) (aw.mk j33 (aB.mk (aj.mk j34 j35 j36) j37 j38 j39 (aP.mk (aj.mk j40 j41 j42) (aj.mk j43 j44 j45))) (aG.mk j46 j47) j48)) x11.fAt)] 384).bind fun x52 => some (.next ((IntKind.wrap .i64 (s4 + (1 : Int))), x52, s6)))
noncomputable def eM (x3 : (List Int)) (s4 : Int) (x11 : aL) (s6 : (List ai)) (a2 : Int) (a4 : Int) (s5 : (List aL)) (a3 : (List ar)) (a0 : aX) (j12 : (List UInt8)) (j13 : (List UInt8)) (j14 : (List UInt8)) (j15 : (List UInt8)) (j16 : Int) (j17 : Int) (j18 : Int) (j19 : Int) (j20 : Int) : Option (Step1 (Int × (List aL) × (List ai)) ((List aL) × (List ai))) :=
  (getO x3 s4).bind fun x54 => if x11.br = true then (cI s6 a2 x11 a4 s5 j12 j13 j14 j15 j16 j17 j18 j19 j20 s4 (0 : Int) x11.br x11.aW x11.ae.ak.ah.aC x11.ae.ak.ah.aE x11.ae.ak.ah.ac x11.ae.ak.ah.aD x11.ae.ak.aF x11.ae.ak.aJ x11.ae.ak.aN x11.ae.ak.au x11.ae.ak.av x11.ae.aa.aK x11.ae.aa.ac.aA.fX x11.ae.aa.ac.aA.fY x11.ae.aa.ac.aA.fZ x11.ae.aa.ac.aF x11.ae.aa.ac.aO x11.ae.aa.ac.aV x11.ae.aa.ac.ap.aI.fX x11.ae.aa.ac.ap.aI.fY x11.ae.aa.ac.ap.aI.fZ x11.ae.aa.ac.ap.az.fX x11.ae.aa.ac.ap.az.fY x11.ae.aa.ac.ap.az.fZ x11.ae.aa.aq.aI x11.ae.aa.aq.az x11.ae.aa.aU) else (if (decide (x54 < (0 : Int))) = true then (cI s6 a2 x11 a4 s5 j12 j13 j14 j15 j16 j17 j18 j19 j20 s4 (3 : Int) true x11.aW x11.ae.ak.ah.aC x11.ae.ak.ah.aE x11.ae.ak.ah.ac x11.ae.ak.ah.aD x11.ae.ak.aF x11.ae.ak.aJ x11.ae.ak.aN x11.ae.ak.au x11.ae.ak.av x11.ae.aa.aK x11.ae.aa.ac.aA.fX x11.ae.aa.ac.aA.fY x11.ae.aa.ac.aA.fZ x11.ae.aa.ac.aF x11.ae.aa.ac.aO x11.ae.aa.ac.aV x11.ae.aa.ac.ap.aI.fX x11.ae.aa.ac.ap.aI.fY x11.ae.aa.ac.ap.aI.fZ x11.ae.aa.ac.ap.az.fX x11.ae.aa.ac.ap.az.fY x11.ae.aa.ac.ap.az.fZ x11.ae.aa.aq.aI x11.ae.aa.aq.az x11.ae.aa.aU) else ((getO a3 x54).bind fun x57 => (dL a0 x57).bind fun x58 => if (x58 == (0 : Int)) = true then (cI s6 a2 x11 a4 s5 j12 j13 j14 j15 j16 j17 j18 j19 j20 s4 (3 : Int) true x11.aW x11.ae.ak.ah.aC x11.ae.ak.ah.aE x11.ae.ak.ah.ac x11.ae.ak.ah.aD x11.ae.ak.aF x11.ae.ak.aJ x11.ae.ak.aN x11.ae.ak.au x11.ae.ak.av x11.ae.aa.aK x11.ae.aa.ac.aA.fX x11.ae.aa.ac.aA.fY x11.ae.aa.ac.aA.fZ x11.ae.aa.ac.aF x11.ae.aa.ac.aO x11.ae.aa.ac.aV x11.ae.aa.ac.ap.aI.fX x11.ae.aa.ac.ap.aI.fY x11.ae.aa.ac.ap.aI.fZ x11.ae.aa.ac.ap.az.fX x11.ae.aa.ac.ap.az.fY x11.ae.aa.ac.ap.az.fZ x11.ae.aa.aq.aI x11.ae.aa.aq.az x11.ae.aa.aU) else ((getO a3 x54).bind fun x60 => (iL a0 x11.ae x60).bind fun x61 => if x61 = true then (if (decide ((IntKind.wrap .i64 (a4 - x11.fAt)) ≥ a0.dP)) = true then ((getO a3 x54).bind fun x64 => (dL a0 x64).bind fun x65 => (getO a3 x54).bind fun x66 => cI s6 a2 x11 a4 s5 j12 j13 j14 j15 j16 j17 j18 j19 j20 s4 (2 : Int) x11.br x65 x66.ak.ah.aC x66.ak.ah.aE x66.ak.ah.ac x66.ak.ah.aD x66.ak.aF x66.ak.aJ x66.ak.aN x66.ak.au x66.ak.av x66.aa.aK x66.aa.ac.aA.fX x66.aa.ac.aA.fY x66.aa.ac.aA.fZ x66.aa.ac.aF x66.aa.ac.aO x66.aa.ac.aV x66.aa.ac.ap.aI.fX x66.aa.ac.ap.aI.fY x66.aa.ac.ap.aI.fZ x66.aa.ac.ap.az.fX x66.aa.ac.ap.az.fY x66.aa.ac.ap.az.fZ x66.aa.aq.aI x66.aa.aq.az x66.aa.aU) else (cI s6 a2 x11 a4 s5 j12 j13 j14 j15 j16 j17 j18 j19 j20 s4 (0 : Int) x11.br x11.aW x11.ae.ak.ah.aC x11.ae.ak.ah.aE x11.ae.ak.ah.ac x11.ae.ak.ah.aD x11.ae.ak.aF x11.ae.ak.aJ x11.ae.ak.aN x11.ae.ak.au x11.ae.ak.av x11.ae.aa.aK x11.ae.aa.ac.aA.fX x11.ae.aa.ac.aA.fY x11.ae.aa.ac.aA.fZ x11.ae.aa.ac.aF x11.ae.aa.ac.aO x11.ae.aa.ac.aV x11.ae.aa.ac.ap.aI.fX x11.ae.aa.ac.ap.aI.fY x11.ae.aa.ac.ap.aI.fZ x11.ae.aa.ac.ap.az.fX x11.ae.aa.ac.ap.az.fY x11.ae.aa.ac.ap.az.fZ x11.ae.aa.aq.aI x11.ae.aa.aq.az x11.ae.aa.aU)) else (cI s6 a2 x11 a4 s5 j12 j13 j14 j15 j16 j17 j18 j19 j20 s4 (0 : Int) x11.br x11.aW x11.ae.ak.ah.aC x11.ae.ak.ah.aE x11.ae.ak.ah.ac x11.ae.ak.ah.aD x11.ae.ak.aF x11.ae.ak.aJ x11.ae.ak.aN x11.ae.ak.au x11.ae.ak.av x11.ae.aa.aK x11.ae.aa.ac.aA.fX x11.ae.aa.ac.aA.fY x11.ae.aa.ac.aA.fZ x11.ae.aa.ac.aF x11.ae.aa.ac.aO x11.ae.aa.ac.aV x11.ae.aa.ac.ap.aI.fX x11.ae.aa.ac.ap.aI.fY x11.ae.aa.ac.ap.aI.fZ x11.ae.aa.ac.ap.az.fX x11.ae.aa.ac.ap.az.fY x11.ae.aa.ac.ap.az.fZ x11.ae.aa.aq.aI x11.ae.aa.aq.az x11.ae.aa.aU))))
noncomputable def iw (a1 : (List aL)) (x3 : (List Int)) (a3 : (List ar)) (a2 : Int) (a4 : Int) (a0 : aX) : (Int × (List aL) × (List ai)) → Option (Step1 (Int × (List aL) × (List ai)) ((List aL) × (List ai))) := fun (s4, s5, s6) =>
  if (decide (s4 < (a1.length : Int))) = true then ((getO a1 s4).bind fun x11 => (getO x3 s4).bind fun x68 => if (decide (x68 ≥ (0 : Int))) = true then ((getO x3 s4).bind fun x70 => (getO a3 x70).bind fun x71 => eM x3 s4 x11 s6 a2 a4 s5 a3 a0 x71.ak.ah.aC x71.ak.ah.aE x71.ak.ah.ac x71.ak.ah.aD x71.ak.aF x71.ak.aJ x71.ak.aN x71.ak.au x71.ak.av) else (eM x3 s4 x11 s6 a2 a4 s5 a3 a0 x11.ak.ah.aC x11.ak.ah.aE x11.ak.ah.ac x11.ak.ah.aD x11.ak.aF x11.ak.aJ x11.ak.aN x11.ak.au x11.ak.av)) else (some (.stop (s5, s6)))
noncomputable def ix (a3 : (List ar)) (x3 : (List Int)) (a0 : aX) (a4 : Int) (a2 : Int) : (Int × (List aL) × (List ai)) → Option (Step1 (Int × (List aL) × (List ai)) ((List aL) × (List ai))) := fun (s74, s75, s76) =>
  if (decide (s74 < (a3.length : Int))) = true then ((jx x3 s74).bind fun x81 => if x81 = true then (some (.next ((IntKind.wrap .i64 (s74 + (1 : Int))), s75, s76))) else ((getO a3 s74).bind fun x83 => (hT a0 x83 a4).bind fun x84 => if (!x84) = true then (some (.next ((IntKind.wrap .i64 (s74 + (1 : Int))), s75, s76))) else ((getO a3 s74).bind fun x86 => (getO a3 s74).bind fun x87 => (dL a0 x87).bind fun x88 => (getO a3 s74).bind fun x89 => (appO s76 [(ai.mk (IntKind.wrap .i64 (a2 + (s76.length : Int))) 1 (IntKind.wrap .i64 (a2 + (s76.length : Int))) a4 x88 x89)] 288).bind fun x90 => (appO s75 [(aL.mk (IntKind.wrap .i64 (a2 + (s76.length : Int))) false x86.ak x88 x89 a4)] 384).bind fun x91 => some (.next ((IntKind.wrap .i64 (s74 + (1 : Int))), x91, x90))))) else (some (.stop (s75, s76)))
noncomputable def ju (a0 : aX) (a1 : (List aL)) (a2 : Int) (a3 : (List ar)) (a4 : Int) : Option ((List aL) × (List ai) × Int) :=
  (hU a0 a1 a2 a3 a4).bind fun x1 => if (x1 != (0 : Int)) = true then (some (([] : (List aL)), ([] : (List ai)), x1)) else ((hX a1 a3).bind fun x3 => (loopO (iw a1 x3 a3 a2 a4 a0) ((0 : Int), ([] : (List aL)), ([] : (List ai)))).bind fun o73 => (loopO (ix a3 x3 a0 a4 a2) ((0 : Int), o73.1, o73.2)).bind fun o93 => if (decide ((o93.1.length : Int) > (200 : Int))) = true then (some (([] : (List aL)), ([] : (List ai)), (8 : Int))) else (if (decide ((IntKind.wrap .i64 (a2 + (o93.2.length : Int))) > (1000 : Int))) = true then (if (decide ((o93.2.length : Int) > (0 : Int))) = true then (some (([] : (List aL)), ([] : (List ai)), (8 : Int))) else (some (o93.1, o93.2, (0 : Int)))) else (some (o93.1, o93.2, (0 : Int)))))
noncomputable def j3 (a1 : Int) (x1 : aX × aH) : ((List aL) × Int × Int × (List Int) × Int × (List ai)) → Option (Step1 ((List aL) × Int × Int × (List Int) × Int × (List ai)) ((List ai) × (List Int) × Int)) := fun (s2, s3, s4, s5, s6, s7) =>
  if (decide (s4 < a1)) = true then ((dT (400 : Int) (aH.mk s5 s6)).bind fun x13 => (jn (4 : Int) x13.2).bind fun x14 => (ju x1.1 s2 (s7.length : Int) x14.1 (IntKind.wrap .i64 (s3 + x13.1))).bind fun x15 => if (x15.2.2 == (0 : Int)) = true then ((appO s7 x15.2.1 288).bind fun x17 => some (.next (x15.1, (IntKind.wrap .i64 (s3 + x13.1)), (IntKind.wrap .i64 (s4 + (1 : Int))), x14.2.fL, x14.2.fAt, x17))) else (some (.next (s2, (IntKind.wrap .i64 (s3 + x13.1)), (IntKind.wrap .i64 (s4 + (1 : Int))), x14.2.fL, x14.2.fAt, s7)))) else (some (.stop (s7, s5, s6)))
noncomputable def jq (a1 : Int) (d0 : aH) : Option ((List ai) × aH) :=
  (jo d0).bind fun x1 => (loopO (j3 a1 x1) (([] : (List aL)), (1000 : Int), (0 : Int), x1.2.fL, x1.2.fAt, ([] : (List ai)))).bind fun o19 => some (o19.1, (aH.mk o19.2.1 o19.2.2))
noncomputable def hH (a1 : ag) (d0 : aH) : Option (ag × aH) :=
  (dT (5 : Int) d0).bind fun x1 => if (x1.1 == (0 : Int)) = true then (some ((ag.mk (am.mk a1.ah.aC [] a1.ah.ac a1.ah.aD) a1.aF a1.aJ a1.aN a1.au a1.av), x1.2)) else (if (x1.1 == (1 : Int)) = true then (some ((ag.mk a1.ah a1.aF (IntKind.wrap .i64 (a1.aF + (1 : Int))) a1.aN a1.au a1.av), x1.2)) else (if (x1.1 == (2 : Int)) = true then ((dF [0, 18014398509481984, 18014398509481985] x1.2).bind fun x5 => some ((ag.mk a1.ah a1.aF a1.aJ x5.1 a1.au a1.av), x5.2)) else (if (x1.1 == (3 : Int)) = true then ((dF [-1, 0, 1073741823, 1073741824] x1.2).bind fun x7 => some ((ag.mk a1.ah a1.aF a1.aJ a1.aN x7.1 a1.av), x7.2)) else ((dT (5 : Int) x1.2).bind fun x8 => some ((ag.mk a1.ah a1.aF a1.aJ a1.aN a1.au (IntKind.wrap .i64 (x8.1 - (2 : Int)))), x8.2)))))
noncomputable def gm (a1 : ai) (d0 : aH) : Option (ai × aH) :=
  (dF [-1, 0, 1, 1152921504606846976, 1152921504606846977, -1152921504606846976, -1152921504606846977] d0).bind fun x1 => (dT (9 : Int) x1.2).bind fun x2 => if (x2.1 == (0 : Int)) = true then ((dF [-1, 0, 1, 999, 1000] x2.2).bind fun x4 => some ((ai.mk x4.1 a1.bh a1.fID a1.fAt a1.aW a1.ae), x4.2)) else (if (x2.1 == (1 : Int)) = true then ((dT (5 : Int) x2.2).bind fun x6 => some ((ai.mk a1.aQ x6.1 a1.fID a1.fAt a1.aW a1.ae), x6.2)) else (if (x2.1 == (2 : Int)) = true then ((dT (4 : Int) x2.2).bind fun x8 => some ((ai.mk a1.aQ a1.bh (IntKind.wrap .i64 (x8.1 - (1 : Int))) a1.fAt a1.aW a1.ae), x8.2)) else (if (x2.1 == (3 : Int)) = true then (some ((ai.mk a1.aQ a1.bh a1.fID x1.1 a1.aW a1.ae), x2.2)) else (if (x2.1 == (4 : Int)) = true then ((dF [-1, 0, 8, 9] x2.2).bind fun x11 => some ((ai.mk a1.aQ a1.bh a1.fID a1.fAt x11.1 a1.ae), x11.2)) else (if (x2.1 == (5 : Int)) = true then ((hH a1.ae.ak x2.2).bind fun x13 => some ((ai.mk a1.aQ a1.bh a1.fID a1.fAt a1.aW (ar.mk x13.1 a1.ae.aa)), x13.2)) else (if (x2.1 == (6 : Int)) = true then (some ((ai.mk a1.aQ a1.bh a1.fID a1.fAt a1.aW (ar.mk a1.ae.ak (aw.mk a1.ae.aa.aK (aB.mk a1.ae.aa.ac.aA a1.ae.aa.ac.aF a1.ae.aa.ac.aO a1.ae.aa.ac.aV (aP.mk a1.ae.aa.ac.ap.aI (aj.mk a1.ae.aa.ac.ap.az.fX x1.1 a1.ae.aa.ac.ap.az.fZ))) a1.ae.aa.aq a1.ae.aa.aU))), x2.2)) else (if (x2.1 == (7 : Int)) = true then (some ((ai.mk a1.aQ a1.bh a1.fID a1.fAt a1.aW (ar.mk a1.ae.ak (aw.mk a1.ae.aa.aK a1.ae.aa.ac (aG.mk x1.1 a1.ae.aa.aq.az) a1.ae.aa.aU))), x2.2)) else ((dF [0, 1, 2] x2.2).bind fun x16 => (mkO x16.1 (ag.mk (am.mk [] [] [] []) 0 0 0 0 0) 104).bind fun x17 => some ((ai.mk a1.aQ a1.bh a1.fID a1.fAt a1.aW (ar.mk a1.ae.ak (aw.mk x17 a1.ae.aa.ac a1.ae.aa.aq a1.ae.aa.aU))), x16.2)))))))))
noncomputable def fP (a0 : (List UInt8)) : Int → Option (Step1 (Int) ((Unit) ⊕ (Bool))) := fun s1 =>
  if (decide (s1 < (a0.length : Int))) = true then ((byteO a0 s1).bind fun x4 => if (decide (x4 ≥ (65 : Int))) = true then ((byteO a0 s1).bind fun x6 => if (decide (x6 ≤ (90 : Int))) = true then (some (.next (IntKind.wrap .i64 (s1 + (1 : Int))))) else ((byteO a0 s1).bind fun x8 => if (decide (x8 ≥ (48 : Int))) = true then ((byteO a0 s1).bind fun x10 => if (!(decide (x10 ≤ (57 : Int)))) = true then (some (.stop (.inr false))) else (some (.next (IntKind.wrap .i64 (s1 + (1 : Int)))))) else (some (.stop (.inr false))))) else ((byteO a0 s1).bind fun x12 => if (decide (x12 ≥ (48 : Int))) = true then ((byteO a0 s1).bind fun x14 => if (!(decide (x14 ≤ (57 : Int)))) = true then (some (.stop (.inr false))) else (some (.next (IntKind.wrap .i64 (s1 + (1 : Int)))))) else (some (.stop (.inr false))))) else (some (.stop (.inl ())))
noncomputable def eI (a0 : (List UInt8)) (a1 : Int) (a2 : Int) : Option (Bool) :=
  (loopO (fP a0) (0 : Int)).bind fun o17 => match o17 with | .inl y18 => (if (decide ((a0.length : Int) ≥ a1)) = true then (some (decide ((a0.length : Int) ≤ a2))) else (some false)) | .inr r19 => (some r19)
noncomputable def fx (a0 : am) : Option (Bool) :=
  (eI a0.aC (1 : Int) (2 : Int)).bind fun x1 => if x1 = true then ((eI a0.aE (1 : Int) (5 : Int)).bind fun x3 => if x3 = true then (if (a0.ac == []) = true then ((eI a0.aD (3 : Int) (3 : Int)).bind fun x6 => some x6) else ((eI a0.ac (2 : Int) (2 : Int)).bind fun x7 => if x7 = true then ((eI a0.aD (3 : Int) (3 : Int)).bind fun x9 => some x9) else (some false))) else (some false)) else (some false)
noncomputable def lh (a0 : Int) (a1 : Int) (a2 : Int) : Option (Bool) :=
  if (decide (a0 ≥ a1)) = true then (some (decide (a0 ≤ a2))) else (some false)
noncomputable def ck (a0 : ag) : Option (Bool) :=
  (fx a0.ah).bind fun x1 => if x1 = true then (if (decide (a0.aJ ≥ (0 : Int))) = true then (if (decide (a0.aJ ≤ a0.aF)) = true then (if (decide (a0.aF ≤ a0.aN)) = true then (if (decide (a0.aN ≤ (18014398509481984 : Int))) = true then ((lh a0.au (0 : Int) (1073741823 : Int)).bind fun x7 => if x7 = true then ((lh a0.av (-1 : Int) (1 : Int)).bind fun x9 => some x9) else (some false)) else (some false)) else (some false)) else (some false)) else (some false)) else (some false)
noncomputable def gU (a0 : (List Int)) : Int → Option (Step1 (Int) ((Unit) ⊕ (Bool))) := fun s1 =>
  if (decide (s1 < (a0.length : Int))) = true then ((getO a0 s1).bind fun x4 => if (decide (x4 < (-1152921504606846976 : Int))) = true then (some (.stop (.inr false))) else ((getO a0 s1).bind fun x6 => if (decide (x6 > (1152921504606846976 : Int))) = true then (some (.stop (.inr false))) else (some (.next (IntKind.wrap .i64 (s1 + (1 : Int))))))) else (some (.stop (.inl ())))
noncomputable def ei (a0 : (List Int)) : Option (Bool) :=
  (loopO (gU a0) (0 : Int)).bind fun o9 => match o9 with | .inl y10 => (some true) | .inr r11 => (some r11)
noncomputable def er (a0 : ai) : Int → Option (Step1 (Int) ((Unit) ⊕ (Bool))) := fun s10 =>
  if (decide (s10 < (a0.ae.aa.aK.length : Int))) = true then ((getO a0.ae.aa.aK s10).bind fun x13 => (ck x13).bind fun x14 => if (!x14) = true then (some (.stop (.inr false))) else (some (.next (IntKind.wrap .i64 (s10 + (1 : Int)))))) else (some (.stop (.inl ())))
noncomputable def dM (a0 : ai) : Option (Bool) :=
  if (decide (a0.aQ < (0 : Int))) = true then (some false) else (if (decide (a0.aQ ≥ (1000 : Int))) = true then (some false) else (if (decide (a0.bh < (1 : Int))) = true then (some false) else (if (decide (a0.bh > (3 : Int))) = true then (some false) else (if (decide (a0.fID < (0 : Int))) = true then (some false) else (if (decide (a0.fID > a0.aQ)) = true then (some false) else (if (!((a0.fID == a0.aQ) == (a0.bh == (1 : Int)))) = true then (some false) else (if (decide (a0.aW < (0 : Int))) = true then (some false) else (if (decide (a0.aW > (8 : Int))) = true then (some false) else ((loopO (er a0) (0 : Int)).bind fun o17 => match o17 with | .inl y18 => ((ck a0.ae.ak).bind fun x20 => if x20 = true then (if (decide ((a0.ae.aa.aK.length : Int) ≤ (64 : Int))) = true then ((ei [a0.fAt, a0.ae.aa.ac.aA.fX, a0.ae.aa.ac.aA.fY, a0.ae.aa.ac.aA.fZ, a0.ae.aa.ac.aF, a0.ae.aa.ac.aO, a0.ae.aa.ac.aV, a0.ae.aa.ac.ap.aI.fX, a0.ae.aa.ac.ap.aI.fY, a0.ae.aa.ac.ap.aI.fZ, a0.ae.aa.ac.ap.az.fX, a0.ae.aa.ac.ap.az.fY, a0.ae.aa.ac.ap.az.fZ, a0.ae.aa.aq.aI, a0.ae.aa.aq.az, a0.ae.aa.aU]).bind fun x23 => some x23) else (some false)) else (some false)) | .inr r19 => (some r19))))))))))
noncomputable def bX : Nat → Int → Option ((List UInt8))
  | 0, _ => none
  | nfu + 1, a0 =>
  if (decide (a0 < (0 : Int))) = true then (((bX nfu) (IntKind.wrap .i64 (0 - a0))).bind fun x2 => (catO [45] x2).bind fun x3 => some x3) else (if (decide (a0 < (10 : Int))) = true then ((cutO [48, 49, 50, 51, 52, 53, 54, 55, 56, 57] a0 (IntKind.wrap .i64 (a0 + (1 : Int)))).bind fun x5 => some x5) else ((quoO .i64 a0 (10 : Int)).bind fun x6 => ((bX nfu) x6).bind fun x7 => (remO a0 (10 : Int)).bind fun x8 => (remO a0 (10 : Int)).bind fun x9 => (cutO [48, 49, 50, 51, 52, 53, 54, 55, 56, 57] x8 (IntKind.wrap .i64 (x9 + (1 : Int)))).bind fun x10 => (catO x7 x10).bind fun x11 => some x11))
noncomputable def dS (a0 : Int) : Option ((List UInt8)) := recO fun n => bX n a0
noncomputable def eU (a0 : (List Int)) : (Int × (List (List UInt8))) → Option (Step1 (Int × (List (List UInt8))) ((List (List UInt8)))) := fun (s1, s2) =>
  if (decide (s1 < (a0.length : Int))) = true then ((getO a0 s1).bind fun x6 => (dS x6).bind fun x7 => (appO s2 [x7] 16).bind fun x8 => some (.next ((IntKind.wrap .i64 (s1 + (1 : Int))), x8))) else (some (.stop s2))
noncomputable def cm (a0 : (List Int)) : Option ((List (List UInt8))) :=
  (loopO (eU a0) ((0 : Int), ([] : (List (List UInt8))))).bind fun o10 => some o10
noncomputable def hO (a0 : am) : Option ((List UInt8) × Int) :=
  (fx a0).bind fun x1 => if (!x1) = true then (some (([] : (List UInt8)), (1 : Int))) else ((catO a0.aC [46]).bind fun x3 => (catO x3 a0.aE).bind fun x4 => (catO x4 [46]).bind fun x5 => (catO x5 a0.ac).bind fun x6 => (catO x6 [46]).bind fun x7 => (catO x7 a0.aD).bind fun x8 => some (x8, (0 : Int)))
noncomputable def fp (a0 : ag) : Option ((List (List UInt8))) :=
  (hO a0.ah).bind fun x1 => (cm [a0.aF, a0.aJ, a0.aN, a0.au, a0.av]).bind fun x2 => (appO [x1.1] x2 16).bind fun x3 => some x3
noncomputable def dD (a0 : ai) : (Int × (List (List UInt8))) → Option (Step1 (Int × (List (List UInt8))) ((List (List UInt8)))) := fun (s6, s7) =>
  if (decide (s6 < (a0.ae.aa.aK.length : Int))) = true then ((getO a0.ae.aa.aK s6).bind fun x11 => (fp x11).bind fun x12 => (appO s7 x12 16).bind fun x13 => some (.next ((IntKind.wrap .i64 (s6 + (1 : Int))), x13))) else (some (.stop s7))
noncomputable def fy (a0 : ai) : Option ((List (List UInt8))) :=
  (cm [a0.aQ, a0.bh, a0.fID, a0.fAt, a0.aW]).bind fun x1 => (fp a0.ae.ak).bind fun x2 => (appO x1 x2 16).bind fun x3 => (dS (a0.ae.aa.aK.length : Int)).bind fun x4 => (appO x3 [x4] 16).bind fun x5 => (loopO (dD a0) ((0 : Int), x5)).bind fun o15 => (cm [a0.ae.aa.ac.aA.fX, a0.ae.aa.ac.aA.fY, a0.ae.aa.ac.aA.fZ, a0.ae.aa.ac.aF, a0.ae.aa.ac.aO, a0.ae.aa.ac.aV]).bind fun x16 => (appO o15 x16 16).bind fun x17 => (cm [a0.ae.aa.ac.ap.aI.fX, a0.ae.aa.ac.ap.aI.fY, a0.ae.aa.ac.ap.aI.fZ, a0.ae.aa.ac.ap.az.fX, a0.ae.aa.ac.ap.az.fY, a0.ae.aa.ac.ap.az.fZ]).bind fun x18 => (appO x17 x18 16).bind fun x19 => (cm [a0.ae.aa.aq.aI, a0.ae.aa.aq.az, a0.ae.aa.aU]).bind fun x20 => (appO x19 x20 16).bind fun x21 => some x21
noncomputable def dt (x3 : (List (List UInt8))) : ((List UInt8) × Int) → Option (Step1 ((List UInt8) × Int) ((List UInt8))) := fun (s4, s5) =>
  if (decide (s5 < (x3.length : Int))) = true then ((getO x3 s5).bind fun x9 => if (decide (s5 > (0 : Int))) = true then ((catO s4 [32]).bind fun x11 => (catO x11 x9).bind fun x12 => some (.next (x12, (IntKind.wrap .i64 (s5 + (1 : Int)))))) else ((catO s4 x9).bind fun x13 => some (.next (x13, (IntKind.wrap .i64 (s5 + (1 : Int))))))) else (some (.stop s4))
noncomputable def cJ (a0 : ai) : Option ((List UInt8) × Int) :=
  (dM a0).bind fun x1 => if (!x1) = true then (some (([] : (List UInt8)), (1 : Int))) else ((fy a0).bind fun x3 => (loopO (dt x3) (([] : (List UInt8)), (0 : Int))).bind fun o15 => some (o15, (0 : Int)))
noncomputable def gT (a0 : (List UInt8)) : (Int × Int × (List (List UInt8))) → Option (Step1 (Int × Int × (List (List UInt8))) (Int × (List (List UInt8)))) := fun (s1, s2, s3) =>
  if (decide (s2 < (a0.length : Int))) = true then ((byteO a0 s2).bind fun x8 => if (x8 == (32 : Int)) = true then ((cutO a0 s1 s2).bind fun x10 => (appO s3 [x10] 16).bind fun x11 => some (.next ((IntKind.wrap .i64 (s2 + (1 : Int))), (IntKind.wrap .i64 (s2 + (1 : Int))), x11))) else (some (.next (s1, (IntKind.wrap .i64 (s2 + (1 : Int))), s3)))) else (some (.stop (s1, s3)))
noncomputable def iO (a0 : (List UInt8)) : Option ((List (List UInt8))) :=
  (loopO (gT a0) ((0 : Int), (0 : Int), ([] : (List (List UInt8))))).bind fun o13 => (cutO a0 o13.1 (a0.length : Int)).bind fun x14 => (appO o13.2 [x14] 16).bind fun x15 => some x15
noncomputable def eg (d0 : aS) : Option ((List UInt8) × aS) :=
  if ((d0.fL.length : Int) == (0 : Int)) = true then (some (([] : (List UInt8)), d0)) else ((getO d0.fL (0 : Int)).bind fun x2 => (cutO d0.fL 1 (d0.fL.length : Int)).bind fun x3 => some (x2, (aS.mk x3)))
noncomputable def b7 (x1 : (List UInt8) × aS) : (Int × Int) → Option (Step1 (Int × Int) ((Int) ⊕ (Int × aS))) := fun (s3, s4) =>
  if (decide (s4 < (x1.1.length : Int))) = true then ((byteO x1.1 s4).bind fun x8 => if (decide (x8 < (48 : Int))) = true then (some (.stop (.inr ((0 : Int), x1.2)))) else ((byteO x1.1 s4).bind fun x10 => if (decide (x10 > (57 : Int))) = true then (some (.stop (.inr ((0 : Int), x1.2)))) else (if (decide (s3 > (288230376151711744 : Int))) = true then (some (.stop (.inr ((0 : Int), x1.2)))) else ((byteO x1.1 s4).bind fun x13 => some (.next ((IntKind.wrap .i64 ((IntKind.wrap .i64 ((10 : Int) * s3)) + (IntKind.wrap .i64 (IntKind.wrap .u8 (x13 - (48 : Int)))))), (IntKind.wrap .i64 (s4 + (1 : Int))))))))) else (some (.stop (.inl s3)))
noncomputable def cg (x1 : (List UInt8) × aS) (j2 : Int) : Option (Int × aS) :=
  (loopO (b7 x1) ((0 : Int), j2)).bind fun o15 => match o15 with | .inl y16 => (if (j2 == (1 : Int)) = true then (some ((IntKind.wrap .i64 (0 - y16)), x1.2)) else (some (y16, x1.2))) | .inr r17 => (some r17)
noncomputable def bk (d0 : aS) : Option (Int × aS) :=
  (eg d0).bind fun x1 => if (decide ((x1.1.length : Int) > (0 : Int))) = true then ((byteO x1.1 0).bind fun x21 => if (x21 == (45 : Int)) = true then (cg x1 (1 : Int)) else (cg x1 (0 : Int))) else (cg x1 (0 : Int))
noncomputable def gP (a0 : (List UInt8)) (a1 : Int) : (Int × (List (List UInt8))) → Option (Step1 (Int × (List (List UInt8))) ((List (List UInt8)))) := fun (s1, s2) =>
  if (decide (s1 < (a0.length : Int))) = true then ((byteO a0 s1).bind fun x6 => if (x6 == a1) = true then ((appO s2 [[]] 16).bind fun x8 => some (.next ((IntKind.wrap .i64 (s1 + (1 : Int))), x8))) else ((inO s2 (IntKind.wrap .i64 ((s2.length : Int) - (1 : Int)))).bind fun x10 => (getO s2 (IntKind.wrap .i64 ((s2.length : Int) - (1 : Int)))).bind fun x11 => (cutO a0 s1 (IntKind.wrap .i64 (s1 + (1 : Int)))).bind fun x12 => (catO x11 x12).bind fun x13 => (inO s2 (IntKind.wrap .i64 ((s2.length : Int) - (1 : Int)))).bind fun x15 => (setO s2 (IntKind.wrap .i64 ((s2.length : Int) - (1 : Int))) x13).bind fun x16 => some (.next ((IntKind.wrap .i64 (s1 + (1 : Int))), x16)))) else (some (.stop s2))
noncomputable def iH (a0 : (List UInt8)) (a1 : Int) : Option ((List (List UInt8))) :=
  (loopO (gP a0 a1) ((0 : Int), [[]])).bind fun o18 => some o18
noncomputable def fw (a0 : (List UInt8)) : Option (am × Int) :=
  (iH a0 (46 : Int)).bind fun x1 => if ((x1.length : Int) != (4 : Int)) = true then (some ((am.mk [] [] [] []), (3 : Int))) else ((getO x1 (0 : Int)).bind fun x3 => (getO x1 (1 : Int)).bind fun x4 => (getO x1 (2 : Int)).bind fun x5 => (getO x1 (3 : Int)).bind fun x6 => (fx (am.mk x3 x4 x5 x6)).bind fun x7 => if (!x7) = true then (some ((am.mk [] [] [] []), (3 : Int))) else (some ((am.mk x3 x4 x5 x6), (0 : Int))))
noncomputable def ef (d0 : aS) : Option (ag × aS) :=
  (eg d0).bind fun x1 => (fw x1.1).bind fun x2 => (bk x1.2).bind fun x3 => (bk x3.2).bind fun x4 => (bk x4.2).bind fun x5 => (bk x5.2).bind fun x6 => (bk x6.2).bind fun x7 => some ((ag.mk x2.1 x3.1 x4.1 x5.1 x6.1 x7.1), x7.2)
noncomputable def dI (d0 : aS) : Option (aj × aS) :=
  (bk d0).bind fun x1 => (bk x1.2).bind fun x2 => (bk x2.2).bind fun x3 => some ((aj.mk x1.1 x2.1 x3.1), x3.2)
noncomputable def gq (d0 : (List ag)) : Int → Option (Step1 (Int) ((Unit) ⊕ (Bool × (List ag)))) := fun s10 =>
  if (decide (s10 < (d0.length : Int))) = true then ((inO d0 s10).bind fun x14 => (getO d0 s10).bind fun x15 => (ck x15).bind fun x16 => if (!x16) = true then (some (.stop (.inr (false, d0)))) else (some (.next (IntKind.wrap .i64 (s10 + (1 : Int)))))) else (some (.stop (.inl ())))
noncomputable def hZ (co : Int) (b6 : Int) (b8 : Int) (cr : Int) (ce : Int) (cp : (List UInt8)) (cq : (List UInt8)) (ct : (List UInt8)) (cu : (List UInt8)) (cv : Int) (bK : Int) (bL : Int) (bM : Int) (bP : Int) (bq : Int) (bu : Int) (bv : Int) (bw : Int) (bz : Int) (bA : Int) (bB : Int) (bC : Int) (bD : Int) (bF : Int) (bG : Int) (bH : Int) (bR : Int) (bS : Int) (bT : Int) (d0 : (List ag)) : Option (Bool × (List ag)) :=
  if (decide (co < (0 : Int))) = true then (some (false, d0)) else (if (decide (co ≥ (1000 : Int))) = true then (some (false, d0)) else (if (decide (b6 < (1 : Int))) = true then (some (false, d0)) else (if (decide (b6 > (3 : Int))) = true then (some (false, d0)) else (if (decide (b8 < (0 : Int))) = true then (some (false, d0)) else (if (decide (b8 > co)) = true then (some (false, d0)) else (if (!((b8 == co) == (b6 == (1 : Int)))) = true then (some (false, d0)) else (if (decide (ce < (0 : Int))) = true then (some (false, d0)) else (if (decide (ce > (8 : Int))) = true then (some (false, d0)) else ((loopO (gq d0) (0 : Int)).bind fun o19 => match o19 with | .inl y20 => ((ck (ag.mk (am.mk cp cq ct cu) cv bK bL bM bP)).bind fun x22 => if x22 = true then (if (decide ((d0.length : Int) ≤ (64 : Int))) = true then ((ei [cr, bq, bu, bv, bw, bz, bA, bB, bC, bD, bF, bG, bH, bR, bS, bT]).bind fun x25 => some (x25, d0)) else (some (false, d0))) else (some (false, d0))) | .inr r21 => (some r21))))))))))
noncomputable def gt (d0 : (List ag)) : (Int × (List (List UInt8))) → Option (Step1 (Int × (List (List UInt8))) ((List (List UInt8)))) := fun (s6, s7) =>
  if (decide (s6 < (d0.length : Int))) = true then ((inO d0 s6).bind fun x12 => (getO d0 s6).bind fun x13 => (fp x13).bind fun x14 => (appO s7 x14 16).bind fun x15 => some (.next ((IntKind.wrap .i64 (s6 + (1 : Int))), x15))) else (some (.stop s7))
noncomputable def ia (co : Int) (b6 : Int) (b8 : Int) (cr : Int) (ce : Int) (cp : (List UInt8)) (cq : (List UInt8)) (ct : (List UInt8)) (cu : (List UInt8)) (cv : Int) (bK : Int) (bL : Int) (bM : Int) (bP : Int) (bq : Int) (bu : Int) (bv : Int) (bw : Int) (bz : Int) (bA : Int) (bB : Int) (bC : Int) (bD : Int) (bF : Int) (bG : Int) (bH : Int) (bR : Int) (bS : Int) (bT : Int) (d0 : (List ag)) : Option ((List (List UInt8)) × (List ag)) :=
  (cm [co, b6, b8, cr, ce]).bind fun x1 => (fp (ag.mk (am.mk cp cq ct cu) cv bK bL bM bP)).bind fun x2 => (appO x1 x2 16).bind fun x3 => (dS (d0.length : Int)).bind fun x4 => (appO x3 [x4] 16).bind fun x5 => (loopO (gt d0) ((0 : Int), x5)).bind fun o17 => (cm [bq, bu, bv, bw, bz, bA]).bind fun x18 => (appO o17 x18 16).bind fun x19 => (cm [bB, bC, bD, bF, bG, bH]).bind fun x20 => (appO x19 x20 16).bind fun x21 => (cm [bR, bS, bT]).bind fun x22 => (appO x21 x22 16).bind fun x23 => some (x23, d0)
noncomputable def iN (x3 : (List (List UInt8)) × (List ag)) : ((List UInt8) × Int) → Option (Step1 ((List UInt8) × Int) ((List UInt8))) := fun (s4, s5) =>
  if (decide (s5 < (x3.1.length : Int))) = true then ((getO x3.1 s5).bind fun x9 => if (decide (s5 > (0 : Int))) = true then ((catO s4 [32]).bind fun x11 => (catO x11 x9).bind fun x12 => some (.next (x12, (IntKind.wrap .i64 (s5 + (1 : Int)))))) else ((catO s4 x9).bind fun x13 => some (.next (x13, (IntKind.wrap .i64 (s5 + (1 : Int))))))) else (some (.stop s4))
noncomputable def gC (co : Int) (b6 : Int) (b8 : Int) (cr : Int) (ce : Int) (cp : (List UInt8)) (cq : (List UInt8)) (ct : (List UInt8)) (cu : (List UInt8)) (cv : Int) (bK : Int) (bL : Int) (bM : Int) (bP : Int) (bq : Int) (bu : Int) (bv : Int) (bw : Int) (bz : Int) (bA : Int) (bB : Int) (bC : Int) (bD : Int) (bF : Int) (bG : Int) (bH : Int) (bR : Int) (bS : Int) (bT : Int) (d0 : (List ag)) : Option ((List UInt8) × Int × (List ag)) :=
  (hZ co b6 b8 cr ce cp cq ct cu cv bK bL bM bP bq bu bv bw bz bA bB bC bD bF bG bH bR bS bT d0).bind fun x1 => if (!x1.1) = true then (some (([] : (List UInt8)), (1 : Int), x1.2)) else ((ia co b6 b8 cr ce cp cq ct cu cv bK bL bM bP bq bu bv bw bz bA bB bC bD bF bG bH bR bS bT x1.2).bind fun x3 => (loopO (iN x3) (([] : (List UInt8)), (0 : Int))).bind fun o15 => some (o15, (0 : Int), x3.2))
noncomputable def dq  : (Int × (List (List UInt8)) × (List ag)) → Option (Step1 (Int × (List (List UInt8)) × (List ag)) ((List (List UInt8)) × (List ag))) := fun (s9, s10, s11) =>
  if (decide (s9 > (0 : Int))) = true then ((ef (aS.mk s10)).bind fun x16 => (appO s11 [x16.1] 104).bind fun x17 => some (.next ((IntKind.wrap .i64 (s9 - (1 : Int))), x16.2.fL, x17))) else (some (.stop (s10, s11)))
noncomputable def dn (a0 : (List UInt8)) : Option (ai × Int) :=
  (iO a0).bind fun x1 => (bk (aS.mk x1)).bind fun x2 => (bk x2.2).bind fun x3 => (bk x3.2).bind fun x4 => (bk x4.2).bind fun x5 => (bk x5.2).bind fun x6 => (ef x6.2).bind fun x7 => (bk x7.2).bind fun x8 => (loopO (dq) ((if (65 : Int) < x8.1 then (65 : Int) else x8.1), x8.2.fL, ([] : (List ag)))).bind fun o19 => (dI (aS.mk o19.1)).bind fun x20 => (bk x20.2).bind fun x21 => (bk x21.2).bind fun x22 => (bk x22.2).bind fun x23 => (dI x23.2).bind fun x24 => (dI x24.2).bind fun x25 => (bk x25.2).bind fun x26 => (bk x26.2).bind fun x27 => (bk x27.2).bind fun x28 => (gC x2.1 x3.1 x4.1 x5.1 x6.1 x7.1.ah.aC x7.1.ah.aE x7.1.ah.ac x7.1.ah.aD x7.1.aF x7.1.aJ x7.1.aN x7.1.au x7.1.av x20.1.fX x20.1.fY x20.1.fZ x21.1 x22.1 x23.1 x24.1.fX x24.1.fY x24.1.fZ x25.1.fX x25.1.fY x25.1.fZ x26.1 x27.1 x28.1 o19.2).bind fun x29 => if (x29.2.1 != (0 : Int)) = true then (some ((ai.mk 0 0 0 0 0 (ar.mk (ag.mk (am.mk [] [] [] []) 0 0 0 0 0) (aw.mk [] (aB.mk (aj.mk 0 0 0) 0 0 0 (aP.mk (aj.mk 0 0 0) (aj.mk 0 0 0))) (aG.mk 0 0) 0))), (3 : Int))) else (if (!(x29.1 == a0)) = true then (some ((ai.mk 0 0 0 0 0 (ar.mk (ag.mk (am.mk [] [] [] []) 0 0 0 0 0) (aw.mk [] (aB.mk (aj.mk 0 0 0) 0 0 0 (aP.mk (aj.mk 0 0 0) (aj.mk 0 0 0))) (aG.mk 0 0) 0))), (3 : Int))) else (some ((ai.mk x2.1 x3.1 x4.1 x5.1 x6.1 (ar.mk x7.1 (aw.mk x29.2.2 (aB.mk x20.1 x21.1 x22.1 x23.1 (aP.mk x24.1 x25.1)) (aG.mk x26.1 x27.1) x28.1))), (0 : Int))))
noncomputable def g9 (a0 : ai) (j11 : Int) (j12 : Int) (j13 : Int) (j14 : Int) (j15 : Int) (j16 : (List UInt8)) (j17 : (List UInt8)) (j18 : (List UInt8)) (j19 : (List UInt8)) (j20 : Int) (j21 : Int) (j22 : Int) (j23 : Int) (j24 : Int) (j25 : (List ag)) (j26 : Int) (j27 : Int) (j28 : Int) (j29 : Int) (j30 : Int) (j31 : Int) (j32 : Int) (j33 : Int) (j34 : Int) (j35 : Int) (j36 : Int) (j37 : Int) (j38 : Int) (j39 : Int) (j40 : Int) (x41 : ai × aH) (x43 : ai × aH) : Int → Option (Step1 (Int) ((Unit) ⊕ (Bool))) := fun s44 =>
  if (decide (s44 < (4 : Int))) = true then ((getO [a0, (ai.mk j11 j12 j13 j14 j15 (ar.mk (ag.mk (am.mk j16 j17 j18 j19) j20 j21 j22 j23 j24) (aw.mk j25 (aB.mk (aj.mk j26 j27 j28) j29 j30 j31 (aP.mk (aj.mk j32 j33 j34) (aj.mk j35 j36 j37))) (aG.mk j38 j39) j40))), x41.1, x43.1] s44).bind fun x47 => (cf x47).bind fun x48 => (cJ x47).bind fun x49 => (cC x47).bind fun x50 => (dM x47).bind fun x51 => if (!(x50 == x51)) = true then (some (.stop (.inr false))) else (if (!(x48.1 == x49.1)) = true then (some (.stop (.inr false))) else (if (x48.2 != x49.2) = true then (some (.stop (.inr false))) else (some (.next (IntKind.wrap .i64 (s44 + (1 : Int)))))))) else (some (.stop (.inl ())))
noncomputable def hC (a1 : (List UInt8)) (x59 : (List UInt8) × Int) (j60 : (List UInt8)) (x61 : (List UInt8)) (x63 : (List UInt8)) : Int → Option (Step1 (Int) ((Unit) ⊕ (Bool))) := fun s64 =>
  if (decide (s64 < (5 : Int))) = true then ((getO [a1, x59.1, j60, x61, x63] s64).bind fun x67 => (cw x67).bind fun x68 => (dn x67).bind fun x69 => if (x68.2 != x69.2) = true then (some (.stop (.inr false))) else ((ch x68.1 x69.1).bind fun x71 => if (!x71) = true then (some (.stop (.inr false))) else (some (.next (IntKind.wrap .i64 (s64 + (1 : Int))))))) else (some (.stop (.inl ())))
noncomputable def dl (x59 : (List UInt8) × Int) (x43 : ai × aH) (a1 : (List UInt8)) (j60 : (List UInt8)) : Option (Bool) :=
  (catO x59.1 [32, 49]).bind fun x61 => (dT (IntKind.wrap .i64 ((x59.1.length : Int) + (1 : Int))) x43.2).bind fun x62 => (cutO x59.1 0 x62.1).bind fun x63 => (loopO (hC a1 x59 j60 x61 x63) (0 : Int)).bind fun o74 => match o74 with | .inl y75 => ((ea ).bind fun x77 => some x77) | .inr r76 => (some r76)
noncomputable def dm (a0 : ai) (a3 : Int) (a4 : Int) (a1 : (List UInt8)) (j9 : (List Int)) (j10 : Int) (j11 : Int) (j12 : Int) (j13 : Int) (j14 : Int) (j15 : Int) (j16 : (List UInt8)) (j17 : (List UInt8)) (j18 : (List UInt8)) (j19 : (List UInt8)) (j20 : Int) (j21 : Int) (j22 : Int) (j23 : Int) (j24 : Int) (j25 : (List ag)) (j26 : Int) (j27 : Int) (j28 : Int) (j29 : Int) (j30 : Int) (j31 : Int) (j32 : Int) (j33 : Int) (j34 : Int) (j35 : Int) (j36 : Int) (j37 : Int) (j38 : Int) (j39 : Int) (j40 : Int) : Option (Bool) :=
  (gm (ai.mk j11 j12 j13 j14 j15 (ar.mk (ag.mk (am.mk j16 j17 j18 j19) j20 j21 j22 j23 j24) (aw.mk j25 (aB.mk (aj.mk j26 j27 j28) j29 j30 j31 (aP.mk (aj.mk j32 j33 j34) (aj.mk j35 j36 j37))) (aG.mk j38 j39) j40))) (aH.mk j9 j10)).bind fun x41 => (gm (ai.mk j11 j12 j13 j14 j15 (ar.mk (ag.mk (am.mk j16 j17 j18 j19) j20 j21 j22 j23 j24) (aw.mk j25 (aB.mk (aj.mk j26 j27 j28) j29 j30 j31 (aP.mk (aj.mk j32 j33 j34) (aj.mk j35 j36 j37))) (aG.mk j38 j39) j40))) x41.2).bind fun x42 => (gm x42.1 x42.2).bind fun x43 => (loopO (g9 a0 j11 j12 j13 j14 j15 j16 j17 j18 j19 j20 j21 j22 j23 j24 j25 j26 j27 j28 j29 j30 j31 j32 j33 j34 j35 j36 j37 j38 j39 j40 x41 x43) (0 : Int)).bind fun o56 => match o56 with | .inl y57 => ((cJ (ai.mk j11 j12 j13 j14 j15 (ar.mk (ag.mk (am.mk j16 j17 j18 j19) j20 j21 j22 j23 j24) (aw.mk j25 (aB.mk (aj.mk j26 j27 j28) j29 j30 j31 (aP.mk (aj.mk j32 j33 j34) (aj.mk j35 j36 j37))) (aG.mk j38 j39) j40)))).bind fun x59 => if (decide ((x59.1.length : Int) > (0 : Int))) = true then ((gE a3 (x59.1.length : Int)).bind fun x80 => (inO x59.1 x80).bind fun x81 => (putBO x59.1 x80 a4).bind fun x82 => dl x59 x43 a1 x82) else (dl x59 x43 a1 x59.1)) | .inr r58 => (some r58)
noncomputable def fd (a0 : ai) (a1 : (List UInt8)) (a2 : (List Int)) (a3 : Int) (a4 : Int) : Option (Bool) :=
  (iF [a0]).bind fun x1 => if (!x1) = true then ((ea ).bind fun x3 => some x3) else (if (decide ((a1.length : Int) > (300 : Int))) = true then ((ea ).bind fun x5 => some x5) else ((lc a2).bind fun x6 => (dT (4 : Int) x6).bind fun x7 => (ew x7.1).bind fun x8 => (jq (4 : Int) x7.2).bind fun x84 => if (decide ((x84.1.length : Int) > (0 : Int))) = true then ((dT (x84.1.length : Int) x84.2).bind fun x86 => (getO x84.1 x86.1).bind fun x87 => dm a0 a3 a4 a1 x86.2.fL x86.2.fAt x87.aQ x87.bh x87.fID x87.fAt x87.aW x87.ae.ak.ah.aC x87.ae.ak.ah.aE x87.ae.ak.ah.ac x87.ae.ak.ah.aD x87.ae.ak.aF x87.ae.ak.aJ x87.ae.ak.aN x87.ae.ak.au x87.ae.ak.av x87.ae.aa.aK x87.ae.aa.ac.aA.fX x87.ae.aa.ac.aA.fY x87.ae.aa.ac.aA.fZ x87.ae.aa.ac.aF x87.ae.aa.ac.aO x87.ae.aa.ac.aV x87.ae.aa.ac.ap.aI.fX x87.ae.aa.ac.ap.aI.fY x87.ae.aa.ac.ap.aI.fZ x87.ae.aa.ac.ap.az.fX x87.ae.aa.ac.ap.az.fY x87.ae.aa.ac.ap.az.fZ x87.ae.aa.aq.aI x87.ae.aa.aq.az x87.ae.aa.aU) else (dm a0 a3 a4 a1 x84.2.fL x84.2.fAt x8.aQ x8.bh x8.fID x8.fAt x8.aW x8.ae.ak.ah.aC x8.ae.ak.ah.aE x8.ae.ak.ah.ac x8.ae.ak.ah.aD x8.ae.ak.aF x8.ae.ak.aJ x8.ae.ak.aN x8.ae.ak.au x8.ae.ak.av x8.ae.aa.aK x8.ae.aa.ac.aA.fX x8.ae.aa.ac.aA.fY x8.ae.aa.ac.aA.fZ x8.ae.aa.ac.aF x8.ae.aa.ac.aO x8.ae.aa.ac.aV x8.ae.aa.ac.ap.aI.fX x8.ae.aa.ac.ap.aI.fY x8.ae.aa.ac.ap.aI.fZ x8.ae.aa.ac.ap.az.fX x8.ae.aa.ac.ap.az.fY x8.ae.aa.ac.ap.az.fZ x8.ae.aa.aq.aI x8.ae.aa.aq.az x8.ae.aa.aU)))
end Go.Dw.Ft
