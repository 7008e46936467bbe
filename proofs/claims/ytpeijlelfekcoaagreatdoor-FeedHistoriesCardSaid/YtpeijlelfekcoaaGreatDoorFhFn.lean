
import Derived.Test.YtpeijlelfekcoaaGreatDoorDwLift4
import Derived.Test.YtpeijlelfekcoaaGreatDoorDwSortP
import Derived.Test.YtpeijlelfekcoaaGreatDoorDwAtoi
import Derived.Test.YtpeijlelfekcoaaGreatDoorDwItoa
import Derived.Test.YtpeijlelfekcoaaGreatDoorDwJoin
import Derived.Test.YtpeijlelfekcoaaGreatDoorDwSplit






namespace Go.Dw.Fh
open Go.Dw

structure au where
  aB : (List UInt8)
  aD : (List UInt8)
  ac : (List UInt8)
  aC : (List UInt8)
  deriving DecidableEq
def au.pd (x : au) : PD := .agg [.str x.aB, .str x.aD, .str x.ac, .str x.aC]
structure ah where
  ai : au
  aF : Int
  aL : Int
  aP : Int
  aq : Int
  av : Int
  deriving DecidableEq
def ah.pd (x : ah) : PD := .agg [.str x.ai.aB, .str x.ai.aD, .str x.ai.ac, .str x.ai.aC, .int .i64 x.aF, .int .i64 x.aL, .int .i64 x.aP, .int .i64 x.aq, .int .i64 x.av]
structure ak where
  fX : Int
  fY : Int
  fZ : Int
  deriving DecidableEq
def ak.pd (x : ak) : PD := .agg [.int .i64 x.fX, .int .i64 x.fY, .int .i64 x.fZ]
structure aZ where
  aI : ak
  aw : ak
  deriving DecidableEq
def aZ.pd (x : aZ) : PD := .agg [.int .i64 x.aI.fX, .int .i64 x.aI.fY, .int .i64 x.aI.fZ, .int .i64 x.aw.fX, .int .i64 x.aw.fY, .int .i64 x.aw.fZ]
structure aK where
  aA : ak
  aF : Int
  aQ : Int
  aW : Int
  am : aZ
  deriving DecidableEq
def aK.pd (x : aK) : PD := .agg [.int .i64 x.aA.fX, .int .i64 x.aA.fY, .int .i64 x.aA.fZ, .int .i64 x.aF, .int .i64 x.aQ, .int .i64 x.aW, .int .i64 x.am.aI.fX, .int .i64 x.am.aI.fY, .int .i64 x.am.aI.fZ, .int .i64 x.am.aw.fX, .int .i64 x.am.aw.fY, .int .i64 x.am.aw.fZ]
structure aO where
  aI : Int
  aw : Int
  deriving DecidableEq
def aO.pd (x : aO) : PD := .agg [.int .i64 x.aI, .int .i64 x.aw]
structure aG where
  aJ : (List ah)
  ac : aK
  ap : aO
  aU : Int
  deriving DecidableEq
def aG.pd (x : aG) : PD := .agg [.lst (x.aJ.map ah.pd), .int .i64 x.ac.aA.fX, .int .i64 x.ac.aA.fY, .int .i64 x.ac.aA.fZ, .int .i64 x.ac.aF, .int .i64 x.ac.aQ, .int .i64 x.ac.aW, .int .i64 x.ac.am.aI.fX, .int .i64 x.ac.am.aI.fY, .int .i64 x.ac.am.aI.fZ, .int .i64 x.ac.am.aw.fX, .int .i64 x.ac.am.aw.fY, .int .i64 x.ac.am.aw.fZ, .int .i64 x.ap.aI, .int .i64 x.ap.aw, .int .i64 x.aU]
structure az where
  aj : ah
  aa : aG
  deriving DecidableEq
def az.pd (x : az) : PD := .agg [.str x.aj.ai.aB, .str x.aj.ai.aD, .str x.aj.ai.ac, .str x.aj.ai.aC, .int .i64 x.aj.aF, .int .i64 x.aj.aL, .int .i64 x.aj.aP, .int .i64 x.aj.aq, .int .i64 x.aj.av, .lst (x.aa.aJ.map ah.pd), .int .i64 x.aa.ac.aA.fX, .int .i64 x.aa.ac.aA.fY, .int .i64 x.aa.ac.aA.fZ, .int .i64 x.aa.ac.aF, .int .i64 x.aa.ac.aQ, .int .i64 x.aa.ac.aW, .int .i64 x.aa.ac.am.aI.fX, .int .i64 x.aa.ac.am.aI.fY, .int .i64 x.aa.ac.am.aI.fZ, .int .i64 x.aa.ac.am.aw.fX, .int .i64 x.aa.ac.am.aw.fY, .int .i64 x.aa.ac.am.aw.fZ, .int .i64 x.aa.ap.aI, .int .i64 x.aa.ap.aw, .int .i64 x.aa.aU]
structure ag where
  aT : Int
  ba : Int
  fID : Int
  fAt : Int
  aX : Int
  ae : az
  deriving DecidableEq
def ag.pd (x : ag) : PD := .agg [.int .i64 x.aT, .int .i64 x.ba, .int .i64 x.fID, .int .i64 x.fAt, .int .i64 x.aX, .str x.ae.aj.ai.aB, .str x.ae.aj.ai.aD, .str x.ae.aj.ai.ac, .str x.ae.aj.ai.aC, .int .i64 x.ae.aj.aF, .int .i64 x.ae.aj.aL, .int .i64 x.ae.aj.aP, .int .i64 x.ae.aj.aq, .int .i64 x.ae.aj.av, .lst (x.ae.aa.aJ.map ah.pd), .int .i64 x.ae.aa.ac.aA.fX, .int .i64 x.ae.aa.ac.aA.fY, .int .i64 x.ae.aa.ac.aA.fZ, .int .i64 x.ae.aa.ac.aF, .int .i64 x.ae.aa.ac.aQ, .int .i64 x.ae.aa.ac.aW, .int .i64 x.ae.aa.ac.am.aI.fX, .int .i64 x.ae.aa.ac.am.aI.fY, .int .i64 x.ae.aa.ac.am.aI.fZ, .int .i64 x.ae.aa.ac.am.aw.fX, .int .i64 x.ae.aa.ac.am.aw.fY, .int .i64 x.ae.aa.ac.am.aw.fZ, .int .i64 x.ae.aa.ap.aI, .int .i64 x.ae.aa.ap.aw, .int .i64 x.ae.aa.aU]
structure aS where
  cq : Int
  fAt : Int
  ei : (List UInt8)
  deriving DecidableEq
def aS.pd (x : aS) : PD := .agg [.int .i64 x.cq, .int .i64 x.fAt, .str x.ei]
structure cz where
  a0 : (List UInt8)
  a1 : (List UInt8)
  a2 : (List UInt8)
  a3 : (List UInt8)
  deriving DecidableEq
def cz.pd (x : cz) : PD := .agg [.str x.a0, .str x.a1, .str x.a2, .str x.a3]
structure bg where
  bo : (List (List UInt8))
  cZ : Bool
  deriving DecidableEq
def bg.pd (x : bg) : PD := .agg [.lst (x.bo.map PD.str), .bool x.cZ]
structure aH where
  fL : (List Int)
  fAt : Int
  deriving DecidableEq
def aH.pd (x : aH) : PD := .agg [.lst (x.fL.map (PD.int .i64)), .int .i64 x.fAt]
structure bi where
  ap : Int
  aJ : Int
  aQ : Int
  hF : Int
  deriving DecidableEq
def bi.pd (x : bi) : PD := .agg [.int .i64 x.ap, .int .i64 x.aJ, .int .i64 x.aQ, .int .i64 x.hF]
structure aY where
  bv : (List bi)
  bw : Int
  dI : Int
  deriving DecidableEq
def aY.pd (x : aY) : PD := .agg [.lst (x.bv.map bi.pd), .int .i64 x.bw, .int .i64 x.dI]
structure aN where
  fID : Int
  br : Bool
  aj : ah
  aX : Int
  ae : az
  fAt : Int
  deriving DecidableEq
def aN.pd (x : aN) : PD := .agg [.int .i64 x.fID, .bool x.br, .str x.aj.ai.aB, .str x.aj.ai.aD, .str x.aj.ai.ac, .str x.aj.ai.aC, .int .i64 x.aj.aF, .int .i64 x.aj.aL, .int .i64 x.aj.aP, .int .i64 x.aj.aq, .int .i64 x.aj.av, .int .i64 x.aX, .str x.ae.aj.ai.aB, .str x.ae.aj.ai.aD, .str x.ae.aj.ai.ac, .str x.ae.aj.ai.aC, .int .i64 x.ae.aj.aF, .int .i64 x.ae.aj.aL, .int .i64 x.ae.aj.aP, .int .i64 x.ae.aj.aq, .int .i64 x.ae.aj.av, .lst (x.ae.aa.aJ.map ah.pd), .int .i64 x.ae.aa.ac.aA.fX, .int .i64 x.ae.aa.ac.aA.fY, .int .i64 x.ae.aa.ac.aA.fZ, .int .i64 x.ae.aa.ac.aF, .int .i64 x.ae.aa.ac.aQ, .int .i64 x.ae.aa.ac.aW, .int .i64 x.ae.aa.ac.am.aI.fX, .int .i64 x.ae.aa.ac.am.aI.fY, .int .i64 x.ae.aa.ac.am.aI.fZ, .int .i64 x.ae.aa.ac.am.aw.fX, .int .i64 x.ae.aa.ac.am.aw.fY, .int .i64 x.ae.aa.ac.am.aw.fZ, .int .i64 x.ae.aa.ap.aI, .int .i64 x.ae.aa.ap.aw, .int .i64 x.ae.aa.aU, .int .i64 x.fAt]
structure A4_Int where
  a0 : Int
  a1 : Int
  a2 : Int
  a3 : Int
  deriving DecidableEq
def A4_Int.pd (x : A4_Int) : PD := .agg [.int .i64 x.a0, .int .i64 x.a1, .int .i64 x.a2, .int .i64 x.a3]
structure bq where
  a0 : Int
  a1 : Int
  deriving DecidableEq
def bq.pd (x : bq) : PD := .agg [.int .i64 x.a0, .int .i64 x.a1]
structure cy where
  a0 : bq
  a1 : bq
  a2 : bq
  a3 : bq
  a4 : bq
  deriving DecidableEq
def cy.pd (x : cy) : PD := .agg [.int .i64 x.a0.a0, .int .i64 x.a0.a1, .int .i64 x.a1.a0, .int .i64 x.a1.a1, .int .i64 x.a2.a0, .int .i64 x.a2.a1, .int .i64 x.a3.a0, .int .i64 x.a3.a1, .int .i64 x.a4.a0, .int .i64 x.a4.a1]
structure aV where
  fL : (List (List UInt8))
  deriving DecidableEq
def aV.pd (x : aV) : PD := .agg [.lst (x.fL.map PD.str)]

noncomputable def jn (a0 : (List ag)) : Int → Option (Step1 (Int) ((Unit) ⊕ (Bool))) := fun s1 =>
  if (decide (s1 < (a0.length : Int))) = true then ((getO a0 s1).bind fun x4 => if (decide ((x4.ae.aa.aJ.length : Int) > (80 : Int))) = true then (some (.stop (.inr false))) else (some (.next (IntKind.wrap .i64 (s1 + (1 : Int)))))) else (some (.stop (.inl ())))
noncomputable def hT (a0 : (List ag)) : Option (Bool) :=
  (loopO (jn a0) (0 : Int)).bind fun o7 => match o7 with | .inl y8 => (some (decide ((a0.length : Int) ≤ (20 : Int)))) | .inr r9 => (some r9)
noncomputable def jl (a0 : Int) (a1 : Int) : Option (Int) :=
  if (decide (a1 < (1 : Int))) = true then (some (0 : Int)) else ((remO a0 a1).bind fun x2 => if (decide (x2 < (0 : Int))) = true then (some (IntKind.wrap .i64 (x2 + a1))) else (some x2))
noncomputable def gd (a0 : Int) : Option (au) :=
  (jl a0 (6 : Int)).bind fun x1 => (getO [[83, 49], [83, 50], [83, 51], [83, 52], [83, 53], [83, 54]] x1).bind fun x2 => some (au.mk [65, 66] x2 [48, 48] [66, 72, 90])
noncomputable def fO (a0 : Int) : Option (ag) :=
  (gd (0 : Int)).bind fun x1 => some (ag.mk a0 1 a0 7 1 (az.mk (ah.mk x1 5 4 9 0 (-1)) (aG.mk [(ah.mk x1 5 4 9 0 (-1))] (aK.mk (ak.mk 0 0 0) 0 0 0 (aZ.mk (ak.mk 0 0 0) (ak.mk 0 0 0))) (aO.mk 0 0) 0)))
noncomputable def eL (a0 : Int) : Option (Bool) :=
  if (decide (a0 ≥ (65 : Int))) = true then (if (decide (a0 ≤ (90 : Int))) = true then (some true) else (if (decide (a0 ≥ (48 : Int))) = true then (some (decide (a0 ≤ (57 : Int)))) else (some false))) else (if (decide (a0 ≥ (48 : Int))) = true then (some (decide (a0 ≤ (57 : Int)))) else (some false))
noncomputable def eD (a0 : (List UInt8)) : Int → Option (Step1 (Int) ((Unit) ⊕ (Bool))) := fun s1 =>
  if (decide (s1 < (a0.length : Int))) = true then ((byteO a0 s1).bind fun x4 => (eL x4).bind fun x5 => if (!x5) = true then (some (.stop (.inr false))) else (some (.next (IntKind.wrap .i64 (s1 + (1 : Int)))))) else (some (.stop (.inl ())))
noncomputable def dF (a0 : (List UInt8)) (a1 : Int) (a2 : Int) : Option (Bool) :=
  (loopO (eD a0) (0 : Int)).bind fun o8 => match o8 with | .inl y9 => (if (decide ((a0.length : Int) ≥ a1)) = true then (some (decide ((a0.length : Int) ≤ a2))) else (some false)) | .inr r10 => (some r10)
noncomputable def dg (a0 : au) : Option (Bool) :=
  (dF a0.aB (1 : Int) (2 : Int)).bind fun x1 => if x1 = true then ((dF a0.aD (1 : Int) (5 : Int)).bind fun x3 => if x3 = true then ((dF a0.ac (0 : Int) (2 : Int)).bind fun x5 => if x5 = true then (if ((a0.ac.length : Int) != (1 : Int)) = true then ((dF a0.aC (3 : Int) (3 : Int)).bind fun x8 => some x8) else (some false)) else (some false)) else (some false)) else (some false)
noncomputable def fP (a0 : Int) (a1 : Int) (a2 : Int) : Option (Bool) :=
  if (decide (a0 ≥ a1)) = true then (some (decide (a0 ≤ a2))) else (some false)
noncomputable def b8 (a0 : ah) : Option (Bool) :=
  (dg a0.ai).bind fun x1 => if x1 = true then (if (decide (a0.aL ≥ (0 : Int))) = true then (if (decide (a0.aL ≤ a0.aF)) = true then (if (decide (a0.aF ≤ a0.aP)) = true then (if (decide (a0.aP ≤ (18014398509481984 : Int))) = true then ((fP a0.aq (0 : Int) (1073741823 : Int)).bind fun x7 => if x7 = true then ((fP a0.av (-1 : Int) (1 : Int)).bind fun x9 => some x9) else (some false)) else (some false)) else (some false)) else (some false)) else (some false)) else (some false)
noncomputable def cX (a0 : ah) : Option (Bool) :=
  (b8 a0).bind fun x1 => some (!x1)
noncomputable def bn (a0 : (List ah)) : Int → Option (Step1 (Int) ((Unit) ⊕ (Int))) := fun s1 =>
  if (decide (s1 < (a0.length : Int))) = true then ((getO a0 s1).bind fun x4 => (cX x4).bind fun x5 => if x5 = true then (some (.stop (.inr s1))) else (some (.next (IntKind.wrap .i64 (s1 + (1 : Int)))))) else (some (.stop (.inl ())))
noncomputable def bR (a0 : (List ah)) : Option (Int) :=
  (loopO (bn a0) (0 : Int)).bind fun o8 => match o8 with | .inl y9 => (some (-1 : Int)) | .inr r10 => (some r10)
noncomputable def bk (a0 : (List ah)) : Option (Bool) :=
  (bR a0).bind fun x1 => some (decide (x1 ≥ (0 : Int)))
noncomputable def dR (a0 : Int) : Option (Bool) :=
  if (decide (a0 < (-1152921504606846976 : Int))) = true then (some true) else (some (decide (a0 > (1152921504606846976 : Int))))
noncomputable def bu (a0 : (List Int)) : Int → Option (Step1 (Int) ((Unit) ⊕ (Int))) := fun s1 =>
  if (decide (s1 < (a0.length : Int))) = true then ((getO a0 s1).bind fun x4 => (dR x4).bind fun x5 => if x5 = true then (some (.stop (.inr s1))) else (some (.next (IntKind.wrap .i64 (s1 + (1 : Int)))))) else (some (.stop (.inl ())))
noncomputable def cn (a0 : (List Int)) : Option (Int) :=
  (loopO (bu a0) (0 : Int)).bind fun o8 => match o8 with | .inl y9 => (some (-1 : Int)) | .inr r10 => (some r10)
noncomputable def b7 (a0 : (List Int)) : Option (Bool) :=
  (cn a0).bind fun x1 => some (decide (x1 ≥ (0 : Int)))
noncomputable def cK (a0 : (List Int)) : Option (Bool) :=
  (b7 a0).bind fun x1 => some (!x1)
noncomputable def d8 (a0 : ak) : Option ((List Int)) :=
  some [a0.fX, a0.fY, a0.fZ]
noncomputable def eh (j2 : (List Int)) : Option ((List Int)) :=
  some j2
noncomputable def eX (a0 : Int) : Option ((List Int)) :=
  if (decide (a0 < (0 : Int))) = true then (none) else (if (decide ((IntKind.wrap .i64 (a0 - (0 : Int))) > (0 : Int))) = true then ((mkZ (IntKind.wrap .i64 (a0 - (0 : Int))) (0 : Int) 8).bind fun x5 => (subO x5.length (0 : Int) (0 : Int)).bind fun x6 => eh (x5.take (0 : Int).toNat)) else (eh ([] : List Int)))
noncomputable def dE (a0 : (List (List Int))) : (Int × Int) → Option (Step1 (Int × Int) (Int)) := fun (s1, s2) =>
  if (decide (s2 < (a0.length : Int))) = true then ((getO a0 s2).bind fun x6 => if (decide ((IntKind.wrap .i64 (s1 + (x6.length : Int))) < (0 : Int))) = true then (none) else (some (.next ((IntKind.wrap .i64 (s1 + (x6.length : Int))), (IntKind.wrap .i64 (s2 + (1 : Int))))))) else (some (.stop s1))
noncomputable def dp (a0 : (List (List Int))) : (Int × (List Int)) → Option (Step1 (Int × (List Int)) ((List Int))) := fun (s11, s12) =>
  if (decide (s11 < (a0.length : Int))) = true then ((getO a0 s11).bind fun x16 => (appO s12 x16 8).bind fun x17 => some (.next ((IntKind.wrap .i64 (s11 + (1 : Int))), x17))) else (some (.stop s12))
noncomputable def dD (a0 : (List (List Int))) : Option ((List Int)) :=
  (loopO (dE a0) ((0 : Int), (0 : Int))).bind fun o9 => (eX o9).bind fun x10 => (loopO (dp a0) ((0 : Int), x10)).bind fun o19 => some o19
noncomputable def fq (a0 : aG) : Option ((List Int)) :=
  (d8 a0.ac.aA).bind fun x1 => (d8 a0.ac.am.aI).bind fun x2 => (d8 a0.ac.am.aw).bind fun x3 => (dD [x1, [a0.ac.aF, a0.ac.aQ, a0.ac.aW], x2, x3, [a0.ap.aI, a0.ap.aw, a0.aU]]).bind fun x4 => some x4
noncomputable def cW (a0 : ag) : Option (Bool) :=
  if (decide (a0.aT < (0 : Int))) = true then (some false) else (if (decide (a0.aT ≥ (1000 : Int))) = true then (some false) else (if (decide (a0.ba < (1 : Int))) = true then (some false) else (if (decide (a0.ba > (3 : Int))) = true then (some false) else (if (decide (a0.fID < (0 : Int))) = true then (some false) else (if (decide (a0.fID > a0.aT)) = true then (some false) else (if (!((a0.fID == a0.aT) == (a0.ba == (1 : Int)))) = true then (some false) else (if (decide (a0.aX < (0 : Int))) = true then (some false) else (if (decide (a0.aX > (8 : Int))) = true then (some false) else (if (decide ((a0.ae.aa.aJ.length : Int) > (64 : Int))) = true then (some false) else ((b8 a0.ae.aj).bind fun x11 => if (!x11) = true then (some false) else ((bk a0.ae.aa.aJ).bind fun x13 => if x13 = true then (some false) else ((cK [a0.fAt]).bind fun x15 => if x15 = true then ((fq a0.ae.aa).bind fun x17 => (cK x17).bind fun x18 => some x18) else (some false)))))))))))))
noncomputable def kv (a0 : (List Int)) : (Int × (List (List UInt8))) → Option (Step1 (Int × (List (List UInt8))) ((List (List UInt8)))) := fun (s1, s2) =>
  if (decide (s1 < (a0.length : Int))) = true then ((getO a0 s1).bind fun x5 => (itoaO x5).bind fun x6 => (appO s2 [x6] 16).bind fun x7 => some (.next ((IntKind.wrap .i64 (s1 + (1 : Int))), x7))) else ((some s2).bind fun z8 => some (.stop z8))
noncomputable def eE (a0 : (List Int)) : Option ((List (List UInt8))) :=
  (loopO (kv a0) ((0 : Int), ([] : (List (List UInt8))))).bind fun o10 => some o10
noncomputable def gK (a0 : au) : Option (cz) :=
  some (cz.mk a0.aB a0.aD a0.ac a0.aC)
noncomputable def dL (a0 : au) : Option ((List UInt8) × Int) :=
  (dg a0).bind fun x1 => if (!x1) = true then (some (([] : (List UInt8)), (1 : Int))) else ((gK a0).bind fun x3 => (joinO [x3.a0, x3.a1, x3.a2, x3.a3] ([46] : List UInt8)).bind fun x4 => some (x4, (0 : Int)))
noncomputable def dO (a0 : (List Int)) : (Int × (List (List UInt8))) → Option (Step1 (Int × (List (List UInt8))) ((List (List UInt8)))) := fun (s2, s3) =>
  if (decide (s2 < (a0.length : Int))) = true then ((getO a0 s2).bind fun x6 => (itoaO x6).bind fun x7 => (appO s3 [x7] 16).bind fun x8 => some (.next ((IntKind.wrap .i64 (s2 + (1 : Int))), x8))) else ((some s3).bind fun z9 => some (.stop z9))
noncomputable def cp (a0 : (List Int)) (d1 : (List (List UInt8))) : Option ((List (List UInt8))) :=
  (loopO (dO a0) ((0 : Int), d1)).bind fun o11 => some o11
noncomputable def dG (a0 : ah) (d1 : (List (List UInt8))) : Option ((List (List UInt8))) :=
  (dL a0.ai).bind fun x1 => (appO d1 [x1.1] 16).bind fun x2 => (cp [a0.aF, a0.aL, a0.aP, a0.aq, a0.av] x2).bind fun x3 => some x3
noncomputable def cS (a0 : ag) : (Int × (List (List UInt8))) → Option (Step1 (Int × (List (List UInt8))) ((List (List UInt8)))) := fun (s6, s7) =>
  if (decide (s6 < (a0.ae.aa.aJ.length : Int))) = true then ((getO a0.ae.aa.aJ s6).bind fun x11 => (dG x11 s7).bind fun x12 => some (.next ((IntKind.wrap .i64 (s6 + (1 : Int))), x12))) else (some (.stop s7))
noncomputable def co (a0 : ag) : Option ((List UInt8) × Int) :=
  (cW a0).bind fun x1 => if (!x1) = true then (some (([] : (List UInt8)), (1 : Int))) else ((eE [a0.aT, a0.ba, a0.fID, a0.fAt, a0.aX]).bind fun x3 => (dG a0.ae.aj x3).bind fun x4 => (cp [(a0.ae.aa.aJ.length : Int)] x4).bind fun x5 => (loopO (cS a0) ((0 : Int), x5)).bind fun o14 => (fq a0.ae.aa).bind fun x15 => (cp x15 o14).bind fun x16 => (joinO x16 ([32] : List UInt8)).bind fun x17 => some (x17, (0 : Int)))
noncomputable def ex (d0 : bg) : Option ((List UInt8) × bg) :=
  if ((d0.bo.length : Int) == (0 : Int)) = true then (some (([] : (List UInt8)), (bg.mk d0.bo true))) else ((getO d0.bo (0 : Int)).bind fun x2 => (cutO d0.bo 1 (d0.bo.length : Int)).bind fun x3 => some (x2, (bg.mk x3 d0.cZ)))
noncomputable def bc (d0 : bg) : Option (Int × bg) :=
  (ex d0).bind fun x1 => (atoiO x1.1).bind fun x2 => if x1.2.cZ = true then (some (x2.1, (bg.mk x1.2.bo true))) else (if (!x2.2) = true then (some (x2.1, (bg.mk x1.2.bo true))) else ((itoaO x2.1).bind fun x5 => some (x2.1, (bg.mk x1.2.bo (!(x5 == x1.1))))))
noncomputable def df (a0 : (List UInt8)) : Option (au × Int) :=
  (splitO a0 ([46] : List UInt8)).bind fun x1 => if ((x1.length : Int) != (4 : Int)) = true then (some ((au.mk [] [] [] []), (3 : Int))) else ((getO x1 (0 : Int)).bind fun x3 => (getO x1 (1 : Int)).bind fun x4 => (getO x1 (2 : Int)).bind fun x5 => (getO x1 (3 : Int)).bind fun x6 => (dg (au.mk x3 x4 x5 x6)).bind fun x7 => if (!x7) = true then (some ((au.mk [] [] [] []), (3 : Int))) else (some ((au.mk x3 x4 x5 x6), (0 : Int))))
noncomputable def ew (d0 : bg) : Option (ah × bg) :=
  (ex d0).bind fun x1 => (df x1.1).bind fun x2 => if x1.2.cZ = true then ((bc (bg.mk x1.2.bo true)).bind fun x4 => (bc x4.2).bind fun x5 => (bc x5.2).bind fun x6 => (bc x6.2).bind fun x7 => (bc x7.2).bind fun x8 => some ((ah.mk x2.1 x4.1 x5.1 x6.1 x7.1 x8.1), x8.2)) else ((bc (bg.mk x1.2.bo (x2.2 != (0 : Int)))).bind fun x9 => (bc x9.2).bind fun x10 => (bc x10.2).bind fun x11 => (bc x11.2).bind fun x12 => (bc x12.2).bind fun x13 => some ((ah.mk x2.1 x9.1 x10.1 x11.1 x12.1 x13.1), x13.2))
noncomputable def cB (d0 : bg) : Option (ak × bg) :=
  (bc d0).bind fun x1 => (bc x1.2).bind fun x2 => (bc x2.2).bind fun x3 => some ((ak.mk x1.1 x2.1 x3.1), x3.2)
noncomputable def cI (d0 : (List ah)) : Int → Option (Step1 (Int) ((Unit) ⊕ (Int × (List ah)))) := fun s1 =>
  if (decide (s1 < (d0.length : Int))) = true then ((inO d0 s1).bind fun x5 => (getO d0 s1).bind fun x6 => (cX x6).bind fun x7 => if x7 = true then (some (.stop (.inr (s1, d0)))) else (some (.next (IntKind.wrap .i64 (s1 + (1 : Int)))))) else (some (.stop (.inl ())))
noncomputable def de (d0 : (List ah)) : Option (Int × (List ah)) :=
  (loopO (cI d0) (0 : Int)).bind fun o10 => match o10 with | .inl y11 => (some ((-1 : Int), d0)) | .inr r12 => (some r12)
noncomputable def ci (d0 : (List ah)) : Option (Bool × (List ah)) :=
  (de d0).bind fun x1 => some ((decide (x1.1 ≥ (0 : Int))), x1.2)
noncomputable def eP (ct : Int) (cu : Int) (cN : Int) (cE : Int) (cL : Int) (cM : Int) (cO : Int) (cP : Int) (cQ : Int) (bY : Int) (bZ : Int) (b6 : Int) (b9 : Int) (a0_14 : Int) (bz : Int) (d0 : (List ah)) : Option ((List Int) × (List ah)) :=
  (d8 (ak.mk ct cu cN)).bind fun x1 => (d8 (ak.mk cO cP cQ)).bind fun x2 => (d8 (ak.mk bY bZ b6)).bind fun x3 => (dD [x1, [cE, cL, cM], x2, x3, [b9, a0_14, bz]]).bind fun x4 => some (x4, d0)
noncomputable def hJ (cJ : Int) (ct : Int) (cu : Int) (cN : Int) (cE : Int) (cL : (List UInt8)) (cM : (List UInt8)) (cO : (List UInt8)) (cP : (List UInt8)) (cQ : Int) (bY : Int) (bZ : Int) (b6 : Int) (b9 : Int) (bz : Int) (bD : Int) (bF : Int) (bG : Int) (bH : Int) (bI : Int) (bJ : Int) (bK : Int) (bL : Int) (bM : Int) (bN : Int) (bO : Int) (bT : Int) (bU : Int) (bV : Int) (d0 : (List ah)) : Option (Bool × (List ah)) :=
  if (decide (cJ < (0 : Int))) = true then (some (false, d0)) else (if (decide (cJ ≥ (1000 : Int))) = true then (some (false, d0)) else (if (decide (ct < (1 : Int))) = true then (some (false, d0)) else (if (decide (ct > (3 : Int))) = true then (some (false, d0)) else (if (decide (cu < (0 : Int))) = true then (some (false, d0)) else (if (decide (cu > cJ)) = true then (some (false, d0)) else (if (!((cu == cJ) == (ct == (1 : Int)))) = true then (some (false, d0)) else (if (decide (cE < (0 : Int))) = true then (some (false, d0)) else (if (decide (cE > (8 : Int))) = true then (some (false, d0)) else (if (decide ((d0.length : Int) > (64 : Int))) = true then (some (false, d0)) else ((b8 (ah.mk (au.mk cL cM cO cP) cQ bY bZ b6 b9)).bind fun x11 => if (!x11) = true then (some (false, d0)) else ((ci d0).bind fun x13 => if x13.1 = true then (some (false, x13.2)) else ((cK [cN]).bind fun x15 => if x15 = true then ((eP bz bD bF bG bH bI bJ bK bL bM bN bO bT bU bV x13.2).bind fun x17 => (cK x17.1).bind fun x18 => some (x18, x17.2)) else (some (false, x13.2))))))))))))))
noncomputable def fM (x1 : Bool × (List ah)) : (Int × (List (List UInt8))) → Option (Step1 (Int × (List (List UInt8))) ((List (List UInt8)))) := fun (s6, s7) =>
  if (decide (s6 < (x1.2.length : Int))) = true then ((inO x1.2 s6).bind fun x12 => (getO x1.2 s6).bind fun x13 => (dG x13 s7).bind fun x14 => some (.next ((IntKind.wrap .i64 (s6 + (1 : Int))), x14))) else (some (.stop s7))
noncomputable def gA (cJ : Int) (ct : Int) (cu : Int) (cN : Int) (cE : Int) (cL : (List UInt8)) (cM : (List UInt8)) (cO : (List UInt8)) (cP : (List UInt8)) (cQ : Int) (bY : Int) (bZ : Int) (b6 : Int) (b9 : Int) (bz : Int) (bD : Int) (bF : Int) (bG : Int) (bH : Int) (bI : Int) (bJ : Int) (bK : Int) (bL : Int) (bM : Int) (bN : Int) (bO : Int) (bT : Int) (bU : Int) (bV : Int) (d0 : (List ah)) : Option ((List UInt8) × Int × (List ah)) :=
  (hJ cJ ct cu cN cE cL cM cO cP cQ bY bZ b6 b9 bz bD bF bG bH bI bJ bK bL bM bN bO bT bU bV d0).bind fun x1 => if (!x1.1) = true then (some (([] : (List UInt8)), (1 : Int), x1.2)) else ((eE [cJ, ct, cu, cN, cE]).bind fun x3 => (dG (ah.mk (au.mk cL cM cO cP) cQ bY bZ b6 b9) x3).bind fun x4 => (cp [(x1.2.length : Int)] x4).bind fun x5 => (loopO (fM x1) ((0 : Int), x5)).bind fun o16 => (eP bz bD bF bG bH bI bJ bK bL bM bN bO bT bU bV x1.2).bind fun x17 => (cp x17.1 o16).bind fun x18 => (joinO x18 ([32] : List UInt8)).bind fun x19 => some (x19, (0 : Int), x17.2))
noncomputable def du  : (Int × (List (List UInt8)) × Bool × (List ah)) → Option (Step1 (Int × (List (List UInt8)) × Bool × (List ah)) ((List (List UInt8)) × Bool × (List ah))) := fun (s9, s10, s11, s12) =>
  if (decide (s9 > (0 : Int))) = true then (if (!s11) = true then ((ew (bg.mk s10 s11)).bind fun x19 => (appO s12 [x19.1] 104).bind fun x20 => some (.next ((IntKind.wrap .i64 (s9 - (1 : Int))), x19.2.bo, x19.2.cZ, x20))) else (some (.stop (s10, s11, s12)))) else (some (.stop (s10, s11, s12)))
noncomputable def ca (a0 : (List UInt8)) : Option (ag × Int) :=
  (splitO a0 ([32] : List UInt8)).bind fun x1 => (bc (bg.mk x1 false)).bind fun x2 => (bc x2.2).bind fun x3 => (bc x3.2).bind fun x4 => (bc x4.2).bind fun x5 => (bc x5.2).bind fun x6 => (ew x6.2).bind fun x7 => (bc x7.2).bind fun x8 => (loopO (du) (x8.1, x8.2.bo, x8.2.cZ, ([] : (List ah)))).bind fun o22 => (cB (bg.mk o22.1 o22.2.1)).bind fun x23 => (bc x23.2).bind fun x24 => (bc x24.2).bind fun x25 => (bc x25.2).bind fun x26 => (cB x26.2).bind fun x27 => (cB x27.2).bind fun x28 => (bc x28.2).bind fun x29 => (bc x29.2).bind fun x30 => (bc x30.2).bind fun x31 => if x31.2.cZ = true then (some ((ag.mk 0 0 0 0 0 (az.mk (ah.mk (au.mk [] [] [] []) 0 0 0 0 0) (aG.mk [] (aK.mk (ak.mk 0 0 0) 0 0 0 (aZ.mk (ak.mk 0 0 0) (ak.mk 0 0 0))) (aO.mk 0 0) 0))), (3 : Int))) else (if (decide ((x31.2.bo.length : Int) > (0 : Int))) = true then (some ((ag.mk 0 0 0 0 0 (az.mk (ah.mk (au.mk [] [] [] []) 0 0 0 0 0) (aG.mk [] (aK.mk (ak.mk 0 0 0) 0 0 0 (aZ.mk (ak.mk 0 0 0) (ak.mk 0 0 0))) (aO.mk 0 0) 0))), (3 : Int))) else ((gA x2.1 x3.1 x4.1 x5.1 x6.1 x7.1.ai.aB x7.1.ai.aD x7.1.ai.ac x7.1.ai.aC x7.1.aF x7.1.aL x7.1.aP x7.1.aq x7.1.av x23.1.fX x23.1.fY x23.1.fZ x24.1 x25.1 x26.1 x27.1.fX x27.1.fY x27.1.fZ x28.1.fX x28.1.fY x28.1.fZ x29.1 x30.1 x31.1 o22.2.2).bind fun x34 => if (x34.2.1 != (0 : Int)) = true then (some ((ag.mk 0 0 0 0 0 (az.mk (ah.mk (au.mk [] [] [] []) 0 0 0 0 0) (aG.mk [] (aK.mk (ak.mk 0 0 0) 0 0 0 (aZ.mk (ak.mk 0 0 0) (ak.mk 0 0 0))) (aO.mk 0 0) 0))), (3 : Int))) else (if (!(x34.1 == a0)) = true then (some ((ag.mk 0 0 0 0 0 (az.mk (ah.mk (au.mk [] [] [] []) 0 0 0 0 0) (aG.mk [] (aK.mk (ak.mk 0 0 0) 0 0 0 (aZ.mk (ak.mk 0 0 0) (ak.mk 0 0 0))) (aO.mk 0 0) 0))), (3 : Int))) else (some ((ag.mk x2.1 x3.1 x4.1 x5.1 x6.1 (az.mk x7.1 (aG.mk x34.2.2 (aK.mk x23.1 x24.1 x25.1 x26.1 (aZ.mk x27.1 x28.1)) (aO.mk x29.1 x30.1) x31.1))), (0 : Int))))))
noncomputable def eb (a0 : (List ah)) (a1 : (List ah)) : Int → Option (Step1 (Int) ((Unit) ⊕ (Bool))) := fun s2 =>
  if (decide (s2 < (a0.length : Int))) = true then ((getO a0 s2).bind fun x5 => (getO a1 s2).bind fun x6 => if (!(((x5.ai.aB == x6.ai.aB) && ((x5.ai.aD == x6.ai.aD) && ((x5.ai.ac == x6.ai.ac) && ((x5.ai.aC == x6.ai.aC) && true)))) && ((x5.aF == x6.aF) && ((x5.aL == x6.aL) && ((x5.aP == x6.aP) && ((x5.aq == x6.aq) && ((x5.av == x6.av) && true))))))) = true then (some (.stop (.inr false))) else (some (.next (IntKind.wrap .i64 (s2 + (1 : Int)))))) else (some (.stop (.inl ())))
noncomputable def cY (a0 : (List ah)) (a1 : (List ah)) : Option (Bool) :=
  if ((a0.length : Int) != (a1.length : Int)) = true then (some false) else ((loopO (eb a0 a1) (0 : Int)).bind fun o9 => match o9 with | .inl y10 => (some true) | .inr r11 => (some r11))
noncomputable def jX (a0 : aG) (a1 : aG) : Option (Bool) :=
  (cY a0.aJ a1.aJ).bind fun x1 => if x1 = true then (if (((a0.ac.aA.fX == a1.ac.aA.fX) && ((a0.ac.aA.fY == a1.ac.aA.fY) && ((a0.ac.aA.fZ == a1.ac.aA.fZ) && true))) && ((a0.ac.aF == a1.ac.aF) && ((a0.ac.aQ == a1.ac.aQ) && ((a0.ac.aW == a1.ac.aW) && ((((a0.ac.am.aI.fX == a1.ac.am.aI.fX) && ((a0.ac.am.aI.fY == a1.ac.am.aI.fY) && ((a0.ac.am.aI.fZ == a1.ac.am.aI.fZ) && true))) && (((a0.ac.am.aw.fX == a1.ac.am.aw.fX) && ((a0.ac.am.aw.fY == a1.ac.am.aw.fY) && ((a0.ac.am.aw.fZ == a1.ac.am.aw.fZ) && true))) && true)) && true))))) = true then (if ((a0.ap.aI == a1.ap.aI) && ((a0.ap.aw == a1.ap.aw) && true)) = true then (some (a0.aU == a1.aU)) else (some false)) else (some false)) else (some false)
noncomputable def gq (a0 : az) (a1 : az) : Option (Bool) :=
  if (((a0.aj.ai.aB == a1.aj.ai.aB) && ((a0.aj.ai.aD == a1.aj.ai.aD) && ((a0.aj.ai.ac == a1.aj.ai.ac) && ((a0.aj.ai.aC == a1.aj.ai.aC) && true)))) && ((a0.aj.aF == a1.aj.aF) && ((a0.aj.aL == a1.aj.aL) && ((a0.aj.aP == a1.aj.aP) && ((a0.aj.aq == a1.aj.aq) && ((a0.aj.av == a1.aj.av) && true)))))) = true then ((jX a0.aa a1.aa).bind fun x2 => some x2) else (some false)
noncomputable def cH (a0 : ag) (a1 : ag) : Option (Bool) :=
  if (a0.aT == a1.aT) = true then (if (a0.ba == a1.ba) = true then (if (a0.fID == a1.fID) = true then (if (a0.fAt == a1.fAt) = true then (if (a0.aX == a1.aX) = true then ((gq a0.ae a1.ae).bind fun x6 => some x6) else (some false)) else (some false)) else (some false)) else (some false)) else (some false)
noncomputable def gj (a0 : (List aS)) : (Int × (List (Int × ag))) → Option (Step1 (Int × (List (Int × ag))) ((List (Int × ag)))) := fun (s1, s2) =>
  if (decide (s1 < (a0.length : Int))) = true then ((getO a0 s1).bind fun x6 => if (mHas (fun a b => a == b) x6.cq s2) = true then (some (.next ((IntKind.wrap .i64 (s1 + (1 : Int))), s2))) else ((ca x6.ei).bind fun x8 => if (x8.2 == (0 : Int)) = true then (if (x8.1.aT == x6.cq) = true then (some (.next ((IntKind.wrap .i64 (s1 + (1 : Int))), (mPut (fun a b => a == b) x6.cq x8.1 s2)))) else (some (.next ((IntKind.wrap .i64 (s1 + (1 : Int))), s2)))) else (some (.next ((IntKind.wrap .i64 (s1 + (1 : Int))), s2))))) else (some (.stop s2))
noncomputable def cV (o12 : (List (Int × ag))) : (Int × (List ag)) → Option (Step1 (Int × (List ag)) ((List ag))) := fun (s13, s14) =>
  if (!(mHas (fun a b => a == b) s13 o12)) = true then (some (.stop s14)) else ((appO s14 [(ag.mk ((mGet (fun a b => a == b) s13 (ag.mk 0 0 0 0 0 (az.mk (ah.mk (au.mk [] [] [] []) 0 0 0 0 0) (aG.mk [] (aK.mk (ak.mk 0 0 0) 0 0 0 (aZ.mk (ak.mk 0 0 0) (ak.mk 0 0 0))) (aO.mk 0 0) 0))) o12).aT) ((mGet (fun a b => a == b) s13 (ag.mk 0 0 0 0 0 (az.mk (ah.mk (au.mk [] [] [] []) 0 0 0 0 0) (aG.mk [] (aK.mk (ak.mk 0 0 0) 0 0 0 (aZ.mk (ak.mk 0 0 0) (ak.mk 0 0 0))) (aO.mk 0 0) 0))) o12).ba) ((mGet (fun a b => a == b) s13 (ag.mk 0 0 0 0 0 (az.mk (ah.mk (au.mk [] [] [] []) 0 0 0 0 0) (aG.mk [] (aK.mk (ak.mk 0 0 0) 0 0 0 (aZ.mk (ak.mk 0 0 0) (ak.mk 0 0 0))) (aO.mk 0 0) 0))) o12).fID) ((mGet (fun a b => a == b) s13 (ag.mk 0 0 0 0 0 (az.mk (ah.mk (au.mk [] [] [] []) 0 0 0 0 0) (aG.mk [] (aK.mk (ak.mk 0 0 0) 0 0 0 (aZ.mk (ak.mk 0 0 0) (ak.mk 0 0 0))) (aO.mk 0 0) 0))) o12).fAt) ((mGet (fun a b => a == b) s13 (ag.mk 0 0 0 0 0 (az.mk (ah.mk (au.mk [] [] [] []) 0 0 0 0 0) (aG.mk [] (aK.mk (ak.mk 0 0 0) 0 0 0 (aZ.mk (ak.mk 0 0 0) (ak.mk 0 0 0))) (aO.mk 0 0) 0))) o12).aX) (az.mk (ah.mk ((((mGet (fun a b => a == b) s13 (ag.mk 0 0 0 0 0 (az.mk (ah.mk (au.mk [] [] [] []) 0 0 0 0 0) (aG.mk [] (aK.mk (ak.mk 0 0 0) 0 0 0 (aZ.mk (ak.mk 0 0 0) (ak.mk 0 0 0))) (aO.mk 0 0) 0))) o12).ae).aj).ai) ((((mGet (fun a b => a == b) s13 (ag.mk 0 0 0 0 0 (az.mk (ah.mk (au.mk [] [] [] []) 0 0 0 0 0) (aG.mk [] (aK.mk (ak.mk 0 0 0) 0 0 0 (aZ.mk (ak.mk 0 0 0) (ak.mk 0 0 0))) (aO.mk 0 0) 0))) o12).ae).aj).aF) ((((mGet (fun a b => a == b) s13 (ag.mk 0 0 0 0 0 (az.mk (ah.mk (au.mk [] [] [] []) 0 0 0 0 0) (aG.mk [] (aK.mk (ak.mk 0 0 0) 0 0 0 (aZ.mk (ak.mk 0 0 0) (ak.mk 0 0 0))) (aO.mk 0 0) 0))) o12).ae).aj).aL) ((((mGet (fun a b => a == b) s13 (ag.mk 0 0 0 0 0 (az.mk (ah.mk (au.mk [] [] [] []) 0 0 0 0 0) (aG.mk [] (aK.mk (ak.mk 0 0 0) 0 0 0 (aZ.mk (ak.mk 0 0 0) (ak.mk 0 0 0))) (aO.mk 0 0) 0))) o12).ae).aj).aP) ((((mGet (fun a b => a == b) s13 (ag.mk 0 0 0 0 0 (az.mk (ah.mk (au.mk [] [] [] []) 0 0 0 0 0) (aG.mk [] (aK.mk (ak.mk 0 0 0) 0 0 0 (aZ.mk (ak.mk 0 0 0) (ak.mk 0 0 0))) (aO.mk 0 0) 0))) o12).ae).aj).aq) ((((mGet (fun a b => a == b) s13 (ag.mk 0 0 0 0 0 (az.mk (ah.mk (au.mk [] [] [] []) 0 0 0 0 0) (aG.mk [] (aK.mk (ak.mk 0 0 0) 0 0 0 (aZ.mk (ak.mk 0 0 0) (ak.mk 0 0 0))) (aO.mk 0 0) 0))) o12).ae).aj).av)) (aG.mk ((((mGet (fun a b => a == b) s13 (ag.mk 0 0 0 0 0 (az.mk (ah.mk (au.mk [] [] [] []) 0 0 0 0 0) (aG.mk [] (aK.mk (ak.mk 0 0 0) 0 0 0 (aZ.mk (ak.mk 0 0 0) (ak.mk 0 0 0))) (aO.mk 0 0) 0))) o12).ae).aa).aJ) (aK.mk (((((mGet (fun a b => a == b) s13 (ag.mk 0 0 0 0 0 (az.mk (ah.mk (au.mk [] [] [] []) 0 0 0 0 0) (aG.mk [] (aK.mk (ak.mk 0 0 0) 0 0 0 (aZ.mk (ak.mk 0 0 0) (ak.mk 0 0 0))) (aO.mk 0 0) 0))) o12).ae).aa).ac).aA) (((((mGet (fun a b => a == b) s13 (ag.mk 0 0 0 0 0 (az.mk (ah.mk (au.mk [] [] [] []) 0 0 0 0 0) (aG.mk [] (aK.mk (ak.mk 0 0 0) 0 0 0 (aZ.mk (ak.mk 0 0 0) (ak.mk 0 0 0))) (aO.mk 0 0) 0))) o12).ae).aa).ac).aF) (((((mGet (fun a b => a == b) s13 (ag.mk 0 0 0 0 0 (az.mk (ah.mk (au.mk [] [] [] []) 0 0 0 0 0) (aG.mk [] (aK.mk (ak.mk 0 0 0) 0 0 0 (aZ.mk (ak.mk 0 0 0) (ak.mk 0 0 0))) (aO.mk 0 0) 0))) o12).ae).aa).ac).aQ) (((((mGet (fun a b => a == b) s13 (ag.mk 0 0 0 0 0 (az.mk (ah.mk (au.mk [] [] [] []) 0 0 0 0 0) (aG.mk [] (aK.mk (ak.mk 0 0 0) 0 0 0 (aZ.mk (ak.mk 0 0 0) (ak.mk 0 0 0))) (aO.mk 0 0) 0))) o12).ae).aa).ac).aW) (aZ.mk ((((((mGet (fun a b => a == b) s13 (ag.mk 0 0 0 0 0 (az.mk (ah.mk (au.mk [] [] [] []) 0 0 0 0 0) (aG.mk [] (aK.mk (ak.mk 0 0 0) 0 0 0 (aZ.mk (ak.mk 0 0 0) (ak.mk 0 0 0))) (aO.mk 0 0) 0))) o12).ae).aa).ac).am).aI) ((((((mGet (fun a b => a == b) s13 (ag.mk 0 0 0 0 0 (az.mk (ah.mk (au.mk [] [] [] []) 0 0 0 0 0) (aG.mk [] (aK.mk (ak.mk 0 0 0) 0 0 0 (aZ.mk (ak.mk 0 0 0) (ak.mk 0 0 0))) (aO.mk 0 0) 0))) o12).ae).aa).ac).am).aw))) ((((mGet (fun a b => a == b) s13 (ag.mk 0 0 0 0 0 (az.mk (ah.mk (au.mk [] [] [] []) 0 0 0 0 0) (aG.mk [] (aK.mk (ak.mk 0 0 0) 0 0 0 (aZ.mk (ak.mk 0 0 0) (ak.mk 0 0 0))) (aO.mk 0 0) 0))) o12).ae).aa).ap) ((((mGet (fun a b => a == b) s13 (ag.mk 0 0 0 0 0 (az.mk (ah.mk (au.mk [] [] [] []) 0 0 0 0 0) (aG.mk [] (aK.mk (ak.mk 0 0 0) 0 0 0 (aZ.mk (ak.mk 0 0 0) (ak.mk 0 0 0))) (aO.mk 0 0) 0))) o12).ae).aa).aU))))] 288).bind fun x17 => some (.next ((IntKind.wrap .i64 (s13 + (1 : Int))), x17)))
noncomputable def eu (a0 : (List aS)) : Option ((List ag)) :=
  (loopO (gj a0) ((0 : Int), ([] : List (Int × ag)))).bind fun o12 => (loopO (cV o12) ((0 : Int), ([] : (List ag)))).bind fun o19 => some o19
noncomputable def cU (x5 : ag) (s2 : (List (Int × Bool))) (s1 : Int) : Option (Step1 (Int × (List (Int × Bool))) ((Unit) ⊕ (Bool))) :=
  if (x5.ba != (1 : Int)) = true then (if (!(mGet (fun a b => a == b) x5.fID false s2)) = true then (some (.stop (.inr false))) else (some (.next ((IntKind.wrap .i64 (s1 + (1 : Int))), (mPut (fun a b => a == b) x5.fID (x5.ba != (3 : Int)) s2))))) else (some (.next ((IntKind.wrap .i64 (s1 + (1 : Int))), (mPut (fun a b => a == b) x5.fID (x5.ba != (3 : Int)) s2))))
noncomputable def bA (a0 : (List ag)) : (Int × (List (Int × Bool))) → Option (Step1 (Int × (List (Int × Bool))) ((Unit) ⊕ (Bool))) := fun (s1, s2) =>
  if (decide (s1 < (a0.length : Int))) = true then ((getO a0 s1).bind fun x5 => (cW x5).bind fun x9 => if (!x9) = true then (some (.stop (.inr false))) else (if (x5.aT != s1) = true then (some (.stop (.inr false))) else (if (decide (s1 > (0 : Int))) = true then ((getO a0 (IntKind.wrap .i64 (s1 - (1 : Int)))).bind fun x13 => if (decide (x5.fAt < x13.fAt)) = true then (some (.stop (.inr false))) else (cU x5 s2 s1)) else (cU x5 s2 s1)))) else (some (.stop (.inl ())))
noncomputable def dZ (a0 : (List ag)) : Option (Bool) :=
  (loopO (bA a0) ((0 : Int), ([] : List (Int × Bool)))).bind fun o16 => match o16 with | .inl y17 => (some true) | .inr r18 => (some r18)
noncomputable def dW  : Option (Bool) :=
  (fO (0 : Int)).bind fun x1 => (co x1).bind fun x2 => (fO (2 : Int)).bind fun x3 => (co x3).bind fun x4 => (ca x2.1).bind fun x5 => (catO x2.1 [32]).bind fun x6 => (ca x6).bind fun x7 => if (x2.2 == (0 : Int)) = true then (if (x4.2 == (0 : Int)) = true then (if (x5.2 == (0 : Int)) = true then ((fO (0 : Int)).bind fun x11 => (cH x5.1 x11).bind fun x12 => if x12 = true then (if (x7.2 == (3 : Int)) = true then ((eu [(aS.mk 2 0 x4.1), (aS.mk 0 0 x2.1)]).bind fun x15 => if ((x15.length : Int) == (1 : Int)) = true then ((fO (0 : Int)).bind fun x17 => (fO (1 : Int)).bind fun x18 => (dZ [x17, x18]).bind fun x19 => some x19) else (some false)) else (some false)) else (some false)) else (some false)) else (some false)) else (some false)
noncomputable def kf (a0 : (List Int)) : Option (aH) :=
  (cutO a0 0 (if (2000 : Int) < (a0.length : Int) then (2000 : Int) else (a0.length : Int))).bind fun x1 => some (aH.mk x1 0)
noncomputable def Src_Raw (d0 : aH) : Option (Int × aH) :=
  if (decide (d0.fAt ≥ (d0.fL.length : Int))) = true then (some ((0 : Int), d0)) else ((getO d0.fL (IntKind.wrap .i64 ((IntKind.wrap .i64 (d0.fAt + (1 : Int))) - (1 : Int)))).bind fun x2 => some (x2, (aH.mk d0.fL (IntKind.wrap .i64 (d0.fAt + (1 : Int))))))
noncomputable def dM (a1 : Int) (d0 : aH) : Option (Int × aH) :=
  (Src_Raw d0).bind fun x1 => (jl x1.1 a1).bind fun x2 => some (x2, x1.2)
noncomputable def dm (a1 : (List Int)) (d0 : aH) : Option (Int × aH) :=
  (dM (a1.length : Int) d0).bind fun x1 => (getO a1 x1.1).bind fun x2 => some (x2, x1.2)
noncomputable def jg  : (Int × (List Int) × Int × (List bi)) → Option (Step1 (Int × (List Int) × Int × (List bi)) ((List Int) × Int × (List bi))) := fun (s4, s5, s6, s7) =>
  if (decide (s4 > (0 : Int))) = true then ((dM (400 : Int) (aH.mk s5 s6)).bind fun x13 => (dM (4 : Int) x13.2).bind fun x14 => (dm [0, 10, 100, 10000] x14.2).bind fun x15 => (dm [0, 500, 2000, 100000] x15.2).bind fun x16 => (appO s7 [(bi.mk (IntKind.wrap .i64 (x13.1 - (100 : Int))) (IntKind.wrap .i64 ((1 : Int) + x14.1)) x15.1 x16.1)] 32).bind fun x17 => some (.next ((IntKind.wrap .i64 (s4 - (1 : Int))), x16.2.fL, x16.2.fAt, x17))) else (some (.stop (s5, s6, s7)))
noncomputable def iI (d0 : aH) : Option (aY × aH) :=
  (dm [0, 2, 10, 1000] d0).bind fun x1 => (dm [0, 0, 50, 500] x1.2).bind fun x2 => (dM (3 : Int) x2.2).bind fun x3 => (loopO (jg) ((IntKind.wrap .i64 ((1 : Int) + x3.1)), x3.2.fL, x3.2.fAt, ([] : (List bi)))).bind fun o19 => some ((aY.mk o19.2.2 x1.1 x2.1), (aH.mk o19.1 o19.2.1))
noncomputable def jH (a1 : Int) (d0 : aH) : Option (ak × aH) :=
  (dM (IntKind.wrap .i64 ((IntKind.wrap .i64 ((2 : Int) * a1)) + (1 : Int))) d0).bind fun x1 => (dM (IntKind.wrap .i64 ((IntKind.wrap .i64 ((2 : Int) * a1)) + (1 : Int))) x1.2).bind fun x2 => (dM (IntKind.wrap .i64 (a1 + (1 : Int))) x2.2).bind fun x3 => some ((ak.mk (IntKind.wrap .i64 (x1.1 - a1)) (IntKind.wrap .i64 (x2.1 - a1)) x3.1), x3.2)
noncomputable def jO (x1 : Int × aH) (a1 : Int) : (Int × (List Int) × Int × (List ah)) → Option (Step1 (Int × (List Int) × Int × (List ah)) ((List Int) × Int × (List ah))) := fun (s2, s3, s4, s5) =>
  (dM (4 : Int) (aH.mk s3 s4)).bind fun x10 => if (decide (s2 < (IntKind.wrap .i64 ((1 : Int) + x10.1)))) = true then ((gd s2).bind fun x12 => (dM (3 : Int) x10.2).bind fun x13 => (appO s5 [(ah.mk x12 (IntKind.wrap .i64 ((IntKind.wrap .i64 ((1000 : Int) + x1.1)) + (IntKind.wrap .i64 ((10 : Int) * a1)))) (IntKind.wrap .i64 ((IntKind.wrap .i64 ((1000 : Int) + x1.1)) + (IntKind.wrap .i64 ((10 : Int) * a1)))) (IntKind.wrap .i64 ((IntKind.wrap .i64 ((IntKind.wrap .i64 ((1000 : Int) + x1.1)) + (IntKind.wrap .i64 ((10 : Int) * a1)))) + x13.1)) a1 0)] 104).bind fun x14 => some (.next ((IntKind.wrap .i64 (s2 + (1 : Int))), x13.2.fL, x13.2.fAt, x14))) else (some (.stop (x10.2.fL, x10.2.fAt, s5)))
noncomputable def jG (a1 : Int) (d0 : aH) : Option (az × aH) :=
  (dM (300 : Int) d0).bind fun x1 => (loopO (jO x1 a1) ((0 : Int), x1.2.fL, x1.2.fAt, ([] : (List ah)))).bind fun o16 => (inO o16.2.2 (0 : Int)).bind fun x18 => (getO o16.2.2 (0 : Int)).bind fun x19 => (jH (20 : Int) (aH.mk o16.1 o16.2.1)).bind fun x20 => (dM (40 : Int) x20.2).bind fun x21 => (dm [0, 0, 5, 500] x21.2).bind fun x22 => (dM (3 : Int) x22.2).bind fun x23 => if (decide (x23.1 > (0 : Int))) = true then ((dM (400 : Int) x23.2).bind fun x25 => (dM (60 : Int) x25.2).bind fun x26 => some ((az.mk x19 (aG.mk o16.2.2 (aK.mk x20.1 (IntKind.wrap .i64 ((IntKind.wrap .i64 ((1000 : Int) + x1.1)) - x21.1)) x22.1 0 (aZ.mk x20.1 x20.1)) (aO.mk x25.1 (IntKind.wrap .i64 (x25.1 + x26.1))) x23.1)), x26.2)) else (some ((az.mk x19 (aG.mk o16.2.2 (aK.mk x20.1 (IntKind.wrap .i64 ((IntKind.wrap .i64 ((1000 : Int) + x1.1)) - x21.1)) x22.1 0 (aZ.mk x20.1 x20.1)) (aO.mk 0 0) x23.1)), x23.2))
noncomputable def gQ (x12 : az × aH) (s1 : Int) (s4 : (List az)) : (Int × (List ah)) → Option (Step1 (Int × (List ah)) (Int × (List az) × (List ah))) := fun (s13, s14) =>
  if (decide (s13 < (x12.1.aa.aJ.length : Int))) = true then ((inO s14 s13).bind fun x21 => (modO s14 s13 (fun (z23 : ah) => (ah.mk z23.ai (IntKind.wrap .i64 ((IntKind.wrap .i64 ((1000 : Int) + (IntKind.wrap .i64 ((400 : Int) * s1)))) + s13)) z23.aL z23.aP z23.aq z23.av))).bind fun x22 => (modO x22 s13 (fun (z25 : ah) => (ah.mk z25.ai z25.aF (IntKind.wrap .i64 ((IntKind.wrap .i64 ((1000 : Int) + (IntKind.wrap .i64 ((400 : Int) * s1)))) + s13)) z25.aP z25.aq z25.av))).bind fun x24 => (modO x24 s13 (fun (z27 : ah) => (ah.mk z27.ai z27.aF z27.aL (IntKind.wrap .i64 ((IntKind.wrap .i64 ((IntKind.wrap .i64 ((1000 : Int) + (IntKind.wrap .i64 ((400 : Int) * s1)))) + s13)) + (2 : Int))) z27.aq z27.av))).bind fun x26 => (modO x26 s13 (fun (z29 : ah) => (ah.mk z29.ai z29.aF z29.aL z29.aP 7 z29.av))).bind fun x28 => some (.next ((IntKind.wrap .i64 (s13 + (1 : Int))), x28))) else (some (.stop (s1, s4, s14)))
noncomputable def jf (a1 : Int) : (Int × (List Int) × Int × (List az)) → Option (Step1 (Int × (List Int) × Int × (List az)) ((List az) × (List Int) × Int)) := fun (s1, s2, s3, s4) =>
  if (decide (s1 < a1)) = true then ((dM (3 : Int) (aH.mk s2 s3)).bind fun x10 => if (x10.1 == (0 : Int)) = true then (some (.next ((IntKind.wrap .i64 (s1 + (1 : Int))), x10.2.fL, x10.2.fAt, s4))) else ((jG (1 : Int) x10.2).bind fun x12 => (loopO (gQ x12 s1 s4) ((0 : Int), x12.1.aa.aJ)).bind fun o31 => (dM (2 : Int) x12.2).bind fun x32 => (cutO o31.2.2 (if (IntKind.wrap .i64 ((o31.2.2.length : Int) - (1 : Int))) < x32.1 then (IntKind.wrap .i64 ((o31.2.2.length : Int) - (1 : Int))) else x32.1) (o31.2.2.length : Int)).bind fun x33 => (getO x33 (0 : Int)).bind fun x34 => (appO o31.2.1 [(az.mk x34 (aG.mk x33 x12.1.aa.ac x12.1.aa.ap x12.1.aa.aU))] 248).bind fun x35 => some (.next ((IntKind.wrap .i64 (o31.1 + (1 : Int))), x32.2.fL, x32.2.fAt, x35)))) else (some (.stop (s4, s2, s3)))
noncomputable def iH (a1 : Int) (d0 : aH) : Option ((List az) × aH) :=
  (loopO (jf a1) ((0 : Int), d0.fL, d0.fAt, ([] : (List az)))).bind fun o37 => some (o37.1, (aH.mk o37.2.1 o37.2.2))
noncomputable def ec (a0 : Int) : Option (Bool) :=
  if (decide (a0 ≥ (0 : Int))) = true then (some (decide (a0 ≤ (9007199254740992 : Int)))) else (some false)
noncomputable def gV (a0 : aY) : Int → Option (Step1 (Int) ((Unit) ⊕ (Int))) := fun s7 =>
  if (decide (s7 < (a0.bv.length : Int))) = true then ((getO a0.bv s7).bind fun x10 => if (decide (x10.ap < (-1000 : Int))) = true then (some (.stop (.inr (27 : Int)))) else (if (decide (x10.ap > (2000 : Int))) = true then (some (.stop (.inr (27 : Int)))) else (if (decide (x10.aJ < (1 : Int))) = true then (some (.stop (.inr (27 : Int)))) else (if (decide (x10.aJ > (64 : Int))) = true then (some (.stop (.inr (27 : Int)))) else ((ec x10.aQ).bind fun x15 => if (!x15) = true then (some (.stop (.inr (27 : Int)))) else ((ec x10.hF).bind fun x17 => if (!x17) = true then (some (.stop (.inr (27 : Int)))) else (some (.next (IntKind.wrap .i64 (s7 + (1 : Int))))))))))) else (some (.stop (.inl ())))
noncomputable def dT (a0 : aY) : Option (Int) :=
  if (decide ((a0.bv.length : Int) < (1 : Int))) = true then (some (27 : Int)) else (if (decide ((a0.bv.length : Int) > (8 : Int))) = true then (some (27 : Int)) else ((ec a0.bw).bind fun x3 => if (!x3) = true then (some (27 : Int)) else ((ec a0.dI).bind fun x5 => if (!x5) = true then (some (27 : Int)) else ((loopO (gV a0) (0 : Int)).bind fun o20 => match o20 with | .inl y21 => (some (0 : Int)) | .inr r22 => (some r22)))))
noncomputable def gr (s1 : Int) (a0 : (List aN)) : Int → Option (Step1 (Int) ((Int) ⊕ (Bool))) := fun s4 =>
  if (decide (s4 < s1)) = true then ((getO a0 s1).bind fun x8 => if (!x8.br) = true then ((getO a0 s4).bind fun x10 => if (!x10.br) = true then ((getO a0 s1).bind fun x12 => (getO a0 s4).bind fun x13 => if (((x12.aj.ai.aB == x13.aj.ai.aB) && ((x12.aj.ai.aD == x13.aj.ai.aD) && ((x12.aj.ai.ac == x13.aj.ai.ac) && ((x12.aj.ai.aC == x13.aj.ai.aC) && true)))) && ((x12.aj.aF == x13.aj.aF) && ((x12.aj.aL == x13.aj.aL) && ((x12.aj.aP == x13.aj.aP) && ((x12.aj.aq == x13.aj.aq) && ((x12.aj.av == x13.aj.av) && true)))))) = true then (some (.stop (.inr false))) else (some (.next (IntKind.wrap .i64 (s4 + (1 : Int)))))) else (some (.next (IntKind.wrap .i64 (s4 + (1 : Int)))))) else (some (.next (IntKind.wrap .i64 (s4 + (1 : Int)))))) else (some (.stop (.inl s1)))
noncomputable def ek (s1 : Int) (a0 : (List aN)) : Option (Step1 (Int) ((Unit) ⊕ (Bool))) :=
  (loopO (gr s1 a0) (0 : Int)).bind fun o16 => match o16 with | .inl y17 => (some (.next (IntKind.wrap .i64 (y17 + (1 : Int))))) | .inr r18 => (some (.stop (.inr r18)))
noncomputable def jb (a0 : (List aN)) : Int → Option (Step1 (Int) ((Unit) ⊕ (Bool))) := fun s1 =>
  if (decide (s1 < (a0.length : Int))) = true then ((getO a0 s1).bind fun x20 => if (decide (x20.fID < (0 : Int))) = true then (some (.stop (.inr false))) else ((getO a0 s1).bind fun x22 => if (decide (x22.fID ≥ (1000 : Int))) = true then (some (.stop (.inr false))) else (if (decide (s1 > (0 : Int))) = true then ((getO a0 s1).bind fun x25 => (getO a0 (IntKind.wrap .i64 (s1 - (1 : Int)))).bind fun x26 => if (decide (x25.fID ≤ x26.fID)) = true then (some (.stop (.inr false))) else ((getO a0 s1).bind fun x28 => if (decide (x28.fAt < (0 : Int))) = true then (some (.stop (.inr false))) else ((getO a0 s1).bind fun x30 => if (decide (x30.fAt > (18014398509481984 : Int))) = true then (some (.stop (.inr false))) else (ek s1 a0)))) else ((getO a0 s1).bind fun x32 => if (decide (x32.fAt < (0 : Int))) = true then (some (.stop (.inr false))) else ((getO a0 s1).bind fun x34 => if (decide (x34.fAt > (18014398509481984 : Int))) = true then (some (.stop (.inr false))) else (ek s1 a0)))))) else (some (.stop (.inl ())))
noncomputable def ie (a0 : (List aN)) : Option (Bool) :=
  (loopO (jb a0) (0 : Int)).bind fun o37 => match o37 with | .inl y38 => (some (decide ((a0.length : Int) ≤ (200 : Int)))) | .inr r39 => (some r39)
noncomputable def dJ (a0 : (List UInt8)) (a1 : (List UInt8)) : Option (Int) :=
  if (Op.bytesLess a0 a1) = true then (some (-1 : Int)) else (if (!(Op.bytesLess a0 a1 || a0 == a1)) = true then (some (1 : Int)) else (some (0 : Int)))
noncomputable def fW (a0 : au) (a1 : au) : Option (Int) :=
  (dJ a0.aB a1.aB).bind fun x1 => (dJ a0.aD a1.aD).bind fun x2 => (dJ a0.ac a1.ac).bind fun x3 => (dJ a0.aC a1.aC).bind fun x4 => if (x1 != (0 : Int)) = true then (some x1) else (if (x2 != (0 : Int)) = true then (some x2) else (if (x3 != (0 : Int)) = true then (some x3) else (if (x4 != (0 : Int)) = true then (some x4) else (some (0 : Int)))))
noncomputable def eS (a0 : ah) (a1 : ah) : Option (Int) :=
  (fW a0.ai a1.ai).bind fun x1 => if (x1 != (0 : Int)) = true then (some x1) else (if (decide (a0.aF < a1.aF)) = true then (some (-1 : Int)) else (if (decide (a0.aF > a1.aF)) = true then (some (1 : Int)) else (if (decide (a0.aL < a1.aL)) = true then (some (-1 : Int)) else (if (decide (a0.aL > a1.aL)) = true then (some (1 : Int)) else (if (decide (a0.aP < a1.aP)) = true then (some (-1 : Int)) else (if (decide (a0.aP > a1.aP)) = true then (some (1 : Int)) else (if (decide (a0.aq < a1.aq)) = true then (some (-1 : Int)) else (if (decide (a0.aq > a1.aq)) = true then (some (1 : Int)) else (if (decide (a0.av < a1.av)) = true then (some (-1 : Int)) else (if (decide (a0.av > a1.av)) = true then (some (1 : Int)) else (some (0 : Int))))))))))))
noncomputable def eT (a0 : ah) (a1 : ah) : Option (Int) :=
  if (decide (a0.aF < a1.aF)) = true then (some (-1 : Int)) else (if (decide (a0.aF > a1.aF)) = true then (some (1 : Int)) else ((eS a0 a1).bind fun x3 => some x3))
noncomputable def jx (a0 : (List ah)) : (Int × (List UInt8) × (List UInt8) × (List UInt8) × (List UInt8) × Int × Int × Int × Int × Int) → Option (Step1 (Int × (List UInt8) × (List UInt8) × (List UInt8) × (List UInt8) × Int × Int × Int × Int × Int) ((List UInt8) × (List UInt8) × (List UInt8) × (List UInt8) × Int × Int × Int × Int × Int)) := fun (s2, s3, s4, s5, s6, s7, s8, s9, s10, s11) =>
  if (decide (s2 < (a0.length : Int))) = true then ((getO a0 s2).bind fun x23 => (eT x23 (ah.mk (au.mk s3 s4 s5 s6) s7 s8 s9 s10 s11)).bind fun x24 => if (decide (x24 < (0 : Int))) = true then ((getO a0 s2).bind fun x26 => some (.next ((IntKind.wrap .i64 (s2 + (1 : Int))), x26.ai.aB, x26.ai.aD, x26.ai.ac, x26.ai.aC, x26.aF, x26.aL, x26.aP, x26.aq, x26.av))) else (some (.next ((IntKind.wrap .i64 (s2 + (1 : Int))), s3, s4, s5, s6, s7, s8, s9, s10, s11)))) else (some (.stop (s3, s4, s5, s6, s7, s8, s9, s10, s11)))
noncomputable def iO (a0 : (List ah)) : Option (ah) :=
  (getO a0 (0 : Int)).bind fun x1 => (loopO (jx a0) ((1 : Int), x1.ai.aB, x1.ai.aD, x1.ai.ac, x1.ai.aC, x1.aF, x1.aL, x1.aP, x1.aq, x1.av)).bind fun o28 => some (ah.mk (au.mk o28.1 o28.2.1 o28.2.2.1 o28.2.2.2.1) o28.2.2.2.2.1 o28.2.2.2.2.2.1 o28.2.2.2.2.2.2.1 o28.2.2.2.2.2.2.2.1 o28.2.2.2.2.2.2.2.2)
noncomputable def js (s2 : (List ah)) (a0 : (List ah)) (s1 : Int) : Int → Option (Step1 (Int) (Int × Int × (List ah))) := fun s6 =>
  if (decide (s6 > (0 : Int))) = true then ((inO s2 (IntKind.wrap .i64 (s6 - (1 : Int)))).bind fun x13 => (getO s2 (IntKind.wrap .i64 (s6 - (1 : Int)))).bind fun x14 => (getO a0 s1).bind fun x15 => (eS x14 x15).bind fun x16 => if (decide (x16 > (0 : Int))) = true then (some (.next (IntKind.wrap .i64 (s6 - (1 : Int))))) else (some (.stop (s1, s6, s2)))) else (some (.stop (s1, s6, s2)))
noncomputable def ez (a0 : (List ah)) (o19 : Int × Int × (List ah)) : Option (Step1 (Int × (List ah)) ((List ah))) :=
  (getO a0 o19.1).bind fun x20 => (appO o19.2.2 [x20] 104).bind fun x21 => (subO x21.length (IntKind.wrap .i64 (o19.2.1 + (1 : Int))) (x21.length : Int)).bind fun x22 => (subO x21.length o19.2.1 (x21.length : Int)).bind fun x23 => (viewO x21.length (0 + ((IntKind.wrap .i64 (o19.2.1 + (1 : Int))) : Int).toNat) (0 + ((x21.length : Int) : Int).toNat)).bind fun x24 => (partO x21 (0 + (o19.2.1 : Int).toNat) (0 + ((x21.length : Int) : Int).toNat)).bind fun x25 => (getO a0 o19.1).bind fun x27 => (inO (copyL x21 (0 + ((IntKind.wrap .i64 (o19.2.1 + (1 : Int))) : Int).toNat) ((0 + ((x21.length : Int) : Int).toNat) - (0 + ((IntKind.wrap .i64 (o19.2.1 + (1 : Int))) : Int).toNat)) x25) o19.2.1).bind fun x29 => (setO (copyL x21 (0 + ((IntKind.wrap .i64 (o19.2.1 + (1 : Int))) : Int).toNat) ((0 + ((x21.length : Int) : Int).toNat) - (0 + ((IntKind.wrap .i64 (o19.2.1 + (1 : Int))) : Int).toNat)) x25) o19.2.1 x27).bind fun x30 => some (.next ((IntKind.wrap .i64 (o19.1 + (1 : Int))), x30))
noncomputable def jt (a0 : (List ah)) : (Int × (List ah)) → Option (Step1 (Int × (List ah)) ((List ah))) := fun (s1, s2) =>
  if (decide (s1 < (a0.length : Int))) = true then ((loopO (js s2 a0 s1) (s2.length : Int)).bind fun o19 => if (decide (o19.2.1 > (0 : Int))) = true then ((inO o19.2.2 (IntKind.wrap .i64 (o19.2.1 - (1 : Int)))).bind fun x34 => (getO o19.2.2 (IntKind.wrap .i64 (o19.2.1 - (1 : Int)))).bind fun x35 => (getO a0 o19.1).bind fun x36 => if (((x35.ai.aB == x36.ai.aB) && ((x35.ai.aD == x36.ai.aD) && ((x35.ai.ac == x36.ai.ac) && ((x35.ai.aC == x36.ai.aC) && true)))) && ((x35.aF == x36.aF) && ((x35.aL == x36.aL) && ((x35.aP == x36.aP) && ((x35.aq == x36.aq) && ((x35.av == x36.av) && true)))))) = true then (some (.next ((IntKind.wrap .i64 (o19.1 + (1 : Int))), o19.2.2))) else (ez a0 o19)) else (ez a0 o19)) else (some (.stop s2))
noncomputable def iN (a0 : (List ah)) : Option ((List ah)) :=
  (loopO (jt a0) ((0 : Int), ([] : (List ah)))).bind fun o39 => some o39
noncomputable def fQ (a1 : (List ah)) (a0 : (List ah)) (s1 : Int) : Int → Option (Step1 (Int) ((Int) ⊕ (Bool))) := fun s4 =>
  if (decide (s4 < (a1.length : Int))) = true then ((getO a0 s1).bind fun x8 => (getO a1 s4).bind fun x9 => if (((x8.ai.aB == x9.ai.aB) && ((x8.ai.aD == x9.ai.aD) && ((x8.ai.ac == x9.ai.ac) && ((x8.ai.aC == x9.ai.aC) && true)))) && ((x8.aF == x9.aF) && ((x8.aL == x9.aL) && ((x8.aP == x9.aP) && ((x8.aq == x9.aq) && ((x8.av == x9.av) && true)))))) = true then (some (.stop (.inr true))) else (some (.next (IntKind.wrap .i64 (s4 + (1 : Int)))))) else (some (.stop (.inl s1)))
noncomputable def iz (a0 : (List ah)) (a1 : (List ah)) : Int → Option (Step1 (Int) ((Unit) ⊕ (Bool))) := fun s1 =>
  if (decide (s1 < (a0.length : Int))) = true then ((loopO (fQ a1 a0 s1) (0 : Int)).bind fun o12 => match o12 with | .inl y13 => (some (.next (IntKind.wrap .i64 (y13 + (1 : Int))))) | .inr r14 => (some (.stop (.inr r14)))) else (some (.stop (.inl ())))
noncomputable def fB (a0 : (List ah)) (a1 : (List ah)) : Option (Bool) :=
  (loopO (iz a0 a1) (0 : Int)).bind fun o16 => match o16 with | .inl y17 => (some false) | .inr r18 => (some r18)
noncomputable def i6 (s1 : Int) (a0 : (List az)) (x4 : az) : Int → Option (Step1 (Int) ((Int) ⊕ (Bool))) := fun s5 =>
  if (decide (s5 < s1)) = true then ((getO a0 s5).bind fun x9 => (fB x4.aa.aJ x9.aa.aJ).bind fun x10 => if x10 = true then (some (.stop (.inr false))) else (some (.next (IntKind.wrap .i64 (s5 + (1 : Int)))))) else (some (.stop (.inl s1)))
noncomputable def ej (s1 : Int) (a0 : (List az)) (x4 : az) : Option (Step1 (Int) ((Unit) ⊕ (Bool))) :=
  (loopO (i6 s1 a0 x4) (0 : Int)).bind fun o13 => match o13 with | .inl y14 => (some (.next (IntKind.wrap .i64 (y14 + (1 : Int))))) | .inr r15 => (some (.stop (.inr r15)))
noncomputable def i7 (a0 : (List az)) : Int → Option (Step1 (Int) ((Unit) ⊕ (Bool))) := fun s1 =>
  if (decide (s1 < (a0.length : Int))) = true then ((getO a0 s1).bind fun x4 => if ((x4.aa.aJ.length : Int) == (0 : Int)) = true then (some (.stop (.inr false))) else ((getO a0 s1).bind fun x18 => (iO x4.aa.aJ).bind fun x19 => if (!(((x18.aj.ai.aB == x19.ai.aB) && ((x18.aj.ai.aD == x19.ai.aD) && ((x18.aj.ai.ac == x19.ai.ac) && ((x18.aj.ai.aC == x19.ai.aC) && true)))) && ((x18.aj.aF == x19.aF) && ((x18.aj.aL == x19.aL) && ((x18.aj.aP == x19.aP) && ((x18.aj.aq == x19.aq) && ((x18.aj.av == x19.av) && true))))))) = true then (some (.stop (.inr false))) else ((iN x4.aa.aJ).bind fun x21 => (cY x4.aa.aJ x21).bind fun x22 => if (!x22) = true then (some (.stop (.inr false))) else (if (decide (s1 > (0 : Int))) = true then ((getO a0 (IntKind.wrap .i64 (s1 - (1 : Int)))).bind fun x25 => (getO a0 s1).bind fun x26 => (eT x25.aj x26.aj).bind fun x27 => if (decide (x27 ≥ (0 : Int))) = true then (some (.stop (.inr false))) else (ej s1 a0 x4)) else (ej s1 a0 x4))))) else (some (.stop (.inl ())))
noncomputable def ia (a0 : (List az)) : Option (Bool) :=
  (loopO (i7 a0) (0 : Int)).bind fun o30 => match o30 with | .inl y31 => (some true) | .inr r32 => (some r32)
noncomputable def iA (a1 : (List aN)) (a4 : Int) : Int → Option (Step1 (Int) ((Unit) ⊕ (Int))) := fun s5 =>
  if (decide (s5 < (a1.length : Int))) = true then ((getO a1 s5).bind fun x8 => if (decide (a4 < x8.fAt)) = true then (some (.stop (.inr (9 : Int)))) else (some (.next (IntKind.wrap .i64 (s5 + (1 : Int)))))) else (some (.stop (.inl ())))
noncomputable def dU (a4 : Int) (a1 : (List aN)) : Option (Int) :=
  if (decide (a4 < (0 : Int))) = true then (some (2 : Int)) else (if (decide (a4 > (18014398509481984 : Int))) = true then (some (2 : Int)) else ((loopO (iA a1 a4) (0 : Int)).bind fun o11 => match o11 with | .inl y12 => (some (0 : Int)) | .inr r13 => (some r13)))
noncomputable def gE (a0 : aY) (a1 : (List aN)) (a2 : Int) (a3 : (List az)) (a4 : Int) : Option (Int) :=
  (dT a0).bind fun x1 => if (x1 != (0 : Int)) = true then (some (27 : Int)) else ((ie a1).bind fun x15 => if (!x15) = true then (some (1 : Int)) else ((ia a3).bind fun x17 => if (!x17) = true then (some (1 : Int)) else (if (decide (a2 < (0 : Int))) = true then (some (1 : Int)) else (if (decide ((a1.length : Int) > (0 : Int))) = true then ((getO a1 (IntKind.wrap .i64 ((a1.length : Int) - (1 : Int)))).bind fun x21 => if (decide (a2 ≤ x21.fID)) = true then (some (1 : Int)) else (dU a4 a1)) else (dU a4 a1)))))
noncomputable def jw (a0 : (List az)) (a1 : ah) : Int → Option (Step1 (Int) ((Unit) ⊕ (Int))) := fun s1 =>
  if (decide (s1 < (a0.length : Int))) = true then ((getO a0 s1).bind fun x4 => if (((x4.aj.ai.aB == a1.ai.aB) && ((x4.aj.ai.aD == a1.ai.aD) && ((x4.aj.ai.ac == a1.ai.ac) && ((x4.aj.ai.aC == a1.ai.aC) && true)))) && ((x4.aj.aF == a1.aF) && ((x4.aj.aL == a1.aL) && ((x4.aj.aP == a1.aP) && ((x4.aj.aq == a1.aq) && ((x4.aj.av == a1.av) && true)))))) = true then (some (.stop (.inr s1))) else (some (.next (IntKind.wrap .i64 (s1 + (1 : Int)))))) else (some (.stop (.inl ())))
noncomputable def hZ (a0 : (List az)) (a1 : ah) : Option (Int) :=
  (loopO (jw a0 a1) (0 : Int)).bind fun o7 => match o7 with | .inl y8 => (some (-1 : Int)) | .inr r9 => (some r9)
noncomputable def kq (d0 : (List Int)) (a1 : Int) : Int → Option (Step1 (Int) ((Unit) ⊕ (Bool × (List Int)))) := fun s1 =>
  if (decide (s1 < (d0.length : Int))) = true then ((inO d0 s1).bind fun x5 => (getO d0 s1).bind fun x6 => if (x6 == a1) = true then (some (.stop (.inr (true, d0)))) else (some (.next (IntKind.wrap .i64 (s1 + (1 : Int)))))) else (some (.stop (.inl ())))
noncomputable def iE (a1 : Int) (d0 : (List Int)) : Option (Bool × (List Int)) :=
  (loopO (kq d0 a1) (0 : Int)).bind fun o9 => match o9 with | .inl y10 => (some (false, d0)) | .inr r11 => (some r11)
noncomputable def ref36_common_l11 (a1 : (List ah)) (a0 : (List ah)) (s1 : Int) : Int → Option (Step1 (Int) ((Int) ⊕ (Bool))) := fun s4 =>
  if (decide (s4 < (a1.length : Int))) = true then ((getO a0 s1).bind fun x8 => (getO a1 s4).bind fun x9 => if (((x8.ai.aB == x9.ai.aB) && ((x8.ai.aD == x9.ai.aD) && ((x8.ai.ac == x9.ai.ac) && ((x8.ai.aC == x9.ai.aC) && true)))) && ((x8.aF == x9.aF) && ((x8.aL == x9.aL) && ((x8.aP == x9.aP) && ((x8.aq == x9.aq) && ((x8.av == x9.av) && true)))))) = true then (some (.stop (.inr true))) else (some (.next (IntKind.wrap .i64 (s4 + (1 : Int)))))) else (some (.stop (.inl s1)))
noncomputable def ref36_common_l15 (a0 : (List ah)) (a1 : (List ah)) : Int → Option (Step1 (Int) ((Unit) ⊕ (Bool))) := fun s1 =>
  if (decide (s1 < (a0.length : Int))) = true then ((loopO (ref36_common_l11 a1 a0 s1) (0 : Int)).bind fun o12 => match o12 with | .inl y13 => (some (.next (IntKind.wrap .i64 (y13 + (1 : Int))))) | .inr r14 => (some (.stop (.inr r14)))) else (some (.stop (.inl ())))
noncomputable def iQ (a0 : (List ah)) (a1 : (List ah)) : Option (Bool) :=
  (loopO (ref36_common_l15 a0 a1) (0 : Int)).bind fun o16 => match o16 with | .inl y17 => (some false) | .inr r18 => (some r18)
noncomputable def dV (s2 : (List Int)) (s1 : Int) (j6 : Int) : Option (Step1 (Int × (List Int)) ((List Int))) :=
  (iE j6 s2).bind fun x7 => if x7.1 = true then ((appO x7.2 [-1] 8).bind fun x9 => some (.next ((IntKind.wrap .i64 (s1 + (1 : Int))), x9))) else ((appO x7.2 [j6] 8).bind fun x10 => some (.next ((IntKind.wrap .i64 (s1 + (1 : Int))), x10)))
noncomputable def iB (a0 : (List aN)) (a1 : (List az)) : (Int × (List Int)) → Option (Step1 (Int × (List Int)) ((List Int))) := fun (s1, s2) =>
  if (decide (s1 < (a0.length : Int))) = true then ((getO a0 s1).bind fun x12 => if (!x12.br) = true then ((getO a0 s1).bind fun x14 => (hZ a1 x14.aj).bind fun x15 => dV s2 s1 x15) else (dV s2 s1 (-1 : Int))) else (some (.stop s2))
noncomputable def iC (a1 : (List az)) (s18 : Int) (a0 : (List aN)) : (Int × (List Int)) → Option (Step1 (Int × (List Int)) (Int × (List Int))) := fun (s23, s24) =>
  if (decide (s23 < (a1.length : Int))) = true then ((inO s24 s18).bind fun x30 => (getO s24 s18).bind fun x31 => if (decide (x31 < (0 : Int))) = true then ((getO a0 s18).bind fun x33 => if (!x33.br) = true then ((iE s23 s24).bind fun x35 => if (!x35.1) = true then ((getO a0 s18).bind fun x37 => (getO a1 s23).bind fun x38 => (iQ x37.ae.aa.aJ x38.aa.aJ).bind fun x39 => if x39 = true then ((inO x35.2 s18).bind fun x42 => (setO x35.2 s18 s23).bind fun x43 => some (.next ((IntKind.wrap .i64 (s23 + (1 : Int))), x43))) else (some (.next ((IntKind.wrap .i64 (s23 + (1 : Int))), x35.2)))) else (some (.next ((IntKind.wrap .i64 (s23 + (1 : Int))), x35.2)))) else (some (.stop (s18, s24)))) else (some (.stop (s18, s24)))) else (some (.stop (s18, s24)))
noncomputable def iD (a0 : (List aN)) (a1 : (List az)) : (Int × (List Int)) → Option (Step1 (Int × (List Int)) ((List Int))) := fun (s18, s19) =>
  if (decide (s18 < (a0.length : Int))) = true then ((loopO (iC a1 s18 a0) ((0 : Int), s19)).bind fun o45 => some (.next ((IntKind.wrap .i64 (o45.1 + (1 : Int))), o45.2))) else (some (.stop s19))
noncomputable def gF (a0 : (List aN)) (a1 : (List az)) : Option ((List Int)) :=
  (loopO (iB a0 a1) ((0 : Int), ([] : (List Int)))).bind fun o17 => (loopO (iD a0 a1) ((0 : Int), o17)).bind fun o47 => some o47
noncomputable def ib (a0 : bi) (a1 : az) : Option (Bool) :=
  if (decide (a1.aa.aU ≥ (1 : Int))) = true then (if (decide (a1.aa.ap.aI ≥ a0.ap)) = true then (if (decide ((a1.aa.aJ.length : Int) ≥ a0.aJ)) = true then (some (decide (a1.aa.ac.aQ ≤ a0.aQ))) else (some false)) else (some false)) else (some false)
noncomputable def ja (a0 : aY) (a1 : az) : (Int × Int) → Option (Step1 (Int × Int) (Int)) := fun (s1, s2) =>
  if (decide (s2 < (a0.bv.length : Int))) = true then ((dT a0).bind fun x6 => if (x6 == (0 : Int)) = true then ((getO a0.bv s2).bind fun x8 => (ib x8 a1).bind fun x9 => if x9 = true then (some (.next ((IntKind.wrap .i64 (s2 + (1 : Int))), (IntKind.wrap .i64 (s2 + (1 : Int)))))) else (some (.next (s1, (IntKind.wrap .i64 (s2 + (1 : Int))))))) else (some (.stop s1))) else (some (.stop s1))
noncomputable def dy (a0 : aY) (a1 : az) : Option (Int) :=
  (loopO (ja a0 a1) ((0 : Int), (0 : Int))).bind fun o12 => some o12
noncomputable def jv (a0 : aO) (a1 : aO) : Option (Bool) :=
  some (decide ((if a1.aI > a0.aI then a1.aI else a0.aI) ≤ (if a1.aw < a0.aw then a1.aw else a0.aw)))
noncomputable def ge (a0 : ak) : Option (Bool) :=
  if (decide (a0.fX ≥ (-1048576 : Int))) = true then (if (decide (a0.fX ≤ (1048576 : Int))) = true then (if (decide (a0.fY ≥ (-1048576 : Int))) = true then (if (decide (a0.fY ≤ (1048576 : Int))) = true then (if (decide (a0.fZ ≥ (-16384 : Int))) = true then (some (decide (a0.fZ ≤ (1048576 : Int)))) else (some false)) else (some false)) else (some false)) else (some false)) else (some false)
noncomputable def fA (a0 : Int) : Option (Int) :=
  some (IntKind.wrap .i64 (a0 * a0))
noncomputable def gC (a0 : ak) (a1 : ak) : Option (Int) :=
  (ge a0).bind fun x1 => if (!x1) = true then (some (0 : Int)) else ((ge a1).bind fun x3 => if (!x3) = true then (some (0 : Int)) else ((fA (IntKind.wrap .i64 (a0.fX - a1.fX))).bind fun x5 => (fA (IntKind.wrap .i64 (a0.fY - a1.fY))).bind fun x6 => (fA (IntKind.wrap .i64 (a0.fZ - a1.fZ))).bind fun x7 => some (IntKind.wrap .i64 ((IntKind.wrap .i64 (x5 + x6)) + x7))))
noncomputable def fC (a2 : az) (a1 : az) (a0 : aY) : Option (Bool) :=
  some (decide ((if (IntKind.wrap .i64 (a2.aa.ac.aF - a1.aa.ac.aF)) > (IntKind.wrap .i64 (a1.aa.ac.aF - a2.aa.ac.aF)) then (IntKind.wrap .i64 (a2.aa.ac.aF - a1.aa.ac.aF)) else (IntKind.wrap .i64 (a1.aa.ac.aF - a2.aa.ac.aF))) > a0.bw))
noncomputable def ic (a0 : aY) (a1 : az) (a2 : az) : Option (Bool) :=
  (dT a0).bind fun x1 => if (x1 != (0 : Int)) = true then (some false) else ((dy a0 a1).bind fun x3 => (dy a0 a2).bind fun x4 => if (x3 != x4) = true then (some true) else ((jv a1.aa.ap a2.aa.ap).bind fun x6 => if (!x6) = true then (some true) else (if (decide (a0.bw ≤ (4194304 : Int))) = true then ((gC a1.aa.ac.aA a2.aa.ac.aA).bind fun x10 => if (decide (x10 > (IntKind.wrap .i64 (a0.bw * a0.bw)))) = true then (some true) else (fC a2 a1 a0)) else (fC a2 a1 a0))))
noncomputable def jS (a0 : (List Int)) (a1 : Int) : Int → Option (Step1 (Int) ((Unit) ⊕ (Bool))) := fun s1 =>
  if (decide (s1 < (a0.length : Int))) = true then ((getO a0 s1).bind fun x4 => if (x4 == a1) = true then (some (.stop (.inr true))) else (some (.next (IntKind.wrap .i64 (s1 + (1 : Int)))))) else (some (.stop (.inl ())))
noncomputable def iS (a0 : (List Int)) (a1 : Int) : Option (Bool) :=
  (loopO (jS a0 a1) (0 : Int)).bind fun o7 => match o7 with | .inl y8 => (some false) | .inr r9 => (some r9)
noncomputable def gD (a0 : aY) (a1 : az) (a2 : Int) : Option (Bool) :=
  (dy a0 a1).bind fun x1 => if (x1 == (0 : Int)) = true then (some false) else (if (decide ((IntKind.wrap .i64 (a2 - a1.aa.ac.aF)) ≥ (0 : Int))) = true then ((getO a0.bv (IntKind.wrap .i64 (x1 - (1 : Int)))).bind fun x4 => some (decide ((IntKind.wrap .i64 (a2 - a1.aa.ac.aF)) ≤ x4.hF))) else (some false))
noncomputable def cv (s6 : (List ag)) (a2 : Int) (x11 : aN) (a4 : Int) (s5 : (List aN)) (j12 : (List UInt8)) (j13 : (List UInt8)) (j14 : (List UInt8)) (j15 : (List UInt8)) (j16 : Int) (j17 : Int) (j18 : Int) (j19 : Int) (j20 : Int) (s4 : Int) (j21 : Int) (j22 : Bool) (j23 : Int) (j24 : (List UInt8)) (j25 : (List UInt8)) (j26 : (List UInt8)) (j27 : (List UInt8)) (j28 : Int) (j29 : Int) (j30 : Int) (j31 : Int) (j32 : Int) (j33 : (List ah)) (j34 : Int) (j35 : Int) (j36 : Int) (j37 : Int) (j38 : Int) (j39 : Int) (j40 : Int) (j41 : Int) (j42 : Int) (j43 : Int) (j44 : Int) (j45 : Int) (j46 : Int) (j47 : Int) (j48 : Int) : Option (Step1 (Int × (List aN) × (List ag)) ((List aN) × (List ag))) :=
  if (decide (j21 > (0 : Int))) = true then ((appO s6 [(ag.mk (IntKind.wrap .i64 (a2 + (s6.length : Int))) j21 x11.fID a4 j23 (az.mk (ah.mk (au.mk j24 j25 j26 j27) j28 j29 j30 j31 j32) (aG.mk j33 (aK.mk (ak.mk j34 j35 j36) j37 j38 j39 (aZ.mk (ak.mk j40 j41 j42) (ak.mk j43 j44 j45))) (aO.mk j46 j47) j48)))] 288).bind fun x50 => (appO s5 [(aN.mk x11.fID j22 (ah.mk (au.mk j12 j13 j14 j15) j16 j17 j18 j19 j20) j23 (az.mk (ah.mk (au.mk j24 j25 j26 j27) j28 j29 j30 j31 j32) (aG.mk j33 (aK.mk (ak.mk j34 j35 j36) j37 j38 j39 (aZ.mk (ak.mk j40 j41 j42) (ak.mk j43 j44 j45))) (aO.mk j46 j47) j48)) a4)] 384).bind fun x51 => some (.next ((IntKind.wrap .i64 (s4 + (1 : Int))), x51, x50))) else ((appO s5 [(aN.mk x11.fID j22 (ah.mk (au.mk j12 j13 j14 j15) j16 j17 j18 j19 j20) j23 (az.mk (ah.mk (au.mk j24 j25 j26 j27) j28 j29 j30 j31 j32) (aG.mk j33 (aK.mk (ak.mk j34 j35 j36) j37 j38 j39 (aZ.mk (ak.mk j40 j41 j42) (ak.mk j43 j44 j45))) (aO.mk j46 j47) j48)) x11.fAt)] 384).bind fun x52 => some (.next ((IntKind.wrap .i64 (s4 + (1 : Int))), x52, s6)))
noncomputable def eA (x3 : (List Int)) (s4 : Int) (x11 : aN) (s6 : (List ag)) (a2 : Int) (a4 : Int) (s5 : (List aN)) (a3 : (List az)) (a0 : aY) (j12 : (List UInt8)) (j13 : (List UInt8)) (j14 : (List UInt8)) (j15 : (List UInt8)) (j16 : Int) (j17 : Int) (j18 : Int) (j19 : Int) (j20 : Int) : Option (Step1 (Int × (List aN) × (List ag)) ((List aN) × (List ag))) :=
  (getO x3 s4).bind fun x54 => if x11.br = true then (cv s6 a2 x11 a4 s5 j12 j13 j14 j15 j16 j17 j18 j19 j20 s4 (0 : Int) x11.br x11.aX x11.ae.aj.ai.aB x11.ae.aj.ai.aD x11.ae.aj.ai.ac x11.ae.aj.ai.aC x11.ae.aj.aF x11.ae.aj.aL x11.ae.aj.aP x11.ae.aj.aq x11.ae.aj.av x11.ae.aa.aJ x11.ae.aa.ac.aA.fX x11.ae.aa.ac.aA.fY x11.ae.aa.ac.aA.fZ x11.ae.aa.ac.aF x11.ae.aa.ac.aQ x11.ae.aa.ac.aW x11.ae.aa.ac.am.aI.fX x11.ae.aa.ac.am.aI.fY x11.ae.aa.ac.am.aI.fZ x11.ae.aa.ac.am.aw.fX x11.ae.aa.ac.am.aw.fY x11.ae.aa.ac.am.aw.fZ x11.ae.aa.ap.aI x11.ae.aa.ap.aw x11.ae.aa.aU) else (if (decide (x54 < (0 : Int))) = true then (cv s6 a2 x11 a4 s5 j12 j13 j14 j15 j16 j17 j18 j19 j20 s4 (3 : Int) true x11.aX x11.ae.aj.ai.aB x11.ae.aj.ai.aD x11.ae.aj.ai.ac x11.ae.aj.ai.aC x11.ae.aj.aF x11.ae.aj.aL x11.ae.aj.aP x11.ae.aj.aq x11.ae.aj.av x11.ae.aa.aJ x11.ae.aa.ac.aA.fX x11.ae.aa.ac.aA.fY x11.ae.aa.ac.aA.fZ x11.ae.aa.ac.aF x11.ae.aa.ac.aQ x11.ae.aa.ac.aW x11.ae.aa.ac.am.aI.fX x11.ae.aa.ac.am.aI.fY x11.ae.aa.ac.am.aI.fZ x11.ae.aa.ac.am.aw.fX x11.ae.aa.ac.am.aw.fY x11.ae.aa.ac.am.aw.fZ x11.ae.aa.ap.aI x11.ae.aa.ap.aw x11.ae.aa.aU) else ((getO a3 x54).bind fun x57 => (dy a0 x57).bind fun x58 => if (x58 == (0 : Int)) = true then (cv s6 a2 x11 a4 s5 j12 j13 j14 j15 j16 j17 j18 j19 j20 s4 (3 : Int) true x11.aX x11.ae.aj.ai.aB x11.ae.aj.ai.aD x11.ae.aj.ai.ac x11.ae.aj.ai.aC x11.ae.aj.aF x11.ae.aj.aL x11.ae.aj.aP x11.ae.aj.aq x11.ae.aj.av x11.ae.aa.aJ x11.ae.aa.ac.aA.fX x11.ae.aa.ac.aA.fY x11.ae.aa.ac.aA.fZ x11.ae.aa.ac.aF x11.ae.aa.ac.aQ x11.ae.aa.ac.aW x11.ae.aa.ac.am.aI.fX x11.ae.aa.ac.am.aI.fY x11.ae.aa.ac.am.aI.fZ x11.ae.aa.ac.am.aw.fX x11.ae.aa.ac.am.aw.fY x11.ae.aa.ac.am.aw.fZ x11.ae.aa.ap.aI x11.ae.aa.ap.aw x11.ae.aa.aU) else ((getO a3 x54).bind fun x60 => (ic a0 x11.ae x60).bind fun x61 => if x61 = true then (if (decide ((IntKind.wrap .i64 (a4 - x11.fAt)) ≥ a0.dI)) = true then ((getO a3 x54).bind fun x64 => (dy a0 x64).bind fun x65 => (getO a3 x54).bind fun x66 => cv s6 a2 x11 a4 s5 j12 j13 j14 j15 j16 j17 j18 j19 j20 s4 (2 : Int) x11.br x65 x66.aj.ai.aB x66.aj.ai.aD x66.aj.ai.ac x66.aj.ai.aC x66.aj.aF x66.aj.aL x66.aj.aP x66.aj.aq x66.aj.av x66.aa.aJ x66.aa.ac.aA.fX x66.aa.ac.aA.fY x66.aa.ac.aA.fZ x66.aa.ac.aF x66.aa.ac.aQ x66.aa.ac.aW x66.aa.ac.am.aI.fX x66.aa.ac.am.aI.fY x66.aa.ac.am.aI.fZ x66.aa.ac.am.aw.fX x66.aa.ac.am.aw.fY x66.aa.ac.am.aw.fZ x66.aa.ap.aI x66.aa.ap.aw x66.aa.aU) else (cv s6 a2 x11 a4 s5 j12 j13 j14 j15 j16 j17 j18 j19 j20 s4 (0 : Int) x11.br x11.aX x11.ae.aj.ai.aB x11.ae.aj.ai.aD x11.ae.aj.ai.ac x11.ae.aj.ai.aC x11.ae.aj.aF x11.ae.aj.aL x11.ae.aj.aP x11.ae.aj.aq x11.ae.aj.av x11.ae.aa.aJ x11.ae.aa.ac.aA.fX x11.ae.aa.ac.aA.fY x11.ae.aa.ac.aA.fZ x11.ae.aa.ac.aF x11.ae.aa.ac.aQ x11.ae.aa.ac.aW x11.ae.aa.ac.am.aI.fX x11.ae.aa.ac.am.aI.fY x11.ae.aa.ac.am.aI.fZ x11.ae.aa.ac.am.aw.fX x11.ae.aa.ac.am.aw.fY x11.ae.aa.ac.am.aw.fZ x11.ae.aa.ap.aI x11.ae.aa.ap.aw x11.ae.aa.aU)) else (cv s6 a2 x11 a4 s5 j12 j13 j14 j15 j16 j17 j18 j19 j20 s4 (0 : Int) x11.br x11.aX x11.ae.aj.ai.aB x11.ae.aj.ai.aD x11.ae.aj.ai.ac x11.ae.aj.ai.aC x11.ae.aj.aF x11.ae.aj.aL x11.ae.aj.aP x11.ae.aj.aq x11.ae.aj.av x11.ae.aa.aJ x11.ae.aa.ac.aA.fX x11.ae.aa.ac.aA.fY x11.ae.aa.ac.aA.fZ x11.ae.aa.ac.aF x11.ae.aa.ac.aQ x11.ae.aa.ac.aW x11.ae.aa.ac.am.aI.fX x11.ae.aa.ac.am.aI.fY x11.ae.aa.ac.am.aI.fZ x11.ae.aa.ac.am.aw.fX x11.ae.aa.ac.am.aw.fY x11.ae.aa.ac.am.aw.fZ x11.ae.aa.ap.aI x11.ae.aa.ap.aw x11.ae.aa.aU))))
noncomputable def gW (a1 : (List aN)) (x3 : (List Int)) (a3 : (List az)) (a2 : Int) (a4 : Int) (a0 : aY) : (Int × (List aN) × (List ag)) → Option (Step1 (Int × (List aN) × (List ag)) ((List aN) × (List ag))) := fun (s4, s5, s6) =>
  if (decide (s4 < (a1.length : Int))) = true then ((getO a1 s4).bind fun x11 => (getO x3 s4).bind fun x68 => if (decide (x68 ≥ (0 : Int))) = true then ((getO x3 s4).bind fun x70 => (getO a3 x70).bind fun x71 => eA x3 s4 x11 s6 a2 a4 s5 a3 a0 x71.aj.ai.aB x71.aj.ai.aD x71.aj.ai.ac x71.aj.ai.aC x71.aj.aF x71.aj.aL x71.aj.aP x71.aj.aq x71.aj.av) else (eA x3 s4 x11 s6 a2 a4 s5 a3 a0 x11.aj.ai.aB x11.aj.ai.aD x11.aj.ai.ac x11.aj.ai.aC x11.aj.aF x11.aj.aL x11.aj.aP x11.aj.aq x11.aj.av)) else (some (.stop (s5, s6)))
noncomputable def gX (a3 : (List az)) (x3 : (List Int)) (a0 : aY) (a4 : Int) (a2 : Int) : (Int × (List aN) × (List ag)) → Option (Step1 (Int × (List aN) × (List ag)) ((List aN) × (List ag))) := fun (s74, s75, s76) =>
  if (decide (s74 < (a3.length : Int))) = true then ((iS x3 s74).bind fun x81 => if x81 = true then (some (.next ((IntKind.wrap .i64 (s74 + (1 : Int))), s75, s76))) else ((getO a3 s74).bind fun x83 => (gD a0 x83 a4).bind fun x84 => if (!x84) = true then (some (.next ((IntKind.wrap .i64 (s74 + (1 : Int))), s75, s76))) else ((getO a3 s74).bind fun x86 => (getO a3 s74).bind fun x87 => (dy a0 x87).bind fun x88 => (getO a3 s74).bind fun x89 => (appO s76 [(ag.mk (IntKind.wrap .i64 (a2 + (s76.length : Int))) 1 (IntKind.wrap .i64 (a2 + (s76.length : Int))) a4 x88 x89)] 288).bind fun x90 => (appO s75 [(aN.mk (IntKind.wrap .i64 (a2 + (s76.length : Int))) false x86.aj x88 x89 a4)] 384).bind fun x91 => some (.next ((IntKind.wrap .i64 (s74 + (1 : Int))), x91, x90))))) else (some (.stop (s75, s76)))
noncomputable def iP (a0 : aY) (a1 : (List aN)) (a2 : Int) (a3 : (List az)) (a4 : Int) : Option ((List aN) × (List ag) × Int) :=
  (gE a0 a1 a2 a3 a4).bind fun x1 => if (x1 != (0 : Int)) = true then (some (([] : (List aN)), ([] : (List ag)), x1)) else ((gF a1 a3).bind fun x3 => (loopO (gW a1 x3 a3 a2 a4 a0) ((0 : Int), ([] : (List aN)), ([] : (List ag)))).bind fun o73 => (loopO (gX a3 x3 a0 a4 a2) ((0 : Int), o73.1, o73.2)).bind fun o93 => if (decide ((o93.1.length : Int) > (200 : Int))) = true then (some (([] : (List aN)), ([] : (List ag)), (8 : Int))) else (if (decide ((IntKind.wrap .i64 (a2 + (o93.2.length : Int))) > (1000 : Int))) = true then (if (decide ((o93.2.length : Int) > (0 : Int))) = true then (some (([] : (List aN)), ([] : (List ag)), (8 : Int))) else (some (o93.1, o93.2, (0 : Int)))) else (some (o93.1, o93.2, (0 : Int)))))
noncomputable def jo (a1 : Int) (x1 : aY × aH) : ((List aN) × Int × Int × (List Int) × Int × (List ag)) → Option (Step1 ((List aN) × Int × Int × (List Int) × Int × (List ag)) ((List ag) × (List Int) × Int)) := fun (s2, s3, s4, s5, s6, s7) =>
  if (decide (s4 < a1)) = true then ((dM (400 : Int) (aH.mk s5 s6)).bind fun x13 => (iH (4 : Int) x13.2).bind fun x14 => (iP x1.1 s2 (s7.length : Int) x14.1 (IntKind.wrap .i64 (s3 + x13.1))).bind fun x15 => if (x15.2.2 == (0 : Int)) = true then ((appO s7 x15.2.1 288).bind fun x17 => some (.next (x15.1, (IntKind.wrap .i64 (s3 + x13.1)), (IntKind.wrap .i64 (s4 + (1 : Int))), x14.2.fL, x14.2.fAt, x17))) else (some (.next (s2, (IntKind.wrap .i64 (s3 + x13.1)), (IntKind.wrap .i64 (s4 + (1 : Int))), x14.2.fL, x14.2.fAt, s7)))) else (some (.stop (s7, s5, s6)))
noncomputable def iM (a1 : Int) (d0 : aH) : Option ((List ag) × aH) :=
  (iI d0).bind fun x1 => (loopO (jo a1 x1) (([] : (List aN)), (1000 : Int), (0 : Int), x1.2.fL, x1.2.fAt, ([] : (List ag)))).bind fun o19 => some (o19.1, (aH.mk o19.2.1 o19.2.2))
noncomputable def gz (a1 : ah) (d0 : aH) : Option (ah × aH) :=
  (dM (5 : Int) d0).bind fun x1 => if (x1.1 == (0 : Int)) = true then (some ((ah.mk (au.mk a1.ai.aB [] a1.ai.ac a1.ai.aC) a1.aF a1.aL a1.aP a1.aq a1.av), x1.2)) else (if (x1.1 == (1 : Int)) = true then (some ((ah.mk a1.ai a1.aF (IntKind.wrap .i64 (a1.aF + (1 : Int))) a1.aP a1.aq a1.av), x1.2)) else (if (x1.1 == (2 : Int)) = true then ((dm [0, 18014398509481984, 18014398509481985] x1.2).bind fun x5 => some ((ah.mk a1.ai a1.aF a1.aL x5.1 a1.aq a1.av), x5.2)) else (if (x1.1 == (3 : Int)) = true then ((dm [-1, 0, 1073741823, 1073741824] x1.2).bind fun x7 => some ((ah.mk a1.ai a1.aF a1.aL a1.aP x7.1 a1.av), x7.2)) else ((dM (5 : Int) x1.2).bind fun x8 => some ((ah.mk a1.ai a1.aF a1.aL a1.aP a1.aq (IntKind.wrap .i64 (x8.1 - (2 : Int)))), x8.2)))))
noncomputable def iL (a1 : ag) (d0 : aH) : Option (ag × aH) :=
  (dm [-1, 0, 1, 1152921504606846976, 1152921504606846977, -1152921504606846976, -1152921504606846977] d0).bind fun x1 => (dM (9 : Int) x1.2).bind fun x2 => if (x2.1 == (0 : Int)) = true then ((dm [-1, 0, 1, 999, 1000] x2.2).bind fun x4 => some ((ag.mk x4.1 a1.ba a1.fID a1.fAt a1.aX a1.ae), x4.2)) else (if (x2.1 == (1 : Int)) = true then ((dM (5 : Int) x2.2).bind fun x6 => some ((ag.mk a1.aT x6.1 a1.fID a1.fAt a1.aX a1.ae), x6.2)) else (if (x2.1 == (2 : Int)) = true then ((dM (4 : Int) x2.2).bind fun x8 => some ((ag.mk a1.aT a1.ba (IntKind.wrap .i64 (x8.1 - (1 : Int))) a1.fAt a1.aX a1.ae), x8.2)) else (if (x2.1 == (3 : Int)) = true then (some ((ag.mk a1.aT a1.ba a1.fID x1.1 a1.aX a1.ae), x2.2)) else (if (x2.1 == (4 : Int)) = true then ((dm [-1, 0, 8, 9] x2.2).bind fun x11 => some ((ag.mk a1.aT a1.ba a1.fID a1.fAt x11.1 a1.ae), x11.2)) else (if (x2.1 == (5 : Int)) = true then ((gz a1.ae.aj x2.2).bind fun x13 => some ((ag.mk a1.aT a1.ba a1.fID a1.fAt a1.aX (az.mk x13.1 a1.ae.aa)), x13.2)) else (if (x2.1 == (6 : Int)) = true then (some ((ag.mk a1.aT a1.ba a1.fID a1.fAt a1.aX (az.mk a1.ae.aj (aG.mk a1.ae.aa.aJ (aK.mk a1.ae.aa.ac.aA a1.ae.aa.ac.aF a1.ae.aa.ac.aQ a1.ae.aa.ac.aW (aZ.mk a1.ae.aa.ac.am.aI (ak.mk a1.ae.aa.ac.am.aw.fX x1.1 a1.ae.aa.ac.am.aw.fZ))) a1.ae.aa.ap a1.ae.aa.aU))), x2.2)) else (if (x2.1 == (7 : Int)) = true then (some ((ag.mk a1.aT a1.ba a1.fID a1.fAt a1.aX (az.mk a1.ae.aj (aG.mk a1.ae.aa.aJ a1.ae.aa.ac (aO.mk x1.1 a1.ae.aa.ap.aw) a1.ae.aa.aU))), x2.2)) else ((dm [0, 1, 2] x2.2).bind fun x16 => (mkO x16.1 (ah.mk (au.mk [] [] [] []) 0 0 0 0 0) 104).bind fun x17 => some ((ag.mk a1.aT a1.ba a1.fID a1.fAt a1.aX (az.mk a1.ae.aj (aG.mk x17 a1.ae.aa.ac a1.ae.aa.ap a1.ae.aa.aU))), x16.2)))))))))
noncomputable def fy (a0 : (List UInt8)) : Int → Option (Step1 (Int) ((Unit) ⊕ (Bool))) := fun s1 =>
  if (decide (s1 < (a0.length : Int))) = true then ((byteO a0 s1).bind fun x4 => if (decide (x4 ≥ (65 : Int))) = true then ((byteO a0 s1).bind fun x6 => if (decide (x6 ≤ (90 : Int))) = true then (some (.next (IntKind.wrap .i64 (s1 + (1 : Int))))) else ((byteO a0 s1).bind fun x8 => if (decide (x8 ≥ (48 : Int))) = true then ((byteO a0 s1).bind fun x10 => if (!(decide (x10 ≤ (57 : Int)))) = true then (some (.stop (.inr false))) else (some (.next (IntKind.wrap .i64 (s1 + (1 : Int)))))) else (some (.stop (.inr false))))) else ((byteO a0 s1).bind fun x12 => if (decide (x12 ≥ (48 : Int))) = true then ((byteO a0 s1).bind fun x14 => if (!(decide (x14 ≤ (57 : Int)))) = true then (some (.stop (.inr false))) else (some (.next (IntKind.wrap .i64 (s1 + (1 : Int)))))) else (some (.stop (.inr false))))) else (some (.stop (.inl ())))
noncomputable def ey (a0 : (List UInt8)) (a1 : Int) (a2 : Int) : Option (Bool) :=
  (loopO (fy a0) (0 : Int)).bind fun o17 => match o17 with | .inl y18 => (if (decide ((a0.length : Int) ≥ a1)) = true then (some (decide ((a0.length : Int) ≤ a2))) else (some false)) | .inr r19 => (some r19)
noncomputable def fj (a0 : au) : Option (Bool) :=
  (ey a0.aB (1 : Int) (2 : Int)).bind fun x1 => if x1 = true then ((ey a0.aD (1 : Int) (5 : Int)).bind fun x3 => if x3 = true then (if (a0.ac == []) = true then ((ey a0.aC (3 : Int) (3 : Int)).bind fun x6 => some x6) else ((ey a0.ac (2 : Int) (2 : Int)).bind fun x7 => if x7 = true then ((ey a0.aC (3 : Int) (3 : Int)).bind fun x9 => some x9) else (some false))) else (some false)) else (some false)
noncomputable def ko (a0 : Int) (a1 : Int) (a2 : Int) : Option (Bool) :=
  if (decide (a0 ≥ a1)) = true then (some (decide (a0 ≤ a2))) else (some false)
noncomputable def cf (a0 : ah) : Option (Bool) :=
  (fj a0.ai).bind fun x1 => if x1 = true then (if (decide (a0.aL ≥ (0 : Int))) = true then (if (decide (a0.aL ≤ a0.aF)) = true then (if (decide (a0.aF ≤ a0.aP)) = true then (if (decide (a0.aP ≤ (18014398509481984 : Int))) = true then ((ko a0.aq (0 : Int) (1073741823 : Int)).bind fun x7 => if x7 = true then ((ko a0.av (-1 : Int) (1 : Int)).bind fun x9 => some x9) else (some false)) else (some false)) else (some false)) else (some false)) else (some false)) else (some false)
noncomputable def gu (a0 : (List Int)) : Int → Option (Step1 (Int) ((Unit) ⊕ (Bool))) := fun s1 =>
  if (decide (s1 < (a0.length : Int))) = true then ((getO a0 s1).bind fun x4 => if (decide (x4 < (-1152921504606846976 : Int))) = true then (some (.stop (.inr false))) else ((getO a0 s1).bind fun x6 => if (decide (x6 > (1152921504606846976 : Int))) = true then (some (.stop (.inr false))) else (some (.next (IntKind.wrap .i64 (s1 + (1 : Int))))))) else (some (.stop (.inl ())))
noncomputable def ef (a0 : (List Int)) : Option (Bool) :=
  (loopO (gu a0) (0 : Int)).bind fun o9 => match o9 with | .inl y10 => (some true) | .inr r11 => (some r11)
noncomputable def em (a0 : ag) : Int → Option (Step1 (Int) ((Unit) ⊕ (Bool))) := fun s10 =>
  if (decide (s10 < (a0.ae.aa.aJ.length : Int))) = true then ((getO a0.ae.aa.aJ s10).bind fun x13 => (cf x13).bind fun x14 => if (!x14) = true then (some (.stop (.inr false))) else (some (.next (IntKind.wrap .i64 (s10 + (1 : Int)))))) else (some (.stop (.inl ())))
noncomputable def dC (a0 : ag) : Option (Bool) :=
  if (decide (a0.aT < (0 : Int))) = true then (some false) else (if (decide (a0.aT ≥ (1000 : Int))) = true then (some false) else (if (decide (a0.ba < (1 : Int))) = true then (some false) else (if (decide (a0.ba > (3 : Int))) = true then (some false) else (if (decide (a0.fID < (0 : Int))) = true then (some false) else (if (decide (a0.fID > a0.aT)) = true then (some false) else (if (!((a0.fID == a0.aT) == (a0.ba == (1 : Int)))) = true then (some false) else (if (decide (a0.aX < (0 : Int))) = true then (some false) else (if (decide (a0.aX > (8 : Int))) = true then (some false) else ((loopO (em a0) (0 : Int)).bind fun o17 => match o17 with | .inl y18 => ((cf a0.ae.aj).bind fun x20 => if x20 = true then (if (decide ((a0.ae.aa.aJ.length : Int) ≤ (64 : Int))) = true then ((ef [a0.fAt, a0.ae.aa.ac.aA.fX, a0.ae.aa.ac.aA.fY, a0.ae.aa.ac.aA.fZ, a0.ae.aa.ac.aF, a0.ae.aa.ac.aQ, a0.ae.aa.ac.aW, a0.ae.aa.ac.am.aI.fX, a0.ae.aa.ac.am.aI.fY, a0.ae.aa.ac.am.aI.fZ, a0.ae.aa.ac.am.aw.fX, a0.ae.aa.ac.am.aw.fY, a0.ae.aa.ac.am.aw.fZ, a0.ae.aa.ap.aI, a0.ae.aa.ap.aw, a0.ae.aa.aU]).bind fun x23 => some x23) else (some false)) else (some false)) | .inr r19 => (some r19))))))))))
noncomputable def dB (s1 : Int) (a0 : (List ag)) : Int → Option (Step1 (Int) ((Int) ⊕ (Bool))) := fun s4 =>
  if (decide (s4 < s1)) = true then ((getO a0 s4).bind fun x8 => (getO a0 s1).bind fun x9 => if (x8.fID == x9.fID) = true then ((getO a0 s4).bind fun x11 => if (x11.ba == (3 : Int)) = true then (some (.stop (.inr false))) else (some (.next (IntKind.wrap .i64 (s4 + (1 : Int)))))) else (some (.next (IntKind.wrap .i64 (s4 + (1 : Int)))))) else (some (.stop (.inl s1)))
noncomputable def dA (s1 : Int) (a0 : (List ag)) : Option (Step1 (Int) ((Unit) ⊕ (Bool))) :=
  (loopO (dB s1 a0) (0 : Int)).bind fun o14 => match o14 with | .inl y15 => (some (.next (IntKind.wrap .i64 (y15 + (1 : Int))))) | .inr r16 => (some (.stop (.inr r16)))
noncomputable def cx (a0 : (List ag)) (s1 : Int) : Option (Step1 (Int) ((Unit) ⊕ (Bool))) :=
  (getO a0 s1).bind fun x18 => if (x18.ba != (1 : Int)) = true then ((getO a0 s1).bind fun x20 => (getO a0 x20.fID).bind fun x21 => if (x21.ba != (1 : Int)) = true then (some (.stop (.inr false))) else (dA s1 a0)) else (dA s1 a0)
noncomputable def bC (a0 : (List ag)) : Int → Option (Step1 (Int) ((Unit) ⊕ (Bool))) := fun s1 =>
  if (decide (s1 < (a0.length : Int))) = true then ((getO a0 s1).bind fun x24 => (dC x24).bind fun x25 => if (!x25) = true then (some (.stop (.inr false))) else ((getO a0 s1).bind fun x27 => if (x27.aT != s1) = true then (some (.stop (.inr false))) else (if (decide (s1 > (0 : Int))) = true then ((getO a0 s1).bind fun x30 => (getO a0 (IntKind.wrap .i64 (s1 - (1 : Int)))).bind fun x31 => if (decide (x30.fAt < x31.fAt)) = true then (some (.stop (.inr false))) else (cx a0 s1)) else (cx a0 s1)))) else (some (.stop (.inl ())))
noncomputable def ga (a0 : (List ag)) : Option (Bool) :=
  (loopO (bC a0) (0 : Int)).bind fun o34 => match o34 with | .inl y35 => (some true) | .inr r36 => (some r36)
noncomputable def gc (a0 : ag) : Option (ag) :=
  (cloneO 104 a0.ae.aa.aJ).bind fun x1 => some (ag.mk a0.aT a0.ba a0.fID a0.fAt a0.aX (az.mk a0.ae.aj (aG.mk x1 a0.ae.aa.ac a0.ae.aa.ap a0.ae.aa.aU)))
noncomputable def eO (a0 : Int) : Option (Bool) :=
  some (a0 != a0)
noncomputable def eU (a0 : Int) (a1 : Int) : Option (Int) :=
  (eO a0).bind fun x1 => (eO a1).bind fun x2 => if x1 = true then (if x2 = true then (some (0 : Int)) else (some (-1 : Int))) else (if x2 = true then (some (1 : Int)) else (if (decide (a0 < a1)) = true then (some (-1 : Int)) else (if (decide (a0 > a1)) = true then (some (1 : Int)) else (some (0 : Int)))))
noncomputable def bp (a0 : ag) (a1 : ag) : Option (Int) :=
  (eU a0.fID a1.fID).bind fun x1 => some x1
noncomputable def gi (a0 : (List ag)) : (Int × (List (Int × Int))) → Option (Step1 (Int × (List (Int × Int))) ((List (Int × Int)))) := fun (s1, s2) =>
  if (decide (s1 < (a0.length : Int))) = true then ((getO a0 s1).bind fun x6 => some (.next ((IntKind.wrap .i64 (s1 + (1 : Int))), (mPut (fun a b => a == b) x6.fID s1 s2)))) else (some (.stop s2))
noncomputable def dP (a0 : (List ag)) (o8 : (List (Int × Int))) : (Int × (List ag)) → Option (Step1 (Int × (List ag)) ((List ag))) := fun (s9, s10) =>
  if (decide (s9 < (a0.length : Int))) = true then ((getO a0 s9).bind fun x14 => if ((mGet (fun a b => a == b) x14.fID (0 : Int) o8) == s9) = true then (if (x14.ba != (3 : Int)) = true then ((gc x14).bind fun x17 => (appO s10 [x17] 288).bind fun x18 => some (.next ((IntKind.wrap .i64 (s9 + (1 : Int))), x18))) else (some (.next ((IntKind.wrap .i64 (s9 + (1 : Int))), s10)))) else (some (.next ((IntKind.wrap .i64 (s9 + (1 : Int))), s10)))) else (some (.stop s10))
noncomputable def fp (a0 : (List ag)) : Option ((List ag)) :=
  (loopO (gi a0) ((0 : Int), ([] : List (Int × Int)))).bind fun o8 => (loopO (dP a0 o8) ((0 : Int), ([] : (List ag)))).bind fun o20 => (sortU bp o20).bind fun x21 => some x21
noncomputable def dz (a0 : (List ag)) (s1 : Int) (s2 : (List ag)) : (Bool × Int) → Option (Step1 (Bool × Int) (Int × Bool × (List ag))) := fun (s6, s7) =>
  if (decide (s7 < (a0.length : Int))) = true then (if s6 = true then ((getO a0 s7).bind fun x14 => (getO a0 s1).bind fun x15 => some (.next ((x14.fID != x15.fID), (IntKind.wrap .i64 (s7 + (1 : Int)))))) else (some (.next (false, (IntKind.wrap .i64 (s7 + (1 : Int))))))) else (some (.stop (s1, s6, s2)))
noncomputable def et (o17 : Int × Bool × (List ag)) (a0 : (List ag)) : Int → Option (Step1 (Int) (Int)) := fun s21 =>
  if (decide (s21 < (o17.2.2.length : Int))) = true then ((inO o17.2.2 s21).bind fun x26 => (getO o17.2.2 s21).bind fun x27 => (getO a0 o17.1).bind fun x28 => if (decide (x27.fID < x28.fID)) = true then (some (.next (IntKind.wrap .i64 (s21 + (1 : Int))))) else (some (.stop s21))) else (some (.stop s21))
noncomputable def cw (a0 : (List ag)) : (Int × (List ag)) → Option (Step1 (Int × (List ag)) ((List ag))) := fun (s1, s2) =>
  if (decide (s1 < (a0.length : Int))) = true then ((loopO (dz a0 s1 s2) (true, (IntKind.wrap .i64 (s1 + (1 : Int))))).bind fun o17 => if (!o17.2.1) = true then (some (.next ((IntKind.wrap .i64 (o17.1 + (1 : Int))), o17.2.2))) else ((getO a0 o17.1).bind fun x19 => if (x19.ba == (3 : Int)) = true then (some (.next ((IntKind.wrap .i64 (o17.1 + (1 : Int))), o17.2.2))) else ((loopO (et o17 a0) (0 : Int)).bind fun o31 => (appO o17.2.2 [(ag.mk 0 0 0 0 0 (az.mk (ah.mk (au.mk [] [] [] []) 0 0 0 0 0) (aG.mk [] (aK.mk (ak.mk 0 0 0) 0 0 0 (aZ.mk (ak.mk 0 0 0) (ak.mk 0 0 0))) (aO.mk 0 0) 0)))] 288).bind fun x32 => (subO x32.length (IntKind.wrap .i64 (o31 + (1 : Int))) (x32.length : Int)).bind fun x33 => (subO x32.length o31 (x32.length : Int)).bind fun x34 => (viewO x32.length (0 + ((IntKind.wrap .i64 (o31 + (1 : Int))) : Int).toNat) (0 + ((x32.length : Int) : Int).toNat)).bind fun x35 => (partO x32 (0 + (o31 : Int).toNat) (0 + ((x32.length : Int) : Int).toNat)).bind fun x36 => (getO a0 o17.1).bind fun x38 => (inO (copyL x32 (0 + ((IntKind.wrap .i64 (o31 + (1 : Int))) : Int).toNat) ((0 + ((x32.length : Int) : Int).toNat) - (0 + ((IntKind.wrap .i64 (o31 + (1 : Int))) : Int).toNat)) x36) o31).bind fun x40 => (setO (copyL x32 (0 + ((IntKind.wrap .i64 (o31 + (1 : Int))) : Int).toNat) ((0 + ((x32.length : Int) : Int).toNat) - (0 + ((IntKind.wrap .i64 (o31 + (1 : Int))) : Int).toNat)) x36) o31 x38).bind fun x41 => some (.next ((IntKind.wrap .i64 (o17.1 + (1 : Int))), x41))))) else (some (.stop s2))
noncomputable def f8 (a0 : (List ag)) : Option ((List ag)) :=
  (loopO (cw a0) ((0 : Int), ([] : (List ag)))).bind fun o43 => some o43
noncomputable def ed (a0 : (List ag)) (a1 : (List ag)) : Int → Option (Step1 (Int) ((Unit) ⊕ (Bool))) := fun s2 =>
  if (decide (s2 < (a0.length : Int))) = true then ((getO a0 s2).bind fun x5 => (getO a1 s2).bind fun x6 => (cH x5 x6).bind fun x7 => if (!x7) = true then (some (.stop (.inr false))) else (some (.next (IntKind.wrap .i64 (s2 + (1 : Int)))))) else (some (.stop (.inl ())))
noncomputable def da (a0 : (List ag)) (a1 : (List ag)) : Option (Bool) :=
  if ((a0.length : Int) != (a1.length : Int)) = true then (some false) else ((loopO (ed a0 a1) (0 : Int)).bind fun o10 => match o10 with | .inl y11 => (some true) | .inr r12 => (some r12))
noncomputable def bP : Nat → Int → Option ((List UInt8))
  | 0, _ => none
  | nfu + 1, a0 =>
  if (decide (a0 < (0 : Int))) = true then (((bP nfu) (IntKind.wrap .i64 (0 - a0))).bind fun x2 => (catO [45] x2).bind fun x3 => some x3) else (if (decide (a0 < (10 : Int))) = true then ((cutO [48, 49, 50, 51, 52, 53, 54, 55, 56, 57] a0 (IntKind.wrap .i64 (a0 + (1 : Int)))).bind fun x5 => some x5) else ((quoO .i64 a0 (10 : Int)).bind fun x6 => ((bP nfu) x6).bind fun x7 => (remO a0 (10 : Int)).bind fun x8 => (remO a0 (10 : Int)).bind fun x9 => (cutO [48, 49, 50, 51, 52, 53, 54, 55, 56, 57] x8 (IntKind.wrap .i64 (x9 + (1 : Int)))).bind fun x10 => (catO x7 x10).bind fun x11 => some x11))
noncomputable def dK (a0 : Int) : Option ((List UInt8)) := recO fun n => bP n a0
noncomputable def eK (a0 : (List Int)) : (Int × (List (List UInt8))) → Option (Step1 (Int × (List (List UInt8))) ((List (List UInt8)))) := fun (s1, s2) =>
  if (decide (s1 < (a0.length : Int))) = true then ((getO a0 s1).bind fun x6 => (dK x6).bind fun x7 => (appO s2 [x7] 16).bind fun x8 => some (.next ((IntKind.wrap .i64 (s1 + (1 : Int))), x8))) else (some (.stop s2))
noncomputable def cg (a0 : (List Int)) : Option ((List (List UInt8))) :=
  (loopO (eK a0) ((0 : Int), ([] : (List (List UInt8))))).bind fun o10 => some o10
noncomputable def gB (a0 : au) : Option ((List UInt8) × Int) :=
  (fj a0).bind fun x1 => if (!x1) = true then (some (([] : (List UInt8)), (1 : Int))) else ((catO a0.aB [46]).bind fun x3 => (catO x3 a0.aD).bind fun x4 => (catO x4 [46]).bind fun x5 => (catO x5 a0.ac).bind fun x6 => (catO x6 [46]).bind fun x7 => (catO x7 a0.aC).bind fun x8 => some (x8, (0 : Int)))
noncomputable def e9 (a0 : ah) : Option ((List (List UInt8))) :=
  (gB a0.ai).bind fun x1 => (cg [a0.aF, a0.aL, a0.aP, a0.aq, a0.av]).bind fun x2 => (appO [x1.1] x2 16).bind fun x3 => some x3
noncomputable def dv (a0 : ag) : (Int × (List (List UInt8))) → Option (Step1 (Int × (List (List UInt8))) ((List (List UInt8)))) := fun (s6, s7) =>
  if (decide (s6 < (a0.ae.aa.aJ.length : Int))) = true then ((getO a0.ae.aa.aJ s6).bind fun x11 => (e9 x11).bind fun x12 => (appO s7 x12 16).bind fun x13 => some (.next ((IntKind.wrap .i64 (s6 + (1 : Int))), x13))) else (some (.stop s7))
noncomputable def fk (a0 : ag) : Option ((List (List UInt8))) :=
  (cg [a0.aT, a0.ba, a0.fID, a0.fAt, a0.aX]).bind fun x1 => (e9 a0.ae.aj).bind fun x2 => (appO x1 x2 16).bind fun x3 => (dK (a0.ae.aa.aJ.length : Int)).bind fun x4 => (appO x3 [x4] 16).bind fun x5 => (loopO (dv a0) ((0 : Int), x5)).bind fun o15 => (cg [a0.ae.aa.ac.aA.fX, a0.ae.aa.ac.aA.fY, a0.ae.aa.ac.aA.fZ, a0.ae.aa.ac.aF, a0.ae.aa.ac.aQ, a0.ae.aa.ac.aW]).bind fun x16 => (appO o15 x16 16).bind fun x17 => (cg [a0.ae.aa.ac.am.aI.fX, a0.ae.aa.ac.am.aI.fY, a0.ae.aa.ac.am.aI.fZ, a0.ae.aa.ac.am.aw.fX, a0.ae.aa.ac.am.aw.fY, a0.ae.aa.ac.am.aw.fZ]).bind fun x18 => (appO x17 x18 16).bind fun x19 => (cg [a0.ae.aa.ap.aI, a0.ae.aa.ap.aw, a0.ae.aa.aU]).bind fun x20 => (appO x19 x20 16).bind fun x21 => some x21
noncomputable def dj (x3 : (List (List UInt8))) : ((List UInt8) × Int) → Option (Step1 ((List UInt8) × Int) ((List UInt8))) := fun (s4, s5) =>
  if (decide (s5 < (x3.length : Int))) = true then ((getO x3 s5).bind fun x9 => if (decide (s5 > (0 : Int))) = true then ((catO s4 [32]).bind fun x11 => (catO x11 x9).bind fun x12 => some (.next (x12, (IntKind.wrap .i64 (s5 + (1 : Int)))))) else ((catO s4 x9).bind fun x13 => some (.next (x13, (IntKind.wrap .i64 (s5 + (1 : Int))))))) else (some (.stop s4))
noncomputable def dc (a0 : ag) : Option ((List UInt8) × Int) :=
  (dC a0).bind fun x1 => if (!x1) = true then (some (([] : (List UInt8)), (1 : Int))) else ((fk a0).bind fun x3 => (loopO (dj x3) (([] : (List UInt8)), (0 : Int))).bind fun o15 => some (o15, (0 : Int)))
noncomputable def gt (a0 : (List UInt8)) : (Int × Int × (List (List UInt8))) → Option (Step1 (Int × Int × (List (List UInt8))) (Int × (List (List UInt8)))) := fun (s1, s2, s3) =>
  if (decide (s2 < (a0.length : Int))) = true then ((byteO a0 s2).bind fun x8 => if (x8 == (32 : Int)) = true then ((cutO a0 s1 s2).bind fun x10 => (appO s3 [x10] 16).bind fun x11 => some (.next ((IntKind.wrap .i64 (s2 + (1 : Int))), (IntKind.wrap .i64 (s2 + (1 : Int))), x11))) else (some (.next (s1, (IntKind.wrap .i64 (s2 + (1 : Int))), s3)))) else (some (.stop (s1, s3)))
noncomputable def ij (a0 : (List UInt8)) : Option ((List (List UInt8))) :=
  (loopO (gt a0) ((0 : Int), (0 : Int), ([] : (List (List UInt8))))).bind fun o13 => (cutO a0 o13.1 (a0.length : Int)).bind fun x14 => (appO o13.2 [x14] 16).bind fun x15 => some x15
noncomputable def ea (d0 : aV) : Option ((List UInt8) × aV) :=
  if ((d0.fL.length : Int) == (0 : Int)) = true then (some (([] : (List UInt8)), d0)) else ((getO d0.fL (0 : Int)).bind fun x2 => (cutO d0.fL 1 (d0.fL.length : Int)).bind fun x3 => some (x2, (aV.mk x3)))
noncomputable def bS (x1 : (List UInt8) × aV) : (Int × Int) → Option (Step1 (Int × Int) ((Int) ⊕ (Int × aV))) := fun (s3, s4) =>
  if (decide (s4 < (x1.1.length : Int))) = true then ((byteO x1.1 s4).bind fun x8 => if (decide (x8 < (48 : Int))) = true then (some (.stop (.inr ((0 : Int), x1.2)))) else ((byteO x1.1 s4).bind fun x10 => if (decide (x10 > (57 : Int))) = true then (some (.stop (.inr ((0 : Int), x1.2)))) else (if (decide (s3 > (288230376151711744 : Int))) = true then (some (.stop (.inr ((0 : Int), x1.2)))) else ((byteO x1.1 s4).bind fun x13 => some (.next ((IntKind.wrap .i64 ((IntKind.wrap .i64 ((10 : Int) * s3)) + (IntKind.wrap .i64 (IntKind.wrap .u8 (x13 - (48 : Int)))))), (IntKind.wrap .i64 (s4 + (1 : Int))))))))) else (some (.stop (.inl s3)))
noncomputable def ce (x1 : (List UInt8) × aV) (j2 : Int) : Option (Int × aV) :=
  (loopO (bS x1) ((0 : Int), j2)).bind fun o15 => match o15 with | .inl y16 => (if (j2 == (1 : Int)) = true then (some ((IntKind.wrap .i64 (0 - y16)), x1.2)) else (some (y16, x1.2))) | .inr r17 => (some r17)
noncomputable def bj (d0 : aV) : Option (Int × aV) :=
  (ea d0).bind fun x1 => if (decide ((x1.1.length : Int) > (0 : Int))) = true then ((byteO x1.1 0).bind fun x21 => if (x21 == (45 : Int)) = true then (ce x1 (1 : Int)) else (ce x1 (0 : Int))) else (ce x1 (0 : Int))
noncomputable def gn (a0 : (List UInt8)) (a1 : Int) : (Int × (List (List UInt8))) → Option (Step1 (Int × (List (List UInt8))) ((List (List UInt8)))) := fun (s1, s2) =>
  if (decide (s1 < (a0.length : Int))) = true then ((byteO a0 s1).bind fun x6 => if (x6 == a1) = true then ((appO s2 [[]] 16).bind fun x8 => some (.next ((IntKind.wrap .i64 (s1 + (1 : Int))), x8))) else ((inO s2 (IntKind.wrap .i64 ((s2.length : Int) - (1 : Int)))).bind fun x10 => (getO s2 (IntKind.wrap .i64 ((s2.length : Int) - (1 : Int)))).bind fun x11 => (cutO a0 s1 (IntKind.wrap .i64 (s1 + (1 : Int)))).bind fun x12 => (catO x11 x12).bind fun x13 => (inO s2 (IntKind.wrap .i64 ((s2.length : Int) - (1 : Int)))).bind fun x15 => (setO s2 (IntKind.wrap .i64 ((s2.length : Int) - (1 : Int))) x13).bind fun x16 => some (.next ((IntKind.wrap .i64 (s1 + (1 : Int))), x16)))) else (some (.stop s2))
noncomputable def hX (a0 : (List UInt8)) (a1 : Int) : Option ((List (List UInt8))) :=
  (loopO (gn a0 a1) ((0 : Int), [[]])).bind fun o18 => some o18
noncomputable def fi (a0 : (List UInt8)) : Option (au × Int) :=
  (hX a0 (46 : Int)).bind fun x1 => if ((x1.length : Int) != (4 : Int)) = true then (some ((au.mk [] [] [] []), (3 : Int))) else ((getO x1 (0 : Int)).bind fun x3 => (getO x1 (1 : Int)).bind fun x4 => (getO x1 (2 : Int)).bind fun x5 => (getO x1 (3 : Int)).bind fun x6 => (fj (au.mk x3 x4 x5 x6)).bind fun x7 => if (!x7) = true then (some ((au.mk [] [] [] []), (3 : Int))) else (some ((au.mk x3 x4 x5 x6), (0 : Int))))
noncomputable def d9 (d0 : aV) : Option (ah × aV) :=
  (ea d0).bind fun x1 => (fi x1.1).bind fun x2 => (bj x1.2).bind fun x3 => (bj x3.2).bind fun x4 => (bj x4.2).bind fun x5 => (bj x5.2).bind fun x6 => (bj x6.2).bind fun x7 => some ((ah.mk x2.1 x3.1 x4.1 x5.1 x6.1 x7.1), x7.2)
noncomputable def dx (d0 : aV) : Option (ak × aV) :=
  (bj d0).bind fun x1 => (bj x1.2).bind fun x2 => (bj x2.2).bind fun x3 => some ((ak.mk x1.1 x2.1 x3.1), x3.2)
noncomputable def fS (d0 : (List ah)) : Int → Option (Step1 (Int) ((Unit) ⊕ (Bool × (List ah)))) := fun s10 =>
  if (decide (s10 < (d0.length : Int))) = true then ((inO d0 s10).bind fun x14 => (getO d0 s10).bind fun x15 => (cf x15).bind fun x16 => if (!x16) = true then (some (.stop (.inr (false, d0)))) else (some (.next (IntKind.wrap .i64 (s10 + (1 : Int)))))) else (some (.stop (.inl ())))
noncomputable def gH (cJ : Int) (ct : Int) (cu : Int) (cN : Int) (cE : Int) (cL : (List UInt8)) (cM : (List UInt8)) (cO : (List UInt8)) (cP : (List UInt8)) (cQ : Int) (bY : Int) (bZ : Int) (b6 : Int) (b9 : Int) (bz : Int) (bD : Int) (bF : Int) (bG : Int) (bH : Int) (bI : Int) (bJ : Int) (bK : Int) (bL : Int) (bM : Int) (bN : Int) (bO : Int) (bT : Int) (bU : Int) (bV : Int) (d0 : (List ah)) : Option (Bool × (List ah)) :=
  if (decide (cJ < (0 : Int))) = true then (some (false, d0)) else (if (decide (cJ ≥ (1000 : Int))) = true then (some (false, d0)) else (if (decide (ct < (1 : Int))) = true then (some (false, d0)) else (if (decide (ct > (3 : Int))) = true then (some (false, d0)) else (if (decide (cu < (0 : Int))) = true then (some (false, d0)) else (if (decide (cu > cJ)) = true then (some (false, d0)) else (if (!((cu == cJ) == (ct == (1 : Int)))) = true then (some (false, d0)) else (if (decide (cE < (0 : Int))) = true then (some (false, d0)) else (if (decide (cE > (8 : Int))) = true then (some (false, d0)) else ((loopO (fS d0) (0 : Int)).bind fun o19 => match o19 with | .inl y20 => ((cf (ah.mk (au.mk cL cM cO cP) cQ bY bZ b6 b9)).bind fun x22 => if x22 = true then (if (decide ((d0.length : Int) ≤ (64 : Int))) = true then ((ef [cN, bz, bD, bF, bG, bH, bI, bJ, bK, bL, bM, bN, bO, bT, bU, bV]).bind fun x25 => some (x25, d0)) else (some (false, d0))) else (some (false, d0))) | .inr r21 => (some r21))))))))))
noncomputable def fU (d0 : (List ah)) : (Int × (List (List UInt8))) → Option (Step1 (Int × (List (List UInt8))) ((List (List UInt8)))) := fun (s6, s7) =>
  if (decide (s6 < (d0.length : Int))) = true then ((inO d0 s6).bind fun x12 => (getO d0 s6).bind fun x13 => (e9 x13).bind fun x14 => (appO s7 x14 16).bind fun x15 => some (.next ((IntKind.wrap .i64 (s6 + (1 : Int))), x15))) else (some (.stop s7))
noncomputable def gI (cJ : Int) (ct : Int) (cu : Int) (cN : Int) (cE : Int) (cL : (List UInt8)) (cM : (List UInt8)) (cO : (List UInt8)) (cP : (List UInt8)) (cQ : Int) (bY : Int) (bZ : Int) (b6 : Int) (b9 : Int) (bz : Int) (bD : Int) (bF : Int) (bG : Int) (bH : Int) (bI : Int) (bJ : Int) (bK : Int) (bL : Int) (bM : Int) (bN : Int) (bO : Int) (bT : Int) (bU : Int) (bV : Int) (d0 : (List ah)) : Option ((List (List UInt8)) × (List ah)) :=
  (cg [cJ, ct, cu, cN, cE]).bind fun x1 => (e9 (ah.mk (au.mk cL cM cO cP) cQ bY bZ b6 b9)).bind fun x2 => (appO x1 x2 16).bind fun x3 => (dK (d0.length : Int)).bind fun x4 => (appO x3 [x4] 16).bind fun x5 => (loopO (fU d0) ((0 : Int), x5)).bind fun o17 => (cg [bz, bD, bF, bG, bH, bI]).bind fun x18 => (appO o17 x18 16).bind fun x19 => (cg [bJ, bK, bL, bM, bN, bO]).bind fun x20 => (appO x19 x20 16).bind fun x21 => (cg [bT, bU, bV]).bind fun x22 => (appO x21 x22 16).bind fun x23 => some (x23, d0)
noncomputable def ig (x3 : (List (List UInt8)) × (List ah)) : ((List UInt8) × Int) → Option (Step1 ((List UInt8) × Int) ((List UInt8))) := fun (s4, s5) =>
  if (decide (s5 < (x3.1.length : Int))) = true then ((getO x3.1 s5).bind fun x9 => if (decide (s5 > (0 : Int))) = true then ((catO s4 [32]).bind fun x11 => (catO x11 x9).bind fun x12 => some (.next (x12, (IntKind.wrap .i64 (s5 + (1 : Int)))))) else ((catO s4 x9).bind fun x13 => some (.next (x13, (IntKind.wrap .i64 (s5 + (1 : Int))))))) else (some (.stop s4))
noncomputable def f9 (cJ : Int) (ct : Int) (cu : Int) (cN : Int) (cE : Int) (cL : (List UInt8)) (cM : (List UInt8)) (cO : (List UInt8)) (cP : (List UInt8)) (cQ : Int) (bY : Int) (bZ : Int) (b6 : Int) (b9 : Int) (bz : Int) (bD : Int) (bF : Int) (bG : Int) (bH : Int) (bI : Int) (bJ : Int) (bK : Int) (bL : Int) (bM : Int) (bN : Int) (bO : Int) (bT : Int) (bU : Int) (bV : Int) (d0 : (List ah)) : Option ((List UInt8) × Int × (List ah)) :=
  (gH cJ ct cu cN cE cL cM cO cP cQ bY bZ b6 b9 bz bD bF bG bH bI bJ bK bL bM bN bO bT bU bV d0).bind fun x1 => if (!x1.1) = true then (some (([] : (List UInt8)), (1 : Int), x1.2)) else ((gI cJ ct cu cN cE cL cM cO cP cQ bY bZ b6 b9 bz bD bF bG bH bI bJ bK bL bM bN bO bT bU bV x1.2).bind fun x3 => (loopO (ig x3) (([] : (List UInt8)), (0 : Int))).bind fun o15 => some (o15, (0 : Int), x3.2))
noncomputable def di  : (Int × (List (List UInt8)) × (List ah)) → Option (Step1 (Int × (List (List UInt8)) × (List ah)) ((List (List UInt8)) × (List ah))) := fun (s9, s10, s11) =>
  if (decide (s9 > (0 : Int))) = true then ((d9 (aV.mk s10)).bind fun x16 => (appO s11 [x16.1] 104).bind fun x17 => some (.next ((IntKind.wrap .i64 (s9 - (1 : Int))), x16.2.fL, x17))) else (some (.stop (s10, s11)))
noncomputable def db (a0 : (List UInt8)) : Option (ag × Int) :=
  (ij a0).bind fun x1 => (bj (aV.mk x1)).bind fun x2 => (bj x2.2).bind fun x3 => (bj x3.2).bind fun x4 => (bj x4.2).bind fun x5 => (bj x5.2).bind fun x6 => (d9 x6.2).bind fun x7 => (bj x7.2).bind fun x8 => (loopO (di) ((if (65 : Int) < x8.1 then (65 : Int) else x8.1), x8.2.fL, ([] : (List ah)))).bind fun o19 => (dx (aV.mk o19.1)).bind fun x20 => (bj x20.2).bind fun x21 => (bj x21.2).bind fun x22 => (bj x22.2).bind fun x23 => (dx x23.2).bind fun x24 => (dx x24.2).bind fun x25 => (bj x25.2).bind fun x26 => (bj x26.2).bind fun x27 => (bj x27.2).bind fun x28 => (f9 x2.1 x3.1 x4.1 x5.1 x6.1 x7.1.ai.aB x7.1.ai.aD x7.1.ai.ac x7.1.ai.aC x7.1.aF x7.1.aL x7.1.aP x7.1.aq x7.1.av x20.1.fX x20.1.fY x20.1.fZ x21.1 x22.1 x23.1 x24.1.fX x24.1.fY x24.1.fZ x25.1.fX x25.1.fY x25.1.fZ x26.1 x27.1 x28.1 o19.2).bind fun x29 => if (x29.2.1 != (0 : Int)) = true then (some ((ag.mk 0 0 0 0 0 (az.mk (ah.mk (au.mk [] [] [] []) 0 0 0 0 0) (aG.mk [] (aK.mk (ak.mk 0 0 0) 0 0 0 (aZ.mk (ak.mk 0 0 0) (ak.mk 0 0 0))) (aO.mk 0 0) 0))), (3 : Int))) else (if (!(x29.1 == a0)) = true then (some ((ag.mk 0 0 0 0 0 (az.mk (ah.mk (au.mk [] [] [] []) 0 0 0 0 0) (aG.mk [] (aK.mk (ak.mk 0 0 0) 0 0 0 (aZ.mk (ak.mk 0 0 0) (ak.mk 0 0 0))) (aO.mk 0 0) 0))), (3 : Int))) else (some ((ag.mk x2.1 x3.1 x4.1 x5.1 x6.1 (az.mk x7.1 (aG.mk x29.2.2 (aK.mk x20.1 x21.1 x22.1 x23.1 (aZ.mk x24.1 x25.1)) (aO.mk x26.1 x27.1) x28.1))), (0 : Int))))
noncomputable def fR (a0 : (List aS)) (s1 : (List ag)) : (Int × (List ag)) → Option (Step1 (Int × (List ag)) (Int × (List ag))) := fun (s3, s4) =>
  if (decide (s3 < (a0.length : Int))) = true then (if ((s4.length : Int) == (s1.length : Int)) = true then ((getO a0 s3).bind fun x10 => (db x10.ei).bind fun x11 => (getO a0 s3).bind fun x12 => if (x12.cq == (s1.length : Int)) = true then (if (x11.2 == (0 : Int)) = true then (if (x11.1.aT == (s1.length : Int)) = true then ((appO s4 [x11.1] 288).bind fun x16 => some (.next ((IntKind.wrap .i64 (s3 + (1 : Int))), x16))) else (some (.next ((IntKind.wrap .i64 (s3 + (1 : Int))), s4)))) else (some (.next ((IntKind.wrap .i64 (s3 + (1 : Int))), s4)))) else (some (.next ((IntKind.wrap .i64 (s3 + (1 : Int))), s4)))) else (some (.stop ((s1.length : Int), s4)))) else (some (.stop ((s1.length : Int), s4)))
noncomputable def eJ (a0 : (List aS)) : (List ag) → Option (Step1 ((List ag)) ((List ag))) := fun s1 =>
  (loopO (fR a0 s1) ((0 : Int), s1)).bind fun o18 => if ((o18.2.length : Int) == o18.1) = true then (some (.stop o18.2)) else (some (.next o18.2))
noncomputable def gG (a0 : (List aS)) : Option ((List ag)) :=
  (loopO (eJ a0) ([] : (List ag))).bind fun o21 => some o21
noncomputable def fd (a1 : (List aS)) : Int → Option (Step1 (Int) ((Unit) ⊕ (Bool))) := fun s6 =>
  if (decide (s6 < (a1.length : Int))) = true then ((getO a1 s6).bind fun x9 => if (decide ((x9.ei.length : Int) > (300 : Int))) = true then ((dW ).bind fun x11 => some (.stop (.inr x11))) else (some (.next (IntKind.wrap .i64 (s6 + (1 : Int)))))) else (some (.stop (.inl ())))
noncomputable def fe (a0 : (List ag)) (x17 : (List ag) × aH) (j21 : (List ag)) : Int → Option (Step1 (Int) ((Unit) ⊕ (Bool))) := fun s22 =>
  if (decide (s22 < (3 : Int))) = true then ((getO [a0, x17.1, j21] s22).bind fun x25 => (dZ x25).bind fun x26 => (ga x25).bind fun x27 => if (!(x26 == x27)) = true then (some (.stop (.inr false))) else ((fp x25).bind fun x29 => (f8 x25).bind fun x30 => (da x29 x30).bind fun x31 => if (!x31) = true then (some (.stop (.inr false))) else (some (.next (IntKind.wrap .i64 (s22 + (1 : Int))))))) else (some (.stop (.inl ())))
noncomputable def fg (x17 : (List ag) × aH) : (Int × (List Int) × Int × (List aS)) → Option (Step1 (Int × (List Int) × Int × (List aS)) ((List aS))) := fun (s38, s39, s40, s41) =>
  if (decide (s38 > (0 : Int))) = true then (if (decide ((x17.1.length : Int) > (0 : Int))) = true then ((dM (if (6 : Int) < (x17.1.length : Int) then (6 : Int) else (x17.1.length : Int)) (aH.mk s39 s40)).bind fun x46 => (getO x17.1 x46.1).bind fun x47 => (dc x47).bind fun x48 => (dm [0, 0, 0, 0, 1] x46.2).bind fun x49 => (appO s41 [(aS.mk (IntKind.wrap .i64 (x46.1 + x49.1)) 0 x48.1)] 32).bind fun x50 => some (.next ((IntKind.wrap .i64 (s38 - (1 : Int))), x49.2.fL, x49.2.fAt, x50))) else (some (.stop s41))) else (some (.stop s41))
noncomputable def fh (a1 : (List aS)) (o52 : (List aS)) (x53 : (List aS)) : Int → Option (Step1 (Int) ((Unit) ⊕ (Bool))) := fun s54 =>
  if (decide (s54 < (3 : Int))) = true then ((getO [a1, o52, x53] s54).bind fun x57 => (eu x57).bind fun x58 => (gG x57).bind fun x59 => (da x58 x59).bind fun x60 => if (!x60) = true then (some (.stop (.inr false))) else (some (.next (IntKind.wrap .i64 (s54 + (1 : Int)))))) else (some (.stop (.inl ())))
noncomputable def cr (a0 : (List ag)) (x17 : (List ag) × aH) (a1 : (List aS)) (j19 : (List Int)) (j20 : Int) (j21 : (List ag)) : Option (Bool) :=
  (loopO (fe a0 x17 j21) (0 : Int)).bind fun o34 => match o34 with | .inl y35 => ((dM (12 : Int) (aH.mk j19 j20)).bind fun x37 => (loopO (fg x17) (x37.1, x37.2.fL, x37.2.fAt, ([] : (List aS)))).bind fun o52 => (appO o52 a1 32).bind fun x53 => (loopO (fh a1 o52 x53) (0 : Int)).bind fun o63 => match o63 with | .inl y64 => ((dW ).bind fun x66 => some x66) | .inr r65 => (some r65)) | .inr r36 => (some r36)
noncomputable def dN (a0 : (List ag)) (a1 : (List aS)) (a2 : (List Int)) : Option (Bool) :=
  (hT a0).bind fun x1 => if (!x1) = true then ((dW ).bind fun x3 => some x3) else (if (decide ((a1.length : Int) > (20 : Int))) = true then ((dW ).bind fun x5 => some x5) else ((loopO (fd a1) (0 : Int)).bind fun o13 => match o13 with | .inl y14 => ((kf a2).bind fun x16 => (iM (6 : Int) x16).bind fun x17 => (appO ([] : List ag) x17.1 288).bind fun x18 => if (decide ((x18.length : Int) > (0 : Int))) = true then ((dM (x18.length : Int) x17.2).bind fun x69 => (inO x18 x69.1).bind fun x71 => (getO x18 x69.1).bind fun x72 => (iL x72 x69.2).bind fun x73 => (inO x18 x69.1).bind fun x75 => (setO x18 x69.1 x73.1).bind fun x76 => cr a0 x17 a1 x73.2.fL x73.2.fAt x76) else (cr a0 x17 a1 x17.2.fL x17.2.fAt x18)) | .inr r15 => (some r15)))
end Go.Dw.Fh
