
import Derived.Test.YtkcfodpngpmlcaaGreatDwNest
import Derived.Test.YtkcfodpngpmlcaaGreatDwSortP



namespace Go.Dw.Da
open Go.Dw

structure ac where
  fL : (List Int)
  fAt : Int
  deriving DecidableEq
def ac.pd (x : ac) : PD := .agg [.lst (x.fL.map (PD.int .i64)), .int .i64 x.fAt]
structure al where
  fX : Int
  fY : Int
  fZ : Int
  deriving DecidableEq
def al.pd (x : al) : PD := .agg [.int .i64 x.fX, .int .i64 x.fY, .int .i64 x.fZ]
structure bo where
  bB : al
  bj : al
  deriving DecidableEq
def bo.pd (x : bo) : PD := .agg [.int .i64 x.bB.fX, .int .i64 x.bB.fY, .int .i64 x.bB.fZ, .int .i64 x.bj.fX, .int .i64 x.bj.fY, .int .i64 x.bj.fZ]
structure bK where
  dj : Int
  bB : (List Int)
  bj : (List Int)
  deriving DecidableEq
def bK.pd (x : bK) : PD := .agg [.int .i64 x.dj, .lst (x.bB.map (PD.int .i64)), .lst (x.bj.map (PD.int .i64))]
structure br where
  aZ : bo
  bT : bK
  fCap : Int
  eD : Int
  fSpan : Int
  fLimit : Int
  fLeast : Int
  deriving DecidableEq
def br.pd (x : br) : PD := .agg [.int .i64 x.aZ.bB.fX, .int .i64 x.aZ.bB.fY, .int .i64 x.aZ.bB.fZ, .int .i64 x.aZ.bj.fX, .int .i64 x.aZ.bj.fY, .int .i64 x.aZ.bj.fZ, .int .i64 x.bT.dj, .lst (x.bT.bB.map (PD.int .i64)), .lst (x.bT.bj.map (PD.int .i64)), .int .i64 x.fCap, .int .i64 x.eD, .int .i64 x.fSpan, .int .i64 x.fLimit, .int .i64 x.fLeast]
structure dx where
  bL : bK
  fNum : Int
  fDen : Int
  deriving DecidableEq
def dx.pd (x : dx) : PD := .agg [.int .i64 x.bL.dj, .lst (x.bL.bB.map (PD.int .i64)), .lst (x.bL.bj.map (PD.int .i64)), .int .i64 x.fNum, .int .i64 x.fDen]
structure aK where
  av : br
  hT : dx
  eD : Int
  deriving DecidableEq
def aK.pd (x : aK) : PD := .agg [.int .i64 x.av.aZ.bB.fX, .int .i64 x.av.aZ.bB.fY, .int .i64 x.av.aZ.bB.fZ, .int .i64 x.av.aZ.bj.fX, .int .i64 x.av.aZ.bj.fY, .int .i64 x.av.aZ.bj.fZ, .int .i64 x.av.bT.dj, .lst (x.av.bT.bB.map (PD.int .i64)), .lst (x.av.bT.bj.map (PD.int .i64)), .int .i64 x.av.fCap, .int .i64 x.av.eD, .int .i64 x.av.fSpan, .int .i64 x.av.fLimit, .int .i64 x.av.fLeast, .int .i64 x.hT.bL.dj, .lst (x.hT.bL.bB.map (PD.int .i64)), .lst (x.hT.bL.bj.map (PD.int .i64)), .int .i64 x.hT.fNum, .int .i64 x.hT.fDen, .int .i64 x.eD]
structure ae where
  aj : (List UInt8)
  ak : (List UInt8)
  ai : (List UInt8)
  ap : (List UInt8)
  deriving DecidableEq
def ae.pd (x : ae) : PD := .agg [.str x.aj, .str x.ak, .str x.ai, .str x.ap]
structure bp where
  fNum : Int
  fDen : Int
  deriving DecidableEq
def bp.pd (x : bp) : PD := .agg [.int .i64 x.fNum, .int .i64 x.fDen]
structure c8 where
  a0 : Int
  a1 : Int
  a2 : Int
  deriving DecidableEq
def c8.pd (x : c8) : PD := .agg [.int .i64 x.a0, .int .i64 x.a1, .int .i64 x.a2]
structure aF where
  fKind : Int
  fNum : c8
  fDen : c8
  fTaps : (List Int)
  fFactor : Int
  fShift : Int
  deriving DecidableEq
def aF.pd (x : aF) : PD := .agg [.int .i64 x.fKind, .int .i64 x.fNum.a0, .int .i64 x.fNum.a1, .int .i64 x.fNum.a2, .int .i64 x.fDen.a0, .int .i64 x.fDen.a1, .int .i64 x.fDen.a2, .lst (x.fTaps.map (PD.int .i64)), .int .i64 x.fFactor, .int .i64 x.fShift]
structure bJ where
  fb : (List aF)
  deriving DecidableEq
def bJ.pd (x : bJ) : PD := .agg [.lst (x.fb.map aF.pd)]
structure aG where
  ck : Int
  fTo : Int
  fRate : bp
  cu : al
  gD : bJ
  deriving DecidableEq
def aG.pd (x : aG) : PD := .agg [.int .i64 x.ck, .int .i64 x.fTo, .int .i64 x.fRate.fNum, .int .i64 x.fRate.fDen, .int .i64 x.cu.fX, .int .i64 x.cu.fY, .int .i64 x.cu.fZ, .lst (x.gD.fb.map aF.pd)]
structure az where
  ah : ae
  fa : (List aG)
  deriving DecidableEq
def az.pd (x : az) : PD := .agg [.str x.ah.aj, .str x.ah.ak, .str x.ah.ai, .str x.ah.ap, .lst (x.fa.map aG.pd)]
structure aC where
  bC : (List az)
  deriving DecidableEq
def aC.pd (x : aC) : PD := .agg [.lst (x.bC.map az.pd)]
structure aa where
  ah : ae
  aP : Int
  aA : Int
  aU : Int
  aq : Int
  aw : Int
  deriving DecidableEq
def aa.pd (x : aa) : PD := .agg [.str x.ah.aj, .str x.ah.ak, .str x.ah.ai, .str x.ah.ap, .int .i64 x.aP, .int .i64 x.aA, .int .i64 x.aU, .int .i64 x.aq, .int .i64 x.aw]
structure A4_Int where
  a0 : Int
  a1 : Int
  a2 : Int
  a3 : Int
  deriving DecidableEq
def A4_Int.pd (x : A4_Int) : PD := .agg [.int .i64 x.a0, .int .i64 x.a1, .int .i64 x.a2, .int .i64 x.a3]
structure aO where
  a0 : Int
  a1 : Int
  deriving DecidableEq
def aO.pd (x : aO) : PD := .agg [.int .i64 x.a0, .int .i64 x.a1]
structure cG where
  a0 : aO
  a1 : aO
  a2 : aO
  a3 : aO
  a4 : aO
  deriving DecidableEq
def cG.pd (x : cG) : PD := .agg [.int .i64 x.a0.a0, .int .i64 x.a0.a1, .int .i64 x.a1.a0, .int .i64 x.a1.a1, .int .i64 x.a2.a0, .int .i64 x.a2.a1, .int .i64 x.a3.a0, .int .i64 x.a3.a1, .int .i64 x.a4.a0, .int .i64 x.a4.a1]
structure ag where
  ck : Int
  fTo : Int
  deriving DecidableEq
def ag.pd (x : ag) : PD := .agg [.int .i64 x.ck, .int .i64 x.fTo]
structure ar where
  ah : ae
  dC : (List ag)
  deriving DecidableEq
def ar.pd (x : ar) : PD := .agg [.str x.ah.aj, .str x.ah.ak, .str x.ah.ai, .str x.ah.ap, .lst (x.dC.map ag.pd)]
def iW (a b : ae) : Bool := ((a.aj == b.aj) && ((a.ak == b.ak) && ((a.ai == b.ai) && ((a.ap == b.ap) && true))))
noncomputable def ic (a0 : (List Int)) : Option (ac) :=
  (cutO a0 0 (if (2000 : Int) < (a0.length : Int) then (2000 : Int) else (a0.length : Int))).bind fun x1 => some (ac.mk x1 0)
noncomputable def iK (d0 : ac) : Option (Int × ac) :=
  if (decide (d0.fAt ≥ (d0.fL.length : Int))) = true then (some ((0 : Int), d0)) else ((getO d0.fL (IntKind.wrap .i64 ((IntKind.wrap .i64 (d0.fAt + (1 : Int))) - (1 : Int)))).bind fun x2 => some (x2, (ac.mk d0.fL (IntKind.wrap .i64 (d0.fAt + (1 : Int))))))
noncomputable def gF (a0 : Int) (a1 : Int) : Option (Int) :=
  if (decide (a1 < (1 : Int))) = true then (some (0 : Int)) else ((remO a0 a1).bind fun x2 => if (decide (x2 < (0 : Int))) = true then (some (IntKind.wrap .i64 (x2 + a1))) else (some x2))
noncomputable def cr (a1 : Int) (d0 : ac) : Option (Int × ac) :=
  (iK d0).bind fun x1 => (gF x1.1 a1).bind fun x2 => some (x2, x1.2)
noncomputable def fk (a1 : Int) (d0 : ac) : Option (al × ac) :=
  (cr (IntKind.wrap .i64 ((IntKind.wrap .i64 ((2 : Int) * a1)) + (1 : Int))) d0).bind fun x1 => (cr (IntKind.wrap .i64 ((IntKind.wrap .i64 ((2 : Int) * a1)) + (1 : Int))) x1.2).bind fun x2 => (cr (IntKind.wrap .i64 (a1 + (1 : Int))) x2.2).bind fun x3 => some ((al.mk (IntKind.wrap .i64 (x1.1 - a1)) (IntKind.wrap .i64 (x2.1 - a1)) x3.1), x3.2)
noncomputable def iJ (a1 : Int) (a2 : Int) (d0 : ac) : Option (bo × ac) :=
  (fk a1 d0).bind fun x1 => (cr (IntKind.wrap .i64 (a2 + (1 : Int))) x1.2).bind fun x2 => (cr (IntKind.wrap .i64 (a2 + (1 : Int))) x2.2).bind fun x3 => (cr (IntKind.wrap .i64 (a2 + (1 : Int))) x3.2).bind fun x4 => some ((bo.mk x1.1 (al.mk (IntKind.wrap .i64 (x1.1.fX + x2.1)) (IntKind.wrap .i64 (x1.1.fY + x3.1)) (IntKind.wrap .i64 (x1.1.fZ + x4.1)))), x4.2)
noncomputable def c9 (a1 : (List Int)) (d0 : ac) : Option (Int × ac) :=
  (cr (a1.length : Int) d0).bind fun x1 => (getO a1 x1.1).bind fun x2 => some (x2, x1.2)
noncomputable def f5 (x1 : Int × ac) : (Int × Int × Int × (List Int) × Int × (List Int) × (List Int)) → Option (Step1 (Int × Int × Int × (List Int) × Int × (List Int) × (List Int)) ((List Int) × Int × (List Int) × (List Int))) := fun (s3, s4, s5, s6, s7, s8, s9) =>
  (quoO .i64 (400 : Int) x1.1).bind fun x15 => (cr (3 : Int) (ac.mk s6 s7)).bind fun x16 => if (decide (s5 ≤ (IntKind.wrap .i64 (x15 + x16.1)))) = true then ((appO s8 [s3] 8).bind fun x18 => (appO s9 [s4] 8).bind fun x19 => (c9 [0, 10, 20, 35] x16.2).bind fun x20 => (quoO .i64 x1.1 (4 : Int)).bind fun x21 => (c9 [0, 0, 5, 30] x20.2).bind fun x22 => some (.next ((IntKind.wrap .i64 (s3 + (IntKind.wrap .i64 (x20.1 + x21)))), (IntKind.wrap .i64 ((if (IntKind.wrap .i64 (s3 + (IntKind.wrap .i64 (x20.1 + x21)))) > s4 then (IntKind.wrap .i64 (s3 + (IntKind.wrap .i64 (x20.1 + x21)))) else s4) + x22.1)), (IntKind.wrap .i64 (s5 + (1 : Int))), x22.2.fL, x22.2.fAt, x18, x19))) else (some (.stop (x16.2.fL, x16.2.fAt, s8, s9)))
noncomputable def fJ (d0 : ac) : Option (bK × ac) :=
  (c9 [20, 25, 40, 100] d0).bind fun x1 => (cr (3 : Int) x1.2).bind fun x2 => (loopO (f5 x1) ((0 : Int), x2.1, (0 : Int), x2.2.fL, x2.2.fAt, ([] : (List Int)), ([] : (List Int)))).bind fun o24 => some ((bK.mk x1.1 o24.2.2.1 o24.2.2.2), (ac.mk o24.1 o24.2.1))
noncomputable def dI (a1 : Int) (d0 : ac) : Option (br × ac) :=
  (iJ (20 : Int) a1 d0).bind fun x1 => (fJ x1.2).bind fun x2 => (c9 [10, 50, 200] x2.2).bind fun x3 => (c9 [0, 0, 10, 40] x3.2).bind fun x4 => (c9 [0, 50, 200, 400] x4.2).bind fun x5 => (c9 [0, 5, 20] x5.2).bind fun x6 => (cr (2 : Int) x6.2).bind fun x7 => some ((br.mk x1.1 x2.1 x3.1 x4.1 x5.1 x6.1 (IntKind.wrap .i64 ((2 : Int) + x7.1))), x7.2)
noncomputable def f0 (x1 : bK × ac) : (Int × (List Int) × (List Int)) → Option (Step1 (Int × (List Int) × (List Int)) ((List Int) × (List Int))) := fun (s4, s5, s6) =>
  if (decide (s4 < (x1.1.bB.length : Int))) = true then ((inO s5 s4).bind fun x12 => (getO s5 s4).bind fun x13 => (quoO .i64 x13 (3 : Int)).bind fun x14 => (inO s6 s4).bind fun x16 => (getO s6 s4).bind fun x17 => (quoO .i64 x17 (3 : Int)).bind fun x18 => (inO s5 s4).bind fun x20 => (setO s5 s4 x14).bind fun x21 => (inO s6 s4).bind fun x23 => (setO s6 s4 x18).bind fun x24 => some (.next ((IntKind.wrap .i64 (s4 + (1 : Int))), x21, x24))) else (some (.stop (s5, s6)))
noncomputable def gB (d0 : ac) : Option (dx × ac) :=
  (fJ d0).bind fun x1 => (cr (20 : Int) x1.2).bind fun x2 => (cr (9 : Int) x2.2).bind fun x3 => (loopO (f0 x1) ((0 : Int), x1.1.bB, x1.1.bj)).bind fun o26 => some ((dx.mk (bK.mk x1.1.dj o26.1 o26.2) x2.1 (IntKind.wrap .i64 ((1 : Int) + x3.1))), x3.2)
noncomputable def eJ (a1 : Int) (d0 : ac) : Option (aK × ac) :=
  (dI a1 d0).bind fun x1 => (gB x1.2).bind fun x2 => (c9 [0, 0, 10, 40] x2.2).bind fun x3 => some ((aK.mk x1.1 x2.1 x3.1), x3.2)
noncomputable def eI  : (Int × (List Int) × Int × (List aF)) → Option (Step1 (Int × (List Int) × Int × (List aF)) ((List Int) × Int × (List aF))) := fun (s2, s3, s4, s5) =>
  if (decide (s2 > (0 : Int))) = true then ((cr (3 : Int) (ac.mk s3 s4)).bind fun x11 => if (x11.1 == (0 : Int)) = true then ((c9 [0, 1, 9, 99, 1048575] x11.2).bind fun x13 => (c9 [0, 0, 2, 9, 999] x13.2).bind fun x14 => (appO s5 [(aF.mk x11.1 (c8.mk (IntKind.wrap .i64 ((1 : Int) + x13.1)) 0 0) (c8.mk (IntKind.wrap .i64 ((1 : Int) + x14.1)) 0 0) [] 0 0)] 96).bind fun x15 => some (.next ((IntKind.wrap .i64 (s2 - (1 : Int))), x14.2.fL, x14.2.fAt, x15))) else (if (x11.1 == (1 : Int)) = true then ((cr (5 : Int) x11.2).bind fun x17 => (cr (7 : Int) x17.2).bind fun x18 => (cr (3 : Int) x18.2).bind fun x19 => (cr (5 : Int) x19.2).bind fun x20 => (cr (7 : Int) x20.2).bind fun x21 => (cr (3 : Int) x21.2).bind fun x22 => (appO s5 [(aF.mk x11.1 (c8.mk x17.1 (IntKind.wrap .i64 (x18.1 - (3 : Int))) (IntKind.wrap .i64 (x19.1 - (1 : Int)))) (c8.mk (IntKind.wrap .i64 ((1 : Int) + x20.1)) x21.1 x22.1) [] 0 0)] 96).bind fun x23 => some (.next ((IntKind.wrap .i64 (s2 - (1 : Int))), x22.2.fL, x22.2.fAt, x23))) else ((cr (3 : Int) x11.2).bind fun x24 => (cr (4 : Int) x24.2).bind fun x25 => (appO s5 [(aF.mk x11.1 (c8.mk 0 0 0) (c8.mk 0 0 0) [(IntKind.wrap .i64 ((1 : Int) + x24.1)), 2, 1] 1 x25.1)] 96).bind fun x26 => some (.next ((IntKind.wrap .i64 (s2 - (1 : Int))), x25.2.fL, x25.2.fAt, x26))))) else (some (.stop (s3, s4, s5)))
noncomputable def dZ (d0 : ac) : Option (bJ × ac) :=
  (cr (4 : Int) d0).bind fun x1 => (loopO (eI) (x1.1, x1.2.fL, x1.2.fAt, ([] : (List aF)))).bind fun o28 => some ((bJ.mk o28.2.2), (ac.mk o28.1 o28.2.1))
noncomputable def da (a0 : Int) : Option (ae) :=
  (gF a0 (6 : Int)).bind fun x1 => (getO [[83, 49], [83, 50], [83, 51], [83, 52], [83, 53], [83, 54]] x1).bind fun x2 => some (ae.mk [65, 66] x2 [48, 48] [66, 72, 90])
noncomputable def f4 (a1 : Int) : (Int × (List Int) × Int × (List az)) → Option (Step1 (Int × (List Int) × Int × (List az)) ((List Int) × Int × (List az))) := fun (s1, s2, s3, s4) =>
  if (decide (s1 < a1)) = true then (if (decide (s1 < (6 : Int))) = true then ((fk (60 : Int) (ac.mk s2 s3)).bind fun x11 => (dZ x11.2).bind fun x12 => (da s1).bind fun x13 => (cr (6 : Int) x12.2).bind fun x14 => if (x14.1 == (0 : Int)) = true then ((cr (500 : Int) x14.2).bind fun x16 => (fk (60 : Int) x16.2).bind fun x17 => (dZ x17.2).bind fun x18 => (inO [(aG.mk 0 100000 (bp.mk 100 1) x11.1 x12.1)] (0 : Int)).bind fun x20 => (modO [(aG.mk 0 100000 (bp.mk 100 1) x11.1 x12.1)] (0 : Int) (fun (z22 : aG) => (aG.mk z22.ck (IntKind.wrap .i64 ((1500 : Int) + x16.1)) z22.fRate z22.cu z22.gD))).bind fun x21 => (appO x21 [(aG.mk (IntKind.wrap .i64 ((1500 : Int) + x16.1)) 100000 (bp.mk 100 1) x17.1 x18.1)] 80).bind fun x23 => (appO s4 [(az.mk x13 x23)] 88).bind fun x24 => some (.next ((IntKind.wrap .i64 (s1 + (1 : Int))), x18.2.fL, x18.2.fAt, x24))) else (if (x14.1 == (1 : Int)) = true then ((cr (1500 : Int) x14.2).bind fun x26 => (inO [(aG.mk 0 100000 (bp.mk 100 1) x11.1 x12.1)] (0 : Int)).bind fun x28 => (modO [(aG.mk 0 100000 (bp.mk 100 1) x11.1 x12.1)] (0 : Int) (fun (z30 : aG) => (aG.mk x26.1 z30.fTo z30.fRate z30.cu z30.gD))).bind fun x29 => (appO s4 [(az.mk x13 x29)] 88).bind fun x31 => some (.next ((IntKind.wrap .i64 (s1 + (1 : Int))), x26.2.fL, x26.2.fAt, x31))) else ((appO s4 [(az.mk x13 [(aG.mk 0 100000 (bp.mk 100 1) x11.1 x12.1)])] 88).bind fun x32 => some (.next ((IntKind.wrap .i64 (s1 + (1 : Int))), x14.2.fL, x14.2.fAt, x32))))) else (some (.stop (s2, s3, s4)))) else (some (.stop (s2, s3, s4)))
noncomputable def gC (a1 : Int) (d0 : ac) : Option (aC × ac) :=
  (loopO (f4 a1) ((0 : Int), d0.fL, d0.fAt, ([] : (List az)))).bind fun o34 => some ((aC.mk o34.2.2), (ac.mk o34.1 o34.2.1))
noncomputable def fm (a1 : Int) (a2 : Int) (d0 : ac) : Option (Int × ac) :=
  (cr (IntKind.wrap .i64 ((IntKind.wrap .i64 (a2 - a1)) + (1 : Int))) d0).bind fun x1 => some ((IntKind.wrap .i64 (a1 + x1.1)), x1.2)
noncomputable def fI (a1 : bo) (d0 : ac) : Option (al × ac) :=
  (fm a1.bB.fX a1.bj.fX d0).bind fun x1 => (fm a1.bB.fY a1.bj.fY x1.2).bind fun x2 => (fm a1.bB.fZ a1.bj.fZ x2.2).bind fun x3 => some ((al.mk x1.1 x2.1 x3.1), x3.2)
noncomputable def fy (x4 : az) (a1 : ae) (a2 : Int) (s1 : Int) : Int → Option (Step1 (Int) ((Int) ⊕ (al × Bool))) := fun s5 =>
  if (decide (s5 < (x4.fa.length : Int))) = true then ((getO x4.fa s5).bind fun x9 => if ((x4.ah.aj == a1.aj) && ((x4.ah.ak == a1.ak) && ((x4.ah.ai == a1.ai) && ((x4.ah.ap == a1.ap) && true)))) = true then (if (decide (x9.ck ≤ a2)) = true then (if (decide (a2 < x9.fTo)) = true then (some (.stop (.inr (x9.cu, true)))) else (some (.next (IntKind.wrap .i64 (s5 + (1 : Int)))))) else (some (.next (IntKind.wrap .i64 (s5 + (1 : Int)))))) else (some (.next (IntKind.wrap .i64 (s5 + (1 : Int)))))) else (some (.stop (.inl s1)))
noncomputable def fA (a0 : aC) (a1 : ae) (a2 : Int) : Int → Option (Step1 (Int) ((Unit) ⊕ (al × Bool))) := fun s1 =>
  if (decide (s1 < (a0.bC.length : Int))) = true then ((getO a0.bC s1).bind fun x4 => (loopO (fy x4 a1 a2 s1) (0 : Int)).bind fun o14 => match o14 with | .inl y15 => (some (.next (IntKind.wrap .i64 (y15 + (1 : Int))))) | .inr r16 => (some (.stop (.inr r16)))) else (some (.stop (.inl ())))
noncomputable def fK (a0 : aC) (a1 : ae) (a2 : Int) : Option (al × Bool) :=
  (loopO (fA a0 a1 a2) (0 : Int)).bind fun o18 => match o18 with | .inl y19 => (some ((al.mk 0 0 0), false)) | .inr r20 => (some r20)
noncomputable def gY (a0 : Int) : Option (Int) :=
  some (IntKind.wrap .i64 (a0 * a0))
noncomputable def c6 (x18 : ae) (x19 : Int × ac) (x20 : Int × ac) (j22 : Int) (j23 : Int) (j24 : (List Int)) (j25 : Int) (j26 : (List aa)) (j27 : Int) (j28 : Int) (j29 : Int) (j30 : Int) : Option (Step1 (Int × Int × (List Int) × Int × (List aa) × Int × Int × Int) ((List aa) × (List Int) × Int)) :=
  (cr (5 : Int) (ac.mk j24 j25)).bind fun x31 => (cr (5 : Int) x31.2).bind fun x32 => (appO j26 [(aa.mk x18 (IntKind.wrap .i64 (j30 + x31.1)) j30 (IntKind.wrap .i64 ((IntKind.wrap .i64 (j30 + x31.1)) + x32.1)) x19.1 (IntKind.wrap .i64 (x20.1 - (1 : Int))))] 104).bind fun x33 => some (.next (j22, (IntKind.wrap .i64 (j23 - (1 : Int))), x32.2.fL, x32.2.fAt, x33, j27, j28, j29))
noncomputable def eX (x40 : al × Bool) (s9 : Int) (s10 : Int) (s11 : Int) (s4 : Int) (s5 : Int) (s8 : (List aa)) : Int → Option (Step1 (Int) (Int × Int × Int × (List aa) × Int × Int × Int)) := fun s42 =>
  (gY (IntKind.wrap .i64 (x40.1.fX - s9))).bind fun x51 => (gY (IntKind.wrap .i64 (x40.1.fY - s10))).bind fun x52 => (gY (IntKind.wrap .i64 (x40.1.fZ - s11))).bind fun x53 => if (decide ((IntKind.wrap .i64 (s42 * s42)) < (IntKind.wrap .i64 ((IntKind.wrap .i64 (x51 + x52)) + x53)))) = true then (some (.next (IntKind.wrap .i64 (s42 + (1 : Int))))) else (some (.stop (s4, s5, s42, s8, s9, s10, s11)))
noncomputable def fW (a1 : aK) (a2 : aC) : (Int × Int × (List Int) × Int × (List aa) × Int × Int × Int) → Option (Step1 (Int × Int × (List Int) × Int × (List aa) × Int × Int × Int) ((List aa) × (List Int) × Int)) := fun (s4, s5, s6, s7, s8, s9, s10, s11) =>
  if (decide (s5 > (0 : Int))) = true then ((cr (6 : Int) (ac.mk s6 s7)).bind fun x17 => (da x17.1).bind fun x18 => (c9 [0, 1, 50, 1000, 1048576] x17.2).bind fun x19 => (cr (3 : Int) x19.2).bind fun x20 => (cr (2000 : Int) x20.2).bind fun x21 => (cr (6 : Int) x21.2).bind fun x35 => if (x35.1 == (0 : Int)) = true then ((fI a1.av.aZ x35.2).bind fun x37 => (cr (900 : Int) x37.2).bind fun x38 => c6 x18 x19 x20 (IntKind.wrap .i64 (s4 + x38.1)) s5 x38.2.fL x38.2.fAt s8 x37.1.fX x37.1.fY x37.1.fZ (IntKind.wrap .i64 ((1000 : Int) + x21.1))) else (if (x35.1 == (1 : Int)) = true then (c6 x18 x19 x20 s4 s5 x35.2.fL x35.2.fAt s8 s9 s10 s11 (IntKind.wrap .i64 ((1000 : Int) + x21.1))) else ((fK a2 x18 s4).bind fun x40 => if x40.2 = true then ((loopO (eX x40 s9 s10 s11 s4 s5 s8) (0 : Int)).bind fun o56 => (quoO .i64 o56.2.2.1 a1.av.bT.dj).bind fun x57 => (getO a1.av.bT.bB (if (IntKind.wrap .i64 ((a1.av.bT.bB.length : Int) - (1 : Int))) < x57 then (IntKind.wrap .i64 ((a1.av.bT.bB.length : Int) - (1 : Int))) else x57)).bind fun x58 => (cr (6 : Int) x35.2).bind fun x59 => c6 x18 x19 x20 o56.1 o56.2.1 x59.2.fL x59.2.fAt o56.2.2.2.1 o56.2.2.2.2.1 o56.2.2.2.2.2.1 o56.2.2.2.2.2.2 (IntKind.wrap .i64 ((IntKind.wrap .i64 (o56.1 + x58)) + x59.1))) else (c6 x18 x19 x20 s4 s5 x35.2.fL x35.2.fAt s8 s9 s10 s11 (IntKind.wrap .i64 ((1000 : Int) + x21.1)))))) else (some (.stop (s8, s6, s7)))
noncomputable def gA (a1 : aK) (a2 : aC) (a3 : Int) (d0 : ac) : Option ((List aa) × ac) :=
  (fI a1.av.aZ d0).bind fun x1 => (cr (500 : Int) x1.2).bind fun x2 => (cr (IntKind.wrap .i64 (a3 + (1 : Int))) x2.2).bind fun x3 => (loopO (fW a1 a2) ((IntKind.wrap .i64 ((1000 : Int) + x2.1)), x3.1, x3.2.fL, x3.2.fAt, ([] : (List aa)), x1.1.fX, x1.1.fY, x1.1.fZ)).bind fun o61 => some (o61.1, (ac.mk o61.2.1 o61.2.2))
noncomputable def eR (a0 : Int) : Option (Bool) :=
  if (decide (a0 ≥ (65 : Int))) = true then (if (decide (a0 ≤ (90 : Int))) = true then (some true) else (if (decide (a0 ≥ (48 : Int))) = true then (some (decide (a0 ≤ (57 : Int)))) else (some false))) else (if (decide (a0 ≥ (48 : Int))) = true then (some (decide (a0 ≤ (57 : Int)))) else (some false))
noncomputable def dV (a0 : (List UInt8)) : Int → Option (Step1 (Int) ((Unit) ⊕ (Bool))) := fun s1 =>
  if (decide (s1 < (a0.length : Int))) = true then ((byteO a0 s1).bind fun x4 => (eR x4).bind fun x5 => if (!x5) = true then (some (.stop (.inr false))) else (some (.next (IntKind.wrap .i64 (s1 + (1 : Int)))))) else (some (.stop (.inl ())))
noncomputable def dN (a0 : (List UInt8)) (a1 : Int) (a2 : Int) : Option (Bool) :=
  (loopO (dV a0) (0 : Int)).bind fun o8 => match o8 with | .inl y9 => (if (decide ((a0.length : Int) ≥ a1)) = true then (some (decide ((a0.length : Int) ≤ a2))) else (some false)) | .inr r10 => (some r10)
noncomputable def eQ (a0 : ae) : Option (Bool) :=
  (dN a0.aj (1 : Int) (2 : Int)).bind fun x1 => if x1 = true then ((dN a0.ak (1 : Int) (5 : Int)).bind fun x3 => if x3 = true then ((dN a0.ai (0 : Int) (2 : Int)).bind fun x5 => if x5 = true then (if ((a0.ai.length : Int) != (1 : Int)) = true then ((dN a0.ap (3 : Int) (3 : Int)).bind fun x8 => some x8) else (some false)) else (some false)) else (some false)) else (some false)
noncomputable def eK (a0 : Int) (a1 : Int) (a2 : Int) : Option (Bool) :=
  if (decide (a0 ≥ a1)) = true then (some (decide (a0 ≤ a2))) else (some false)
noncomputable def cY (a0 : aa) : Option (Bool) :=
  (eQ a0.ah).bind fun x1 => if x1 = true then (if (decide (a0.aA ≥ (0 : Int))) = true then (if (decide (a0.aA ≤ a0.aP)) = true then (if (decide (a0.aP ≤ a0.aU)) = true then (if (decide (a0.aU ≤ (18014398509481984 : Int))) = true then ((eK a0.aq (0 : Int) (1073741823 : Int)).bind fun x7 => if x7 = true then ((eK a0.aw (-1 : Int) (1 : Int)).bind fun x9 => some x9) else (some false)) else (some false)) else (some false)) else (some false)) else (some false)) else (some false)
noncomputable def cO (a0 : aa) : Option (Bool) :=
  (cY a0).bind fun x1 => some (!x1)
noncomputable def bw (a0 : (List aa)) : Int → Option (Step1 (Int) ((Unit) ⊕ (Int))) := fun s1 =>
  if (decide (s1 < (a0.length : Int))) = true then ((getO a0 s1).bind fun x4 => (cO x4).bind fun x5 => if x5 = true then (some (.stop (.inr s1))) else (some (.next (IntKind.wrap .i64 (s1 + (1 : Int)))))) else (some (.stop (.inl ())))
noncomputable def bM (a0 : (List aa)) : Option (Int) :=
  (loopO (bw a0) (0 : Int)).bind fun o8 => match o8 with | .inl y9 => (some (-1 : Int)) | .inr r10 => (some r10)
noncomputable def bv (a0 : (List aa)) : Option (Bool) :=
  (bM a0).bind fun x1 => some (decide (x1 ≥ (0 : Int)))
noncomputable def cW (a0 : (List aa)) : Option (Bool) :=
  (bv a0).bind fun x1 => some (!x1)
noncomputable def cU (a0 : (List UInt8)) : Option (Bool) :=
  some (!(a0 == a0))
noncomputable def bn (a0 : (List UInt8)) (a1 : (List UInt8)) : Option (Int) :=
  (cU a0).bind fun x1 => (cU a1).bind fun x2 => if x1 = true then (if x2 = true then (some (0 : Int)) else (some (-1 : Int))) else (if x2 = true then (some (1 : Int)) else (if (Op.bytesLess a0 a1) = true then (some (-1 : Int)) else (if (!(Op.bytesLess a0 a1 || a0 == a1)) = true then (some (1 : Int)) else (some (0 : Int)))))
noncomputable def ci (a0 : (List Int)) : Int → Option (Step1 (Int) ((Unit) ⊕ (Int))) := fun s1 =>
  if (decide (s1 < (a0.length : Int))) = true then ((getO a0 s1).bind fun x4 => if (x4 != (0 : Int)) = true then (some (.stop (.inr x4))) else (some (.next (IntKind.wrap .i64 (s1 + (1 : Int)))))) else (some (.stop (.inl ())))
noncomputable def d7 (a0 : (List Int)) : Option (Int) :=
  (loopO (ci a0) (0 : Int)).bind fun o7 => match o7 with | .inl y8 => (some (0 : Int)) | .inr r9 => (some r9)
noncomputable def bi (a0 : ae) (a1 : ae) : Option (Int) :=
  (bn a0.aj a1.aj).bind fun x1 => (bn a0.ak a1.ak).bind fun x2 => (bn a0.ai a1.ai).bind fun x3 => (bn a0.ap a1.ap).bind fun x4 => (d7 [x1, x2, x3, x4]).bind fun x5 => some x5
noncomputable def dO (a0 : Int) : Option (Bool) :=
  some (a0 != a0)
noncomputable def bh (a0 : Int) (a1 : Int) : Option (Int) :=
  (dO a0).bind fun x1 => (dO a1).bind fun x2 => if x1 = true then (if x2 = true then (some (0 : Int)) else (some (-1 : Int))) else (if x2 = true then (some (1 : Int)) else (if (decide (a0 < a1)) = true then (some (-1 : Int)) else (if (decide (a0 > a1)) = true then (some (1 : Int)) else (some (0 : Int)))))
noncomputable def aN (a0 : aa) (a1 : aa) : Option (Int) :=
  (bi a0.ah a1.ah).bind fun x1 => (bh a0.aP a1.aP).bind fun x2 => (bh a0.aA a1.aA).bind fun x3 => (bh a0.aU a1.aU).bind fun x4 => (bh a0.aq a1.aq).bind fun x5 => (bh a0.aw a1.aw).bind fun x6 => (d7 [x1, x2, x3, x4, x5, x6]).bind fun x7 => some x7
noncomputable def dg (s2 : Int) (d0 : (List aa)) : (Int × Int × (List aa)) → Option (Step1 (Int × Int × (List aa)) (Int × (List aa))) := fun (s13, s14, s15) =>
  (lenV s15.length (0 + (s2 : Int).toNat) (0 + ((d0.length : Int) : Int).toNat)).bind fun x19 => if (decide (s14 < x19)) = true then ((inV s15.length (0 + (s2 : Int).toNat) (0 + ((d0.length : Int) : Int).toNat) s14).bind fun x21 => (getO s15 (((0 + (s2 : Int).toNat) + (s14 : Int).toNat : Nat) : Int)).bind fun x22 => (inV s15.length (0 + (s2 : Int).toNat) (0 + ((d0.length : Int) : Int).toNat) (IntKind.wrap .i64 (s14 - (1 : Int)))).bind fun x23 => (getO s15 (((0 + (s2 : Int).toNat) + ((IntKind.wrap .i64 (s14 - (1 : Int))) : Int).toNat : Nat) : Int)).bind fun x24 => if (!(((x22.ah.aj == x24.ah.aj) && ((x22.ah.ak == x24.ah.ak) && ((x22.ah.ai == x24.ah.ai) && ((x22.ah.ap == x24.ah.ap) && true)))) && ((x22.aP == x24.aP) && ((x22.aA == x24.aA) && ((x22.aU == x24.aU) && ((x22.aq == x24.aq) && ((x22.aw == x24.aw) && true))))))) = true then ((inV s15.length (0 + (s2 : Int).toNat) (0 + ((d0.length : Int) : Int).toNat) s14).bind fun x26 => (getO s15 (((0 + (s2 : Int).toNat) + (s14 : Int).toNat : Nat) : Int)).bind fun x27 => (inO s15 s13).bind fun x29 => (setO s15 s13 x27).bind fun x30 => some (.next ((IntKind.wrap .i64 (s13 + (1 : Int))), (IntKind.wrap .i64 (s14 + (1 : Int))), x30))) else (some (.next (s13, (IntKind.wrap .i64 (s14 + (1 : Int))), s15)))) else (some (.stop (s13, s15)))
noncomputable def cw (d0 : (List aa)) : Int → Option (Step1 (Int) ((Unit) ⊕ ((List aa)))) := fun s2 =>
  if (decide (s2 < (d0.length : Int))) = true then ((inO d0 s2).bind fun x6 => (getO d0 s2).bind fun x7 => (inO d0 (IntKind.wrap .i64 (s2 - (1 : Int)))).bind fun x9 => (getO d0 (IntKind.wrap .i64 (s2 - (1 : Int)))).bind fun x10 => if (((x7.ah.aj == x10.ah.aj) && ((x7.ah.ak == x10.ah.ak) && ((x7.ah.ai == x10.ah.ai) && ((x7.ah.ap == x10.ah.ap) && true)))) && ((x7.aP == x10.aP) && ((x7.aA == x10.aA) && ((x7.aU == x10.aU) && ((x7.aq == x10.aq) && ((x7.aw == x10.aw) && true)))))) = true then ((subO d0.length s2 (d0.length : Int)).bind fun x12 => (loopO (dg s2 d0) (s2, (1 : Int), d0)).bind fun o32 => (subO o32.2.length o32.1 (o32.2.length : Int)).bind fun x33 => (viewO o32.2.length (0 + (o32.1 : Int).toNat) (0 + ((o32.2.length : Int) : Int).toNat)).bind fun x34 => (subO (clearL o32.2 (0 + (o32.1 : Int).toNat) ((0 + ((o32.2.length : Int) : Int).toNat) - (0 + (o32.1 : Int).toNat)) (aa.mk (ae.mk [] [] [] []) 0 0 0 0 0)).length (0 : Int) o32.1).bind fun x36 => some (.stop (.inr ((clearL o32.2 (0 + (o32.1 : Int).toNat) ((0 + ((o32.2.length : Int) : Int).toNat) - (0 + (o32.1 : Int).toNat)) (aa.mk (ae.mk [] [] [] []) 0 0 0 0 0)).take (o32.1 : Int).toNat)))) else (some (.next (IntKind.wrap .i64 (s2 + (1 : Int)))))) else (some (.stop (.inl ())))
noncomputable def bD (d0 : (List aa)) : Option ((List aa)) :=
  if (decide ((d0.length : Int) < (2 : Int))) = true then (some d0) else ((loopO (cw d0) (1 : Int)).bind fun o38 => match o38 with | .inl y39 => (some d0) | .inr r40 => (some r40))
noncomputable def dX (a0 : (List aa)) : Option ((List aa)) :=
  (cloneO 104 a0).bind fun x1 => (sortO aN x1).bind fun x2 => (bD x2).bind fun x3 => some x3
noncomputable def aY (a0 : aa) (a1 : aa) : Option (Int) :=
  (bh a0.aA a1.aA).bind fun x1 => some x1
noncomputable def aQ (a1 : Int) (s1 : Int) : (Int × (List aa)) → Option (Step1 (Int × (List aa)) (Int × (List aa))) := fun (s5, s6) =>
  if (decide (s5 > a1)) = true then ((inO s6 s5).bind fun x12 => (getO s6 s5).bind fun x13 => (inO s6 (IntKind.wrap .i64 (s5 - (1 : Int)))).bind fun x15 => (getO s6 (IntKind.wrap .i64 (s5 - (1 : Int)))).bind fun x16 => (aY x13 x16).bind fun x17 => if (decide (x17 < (0 : Int))) = true then ((inO s6 (IntKind.wrap .i64 (s5 - (1 : Int)))).bind fun x20 => (getO s6 (IntKind.wrap .i64 (s5 - (1 : Int)))).bind fun x21 => (inO s6 s5).bind fun x23 => (getO s6 s5).bind fun x24 => (inO s6 s5).bind fun x26 => (setO s6 s5 x21).bind fun x27 => (inO x27 (IntKind.wrap .i64 (s5 - (1 : Int)))).bind fun x29 => (setO x27 (IntKind.wrap .i64 (s5 - (1 : Int))) x24).bind fun x30 => some (.next ((IntKind.wrap .i64 (s5 - (1 : Int))), x30))) else (some (.stop (s1, s6)))) else (some (.stop (s1, s6)))
noncomputable def aM (a2 : Int) (a1 : Int) : (Int × (List aa)) → Option (Step1 (Int × (List aa)) ((List aa))) := fun (s1, s2) =>
  if (decide (s1 < a2)) = true then ((loopO (aQ a1 s1) (s1, s2)).bind fun o32 => some (.next ((IntKind.wrap .i64 (o32.1 + (1 : Int))), o32.2))) else ((some s2).bind fun z33 => some (.stop z33))
noncomputable def aD (a1 : Int) (a2 : Int) (d0 : (List aa)) : Option ((List aa)) :=
  (loopO (aM a2 a1) ((IntKind.wrap .i64 (a1 + (1 : Int))), d0)).bind fun o35 => some o35
noncomputable def bV (a3 : Int) (a2 : Int) (a1 : Int) : (Int × (List aa)) → Option (Step1 (Int × (List aa)) ((List aa))) := fun (s1, s2) =>
  if (decide (s1 < a3)) = true then ((inO s2 (IntKind.wrap .i64 (a2 + s1))).bind fun x6 => (getO s2 (IntKind.wrap .i64 (a2 + s1))).bind fun x7 => (inO s2 (IntKind.wrap .i64 (a1 + s1))).bind fun x9 => (getO s2 (IntKind.wrap .i64 (a1 + s1))).bind fun x10 => (inO s2 (IntKind.wrap .i64 (a1 + s1))).bind fun x12 => (setO s2 (IntKind.wrap .i64 (a1 + s1)) x7).bind fun x13 => (inO x13 (IntKind.wrap .i64 (a2 + s1))).bind fun x15 => (setO x13 (IntKind.wrap .i64 (a2 + s1)) x10).bind fun x16 => some (.next ((IntKind.wrap .i64 (s1 + (1 : Int))), x16))) else ((some s2).bind fun z17 => some (.stop z17))
noncomputable def aV (a1 : Int) (a2 : Int) (a3 : Int) (d0 : (List aa)) : Option ((List aa)) :=
  (loopO (bV a3 a2 a1) ((0 : Int), d0)).bind fun o19 => some o19
noncomputable def co (a2 : Int) : (Int × Int × (List aa)) → Option (Step1 (Int × Int × (List aa)) (Int × (List aa))) := fun (s1, s2, s3) =>
  if (s1 != s2) = true then (if (decide (s1 > s2)) = true then ((aV (IntKind.wrap .i64 (a2 - s1)) a2 s2 s3).bind fun x9 => some (.next ((IntKind.wrap .i64 (s1 - s2)), s2, x9))) else ((aV (IntKind.wrap .i64 (a2 - s1)) (IntKind.wrap .i64 ((IntKind.wrap .i64 (a2 + s2)) - s1)) s1 s3).bind fun x10 => some (.next (s1, (IntKind.wrap .i64 (s2 - s1)), x10)))) else (some (.stop (s1, s3)))
noncomputable def bU (a1 : Int) (a2 : Int) (a3 : Int) (d0 : (List aa)) : Option ((List aa)) :=
  (loopO (co a2) ((IntKind.wrap .i64 (a2 - a1)), (IntKind.wrap .i64 (a3 - a2)), d0)).bind fun o12 => (aV (IntKind.wrap .i64 (a2 - o12.1)) a2 o12.1 o12.2).bind fun x13 => some x13
noncomputable def cd (d0 : (List aa)) (a1 : Int) : (Int × Int) → Option (Step1 (Int × Int) (Int)) := fun (s2, s3) =>
  if (decide (s2 < s3)) = true then ((inO d0 (IntKind.wrap .i64 (shrI .u64 (IntKind.wrap .u64 (IntKind.wrap .i64 (s2 + s3))) (1 : Int)))).bind fun x8 => (getO d0 (IntKind.wrap .i64 (shrI .u64 (IntKind.wrap .u64 (IntKind.wrap .i64 (s2 + s3))) (1 : Int)))).bind fun x9 => (inO d0 a1).bind fun x11 => (getO d0 a1).bind fun x12 => (aY x9 x12).bind fun x13 => if (decide (x13 < (0 : Int))) = true then (some (.next ((IntKind.wrap .i64 ((IntKind.wrap .i64 (shrI .u64 (IntKind.wrap .u64 (IntKind.wrap .i64 (s2 + s3))) (1 : Int))) + (1 : Int))), s3))) else (some (.next (s2, (IntKind.wrap .i64 (shrI .u64 (IntKind.wrap .u64 (IntKind.wrap .i64 (s2 + s3))) (1 : Int))))))) else (some (.stop s2))
noncomputable def ce (o16 : Int) : (Int × (List aa)) → Option (Step1 (Int × (List aa)) ((List aa))) := fun (s17, s18) =>
  if (decide (s17 < (IntKind.wrap .i64 (o16 - (1 : Int))))) = true then ((inO s18 (IntKind.wrap .i64 (s17 + (1 : Int)))).bind fun x22 => (getO s18 (IntKind.wrap .i64 (s17 + (1 : Int)))).bind fun x23 => (inO s18 s17).bind fun x25 => (getO s18 s17).bind fun x26 => (inO s18 s17).bind fun x28 => (setO s18 s17 x23).bind fun x29 => (inO x29 (IntKind.wrap .i64 (s17 + (1 : Int)))).bind fun x31 => (setO x29 (IntKind.wrap .i64 (s17 + (1 : Int))) x26).bind fun x32 => some (.next ((IntKind.wrap .i64 (s17 + (1 : Int))), x32))) else ((some s18).bind fun z33 => some (.stop z33))
noncomputable def cf (d0 : (List aa)) (a2 : Int) : (Int × Int) → Option (Step1 (Int × Int) (Int)) := fun (s37, s38) =>
  if (decide (s37 < s38)) = true then ((inO d0 a2).bind fun x43 => (getO d0 a2).bind fun x44 => (inO d0 (IntKind.wrap .i64 (shrI .u64 (IntKind.wrap .u64 (IntKind.wrap .i64 (s37 + s38))) (1 : Int)))).bind fun x46 => (getO d0 (IntKind.wrap .i64 (shrI .u64 (IntKind.wrap .u64 (IntKind.wrap .i64 (s37 + s38))) (1 : Int)))).bind fun x47 => (aY x44 x47).bind fun x48 => if (!(decide (x48 < (0 : Int)))) = true then (some (.next ((IntKind.wrap .i64 ((IntKind.wrap .i64 (shrI .u64 (IntKind.wrap .u64 (IntKind.wrap .i64 (s37 + s38))) (1 : Int))) + (1 : Int))), s38))) else (some (.next (s37, (IntKind.wrap .i64 (shrI .u64 (IntKind.wrap .u64 (IntKind.wrap .i64 (s37 + s38))) (1 : Int))))))) else (some (.stop s37))
noncomputable def cg (o51 : Int) : (Int × (List aa)) → Option (Step1 (Int × (List aa)) ((List aa))) := fun (s52, s53) =>
  if (decide (s52 > o51)) = true then ((inO s53 (IntKind.wrap .i64 (s52 - (1 : Int)))).bind fun x57 => (getO s53 (IntKind.wrap .i64 (s52 - (1 : Int)))).bind fun x58 => (inO s53 s52).bind fun x60 => (getO s53 s52).bind fun x61 => (inO s53 s52).bind fun x63 => (setO s53 s52 x58).bind fun x64 => (inO x64 (IntKind.wrap .i64 (s52 - (1 : Int)))).bind fun x66 => (setO x64 (IntKind.wrap .i64 (s52 - (1 : Int))) x61).bind fun x67 => some (.next ((IntKind.wrap .i64 (s52 - (1 : Int))), x67))) else ((some s53).bind fun z68 => some (.stop z68))
noncomputable def ch (d0 : (List aa)) (a1 : Int) (a3 : Int) (a2 : Int) : (Int × Int) → Option (Step1 (Int × Int) (Int)) := fun (s73, s74) =>
  if (decide (s73 < s74)) = true then ((inO d0 (IntKind.wrap .i64 ((IntKind.wrap .i64 ((IntKind.wrap .i64 ((IntKind.wrap .i64 (shrI .u64 (IntKind.wrap .u64 (IntKind.wrap .i64 (a1 + a3))) (1 : Int))) + a2)) - (1 : Int))) - (IntKind.wrap .i64 (shrI .u64 (IntKind.wrap .u64 (IntKind.wrap .i64 (s73 + s74))) (1 : Int)))))).bind fun x79 => (getO d0 (IntKind.wrap .i64 ((IntKind.wrap .i64 ((IntKind.wrap .i64 ((IntKind.wrap .i64 (shrI .u64 (IntKind.wrap .u64 (IntKind.wrap .i64 (a1 + a3))) (1 : Int))) + a2)) - (1 : Int))) - (IntKind.wrap .i64 (shrI .u64 (IntKind.wrap .u64 (IntKind.wrap .i64 (s73 + s74))) (1 : Int)))))).bind fun x80 => (inO d0 (IntKind.wrap .i64 (shrI .u64 (IntKind.wrap .u64 (IntKind.wrap .i64 (s73 + s74))) (1 : Int)))).bind fun x82 => (getO d0 (IntKind.wrap .i64 (shrI .u64 (IntKind.wrap .u64 (IntKind.wrap .i64 (s73 + s74))) (1 : Int)))).bind fun x83 => (aY x80 x83).bind fun x84 => if (!(decide (x84 < (0 : Int)))) = true then (some (.next ((IntKind.wrap .i64 ((IntKind.wrap .i64 (shrI .u64 (IntKind.wrap .u64 (IntKind.wrap .i64 (s73 + s74))) (1 : Int))) + (1 : Int))), s74))) else (some (.next (s73, (IntKind.wrap .i64 (shrI .u64 (IntKind.wrap .u64 (IntKind.wrap .i64 (s73 + s74))) (1 : Int))))))) else (some (.stop s73))
noncomputable def aH (a1 : Int) (a3 : Int) (a2 : Int) (o87 : Int) (rc : Int → Int → Int → (List aa) → Option ((List aa))) (j89 : (List aa)) : Option ((List aa)) :=
  if (decide ((IntKind.wrap .i64 (shrI .u64 (IntKind.wrap .u64 (IntKind.wrap .i64 (a1 + a3))) (1 : Int))) < (IntKind.wrap .i64 ((IntKind.wrap .i64 ((IntKind.wrap .i64 (shrI .u64 (IntKind.wrap .u64 (IntKind.wrap .i64 (a1 + a3))) (1 : Int))) + a2)) - o87)))) = true then (if (decide ((IntKind.wrap .i64 ((IntKind.wrap .i64 ((IntKind.wrap .i64 (shrI .u64 (IntKind.wrap .u64 (IntKind.wrap .i64 (a1 + a3))) (1 : Int))) + a2)) - o87)) < a3)) = true then ((rc (IntKind.wrap .i64 (shrI .u64 (IntKind.wrap .u64 (IntKind.wrap .i64 (a1 + a3))) (1 : Int))) (IntKind.wrap .i64 ((IntKind.wrap .i64 ((IntKind.wrap .i64 (shrI .u64 (IntKind.wrap .u64 (IntKind.wrap .i64 (a1 + a3))) (1 : Int))) + a2)) - o87)) a3 j89).bind fun x92 => some x92) else (some j89)) else (some j89)
noncomputable def aI (a1 : Int) (o87 : Int) (a3 : Int) (rc : Int → Int → Int → (List aa) → Option ((List aa))) (a2 : Int) (j88 : (List aa)) : Option ((List aa)) :=
  if (decide (a1 < o87)) = true then (if (decide (o87 < (IntKind.wrap .i64 (shrI .u64 (IntKind.wrap .u64 (IntKind.wrap .i64 (a1 + a3))) (1 : Int))))) = true then ((rc a1 o87 (IntKind.wrap .i64 (shrI .u64 (IntKind.wrap .u64 (IntKind.wrap .i64 (a1 + a3))) (1 : Int))) j88).bind fun x96 => aH a1 a3 a2 o87 rc x96) else (aH a1 a3 a2 o87 rc j88)) else (aH a1 a3 a2 o87 rc j88)
noncomputable def aJ (d0 : (List aa)) (a1 : Int) (a3 : Int) (a2 : Int) (rc : Int → Int → Int → (List aa) → Option ((List aa))) (j71 : Int) (j72 : Int) : Option ((List aa)) :=
  (loopO (ch d0 a1 a3 a2) (j71, j72)).bind fun o87 => if (decide (o87 < a2)) = true then (if (decide (a2 < (IntKind.wrap .i64 ((IntKind.wrap .i64 ((IntKind.wrap .i64 (shrI .u64 (IntKind.wrap .u64 (IntKind.wrap .i64 (a1 + a3))) (1 : Int))) + a2)) - o87)))) = true then ((bU o87 a2 (IntKind.wrap .i64 ((IntKind.wrap .i64 ((IntKind.wrap .i64 (shrI .u64 (IntKind.wrap .u64 (IntKind.wrap .i64 (a1 + a3))) (1 : Int))) + a2)) - o87)) d0).bind fun x100 => aI a1 o87 a3 rc a2 x100) else (aI a1 o87 a3 rc a2 d0)) else (aI a1 o87 a3 rc a2 d0)
noncomputable def aB : Nat → Int → Int → Int → (List aa) → Option ((List aa))
  | 0, _, _, _, _ => none
  | nfu + 1, a1, a2, a3, d0 =>
  if ((IntKind.wrap .i64 (a2 - a1)) == (1 : Int)) = true then ((loopO (cd d0 a1) (a2, a3)).bind fun o16 => (loopO (ce o16) (a1, d0)).bind fun o35 => some o35) else (if ((IntKind.wrap .i64 (a3 - a2)) == (1 : Int)) = true then ((loopO (cf d0 a2) (a1, a2)).bind fun o51 => (loopO (cg o51) (a2, d0)).bind fun o70 => some o70) else (if (decide (a2 > (IntKind.wrap .i64 (shrI .u64 (IntKind.wrap .u64 (IntKind.wrap .i64 (a1 + a3))) (1 : Int))))) = true then (aJ d0 a1 a3 a2 (aB nfu) (IntKind.wrap .i64 ((IntKind.wrap .i64 ((IntKind.wrap .i64 (shrI .u64 (IntKind.wrap .u64 (IntKind.wrap .i64 (a1 + a3))) (1 : Int))) + a2)) - a3)) (IntKind.wrap .i64 (shrI .u64 (IntKind.wrap .u64 (IntKind.wrap .i64 (a1 + a3))) (1 : Int)))) else (aJ d0 a1 a3 a2 (aB nfu) a1 a2)))
noncomputable def bH (a1 : Int) (a2 : Int) (a3 : Int) (d0 : (List aa)) : Option ((List aa)) := recO fun n => aB n a1 a2 a3 d0
noncomputable def aL (a1 : Int) : (Int × Int × (List aa)) → Option (Step1 (Int × Int × (List aa)) (Int × (List aa))) := fun (s1, s2, s3) =>
  if (decide (s2 ≤ a1)) = true then ((aD s1 s2 s3).bind fun x8 => some (.next (s2, (IntKind.wrap .i64 (s2 + (20 : Int))), x8))) else (some (.stop (s1, s3)))
noncomputable def cp (a1 : Int) (s12 : Int) : (Int × Int × (List aa)) → Option (Step1 (Int × Int × (List aa)) (Int × Int × (List aa))) := fun (s16, s17, s18) =>
  if (decide (s17 ≤ a1)) = true then ((bH s16 (IntKind.wrap .i64 (s16 + s12)) s17 s18).bind fun x24 => some (.next (s17, (IntKind.wrap .i64 (s17 + (IntKind.wrap .i64 ((2 : Int) * s12)))), x24))) else (some (.stop (s12, s16, s18)))
noncomputable def bd (a1 : Int) : (Int × (List aa)) → Option (Step1 (Int × (List aa)) ((List aa))) := fun (s12, s13) =>
  if (decide (s12 < a1)) = true then ((loopO (cp a1 s12) ((0 : Int), (IntKind.wrap .i64 ((2 : Int) * s12)), s13)).bind fun o26 => if (decide ((IntKind.wrap .i64 (o26.2.1 + o26.1)) < a1)) = true then ((bH o26.2.1 (IntKind.wrap .i64 (o26.2.1 + o26.1)) a1 o26.2.2).bind fun x28 => some (.next ((IntKind.wrap .i64 (o26.1 * (2 : Int))), x28))) else (some (.next ((IntKind.wrap .i64 (o26.1 * (2 : Int))), o26.2.2)))) else ((some s13).bind fun z29 => some (.stop z29))
noncomputable def bq (a1 : Int) (d0 : (List aa)) : Option ((List aa)) :=
  (loopO (aL a1) ((0 : Int), (20 : Int), d0)).bind fun o10 => (aD o10.1 a1 o10.2).bind fun x11 => (loopO (bd a1) ((20 : Int), x11)).bind fun o31 => some o31
noncomputable def aS (d0 : (List aa)) : Option ((List aa)) :=
  (bq (d0.length : Int) d0).bind fun x1 => some x1
noncomputable def bS (x2 : (List aa)) (a0 : Int) : (Int × (List (List aa))) → Option (Step1 (Int × (List (List aa))) ((List (List aa)))) := fun (s3, s4) =>
  if (decide (s3 < (x2.length : Int))) = true then ((inO x2 s3).bind fun x9 => (getO x2 s3).bind fun x10 => if (s3 == (0 : Int)) = true then ((appO s4 [[]] 24).bind fun x12 => (lastO x12).bind fun x13 => (inO x12 (IntKind.wrap .i64 ((x12.length : Int) - (1 : Int)))).bind fun x14 => (atO (IntKind.wrap .i64 ((x12.length : Int) - (1 : Int))) (x12.length - 1)).bind fun x15 => (appO x13 [x10] 104).bind fun x16 => (inO x12 (IntKind.wrap .i64 ((x12.length : Int) - (1 : Int)))).bind fun x17 => (stO x12.length (IntKind.wrap .i64 ((x12.length : Int) - (1 : Int))) (x12.length - 1)).bind fun x18 => some (.next ((IntKind.wrap .i64 (s3 + (1 : Int))), (x12.set (x12.length - 1) x16)))) else ((inO x2 (IntKind.wrap .i64 (s3 - (1 : Int)))).bind fun x20 => (getO x2 (IntKind.wrap .i64 (s3 - (1 : Int)))).bind fun x21 => if (decide ((IntKind.wrap .i64 (x10.aA - x21.aA)) > a0)) = true then ((appO s4 [[]] 24).bind fun x23 => (lastO x23).bind fun x24 => (inO x23 (IntKind.wrap .i64 ((x23.length : Int) - (1 : Int)))).bind fun x25 => (atO (IntKind.wrap .i64 ((x23.length : Int) - (1 : Int))) (x23.length - 1)).bind fun x26 => (appO x24 [x10] 104).bind fun x27 => (inO x23 (IntKind.wrap .i64 ((x23.length : Int) - (1 : Int)))).bind fun x28 => (stO x23.length (IntKind.wrap .i64 ((x23.length : Int) - (1 : Int))) (x23.length - 1)).bind fun x29 => some (.next ((IntKind.wrap .i64 (s3 + (1 : Int))), (x23.set (x23.length - 1) x27)))) else ((lastO s4).bind fun x30 => (inO s4 (IntKind.wrap .i64 ((s4.length : Int) - (1 : Int)))).bind fun x31 => (atO (IntKind.wrap .i64 ((s4.length : Int) - (1 : Int))) (s4.length - 1)).bind fun x32 => (appO x30 [x10] 104).bind fun x33 => (inO s4 (IntKind.wrap .i64 ((s4.length : Int) - (1 : Int)))).bind fun x34 => (stO s4.length (IntKind.wrap .i64 ((s4.length : Int) - (1 : Int))) (s4.length - 1)).bind fun x35 => some (.next ((IntKind.wrap .i64 (s3 + (1 : Int))), (s4.set (s4.length - 1) x33)))))) else (some (.stop s4))
noncomputable def bA (o37 : (List (List aa))) : (Int × (List (List aa))) → Option (Step1 (Int × (List (List aa))) ((List (List aa)))) := fun (s38, s39) =>
  if (decide (s38 < (o37.length : Int))) = true then ((getO s39 s38).bind fun x43 => (inO s39 s38).bind fun x44 => (atO s38 (Int.toNat s38)).bind fun x45 => (sortO aN x43).bind fun x46 => some (.next ((IntKind.wrap .i64 (s38 + (1 : Int))), (s39.set (Int.toNat s38) x46)))) else (some (.stop s39))
noncomputable def cV (a0 : Int) (a1 : (List aa)) : Option ((List (List aa))) :=
  (dX a1).bind fun x1 => (aS x1).bind fun x2 => (loopO (bS x2 a0) ((0 : Int), ([] : (List (List aa))))).bind fun o37 => (loopO (bA o37) ((0 : Int), o37)).bind fun o48 => some o48
noncomputable def cn (a0 : Int) (a1 : (List aa)) : Option ((List (List aa)) × Int) :=
  if (decide (a0 < (0 : Int))) = true then (some (([] : (List (List aa))), (2 : Int))) else (if (decide (a0 > (1099511627776 : Int))) = true then (some (([] : (List (List aa))), (2 : Int))) else ((cW a1).bind fun x3 => if (!x3) = true then (some (([] : (List (List aa))), (1 : Int))) else ((cV a0 a1).bind fun x5 => some (x5, (0 : Int)))))
noncomputable def c7 (a0 : (List UInt8)) (a1 : (List UInt8)) : Option (Int) :=
  if (Op.bytesLess a0 a1) = true then (some (-1 : Int)) else (if (!(Op.bytesLess a0 a1 || a0 == a1)) = true then (some (1 : Int)) else (some (0 : Int)))
noncomputable def ej (a0 : ae) (a1 : ae) : Option (Int) :=
  (c7 a0.aj a1.aj).bind fun x1 => (c7 a0.ak a1.ak).bind fun x2 => (c7 a0.ai a1.ai).bind fun x3 => (c7 a0.ap a1.ap).bind fun x4 => if (x1 != (0 : Int)) = true then (some x1) else (if (x2 != (0 : Int)) = true then (some x2) else (if (x3 != (0 : Int)) = true then (some x3) else (if (x4 != (0 : Int)) = true then (some x4) else (some (0 : Int)))))
noncomputable def ek (a0 : aa) (a1 : aa) : Option (Int) :=
  (ej a0.ah a1.ah).bind fun x1 => if (x1 != (0 : Int)) = true then (some x1) else (if (decide (a0.aP < a1.aP)) = true then (some (-1 : Int)) else (if (decide (a0.aP > a1.aP)) = true then (some (1 : Int)) else (if (decide (a0.aA < a1.aA)) = true then (some (-1 : Int)) else (if (decide (a0.aA > a1.aA)) = true then (some (1 : Int)) else (if (decide (a0.aU < a1.aU)) = true then (some (-1 : Int)) else (if (decide (a0.aU > a1.aU)) = true then (some (1 : Int)) else (if (decide (a0.aq < a1.aq)) = true then (some (-1 : Int)) else (if (decide (a0.aq > a1.aq)) = true then (some (1 : Int)) else (if (decide (a0.aw < a1.aw)) = true then (some (-1 : Int)) else (if (decide (a0.aw > a1.aw)) = true then (some (1 : Int)) else (some (0 : Int))))))))))))
noncomputable def dS (s2 : (List aa)) (a0 : (List aa)) (s1 : Int) : Int → Option (Step1 (Int) (Int × Int × (List aa))) := fun s6 =>
  if (decide (s6 > (0 : Int))) = true then ((inO s2 (IntKind.wrap .i64 (s6 - (1 : Int)))).bind fun x13 => (getO s2 (IntKind.wrap .i64 (s6 - (1 : Int)))).bind fun x14 => (getO a0 s1).bind fun x15 => (ek x14 x15).bind fun x16 => if (decide (x16 > (0 : Int))) = true then (some (.next (IntKind.wrap .i64 (s6 - (1 : Int))))) else (some (.stop (s1, s6, s2)))) else (some (.stop (s1, s6, s2)))
noncomputable def db (a0 : (List aa)) (o19 : Int × Int × (List aa)) : Option (Step1 (Int × (List aa)) ((List aa))) :=
  (getO a0 o19.1).bind fun x20 => (appO o19.2.2 [x20] 104).bind fun x21 => (subO x21.length (IntKind.wrap .i64 (o19.2.1 + (1 : Int))) (x21.length : Int)).bind fun x22 => (subO x21.length o19.2.1 (x21.length : Int)).bind fun x23 => (viewO x21.length (0 + ((IntKind.wrap .i64 (o19.2.1 + (1 : Int))) : Int).toNat) (0 + ((x21.length : Int) : Int).toNat)).bind fun x24 => (partO x21 (0 + (o19.2.1 : Int).toNat) (0 + ((x21.length : Int) : Int).toNat)).bind fun x25 => (getO a0 o19.1).bind fun x27 => (inO (copyL x21 (0 + ((IntKind.wrap .i64 (o19.2.1 + (1 : Int))) : Int).toNat) ((0 + ((x21.length : Int) : Int).toNat) - (0 + ((IntKind.wrap .i64 (o19.2.1 + (1 : Int))) : Int).toNat)) x25) o19.2.1).bind fun x29 => (setO (copyL x21 (0 + ((IntKind.wrap .i64 (o19.2.1 + (1 : Int))) : Int).toNat) ((0 + ((x21.length : Int) : Int).toNat) - (0 + ((IntKind.wrap .i64 (o19.2.1 + (1 : Int))) : Int).toNat)) x25) o19.2.1 x27).bind fun x30 => some (.next ((IntKind.wrap .i64 (o19.1 + (1 : Int))), x30))
noncomputable def eE (a0 : (List aa)) : (Int × (List aa)) → Option (Step1 (Int × (List aa)) ((List aa))) := fun (s1, s2) =>
  if (decide (s1 < (a0.length : Int))) = true then ((loopO (dS s2 a0 s1) (s2.length : Int)).bind fun o19 => if (decide (o19.2.1 > (0 : Int))) = true then ((inO o19.2.2 (IntKind.wrap .i64 (o19.2.1 - (1 : Int)))).bind fun x34 => (getO o19.2.2 (IntKind.wrap .i64 (o19.2.1 - (1 : Int)))).bind fun x35 => (getO a0 o19.1).bind fun x36 => if (((x35.ah.aj == x36.ah.aj) && ((x35.ah.ak == x36.ah.ak) && ((x35.ah.ai == x36.ah.ai) && ((x35.ah.ap == x36.ah.ap) && true)))) && ((x35.aP == x36.aP) && ((x35.aA == x36.aA) && ((x35.aU == x36.aU) && ((x35.aq == x36.aq) && ((x35.aw == x36.aw) && true)))))) = true then (some (.next ((IntKind.wrap .i64 (o19.1 + (1 : Int))), o19.2.2))) else (db a0 o19)) else (db a0 o19)) else (some (.stop s2))
noncomputable def eb (a0 : (List aa)) : Option ((List aa)) :=
  (loopO (eE a0) ((0 : Int), ([] : (List aa)))).bind fun o39 => some o39
noncomputable def dD (a0 : (List aa)) (a1 : (List aa)) : Int → Option (Step1 (Int) ((Unit) ⊕ (Bool))) := fun s2 =>
  if (decide (s2 < (a0.length : Int))) = true then ((getO a0 s2).bind fun x5 => (getO a1 s2).bind fun x6 => if (!(((x5.ah.aj == x6.ah.aj) && ((x5.ah.ak == x6.ah.ak) && ((x5.ah.ai == x6.ah.ai) && ((x5.ah.ap == x6.ah.ap) && true)))) && ((x5.aP == x6.aP) && ((x5.aA == x6.aA) && ((x5.aU == x6.aU) && ((x5.aq == x6.aq) && ((x5.aw == x6.aw) && true))))))) = true then (some (.stop (.inr false))) else (some (.next (IntKind.wrap .i64 (s2 + (1 : Int)))))) else (some (.stop (.inl ())))
noncomputable def dL (a0 : (List aa)) (a1 : (List aa)) : Option (Bool) :=
  if ((a0.length : Int) != (a1.length : Int)) = true then (some false) else ((loopO (dD a0 a1) (0 : Int)).bind fun o9 => match o9 with | .inl y10 => (some true) | .inr r11 => (some r11))
noncomputable def cX (a0 : Int) : Option (aa) :=
  (da (0 : Int)).bind fun x1 => some (aa.mk x1 a0 a0 a0 0 0)
noncomputable def dv (s2 : Int) (d0 : (List ae)) : (Int × Int × (List ae)) → Option (Step1 (Int × Int × (List ae)) (Int × (List ae))) := fun (s13, s14, s15) =>
  (lenV s15.length (0 + (s2 : Int).toNat) (0 + ((d0.length : Int) : Int).toNat)).bind fun x19 => if (decide (s14 < x19)) = true then ((inV s15.length (0 + (s2 : Int).toNat) (0 + ((d0.length : Int) : Int).toNat) s14).bind fun x21 => (getO s15 (((0 + (s2 : Int).toNat) + (s14 : Int).toNat : Nat) : Int)).bind fun x22 => (inV s15.length (0 + (s2 : Int).toNat) (0 + ((d0.length : Int) : Int).toNat) (IntKind.wrap .i64 (s14 - (1 : Int)))).bind fun x23 => (getO s15 (((0 + (s2 : Int).toNat) + ((IntKind.wrap .i64 (s14 - (1 : Int))) : Int).toNat : Nat) : Int)).bind fun x24 => if (!((x22.aj == x24.aj) && ((x22.ak == x24.ak) && ((x22.ai == x24.ai) && ((x22.ap == x24.ap) && true))))) = true then ((inV s15.length (0 + (s2 : Int).toNat) (0 + ((d0.length : Int) : Int).toNat) s14).bind fun x26 => (getO s15 (((0 + (s2 : Int).toNat) + (s14 : Int).toNat : Nat) : Int)).bind fun x27 => (inO s15 s13).bind fun x29 => (setO s15 s13 x27).bind fun x30 => some (.next ((IntKind.wrap .i64 (s13 + (1 : Int))), (IntKind.wrap .i64 (s14 + (1 : Int))), x30))) else (some (.next (s13, (IntKind.wrap .i64 (s14 + (1 : Int))), s15)))) else (some (.stop (s13, s15)))
noncomputable def dw (d0 : (List ae)) : Int → Option (Step1 (Int) ((Unit) ⊕ ((List ae)))) := fun s2 =>
  if (decide (s2 < (d0.length : Int))) = true then ((inO d0 s2).bind fun x6 => (getO d0 s2).bind fun x7 => (inO d0 (IntKind.wrap .i64 (s2 - (1 : Int)))).bind fun x9 => (getO d0 (IntKind.wrap .i64 (s2 - (1 : Int)))).bind fun x10 => if ((x7.aj == x10.aj) && ((x7.ak == x10.ak) && ((x7.ai == x10.ai) && ((x7.ap == x10.ap) && true)))) = true then ((subO d0.length s2 (d0.length : Int)).bind fun x12 => (loopO (dv s2 d0) (s2, (1 : Int), d0)).bind fun o32 => (subO o32.2.length o32.1 (o32.2.length : Int)).bind fun x33 => (viewO o32.2.length (0 + (o32.1 : Int).toNat) (0 + ((o32.2.length : Int) : Int).toNat)).bind fun x34 => (subO (clearL o32.2 (0 + (o32.1 : Int).toNat) ((0 + ((o32.2.length : Int) : Int).toNat) - (0 + (o32.1 : Int).toNat)) (ae.mk [] [] [] [])).length (0 : Int) o32.1).bind fun x36 => (partO (clearL o32.2 (0 + (o32.1 : Int).toNat) ((0 + ((o32.2.length : Int) : Int).toNat) - (0 + (o32.1 : Int).toNat)) (ae.mk [] [] [] [])) (0 + (0 : Int).toNat) (0 + (o32.1 : Int).toNat)).bind fun x37 => some (.stop (.inr x37))) else (some (.next (IntKind.wrap .i64 (s2 + (1 : Int)))))) else (some (.stop (.inl ())))
noncomputable def cx (d0 : (List ae)) : Option ((List ae)) :=
  if (decide ((d0.length : Int) < (2 : Int))) = true then (some d0) else ((loopO (dw d0) (1 : Int)).bind fun o39 => match o39 with | .inl y40 => (some d0) | .inr r41 => (some r41))
noncomputable def hJ (a0 : (List ae)) : Option ((List ae)) :=
  (cloneO 64 a0).bind fun x1 => (sortO bi x1).bind fun x2 => (cx x2).bind fun x3 => some x3
noncomputable def iN (a0 : ag) : Option (Bool) :=
  some (decide (a0.ck < a0.fTo))
noncomputable def dW (a0 : ag) : Option (Bool) :=
  (iN a0).bind fun x1 => some (!x1)
noncomputable def df (d0 : (List ag)) : Int → Option (Step1 (Int) ((Unit) ⊕ (Int × (List ag)))) := fun s1 =>
  if (decide (s1 < (d0.length : Int))) = true then ((inO d0 s1).bind fun x5 => (getO d0 s1).bind fun x6 => (dW x6).bind fun x7 => if x7 = true then (some (.stop (.inr (s1, d0)))) else (some (.next (IntKind.wrap .i64 (s1 + (1 : Int)))))) else (some (.stop (.inl ())))
noncomputable def cB (d0 : (List ag)) : Option (Int × (List ag)) :=
  (loopO (df d0) (0 : Int)).bind fun o10 => match o10 with | .inl y11 => (some ((-1 : Int), d0)) | .inr r12 => (some r12)
noncomputable def cL  : (Int × Int × (List ag)) → Option (Step1 (Int × Int × (List ag)) (Int × (List ag))) := fun (s3, s4, s5) =>
  if (decide (s4 < (s5.length : Int))) = true then ((inO s5 s4).bind fun x11 => (getO s5 s4).bind fun x12 => (dW x12).bind fun x13 => if (!x13) = true then ((inO s5 s3).bind fun x16 => (setO s5 s3 x12).bind fun x17 => some (.next ((IntKind.wrap .i64 (s3 + (1 : Int))), (IntKind.wrap .i64 (s4 + (1 : Int))), x17))) else (some (.next (s3, (IntKind.wrap .i64 (s4 + (1 : Int))), s5)))) else (some (.stop (s3, s5)))
noncomputable def bG (d0 : (List ag)) : Option ((List ag)) :=
  (cB d0).bind fun x1 => if (x1.1 == (-1 : Int)) = true then (some x1.2) else ((loopO (cL) (x1.1, (IntKind.wrap .i64 (x1.1 + (1 : Int))), x1.2)).bind fun o19 => (subO o19.2.length o19.1 (o19.2.length : Int)).bind fun x20 => (viewO o19.2.length (0 + (o19.1 : Int).toNat) (0 + ((o19.2.length : Int) : Int).toNat)).bind fun x21 => (subO (clearL o19.2 (0 + (o19.1 : Int).toNat) ((0 + ((o19.2.length : Int) : Int).toNat) - (0 + (o19.1 : Int).toNat)) (ag.mk 0 0)).length (0 : Int) o19.1).bind fun x23 => some ((clearL o19.2 (0 + (o19.1 : Int).toNat) ((0 + ((o19.2.length : Int) : Int).toNat) - (0 + (o19.1 : Int).toNat)) (ag.mk 0 0)).take (o19.1 : Int).toNat))
noncomputable def ba (a0 : ag) (a1 : ag) : Option (Int) :=
  (bh a0.ck a1.ck).bind fun x1 => some x1
noncomputable def fd (x3 : (List ag)) : (Int × (List ag)) → Option (Step1 (Int × (List ag)) ((List ag))) := fun (s4, s5) =>
  if (decide (s4 < (x3.length : Int))) = true then ((inO x3 s4).bind fun x10 => (getO x3 s4).bind fun x11 => if (decide ((s5.length : Int) > (0 : Int))) = true then ((inO s5 (IntKind.wrap .i64 ((s5.length : Int) - (1 : Int)))).bind fun x14 => (getO s5 (IntKind.wrap .i64 ((s5.length : Int) - (1 : Int)))).bind fun x15 => if (decide (x11.ck ≤ x15.fTo)) = true then ((inO s5 (IntKind.wrap .i64 ((s5.length : Int) - (1 : Int)))).bind fun x18 => (getO s5 (IntKind.wrap .i64 ((s5.length : Int) - (1 : Int)))).bind fun x19 => (inO s5 (IntKind.wrap .i64 ((s5.length : Int) - (1 : Int)))).bind fun x21 => (modO s5 (IntKind.wrap .i64 ((s5.length : Int) - (1 : Int))) (fun (z23 : ag) => (ag.mk z23.ck (if x11.fTo > x19.fTo then x11.fTo else x19.fTo)))).bind fun x22 => some (.next ((IntKind.wrap .i64 (s4 + (1 : Int))), x22))) else ((appO s5 [x11] 16).bind fun x24 => some (.next ((IntKind.wrap .i64 (s4 + (1 : Int))), x24)))) else ((appO s5 [x11] 16).bind fun x25 => some (.next ((IntKind.wrap .i64 (s4 + (1 : Int))), x25)))) else (some (.stop s5))
noncomputable def gf (a0 : (List ag)) : Option ((List ag)) :=
  (cloneO 16 a0).bind fun x1 => (bG x1).bind fun x2 => (sortO ba x2).bind fun x3 => (loopO (fd x3) ((0 : Int), ([] : (List ag)))).bind fun o27 => some o27
noncomputable def dn (a0 : (List aa)) : (Int × (List (ae × (List ag))) × (List ae)) → Option (Step1 (Int × (List (ae × (List ag))) × (List ae)) ((List (ae × (List ag))) × (List ae))) := fun (s1, s2, s3) =>
  if (decide (s1 < (a0.length : Int))) = true then ((getO a0 s1).bind fun x8 => (cY x8).bind fun x9 => if (!x9) = true then (some (.next ((IntKind.wrap .i64 (s1 + (1 : Int))), s2, s3))) else ((appO s3 [x8.ah] 64).bind fun x11 => (appO (mGet iW x8.ah [] s2) [(ag.mk x8.aP (IntKind.wrap .i64 (x8.aP + (1 : Int))))] 16).bind fun x12 => some (.next ((IntKind.wrap .i64 (s1 + (1 : Int))), (mPut iW x8.ah x12 s2), x11)))) else (some (.stop (s2, s3)))
noncomputable def dp (x15 : (List ae)) (o14 : (List (ae × (List ag))) × (List ae)) : (Int × (List ar)) → Option (Step1 (Int × (List ar)) ((List ar))) := fun (s17, s18) =>
  if (decide (s17 < (x15.length : Int))) = true then ((getO x15 s17).bind fun x22 => (gf (mGet iW x22 ([] : (List ag)) o14.1)).bind fun x23 => (appO s18 [(ar.mk x22 x23)] 88).bind fun x24 => some (.next ((IntKind.wrap .i64 (s17 + (1 : Int))), x24))) else (some (.stop s18))
noncomputable def d9 (a0 : (List aa)) : Option ((List ar)) :=
  (loopO (dn a0) ((0 : Int), ([] : List (ae × (List ag))), ([] : (List ae)))).bind fun o14 => (hJ o14.2).bind fun x15 => (loopO (dp x15 o14) ((0 : Int), ([] : (List ar)))).bind fun o26 => some o26
noncomputable def ec (a0 : (List ar)) (s2 : Int) (a1 : (List ar)) : Int → Option (Step1 (Int) ((Int) ⊕ (Bool))) := fun s11 =>
  (getO a0 s2).bind fun x14 => if (decide (s11 < (x14.dC.length : Int))) = true then ((getO a0 s2).bind fun x16 => (getO x16.dC s11).bind fun x17 => (getO a1 s2).bind fun x18 => (getO x18.dC s11).bind fun x19 => if (!((x17.ck == x19.ck) && ((x17.fTo == x19.fTo) && true))) = true then (some (.stop (.inr false))) else (some (.next (IntKind.wrap .i64 (s11 + (1 : Int)))))) else (some (.stop (.inl s2)))
noncomputable def ed (a0 : (List ar)) (a1 : (List ar)) : Int → Option (Step1 (Int) ((Unit) ⊕ (Bool))) := fun s2 =>
  if (decide (s2 < (a0.length : Int))) = true then ((getO a0 s2).bind fun x5 => (getO a1 s2).bind fun x6 => if (!((x5.ah.aj == x6.ah.aj) && ((x5.ah.ak == x6.ah.ak) && ((x5.ah.ai == x6.ah.ai) && ((x5.ah.ap == x6.ah.ap) && true))))) = true then (some (.stop (.inr false))) else ((getO a0 s2).bind fun x8 => (getO a1 s2).bind fun x9 => if ((x8.dC.length : Int) != (x9.dC.length : Int)) = true then (some (.stop (.inr false))) else ((loopO (ec a0 s2 a1) (0 : Int)).bind fun o22 => match o22 with | .inl y23 => (some (.next (IntKind.wrap .i64 (y23 + (1 : Int))))) | .inr r24 => (some (.stop (.inr r24)))))) else (some (.stop (.inl ())))
noncomputable def cZ (a0 : (List ar)) (a1 : (List ar)) : Option (Bool) :=
  if ((a0.length : Int) != (a1.length : Int)) = true then (some false) else ((loopO (ed a0 a1) (0 : Int)).bind fun o26 => match o26 with | .inl y27 => (some true) | .inr r28 => (some r28))
noncomputable def gZ  : Option (Bool) :=
  (cX (16 : Int)).bind fun x1 => (cX (0 : Int)).bind fun x2 => (cX (40 : Int)).bind fun x3 => (cX (8 : Int)).bind fun x4 => (cn (10 : Int) [x1, x2, x3, x4]).bind fun x5 => (cX (4 : Int)).bind fun x6 => (cX (5 : Int)).bind fun x7 => (cX (9 : Int)).bind fun x8 => (d9 [x6, x7, x8]).bind fun x9 => if (x5.2 == (0 : Int)) = true then (if ((x5.1.length : Int) == (2 : Int)) = true then ((getO x5.1 (0 : Int)).bind fun x12 => if ((x12.length : Int) == (3 : Int)) = true then ((getO x5.1 (1 : Int)).bind fun x14 => (getO x14 (0 : Int)).bind fun x15 => (cX (40 : Int)).bind fun x16 => if (((x15.ah.aj == x16.ah.aj) && ((x15.ah.ak == x16.ah.ak) && ((x15.ah.ai == x16.ah.ai) && ((x15.ah.ap == x16.ah.ap) && true)))) && ((x15.aP == x16.aP) && ((x15.aA == x16.aA) && ((x15.aU == x16.aU) && ((x15.aq == x16.aq) && ((x15.aw == x16.aw) && true)))))) = true then ((da (0 : Int)).bind fun x18 => (cZ x9 [(ar.mk x18 [(ag.mk 4 6), (ag.mk 9 10)])]).bind fun x19 => some x19) else (some false)) else (some false)) else (some false)) else (some false)
noncomputable def bW (x37 : (List aa)) (x36 : aa) (x5 : Int × ac) (s25 : Int) (s26 : Int) (s27 : Int) (s28 : Int) (s29 : (List aa)) : Int → Option (Step1 (Int) ((Int × Int × Int × Int × (List aa)) ⊕ (Bool))) := fun s38 =>
  if (decide (s38 < (x37.length : Int))) = true then ((getO x37 s38).bind fun x46 => if (decide ((IntKind.wrap .i64 (x36.aA - x46.aA)) ≤ x5.1)) = true then (some (.stop (.inr false))) else (some (.next (IntKind.wrap .i64 (s38 + (1 : Int)))))) else (some (.stop (.inl (s25, s26, s27, s28, s29))))
noncomputable def bX (x24 : (List aa)) (x6 : (List (List aa)) × Int) (x5 : Int × ac) : (Int × Int × Int × Int × (List aa)) → Option (Step1 (Int × Int × Int × Int × (List aa)) ((Int × Int × Int × (List aa)) ⊕ (Bool))) := fun (s25, s26, s27, s28, s29) =>
  if (decide (s28 < (x24.length : Int))) = true then ((getO x24 s28).bind fun x36 => (getO x6.1 s26).bind fun x37 => (loopO (bW x37 x36 x5 s25 s26 s27 s28 s29) (0 : Int)).bind fun o49 => match o49 with | .inl y50 => (some (.next (y50.1, y50.2.1, y50.2.2.1, (IntKind.wrap .i64 (y50.2.2.2.1 + (1 : Int))), y50.2.2.2.2))) | .inr r51 => (some (.stop (.inr r51)))) else (some (.stop (.inl (s25, s26, s27, s29))))
noncomputable def bY (x6 : (List (List aa)) × Int) (x5 : Int × ac) : (Int × Int × Int × (List aa)) → Option (Step1 (Int × Int × Int × (List aa)) ((Int × Int × (List aa)) ⊕ (Bool))) := fun (s15, s16, s17, s18) =>
  if (decide (s16 < s15)) = true then ((getO x6.1 s15).bind fun x24 => (loopO (bX x24 x6 x5) (s15, s16, s17, (0 : Int), s18)).bind fun o53 => match o53 with | .inl y54 => (some (.next (y54.1, (IntKind.wrap .i64 (y54.2.1 + (1 : Int))), y54.2.2.1, y54.2.2.2))) | .inr r55 => (some (.stop (.inr r55)))) else (some (.stop (.inl (s15, s17, s18))))
noncomputable def bZ (x6 : (List (List aa)) × Int) (x5 : Int × ac) : (Int × (List aa)) → Option (Step1 (Int × (List aa)) (((List aa)) ⊕ (Bool))) := fun (s8, s9) =>
  if (decide (s8 < (x6.1.length : Int))) = true then ((getO x6.1 s8).bind fun x13 => if ((x13.length : Int) == (0 : Int)) = true then (some (.stop (.inr false))) else ((loopO (bY x6 x5) (s8, (0 : Int), s8, s9)).bind fun o57 => match o57 with | .inl y58 => ((getO x6.1 y58.1).bind fun x60 => (appO y58.2.2 x60 104).bind fun x61 => some (.next ((IntKind.wrap .i64 (y58.2.1 + (1 : Int))), x61))) | .inr r59 => (some (.stop (.inr r59))))) else (some (.stop (.inl s9)))
noncomputable def eo (a0 : (List Int)) : Option (Bool) :=
  (ic a0).bind fun x1 => (eJ (3 : Int) x1).bind fun x2 => (gC (6 : Int) x2.2).bind fun x3 => (gA x2.1 x3.1 (14 : Int) x3.2).bind fun x4 => (c9 [0, 10, 100, 400] x4.2).bind fun x5 => (cn x5.1 x4.1).bind fun x6 => if (x6.2 != (0 : Int)) = true then (some false) else ((loopO (bZ x6 x5) ((0 : Int), ([] : (List aa)))).bind fun o63 => match o63 with | .inl y64 => ((eb x4.1).bind fun x66 => if ((y64.length : Int) == (x66.length : Int)) = true then ((eb y64).bind fun x68 => (eb x4.1).bind fun x69 => (dL x68 x69).bind fun x70 => if x70 = true then ((gZ ).bind fun x72 => some x72) else (some false)) else (some false)) | .inr r65 => (some r65))
end Go.Dw.Da
