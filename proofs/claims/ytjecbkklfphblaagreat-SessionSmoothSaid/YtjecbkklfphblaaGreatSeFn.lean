
import Derived.Test.YtjecbkklfphblaaGreatDwLift4
import Derived.Test.YtjecbkklfphblaaGreatDwSortP



namespace Go.Dw.Se
open Go.Dw

structure ah where
  aG : Int
  aw : Int
  aC : (List (List UInt8))
  deriving DecidableEq
def ah.pd (x : ah) : PD := .agg [.int .i64 x.aG, .int .i64 x.aw, .lst (x.aC.map PD.str)]
structure aa where
  aA : Int
  fTo : Int
  deriving DecidableEq
def aa.pd (x : aa) : PD := .agg [.int .i64 x.aA, .int .i64 x.fTo]
structure ai where
  aK : (List aa)
  aF : (List aa)
  deriving DecidableEq
def ai.pd (x : ai) : PD := .agg [.lst (x.aK.map aa.pd), .lst (x.aF.map aa.pd)]
structure ac where
  fAt : Int
  aq : Int
  aC : (List UInt8)
  deriving DecidableEq
def ac.pd (x : ac) : PD := .agg [.int .i64 x.fAt, .int .i64 x.aq, .str x.aC]
structure ak where
  az : Int
  aq : Int
  av : (List ac)
  deriving DecidableEq
def ak.pd (x : ak) : PD := .agg [.int .i64 x.az, .int .i64 x.aq, .lst (x.av.map ac.pd)]
structure aj where
  jK : Int
  fAt : Int
  aC : (List UInt8)
  deriving DecidableEq
def aj.pd (x : aj) : PD := .agg [.int .i64 x.jK, .int .i64 x.fAt, .str x.aC]
structure ag where
  az : Int
  aD : Int
  aJ : Int
  ar : ah
  ap : ai
  aB : ak
  fUp : ak
  au : (List aj)
  deriving DecidableEq
def ag.pd (x : ag) : PD := .agg [.int .i64 x.az, .int .i64 x.aD, .int .i64 x.aJ, .int .i64 x.ar.aG, .int .i64 x.ar.aw, .lst (x.ar.aC.map PD.str), .lst (x.ap.aK.map aa.pd), .lst (x.ap.aF.map aa.pd), .int .i64 x.aB.az, .int .i64 x.aB.aq, .lst (x.aB.av.map ac.pd), .int .i64 x.fUp.az, .int .i64 x.fUp.aq, .lst (x.fUp.av.map ac.pd), .lst (x.au.map aj.pd)]
structure ae where
  kb : Bool
  co : Int
  cE : Int
  deriving DecidableEq
def ae.pd (x : ae) : PD := .agg [.bool x.kb, .int .i64 x.co, .int .i64 x.cE]
structure am where
  fL : (List Int)
  fAt : Int
  deriving DecidableEq
def am.pd (x : am) : PD := .agg [.lst (x.fL.map (PD.int .i64)), .int .i64 x.fAt]
structure cU where
  a0 : Int
  a1 : Int
  deriving DecidableEq
def cU.pd (x : cU) : PD := .agg [.int .i64 x.a0, .int .i64 x.a1]

noncomputable def ek (a0 : Int) (a1 : Int) (a2 : Int) : Option (Bool) :=
  if (decide (a0 ≥ a1)) = true then (some (decide (a0 ≤ a2))) else (some false)
noncomputable def iE (a0 : Int) : Option (ah × Int) :=
  (ek a0 (1 : Int) (256 : Int)).bind fun x1 => if (!x1) = true then (some ((ah.mk 0 0 []), (2 : Int))) else (some ((ah.mk a0 0 []), (0 : Int)))
noncomputable def bu (a0 : Int) (a1 : Int) (a2 : Int) : Option (Bool) :=
  if (decide (a0 ≥ a1)) = true then (some (decide (a0 ≤ a2))) else (some false)
noncomputable def im  : Option (ai) :=
  some (ai.mk [] [])
noncomputable def ku  : Option (ak) :=
  some (ak.mk 0 0 [])
noncomputable def dt (a0 : Int) (a1 : Int) : Option (ag × Int) :=
  (iE a0).bind fun x1 => if (x1.2 != (0 : Int)) = true then (some ((ag.mk 0 0 0 (ah.mk 0 0 []) (ai.mk [] []) (ak.mk 0 0 []) (ak.mk 0 0 []) []), (2 : Int))) else ((bu a1 (1 : Int) (4096 : Int)).bind fun x3 => if (!x3) = true then (some ((ag.mk 0 0 0 (ah.mk 0 0 []) (ai.mk [] []) (ak.mk 0 0 []) (ak.mk 0 0 []) []), (2 : Int))) else ((im ).bind fun x5 => (ku ).bind fun x6 => (ku ).bind fun x7 => some ((ag.mk 0 a1 0 x1.1 x5 x6 x7 []), (0 : Int))))
noncomputable def bf (a0 : ah) : Option (Int) :=
  some (IntKind.wrap .i64 (a0.aw + (a0.aC.length : Int)))
noncomputable def cJ (a0 : (List UInt8)) : Option (Bool) :=
  some (decide ((a0.length : Int) > (4064 : Int)))
noncomputable def aO (a0 : (List (List UInt8))) : Int → Option (Step1 (Int) ((Unit) ⊕ (Int))) := fun s1 =>
  if (decide (s1 < (a0.length : Int))) = true then ((getO a0 s1).bind fun x4 => (cJ x4).bind fun x5 => if x5 = true then (some (.stop (.inr s1))) else (some (.next (IntKind.wrap .i64 (s1 + (1 : Int)))))) else (some (.stop (.inl ())))
noncomputable def aS (a0 : (List (List UInt8))) : Option (Int) :=
  (loopO (aO a0) (0 : Int)).bind fun o8 => match o8 with | .inl _ => (some (-1 : Int)) | .inr r10 => (some r10)
noncomputable def aL (a0 : (List (List UInt8))) : Option (Bool) :=
  (aS a0).bind fun x1 => some (decide (x1 ≥ (0 : Int)))
noncomputable def bR (a0 : ah) : Option (Bool) :=
  (ek a0.aG (1 : Int) (256 : Int)).bind fun x1 => if (!x1) = true then (some false) else ((ek a0.aw (0 : Int) (1073741825 : Int)).bind fun x3 => if (!x3) = true then (some false) else (if (decide ((a0.aC.length : Int) > a0.aG)) = true then (some false) else ((bf a0).bind fun x6 => if (decide (x6 > (1073741825 : Int))) = true then (some false) else ((aL a0.aC).bind fun x8 => some (!x8)))))
noncomputable def gy (a0 : aa) : Option (Bool) :=
  some (decide (a0.aA < a0.fTo))
noncomputable def iM (a0 : (List aa)) : Int → Option (Step1 (Int) ((Unit) ⊕ (Bool))) := fun s1 =>
  if (decide (s1 < (a0.length : Int))) = true then ((getO a0 s1).bind fun x4 => (gy x4).bind fun x5 => if (!x5) = true then (some (.stop (.inr false))) else (if (decide (s1 > (0 : Int))) = true then ((getO a0 (IntKind.wrap .i64 (s1 - (1 : Int)))).bind fun x8 => if (decide (x4.aA ≤ x8.fTo)) = true then (some (.stop (.inr false))) else (some (.next (IntKind.wrap .i64 (s1 + (1 : Int)))))) else (some (.next (IntKind.wrap .i64 (s1 + (1 : Int))))))) else (some (.stop (.inl ())))
noncomputable def iL (a0 : (List aa)) : Option (Bool) :=
  (loopO (iM a0) (0 : Int)).bind fun o11 => match o11 with | .inl _ => (some true) | .inr r13 => (some r13)
noncomputable def fA (a0 : (List aa)) : Option (Bool) :=
  (iL a0).bind fun x1 => if x1 = true then (if ((a0.length : Int) == (0 : Int)) = true then (some true) else ((getO a0 (0 : Int)).bind fun x4 => if (decide (x4.aA ≥ (0 : Int))) = true then ((getO a0 (IntKind.wrap .i64 ((a0.length : Int) - (1 : Int)))).bind fun x6 => some (decide (x6.fTo ≤ (1073741825 : Int)))) else (some false))) else (some false)
noncomputable def dm (a0 : aa) : Option (Bool) :=
  (gy a0).bind fun x1 => some (!x1)
noncomputable def bZ (d0 : (List aa)) : Int → Option (Step1 (Int) ((Unit) ⊕ (Int × (List aa)))) := fun s1 =>
  if (decide (s1 < (d0.length : Int))) = true then ((inO d0 s1).bind fun _ => (getO d0 s1).bind fun x6 => (dm x6).bind fun x7 => if x7 = true then (some (.stop (.inr (s1, d0)))) else (some (.next (IntKind.wrap .i64 (s1 + (1 : Int)))))) else (some (.stop (.inl ())))
noncomputable def bA (d0 : (List aa)) : Option (Int × (List aa)) :=
  (loopO (bZ d0) (0 : Int)).bind fun o10 => match o10 with | .inl _ => (some ((-1 : Int), d0)) | .inr r12 => (some r12)
noncomputable def bG  : (Int × Int × (List aa)) → Option (Step1 (Int × Int × (List aa)) (Int × (List aa))) := fun (s3, s4, s5) =>
  if (decide (s4 < (s5.length : Int))) = true then ((inO s5 s4).bind fun _ => (getO s5 s4).bind fun x12 => (dm x12).bind fun x13 => if (!x13) = true then ((inO s5 s3).bind fun _ => (setO s5 s3 x12).bind fun x17 => some (.next ((IntKind.wrap .i64 (s3 + (1 : Int))), (IntKind.wrap .i64 (s4 + (1 : Int))), x17))) else (some (.next (s3, (IntKind.wrap .i64 (s4 + (1 : Int))), s5)))) else (some (.stop (s3, s5)))
noncomputable def bg (d0 : (List aa)) : Option ((List aa)) :=
  (bA d0).bind fun x1 => if (x1.1 == (-1 : Int)) = true then (some x1.2) else ((loopO (bG) (x1.1, (IntKind.wrap .i64 (x1.1 + (1 : Int))), x1.2)).bind fun o19 => (subO o19.2.length o19.1 (o19.2.length : Int)).bind fun _ => (viewO o19.2.length (0 + (o19.1 : Int).toNat) (0 + ((o19.2.length : Int) : Int).toNat)).bind fun _ => (subO (clearL o19.2 (0 + (o19.1 : Int).toNat) ((0 + ((o19.2.length : Int) : Int).toNat) - (0 + (o19.1 : Int).toNat)) (aa.mk 0 0)).length (0 : Int) o19.1).bind fun _ => some ((clearL o19.2 (0 + (o19.1 : Int).toNat) ((0 + ((o19.2.length : Int) : Int).toNat) - (0 + (o19.1 : Int).toNat)) (aa.mk 0 0)).take (o19.1 : Int).toNat))
noncomputable def cO (a0 : Int) : Option (Bool) :=
  some (a0 != a0)
noncomputable def cd (a0 : Int) (a1 : Int) : Option (Int) :=
  (cO a0).bind fun x1 => (cO a1).bind fun x2 => if x1 = true then (if x2 = true then (some (0 : Int)) else (some (-1 : Int))) else (if x2 = true then (some (1 : Int)) else (if (decide (a0 < a1)) = true then (some (-1 : Int)) else (if (decide (a0 > a1)) = true then (some (1 : Int)) else (some (0 : Int)))))
noncomputable def aN (a0 : aa) (a1 : aa) : Option (Int) :=
  (cd a0.aA a1.aA).bind fun x1 => some x1
noncomputable def hU (x3 : (List aa)) : (Int × (List aa)) → Option (Step1 (Int × (List aa)) ((List aa))) := fun (s4, s5) =>
  if (decide (s4 < (x3.length : Int))) = true then ((inO x3 s4).bind fun _ => (getO x3 s4).bind fun x11 => if (decide ((s5.length : Int) > (0 : Int))) = true then ((inO s5 (IntKind.wrap .i64 ((s5.length : Int) - (1 : Int)))).bind fun _ => (getO s5 (IntKind.wrap .i64 ((s5.length : Int) - (1 : Int)))).bind fun x15 => if (decide (x11.aA ≤ x15.fTo)) = true then ((inO s5 (IntKind.wrap .i64 ((s5.length : Int) - (1 : Int)))).bind fun _ => (getO s5 (IntKind.wrap .i64 ((s5.length : Int) - (1 : Int)))).bind fun x19 => (inO s5 (IntKind.wrap .i64 ((s5.length : Int) - (1 : Int)))).bind fun _ => (modO s5 (IntKind.wrap .i64 ((s5.length : Int) - (1 : Int))) (fun (z23 : aa) => (aa.mk z23.aA (if x11.fTo > x19.fTo then x11.fTo else x19.fTo)))).bind fun x22 => some (.next ((IntKind.wrap .i64 (s4 + (1 : Int))), x22))) else ((appO s5 [x11] 16).bind fun x24 => some (.next ((IntKind.wrap .i64 (s4 + (1 : Int))), x24)))) else ((appO s5 [x11] 16).bind fun x25 => some (.next ((IntKind.wrap .i64 (s4 + (1 : Int))), x25)))) else (some (.stop s5))
noncomputable def cN (a0 : (List aa)) : Option ((List aa)) :=
  (cloneO 16 a0).bind fun x1 => (bg x1).bind fun x2 => (sortO aN x2).bind fun x3 => (loopO (hU x3) ((0 : Int), ([] : (List aa)))).bind fun o27 => some o27
noncomputable def eE (x1 : (List aa)) (s3 : Int) (x2 : (List aa)) (s4 : Int) (j10 : (List aa)) : Option (Step1 (Int × Int × (List aa)) ((List aa))) :=
  (getO x1 s3).bind fun x11 => (getO x2 s4).bind fun x12 => if (decide (x11.fTo < x12.fTo)) = true then (some (.next ((IntKind.wrap .i64 (s3 + (1 : Int))), s4, j10))) else (some (.next (s3, (IntKind.wrap .i64 (s4 + (1 : Int))), j10)))
noncomputable def jp (x1 : (List aa)) (x2 : (List aa)) : (Int × Int × (List aa)) → Option (Step1 (Int × Int × (List aa)) ((List aa))) := fun (s3, s4, s5) =>
  if (decide (s3 < (x1.length : Int))) = true then (if (decide (s4 < (x2.length : Int))) = true then ((getO x1 s3).bind fun x15 => (getO x2 s4).bind fun x16 => (getO x1 s3).bind fun x17 => (getO x2 s4).bind fun x18 => (gy (aa.mk (if x16.aA > x15.aA then x16.aA else x15.aA) (if x18.fTo < x17.fTo then x18.fTo else x17.fTo))).bind fun x19 => if x19 = true then ((appO s5 [(aa.mk (if x16.aA > x15.aA then x16.aA else x15.aA) (if x18.fTo < x17.fTo then x18.fTo else x17.fTo))] 16).bind fun x21 => eE x1 s3 x2 s4 x21) else (eE x1 s3 x2 s4 s5)) else (some (.stop s5))) else (some (.stop s5))
noncomputable def kR (a0 : (List aa)) (a1 : (List aa)) : Option ((List aa)) :=
  (cN a0).bind fun x1 => (cN a1).bind fun x2 => (loopO (jp x1 x2) ((0 : Int), (0 : Int), ([] : (List aa)))).bind fun o23 => some o23
noncomputable def bt (a0 : ai) : Option (Bool) :=
  (fA a0.aK).bind fun x1 => if x1 = true then ((fA a0.aF).bind fun x3 => if x3 = true then ((kR a0.aK a0.aF).bind fun x5 => some ((x5.length : Int) == (0 : Int))) else (some false)) else (some false)
noncomputable def gC (a0 : Int) (a1 : Int) (a2 : Int) : Option (Bool) :=
  if (decide (a0 ≥ a1)) = true then (some (decide (a0 ≤ a2))) else (some false)
noncomputable def ci (a0 : (List Int)) : Int → Option (Step1 (Int) ((Unit) ⊕ (Int))) := fun s1 =>
  if (decide (s1 < (a0.length : Int))) = true then ((getO a0 s1).bind fun x4 => if (x4 != (0 : Int)) = true then (some (.stop (.inr x4))) else (some (.next (IntKind.wrap .i64 (s1 + (1 : Int)))))) else (some (.stop (.inl ())))
noncomputable def f7 (a0 : (List Int)) : Option (Int) :=
  (loopO (ci a0) (0 : Int)).bind fun o7 => match o7 with | .inl _ => (some (0 : Int)) | .inr r9 => (some r9)
noncomputable def dY (a0 : ac) (a1 : ac) : Option (Int) :=
  (f7 [(IntKind.wrap .i64 (a0.fAt - a1.fAt)), (IntKind.wrap .i64 (a0.aq - a1.aq))]).bind fun x1 => some x1
noncomputable def dX (a0 : ak) : Int → Option (Step1 (Int) ((Unit) ⊕ (Bool))) := fun s6 =>
  if (decide (s6 < (a0.av.length : Int))) = true then ((getO a0.av s6).bind fun x9 => if (decide ((x9.aC.length : Int) > (4096 : Int))) = true then (some (.stop (.inr false))) else ((gC x9.fAt (IntKind.wrap .i64 (a0.az + (1 : Int))) (2199023255552 : Int)).bind fun x11 => if (!x11) = true then (some (.stop (.inr false))) else ((gC x9.aq (0 : Int) (IntKind.wrap .i64 (a0.aq - (1 : Int)))).bind fun x13 => if (!x13) = true then (some (.stop (.inr false))) else (if (decide (s6 > (0 : Int))) = true then ((getO a0.av (IntKind.wrap .i64 (s6 - (1 : Int)))).bind fun x16 => (dY x16 x9).bind fun x17 => if (decide (x17 ≥ (0 : Int))) = true then (some (.stop (.inr false))) else (some (.next (IntKind.wrap .i64 (s6 + (1 : Int)))))) else (some (.next (IntKind.wrap .i64 (s6 + (1 : Int))))))))) else (some (.stop (.inl ())))
noncomputable def cq (a0 : ak) : Option (Bool) :=
  (gC a0.az (0 : Int) (1099511627776 : Int)).bind fun x1 => if (!x1) = true then (some false) else ((gC a0.aq (0 : Int) (1099511627776 : Int)).bind fun x3 => if (!x3) = true then (some false) else (if (decide ((a0.av.length : Int) > (1024 : Int))) = true then (some false) else ((loopO (dX a0) (0 : Int)).bind fun o20 => match o20 with | .inl _ => (some true) | .inr r22 => (some r22))))
noncomputable def gG (a0 : aa) (d0 : Int) : Option (Bool) :=
  if (decide (a0.aA ≤ d0)) = true then (some (decide (d0 < a0.fTo))) else (some false)
noncomputable def bO (a0 : (List aa)) (d0 : Int) : Int → Option (Step1 (Int) ((Unit) ⊕ (Int))) := fun s1 =>
  if (decide (s1 < (a0.length : Int))) = true then ((getO a0 s1).bind fun x4 => (gG x4 d0).bind fun x5 => if x5 = true then (some (.stop (.inr s1))) else (some (.next (IntKind.wrap .i64 (s1 + (1 : Int)))))) else (some (.stop (.inl ())))
noncomputable def bi (a0 : (List aa)) (d0 : Int) : Option (Int) :=
  (loopO (bO a0 d0) (0 : Int)).bind fun o8 => match o8 with | .inl _ => (some (-1 : Int)) | .inr r10 => (some r10)
noncomputable def a6 (a0 : (List aa)) (d0 : Int) : Option (Bool) :=
  (bi a0 d0).bind fun x1 => some (decide (x1 ≥ (0 : Int)))
noncomputable def jC (a0 : (List aa)) (a1 : Int) : Option (Bool) :=
  (a6 a0 a1).bind fun x1 => some x1
noncomputable def bL (a0 : ag) : (Int × Int × (List (Int × Bool))) → Option (Step1 (Int × Int × (List (Int × Bool))) ((Unit) ⊕ (Bool))) := fun (s1, s2, s3) =>
  if (decide (s2 < (a0.au.length : Int))) = true then ((getO a0.au s2).bind fun x6 => if (mGet (fun a b => a == b) x6.jK false s3) = true then (some (.stop (.inr false))) else ((bu x6.jK (0 : Int) (1073741824 : Int)).bind fun x8 => if (!x8) = true then (some (.stop (.inr false))) else ((jC a0.ap.aK x6.jK).bind fun x10 => if (!x10) = true then (some (.stop (.inr false))) else ((bu x6.fAt s1 a0.az).bind fun x12 => if (!x12) = true then (some (.stop (.inr false))) else (some (.next (x6.fAt, (IntKind.wrap .i64 (s2 + (1 : Int))), (mPut (fun a b => a == b) x6.jK true s3)))))))) else (some (.stop (.inl ())))
noncomputable def ca (a0 : ag) : Option (Bool) :=
  (loopO (bL a0) ((0 : Int), (0 : Int), ([] : List (Int × Bool)))).bind fun o15 => match o15 with | .inl _ => (some (decide ((a0.au.length : Int) ≤ (4096 : Int)))) | .inr r17 => (some r17)
noncomputable def bT (a0 : ag) : Option (Bool) :=
  (bu a0.az (0 : Int) (1099511627776 : Int)).bind fun x1 => if x1 = true then ((bu a0.aD (1 : Int) (4096 : Int)).bind fun x3 => if x3 = true then ((bR a0.ar).bind fun x5 => if x5 = true then ((bf a0.ar).bind fun x7 => (bu a0.aJ (0 : Int) x7).bind fun x8 => if x8 = true then ((bt a0.ap).bind fun x10 => if x10 = true then ((cq a0.aB).bind fun x12 => if x12 = true then ((cq a0.fUp).bind fun x14 => if x14 = true then (if (a0.aB.az == a0.az) = true then (if (a0.fUp.az == a0.az) = true then ((ca a0).bind fun x18 => some x18) else (some false)) else (some false)) else (some false)) else (some false)) else (some false)) else (some false)) else (some false)) else (some false)) else (some false)
noncomputable def bC (a0 : ae) : Option (Bool) :=
  (gC a0.co (0 : Int) (1048576 : Int)).bind fun x1 => if x1 = true then ((gC a0.cE (0 : Int) (8 : Int)).bind fun x3 => some x3) else (some false)
noncomputable def bW (a0 : ag) : Option (ag) :=
  (cloneO 16 a0.ar.aC).bind fun x1 => (cloneO 16 a0.ap.aK).bind fun x2 => (cloneO 16 a0.ap.aF).bind fun x3 => (cloneO 32 a0.aB.av).bind fun x4 => (cloneO 32 a0.fUp.av).bind fun x5 => (cloneO 32 a0.au).bind fun x6 => some (ag.mk a0.az a0.aD a0.aJ (ah.mk a0.ar.aG a0.ar.aw x1) (ai.mk x2 x3) (ak.mk a0.aB.az a0.aB.aq x4) (ak.mk a0.fUp.az a0.fUp.aq x5) x6)
noncomputable def fg (a0 : ah) (a1 : (List UInt8)) : Option (ah × Int × Int) :=
  (bR a0).bind fun x1 => if (!x1) = true then (some ((ah.mk 0 0 []), (0 : Int), (1 : Int))) else ((bf a0).bind fun x3 => if (decide ((a1.length : Int) > (4064 : Int))) = true then (some ((ah.mk 0 0 []), (0 : Int), (8 : Int))) else (if (x3 == (1073741825 : Int)) = true then (some ((ah.mk 0 0 []), (0 : Int), (8 : Int))) else ((appO a0.aC [a1] 16).bind fun x6 => if ((a0.aC.length : Int) == a0.aG) = true then ((cutO x6 1 (x6.length : Int)).bind fun x8 => some ((ah.mk a0.aG (IntKind.wrap .i64 (a0.aw + (1 : Int))) x8), x3, (0 : Int))) else (some ((ah.mk a0.aG a0.aw x6), x3, (0 : Int))))))
noncomputable def kN (a0 : Int) (a1 : Int) (a2 : Int) : Option (Bool) :=
  if (decide (a0 ≥ a1)) = true then (some (decide (a0 ≤ a2))) else (some false)
noncomputable def jH (a1 : Int) : (Int × (List Int)) → Option (Step1 (Int × (List Int)) ((List Int))) := fun (s7, s8) =>
  if (decide (s7 ≥ (0 : Int))) = true then ((shrO .i64 a1 (IntKind.wrap .i64 ((8 : Int) * s7))).bind fun x12 => (appO s8 [(IntKind.wrap .u8 x12)] 1).bind fun x13 => some (.next ((IntKind.wrap .i64 (s7 - (1 : Int))), x13))) else (some (.stop s8))
noncomputable def lC (a0 : (List UInt8)) (a1 : Int) (a2 : Int) : Option ((List UInt8) × Int) :=
  (kN a2 (1 : Int) (7 : Int)).bind fun x1 => if (!x1) = true then (some (([] : (List UInt8)), (2 : Int))) else ((shlO .i64 (1 : Int) (IntKind.wrap .i64 ((8 : Int) * a2))).bind fun x3 => (kN a1 (0 : Int) (IntKind.wrap .i64 (x3 - (1 : Int)))).bind fun x4 => if (!x4) = true then (some (([] : (List UInt8)), (2 : Int))) else ((bytO a0).bind fun b6 => (loopO (jH a1) ((IntKind.wrap .i64 (a2 - (1 : Int))), b6)).bind fun o15 => some ((strU o15), (0 : Int))))
noncomputable def eU (a1 : (List Int)) : ((List UInt8) × Int) → Option (Step1 ((List UInt8) × Int) ((List UInt8))) := fun (s1, s2) =>
  if (decide (s2 < (a1.length : Int))) = true then ((getO a1 s2).bind fun x6 => (lC s1 x6 (4 : Int)).bind fun x7 => some (.next (x7.1, (IntKind.wrap .i64 (s2 + (1 : Int)))))) else (some (.stop s1))
noncomputable def bD (a0 : (List UInt8)) (a1 : (List Int)) : Option ((List UInt8)) :=
  (loopO (eU a1) (a0, (0 : Int))).bind fun o9 => some o9
noncomputable def iZ (s1 : Int) (s2 : (List Int)) (j13 : Int) : Option (Step1 (Int × (List Int)) ((List Int))) :=
  (inA 256 s1).bind fun _ => (setO s2 s1 j13).bind fun x15 => some (.next ((IntKind.wrap .i64 (s1 + (1 : Int))), x15))
noncomputable def i5 (s1 : Int) (s2 : (List Int)) (j12 : Int) : Option (Step1 (Int × (List Int)) ((List Int))) :=
  if ((andI .i64 j12 (1 : Int)) == (1 : Int)) = true then (iZ s1 s2 (xorI .i64 (shrI .i64 j12 (1 : Int)) (3988292384 : Int))) else (iZ s1 s2 (shrI .i64 j12 (1 : Int)))
noncomputable def i6 (s1 : Int) (s2 : (List Int)) (j11 : Int) : Option (Step1 (Int × (List Int)) ((List Int))) :=
  if ((andI .i64 j11 (1 : Int)) == (1 : Int)) = true then (i5 s1 s2 (xorI .i64 (shrI .i64 j11 (1 : Int)) (3988292384 : Int))) else (i5 s1 s2 (shrI .i64 j11 (1 : Int)))
noncomputable def i7 (s1 : Int) (s2 : (List Int)) (j10 : Int) : Option (Step1 (Int × (List Int)) ((List Int))) :=
  if ((andI .i64 j10 (1 : Int)) == (1 : Int)) = true then (i6 s1 s2 (xorI .i64 (shrI .i64 j10 (1 : Int)) (3988292384 : Int))) else (i6 s1 s2 (shrI .i64 j10 (1 : Int)))
noncomputable def i8 (s1 : Int) (s2 : (List Int)) (j9 : Int) : Option (Step1 (Int × (List Int)) ((List Int))) :=
  if ((andI .i64 j9 (1 : Int)) == (1 : Int)) = true then (i7 s1 s2 (xorI .i64 (shrI .i64 j9 (1 : Int)) (3988292384 : Int))) else (i7 s1 s2 (shrI .i64 j9 (1 : Int)))
noncomputable def ja (s1 : Int) (s2 : (List Int)) (j8 : Int) : Option (Step1 (Int × (List Int)) ((List Int))) :=
  if ((andI .i64 j8 (1 : Int)) == (1 : Int)) = true then (i8 s1 s2 (xorI .i64 (shrI .i64 j8 (1 : Int)) (3988292384 : Int))) else (i8 s1 s2 (shrI .i64 j8 (1 : Int)))
noncomputable def jb (s1 : Int) (s2 : (List Int)) (j7 : Int) : Option (Step1 (Int × (List Int)) ((List Int))) :=
  if ((andI .i64 j7 (1 : Int)) == (1 : Int)) = true then (ja s1 s2 (xorI .i64 (shrI .i64 j7 (1 : Int)) (3988292384 : Int))) else (ja s1 s2 (shrI .i64 j7 (1 : Int)))
noncomputable def jc (s1 : Int) (s2 : (List Int)) (j6 : Int) : Option (Step1 (Int × (List Int)) ((List Int))) :=
  if ((andI .i64 j6 (1 : Int)) == (1 : Int)) = true then (jb s1 s2 (xorI .i64 (shrI .i64 j6 (1 : Int)) (3988292384 : Int))) else (jb s1 s2 (shrI .i64 j6 (1 : Int)))
noncomputable def k9  : (Int × (List Int)) → Option (Step1 (Int × (List Int)) ((List Int))) := fun (s1, s2) =>
  if (decide (s1 < (256 : Int))) = true then (if ((andI .i64 s1 (1 : Int)) == (1 : Int)) = true then (jc s1 s2 (xorI .i64 (shrI .i64 s1 (1 : Int)) (3988292384 : Int))) else (jc s1 s2 (shrI .i64 s1 (1 : Int)))) else (some (.stop s2))
noncomputable def jx  : Option ((List Int)) :=
  (loopO (k9) ((0 : Int), (List.replicate 256 (0 : Int)))).bind fun o33 => (lenO 256 o33).bind fun x34 => (lenO 256 (List.replicate 256 (0 : Int))).bind fun _ => (lenO 256 x34).bind fun x35 => (lenO 256 x35).bind fun x36 => some x36
noncomputable def fp (a1 : (List UInt8)) (x4 : (List Int)) : (Int × Int) → Option (Step1 (Int × Int) (Int)) := fun (s5, s6) =>
  if (decide (s6 < (a1.length : Int))) = true then ((byteO a1 s6).bind fun x10 => (inA 256 (andI .i64 (xorI .i64 s5 (IntKind.wrap .i64 x10)) (255 : Int))).bind fun _ => (getO x4 (andI .i64 (xorI .i64 s5 (IntKind.wrap .i64 x10)) (255 : Int))).bind fun x12 => some (.next ((xorI .i64 (shrI .i64 s5 (8 : Int)) x12), (IntKind.wrap .i64 (s6 + (1 : Int)))))) else (some (.stop s5))
noncomputable def f8 (a0 : Int) (a1 : (List UInt8)) : Option (Int) :=
  if (decide (a0 < (0 : Int))) = true then (some (0 : Int)) else (if (decide (a0 > (4294967295 : Int))) = true then (some (0 : Int)) else ((jx ).bind fun x3 => (lenO 256 (List.replicate 256 (0 : Int))).bind fun _ => (lenO 256 x3).bind fun x4 => (loopO (fp a1 x4) ((xorI .i64 a0 (4294967295 : Int)), (0 : Int))).bind fun o14 => some (xorI .i64 o14 (4294967295 : Int))))
noncomputable def lF (a0 : (List UInt8)) : Option (Int) :=
  (f8 (0 : Int) a0).bind fun x1 => some x1
noncomputable def cn (a0 : (List UInt8)) : Option ((List UInt8)) :=
  (lF a0).bind fun x1 => (catO a0 (strU ([(IntKind.wrap .u8 x1), (IntKind.wrap .u8 (shrI .i64 x1 (8 : Int))), (IntKind.wrap .u8 (shrI .i64 x1 (16 : Int))), (IntKind.wrap .u8 (shrI .i64 x1 (24 : Int)))] : List Int))).bind fun x2 => some x2
noncomputable def cK (a0 : Int) (a1 : Int) (a2 : (List UInt8)) : Option ((List UInt8) × Int) :=
  (bu a0 (0 : Int) (1073741824 : Int)).bind fun x1 => if (!x1) = true then (some (([] : (List UInt8)), (2 : Int))) else ((bu a1 (0 : Int) (1073741825 : Int)).bind fun x3 => if (!x3) = true then (some (([] : (List UInt8)), (2 : Int))) else ((bD ([68] : List UInt8) [a0, a1]).bind fun x5 => (catO x5 a2).bind fun x6 => (cn x6).bind fun x7 => if (decide ((x7.length : Int) > (4096 : Int))) = true then (some (([] : (List UInt8)), (8 : Int))) else (some (x7, (0 : Int)))))
noncomputable def aI (d0 : (List ac)) (a1 : ac) : (Int × Int) → Option (Step1 (Int × Int) (Int)) := fun (s1, s2) =>
  if (decide (s1 < s2)) = true then ((inO d0 (IntKind.wrap .i64 (shrI .u64 (IntKind.wrap .u64 (IntKind.wrap .i64 (s1 + s2))) (1 : Int)))).bind fun _ => (getO d0 (IntKind.wrap .i64 (shrI .u64 (IntKind.wrap .u64 (IntKind.wrap .i64 (s1 + s2))) (1 : Int)))).bind fun x8 => (dY x8 a1).bind fun x9 => if (decide (x9 < (0 : Int))) = true then (some (.next ((IntKind.wrap .i64 ((IntKind.wrap .i64 (shrI .u64 (IntKind.wrap .u64 (IntKind.wrap .i64 (s1 + s2))) (1 : Int))) + (1 : Int))), s2))) else (some (.next (s1, (IntKind.wrap .i64 (shrI .u64 (IntKind.wrap .u64 (IntKind.wrap .i64 (s1 + s2))) (1 : Int))))))) else (some (.stop s1))
noncomputable def aH (a1 : ac) (d0 : (List ac)) : Option (Int × Bool × (List ac)) :=
  (loopO (aI d0 a1) ((0 : Int), (d0.length : Int))).bind fun o12 => if (decide (o12 < (d0.length : Int))) = true then ((inO d0 o12).bind fun _ => (getO d0 o12).bind fun x16 => (dY x16 a1).bind fun x17 => some (o12, (x17 == (0 : Int)), d0)) else (some (o12, false, d0))
noncomputable def bM (a1 : Int) (a2 : (List ac)) (d0 : (List ac)) : Option ((List ac)) :=
  (subO d0.length a1 (d0.length : Int)).bind fun _ => if ((a2.length : Int) == (0 : Int)) = true then (some d0) else (if (a1 == (d0.length : Int)) = true then ((appO d0 a2 32).bind fun x4 => some x4) else (none))
noncomputable def cj (j5 : Int) (a0 : ak) (a2 : ae) (a1 : (List UInt8)) : (Int × (List ac)) → Option (Step1 (Int × (List ac)) ((List ac))) := fun (s10, s11) =>
  if (decide (s10 < j5)) = true then ((aH (ac.mk (IntKind.wrap .i64 ((IntKind.wrap .i64 ((IntKind.wrap .i64 (a0.az + (1 : Int))) + a2.co)) + s10)) a0.aq a1) s11).bind fun x15 => (bM x15.1 [(ac.mk (IntKind.wrap .i64 ((IntKind.wrap .i64 ((IntKind.wrap .i64 (a0.az + (1 : Int))) + a2.co)) + s10)) a0.aq a1)] x15.2.2).bind fun x16 => some (.next ((IntKind.wrap .i64 (s10 + (1 : Int))), x16))) else (some (.stop s11))
noncomputable def dK (a1 : (List UInt8)) (a0 : ak) (a2 : ae) (j5 : Int) : Option (ak × Int) :=
  if (decide ((a1.length : Int) > (4096 : Int))) = true then (some ((ak.mk 0 0 []), (8 : Int))) else (if (a0.aq == (1099511627776 : Int)) = true then (some ((ak.mk 0 0 []), (8 : Int))) else (if (decide ((IntKind.wrap .i64 ((a0.av.length : Int) + j5)) > (1024 : Int))) = true then (some ((ak.mk 0 0 []), (8 : Int))) else ((cloneO 32 a0.av).bind fun x9 => (loopO (cj j5 a0 a2 a1) ((0 : Int), x9)).bind fun o18 => some ((ak.mk a0.az (IntKind.wrap .i64 (a0.aq + (1 : Int))) o18), (0 : Int)))))
noncomputable def fd (a0 : ak) (a1 : (List UInt8)) (a2 : ae) : Option (ak × Int) :=
  (cq a0).bind fun x1 => if (!x1) = true then (some ((ak.mk 0 0 []), (1 : Int))) else ((bC a2).bind fun x3 => if (!x3) = true then (some ((ak.mk 0 0 []), (1 : Int))) else (if a2.kb = true then (dK a1 a0 a2 (0 : Int)) else (dK a1 a0 a2 (IntKind.wrap .i64 ((1 : Int) + a2.cE)))))
noncomputable def bS (a0 : ag) (a1 : (List UInt8)) (a2 : ae) : Option (ag × Int × Int) :=
  (bT a0).bind fun x1 => if (!x1) = true then (some ((ag.mk 0 0 0 (ah.mk 0 0 []) (ai.mk [] []) (ak.mk 0 0 []) (ak.mk 0 0 []) []), (0 : Int), (1 : Int))) else ((bC a2).bind fun x3 => if (!x3) = true then (some ((ag.mk 0 0 0 (ah.mk 0 0 []) (ai.mk [] []) (ak.mk 0 0 []) (ak.mk 0 0 []) []), (0 : Int), (1 : Int))) else ((bW a0).bind fun x5 => (fg x5.ar a1).bind fun x6 => if (x6.2.2 != (0 : Int)) = true then (some ((ag.mk 0 0 0 (ah.mk 0 0 []) (ai.mk [] []) (ak.mk 0 0 []) (ak.mk 0 0 []) []), (0 : Int), x6.2.2)) else ((cK x6.2.1 x6.1.aw a1).bind fun x8 => (fd x5.aB x8.1 a2).bind fun x9 => if (x9.2 != (0 : Int)) = true then (some ((ag.mk 0 0 0 (ah.mk 0 0 []) (ai.mk [] []) (ak.mk 0 0 []) (ak.mk 0 0 []) []), (0 : Int), x9.2)) else (some ((ag.mk x5.az x5.aD x5.aJ x6.1 x5.ap x9.1 x5.fUp x5.au), x6.2.1, (0 : Int))))))
noncomputable def dW (a0 : ae) : Option (Bool) :=
  (bC a0).bind fun x1 => some (!x1)
noncomputable def bN (a0 : (List ae)) : Int → Option (Step1 (Int) ((Unit) ⊕ (Int))) := fun s1 =>
  if (decide (s1 < (a0.length : Int))) = true then ((getO a0 s1).bind fun x4 => (dW x4).bind fun x5 => if x5 = true then (some (.stop (.inr s1))) else (some (.next (IntKind.wrap .i64 (s1 + (1 : Int)))))) else (some (.stop (.inl ())))
noncomputable def bh (a0 : (List ae)) : Option (Int) :=
  (loopO (bN a0) (0 : Int)).bind fun o8 => match o8 with | .inl _ => (some (-1 : Int)) | .inr r10 => (some r10)
noncomputable def aM (a0 : (List ae)) : Option (Bool) :=
  (bh a0).bind fun x1 => some (decide (x1 ≥ (0 : Int)))
noncomputable def eB (a0 : ak) : (Int × (List (List UInt8))) → Option (Step1 (Int × (List (List UInt8))) (Int × (List (List UInt8)))) := fun (s4, s5) =>
  if (decide (s4 < (a0.av.length : Int))) = true then ((getO a0.av s4).bind fun x10 => if (x10.fAt == (IntKind.wrap .i64 (a0.az + (1 : Int)))) = true then ((getO a0.av s4).bind fun x12 => (appO s5 [x12.aC] 16).bind fun x13 => some (.next ((IntKind.wrap .i64 (s4 + (1 : Int))), x13))) else (some (.stop (s4, s5)))) else (some (.stop (s4, s5)))
noncomputable def fe (a0 : ak) : Option (ak × (List (List UInt8)) × Int) :=
  (cq a0).bind fun x1 => if (!x1) = true then (some ((ak.mk 0 0 []), ([] : (List (List UInt8))), (1 : Int))) else (if (a0.az == (1099511627776 : Int)) = true then (some ((ak.mk 0 0 []), ([] : (List (List UInt8))), (8 : Int))) else ((loopO (eB a0) ((0 : Int), ([] : (List (List UInt8))))).bind fun o15 => (cutO a0.av o15.1 (a0.av.length : Int)).bind fun x16 => (cloneO 32 x16).bind fun x17 => some ((ak.mk (IntKind.wrap .i64 (a0.az + (1 : Int))) a0.aq x17), o15.2, (0 : Int))))
noncomputable def iu (a0 : (List UInt8)) : Option (Bool) :=
  if (decide ((IntKind.wrap .i64 ((a0.length : Int) - (4 : Int))) ≥ (0 : Int))) = true then ((cutO a0 0 (IntKind.wrap .i64 ((a0.length : Int) - (4 : Int)))).bind fun x2 => (cn x2).bind fun x3 => some (x3 == a0)) else (some false)
noncomputable def cM (a0 : (List UInt8)) (a1 : (List UInt8)) (a2 : Int) : Option ((List UInt8) × Int) :=
  if (decide ((a0.length : Int) < a2)) = true then (some (([] : (List UInt8)), (4 : Int))) else ((iu a0).bind fun x2 => if (!x2) = true then (some (([] : (List UInt8)), (5 : Int))) else ((cutO a0 0 1).bind fun x4 => if (!(x4 == a1)) = true then (some (([] : (List UInt8)), (3 : Int))) else ((cutO a0 1 (IntKind.wrap .i64 ((a0.length : Int) - (4 : Int)))).bind fun x6 => some (x6, (0 : Int)))))
noncomputable def jG (a2 : Int) (a0 : (List UInt8)) (a1 : Int) : (Int × Int) → Option (Step1 (Int × Int) (Int)) := fun (s5, s6) =>
  if (decide (s6 < a2)) = true then ((byteO a0 (IntKind.wrap .i64 (a1 + s6))).bind fun x10 => some (.next ((orI .i64 (shlI .i64 s5 (8 : Int)) (IntKind.wrap .i64 x10)), (IntKind.wrap .i64 (s6 + (1 : Int)))))) else (some (.stop s5))
noncomputable def lB (a0 : (List UInt8)) (a1 : Int) (a2 : Int) : Option (Int × Int) :=
  (kN a2 (1 : Int) (7 : Int)).bind fun x1 => if (!x1) = true then (some ((0 : Int), (2 : Int))) else (if (decide (a1 < (0 : Int))) = true then (some ((0 : Int), (2 : Int))) else (if (decide (a1 > (IntKind.wrap .i64 ((a0.length : Int) - a2)))) = true then (some ((0 : Int), (4 : Int))) else ((loopO (jG a2 a0 a1) ((0 : Int), (0 : Int))).bind fun o12 => some (o12, (0 : Int)))))
noncomputable def aY (a0 : (List UInt8)) (a1 : Int) : Option (Int) :=
  (lB a0 (IntKind.wrap .i64 (a1 * (4 : Int))) (4 : Int)).bind fun x1 => some x1.1
noncomputable def aV (a0 : (List UInt8)) : Option (Int × Int × (List UInt8) × Int) :=
  (cM a0 ([68] : List UInt8) (13 : Int)).bind fun x1 => if (x1.2 != (0 : Int)) = true then (some ((0 : Int), (0 : Int), ([] : (List UInt8)), x1.2)) else ((aY x1.1 (0 : Int)).bind fun x3 => (aY x1.1 (1 : Int)).bind fun x4 => if (decide (x3 > (1073741824 : Int))) = true then (some ((0 : Int), (0 : Int), ([] : (List UInt8)), (3 : Int))) else (if (decide (x4 > (1073741825 : Int))) = true then (some ((0 : Int), (0 : Int), ([] : (List UInt8)), (3 : Int))) else ((cutO x1.1 8 (x1.1.length : Int)).bind fun x7 => some (x3, x4, x7, (0 : Int)))))
noncomputable def dp (a0 : Int) (a1 : Int) (a2 : Int) : Option (Bool) :=
  if (decide (a0 ≥ a1)) = true then (some (decide (a0 ≤ a2))) else (some false)
noncomputable def cf (j2 : (List aa)) : Option ((List aa)) :=
  some j2
noncomputable def ep (a0 : Int) : Option ((List aa)) :=
  if (decide (a0 < (0 : Int))) = true then (none) else (if (decide ((IntKind.wrap .i64 (a0 - (0 : Int))) > (0 : Int))) = true then ((mkZ (IntKind.wrap .i64 (a0 - (0 : Int))) (aa.mk 0 0) 16).bind fun x5 => (subO x5.length (0 : Int) (0 : Int)).bind fun _ => cf (x5.take (0 : Int).toNat)) else (cf ([] : List aa)))
noncomputable def dT (a0 : (List (List aa))) : (Int × Int) → Option (Step1 (Int × Int) (Int)) := fun (s1, s2) =>
  if (decide (s2 < (a0.length : Int))) = true then ((getO a0 s2).bind fun x6 => if (decide ((IntKind.wrap .i64 (s1 + (x6.length : Int))) < (0 : Int))) = true then (none) else (some (.next ((IntKind.wrap .i64 (s1 + (x6.length : Int))), (IntKind.wrap .i64 (s2 + (1 : Int))))))) else (some (.stop s1))
noncomputable def dC (a0 : (List (List aa))) : (Int × (List aa)) → Option (Step1 (Int × (List aa)) ((List aa))) := fun (s11, s12) =>
  if (decide (s11 < (a0.length : Int))) = true then ((getO a0 s11).bind fun x16 => (appO s12 x16 16).bind fun x17 => some (.next ((IntKind.wrap .i64 (s11 + (1 : Int))), x17))) else (some (.stop s12))
noncomputable def dB (a0 : (List (List aa))) : Option ((List aa)) :=
  (loopO (dT a0) ((0 : Int), (0 : Int))).bind fun o9 => (ep o9).bind fun x10 => (loopO (dC a0) ((0 : Int), x10)).bind fun o19 => some o19
noncomputable def gw (a0 : (List aa)) (a1 : (List aa)) : Option ((List aa)) :=
  (dB [a0, a1]).bind fun x1 => (cN x1).bind fun x2 => some x2
noncomputable def iJ (x1 : (List aa)) (x8 : aa) (s3 : Int) : (Int × Int × (List aa)) → Option (Step1 (Int × Int × (List aa)) (Int × Int × (List aa))) := fun (s9, s10, s11) =>
  if (decide (s10 < (x1.length : Int))) = true then ((getO x1 s10).bind fun x17 => if (decide (x17.fTo ≤ s9)) = true then (some (.next (s9, (IntKind.wrap .i64 (s10 + (1 : Int))), s11))) else (if (decide (x17.aA ≥ x8.fTo)) = true then (some (.next (s9, (IntKind.wrap .i64 (s10 + (1 : Int))), s11))) else (if (decide (s9 < x17.aA)) = true then ((appO s11 [(aa.mk s9 x17.aA)] 16).bind fun x21 => some (.next ((if x17.fTo > s9 then x17.fTo else s9), (IntKind.wrap .i64 (s10 + (1 : Int))), x21))) else (some (.next ((if x17.fTo > s9 then x17.fTo else s9), (IntKind.wrap .i64 (s10 + (1 : Int))), s11)))))) else (some (.stop (s9, s3, s11)))
noncomputable def iK (x2 : (List aa)) (x1 : (List aa)) : (Int × (List aa)) → Option (Step1 (Int × (List aa)) ((List aa))) := fun (s3, s4) =>
  if (decide (s3 < (x2.length : Int))) = true then ((getO x2 s3).bind fun x8 => (loopO (iJ x1 x8 s3) (x8.aA, (0 : Int), s4)).bind fun o23 => if (decide (o23.1 < x8.fTo)) = true then ((appO o23.2.2 [(aa.mk o23.1 x8.fTo)] 16).bind fun x25 => some (.next ((IntKind.wrap .i64 (o23.2.1 + (1 : Int))), x25))) else (some (.next ((IntKind.wrap .i64 (o23.2.1 + (1 : Int))), o23.2.2)))) else (some (.stop s4))
noncomputable def gr (a0 : (List aa)) (a1 : (List aa)) : Option ((List aa)) :=
  (cN a1).bind fun x1 => (cN a0).bind fun x2 => (loopO (iK x2 x1) ((0 : Int), ([] : (List aa)))).bind fun o27 => some o27
noncomputable def c6 (a0 : (List aa)) (a1 : (List aa)) : Option (ai × Int) :=
  if (decide ((a0.length : Int) > (4096 : Int))) = true then (some ((ai.mk [] []), (8 : Int))) else (if (decide ((a1.length : Int) > (4096 : Int))) = true then (some ((ai.mk [] []), (8 : Int))) else (some ((ai.mk a0 a1), (0 : Int))))
noncomputable def dF (a0 : ai) (a1 : Int) : Option (ai × Bool × Int) :=
  (bt a0).bind fun x1 => if (!x1) = true then (some ((ai.mk [] []), false, (1 : Int))) else ((dp a1 (0 : Int) (1073741824 : Int)).bind fun x3 => if (!x3) = true then (some ((ai.mk [] []), false, (2 : Int))) else ((jC a0.aK a1).bind fun x5 => (gw a0.aK [(aa.mk a1 (IntKind.wrap .i64 (a1 + (1 : Int))))]).bind fun x6 => (gr a0.aF [(aa.mk a1 (IntKind.wrap .i64 (a1 + (1 : Int))))]).bind fun x7 => (c6 x6 x7).bind fun x8 => if (!x5) = true then (some (x8.1, (x8.2 == (0 : Int)), x8.2)) else (some (x8.1, false, x8.2))))
noncomputable def dL (a0 : ai) (a1 : Int) : Option (ai × Int) :=
  (bt a0).bind fun x1 => if (!x1) = true then (some ((ai.mk [] []), (1 : Int))) else ((dp a1 (0 : Int) (1073741825 : Int)).bind fun x3 => if (!x3) = true then (some ((ai.mk [] []), (2 : Int))) else ((gr [(aa.mk 0 a1)] a0.aK).bind fun x5 => (cloneO 16 a0.aK).bind fun x6 => (gw a0.aF x5).bind fun x7 => (c6 x6 x7).bind fun x8 => some (x8.1, x8.2)))
noncomputable def eL (a0 : Int) (e1 : Int) (e2 : Int) (e3 : Int) (e4 : Int) (e5 : Int) (e6 : (List (List UInt8))) (e7 : (List aa)) (e8 : (List aa)) (e9 : Int) (e10 : Int) (e11 : (List ac)) (e12 : Int) (e13 : Int) (e14 : (List ac)) (e15 : (List ae)) (e16 : (List ae)) (d1 : (List aj)) : Option (Int × Int × Int × Int × Int × (List (List UInt8)) × (List aa) × (List aa) × Int × Int × (List ac) × Int × Int × (List ac) × (List ae) × (List ae)) :=
  (bf (ah.mk e4 e5 e6)).bind fun x1 => some (e1, e2, (if x1 < (if a0 > e3 then a0 else e3) then x1 else (if a0 > e3 then a0 else e3)), e4, e5, e6, e7, e8, e9, e10, e11, e12, e13, e14, e15, e16)
noncomputable def fc (a0 : (List UInt8)) (e1 : Int) (e2 : Int) (e3 : Int) (e4 : Int) (e5 : Int) (e6 : (List (List UInt8))) (e7 : (List aa)) (e8 : (List aa)) (e9 : Int) (e10 : Int) (e11 : (List ac)) (e12 : Int) (e13 : Int) (e14 : (List ac)) (e15 : (List ae)) (e16 : (List ae)) (d1 : (List aj)) : Option (Int × Int × Int × Int × Int × (List (List UInt8)) × (List aa) × (List aa) × Int × Int × (List ac) × Int × Int × (List ac) × (List ae) × (List ae) × (List aj)) :=
  (aV a0).bind fun x1 => if (x1.2.2.2 != (0 : Int)) = true then (some (e1, e2, e3, e4, e5, e6, e7, e8, e9, e10, e11, e12, e13, e14, e15, e16, d1)) else ((dF (ai.mk e7 e8) x1.1).bind fun x3 => if (x3.2.2 != (0 : Int)) = true then (some (e1, e2, e3, e4, e5, e6, e7, e8, e9, e10, e11, e12, e13, e14, e15, e16, d1)) else ((dL x3.1 x1.2.1).bind fun x5 => if (x5.2 != (0 : Int)) = true then (some (e1, e2, e3, e4, e5, e6, e7, e8, e9, e10, e11, e12, e13, e14, e15, e16, d1)) else ((eL (IntKind.wrap .i64 (x1.1 + (1 : Int))) e1 e2 e3 e4 e5 e6 x5.1.aK x5.1.aF e9 e10 e11 e12 e13 e14 e15 e16 d1).bind fun x7 => if x3.2.1 = true then (if (decide ((d1.length : Int) < (4096 : Int))) = true then ((appO d1 [(aj.mk x1.1 x7.1 x1.2.2.1)] 32).bind fun x10 => some (x7.1, x7.2.1, x7.2.2.1, x7.2.2.2.1, x7.2.2.2.2.1, x7.2.2.2.2.2.1, x7.2.2.2.2.2.2.1, x7.2.2.2.2.2.2.2.1, x7.2.2.2.2.2.2.2.2.1, x7.2.2.2.2.2.2.2.2.2.1, x7.2.2.2.2.2.2.2.2.2.2.1, x7.2.2.2.2.2.2.2.2.2.2.2.1, x7.2.2.2.2.2.2.2.2.2.2.2.2.1, x7.2.2.2.2.2.2.2.2.2.2.2.2.2.1, x7.2.2.2.2.2.2.2.2.2.2.2.2.2.2.1, x7.2.2.2.2.2.2.2.2.2.2.2.2.2.2.2, x10)) else (some (x7.1, x7.2.1, x7.2.2.1, x7.2.2.2.1, x7.2.2.2.2.1, x7.2.2.2.2.2.1, x7.2.2.2.2.2.2.1, x7.2.2.2.2.2.2.2.1, x7.2.2.2.2.2.2.2.2.1, x7.2.2.2.2.2.2.2.2.2.1, x7.2.2.2.2.2.2.2.2.2.2.1, x7.2.2.2.2.2.2.2.2.2.2.2.1, x7.2.2.2.2.2.2.2.2.2.2.2.2.1, x7.2.2.2.2.2.2.2.2.2.2.2.2.2.1, x7.2.2.2.2.2.2.2.2.2.2.2.2.2.2.1, x7.2.2.2.2.2.2.2.2.2.2.2.2.2.2.2, d1))) else (some (x7.1, x7.2.1, x7.2.2.1, x7.2.2.2.1, x7.2.2.2.2.1, x7.2.2.2.2.2.1, x7.2.2.2.2.2.2.1, x7.2.2.2.2.2.2.2.1, x7.2.2.2.2.2.2.2.2.1, x7.2.2.2.2.2.2.2.2.2.1, x7.2.2.2.2.2.2.2.2.2.2.1, x7.2.2.2.2.2.2.2.2.2.2.2.1, x7.2.2.2.2.2.2.2.2.2.2.2.2.1, x7.2.2.2.2.2.2.2.2.2.2.2.2.2.1, x7.2.2.2.2.2.2.2.2.2.2.2.2.2.2.1, x7.2.2.2.2.2.2.2.2.2.2.2.2.2.2.2, d1)))))
noncomputable def aP (a0 : (List UInt8)) : Option (Int × Int × Int) :=
  (cM a0 ([83] : List UInt8) (13 : Int)).bind fun x1 => if (x1.2 != (0 : Int)) = true then (some ((0 : Int), (0 : Int), x1.2)) else ((aY x1.1 (0 : Int)).bind fun x3 => (aY x1.1 (1 : Int)).bind fun x4 => if ((x1.1.length : Int) != (8 : Int)) = true then (some ((0 : Int), (0 : Int), (3 : Int))) else (if (decide (x3 > x4)) = true then (some ((0 : Int), (0 : Int), (3 : Int))) else (if (decide (x4 > (1073741825 : Int))) = true then (some ((0 : Int), (0 : Int), (3 : Int))) else (some (x3, x4, (0 : Int))))))
noncomputable def dn (a0 : (List UInt8)) (e1 : Int) (e2 : Int) (e3 : Int) (e4 : Int) (e5 : Int) (e6 : (List (List UInt8))) (e7 : (List aa)) (e8 : (List aa)) (e9 : Int) (e10 : Int) (e11 : (List ac)) (e12 : Int) (e13 : Int) (e14 : (List ac)) (e15 : (List ae)) (e16 : (List ae)) (d1 : (List aj)) : Option (Int × Int × Int × Int × Int × (List (List UInt8)) × (List aa) × (List aa) × Int × Int × (List ac) × Int × Int × (List ac) × (List ae) × (List ae)) :=
  (aP a0).bind fun x1 => if (x1.2.2 != (0 : Int)) = true then (some (e1, e2, e3, e4, e5, e6, e7, e8, e9, e10, e11, e12, e13, e14, e15, e16)) else ((dL (ai.mk e7 e8) x1.1).bind fun x3 => if (x3.2 == (0 : Int)) = true then ((eL x1.2.1 e1 e2 e3 e4 e5 e6 x3.1.aK x3.1.aF e9 e10 e11 e12 e13 e14 e15 e16 d1).bind fun x5 => some (x5.1, x5.2.1, x5.2.2.1, x5.2.2.2.1, x5.2.2.2.2.1, x5.2.2.2.2.2.1, x5.2.2.2.2.2.2.1, x5.2.2.2.2.2.2.2.1, x5.2.2.2.2.2.2.2.2.1, x5.2.2.2.2.2.2.2.2.2.1, x5.2.2.2.2.2.2.2.2.2.2.1, x5.2.2.2.2.2.2.2.2.2.2.2.1, x5.2.2.2.2.2.2.2.2.2.2.2.2.1, x5.2.2.2.2.2.2.2.2.2.2.2.2.2.1, x5.2.2.2.2.2.2.2.2.2.2.2.2.2.2.1, x5.2.2.2.2.2.2.2.2.2.2.2.2.2.2.2)) else (some (e1, e2, e3, e4, e5, e6, e7, e8, e9, e10, e11, e12, e13, e14, e15, e16)))
noncomputable def hX (d0 : (List aa)) : Int → Option (Step1 (Int) ((Unit) ⊕ (Bool × (List aa)))) := fun s1 =>
  if (decide (s1 < (d0.length : Int))) = true then ((inO d0 s1).bind fun _ => (getO d0 s1).bind fun x6 => (gy x6).bind fun x7 => if (!x7) = true then (some (.stop (.inr (false, d0)))) else (if (decide (s1 > (0 : Int))) = true then ((inO d0 (IntKind.wrap .i64 (s1 - (1 : Int)))).bind fun _ => (getO d0 (IntKind.wrap .i64 (s1 - (1 : Int)))).bind fun x12 => if (decide (x6.aA ≤ x12.fTo)) = true then (some (.stop (.inr (false, d0)))) else (some (.next (IntKind.wrap .i64 (s1 + (1 : Int)))))) else (some (.next (IntKind.wrap .i64 (s1 + (1 : Int))))))) else (some (.stop (.inl ())))
noncomputable def iY (d0 : (List aa)) : Option (Bool × (List aa)) :=
  (loopO (hX d0) (0 : Int)).bind fun o15 => match o15 with | .inl _ => (some (true, d0)) | .inr r17 => (some r17)
noncomputable def fM (a1 : Int) (d0 : (List aa)) : Option (Bool × (List aa)) :=
  (iY d0).bind fun x1 => if x1.1 = true then (if ((x1.2.length : Int) == (0 : Int)) = true then (some (true, x1.2)) else ((inO x1.2 (0 : Int)).bind fun _ => (getO x1.2 (0 : Int)).bind fun x6 => if (decide (x6.aA ≥ (0 : Int))) = true then ((inO x1.2 (IntKind.wrap .i64 ((x1.2.length : Int) - (1 : Int)))).bind fun _ => (getO x1.2 (IntKind.wrap .i64 ((x1.2.length : Int) - (1 : Int)))).bind fun x10 => some ((decide (x10.fTo ≤ a1)), x1.2)) else (some (false, x1.2)))) else (some (false, x1.2))
noncomputable def cA (x3 : Int) (x1 : (List UInt8) × Int) : (Int × (List aa)) → Option (Step1 (Int × (List aa)) ((List aa))) := fun (s7, s8) =>
  if (decide (s7 < x3)) = true then ((aY x1.1 (IntKind.wrap .i64 ((2 : Int) * s7))).bind fun x12 => (aY x1.1 (IntKind.wrap .i64 ((IntKind.wrap .i64 ((2 : Int) * s7)) + (1 : Int)))).bind fun x13 => (appO s8 [(aa.mk x12 x13)] 16).bind fun x14 => some (.next ((IntKind.wrap .i64 (s7 + (1 : Int))), x14))) else (some (.stop s8))
noncomputable def bK (a0 : (List UInt8)) : Option ((List aa) × Int) :=
  (cM a0 ([82] : List UInt8) (5 : Int)).bind fun x1 => if (x1.2 != (0 : Int)) = true then (some (([] : (List aa)), x1.2)) else ((quoO .i64 (x1.1.length : Int) (8 : Int)).bind fun x3 => (remO (x1.1.length : Int) (8 : Int)).bind fun x4 => if (x4 != (0 : Int)) = true then (some (([] : (List aa)), (3 : Int))) else (if (decide (x3 > (16 : Int))) = true then (some (([] : (List aa)), (3 : Int))) else ((loopO (cA x3 x1) ((0 : Int), ([] : (List aa)))).bind fun o16 => (fM (1073741825 : Int) o16).bind fun x17 => if (!x17.1) = true then (some (([] : (List aa)), (3 : Int))) else (some (x17.2, (0 : Int))))))
noncomputable def dz (a0 : aa) (d0 : Int) : Option (Bool) :=
  if (decide (a0.aA ≤ d0)) = true then (some (decide (d0 < a0.fTo))) else (some false)
noncomputable def bI (a0 : (List aa)) (d0 : Int) : Int → Option (Step1 (Int) ((Unit) ⊕ (Int))) := fun s1 =>
  if (decide (s1 < (a0.length : Int))) = true then ((getO a0 s1).bind fun x4 => (dz x4 d0).bind fun x5 => if x5 = true then (some (.stop (.inr s1))) else (some (.next (IntKind.wrap .i64 (s1 + (1 : Int)))))) else (some (.stop (.inl ())))
noncomputable def ba (a0 : (List aa)) (d0 : Int) : Option (Int) :=
  (loopO (bI a0 d0) (0 : Int)).bind fun o8 => match o8 with | .inl _ => (some (-1 : Int)) | .inr r10 => (some r10)
noncomputable def aZ (a0 : (List aa)) (d0 : Int) : Option (Bool) :=
  (ba a0 d0).bind fun x1 => some (decide (x1 ≥ (0 : Int)))
noncomputable def dV (a0 : ah) (a2 : Int) (a1 : (List aa)) : ((List Int) × Int) → Option (Step1 ((List Int) × Int) ((List Int))) := fun (s5, s6) =>
  (bf a0).bind fun x9 => if (decide (s6 < x9)) = true then (if (decide ((s5.length : Int) < a2)) = true then ((aZ a1 s6).bind fun x12 => if x12 = true then ((appO s5 [s6] 8).bind fun x14 => some (.next (x14, (IntKind.wrap .i64 (s6 + (1 : Int)))))) else (some (.next (s5, (IntKind.wrap .i64 (s6 + (1 : Int))))))) else (some (.stop s5))) else (some (.stop s5))
noncomputable def gE (a0 : ah) (a1 : (List aa)) (a2 : Int) : Option ((List Int) × Int) :=
  (bR a0).bind fun x1 => if (!x1) = true then (some (([] : (List Int)), (1 : Int))) else ((ek a2 (0 : Int) (256 : Int)).bind fun x3 => if (!x3) = true then (some (([] : (List Int)), (2 : Int))) else ((loopO (dV a0 a2 a1) (([] : (List Int)), a0.aw)).bind fun o16 => some (o16, (0 : Int))))
noncomputable def jU (a0 : ah) (a1 : Int) : Option ((List UInt8) × Bool) :=
  (bR a0).bind fun x1 => if (!x1) = true then (some (([] : (List UInt8)), false)) else ((bf a0).bind fun x3 => (ek a1 a0.aw (IntKind.wrap .i64 (x3 - (1 : Int)))).bind fun x4 => if (!x4) = true then (some (([] : (List UInt8)), false)) else ((getO a0.aC (IntKind.wrap .i64 (a1 - a0.aw))).bind fun x6 => some (x6, true)))
noncomputable def eo (a0 : (List ae)) : Option (ae × (List ae)) :=
  if ((a0.length : Int) == (0 : Int)) = true then (some ((ae.mk false 0 0), ([] : (List ae)))) else ((getO a0 (0 : Int)).bind fun x2 => (cutO a0 1 (a0.length : Int)).bind fun x3 => some (x2, x3))
noncomputable def iv (a0 : (List UInt8)) (e1 : Int) (e2 : Int) (e3 : Int) (e4 : Int) (e5 : Int) (e6 : (List (List UInt8))) (e7 : (List aa)) (e8 : (List aa)) (e9 : Int) (e10 : Int) (e11 : (List ac)) (e12 : Int) (e13 : Int) (e14 : (List ac)) (e15 : (List ae)) (e16 : (List ae)) (d1 : (List aj)) : Option (Int × Int × Int × Int × Int × (List (List UInt8)) × (List aa) × (List aa) × Int × Int × (List ac) × Int × Int × (List ac) × (List ae) × (List ae)) :=
  (eo e15).bind fun x1 => (fd (ak.mk e9 e10 e11) a0 x1.1).bind fun x2 => if (x2.2 == (0 : Int)) = true then (some (e1, e2, e3, e4, e5, e6, e7, e8, x2.1.az, x2.1.aq, x2.1.av, e12, e13, e14, x1.2, e16)) else (some (e1, e2, e3, e4, e5, e6, e7, e8, e9, e10, e11, e12, e13, e14, x1.2, e16))
noncomputable def gQ (x3 : (List Int) × Int) (d1 : (List aj)) : (Int × Int × Int × Int × Int × Int × (List (List UInt8)) × (List aa) × (List aa) × Int × Int × (List ac) × Int × Int × (List ac) × (List ae) × (List ae)) → Option (Step1 (Int × Int × Int × Int × Int × Int × (List (List UInt8)) × (List aa) × (List aa) × Int × Int × (List ac) × Int × Int × (List ac) × (List ae) × (List ae)) (Int × Int × Int × Int × Int × (List (List UInt8)) × (List aa) × (List aa) × Int × Int × (List ac) × Int × Int × (List ac) × (List ae) × (List ae))) := fun (s4, s5, s6, s7, s8, s9, s10, s11, s12, s13, s14, s15, s16, s17, s18, s19, s20) =>
  if (decide (s4 < (x3.1.length : Int))) = true then ((getO x3.1 s4).bind fun x23 => (jU (ah.mk s8 s9 s10) x23).bind fun x24 => (cK x23 s9 x24.1).bind fun x25 => if (x25.2 == (0 : Int)) = true then ((iv x25.1 s5 s6 s7 s8 s9 s10 s11 s12 s13 s14 s15 s16 s17 s18 s19 s20 d1).bind fun x27 => some (.next ((IntKind.wrap .i64 (s4 + (1 : Int))), x27.1, x27.2.1, x27.2.2.1, x27.2.2.2.1, x27.2.2.2.2.1, x27.2.2.2.2.2.1, x27.2.2.2.2.2.2.1, x27.2.2.2.2.2.2.2.1, x27.2.2.2.2.2.2.2.2.1, x27.2.2.2.2.2.2.2.2.2.1, x27.2.2.2.2.2.2.2.2.2.2.1, x27.2.2.2.2.2.2.2.2.2.2.2.1, x27.2.2.2.2.2.2.2.2.2.2.2.2.1, x27.2.2.2.2.2.2.2.2.2.2.2.2.2.1, x27.2.2.2.2.2.2.2.2.2.2.2.2.2.2.1, x27.2.2.2.2.2.2.2.2.2.2.2.2.2.2.2))) else (some (.next ((IntKind.wrap .i64 (s4 + (1 : Int))), s5, s6, s7, s8, s9, s10, s11, s12, s13, s14, s15, s16, s17, s18, s19, s20)))) else ((some (s5, s6, s7, s8, s9, s10, s11, s12, s13, s14, s15, s16, s17, s18, s19, s20)).bind fun z28 => some (.stop z28))
noncomputable def iS (a0 : (List UInt8)) (e1 : Int) (e2 : Int) (e3 : Int) (e4 : Int) (e5 : Int) (e6 : (List (List UInt8))) (e7 : (List aa)) (e8 : (List aa)) (e9 : Int) (e10 : Int) (e11 : (List ac)) (e12 : Int) (e13 : Int) (e14 : (List ac)) (e15 : (List ae)) (e16 : (List ae)) (d1 : (List aj)) : Option (Int × Int × Int × Int × Int × (List (List UInt8)) × (List aa) × (List aa) × Int × Int × (List ac) × Int × Int × (List ac) × (List ae) × (List ae)) :=
  (bK a0).bind fun x1 => if (x1.2 != (0 : Int)) = true then (some (e1, e2, e3, e4, e5, e6, e7, e8, e9, e10, e11, e12, e13, e14, e15, e16)) else ((gE (ah.mk e4 e5 e6) x1.1 (16 : Int)).bind fun x3 => (loopO (gQ x3 d1) ((0 : Int), e1, e2, e3, e4, e5, e6, e7, e8, e9, e10, e11, e12, e13, e14, e15, e16)).bind fun o30 => some o30)
noncomputable def cu (a0 : ah) : Option ((List UInt8) × Int) :=
  (bR a0).bind fun x1 => if (!x1) = true then (some (([] : (List UInt8)), (1 : Int))) else ((bf a0).bind fun x3 => (bD ([83] : List UInt8) [a0.aw, x3]).bind fun x4 => (cn x4).bind fun x5 => some (x5, (0 : Int)))
noncomputable def cX (j4 : Int) : Option (Int) :=
  some j4
noncomputable def cY (a0 : ai) (j3 : Int) : Option (Int) :=
  if (decide ((a0.aF.length : Int) > (0 : Int))) = true then ((getO a0.aF (IntKind.wrap .i64 ((a0.aF.length : Int) - (1 : Int)))).bind fun x7 => cX (if x7.fTo > j3 then x7.fTo else j3)) else (cX j3)
noncomputable def gD (a0 : ai) : Option (Int) :=
  (bt a0).bind fun x1 => if (!x1) = true then (some (0 : Int)) else (if (decide ((a0.aK.length : Int) > (0 : Int))) = true then ((getO a0.aK (IntKind.wrap .i64 ((a0.aK.length : Int) - (1 : Int)))).bind fun x10 => cY a0 (if x10.fTo > (0 : Int) then x10.fTo else (0 : Int))) else (cY a0 (0 : Int)))
noncomputable def fy (a0 : ai) : Option ((List aa)) :=
  (gw a0.aK a0.aF).bind fun x1 => some x1
noncomputable def cm (a0 : ai) (a1 : Int) : Option ((List aa) × Int) :=
  (bt a0).bind fun x1 => if (!x1) = true then (some (([] : (List aa)), (1 : Int))) else ((dp a1 (0 : Int) (1073741825 : Int)).bind fun x3 => if (!x3) = true then (some (([] : (List aa)), (2 : Int))) else ((gD a0).bind fun x5 => (fy a0).bind fun x6 => (gr [(aa.mk 0 (if x5 > a1 then x5 else a1))] x6).bind fun x7 => some (x7, (0 : Int))))
noncomputable def iH (x1 : (List aa)) : (Int × Int × (List aa)) → Option (Step1 (Int × Int × (List aa)) ((List aa))) := fun (s2, s3, s4) =>
  if (decide (s3 < (x1.length : Int))) = true then ((getO x1 s3).bind fun x8 => if (decide (s2 < (1 : Int))) = true then (some (.stop s4)) else (if (decide ((IntKind.wrap .u64 ((IntKind.wrap .u64 x8.fTo) - (IntKind.wrap .u64 x8.aA))) > (IntKind.wrap .u64 s2))) = true then ((appO s4 [(aa.mk x8.aA (IntKind.wrap .i64 (x8.aA + s2)))] 16).bind fun x11 => some (.next ((0 : Int), (IntKind.wrap .i64 (s3 + (1 : Int))), x11))) else ((appO s4 [x8] 16).bind fun x12 => some (.next ((IntKind.wrap .i64 (s2 - (IntKind.wrap .i64 (IntKind.wrap .u64 ((IntKind.wrap .u64 x8.fTo) - (IntKind.wrap .u64 x8.aA)))))), (IntKind.wrap .i64 (s3 + (1 : Int))), x12))))) else (some (.stop s4))
noncomputable def jZ (a0 : (List aa)) (a1 : Int) : Option ((List aa)) :=
  (cN a0).bind fun x1 => (loopO (iH x1) (a1, (0 : Int), ([] : (List aa)))).bind fun o14 => some o14
noncomputable def cZ (a0 : ai) (a1 : Int) (a2 : Int) : Option ((List aa) × Int) :=
  (cm a0 a1).bind fun x1 => if (x1.2 != (0 : Int)) = true then (some (([] : (List aa)), x1.2)) else ((dp a2 (0 : Int) (256 : Int)).bind fun x3 => if (!x3) = true then (some (([] : (List aa)), (2 : Int))) else ((jZ x1.1 a2).bind fun x5 => some (x5, (0 : Int))))
noncomputable def eJ (a0 : (List aa)) (a1 : Int) : Option (Bool) :=
  (iL a0).bind fun x1 => if x1 = true then (if ((a0.length : Int) == (0 : Int)) = true then (some true) else ((getO a0 (0 : Int)).bind fun x4 => if (decide (x4.aA ≥ (0 : Int))) = true then ((getO a0 (IntKind.wrap .i64 ((a0.length : Int) - (1 : Int)))).bind fun x6 => some (decide (x6.fTo ≤ a1))) else (some false))) else (some false)
noncomputable def d8 (a1 : (List aa)) : ((List UInt8) × Int) → Option (Step1 ((List UInt8) × Int) ((List UInt8))) := fun (s6, s7) =>
  if (decide (s7 < (a1.length : Int))) = true then ((getO a1 s7).bind fun x11 => (bD s6 [x11.aA, x11.fTo]).bind fun x12 => some (.next (x12, (IntKind.wrap .i64 (s7 + (1 : Int)))))) else (some (.stop s6))
noncomputable def c9 (a0 : Int) (a1 : (List aa)) : Option ((List UInt8) × Int) :=
  (bu a0 (0 : Int) (1073741825 : Int)).bind fun x1 => if (!x1) = true then (some (([] : (List UInt8)), (1 : Int))) else ((eJ a1 a0).bind fun x3 => if (!x3) = true then (some (([] : (List UInt8)), (1 : Int))) else (if (decide ((a1.length : Int) > (16 : Int))) = true then (some (([] : (List UInt8)), (8 : Int))) else ((loopO (d8 a1) ([82], (0 : Int))).bind fun o14 => (cn o14).bind fun x15 => some (x15, (0 : Int)))))
noncomputable def lI (a0 : (List UInt8)) (e1 : Int) (e2 : Int) (e3 : Int) (e4 : Int) (e5 : Int) (e6 : (List (List UInt8))) (e7 : (List aa)) (e8 : (List aa)) (e9 : Int) (e10 : Int) (e11 : (List ac)) (e12 : Int) (e13 : Int) (e14 : (List ac)) (e15 : (List ae)) (e16 : (List ae)) (d1 : (List aj)) : Option (Int × Int × Int × Int × Int × (List (List UInt8)) × (List aa) × (List aa) × Int × Int × (List ac) × Int × Int × (List ac) × (List ae) × (List ae)) :=
  (eo e16).bind fun x1 => (fd (ak.mk e12 e13 e14) a0 x1.1).bind fun x2 => if (x2.2 == (0 : Int)) = true then (some (e1, e2, e3, e4, e5, e6, e7, e8, e9, e10, e11, x2.1.az, x2.1.aq, x2.1.av, e15, x1.2)) else (some (e1, e2, e3, e4, e5, e6, e7, e8, e9, e10, e11, e12, e13, e14, e15, x1.2))
noncomputable def ef (e0 : Int) (e1 : Int) (e2 : Int) (e3 : Int) (e4 : Int) (e5 : (List (List UInt8))) (e6 : (List aa)) (e7 : (List aa)) (e8 : Int) (e9 : Int) (e10 : (List ac)) (e11 : Int) (e12 : Int) (e13 : (List ac)) (e14 : (List ae)) (e15 : (List ae)) (d1 : (List aj)) : Option (Int × Int × Int × Int × Int × (List (List UInt8)) × (List aa) × (List aa) × Int × Int × (List ac) × Int × Int × (List ac) × (List ae) × (List ae)) :=
  (cu (ah.mk e3 e4 e5)).bind fun x1 => (iv x1.1 e0 e1 e2 e3 e4 e5 e6 e7 e8 e9 e10 e11 e12 e13 e14 e15 d1).bind fun x2 => (cZ (ai.mk x2.2.2.2.2.2.2.1 x2.2.2.2.2.2.2.2.1) x2.2.2.1 (16 : Int)).bind fun x3 => if (x3.2 != (0 : Int)) = true then (some (x2.1, x2.2.1, x2.2.2.1, x2.2.2.2.1, x2.2.2.2.2.1, x2.2.2.2.2.2.1, x2.2.2.2.2.2.2.1, x2.2.2.2.2.2.2.2.1, x2.2.2.2.2.2.2.2.2.1, x2.2.2.2.2.2.2.2.2.2.1, x2.2.2.2.2.2.2.2.2.2.2.1, x2.2.2.2.2.2.2.2.2.2.2.2.1, x2.2.2.2.2.2.2.2.2.2.2.2.2.1, x2.2.2.2.2.2.2.2.2.2.2.2.2.2.1, x2.2.2.2.2.2.2.2.2.2.2.2.2.2.2.1, x2.2.2.2.2.2.2.2.2.2.2.2.2.2.2.2)) else (if ((x3.1.length : Int) == (0 : Int)) = true then (some (x2.1, x2.2.1, x2.2.2.1, x2.2.2.2.1, x2.2.2.2.2.1, x2.2.2.2.2.2.1, x2.2.2.2.2.2.2.1, x2.2.2.2.2.2.2.2.1, x2.2.2.2.2.2.2.2.2.1, x2.2.2.2.2.2.2.2.2.2.1, x2.2.2.2.2.2.2.2.2.2.2.1, x2.2.2.2.2.2.2.2.2.2.2.2.1, x2.2.2.2.2.2.2.2.2.2.2.2.2.1, x2.2.2.2.2.2.2.2.2.2.2.2.2.2.1, x2.2.2.2.2.2.2.2.2.2.2.2.2.2.2.1, x2.2.2.2.2.2.2.2.2.2.2.2.2.2.2.2)) else ((getO x3.1 (IntKind.wrap .i64 ((x3.1.length : Int) - (1 : Int)))).bind fun x6 => (c9 x6.fTo x3.1).bind fun x7 => if (x7.2 == (0 : Int)) = true then ((lI x7.1 x2.1 x2.2.1 x2.2.2.1 x2.2.2.2.1 x2.2.2.2.2.1 x2.2.2.2.2.2.1 x2.2.2.2.2.2.2.1 x2.2.2.2.2.2.2.2.1 x2.2.2.2.2.2.2.2.2.1 x2.2.2.2.2.2.2.2.2.2.1 x2.2.2.2.2.2.2.2.2.2.2.1 x2.2.2.2.2.2.2.2.2.2.2.2.1 x2.2.2.2.2.2.2.2.2.2.2.2.2.1 x2.2.2.2.2.2.2.2.2.2.2.2.2.2.1 x2.2.2.2.2.2.2.2.2.2.2.2.2.2.2.1 x2.2.2.2.2.2.2.2.2.2.2.2.2.2.2.2 d1).bind fun x9 => some (x9.1, x9.2.1, x9.2.2.1, x9.2.2.2.1, x9.2.2.2.2.1, x9.2.2.2.2.2.1, x9.2.2.2.2.2.2.1, x9.2.2.2.2.2.2.2.1, x9.2.2.2.2.2.2.2.2.1, x9.2.2.2.2.2.2.2.2.2.1, x9.2.2.2.2.2.2.2.2.2.2.1, x9.2.2.2.2.2.2.2.2.2.2.2.1, x9.2.2.2.2.2.2.2.2.2.2.2.2.1, x9.2.2.2.2.2.2.2.2.2.2.2.2.2.1, x9.2.2.2.2.2.2.2.2.2.2.2.2.2.2.1, x9.2.2.2.2.2.2.2.2.2.2.2.2.2.2.2)) else (some (x2.1, x2.2.1, x2.2.2.1, x2.2.2.2.1, x2.2.2.2.2.1, x2.2.2.2.2.2.1, x2.2.2.2.2.2.2.1, x2.2.2.2.2.2.2.2.1, x2.2.2.2.2.2.2.2.2.1, x2.2.2.2.2.2.2.2.2.2.1, x2.2.2.2.2.2.2.2.2.2.2.1, x2.2.2.2.2.2.2.2.2.2.2.2.1, x2.2.2.2.2.2.2.2.2.2.2.2.2.1, x2.2.2.2.2.2.2.2.2.2.2.2.2.2.1, x2.2.2.2.2.2.2.2.2.2.2.2.2.2.2.1, x2.2.2.2.2.2.2.2.2.2.2.2.2.2.2.2))))
noncomputable def da (x9 : ak × (List (List UInt8)) × Int) : (Int × Int × Int × Int × Int × Int × (List (List UInt8)) × (List aa) × (List aa) × Int × Int × (List ac) × Int × Int × (List ac) × (List ae) × (List ae) × (List aj)) → Option (Step1 (Int × Int × Int × Int × Int × Int × (List (List UInt8)) × (List aa) × (List aa) × Int × Int × (List ac) × Int × Int × (List ac) × (List ae) × (List ae) × (List aj)) (Int × Int × Int × Int × Int × (List (List UInt8)) × (List aa) × (List aa) × Int × Int × (List ac) × Int × Int × (List ac) × (List ae) × (List ae) × (List aj))) := fun (s10, s11, s12, s13, s14, s15, s16, s17, s18, s19, s20, s21, s22, s23, s24, s25, s26, s27) =>
  if (decide (s10 < (x9.2.1.length : Int))) = true then ((getO x9.2.1 s10).bind fun x47 => (fc x47 s11 s12 s13 s14 s15 s16 s17 s18 s19 s20 s21 s22 s23 s24 s25 s26 s27).bind fun x48 => (dn x47 x48.1 x48.2.1 x48.2.2.1 x48.2.2.2.1 x48.2.2.2.2.1 x48.2.2.2.2.2.1 x48.2.2.2.2.2.2.1 x48.2.2.2.2.2.2.2.1 x48.2.2.2.2.2.2.2.2.1 x48.2.2.2.2.2.2.2.2.2.1 x48.2.2.2.2.2.2.2.2.2.2.1 x48.2.2.2.2.2.2.2.2.2.2.2.1 x48.2.2.2.2.2.2.2.2.2.2.2.2.1 x48.2.2.2.2.2.2.2.2.2.2.2.2.2.1 x48.2.2.2.2.2.2.2.2.2.2.2.2.2.2.1 x48.2.2.2.2.2.2.2.2.2.2.2.2.2.2.2.1 x48.2.2.2.2.2.2.2.2.2.2.2.2.2.2.2.2).bind fun x49 => some (.next ((IntKind.wrap .i64 (s10 + (1 : Int))), x49.1, x49.2.1, x49.2.2.1, x49.2.2.2.1, x49.2.2.2.2.1, x49.2.2.2.2.2.1, x49.2.2.2.2.2.2.1, x49.2.2.2.2.2.2.2.1, x49.2.2.2.2.2.2.2.2.1, x49.2.2.2.2.2.2.2.2.2.1, x49.2.2.2.2.2.2.2.2.2.2.1, x49.2.2.2.2.2.2.2.2.2.2.2.1, x49.2.2.2.2.2.2.2.2.2.2.2.2.1, x49.2.2.2.2.2.2.2.2.2.2.2.2.2.1, x49.2.2.2.2.2.2.2.2.2.2.2.2.2.2.1, x49.2.2.2.2.2.2.2.2.2.2.2.2.2.2.2, x48.2.2.2.2.2.2.2.2.2.2.2.2.2.2.2.2))) else (some (.stop (s11, s12, s13, s14, s15, s16, s17, s18, s19, s20, s21, s22, s23, s24, s25, s26, s27)))
noncomputable def db (x52 : ak × (List (List UInt8)) × Int) (o51 : Int × Int × Int × Int × Int × (List (List UInt8)) × (List aa) × (List aa) × Int × Int × (List ac) × Int × Int × (List ac) × (List ae) × (List ae) × (List aj)) : (Int × Int × Int × Int × Int × Int × (List (List UInt8)) × (List aa) × (List aa) × Int × Int × (List ac) × Int × Int × (List ac) × (List ae) × (List ae)) → Option (Step1 (Int × Int × Int × Int × Int × Int × (List (List UInt8)) × (List aa) × (List aa) × Int × Int × (List ac) × Int × Int × (List ac) × (List ae) × (List ae)) (Int × Int × Int × Int × Int × (List (List UInt8)) × (List aa) × (List aa) × Int × Int × (List ac) × Int × Int × (List ac) × (List ae) × (List ae))) := fun (s53, s54, s55, s56, s57, s58, s59, s60, s61, s62, s63, s64, s65, s66, s67, s68, s69) =>
  if (decide (s53 < (x52.2.1.length : Int))) = true then ((getO x52.2.1 s53).bind fun x88 => (iS x88 s54 s55 s56 s57 s58 s59 s60 s61 s62 s63 s64 s65 s66 s67 s68 s69 o51.2.2.2.2.2.2.2.2.2.2.2.2.2.2.2.2).bind fun x89 => some (.next ((IntKind.wrap .i64 (s53 + (1 : Int))), x89.1, x89.2.1, x89.2.2.1, x89.2.2.2.1, x89.2.2.2.2.1, x89.2.2.2.2.2.1, x89.2.2.2.2.2.2.1, x89.2.2.2.2.2.2.2.1, x89.2.2.2.2.2.2.2.2.1, x89.2.2.2.2.2.2.2.2.2.1, x89.2.2.2.2.2.2.2.2.2.2.1, x89.2.2.2.2.2.2.2.2.2.2.2.1, x89.2.2.2.2.2.2.2.2.2.2.2.2.1, x89.2.2.2.2.2.2.2.2.2.2.2.2.2.1, x89.2.2.2.2.2.2.2.2.2.2.2.2.2.2.1, x89.2.2.2.2.2.2.2.2.2.2.2.2.2.2.2))) else (some (.stop (s54, s55, s56, s57, s58, s59, s60, s61, s62, s63, s64, s65, s66, s67, s68, s69)))
noncomputable def ch (a0 : ag) (a1 : (List ae)) (a2 : (List ae)) : Option (ag × Int) :=
  (bT a0).bind fun x1 => if (!x1) = true then (some ((ag.mk 0 0 0 (ah.mk 0 0 []) (ai.mk [] []) (ak.mk 0 0 []) (ak.mk 0 0 []) []), (1 : Int))) else ((aM a1).bind fun x3 => if x3 = true then (some ((ag.mk 0 0 0 (ah.mk 0 0 []) (ai.mk [] []) (ak.mk 0 0 []) (ak.mk 0 0 []) []), (1 : Int))) else ((aM a2).bind fun x5 => if x5 = true then (some ((ag.mk 0 0 0 (ah.mk 0 0 []) (ai.mk [] []) (ak.mk 0 0 []) (ak.mk 0 0 []) []), (1 : Int))) else (if (a0.az == (1099511627776 : Int)) = true then (some ((ag.mk 0 0 0 (ah.mk 0 0 []) (ai.mk [] []) (ak.mk 0 0 []) (ak.mk 0 0 []) []), (8 : Int))) else ((bW a0).bind fun x8 => (fe x8.aB).bind fun x9 => (loopO (da x9) ((0 : Int), (IntKind.wrap .i64 (x8.az + (1 : Int))), x8.aD, x8.aJ, x8.ar.aG, x8.ar.aw, x8.ar.aC, x8.ap.aK, x8.ap.aF, x9.1.az, x9.1.aq, x9.1.av, x8.fUp.az, x8.fUp.aq, x8.fUp.av, a1, a2, x8.au)).bind fun o51 => (fe (ak.mk o51.2.2.2.2.2.2.2.2.2.2.2.1 o51.2.2.2.2.2.2.2.2.2.2.2.2.1 o51.2.2.2.2.2.2.2.2.2.2.2.2.2.1)).bind fun x52 => (loopO (db x52 o51) ((0 : Int), o51.1, o51.2.1, o51.2.2.1, o51.2.2.2.1, o51.2.2.2.2.1, o51.2.2.2.2.2.1, o51.2.2.2.2.2.2.1, o51.2.2.2.2.2.2.2.1, o51.2.2.2.2.2.2.2.2.1, o51.2.2.2.2.2.2.2.2.2.1, o51.2.2.2.2.2.2.2.2.2.2.1, x52.1.az, x52.1.aq, x52.1.av, o51.2.2.2.2.2.2.2.2.2.2.2.2.2.2.1, o51.2.2.2.2.2.2.2.2.2.2.2.2.2.2.2.1)).bind fun o91 => (remO o91.1 o91.2.1).bind fun x92 => if (x92 == (0 : Int)) = true then ((ef o91.1 o91.2.1 o91.2.2.1 o91.2.2.2.1 o91.2.2.2.2.1 o91.2.2.2.2.2.1 o91.2.2.2.2.2.2.1 o91.2.2.2.2.2.2.2.1 o91.2.2.2.2.2.2.2.2.1 o91.2.2.2.2.2.2.2.2.2.1 o91.2.2.2.2.2.2.2.2.2.2.1 o91.2.2.2.2.2.2.2.2.2.2.2.1 o91.2.2.2.2.2.2.2.2.2.2.2.2.1 o91.2.2.2.2.2.2.2.2.2.2.2.2.2.1 o91.2.2.2.2.2.2.2.2.2.2.2.2.2.2.1 o91.2.2.2.2.2.2.2.2.2.2.2.2.2.2.2 o51.2.2.2.2.2.2.2.2.2.2.2.2.2.2.2.2).bind fun x94 => some ((ag.mk x94.1 x94.2.1 x94.2.2.1 (ah.mk x94.2.2.2.1 x94.2.2.2.2.1 x94.2.2.2.2.2.1) (ai.mk x94.2.2.2.2.2.2.1 x94.2.2.2.2.2.2.2.1) (ak.mk x94.2.2.2.2.2.2.2.2.1 x94.2.2.2.2.2.2.2.2.2.1 x94.2.2.2.2.2.2.2.2.2.2.1) (ak.mk x94.2.2.2.2.2.2.2.2.2.2.2.1 x94.2.2.2.2.2.2.2.2.2.2.2.2.1 x94.2.2.2.2.2.2.2.2.2.2.2.2.2.1) o51.2.2.2.2.2.2.2.2.2.2.2.2.2.2.2.2), (0 : Int))) else (some ((ag.mk o91.1 o91.2.1 o91.2.2.1 (ah.mk o91.2.2.2.1 o91.2.2.2.2.1 o91.2.2.2.2.2.1) (ai.mk o91.2.2.2.2.2.2.1 o91.2.2.2.2.2.2.2.1) (ak.mk o91.2.2.2.2.2.2.2.2.1 o91.2.2.2.2.2.2.2.2.2.1 o91.2.2.2.2.2.2.2.2.2.2.1) (ak.mk o91.2.2.2.2.2.2.2.2.2.2.2.1 o91.2.2.2.2.2.2.2.2.2.2.2.2.1 o91.2.2.2.2.2.2.2.2.2.2.2.2.2.1) o51.2.2.2.2.2.2.2.2.2.2.2.2.2.2.2.2), (0 : Int)))))))
noncomputable def g9  : (Int × Int × Int × Int × Int × Int × Int × (List (List UInt8)) × (List aa) × (List aa) × Int × Int × (List ac) × Int × Int × (List ac) × (List aj)) → Option (Step1 (Int × Int × Int × Int × Int × Int × Int × (List (List UInt8)) × (List aa) × (List aa) × Int × Int × (List ac) × Int × Int × (List ac) × (List aj)) (Int × Int × Int × Int × Int × Int × (List (List UInt8)) × (List aa) × (List aa) × Int × Int × (List ac) × Int × Int × (List ac) × (List aj))) := fun (s22, s23, s24, s25, s26, s27, s28, s29, s30, s31, s32, s33, s34, s35, s36, s37, s38) =>
  if (decide (s22 > (0 : Int))) = true then (if (s23 == (0 : Int)) = true then ((ch (ag.mk s24 s25 s26 (ah.mk s27 s28 s29) (ai.mk s30 s31) (ak.mk s32 s33 s34) (ak.mk s35 s36 s37) s38) [] []).bind fun x58 => some (.next ((IntKind.wrap .i64 (s22 - (1 : Int))), x58.2, x58.1.az, x58.1.aD, x58.1.aJ, x58.1.ar.aG, x58.1.ar.aw, x58.1.ar.aC, x58.1.ap.aK, x58.1.ap.aF, x58.1.aB.az, x58.1.aB.aq, x58.1.aB.av, x58.1.fUp.az, x58.1.fUp.aq, x58.1.fUp.av, x58.1.au))) else (some (.stop (s23, s24, s25, s26, s27, s28, s29, s30, s31, s32, s33, s34, s35, s36, s37, s38)))) else (some (.stop (s23, s24, s25, s26, s27, s28, s29, s30, s31, s32, s33, s34, s35, s36, s37, s38)))
noncomputable def d9 (a0 : ag) (a1 : Int) : Option (ag × Int) :=
  (bu a1 (0 : Int) (100000 : Int)).bind fun x1 => if (!x1) = true then (some ((ag.mk 0 0 0 (ah.mk 0 0 []) (ai.mk [] []) (ak.mk 0 0 []) (ak.mk 0 0 []) []), (2 : Int))) else ((bT a0).bind fun x3 => if (!x3) = true then (some ((ag.mk 0 0 0 (ah.mk 0 0 []) (ai.mk [] []) (ak.mk 0 0 []) (ak.mk 0 0 []) []), (1 : Int))) else ((bW a0).bind fun x5 => (loopO (g9) (a1, (0 : Int), x5.az, x5.aD, x5.aJ, x5.ar.aG, x5.ar.aw, x5.ar.aC, x5.ap.aK, x5.ap.aF, x5.aB.az, x5.aB.aq, x5.aB.av, x5.fUp.az, x5.fUp.aq, x5.fUp.av, x5.au)).bind fun o60 => some ((ag.mk o60.2.1 o60.2.2.1 o60.2.2.2.1 (ah.mk o60.2.2.2.2.1 o60.2.2.2.2.2.1 o60.2.2.2.2.2.2.1) (ai.mk o60.2.2.2.2.2.2.2.1 o60.2.2.2.2.2.2.2.2.1) (ak.mk o60.2.2.2.2.2.2.2.2.2.1 o60.2.2.2.2.2.2.2.2.2.2.1 o60.2.2.2.2.2.2.2.2.2.2.2.1) (ak.mk o60.2.2.2.2.2.2.2.2.2.2.2.2.1 o60.2.2.2.2.2.2.2.2.2.2.2.2.2.1 o60.2.2.2.2.2.2.2.2.2.2.2.2.2.2.1) o60.2.2.2.2.2.2.2.2.2.2.2.2.2.2.2), o60.1)))
noncomputable def br (a0 : ag) : Option (Bool) :=
  (bf a0.ar).bind fun x1 => (cm a0.ap x1).bind fun x2 => (bT a0).bind fun x3 => if x3 = true then (if (x2.2 == (0 : Int)) = true then (some ((x2.1.length : Int) == (0 : Int))) else (some false)) else (some false)
noncomputable def iA  : (Int × Int × Int × Int × Int × Int × Int × (List (List UInt8)) × (List aa) × (List aa) × Int × Int × (List ac) × Int × Int × (List ac) × (List aj)) → Option (Step1 (Int × Int × Int × Int × Int × Int × Int × (List (List UInt8)) × (List aa) × (List aa) × Int × Int × (List ac) × Int × Int × (List ac) × (List aj)) (Int × Int × Int × Int × Int × Int × (List (List UInt8)) × (List aa) × (List aa) × Int × Int × (List ac) × Int × Int × (List ac) × (List aj))) := fun (s2, s3, s4, s5, s6, s7, s8, s9, s10, s11, s12, s13, s14, s15, s16, s17, s18) =>
  if (decide (s3 < (3 : Int))) = true then (if (s2 == (0 : Int)) = true then ((getO [[97], [98], [99]] s3).bind fun x38 => (bS (ag.mk s4 s5 s6 (ah.mk s7 s8 s9) (ai.mk s10 s11) (ak.mk s12 s13 s14) (ak.mk s15 s16 s17) s18) x38 (ae.mk (decide (s3 > (0 : Int))) 0 0)).bind fun x39 => some (.next (x39.2.2, (IntKind.wrap .i64 (s3 + (1 : Int))), x39.1.az, x39.1.aD, x39.1.aJ, x39.1.ar.aG, x39.1.ar.aw, x39.1.ar.aC, x39.1.ap.aK, x39.1.ap.aF, x39.1.aB.az, x39.1.aB.aq, x39.1.aB.av, x39.1.fUp.az, x39.1.fUp.aq, x39.1.fUp.av, x39.1.au))) else (some (.stop (s2, s4, s5, s6, s7, s8, s9, s10, s11, s12, s13, s14, s15, s16, s17, s18)))) else (some (.stop (s2, s4, s5, s6, s7, s8, s9, s10, s11, s12, s13, s14, s15, s16, s17, s18)))
noncomputable def cp  : Option (Bool) :=
  (dt (8 : Int) (2 : Int)).bind fun x1 => (loopO (iA) (x1.2, (0 : Int), x1.1.az, x1.1.aD, x1.1.aJ, x1.1.ar.aG, x1.1.ar.aw, x1.1.ar.aC, x1.1.ap.aK, x1.1.ap.aF, x1.1.aB.az, x1.1.aB.aq, x1.1.aB.av, x1.1.fUp.az, x1.1.fUp.aq, x1.1.fUp.av, x1.1.au)).bind fun o41 => if (o41.1 != (0 : Int)) = true then (some false) else ((d9 (ag.mk o41.2.1 o41.2.2.1 o41.2.2.2.1 (ah.mk o41.2.2.2.2.1 o41.2.2.2.2.2.1 o41.2.2.2.2.2.2.1) (ai.mk o41.2.2.2.2.2.2.2.1 o41.2.2.2.2.2.2.2.2.1) (ak.mk o41.2.2.2.2.2.2.2.2.2.1 o41.2.2.2.2.2.2.2.2.2.2.1 o41.2.2.2.2.2.2.2.2.2.2.2.1) (ak.mk o41.2.2.2.2.2.2.2.2.2.2.2.2.1 o41.2.2.2.2.2.2.2.2.2.2.2.2.2.1 o41.2.2.2.2.2.2.2.2.2.2.2.2.2.2.1) o41.2.2.2.2.2.2.2.2.2.2.2.2.2.2.2) (1 : Int)).bind fun x43 => (d9 x43.1 (12 : Int)).bind fun x44 => if (x43.2 == (0 : Int)) = true then (if (x44.2 == (0 : Int)) = true then (if ((x43.1.au.length : Int) == (1 : Int)) = true then ((br x43.1).bind fun x48 => if (!x48) = true then ((br x44.1).bind fun x50 => if x50 = true then (some ((x44.1.au.length : Int) == (3 : Int))) else (some false)) else (some false)) else (some false)) else (some false)) else (some false))
noncomputable def jQ (a0 : (List Int)) : Option (Bool) :=
  some (decide ((a0.length : Int) ≤ (500 : Int)))
noncomputable def kO (a0 : (List Int)) : Option (am) :=
  some (am.mk a0 0)
noncomputable def bc (a1 : Int) (d0 : am) : Option (Int × am) :=
  if (decide (d0.fAt ≥ (d0.fL.length : Int))) = true then (some ((0 : Int), d0)) else (if (decide (a1 < (1 : Int))) = true then (some ((0 : Int), d0)) else ((getO d0.fL d0.fAt).bind fun x3 => (remO x3 a1).bind fun x4 => if (decide (x4 < (0 : Int))) = true then (some ((IntKind.wrap .i64 (x4 + a1)), (am.mk d0.fL (IntKind.wrap .i64 (d0.fAt + (1 : Int)))))) else (some (x4, (am.mk d0.fL (IntKind.wrap .i64 (d0.fAt + (1 : Int))))))))
noncomputable def ir (a1 : (List Int)) (d0 : am) : Option (Int × am) :=
  (bc (a1.length : Int) d0).bind fun x1 => (getO a1 x1.1).bind fun x2 => some (x2, x1.2)
noncomputable def dZ (a0 : ah) : Option (Int) :=
  some (IntKind.wrap .i64 (a0.aw + (a0.aC.length : Int)))
noncomputable def cW (x46 : Int × am) (s9 : Int) (s10 : Int) : (Int × (List Int) × Int × Int × Int × Int × Int × Int × (List (List UInt8)) × (List aa) × (List aa) × Int × Int × (List ac) × Int × Int × (List ac) × (List aj)) → Option (Step1 (Int × (List Int) × Int × Int × Int × Int × Int × Int × (List (List UInt8)) × (List aa) × (List aa) × Int × Int × (List ac) × Int × Int × (List ac) × (List aj)) ((Int × Int × (List Int) × Int × Int × Int × Int × Int × Int × (List (List UInt8)) × (List aa) × (List aa) × Int × Int × (List ac) × Int × Int × (List ac) × (List aj)) ⊕ (Bool))) := fun (s47, s48, s49, s50, s51, s52, s53, s54, s55, s56, s57, s58, s59, s60, s61, s62, s63, s64) =>
  if (decide (s47 < x46.1)) = true then ((bc (2 : Int) (am.mk s48 s49)).bind fun x86 => (getO [[97], [98]] x86.1).bind fun x87 => (bS (ag.mk s50 s51 s52 (ah.mk s53 s54 s55) (ai.mk s56 s57) (ak.mk s58 s59 s60) (ak.mk s61 s62 s63) s64) x87 (ae.mk false 0 0)).bind fun x88 => if (x88.2.2 != (0 : Int)) = true then (some (.stop (.inr false))) else (some (.next ((IntKind.wrap .i64 (s47 + (1 : Int))), x86.2.fL, x86.2.fAt, x88.1.az, x88.1.aD, x88.1.aJ, x88.1.ar.aG, x88.1.ar.aw, x88.1.ar.aC, x88.1.ap.aK, x88.1.ap.aF, x88.1.aB.az, x88.1.aB.aq, x88.1.aB.av, x88.1.fUp.az, x88.1.fUp.aq, x88.1.fUp.av, x88.1.au)))) else (some (.stop (.inl (s9, s10, s48, s49, s50, s51, s52, s53, s54, s55, s56, s57, s58, s59, s60, s61, s62, s63, s64))))
noncomputable def cP (y92 : Int × Int × (List Int) × Int × Int × Int × Int × Int × Int × (List (List UInt8)) × (List aa) × (List aa) × Int × Int × (List ac) × Int × Int × (List ac) × (List aj)) (x46 : Int × am) (x94 : ag × Int) : Int → Option (Step1 (Int) ((Unit) ⊕ (Bool))) := fun s99 =>
  if (decide (s99 < (IntKind.wrap .i64 (y92.1 + x46.1)))) = true then ((getO x94.1.au s99).bind fun x102 => if (x102.jK != s99) = true then (some (.stop (.inr false))) else (if (x102.fAt != (IntKind.wrap .i64 (y92.2.1 + (1 : Int)))) = true then (some (.stop (.inr false))) else (some (.next (IntKind.wrap .i64 (s99 + (1 : Int))))))) else (some (.stop (.inl ())))
noncomputable def eA  : (Int × Int × (List Int) × Int × Int × Int × Int × Int × Int × (List (List UInt8)) × (List aa) × (List aa) × Int × Int × (List ac) × Int × Int × (List ac) × (List aj)) → Option (Step1 (Int × Int × (List Int) × Int × Int × Int × Int × Int × Int × (List (List UInt8)) × (List aa) × (List aa) × Int × Int × (List ac) × Int × Int × (List ac) × (List aj)) ((Int × Int × Int × Int × Int × Int × (List (List UInt8)) × (List aa) × (List aa) × Int × Int × (List ac) × Int × Int × (List ac) × (List aj)) ⊕ (Bool))) := fun (s9, s10, s11, s12, s13, s14, s15, s16, s17, s18, s19, s20, s21, s22, s23, s24, s25, s26, s27) =>
  if (decide (s10 < (12 : Int))) = true then ((bc (3 : Int) (am.mk s11 s12)).bind fun x46 => (loopO (cW x46 s9 s10) ((0 : Int), x46.2.fL, x46.2.fAt, s13, s14, s15, s16, s17, s18, s19, s20, s21, s22, s23, s24, s25, s26, s27)).bind fun o91 => match o91 with | .inl y92 => ((ch (ag.mk y92.2.2.2.2.1 y92.2.2.2.2.2.1 y92.2.2.2.2.2.2.1 (ah.mk y92.2.2.2.2.2.2.2.1 y92.2.2.2.2.2.2.2.2.1 y92.2.2.2.2.2.2.2.2.2.1) (ai.mk y92.2.2.2.2.2.2.2.2.2.2.1 y92.2.2.2.2.2.2.2.2.2.2.2.1) (ak.mk y92.2.2.2.2.2.2.2.2.2.2.2.2.1 y92.2.2.2.2.2.2.2.2.2.2.2.2.2.1 y92.2.2.2.2.2.2.2.2.2.2.2.2.2.2.1) (ak.mk y92.2.2.2.2.2.2.2.2.2.2.2.2.2.2.2.1 y92.2.2.2.2.2.2.2.2.2.2.2.2.2.2.2.2.1 y92.2.2.2.2.2.2.2.2.2.2.2.2.2.2.2.2.2.1) y92.2.2.2.2.2.2.2.2.2.2.2.2.2.2.2.2.2.2) [] []).bind fun x94 => if (x94.2 != (0 : Int)) = true then (some (.stop (.inr false))) else (if ((x94.1.au.length : Int) != (IntKind.wrap .i64 (y92.1 + x46.1))) = true then (some (.stop (.inr false))) else (if ((x94.1.fUp.av.length : Int) != (0 : Int)) = true then (some (.stop (.inr false))) else (if ((x94.1.ap.aF.length : Int) != (0 : Int)) = true then (some (.stop (.inr false))) else ((loopO (cP y92 x46 x94) y92.1).bind fun o106 => match o106 with | .inl _ => (some (.next ((IntKind.wrap .i64 (y92.1 + x46.1)), (IntKind.wrap .i64 (y92.2.1 + (1 : Int))), y92.2.2.1, y92.2.2.2.1, x94.1.az, x94.1.aD, x94.1.aJ, x94.1.ar.aG, x94.1.ar.aw, x94.1.ar.aC, x94.1.ap.aK, x94.1.ap.aF, x94.1.aB.az, x94.1.aB.aq, x94.1.aB.av, x94.1.fUp.az, x94.1.fUp.aq, x94.1.fUp.av, x94.1.au))) | .inr r108 => (some (.stop (.inr r108)))))))) | .inr r93 => (some (.stop (.inr r93)))) else (some (.stop (.inl (s9, s13, s14, s15, s16, s17, s18, s19, s20, s21, s22, s23, s24, s25, s26, s27))))
noncomputable def er (a0 : (List Int)) : Option (Bool) :=
  (jQ a0).bind fun x1 => if (!x1) = true then ((cp ).bind fun x3 => some x3) else ((kO a0).bind fun x4 => (ir [1, 2, 5] x4).bind fun x5 => (ir [1, 2, 3] x5.2).bind fun x6 => (dt x5.1 x6.1).bind fun x7 => if (x7.2 != (0 : Int)) = true then (some false) else ((loopO (eA) ((0 : Int), (0 : Int), x6.2.fL, x6.2.fAt, x7.1.az, x7.1.aD, x7.1.aJ, x7.1.ar.aG, x7.1.ar.aw, x7.1.ar.aC, x7.1.ap.aK, x7.1.ap.aF, x7.1.aB.az, x7.1.aB.aq, x7.1.aB.av, x7.1.fUp.az, x7.1.fUp.aq, x7.1.fUp.av, x7.1.au)).bind fun o110 => match o110 with | .inl y111 => ((br (ag.mk y111.2.1 y111.2.2.1 y111.2.2.2.1 (ah.mk y111.2.2.2.2.1 y111.2.2.2.2.2.1 y111.2.2.2.2.2.2.1) (ai.mk y111.2.2.2.2.2.2.2.1 y111.2.2.2.2.2.2.2.2.1) (ak.mk y111.2.2.2.2.2.2.2.2.2.1 y111.2.2.2.2.2.2.2.2.2.2.1 y111.2.2.2.2.2.2.2.2.2.2.2.1) (ak.mk y111.2.2.2.2.2.2.2.2.2.2.2.2.1 y111.2.2.2.2.2.2.2.2.2.2.2.2.2.1 y111.2.2.2.2.2.2.2.2.2.2.2.2.2.2.1) y111.2.2.2.2.2.2.2.2.2.2.2.2.2.2.2)).bind fun x113 => if x113 = true then ((dZ (ah.mk y111.2.2.2.2.1 y111.2.2.2.2.2.1 y111.2.2.2.2.2.2.1)).bind fun x115 => if (x115 == y111.1) = true then ((cp ).bind fun x117 => some x117) else (some false)) else (some false)) | .inr r112 => (some r112)))
end Go.Dw.Se
