
import Derived.Test.YtjecbkklfphblaaGreatDwLift4
import Derived.Test.YtjecbkklfphblaaGreatDwSortP



namespace Go.Dw.Se
open Go.Dw

structure ah where
  aF : Int
  aw : Int
  aB : (List (List UInt8))
  deriving DecidableEq
def ah.pd (x : ah) : PD := .agg [.int .i64 x.aF, .int .i64 x.aw, .lst (x.aB.map PD.str)]
structure aa where
  az : Int
  fTo : Int
  deriving DecidableEq
def aa.pd (x : aa) : PD := .agg [.int .i64 x.az, .int .i64 x.fTo]
structure ai where
  aN : (List aa)
  aG : (List aa)
  deriving DecidableEq
def ai.pd (x : ai) : PD := .agg [.lst (x.aN.map aa.pd), .lst (x.aG.map aa.pd)]
structure ac where
  fAt : Int
  aq : Int
  aB : (List UInt8)
  deriving DecidableEq
def ac.pd (x : ac) : PD := .agg [.int .i64 x.fAt, .int .i64 x.aq, .str x.aB]
structure ak where
  aA : Int
  aq : Int
  av : (List ac)
  deriving DecidableEq
def ak.pd (x : ak) : PD := .agg [.int .i64 x.aA, .int .i64 x.aq, .lst (x.av.map ac.pd)]
structure aj where
  kK : Int
  fAt : Int
  aB : (List UInt8)
  deriving DecidableEq
def aj.pd (x : aj) : PD := .agg [.int .i64 x.kK, .int .i64 x.fAt, .str x.aB]
structure ag where
  aA : Int
  aD : Int
  aM : Int
  ar : ah
  ap : ai
  aC : ak
  fUp : ak
  au : (List aj)
  deriving DecidableEq
def ag.pd (x : ag) : PD := .agg [.int .i64 x.aA, .int .i64 x.aD, .int .i64 x.aM, .int .i64 x.ar.aF, .int .i64 x.ar.aw, .lst (x.ar.aB.map PD.str), .lst (x.ap.aN.map aa.pd), .lst (x.ap.aG.map aa.pd), .int .i64 x.aC.aA, .int .i64 x.aC.aq, .lst (x.aC.av.map ac.pd), .int .i64 x.fUp.aA, .int .i64 x.fUp.aq, .lst (x.fUp.av.map ac.pd), .lst (x.au.map aj.pd)]
structure ae where
  lb : Bool
  cC : Int
  cV : Int
  deriving DecidableEq
def ae.pd (x : ae) : PD := .agg [.bool x.lb, .int .i64 x.cC, .int .i64 x.cV]
structure am where
  fL : (List Int)
  fAt : Int
  deriving DecidableEq
def am.pd (x : am) : PD := .agg [.lst (x.fL.map (PD.int .i64)), .int .i64 x.fAt]
structure dc where
  a0 : Int
  a1 : Int
  deriving DecidableEq
def dc.pd (x : dc) : PD := .agg [.int .i64 x.a0, .int .i64 x.a1]

noncomputable def eO (a0 : Int) (a1 : Int) (a2 : Int) : Option (Bool) :=
  if (decide (a0 ≥ a1)) = true then (some (decide (a0 ≤ a2))) else (some false)
noncomputable def jq (a0 : Int) : Option (ah × Int) :=
  (eO a0 (1 : Int) (256 : Int)).bind fun x1 => if (!x1) = true then (some ((ah.mk 0 0 []), (2 : Int))) else (some ((ah.mk a0 0 []), (0 : Int)))
noncomputable def aX (a0 : Int) (a1 : Int) (a2 : Int) : Option (Bool) :=
  if (decide (a0 ≥ a1)) = true then (some (decide (a0 ≤ a2))) else (some false)
noncomputable def iX  : Option (ai) :=
  some (ai.mk [] [])
noncomputable def lv  : Option (ak) :=
  some (ak.mk 0 0 [])
noncomputable def dH (a0 : Int) (a1 : Int) : Option (ag × Int) :=
  (jq a0).bind fun x1 => if (x1.2 != (0 : Int)) = true then (some ((ag.mk 0 0 0 (ah.mk 0 0 []) (ai.mk [] []) (ak.mk 0 0 []) (ak.mk 0 0 []) []), (2 : Int))) else ((aX a1 (1 : Int) (4096 : Int)).bind fun x3 => if (!x3) = true then (some ((ag.mk 0 0 0 (ah.mk 0 0 []) (ai.mk [] []) (ak.mk 0 0 []) (ak.mk 0 0 []) []), (2 : Int))) else ((iX ).bind fun x5 => (lv ).bind fun x6 => (lv ).bind fun x7 => some ((ag.mk 0 a1 0 x1.1 x5 x6 x7 []), (0 : Int))))
noncomputable def aZ (a0 : ah) : Option (Int) :=
  some (IntKind.wrap .i64 (a0.aw + (a0.aB.length : Int)))
noncomputable def ck (a0 : (List UInt8)) : Option (Bool) :=
  some (decide ((a0.length : Int) > (4064 : Int)))
noncomputable def aL (a0 : (List (List UInt8))) : Int → Option (Step1 (Int) ((Unit) ⊕ (Int))) := fun s1 =>
  if (decide (s1 < (a0.length : Int))) = true then ((getO a0 s1).bind fun x4 => (ck x4).bind fun x5 => if x5 = true then (some (.stop (.inr s1))) else (some (.next (IntKind.wrap .i64 (s1 + (1 : Int)))))) else (some (.stop (.inl ())))
noncomputable def aU (a0 : (List (List UInt8))) : Option (Int) :=
  (loopO (aL a0) (0 : Int)).bind fun o8 => match o8 with | .inl _ => (some (-1 : Int)) | .inr r10 => (some r10)
noncomputable def aK (a0 : (List (List UInt8))) : Option (Bool) :=
  (aU a0).bind fun x1 => some (decide (x1 ≥ (0 : Int)))
noncomputable def bj (a0 : ah) : Option (Bool) :=
  (eO a0.aF (1 : Int) (256 : Int)).bind fun x1 => if (!x1) = true then (some false) else ((eO a0.aw (0 : Int) (1073741825 : Int)).bind fun x3 => if (!x3) = true then (some false) else (if (decide ((a0.aB.length : Int) > a0.aF)) = true then (some false) else ((aZ a0).bind fun x6 => if (decide (x6 > (1073741825 : Int))) = true then (some false) else ((aK a0.aB).bind fun x8 => some (!x8)))))
noncomputable def eS (a0 : aa) : Option (Bool) :=
  some (decide (a0.az < a0.fTo))
noncomputable def dD (a0 : (List aa)) : Int → Option (Step1 (Int) ((Unit) ⊕ (Bool))) := fun s1 =>
  if (decide (s1 < (a0.length : Int))) = true then ((getO a0 s1).bind fun x4 => (eS x4).bind fun x5 => if (!x5) = true then (some (.stop (.inr false))) else (if (decide (s1 > (0 : Int))) = true then ((getO a0 (IntKind.wrap .i64 (s1 - (1 : Int)))).bind fun x8 => if (decide (x4.az ≤ x8.fTo)) = true then (some (.stop (.inr false))) else (some (.next (IntKind.wrap .i64 (s1 + (1 : Int)))))) else (some (.next (IntKind.wrap .i64 (s1 + (1 : Int))))))) else (some (.stop (.inl ())))
noncomputable def fN (a0 : (List aa)) : Option (Bool) :=
  (loopO (dD a0) (0 : Int)).bind fun o11 => match o11 with | .inl _ => (some true) | .inr r13 => (some r13)
noncomputable def ge (a0 : (List aa)) : Option (Bool) :=
  (fN a0).bind fun x1 => if x1 = true then (if ((a0.length : Int) == (0 : Int)) = true then (some true) else ((getO a0 (0 : Int)).bind fun x4 => if (decide (x4.az ≥ (0 : Int))) = true then ((getO a0 (IntKind.wrap .i64 ((a0.length : Int) - (1 : Int)))).bind fun x6 => some (decide (x6.fTo ≤ (1073741825 : Int)))) else (some false))) else (some false)
noncomputable def dC (a0 : aa) : Option (Bool) :=
  (eS a0).bind fun x1 => some (!x1)
noncomputable def cg (d0 : (List aa)) : Int → Option (Step1 (Int) ((Unit) ⊕ (Int × (List aa)))) := fun s1 =>
  if (decide (s1 < (d0.length : Int))) = true then ((inO d0 s1).bind fun _ => (getO d0 s1).bind fun x6 => (dC x6).bind fun x7 => if x7 = true then (some (.stop (.inr (s1, d0)))) else (some (.next (IntKind.wrap .i64 (s1 + (1 : Int)))))) else (some (.stop (.inl ())))
noncomputable def bK (d0 : (List aa)) : Option (Int × (List aa)) :=
  (loopO (cg d0) (0 : Int)).bind fun o10 => match o10 with | .inl _ => (some ((-1 : Int), d0)) | .inr r12 => (some r12)
noncomputable def bO  : (Int × Int × (List aa)) → Option (Step1 (Int × Int × (List aa)) (Int × (List aa))) := fun (s3, s4, s5) =>
  if (decide (s4 < (s5.length : Int))) = true then ((inO s5 s4).bind fun _ => (getO s5 s4).bind fun x12 => (dC x12).bind fun x13 => if (!x13) = true then ((inO s5 s3).bind fun _ => (setO s5 s3 x12).bind fun x17 => some (.next ((IntKind.wrap .i64 (s3 + (1 : Int))), (IntKind.wrap .i64 (s4 + (1 : Int))), x17))) else (some (.next (s3, (IntKind.wrap .i64 (s4 + (1 : Int))), s5)))) else (some (.stop (s3, s5)))
noncomputable def br (d0 : (List aa)) : Option ((List aa)) :=
  (bK d0).bind fun x1 => if (x1.1 == (-1 : Int)) = true then (some x1.2) else ((loopO (bO) (x1.1, (IntKind.wrap .i64 (x1.1 + (1 : Int))), x1.2)).bind fun o19 => (subO o19.2.length o19.1 (o19.2.length : Int)).bind fun _ => (viewO o19.2.length (0 + (o19.1 : Int).toNat) (0 + ((o19.2.length : Int) : Int).toNat)).bind fun _ => (subO (clearL o19.2 (0 + (o19.1 : Int).toNat) ((0 + ((o19.2.length : Int) : Int).toNat) - (0 + (o19.1 : Int).toNat)) (aa.mk 0 0)).length (0 : Int) o19.1).bind fun _ => some ((clearL o19.2 (0 + (o19.1 : Int).toNat) ((0 + ((o19.2.length : Int) : Int).toNat) - (0 + (o19.1 : Int).toNat)) (aa.mk 0 0)).take (o19.1 : Int).toNat))
noncomputable def c6 (a0 : Int) : Option (Bool) :=
  some (a0 != a0)
noncomputable def cp (a0 : Int) (a1 : Int) : Option (Int) :=
  (c6 a0).bind fun x1 => (c6 a1).bind fun x2 => if x1 = true then (if x2 = true then (some (0 : Int)) else (some (-1 : Int))) else (if x2 = true then (some (1 : Int)) else (if (decide (a0 < a1)) = true then (some (-1 : Int)) else (if (decide (a0 > a1)) = true then (some (1 : Int)) else (some (0 : Int)))))
noncomputable def aS (a0 : aa) (a1 : aa) : Option (Int) :=
  (cp a0.az a1.az).bind fun x1 => some x1
noncomputable def iN (x3 : (List aa)) : (Int × (List aa)) → Option (Step1 (Int × (List aa)) ((List aa))) := fun (s4, s5) =>
  if (decide (s4 < (x3.length : Int))) = true then ((inO x3 s4).bind fun _ => (getO x3 s4).bind fun x11 => if (decide ((s5.length : Int) > (0 : Int))) = true then ((inO s5 (IntKind.wrap .i64 ((s5.length : Int) - (1 : Int)))).bind fun _ => (getO s5 (IntKind.wrap .i64 ((s5.length : Int) - (1 : Int)))).bind fun x15 => if (decide (x11.az ≤ x15.fTo)) = true then ((inO s5 (IntKind.wrap .i64 ((s5.length : Int) - (1 : Int)))).bind fun _ => (getO s5 (IntKind.wrap .i64 ((s5.length : Int) - (1 : Int)))).bind fun x19 => (inO s5 (IntKind.wrap .i64 ((s5.length : Int) - (1 : Int)))).bind fun _ => (modO s5 (IntKind.wrap .i64 ((s5.length : Int) - (1 : Int))) (fun (z23 : aa) => (aa.mk z23.az (if x11.fTo > x19.fTo then x11.fTo else x19.fTo)))).bind fun x22 => some (.next ((IntKind.wrap .i64 (s4 + (1 : Int))), x22))) else ((appO s5 [x11] 16).bind fun x24 => some (.next ((IntKind.wrap .i64 (s4 + (1 : Int))), x24)))) else ((appO s5 [x11] 16).bind fun x25 => some (.next ((IntKind.wrap .i64 (s4 + (1 : Int))), x25)))) else (some (.stop s5))
noncomputable def cZ (a0 : (List aa)) : Option ((List aa)) :=
  (cloneO 16 a0).bind fun x1 => (br x1).bind fun x2 => (sortO aS x2).bind fun x3 => (loopO (iN x3) ((0 : Int), ([] : (List aa)))).bind fun o27 => some o27
noncomputable def fk (x1 : (List aa)) (s3 : Int) (x2 : (List aa)) (s4 : Int) (j10 : (List aa)) : Option (Step1 (Int × Int × (List aa)) ((List aa))) :=
  (getO x1 s3).bind fun x11 => (getO x2 s4).bind fun x12 => if (decide (x11.fTo < x12.fTo)) = true then (some (.next ((IntKind.wrap .i64 (s3 + (1 : Int))), s4, j10))) else (some (.next (s3, (IntKind.wrap .i64 (s4 + (1 : Int))), j10)))
noncomputable def kg (x1 : (List aa)) (x2 : (List aa)) : (Int × Int × (List aa)) → Option (Step1 (Int × Int × (List aa)) ((List aa))) := fun (s3, s4, s5) =>
  if (decide (s3 < (x1.length : Int))) = true then (if (decide (s4 < (x2.length : Int))) = true then ((getO x1 s3).bind fun x15 => (getO x2 s4).bind fun x16 => (getO x1 s3).bind fun x17 => (getO x2 s4).bind fun x18 => (eS (aa.mk (if x16.az > x15.az then x16.az else x15.az) (if x18.fTo < x17.fTo then x18.fTo else x17.fTo))).bind fun x19 => if x19 = true then ((appO s5 [(aa.mk (if x16.az > x15.az then x16.az else x15.az) (if x18.fTo < x17.fTo then x18.fTo else x17.fTo))] 16).bind fun x21 => fk x1 s3 x2 s4 x21) else (fk x1 s3 x2 s4 s5)) else (some (.stop s5))) else (some (.stop s5))
noncomputable def lR (a0 : (List aa)) (a1 : (List aa)) : Option ((List aa)) :=
  (cZ a0).bind fun x1 => (cZ a1).bind fun x2 => (loopO (kg x1 x2) ((0 : Int), (0 : Int), ([] : (List aa)))).bind fun o23 => some o23
noncomputable def bF (a0 : ai) : Option (Bool) :=
  (ge a0.aN).bind fun x1 => if x1 = true then ((ge a0.aG).bind fun x3 => if x3 = true then ((lR a0.aN a0.aG).bind fun x5 => some ((x5.length : Int) == (0 : Int))) else (some false)) else (some false)
noncomputable def ib (a0 : Int) (a1 : Int) (a2 : Int) : Option (Bool) :=
  if (decide (a0 ≥ a1)) = true then (some (decide (a0 ≤ a2))) else (some false)
noncomputable def cy (a0 : (List Int)) : Int → Option (Step1 (Int) ((Unit) ⊕ (Int))) := fun s1 =>
  if (decide (s1 < (a0.length : Int))) = true then ((getO a0 s1).bind fun x4 => if (x4 != (0 : Int)) = true then (some (.stop (.inr x4))) else (some (.next (IntKind.wrap .i64 (s1 + (1 : Int)))))) else (some (.stop (.inl ())))
noncomputable def gL (a0 : (List Int)) : Option (Int) :=
  (loopO (cy a0) (0 : Int)).bind fun o7 => match o7 with | .inl _ => (some (0 : Int)) | .inr r9 => (some r9)
noncomputable def ew (a0 : ac) (a1 : ac) : Option (Int) :=
  (gL [(IntKind.wrap .i64 (a0.fAt - a1.fAt)), (IntKind.wrap .i64 (a0.aq - a1.aq))]).bind fun x1 => some x1
noncomputable def ev (a0 : ak) : Int → Option (Step1 (Int) ((Unit) ⊕ (Bool))) := fun s6 =>
  if (decide (s6 < (a0.av.length : Int))) = true then ((getO a0.av s6).bind fun x9 => if (decide ((x9.aB.length : Int) > (4096 : Int))) = true then (some (.stop (.inr false))) else ((ib x9.fAt (IntKind.wrap .i64 (a0.aA + (1 : Int))) (2199023255552 : Int)).bind fun x11 => if (!x11) = true then (some (.stop (.inr false))) else ((ib x9.aq (0 : Int) (IntKind.wrap .i64 (a0.aq - (1 : Int)))).bind fun x13 => if (!x13) = true then (some (.stop (.inr false))) else (if (decide (s6 > (0 : Int))) = true then ((getO a0.av (IntKind.wrap .i64 (s6 - (1 : Int)))).bind fun x16 => (ew x16 x9).bind fun x17 => if (decide (x17 ≥ (0 : Int))) = true then (some (.stop (.inr false))) else (some (.next (IntKind.wrap .i64 (s6 + (1 : Int)))))) else (some (.next (IntKind.wrap .i64 (s6 + (1 : Int))))))))) else (some (.stop (.inl ())))
noncomputable def cE (a0 : ak) : Option (Bool) :=
  (ib a0.aA (0 : Int) (1099511627776 : Int)).bind fun x1 => if (!x1) = true then (some false) else ((ib a0.aq (0 : Int) (1099511627776 : Int)).bind fun x3 => if (!x3) = true then (some false) else (if (decide ((a0.av.length : Int) > (1024 : Int))) = true then (some false) else ((loopO (ev a0) (0 : Int)).bind fun o20 => match o20 with | .inl _ => (some true) | .inr r22 => (some r22))))
noncomputable def ij (a0 : aa) (d0 : Int) : Option (Bool) :=
  if (decide (a0.az ≤ d0)) = true then (some (decide (d0 < a0.fTo))) else (some false)
noncomputable def bW (a0 : (List aa)) (d0 : Int) : Int → Option (Step1 (Int) ((Unit) ⊕ (Int))) := fun s1 =>
  if (decide (s1 < (a0.length : Int))) = true then ((getO a0 s1).bind fun x4 => (ij x4 d0).bind fun x5 => if x5 = true then (some (.stop (.inr s1))) else (some (.next (IntKind.wrap .i64 (s1 + (1 : Int)))))) else (some (.stop (.inl ())))
noncomputable def bu (a0 : (List aa)) (d0 : Int) : Option (Int) :=
  (loopO (bW a0 d0) (0 : Int)).bind fun o8 => match o8 with | .inl _ => (some (-1 : Int)) | .inr r10 => (some r10)
noncomputable def bh (a0 : (List aa)) (d0 : Int) : Option (Bool) :=
  (bu a0 d0).bind fun x1 => some (decide (x1 ≥ (0 : Int)))
noncomputable def kE (a0 : (List aa)) (a1 : Int) : Option (Bool) :=
  (bh a0 a1).bind fun x1 => some x1
noncomputable def bR (a0 : ag) : (Int × Int × (List (Int × Bool))) → Option (Step1 (Int × Int × (List (Int × Bool))) ((Unit) ⊕ (Bool))) := fun (s1, s2, s3) =>
  if (decide (s2 < (a0.au.length : Int))) = true then ((getO a0.au s2).bind fun x6 => if (mGet (fun a b => a == b) x6.kK false s3) = true then (some (.stop (.inr false))) else ((aX x6.kK (0 : Int) (1073741824 : Int)).bind fun x8 => if (!x8) = true then (some (.stop (.inr false))) else ((kE a0.ap.aN x6.kK).bind fun x10 => if (!x10) = true then (some (.stop (.inr false))) else ((aX x6.fAt s1 a0.aA).bind fun x12 => if (!x12) = true then (some (.stop (.inr false))) else (some (.next (x6.fAt, (IntKind.wrap .i64 (s2 + (1 : Int))), (mPut (fun a b => a == b) x6.kK true s3)))))))) else (some (.stop (.inl ())))
noncomputable def cm (a0 : ag) : Option (Bool) :=
  (loopO (bR a0) ((0 : Int), (0 : Int), ([] : List (Int × Bool)))).bind fun o15 => match o15 with | .inl _ => (some (decide ((a0.au.length : Int) ≤ (4096 : Int)))) | .inr r17 => (some r17)
noncomputable def b8 (a0 : ag) : Option (Bool) :=
  (aX a0.aA (0 : Int) (1099511627776 : Int)).bind fun x1 => if x1 = true then ((aX a0.aD (1 : Int) (4096 : Int)).bind fun x3 => if x3 = true then ((bj a0.ar).bind fun x5 => if x5 = true then ((aZ a0.ar).bind fun x7 => (aX a0.aM (0 : Int) x7).bind fun x8 => if x8 = true then ((bF a0.ap).bind fun x10 => if x10 = true then ((cE a0.aC).bind fun x12 => if x12 = true then ((cE a0.fUp).bind fun x14 => if x14 = true then (if (a0.aC.aA == a0.aA) = true then (if (a0.fUp.aA == a0.aA) = true then ((cm a0).bind fun x18 => some x18) else (some false)) else (some false)) else (some false)) else (some false)) else (some false)) else (some false)) else (some false)) else (some false)) else (some false)
noncomputable def bM (a0 : ae) : Option (Bool) :=
  (ib a0.cC (0 : Int) (1048576 : Int)).bind fun x1 => if x1 = true then ((ib a0.cV (0 : Int) (8 : Int)).bind fun x3 => some x3) else (some false)
noncomputable def cd (a0 : ag) : Option (ag) :=
  (cloneO 16 a0.ar.aB).bind fun x1 => (cloneO 16 a0.ap.aN).bind fun x2 => (cloneO 16 a0.ap.aG).bind fun x3 => (cloneO 32 a0.aC.av).bind fun x4 => (cloneO 32 a0.fUp.av).bind fun x5 => (cloneO 32 a0.au).bind fun x6 => some (ag.mk a0.aA a0.aD a0.aM (ah.mk a0.ar.aF a0.ar.aw x1) (ai.mk x2 x3) (ak.mk a0.aC.aA a0.aC.aq x4) (ak.mk a0.fUp.aA a0.fUp.aq x5) x6)
noncomputable def fT (a0 : ah) (a1 : (List UInt8)) : Option (ah × Int × Int) :=
  (bj a0).bind fun x1 => if (!x1) = true then (some ((ah.mk 0 0 []), (0 : Int), (1 : Int))) else ((aZ a0).bind fun x3 => if (decide ((a1.length : Int) > (4064 : Int))) = true then (some ((ah.mk 0 0 []), (0 : Int), (8 : Int))) else (if (x3 == (1073741825 : Int)) = true then (some ((ah.mk 0 0 []), (0 : Int), (8 : Int))) else ((appO a0.aB [a1] 16).bind fun x6 => if ((a0.aB.length : Int) == a0.aF) = true then ((cutO x6 1 (x6.length : Int)).bind fun x8 => some ((ah.mk a0.aF (IntKind.wrap .i64 (a0.aw + (1 : Int))) x8), x3, (0 : Int))) else (some ((ah.mk a0.aF a0.aw x6), x3, (0 : Int))))))
noncomputable def iV (a0 : Int) (a1 : Int) (a2 : Int) : Option (Bool) :=
  if (decide (a0 ≥ a1)) = true then (some (decide (a0 ≤ a2))) else (some false)
noncomputable def dI (a1 : Int) : (Int × (List Int)) → Option (Step1 (Int × (List Int)) ((List Int))) := fun (s7, s8) =>
  if (decide (s7 ≥ (0 : Int))) = true then ((shrO .i64 a1 (IntKind.wrap .i64 ((8 : Int) * s7))).bind fun x12 => (appO s8 [(IntKind.wrap .u8 x12)] 1).bind fun x13 => some (.next ((IntKind.wrap .i64 (s7 - (1 : Int))), x13))) else (some (.stop s8))
noncomputable def jh (a0 : (List UInt8)) (a1 : Int) (a2 : Int) : Option ((List UInt8) × Int) :=
  (iV a2 (1 : Int) (7 : Int)).bind fun x1 => if (!x1) = true then (some (([] : (List UInt8)), (2 : Int))) else ((shlO .i64 (1 : Int) (IntKind.wrap .i64 ((8 : Int) * a2))).bind fun x3 => (iV a1 (0 : Int) (IntKind.wrap .i64 (x3 - (1 : Int)))).bind fun x4 => if (!x4) = true then (some (([] : (List UInt8)), (2 : Int))) else ((bytO a0).bind fun b6 => (loopO (dI a1) ((IntKind.wrap .i64 (a2 - (1 : Int))), b6)).bind fun o15 => some ((strU o15), (0 : Int))))
noncomputable def bd (a1 : (List Int)) : ((List UInt8) × Int) → Option (Step1 ((List UInt8) × Int) ((List UInt8))) := fun (s1, s2) =>
  if (decide (s2 < (a1.length : Int))) = true then ((getO a1 s2).bind fun x6 => (jh s1 x6 (4 : Int)).bind fun x7 => some (.next (x7.1, (IntKind.wrap .i64 (s2 + (1 : Int)))))) else (some (.stop s1))
noncomputable def bf (a0 : (List UInt8)) (a1 : (List Int)) : Option ((List UInt8)) :=
  (loopO (bd a1) (a0, (0 : Int))).bind fun o9 => some o9
noncomputable def jH (s1 : Int) (s2 : (List Int)) (j13 : Int) : Option (Step1 (Int × (List Int)) ((List Int))) :=
  (inA 256 s1).bind fun _ => (setO s2 s1 j13).bind fun x15 => some (.next ((IntKind.wrap .i64 (s1 + (1 : Int))), x15))
noncomputable def jI (s1 : Int) (s2 : (List Int)) (j12 : Int) : Option (Step1 (Int × (List Int)) ((List Int))) :=
  if ((andI .i64 j12 (1 : Int)) == (1 : Int)) = true then (jH s1 s2 (xorI .i64 (shrI .i64 j12 (1 : Int)) (3988292384 : Int))) else (jH s1 s2 (shrI .i64 j12 (1 : Int)))
noncomputable def jJ (s1 : Int) (s2 : (List Int)) (j11 : Int) : Option (Step1 (Int × (List Int)) ((List Int))) :=
  if ((andI .i64 j11 (1 : Int)) == (1 : Int)) = true then (jI s1 s2 (xorI .i64 (shrI .i64 j11 (1 : Int)) (3988292384 : Int))) else (jI s1 s2 (shrI .i64 j11 (1 : Int)))
noncomputable def jK (s1 : Int) (s2 : (List Int)) (j10 : Int) : Option (Step1 (Int × (List Int)) ((List Int))) :=
  if ((andI .i64 j10 (1 : Int)) == (1 : Int)) = true then (jJ s1 s2 (xorI .i64 (shrI .i64 j10 (1 : Int)) (3988292384 : Int))) else (jJ s1 s2 (shrI .i64 j10 (1 : Int)))
noncomputable def jL (s1 : Int) (s2 : (List Int)) (j9 : Int) : Option (Step1 (Int × (List Int)) ((List Int))) :=
  if ((andI .i64 j9 (1 : Int)) == (1 : Int)) = true then (jK s1 s2 (xorI .i64 (shrI .i64 j9 (1 : Int)) (3988292384 : Int))) else (jK s1 s2 (shrI .i64 j9 (1 : Int)))
noncomputable def jM (s1 : Int) (s2 : (List Int)) (j8 : Int) : Option (Step1 (Int × (List Int)) ((List Int))) :=
  if ((andI .i64 j8 (1 : Int)) == (1 : Int)) = true then (jL s1 s2 (xorI .i64 (shrI .i64 j8 (1 : Int)) (3988292384 : Int))) else (jL s1 s2 (shrI .i64 j8 (1 : Int)))
noncomputable def jN (s1 : Int) (s2 : (List Int)) (j7 : Int) : Option (Step1 (Int × (List Int)) ((List Int))) :=
  if ((andI .i64 j7 (1 : Int)) == (1 : Int)) = true then (jM s1 s2 (xorI .i64 (shrI .i64 j7 (1 : Int)) (3988292384 : Int))) else (jM s1 s2 (shrI .i64 j7 (1 : Int)))
noncomputable def jO (s1 : Int) (s2 : (List Int)) (j6 : Int) : Option (Step1 (Int × (List Int)) ((List Int))) :=
  if ((andI .i64 j6 (1 : Int)) == (1 : Int)) = true then (jN s1 s2 (xorI .i64 (shrI .i64 j6 (1 : Int)) (3988292384 : Int))) else (jN s1 s2 (shrI .i64 j6 (1 : Int)))
noncomputable def l8  : (Int × (List Int)) → Option (Step1 (Int × (List Int)) ((List Int))) := fun (s1, s2) =>
  if (decide (s1 < (256 : Int))) = true then (if ((andI .i64 s1 (1 : Int)) == (1 : Int)) = true then (jO s1 s2 (xorI .i64 (shrI .i64 s1 (1 : Int)) (3988292384 : Int))) else (jO s1 s2 (shrI .i64 s1 (1 : Int)))) else (some (.stop s2))
noncomputable def ku  : Option ((List Int)) :=
  (loopO (l8) ((0 : Int), (List.replicate 256 (0 : Int)))).bind fun o33 => (lenO 256 o33).bind fun x34 => (lenO 256 (List.replicate 256 (0 : Int))).bind fun _ => (lenO 256 x34).bind fun x35 => (lenO 256 x35).bind fun x36 => some x36
noncomputable def de (a1 : (List UInt8)) (x4 : (List Int)) : (Int × Int) → Option (Step1 (Int × Int) (Int)) := fun (s5, s6) =>
  if (decide (s6 < (a1.length : Int))) = true then ((byteO a1 s6).bind fun x10 => (inA 256 (andI .i64 (xorI .i64 s5 (IntKind.wrap .i64 x10)) (255 : Int))).bind fun _ => (getO x4 (andI .i64 (xorI .i64 s5 (IntKind.wrap .i64 x10)) (255 : Int))).bind fun x12 => some (.next ((xorI .i64 (shrI .i64 s5 (8 : Int)) x12), (IntKind.wrap .i64 (s6 + (1 : Int)))))) else (some (.stop s5))
noncomputable def et (a0 : Int) (a1 : (List UInt8)) : Option (Int) :=
  if (decide (a0 < (0 : Int))) = true then (some (0 : Int)) else (if (decide (a0 > (4294967295 : Int))) = true then (some (0 : Int)) else ((ku ).bind fun x3 => (lenO 256 (List.replicate 256 (0 : Int))).bind fun _ => (lenO 256 x3).bind fun x4 => (loopO (de a1 x4) ((xorI .i64 a0 (4294967295 : Int)), (0 : Int))).bind fun o14 => some (xorI .i64 o14 (4294967295 : Int))))
noncomputable def lM (a0 : (List UInt8)) : Option (Int) :=
  (et (0 : Int) a0).bind fun x1 => some x1
noncomputable def bD (a0 : (List UInt8)) : Option ((List UInt8)) :=
  (lM a0).bind fun x1 => (catO a0 (strU ([(IntKind.wrap .u8 x1), (IntKind.wrap .u8 (shrI .i64 x1 (8 : Int))), (IntKind.wrap .u8 (shrI .i64 x1 (16 : Int))), (IntKind.wrap .u8 (shrI .i64 x1 (24 : Int)))] : List Int))).bind fun x2 => some x2
noncomputable def bZ (a0 : Int) (a1 : Int) (a2 : (List UInt8)) : Option ((List UInt8) × Int) :=
  (aX a0 (0 : Int) (1073741824 : Int)).bind fun x1 => if (!x1) = true then (some (([] : (List UInt8)), (2 : Int))) else ((aX a1 (0 : Int) (1073741825 : Int)).bind fun x3 => if (!x3) = true then (some (([] : (List UInt8)), (2 : Int))) else ((bf ([68] : List UInt8) [a0, a1]).bind fun x5 => (catO x5 a2).bind fun x6 => (bD x6).bind fun x7 => if (decide ((x7.length : Int) > (4096 : Int))) = true then (some (([] : (List UInt8)), (8 : Int))) else (some (x7, (0 : Int)))))
noncomputable def aJ (d0 : (List ac)) (a1 : ac) : (Int × Int) → Option (Step1 (Int × Int) (Int)) := fun (s1, s2) =>
  if (decide (s1 < s2)) = true then ((inO d0 (IntKind.wrap .i64 (shrI .u64 (IntKind.wrap .u64 (IntKind.wrap .i64 (s1 + s2))) (1 : Int)))).bind fun _ => (getO d0 (IntKind.wrap .i64 (shrI .u64 (IntKind.wrap .u64 (IntKind.wrap .i64 (s1 + s2))) (1 : Int)))).bind fun x8 => (ew x8 a1).bind fun x9 => if (decide (x9 < (0 : Int))) = true then (some (.next ((IntKind.wrap .i64 ((IntKind.wrap .i64 (shrI .u64 (IntKind.wrap .u64 (IntKind.wrap .i64 (s1 + s2))) (1 : Int))) + (1 : Int))), s2))) else (some (.next (s1, (IntKind.wrap .i64 (shrI .u64 (IntKind.wrap .u64 (IntKind.wrap .i64 (s1 + s2))) (1 : Int))))))) else (some (.stop s1))
noncomputable def aH (a1 : ac) (d0 : (List ac)) : Option (Int × Bool × (List ac)) :=
  (loopO (aJ d0 a1) ((0 : Int), (d0.length : Int))).bind fun o12 => if (decide (o12 < (d0.length : Int))) = true then ((inO d0 o12).bind fun _ => (getO d0 o12).bind fun x16 => (ew x16 a1).bind fun x17 => some (o12, (x17 == (0 : Int)), d0)) else (some (o12, false, d0))
noncomputable def bS (a1 : Int) (a2 : (List ac)) (d0 : (List ac)) : Option ((List ac)) :=
  (subO d0.length a1 (d0.length : Int)).bind fun _ => if ((a2.length : Int) == (0 : Int)) = true then (some d0) else (if (a1 == (d0.length : Int)) = true then ((appO d0 a2 32).bind fun x4 => some x4) else (none))
noncomputable def cz (j5 : Int) (a0 : ak) (a2 : ae) (a1 : (List UInt8)) : (Int × (List ac)) → Option (Step1 (Int × (List ac)) ((List ac))) := fun (s10, s11) =>
  if (decide (s10 < j5)) = true then ((aH (ac.mk (IntKind.wrap .i64 ((IntKind.wrap .i64 ((IntKind.wrap .i64 (a0.aA + (1 : Int))) + a2.cC)) + s10)) a0.aq a1) s11).bind fun x15 => (bS x15.1 [(ac.mk (IntKind.wrap .i64 ((IntKind.wrap .i64 ((IntKind.wrap .i64 (a0.aA + (1 : Int))) + a2.cC)) + s10)) a0.aq a1)] x15.2.2).bind fun x16 => some (.next ((IntKind.wrap .i64 (s10 + (1 : Int))), x16))) else (some (.stop s11))
noncomputable def d7 (a1 : (List UInt8)) (a0 : ak) (a2 : ae) (j5 : Int) : Option (ak × Int) :=
  if (decide ((a1.length : Int) > (4096 : Int))) = true then (some ((ak.mk 0 0 []), (8 : Int))) else (if (a0.aq == (1099511627776 : Int)) = true then (some ((ak.mk 0 0 []), (8 : Int))) else (if (decide ((IntKind.wrap .i64 ((a0.av.length : Int) + j5)) > (1024 : Int))) = true then (some ((ak.mk 0 0 []), (8 : Int))) else ((cloneO 32 a0.av).bind fun x9 => (loopO (cz j5 a0 a2 a1) ((0 : Int), x9)).bind fun o18 => some ((ak.mk a0.aA (IntKind.wrap .i64 (a0.aq + (1 : Int))) o18), (0 : Int)))))
noncomputable def fP (a0 : ak) (a1 : (List UInt8)) (a2 : ae) : Option (ak × Int) :=
  (cE a0).bind fun x1 => if (!x1) = true then (some ((ak.mk 0 0 []), (1 : Int))) else ((bM a2).bind fun x3 => if (!x3) = true then (some ((ak.mk 0 0 []), (1 : Int))) else (if a2.lb = true then (d7 a1 a0 a2 (0 : Int)) else (d7 a1 a0 a2 (IntKind.wrap .i64 ((1 : Int) + a2.cV)))))
noncomputable def b7 (a0 : ag) (a1 : (List UInt8)) (a2 : ae) : Option (ag × Int × Int) :=
  (b8 a0).bind fun x1 => if (!x1) = true then (some ((ag.mk 0 0 0 (ah.mk 0 0 []) (ai.mk [] []) (ak.mk 0 0 []) (ak.mk 0 0 []) []), (0 : Int), (1 : Int))) else ((bM a2).bind fun x3 => if (!x3) = true then (some ((ag.mk 0 0 0 (ah.mk 0 0 []) (ai.mk [] []) (ak.mk 0 0 []) (ak.mk 0 0 []) []), (0 : Int), (1 : Int))) else ((cd a0).bind fun x5 => (fT x5.ar a1).bind fun x6 => if (x6.2.2 != (0 : Int)) = true then (some ((ag.mk 0 0 0 (ah.mk 0 0 []) (ai.mk [] []) (ak.mk 0 0 []) (ak.mk 0 0 []) []), (0 : Int), x6.2.2)) else ((bZ x6.2.1 x6.1.aw a1).bind fun x8 => (fP x5.aC x8.1 a2).bind fun x9 => if (x9.2 != (0 : Int)) = true then (some ((ag.mk 0 0 0 (ah.mk 0 0 []) (ai.mk [] []) (ak.mk 0 0 []) (ak.mk 0 0 []) []), (0 : Int), x9.2)) else (some ((ag.mk x5.aA x5.aD x5.aM x6.1 x5.ap x9.1 x5.fUp x5.au), x6.2.1, (0 : Int))))))
noncomputable def er (a0 : ae) : Option (Bool) :=
  (bM a0).bind fun x1 => some (!x1)
noncomputable def bV (a0 : (List ae)) : Int → Option (Step1 (Int) ((Unit) ⊕ (Int))) := fun s1 =>
  if (decide (s1 < (a0.length : Int))) = true then ((getO a0 s1).bind fun x4 => (er x4).bind fun x5 => if x5 = true then (some (.stop (.inr s1))) else (some (.next (IntKind.wrap .i64 (s1 + (1 : Int)))))) else (some (.stop (.inl ())))
noncomputable def bt (a0 : (List ae)) : Option (Int) :=
  (loopO (bV a0) (0 : Int)).bind fun o8 => match o8 with | .inl _ => (some (-1 : Int)) | .inr r10 => (some r10)
noncomputable def aQ (a0 : (List ae)) : Option (Bool) :=
  (bt a0).bind fun x1 => some (decide (x1 ≥ (0 : Int)))
noncomputable def fg (a0 : ak) : (Int × (List (List UInt8))) → Option (Step1 (Int × (List (List UInt8))) (Int × (List (List UInt8)))) := fun (s4, s5) =>
  if (decide (s4 < (a0.av.length : Int))) = true then ((getO a0.av s4).bind fun x10 => if (x10.fAt == (IntKind.wrap .i64 (a0.aA + (1 : Int)))) = true then ((getO a0.av s4).bind fun x12 => (appO s5 [x12.aB] 16).bind fun x13 => some (.next ((IntKind.wrap .i64 (s4 + (1 : Int))), x13))) else (some (.stop (s4, s5)))) else (some (.stop (s4, s5)))
noncomputable def fQ (a0 : ak) : Option (ak × (List (List UInt8)) × Int) :=
  (cE a0).bind fun x1 => if (!x1) = true then (some ((ak.mk 0 0 []), ([] : (List (List UInt8))), (1 : Int))) else (if (a0.aA == (1099511627776 : Int)) = true then (some ((ak.mk 0 0 []), ([] : (List (List UInt8))), (8 : Int))) else ((loopO (fg a0) ((0 : Int), ([] : (List (List UInt8))))).bind fun o15 => (cutO a0.av o15.1 (a0.av.length : Int)).bind fun x16 => (cloneO 32 x16).bind fun x17 => some ((ak.mk (IntKind.wrap .i64 (a0.aA + (1 : Int))) a0.aq x17), o15.2, (0 : Int))))
noncomputable def dZ (a0 : (List UInt8)) : Option (Bool) :=
  if (decide ((IntKind.wrap .i64 ((a0.length : Int) - (4 : Int))) ≥ (0 : Int))) = true then ((cutO a0 0 (IntKind.wrap .i64 ((a0.length : Int) - (4 : Int)))).bind fun x2 => (bD x2).bind fun x3 => some (x3 == a0)) else (some false)
noncomputable def b9 (a0 : (List UInt8)) (a1 : (List UInt8)) (a2 : Int) : Option ((List UInt8) × Int) :=
  if (decide ((a0.length : Int) < a2)) = true then (some (([] : (List UInt8)), (4 : Int))) else ((dZ a0).bind fun x2 => if (!x2) = true then (some (([] : (List UInt8)), (5 : Int))) else ((cutO a0 0 1).bind fun x4 => if (!(x4 == a1)) = true then (some (([] : (List UInt8)), (3 : Int))) else ((cutO a0 1 (IntKind.wrap .i64 ((a0.length : Int) - (4 : Int)))).bind fun x6 => some (x6, (0 : Int)))))
noncomputable def cU (a2 : Int) (a0 : (List UInt8)) (a1 : Int) : (Int × Int) → Option (Step1 (Int × Int) (Int)) := fun (s5, s6) =>
  if (decide (s6 < a2)) = true then ((byteO a0 (IntKind.wrap .i64 (a1 + s6))).bind fun x10 => some (.next ((orI .i64 (shlI .i64 s5 (8 : Int)) (IntKind.wrap .i64 x10)), (IntKind.wrap .i64 (s6 + (1 : Int)))))) else (some (.stop s5))
noncomputable def jf (a0 : (List UInt8)) (a1 : Int) (a2 : Int) : Option (Int × Int) :=
  (iV a2 (1 : Int) (7 : Int)).bind fun x1 => if (!x1) = true then (some ((0 : Int), (2 : Int))) else (if (decide (a1 < (0 : Int))) = true then (some ((0 : Int), (2 : Int))) else (if (decide (a1 > (IntKind.wrap .i64 ((a0.length : Int) - a2)))) = true then (some ((0 : Int), (4 : Int))) else ((loopO (cU a2 a0 a1) ((0 : Int), (0 : Int))).bind fun o12 => some (o12, (0 : Int)))))
noncomputable def aI (a0 : (List UInt8)) (a1 : Int) : Option (Int) :=
  (jf a0 (IntKind.wrap .i64 (a1 * (4 : Int))) (4 : Int)).bind fun x1 => some x1.1
noncomputable def aV (a0 : (List UInt8)) : Option (Int × Int × (List UInt8) × Int) :=
  (b9 a0 ([68] : List UInt8) (13 : Int)).bind fun x1 => if (x1.2 != (0 : Int)) = true then (some ((0 : Int), (0 : Int), ([] : (List UInt8)), x1.2)) else ((aI x1.1 (0 : Int)).bind fun x3 => (aI x1.1 (1 : Int)).bind fun x4 => if (decide (x3 > (1073741824 : Int))) = true then (some ((0 : Int), (0 : Int), ([] : (List UInt8)), (3 : Int))) else (if (decide (x4 > (1073741825 : Int))) = true then (some ((0 : Int), (0 : Int), ([] : (List UInt8)), (3 : Int))) else ((cutO x1.1 8 (x1.1.length : Int)).bind fun x7 => some (x3, x4, x7, (0 : Int)))))
noncomputable def dF (a0 : Int) (a1 : Int) (a2 : Int) : Option (Bool) :=
  if (decide (a0 ≥ a1)) = true then (some (decide (a0 ≤ a2))) else (some false)
noncomputable def cu (j2 : (List aa)) : Option ((List aa)) :=
  some j2
noncomputable def eR (a0 : Int) : Option ((List aa)) :=
  if (decide (a0 < (0 : Int))) = true then (none) else (if (decide ((IntKind.wrap .i64 (a0 - (0 : Int))) > (0 : Int))) = true then ((mkZ (IntKind.wrap .i64 (a0 - (0 : Int))) (aa.mk 0 0) 16).bind fun x5 => (subO x5.length (0 : Int) (0 : Int)).bind fun _ => cu (x5.take (0 : Int).toNat)) else (cu ([] : List aa)))
noncomputable def ej (a0 : (List (List aa))) : (Int × Int) → Option (Step1 (Int × Int) (Int)) := fun (s1, s2) =>
  if (decide (s2 < (a0.length : Int))) = true then ((getO a0 s2).bind fun x6 => if (decide ((IntKind.wrap .i64 (s1 + (x6.length : Int))) < (0 : Int))) = true then (none) else (some (.next ((IntKind.wrap .i64 (s1 + (x6.length : Int))), (IntKind.wrap .i64 (s2 + (1 : Int))))))) else (some (.stop s1))
noncomputable def dQ (a0 : (List (List aa))) : (Int × (List aa)) → Option (Step1 (Int × (List aa)) ((List aa))) := fun (s11, s12) =>
  if (decide (s11 < (a0.length : Int))) = true then ((getO a0 s11).bind fun x16 => (appO s12 x16 16).bind fun x17 => some (.next ((IntKind.wrap .i64 (s11 + (1 : Int))), x17))) else (some (.stop s12))
noncomputable def dP (a0 : (List (List aa))) : Option ((List aa)) :=
  (loopO (ej a0) ((0 : Int), (0 : Int))).bind fun o9 => (eR o9).bind fun x10 => (loopO (dQ a0) ((0 : Int), x10)).bind fun o19 => some o19
noncomputable def hT (a0 : (List aa)) (a1 : (List aa)) : Option ((List aa)) :=
  (dP [a0, a1]).bind fun x1 => (cZ x1).bind fun x2 => some x2
noncomputable def jv (x1 : (List aa)) (x8 : aa) (s3 : Int) : (Int × Int × (List aa)) → Option (Step1 (Int × Int × (List aa)) (Int × Int × (List aa))) := fun (s9, s10, s11) =>
  if (decide (s10 < (x1.length : Int))) = true then ((getO x1 s10).bind fun x17 => if (decide (x17.fTo ≤ s9)) = true then (some (.next (s9, (IntKind.wrap .i64 (s10 + (1 : Int))), s11))) else (if (decide (x17.az ≥ x8.fTo)) = true then (some (.next (s9, (IntKind.wrap .i64 (s10 + (1 : Int))), s11))) else (if (decide (s9 < x17.az)) = true then ((appO s11 [(aa.mk s9 x17.az)] 16).bind fun x21 => some (.next ((if x17.fTo > s9 then x17.fTo else s9), (IntKind.wrap .i64 (s10 + (1 : Int))), x21))) else (some (.next ((if x17.fTo > s9 then x17.fTo else s9), (IntKind.wrap .i64 (s10 + (1 : Int))), s11)))))) else (some (.stop (s9, s3, s11)))
noncomputable def jw (x2 : (List aa)) (x1 : (List aa)) : (Int × (List aa)) → Option (Step1 (Int × (List aa)) ((List aa))) := fun (s3, s4) =>
  if (decide (s3 < (x2.length : Int))) = true then ((getO x2 s3).bind fun x8 => (loopO (jv x1 x8 s3) (x8.az, (0 : Int), s4)).bind fun o23 => if (decide (o23.1 < x8.fTo)) = true then ((appO o23.2.2 [(aa.mk o23.1 x8.fTo)] 16).bind fun x25 => some (.next ((IntKind.wrap .i64 (o23.2.1 + (1 : Int))), x25))) else (some (.next ((IntKind.wrap .i64 (o23.2.1 + (1 : Int))), o23.2.2)))) else (some (.stop s4))
noncomputable def hJ (a0 : (List aa)) (a1 : (List aa)) : Option ((List aa)) :=
  (cZ a1).bind fun x1 => (cZ a0).bind fun x2 => (loopO (jw x2 x1) ((0 : Int), ([] : (List aa)))).bind fun o27 => some o27
noncomputable def dm (a0 : (List aa)) (a1 : (List aa)) : Option (ai × Int) :=
  if (decide ((a0.length : Int) > (4096 : Int))) = true then (some ((ai.mk [] []), (8 : Int))) else (if (decide ((a1.length : Int) > (4096 : Int))) = true then (some ((ai.mk [] []), (8 : Int))) else (some ((ai.mk a0 a1), (0 : Int))))
noncomputable def dT (a0 : ai) (a1 : Int) : Option (ai × Bool × Int) :=
  (bF a0).bind fun x1 => if (!x1) = true then (some ((ai.mk [] []), false, (1 : Int))) else ((dF a1 (0 : Int) (1073741824 : Int)).bind fun x3 => if (!x3) = true then (some ((ai.mk [] []), false, (2 : Int))) else ((kE a0.aN a1).bind fun x5 => (hT a0.aN [(aa.mk a1 (IntKind.wrap .i64 (a1 + (1 : Int))))]).bind fun x6 => (hJ a0.aG [(aa.mk a1 (IntKind.wrap .i64 (a1 + (1 : Int))))]).bind fun x7 => (dm x6 x7).bind fun x8 => if (!x5) = true then (some (x8.1, (x8.2 == (0 : Int)), x8.2)) else (some (x8.1, false, x8.2))))
noncomputable def d8 (a0 : ai) (a1 : Int) : Option (ai × Int) :=
  (bF a0).bind fun x1 => if (!x1) = true then (some ((ai.mk [] []), (1 : Int))) else ((dF a1 (0 : Int) (1073741825 : Int)).bind fun x3 => if (!x3) = true then (some ((ai.mk [] []), (2 : Int))) else ((hJ [(aa.mk 0 a1)] a0.aN).bind fun x5 => (cloneO 16 a0.aN).bind fun x6 => (hT a0.aG x5).bind fun x7 => (dm x6 x7).bind fun x8 => some (x8.1, x8.2)))
noncomputable def fw (a0 : Int) (e1 : Int) (e2 : Int) (e3 : Int) (e4 : Int) (e5 : Int) (e6 : (List (List UInt8))) (e7 : (List aa)) (e8 : (List aa)) (e9 : Int) (e10 : Int) (e11 : (List ac)) (e12 : Int) (e13 : Int) (e14 : (List ac)) (e15 : (List ae)) (e16 : (List ae)) (d1 : (List aj)) : Option (Int × Int × Int × Int × Int × (List (List UInt8)) × (List aa) × (List aa) × Int × Int × (List ac) × Int × Int × (List ac) × (List ae) × (List ae)) :=
  (aZ (ah.mk e4 e5 e6)).bind fun x1 => some (e1, e2, (if x1 < (if a0 > e3 then a0 else e3) then x1 else (if a0 > e3 then a0 else e3)), e4, e5, e6, e7, e8, e9, e10, e11, e12, e13, e14, e15, e16)
noncomputable def fO (a0 : (List UInt8)) (e1 : Int) (e2 : Int) (e3 : Int) (e4 : Int) (e5 : Int) (e6 : (List (List UInt8))) (e7 : (List aa)) (e8 : (List aa)) (e9 : Int) (e10 : Int) (e11 : (List ac)) (e12 : Int) (e13 : Int) (e14 : (List ac)) (e15 : (List ae)) (e16 : (List ae)) (d1 : (List aj)) : Option (Int × Int × Int × Int × Int × (List (List UInt8)) × (List aa) × (List aa) × Int × Int × (List ac) × Int × Int × (List ac) × (List ae) × (List ae) × (List aj)) :=
  (aV a0).bind fun x1 => if (x1.2.2.2 != (0 : Int)) = true then (some (e1, e2, e3, e4, e5, e6, e7, e8, e9, e10, e11, e12, e13, e14, e15, e16, d1)) else ((dT (ai.mk e7 e8) x1.1).bind fun x3 => if (x3.2.2 != (0 : Int)) = true then (some (e1, e2, e3, e4, e5, e6, e7, e8, e9, e10, e11, e12, e13, e14, e15, e16, d1)) else ((d8 x3.1 x1.2.1).bind fun x5 => if (x5.2 != (0 : Int)) = true then (some (e1, e2, e3, e4, e5, e6, e7, e8, e9, e10, e11, e12, e13, e14, e15, e16, d1)) else ((fw (IntKind.wrap .i64 (x1.1 + (1 : Int))) e1 e2 e3 e4 e5 e6 x5.1.aN x5.1.aG e9 e10 e11 e12 e13 e14 e15 e16 d1).bind fun x7 => if x3.2.1 = true then (if (decide ((d1.length : Int) < (4096 : Int))) = true then ((appO d1 [(aj.mk x1.1 x7.1 x1.2.2.1)] 32).bind fun x10 => some (x7.1, x7.2.1, x7.2.2.1, x7.2.2.2.1, x7.2.2.2.2.1, x7.2.2.2.2.2.1, x7.2.2.2.2.2.2.1, x7.2.2.2.2.2.2.2.1, x7.2.2.2.2.2.2.2.2.1, x7.2.2.2.2.2.2.2.2.2.1, x7.2.2.2.2.2.2.2.2.2.2.1, x7.2.2.2.2.2.2.2.2.2.2.2.1, x7.2.2.2.2.2.2.2.2.2.2.2.2.1, x7.2.2.2.2.2.2.2.2.2.2.2.2.2.1, x7.2.2.2.2.2.2.2.2.2.2.2.2.2.2.1, x7.2.2.2.2.2.2.2.2.2.2.2.2.2.2.2, x10)) else (some (x7.1, x7.2.1, x7.2.2.1, x7.2.2.2.1, x7.2.2.2.2.1, x7.2.2.2.2.2.1, x7.2.2.2.2.2.2.1, x7.2.2.2.2.2.2.2.1, x7.2.2.2.2.2.2.2.2.1, x7.2.2.2.2.2.2.2.2.2.1, x7.2.2.2.2.2.2.2.2.2.2.1, x7.2.2.2.2.2.2.2.2.2.2.2.1, x7.2.2.2.2.2.2.2.2.2.2.2.2.1, x7.2.2.2.2.2.2.2.2.2.2.2.2.2.1, x7.2.2.2.2.2.2.2.2.2.2.2.2.2.2.1, x7.2.2.2.2.2.2.2.2.2.2.2.2.2.2.2, d1))) else (some (x7.1, x7.2.1, x7.2.2.1, x7.2.2.2.1, x7.2.2.2.2.1, x7.2.2.2.2.2.1, x7.2.2.2.2.2.2.1, x7.2.2.2.2.2.2.2.1, x7.2.2.2.2.2.2.2.2.1, x7.2.2.2.2.2.2.2.2.2.1, x7.2.2.2.2.2.2.2.2.2.2.1, x7.2.2.2.2.2.2.2.2.2.2.2.1, x7.2.2.2.2.2.2.2.2.2.2.2.2.1, x7.2.2.2.2.2.2.2.2.2.2.2.2.2.1, x7.2.2.2.2.2.2.2.2.2.2.2.2.2.2.1, x7.2.2.2.2.2.2.2.2.2.2.2.2.2.2.2, d1)))))
noncomputable def aP (a0 : (List UInt8)) : Option (Int × Int × Int) :=
  (b9 a0 ([83] : List UInt8) (13 : Int)).bind fun x1 => if (x1.2 != (0 : Int)) = true then (some ((0 : Int), (0 : Int), x1.2)) else ((aI x1.1 (0 : Int)).bind fun x3 => (aI x1.1 (1 : Int)).bind fun x4 => if ((x1.1.length : Int) != (8 : Int)) = true then (some ((0 : Int), (0 : Int), (3 : Int))) else (if (decide (x3 > x4)) = true then (some ((0 : Int), (0 : Int), (3 : Int))) else (if (decide (x4 > (1073741825 : Int))) = true then (some ((0 : Int), (0 : Int), (3 : Int))) else (some (x3, x4, (0 : Int))))))
noncomputable def dE (a0 : (List UInt8)) (e1 : Int) (e2 : Int) (e3 : Int) (e4 : Int) (e5 : Int) (e6 : (List (List UInt8))) (e7 : (List aa)) (e8 : (List aa)) (e9 : Int) (e10 : Int) (e11 : (List ac)) (e12 : Int) (e13 : Int) (e14 : (List ac)) (e15 : (List ae)) (e16 : (List ae)) (d1 : (List aj)) : Option (Int × Int × Int × Int × Int × (List (List UInt8)) × (List aa) × (List aa) × Int × Int × (List ac) × Int × Int × (List ac) × (List ae) × (List ae)) :=
  (aP a0).bind fun x1 => if (x1.2.2 != (0 : Int)) = true then (some (e1, e2, e3, e4, e5, e6, e7, e8, e9, e10, e11, e12, e13, e14, e15, e16)) else ((d8 (ai.mk e7 e8) x1.1).bind fun x3 => if (x3.2 == (0 : Int)) = true then ((fw x1.2.1 e1 e2 e3 e4 e5 e6 x3.1.aN x3.1.aG e9 e10 e11 e12 e13 e14 e15 e16 d1).bind fun x5 => some (x5.1, x5.2.1, x5.2.2.1, x5.2.2.2.1, x5.2.2.2.2.1, x5.2.2.2.2.2.1, x5.2.2.2.2.2.2.1, x5.2.2.2.2.2.2.2.1, x5.2.2.2.2.2.2.2.2.1, x5.2.2.2.2.2.2.2.2.2.1, x5.2.2.2.2.2.2.2.2.2.2.1, x5.2.2.2.2.2.2.2.2.2.2.2.1, x5.2.2.2.2.2.2.2.2.2.2.2.2.1, x5.2.2.2.2.2.2.2.2.2.2.2.2.2.1, x5.2.2.2.2.2.2.2.2.2.2.2.2.2.2.1, x5.2.2.2.2.2.2.2.2.2.2.2.2.2.2.2)) else (some (e1, e2, e3, e4, e5, e6, e7, e8, e9, e10, e11, e12, e13, e14, e15, e16)))
noncomputable def cS (d0 : (List aa)) : Int → Option (Step1 (Int) ((Unit) ⊕ (Bool × (List aa)))) := fun s1 =>
  if (decide (s1 < (d0.length : Int))) = true then ((inO d0 s1).bind fun _ => (getO d0 s1).bind fun x6 => (eS x6).bind fun x7 => if (!x7) = true then (some (.stop (.inr (false, d0)))) else (if (decide (s1 > (0 : Int))) = true then ((inO d0 (IntKind.wrap .i64 (s1 - (1 : Int)))).bind fun _ => (getO d0 (IntKind.wrap .i64 (s1 - (1 : Int)))).bind fun x12 => if (decide (x6.az ≤ x12.fTo)) = true then (some (.stop (.inr (false, d0)))) else (some (.next (IntKind.wrap .i64 (s1 + (1 : Int)))))) else (some (.next (IntKind.wrap .i64 (s1 + (1 : Int))))))) else (some (.stop (.inl ())))
noncomputable def fU (d0 : (List aa)) : Option (Bool × (List aa)) :=
  (loopO (cS d0) (0 : Int)).bind fun o15 => match o15 with | .inl _ => (some (true, d0)) | .inr r17 => (some r17)
noncomputable def eE (a1 : Int) (d0 : (List aa)) : Option (Bool × (List aa)) :=
  (fU d0).bind fun x1 => if x1.1 = true then (if ((x1.2.length : Int) == (0 : Int)) = true then (some (true, x1.2)) else ((inO x1.2 (0 : Int)).bind fun _ => (getO x1.2 (0 : Int)).bind fun x6 => if (decide (x6.az ≥ (0 : Int))) = true then ((inO x1.2 (IntKind.wrap .i64 ((x1.2.length : Int) - (1 : Int)))).bind fun _ => (getO x1.2 (IntKind.wrap .i64 ((x1.2.length : Int) - (1 : Int)))).bind fun x10 => some ((decide (x10.fTo ≤ a1)), x1.2)) else (some (false, x1.2)))) else (some (false, x1.2))
noncomputable def aO (x3 : Int) (x1 : (List UInt8) × Int) : (Int × (List aa)) → Option (Step1 (Int × (List aa)) ((List aa))) := fun (s7, s8) =>
  if (decide (s7 < x3)) = true then ((aI x1.1 (IntKind.wrap .i64 ((2 : Int) * s7))).bind fun x12 => (aI x1.1 (IntKind.wrap .i64 ((IntKind.wrap .i64 ((2 : Int) * s7)) + (1 : Int)))).bind fun x13 => (appO s8 [(aa.mk x12 x13)] 16).bind fun x14 => some (.next ((IntKind.wrap .i64 (s7 + (1 : Int))), x14))) else (some (.stop s8))
noncomputable def a7 (a0 : (List UInt8)) : Option ((List aa) × Int) :=
  (b9 a0 ([82] : List UInt8) (5 : Int)).bind fun x1 => if (x1.2 != (0 : Int)) = true then (some (([] : (List aa)), x1.2)) else ((quoO .i64 (x1.1.length : Int) (8 : Int)).bind fun x3 => (remO (x1.1.length : Int) (8 : Int)).bind fun x4 => if (x4 != (0 : Int)) = true then (some (([] : (List aa)), (3 : Int))) else (if (decide (x3 > (16 : Int))) = true then (some (([] : (List aa)), (3 : Int))) else ((loopO (aO x3 x1) ((0 : Int), ([] : (List aa)))).bind fun o16 => (eE (1073741825 : Int) o16).bind fun x17 => if (!x17.1) = true then (some (([] : (List aa)), (3 : Int))) else (some (x17.2, (0 : Int))))))
noncomputable def dN (a0 : aa) (d0 : Int) : Option (Bool) :=
  if (decide (a0.az ≤ d0)) = true then (some (decide (d0 < a0.fTo))) else (some false)
noncomputable def bQ (a0 : (List aa)) (d0 : Int) : Int → Option (Step1 (Int) ((Unit) ⊕ (Int))) := fun s1 =>
  if (decide (s1 < (a0.length : Int))) = true then ((getO a0 s1).bind fun x4 => (dN x4 d0).bind fun x5 => if x5 = true then (some (.stop (.inr s1))) else (some (.next (IntKind.wrap .i64 (s1 + (1 : Int)))))) else (some (.stop (.inl ())))
noncomputable def bo (a0 : (List aa)) (d0 : Int) : Option (Int) :=
  (loopO (bQ a0 d0) (0 : Int)).bind fun o8 => match o8 with | .inl _ => (some (-1 : Int)) | .inr r10 => (some r10)
noncomputable def bg (a0 : (List aa)) (d0 : Int) : Option (Bool) :=
  (bo a0 d0).bind fun x1 => some (decide (x1 ≥ (0 : Int)))
noncomputable def ep (a0 : ah) (a2 : Int) (a1 : (List aa)) : ((List Int) × Int) → Option (Step1 ((List Int) × Int) ((List Int))) := fun (s5, s6) =>
  (aZ a0).bind fun x9 => if (decide (s6 < x9)) = true then (if (decide ((s5.length : Int) < a2)) = true then ((bg a1 s6).bind fun x12 => if x12 = true then ((appO s5 [s6] 8).bind fun x14 => some (.next (x14, (IntKind.wrap .i64 (s6 + (1 : Int)))))) else (some (.next (s5, (IntKind.wrap .i64 (s6 + (1 : Int))))))) else (some (.stop s5))) else (some (.stop s5))
noncomputable def ie (a0 : ah) (a1 : (List aa)) (a2 : Int) : Option ((List Int) × Int) :=
  (bj a0).bind fun x1 => if (!x1) = true then (some (([] : (List Int)), (1 : Int))) else ((eO a2 (0 : Int) (256 : Int)).bind fun x3 => if (!x3) = true then (some (([] : (List Int)), (2 : Int))) else ((loopO (ep a0 a2 a1) (([] : (List Int)), a0.aw)).bind fun o16 => some (o16, (0 : Int))))
noncomputable def kX (a0 : ah) (a1 : Int) : Option ((List UInt8) × Bool) :=
  (bj a0).bind fun x1 => if (!x1) = true then (some (([] : (List UInt8)), false)) else ((aZ a0).bind fun x3 => (eO a1 a0.aw (IntKind.wrap .i64 (x3 - (1 : Int)))).bind fun x4 => if (!x4) = true then (some (([] : (List UInt8)), false)) else ((getO a0.aB (IntKind.wrap .i64 (a1 - a0.aw))).bind fun x6 => some (x6, true)))
noncomputable def eQ (a0 : (List ae)) : Option (ae × (List ae)) :=
  if ((a0.length : Int) == (0 : Int)) = true then (some ((ae.mk false 0 0), ([] : (List ae)))) else ((getO a0 (0 : Int)).bind fun x2 => (cutO a0 1 (a0.length : Int)).bind fun x3 => some (x2, x3))
noncomputable def jc (a0 : (List UInt8)) (e1 : Int) (e2 : Int) (e3 : Int) (e4 : Int) (e5 : Int) (e6 : (List (List UInt8))) (e7 : (List aa)) (e8 : (List aa)) (e9 : Int) (e10 : Int) (e11 : (List ac)) (e12 : Int) (e13 : Int) (e14 : (List ac)) (e15 : (List ae)) (e16 : (List ae)) (d1 : (List aj)) : Option (Int × Int × Int × Int × Int × (List (List UInt8)) × (List aa) × (List aa) × Int × Int × (List ac) × Int × Int × (List ac) × (List ae) × (List ae)) :=
  (eQ e15).bind fun x1 => (fP (ak.mk e9 e10 e11) a0 x1.1).bind fun x2 => if (x2.2 == (0 : Int)) = true then (some (e1, e2, e3, e4, e5, e6, e7, e8, x2.1.aA, x2.1.aq, x2.1.av, e12, e13, e14, x1.2, e16)) else (some (e1, e2, e3, e4, e5, e6, e7, e8, e9, e10, e11, e12, e13, e14, x1.2, e16))
noncomputable def iy (x3 : (List Int) × Int) (d1 : (List aj)) : (Int × Int × Int × Int × Int × Int × (List (List UInt8)) × (List aa) × (List aa) × Int × Int × (List ac) × Int × Int × (List ac) × (List ae) × (List ae)) → Option (Step1 (Int × Int × Int × Int × Int × Int × (List (List UInt8)) × (List aa) × (List aa) × Int × Int × (List ac) × Int × Int × (List ac) × (List ae) × (List ae)) (Int × Int × Int × Int × Int × (List (List UInt8)) × (List aa) × (List aa) × Int × Int × (List ac) × Int × Int × (List ac) × (List ae) × (List ae))) := fun (s4, s5, s6, s7, s8, s9, s10, s11, s12, s13, s14, s15, s16, s17, s18, s19, s20) =>
  if (decide (s4 < (x3.1.length : Int))) = true then ((getO x3.1 s4).bind fun x23 => (kX (ah.mk s8 s9 s10) x23).bind fun x24 => (bZ x23 s9 x24.1).bind fun x25 => if (x25.2 == (0 : Int)) = true then ((jc x25.1 s5 s6 s7 s8 s9 s10 s11 s12 s13 s14 s15 s16 s17 s18 s19 s20 d1).bind fun x27 => some (.next ((IntKind.wrap .i64 (s4 + (1 : Int))), x27.1, x27.2.1, x27.2.2.1, x27.2.2.2.1, x27.2.2.2.2.1, x27.2.2.2.2.2.1, x27.2.2.2.2.2.2.1, x27.2.2.2.2.2.2.2.1, x27.2.2.2.2.2.2.2.2.1, x27.2.2.2.2.2.2.2.2.2.1, x27.2.2.2.2.2.2.2.2.2.2.1, x27.2.2.2.2.2.2.2.2.2.2.2.1, x27.2.2.2.2.2.2.2.2.2.2.2.2.1, x27.2.2.2.2.2.2.2.2.2.2.2.2.2.1, x27.2.2.2.2.2.2.2.2.2.2.2.2.2.2.1, x27.2.2.2.2.2.2.2.2.2.2.2.2.2.2.2))) else (some (.next ((IntKind.wrap .i64 (s4 + (1 : Int))), s5, s6, s7, s8, s9, s10, s11, s12, s13, s14, s15, s16, s17, s18, s19, s20)))) else ((some (s5, s6, s7, s8, s9, s10, s11, s12, s13, s14, s15, s16, s17, s18, s19, s20)).bind fun z28 => some (.stop z28))
noncomputable def jB (a0 : (List UInt8)) (e1 : Int) (e2 : Int) (e3 : Int) (e4 : Int) (e5 : Int) (e6 : (List (List UInt8))) (e7 : (List aa)) (e8 : (List aa)) (e9 : Int) (e10 : Int) (e11 : (List ac)) (e12 : Int) (e13 : Int) (e14 : (List ac)) (e15 : (List ae)) (e16 : (List ae)) (d1 : (List aj)) : Option (Int × Int × Int × Int × Int × (List (List UInt8)) × (List aa) × (List aa) × Int × Int × (List ac) × Int × Int × (List ac) × (List ae) × (List ae)) :=
  (a7 a0).bind fun x1 => if (x1.2 != (0 : Int)) = true then (some (e1, e2, e3, e4, e5, e6, e7, e8, e9, e10, e11, e12, e13, e14, e15, e16)) else ((ie (ah.mk e4 e5 e6) x1.1 (16 : Int)).bind fun x3 => (loopO (iy x3 d1) ((0 : Int), e1, e2, e3, e4, e5, e6, e7, e8, e9, e10, e11, e12, e13, e14, e15, e16)).bind fun o30 => some o30)
noncomputable def bG (a0 : ah) : Option ((List UInt8) × Int) :=
  (bj a0).bind fun x1 => if (!x1) = true then (some (([] : (List UInt8)), (1 : Int))) else ((aZ a0).bind fun x3 => (bf ([83] : List UInt8) [a0.aw, x3]).bind fun x4 => (bD x4).bind fun x5 => some (x5, (0 : Int)))
noncomputable def dh (j4 : Int) : Option (Int) :=
  some j4
noncomputable def di (a0 : ai) (j3 : Int) : Option (Int) :=
  if (decide ((a0.aG.length : Int) > (0 : Int))) = true then ((getO a0.aG (IntKind.wrap .i64 ((a0.aG.length : Int) - (1 : Int)))).bind fun x7 => dh (if x7.fTo > j3 then x7.fTo else j3)) else (dh j3)
noncomputable def ic (a0 : ai) : Option (Int) :=
  (bF a0).bind fun x1 => if (!x1) = true then (some (0 : Int)) else (if (decide ((a0.aN.length : Int) > (0 : Int))) = true then ((getO a0.aN (IntKind.wrap .i64 ((a0.aN.length : Int) - (1 : Int)))).bind fun x10 => di a0 (if x10.fTo > (0 : Int) then x10.fTo else (0 : Int))) else (di a0 (0 : Int)))
noncomputable def gc (a0 : ai) : Option ((List aa)) :=
  (hT a0.aN a0.aG).bind fun x1 => some x1
noncomputable def cB (a0 : ai) (a1 : Int) : Option ((List aa) × Int) :=
  (bF a0).bind fun x1 => if (!x1) = true then (some (([] : (List aa)), (1 : Int))) else ((dF a1 (0 : Int) (1073741825 : Int)).bind fun x3 => if (!x3) = true then (some (([] : (List aa)), (2 : Int))) else ((ic a0).bind fun x5 => (gc a0).bind fun x6 => (hJ [(aa.mk 0 (if x5 > a1 then x5 else a1))] x6).bind fun x7 => some (x7, (0 : Int))))
noncomputable def jt (x1 : (List aa)) : (Int × Int × (List aa)) → Option (Step1 (Int × Int × (List aa)) ((List aa))) := fun (s2, s3, s4) =>
  if (decide (s3 < (x1.length : Int))) = true then ((getO x1 s3).bind fun x8 => if (decide (s2 < (1 : Int))) = true then (some (.stop s4)) else (if (decide ((IntKind.wrap .u64 ((IntKind.wrap .u64 x8.fTo) - (IntKind.wrap .u64 x8.az))) > (IntKind.wrap .u64 s2))) = true then ((appO s4 [(aa.mk x8.az (IntKind.wrap .i64 (x8.az + s2)))] 16).bind fun x11 => some (.next ((0 : Int), (IntKind.wrap .i64 (s3 + (1 : Int))), x11))) else ((appO s4 [x8] 16).bind fun x12 => some (.next ((IntKind.wrap .i64 (s2 - (IntKind.wrap .i64 (IntKind.wrap .u64 ((IntKind.wrap .u64 x8.fTo) - (IntKind.wrap .u64 x8.az)))))), (IntKind.wrap .i64 (s3 + (1 : Int))), x12))))) else (some (.stop s4))
noncomputable def k8 (a0 : (List aa)) (a1 : Int) : Option ((List aa)) :=
  (cZ a0).bind fun x1 => (loopO (jt x1) (a1, (0 : Int), ([] : (List aa)))).bind fun o14 => some o14
noncomputable def dj (a0 : ai) (a1 : Int) (a2 : Int) : Option ((List aa) × Int) :=
  (cB a0 a1).bind fun x1 => if (x1.2 != (0 : Int)) = true then (some (([] : (List aa)), x1.2)) else ((dF a2 (0 : Int) (256 : Int)).bind fun x3 => if (!x3) = true then (some (([] : (List aa)), (2 : Int))) else ((k8 x1.1 a2).bind fun x5 => some (x5, (0 : Int))))
noncomputable def dY (a0 : (List aa)) (a1 : Int) : Option (Bool) :=
  (fN a0).bind fun x1 => if x1 = true then (if ((a0.length : Int) == (0 : Int)) = true then (some true) else ((getO a0 (0 : Int)).bind fun x4 => if (decide (x4.az ≥ (0 : Int))) = true then ((getO a0 (IntKind.wrap .i64 ((a0.length : Int) - (1 : Int)))).bind fun x6 => some (decide (x6.fTo ≤ a1))) else (some false))) else (some false)
noncomputable def aW (a1 : (List aa)) : ((List UInt8) × Int) → Option (Step1 ((List UInt8) × Int) ((List UInt8))) := fun (s6, s7) =>
  if (decide (s7 < (a1.length : Int))) = true then ((getO a1 s7).bind fun x11 => (bf s6 [x11.az, x11.fTo]).bind fun x12 => some (.next (x12, (IntKind.wrap .i64 (s7 + (1 : Int)))))) else (some (.stop s6))
noncomputable def bU (a0 : Int) (a1 : (List aa)) : Option ((List UInt8) × Int) :=
  (aX a0 (0 : Int) (1073741825 : Int)).bind fun x1 => if (!x1) = true then (some (([] : (List UInt8)), (1 : Int))) else ((dY a1 a0).bind fun x3 => if (!x3) = true then (some (([] : (List UInt8)), (1 : Int))) else (if (decide ((a1.length : Int) > (16 : Int))) = true then (some (([] : (List UInt8)), (8 : Int))) else ((loopO (aW a1) ([82], (0 : Int))).bind fun o14 => (bD o14).bind fun x15 => some (x15, (0 : Int)))))
noncomputable def mD (a0 : (List UInt8)) (e1 : Int) (e2 : Int) (e3 : Int) (e4 : Int) (e5 : Int) (e6 : (List (List UInt8))) (e7 : (List aa)) (e8 : (List aa)) (e9 : Int) (e10 : Int) (e11 : (List ac)) (e12 : Int) (e13 : Int) (e14 : (List ac)) (e15 : (List ae)) (e16 : (List ae)) (d1 : (List aj)) : Option (Int × Int × Int × Int × Int × (List (List UInt8)) × (List aa) × (List aa) × Int × Int × (List ac) × Int × Int × (List ac) × (List ae) × (List ae)) :=
  (eQ e16).bind fun x1 => (fP (ak.mk e12 e13 e14) a0 x1.1).bind fun x2 => if (x2.2 == (0 : Int)) = true then (some (e1, e2, e3, e4, e5, e6, e7, e8, e9, e10, e11, x2.1.aA, x2.1.aq, x2.1.av, e15, x1.2)) else (some (e1, e2, e3, e4, e5, e6, e7, e8, e9, e10, e11, e12, e13, e14, e15, x1.2))
noncomputable def eJ (e0 : Int) (e1 : Int) (e2 : Int) (e3 : Int) (e4 : Int) (e5 : (List (List UInt8))) (e6 : (List aa)) (e7 : (List aa)) (e8 : Int) (e9 : Int) (e10 : (List ac)) (e11 : Int) (e12 : Int) (e13 : (List ac)) (e14 : (List ae)) (e15 : (List ae)) (d1 : (List aj)) : Option (Int × Int × Int × Int × Int × (List (List UInt8)) × (List aa) × (List aa) × Int × Int × (List ac) × Int × Int × (List ac) × (List ae) × (List ae)) :=
  (bG (ah.mk e3 e4 e5)).bind fun x1 => (jc x1.1 e0 e1 e2 e3 e4 e5 e6 e7 e8 e9 e10 e11 e12 e13 e14 e15 d1).bind fun x2 => (dj (ai.mk x2.2.2.2.2.2.2.1 x2.2.2.2.2.2.2.2.1) x2.2.2.1 (16 : Int)).bind fun x3 => if (x3.2 != (0 : Int)) = true then (some (x2.1, x2.2.1, x2.2.2.1, x2.2.2.2.1, x2.2.2.2.2.1, x2.2.2.2.2.2.1, x2.2.2.2.2.2.2.1, x2.2.2.2.2.2.2.2.1, x2.2.2.2.2.2.2.2.2.1, x2.2.2.2.2.2.2.2.2.2.1, x2.2.2.2.2.2.2.2.2.2.2.1, x2.2.2.2.2.2.2.2.2.2.2.2.1, x2.2.2.2.2.2.2.2.2.2.2.2.2.1, x2.2.2.2.2.2.2.2.2.2.2.2.2.2.1, x2.2.2.2.2.2.2.2.2.2.2.2.2.2.2.1, x2.2.2.2.2.2.2.2.2.2.2.2.2.2.2.2)) else (if ((x3.1.length : Int) == (0 : Int)) = true then (some (x2.1, x2.2.1, x2.2.2.1, x2.2.2.2.1, x2.2.2.2.2.1, x2.2.2.2.2.2.1, x2.2.2.2.2.2.2.1, x2.2.2.2.2.2.2.2.1, x2.2.2.2.2.2.2.2.2.1, x2.2.2.2.2.2.2.2.2.2.1, x2.2.2.2.2.2.2.2.2.2.2.1, x2.2.2.2.2.2.2.2.2.2.2.2.1, x2.2.2.2.2.2.2.2.2.2.2.2.2.1, x2.2.2.2.2.2.2.2.2.2.2.2.2.2.1, x2.2.2.2.2.2.2.2.2.2.2.2.2.2.2.1, x2.2.2.2.2.2.2.2.2.2.2.2.2.2.2.2)) else ((getO x3.1 (IntKind.wrap .i64 ((x3.1.length : Int) - (1 : Int)))).bind fun x6 => (bU x6.fTo x3.1).bind fun x7 => if (x7.2 == (0 : Int)) = true then ((mD x7.1 x2.1 x2.2.1 x2.2.2.1 x2.2.2.2.1 x2.2.2.2.2.1 x2.2.2.2.2.2.1 x2.2.2.2.2.2.2.1 x2.2.2.2.2.2.2.2.1 x2.2.2.2.2.2.2.2.2.1 x2.2.2.2.2.2.2.2.2.2.1 x2.2.2.2.2.2.2.2.2.2.2.1 x2.2.2.2.2.2.2.2.2.2.2.2.1 x2.2.2.2.2.2.2.2.2.2.2.2.2.1 x2.2.2.2.2.2.2.2.2.2.2.2.2.2.1 x2.2.2.2.2.2.2.2.2.2.2.2.2.2.2.1 x2.2.2.2.2.2.2.2.2.2.2.2.2.2.2.2 d1).bind fun x9 => some (x9.1, x9.2.1, x9.2.2.1, x9.2.2.2.1, x9.2.2.2.2.1, x9.2.2.2.2.2.1, x9.2.2.2.2.2.2.1, x9.2.2.2.2.2.2.2.1, x9.2.2.2.2.2.2.2.2.1, x9.2.2.2.2.2.2.2.2.2.1, x9.2.2.2.2.2.2.2.2.2.2.1, x9.2.2.2.2.2.2.2.2.2.2.2.1, x9.2.2.2.2.2.2.2.2.2.2.2.2.1, x9.2.2.2.2.2.2.2.2.2.2.2.2.2.1, x9.2.2.2.2.2.2.2.2.2.2.2.2.2.2.1, x9.2.2.2.2.2.2.2.2.2.2.2.2.2.2.2)) else (some (x2.1, x2.2.1, x2.2.2.1, x2.2.2.2.1, x2.2.2.2.2.1, x2.2.2.2.2.2.1, x2.2.2.2.2.2.2.1, x2.2.2.2.2.2.2.2.1, x2.2.2.2.2.2.2.2.2.1, x2.2.2.2.2.2.2.2.2.2.1, x2.2.2.2.2.2.2.2.2.2.2.1, x2.2.2.2.2.2.2.2.2.2.2.2.1, x2.2.2.2.2.2.2.2.2.2.2.2.2.1, x2.2.2.2.2.2.2.2.2.2.2.2.2.2.1, x2.2.2.2.2.2.2.2.2.2.2.2.2.2.2.1, x2.2.2.2.2.2.2.2.2.2.2.2.2.2.2.2))))
noncomputable def dt (x9 : ak × (List (List UInt8)) × Int) : (Int × Int × Int × Int × Int × Int × (List (List UInt8)) × (List aa) × (List aa) × Int × Int × (List ac) × Int × Int × (List ac) × (List ae) × (List ae) × (List aj)) → Option (Step1 (Int × Int × Int × Int × Int × Int × (List (List UInt8)) × (List aa) × (List aa) × Int × Int × (List ac) × Int × Int × (List ac) × (List ae) × (List ae) × (List aj)) (Int × Int × Int × Int × Int × (List (List UInt8)) × (List aa) × (List aa) × Int × Int × (List ac) × Int × Int × (List ac) × (List ae) × (List ae) × (List aj))) := fun (s10, s11, s12, s13, s14, s15, s16, s17, s18, s19, s20, s21, s22, s23, s24, s25, s26, s27) =>
  if (decide (s10 < (x9.2.1.length : Int))) = true then ((getO x9.2.1 s10).bind fun x47 => (fO x47 s11 s12 s13 s14 s15 s16 s17 s18 s19 s20 s21 s22 s23 s24 s25 s26 s27).bind fun x48 => (dE x47 x48.1 x48.2.1 x48.2.2.1 x48.2.2.2.1 x48.2.2.2.2.1 x48.2.2.2.2.2.1 x48.2.2.2.2.2.2.1 x48.2.2.2.2.2.2.2.1 x48.2.2.2.2.2.2.2.2.1 x48.2.2.2.2.2.2.2.2.2.1 x48.2.2.2.2.2.2.2.2.2.2.1 x48.2.2.2.2.2.2.2.2.2.2.2.1 x48.2.2.2.2.2.2.2.2.2.2.2.2.1 x48.2.2.2.2.2.2.2.2.2.2.2.2.2.1 x48.2.2.2.2.2.2.2.2.2.2.2.2.2.2.1 x48.2.2.2.2.2.2.2.2.2.2.2.2.2.2.2.1 x48.2.2.2.2.2.2.2.2.2.2.2.2.2.2.2.2).bind fun x49 => some (.next ((IntKind.wrap .i64 (s10 + (1 : Int))), x49.1, x49.2.1, x49.2.2.1, x49.2.2.2.1, x49.2.2.2.2.1, x49.2.2.2.2.2.1, x49.2.2.2.2.2.2.1, x49.2.2.2.2.2.2.2.1, x49.2.2.2.2.2.2.2.2.1, x49.2.2.2.2.2.2.2.2.2.1, x49.2.2.2.2.2.2.2.2.2.2.1, x49.2.2.2.2.2.2.2.2.2.2.2.1, x49.2.2.2.2.2.2.2.2.2.2.2.2.1, x49.2.2.2.2.2.2.2.2.2.2.2.2.2.1, x49.2.2.2.2.2.2.2.2.2.2.2.2.2.2.1, x49.2.2.2.2.2.2.2.2.2.2.2.2.2.2.2, x48.2.2.2.2.2.2.2.2.2.2.2.2.2.2.2.2))) else (some (.stop (s11, s12, s13, s14, s15, s16, s17, s18, s19, s20, s21, s22, s23, s24, s25, s26, s27)))
noncomputable def du (x52 : ak × (List (List UInt8)) × Int) (o51 : Int × Int × Int × Int × Int × (List (List UInt8)) × (List aa) × (List aa) × Int × Int × (List ac) × Int × Int × (List ac) × (List ae) × (List ae) × (List aj)) : (Int × Int × Int × Int × Int × Int × (List (List UInt8)) × (List aa) × (List aa) × Int × Int × (List ac) × Int × Int × (List ac) × (List ae) × (List ae)) → Option (Step1 (Int × Int × Int × Int × Int × Int × (List (List UInt8)) × (List aa) × (List aa) × Int × Int × (List ac) × Int × Int × (List ac) × (List ae) × (List ae)) (Int × Int × Int × Int × Int × (List (List UInt8)) × (List aa) × (List aa) × Int × Int × (List ac) × Int × Int × (List ac) × (List ae) × (List ae))) := fun (s53, s54, s55, s56, s57, s58, s59, s60, s61, s62, s63, s64, s65, s66, s67, s68, s69) =>
  if (decide (s53 < (x52.2.1.length : Int))) = true then ((getO x52.2.1 s53).bind fun x88 => (jB x88 s54 s55 s56 s57 s58 s59 s60 s61 s62 s63 s64 s65 s66 s67 s68 s69 o51.2.2.2.2.2.2.2.2.2.2.2.2.2.2.2.2).bind fun x89 => some (.next ((IntKind.wrap .i64 (s53 + (1 : Int))), x89.1, x89.2.1, x89.2.2.1, x89.2.2.2.1, x89.2.2.2.2.1, x89.2.2.2.2.2.1, x89.2.2.2.2.2.2.1, x89.2.2.2.2.2.2.2.1, x89.2.2.2.2.2.2.2.2.1, x89.2.2.2.2.2.2.2.2.2.1, x89.2.2.2.2.2.2.2.2.2.2.1, x89.2.2.2.2.2.2.2.2.2.2.2.1, x89.2.2.2.2.2.2.2.2.2.2.2.2.1, x89.2.2.2.2.2.2.2.2.2.2.2.2.2.1, x89.2.2.2.2.2.2.2.2.2.2.2.2.2.2.1, x89.2.2.2.2.2.2.2.2.2.2.2.2.2.2.2))) else (some (.stop (s54, s55, s56, s57, s58, s59, s60, s61, s62, s63, s64, s65, s66, s67, s68, s69)))
noncomputable def cx (a0 : ag) (a1 : (List ae)) (a2 : (List ae)) : Option (ag × Int) :=
  (b8 a0).bind fun x1 => if (!x1) = true then (some ((ag.mk 0 0 0 (ah.mk 0 0 []) (ai.mk [] []) (ak.mk 0 0 []) (ak.mk 0 0 []) []), (1 : Int))) else ((aQ a1).bind fun x3 => if x3 = true then (some ((ag.mk 0 0 0 (ah.mk 0 0 []) (ai.mk [] []) (ak.mk 0 0 []) (ak.mk 0 0 []) []), (1 : Int))) else ((aQ a2).bind fun x5 => if x5 = true then (some ((ag.mk 0 0 0 (ah.mk 0 0 []) (ai.mk [] []) (ak.mk 0 0 []) (ak.mk 0 0 []) []), (1 : Int))) else (if (a0.aA == (1099511627776 : Int)) = true then (some ((ag.mk 0 0 0 (ah.mk 0 0 []) (ai.mk [] []) (ak.mk 0 0 []) (ak.mk 0 0 []) []), (8 : Int))) else ((cd a0).bind fun x8 => (fQ x8.aC).bind fun x9 => (loopO (dt x9) ((0 : Int), (IntKind.wrap .i64 (x8.aA + (1 : Int))), x8.aD, x8.aM, x8.ar.aF, x8.ar.aw, x8.ar.aB, x8.ap.aN, x8.ap.aG, x9.1.aA, x9.1.aq, x9.1.av, x8.fUp.aA, x8.fUp.aq, x8.fUp.av, a1, a2, x8.au)).bind fun o51 => (fQ (ak.mk o51.2.2.2.2.2.2.2.2.2.2.2.1 o51.2.2.2.2.2.2.2.2.2.2.2.2.1 o51.2.2.2.2.2.2.2.2.2.2.2.2.2.1)).bind fun x52 => (loopO (du x52 o51) ((0 : Int), o51.1, o51.2.1, o51.2.2.1, o51.2.2.2.1, o51.2.2.2.2.1, o51.2.2.2.2.2.1, o51.2.2.2.2.2.2.1, o51.2.2.2.2.2.2.2.1, o51.2.2.2.2.2.2.2.2.1, o51.2.2.2.2.2.2.2.2.2.1, o51.2.2.2.2.2.2.2.2.2.2.1, x52.1.aA, x52.1.aq, x52.1.av, o51.2.2.2.2.2.2.2.2.2.2.2.2.2.2.1, o51.2.2.2.2.2.2.2.2.2.2.2.2.2.2.2.1)).bind fun o91 => (remO o91.1 o91.2.1).bind fun x92 => if (x92 == (0 : Int)) = true then ((eJ o91.1 o91.2.1 o91.2.2.1 o91.2.2.2.1 o91.2.2.2.2.1 o91.2.2.2.2.2.1 o91.2.2.2.2.2.2.1 o91.2.2.2.2.2.2.2.1 o91.2.2.2.2.2.2.2.2.1 o91.2.2.2.2.2.2.2.2.2.1 o91.2.2.2.2.2.2.2.2.2.2.1 o91.2.2.2.2.2.2.2.2.2.2.2.1 o91.2.2.2.2.2.2.2.2.2.2.2.2.1 o91.2.2.2.2.2.2.2.2.2.2.2.2.2.1 o91.2.2.2.2.2.2.2.2.2.2.2.2.2.2.1 o91.2.2.2.2.2.2.2.2.2.2.2.2.2.2.2 o51.2.2.2.2.2.2.2.2.2.2.2.2.2.2.2.2).bind fun x94 => some ((ag.mk x94.1 x94.2.1 x94.2.2.1 (ah.mk x94.2.2.2.1 x94.2.2.2.2.1 x94.2.2.2.2.2.1) (ai.mk x94.2.2.2.2.2.2.1 x94.2.2.2.2.2.2.2.1) (ak.mk x94.2.2.2.2.2.2.2.2.1 x94.2.2.2.2.2.2.2.2.2.1 x94.2.2.2.2.2.2.2.2.2.2.1) (ak.mk x94.2.2.2.2.2.2.2.2.2.2.2.1 x94.2.2.2.2.2.2.2.2.2.2.2.2.1 x94.2.2.2.2.2.2.2.2.2.2.2.2.2.1) o51.2.2.2.2.2.2.2.2.2.2.2.2.2.2.2.2), (0 : Int))) else (some ((ag.mk o91.1 o91.2.1 o91.2.2.1 (ah.mk o91.2.2.2.1 o91.2.2.2.2.1 o91.2.2.2.2.2.1) (ai.mk o91.2.2.2.2.2.2.1 o91.2.2.2.2.2.2.2.1) (ak.mk o91.2.2.2.2.2.2.2.2.1 o91.2.2.2.2.2.2.2.2.2.1 o91.2.2.2.2.2.2.2.2.2.2.1) (ak.mk o91.2.2.2.2.2.2.2.2.2.2.2.1 o91.2.2.2.2.2.2.2.2.2.2.2.2.1 o91.2.2.2.2.2.2.2.2.2.2.2.2.2.1) o51.2.2.2.2.2.2.2.2.2.2.2.2.2.2.2.2), (0 : Int)))))))
noncomputable def iI  : (Int × Int × Int × Int × Int × Int × Int × (List (List UInt8)) × (List aa) × (List aa) × Int × Int × (List ac) × Int × Int × (List ac) × (List aj)) → Option (Step1 (Int × Int × Int × Int × Int × Int × Int × (List (List UInt8)) × (List aa) × (List aa) × Int × Int × (List ac) × Int × Int × (List ac) × (List aj)) (Int × Int × Int × Int × Int × Int × (List (List UInt8)) × (List aa) × (List aa) × Int × Int × (List ac) × Int × Int × (List ac) × (List aj))) := fun (s22, s23, s24, s25, s26, s27, s28, s29, s30, s31, s32, s33, s34, s35, s36, s37, s38) =>
  if (decide (s22 > (0 : Int))) = true then (if (s23 == (0 : Int)) = true then ((cx (ag.mk s24 s25 s26 (ah.mk s27 s28 s29) (ai.mk s30 s31) (ak.mk s32 s33 s34) (ak.mk s35 s36 s37) s38) [] []).bind fun x58 => some (.next ((IntKind.wrap .i64 (s22 - (1 : Int))), x58.2, x58.1.aA, x58.1.aD, x58.1.aM, x58.1.ar.aF, x58.1.ar.aw, x58.1.ar.aB, x58.1.ap.aN, x58.1.ap.aG, x58.1.aC.aA, x58.1.aC.aq, x58.1.aC.av, x58.1.fUp.aA, x58.1.fUp.aq, x58.1.fUp.av, x58.1.au))) else (some (.stop (s23, s24, s25, s26, s27, s28, s29, s30, s31, s32, s33, s34, s35, s36, s37, s38)))) else (some (.stop (s23, s24, s25, s26, s27, s28, s29, s30, s31, s32, s33, s34, s35, s36, s37, s38)))
noncomputable def eB (a0 : ag) (a1 : Int) : Option (ag × Int) :=
  (aX a1 (0 : Int) (100000 : Int)).bind fun x1 => if (!x1) = true then (some ((ag.mk 0 0 0 (ah.mk 0 0 []) (ai.mk [] []) (ak.mk 0 0 []) (ak.mk 0 0 []) []), (2 : Int))) else ((b8 a0).bind fun x3 => if (!x3) = true then (some ((ag.mk 0 0 0 (ah.mk 0 0 []) (ai.mk [] []) (ak.mk 0 0 []) (ak.mk 0 0 []) []), (1 : Int))) else ((cd a0).bind fun x5 => (loopO (iI) (a1, (0 : Int), x5.aA, x5.aD, x5.aM, x5.ar.aF, x5.ar.aw, x5.ar.aB, x5.ap.aN, x5.ap.aG, x5.aC.aA, x5.aC.aq, x5.aC.av, x5.fUp.aA, x5.fUp.aq, x5.fUp.av, x5.au)).bind fun o60 => some ((ag.mk o60.2.1 o60.2.2.1 o60.2.2.2.1 (ah.mk o60.2.2.2.2.1 o60.2.2.2.2.2.1 o60.2.2.2.2.2.2.1) (ai.mk o60.2.2.2.2.2.2.2.1 o60.2.2.2.2.2.2.2.2.1) (ak.mk o60.2.2.2.2.2.2.2.2.2.1 o60.2.2.2.2.2.2.2.2.2.2.1 o60.2.2.2.2.2.2.2.2.2.2.2.1) (ak.mk o60.2.2.2.2.2.2.2.2.2.2.2.2.1 o60.2.2.2.2.2.2.2.2.2.2.2.2.2.1 o60.2.2.2.2.2.2.2.2.2.2.2.2.2.2.1) o60.2.2.2.2.2.2.2.2.2.2.2.2.2.2.2), o60.1)))
noncomputable def bC (a0 : ag) : Option (Bool) :=
  (aZ a0.ar).bind fun x1 => (cB a0.ap x1).bind fun x2 => (b8 a0).bind fun x3 => if x3 = true then (if (x2.2 == (0 : Int)) = true then (some ((x2.1.length : Int) == (0 : Int))) else (some false)) else (some false)
noncomputable def jk  : (Int × Int × Int × Int × Int × Int × Int × (List (List UInt8)) × (List aa) × (List aa) × Int × Int × (List ac) × Int × Int × (List ac) × (List aj)) → Option (Step1 (Int × Int × Int × Int × Int × Int × Int × (List (List UInt8)) × (List aa) × (List aa) × Int × Int × (List ac) × Int × Int × (List ac) × (List aj)) (Int × Int × Int × Int × Int × Int × (List (List UInt8)) × (List aa) × (List aa) × Int × Int × (List ac) × Int × Int × (List ac) × (List aj))) := fun (s2, s3, s4, s5, s6, s7, s8, s9, s10, s11, s12, s13, s14, s15, s16, s17, s18) =>
  if (decide (s3 < (3 : Int))) = true then (if (s2 == (0 : Int)) = true then ((getO [[97], [98], [99]] s3).bind fun x38 => (b7 (ag.mk s4 s5 s6 (ah.mk s7 s8 s9) (ai.mk s10 s11) (ak.mk s12 s13 s14) (ak.mk s15 s16 s17) s18) x38 (ae.mk (decide (s3 > (0 : Int))) 0 0)).bind fun x39 => some (.next (x39.2.2, (IntKind.wrap .i64 (s3 + (1 : Int))), x39.1.aA, x39.1.aD, x39.1.aM, x39.1.ar.aF, x39.1.ar.aw, x39.1.ar.aB, x39.1.ap.aN, x39.1.ap.aG, x39.1.aC.aA, x39.1.aC.aq, x39.1.aC.av, x39.1.fUp.aA, x39.1.fUp.aq, x39.1.fUp.av, x39.1.au))) else (some (.stop (s2, s4, s5, s6, s7, s8, s9, s10, s11, s12, s13, s14, s15, s16, s17, s18)))) else (some (.stop (s2, s4, s5, s6, s7, s8, s9, s10, s11, s12, s13, s14, s15, s16, s17, s18)))
noncomputable def cq  : Option (Bool) :=
  (dH (8 : Int) (2 : Int)).bind fun x1 => (loopO (jk) (x1.2, (0 : Int), x1.1.aA, x1.1.aD, x1.1.aM, x1.1.ar.aF, x1.1.ar.aw, x1.1.ar.aB, x1.1.ap.aN, x1.1.ap.aG, x1.1.aC.aA, x1.1.aC.aq, x1.1.aC.av, x1.1.fUp.aA, x1.1.fUp.aq, x1.1.fUp.av, x1.1.au)).bind fun o41 => if (o41.1 != (0 : Int)) = true then (some false) else ((eB (ag.mk o41.2.1 o41.2.2.1 o41.2.2.2.1 (ah.mk o41.2.2.2.2.1 o41.2.2.2.2.2.1 o41.2.2.2.2.2.2.1) (ai.mk o41.2.2.2.2.2.2.2.1 o41.2.2.2.2.2.2.2.2.1) (ak.mk o41.2.2.2.2.2.2.2.2.2.1 o41.2.2.2.2.2.2.2.2.2.2.1 o41.2.2.2.2.2.2.2.2.2.2.2.1) (ak.mk o41.2.2.2.2.2.2.2.2.2.2.2.2.1 o41.2.2.2.2.2.2.2.2.2.2.2.2.2.1 o41.2.2.2.2.2.2.2.2.2.2.2.2.2.2.1) o41.2.2.2.2.2.2.2.2.2.2.2.2.2.2.2) (1 : Int)).bind fun x43 => (eB x43.1 (12 : Int)).bind fun x44 => if (x43.2 == (0 : Int)) = true then (if (x44.2 == (0 : Int)) = true then (if ((x43.1.au.length : Int) == (1 : Int)) = true then ((bC x43.1).bind fun x48 => if (!x48) = true then ((bC x44.1).bind fun x50 => if x50 = true then (some ((x44.1.au.length : Int) == (3 : Int))) else (some false)) else (some false)) else (some false)) else (some false)) else (some false))
noncomputable def jl (a0 : (List Int)) : Option (Bool) :=
  some (decide ((a0.length : Int) ≤ (500 : Int)))
noncomputable def kw (a0 : (List Int)) : Option (am) :=
  some (am.mk a0 0)
noncomputable def bp (a1 : Int) (d0 : am) : Option (Int × am) :=
  if (decide (d0.fAt ≥ (d0.fL.length : Int))) = true then (some ((0 : Int), d0)) else (if (decide (a1 < (1 : Int))) = true then (some ((0 : Int), d0)) else ((getO d0.fL d0.fAt).bind fun x3 => (remO x3 a1).bind fun x4 => if (decide (x4 < (0 : Int))) = true then (some ((IntKind.wrap .i64 (x4 + a1)), (am.mk d0.fL (IntKind.wrap .i64 (d0.fAt + (1 : Int)))))) else (some (x4, (am.mk d0.fL (IntKind.wrap .i64 (d0.fAt + (1 : Int))))))))
noncomputable def ja (a1 : (List Int)) (d0 : am) : Option (Int × am) :=
  (bp (a1.length : Int) d0).bind fun x1 => (getO a1 x1.1).bind fun x2 => some (x2, x1.2)
noncomputable def cr (a0 : ah) : Option (Int) :=
  some (IntKind.wrap .i64 (a0.aw + (a0.aB.length : Int)))
noncomputable def jW (s2 : Int) : (Int × Int) → Option (Step1 (Int × Int) (Int × Int)) := fun (s7, s8) =>
  if (decide (s8 < (8 : Int))) = true then (if ((andI .i64 s7 (1 : Int)) == (1 : Int)) = true then (some (.next ((xorI .i64 (shrI .i64 s7 (1 : Int)) (3988292384 : Int)), (IntKind.wrap .i64 (s8 + (1 : Int)))))) else (some (.next ((shrI .i64 s7 (1 : Int)), (IntKind.wrap .i64 (s8 + (1 : Int))))))) else (some (.stop (s7, s2)))
noncomputable def jX (a1 : (List UInt8)) : (Int × Int) → Option (Step1 (Int × Int) (Int)) := fun (s1, s2) =>
  if (decide (s2 < (a1.length : Int))) = true then ((byteO a1 s2).bind fun x6 => (loopO (jW s2) ((xorI .i64 s1 (IntKind.wrap .i64 x6)), (0 : Int))).bind fun o15 => some (.next (o15.1, (IntKind.wrap .i64 (o15.2 + (1 : Int)))))) else (some (.stop s1))
noncomputable def lO (a0 : Int) (a1 : (List UInt8)) : Option (Int) :=
  (loopO (jX a1) (a0, (0 : Int))).bind fun o17 => some o17
noncomputable def ref06_Sum (a0 : (List UInt8)) : Option (Int) :=
  (lO (4294967295 : Int) a0).bind fun x1 => some (xorI .i64 x1 (4294967295 : Int))
noncomputable def cv (a0 : (List UInt8)) : Option ((List UInt8)) :=
  (ref06_Sum a0).bind fun x1 => (catO a0 (strU ([(IntKind.wrap .u8 x1), (IntKind.wrap .u8 (shrI .i64 x1 (8 : Int))), (IntKind.wrap .u8 (shrI .i64 x1 (16 : Int))), (IntKind.wrap .u8 (shrI .i64 x1 (24 : Int)))] : List Int))).bind fun x2 => some x2
noncomputable def ex (a0 : Int) (a1 : Int) (a2 : Int) : Option (Bool) :=
  if (decide (a0 ≥ a1)) = true then (some (decide (a0 ≤ a2))) else (some false)
noncomputable def md (a1 : Int) : (Int × (List Int)) → Option (Step1 (Int × (List Int)) ((List Int))) := fun (s7, s8) =>
  if (decide (s7 ≥ (0 : Int))) = true then ((shrO .i64 a1 (IntKind.wrap .u64 (IntKind.wrap .i64 ((8 : Int) * s7)))).bind fun x12 => (appO s8 [(IntKind.wrap .u8 x12)] 1).bind fun x13 => some (.next ((IntKind.wrap .i64 (s7 - (1 : Int))), x13))) else (some (.stop s8))
noncomputable def ky (a0 : (List UInt8)) (a1 : Int) (a2 : Int) : Option ((List UInt8) × Int) :=
  (ex a2 (1 : Int) (7 : Int)).bind fun x1 => if (!x1) = true then (some (([] : (List UInt8)), (2 : Int))) else (if (decide (a1 < (0 : Int))) = true then (some (([] : (List UInt8)), (2 : Int))) else ((shlO .i64 (1 : Int) (IntKind.wrap .u64 (IntKind.wrap .i64 ((8 : Int) * a2)))).bind fun x4 => if (decide (a1 ≥ x4)) = true then (some (([] : (List UInt8)), (2 : Int))) else ((bytO a0).bind fun b6 => (loopO (md a1) ((IntKind.wrap .i64 (a2 - (1 : Int))), b6)).bind fun o15 => some ((strU o15), (0 : Int)))))
noncomputable def kW (a1 : (List Int)) : ((List UInt8) × Int) → Option (Step1 ((List UInt8) × Int) ((List UInt8))) := fun (s1, s2) =>
  if (decide (s2 < (a1.length : Int))) = true then ((getO a1 s2).bind fun x6 => (ky s1 x6 (4 : Int)).bind fun x7 => some (.next (x7.1, (IntKind.wrap .i64 (s2 + (1 : Int)))))) else (some (.stop s1))
noncomputable def jd (a0 : (List UInt8)) (a1 : (List Int)) : Option ((List UInt8)) :=
  (loopO (kW a1) (a0, (0 : Int))).bind fun o9 => some o9
noncomputable def kT (a0 : Int) (a1 : Int) (a2 : (List UInt8)) : Option ((List UInt8) × Int) :=
  (ex a0 (0 : Int) (1073741824 : Int)).bind fun x1 => if (!x1) = true then (some (([] : (List UInt8)), (2 : Int))) else ((ex a1 (0 : Int) (1073741825 : Int)).bind fun x3 => if (!x3) = true then (some (([] : (List UInt8)), (2 : Int))) else ((jd ([68] : List UInt8) [a0, a1]).bind fun x5 => (catO x5 a2).bind fun x6 => (cv x6).bind fun x7 => if (decide ((x7.length : Int) > (4096 : Int))) = true then (some (([] : (List UInt8)), (8 : Int))) else (some (x7, (0 : Int)))))
noncomputable def lP (a0 : Int) : Option (ah × Int) :=
  (ex a0 (1 : Int) (256 : Int)).bind fun x1 => if (!x1) = true then (some ((ah.mk 0 0 []), (2 : Int))) else (some ((ah.mk a0 0 []), (0 : Int)))
noncomputable def iD (a0 : ah) : Int → Option (Step1 (Int) ((Unit) ⊕ (Bool))) := fun s7 =>
  if (decide (s7 < (a0.aB.length : Int))) = true then ((getO a0.aB s7).bind fun x10 => if (decide ((x10.length : Int) > (4064 : Int))) = true then (some (.stop (.inr false))) else (some (.next (IntKind.wrap .i64 (s7 + (1 : Int)))))) else (some (.stop (.inl ())))
noncomputable def ip (a0 : ah) : Option (Bool) :=
  (ex a0.aF (1 : Int) (256 : Int)).bind fun x1 => if (!x1) = true then (some false) else ((ex a0.aw (0 : Int) (1073741825 : Int)).bind fun x3 => if (!x3) = true then (some false) else (if (decide ((a0.aB.length : Int) > a0.aF)) = true then (some false) else (if (decide ((IntKind.wrap .i64 (a0.aw + (a0.aB.length : Int))) > (1073741825 : Int))) = true then (some false) else ((loopO (iD a0) (0 : Int)).bind fun o13 => match o13 with | .inl _ => (some true) | .inr r15 => (some r15)))))
noncomputable def kS (a0 : ah) (a1 : (List UInt8)) : Option (ah × Int × Int) :=
  (ip a0).bind fun x1 => if (!x1) = true then (some ((ah.mk 0 0 []), (0 : Int), (1 : Int))) else (if (decide ((a1.length : Int) > (4064 : Int))) = true then (some ((ah.mk 0 0 []), (0 : Int), (8 : Int))) else ((cr a0).bind fun x4 => if (x4 == (1073741825 : Int)) = true then (some ((ah.mk 0 0 []), (0 : Int), (8 : Int))) else ((appO ([] : List (List UInt8)) a0.aB 16).bind fun x6 => (appO x6 [a1] 16).bind fun x7 => if (decide ((x7.length : Int) > a0.aF)) = true then ((cutO x7 1 (x7.length : Int)).bind fun x9 => (cr a0).bind fun x10 => some ((ah.mk a0.aF (IntKind.wrap .i64 (a0.aw + (1 : Int))) x9), x10, (0 : Int))) else ((cr a0).bind fun x11 => some ((ah.mk a0.aF a0.aw x7), x11, (0 : Int))))))
noncomputable def la  : (Int × (List Int) × Int × Int × Int × (List (List UInt8))) → Option (Step1 (Int × (List Int) × Int × Int × Int × (List (List UInt8))) (Int × Int × (List (List UInt8)) × (List Int) × Int)) := fun (s4, s5, s6, s7, s8, s9) =>
  if (decide (s4 > (0 : Int))) = true then ((bp (4 : Int) (am.mk s5 s6)).bind fun x17 => (getO [[97], [98, 99], [], [120, 121, 122]] x17.1).bind fun x18 => (kS (ah.mk s7 s8 s9) x18).bind fun x19 => some (.next ((IntKind.wrap .i64 (s4 - (1 : Int))), x17.2.fL, x17.2.fAt, x19.1.aF, x19.1.aw, x19.1.aB))) else (some (.stop (s7, s8, s9, s5, s6)))
noncomputable def jz (d0 : am) : Option (ah × am) :=
  (ja [1, 2, 4, 8] d0).bind fun x1 => (lP x1.1).bind fun x2 => (bp (9 : Int) x1.2).bind fun x3 => (loopO (la) (x3.1, x3.2.fL, x3.2.fAt, x2.1.aF, x2.1.aw, x2.1.aB)).bind fun o21 => some ((ah.mk o21.1 o21.2.1 o21.2.2.1), (am.mk o21.2.2.2.1 o21.2.2.2.2))
noncomputable def i5 (a0 : ah) : Option ((List UInt8) × Int) :=
  (ip a0).bind fun x1 => if (!x1) = true then (some (([] : (List UInt8)), (1 : Int))) else ((cr a0).bind fun x3 => (jd ([83] : List UInt8) [a0.aw, x3]).bind fun x4 => (cv x4).bind fun x5 => some (x5, (0 : Int)))
noncomputable def lm  : (Int × (List Int) × Int × (List aa)) → Option (Step1 (Int × (List Int) × Int × (List aa)) ((List aa) × (List Int) × Int)) := fun (s2, s3, s4, s5) =>
  if (decide (s2 > (0 : Int))) = true then ((bp (30 : Int) (am.mk s3 s4)).bind fun x11 => (bp (8 : Int) x11.2).bind fun x12 => (appO s5 [(aa.mk x11.1 (IntKind.wrap .i64 ((IntKind.wrap .i64 (x11.1 + x12.1)) - (1 : Int))))] 16).bind fun x13 => some (.next ((IntKind.wrap .i64 (s2 - (1 : Int))), x12.2.fL, x12.2.fAt, x13))) else (some (.stop (s5, s3, s4)))
noncomputable def je (d0 : am) : Option ((List aa) × am) :=
  (bp (6 : Int) d0).bind fun x1 => (loopO (lm) (x1.1, x1.2.fL, x1.2.fAt, ([] : (List aa)))).bind fun o15 => some (o15.1, (am.mk o15.2.1 o15.2.2))
noncomputable def kz (s2 : (List aa)) (a0 : (List aa)) (s1 : Int) : Int → Option (Step1 (Int) (Int × Int × (List aa))) := fun s9 =>
  if (decide (s9 > (0 : Int))) = true then ((inO s2 (IntKind.wrap .i64 (s9 - (1 : Int)))).bind fun _ => (getO s2 (IntKind.wrap .i64 (s9 - (1 : Int)))).bind fun x17 => (getO a0 s1).bind fun x18 => if (decide (x17.az > x18.az)) = true then (some (.next (IntKind.wrap .i64 (s9 - (1 : Int))))) else (some (.stop (s1, s9, s2)))) else (some (.stop (s1, s9, s2)))
noncomputable def kA (a0 : (List aa)) : (Int × (List aa)) → Option (Step1 (Int × (List aa)) ((List aa))) := fun (s1, s2) =>
  if (decide (s1 < (a0.length : Int))) = true then ((getO a0 s1).bind fun x6 => (getO a0 s1).bind fun x7 => if (decide (x6.az ≥ x7.fTo)) = true then (some (.next ((IntKind.wrap .i64 (s1 + (1 : Int))), s2))) else ((loopO (kz s2 a0 s1) (s2.length : Int)).bind fun o21 => (getO a0 o21.1).bind fun x22 => (appO o21.2.2 [x22] 16).bind fun x23 => (subO x23.length (IntKind.wrap .i64 (o21.2.1 + (1 : Int))) (x23.length : Int)).bind fun _ => (subO x23.length o21.2.1 (x23.length : Int)).bind fun _ => (viewO x23.length (0 + ((IntKind.wrap .i64 (o21.2.1 + (1 : Int))) : Int).toNat) (0 + ((x23.length : Int) : Int).toNat)).bind fun _ => (partO x23 (0 + (o21.2.1 : Int).toNat) (0 + ((x23.length : Int) : Int).toNat)).bind fun x27 => (getO a0 o21.1).bind fun x29 => (inO (copyL x23 (0 + ((IntKind.wrap .i64 (o21.2.1 + (1 : Int))) : Int).toNat) ((0 + ((x23.length : Int) : Int).toNat) - (0 + ((IntKind.wrap .i64 (o21.2.1 + (1 : Int))) : Int).toNat)) x27) o21.2.1).bind fun _ => (setO (copyL x23 (0 + ((IntKind.wrap .i64 (o21.2.1 + (1 : Int))) : Int).toNat) ((0 + ((x23.length : Int) : Int).toNat) - (0 + ((IntKind.wrap .i64 (o21.2.1 + (1 : Int))) : Int).toNat)) x27) o21.2.1 x29).bind fun x32 => some (.next ((IntKind.wrap .i64 (o21.1 + (1 : Int))), x32)))) else (some (.stop s2))
noncomputable def kB (o34 : (List aa)) : (Int × (List aa)) → Option (Step1 (Int × (List aa)) ((List aa))) := fun (s35, s36) =>
  if (decide (s35 < (o34.length : Int))) = true then (if (decide ((s36.length : Int) > (0 : Int))) = true then ((inO o34 s35).bind fun _ => (getO o34 s35).bind fun x43 => (inO s36 (IntKind.wrap .i64 ((s36.length : Int) - (1 : Int)))).bind fun _ => (getO s36 (IntKind.wrap .i64 ((s36.length : Int) - (1 : Int)))).bind fun x46 => if (decide (x43.az ≤ x46.fTo)) = true then ((inO s36 (IntKind.wrap .i64 ((s36.length : Int) - (1 : Int)))).bind fun _ => (getO s36 (IntKind.wrap .i64 ((s36.length : Int) - (1 : Int)))).bind fun x50 => (inO o34 s35).bind fun _ => (getO o34 s35).bind fun x53 => (inO s36 (IntKind.wrap .i64 ((s36.length : Int) - (1 : Int)))).bind fun _ => (modO s36 (IntKind.wrap .i64 ((s36.length : Int) - (1 : Int))) (fun (z57 : aa) => (aa.mk z57.az (if x53.fTo > x50.fTo then x53.fTo else x50.fTo)))).bind fun x56 => some (.next ((IntKind.wrap .i64 (s35 + (1 : Int))), x56))) else ((inO o34 s35).bind fun _ => (getO o34 s35).bind fun x60 => (appO s36 [x60] 16).bind fun x61 => some (.next ((IntKind.wrap .i64 (s35 + (1 : Int))), x61)))) else ((inO o34 s35).bind fun _ => (getO o34 s35).bind fun x64 => (appO s36 [x64] 16).bind fun x65 => some (.next ((IntKind.wrap .i64 (s35 + (1 : Int))), x65)))) else (some (.stop s36))
noncomputable def iY (a0 : (List aa)) : Option ((List aa)) :=
  (loopO (kA a0) ((0 : Int), ([] : (List aa)))).bind fun o34 => (loopO (kB o34) ((0 : Int), ([] : (List aa)))).bind fun o67 => some o67
noncomputable def mz (d0 : am) : Option ((List aa) × am) :=
  (je d0).bind fun x1 => (iY x1.1).bind fun x2 => some (x2, x1.2)
noncomputable def fp (a0 : (List aa)) : Int → Option (Step1 (Int) ((Unit) ⊕ (Bool))) := fun s1 =>
  if (decide (s1 < (a0.length : Int))) = true then ((getO a0 s1).bind fun x4 => (getO a0 s1).bind fun x5 => if (decide (x4.az ≥ x5.fTo)) = true then (some (.stop (.inr false))) else (if (decide (s1 > (0 : Int))) = true then ((getO a0 s1).bind fun x8 => (getO a0 (IntKind.wrap .i64 (s1 - (1 : Int)))).bind fun x9 => if (decide (x8.az ≤ x9.fTo)) = true then (some (.stop (.inr false))) else (some (.next (IntKind.wrap .i64 (s1 + (1 : Int)))))) else (some (.next (IntKind.wrap .i64 (s1 + (1 : Int))))))) else (some (.stop (.inl ())))
noncomputable def jF (a0 : (List aa)) : Option (Bool) :=
  (loopO (fp a0) (0 : Int)).bind fun o12 => match o12 with | .inl _ => (some true) | .inr r14 => (some r14)
noncomputable def fB (a1 : (List aa)) : ((List UInt8) × Int) → Option (Step1 ((List UInt8) × Int) ((List UInt8))) := fun (s2, s3) =>
  if (decide (s3 < (a1.length : Int))) = true then ((getO a1 s3).bind fun x7 => (getO a1 s3).bind fun x8 => (jd s2 [x7.az, x8.fTo]).bind fun x9 => some (.next (x9, (IntKind.wrap .i64 (s3 + (1 : Int)))))) else (some (.stop s2))
noncomputable def cH (a1 : (List aa)) : Option ((List UInt8) × Int) :=
  if (decide ((a1.length : Int) > (16 : Int))) = true then (some (([] : (List UInt8)), (8 : Int))) else ((loopO (fB a1) ([82], (0 : Int))).bind fun o11 => (cv o11).bind fun x12 => some (x12, (0 : Int)))
noncomputable def gg (a0 : Int) (a1 : (List aa)) : Option ((List UInt8) × Int) :=
  (ex a0 (0 : Int) (1073741825 : Int)).bind fun x14 => if (!x14) = true then (some (([] : (List UInt8)), (1 : Int))) else ((jF a1).bind fun x16 => if (!x16) = true then (some (([] : (List UInt8)), (1 : Int))) else (if (decide ((a1.length : Int) > (0 : Int))) = true then ((getO a1 (0 : Int)).bind fun x19 => if (decide (x19.az < (0 : Int))) = true then (some (([] : (List UInt8)), (1 : Int))) else ((getO a1 (IntKind.wrap .i64 ((a1.length : Int) - (1 : Int)))).bind fun x21 => if (decide (x21.fTo > a0)) = true then (some (([] : (List UInt8)), (1 : Int))) else (cH a1))) else (cH a1)))
noncomputable def io (a0 : (List UInt8)) : Option (Bool) :=
  if (decide ((a0.length : Int) ≥ (4 : Int))) = true then ((cutO a0 0 (IntKind.wrap .i64 ((a0.length : Int) - (4 : Int)))).bind fun x2 => (cv x2).bind fun x3 => some (x3 == a0)) else (some false)
noncomputable def fS (a0 : (List UInt8)) (a1 : Int) : Option (Int) :=
  if (decide ((a0.length : Int) < a1)) = true then (some (4 : Int)) else ((io a0).bind fun x2 => if (!x2) = true then (some (5 : Int)) else (some (0 : Int)))
noncomputable def ref04_Get_l11 (a2 : Int) (a0 : (List UInt8)) (a1 : Int) : (Int × Int) → Option (Step1 (Int × Int) (Int)) := fun (s5, s6) =>
  if (decide (s6 < a2)) = true then ((byteO a0 (IntKind.wrap .i64 (a1 + s6))).bind fun x10 => some (.next ((orI .i64 (shlI .i64 s5 (8 : Int)) (IntKind.wrap .i64 x10)), (IntKind.wrap .i64 (s6 + (1 : Int)))))) else (some (.stop s5))
noncomputable def ref04_Get (a0 : (List UInt8)) (a1 : Int) (a2 : Int) : Option (Int × Int) :=
  (ex a2 (1 : Int) (7 : Int)).bind fun x1 => if (!x1) = true then (some ((0 : Int), (2 : Int))) else (if (decide (a1 < (0 : Int))) = true then (some ((0 : Int), (2 : Int))) else (if (decide (a1 > (IntKind.wrap .i64 ((a0.length : Int) - a2)))) = true then (some ((0 : Int), (4 : Int))) else ((loopO (ref04_Get_l11 a2 a0 a1) ((0 : Int), (0 : Int))).bind fun o12 => some (o12, (0 : Int)))))
noncomputable def bT (a0 : (List UInt8)) (a1 : Int) : Option (Int) :=
  (ref04_Get a0 a1 (4 : Int)).bind fun x1 => some x1.1
noncomputable def fq (a0 : (List UInt8)) : Option (Int × Int × (List UInt8) × Int) :=
  (fS a0 (13 : Int)).bind fun x1 => if (x1 != (0 : Int)) = true then (some ((0 : Int), (0 : Int), ([] : (List UInt8)), x1)) else ((bT a0 (1 : Int)).bind fun x3 => (bT a0 (5 : Int)).bind fun x4 => (byteO a0 0).bind fun x5 => if (x5 != (68 : Int)) = true then (some ((0 : Int), (0 : Int), ([] : (List UInt8)), (3 : Int))) else (if (decide (x3 > (1073741824 : Int))) = true then (some ((0 : Int), (0 : Int), ([] : (List UInt8)), (3 : Int))) else (if (decide (x4 > (1073741825 : Int))) = true then (some ((0 : Int), (0 : Int), ([] : (List UInt8)), (3 : Int))) else ((cutO a0 9 (IntKind.wrap .i64 ((a0.length : Int) - (4 : Int)))).bind fun x9 => some (x3, x4, x9, (0 : Int))))))
noncomputable def eo (a0 : (List UInt8)) : Option (Int × Int × Int) :=
  (fS a0 (13 : Int)).bind fun x1 => if (x1 != (0 : Int)) = true then (some ((0 : Int), (0 : Int), x1)) else ((bT a0 (1 : Int)).bind fun x3 => (bT a0 (5 : Int)).bind fun x4 => (byteO a0 0).bind fun x5 => if (x5 != (83 : Int)) = true then (some ((0 : Int), (0 : Int), (3 : Int))) else (if ((a0.length : Int) != (13 : Int)) = true then (some ((0 : Int), (0 : Int), (3 : Int))) else (if (decide (x4 > (1073741825 : Int))) = true then (some ((0 : Int), (0 : Int), (3 : Int))) else (if (decide (x3 > x4)) = true then (some ((0 : Int), (0 : Int), (3 : Int))) else (some (x3, x4, (0 : Int)))))))
noncomputable def eM (d0 : (List aa)) : Int → Option (Step1 (Int) ((Unit) ⊕ (Bool × (List aa)))) := fun s1 =>
  if (decide (s1 < (d0.length : Int))) = true then ((inO d0 s1).bind fun _ => (getO d0 s1).bind fun x6 => (inO d0 s1).bind fun _ => (getO d0 s1).bind fun x9 => if (decide (x6.az ≥ x9.fTo)) = true then (some (.stop (.inr (false, d0)))) else (if (decide (s1 > (0 : Int))) = true then ((inO d0 s1).bind fun _ => (getO d0 s1).bind fun x14 => (inO d0 (IntKind.wrap .i64 (s1 - (1 : Int)))).bind fun _ => (getO d0 (IntKind.wrap .i64 (s1 - (1 : Int)))).bind fun x17 => if (decide (x14.az ≤ x17.fTo)) = true then (some (.stop (.inr (false, d0)))) else (some (.next (IntKind.wrap .i64 (s1 + (1 : Int)))))) else (some (.next (IntKind.wrap .i64 (s1 + (1 : Int))))))) else (some (.stop (.inl ())))
noncomputable def iZ (d0 : (List aa)) : Option (Bool × (List aa)) :=
  (loopO (eM d0) (0 : Int)).bind fun o20 => match o20 with | .inl _ => (some (true, d0)) | .inr r22 => (some r22)
noncomputable def dn (x3 : Int) (a0 : (List UInt8)) : (Int × (List aa)) → Option (Step1 (Int × (List aa)) ((List aa))) := fun (s9, s10) =>
  if (decide (s9 < x3)) = true then ((bT a0 (IntKind.wrap .i64 ((1 : Int) + (IntKind.wrap .i64 ((8 : Int) * s9))))).bind fun x14 => (bT a0 (IntKind.wrap .i64 ((5 : Int) + (IntKind.wrap .i64 ((8 : Int) * s9))))).bind fun x15 => (appO s10 [(aa.mk x14 x15)] 16).bind fun x16 => some (.next ((IntKind.wrap .i64 (s9 + (1 : Int))), x16))) else (some (.stop s10))
noncomputable def db (a0 : (List UInt8)) : Option ((List aa) × Int) :=
  (fS a0 (5 : Int)).bind fun x1 => if (x1 != (0 : Int)) = true then (some (([] : (List aa)), x1)) else ((quoO .i64 (IntKind.wrap .i64 ((a0.length : Int) - (5 : Int))) (8 : Int)).bind fun x3 => (byteO a0 0).bind fun x4 => if (x4 != (82 : Int)) = true then (some (([] : (List aa)), (3 : Int))) else ((remO (IntKind.wrap .i64 ((a0.length : Int) - (5 : Int))) (8 : Int)).bind fun x6 => if (x6 != (0 : Int)) = true then (some (([] : (List aa)), (3 : Int))) else (if (decide (x3 > (16 : Int))) = true then (some (([] : (List aa)), (3 : Int))) else ((loopO (dn x3 a0) ((0 : Int), ([] : (List aa)))).bind fun o18 => (iZ o18).bind fun x19 => if (!x19.1) = true then (some (([] : (List aa)), (3 : Int))) else (if (decide (x3 > (0 : Int))) = true then ((inO x19.2 (IntKind.wrap .i64 (x3 - (1 : Int)))).bind fun _ => (getO x19.2 (IntKind.wrap .i64 (x3 - (1 : Int)))).bind fun x24 => if (decide (x24.fTo > (1073741825 : Int))) = true then (some (([] : (List aa)), (3 : Int))) else (some (x19.2, (0 : Int)))) else (some (x19.2, (0 : Int))))))))
noncomputable def jY (a0 : (List aa)) (a1 : (List aa)) : Int → Option (Step1 (Int) ((Unit) ⊕ (Bool))) := fun s2 =>
  if (decide (s2 < (a0.length : Int))) = true then ((getO a0 s2).bind fun x5 => (getO a1 s2).bind fun x6 => if (!((x5.az == x6.az) && ((x5.fTo == x6.fTo) && true))) = true then (some (.stop (.inr false))) else (some (.next (IntKind.wrap .i64 (s2 + (1 : Int)))))) else (some (.stop (.inl ())))
noncomputable def kR (a0 : (List aa)) (a1 : (List aa)) : Option (Bool) :=
  if ((a0.length : Int) != (a1.length : Int)) = true then (some false) else ((loopO (jY a0 a1) (0 : Int)).bind fun o9 => match o9 with | .inl _ => (some true) | .inr r11 => (some r11))
noncomputable def eT (a2 : Int) (a3 : Int) (x10 : Int × am) (x11 : Int × am) (a0 : (List Int)) (a1 : (List UInt8)) : (Int × (List (List UInt8))) → Option (Step1 (Int × (List (List UInt8))) (((List (List UInt8))) ⊕ (Bool))) := fun (s12, s13) =>
  if (decide (s12 < (3 : Int))) = true then ((getO [(dc.mk a2 a3), (dc.mk x10.1 x11.1), (dc.mk 1073741824 1073741825)] s12).bind fun x17 => (bZ x17.a0 x17.a1 a1).bind fun x18 => (kT x17.a0 x17.a1 a1).bind fun x19 => if (!(x18.1 == x19.1)) = true then (some (.stop (.inr false))) else (if (x18.2 != x19.2) = true then (some (.stop (.inr false))) else ((appO s13 [x19.1] 16).bind fun x22 => some (.next ((IntKind.wrap .i64 (s12 + (1 : Int))), x22))))) else (some (.stop (.inl s13)))
noncomputable def eU (a4 : Int) (x45 : Int × am) (x44 : (List aa)) (s35 : Int) : (Int × (List (List UInt8))) → Option (Step1 (Int × (List (List UInt8))) ((Int × (List (List UInt8))) ⊕ (Bool))) := fun (s46, s47) =>
  if (decide (s46 < (3 : Int))) = true then ((getO [a4, 40, x45.1] s46).bind fun x52 => (bU x52 x44).bind fun x53 => (gg x52 x44).bind fun x54 => if (!(x53.1 == x54.1)) = true then (some (.stop (.inr false))) else (if (x53.2 != x54.2) = true then (some (.stop (.inr false))) else ((appO s47 [x54.1] 16).bind fun x57 => some (.next ((IntKind.wrap .i64 (s46 + (1 : Int))), x57))))) else (some (.stop (.inl (s35, s47))))
noncomputable def eV (a5 : (List aa)) (x33 : (List aa) × am) (x34 : (List aa) × am) (a4 : Int) : (Int × (List Int) × Int × (List (List UInt8))) → Option (Step1 (Int × (List Int) × Int × (List (List UInt8))) (((List Int) × Int × (List (List UInt8))) ⊕ (Bool))) := fun (s35, s36, s37, s38) =>
  if (decide (s35 < (3 : Int))) = true then ((getO [a5, x33.1, x34.1] s35).bind fun x44 => (bp (40 : Int) (am.mk s36 s37)).bind fun x45 => (loopO (eU a4 x45 x44 s35) ((0 : Int), s38)).bind fun o59 => match o59 with | .inl y60 => (some (.next ((IntKind.wrap .i64 (y60.1 + (1 : Int))), x45.2.fL, x45.2.fAt, y60.2))) | .inr r61 => (some (.stop (.inr r61)))) else (some (.stop (.inl (s36, s37, s38))))
noncomputable def aT (s66 : Int) (j74 : (List UInt8)) (j75 : (List Int)) (j76 : Int) : Option (Step1 (Int × (List Int) × Int) ((Unit) ⊕ (Bool))) :=
  (aV j74).bind fun x77 => (fq j74).bind fun x78 => (aP j74).bind fun x79 => (eo j74).bind fun x80 => (a7 j74).bind fun x81 => (db j74).bind fun x82 => if (x77.1 != x78.1) = true then (some (.stop (.inr false))) else (if (x77.2.1 != x78.2.1) = true then (some (.stop (.inr false))) else (if (!(x77.2.2.1 == x78.2.2.1)) = true then (some (.stop (.inr false))) else (if (x77.2.2.2 != x78.2.2.2) = true then (some (.stop (.inr false))) else (if (x79.1 != x80.1) = true then (some (.stop (.inr false))) else (if (x79.2.1 != x80.2.1) = true then (some (.stop (.inr false))) else (if (x79.2.2 != x80.2.2) = true then (some (.stop (.inr false))) else (if (x81.2 != x82.2) = true then (some (.stop (.inr false))) else ((kR x81.1 x82.1).bind fun x91 => if (!x91) = true then (some (.stop (.inr false))) else (some (.next ((IntKind.wrap .i64 (s66 + (1 : Int))), j75, j76)))))))))))
noncomputable def eu (y64 : (List Int) × Int × (List (List UInt8))) : (Int × (List Int) × Int) → Option (Step1 (Int × (List Int) × Int) ((Unit) ⊕ (Bool))) := fun (s66, s67, s68) =>
  if (decide (s66 < (y64.2.2.length : Int))) = true then ((inO y64.2.2 s66).bind fun _ => (getO y64.2.2 s66).bind fun x73 => (bp (3 : Int) (am.mk s67 s68)).bind fun x94 => if (x94.1 == (0 : Int)) = true then (if (decide ((x73.length : Int) > (5 : Int))) = true then ((bp (IntKind.wrap .i64 ((x73.length : Int) - (5 : Int))) x94.2).bind fun x97 => (cutO x73 0 (IntKind.wrap .i64 ((1 : Int) + x97.1))).bind fun x98 => (bp (256 : Int) x97.2).bind fun x99 => (catO x98 (strU ([(IntKind.wrap .u8 x99.1)] : List Int))).bind fun x100 => (cutO x73 (IntKind.wrap .i64 ((IntKind.wrap .i64 ((1 : Int) + x97.1)) + (1 : Int))) (IntKind.wrap .i64 ((x73.length : Int) - (4 : Int)))).bind fun x101 => (catO x100 x101).bind fun x102 => (cv x102).bind fun x103 => aT s66 x103 x99.2.fL x99.2.fAt) else (aT s66 x73 x94.2.fL x94.2.fAt)) else (aT s66 x73 x94.2.fL x94.2.fAt)) else (some (.stop (.inl ())))
noncomputable def ed (a0 : (List Int)) (a1 : (List UInt8)) (a2 : Int) (a3 : Int) (a4 : Int) (a5 : (List aa)) : Option (Bool) :=
  (jl a0).bind fun x1 => if (!x1) = true then ((cq ).bind fun x3 => some x3) else (if (decide ((a1.length : Int) > (300 : Int))) = true then ((cq ).bind fun x5 => some x5) else (if (decide ((a5.length : Int) > (30 : Int))) = true then ((cq ).bind fun x7 => some x7) else ((kw a0).bind fun x8 => (cv a1).bind fun x9 => (bp (20 : Int) x8).bind fun x10 => (bp (20 : Int) x10.2).bind fun x11 => (loopO (eT a2 a3 x10 x11 a0 a1) ((0 : Int), [a1, x9])).bind fun o24 => match o24 with | .inl y25 => ((jz x11.2).bind fun x27 => (bG x27.1).bind fun x28 => (i5 x27.1).bind fun x29 => if (!(x28.1 == x29.1)) = true then (some false) else (if (x28.2 != x29.2) = true then (some false) else ((appO y25 [x29.1] 16).bind fun x32 => (mz x27.2).bind fun x33 => (je x33.2).bind fun x34 => (loopO (eV a5 x33 x34 a4) ((0 : Int), x34.2.fL, x34.2.fAt, x32)).bind fun o63 => match o63 with | .inl y64 => ((loopO (eu y64) ((0 : Int), y64.1, y64.2.1)).bind fun o105 => match o105 with | .inl _ => ((cq ).bind fun x108 => some x108) | .inr r107 => (some r107)) | .inr r65 => (some r65)))) | .inr r26 => (some r26))))
end Go.Dw.Se
