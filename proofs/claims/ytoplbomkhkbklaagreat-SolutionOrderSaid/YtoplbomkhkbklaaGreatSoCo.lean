
import Derived.Test.YtoplbomkhkbklaaGreatSoFn
import Derived.Test.YtoplbomkhkbklaaGreatDwLe


set_option maxRecDepth 100000
set_option maxHeartbeats 4000000
namespace Go.Dw.So
open Go.Dw
def hZ : Nat := 600
def nI (a0 : (List Int)) : Option (ah) :=
  (cutO a0 0 (if 2000 < (a0.length : Int) then 2000 else (a0.length : Int))).bind fun x1 => some (ah.mk x1 0)
def Src_Raw_c (d0 : ah) : Option (Int × ah) :=
  if (decide (d0.fAt ≥ (d0.fL.length : Int))) = true then (some (0, d0)) else ((oG d0.fL (IntKind.wrap .i64 ((IntKind.wrap .i64 (d0.fAt + 1)) - 1))).bind fun x2 => some (x2, (ah.mk d0.fL (IntKind.wrap .i64 (d0.fAt + 1)))))
def lJ (a0 : Int) (a1 : Int) : Option (Int) :=
  if (decide (a1 < 1)) = true then (some 0) else ((uX a0 a1).bind fun x2 => if (decide (x2 < 0)) = true then (some (IntKind.wrap .i64 (x2 + a1))) else (some x2))
def cj (a1 : Int) (d0 : ah) : Option (Int × ah) :=
  (Src_Raw_c d0).bind fun x1 => (lJ x1.1 a1).bind fun x2 => some (x2, x1.2)
def jn (a1 : Int) (d0 : ah) : Option (aa × ah) :=
  (cj (IntKind.wrap .i64 ((IntKind.wrap .i64 (2 * a1)) + 1)) d0).bind fun x1 => (cj (IntKind.wrap .i64 ((IntKind.wrap .i64 (2 * a1)) + 1)) x1.2).bind fun x2 => (cj (IntKind.wrap .i64 (a1 + 1)) x2.2).bind fun x3 => some ((aa.mk (IntKind.wrap .i64 (x1.1 - a1)) (IntKind.wrap .i64 (x2.1 - a1)) x3.1), x3.2)
def Src_Box_c (a1 : Int) (a2 : Int) (d0 : ah) : Option (aj × ah) :=
  (jn a1 d0).bind fun x1 => (cj (IntKind.wrap .i64 (a2 + 1)) x1.2).bind fun x2 => (cj (IntKind.wrap .i64 (a2 + 1)) x2.2).bind fun x3 => (cj (IntKind.wrap .i64 (a2 + 1)) x3.2).bind fun x4 => some ((aj.mk x1.1 (aa.mk (IntKind.wrap .i64 (x1.1.fX + x2.1)) (IntKind.wrap .i64 (x1.1.fY + x3.1)) (IntKind.wrap .i64 (x1.1.fZ + x4.1)))), x4.2)
def dI (a1 : (List Int)) (d0 : ah) : Option (Int × ah) :=
  (cj (a1.length : Int) d0).bind fun x1 => (oG a1 x1.1).bind fun x2 => some (x2, x1.2)
def jC (x1 : Int × ah) : (Int × Int × Int × (List Int) × Int × (List Int) × (List Int)) → Option (oC (Int × Int × Int × (List Int) × Int × (List Int) × (List Int)) ((List Int) × Int × (List Int) × (List Int))) := fun (s3, s4, s5, s6, s7, s8, s9) =>
  (pT .i64 400 x1.1).bind fun x15 => (cj 3 (ah.mk s6 s7)).bind fun x16 => if (decide (s5 ≤ (IntKind.wrap .i64 (x15 + x16.1)))) = true then ((pJ s8 [s3] 8).bind fun x18 => (pJ s9 [s4] 8).bind fun x19 => (dI [0, 10, 20, 35] x16.2).bind fun x20 => (pT .i64 x1.1 4).bind fun x21 => (dI [0, 0, 5, 30] x20.2).bind fun x22 => some (.next ((IntKind.wrap .i64 (s3 + (IntKind.wrap .i64 (x20.1 + x21)))), (IntKind.wrap .i64 ((if (IntKind.wrap .i64 (s3 + (IntKind.wrap .i64 (x20.1 + x21)))) > s4 then (IntKind.wrap .i64 (s3 + (IntKind.wrap .i64 (x20.1 + x21)))) else s4) + x22.1)), (IntKind.wrap .i64 (s5 + 1)), x22.2.fL, x22.2.fAt, x18, x19))) else (some (.stop (x16.2.fL, x16.2.fAt, s8, s9)))
def kM (d0 : ah) : Option (aK × ah) :=
  (dI [20, 25, 40, 100] d0).bind fun x1 => (cj 3 x1.2).bind fun x2 => (px (jC x1) hZ (0, x2.1, 0, x2.2.fL, x2.2.fAt, ([] : (List Int)), ([] : (List Int)))).bind fun o24 => some ((aK.mk x1.1 o24.2.2.1 o24.2.2.2), (ah.mk o24.1 o24.2.1))
def im (a1 : Int) (d0 : ah) : Option (bd × ah) :=
  (Src_Box_c 20 a1 d0).bind fun x1 => (kM x1.2).bind fun x2 => (dI [10, 50, 200] x2.2).bind fun x3 => (dI [0, 0, 10, 40] x3.2).bind fun x4 => (dI [0, 50, 200, 400] x4.2).bind fun x5 => (dI [0, 5, 20] x5.2).bind fun x6 => (cj 2 x6.2).bind fun x7 => some ((bd.mk x1.1 x2.1 x3.1 x4.1 x5.1 x6.1 (IntKind.wrap .i64 (2 + x7.1))), x7.2)
def jz (x1 : aK × ah) : (Int × (List Int) × (List Int)) → Option (oC (Int × (List Int) × (List Int)) ((List Int) × (List Int))) := fun (s4, s5, s6) =>
  if (decide (s4 < (x1.1.ak.length : Int))) = true then ((inO s5 s4).bind fun _ => (oG s5 s4).bind fun x13 => (pT .i64 x13 3).bind fun x14 => (inO s6 s4).bind fun _ => (oG s6 s4).bind fun x17 => (pT .i64 x17 3).bind fun x18 => (inO s5 s4).bind fun _ => (rY s5 s4 x14).bind fun x21 => (inO s6 s4).bind fun _ => (rY s6 s4 x18).bind fun x24 => some (.next ((IntKind.wrap .i64 (s4 + 1)), x21, x24))) else (some (.stop (s5, s6)))
def mh (d0 : ah) : Option (bt × ah) :=
  (kM d0).bind fun x1 => (cj 20 x1.2).bind fun x2 => (cj 9 x2.2).bind fun x3 => (px (jz x1) hZ (0, x1.1.ak, x1.1.ae)).bind fun o26 => some ((bt.mk (aK.mk x1.1.aT o26.1 o26.2) x2.1 (IntKind.wrap .i64 (1 + x3.1))), x3.2)
def kf (a1 : Int) (d0 : ah) : Option (aG × ah) :=
  (im a1 d0).bind fun x1 => (mh x1.2).bind fun x2 => (dI [0, 0, 10, 40] x2.2).bind fun x3 => some ((aG.mk x1.1 x2.1 x3.1), x3.2)
def gU  : (Int × (List Int) × Int × (List aB)) → Option (oC (Int × (List Int) × Int × (List aB)) ((List Int) × Int × (List aB))) := fun (s2, s3, s4, s5) =>
  if (decide (s2 > 0)) = true then ((cj 3 (ah.mk s3 s4)).bind fun x11 => if (x11.1 == 0) = true then ((dI [0, 1, 9, 99, 1048575] x11.2).bind fun x13 => (dI [0, 0, 2, 9, 999] x13.2).bind fun x14 => (pJ s5 [(aB.mk x11.1 (aW.mk (IntKind.wrap .i64 (1 + x13.1)) 0 0) (aW.mk (IntKind.wrap .i64 (1 + x14.1)) 0 0) [] 0 0)] 96).bind fun x15 => some (.next ((IntKind.wrap .i64 (s2 - 1)), x14.2.fL, x14.2.fAt, x15))) else (if (x11.1 == 1) = true then ((cj 5 x11.2).bind fun x17 => (cj 7 x17.2).bind fun x18 => (cj 3 x18.2).bind fun x19 => (cj 5 x19.2).bind fun x20 => (cj 7 x20.2).bind fun x21 => (cj 3 x21.2).bind fun x22 => (pJ s5 [(aB.mk x11.1 (aW.mk x17.1 (IntKind.wrap .i64 (x18.1 - 3)) (IntKind.wrap .i64 (x19.1 - 1))) (aW.mk (IntKind.wrap .i64 (1 + x20.1)) x21.1 x22.1) [] 0 0)] 96).bind fun x23 => some (.next ((IntKind.wrap .i64 (s2 - 1)), x22.2.fL, x22.2.fAt, x23))) else ((cj 3 x11.2).bind fun x24 => (cj 4 x24.2).bind fun x25 => (pJ s5 [(aB.mk x11.1 (aW.mk 0 0 0) (aW.mk 0 0 0) [(IntKind.wrap .i64 (1 + x24.1)), 2, 1] 1 x25.1)] 96).bind fun x26 => some (.next ((IntKind.wrap .i64 (s2 - 1)), x25.2.fL, x25.2.fAt, x26))))) else (some (.stop (s3, s4, s5)))
def io (d0 : ah) : Option (aN × ah) :=
  (cj 4 d0).bind fun x1 => (px (gU) hZ (x1.1, x1.2.fL, x1.2.fAt, ([] : (List aB)))).bind fun o28 => some ((aN.mk o28.2.2), (ah.mk o28.1 o28.2.1))
def ji (a0 : Int) : Option (aI) :=
  (lJ a0 6).bind fun x1 => (oG [[83, 49], [83, 50], [83, 51], [83, 52], [83, 53], [83, 54]] x1).bind fun x2 => some (aI.mk [65, 66] x2 [48, 48] [66, 72, 90])
def jB (a1 : Int) : (Int × (List Int) × Int × (List au)) → Option (oC (Int × (List Int) × Int × (List au)) ((List Int) × Int × (List au))) := fun (s1, s2, s3, s4) =>
  if (decide (s1 < a1)) = true then (if (decide (s1 < 6)) = true then ((jn 60 (ah.mk s2 s3)).bind fun x11 => (io x11.2).bind fun x12 => (ji s1).bind fun x13 => (cj 6 x12.2).bind fun x14 => if (x14.1 == 0) = true then ((cj 500 x14.2).bind fun x16 => (jn 60 x16.2).bind fun x17 => (io x17.2).bind fun x18 => (inO [(al.mk 0 100000 (bf.mk 100 1) x11.1 x12.1)] 0).bind fun _ => (xx [(al.mk 0 100000 (bf.mk 100 1) x11.1 x12.1)] 0 (fun (z22 : al) => (al.mk z22.bF (IntKind.wrap .i64 (1500 + x16.1)) z22.ct z22.aV z22.bq))).bind fun x21 => (pJ x21 [(al.mk (IntKind.wrap .i64 (1500 + x16.1)) 100000 (bf.mk 100 1) x17.1 x18.1)] 80).bind fun x23 => (pJ s4 [(au.mk x13 x23)] 88).bind fun x24 => some (.next ((IntKind.wrap .i64 (s1 + 1)), x18.2.fL, x18.2.fAt, x24))) else (if (x14.1 == 1) = true then ((cj 1500 x14.2).bind fun x26 => (inO [(al.mk 0 100000 (bf.mk 100 1) x11.1 x12.1)] 0).bind fun _ => (xx [(al.mk 0 100000 (bf.mk 100 1) x11.1 x12.1)] 0 (fun (z30 : al) => (al.mk x26.1 z30.fTo z30.ct z30.aV z30.bq))).bind fun x29 => (pJ s4 [(au.mk x13 x29)] 88).bind fun x31 => some (.next ((IntKind.wrap .i64 (s1 + 1)), x26.2.fL, x26.2.fAt, x31))) else ((pJ s4 [(au.mk x13 [(al.mk 0 100000 (bf.mk 100 1) x11.1 x12.1)])] 88).bind fun x32 => some (.next ((IntKind.wrap .i64 (s1 + 1)), x14.2.fL, x14.2.fAt, x32))))) else (some (.stop (s2, s3, s4)))) else (some (.stop (s2, s3, s4)))
def mi (a1 : Int) (d0 : ah) : Option (aD × ah) :=
  (px (jB a1) hZ (0, d0.fL, d0.fAt, ([] : (List au)))).bind fun o34 => some ((aD.mk o34.2.2), (ah.mk o34.1 o34.2.1))
def cu (a0 : aa) : Option (aW) :=
  some (aW.mk a0.fX a0.fY a0.fZ)
def cB (a0 : aa) : Option (Bool) :=
  (cu a0).bind fun x1 => if (decide (x1.a0 < (-1048576))) = true then (some false) else (if (decide (x1.a0 > 1048576)) = true then (some false) else (if (decide (x1.a1 < (-1048576))) = true then (some false) else (if (decide (x1.a1 > 1048576)) = true then (some false) else (if (decide (x1.a2 < (-16384))) = true then (some false) else (if (decide (x1.a2 > 1048576)) = true then (some false) else (some true))))))
def c6 (a0 : aj) : Option (Bool) :=
  (cB a0.ak).bind fun x1 => if (!x1) = true then (some false) else ((cB a0.ae).bind fun x3 => if (!x3) = true then (some false) else ((cu a0.ae).bind fun x5 => (cu a0.ak).bind fun x6 => if (decide (x6.a0 > x5.a0)) = true then (some false) else (if (decide (x6.a1 > x5.a1)) = true then (some false) else (if (decide (x6.a2 > x5.a2)) = true then (some false) else (some true)))))
def fT (a0 : aK) : (Int × Int × Int) → Option (oC (Int × Int × Int) ((Unit) ⊕ (Int))) := fun (s6, s7, s8) =>
  if (decide (s8 < (a0.ak.length : Int))) = true then ((oG a0.ak s8).bind fun x11 => if (decide (x11 < s6)) = true then (some (.stop (.inr 21))) else ((oG a0.ae s8).bind fun x13 => if (decide (x13 < s7)) = true then (some (.stop (.inr 21))) else ((oG a0.ak s8).bind fun x15 => (oG a0.ae s8).bind fun x16 => if (decide (x15 > x16)) = true then (some (.stop (.inr 21))) else ((oG a0.ae s8).bind fun x18 => if (decide (x18 > 1099511627776)) = true then (some (.stop (.inr 21))) else ((oG a0.ak s8).bind fun x20 => (oG a0.ae s8).bind fun x21 => some (.next (x20, x21, (IntKind.wrap .i64 (s8 + 1))))))))) else (some (.stop (.inl ())))
def eL (a0 : aK) : Option (Int) :=
  if (decide (a0.aT < 1)) = true then (some 21) else (if (decide (a0.aT > 1048576)) = true then (some 21) else (if ((a0.ak.length : Int) != (a0.ae.length : Int)) = true then (some 21) else (if (decide ((a0.ak.length : Int) < 2)) = true then (some 21) else (if (decide ((a0.ak.length : Int) > 256)) = true then (some 21) else ((px (fT a0) hZ (0, 0, 0)).bind fun o23 => match o23 with | .inl _ => (some 0) | .inr r25 => (some r25))))))
def gW (a0 : av) : Option (Bool) :=
  (cB a0.aL).bind fun x1 => if x1 = true then (if (decide (a0.bw ≥ 0)) = true then (if (decide (a0.bw ≤ a0.bO)) = true then (if (decide (a0.bO ≤ 18014398509481984)) = true then (if (decide (a0.gi ≥ 1)) = true then (some (decide (a0.gi ≤ 100))) else (some false)) else (some false)) else (some false)) else (some false)) else (some false)
def d8 (a0 : Int) (a1 : Int) (a2 : Int) : Option (Int) :=
  some (if 0 > (if (IntKind.wrap .i64 (a0 - a2)) > (IntKind.wrap .i64 (a1 - a0)) then (IntKind.wrap .i64 (a0 - a2)) else (IntKind.wrap .i64 (a1 - a0))) then 0 else (if (IntKind.wrap .i64 (a0 - a2)) > (IntKind.wrap .i64 (a1 - a0)) then (IntKind.wrap .i64 (a0 - a2)) else (IntKind.wrap .i64 (a1 - a0))))
def eQ (a0 : aj) (a1 : aa) : Option (Int) :=
  (c6 a0).bind fun x1 => if (!x1) = true then (some 0) else ((cB a1).bind fun x3 => if (!x3) = true then (some 0) else ((cu a0.ak).bind fun x5 => (cu a0.ae).bind fun x6 => (cu a1).bind fun x7 => (d8 x7.a0 x5.a0 x6.a0).bind fun x8 => (d8 x7.a1 x5.a1 x6.a1).bind fun x9 => (d8 x7.a2 x5.a2 x6.a2).bind fun x10 => some (IntKind.wrap .i64 ((IntKind.wrap .i64 ((IntKind.wrap .i64 (0 + (IntKind.wrap .i64 (x8 * x8)))) + (IntKind.wrap .i64 (x9 * x9)))) + (IntKind.wrap .i64 (x10 * x10))))))
def jG (a0 : aj) (a1 : aa) : Option (Int) :=
  (eQ a0 a1).bind fun x1 => some x1
def dL (a0 : Int) (a1 : Int) (a2 : Int) : Option (Int) :=
  some (if (IntKind.wrap .i64 (a0 - a1)) > (IntKind.wrap .i64 (a2 - a0)) then (IntKind.wrap .i64 (a0 - a1)) else (IntKind.wrap .i64 (a2 - a0)))
def ek (a0 : aj) (a1 : aa) : Option (Int) :=
  (c6 a0).bind fun x1 => if (!x1) = true then (some 0) else ((cB a1).bind fun x3 => if (!x3) = true then (some 0) else ((cu a0.ak).bind fun x5 => (cu a0.ae).bind fun x6 => (cu a1).bind fun x7 => (dL x7.a0 x5.a0 x6.a0).bind fun x8 => (dL x7.a1 x5.a1 x6.a1).bind fun x9 => (dL x7.a2 x5.a2 x6.a2).bind fun x10 => some (IntKind.wrap .i64 ((IntKind.wrap .i64 ((IntKind.wrap .i64 (0 + (IntKind.wrap .i64 (x8 * x8)))) + (IntKind.wrap .i64 (x9 * x9)))) + (IntKind.wrap .i64 (x10 * x10))))))
def kj (a0 : aj) (a1 : aa) : Option (Int) :=
  (ek a0 a1).bind fun x1 => some x1
def jD (a0 : aK) (a1 : aj) (a2 : aa) : Option (aK × Int × Int) :=
  (jG a1 a2).bind fun x1 => (kj a1 a2).bind fun x2 => some (a0, x1, x2)
def gL (j3 : Int) (j4 : Int) : Option (Int) :=
  if (decide (j3 ≥ 256)) = true then ((sc [0, 1, 2, 2, 3, 3, 3, 3, 4, 4, 4, 4, 4, 4, 4, 4, 5, 5, 5, 5, 5, 5, 5, 5, 5, 5, 5, 5, 5, 5, 5, 5, 6, 6, 6, 6, 6, 6, 6, 6, 6, 6, 6, 6, 6, 6, 6, 6, 6, 6, 6, 6, 6, 6, 6, 6, 6, 6, 6, 6, 6, 6, 6, 6, 7, 7, 7, 7, 7, 7, 7, 7, 7, 7, 7, 7, 7, 7, 7, 7, 7, 7, 7, 7, 7, 7, 7, 7, 7, 7, 7, 7, 7, 7, 7, 7, 7, 7, 7, 7, 7, 7, 7, 7, 7, 7, 7, 7, 7, 7, 7, 7, 7, 7, 7, 7, 7, 7, 7, 7, 7, 7, 7, 7, 7, 7, 7, 7, 8, 8, 8, 8, 8, 8, 8, 8, 8, 8, 8, 8, 8, 8, 8, 8, 8, 8, 8, 8, 8, 8, 8, 8, 8, 8, 8, 8, 8, 8, 8, 8, 8, 8, 8, 8, 8, 8, 8, 8, 8, 8, 8, 8, 8, 8, 8, 8, 8, 8, 8, 8, 8, 8, 8, 8, 8, 8, 8, 8, 8, 8, 8, 8, 8, 8, 8, 8, 8, 8, 8, 8, 8, 8, 8, 8, 8, 8, 8, 8, 8, 8, 8, 8, 8, 8, 8, 8, 8, 8, 8, 8, 8, 8, 8, 8, 8, 8, 8, 8, 8, 8, 8, 8, 8, 8, 8, 8, 8, 8, 8, 8, 8, 8, 8, 8, 8, 8, 8, 8, 8, 8, 8, 8, 8, 8, 8, 8] (IntKind.wrap .u8 (oS .u64 j3 8))).bind fun x6 => some (IntKind.wrap .i64 ((IntKind.wrap .i64 (j4 + 8)) + (IntKind.wrap .i64 x6)))) else ((sc [0, 1, 2, 2, 3, 3, 3, 3, 4, 4, 4, 4, 4, 4, 4, 4, 5, 5, 5, 5, 5, 5, 5, 5, 5, 5, 5, 5, 5, 5, 5, 5, 6, 6, 6, 6, 6, 6, 6, 6, 6, 6, 6, 6, 6, 6, 6, 6, 6, 6, 6, 6, 6, 6, 6, 6, 6, 6, 6, 6, 6, 6, 6, 6, 7, 7, 7, 7, 7, 7, 7, 7, 7, 7, 7, 7, 7, 7, 7, 7, 7, 7, 7, 7, 7, 7, 7, 7, 7, 7, 7, 7, 7, 7, 7, 7, 7, 7, 7, 7, 7, 7, 7, 7, 7, 7, 7, 7, 7, 7, 7, 7, 7, 7, 7, 7, 7, 7, 7, 7, 7, 7, 7, 7, 7, 7, 7, 7, 8, 8, 8, 8, 8, 8, 8, 8, 8, 8, 8, 8, 8, 8, 8, 8, 8, 8, 8, 8, 8, 8, 8, 8, 8, 8, 8, 8, 8, 8, 8, 8, 8, 8, 8, 8, 8, 8, 8, 8, 8, 8, 8, 8, 8, 8, 8, 8, 8, 8, 8, 8, 8, 8, 8, 8, 8, 8, 8, 8, 8, 8, 8, 8, 8, 8, 8, 8, 8, 8, 8, 8, 8, 8, 8, 8, 8, 8, 8, 8, 8, 8, 8, 8, 8, 8, 8, 8, 8, 8, 8, 8, 8, 8, 8, 8, 8, 8, 8, 8, 8, 8, 8, 8, 8, 8, 8, 8, 8, 8, 8, 8, 8, 8, 8, 8, 8, 8, 8, 8, 8, 8, 8, 8, 8, 8, 8, 8] (IntKind.wrap .u8 j3)).bind fun x7 => some (IntKind.wrap .i64 (j4 + (IntKind.wrap .i64 x7))))
def gh (j1 : Int) (j2 : Int) : Option (Int) :=
  if (decide (j1 ≥ 65536)) = true then (gL (oS .u64 j1 16) (IntKind.wrap .i64 (j2 + 16))) else (gL j1 j2)
def lB (a0 : Int) : Option (Int) :=
  if (decide (a0 ≥ 4294967296)) = true then (gh (oS .u64 a0 32) 32) else (gh a0 0)
def gV (a0 : Int) : Option (Int) :=
  (lB a0).bind fun x1 => some x1
def f4 (a0 : Int) : (Int × Int) → Option (oC (Int × Int) (Int)) := fun (s5, s6) =>
  if (decide (s6 > 0)) = true then ((pT .i64 a0 (orI .i64 s5 s6)).bind fun x10 => if (decide ((orI .i64 s5 s6) ≤ x10)) = true then (some (.next ((orI .i64 s5 s6), (oS .i64 s6 1)))) else (some (.next (s5, (oS .i64 s6 1))))) else (some (.stop s5))
def gl (a0 : Int) : Option (Int) :=
  if (decide (a0 ≤ 0)) = true then (some 0) else ((gV (IntKind.wrap .u64 a0)).bind fun x2 => (pT .i64 (IntKind.wrap .i64 (x2 - 1)) 2).bind fun x3 => (vK .i64 1 x3).bind fun x4 => (px (f4 a0) hZ (0, x4)).bind fun o13 => some o13)
def jF (a0 : Int) : Option (Int) :=
  (gl a0).bind fun x1 => if (decide ((IntKind.wrap .i64 (x1 * x1)) < a0)) = true then (some (IntKind.wrap .i64 (x1 + 1))) else (some x1)
def kF (a0 : aK) : Option (Int) :=
  some (IntKind.wrap .i64 (a0.aT * (IntKind.wrap .i64 ((a0.ak.length : Int) - 1))))
def fS (a0 : Int) (d0 : aK) (d1 : Int) : Option (Bool) :=
  some (decide ((IntKind.wrap .i64 (a0 * d0.aT)) ≥ d1))
def fR (d0 : aK) (d1 : Int) : (Int × Int) → Option (oC (Int × Int) (Int)) := fun (s1, s2) =>
  if (decide (s1 < s2)) = true then ((fS (IntKind.wrap .i64 (oS .u64 (IntKind.wrap .u64 (IntKind.wrap .i64 (s1 + s2))) 1)) d0 d1).bind fun x6 => if (!x6) = true then (some (.next ((IntKind.wrap .i64 ((IntKind.wrap .i64 (oS .u64 (IntKind.wrap .u64 (IntKind.wrap .i64 (s1 + s2))) 1)) + 1)), s2))) else (some (.next (s1, (IntKind.wrap .i64 (oS .u64 (IntKind.wrap .u64 (IntKind.wrap .i64 (s1 + s2))) 1)))))) else (some (.stop s1))
def hM (a0 : Int) (d0 : aK) (d1 : Int) : Option (Int) :=
  (px (fR d0 d1) hZ (0, a0)).bind fun o9 => some o9
def jf (a0 : aK) (a1 : Int) (a2 : Int) : Option (Int × Int × Int) :=
  (eL a0).bind fun x1 => if (x1 != 0) = true then (some (0, 0, 21)) else (if (decide (a1 < 0)) = true then (some (0, 0, 2)) else (if (decide (a1 > a2)) = true then (some (0, 0, 2)) else ((jF a2).bind fun x5 => (kF a0).bind fun x6 => if (decide (x5 > x6)) = true then (some (0, 0, 22)) else ((hM (a0.ae.length : Int) a0 x5).bind fun x8 => (gl a1).bind fun x9 => (pT .i64 x9 a0.aT).bind fun x10 => (oG a0.ak x10).bind fun x11 => (oG a0.ae x8).bind fun x12 => some (x11, x12, 0)))))
def iN (a0 : aK) (a1 : aj) (a2 : aa) : Option (Int × Int × Int) :=
  (eL a0).bind fun x1 => if (x1 != 0) = true then (some (0, 0, x1)) else ((c6 a1).bind fun x3 => if (!x3) = true then (some (0, 0, 20)) else ((cB a2).bind fun x5 => if (!x5) = true then (some (0, 0, 20)) else ((jD a0 a1 a2).bind fun x7 => (jf x7.1 x7.2.1 x7.2.2).bind fun x8 => some (x8.1, x8.2.1, x8.2.2))))
def lC (a0 : aK) (a1 : aj) (a2 : av) : Option (aM × Int) :=
  (eL a0).bind fun x1 => if (x1 != 0) = true then (some ((aM.mk 0 0), x1)) else ((c6 a1).bind fun x3 => if (!x3) = true then (some ((aM.mk 0 0), 20)) else ((gW a2).bind fun x5 => if (!x5) = true then (some ((aM.mk 0 0), 23)) else ((iN a0 a1 a2.aL).bind fun x7 => if (x7.2.2 != 0) = true then (some ((aM.mk 0 0), x7.2.2)) else (some ((aM.mk (IntKind.wrap .i64 (a2.bw - x7.2.1)) (IntKind.wrap .i64 (a2.bO - x7.1))), 0)))))
def kE (a0 : Int) : Option (Bool) :=
  if (decide (a0 ≥ 65)) = true then (if (decide (a0 ≤ 90)) = true then (some true) else (if (decide (a0 ≥ 48)) = true then (some (decide (a0 ≤ 57))) else (some false))) else (if (decide (a0 ≥ 48)) = true then (some (decide (a0 ≤ 57))) else (some false))
def jd (a0 : (List UInt8)) : Int → Option (oC (Int) ((Unit) ⊕ (Bool))) := fun s1 =>
  if (decide (s1 < (a0.length : Int))) = true then ((sc a0 s1).bind fun x4 => (kE x4).bind fun x5 => if (!x5) = true then (some (.stop (.inr false))) else (some (.next (IntKind.wrap .i64 (s1 + 1))))) else (some (.stop (.inl ())))
def fK (a0 : (List UInt8)) (a1 : Int) (a2 : Int) : Option (Bool) :=
  (px (jd a0) hZ 0).bind fun o8 => match o8 with | .inl _ => (if (decide ((a0.length : Int) ≥ a1)) = true then (some (decide ((a0.length : Int) ≤ a2))) else (some false)) | .inr r10 => (some r10)
def iH (a0 : aI) : Option (Bool) :=
  (fK a0.aU 1 2).bind fun x1 => if x1 = true then ((fK a0.aL 1 5).bind fun x3 => if x3 = true then ((fK a0.aq 0 2).bind fun x5 => if x5 = true then (if ((a0.aq.length : Int) != 1) = true then ((fK a0.aX 3 3).bind fun x8 => some x8) else (some false)) else (some false)) else (some false)) else (some false)
def m7 (a0 : Int) (a1 : Int) (a2 : Int) : Option (Bool) :=
  if (decide (a0 ≥ a1)) = true then (some (decide (a0 ≤ a2))) else (some false)
def lb  : (Int × Int) → Option (oC (Int × Int) (Int)) := fun (s1, s2) =>
  if (s2 != 0) = true then ((uX s1 s2).bind fun x6 => some (.next (s2, x6))) else (some (.stop s1))
def nO (a0 : Int) (a1 : Int) : Option (Int) :=
  (px (lb) hZ (a0, a1)).bind fun o8 => some o8
def lP (a0 : bf) : Option (Bool) :=
  (m7 a0.bh 1 4096).bind fun x1 => if x1 = true then ((m7 a0.bg 1 4096).bind fun x3 => if x3 = true then ((nO a0.bh a0.bg).bind fun x5 => some (x5 == 1)) else (some false)) else (some false)
def bV (a0 : Int) (a1 : Int) (a2 : Int) : Option (Bool) :=
  if (decide (a0 ≥ a1)) = true then (some (decide (a0 ≤ a2))) else (some false)
def fQ (a0 : Int) : Option (Bool) :=
  (bV a0 (-1048576) 1048576).bind fun x1 => some (!x1)
def dh (a0 : (List Int)) : Int → Option (oC (Int) ((Unit) ⊕ (Int))) := fun s1 =>
  if (decide (s1 < (a0.length : Int))) = true then ((oG a0 s1).bind fun x4 => (fQ x4).bind fun x5 => if x5 = true then (some (.stop (.inr s1))) else (some (.next (IntKind.wrap .i64 (s1 + 1))))) else (some (.stop (.inl ())))
def dT (a0 : (List Int)) : Option (Int) :=
  (px (dh a0) hZ 0).bind fun o8 => match o8 with | .inl _ => (some (-1)) | .inr r10 => (some r10)
def df (a0 : (List Int)) : Option (Bool) :=
  (dT a0).bind fun x1 => some (decide (x1 ≥ 0))
def de (a0 : (List Int)) : Option (Bool) :=
  (df a0).bind fun x1 => some (!x1)
def iE (a0 : (List Int)) : (Int × Int) → Option (oC (Int × Int) (Int)) := fun (s1, s2) =>
  if (decide (s2 < (a0.length : Int))) = true then ((oG a0 s2).bind fun x6 => some (.next ((IntKind.wrap .i64 (s1 + x6)), (IntKind.wrap .i64 (s2 + 1))))) else (some (.stop s1))
def gc (a0 : (List Int)) : Option (Int) :=
  (px (iE a0) hZ (0, 0)).bind fun o8 => some o8
def fO (a0 : aB) : Option (Bool) :=
  if ((a0.cO.length : Int) == 0) = true then (if (a0.cn == 0) = true then (if (a0.ej == 0) = true then (if (a0.cN == 0) = true then (if ((a0.bh.a0 == a0.bh.a0) && ((a0.bh.a1 == 0) && ((a0.bh.a2 == 0) && true))) = true then (if ((a0.bg.a0 == a0.bg.a0) && ((a0.bg.a1 == 0) && ((a0.bg.a2 == 0) && true))) = true then ((bV a0.bh.a0 1 1048576).bind fun x7 => if x7 = true then ((bV a0.bg.a0 1 1048576).bind fun x9 => some x9) else (some false)) else (some false)) else (some false)) else (some false)) else (if (a0.ej == 1) = true then (if (a0.cN == 0) = true then ((de [a0.bh.a0, a0.bh.a1, a0.bh.a2]).bind fun x12 => if x12 = true then ((de [a0.bg.a0, a0.bg.a1, a0.bg.a2]).bind fun x14 => if x14 = true then (some (a0.bg.a0 != 0)) else (some false)) else (some false)) else (some false)) else (if (a0.ej == 2) = true then (if ((a0.bh.a0 == 0) && ((a0.bh.a1 == 0) && ((a0.bh.a2 == 0) && true))) = true then (if ((a0.bg.a0 == 0) && ((a0.bg.a1 == 0) && ((a0.bg.a2 == 0) && true))) = true then ((bV (a0.cO.length : Int) 1 128).bind fun x19 => if x19 = true then ((de a0.cO).bind fun x21 => if x21 = true then ((gc a0.cO).bind fun x23 => if (x23 != 0) = true then ((bV a0.cn 1 64).bind fun x25 => if x25 = true then ((bV a0.cN 0 40).bind fun x27 => some x27) else (some false)) else (some false)) else (some false)) else (some false)) else (some false)) else (some false)) else (some false)))) else (if (a0.ej == 0) = true then (some false) else (if (a0.ej == 1) = true then (some false) else (if (a0.ej == 2) = true then (if ((a0.bh.a0 == 0) && ((a0.bh.a1 == 0) && ((a0.bh.a2 == 0) && true))) = true then (if ((a0.bg.a0 == 0) && ((a0.bg.a1 == 0) && ((a0.bg.a2 == 0) && true))) = true then ((bV (a0.cO.length : Int) 1 128).bind fun x33 => if x33 = true then ((de a0.cO).bind fun x35 => if x35 = true then ((gc a0.cO).bind fun x37 => if (x37 != 0) = true then ((bV a0.cn 1 64).bind fun x39 => if x39 = true then ((bV a0.cN 0 40).bind fun x41 => some x41) else (some false)) else (some false)) else (some false)) else (some false)) else (some false)) else (some false)) else (some false))))) else (if (a0.ej == 0) = true then (some false) else (if (a0.ej == 1) = true then (some false) else (if (a0.ej == 2) = true then (if ((a0.bh.a0 == 0) && ((a0.bh.a1 == 0) && ((a0.bh.a2 == 0) && true))) = true then (if ((a0.bg.a0 == 0) && ((a0.bg.a1 == 0) && ((a0.bg.a2 == 0) && true))) = true then ((bV (a0.cO.length : Int) 1 128).bind fun x47 => if x47 = true then ((de a0.cO).bind fun x49 => if x49 = true then ((gc a0.cO).bind fun x51 => if (x51 != 0) = true then ((bV a0.cn 1 64).bind fun x53 => if x53 = true then ((bV a0.cN 0 40).bind fun x55 => some x55) else (some false)) else (some false)) else (some false)) else (some false)) else (some false)) else (some false)) else (some false))))
def fP (a0 : aB) : Option (Bool) :=
  (fO a0).bind fun x1 => some (!x1)
def cV (a0 : (List aB)) : Int → Option (oC (Int) ((Unit) ⊕ (Int))) := fun s1 =>
  if (decide (s1 < (a0.length : Int))) = true then ((oG a0 s1).bind fun x4 => (fP x4).bind fun x5 => if x5 = true then (some (.stop (.inr s1))) else (some (.next (IntKind.wrap .i64 (s1 + 1))))) else (some (.stop (.inl ())))
def dF (a0 : (List aB)) : Option (Int) :=
  (px (cV a0) hZ 0).bind fun o8 => match o8 with | .inl _ => (some (-1)) | .inr r10 => (some r10)
def cU (a0 : (List aB)) : Option (Bool) :=
  (dF a0).bind fun x1 => some (decide (x1 ≥ 0))
def f9 (a0 : (List aB)) : (Int × Int) → Option (oC (Int × Int) ((Int) ⊕ (Int))) := fun (s1, s2) =>
  if (decide (s2 < (a0.length : Int))) = true then ((oG a0 s2).bind fun x6 => if (x6.ej != 2) = true then (some (.next (s1, (IntKind.wrap .i64 (s2 + 1))))) else (if (decide ((IntKind.wrap .i64 (s1 * x6.cn)) > 64)) = true then (some (.stop (.inr 0))) else (some (.next ((IntKind.wrap .i64 (s1 * x6.cn)), (IntKind.wrap .i64 (s2 + 1))))))) else (some (.stop (.inl s1)))
def iD (a0 : (List aB)) : Option (Int) :=
  (px (f9 a0) hZ (1, 0)).bind fun o10 => match o10 with | .inl y11 => (some y11) | .inr r12 => (some r12)
def iZ (a0 : aN) : Option (Bool) :=
  if (decide ((a0.bj.length : Int) > 8)) = true then (some false) else ((cU a0.bj).bind fun x2 => if x2 = true then (some false) else ((iD a0.bj).bind fun x4 => some (decide (x4 > 0))))
def eY (a0 : Int) (a1 : Int) (a2 : Int) : Option (Bool) :=
  if (decide (a0 ≥ a1)) = true then (some (decide (a0 ≤ a2))) else (some false)
def fk (a0 : al) : Option (Bool) :=
  if (decide (a0.bF ≥ 0)) = true then (if (decide (a0.bF < a0.fTo)) = true then (if (decide (a0.fTo ≤ 9007199254740992)) = true then ((lP a0.ct).bind fun x4 => if x4 = true then ((iZ a0.bq).bind fun x6 => if x6 = true then ((eY a0.aV.fX (-1048576) 1048576).bind fun x8 => if x8 = true then ((eY a0.aV.fY (-1048576) 1048576).bind fun x10 => if x10 = true then ((eY a0.aV.fZ (-16384) 1048576).bind fun x12 => some x12) else (some false)) else (some false)) else (some false)) else (some false)) else (some false)) else (some false)) else (some false)
def fo (a0 : (List al)) : Int → Option (oC (Int) ((Unit) ⊕ (Bool))) := fun s1 =>
  if (decide (s1 < (a0.length : Int))) = true then ((oG a0 s1).bind fun x4 => (fk x4).bind fun x5 => if (!x5) = true then (some (.stop (.inr false))) else (if (decide (s1 > 0)) = true then ((oG a0 (IntKind.wrap .i64 (s1 - 1))).bind fun x8 => if (decide (x4.bF < x8.fTo)) = true then (some (.stop (.inr false))) else (some (.next (IntKind.wrap .i64 (s1 + 1))))) else (some (.next (IntKind.wrap .i64 (s1 + 1)))))) else (some (.stop (.inl ())))
def gY (a0 : (List al)) : Option (Bool) :=
  (px (fo a0) hZ 0).bind fun o11 => match o11 with | .inl _ => ((eY (a0.length : Int) 1 32).bind fun x14 => some x14) | .inr r13 => (some r13)
def fh (a0 : (List UInt8)) : Option (Bool) :=
  some (!(a0 == a0))
def cA (a0 : (List UInt8)) (a1 : (List UInt8)) : Option (Int) :=
  (fh a0).bind fun x1 => (fh a1).bind fun x2 => if x1 = true then (if x2 = true then (some 0) else (some (-1))) else (if x2 = true then (some 1) else (if (Op.bytesLess a0 a1) = true then (some (-1)) else (if (!(Op.bytesLess a0 a1 || a0 == a1)) = true then (some 1) else (some 0))))
def jE (a0 : (List Int)) : Int → Option (oC (Int) ((Unit) ⊕ (Int))) := fun s1 =>
  if (decide (s1 < (a0.length : Int))) = true then ((oG a0 s1).bind fun x4 => if (x4 != 0) = true then (some (.stop (.inr x4))) else (some (.next (IntKind.wrap .i64 (s1 + 1))))) else (some (.stop (.inl ())))
def lE (a0 : (List Int)) : Option (Int) :=
  (px (jE a0) hZ 0).bind fun o7 => match o7 with | .inl _ => (some 0) | .inr r9 => (some r9)
def jc (a0 : aI) (a1 : aI) : Option (Int) :=
  (cA a0.aU a1.aU).bind fun x1 => (cA a0.aL a1.aL).bind fun x2 => (cA a0.aq a1.aq).bind fun x3 => (cA a0.aX a1.aX).bind fun x4 => (lE [x1, x2, x3, x4]).bind fun x5 => some x5
def fN (a0 : aD) : Int → Option (oC (Int) ((Unit) ⊕ (Bool))) := fun s1 =>
  if (decide (s1 < (a0.aQ.length : Int))) = true then ((oG a0.aQ s1).bind fun x4 => (iH x4.aJ).bind fun x5 => if (!x5) = true then (some (.stop (.inr false))) else ((gY x4.bo).bind fun x7 => if (!x7) = true then (some (.stop (.inr false))) else (if (decide (s1 > 0)) = true then ((oG a0.aQ (IntKind.wrap .i64 (s1 - 1))).bind fun x10 => (jc x10.aJ x4.aJ).bind fun x11 => if (decide (x11 ≥ 0)) = true then (some (.stop (.inr false))) else (some (.next (IntKind.wrap .i64 (s1 + 1))))) else (some (.next (IntKind.wrap .i64 (s1 + 1))))))) else (some (.stop (.inl ())))
def iv (a0 : aD) : Option (Bool) :=
  (px (fN a0) hZ 0).bind fun o14 => match o14 with | .inl _ => (some (decide ((a0.aQ.length : Int) ≤ 128))) | .inr r16 => (some r16)
def kT (a0 : Int) (a1 : Int) (a2 : Int) : Option (Bool) :=
  if (decide (a0 ≥ a1)) = true then (some (decide (a0 ≤ a2))) else (some false)
def gZ (a0 : ap) : Option (Bool) :=
  (iH a0.aJ).bind fun x1 => if x1 = true then (if (decide (a0.bw ≥ 0)) = true then (if (decide (a0.bw ≤ a0.a8)) = true then (if (decide (a0.a8 ≤ a0.bO)) = true then (if (decide (a0.bO ≤ 18014398509481984)) = true then ((kT a0.bn 0 1073741823).bind fun x7 => if x7 = true then ((kT a0.bI (-1) 1).bind fun x9 => some x9) else (some false)) else (some false)) else (some false)) else (some false)) else (some false)) else (some false)
def eo (x1 : (List aB)) : (Int × (List aB)) → Option (oC (Int × (List aB)) ((List aB))) := fun (s2, s3) =>
  if (decide (s2 < (x1.length : Int))) = true then ((inO s3 s2).bind fun _ => (oG s3 s2).bind fun x9 => (pP 8 x9.cO).bind fun x10 => (inO s3 s2).bind fun _ => (xx s3 s2 (fun (z14 : aB) => (aB.mk z14.ej z14.bh z14.bg x10 z14.cn z14.cN))).bind fun x13 => some (.next ((IntKind.wrap .i64 (s2 + 1)), x13))) else (some (.stop s3))
def fM (a0 : al) : Option (al) :=
  (pP 96 a0.bq.bj).bind fun x1 => (px (eo x1) hZ (0, x1)).bind fun o16 => some (al.mk a0.bF a0.fTo a0.ct a0.aV (aN.mk o16))
def fm (x1 : (List al)) : (Int × (List al)) → Option (oC (Int × (List al)) ((List al))) := fun (s2, s3) =>
  if (decide (s2 < (x1.length : Int))) = true then ((inO s3 s2).bind fun _ => (oG s3 s2).bind fun x9 => (fM x9).bind fun x10 => (inO s3 s2).bind fun _ => (rY s3 s2 x10).bind fun x13 => some (.next ((IntKind.wrap .i64 (s2 + 1)), x13))) else (some (.stop s3))
def gX (a0 : au) : Option (au) :=
  (pP 80 a0.bo).bind fun x1 => (px (fm x1) hZ (0, x1)).bind fun o15 => some (au.mk a0.aJ o15)
def gz (a0 : aD) (a1 : aI) : Int → Option (oC (Int) ((Unit) ⊕ (au × Bool))) := fun s1 =>
  if (decide (s1 < (a0.aQ.length : Int))) = true then ((oG a0.aQ s1).bind fun x4 => if ((x4.aJ.aU == a1.aU) && ((x4.aJ.aL == a1.aL) && ((x4.aJ.aq == a1.aq) && ((x4.aJ.aX == a1.aX) && true)))) = true then ((gX x4).bind fun x6 => some (.stop (.inr (x6, true)))) else (some (.next (IntKind.wrap .i64 (s1 + 1))))) else (some (.stop (.inl ())))
def iQ (a0 : aD) (a1 : aI) : Option (au × Bool) :=
  (px (gz a0 a1) hZ 0).bind fun o8 => match o8 with | .inl _ => (some ((au.mk (aI.mk [] [] [] []) []), false)) | .inr r10 => (some r10)
def iw (a0 : au) (a1 : Int) : Int → Option (oC (Int) ((Unit) ⊕ (al × Bool))) := fun s1 =>
  if (decide (s1 < (a0.bo.length : Int))) = true then ((oG a0.bo s1).bind fun x4 => if (decide (x4.bF ≤ a1)) = true then (if (decide (a1 < x4.fTo)) = true then (some (.stop (.inr (x4, true)))) else (some (.next (IntKind.wrap .i64 (s1 + 1))))) else (some (.next (IntKind.wrap .i64 (s1 + 1))))) else (some (.stop (.inl ())))
def ks (a0 : au) (a1 : Int) : Option (al × Bool) :=
  (px (iw a0 a1) hZ 0).bind fun o8 => match o8 with | .inl _ => (some ((al.mk 0 0 (bf.mk 0 0) (aa.mk 0 0 0) (aN.mk [])), false)) | .inr r10 => (some r10)
def ko (a0 : aD) (a1 : aI) (a2 : Int) : Option (al × Int) :=
  (iv a0).bind fun x1 => if (!x1) = true then (some ((al.mk 0 0 (bf.mk 0 0) (aa.mk 0 0 0) (aN.mk [])), 1)) else ((iQ a0 a1).bind fun x3 => (ks x3.1 a2).bind fun x4 => if (!x4.2) = true then (some ((al.mk 0 0 (bf.mk 0 0) (aa.mk 0 0 0) (aN.mk [])), 6)) else (some (x4.1, 0)))
def jM (a0 : aG) (a1 : aD) (a2 : ap) : Option (av × al × Bool) :=
  (gZ a2).bind fun x1 => if (!x1) = true then (some ((av.mk (aa.mk 0 0 0) 0 0 0), (al.mk 0 0 (bf.mk 0 0) (aa.mk 0 0 0) (aN.mk [])), false)) else ((ko a1 a2.aJ a2.a8).bind fun x3 => if (x3.2 != 0) = true then (some ((av.mk (aa.mk 0 0 0) 0 0 0), (al.mk 0 0 (bf.mk 0 0) (aa.mk 0 0 0) (aN.mk [])), false)) else ((lC a0.ag.az a0.ag.ac (av.mk x3.1.aV a2.bw a2.bO 1)).bind fun x5 => if (x5.2 != 0) = true then (some ((av.mk (aa.mk 0 0 0) 0 0 0), (al.mk 0 0 (bf.mk 0 0) (aa.mk 0 0 0) (aN.mk [])), false)) else (some ((av.mk x3.1.aV a2.bw a2.bO 1), x3.1, true))))
theorem keep_New_le (a0 : (List Int)) : Le (nI a0) (ix a0) := by
  unfold nI ix; repeat' (first | with_reducible exact Le.refl _ | with_reducible refine Le.bind ?_ (fun _ => ?_) | with_reducible refine Le.ite ?_ ?_ | with_reducible refine Le.loop (fun _ => ?_) _ _ | with_reducible refine Le.hY (fun _ => ?_) _ | (split <;> dsimp only))
theorem Src_Raw_le (d0 : ah) : Le (Src_Raw_c d0) (mT d0) := by
  unfold Src_Raw_c mT; repeat' (first | with_reducible exact Le.refl _ | with_reducible refine Le.bind ?_ (fun _ => ?_) | with_reducible refine Le.ite ?_ ?_ | with_reducible refine Le.loop (fun _ => ?_) _ _ | with_reducible refine Le.hY (fun _ => ?_) _ | (split <;> dsimp only))
theorem keep_Mod_le (a0 : Int) (a1 : Int) : Le (lJ a0 a1) (jq a0 a1) := by
  unfold lJ jq; repeat' (first | with_reducible exact Le.refl _ | with_reducible refine Le.bind ?_ (fun _ => ?_) | with_reducible refine Le.ite ?_ ?_ | with_reducible refine Le.loop (fun _ => ?_) _ _ | with_reducible refine Le.hY (fun _ => ?_) _ | (split <;> dsimp only))
theorem gC (a1 : Int) (d0 : ah) : Le (cj a1 d0) (cq a1 d0) := by
  unfold cj cq; repeat' (first | with_reducible exact Src_Raw_le _ | with_reducible exact keep_Mod_le _ _ | with_reducible exact Le.refl _ | with_reducible refine Le.bind ?_ (fun _ => ?_) | with_reducible refine Le.ite ?_ ?_ | with_reducible refine Le.loop (fun _ => ?_) _ _ | with_reducible refine Le.hY (fun _ => ?_) _ | (split <;> dsimp only))
theorem nX (a1 : Int) (d0 : ah) : Le (jn a1 d0) (gf a1 d0) := by
  unfold jn gf; repeat' (first | with_reducible exact gC _ _ | with_reducible exact Le.refl _ | with_reducible refine Le.bind ?_ (fun _ => ?_) | with_reducible refine Le.ite ?_ ?_ | with_reducible refine Le.loop (fun _ => ?_) _ _ | with_reducible refine Le.hY (fun _ => ?_) _ | (split <;> dsimp only))
theorem Src_Box_le (a1 : Int) (a2 : Int) (d0 : ah) : Le (Src_Box_c a1 a2 d0) (kL a1 a2 d0) := by
  unfold Src_Box_c kL; repeat' (first | with_reducible exact nX _ _ | with_reducible exact gC _ _ | with_reducible exact Le.refl _ | with_reducible refine Le.bind ?_ (fun _ => ?_) | with_reducible refine Le.ite ?_ ?_ | with_reducible refine Le.loop (fun _ => ?_) _ _ | with_reducible refine Le.hY (fun _ => ?_) _ | (split <;> dsimp only))
theorem jm (a1 : (List Int)) (d0 : ah) : Le (dI a1 d0) (dJ a1 d0) := by
  unfold dI dJ; repeat' (first | with_reducible exact gC _ _ | with_reducible exact Le.refl _ | with_reducible refine Le.bind ?_ (fun _ => ?_) | with_reducible refine Le.ite ?_ ?_ | with_reducible refine Le.loop (fun _ => ?_) _ _ | with_reducible refine Le.hY (fun _ => ?_) _ | (split <;> dsimp only))
theorem Src_Table_l23_le (x1 : Int × ah) (s : _) : Le (jC x1 s) (fG x1 s) := by
  unfold jC fG; (try dsimp only); repeat' (first | with_reducible exact gC _ _ | with_reducible exact jm _ _ | with_reducible exact Le.refl _ | with_reducible refine Le.bind ?_ (fun _ => ?_) | with_reducible refine Le.ite ?_ ?_ | with_reducible refine Le.loop (fun _ => ?_) _ _ | with_reducible refine Le.hY (fun _ => ?_) _ | (split <;> dsimp only))
theorem n5 (d0 : ah) : Le (kM d0) (gg d0) := by
  unfold kM gg; repeat' (first | with_reducible exact jm _ _ | with_reducible exact gC _ _ | with_reducible exact Src_Table_l23_le _ _ | with_reducible exact Le.refl _ | with_reducible refine Le.bind ?_ (fun _ => ?_) | with_reducible refine Le.ite ?_ ?_ | with_reducible refine Le.loop (fun _ => ?_) _ _ | with_reducible refine Le.hY (fun _ => ?_) _ | (split <;> dsimp only))
theorem nB (a1 : Int) (d0 : ah) : Le (im a1 d0) (c9 a1 d0) := by
  unfold im c9; repeat' (first | with_reducible exact Src_Box_le _ _ _ | with_reducible exact n5 _ | with_reducible exact jm _ _ | with_reducible exact gC _ _ | with_reducible exact Le.refl _ | with_reducible refine Le.bind ?_ (fun _ => ?_) | with_reducible refine Le.ite ?_ ?_ | with_reducible refine Le.loop (fun _ => ?_) _ _ | with_reducible refine Le.hY (fun _ => ?_) _ | (split <;> dsimp only))
theorem Src_Scale_l25_le (x1 : aK × ah) (s : _) : Le (jz x1 s) (gD x1 s) := by
  unfold jz gD; (try dsimp only); repeat' (first | with_reducible exact Le.refl _ | with_reducible refine Le.bind ?_ (fun _ => ?_) | with_reducible refine Le.ite ?_ ?_ | with_reducible refine Le.loop (fun _ => ?_) _ _ | with_reducible refine Le.hY (fun _ => ?_) _ | (split <;> dsimp only))
theorem Src_Scale_le (d0 : ah) : Le (mh d0) (hX d0) := by
  unfold mh hX; repeat' (first | with_reducible exact n5 _ | with_reducible exact gC _ _ | with_reducible exact Src_Scale_l25_le _ _ | with_reducible exact Le.refl _ | with_reducible refine Le.bind ?_ (fun _ => ?_) | with_reducible refine Le.ite ?_ ?_ | with_reducible refine Le.loop (fun _ => ?_) _ _ | with_reducible refine Le.hY (fun _ => ?_) _ | (split <;> dsimp only))
theorem Src_Settings_le (a1 : Int) (d0 : ah) : Le (kf a1 d0) (cL a1 d0) := by
  unfold kf cL; repeat' (first | with_reducible exact nB _ _ | with_reducible exact Src_Scale_le _ | with_reducible exact jm _ _ | with_reducible exact Le.refl _ | with_reducible refine Le.bind ?_ (fun _ => ?_) | with_reducible refine Le.ite ?_ ?_ | with_reducible refine Le.loop (fun _ => ?_) _ _ | with_reducible refine Le.hY (fun _ => ?_) _ | (split <;> dsimp only))
theorem m8  (s : _) : Le (gU  s) (eT  s) := by
  unfold gU eT; (try dsimp only); repeat' (first | with_reducible exact gC _ _ | with_reducible exact jm _ _ | with_reducible exact Le.refl _ | with_reducible refine Le.bind ?_ (fun _ => ?_) | with_reducible refine Le.ite ?_ ?_ | with_reducible refine Le.loop (fun _ => ?_) _ _ | with_reducible refine Le.hY (fun _ => ?_) _ | (split <;> dsimp only))
theorem Src_Response_le (d0 : ah) : Le (io d0) (dj d0) := by
  unfold io dj; repeat' (first | with_reducible exact gC _ _ | with_reducible exact m8 _ | with_reducible exact Le.refl _ | with_reducible refine Le.bind ?_ (fun _ => ?_) | with_reducible refine Le.ite ?_ ?_ | with_reducible refine Le.loop (fun _ => ?_) _ _ | with_reducible refine Le.hY (fun _ => ?_) _ | (split <;> dsimp only))
theorem mB (a0 : Int) : Le (ji a0) (dw a0) := by
  unfold ji dw; repeat' (first | with_reducible exact keep_Mod_le _ _ | with_reducible exact Le.refl _ | with_reducible refine Le.bind ?_ (fun _ => ?_) | with_reducible refine Le.ite ?_ ?_ | with_reducible refine Le.loop (fun _ => ?_) _ _ | with_reducible refine Le.hY (fun _ => ?_) _ | (split <;> dsimp only))
theorem Src_Sites_l33_le (a1 : Int) (s : _) : Le (jB a1 s) (gE a1 s) := by
  unfold jB gE; (try dsimp only); repeat' (first | with_reducible exact nX _ _ | with_reducible exact Src_Response_le _ | with_reducible exact mB _ | with_reducible exact gC _ _ | with_reducible exact Le.refl _ | with_reducible refine Le.bind ?_ (fun _ => ?_) | with_reducible refine Le.ite ?_ ?_ | with_reducible refine Le.loop (fun _ => ?_) _ _ | with_reducible refine Le.hY (fun _ => ?_) _ | (split <;> dsimp only))
theorem Src_Sites_le (a1 : Int) (d0 : ah) : Le (mi a1 d0) (eU a1 d0) := by
  unfold mi eU; repeat' (first | with_reducible exact Src_Sites_l33_le _ _ | with_reducible exact Le.refl _ | with_reducible refine Le.bind ?_ (fun _ => ?_) | with_reducible refine Le.ite ?_ ?_ | with_reducible refine Le.loop (fun _ => ?_) _ _ | with_reducible refine Le.hY (fun _ => ?_) _ | (split <;> dsimp only))
theorem iu (a0 : aa) : Le (cu a0) (bp a0) := by
  unfold cu bp; repeat' (first | with_reducible exact Le.refl _ | with_reducible refine Le.bind ?_ (fun _ => ?_) | with_reducible refine Le.ite ?_ ?_ | with_reducible refine Le.loop (fun _ => ?_) _ _ | with_reducible refine Le.hY (fun _ => ?_) _ | (split <;> dsimp only))
theorem eA (a0 : aa) : Le (cB a0) (bX a0) := by
  unfold cB bX; repeat' (first | with_reducible exact iu _ | with_reducible exact Le.refl _ | with_reducible refine Le.bind ?_ (fun _ => ?_) | with_reducible refine Le.ite ?_ ?_ | with_reducible refine Le.loop (fun _ => ?_) _ _ | with_reducible refine Le.hY (fun _ => ?_) _ | (split <;> dsimp only))
theorem ez (a0 : aj) : Le (c6 a0) (bu a0) := by
  unfold c6 bu; repeat' (first | with_reducible exact eA _ | with_reducible exact iu _ | with_reducible exact Le.refl _ | with_reducible refine Le.bind ?_ (fun _ => ?_) | with_reducible refine Le.ite ?_ ?_ | with_reducible refine Le.loop (fun _ => ?_) _ _ | with_reducible refine Le.hY (fun _ => ?_) _ | (split <;> dsimp only))
theorem lZ (a0 : aK) (s : _) : Le (fT a0 s) (eS a0 s) := by
  unfold fT eS; (try dsimp only); repeat' (first | with_reducible exact Le.refl _ | with_reducible refine Le.bind ?_ (fun _ => ?_) | with_reducible refine Le.ite ?_ ?_ | with_reducible refine Le.loop (fun _ => ?_) _ _ | with_reducible refine Le.hY (fun _ => ?_) _ | (split <;> dsimp only))
theorem hP (a0 : aK) : Le (eL a0) (b8 a0) := by
  unfold eL b8; repeat' (first | with_reducible exact lZ _ _ | with_reducible exact Le.refl _ | with_reducible refine Le.bind ?_ (fun _ => ?_) | with_reducible refine Le.ite ?_ ?_ | with_reducible refine Le.loop (fun _ => ?_) _ _ | with_reducible refine Le.hY (fun _ => ?_) _ | (split <;> dsimp only))
theorem na (a0 : av) : Le (gW a0) (dX a0) := by
  unfold gW dX; repeat' (first | with_reducible exact eA _ | with_reducible exact Le.refl _ | with_reducible refine Le.bind ?_ (fun _ => ?_) | with_reducible refine Le.ite ?_ ?_ | with_reducible refine Le.loop (fun _ => ?_) _ _ | with_reducible refine Le.hY (fun _ => ?_) _ | (split <;> dsimp only))
theorem ng (a0 : Int) (a1 : Int) (a2 : Int) : Le (d8 a0 a1 a2) (cC a0 a1 a2) := by
  unfold d8 cC; repeat' (first | with_reducible exact Le.refl _ | with_reducible refine Le.bind ?_ (fun _ => ?_) | with_reducible refine Le.ite ?_ ?_ | with_reducible refine Le.loop (fun _ => ?_) _ _ | with_reducible refine Le.hY (fun _ => ?_) _ | (split <;> dsimp only))
theorem kH (a0 : aj) (a1 : aa) : Le (eQ a0 a1) (cP a0 a1) := by
  unfold eQ cP; repeat' (first | with_reducible exact ez _ | with_reducible exact eA _ | with_reducible exact iu _ | with_reducible exact ng _ _ _ | with_reducible exact Le.refl _ | with_reducible refine Le.bind ?_ (fun _ => ?_) | with_reducible refine Le.ite ?_ ?_ | with_reducible refine Le.loop (fun _ => ?_) _ _ | with_reducible refine Le.hY (fun _ => ?_) _ | (split <;> dsimp only))
theorem geometry_Near_le (a0 : aj) (a1 : aa) : Le (jG a0 a1) (dl a0 a1) := by
  unfold jG dl; repeat' (first | with_reducible exact kH _ _ | with_reducible exact Le.refl _ | with_reducible refine Le.bind ?_ (fun _ => ?_) | with_reducible refine Le.ite ?_ ?_ | with_reducible refine Le.loop (fun _ => ?_) _ _ | with_reducible refine Le.hY (fun _ => ?_) _ | (split <;> dsimp only))
theorem mr (a0 : Int) (a1 : Int) (a2 : Int) : Le (dL a0 a1 a2) (cp a0 a1 a2) := by
  unfold dL cp; repeat' (first | with_reducible exact Le.refl _ | with_reducible refine Le.bind ?_ (fun _ => ?_) | with_reducible refine Le.ite ?_ ?_ | with_reducible refine Le.loop (fun _ => ?_) _ _ | with_reducible refine Le.hY (fun _ => ?_) _ | (split <;> dsimp only))
theorem kl (a0 : aj) (a1 : aa) : Le (ek a0 a1) (cE a0 a1) := by
  unfold ek cE; repeat' (first | with_reducible exact ez _ | with_reducible exact eA _ | with_reducible exact iu _ | with_reducible exact mr _ _ _ | with_reducible exact Le.refl _ | with_reducible refine Le.bind ?_ (fun _ => ?_) | with_reducible refine Le.ite ?_ ?_ | with_reducible refine Le.loop (fun _ => ?_) _ _ | with_reducible refine Le.hY (fun _ => ?_) _ | (split <;> dsimp only))
theorem geometry_Far_le (a0 : aj) (a1 : aa) : Le (kj a0 a1) (ey a0 a1) := by
  unfold kj ey; repeat' (first | with_reducible exact kl _ _ | with_reducible exact Le.refl _ | with_reducible refine Le.bind ?_ (fun _ => ?_) | with_reducible refine Le.ite ?_ ?_ | with_reducible refine Le.loop (fun _ => ?_) _ _ | with_reducible refine Le.hY (fun _ => ?_) _ | (split <;> dsimp only))
theorem bound_squares_le (a0 : aK) (a1 : aj) (a2 : aa) : Le (jD a0 a1 a2) (gF a0 a1 a2) := by
  unfold jD gF; repeat' (first | with_reducible exact geometry_Near_le _ _ | with_reducible exact geometry_Far_le _ _ | with_reducible exact Le.refl _ | with_reducible refine Le.bind ?_ (fun _ => ?_) | with_reducible refine Le.ite ?_ ?_ | with_reducible refine Le.loop (fun _ => ?_) _ _ | with_reducible refine Le.hY (fun _ => ?_) _ | (split <;> dsimp only))
theorem bits_Len64_k8_le (j3 : Int) (j4 : Int) : Le (gL j3 j4) (dU j3 j4) := by
  unfold gL dU; repeat' (first | with_reducible exact Le.refl _ | with_reducible refine Le.bind ?_ (fun _ => ?_) | with_reducible refine Le.ite ?_ ?_ | with_reducible refine Le.loop (fun _ => ?_) _ _ | with_reducible refine Le.hY (fun _ => ?_) _ | (split <;> dsimp only))
theorem n9 (j1 : Int) (j2 : Int) : Le (gh j1 j2) (dq j1 j2) := by
  unfold gh dq; repeat' (first | with_reducible exact bits_Len64_k8_le _ _ | with_reducible exact Le.refl _ | with_reducible refine Le.bind ?_ (fun _ => ?_) | with_reducible refine Le.ite ?_ ?_ | with_reducible refine Le.loop (fun _ => ?_) _ _ | with_reducible refine Le.hY (fun _ => ?_) _ | (split <;> dsimp only))
theorem bits_Len64_le (a0 : Int) : Le (lB a0) (iM a0) := by
  unfold lB iM; repeat' (first | with_reducible exact n9 _ _ | with_reducible exact Le.refl _ | with_reducible refine Le.bind ?_ (fun _ => ?_) | with_reducible refine Le.ite ?_ ?_ | with_reducible refine Le.loop (fun _ => ?_) _ _ | with_reducible refine Le.hY (fun _ => ?_) _ | (split <;> dsimp only))
theorem ml (a0 : Int) : Le (gV a0) (fA a0) := by
  unfold gV fA; repeat' (first | with_reducible exact bits_Len64_le _ | with_reducible exact Le.refl _ | with_reducible refine Le.bind ?_ (fun _ => ?_) | with_reducible refine Le.ite ?_ ?_ | with_reducible refine Le.loop (fun _ => ?_) _ _ | with_reducible refine Le.hY (fun _ => ?_) _ | (split <;> dsimp only))
theorem me (a0 : Int) (s : _) : Le (f4 a0 s) (d7 a0 s) := by
  unfold f4 d7; (try dsimp only); repeat' (first | with_reducible exact Le.refl _ | with_reducible refine Le.bind ?_ (fun _ => ?_) | with_reducible refine Le.ite ?_ ?_ | with_reducible refine Le.loop (fun _ => ?_) _ _ | with_reducible refine Le.hY (fun _ => ?_) _ | (split <;> dsimp only))
theorem kP (a0 : Int) : Le (gl a0) (d6 a0) := by
  unfold gl d6; repeat' (first | with_reducible exact ml _ | with_reducible exact me _ _ | with_reducible exact Le.refl _ | with_reducible refine Le.bind ?_ (fun _ => ?_) | with_reducible refine Le.ite ?_ ?_ | with_reducible refine Le.loop (fun _ => ?_) _ _ | with_reducible refine Le.hY (fun _ => ?_) _ | (split <;> dsimp only))
theorem geometry_Ceil_le (a0 : Int) : Le (jF a0) (fH a0) := by
  unfold jF fH; repeat' (first | with_reducible exact kP _ | with_reducible exact Le.refl _ | with_reducible refine Le.bind ?_ (fun _ => ?_) | with_reducible refine Le.ite ?_ ?_ | with_reducible refine Le.loop (fun _ => ?_) _ _ | with_reducible refine Le.hY (fun _ => ?_) _ | (split <;> dsimp only))
theorem travel_reach_le (a0 : aK) : Le (kF a0) (iI a0) := by
  unfold kF iI; repeat' (first | with_reducible exact Le.refl _ | with_reducible refine Le.bind ?_ (fun _ => ?_) | with_reducible refine Le.ite ?_ ?_ | with_reducible refine Le.loop (fun _ => ?_) _ _ | with_reducible refine Le.hY (fun _ => ?_) _ | (split <;> dsimp only))
theorem lY (a0 : Int) (d0 : aK) (d1 : Int) : Le (fS a0 d0 d1) (dR a0 d0 d1) := by
  unfold fS dR; repeat' (first | with_reducible exact Le.refl _ | with_reducible refine Le.bind ?_ (fun _ => ?_) | with_reducible refine Le.ite ?_ ?_ | with_reducible refine Le.loop (fun _ => ?_) _ _ | with_reducible refine Le.hY (fun _ => ?_) _ | (split <;> dsimp only))
theorem lW (d0 : aK) (d1 : Int) (s : _) : Le (fR d0 d1 s) (eR d0 d1 s) := by
  unfold fR eR; (try dsimp only); repeat' (first | with_reducible exact lY _ _ _ | with_reducible exact Le.refl _ | with_reducible refine Le.bind ?_ (fun _ => ?_) | with_reducible refine Le.ite ?_ ?_ | with_reducible refine Le.loop (fun _ => ?_) _ _ | with_reducible refine Le.hY (fun _ => ?_) _ | (split <;> dsimp only))
theorem nu (a0 : Int) (d0 : aK) (d1 : Int) : Le (hM a0 d0 d1) (d5 a0 d0 d1) := by
  unfold hM d5; repeat' (first | with_reducible exact lW _ _ _ | with_reducible exact Le.refl _ | with_reducible refine Le.bind ?_ (fun _ => ?_) | with_reducible refine Le.ite ?_ ?_ | with_reducible refine Le.loop (fun _ => ?_) _ _ | with_reducible refine Le.hY (fun _ => ?_) _ | (split <;> dsimp only))
theorem oA (a0 : aK) (a1 : Int) (a2 : Int) : Le (jf a0 a1 a2) (ec a0 a1 a2) := by
  unfold jf ec; repeat' (first | with_reducible exact hP _ | with_reducible exact geometry_Ceil_le _ | with_reducible exact travel_reach_le _ | with_reducible exact nu _ _ _ | with_reducible exact kP _ | with_reducible exact Le.refl _ | with_reducible refine Le.bind ?_ (fun _ => ?_) | with_reducible refine Le.ite ?_ ?_ | with_reducible refine Le.loop (fun _ => ?_) _ _ | with_reducible refine Le.hY (fun _ => ?_) _ | (split <;> dsimp only))
theorem oc (a0 : aK) (a1 : aj) (a2 : aa) : Le (iN a0 a1 a2) (fV a0 a1 a2) := by
  unfold iN fV; repeat' (first | with_reducible exact hP _ | with_reducible exact ez _ | with_reducible exact eA _ | with_reducible exact bound_squares_le _ _ _ | with_reducible exact oA _ _ _ | with_reducible exact Le.refl _ | with_reducible refine Le.bind ?_ (fun _ => ?_) | with_reducible refine Le.ite ?_ ?_ | with_reducible refine Le.loop (fun _ => ?_) _ _ | with_reducible refine Le.hY (fun _ => ?_) _ | (split <;> dsimp only))
theorem bound_Zone_le (a0 : aK) (a1 : aj) (a2 : av) : Le (lC a0 a1 a2) (eN a0 a1 a2) := by
  unfold lC eN; repeat' (first | with_reducible exact hP _ | with_reducible exact ez _ | with_reducible exact na _ | with_reducible exact oc _ _ _ | with_reducible exact Le.refl _ | with_reducible refine Le.bind ?_ (fun _ => ?_) | with_reducible refine Le.ite ?_ ?_ | with_reducible refine Le.loop (fun _ => ?_) _ _ | with_reducible refine Le.hY (fun _ => ?_) _ | (split <;> dsimp only))
theorem source_plain_le (a0 : Int) : Le (kE a0) (gu a0) := by
  unfold kE gu; repeat' (first | with_reducible exact Le.refl _ | with_reducible refine Le.bind ?_ (fun _ => ?_) | with_reducible refine Le.ite ?_ ?_ | with_reducible refine Le.loop (fun _ => ?_) _ _ | with_reducible refine Le.hY (fun _ => ?_) _ | (split <;> dsimp only))
theorem oz (a0 : (List UInt8)) (s : _) : Le (jd a0 s) (fd a0 s) := by
  unfold jd fd; (try dsimp only); repeat' (first | with_reducible exact source_plain_le _ | with_reducible exact Le.refl _ | with_reducible refine Le.bind ?_ (fun _ => ?_) | with_reducible refine Le.ite ?_ ?_ | with_reducible refine Le.loop (fun _ => ?_) _ _ | with_reducible refine Le.hY (fun _ => ?_) _ | (split <;> dsimp only))
theorem source_code_le (a0 : (List UInt8)) (a1 : Int) (a2 : Int) : Le (fK a0 a1 a2) (eK a0 a1 a2) := by
  unfold fK eK; repeat' (first | with_reducible exact oz _ _ | with_reducible exact Le.refl _ | with_reducible refine Le.bind ?_ (fun _ => ?_) | with_reducible refine Le.ite ?_ ?_ | with_reducible refine Le.loop (fun _ => ?_) _ _ | with_reducible refine Le.hY (fun _ => ?_) _ | (split <;> dsimp only))
theorem mb (a0 : aI) : Le (iH a0) (fx a0) := by
  unfold iH fx; repeat' (first | with_reducible exact source_code_le _ _ _ | with_reducible exact Le.refl _ | with_reducible refine Le.bind ?_ (fun _ => ?_) | with_reducible refine Le.ite ?_ ?_ | with_reducible refine Le.loop (fun _ => ?_) _ _ | with_reducible refine Le.hY (fun _ => ?_) _ | (split <;> dsimp only))
theorem rate_in_le (a0 : Int) (a1 : Int) (a2 : Int) : Le (m7 a0 a1 a2) (m6 a0 a1 a2) := by
  unfold m7 m6; repeat' (first | with_reducible exact Le.refl _ | with_reducible refine Le.bind ?_ (fun _ => ?_) | with_reducible refine Le.ite ?_ ?_ | with_reducible refine Le.loop (fun _ => ?_) _ _ | with_reducible refine Le.hY (fun _ => ?_) _ | (split <;> dsimp only))
theorem rate_gcd_l7_le  (s : _) : Le (lb  s) (mO  s) := by
  unfold lb mO; (try dsimp only); repeat' (first | with_reducible exact Le.refl _ | with_reducible refine Le.bind ?_ (fun _ => ?_) | with_reducible refine Le.ite ?_ ?_ | with_reducible refine Le.loop (fun _ => ?_) _ _ | with_reducible refine Le.hY (fun _ => ?_) _ | (split <;> dsimp only))
theorem rate_gcd_le (a0 : Int) (a1 : Int) : Le (nO a0 a1) (mN a0 a1) := by
  unfold nO mN; repeat' (first | with_reducible exact rate_gcd_l7_le _ | with_reducible exact Le.refl _ | with_reducible refine Le.bind ?_ (fun _ => ?_) | with_reducible refine Le.ite ?_ ?_ | with_reducible refine Le.loop (fun _ => ?_) _ _ | with_reducible refine Le.hY (fun _ => ?_) _ | (split <;> dsimp only))
theorem rate_Valid_le (a0 : bf) : Le (lP a0) (iX a0) := by
  unfold lP iX; repeat' (first | with_reducible exact rate_in_le _ _ _ | with_reducible exact rate_gcd_le _ _ | with_reducible exact Le.refl _ | with_reducible refine Le.bind ?_ (fun _ => ?_) | with_reducible refine Le.ite ?_ ?_ | with_reducible refine Le.loop (fun _ => ?_) _ _ | with_reducible refine Le.hY (fun _ => ?_) _ | (split <;> dsimp only))
theorem mP (a0 : Int) (a1 : Int) (a2 : Int) : Le (bV a0 a1 a2) (bK a0 a1 a2) := by
  unfold bV bK; repeat' (first | with_reducible exact Le.refl _ | with_reducible refine Le.bind ?_ (fun _ => ?_) | with_reducible refine Le.ite ?_ ?_ | with_reducible refine Le.loop (fun _ => ?_) _ _ | with_reducible refine Le.hY (fun _ => ?_) _ | (split <;> dsimp only))
theorem lT (a0 : Int) : Le (fQ a0) (dO a0) := by
  unfold fQ dO; repeat' (first | with_reducible exact mP _ _ _ | with_reducible exact Le.refl _ | with_reducible refine Le.bind ?_ (fun _ => ?_) | with_reducible refine Le.ite ?_ ?_ | with_reducible refine Le.loop (fun _ => ?_) _ _ | with_reducible refine Le.hY (fun _ => ?_) _ | (split <;> dsimp only))
theorem iL (a0 : (List Int)) (s : _) : Le (dh a0 s) (b7 a0 s) := by
  unfold dh b7; (try dsimp only); repeat' (first | with_reducible exact lT _ | with_reducible exact Le.refl _ | with_reducible refine Le.bind ?_ (fun _ => ?_) | with_reducible refine Le.ite ?_ ?_ | with_reducible refine Le.loop (fun _ => ?_) _ _ | with_reducible refine Le.hY (fun _ => ?_) _ | (split <;> dsimp only))
theorem jK (a0 : (List Int)) : Le (dT a0) (cm a0) := by
  unfold dT cm; repeat' (first | with_reducible exact iL _ _ | with_reducible exact Le.refl _ | with_reducible refine Le.bind ?_ (fun _ => ?_) | with_reducible refine Le.ite ?_ ?_ | with_reducible refine Le.loop (fun _ => ?_) _ _ | with_reducible refine Le.hY (fun _ => ?_) _ | (split <;> dsimp only))
theorem iK (a0 : (List Int)) : Le (df a0) (bZ a0) := by
  unfold df bZ; repeat' (first | with_reducible exact jK _ | with_reducible exact Le.refl _ | with_reducible refine Le.bind ?_ (fun _ => ?_) | with_reducible refine Le.ite ?_ ?_ | with_reducible refine Le.loop (fun _ => ?_) _ _ | with_reducible refine Le.hY (fun _ => ?_) _ | (split <;> dsimp only))
theorem ov (a0 : (List Int)) : Le (de a0) (bT a0) := by
  unfold de bT; repeat' (first | with_reducible exact iK _ | with_reducible exact Le.refl _ | with_reducible refine Le.bind ?_ (fun _ => ?_) | with_reducible refine Le.ite ?_ ?_ | with_reducible refine Le.loop (fun _ => ?_) _ _ | with_reducible refine Le.hY (fun _ => ?_) _ | (split <;> dsimp only))
theorem nS (a0 : (List Int)) (s : _) : Le (iE a0 s) (gT a0 s) := by
  unfold iE gT; (try dsimp only); repeat' (first | with_reducible exact Le.refl _ | with_reducible refine Le.bind ?_ (fun _ => ?_) | with_reducible refine Le.ite ?_ ?_ | with_reducible refine Le.loop (fun _ => ?_) _ _ | with_reducible refine Le.hY (fun _ => ?_) _ | (split <;> dsimp only))
theorem response_sum_le (a0 : (List Int)) : Le (gc a0) (cS a0) := by
  unfold gc cS; repeat' (first | with_reducible exact nS _ _ | with_reducible exact Le.refl _ | with_reducible refine Le.bind ?_ (fun _ => ?_) | with_reducible refine Le.ite ?_ ?_ | with_reducible refine Le.loop (fun _ => ?_) _ _ | with_reducible refine Le.hY (fun _ => ?_) _ | (split <;> dsimp only))
theorem lR (a0 : aB) : Le (fO a0) (cb a0) := by
  unfold fO cb; repeat' (first | with_reducible exact mP _ _ _ | with_reducible exact ov _ | with_reducible exact response_sum_le _ | with_reducible exact Le.refl _ | with_reducible refine Le.bind ?_ (fun _ => ?_) | with_reducible refine Le.ite ?_ ?_ | with_reducible refine Le.loop (fun _ => ?_) _ _ | with_reducible refine Le.hY (fun _ => ?_) _ | (split <;> dsimp only))
theorem lS (a0 : aB) : Le (fP a0) (dN a0) := by
  unfold fP dN; repeat' (first | with_reducible exact lR _ | with_reducible exact Le.refl _ | with_reducible refine Le.bind ?_ (fun _ => ?_) | with_reducible refine Le.ite ?_ ?_ | with_reducible refine Le.loop (fun _ => ?_) _ _ | with_reducible refine Le.hY (fun _ => ?_) _ | (split <;> dsimp only))
theorem il (a0 : (List aB)) (s : _) : Le (cV a0 s) (bU a0 s) := by
  unfold cV bU; (try dsimp only); repeat' (first | with_reducible exact lS _ | with_reducible exact Le.refl _ | with_reducible refine Le.bind ?_ (fun _ => ?_) | with_reducible refine Le.ite ?_ ?_ | with_reducible refine Le.loop (fun _ => ?_) _ _ | with_reducible refine Le.hY (fun _ => ?_) _ | (split <;> dsimp only))
theorem jb (a0 : (List aB)) : Le (dF a0) (ce a0) := by
  unfold dF ce; repeat' (first | with_reducible exact il _ _ | with_reducible exact Le.refl _ | with_reducible refine Le.bind ?_ (fun _ => ?_) | with_reducible refine Le.ite ?_ ?_ | with_reducible refine Le.loop (fun _ => ?_) _ _ | with_reducible refine Le.hY (fun _ => ?_) _ | (split <;> dsimp only))
theorem ij (a0 : (List aB)) : Le (cU a0) (bM a0) := by
  unfold cU bM; repeat' (first | with_reducible exact jb _ | with_reducible exact Le.refl _ | with_reducible refine Le.bind ?_ (fun _ => ?_) | with_reducible refine Le.ite ?_ ?_ | with_reducible refine Le.loop (fun _ => ?_) _ _ | with_reducible refine Le.hY (fun _ => ?_) _ | (split <;> dsimp only))
theorem mg (a0 : (List aB)) (s : _) : Le (f9 a0 s) (ea a0 s) := by
  unfold f9 ea; (try dsimp only); repeat' (first | with_reducible exact Le.refl _ | with_reducible refine Le.bind ?_ (fun _ => ?_) | with_reducible refine Le.ite ?_ ?_ | with_reducible refine Le.loop (fun _ => ?_) _ _ | with_reducible refine Le.hY (fun _ => ?_) _ | (split <;> dsimp only))
theorem nR (a0 : (List aB)) : Le (iD a0) (eu a0) := by
  unfold iD eu; repeat' (first | with_reducible exact mg _ _ | with_reducible exact Le.refl _ | with_reducible refine Le.bind ?_ (fun _ => ?_) | with_reducible refine Le.ite ?_ ?_ | with_reducible refine Le.loop (fun _ => ?_) _ _ | with_reducible refine Le.hY (fun _ => ?_) _ | (split <;> dsimp only))
theorem ou (a0 : aN) : Le (iZ a0) (d9 a0) := by
  unfold iZ d9; repeat' (first | with_reducible exact ij _ | with_reducible exact nR _ | with_reducible exact Le.refl _ | with_reducible refine Le.bind ?_ (fun _ => ?_) | with_reducible refine Le.ite ?_ ?_ | with_reducible refine Le.loop (fun _ => ?_) _ _ | with_reducible refine Le.hY (fun _ => ?_) _ | (split <;> dsimp only))
theorem l6 (a0 : Int) (a1 : Int) (a2 : Int) : Le (eY a0 a1 a2) (dm a0 a1 a2) := by
  unfold eY dm; repeat' (first | with_reducible exact Le.refl _ | with_reducible refine Le.bind ?_ (fun _ => ?_) | with_reducible refine Le.ite ?_ ?_ | with_reducible refine Le.loop (fun _ => ?_) _ _ | with_reducible refine Le.hY (fun _ => ?_) _ | (split <;> dsimp only))
theorem lm (a0 : al) : Le (fk a0) (cH a0) := by
  unfold fk cH; repeat' (first | with_reducible exact rate_Valid_le _ | with_reducible exact ou _ | with_reducible exact l6 _ _ _ | with_reducible exact Le.refl _ | with_reducible refine Le.bind ?_ (fun _ => ?_) | with_reducible refine Le.ite ?_ ?_ | with_reducible refine Le.loop (fun _ => ?_) _ _ | with_reducible refine Le.hY (fun _ => ?_) _ | (split <;> dsimp only))
theorem lp (a0 : (List al)) (s : _) : Le (fo a0 s) (dv a0 s) := by
  unfold fo dv; (try dsimp only); repeat' (first | with_reducible exact lm _ | with_reducible exact Le.refl _ | with_reducible refine Le.bind ?_ (fun _ => ?_) | with_reducible refine Le.ite ?_ ?_ | with_reducible refine Le.loop (fun _ => ?_) _ _ | with_reducible refine Le.hY (fun _ => ?_) _ | (split <;> dsimp only))
theorem nk (a0 : (List al)) : Le (gY a0) (dZ a0) := by
  unfold gY dZ; repeat' (first | with_reducible exact lp _ _ | with_reducible exact l6 _ _ _ | with_reducible exact Le.refl _ | with_reducible refine Le.bind ?_ (fun _ => ?_) | with_reducible refine Le.ite ?_ ?_ | with_reducible refine Le.loop (fun _ => ?_) _ _ | with_reducible refine Le.hY (fun _ => ?_) _ | (split <;> dsimp only))
theorem nd (a0 : (List UInt8)) : Le (fh a0) (db a0) := by
  unfold fh db; repeat' (first | with_reducible exact Le.refl _ | with_reducible refine Le.bind ?_ (fun _ => ?_) | with_reducible refine Le.ite ?_ ?_ | with_reducible refine Le.loop (fun _ => ?_) _ _ | with_reducible refine Le.hY (fun _ => ?_) _ | (split <;> dsimp only))
theorem md (a0 : (List UInt8)) (a1 : (List UInt8)) : Le (cA a0 a1) (bS a0 a1) := by
  unfold cA bS; repeat' (first | with_reducible exact nd _ | with_reducible exact Le.refl _ | with_reducible refine Le.bind ?_ (fun _ => ?_) | with_reducible refine Le.ite ?_ ?_ | with_reducible refine Le.loop (fun _ => ?_) _ _ | with_reducible refine Le.hY (fun _ => ?_) _ | (split <;> dsimp only))
theorem cmp_Or_int_l6_le (a0 : (List Int)) (s : _) : Le (jE a0 s) (cr a0 s) := by
  unfold jE cr; (try dsimp only); repeat' (first | with_reducible exact Le.refl _ | with_reducible refine Le.bind ?_ (fun _ => ?_) | with_reducible refine Le.ite ?_ ?_ | with_reducible refine Le.loop (fun _ => ?_) _ _ | with_reducible refine Le.hY (fun _ => ?_) _ | (split <;> dsimp only))
theorem cmp_Or_int_le (a0 : (List Int)) : Le (lE a0) (cM a0) := by
  unfold lE cM; repeat' (first | with_reducible exact cmp_Or_int_l6_le _ _ | with_reducible exact Le.refl _ | with_reducible refine Le.bind ?_ (fun _ => ?_) | with_reducible refine Le.ite ?_ ?_ | with_reducible refine Le.loop (fun _ => ?_) _ _ | with_reducible refine Le.hY (fun _ => ?_) _ | (split <;> dsimp only))
theorem ow (a0 : aI) (a1 : aI) : Le (jc a0 a1) (dG a0 a1) := by
  unfold jc dG; repeat' (first | with_reducible exact md _ _ | with_reducible exact cmp_Or_int_le _ | with_reducible exact Le.refl _ | with_reducible refine Le.bind ?_ (fun _ => ?_) | with_reducible refine Le.ite ?_ ?_ | with_reducible refine Le.loop (fun _ => ?_) _ _ | with_reducible refine Le.hY (fun _ => ?_) _ | (split <;> dsimp only))
theorem lI (a0 : aD) (s : _) : Le (fN a0 s) (dM a0 s) := by
  unfold fN dM; (try dsimp only); repeat' (first | with_reducible exact mb _ | with_reducible exact nk _ | with_reducible exact ow _ _ | with_reducible exact Le.refl _ | with_reducible refine Le.bind ?_ (fun _ => ?_) | with_reducible refine Le.ite ?_ ?_ | with_reducible refine Le.loop (fun _ => ?_) _ _ | with_reducible refine Le.hY (fun _ => ?_) _ | (split <;> dsimp only))
theorem nG (a0 : aD) : Le (iv a0) (da a0) := by
  unfold iv da; repeat' (first | with_reducible exact lI _ _ | with_reducible exact Le.refl _ | with_reducible refine Le.bind ?_ (fun _ => ?_) | with_reducible refine Le.ite ?_ ?_ | with_reducible refine Le.loop (fun _ => ?_) _ _ | with_reducible refine Le.hY (fun _ => ?_) _ | (split <;> dsimp only))
theorem picker_in_le (a0 : Int) (a1 : Int) (a2 : Int) : Le (kT a0 a1 a2) (gt a0 a1 a2) := by
  unfold kT gt; repeat' (first | with_reducible exact Le.refl _ | with_reducible refine Le.bind ?_ (fun _ => ?_) | with_reducible refine Le.ite ?_ ?_ | with_reducible refine Le.loop (fun _ => ?_) _ _ | with_reducible refine Le.hY (fun _ => ?_) _ | (split <;> dsimp only))
theorem nq (a0 : ap) : Le (gZ a0) (d4 a0) := by
  unfold gZ d4; repeat' (first | with_reducible exact mb _ | with_reducible exact picker_in_le _ _ _ | with_reducible exact Le.refl _ | with_reducible refine Le.bind ?_ (fun _ => ?_) | with_reducible refine Le.ite ?_ ?_ | with_reducible refine Le.loop (fun _ => ?_) _ _ | with_reducible refine Le.hY (fun _ => ?_) _ | (split <;> dsimp only))
theorem kq (x1 : (List aB)) (s : _) : Le (eo x1 s) (cG x1 s) := by
  unfold eo cG; (try dsimp only); repeat' (first | with_reducible exact Le.refl _ | with_reducible refine Le.bind ?_ (fun _ => ?_) | with_reducible refine Le.ite ?_ ?_ | with_reducible refine Le.loop (fun _ => ?_) _ _ | with_reducible refine Le.hY (fun _ => ?_) _ | (split <;> dsimp only))
theorem lH (a0 : al) : Le (fM a0) (c7 a0) := by
  unfold fM c7; repeat' (first | with_reducible exact kq _ _ | with_reducible exact Le.refl _ | with_reducible refine Le.bind ?_ (fun _ => ?_) | with_reducible refine Le.ite ?_ ?_ | with_reducible refine Le.loop (fun _ => ?_) _ _ | with_reducible refine Le.hY (fun _ => ?_) _ | (split <;> dsimp only))
theorem ln (x1 : (List al)) (s : _) : Le (fm x1 s) (du x1 s) := by
  unfold fm du; (try dsimp only); repeat' (first | with_reducible exact lH _ | with_reducible exact Le.refl _ | with_reducible refine Le.bind ?_ (fun _ => ?_) | with_reducible refine Le.ite ?_ ?_ | with_reducible refine Le.loop (fun _ => ?_) _ _ | with_reducible refine Le.hY (fun _ => ?_) _ | (split <;> dsimp only))
theorem ni (a0 : au) : Le (gX a0) (dY a0) := by
  unfold gX dY; repeat' (first | with_reducible exact ln _ _ | with_reducible exact Le.refl _ | with_reducible refine Le.bind ?_ (fun _ => ?_) | with_reducible refine Le.ite ?_ ?_ | with_reducible refine Le.loop (fun _ => ?_) _ _ | with_reducible refine Le.hY (fun _ => ?_) _ | (split <;> dsimp only))
theorem mw (a0 : aD) (a1 : aI) (s : _) : Le (gz a0 a1 s) (eB a0 a1 s) := by
  unfold gz eB; (try dsimp only); repeat' (first | with_reducible exact ni _ | with_reducible exact Le.refl _ | with_reducible refine Le.bind ?_ (fun _ => ?_) | with_reducible refine Le.ite ?_ ?_ | with_reducible refine Le.loop (fun _ => ?_) _ _ | with_reducible refine Le.hY (fun _ => ?_) _ | (split <;> dsimp only))
theorem oj (a0 : aD) (a1 : aI) : Le (iQ a0 a1) (eX a0 a1) := by
  unfold iQ eX; repeat' (first | with_reducible exact mw _ _ _ | with_reducible exact Le.refl _ | with_reducible refine Le.bind ?_ (fun _ => ?_) | with_reducible refine Le.ite ?_ ?_ | with_reducible refine Le.loop (fun _ => ?_) _ _ | with_reducible refine Le.hY (fun _ => ?_) _ | (split <;> dsimp only))
theorem nH (a0 : au) (a1 : Int) (s : _) : Le (iw a0 a1 s) (fB a0 a1 s) := by
  unfold iw fB; (try dsimp only); repeat' (first | with_reducible exact Le.refl _ | with_reducible refine Le.bind ?_ (fun _ => ?_) | with_reducible refine Le.ite ?_ ?_ | with_reducible refine Le.loop (fun _ => ?_) _ _ | with_reducible refine Le.hY (fun _ => ?_) _ | (split <;> dsimp only))
theorem inventory_at_le (a0 : au) (a1 : Int) : Le (ks a0 a1) (gn a0 a1) := by
  unfold ks gn; repeat' (first | with_reducible exact nH _ _ _ | with_reducible exact Le.refl _ | with_reducible refine Le.bind ?_ (fun _ => ?_) | with_reducible refine Le.ite ?_ ?_ | with_reducible refine Le.loop (fun _ => ?_) _ _ | with_reducible refine Le.hY (fun _ => ?_) _ | (split <;> dsimp only))
theorem inventory_At_le (a0 : aD) (a1 : aI) (a2 : Int) : Le (ko a0 a1 a2) (gm a0 a1 a2) := by
  unfold ko gm; repeat' (first | with_reducible exact nG _ | with_reducible exact oj _ _ | with_reducible exact inventory_at_le _ _ | with_reducible exact Le.refl _ | with_reducible refine Le.bind ?_ (fun _ => ?_) | with_reducible refine Le.ite ?_ ?_ | with_reducible refine Le.loop (fun _ => ?_) _ _ | with_reducible refine Le.hY (fun _ => ?_) _ | (split <;> dsimp only))
theorem solution_used_le (a0 : aG) (a1 : aD) (a2 : ap) : Le (jM a0 a1 a2) (cw a0 a1 a2) := by
  unfold jM cw; repeat' (first | with_reducible exact nq _ | with_reducible exact inventory_At_le _ _ _ | with_reducible exact bound_Zone_le _ _ _ | with_reducible exact Le.refl _ | with_reducible refine Le.bind ?_ (fun _ => ?_) | with_reducible refine Le.ite ?_ ?_ | with_reducible refine Le.loop (fun _ => ?_) _ _ | with_reducible refine Le.hY (fun _ => ?_) _ | (split <;> dsimp only))
end Go.Dw.So
