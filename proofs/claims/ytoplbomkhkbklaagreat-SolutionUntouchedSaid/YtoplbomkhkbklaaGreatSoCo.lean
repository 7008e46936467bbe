
import Derived.Test.YtoplbomkhkbklaaGreatSoFn
import Derived.Test.YtoplbomkhkbklaaGreatDwLe


set_option maxRecDepth 100000
set_option maxHeartbeats 4000000
namespace Go.Dw.So
open Go.Dw
def ib : Nat := 600
def nT (a0 : (List Int)) : Option (aj) :=
  (cutO a0 0 (if 2000 < (a0.length : Int) then 2000 else (a0.length : Int))).bind fun x1 => some (aj.mk x1 0)
def Src_Raw_c (d0 : aj) : Option (Int × aj) :=
  if (decide (d0.fAt ≥ (d0.fL.length : Int))) = true then (some (0, d0)) else ((oT d0.fL (IntKind.wrap .i64 ((IntKind.wrap .i64 (d0.fAt + 1)) - 1))).bind fun x2 => some (x2, (aj.mk d0.fL (IntKind.wrap .i64 (d0.fAt + 1)))))
def lS (a0 : Int) (a1 : Int) : Option (Int) :=
  if (decide (a1 < 1)) = true then (some 0) else ((vj a0 a1).bind fun x2 => if (decide (x2 < 0)) = true then (some (IntKind.wrap .i64 (x2 + a1))) else (some x2))
def cm (a1 : Int) (d0 : aj) : Option (Int × aj) :=
  (Src_Raw_c d0).bind fun x1 => (lS x1.1 a1).bind fun x2 => some (x2, x1.2)
def jq (a1 : Int) (d0 : aj) : Option (aa × aj) :=
  (cm (IntKind.wrap .i64 ((IntKind.wrap .i64 (2 * a1)) + 1)) d0).bind fun x1 => (cm (IntKind.wrap .i64 ((IntKind.wrap .i64 (2 * a1)) + 1)) x1.2).bind fun x2 => (cm (IntKind.wrap .i64 (a1 + 1)) x2.2).bind fun x3 => some ((aa.mk (IntKind.wrap .i64 (x1.1 - a1)) (IntKind.wrap .i64 (x2.1 - a1)) x3.1), x3.2)
def Src_Box_c (a1 : Int) (a2 : Int) (d0 : aj) : Option (ai × aj) :=
  (jq a1 d0).bind fun x1 => (cm (IntKind.wrap .i64 (a2 + 1)) x1.2).bind fun x2 => (cm (IntKind.wrap .i64 (a2 + 1)) x2.2).bind fun x3 => (cm (IntKind.wrap .i64 (a2 + 1)) x3.2).bind fun x4 => some ((ai.mk x1.1 (aa.mk (IntKind.wrap .i64 (x1.1.fX + x2.1)) (IntKind.wrap .i64 (x1.1.fY + x3.1)) (IntKind.wrap .i64 (x1.1.fZ + x4.1)))), x4.2)
def dH (a1 : (List Int)) (d0 : aj) : Option (Int × aj) :=
  (cm (a1.length : Int) d0).bind fun x1 => (oT a1 x1.1).bind fun x2 => some (x2, x1.2)
def jF (x1 : Int × aj) : (Int × Int × Int × (List Int) × Int × (List Int) × (List Int)) → Option (oP (Int × Int × Int × (List Int) × Int × (List Int) × (List Int)) ((List Int) × Int × (List Int) × (List Int))) := fun (s3, s4, s5, s6, s7, s8, s9) =>
  (qd .i64 400 x1.1).bind fun x15 => (cm 3 (aj.mk s6 s7)).bind fun x16 => if (decide (s5 ≤ (IntKind.wrap .i64 (x15 + x16.1)))) = true then ((pS s8 [s3] 8).bind fun x18 => (pS s9 [s4] 8).bind fun x19 => (dH [0, 10, 20, 35] x16.2).bind fun x20 => (qd .i64 x1.1 4).bind fun x21 => (dH [0, 0, 5, 30] x20.2).bind fun x22 => some (.next ((IntKind.wrap .i64 (s3 + (IntKind.wrap .i64 (x20.1 + x21)))), (IntKind.wrap .i64 ((if (IntKind.wrap .i64 (s3 + (IntKind.wrap .i64 (x20.1 + x21)))) > s4 then (IntKind.wrap .i64 (s3 + (IntKind.wrap .i64 (x20.1 + x21)))) else s4) + x22.1)), (IntKind.wrap .i64 (s5 + 1)), x22.2.fL, x22.2.fAt, x18, x19))) else (some (.stop (x16.2.fL, x16.2.fAt, s8, s9)))
def kU (d0 : aj) : Option (aK × aj) :=
  (dH [20, 25, 40, 100] d0).bind fun x1 => (cm 3 x1.2).bind fun x2 => (pJ (jF x1) ib (0, x2.1, 0, x2.2.fL, x2.2.fAt, ([] : (List Int)), ([] : (List Int)))).bind fun o24 => some ((aK.mk x1.1 o24.2.2.1 o24.2.2.2), (aj.mk o24.1 o24.2.1))
def ip (a1 : Int) (d0 : aj) : Option (bf × aj) :=
  (Src_Box_c 20 a1 d0).bind fun x1 => (kU x1.2).bind fun x2 => (dH [10, 50, 200] x2.2).bind fun x3 => (dH [0, 0, 10, 40] x3.2).bind fun x4 => (dH [0, 50, 200, 400] x4.2).bind fun x5 => (dH [0, 5, 20] x5.2).bind fun x6 => (cm 2 x6.2).bind fun x7 => some ((bf.mk x1.1 x2.1 x3.1 x4.1 x5.1 x6.1 (IntKind.wrap .i64 (2 + x7.1))), x7.2)
def jC (x1 : aK × aj) : (Int × (List Int) × (List Int)) → Option (oP (Int × (List Int) × (List Int)) ((List Int) × (List Int))) := fun (s4, s5, s6) =>
  if (decide (s4 < (x1.1.ak.length : Int))) = true then ((inO s5 s4).bind fun _ => (oT s5 s4).bind fun x13 => (qd .i64 x13 3).bind fun x14 => (inO s6 s4).bind fun _ => (oT s6 s4).bind fun x17 => (qd .i64 x17 3).bind fun x18 => (inO s5 s4).bind fun _ => (tg s5 s4 x14).bind fun x21 => (inO s6 s4).bind fun _ => (tg s6 s4 x18).bind fun x24 => some (.next ((IntKind.wrap .i64 (s4 + 1)), x21, x24))) else (some (.stop (s5, s6)))
def mq (d0 : aj) : Option (bt × aj) :=
  (kU d0).bind fun x1 => (cm 20 x1.2).bind fun x2 => (cm 9 x2.2).bind fun x3 => (pJ (jC x1) ib (0, x1.1.ak, x1.1.ae)).bind fun o26 => some ((bt.mk (aK.mk x1.1.aU o26.1 o26.2) x2.1 (IntKind.wrap .i64 (1 + x3.1))), x3.2)
def kl (a1 : Int) (d0 : aj) : Option (aG × aj) :=
  (ip a1 d0).bind fun x1 => (mq x1.2).bind fun x2 => (dH [0, 0, 10, 40] x2.2).bind fun x3 => some ((aG.mk x1.1 x2.1 x3.1), x3.2)
def gW  : (Int × (List Int) × Int × (List aB)) → Option (oP (Int × (List Int) × Int × (List aB)) ((List Int) × Int × (List aB))) := fun (s2, s3, s4, s5) =>
  if (decide (s2 > 0)) = true then ((cm 3 (aj.mk s3 s4)).bind fun x11 => if (x11.1 == 0) = true then ((dH [0, 1, 9, 99, 1048575] x11.2).bind fun x13 => (dH [0, 0, 2, 9, 999] x13.2).bind fun x14 => (pS s5 [(aB.mk x11.1 (aW.mk (IntKind.wrap .i64 (1 + x13.1)) 0 0) (aW.mk (IntKind.wrap .i64 (1 + x14.1)) 0 0) [] 0 0)] 96).bind fun x15 => some (.next ((IntKind.wrap .i64 (s2 - 1)), x14.2.fL, x14.2.fAt, x15))) else (if (x11.1 == 1) = true then ((cm 5 x11.2).bind fun x17 => (cm 7 x17.2).bind fun x18 => (cm 3 x18.2).bind fun x19 => (cm 5 x19.2).bind fun x20 => (cm 7 x20.2).bind fun x21 => (cm 3 x21.2).bind fun x22 => (pS s5 [(aB.mk x11.1 (aW.mk x17.1 (IntKind.wrap .i64 (x18.1 - 3)) (IntKind.wrap .i64 (x19.1 - 1))) (aW.mk (IntKind.wrap .i64 (1 + x20.1)) x21.1 x22.1) [] 0 0)] 96).bind fun x23 => some (.next ((IntKind.wrap .i64 (s2 - 1)), x22.2.fL, x22.2.fAt, x23))) else ((cm 3 x11.2).bind fun x24 => (cm 4 x24.2).bind fun x25 => (pS s5 [(aB.mk x11.1 (aW.mk 0 0 0) (aW.mk 0 0 0) [(IntKind.wrap .i64 (1 + x24.1)), 2, 1] 1 x25.1)] 96).bind fun x26 => some (.next ((IntKind.wrap .i64 (s2 - 1)), x25.2.fL, x25.2.fAt, x26))))) else (some (.stop (s3, s4, s5)))
def iq (d0 : aj) : Option (aM × aj) :=
  (cm 4 d0).bind fun x1 => (pJ (gW) ib (x1.1, x1.2.fL, x1.2.fAt, ([] : (List aB)))).bind fun o28 => some ((aM.mk o28.2.2), (aj.mk o28.1 o28.2.1))
def jl (a0 : Int) : Option (aJ) :=
  (lS a0 6).bind fun x1 => (oT [[83, 49], [83, 50], [83, 51], [83, 52], [83, 53], [83, 54]] x1).bind fun x2 => some (aJ.mk [65, 66] x2 [48, 48] [66, 72, 90])
def jE (a1 : Int) : (Int × (List Int) × Int × (List ap)) → Option (oP (Int × (List Int) × Int × (List ap)) ((List Int) × Int × (List ap))) := fun (s1, s2, s3, s4) =>
  if (decide (s1 < a1)) = true then (if (decide (s1 < 6)) = true then ((jq 60 (aj.mk s2 s3)).bind fun x11 => (iq x11.2).bind fun x12 => (jl s1).bind fun x13 => (cm 6 x12.2).bind fun x14 => if (x14.1 == 0) = true then ((cm 500 x14.2).bind fun x16 => (jq 60 x16.2).bind fun x17 => (iq x17.2).bind fun x18 => (inO [(al.mk 0 100000 (bg.mk 100 1) x11.1 x12.1)] 0).bind fun _ => (w2 [(al.mk 0 100000 (bg.mk 100 1) x11.1 x12.1)] 0 (fun (z22 : al) => (al.mk z22.bB (IntKind.wrap .i64 (1500 + x16.1)) z22.cf z22.aS z22.bi))).bind fun x21 => (pS x21 [(al.mk (IntKind.wrap .i64 (1500 + x16.1)) 100000 (bg.mk 100 1) x17.1 x18.1)] 80).bind fun x23 => (pS s4 [(ap.mk x13 x23)] 88).bind fun x24 => some (.next ((IntKind.wrap .i64 (s1 + 1)), x18.2.fL, x18.2.fAt, x24))) else (if (x14.1 == 1) = true then ((cm 1500 x14.2).bind fun x26 => (inO [(al.mk 0 100000 (bg.mk 100 1) x11.1 x12.1)] 0).bind fun _ => (w2 [(al.mk 0 100000 (bg.mk 100 1) x11.1 x12.1)] 0 (fun (z30 : al) => (al.mk x26.1 z30.fTo z30.cf z30.aS z30.bi))).bind fun x29 => (pS s4 [(ap.mk x13 x29)] 88).bind fun x31 => some (.next ((IntKind.wrap .i64 (s1 + 1)), x26.2.fL, x26.2.fAt, x31))) else ((pS s4 [(ap.mk x13 [(al.mk 0 100000 (bg.mk 100 1) x11.1 x12.1)])] 88).bind fun x32 => some (.next ((IntKind.wrap .i64 (s1 + 1)), x14.2.fL, x14.2.fAt, x32))))) else (some (.stop (s2, s3, s4)))) else (some (.stop (s2, s3, s4)))
def mr (a1 : Int) (d0 : aj) : Option (aC × aj) :=
  (pJ (jE a1) ib (0, d0.fL, d0.fAt, ([] : (List ap)))).bind fun o34 => some ((aC.mk o34.2.2), (aj.mk o34.1 o34.2.1))
def cu (a0 : aa) : Option (aW) :=
  some (aW.mk a0.fX a0.fY a0.fZ)
def cB (a0 : aa) : Option (Bool) :=
  (cu a0).bind fun x1 => if (decide (x1.a0 < (-1048576))) = true then (some false) else (if (decide (x1.a0 > 1048576)) = true then (some false) else (if (decide (x1.a1 < (-1048576))) = true then (some false) else (if (decide (x1.a1 > 1048576)) = true then (some false) else (if (decide (x1.a2 < (-16384))) = true then (some false) else (if (decide (x1.a2 > 1048576)) = true then (some false) else (some true))))))
def c6 (a0 : ai) : Option (Bool) :=
  (cB a0.ak).bind fun x1 => if (!x1) = true then (some false) else ((cB a0.ae).bind fun x3 => if (!x3) = true then (some false) else ((cu a0.ae).bind fun x5 => (cu a0.ak).bind fun x6 => if (decide (x6.a0 > x5.a0)) = true then (some false) else (if (decide (x6.a1 > x5.a1)) = true then (some false) else (if (decide (x6.a2 > x5.a2)) = true then (some false) else (some true)))))
def fW (a0 : aK) : (Int × Int × Int) → Option (oP (Int × Int × Int) ((Unit) ⊕ (Int))) := fun (s6, s7, s8) =>
  if (decide (s8 < (a0.ak.length : Int))) = true then ((oT a0.ak s8).bind fun x11 => if (decide (x11 < s6)) = true then (some (.stop (.inr 21))) else ((oT a0.ae s8).bind fun x13 => if (decide (x13 < s7)) = true then (some (.stop (.inr 21))) else ((oT a0.ak s8).bind fun x15 => (oT a0.ae s8).bind fun x16 => if (decide (x15 > x16)) = true then (some (.stop (.inr 21))) else ((oT a0.ae s8).bind fun x18 => if (decide (x18 > 1099511627776)) = true then (some (.stop (.inr 21))) else ((oT a0.ak s8).bind fun x20 => (oT a0.ae s8).bind fun x21 => some (.next (x20, x21, (IntKind.wrap .i64 (s8 + 1))))))))) else (some (.stop (.inl ())))
def eO (a0 : aK) : Option (Int) :=
  if (decide (a0.aU < 1)) = true then (some 21) else (if (decide (a0.aU > 1048576)) = true then (some 21) else (if ((a0.ak.length : Int) != (a0.ae.length : Int)) = true then (some 21) else (if (decide ((a0.ak.length : Int) < 2)) = true then (some 21) else (if (decide ((a0.ak.length : Int) > 256)) = true then (some 21) else ((pJ (fW a0) ib (0, 0, 0)).bind fun o23 => match o23 with | .inl _ => (some 0) | .inr r25 => (some r25))))))
def gY (a0 : av) : Option (Bool) :=
  (cB a0.aL).bind fun x1 => if x1 = true then (if (decide (a0.bw ≥ 0)) = true then (if (decide (a0.bw ≤ a0.bO)) = true then (if (decide (a0.bO ≤ 18014398509481984)) = true then (if (decide (a0.gn ≥ 1)) = true then (some (decide (a0.gn ≤ 100))) else (some false)) else (some false)) else (some false)) else (some false)) else (some false)
def eb (a0 : Int) (a1 : Int) (a2 : Int) : Option (Int) :=
  some (if 0 > (if (IntKind.wrap .i64 (a0 - a2)) > (IntKind.wrap .i64 (a1 - a0)) then (IntKind.wrap .i64 (a0 - a2)) else (IntKind.wrap .i64 (a1 - a0))) then 0 else (if (IntKind.wrap .i64 (a0 - a2)) > (IntKind.wrap .i64 (a1 - a0)) then (IntKind.wrap .i64 (a0 - a2)) else (IntKind.wrap .i64 (a1 - a0))))
def eS (a0 : ai) (a1 : aa) : Option (Int) :=
  (c6 a0).bind fun x1 => if (!x1) = true then (some 0) else ((cB a1).bind fun x3 => if (!x3) = true then (some 0) else ((cu a0.ak).bind fun x5 => (cu a0.ae).bind fun x6 => (cu a1).bind fun x7 => (eb x7.a0 x5.a0 x6.a0).bind fun x8 => (eb x7.a1 x5.a1 x6.a1).bind fun x9 => (eb x7.a2 x5.a2 x6.a2).bind fun x10 => some (IntKind.wrap .i64 ((IntKind.wrap .i64 ((IntKind.wrap .i64 (0 + (IntKind.wrap .i64 (x8 * x8)))) + (IntKind.wrap .i64 (x9 * x9)))) + (IntKind.wrap .i64 (x10 * x10))))))
def jJ (a0 : ai) (a1 : aa) : Option (Int) :=
  (eS a0 a1).bind fun x1 => some x1
def dL (a0 : Int) (a1 : Int) (a2 : Int) : Option (Int) :=
  some (if (IntKind.wrap .i64 (a0 - a1)) > (IntKind.wrap .i64 (a2 - a0)) then (IntKind.wrap .i64 (a0 - a1)) else (IntKind.wrap .i64 (a2 - a0)))
def et (a0 : ai) (a1 : aa) : Option (Int) :=
  (c6 a0).bind fun x1 => if (!x1) = true then (some 0) else ((cB a1).bind fun x3 => if (!x3) = true then (some 0) else ((cu a0.ak).bind fun x5 => (cu a0.ae).bind fun x6 => (cu a1).bind fun x7 => (dL x7.a0 x5.a0 x6.a0).bind fun x8 => (dL x7.a1 x5.a1 x6.a1).bind fun x9 => (dL x7.a2 x5.a2 x6.a2).bind fun x10 => some (IntKind.wrap .i64 ((IntKind.wrap .i64 ((IntKind.wrap .i64 (0 + (IntKind.wrap .i64 (x8 * x8)))) + (IntKind.wrap .i64 (x9 * x9)))) + (IntKind.wrap .i64 (x10 * x10))))))
def kq (a0 : ai) (a1 : aa) : Option (Int) :=
  (et a0 a1).bind fun x1 => some x1
def jG (a0 : aK) (a1 : ai) (a2 : aa) : Option (aK × Int × Int) :=
  (jJ a1 a2).bind fun x1 => (kq a1 a2).bind fun x2 => some (a0, x1, x2)
def gN (j3 : Int) (j4 : Int) : Option (Int) :=
  if (decide (j3 ≥ 256)) = true then ((sn [0, 1, 2, 2, 3, 3, 3, 3, 4, 4, 4, 4, 4, 4, 4, 4, 5, 5, 5, 5, 5, 5, 5, 5, 5, 5, 5, 5, 5, 5, 5, 5, 6, 6, 6, 6, 6, 6, 6, 6, 6, 6, 6, 6, 6, 6, 6, 6, 6, 6, 6, 6, 6, 6, 6, 6, 6, 6, 6, 6, 6, 6, 6, 6, 7, 7, 7, 7, 7, 7, 7, 7, 7, 7, 7, 7, 7, 7, 7, 7, 7, 7, 7, 7, 7, 7, 7, 7, 7, 7, 7, 7, 7, 7, 7, 7, 7, 7, 7, 7, 7, 7, 7, 7, 7, 7, 7, 7, 7, 7, 7, 7, 7, 7, 7, 7, 7, 7, 7, 7, 7, 7, 7, 7, 7, 7, 7, 7, 8, 8, 8, 8, 8, 8, 8, 8, 8, 8, 8, 8, 8, 8, 8, 8, 8, 8, 8, 8, 8, 8, 8, 8, 8, 8, 8, 8, 8, 8, 8, 8, 8, 8, 8, 8, 8, 8, 8, 8, 8, 8, 8, 8, 8, 8, 8, 8, 8, 8, 8, 8, 8, 8, 8, 8, 8, 8, 8, 8, 8, 8, 8, 8, 8, 8, 8, 8, 8, 8, 8, 8, 8, 8, 8, 8, 8, 8, 8, 8, 8, 8, 8, 8, 8, 8, 8, 8, 8, 8, 8, 8, 8, 8, 8, 8, 8, 8, 8, 8, 8, 8, 8, 8, 8, 8, 8, 8, 8, 8, 8, 8, 8, 8, 8, 8, 8, 8, 8, 8, 8, 8, 8, 8, 8, 8, 8, 8] (IntKind.wrap .u8 (pe .u64 j3 8))).bind fun x6 => some (IntKind.wrap .i64 ((IntKind.wrap .i64 (j4 + 8)) + (IntKind.wrap .i64 x6)))) else ((sn [0, 1, 2, 2, 3, 3, 3, 3, 4, 4, 4, 4, 4, 4, 4, 4, 5, 5, 5, 5, 5, 5, 5, 5, 5, 5, 5, 5, 5, 5, 5, 5, 6, 6, 6, 6, 6, 6, 6, 6, 6, 6, 6, 6, 6, 6, 6, 6, 6, 6, 6, 6, 6, 6, 6, 6, 6, 6, 6, 6, 6, 6, 6, 6, 7, 7, 7, 7, 7, 7, 7, 7, 7, 7, 7, 7, 7, 7, 7, 7, 7, 7, 7, 7, 7, 7, 7, 7, 7, 7, 7, 7, 7, 7, 7, 7, 7, 7, 7, 7, 7, 7, 7, 7, 7, 7, 7, 7, 7, 7, 7, 7, 7, 7, 7, 7, 7, 7, 7, 7, 7, 7, 7, 7, 7, 7, 7, 7, 8, 8, 8, 8, 8, 8, 8, 8, 8, 8, 8, 8, 8, 8, 8, 8, 8, 8, 8, 8, 8, 8, 8, 8, 8, 8, 8, 8, 8, 8, 8, 8, 8, 8, 8, 8, 8, 8, 8, 8, 8, 8, 8, 8, 8, 8, 8, 8, 8, 8, 8, 8, 8, 8, 8, 8, 8, 8, 8, 8, 8, 8, 8, 8, 8, 8, 8, 8, 8, 8, 8, 8, 8, 8, 8, 8, 8, 8, 8, 8, 8, 8, 8, 8, 8, 8, 8, 8, 8, 8, 8, 8, 8, 8, 8, 8, 8, 8, 8, 8, 8, 8, 8, 8, 8, 8, 8, 8, 8, 8, 8, 8, 8, 8, 8, 8, 8, 8, 8, 8, 8, 8, 8, 8, 8, 8, 8, 8] (IntKind.wrap .u8 j3)).bind fun x7 => some (IntKind.wrap .i64 (j4 + (IntKind.wrap .i64 x7))))
def gm (j1 : Int) (j2 : Int) : Option (Int) :=
  if (decide (j1 ≥ 65536)) = true then (gN (pe .u64 j1 16) (IntKind.wrap .i64 (j2 + 16))) else (gN j1 j2)
def lK (a0 : Int) : Option (Int) :=
  if (decide (a0 ≥ 4294967296)) = true then (gm (pe .u64 a0 32) 32) else (gm a0 0)
def gX (a0 : Int) : Option (Int) :=
  (lK a0).bind fun x1 => some x1
def f9 (a0 : Int) : (Int × Int) → Option (oP (Int × Int) (Int)) := fun (s5, s6) =>
  if (decide (s6 > 0)) = true then ((qd .i64 a0 (orI .i64 s5 s6)).bind fun x10 => if (decide ((orI .i64 s5 s6) ≤ x10)) = true then (some (.next ((orI .i64 s5 s6), (pe .i64 s6 1)))) else (some (.next (s5, (pe .i64 s6 1))))) else (some (.stop s5))
def gq (a0 : Int) : Option (Int) :=
  if (decide (a0 ≤ 0)) = true then (some 0) else ((gX (IntKind.wrap .u64 a0)).bind fun x2 => (qd .i64 (IntKind.wrap .i64 (x2 - 1)) 2).bind fun x3 => (vW .i64 1 x3).bind fun x4 => (pJ (f9 a0) ib (0, x4)).bind fun o13 => some o13)
def jI (a0 : Int) : Option (Int) :=
  (gq a0).bind fun x1 => if (decide ((IntKind.wrap .i64 (x1 * x1)) < a0)) = true then (some (IntKind.wrap .i64 (x1 + 1))) else (some x1)
def kN (a0 : aK) : Option (Int) :=
  some (IntKind.wrap .i64 (a0.aU * (IntKind.wrap .i64 ((a0.ak.length : Int) - 1))))
def fV (a0 : Int) (d0 : aK) (d1 : Int) : Option (Bool) :=
  some (decide ((IntKind.wrap .i64 (a0 * d0.aU)) ≥ d1))
def fU (d0 : aK) (d1 : Int) : (Int × Int) → Option (oP (Int × Int) (Int)) := fun (s1, s2) =>
  if (decide (s1 < s2)) = true then ((fV (IntKind.wrap .i64 (pe .u64 (IntKind.wrap .u64 (IntKind.wrap .i64 (s1 + s2))) 1)) d0 d1).bind fun x6 => if (!x6) = true then (some (.next ((IntKind.wrap .i64 ((IntKind.wrap .i64 (pe .u64 (IntKind.wrap .u64 (IntKind.wrap .i64 (s1 + s2))) 1)) + 1)), s2))) else (some (.next (s1, (IntKind.wrap .i64 (pe .u64 (IntKind.wrap .u64 (IntKind.wrap .i64 (s1 + s2))) 1)))))) else (some (.stop s1))
def hX (a0 : Int) (d0 : aK) (d1 : Int) : Option (Int) :=
  (pJ (fU d0 d1) ib (0, a0)).bind fun o9 => some o9
def ji (a0 : aK) (a1 : Int) (a2 : Int) : Option (Int × Int × Int) :=
  (eO a0).bind fun x1 => if (x1 != 0) = true then (some (0, 0, 21)) else (if (decide (a1 < 0)) = true then (some (0, 0, 2)) else (if (decide (a1 > a2)) = true then (some (0, 0, 2)) else ((jI a2).bind fun x5 => (kN a0).bind fun x6 => if (decide (x5 > x6)) = true then (some (0, 0, 22)) else ((hX (a0.ae.length : Int) a0 x5).bind fun x8 => (gq a1).bind fun x9 => (qd .i64 x9 a0.aU).bind fun x10 => (oT a0.ak x10).bind fun x11 => (oT a0.ae x8).bind fun x12 => some (x11, x12, 0)))))
def iQ (a0 : aK) (a1 : ai) (a2 : aa) : Option (Int × Int × Int) :=
  (eO a0).bind fun x1 => if (x1 != 0) = true then (some (0, 0, x1)) else ((c6 a1).bind fun x3 => if (!x3) = true then (some (0, 0, 20)) else ((cB a2).bind fun x5 => if (!x5) = true then (some (0, 0, 20)) else ((jG a0 a1 a2).bind fun x7 => (ji x7.1 x7.2.1 x7.2.2).bind fun x8 => some (x8.1, x8.2.1, x8.2.2))))
def lL (a0 : aK) (a1 : ai) (a2 : av) : Option (aN × Int) :=
  (eO a0).bind fun x1 => if (x1 != 0) = true then (some ((aN.mk 0 0), x1)) else ((c6 a1).bind fun x3 => if (!x3) = true then (some ((aN.mk 0 0), 20)) else ((gY a2).bind fun x5 => if (!x5) = true then (some ((aN.mk 0 0), 23)) else ((iQ a0 a1 a2.aL).bind fun x7 => if (x7.2.2 != 0) = true then (some ((aN.mk 0 0), x7.2.2)) else (some ((aN.mk (IntKind.wrap .i64 (a2.bw - x7.2.1)) (IntKind.wrap .i64 (a2.bO - x7.1))), 0)))))
def kM (a0 : Int) : Option (Bool) :=
  if (decide (a0 ≥ 65)) = true then (if (decide (a0 ≤ 90)) = true then (some true) else (if (decide (a0 ≥ 48)) = true then (some (decide (a0 ≤ 57))) else (some false))) else (if (decide (a0 ≥ 48)) = true then (some (decide (a0 ≤ 57))) else (some false))
def jg (a0 : (List UInt8)) : Int → Option (oP (Int) ((Unit) ⊕ (Bool))) := fun s1 =>
  if (decide (s1 < (a0.length : Int))) = true then ((sn a0 s1).bind fun x4 => (kM x4).bind fun x5 => if (!x5) = true then (some (.stop (.inr false))) else (some (.next (IntKind.wrap .i64 (s1 + 1))))) else (some (.stop (.inl ())))
def fO (a0 : (List UInt8)) (a1 : Int) (a2 : Int) : Option (Bool) :=
  (pJ (jg a0) ib 0).bind fun o8 => match o8 with | .inl _ => (if (decide ((a0.length : Int) ≥ a1)) = true then (some (decide ((a0.length : Int) ≤ a2))) else (some false)) | .inr r10 => (some r10)
def iJ (a0 : aJ) : Option (Bool) :=
  (fO a0.aV 1 2).bind fun x1 => if x1 = true then ((fO a0.aL 1 5).bind fun x3 => if x3 = true then ((fO a0.ar 0 2).bind fun x5 => if x5 = true then (if ((a0.ar.length : Int) != 1) = true then ((fO a0.aX 3 3).bind fun x8 => some x8) else (some false)) else (some false)) else (some false)) else (some false)
def nk (a0 : Int) (a1 : Int) (a2 : Int) : Option (Bool) :=
  if (decide (a0 ≥ a1)) = true then (some (decide (a0 ≤ a2))) else (some false)
def lr  : (Int × Int) → Option (oP (Int × Int) (Int)) := fun (s1, s2) =>
  if (s2 != 0) = true then ((vj s1 s2).bind fun x6 => some (.next (s2, x6))) else (some (.stop s1))
def nZ (a0 : Int) (a1 : Int) : Option (Int) :=
  (pJ (lr) ib (a0, a1)).bind fun o8 => some o8
def lX (a0 : bg) : Option (Bool) :=
  (nk a0.bj 1 4096).bind fun x1 => if x1 = true then ((nk a0.bh 1 4096).bind fun x3 => if x3 = true then ((nZ a0.bj a0.bh).bind fun x5 => some (x5 == 1)) else (some false)) else (some false)
def bU (a0 : Int) (a1 : Int) (a2 : Int) : Option (Bool) :=
  if (decide (a0 ≥ a1)) = true then (some (decide (a0 ≤ a2))) else (some false)
def fT (a0 : Int) : Option (Bool) :=
  (bU a0 (-1048576) 1048576).bind fun x1 => some (!x1)
def dh (a0 : (List Int)) : Int → Option (oP (Int) ((Unit) ⊕ (Int))) := fun s1 =>
  if (decide (s1 < (a0.length : Int))) = true then ((oT a0 s1).bind fun x4 => (fT x4).bind fun x5 => if x5 = true then (some (.stop (.inr s1))) else (some (.next (IntKind.wrap .i64 (s1 + 1))))) else (some (.stop (.inl ())))
def dV (a0 : (List Int)) : Option (Int) :=
  (pJ (dh a0) ib 0).bind fun o8 => match o8 with | .inl _ => (some (-1)) | .inr r10 => (some r10)
def df (a0 : (List Int)) : Option (Bool) :=
  (dV a0).bind fun x1 => some (decide (x1 ≥ 0))
def de (a0 : (List Int)) : Option (Bool) :=
  (df a0).bind fun x1 => some (!x1)
def iG (a0 : (List Int)) : (Int × Int) → Option (oP (Int × Int) (Int)) := fun (s1, s2) =>
  if (decide (s2 < (a0.length : Int))) = true then ((oT a0 s2).bind fun x6 => some (.next ((IntKind.wrap .i64 (s1 + x6)), (IntKind.wrap .i64 (s2 + 1))))) else (some (.stop s1))
def gg (a0 : (List Int)) : Option (Int) :=
  (pJ (iG a0) ib (0, 0)).bind fun o8 => some o8
def fR (a0 : aB) : Option (Bool) :=
  if ((a0.cN.length : Int) == 0) = true then (if (a0.co == 0) = true then (if (a0.ep == 0) = true then (if (a0.cM == 0) = true then (if ((a0.bj.a0 == a0.bj.a0) && ((a0.bj.a1 == 0) && ((a0.bj.a2 == 0) && true))) = true then (if ((a0.bh.a0 == a0.bh.a0) && ((a0.bh.a1 == 0) && ((a0.bh.a2 == 0) && true))) = true then ((bU a0.bj.a0 1 1048576).bind fun x7 => if x7 = true then ((bU a0.bh.a0 1 1048576).bind fun x9 => some x9) else (some false)) else (some false)) else (some false)) else (some false)) else (if (a0.ep == 1) = true then (if (a0.cM == 0) = true then ((de [a0.bj.a0, a0.bj.a1, a0.bj.a2]).bind fun x12 => if x12 = true then ((de [a0.bh.a0, a0.bh.a1, a0.bh.a2]).bind fun x14 => if x14 = true then (some (a0.bh.a0 != 0)) else (some false)) else (some false)) else (some false)) else (if (a0.ep == 2) = true then (if ((a0.bj.a0 == 0) && ((a0.bj.a1 == 0) && ((a0.bj.a2 == 0) && true))) = true then (if ((a0.bh.a0 == 0) && ((a0.bh.a1 == 0) && ((a0.bh.a2 == 0) && true))) = true then ((bU (a0.cN.length : Int) 1 128).bind fun x19 => if x19 = true then ((de a0.cN).bind fun x21 => if x21 = true then ((gg a0.cN).bind fun x23 => if (x23 != 0) = true then ((bU a0.co 1 64).bind fun x25 => if x25 = true then ((bU a0.cM 0 40).bind fun x27 => some x27) else (some false)) else (some false)) else (some false)) else (some false)) else (some false)) else (some false)) else (some false)))) else (if (a0.ep == 0) = true then (some false) else (if (a0.ep == 1) = true then (some false) else (if (a0.ep == 2) = true then (if ((a0.bj.a0 == 0) && ((a0.bj.a1 == 0) && ((a0.bj.a2 == 0) && true))) = true then (if ((a0.bh.a0 == 0) && ((a0.bh.a1 == 0) && ((a0.bh.a2 == 0) && true))) = true then ((bU (a0.cN.length : Int) 1 128).bind fun x33 => if x33 = true then ((de a0.cN).bind fun x35 => if x35 = true then ((gg a0.cN).bind fun x37 => if (x37 != 0) = true then ((bU a0.co 1 64).bind fun x39 => if x39 = true then ((bU a0.cM 0 40).bind fun x41 => some x41) else (some false)) else (some false)) else (some false)) else (some false)) else (some false)) else (some false)) else (some false))))) else (if (a0.ep == 0) = true then (some false) else (if (a0.ep == 1) = true then (some false) else (if (a0.ep == 2) = true then (if ((a0.bj.a0 == 0) && ((a0.bj.a1 == 0) && ((a0.bj.a2 == 0) && true))) = true then (if ((a0.bh.a0 == 0) && ((a0.bh.a1 == 0) && ((a0.bh.a2 == 0) && true))) = true then ((bU (a0.cN.length : Int) 1 128).bind fun x47 => if x47 = true then ((de a0.cN).bind fun x49 => if x49 = true then ((gg a0.cN).bind fun x51 => if (x51 != 0) = true then ((bU a0.co 1 64).bind fun x53 => if x53 = true then ((bU a0.cM 0 40).bind fun x55 => some x55) else (some false)) else (some false)) else (some false)) else (some false)) else (some false)) else (some false)) else (some false))))
def fS (a0 : aB) : Option (Bool) :=
  (fR a0).bind fun x1 => some (!x1)
def cU (a0 : (List aB)) : Int → Option (oP (Int) ((Unit) ⊕ (Int))) := fun s1 =>
  if (decide (s1 < (a0.length : Int))) = true then ((oT a0 s1).bind fun x4 => (fS x4).bind fun x5 => if x5 = true then (some (.stop (.inr s1))) else (some (.next (IntKind.wrap .i64 (s1 + 1))))) else (some (.stop (.inl ())))
def dF (a0 : (List aB)) : Option (Int) :=
  (pJ (cU a0) ib 0).bind fun o8 => match o8 with | .inl _ => (some (-1)) | .inr r10 => (some r10)
def cS (a0 : (List aB)) : Option (Bool) :=
  (dF a0).bind fun x1 => some (decide (x1 ≥ 0))
def gf (a0 : (List aB)) : (Int × Int) → Option (oP (Int × Int) ((Int) ⊕ (Int))) := fun (s1, s2) =>
  if (decide (s2 < (a0.length : Int))) = true then ((oT a0 s2).bind fun x6 => if (x6.ep != 2) = true then (some (.next (s1, (IntKind.wrap .i64 (s2 + 1))))) else (if (decide ((IntKind.wrap .i64 (s1 * x6.co)) > 64)) = true then (some (.stop (.inr 0))) else (some (.next ((IntKind.wrap .i64 (s1 * x6.co)), (IntKind.wrap .i64 (s2 + 1))))))) else (some (.stop (.inl s1)))
def iF (a0 : (List aB)) : Option (Int) :=
  (pJ (gf a0) ib (1, 0)).bind fun o10 => match o10 with | .inl y11 => (some y11) | .inr r12 => (some r12)
def jc (a0 : aM) : Option (Bool) :=
  if (decide ((a0.bo.length : Int) > 8)) = true then (some false) else ((cS a0.bo).bind fun x2 => if x2 = true then (some false) else ((iF a0.bo).bind fun x4 => some (decide (x4 > 0))))
def e7 (a0 : Int) (a1 : Int) (a2 : Int) : Option (Bool) :=
  if (decide (a0 ≥ a1)) = true then (some (decide (a0 ≤ a2))) else (some false)
def fq (a0 : al) : Option (Bool) :=
  if (decide (a0.bB ≥ 0)) = true then (if (decide (a0.bB < a0.fTo)) = true then (if (decide (a0.fTo ≤ 9007199254740992)) = true then ((lX a0.cf).bind fun x4 => if x4 = true then ((jc a0.bi).bind fun x6 => if x6 = true then ((e7 a0.aS.fX (-1048576) 1048576).bind fun x8 => if x8 = true then ((e7 a0.aS.fY (-1048576) 1048576).bind fun x10 => if x10 = true then ((e7 a0.aS.fZ (-16384) 1048576).bind fun x12 => some x12) else (some false)) else (some false)) else (some false)) else (some false)) else (some false)) else (some false)) else (some false)
def fu (a0 : (List al)) : Int → Option (oP (Int) ((Unit) ⊕ (Bool))) := fun s1 =>
  if (decide (s1 < (a0.length : Int))) = true then ((oT a0 s1).bind fun x4 => (fq x4).bind fun x5 => if (!x5) = true then (some (.stop (.inr false))) else (if (decide (s1 > 0)) = true then ((oT a0 (IntKind.wrap .i64 (s1 - 1))).bind fun x8 => if (decide (x4.bB < x8.fTo)) = true then (some (.stop (.inr false))) else (some (.next (IntKind.wrap .i64 (s1 + 1))))) else (some (.next (IntKind.wrap .i64 (s1 + 1)))))) else (some (.stop (.inl ())))
def hC (a0 : (List al)) : Option (Bool) :=
  (pJ (fu a0) ib 0).bind fun o11 => match o11 with | .inl _ => ((e7 (a0.length : Int) 1 32).bind fun x14 => some x14) | .inr r13 => (some r13)
def fk (a0 : (List UInt8)) : Option (Bool) :=
  some (!(a0 == a0))
def cA (a0 : (List UInt8)) (a1 : (List UInt8)) : Option (Int) :=
  (fk a0).bind fun x1 => (fk a1).bind fun x2 => if x1 = true then (if x2 = true then (some 0) else (some (-1))) else (if x2 = true then (some 1) else (if (Op.bytesLess a0 a1) = true then (some (-1)) else (if (!(Op.bytesLess a0 a1 || a0 == a1)) = true then (some 1) else (some 0))))
def jH (a0 : (List Int)) : Int → Option (oP (Int) ((Unit) ⊕ (Int))) := fun s1 =>
  if (decide (s1 < (a0.length : Int))) = true then ((oT a0 s1).bind fun x4 => if (x4 != 0) = true then (some (.stop (.inr x4))) else (some (.next (IntKind.wrap .i64 (s1 + 1))))) else (some (.stop (.inl ())))
def lN (a0 : (List Int)) : Option (Int) :=
  (pJ (jH a0) ib 0).bind fun o7 => match o7 with | .inl _ => (some 0) | .inr r9 => (some r9)
def jf (a0 : aJ) (a1 : aJ) : Option (Int) :=
  (cA a0.aV a1.aV).bind fun x1 => (cA a0.aL a1.aL).bind fun x2 => (cA a0.ar a1.ar).bind fun x3 => (cA a0.aX a1.aX).bind fun x4 => (lN [x1, x2, x3, x4]).bind fun x5 => some x5
def fQ (a0 : aC) : Int → Option (oP (Int) ((Unit) ⊕ (Bool))) := fun s1 =>
  if (decide (s1 < (a0.aO.length : Int))) = true then ((oT a0.aO s1).bind fun x4 => (iJ x4.aH).bind fun x5 => if (!x5) = true then (some (.stop (.inr false))) else ((hC x4.ba).bind fun x7 => if (!x7) = true then (some (.stop (.inr false))) else (if (decide (s1 > 0)) = true then ((oT a0.aO (IntKind.wrap .i64 (s1 - 1))).bind fun x10 => (jf x10.aH x4.aH).bind fun x11 => if (decide (x11 ≥ 0)) = true then (some (.stop (.inr false))) else (some (.next (IntKind.wrap .i64 (s1 + 1))))) else (some (.next (IntKind.wrap .i64 (s1 + 1))))))) else (some (.stop (.inl ())))
def ix (a0 : aC) : Option (Bool) :=
  (pJ (fQ a0) ib 0).bind fun o14 => match o14 with | .inl _ => (some (decide ((a0.aO.length : Int) ≤ 128))) | .inr r16 => (some r16)
def k9 (a0 : Int) (a1 : Int) (a2 : Int) : Option (Bool) :=
  if (decide (a0 ≥ a1)) = true then (some (decide (a0 ≤ a2))) else (some false)
def hF (a0 : aq) : Option (Bool) :=
  (iJ a0.aH).bind fun x1 => if x1 = true then (if (decide (a0.bw ≥ 0)) = true then (if (decide (a0.bw ≤ a0.a8)) = true then (if (decide (a0.a8 ≤ a0.bO)) = true then (if (decide (a0.bO ≤ 18014398509481984)) = true then ((k9 a0.bp 0 1073741823).bind fun x7 => if x7 = true then ((k9 a0.bI (-1) 1).bind fun x9 => some x9) else (some false)) else (some false)) else (some false)) else (some false)) else (some false)) else (some false)
def eu (x1 : (List aB)) : (Int × (List aB)) → Option (oP (Int × (List aB)) ((List aB))) := fun (s2, s3) =>
  if (decide (s2 < (x1.length : Int))) = true then ((inO s3 s2).bind fun _ => (oT s3 s2).bind fun x9 => (p9 8 x9.cN).bind fun x10 => (inO s3 s2).bind fun _ => (w2 s3 s2 (fun (z14 : aB) => (aB.mk z14.ep z14.bj z14.bh x10 z14.co z14.cM))).bind fun x13 => some (.next ((IntKind.wrap .i64 (s2 + 1)), x13))) else (some (.stop s3))
def fP (a0 : al) : Option (al) :=
  (p9 96 a0.bi.bo).bind fun x1 => (pJ (eu x1) ib (0, x1)).bind fun o16 => some (al.mk a0.bB a0.fTo a0.cf a0.aS (aM.mk o16))
def fr (x1 : (List al)) : (Int × (List al)) → Option (oP (Int × (List al)) ((List al))) := fun (s2, s3) =>
  if (decide (s2 < (x1.length : Int))) = true then ((inO s3 s2).bind fun _ => (oT s3 s2).bind fun x9 => (fP x9).bind fun x10 => (inO s3 s2).bind fun _ => (tg s3 s2 x10).bind fun x13 => some (.next ((IntKind.wrap .i64 (s2 + 1)), x13))) else (some (.stop s3))
def gZ (a0 : ap) : Option (ap) :=
  (p9 80 a0.ba).bind fun x1 => (pJ (fr x1) ib (0, x1)).bind fun o15 => some (ap.mk a0.aH o15)
def gC (a0 : aC) (a1 : aJ) : Int → Option (oP (Int) ((Unit) ⊕ (ap × Bool))) := fun s1 =>
  if (decide (s1 < (a0.aO.length : Int))) = true then ((oT a0.aO s1).bind fun x4 => if ((x4.aH.aV == a1.aV) && ((x4.aH.aL == a1.aL) && ((x4.aH.ar == a1.ar) && ((x4.aH.aX == a1.aX) && true)))) = true then ((gZ x4).bind fun x6 => some (.stop (.inr (x6, true)))) else (some (.next (IntKind.wrap .i64 (s1 + 1))))) else (some (.stop (.inl ())))
def iT (a0 : aC) (a1 : aJ) : Option (ap × Bool) :=
  (pJ (gC a0 a1) ib 0).bind fun o8 => match o8 with | .inl _ => (some ((ap.mk (aJ.mk [] [] [] []) []), false)) | .inr r10 => (some r10)
def iy (a0 : ap) (a1 : Int) : Int → Option (oP (Int) ((Unit) ⊕ (al × Bool))) := fun s1 =>
  if (decide (s1 < (a0.ba.length : Int))) = true then ((oT a0.ba s1).bind fun x4 => if (decide (x4.bB ≤ a1)) = true then (if (decide (a1 < x4.fTo)) = true then (some (.stop (.inr (x4, true)))) else (some (.next (IntKind.wrap .i64 (s1 + 1))))) else (some (.next (IntKind.wrap .i64 (s1 + 1))))) else (some (.stop (.inl ())))
def kA (a0 : ap) (a1 : Int) : Option (al × Bool) :=
  (pJ (iy a0 a1) ib 0).bind fun o8 => match o8 with | .inl _ => (some ((al.mk 0 0 (bg.mk 0 0) (aa.mk 0 0 0) (aM.mk [])), false)) | .inr r10 => (some r10)
def ku (a0 : aC) (a1 : aJ) (a2 : Int) : Option (al × Int) :=
  (ix a0).bind fun x1 => if (!x1) = true then (some ((al.mk 0 0 (bg.mk 0 0) (aa.mk 0 0 0) (aM.mk [])), 1)) else ((iT a0 a1).bind fun x3 => (kA x3.1 a2).bind fun x4 => if (!x4.2) = true then (some ((al.mk 0 0 (bg.mk 0 0) (aa.mk 0 0 0) (aM.mk [])), 6)) else (some (x4.1, 0)))
def jP (a0 : aG) (a1 : aC) (a2 : aq) : Option (av × al × Bool) :=
  (hF a2).bind fun x1 => if (!x1) = true then (some ((av.mk (aa.mk 0 0 0) 0 0 0), (al.mk 0 0 (bg.mk 0 0) (aa.mk 0 0 0) (aM.mk [])), false)) else ((ku a1 a2.aH a2.a8).bind fun x3 => if (x3.2 != 0) = true then (some ((av.mk (aa.mk 0 0 0) 0 0 0), (al.mk 0 0 (bg.mk 0 0) (aa.mk 0 0 0) (aM.mk [])), false)) else ((lL a0.ag.az a0.ag.ac (av.mk x3.1.aS a2.bw a2.bO 1)).bind fun x5 => if (x5.2 != 0) = true then (some ((av.mk (aa.mk 0 0 0) 0 0 0), (al.mk 0 0 (bg.mk 0 0) (aa.mk 0 0 0) (aM.mk [])), false)) else (some ((av.mk x3.1.aS a2.bw a2.bO 1), x3.1, true))))
theorem keep_New_le (a0 : (List Int)) : Le (nT a0) (iz a0) := by
  unfold nT iz; repeat' (first | with_reducible exact Le.refl _ | with_reducible refine Le.bind ?_ (fun _ => ?_) | with_reducible refine Le.ite ?_ ?_ | with_reducible refine Le.loop (fun _ => ?_) _ _ | with_reducible refine Le.e8 (fun _ => ?_) _ | (split <;> dsimp only))
theorem Src_Raw_le (d0 : aj) : Le (Src_Raw_c d0) (m7 d0) := by
  unfold Src_Raw_c m7; repeat' (first | with_reducible exact Le.refl _ | with_reducible refine Le.bind ?_ (fun _ => ?_) | with_reducible refine Le.ite ?_ ?_ | with_reducible refine Le.loop (fun _ => ?_) _ _ | with_reducible refine Le.e8 (fun _ => ?_) _ | (split <;> dsimp only))
theorem keep_Mod_le (a0 : Int) (a1 : Int) : Le (lS a0 a1) (jt a0 a1) := by
  unfold lS jt; repeat' (first | with_reducible exact Le.refl _ | with_reducible refine Le.bind ?_ (fun _ => ?_) | with_reducible refine Le.ite ?_ ?_ | with_reducible refine Le.loop (fun _ => ?_) _ _ | with_reducible refine Le.e8 (fun _ => ?_) _ | (split <;> dsimp only))
theorem gE (a1 : Int) (d0 : aj) : Le (cm a1 d0) (cr a1 d0) := by
  unfold cm cr; repeat' (first | with_reducible exact Src_Raw_le _ | with_reducible exact keep_Mod_le _ _ | with_reducible exact Le.refl _ | with_reducible refine Le.bind ?_ (fun _ => ?_) | with_reducible refine Le.ite ?_ ?_ | with_reducible refine Le.loop (fun _ => ?_) _ _ | with_reducible refine Le.e8 (fun _ => ?_) _ | (split <;> dsimp only))
theorem oe (a1 : Int) (d0 : aj) : Le (jq a1 d0) (gj a1 d0) := by
  unfold jq gj; repeat' (first | with_reducible exact gE _ _ | with_reducible exact Le.refl _ | with_reducible refine Le.bind ?_ (fun _ => ?_) | with_reducible refine Le.ite ?_ ?_ | with_reducible refine Le.loop (fun _ => ?_) _ _ | with_reducible refine Le.e8 (fun _ => ?_) _ | (split <;> dsimp only))
theorem Src_Box_le (a1 : Int) (a2 : Int) (d0 : aj) : Le (Src_Box_c a1 a2 d0) (kT a1 a2 d0) := by
  unfold Src_Box_c kT; repeat' (first | with_reducible exact oe _ _ | with_reducible exact gE _ _ | with_reducible exact Le.refl _ | with_reducible refine Le.bind ?_ (fun _ => ?_) | with_reducible refine Le.ite ?_ ?_ | with_reducible refine Le.loop (fun _ => ?_) _ _ | with_reducible refine Le.e8 (fun _ => ?_) _ | (split <;> dsimp only))
theorem jp (a1 : (List Int)) (d0 : aj) : Le (dH a1 d0) (dJ a1 d0) := by
  unfold dH dJ; repeat' (first | with_reducible exact gE _ _ | with_reducible exact Le.refl _ | with_reducible refine Le.bind ?_ (fun _ => ?_) | with_reducible refine Le.ite ?_ ?_ | with_reducible refine Le.loop (fun _ => ?_) _ _ | with_reducible refine Le.e8 (fun _ => ?_) _ | (split <;> dsimp only))
theorem Src_Table_l23_le (x1 : Int × aj) (s : _) : Le (jF x1 s) (fJ x1 s) := by
  unfold jF fJ; (try dsimp only); repeat' (first | with_reducible exact gE _ _ | with_reducible exact jp _ _ | with_reducible exact Le.refl _ | with_reducible refine Le.bind ?_ (fun _ => ?_) | with_reducible refine Le.ite ?_ ?_ | with_reducible refine Le.loop (fun _ => ?_) _ _ | with_reducible refine Le.e8 (fun _ => ?_) _ | (split <;> dsimp only))
theorem oi (d0 : aj) : Le (kU d0) (gl d0) := by
  unfold kU gl; repeat' (first | with_reducible exact jp _ _ | with_reducible exact gE _ _ | with_reducible exact Src_Table_l23_le _ _ | with_reducible exact Le.refl _ | with_reducible refine Le.bind ?_ (fun _ => ?_) | with_reducible refine Le.ite ?_ ?_ | with_reducible refine Le.loop (fun _ => ?_) _ _ | with_reducible refine Le.e8 (fun _ => ?_) _ | (split <;> dsimp only))
theorem nL (a1 : Int) (d0 : aj) : Le (ip a1 d0) (c9 a1 d0) := by
  unfold ip c9; repeat' (first | with_reducible exact Src_Box_le _ _ _ | with_reducible exact oi _ | with_reducible exact jp _ _ | with_reducible exact gE _ _ | with_reducible exact Le.refl _ | with_reducible refine Le.bind ?_ (fun _ => ?_) | with_reducible refine Le.ite ?_ ?_ | with_reducible refine Le.loop (fun _ => ?_) _ _ | with_reducible refine Le.e8 (fun _ => ?_) _ | (split <;> dsimp only))
theorem Src_Scale_l25_le (x1 : aK × aj) (s : _) : Le (jC x1 s) (gF x1 s) := by
  unfold jC gF; (try dsimp only); repeat' (first | with_reducible exact Le.refl _ | with_reducible refine Le.bind ?_ (fun _ => ?_) | with_reducible refine Le.ite ?_ ?_ | with_reducible refine Le.loop (fun _ => ?_) _ _ | with_reducible refine Le.e8 (fun _ => ?_) _ | (split <;> dsimp only))
theorem Src_Scale_le (d0 : aj) : Le (mq d0) (ia d0) := by
  unfold mq ia; repeat' (first | with_reducible exact oi _ | with_reducible exact gE _ _ | with_reducible exact Src_Scale_l25_le _ _ | with_reducible exact Le.refl _ | with_reducible refine Le.bind ?_ (fun _ => ?_) | with_reducible refine Le.ite ?_ ?_ | with_reducible refine Le.loop (fun _ => ?_) _ _ | with_reducible refine Le.e8 (fun _ => ?_) _ | (split <;> dsimp only))
theorem Src_Settings_le (a1 : Int) (d0 : aj) : Le (kl a1 d0) (cK a1 d0) := by
  unfold kl cK; repeat' (first | with_reducible exact nL _ _ | with_reducible exact Src_Scale_le _ | with_reducible exact jp _ _ | with_reducible exact Le.refl _ | with_reducible refine Le.bind ?_ (fun _ => ?_) | with_reducible refine Le.ite ?_ ?_ | with_reducible refine Le.loop (fun _ => ?_) _ _ | with_reducible refine Le.e8 (fun _ => ?_) _ | (split <;> dsimp only))
theorem nl  (s : _) : Le (gW  s) (eV  s) := by
  unfold gW eV; (try dsimp only); repeat' (first | with_reducible exact gE _ _ | with_reducible exact jp _ _ | with_reducible exact Le.refl _ | with_reducible refine Le.bind ?_ (fun _ => ?_) | with_reducible refine Le.ite ?_ ?_ | with_reducible refine Le.loop (fun _ => ?_) _ _ | with_reducible refine Le.e8 (fun _ => ?_) _ | (split <;> dsimp only))
theorem Src_Response_le (d0 : aj) : Le (iq d0) (dj d0) := by
  unfold iq dj; repeat' (first | with_reducible exact gE _ _ | with_reducible exact nl _ | with_reducible exact Le.refl _ | with_reducible refine Le.bind ?_ (fun _ => ?_) | with_reducible refine Le.ite ?_ ?_ | with_reducible refine Le.loop (fun _ => ?_) _ _ | with_reducible refine Le.e8 (fun _ => ?_) _ | (split <;> dsimp only))
theorem mJ (a0 : Int) : Le (jl a0) (dw a0) := by
  unfold jl dw; repeat' (first | with_reducible exact keep_Mod_le _ _ | with_reducible exact Le.refl _ | with_reducible refine Le.bind ?_ (fun _ => ?_) | with_reducible refine Le.ite ?_ ?_ | with_reducible refine Le.loop (fun _ => ?_) _ _ | with_reducible refine Le.e8 (fun _ => ?_) _ | (split <;> dsimp only))
theorem Src_Sites_l33_le (a1 : Int) (s : _) : Le (jE a1 s) (gG a1 s) := by
  unfold jE gG; (try dsimp only); repeat' (first | with_reducible exact oe _ _ | with_reducible exact Src_Response_le _ | with_reducible exact mJ _ | with_reducible exact gE _ _ | with_reducible exact Le.refl _ | with_reducible refine Le.bind ?_ (fun _ => ?_) | with_reducible refine Le.ite ?_ ?_ | with_reducible refine Le.loop (fun _ => ?_) _ _ | with_reducible refine Le.e8 (fun _ => ?_) _ | (split <;> dsimp only))
theorem Src_Sites_le (a1 : Int) (d0 : aj) : Le (mr a1 d0) (eW a1 d0) := by
  unfold mr eW; repeat' (first | with_reducible exact Src_Sites_l33_le _ _ | with_reducible exact Le.refl _ | with_reducible refine Le.bind ?_ (fun _ => ?_) | with_reducible refine Le.ite ?_ ?_ | with_reducible refine Le.loop (fun _ => ?_) _ _ | with_reducible refine Le.e8 (fun _ => ?_) _ | (split <;> dsimp only))
theorem iw (a0 : aa) : Le (cu a0) (bq a0) := by
  unfold cu bq; repeat' (first | with_reducible exact Le.refl _ | with_reducible refine Le.bind ?_ (fun _ => ?_) | with_reducible refine Le.ite ?_ ?_ | with_reducible refine Le.loop (fun _ => ?_) _ _ | with_reducible refine Le.e8 (fun _ => ?_) _ | (split <;> dsimp only))
theorem eD (a0 : aa) : Le (cB a0) (bW a0) := by
  unfold cB bW; repeat' (first | with_reducible exact iw _ | with_reducible exact Le.refl _ | with_reducible refine Le.bind ?_ (fun _ => ?_) | with_reducible refine Le.ite ?_ ?_ | with_reducible refine Le.loop (fun _ => ?_) _ _ | with_reducible refine Le.e8 (fun _ => ?_) _ | (split <;> dsimp only))
theorem eC (a0 : ai) : Le (c6 a0) (bu a0) := by
  unfold c6 bu; repeat' (first | with_reducible exact eD _ | with_reducible exact iw _ | with_reducible exact Le.refl _ | with_reducible refine Le.bind ?_ (fun _ => ?_) | with_reducible refine Le.ite ?_ ?_ | with_reducible refine Le.loop (fun _ => ?_) _ _ | with_reducible refine Le.e8 (fun _ => ?_) _ | (split <;> dsimp only))
theorem mb (a0 : aK) (s : _) : Le (fW a0 s) (eU a0 s) := by
  unfold fW eU; (try dsimp only); repeat' (first | with_reducible exact Le.refl _ | with_reducible refine Le.bind ?_ (fun _ => ?_) | with_reducible refine Le.ite ?_ ?_ | with_reducible refine Le.loop (fun _ => ?_) _ _ | with_reducible refine Le.e8 (fun _ => ?_) _ | (split <;> dsimp only))
theorem hZ (a0 : aK) : Le (eO a0) (b7 a0) := by
  unfold eO b7; repeat' (first | with_reducible exact mb _ _ | with_reducible exact Le.refl _ | with_reducible refine Le.bind ?_ (fun _ => ?_) | with_reducible refine Le.ite ?_ ?_ | with_reducible refine Le.loop (fun _ => ?_) _ _ | with_reducible refine Le.e8 (fun _ => ?_) _ | (split <;> dsimp only))
theorem nn (a0 : av) : Le (gY a0) (dZ a0) := by
  unfold gY dZ; repeat' (first | with_reducible exact eD _ | with_reducible exact Le.refl _ | with_reducible refine Le.bind ?_ (fun _ => ?_) | with_reducible refine Le.ite ?_ ?_ | with_reducible refine Le.loop (fun _ => ?_) _ _ | with_reducible refine Le.e8 (fun _ => ?_) _ | (split <;> dsimp only))
theorem nr (a0 : Int) (a1 : Int) (a2 : Int) : Le (eb a0 a1 a2) (cC a0 a1 a2) := by
  unfold eb cC; repeat' (first | with_reducible exact Le.refl _ | with_reducible refine Le.bind ?_ (fun _ => ?_) | with_reducible refine Le.ite ?_ ?_ | with_reducible refine Le.loop (fun _ => ?_) _ _ | with_reducible refine Le.e8 (fun _ => ?_) _ | (split <;> dsimp only))
theorem kP (a0 : ai) (a1 : aa) : Le (eS a0 a1) (cO a0 a1) := by
  unfold eS cO; repeat' (first | with_reducible exact eC _ | with_reducible exact eD _ | with_reducible exact iw _ | with_reducible exact nr _ _ _ | with_reducible exact Le.refl _ | with_reducible refine Le.bind ?_ (fun _ => ?_) | with_reducible refine Le.ite ?_ ?_ | with_reducible refine Le.loop (fun _ => ?_) _ _ | with_reducible refine Le.e8 (fun _ => ?_) _ | (split <;> dsimp only))
theorem geometry_Near_le (a0 : ai) (a1 : aa) : Le (jJ a0 a1) (dl a0 a1) := by
  unfold jJ dl; repeat' (first | with_reducible exact kP _ _ | with_reducible exact Le.refl _ | with_reducible refine Le.bind ?_ (fun _ => ?_) | with_reducible refine Le.ite ?_ ?_ | with_reducible refine Le.loop (fun _ => ?_) _ _ | with_reducible refine Le.e8 (fun _ => ?_) _ | (split <;> dsimp only))
theorem mD (a0 : Int) (a1 : Int) (a2 : Int) : Le (dL a0 a1 a2) (cq a0 a1 a2) := by
  unfold dL cq; repeat' (first | with_reducible exact Le.refl _ | with_reducible refine Le.bind ?_ (fun _ => ?_) | with_reducible refine Le.ite ?_ ?_ | with_reducible refine Le.loop (fun _ => ?_) _ _ | with_reducible refine Le.e8 (fun _ => ?_) _ | (split <;> dsimp only))
theorem ks (a0 : ai) (a1 : aa) : Le (et a0 a1) (cE a0 a1) := by
  unfold et cE; repeat' (first | with_reducible exact eC _ | with_reducible exact eD _ | with_reducible exact iw _ | with_reducible exact mD _ _ _ | with_reducible exact Le.refl _ | with_reducible refine Le.bind ?_ (fun _ => ?_) | with_reducible refine Le.ite ?_ ?_ | with_reducible refine Le.loop (fun _ => ?_) _ _ | with_reducible refine Le.e8 (fun _ => ?_) _ | (split <;> dsimp only))
theorem geometry_Far_le (a0 : ai) (a1 : aa) : Le (kq a0 a1) (eB a0 a1) := by
  unfold kq eB; repeat' (first | with_reducible exact ks _ _ | with_reducible exact Le.refl _ | with_reducible refine Le.bind ?_ (fun _ => ?_) | with_reducible refine Le.ite ?_ ?_ | with_reducible refine Le.loop (fun _ => ?_) _ _ | with_reducible refine Le.e8 (fun _ => ?_) _ | (split <;> dsimp only))
theorem bound_squares_le (a0 : aK) (a1 : ai) (a2 : aa) : Le (jG a0 a1 a2) (gH a0 a1 a2) := by
  unfold jG gH; repeat' (first | with_reducible exact geometry_Near_le _ _ | with_reducible exact geometry_Far_le _ _ | with_reducible exact Le.refl _ | with_reducible refine Le.bind ?_ (fun _ => ?_) | with_reducible refine Le.ite ?_ ?_ | with_reducible refine Le.loop (fun _ => ?_) _ _ | with_reducible refine Le.e8 (fun _ => ?_) _ | (split <;> dsimp only))
theorem bits_Len64_k8_le (j3 : Int) (j4 : Int) : Le (gN j3 j4) (dW j3 j4) := by
  unfold gN dW; repeat' (first | with_reducible exact Le.refl _ | with_reducible refine Le.bind ?_ (fun _ => ?_) | with_reducible refine Le.ite ?_ ?_ | with_reducible refine Le.loop (fun _ => ?_) _ _ | with_reducible refine Le.e8 (fun _ => ?_) _ | (split <;> dsimp only))
theorem om (j1 : Int) (j2 : Int) : Le (gm j1 j2) (dq j1 j2) := by
  unfold gm dq; repeat' (first | with_reducible exact bits_Len64_k8_le _ _ | with_reducible exact Le.refl _ | with_reducible refine Le.bind ?_ (fun _ => ?_) | with_reducible refine Le.ite ?_ ?_ | with_reducible refine Le.loop (fun _ => ?_) _ _ | with_reducible refine Le.e8 (fun _ => ?_) _ | (split <;> dsimp only))
theorem bits_Len64_le (a0 : Int) : Le (lK a0) (iP a0) := by
  unfold lK iP; repeat' (first | with_reducible exact om _ _ | with_reducible exact Le.refl _ | with_reducible refine Le.bind ?_ (fun _ => ?_) | with_reducible refine Le.ite ?_ ?_ | with_reducible refine Le.loop (fun _ => ?_) _ _ | with_reducible refine Le.e8 (fun _ => ?_) _ | (split <;> dsimp only))
theorem mw (a0 : Int) : Le (gX a0) (fD a0) := by
  unfold gX fD; repeat' (first | with_reducible exact bits_Len64_le _ | with_reducible exact Le.refl _ | with_reducible refine Le.bind ?_ (fun _ => ?_) | with_reducible refine Le.ite ?_ ?_ | with_reducible refine Le.loop (fun _ => ?_) _ _ | with_reducible refine Le.e8 (fun _ => ?_) _ | (split <;> dsimp only))
theorem mn (a0 : Int) (s : _) : Le (f9 a0 s) (ea a0 s) := by
  unfold f9 ea; (try dsimp only); repeat' (first | with_reducible exact Le.refl _ | with_reducible refine Le.bind ?_ (fun _ => ?_) | with_reducible refine Le.ite ?_ ?_ | with_reducible refine Le.loop (fun _ => ?_) _ _ | with_reducible refine Le.e8 (fun _ => ?_) _ | (split <;> dsimp only))
theorem kX (a0 : Int) : Le (gq a0) (d9 a0) := by
  unfold gq d9; repeat' (first | with_reducible exact mw _ | with_reducible exact mn _ _ | with_reducible exact Le.refl _ | with_reducible refine Le.bind ?_ (fun _ => ?_) | with_reducible refine Le.ite ?_ ?_ | with_reducible refine Le.loop (fun _ => ?_) _ _ | with_reducible refine Le.e8 (fun _ => ?_) _ | (split <;> dsimp only))
theorem geometry_Ceil_le (a0 : Int) : Le (jI a0) (fK a0) := by
  unfold jI fK; repeat' (first | with_reducible exact kX _ | with_reducible exact Le.refl _ | with_reducible refine Le.bind ?_ (fun _ => ?_) | with_reducible refine Le.ite ?_ ?_ | with_reducible refine Le.loop (fun _ => ?_) _ _ | with_reducible refine Le.e8 (fun _ => ?_) _ | (split <;> dsimp only))
theorem travel_reach_le (a0 : aK) : Le (kN a0) (iK a0) := by
  unfold kN iK; repeat' (first | with_reducible exact Le.refl _ | with_reducible refine Le.bind ?_ (fun _ => ?_) | with_reducible refine Le.ite ?_ ?_ | with_reducible refine Le.loop (fun _ => ?_) _ _ | with_reducible refine Le.e8 (fun _ => ?_) _ | (split <;> dsimp only))
theorem ma (a0 : Int) (d0 : aK) (d1 : Int) : Le (fV a0 d0 d1) (dR a0 d0 d1) := by
  unfold fV dR; repeat' (first | with_reducible exact Le.refl _ | with_reducible refine Le.bind ?_ (fun _ => ?_) | with_reducible refine Le.ite ?_ ?_ | with_reducible refine Le.loop (fun _ => ?_) _ _ | with_reducible refine Le.e8 (fun _ => ?_) _ | (split <;> dsimp only))
theorem l8 (d0 : aK) (d1 : Int) (s : _) : Le (fU d0 d1 s) (eT d0 d1 s) := by
  unfold fU eT; (try dsimp only); repeat' (first | with_reducible exact ma _ _ _ | with_reducible exact Le.refl _ | with_reducible refine Le.bind ?_ (fun _ => ?_) | with_reducible refine Le.ite ?_ ?_ | with_reducible refine Le.loop (fun _ => ?_) _ _ | with_reducible refine Le.e8 (fun _ => ?_) _ | (split <;> dsimp only))
theorem nG (a0 : Int) (d0 : aK) (d1 : Int) : Le (hX a0 d0 d1) (d7 a0 d0 d1) := by
  unfold hX d7; repeat' (first | with_reducible exact l8 _ _ _ | with_reducible exact Le.refl _ | with_reducible refine Le.bind ?_ (fun _ => ?_) | with_reducible refine Le.ite ?_ ?_ | with_reducible refine Le.loop (fun _ => ?_) _ _ | with_reducible refine Le.e8 (fun _ => ?_) _ | (split <;> dsimp only))
theorem oN (a0 : aK) (a1 : Int) (a2 : Int) : Le (ji a0 a1 a2) (ei a0 a1 a2) := by
  unfold ji ei; repeat' (first | with_reducible exact hZ _ | with_reducible exact geometry_Ceil_le _ | with_reducible exact travel_reach_le _ | with_reducible exact nG _ _ _ | with_reducible exact kX _ | with_reducible exact Le.refl _ | with_reducible refine Le.bind ?_ (fun _ => ?_) | with_reducible refine Le.ite ?_ ?_ | with_reducible refine Le.loop (fun _ => ?_) _ _ | with_reducible refine Le.e8 (fun _ => ?_) _ | (split <;> dsimp only))
theorem oq (a0 : aK) (a1 : ai) (a2 : aa) : Le (iQ a0 a1 a2) (f7 a0 a1 a2) := by
  unfold iQ f7; repeat' (first | with_reducible exact hZ _ | with_reducible exact eC _ | with_reducible exact eD _ | with_reducible exact bound_squares_le _ _ _ | with_reducible exact oN _ _ _ | with_reducible exact Le.refl _ | with_reducible refine Le.bind ?_ (fun _ => ?_) | with_reducible refine Le.ite ?_ ?_ | with_reducible refine Le.loop (fun _ => ?_) _ _ | with_reducible refine Le.e8 (fun _ => ?_) _ | (split <;> dsimp only))
theorem bound_Zone_le (a0 : aK) (a1 : ai) (a2 : av) : Le (lL a0 a1 a2) (dI a0 a1 a2) := by
  unfold lL dI; repeat' (first | with_reducible exact hZ _ | with_reducible exact eC _ | with_reducible exact nn _ | with_reducible exact oq _ _ _ | with_reducible exact Le.refl _ | with_reducible refine Le.bind ?_ (fun _ => ?_) | with_reducible refine Le.ite ?_ ?_ | with_reducible refine Le.loop (fun _ => ?_) _ _ | with_reducible refine Le.e8 (fun _ => ?_) _ | (split <;> dsimp only))
theorem source_plain_le (a0 : Int) : Le (kM a0) (gz a0) := by
  unfold kM gz; repeat' (first | with_reducible exact Le.refl _ | with_reducible refine Le.bind ?_ (fun _ => ?_) | with_reducible refine Le.ite ?_ ?_ | with_reducible refine Le.loop (fun _ => ?_) _ _ | with_reducible refine Le.e8 (fun _ => ?_) _ | (split <;> dsimp only))
theorem oM (a0 : (List UInt8)) (s : _) : Le (jg a0 s) (fg a0 s) := by
  unfold jg fg; (try dsimp only); repeat' (first | with_reducible exact source_plain_le _ | with_reducible exact Le.refl _ | with_reducible refine Le.bind ?_ (fun _ => ?_) | with_reducible refine Le.ite ?_ ?_ | with_reducible refine Le.loop (fun _ => ?_) _ _ | with_reducible refine Le.e8 (fun _ => ?_) _ | (split <;> dsimp only))
theorem source_code_le (a0 : (List UInt8)) (a1 : Int) (a2 : Int) : Le (fO a0 a1 a2) (eN a0 a1 a2) := by
  unfold fO eN; repeat' (first | with_reducible exact oM _ _ | with_reducible exact Le.refl _ | with_reducible refine Le.bind ?_ (fun _ => ?_) | with_reducible refine Le.ite ?_ ?_ | with_reducible refine Le.loop (fun _ => ?_) _ _ | with_reducible refine Le.e8 (fun _ => ?_) _ | (split <;> dsimp only))
theorem mi (a0 : aJ) : Le (iJ a0) (fB a0) := by
  unfold iJ fB; repeat' (first | with_reducible exact source_code_le _ _ _ | with_reducible exact Le.refl _ | with_reducible refine Le.bind ?_ (fun _ => ?_) | with_reducible refine Le.ite ?_ ?_ | with_reducible refine Le.loop (fun _ => ?_) _ _ | with_reducible refine Le.e8 (fun _ => ?_) _ | (split <;> dsimp only))
theorem rate_in_le (a0 : Int) (a1 : Int) (a2 : Int) : Le (nk a0 a1 a2) (nj a0 a1 a2) := by
  unfold nk nj; repeat' (first | with_reducible exact Le.refl _ | with_reducible refine Le.bind ?_ (fun _ => ?_) | with_reducible refine Le.ite ?_ ?_ | with_reducible refine Le.loop (fun _ => ?_) _ _ | with_reducible refine Le.e8 (fun _ => ?_) _ | (split <;> dsimp only))
theorem rate_gcd_l7_le  (s : _) : Le (lr  s) (mW  s) := by
  unfold lr mW; (try dsimp only); repeat' (first | with_reducible exact Le.refl _ | with_reducible refine Le.bind ?_ (fun _ => ?_) | with_reducible refine Le.ite ?_ ?_ | with_reducible refine Le.loop (fun _ => ?_) _ _ | with_reducible refine Le.e8 (fun _ => ?_) _ | (split <;> dsimp only))
theorem rate_gcd_le (a0 : Int) (a1 : Int) : Le (nZ a0 a1) (mV a0 a1) := by
  unfold nZ mV; repeat' (first | with_reducible exact rate_gcd_l7_le _ | with_reducible exact Le.refl _ | with_reducible refine Le.bind ?_ (fun _ => ?_) | with_reducible refine Le.ite ?_ ?_ | with_reducible refine Le.loop (fun _ => ?_) _ _ | with_reducible refine Le.e8 (fun _ => ?_) _ | (split <;> dsimp only))
theorem rate_Valid_le (a0 : bg) : Le (lX a0) (ja a0) := by
  unfold lX ja; repeat' (first | with_reducible exact rate_in_le _ _ _ | with_reducible exact rate_gcd_le _ _ | with_reducible exact Le.refl _ | with_reducible refine Le.bind ?_ (fun _ => ?_) | with_reducible refine Le.ite ?_ ?_ | with_reducible refine Le.loop (fun _ => ?_) _ _ | with_reducible refine Le.e8 (fun _ => ?_) _ | (split <;> dsimp only))
theorem mX (a0 : Int) (a1 : Int) (a2 : Int) : Le (bU a0 a1 a2) (bK a0 a1 a2) := by
  unfold bU bK; repeat' (first | with_reducible exact Le.refl _ | with_reducible refine Le.bind ?_ (fun _ => ?_) | with_reducible refine Le.ite ?_ ?_ | with_reducible refine Le.loop (fun _ => ?_) _ _ | with_reducible refine Le.e8 (fun _ => ?_) _ | (split <;> dsimp only))
theorem l5 (a0 : Int) : Le (fT a0) (dO a0) := by
  unfold fT dO; repeat' (first | with_reducible exact mX _ _ _ | with_reducible exact Le.refl _ | with_reducible refine Le.bind ?_ (fun _ => ?_) | with_reducible refine Le.ite ?_ ?_ | with_reducible refine Le.loop (fun _ => ?_) _ _ | with_reducible refine Le.e8 (fun _ => ?_) _ | (split <;> dsimp only))
theorem iN (a0 : (List Int)) (s : _) : Le (dh a0 s) (bZ a0 s) := by
  unfold dh bZ; (try dsimp only); repeat' (first | with_reducible exact l5 _ | with_reducible exact Le.refl _ | with_reducible refine Le.bind ?_ (fun _ => ?_) | with_reducible refine Le.ite ?_ ?_ | with_reducible refine Le.loop (fun _ => ?_) _ _ | with_reducible refine Le.e8 (fun _ => ?_) _ | (split <;> dsimp only))
theorem jN (a0 : (List Int)) : Le (dV a0) (cn a0) := by
  unfold dV cn; repeat' (first | with_reducible exact iN _ _ | with_reducible exact Le.refl _ | with_reducible refine Le.bind ?_ (fun _ => ?_) | with_reducible refine Le.ite ?_ ?_ | with_reducible refine Le.loop (fun _ => ?_) _ _ | with_reducible refine Le.e8 (fun _ => ?_) _ | (split <;> dsimp only))
theorem iM (a0 : (List Int)) : Le (df a0) (bY a0) := by
  unfold df bY; repeat' (first | with_reducible exact jN _ | with_reducible exact Le.refl _ | with_reducible refine Le.bind ?_ (fun _ => ?_) | with_reducible refine Le.ite ?_ ?_ | with_reducible refine Le.loop (fun _ => ?_) _ _ | with_reducible refine Le.e8 (fun _ => ?_) _ | (split <;> dsimp only))
theorem oJ (a0 : (List Int)) : Le (de a0) (bS a0) := by
  unfold de bS; repeat' (first | with_reducible exact iM _ | with_reducible exact Le.refl _ | with_reducible refine Le.bind ?_ (fun _ => ?_) | with_reducible refine Le.ite ?_ ?_ | with_reducible refine Le.loop (fun _ => ?_) _ _ | with_reducible refine Le.e8 (fun _ => ?_) _ | (split <;> dsimp only))
theorem n8 (a0 : (List Int)) (s : _) : Le (iG a0 s) (gV a0 s) := by
  unfold iG gV; (try dsimp only); repeat' (first | with_reducible exact Le.refl _ | with_reducible refine Le.bind ?_ (fun _ => ?_) | with_reducible refine Le.ite ?_ ?_ | with_reducible refine Le.loop (fun _ => ?_) _ _ | with_reducible refine Le.e8 (fun _ => ?_) _ | (split <;> dsimp only))
theorem response_sum_le (a0 : (List Int)) : Le (gg a0) (cQ a0) := by
  unfold gg cQ; repeat' (first | with_reducible exact n8 _ _ | with_reducible exact Le.refl _ | with_reducible refine Le.bind ?_ (fun _ => ?_) | with_reducible refine Le.ite ?_ ?_ | with_reducible refine Le.loop (fun _ => ?_) _ _ | with_reducible refine Le.e8 (fun _ => ?_) _ | (split <;> dsimp only))
theorem lZ (a0 : aB) : Le (fR a0) (ca a0) := by
  unfold fR ca; repeat' (first | with_reducible exact mX _ _ _ | with_reducible exact oJ _ | with_reducible exact response_sum_le _ | with_reducible exact Le.refl _ | with_reducible refine Le.bind ?_ (fun _ => ?_) | with_reducible refine Le.ite ?_ ?_ | with_reducible refine Le.loop (fun _ => ?_) _ _ | with_reducible refine Le.e8 (fun _ => ?_) _ | (split <;> dsimp only))
theorem l4 (a0 : aB) : Le (fS a0) (dN a0) := by
  unfold fS dN; repeat' (first | with_reducible exact lZ _ | with_reducible exact Le.refl _ | with_reducible refine Le.bind ?_ (fun _ => ?_) | with_reducible refine Le.ite ?_ ?_ | with_reducible refine Le.loop (fun _ => ?_) _ _ | with_reducible refine Le.e8 (fun _ => ?_) _ | (split <;> dsimp only))
theorem io (a0 : (List aB)) (s : _) : Le (cU a0 s) (bT a0 s) := by
  unfold cU bT; (try dsimp only); repeat' (first | with_reducible exact l4 _ | with_reducible exact Le.refl _ | with_reducible refine Le.bind ?_ (fun _ => ?_) | with_reducible refine Le.ite ?_ ?_ | with_reducible refine Le.loop (fun _ => ?_) _ _ | with_reducible refine Le.e8 (fun _ => ?_) _ | (split <;> dsimp only))
theorem je (a0 : (List aB)) : Le (dF a0) (cb a0) := by
  unfold dF cb; repeat' (first | with_reducible exact io _ _ | with_reducible exact Le.refl _ | with_reducible refine Le.bind ?_ (fun _ => ?_) | with_reducible refine Le.ite ?_ ?_ | with_reducible refine Le.loop (fun _ => ?_) _ _ | with_reducible refine Le.e8 (fun _ => ?_) _ | (split <;> dsimp only))
theorem il (a0 : (List aB)) : Le (cS a0) (bM a0) := by
  unfold cS bM; repeat' (first | with_reducible exact je _ | with_reducible exact Le.refl _ | with_reducible refine Le.bind ?_ (fun _ => ?_) | with_reducible refine Le.ite ?_ ?_ | with_reducible refine Le.loop (fun _ => ?_) _ _ | with_reducible refine Le.e8 (fun _ => ?_) _ | (split <;> dsimp only))
theorem mp (a0 : (List aB)) (s : _) : Le (gf a0 s) (ef a0 s) := by
  unfold gf ef; (try dsimp only); repeat' (first | with_reducible exact Le.refl _ | with_reducible refine Le.bind ?_ (fun _ => ?_) | with_reducible refine Le.ite ?_ ?_ | with_reducible refine Le.loop (fun _ => ?_) _ _ | with_reducible refine Le.e8 (fun _ => ?_) _ | (split <;> dsimp only))
theorem n7 (a0 : (List aB)) : Le (iF a0) (ex a0) := by
  unfold iF ex; repeat' (first | with_reducible exact mp _ _ | with_reducible exact Le.refl _ | with_reducible refine Le.bind ?_ (fun _ => ?_) | with_reducible refine Le.ite ?_ ?_ | with_reducible refine Le.loop (fun _ => ?_) _ _ | with_reducible refine Le.e8 (fun _ => ?_) _ | (split <;> dsimp only))
theorem oH (a0 : aM) : Le (jc a0) (ed a0) := by
  unfold jc ed; repeat' (first | with_reducible exact il _ | with_reducible exact n7 _ | with_reducible exact Le.refl _ | with_reducible refine Le.bind ?_ (fun _ => ?_) | with_reducible refine Le.ite ?_ ?_ | with_reducible refine Le.loop (fun _ => ?_) _ _ | with_reducible refine Le.e8 (fun _ => ?_) _ | (split <;> dsimp only))
theorem md (a0 : Int) (a1 : Int) (a2 : Int) : Le (e7 a0 a1 a2) (dm a0 a1 a2) := by
  unfold e7 dm; repeat' (first | with_reducible exact Le.refl _ | with_reducible refine Le.bind ?_ (fun _ => ?_) | with_reducible refine Le.ite ?_ ?_ | with_reducible refine Le.loop (fun _ => ?_) _ _ | with_reducible refine Le.e8 (fun _ => ?_) _ | (split <;> dsimp only))
theorem lz (a0 : al) : Le (fq a0) (cH a0) := by
  unfold fq cH; repeat' (first | with_reducible exact rate_Valid_le _ | with_reducible exact oH _ | with_reducible exact md _ _ _ | with_reducible exact Le.refl _ | with_reducible refine Le.bind ?_ (fun _ => ?_) | with_reducible refine Le.ite ?_ ?_ | with_reducible refine Le.loop (fun _ => ?_) _ _ | with_reducible refine Le.e8 (fun _ => ?_) _ | (split <;> dsimp only))
theorem lB (a0 : (List al)) (s : _) : Le (fu a0 s) (dv a0 s) := by
  unfold fu dv; (try dsimp only); repeat' (first | with_reducible exact lz _ | with_reducible exact Le.refl _ | with_reducible refine Le.bind ?_ (fun _ => ?_) | with_reducible refine Le.ite ?_ ?_ | with_reducible refine Le.loop (fun _ => ?_) _ _ | with_reducible refine Le.e8 (fun _ => ?_) _ | (split <;> dsimp only))
theorem ny (a0 : (List al)) : Le (hC a0) (d5 a0) := by
  unfold hC d5; repeat' (first | with_reducible exact lB _ _ | with_reducible exact md _ _ _ | with_reducible exact Le.refl _ | with_reducible refine Le.bind ?_ (fun _ => ?_) | with_reducible refine Le.ite ?_ ?_ | with_reducible refine Le.loop (fun _ => ?_) _ _ | with_reducible refine Le.e8 (fun _ => ?_) _ | (split <;> dsimp only))
theorem np (a0 : (List UInt8)) : Le (fk a0) (db a0) := by
  unfold fk db; repeat' (first | with_reducible exact Le.refl _ | with_reducible refine Le.bind ?_ (fun _ => ?_) | with_reducible refine Le.ite ?_ ?_ | with_reducible refine Le.loop (fun _ => ?_) _ _ | with_reducible refine Le.e8 (fun _ => ?_) _ | (split <;> dsimp only))
theorem mm (a0 : (List UInt8)) (a1 : (List UInt8)) : Le (cA a0 a1) (bR a0 a1) := by
  unfold cA bR; repeat' (first | with_reducible exact np _ | with_reducible exact Le.refl _ | with_reducible refine Le.bind ?_ (fun _ => ?_) | with_reducible refine Le.ite ?_ ?_ | with_reducible refine Le.loop (fun _ => ?_) _ _ | with_reducible refine Le.e8 (fun _ => ?_) _ | (split <;> dsimp only))
theorem cmp_Or_int_l6_le (a0 : (List Int)) (s : _) : Le (jH a0 s) (ct a0 s) := by
  unfold jH ct; (try dsimp only); repeat' (first | with_reducible exact Le.refl _ | with_reducible refine Le.bind ?_ (fun _ => ?_) | with_reducible refine Le.ite ?_ ?_ | with_reducible refine Le.loop (fun _ => ?_) _ _ | with_reducible refine Le.e8 (fun _ => ?_) _ | (split <;> dsimp only))
theorem cmp_Or_int_le (a0 : (List Int)) : Le (lN a0) (cL a0) := by
  unfold lN cL; repeat' (first | with_reducible exact cmp_Or_int_l6_le _ _ | with_reducible exact Le.refl _ | with_reducible refine Le.bind ?_ (fun _ => ?_) | with_reducible refine Le.ite ?_ ?_ | with_reducible refine Le.loop (fun _ => ?_) _ _ | with_reducible refine Le.e8 (fun _ => ?_) _ | (split <;> dsimp only))
theorem oL (a0 : aJ) (a1 : aJ) : Le (jf a0 a1) (dG a0 a1) := by
  unfold jf dG; repeat' (first | with_reducible exact mm _ _ | with_reducible exact cmp_Or_int_le _ | with_reducible exact Le.refl _ | with_reducible refine Le.bind ?_ (fun _ => ?_) | with_reducible refine Le.ite ?_ ?_ | with_reducible refine Le.loop (fun _ => ?_) _ _ | with_reducible refine Le.e8 (fun _ => ?_) _ | (split <;> dsimp only))
theorem lR (a0 : aC) (s : _) : Le (fQ a0 s) (dM a0 s) := by
  unfold fQ dM; (try dsimp only); repeat' (first | with_reducible exact mi _ | with_reducible exact ny _ | with_reducible exact oL _ _ | with_reducible exact Le.refl _ | with_reducible refine Le.bind ?_ (fun _ => ?_) | with_reducible refine Le.ite ?_ ?_ | with_reducible refine Le.loop (fun _ => ?_) _ _ | with_reducible refine Le.e8 (fun _ => ?_) _ | (split <;> dsimp only))
theorem nR (a0 : aC) : Le (ix a0) (da a0) := by
  unfold ix da; repeat' (first | with_reducible exact lR _ _ | with_reducible exact Le.refl _ | with_reducible refine Le.bind ?_ (fun _ => ?_) | with_reducible refine Le.ite ?_ ?_ | with_reducible refine Le.loop (fun _ => ?_) _ _ | with_reducible refine Le.e8 (fun _ => ?_) _ | (split <;> dsimp only))
theorem picker_in_le (a0 : Int) (a1 : Int) (a2 : Int) : Le (k9 a0 a1 a2) (gy a0 a1 a2) := by
  unfold k9 gy; repeat' (first | with_reducible exact Le.refl _ | with_reducible refine Le.bind ?_ (fun _ => ?_) | with_reducible refine Le.ite ?_ ?_ | with_reducible refine Le.loop (fun _ => ?_) _ _ | with_reducible refine Le.e8 (fun _ => ?_) _ | (split <;> dsimp only))
theorem nE (a0 : aq) : Le (hF a0) (d6 a0) := by
  unfold hF d6; repeat' (first | with_reducible exact mi _ | with_reducible exact picker_in_le _ _ _ | with_reducible exact Le.refl _ | with_reducible refine Le.bind ?_ (fun _ => ?_) | with_reducible refine Le.ite ?_ ?_ | with_reducible refine Le.loop (fun _ => ?_) _ _ | with_reducible refine Le.e8 (fun _ => ?_) _ | (split <;> dsimp only))
theorem kx (x1 : (List aB)) (s : _) : Le (eu x1 s) (cG x1 s) := by
  unfold eu cG; (try dsimp only); repeat' (first | with_reducible exact Le.refl _ | with_reducible refine Le.bind ?_ (fun _ => ?_) | with_reducible refine Le.ite ?_ ?_ | with_reducible refine Le.loop (fun _ => ?_) _ _ | with_reducible refine Le.e8 (fun _ => ?_) _ | (split <;> dsimp only))
theorem lQ (a0 : al) : Le (fP a0) (c7 a0) := by
  unfold fP c7; repeat' (first | with_reducible exact kx _ _ | with_reducible exact Le.refl _ | with_reducible refine Le.bind ?_ (fun _ => ?_) | with_reducible refine Le.ite ?_ ?_ | with_reducible refine Le.loop (fun _ => ?_) _ _ | with_reducible refine Le.e8 (fun _ => ?_) _ | (split <;> dsimp only))
theorem lA (x1 : (List al)) (s : _) : Le (fr x1 s) (du x1 s) := by
  unfold fr du; (try dsimp only); repeat' (first | with_reducible exact lQ _ | with_reducible exact Le.refl _ | with_reducible refine Le.bind ?_ (fun _ => ?_) | with_reducible refine Le.ite ?_ ?_ | with_reducible refine Le.loop (fun _ => ?_) _ _ | with_reducible refine Le.e8 (fun _ => ?_) _ | (split <;> dsimp only))
theorem nv (a0 : ap) : Le (gZ a0) (d4 a0) := by
  unfold gZ d4; repeat' (first | with_reducible exact lA _ _ | with_reducible exact Le.refl _ | with_reducible refine Le.bind ?_ (fun _ => ?_) | with_reducible refine Le.ite ?_ ?_ | with_reducible refine Le.loop (fun _ => ?_) _ _ | with_reducible refine Le.e8 (fun _ => ?_) _ | (split <;> dsimp only))
theorem mF (a0 : aC) (a1 : aJ) (s : _) : Le (gC a0 a1 s) (eE a0 a1 s) := by
  unfold gC eE; (try dsimp only); repeat' (first | with_reducible exact nv _ | with_reducible exact Le.refl _ | with_reducible refine Le.bind ?_ (fun _ => ?_) | with_reducible refine Le.ite ?_ ?_ | with_reducible refine Le.loop (fun _ => ?_) _ _ | with_reducible refine Le.e8 (fun _ => ?_) _ | (split <;> dsimp only))
theorem oB (a0 : aC) (a1 : aJ) : Le (iT a0 a1) (eZ a0 a1) := by
  unfold iT eZ; repeat' (first | with_reducible exact mF _ _ _ | with_reducible exact Le.refl _ | with_reducible refine Le.bind ?_ (fun _ => ?_) | with_reducible refine Le.ite ?_ ?_ | with_reducible refine Le.loop (fun _ => ?_) _ _ | with_reducible refine Le.e8 (fun _ => ?_) _ | (split <;> dsimp only))
theorem nS (a0 : ap) (a1 : Int) (s : _) : Le (iy a0 a1 s) (fE a0 a1 s) := by
  unfold iy fE; (try dsimp only); repeat' (first | with_reducible exact Le.refl _ | with_reducible refine Le.bind ?_ (fun _ => ?_) | with_reducible refine Le.ite ?_ ?_ | with_reducible refine Le.loop (fun _ => ?_) _ _ | with_reducible refine Le.e8 (fun _ => ?_) _ | (split <;> dsimp only))
theorem inventory_at_le (a0 : ap) (a1 : Int) : Le (kA a0 a1) (gt a0 a1) := by
  unfold kA gt; repeat' (first | with_reducible exact nS _ _ _ | with_reducible exact Le.refl _ | with_reducible refine Le.bind ?_ (fun _ => ?_) | with_reducible refine Le.ite ?_ ?_ | with_reducible refine Le.loop (fun _ => ?_) _ _ | with_reducible refine Le.e8 (fun _ => ?_) _ | (split <;> dsimp only))
theorem inventory_At_le (a0 : aC) (a1 : aJ) (a2 : Int) : Le (ku a0 a1 a2) (gr a0 a1 a2) := by
  unfold ku gr; repeat' (first | with_reducible exact nR _ | with_reducible exact oB _ _ | with_reducible exact inventory_at_le _ _ | with_reducible exact Le.refl _ | with_reducible refine Le.bind ?_ (fun _ => ?_) | with_reducible refine Le.ite ?_ ?_ | with_reducible refine Le.loop (fun _ => ?_) _ _ | with_reducible refine Le.e8 (fun _ => ?_) _ | (split <;> dsimp only))
theorem solution_used_le (a0 : aG) (a1 : aC) (a2 : aq) : Le (jP a0 a1 a2) (cw a0 a1 a2) := by
  unfold jP cw; repeat' (first | with_reducible exact nE _ | with_reducible exact inventory_At_le _ _ _ | with_reducible exact bound_Zone_le _ _ _ | with_reducible exact Le.refl _ | with_reducible refine Le.bind ?_ (fun _ => ?_) | with_reducible refine Le.ite ?_ ?_ | with_reducible refine Le.loop (fun _ => ?_) _ _ | with_reducible refine Le.e8 (fun _ => ?_) _ | (split <;> dsimp only))
end Go.Dw.So
