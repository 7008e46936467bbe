/- SrFn: what the functions compute (written by lift.py). -/
import Derived.Test.YtjlbpchimjjcpaaDoorDwLift
import Derived.Test.YtjlbpchimjjcpaaDoorDwJoin
import Derived.Test.YtjlbpchimjjcpaaDoorDwSplit
namespace Go.Dw.Sr
open Go.Dw

structure T_api_SourceID where
  fNetwork : (List UInt8)
  fStation : (List UInt8)
  fLocation : (List UInt8)
  fChannel : (List UInt8)
  deriving DecidableEq
def T_api_SourceID.pd (x : T_api_SourceID) : PD := .agg [.str x.fNetwork, .str x.fStation, .str x.fLocation, .str x.fChannel]
structure A4__List_UInt8_ where
  a0 : (List UInt8)
  a1 : (List UInt8)
  a2 : (List UInt8)
  a3 : (List UInt8)
  deriving DecidableEq
def A4__List_UInt8_.pd (x : A4__List_UInt8_) : PD := .agg [.str x.a0, .str x.a1, .str x.a2, .str x.a3]
structure T_seismonetmade_Dice where
  fL : (List Int)
  fAt : Int
  deriving DecidableEq
def T_seismonetmade_Dice.pd (x : T_seismonetmade_Dice) : PD := .agg [.lst (x.fL.map (PD.int .i64)), .int .i64 x.fAt]
structure A4_Int where
  a0 : Int
  a1 : Int
  a2 : Int
  a3 : Int
  deriving DecidableEq
def A4_Int.pd (x : A4_Int) : PD := .agg [.int .i64 x.a0, .int .i64 x.a1, .int .i64 x.a2, .int .i64 x.a3]
noncomputable def made_Light (a0 : (List Int)) : Option (Bool) :=
  some (decide ((a0.length : Int) ≤ (500 : Int)))
noncomputable def source_plain (a0 : Int) : Option (Bool) :=
  if (decide (a0 ≥ (65 : Int))) = true then (if (decide (a0 ≤ (90 : Int))) = true then (some true) else (if (decide (a0 ≥ (48 : Int))) = true then (some (decide (a0 ≤ (57 : Int)))) else (some false))) else (if (decide (a0 ≥ (48 : Int))) = true then (some (decide (a0 ≤ (57 : Int)))) else (some false))
noncomputable def source_code_l7 (a0 : (List UInt8)) : Int → Option (Step1 (Int) ((Unit) ⊕ (Bool))) := fun s1 =>
  if (decide (s1 < (a0.length : Int))) = true then ((byteO a0 s1).bind fun x4 => (source_plain x4).bind fun x5 => if (!x5) = true then (some (.stop (.inr false))) else (some (.next (IntKind.wrap .i64 (s1 + (1 : Int)))))) else (some (.stop (.inl ())))
noncomputable def source_code (a0 : (List UInt8)) (a1 : Int) (a2 : Int) : Option (Bool) :=
  (loopO (source_code_l7 a0) (0 : Int)).bind fun o8 => match o8 with | .inl y9 => (if (decide ((a0.length : Int) ≥ a1)) = true then (some (decide ((a0.length : Int) ≤ a2))) else (some false)) | .inr r10 => (some r10)
noncomputable def source_Valid (a0 : T_api_SourceID) : Option (Bool) :=
  (source_code a0.fNetwork 1 2).bind fun x1 => if x1 = true then ((source_code a0.fStation 1 5).bind fun x3 => if x3 = true then ((source_code a0.fLocation 0 2).bind fun x5 => if x5 = true then (if ((a0.fLocation.length : Int) != (1 : Int)) = true then ((source_code a0.fChannel 3 3).bind fun x8 => some x8) else (some false)) else (some false)) else (some false)) else (some false)
noncomputable def source_pattern_l17 (x5 : (List UInt8)) (s2 : Int) : Int → Option (Step1 (Int) ((Int) ⊕ ((List (List UInt8)) × Bool))) := fun s6 =>
  if (decide (s6 < (x5.length : Int))) = true then ((byteO x5 s6).bind fun x10 => (source_plain x10).bind fun x11 => if (!x11) = true then ((byteO x5 s6).bind fun x13 => if (x13 != (63 : Int)) = true then ((byteO x5 s6).bind fun x15 => if (x15 != (42 : Int)) = true then (some (.stop (.inr (([] : (List (List UInt8))), false)))) else (some (.next (IntKind.wrap .i64 (s6 + (1 : Int)))))) else (some (.next (IntKind.wrap .i64 (s6 + (1 : Int)))))) else (some (.next (IntKind.wrap .i64 (s6 + (1 : Int)))))) else (some (.stop (.inl s2)))
noncomputable def source_pattern_l22 (x1 : (List (List UInt8))) : Int → Option (Step1 (Int) ((Unit) ⊕ ((List (List UInt8)) × Bool))) := fun s2 =>
  if (decide (s2 < (x1.length : Int))) = true then ((getO x1 s2).bind fun x5 => (loopO (source_pattern_l17 x5 s2) (0 : Int)).bind fun o18 => match o18 with | .inl y19 => (if (decide ((x5.length : Int) > (8 : Int))) = true then (some (.stop (.inr (([] : (List (List UInt8))), false)))) else (some (.next (IntKind.wrap .i64 (y19 + (1 : Int)))))) | .inr r20 => (some (.stop (.inr r20)))) else (some (.stop (.inl ())))
noncomputable def source_pattern (a0 : (List UInt8)) : Option ((List (List UInt8)) × Bool) :=
  (splitO a0 [46]).bind fun x1 => (loopO (source_pattern_l22 x1) (0 : Int)).bind fun o23 => match o23 with | .inl y24 => (some (x1, ((x1.length : Int) == (4 : Int)))) | .inr r25 => (some r25)
noncomputable def source_parts (a0 : T_api_SourceID) : Option (A4__List_UInt8_) :=
  some (A4__List_UInt8_.mk a0.fNetwork a0.fStation a0.fLocation a0.fChannel)
noncomputable def source_fitsN : Nat → (List UInt8) → (List UInt8) → Option (Bool)
  | 0, _, _ => none
  | nfu + 1, a0, a1 =>
  if (a0 == []) = true then (some (a1 == [])) else ((byteO a0 0).bind fun x2 => if (x2 == (42 : Int)) = true then ((cutO a0 1 (a0.length : Int)).bind fun x4 => (source_fitsN nfu x4 a1).bind fun x5 => if x5 = true then (some true) else (if (!(a1 == [])) = true then ((cutO a1 1 (a1.length : Int)).bind fun x8 => (source_fitsN nfu a0 x8).bind fun x9 => some x9) else (some false))) else (if (!(a1 == [])) = true then ((byteO a0 0).bind fun x11 => if (x11 == (63 : Int)) = true then ((cutO a0 1 (a0.length : Int)).bind fun x13 => (cutO a1 1 (a1.length : Int)).bind fun x14 => (source_fitsN nfu x13 x14).bind fun x15 => some x15) else ((byteO a0 0).bind fun x16 => (byteO a1 0).bind fun x17 => if (x16 == x17) = true then ((cutO a0 1 (a0.length : Int)).bind fun x19 => (cutO a1 1 (a1.length : Int)).bind fun x20 => (source_fitsN nfu x19 x20).bind fun x21 => some x21) else (some false))) else (some false)))
noncomputable def source_fits (a0 : (List UInt8)) (a1 : (List UInt8)) : Option (Bool) := recO fun n => source_fitsN n a0 a1
noncomputable def source_match (a0 : (List (List UInt8))) (a1 : T_api_SourceID) : Option (Bool) :=
  (source_parts a1).bind fun x1 => (getO a0 (0 : Int)).bind fun x2 => (source_fits x2 x1.a0).bind fun x3 => if (!x3) = true then (some false) else ((getO a0 (1 : Int)).bind fun x5 => (source_fits x5 x1.a1).bind fun x6 => if (!x6) = true then (some false) else ((getO a0 (2 : Int)).bind fun x8 => (source_fits x8 x1.a2).bind fun x9 => if (!x9) = true then (some false) else ((getO a0 (3 : Int)).bind fun x11 => (source_fits x11 x1.a3).bind fun x12 => if (!x12) = true then (some false) else (some true))))
noncomputable def source_Match (a0 : (List UInt8)) (a1 : T_api_SourceID) : Option (Bool × Int) :=
  (source_pattern a0).bind fun x1 => if (!x1.2) = true then (some (false, (3 : Int))) else ((source_Valid a1).bind fun x3 => if (!x3) = true then (some (false, (1 : Int))) else ((source_match x1.1 a1).bind fun x5 => some (x5, (0 : Int))))
noncomputable def source_Parse (a0 : (List UInt8)) : Option (T_api_SourceID × Int) :=
  (splitO a0 [46]).bind fun x1 => if ((x1.length : Int) != (4 : Int)) = true then (some ((T_api_SourceID.mk [] [] [] []), (3 : Int))) else ((getO x1 (0 : Int)).bind fun x3 => (getO x1 (1 : Int)).bind fun x4 => (getO x1 (2 : Int)).bind fun x5 => (getO x1 (3 : Int)).bind fun x6 => (source_Valid (T_api_SourceID.mk x3 x4 x5 x6)).bind fun x7 => if (!x7) = true then (some ((T_api_SourceID.mk [] [] [] []), (3 : Int))) else (some ((T_api_SourceID.mk x3 x4 x5 x6), (0 : Int))))
noncomputable def law03_sane  : Option (Bool) :=
  (source_Parse [71, 82, 46, 70, 85, 82, 46, 46, 72, 72, 90]).bind fun x1 => (source_Match [71, 82, 46, 42, 46, 42, 46, 72, 72, 63] x1.1).bind fun x2 => (source_Match [71, 82, 46, 70, 42, 46, 48, 48, 46, 42] x1.1).bind fun x3 => if (x1.2 == (0 : Int)) = true then (if ((x1.1.fNetwork == (T_api_SourceID.mk [71, 82] [70, 85, 82] [] [72, 72, 90]).fNetwork) && ((x1.1.fStation == (T_api_SourceID.mk [71, 82] [70, 85, 82] [] [72, 72, 90]).fStation) && ((x1.1.fLocation == (T_api_SourceID.mk [71, 82] [70, 85, 82] [] [72, 72, 90]).fLocation) && ((x1.1.fChannel == (T_api_SourceID.mk [71, 82] [70, 85, 82] [] [72, 72, 90]).fChannel) && true)))) = true then (if (x2.2 == (0 : Int)) = true then (if (x3.2 == (0 : Int)) = true then (if x2.1 = true then (some (!x3.1)) else (some false)) else (some false)) else (some false)) else (some false)) else (some false)
noncomputable def made_Roll (a0 : (List Int)) : Option (T_seismonetmade_Dice) :=
  some (T_seismonetmade_Dice.mk a0 0)
noncomputable def Dice_Next (a1 : Int) (d0 : T_seismonetmade_Dice) : Option (Int × T_seismonetmade_Dice) :=
  if (decide (d0.fAt ≥ (d0.fL.length : Int))) = true then (some ((0 : Int), d0)) else (if (decide (a1 < (1 : Int))) = true then (some ((0 : Int), d0)) else ((getO d0.fL d0.fAt).bind fun x3 => (remO x3 a1).bind fun x4 => if (decide (x4 < (0 : Int))) = true then (some ((IntKind.wrap .i64 (x4 + a1)), (T_seismonetmade_Dice.mk d0.fL (IntKind.wrap .i64 (d0.fAt + (1 : Int)))))) else (some (x4, (T_seismonetmade_Dice.mk d0.fL (IntKind.wrap .i64 (d0.fAt + (1 : Int))))))))
noncomputable def Dice_Source (d0 : T_seismonetmade_Dice) : Option (T_api_SourceID × T_seismonetmade_Dice) :=
  (Dice_Next 3 d0).bind fun x1 => (getO [[71, 82], [88], [55, 65]] x1.1).bind fun x2 => (Dice_Next 4 x1.2).bind fun x3 => (getO [[70, 85, 82], [65], [65, 66, 67, 68, 69], [70, 85]] x3.1).bind fun x4 => (Dice_Next 3 x3.2).bind fun x5 => (getO [[], [48, 48], [49, 48]] x5.1).bind fun x6 => (Dice_Next 3 x5.2).bind fun x7 => (getO [[72, 72, 90], [72, 72, 78], [66, 72, 90]] x7.1).bind fun x8 => some ((T_api_SourceID.mk x2 x4 x6 x8), x7.2)
noncomputable def source_Format (a0 : T_api_SourceID) : Option ((List UInt8) × Int) :=
  (source_Valid a0).bind fun x1 => if (!x1) = true then (some (([] : (List UInt8)), (1 : Int))) else ((source_parts a0).bind fun x3 => (joinO [x3.a0, x3.a1, x3.a2, x3.a3] [46]).bind fun x4 => some (x4, (0 : Int)))
noncomputable def law03_SourceBack (a0 : (List Int)) : Option (Bool) :=
  (made_Light a0).bind fun x1 => if (!x1) = true then ((law03_sane ).bind fun x3 => some x3) else ((made_Roll a0).bind fun x4 => (Dice_Source x4).bind fun x5 => (Dice_Source x5.2).bind fun x6 => (source_Format x5.1).bind fun x7 => (source_Parse x7.1).bind fun x8 => (source_Match x7.1 x5.1).bind fun x9 => (source_Match x7.1 x6.1).bind fun x10 => (source_Match [42, 46, 42, 46, 42, 46, 42] x6.1).bind fun x11 => if (x7.2 == (0 : Int)) = true then (if (x8.2 == (0 : Int)) = true then (if ((x8.1.fNetwork == x5.1.fNetwork) && ((x8.1.fStation == x5.1.fStation) && ((x8.1.fLocation == x5.1.fLocation) && ((x8.1.fChannel == x5.1.fChannel) && true)))) = true then (if (x9.2 == (0 : Int)) = true then (if x9.1 = true then (if (x10.2 == (0 : Int)) = true then (if (x10.1 == ((x5.1.fNetwork == x6.1.fNetwork) && ((x5.1.fStation == x6.1.fStation) && ((x5.1.fLocation == x6.1.fLocation) && ((x5.1.fChannel == x6.1.fChannel) && true))))) = true then (if (x11.2 == (0 : Int)) = true then (if x11.1 = true then ((law03_sane ).bind fun x21 => some x21) else (some false)) else (some false)) else (some false)) else (some false)) else (some false)) else (some false)) else (some false)) else (some false)) else (some false))
noncomputable def ref03_compare (a0 : (List UInt8)) (a1 : (List UInt8)) : Option (Int) :=
  if (Op.bytesLess a0 a1) = true then (some (-1 : Int)) else (if (!(Op.bytesLess a0 a1 || a0 == a1)) = true then (some (1 : Int)) else (some (0 : Int)))
noncomputable def ref03_Compare (a0 : T_api_SourceID) (a1 : T_api_SourceID) : Option (Int) :=
  (ref03_compare a0.fNetwork a1.fNetwork).bind fun x1 => (ref03_compare a0.fStation a1.fStation).bind fun x2 => (ref03_compare a0.fLocation a1.fLocation).bind fun x3 => (ref03_compare a0.fChannel a1.fChannel).bind fun x4 => if ((A4_Int.mk x1 x2 x3 x4).a0 != (0 : Int)) = true then (some ((A4_Int.mk x1 x2 x3 x4).a0)) else (if ((A4_Int.mk x1 x2 x3 x4).a1 != (0 : Int)) = true then (some ((A4_Int.mk x1 x2 x3 x4).a1)) else (if ((A4_Int.mk x1 x2 x3 x4).a2 != (0 : Int)) = true then (some ((A4_Int.mk x1 x2 x3 x4).a2)) else (if ((A4_Int.mk x1 x2 x3 x4).a3 != (0 : Int)) = true then (some ((A4_Int.mk x1 x2 x3 x4).a3)) else (some (0 : Int)))))
end Go.Dw.Sr
