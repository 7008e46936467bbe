/- SrCo: the plain functions with bounded loops, and that they say what the functions say (written by lift.py). -/
import Derived.Test.YtjlbpchimjjcpaaDoorSrFn
import Derived.Test.YtjlbpchimjjcpaaDoorDwLe
set_option maxRecDepth 100000
set_option maxHeartbeats 4000000
namespace Go.Dw.Sr
open Go.Dw
def fuelC : Nat := 600
def made_Light_c (a0 : (List Int)) : Option (Bool) :=
  some (decide ((a0.length : Int) ≤ (500 : Int)))
def source_plain_c (a0 : Int) : Option (Bool) :=
  if (decide (a0 ≥ (65 : Int))) = true then (if (decide (a0 ≤ (90 : Int))) = true then (some true) else (if (decide (a0 ≥ (48 : Int))) = true then (some (decide (a0 ≤ (57 : Int)))) else (some false))) else (if (decide (a0 ≥ (48 : Int))) = true then (some (decide (a0 ≤ (57 : Int)))) else (some false))
def source_code_l7_c (a0 : (List UInt8)) : Int → Option (Step1 (Int) ((Unit) ⊕ (Bool))) := fun s1 =>
  if (decide (s1 < (a0.length : Int))) = true then ((byteO a0 s1).bind fun x4 => (source_plain_c x4).bind fun x5 => if (!x5) = true then (some (.stop (.inr false))) else (some (.next (IntKind.wrap .i64 (s1 + (1 : Int)))))) else (some (.stop (.inl ())))
def source_code_c (a0 : (List UInt8)) (a1 : Int) (a2 : Int) : Option (Bool) :=
  (loopN (source_code_l7_c a0) fuelC (0 : Int)).bind fun o8 => match o8 with | .inl y9 => (if (decide ((a0.length : Int) ≥ a1)) = true then (some (decide ((a0.length : Int) ≤ a2))) else (some false)) | .inr r10 => (some r10)
def source_Valid_c (a0 : T_api_SourceID) : Option (Bool) :=
  (source_code_c a0.fNetwork 1 2).bind fun x1 => if x1 = true then ((source_code_c a0.fStation 1 5).bind fun x3 => if x3 = true then ((source_code_c a0.fLocation 0 2).bind fun x5 => if x5 = true then (if ((a0.fLocation.length : Int) != (1 : Int)) = true then ((source_code_c a0.fChannel 3 3).bind fun x8 => some x8) else (some false)) else (some false)) else (some false)) else (some false)
def source_pattern_l17_c (x5 : (List UInt8)) (s2 : Int) : Int → Option (Step1 (Int) ((Int) ⊕ ((List (List UInt8)) × Bool))) := fun s6 =>
  if (decide (s6 < (x5.length : Int))) = true then ((byteO x5 s6).bind fun x10 => (source_plain_c x10).bind fun x11 => if (!x11) = true then ((byteO x5 s6).bind fun x13 => if (x13 != (63 : Int)) = true then ((byteO x5 s6).bind fun x15 => if (x15 != (42 : Int)) = true then (some (.stop (.inr (([] : (List (List UInt8))), false)))) else (some (.next (IntKind.wrap .i64 (s6 + (1 : Int)))))) else (some (.next (IntKind.wrap .i64 (s6 + (1 : Int)))))) else (some (.next (IntKind.wrap .i64 (s6 + (1 : Int)))))) else (some (.stop (.inl s2)))
def source_pattern_l22_c (x1 : (List (List UInt8))) : Int → Option (Step1 (Int) ((Unit) ⊕ ((List (List UInt8)) × Bool))) := fun s2 =>
  if (decide (s2 < (x1.length : Int))) = true then ((getO x1 s2).bind fun x5 => (loopN (source_pattern_l17_c x5 s2) fuelC (0 : Int)).bind fun o18 => match o18 with | .inl y19 => (if (decide ((x5.length : Int) > (8 : Int))) = true then (some (.stop (.inr (([] : (List (List UInt8))), false)))) else (some (.next (IntKind.wrap .i64 (y19 + (1 : Int)))))) | .inr r20 => (some (.stop (.inr r20)))) else (some (.stop (.inl ())))
def source_pattern_c (a0 : (List UInt8)) : Option ((List (List UInt8)) × Bool) :=
  (splitO a0 [46]).bind fun x1 => (loopN (source_pattern_l22_c x1) fuelC (0 : Int)).bind fun o23 => match o23 with | .inl y24 => (some (x1, ((x1.length : Int) == (4 : Int)))) | .inr r25 => (some r25)
def source_parts_c (a0 : T_api_SourceID) : Option (A4__List_UInt8_) :=
  some (A4__List_UInt8_.mk a0.fNetwork a0.fStation a0.fLocation a0.fChannel)
def source_fitsN_c : Nat → (List UInt8) → (List UInt8) → Option (Bool)
  | 0, _, _ => none
  | nfu + 1, a0, a1 =>
  if (a0 == []) = true then (some (a1 == [])) else ((byteO a0 0).bind fun x2 => if (x2 == (42 : Int)) = true then ((cutO a0 1 (a0.length : Int)).bind fun x4 => (source_fitsN_c nfu x4 a1).bind fun x5 => if x5 = true then (some true) else (if (!(a1 == [])) = true then ((cutO a1 1 (a1.length : Int)).bind fun x8 => (source_fitsN_c nfu a0 x8).bind fun x9 => some x9) else (some false))) else (if (!(a1 == [])) = true then ((byteO a0 0).bind fun x11 => if (x11 == (63 : Int)) = true then ((cutO a0 1 (a0.length : Int)).bind fun x13 => (cutO a1 1 (a1.length : Int)).bind fun x14 => (source_fitsN_c nfu x13 x14).bind fun x15 => some x15) else ((byteO a0 0).bind fun x16 => (byteO a1 0).bind fun x17 => if (x16 == x17) = true then ((cutO a0 1 (a0.length : Int)).bind fun x19 => (cutO a1 1 (a1.length : Int)).bind fun x20 => (source_fitsN_c nfu x19 x20).bind fun x21 => some x21) else (some false))) else (some false)))
def source_fits_c (a0 : (List UInt8)) (a1 : (List UInt8)) : Option (Bool) := source_fitsN_c fuelC a0 a1
def source_match_c (a0 : (List (List UInt8))) (a1 : T_api_SourceID) : Option (Bool) :=
  (source_parts_c a1).bind fun x1 => (getO a0 (0 : Int)).bind fun x2 => (source_fits_c x2 x1.a0).bind fun x3 => if (!x3) = true then (some false) else ((getO a0 (1 : Int)).bind fun x5 => (source_fits_c x5 x1.a1).bind fun x6 => if (!x6) = true then (some false) else ((getO a0 (2 : Int)).bind fun x8 => (source_fits_c x8 x1.a2).bind fun x9 => if (!x9) = true then (some false) else ((getO a0 (3 : Int)).bind fun x11 => (source_fits_c x11 x1.a3).bind fun x12 => if (!x12) = true then (some false) else (some true))))
def source_Match_c (a0 : (List UInt8)) (a1 : T_api_SourceID) : Option (Bool × Int) :=
  (source_pattern_c a0).bind fun x1 => if (!x1.2) = true then (some (false, (3 : Int))) else ((source_Valid_c a1).bind fun x3 => if (!x3) = true then (some (false, (1 : Int))) else ((source_match_c x1.1 a1).bind fun x5 => some (x5, (0 : Int))))
def source_Parse_c (a0 : (List UInt8)) : Option (T_api_SourceID × Int) :=
  (splitO a0 [46]).bind fun x1 => if ((x1.length : Int) != (4 : Int)) = true then (some ((T_api_SourceID.mk [] [] [] []), (3 : Int))) else ((getO x1 (0 : Int)).bind fun x3 => (getO x1 (1 : Int)).bind fun x4 => (getO x1 (2 : Int)).bind fun x5 => (getO x1 (3 : Int)).bind fun x6 => (source_Valid_c (T_api_SourceID.mk x3 x4 x5 x6)).bind fun x7 => if (!x7) = true then (some ((T_api_SourceID.mk [] [] [] []), (3 : Int))) else (some ((T_api_SourceID.mk x3 x4 x5 x6), (0 : Int))))
def law03_sane_c  : Option (Bool) :=
  (source_Parse_c [71, 82, 46, 70, 85, 82, 46, 46, 72, 72, 90]).bind fun x1 => (source_Match_c [71, 82, 46, 42, 46, 42, 46, 72, 72, 63] x1.1).bind fun x2 => (source_Match_c [71, 82, 46, 70, 42, 46, 48, 48, 46, 42] x1.1).bind fun x3 => if (x1.2 == (0 : Int)) = true then (if ((x1.1.fNetwork == (T_api_SourceID.mk [71, 82] [70, 85, 82] [] [72, 72, 90]).fNetwork) && ((x1.1.fStation == (T_api_SourceID.mk [71, 82] [70, 85, 82] [] [72, 72, 90]).fStation) && ((x1.1.fLocation == (T_api_SourceID.mk [71, 82] [70, 85, 82] [] [72, 72, 90]).fLocation) && ((x1.1.fChannel == (T_api_SourceID.mk [71, 82] [70, 85, 82] [] [72, 72, 90]).fChannel) && true)))) = true then (if (x2.2 == (0 : Int)) = true then (if (x3.2 == (0 : Int)) = true then (if x2.1 = true then (some (!x3.1)) else (some false)) else (some false)) else (some false)) else (some false)) else (some false)
def made_Roll_c (a0 : (List Int)) : Option (T_seismonetmade_Dice) :=
  some (T_seismonetmade_Dice.mk a0 0)
def Dice_Next_c (a1 : Int) (d0 : T_seismonetmade_Dice) : Option (Int × T_seismonetmade_Dice) :=
  if (decide (d0.fAt ≥ (d0.fL.length : Int))) = true then (some ((0 : Int), d0)) else (if (decide (a1 < (1 : Int))) = true then (some ((0 : Int), d0)) else ((getO d0.fL d0.fAt).bind fun x3 => (remO x3 a1).bind fun x4 => if (decide (x4 < (0 : Int))) = true then (some ((IntKind.wrap .i64 (x4 + a1)), (T_seismonetmade_Dice.mk d0.fL (IntKind.wrap .i64 (d0.fAt + (1 : Int)))))) else (some (x4, (T_seismonetmade_Dice.mk d0.fL (IntKind.wrap .i64 (d0.fAt + (1 : Int))))))))
def Dice_Source_c (d0 : T_seismonetmade_Dice) : Option (T_api_SourceID × T_seismonetmade_Dice) :=
  (Dice_Next_c 3 d0).bind fun x1 => (getO [[71, 82], [88], [55, 65]] x1.1).bind fun x2 => (Dice_Next_c 4 x1.2).bind fun x3 => (getO [[70, 85, 82], [65], [65, 66, 67, 68, 69], [70, 85]] x3.1).bind fun x4 => (Dice_Next_c 3 x3.2).bind fun x5 => (getO [[], [48, 48], [49, 48]] x5.1).bind fun x6 => (Dice_Next_c 3 x5.2).bind fun x7 => (getO [[72, 72, 90], [72, 72, 78], [66, 72, 90]] x7.1).bind fun x8 => some ((T_api_SourceID.mk x2 x4 x6 x8), x7.2)
def source_Format_c (a0 : T_api_SourceID) : Option ((List UInt8) × Int) :=
  (source_Valid_c a0).bind fun x1 => if (!x1) = true then (some (([] : (List UInt8)), (1 : Int))) else ((source_parts_c a0).bind fun x3 => (joinO [x3.a0, x3.a1, x3.a2, x3.a3] [46]).bind fun x4 => some (x4, (0 : Int)))
def law03_SourceBack_c (a0 : (List Int)) : Option (Bool) :=
  (made_Light_c a0).bind fun x1 => if (!x1) = true then ((law03_sane_c ).bind fun x3 => some x3) else ((made_Roll_c a0).bind fun x4 => (Dice_Source_c x4).bind fun x5 => (Dice_Source_c x5.2).bind fun x6 => (source_Format_c x5.1).bind fun x7 => (source_Parse_c x7.1).bind fun x8 => (source_Match_c x7.1 x5.1).bind fun x9 => (source_Match_c x7.1 x6.1).bind fun x10 => (source_Match_c [42, 46, 42, 46, 42, 46, 42] x6.1).bind fun x11 => if (x7.2 == (0 : Int)) = true then (if (x8.2 == (0 : Int)) = true then (if ((x8.1.fNetwork == x5.1.fNetwork) && ((x8.1.fStation == x5.1.fStation) && ((x8.1.fLocation == x5.1.fLocation) && ((x8.1.fChannel == x5.1.fChannel) && true)))) = true then (if (x9.2 == (0 : Int)) = true then (if x9.1 = true then (if (x10.2 == (0 : Int)) = true then (if (x10.1 == ((x5.1.fNetwork == x6.1.fNetwork) && ((x5.1.fStation == x6.1.fStation) && ((x5.1.fLocation == x6.1.fLocation) && ((x5.1.fChannel == x6.1.fChannel) && true))))) = true then (if (x11.2 == (0 : Int)) = true then (if x11.1 = true then ((law03_sane_c ).bind fun x21 => some x21) else (some false)) else (some false)) else (some false)) else (some false)) else (some false)) else (some false)) else (some false)) else (some false)) else (some false))
def ref03_compare_c (a0 : (List UInt8)) (a1 : (List UInt8)) : Option (Int) :=
  if (Op.bytesLess a0 a1) = true then (some (-1 : Int)) else (if (!(Op.bytesLess a0 a1 || a0 == a1)) = true then (some (1 : Int)) else (some (0 : Int)))
def ref03_Compare_c (a0 : T_api_SourceID) (a1 : T_api_SourceID) : Option (Int) :=
  (ref03_compare_c a0.fNetwork a1.fNetwork).bind fun x1 => (ref03_compare_c a0.fStation a1.fStation).bind fun x2 => (ref03_compare_c a0.fLocation a1.fLocation).bind fun x3 => (ref03_compare_c a0.fChannel a1.fChannel).bind fun x4 => if ((A4_Int.mk x1 x2 x3 x4).a0 != (0 : Int)) = true then (some ((A4_Int.mk x1 x2 x3 x4).a0)) else (if ((A4_Int.mk x1 x2 x3 x4).a1 != (0 : Int)) = true then (some ((A4_Int.mk x1 x2 x3 x4).a1)) else (if ((A4_Int.mk x1 x2 x3 x4).a2 != (0 : Int)) = true then (some ((A4_Int.mk x1 x2 x3 x4).a2)) else (if ((A4_Int.mk x1 x2 x3 x4).a3 != (0 : Int)) = true then (some ((A4_Int.mk x1 x2 x3 x4).a3)) else (some (0 : Int)))))
theorem made_Light_le (a0 : (List Int)) : Le (made_Light_c a0) (made_Light a0) := by
  unfold made_Light_c made_Light; repeat' (first | with_reducible exact Le.refl _ | with_reducible refine Le.bind ?_ (fun _ => ?_) | with_reducible refine Le.ite ?_ ?_ | with_reducible refine Le.loop (fun _ => ?_) _ _ | (split <;> dsimp only))
theorem source_plain_le (a0 : Int) : Le (source_plain_c a0) (source_plain a0) := by
  unfold source_plain_c source_plain; repeat' (first | with_reducible exact Le.refl _ | with_reducible refine Le.bind ?_ (fun _ => ?_) | with_reducible refine Le.ite ?_ ?_ | with_reducible refine Le.loop (fun _ => ?_) _ _ | (split <;> dsimp only))
theorem source_code_l7_le (a0 : (List UInt8)) (s : _) : Le (source_code_l7_c a0 s) (source_code_l7 a0 s) := by
  unfold source_code_l7_c source_code_l7; (try dsimp only); repeat' (first | with_reducible exact source_plain_le _ | with_reducible exact Le.refl _ | with_reducible refine Le.bind ?_ (fun _ => ?_) | with_reducible refine Le.ite ?_ ?_ | with_reducible refine Le.loop (fun _ => ?_) _ _ | (split <;> dsimp only))
theorem source_code_le (a0 : (List UInt8)) (a1 : Int) (a2 : Int) : Le (source_code_c a0 a1 a2) (source_code a0 a1 a2) := by
  unfold source_code_c source_code; repeat' (first | with_reducible exact source_code_l7_le _ _ | with_reducible exact Le.refl _ | with_reducible refine Le.bind ?_ (fun _ => ?_) | with_reducible refine Le.ite ?_ ?_ | with_reducible refine Le.loop (fun _ => ?_) _ _ | (split <;> dsimp only))
theorem source_Valid_le (a0 : T_api_SourceID) : Le (source_Valid_c a0) (source_Valid a0) := by
  unfold source_Valid_c source_Valid; repeat' (first | with_reducible exact source_code_le _ _ _ | with_reducible exact Le.refl _ | with_reducible refine Le.bind ?_ (fun _ => ?_) | with_reducible refine Le.ite ?_ ?_ | with_reducible refine Le.loop (fun _ => ?_) _ _ | (split <;> dsimp only))
theorem source_pattern_l17_le (x5 : (List UInt8)) (s2 : Int) (s : _) : Le (source_pattern_l17_c x5 s2 s) (source_pattern_l17 x5 s2 s) := by
  unfold source_pattern_l17_c source_pattern_l17; (try dsimp only); repeat' (first | with_reducible exact source_plain_le _ | with_reducible exact Le.refl _ | with_reducible refine Le.bind ?_ (fun _ => ?_) | with_reducible refine Le.ite ?_ ?_ | with_reducible refine Le.loop (fun _ => ?_) _ _ | (split <;> dsimp only))
theorem source_pattern_l22_le (x1 : (List (List UInt8))) (s : _) : Le (source_pattern_l22_c x1 s) (source_pattern_l22 x1 s) := by
  unfold source_pattern_l22_c source_pattern_l22; (try dsimp only); repeat' (first | with_reducible exact source_pattern_l17_le _ _ _ | with_reducible exact Le.refl _ | with_reducible refine Le.bind ?_ (fun _ => ?_) | with_reducible refine Le.ite ?_ ?_ | with_reducible refine Le.loop (fun _ => ?_) _ _ | (split <;> dsimp only))
theorem source_pattern_le (a0 : (List UInt8)) : Le (source_pattern_c a0) (source_pattern a0) := by
  unfold source_pattern_c source_pattern; repeat' (first | with_reducible exact source_pattern_l22_le _ _ | with_reducible exact Le.refl _ | with_reducible refine Le.bind ?_ (fun _ => ?_) | with_reducible refine Le.ite ?_ ?_ | with_reducible refine Le.loop (fun _ => ?_) _ _ | (split <;> dsimp only))
theorem source_parts_le (a0 : T_api_SourceID) : Le (source_parts_c a0) (source_parts a0) := by
  unfold source_parts_c source_parts; repeat' (first | with_reducible exact Le.refl _ | with_reducible refine Le.bind ?_ (fun _ => ?_) | with_reducible refine Le.ite ?_ ?_ | with_reducible refine Le.loop (fun _ => ?_) _ _ | (split <;> dsimp only))
theorem source_fitsN_le : ∀ n x0 x1, Le (source_fitsN_c n x0 x1) (source_fitsN n x0 x1) := by
  intro n; induction n with
  | zero => intros; exact Le.none _
  | succ n ih => intros; unfold source_fitsN_c source_fitsN; repeat' (first | with_reducible exact ih _ _ | with_reducible exact Le.refl _ | with_reducible refine Le.bind ?_ (fun _ => ?_) | with_reducible refine Le.ite ?_ ?_ | with_reducible refine Le.loop (fun _ => ?_) _ _ | (split <;> dsimp only))
theorem source_fitsN_up : ∀ n x0 x1, Le (source_fitsN n x0 x1) (source_fitsN (n + 1) x0 x1) := by
  intro n; induction n with
  | zero => intros; exact Le.none _
  | succ n ih => intros; unfold source_fitsN; repeat' (first | with_reducible exact ih _ _ | with_reducible exact Le.refl _ | with_reducible refine Le.bind ?_ (fun _ => ?_) | with_reducible refine Le.ite ?_ ?_ | with_reducible refine Le.loop (fun _ => ?_) _ _ | (split <;> dsimp only))
theorem source_fits_le (a0 : (List UInt8)) (a1 : (List UInt8)) : Le (source_fits_c a0 a1) (source_fits a0 a1) := (source_fitsN_le _ a0 a1).trans (Le.recO (fun n => source_fitsN_up n a0 a1) _)
theorem source_match_le (a0 : (List (List UInt8))) (a1 : T_api_SourceID) : Le (source_match_c a0 a1) (source_match a0 a1) := by
  unfold source_match_c source_match; repeat' (first | with_reducible exact source_parts_le _ | with_reducible exact source_fits_le _ _ | with_reducible exact Le.refl _ | with_reducible refine Le.bind ?_ (fun _ => ?_) | with_reducible refine Le.ite ?_ ?_ | with_reducible refine Le.loop (fun _ => ?_) _ _ | (split <;> dsimp only))
theorem source_Match_le (a0 : (List UInt8)) (a1 : T_api_SourceID) : Le (source_Match_c a0 a1) (source_Match a0 a1) := by
  unfold source_Match_c source_Match; repeat' (first | with_reducible exact source_pattern_le _ | with_reducible exact source_Valid_le _ | with_reducible exact source_match_le _ _ | with_reducible exact Le.refl _ | with_reducible refine Le.bind ?_ (fun _ => ?_) | with_reducible refine Le.ite ?_ ?_ | with_reducible refine Le.loop (fun _ => ?_) _ _ | (split <;> dsimp only))
theorem source_Parse_le (a0 : (List UInt8)) : Le (source_Parse_c a0) (source_Parse a0) := by
  unfold source_Parse_c source_Parse; repeat' (first | with_reducible exact source_Valid_le _ | with_reducible exact Le.refl _ | with_reducible refine Le.bind ?_ (fun _ => ?_) | with_reducible refine Le.ite ?_ ?_ | with_reducible refine Le.loop (fun _ => ?_) _ _ | (split <;> dsimp only))
theorem law03_sane_le  : Le (law03_sane_c ) (law03_sane ) := by
  unfold law03_sane_c law03_sane; repeat' (first | with_reducible exact source_Parse_le _ | with_reducible exact source_Match_le _ _ | with_reducible exact Le.refl _ | with_reducible refine Le.bind ?_ (fun _ => ?_) | with_reducible refine Le.ite ?_ ?_ | with_reducible refine Le.loop (fun _ => ?_) _ _ | (split <;> dsimp only))
theorem made_Roll_le (a0 : (List Int)) : Le (made_Roll_c a0) (made_Roll a0) := by
  unfold made_Roll_c made_Roll; repeat' (first | with_reducible exact Le.refl _ | with_reducible refine Le.bind ?_ (fun _ => ?_) | with_reducible refine Le.ite ?_ ?_ | with_reducible refine Le.loop (fun _ => ?_) _ _ | (split <;> dsimp only))
theorem Dice_Next_le (a1 : Int) (d0 : T_seismonetmade_Dice) : Le (Dice_Next_c a1 d0) (Dice_Next a1 d0) := by
  unfold Dice_Next_c Dice_Next; repeat' (first | with_reducible exact Le.refl _ | with_reducible refine Le.bind ?_ (fun _ => ?_) | with_reducible refine Le.ite ?_ ?_ | with_reducible refine Le.loop (fun _ => ?_) _ _ | (split <;> dsimp only))
theorem Dice_Source_le (d0 : T_seismonetmade_Dice) : Le (Dice_Source_c d0) (Dice_Source d0) := by
  unfold Dice_Source_c Dice_Source; repeat' (first | with_reducible exact Dice_Next_le _ _ | with_reducible exact Le.refl _ | with_reducible refine Le.bind ?_ (fun _ => ?_) | with_reducible refine Le.ite ?_ ?_ | with_reducible refine Le.loop (fun _ => ?_) _ _ | (split <;> dsimp only))
theorem source_Format_le (a0 : T_api_SourceID) : Le (source_Format_c a0) (source_Format a0) := by
  unfold source_Format_c source_Format; repeat' (first | with_reducible exact source_Valid_le _ | with_reducible exact source_parts_le _ | with_reducible exact Le.refl _ | with_reducible refine Le.bind ?_ (fun _ => ?_) | with_reducible refine Le.ite ?_ ?_ | with_reducible refine Le.loop (fun _ => ?_) _ _ | (split <;> dsimp only))
theorem law03_SourceBack_le (a0 : (List Int)) : Le (law03_SourceBack_c a0) (law03_SourceBack a0) := by
  unfold law03_SourceBack_c law03_SourceBack; repeat' (first | with_reducible exact made_Light_le _ | with_reducible exact law03_sane_le | with_reducible exact made_Roll_le _ | with_reducible exact Dice_Source_le _ | with_reducible exact source_Format_le _ | with_reducible exact source_Parse_le _ | with_reducible exact source_Match_le _ _ | with_reducible exact Le.refl _ | with_reducible refine Le.bind ?_ (fun _ => ?_) | with_reducible refine Le.ite ?_ ?_ | with_reducible refine Le.loop (fun _ => ?_) _ _ | (split <;> dsimp only))
theorem ref03_compare_le (a0 : (List UInt8)) (a1 : (List UInt8)) : Le (ref03_compare_c a0 a1) (ref03_compare a0 a1) := by
  unfold ref03_compare_c ref03_compare; repeat' (first | with_reducible exact Le.refl _ | with_reducible refine Le.bind ?_ (fun _ => ?_) | with_reducible refine Le.ite ?_ ?_ | with_reducible refine Le.loop (fun _ => ?_) _ _ | (split <;> dsimp only))
theorem ref03_Compare_le (a0 : T_api_SourceID) (a1 : T_api_SourceID) : Le (ref03_Compare_c a0 a1) (ref03_Compare a0 a1) := by
  unfold ref03_Compare_c ref03_Compare; repeat' (first | with_reducible exact ref03_compare_le _ _ | with_reducible exact Le.refl _ | with_reducible refine Le.bind ?_ (fun _ => ?_) | with_reducible refine Le.ite ?_ ?_ | with_reducible refine Le.loop (fun _ => ?_) _ _ | (split <;> dsimp only))
end Go.Dw.Sr
