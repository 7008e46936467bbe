
import Derived.Test.YtjecbkklfphblaaGreatSlCo

set_option maxRecDepth 100000
set_option maxHeartbeats 4000000
namespace Go.Dw.Sl
open Go.Dw
theorem late3_0 : am 0 3 = some true := ak _ _ _ (by kernel_rfl)
theorem late3_1 : am 1 3 = some true := ak _ _ _ (by kernel_rfl)
theorem late3_2 : am 2 3 = some true := ak _ _ _ (by kernel_rfl)
theorem late3_3 : am 3 3 = some true := ak _ _ _ (by kernel_rfl)
theorem late3_4 : am 4 3 = some true := ak _ _ _ (by kernel_rfl)
theorem late3_5 : am 5 3 = some true := ak _ _ _ (by kernel_rfl)
theorem late3_6 : am 6 3 = some true := ak _ _ _ (by kernel_rfl)
theorem late3_7 : am 7 3 = some true := ak _ _ _ (by kernel_rfl)
theorem late3_8 : am 8 3 = some true := ak _ _ _ (by kernel_rfl)
theorem late3_9 : am 9 3 = some true := ak _ _ _ (by kernel_rfl)
theorem late3_10 : am 10 3 = some true := ak _ _ _ (by kernel_rfl)
theorem late3_11 : am 11 3 = some true := ak _ _ _ (by kernel_rfl)
theorem late3_12 : am 12 3 = some true := ak _ _ _ (by kernel_rfl)
theorem late3_13 : am 13 3 = some true := ak _ _ _ (by kernel_rfl)
theorem late3_14 : am 14 3 = some true := ak _ _ _ (by kernel_rfl)
theorem late3_15 : am 15 3 = some true := ak _ _ _ (by kernel_rfl)
theorem late3_16 : am 16 3 = some true := ak _ _ _ (by kernel_rfl)
theorem late3_17 : am 17 3 = some true := ak _ _ _ (by kernel_rfl)
theorem late3_18 : am 18 3 = some true := ak _ _ _ (by kernel_rfl)
theorem late3_19 : am 19 3 = some true := ak _ _ _ (by kernel_rfl)
theorem late3 : ∀ d : Nat, d < 20 → am (d : Int) 3 = some true
  | 0, _ => late3_0
  | 1, _ => late3_1
  | 2, _ => late3_2
  | 3, _ => late3_3
  | 4, _ => late3_4
  | 5, _ => late3_5
  | 6, _ => late3_6
  | 7, _ => late3_7
  | 8, _ => late3_8
  | 9, _ => late3_9
  | 10, _ => late3_10
  | 11, _ => late3_11
  | 12, _ => late3_12
  | 13, _ => late3_13
  | 14, _ => late3_14
  | 15, _ => late3_15
  | 16, _ => late3_16
  | 17, _ => late3_17
  | 18, _ => late3_18
  | 19, _ => late3_19
  | d + 20, h => absurd h (by omega)
end Go.Dw.Sl
