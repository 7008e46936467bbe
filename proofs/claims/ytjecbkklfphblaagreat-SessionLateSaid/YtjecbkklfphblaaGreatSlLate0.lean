
import Derived.Test.YtjecbkklfphblaaGreatSlCo

set_option maxRecDepth 100000
set_option maxHeartbeats 4000000
namespace Go.Dw.Sl
open Go.Dw
theorem late0_0 : am 0 0 = some true := ak _ _ _ (by kernel_rfl)
theorem late0_1 : am 1 0 = some true := ak _ _ _ (by kernel_rfl)
theorem late0_2 : am 2 0 = some true := ak _ _ _ (by kernel_rfl)
theorem late0_3 : am 3 0 = some true := ak _ _ _ (by kernel_rfl)
theorem late0_4 : am 4 0 = some true := ak _ _ _ (by kernel_rfl)
theorem late0_5 : am 5 0 = some true := ak _ _ _ (by kernel_rfl)
theorem late0_6 : am 6 0 = some true := ak _ _ _ (by kernel_rfl)
theorem late0_7 : am 7 0 = some true := ak _ _ _ (by kernel_rfl)
theorem late0_8 : am 8 0 = some true := ak _ _ _ (by kernel_rfl)
theorem late0_9 : am 9 0 = some true := ak _ _ _ (by kernel_rfl)
theorem late0_10 : am 10 0 = some true := ak _ _ _ (by kernel_rfl)
theorem late0_11 : am 11 0 = some true := ak _ _ _ (by kernel_rfl)
theorem late0_12 : am 12 0 = some true := ak _ _ _ (by kernel_rfl)
theorem late0_13 : am 13 0 = some true := ak _ _ _ (by kernel_rfl)
theorem late0_14 : am 14 0 = some true := ak _ _ _ (by kernel_rfl)
theorem late0_15 : am 15 0 = some true := ak _ _ _ (by kernel_rfl)
theorem late0_16 : am 16 0 = some true := ak _ _ _ (by kernel_rfl)
theorem late0_17 : am 17 0 = some true := ak _ _ _ (by kernel_rfl)
theorem late0_18 : am 18 0 = some true := ak _ _ _ (by kernel_rfl)
theorem late0_19 : am 19 0 = some true := ak _ _ _ (by kernel_rfl)
theorem late0 : ∀ d : Nat, d < 20 → am (d : Int) 0 = some true
  | 0, _ => late0_0
  | 1, _ => late0_1
  | 2, _ => late0_2
  | 3, _ => late0_3
  | 4, _ => late0_4
  | 5, _ => late0_5
  | 6, _ => late0_6
  | 7, _ => late0_7
  | 8, _ => late0_8
  | 9, _ => late0_9
  | 10, _ => late0_10
  | 11, _ => late0_11
  | 12, _ => late0_12
  | 13, _ => late0_13
  | 14, _ => late0_14
  | 15, _ => late0_15
  | 16, _ => late0_16
  | 17, _ => late0_17
  | 18, _ => late0_18
  | 19, _ => late0_19
  | d + 20, h => absurd h (by omega)
end Go.Dw.Sl
