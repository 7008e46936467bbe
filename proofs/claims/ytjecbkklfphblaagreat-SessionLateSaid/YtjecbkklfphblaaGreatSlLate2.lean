
import Derived.Test.YtjecbkklfphblaaGreatSlCo

set_option maxRecDepth 100000
set_option maxHeartbeats 4000000
namespace Go.Dw.Sl
open Go.Dw
theorem late2_0 : am 0 2 = some true := ak _ _ _ (by kernel_rfl)
theorem late2_1 : am 1 2 = some true := ak _ _ _ (by kernel_rfl)
theorem late2_2 : am 2 2 = some true := ak _ _ _ (by kernel_rfl)
theorem late2_3 : am 3 2 = some true := ak _ _ _ (by kernel_rfl)
theorem late2_4 : am 4 2 = some true := ak _ _ _ (by kernel_rfl)
theorem late2_5 : am 5 2 = some true := ak _ _ _ (by kernel_rfl)
theorem late2_6 : am 6 2 = some true := ak _ _ _ (by kernel_rfl)
theorem late2_7 : am 7 2 = some true := ak _ _ _ (by kernel_rfl)
theorem late2_8 : am 8 2 = some true := ak _ _ _ (by kernel_rfl)
theorem late2_9 : am 9 2 = some true := ak _ _ _ (by kernel_rfl)
theorem late2_10 : am 10 2 = some true := ak _ _ _ (by kernel_rfl)
theorem late2_11 : am 11 2 = some true := ak _ _ _ (by kernel_rfl)
theorem late2_12 : am 12 2 = some true := ak _ _ _ (by kernel_rfl)
theorem late2_13 : am 13 2 = some true := ak _ _ _ (by kernel_rfl)
theorem late2_14 : am 14 2 = some true := ak _ _ _ (by kernel_rfl)
theorem late2_15 : am 15 2 = some true := ak _ _ _ (by kernel_rfl)
theorem late2_16 : am 16 2 = some true := ak _ _ _ (by kernel_rfl)
theorem late2_17 : am 17 2 = some true := ak _ _ _ (by kernel_rfl)
theorem late2_18 : am 18 2 = some true := ak _ _ _ (by kernel_rfl)
theorem late2_19 : am 19 2 = some true := ak _ _ _ (by kernel_rfl)
theorem late2 : ∀ d : Nat, d < 20 → am (d : Int) 2 = some true
  | 0, _ => late2_0
  | 1, _ => late2_1
  | 2, _ => late2_2
  | 3, _ => late2_3
  | 4, _ => late2_4
  | 5, _ => late2_5
  | 6, _ => late2_6
  | 7, _ => late2_7
  | 8, _ => late2_8
  | 9, _ => late2_9
  | 10, _ => late2_10
  | 11, _ => late2_11
  | 12, _ => late2_12
  | 13, _ => late2_13
  | 14, _ => late2_14
  | 15, _ => late2_15
  | 16, _ => late2_16
  | 17, _ => late2_17
  | 18, _ => late2_18
  | 19, _ => late2_19
  | d + 20, h => absurd h (by omega)
end Go.Dw.Sl
