
import Derived.Test.YtjecbkklfphblaaGreatSlCo

set_option maxRecDepth 100000
set_option maxHeartbeats 4000000
namespace Go.Dw.Sl
open Go.Dw
theorem late1_0 : am 0 1 = some true := ak _ _ _ (by kernel_rfl)
theorem late1_1 : am 1 1 = some true := ak _ _ _ (by kernel_rfl)
theorem late1_2 : am 2 1 = some true := ak _ _ _ (by kernel_rfl)
theorem late1_3 : am 3 1 = some true := ak _ _ _ (by kernel_rfl)
theorem late1_4 : am 4 1 = some true := ak _ _ _ (by kernel_rfl)
theorem late1_5 : am 5 1 = some true := ak _ _ _ (by kernel_rfl)
theorem late1_6 : am 6 1 = some true := ak _ _ _ (by kernel_rfl)
theorem late1_7 : am 7 1 = some true := ak _ _ _ (by kernel_rfl)
theorem late1_8 : am 8 1 = some true := ak _ _ _ (by kernel_rfl)
theorem late1_9 : am 9 1 = some true := ak _ _ _ (by kernel_rfl)
theorem late1_10 : am 10 1 = some true := ak _ _ _ (by kernel_rfl)
theorem late1_11 : am 11 1 = some true := ak _ _ _ (by kernel_rfl)
theorem late1_12 : am 12 1 = some true := ak _ _ _ (by kernel_rfl)
theorem late1_13 : am 13 1 = some true := ak _ _ _ (by kernel_rfl)
theorem late1_14 : am 14 1 = some true := ak _ _ _ (by kernel_rfl)
theorem late1_15 : am 15 1 = some true := ak _ _ _ (by kernel_rfl)
theorem late1_16 : am 16 1 = some true := ak _ _ _ (by kernel_rfl)
theorem late1_17 : am 17 1 = some true := ak _ _ _ (by kernel_rfl)
theorem late1_18 : am 18 1 = some true := ak _ _ _ (by kernel_rfl)
theorem late1_19 : am 19 1 = some true := ak _ _ _ (by kernel_rfl)
theorem late1 : ∀ d : Nat, d < 20 → am (d : Int) 1 = some true
  | 0, _ => late1_0
  | 1, _ => late1_1
  | 2, _ => late1_2
  | 3, _ => late1_3
  | 4, _ => late1_4
  | 5, _ => late1_5
  | 6, _ => late1_6
  | 7, _ => late1_7
  | 8, _ => late1_8
  | 9, _ => late1_9
  | 10, _ => late1_10
  | 11, _ => late1_11
  | 12, _ => late1_12
  | 13, _ => late1_13
  | 14, _ => late1_14
  | 15, _ => late1_15
  | 16, _ => late1_16
  | 17, _ => late1_17
  | 18, _ => late1_18
  | 19, _ => late1_19
  | d + 20, h => absurd h (by omega)
end Go.Dw.Sl
