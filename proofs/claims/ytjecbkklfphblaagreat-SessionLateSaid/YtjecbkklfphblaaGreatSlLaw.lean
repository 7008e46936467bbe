
import Derived.Test.YtjecbkklfphblaaGreatSlLate0
import Derived.Test.YtjecbkklfphblaaGreatSlLate1
import Derived.Test.YtjecbkklfphblaaGreatSlLate2
import Derived.Test.YtjecbkklfphblaaGreatSlLate3
import Derived.Test.YtjecbkklfphblaaGreatDwPlain





set_option maxRecDepth 100000
set_option maxHeartbeats 4000000
namespace Go.Dw.Sl
open Go.Dw Go.Proofs

theorem late_at {d n : Nat} (hd : d < 20) (hn : n < 4) : am (d : Int) (n : Int) = some true := by
  have : n = 0 ∨ n = 1 ∨ n = 2 ∨ n = 3 := by omega
  rcases this with rfl | rfl | rfl | rfl
  · exact late0 d hd
  · exact late1 d hd
  · exact late2 d hd
  · exact late3 d hd
theorem rem_at {a : Int} {k : Nat} (h0 : 0 ≤ a) (h1 : a < 1000) (hk : 0 < k) (hk' : k < 1000) : remO (IntKind.wrap .i64 a) (k : Int) = some ((a.toNat % k : Nat) : Int) := by
  unfold remO
  rw [if_neg (by omega), w64 (by omega) (by omega)]
  obtain ⟨n, rfl⟩ : ∃ n : Nat, a = n := ⟨a.toNat, by omega⟩
  rfl
theorem law_SessionLate {a b : Int} (ha : 0 ≤ a ∧ a < 256) (hb : 0 ≤ b ∧ b < 256) : am a b = some true := by
  have h := late_at (d := a.toNat % 20) (n := b.toNat % 4) (by omega) (by omega)
  have e1 : remO (IntKind.wrap .i64 a) 20 = remO (IntKind.wrap .i64 ((a.toNat % 20 : Nat) : Int)) 20 := by
    have g1 := rem_at (a := a) (k := 20) ha.1 (by omega) (by omega) (by omega)
    have g2 := rem_at (a := ((a.toNat % 20 : Nat) : Int)) (k := 20) (by omega) (by omega) (by omega) (by omega)
    rw [Int.toNat_natCast, Nat.mod_mod] at g2
    exact g1.trans g2.symm
  have e2 : remO (IntKind.wrap .i64 b) 4 = remO (IntKind.wrap .i64 ((b.toNat % 4 : Nat) : Int)) 4 := by
    have g1 := rem_at (a := b) (k := 4) hb.1 (by omega) (by omega) (by omega)
    have g2 := rem_at (a := ((b.toNat % 4 : Nat) : Int)) (k := 4) (by omega) (by omega) (by omega) (by omega)
    rw [Int.toNat_natCast, Nat.mod_mod] at g2
    exact g1.trans g2.symm
  unfold am at h ⊢
  rw [e1, e2]
  exact h
end Go.Dw.Sl
