/- Contract of bits.Next. No statement of the seat is proved here. -/
import Derived.Test.YthdbapibbdkclaaGreatDoorProg
import Derived.Test.YthdbapibbdkclaaGreatDoorMP
import Derived.Test.YthdbapibbdkclaaGreatDoorTd
namespace Go.Proofs.YthdbapibbdkclaaGreatDoor
open Go.RowKit
set_option linter.unusedVariables false
set_option linter.unusedSimpArgs false

theorem fV_zero {b : Nat} (h : b % 9223372036854775808 = 0) : fV b = 0 := by
  unfold fV sgn; rw [h, numV_zero]; split <;> rfl
theorem fV_pos {b : Nat} (hb : b < 9223372036854775808) (h : b % 9223372036854775808 ≠ 0) : 0 < fV b := by
  have := numV_lt (h := 52) (show 0 < b by omega)
  unfold fV sgn
  rw [decide_eq_false (by omega), Nat.mod_eq_of_lt hb]
  simp only [Bool.false_eq_true, if_false]
  omega
theorem fV_neg {b : Nat} (hb : 9223372036854775808 ≤ b) (h : b % 9223372036854775808 ≠ 0) : fV b < 0 := by
  have := numV_lt (h := 52) (show 0 < b % 9223372036854775808 by omega)
  unfold fV sgn
  rw [decide_eq_true hb]
  simp only [if_true]
  omega
theorem run_eqlF {a b : Nat} (W : World) (ha : a < 18446744073709551616) (hb : b < 18446744073709551616) (ka : a % 9223372036854775808 ≤ 9218868437227405312) (kb : b % 9223372036854775808 ≤ 9218868437227405312) (h : fV a ≠ fV b) : (binOp .eql 30 (.float .f64 a) (.float .f64 b)).run Tryz.prog W = .ok (.bool false) W := by
  have e : (binOp .eql 30 (.float .f64 a) (.float .f64 b)).run Tryz.prog W = .ok (.bool (FloatKind.f64.format.order a b == some .eq)) W := rfl
  rw [e, order64 ha hb ka kb]
  unfold cmpZ
  split
  · rfl
  · first | rfl | (rw [if_neg h]; rfl)
theorem run_lssT {a b : Nat} (W : World) (ha : a < 18446744073709551616) (hb : b < 18446744073709551616) (ka : a % 9223372036854775808 ≤ 9218868437227405312) (kb : b % 9223372036854775808 ≤ 9218868437227405312) (h : fV a < fV b) : (binOp .lss 30 (.float .f64 a) (.float .f64 b)).run Tryz.prog W = .ok (.bool true) W := by
  have e : (binOp .lss 30 (.float .f64 a) (.float .f64 b)).run Tryz.prog W = .ok (.bool (FloatKind.f64.format.order a b == some .lt)) W := rfl
  rw [e, order64 ha hb ka kb, cmpZ_lt h]; rfl

set_option maxRecDepth 10000 in
set_option maxHeartbeats 2000000 in
theorem isinf1_any (b : Nat) (W : World) (hb : b < 18446744073709551616) (kb : b % 9223372036854775808 ≤ 9218868437227405312) (hne : b ≠ 9218868437227405312) : Calls Tryz.prog 167 #[.float .f64 b, .int .i64 1] W fun en w' => en = .returned (.bool false) ∧ W = w' := by
  have hle : fV b ≤ fV 9218868437227405311 := by
    by_cases h0 : b % 9223372036854775808 = 0
    · rw [fV_zero h0]
      exact Int.le_of_lt (fV_pos (by decide) (by decide))
    · by_cases h1 : 9223372036854775808 ≤ b
      · have := fV_neg h1 h0
        have := fV_pos (b := 9218868437227405311) (by decide) (by decide)
        omega
      · unfold fV sgn
        rw [decide_eq_false h1, decide_eq_false (by decide)]
        simp only [Bool.false_eq_true, if_false]
        have := numV_le (h := 52) (show b % 9223372036854775808 ≤ 9218868437227405311 % 9223372036854775808 by omega)
        omega
  have h1 : ∀ W, (binOp .gtr 30 (.float .f64 b) (.float .f64 9218868437227405311)).run Tryz.prog W = .ok (.bool false) W := fun W => run_gtr64 W hb (by decide) kb (by decide) hle
  clear hle hb kb hne
  go_enter Tryz.func167, Tryz.ntmps167
  go_wp2_with fail
  go_ret
  exact ⟨rfl, rfl⟩

end Go.Proofs.YthdbapibbdkclaaGreatDoor
