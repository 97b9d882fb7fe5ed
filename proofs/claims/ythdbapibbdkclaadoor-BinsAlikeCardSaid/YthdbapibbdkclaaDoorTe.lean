/- Contract of bits.Next. No statement of the seat is proved here. -/
import Derived.Test.YthdbapibbdkclaaDoorProg
import Derived.Test.YthdbapibbdkclaaDoorMP
import Derived.Test.YthdbapibbdkclaaDoorTd
namespace Go.Proofs.YthdbapibbdkclaaDoor
open Go.RowKit
set_option linter.unusedVariables false
set_option linter.unusedSimpArgs false

theorem fV_zero {b : Nat} (h : b % 9223372036854775808 = 0) : fV b = 0 := by
  unfold fV sgn; rw [h, numV_zero]; split <;> rfl
theorem fV_pos {b : Nat} (hb : b < 9223372036854775808) (h : b % 9223372036854775808 ≠ 0) : 0 < fV b := by
  have := numV_lt (h := 52) (show 0 < b by omega)
  unfold fV sgn
  rw [decide_eq_false (by omega), Nat.mod_eq_of_lt hb]
  simp only [Bool.false_eq_true, if_false]
  omega
theorem fV_neg {b : Nat} (hb : 9223372036854775808 ≤ b) (h : b % 9223372036854775808 ≠ 0) : fV b < 0 := by
  have := numV_lt (h := 52) (show 0 < b % 9223372036854775808 by omega)
  unfold fV sgn
  rw [decide_eq_true hb]
  simp only [if_true]
  omega
theorem run_eqlF {a b : Nat} (W : World) (ha : a < 18446744073709551616) (hb : b < 18446744073709551616) (ka : a % 9223372036854775808 ≤ 9218868437227405312) (kb : b % 9223372036854775808 ≤ 9218868437227405312) (h : fV a ≠ fV b) : (binOp .eql 36 (.float .f64 a) (.float .f64 b)).run Tryd.prog W = .ok (.bool false) W := by
  have e : (binOp .eql 36 (.float .f64 a) (.float .f64 b)).run Tryd.prog W = .ok (.bool (FloatKind.f64.format.order a b == some .eq)) W := rfl
  rw [e, order64 ha hb ka kb]
  unfold cmpZ
  split
  · rfl
  · first | rfl | (rw [if_neg h]; rfl)
theorem run_lssT {a b : Nat} (W : World) (ha : a < 18446744073709551616) (hb : b < 18446744073709551616) (ka : a % 9223372036854775808 ≤ 9218868437227405312) (kb : b % 9223372036854775808 ≤ 9218868437227405312) (h : fV a < fV b) : (binOp .lss 36 (.float .f64 a) (.float .f64 b)).run Tryd.prog W = .ok (.bool true) W := by
  have e : (binOp .lss 36 (.float .f64 a) (.float .f64 b)).run Tryd.prog W = .ok (.bool (FloatKind.f64.format.order a b == some .lt)) W := rfl
  rw [e, order64 ha hb ka kb, cmpZ_lt h]; rfl

set_option maxRecDepth 10000 in
set_option maxHeartbeats 2000000 in
theorem isinf1_any (b : Nat) (W : World) (hb : b < 18446744073709551616) (kb : b % 9223372036854775808 ≤ 9218868437227405312) (hne : b ≠ 9218868437227405312) : Calls Tryd.prog 104 #[.float .f64 b, .int .i64 1] W fun en w' => en = .returned (.bool false) ∧ W = w' := by
  have hle : fV b ≤ fV 9218868437227405311 := by
    by_cases h0 : b % 9223372036854775808 = 0
    · rw [fV_zero h0]
      exact Int.le_of_lt (fV_pos (by decide) (by decide))
    · by_cases h1 : 9223372036854775808 ≤ b
      · have := fV_neg h1 h0
        have := fV_pos (b := 9218868437227405311) (by decide) (by decide)
        omega
      · unfold fV sgn
        rw [decide_eq_false h1, decide_eq_false (by decide)]
        simp only [Bool.false_eq_true, if_false]
        have := numV_le (h := 52) (show b % 9223372036854775808 ≤ 9218868437227405311 % 9223372036854775808 by omega)
        omega
  have h1 : ∀ W, (binOp .gtr 36 (.float .f64 b) (.float .f64 9218868437227405311)).run Tryd.prog W = .ok (.bool false) W := fun W => run_gtr64 W hb (by decide) kb (by decide) hle
  clear hle hb kb hne
  go_enter Tryd.func104, Tryd.ntmps104
  go_wp2_with fail
  go_ret
  exact ⟨rfl, rfl⟩

set_option maxRecDepth 10000 in
set_option maxHeartbeats 4000000 in
theorem next_any (b : Nat) (W : World) (hb : b < 18446744073709551616) (kb : b % 9223372036854775808 ≤ 9218868437227405312) (hne : b ≠ 9218868437227405312) : Calls Tryd.prog 50 #[.float .f64 b] W fun en w' => en = .returned (.float .f64 (nextB b)) ∧ W = w' := by
  have hI := Lib.hid (isinf1_any b W hb kb hne)
  have e1 : ∀ W, (binOp .neq 36 (.float .f64 b) (.float .f64 b)).run Tryd.prog W = .ok (.bool false) W := fun W => run_neq64 W hb hb kb kb rfl
  have z0 : fV 0 = 0 := fV_zero rfl
  have x1 := ext_bits64 b
  by_cases h0 : b % 9223372036854775808 = 0
  · have e2 : ∀ W, (binOp .eql 36 (.float .f64 b) (.float .f64 0)).run Tryd.prog W = .ok (.bool true) W := fun W => run_eql64 W hb (by decide) kb (by decide) (by rw [fV_zero h0, z0])
    have x2 : ∀ w : World, (callFunc 90 #[.int .u64 1]).run Tryd.prog w = .ok (.value (.float .f64 1)) w := ext_from64 1
    have hn : nextB b = 1 := by unfold nextB; rw [if_pos h0]
    rw [hn]
    clear hn h0 hb kb hne z0
    go_enter Tryd.func50, Tryd.ntmps50
    go_wp2_with fail
    go_ret
    exact ⟨rfl, rfl⟩
  · by_cases h1 : 9223372036854775808 ≤ b
    · have e2 : ∀ W, (binOp .eql 36 (.float .f64 b) (.float .f64 0)).run Tryd.prog W = .ok (.bool false) W := fun W => run_eqlF W hb (by decide) kb (by decide) (by have := fV_neg h1 h0; omega)
      have e3 : ∀ W, (binOp .lss 36 (.float .f64 b) (.float .f64 0)).run Tryd.prog W = .ok (.bool true) W := fun W => run_lssT W hb (by decide) kb (by decide) (by have := fV_neg h1 h0; omega)
      have x2 := ext_from64 (b - 1)
      have hn : nextB b = b - 1 := by unfold nextB; rw [if_neg h0, if_pos h1]
      have hs : ((b : Int) - 1) = ((b - 1 : Nat) : Int) := by omega
      rw [hn]
      rw [← hs] at x2
      clear hs
      have u1 : 1 ≤ (b : Int) := by omega
      have u2 : (b : Int) < 18446744073709551616 := by omega
      clear hn h0 kb hne z0 h1
      go_enter Tryd.func50, Tryd.ntmps50
      go_wp2_with fail
      go_ret
      exact ⟨rfl, rfl⟩
    · have e2 : ∀ W, (binOp .eql 36 (.float .f64 b) (.float .f64 0)).run Tryd.prog W = .ok (.bool false) W := fun W => run_eqlF W hb (by decide) kb (by decide) (by have := fV_pos (by omega) h0; omega)
      have e3 : ∀ W, (binOp .lss 36 (.float .f64 b) (.float .f64 0)).run Tryd.prog W = .ok (.bool false) W := fun W => run_lss64 W hb (by decide) kb (by decide) (by have := fV_pos (by omega) h0; omega)
      have x2 := ext_from64 (b + 1)
      rw [show ((b + 1 : Nat) : Int) = (b : Int) + 1 from by omega] at x2
      have hn : nextB b = b + 1 := by unfold nextB; rw [if_neg h0, if_neg h1]
      rw [hn]
      have u2 : (b : Int) + 1 < 18446744073709551616 := by omega
      clear hn h0 kb hne z0 h1
      go_enter Tryd.func50, Tryd.ntmps50
      go_wp2_with fail
      refine hI.out.mono ?_; rintro en w' ⟨rfl, rfl⟩
      go_wp2_with fail
      go_ret
      exact ⟨rfl, rfl⟩
end Go.Proofs.YthdbapibbdkclaaDoor
