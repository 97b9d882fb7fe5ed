/- Contracts of steelyardref05's small ones, Plus, Minus: a step of numbers by definition. No statement of the seat is proved here. -/
import Derived.Test.YthdbapibbdkclaaGreatDoorProg
import Derived.Test.YthdbapibbdkclaaGreatDoorGa
import Derived.Test.YthdbapibbdkclaaGreatDoorFl
namespace Go.Proofs.YthdbapibbdkclaaGreatDoor
open Go.RowKit
set_option maxRecDepth 10000
set_option linter.unusedVariables false
set_option linter.unusedSimpArgs false

theorem sign_bits {x : Nat} (hx : x < 18446744073709551616) : bits .and .u64 (x : Int) 9223372036854775808 = (if 9223372036854775808 ≤ x then 9223372036854775808 else 0) := by
  show IntKind.u64.wrap ((BitVec.ofInt 64 (x : Int) &&& BitVec.ofInt 64 9223372036854775808).toNat : Int) = _
  rw [BitVec.toNat_and]
  have h1 : (BitVec.ofInt 64 (x : Int)).toNat = x := by rw [BitVec.toNat_ofInt]; omega
  have h2 : (BitVec.ofInt 64 (9223372036854775808 : Int)).toNat = 2 ^ 63 := by decide
  rw [h1, h2]
  have m1 : (x &&& 2 ^ 63) % 2 ^ 63 = 0 := by rw [Nat.and_mod_two_pow, Nat.mod_self, Nat.and_zero]
  have m2 : (x &&& 2 ^ 63) / 2 ^ 63 = x / 2 ^ 63 &&& 1 := by rw [Nat.and_div_two_pow, Nat.div_self (by decide)]
  generalize x &&& 2 ^ 63 = z at *
  by_cases q : 9223372036854775808 ≤ x
  · rw [show x / 2 ^ 63 = 1 by omega, show (1 &&& 1 : Nat) = 1 from rfl] at m2
    rw [if_pos q, show z = 9223372036854775808 by omega]; rfl
  · rw [show x / 2 ^ 63 = 0 by omega, show (0 &&& 1 : Nat) = 0 from rfl] at m2
    rw [if_neg q, show z = 0 by omega]; rfl
theorem turn_bits {x : Nat} (hx : x < 18446744073709551616) : bits .xor .u64 (x : Int) 9223372036854775808 = (turnB x : Int) := by
  show IntKind.u64.wrap ((BitVec.ofInt 64 (x : Int) ^^^ BitVec.ofInt 64 9223372036854775808).toNat : Int) = _
  rw [BitVec.toNat_xor]
  have h1 : (BitVec.ofInt 64 (x : Int)).toNat = x := by rw [BitVec.toNat_ofInt]; omega
  have h2 : (BitVec.ofInt 64 (9223372036854775808 : Int)).toNat = 2 ^ 63 := by decide
  rw [h1, h2]
  have m1 : (x ^^^ 2 ^ 63) % 2 ^ 63 = x % 2 ^ 63 := by rw [Nat.xor_mod_two_pow, Nat.mod_self, Nat.xor_zero]
  have m2 : (x ^^^ 2 ^ 63) / 2 ^ 63 = x / 2 ^ 63 ^^^ 1 := by rw [Nat.xor_div_two_pow, Nat.div_self (by decide)]
  have e : x ^^^ 2 ^ 63 = turnB x := by
    unfold turnB
    generalize x ^^^ 2 ^ 63 = z at *
    by_cases q : 9223372036854775808 ≤ x
    · rw [if_pos q]
      rw [show x / 2 ^ 63 = 1 by omega, show (1 ^^^ 1 : Nat) = 0 from rfl] at m2
      omega
    · rw [if_neg q]
      rw [show x / 2 ^ 63 = 0 by omega, show (0 ^^^ 1 : Nat) = 1 from rfl] at m2
      omega
  rw [e]
  exact wrap_u64_nat _ (turnB_lt hx)
theorem isodd_any (x : Nat) (w : World) (hx : x < 18446744073709551616) : Calls Tryz.prog 142 #[.float .f64 x] w fun en w' => en = .returned (.bool (decide (9218868437227405312 < x % 9223372036854775808))) ∧ w = w' := by
  have h1 := ext_bits64 x
  have b1 := abs_bits hx
  clear hx
  generalize x % 9223372036854775808 = y at *
  have e : decide ((9218868437227405312 : Int) < (y : Int)) = decide (9218868437227405312 < y) := decide_eq_decide.2 (by omega)
  go_enter Tryz.func142, Tryz.ntmps142
  go_wp2_with fail
  go_ret
  exact ⟨rfl, rfl⟩
theorem isendless_any (x : Nat) (w : World) (hx : x < 18446744073709551616) : Calls Tryz.prog 143 #[.float .f64 x] w fun en w' => en = .returned (.bool (decide (x % 9223372036854775808 = 9218868437227405312))) ∧ w = w' := by
  have h1 := ext_bits64 x
  have b1 := abs_bits hx
  clear hx
  generalize x % 9223372036854775808 = y at *
  have e : ((y : Int) == 9218868437227405312) = decide (y = 9218868437227405312) := decide_eq_decide.2 (by omega)
  go_enter Tryz.func143, Tryz.ntmps143
  go_wp2_with fail
  go_ret
  exact ⟨rfl, rfl⟩
theorem neg_any (x : Nat) (w : World) (hx : x < 18446744073709551616) : Calls Tryz.prog 144 #[.float .f64 x] w fun en w' => en = .returned (.bool (decide (9223372036854775808 ≤ x))) ∧ w = w' := by
  have h1 := ext_bits64 x
  have b1 := sign_bits hx
  clear hx
  by_cases q : 9223372036854775808 ≤ x
  · rw [if_pos q] at b1
    rw [decide_eq_true q]
    clear q
    go_enter Tryz.func144, Tryz.ntmps144
    go_wp2_with fail
    go_ret
    exact ⟨rfl, rfl⟩
  · rw [if_neg q] at b1
    rw [decide_eq_false q]
    clear q
    go_enter Tryz.func144, Tryz.ntmps144
    go_wp2_with fail
    go_ret
    exact ⟨rfl, rfl⟩
theorem oddv_any (w : World) : Calls Tryz.prog 145 #[] w fun en w' => en = .returned (.float .f64 nan64) ∧ w = w' := by
  have h1 := ext_from64 9221120237041090560
  rw [show ((9221120237041090560 : Nat) : Int) = 9221120237041090560 from rfl] at h1
  go_enter Tryz.func145, Tryz.ntmps145
  go_wp2_with fail
  go_ret
  exact ⟨rfl, rfl⟩
theorem signed0_any (s : Bool) (w : World) : Calls Tryz.prog 146 #[.int .u64 0, .bool s] w fun en w' => en = .returned (.float .f64 (if s = true then 9223372036854775808 else 0)) ∧ w = w' := by
  have b1 : bits .or .u64 0 9223372036854775808 = 9223372036854775808 := by kernel_rfl
  cases s
  · have h1 := ext_from64 0
    rw [show ((0 : Nat) : Int) = 0 from rfl] at h1
    go_enter Tryz.func146, Tryz.ntmps146
    go_wp2_with fail
    go_ret
    exact ⟨rfl, rfl⟩
  · have h1 := ext_from64 9223372036854775808
    rw [show ((9223372036854775808 : Nat) : Int) = 9223372036854775808 from rfl] at h1
    go_enter Tryz.func146, Tryz.ntmps146
    go_wp2_with fail
    go_ret
    exact ⟨rfl, rfl⟩
theorem turned5_any (x : Nat) (w : World) (hx : x < 18446744073709551616) : Calls Tryz.prog 147 #[.float .f64 x] w fun en w' => en = .returned (.float .f64 (turnB x)) ∧ w = w' := by
  have h1 := ext_bits64 x
  have h2 := ext_from64 (turnB x)
  have b1 := turn_bits hx
  clear hx
  generalize turnB x = y at *
  go_enter Tryz.func147, Tryz.ntmps147
  go_wp2_with fail
  go_ret
  exact ⟨rfl, rfl⟩
theorem rOf {v : Nat} {p : D} (hv : v < 18446744073709551616) (hp : ofF v = some p) (ok : p.Ok) (W : World) : Calls Tryz.prog 121 #[.float .f64 v] W (OutDE p W) := by
  refine (rofd_any v W hv).mono ?_
  rintro en w' ⟨u, rfl, ⟨a, c, rfl, h1⟩, h2⟩
  rw [hp] at h1 ⊢
  exact ⟨a, c, rfl, h1, h2⟩
theorem rAdd {p q d : D} {x y z : Int} (hp : Dz p x) (hq : Dz q y) (hd : addD p q = some d) (hz : Dz d z) (a a' : Option Addr) (c c' : Nat) (W : World) (h1 : (argOf p a c).Ok W) (h2 : (argOf q a' c').Ok W) : Calls Tryz.prog 129 #[DV p a c, DV q a' c'] W (OutDE d W) := by
  refine (radd_any (argOf p a c) (argOf q a' c') W h1 h2).mono fun en w' h => came_out h ?_ hz.ok
  rw [argF hp.is hp.ok, argF hq.is hq.ok]; exact hd
theorem rRound {d : D} {z : Int} {r : Nat} (hz : Dz d z) (hr : RoundsTo 52 (-1074) 9218868437227405312 9223372036854775808 0 (some d) r 0) (a : Option Addr) (c : Nat) (W : World) (h1 : (argOf d a c).Ok W) : Calls Tryz.prog 123 #[DV d a c, .int .i64 0] W fun en w' => en = .returned (.tuple #[.float .f64 r, .int .i64 0]) ∧ Below W.heap.size W w' := by
  refine (rround_any (argOf d a c) 0 W h1).mono ?_
  rintro en w' ⟨⟨r', er, rfl, h2⟩, h3⟩
  rw [argF hz.is hz.ok] at h2
  obtain ⟨rfl, rfl⟩ := h2.uniq hr
  exact ⟨rfl, h3⟩
end Go.Proofs.YthdbapibbdkclaaGreatDoor
