/- Equality of arrays; contracts of super's special and Round where mode and policy may be. Contract of super's Round where mode and policy may be. Contracts: math.Ldexp at 1, 1000; steelyardlaw07.live. Contract of steelyardlaw07.live; an accumulator of few things. The walk of steelyardlaw07.SuperNumbers: true, in every world whose table of math/bits is laid. No statement of the seat is proved here. -/
import Derived.Test.YteahdgbokjbgcaaGreatDoorProg
import Derived.Test.YteahdgbokjbgcaaGreatDoorZMO
import Derived.Test.YteahdgbokjbgcaaGreatDoorZMH
import Derived.ChangeKeysEq
import Derived.Laws.StructEq
import Derived.Deep.QuietTactic
import Derived.BigQuiet
import Derived.Test.YteahdgbokjbgcaaGreatDoorZMJ
namespace Go.Proofs.YteahdgbokjbgcaaGreatDoor
open Go.RowKit
set_option linter.unusedVariables false
set_option linter.unusedSimpArgs false

end Go.Proofs.YteahdgbokjbgcaaGreatDoor
namespace Go.Proofs.YteahdgbokjbgcaaGreatDoor
open Go.RowKit
set_option linter.unusedVariables false
set_option linter.unusedSimpArgs false

theorem w32_pow (j : Nat) : (4294967296 : Nat) ^ j = 2 ^ (32 * j) := by rw [Nat.pow_mul]
end Go.Proofs.YteahdgbokjbgcaaGreatDoor
namespace Go.Proofs.YteahdgbokjbgcaaGreatDoor
open Go.RowKit
set_option linter.unusedVariables false
set_option linter.unusedSimpArgs false

end Go.Proofs.YteahdgbokjbgcaaGreatDoor
namespace Go.Proofs.YteahdgbokjbgcaaGreatDoor
open Go.RowKit
set_option linter.unusedVariables false
set_option linter.unusedSimpArgs false

/-- so many things at most, none too great -/
structure Sm (n : Nat) (A : Ac) : Prop where
  lo : -(n * Mx) ≤ A.T
  hi : A.T ≤ n * Mx
  all : A.all = n
theorem run_eql64 {a b : Nat} (W : World) (ha : a < 18446744073709551616) (hb : b < 18446744073709551616) (ka : a % 9223372036854775808 ≤ 9218868437227405312) (kb : b % 9223372036854775808 ≤ 9218868437227405312) (h : fV a = fV b) : (binOp .eql 30 (.float .f64 a) (.float .f64 b)).run Tryz.prog W = .ok (.bool true) W := by
  have e : (binOp .eql 30 (.float .f64 a) (.float .f64 b)).run Tryz.prog W = .ok (.bool (FloatKind.f64.format.order a b == some .eq)) W := rfl
  rw [e, order64 ha hb ka kb, h, cmpZ_self]; rfl

end Go.Proofs.YteahdgbokjbgcaaGreatDoor
namespace Go.Proofs.YteahdgbokjbgcaaGreatDoor
open Go.RowKit
set_option linter.unusedVariables false
set_option linter.unusedSimpArgs false

end Go.Proofs.YteahdgbokjbgcaaGreatDoor
