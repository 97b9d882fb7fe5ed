/- Sums with infinities, in numbers; 'copy' of values; what is lent. Contracts of steelyardref05's small ones, Plus, Minus: a step of numbers by definition. Contracts of steelyardref05.Plus, Minus. Contracts of steelyardref01.Of, raw, Bits, Lent, AsLent; steelyardref10.one, size, notBelow. No statement of the seat is proved here. -/
import Derived.Test.YteahdgbokjbgcaaGreatDoorProg
import Derived.Test.YteahdgbokjbgcaaGreatDoorYMU
import Derived.Test.YteahdgbokjbgcaaGreatDoorYNF
namespace Go.Proofs.YteahdgbokjbgcaaGreatDoor
open Go.RowKit
set_option linter.unusedVariables false
set_option linter.unusedSimpArgs false

end Go.Proofs.YteahdgbokjbgcaaGreatDoor
namespace Go.Proofs.YteahdgbokjbgcaaGreatDoor
open Go.RowKit
set_option maxRecDepth 10000
set_option linter.unusedVariables false
set_option linter.unusedSimpArgs false

theorem rOf {v : Nat} {p : D} (hv : v < 18446744073709551616) (hp : ofF v = some p) (ok : p.Ok) (W : World) : Calls Tryz.prog 69 #[.float .f64 v] W (OutDE p W) := by
  refine (rofd_any v W hv).mono ?_
  rintro en w' ⟨u, rfl, ⟨a, c, rfl, h1⟩, h2⟩
  rw [hp] at h1 ⊢
  exact ⟨a, c, rfl, h1, h2⟩
end Go.Proofs.YteahdgbokjbgcaaGreatDoor
namespace Go.Proofs.YteahdgbokjbgcaaGreatDoor
open Go.RowKit
set_option maxRecDepth 10000
set_option linter.unusedVariables false
set_option linter.unusedSimpArgs false

end Go.Proofs.YteahdgbokjbgcaaGreatDoor
namespace Go.Proofs.YteahdgbokjbgcaaGreatDoor
open Go.RowKit
set_option maxRecDepth 10000
set_option linter.unusedVariables false
set_option linter.unusedSimpArgs false

theorem bof_any (b : Nat) (w : World) : Calls Tryz.prog 220 #[.int .u64 b] w fun en w' => en = .returned (.float .f64 b) ∧ w = w' := by
  have h1 := ext_from64 b
  go_enter Tryz.func220, Tryz.ntmps220
  go_wp2_with fail
  go_ret
  exact ⟨rfl, rfl⟩
theorem bofz_any (w : World) : Calls Tryz.prog 220 #[.int .u64 0] w fun en w' => en = .returned (.float .f64 0) ∧ w = w' := bof_any 0 w
theorem bbits_any (b : Nat) (w : World) : Calls Tryz.prog 212 #[.float .f64 b] w fun en w' => en = .returned (.int .u64 (canon b : Nat)) ∧ w = w' := by
  have h1 := ext_bits64 b
  by_cases h : 9218868437227405312 < b % 9223372036854775808
  · rw [canon_nan h]
    have e : (9218868437227405312 : Int) < (b : Int) % 9223372036854775808 := by omega
    clear h
    go_enter Tryz.func212, Tryz.ntmps212
    go_wp2_with fail
    go_ret
    exact ⟨rfl, rfl⟩
  · rw [canon_num (by omega)]
    have e : ¬ (9218868437227405312 : Int) < (b : Int) % 9223372036854775808 := by omega
    clear h
    go_enter Tryz.func212, Tryz.ntmps212
    go_wp2_with fail
    go_ret
    exact ⟨rfl, rfl⟩
end Go.Proofs.YteahdgbokjbgcaaGreatDoor
