/- Sums with infinities, in numbers; 'copy' of values; what is lent. Contracts of steelyardref05's small ones, Plus, Minus: a step of numbers by definition. Contracts of steelyardref05.Plus, Minus. Contracts of steelyardref01.Of, raw, Bits, Lent, AsLent; steelyardref10.one, size, notBelow. No statement of the seat is proved here. -/
import Derived.Test.YteahdgbokjbgcaaGreatDoorProg
import Derived.Test.YteahdgbokjbgcaaGreatDoorZMU
import Derived.Test.YteahdgbokjbgcaaGreatDoorZNF
namespace Go.Proofs.YteahdgbokjbgcaaGreatDoor
open Go.RowKit
set_option linter.unusedVariables false
set_option linter.unusedSimpArgs false

end Go.Proofs.YteahdgbokjbgcaaGreatDoor
namespace Go.Proofs.YteahdgbokjbgcaaGreatDoor
open Go.RowKit
set_option maxRecDepth 10000
set_option linter.unusedVariables false
set_option linter.unusedSimpArgs false

theorem rOf {v : Nat} {p : D} (hv : v < 18446744073709551616) (hp : ofF v = some p) (ok : p.Ok) (W : World) : Calls Tryz.prog 69 #[.float .f64 v] W (OutDE p W) := by
  refine (rofd_any v W hv).mono ?_
  rintro en w' ⟨u, rfl, ⟨a, c, rfl, h1⟩, h2⟩
  rw [hp] at h1 ⊢
  exact ⟨a, c, rfl, h1, h2⟩
end Go.Proofs.YteahdgbokjbgcaaGreatDoor
namespace Go.Proofs.YteahdgbokjbgcaaGreatDoor
open Go.RowKit
set_option maxRecDepth 10000
set_option linter.unusedVariables false
set_option linter.unusedSimpArgs false

end Go.Proofs.YteahdgbokjbgcaaGreatDoor
namespace Go.Proofs.YteahdgbokjbgcaaGreatDoor
open Go.RowKit
set_option maxRecDepth 10000
set_option linter.unusedVariables false
set_option linter.unusedSimpArgs false

end Go.Proofs.YteahdgbokjbgcaaGreatDoor
