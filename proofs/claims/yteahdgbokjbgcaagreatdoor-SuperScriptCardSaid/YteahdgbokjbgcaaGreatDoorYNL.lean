/- Sums of bins over places, their value, and how far what is kept may lie from it. The bound of bins, the exact sum of a list's finite numbers, in numbers. Contract of bins.Bins.Merge. Contract of bins.Bins.Bound. No statement of the seat is proved here. -/
import Derived.Test.YteahdgbokjbgcaaGreatDoorProg
import Derived.Test.YteahdgbokjbgcaaGreatDoorYNI
import Derived.Test.YteahdgbokjbgcaaGreatDoorYMJ
import Derived.Test.YteahdgbokjbgcaaGreatDoorYNH
namespace Go.Proofs.YteahdgbokjbgcaaGreatDoor
open Go.RowKit
set_option linter.unusedVariables false
set_option linter.unusedSimpArgs false

/-- what all bins come to -/
def Bn.val (A : Bn) : Nat → Int
  | 0 => 0
  | k + 1 => A.val k + A.K k * ((4294967296 ^ k : Nat) : Int)
end Go.Proofs.YteahdgbokjbgcaaGreatDoor
namespace Go.Proofs.YteahdgbokjbgcaaGreatDoor
open Go.RowKit
set_option linter.unusedVariables false
set_option linter.unusedSimpArgs false

end Go.Proofs.YteahdgbokjbgcaaGreatDoor
namespace Go.Proofs.YteahdgbokjbgcaaGreatDoor
open Go.RowKit
set_option maxRecDepth 10000
set_option linter.unusedVariables false
set_option linter.unusedSimpArgs false

end Go.Proofs.YteahdgbokjbgcaaGreatDoor
namespace Go.Proofs.YteahdgbokjbgcaaGreatDoor
open Go.RowKit
set_option maxRecDepth 10000
set_option linter.unusedVariables false
set_option linter.unusedSimpArgs false

end Go.Proofs.YteahdgbokjbgcaaGreatDoor
