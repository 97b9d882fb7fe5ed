/- Contracts of bins.Bins.Kept, Round. Contract of sums.Alike. Contract of steelyardref09.Slice; the document's bins in memory. The document's bins: what they hold, in memory and in numbers; contracts of steelyardref09.New, Add. No statement of the seat is proved here. -/
import Derived.Test.YteahdgbokjbgcaaGreatDoorProg
import Derived.Test.YteahdgbokjbgcaaGreatDoorYNH
import Derived.Test.YteahdgbokjbgcaaGreatDoorYB
import Derived.Test.YteahdgbokjbgcaaGreatDoorYMT
import Derived.Test.YteahdgbokjbgcaaGreatDoorYTi
import Derived.Test.YteahdgbokjbgcaaGreatDoorYNG
namespace Go.Proofs.YteahdgbokjbgcaaGreatDoor
open Go.RowKit
set_option maxRecDepth 10000
set_option linter.unusedVariables false
set_option linter.unusedSimpArgs false

end Go.Proofs.YteahdgbokjbgcaaGreatDoor
namespace Go.Proofs.YteahdgbokjbgcaaGreatDoor
open Go.RowKit
set_option maxRecDepth 10000
set_option linter.unusedVariables false
set_option linter.unusedSimpArgs false

end Go.Proofs.YteahdgbokjbgcaaGreatDoor
namespace Go.Proofs.YteahdgbokjbgcaaGreatDoor
open Go.RowKit
set_option maxRecDepth 10000
set_option linter.unusedVariables false
set_option linter.unusedSimpArgs false

end Go.Proofs.YteahdgbokjbgcaaGreatDoor
namespace Go.Proofs.YteahdgbokjbgcaaGreatDoor
open Go.RowKit
set_option maxRecDepth 10000
set_option linter.unusedVariables false
set_option linter.unusedSimpArgs false

section
variable {w w' : World} {g : Nat} {f n : Int} {a : Option Addr} {c : Nat} {l : List (Nat × Nat)}
end
end Go.Proofs.YteahdgbokjbgcaaGreatDoor
