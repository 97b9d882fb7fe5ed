/- Contracts of steelyardref01.parts at 64 bits, Split, Class. Contracts of steelyardref09.Bins.Round, Sum and steelyardref10.Alike. The document's bins among others: frames; contracts of steelyardref09.Add, Fold, Count, New. No statement of the seat is proved here. -/
import Derived.Test.YteahdgbokjbgcaaGreatDoorProg
import Derived.Test.YteahdgbokjbgcaaGreatDoorYNG
import Derived.Test.YteahdgbokjbgcaaGreatDoorYNI
import Derived.Test.YteahdgbokjbgcaaGreatDoorYNJ
namespace Go.Proofs.YteahdgbokjbgcaaGreatDoor
open Go.RowKit
set_option maxRecDepth 10000
set_option linter.unusedVariables false
set_option linter.unusedSimpArgs false

end Go.Proofs.YteahdgbokjbgcaaGreatDoor
namespace Go.Proofs.YteahdgbokjbgcaaGreatDoor
open Go.RowKit
set_option maxRecDepth 10000
set_option linter.unusedVariables false
set_option linter.unusedSimpArgs false

end Go.Proofs.YteahdgbokjbgcaaGreatDoor
namespace Go.Proofs.YteahdgbokjbgcaaGreatDoor
open Go.RowKit
set_option maxRecDepth 10000
set_option linter.unusedVariables false
set_option linter.unusedSimpArgs false

section
variable {w w1 w2 w' : World} {g : Nat} {a a' a2 : Option Addr}
end
end Go.Proofs.YteahdgbokjbgcaaGreatDoor
