/- Of a form rounded down and up: one is the other, or the next above it. Contract of bits.Next. SuperBetween's plain part: what an accumulator rounds to, down and up, beside what it has. No statement of the seat is proved here. -/
import Derived.Test.YteahdgbokjbgcaaGreatDoorProg
import Derived.Test.YteahdgbokjbgcaaGreatDoorYMJ
import Derived.Test.YteahdgbokjbgcaaGreatDoorYMP
import Derived.Test.YteahdgbokjbgcaaGreatDoorYMQ
namespace Go.Proofs.YteahdgbokjbgcaaGreatDoor
open Go.RowKit
set_option linter.unusedVariables false
set_option linter.unusedSimpArgs false

end Go.Proofs.YteahdgbokjbgcaaGreatDoor
namespace Go.Proofs.YteahdgbokjbgcaaGreatDoor
open Go.RowKit
set_option linter.unusedVariables false
set_option linter.unusedSimpArgs false

end Go.Proofs.YteahdgbokjbgcaaGreatDoor
namespace Go.Proofs.YteahdgbokjbgcaaGreatDoor
open Go.RowKit
set_option linter.unusedVariables false
set_option linter.unusedSimpArgs false

end Go.Proofs.YteahdgbokjbgcaaGreatDoor
