/- Contract of sums.Halving. Contracts: math.Ldexp at 1, 100; steelyardlaw10.live. Contract of sums.Blocked; 'make' of values. No statement of the seat is proved here. -/
import Derived.Test.YteahdgbokjbgcaaGreatDoorProg
import Derived.Test.YteahdgbokjbgcaaGreatDoorYMT
import Derived.Test.YteahdgbokjbgcaaGreatDoorYMP
namespace Go.Proofs.YteahdgbokjbgcaaGreatDoor
open Go.RowKit
set_option linter.unusedVariables false
set_option linter.unusedSimpArgs false

end Go.Proofs.YteahdgbokjbgcaaGreatDoor
namespace Go.Proofs.YteahdgbokjbgcaaGreatDoor
open Go.RowKit
set_option linter.unusedVariables false
set_option linter.unusedSimpArgs false

end Go.Proofs.YteahdgbokjbgcaaGreatDoor
namespace Go.Proofs.YteahdgbokjbgcaaGreatDoor
open Go.RowKit
set_option linter.unusedVariables false
set_option linter.unusedSimpArgs false

theorem run_storeF (b : Nat) (a : Addr) (m : Mode) (w : World) : (store a (.float .f64 b) m).run Tryz.prog w = stored Tryz.prog w a (.float .f64 b) m := run_store Tryz.prog w a _ m rfl

end Go.Proofs.YteahdgbokjbgcaaGreatDoor
