/- Lists of float64 in memory; what an accumulator has while few things are added and taken. The walk of steelyardlaw07.SuperUndone: true of all lists, in every world whose table of math/bits is laid. No statement of the seat is proved here. -/
import Derived.Test.YteahdgbokjbgcaaGreatDoorProg
import Derived.Test.YteahdgbokjbgcaaGreatDoorYMP
namespace Go.Proofs.YteahdgbokjbgcaaGreatDoor
open Go.RowKit
set_option linter.unusedVariables false
set_option linter.unusedSimpArgs false

/-- so many pairs of things more, from a place on -/
def seg (B : Ac) (p q : Nat → Ac) : Nat → Nat → Ac
  | _, 0 => B
  | lo, n + 1 => ((seg B p q lo n).sum (p (lo + n))).sum (q (lo + n))
/-- what is left when so many pairs are taken, from the one end or the other -/
def left (back : Bool) (B : Ac) (p q : Nat → Ac) (n i : Nat) : Ac := if back = true then seg B p q 0 (n - i) else seg B p q i (n - i)
def spot (back : Bool) (n i : Nat) : Nat := if back = true then n - 1 - i else i
end Go.Proofs.YteahdgbokjbgcaaGreatDoor
namespace Go.Proofs.YteahdgbokjbgcaaGreatDoor
open Go.RowKit
set_option linter.unusedVariables false
set_option linter.unusedSimpArgs false

end Go.Proofs.YteahdgbokjbgcaaGreatDoor
