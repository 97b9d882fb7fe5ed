/- The document's bins: contract of steelyardref09.Bins.more. The document's bins: contracts of steelyardref09.Bins.Merge, Bound. No statement of the seat is proved here. -/
import Derived.Test.YteahdgbokjbgcaaGreatDoorProg
import Derived.Test.YteahdgbokjbgcaaGreatDoorYNK
import Derived.Deep.DeepCutAuto
import Derived.Test.YteahdgbokjbgcaaGreatDoorYNL
namespace Go.Proofs.YteahdgbokjbgcaaGreatDoor
open Go.RowKit
set_option maxRecDepth 10000
set_option linter.unusedVariables false
set_option linter.unusedSimpArgs false

theorem VOwn.other {w : World} {e : TypeId} {sz base c : Nat} {a : Option Addr} {l : List Value} (h : VOwn w e sz base a c l) {x : Addr} (hx : ∀ ad, a = some ad → ad.block ≠ x.block) (v : Value) : VOwn (w.setCell x v) e sz base a c l := by
  rcases h with h | ⟨g, p, t, h0, h1, h2, h3, h4⟩
  · exact .inl h
  · exact .inr ⟨g, p, t, h0, h1, h2, h3, h4.other (fun e => hx _ h0 e.symm) v⟩
section
variable {w w' : World} {g : Nat} {f n : Int} {a : Option Addr} {c : Nat} {l : List (Nat × Nat)}
end
end Go.Proofs.YteahdgbokjbgcaaGreatDoor
namespace Go.Proofs.YteahdgbokjbgcaaGreatDoor
open Go.RowKit
set_option maxRecDepth 10000
set_option linter.unusedVariables false
set_option linter.unusedSimpArgs false

end Go.Proofs.YteahdgbokjbgcaaGreatDoor
