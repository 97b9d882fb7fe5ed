/- Contracts of super: Add, Take, AddProduct, TakeProduct, Copy. Contracts of policy: choice, May, mayBe, Verdict, Nought, for the counts of an accumulator. Contracts of policy.Verdict, Nought, for the counts of an accumulator. No statement of the seat is proved here. -/
import Derived.Test.YteahdgbokjbgcaaGreatDoorProg
import Derived.Test.YteahdgbokjbgcaaGreatDoorZMN
namespace Go.Proofs.YteahdgbokjbgcaaGreatDoor
open Go.RowKit
set_option linter.unusedVariables false
set_option linter.unusedSimpArgs false

/-- may it be taken? -/
def Ac.Has (A d : Ac) : Prop := d.nan ≤ A.nan ∧ d.up ≤ A.up ∧ d.down ≤ A.down ∧ d.minus ≤ A.minus ∧ d.plus ≤ A.plus ∧ (A.nan - d.nan) + (A.up - d.up) + (A.down - d.down) + (A.minus - d.minus) + (A.plus - d.plus) ≤ A.all - d.all
instance (A d : Ac) : Decidable (A.Has d) := by unfold Ac.Has; infer_instance
def accL (A : Ac) : List Value := rowOf (dz A.T) ++ spc A
theorem AccAt.heap' {w : World} {g : Nat} {A : Ac} (h : AccAt w g A) : w.heap[g]? = some (.cells (accL A).toArray 124 (0, 0)) := h
theorem AccAt.row {w : World} {g : Nat} {A : Ac} (h : AccAt w g A) : ∀ j v, (accL A)[j]? = some v → w.cell? ⟨g, 0 + j, none⟩ = some v := by
  intro j v hv
  rw [Nat.zero_add, cell_of_row w g j _ _ (0, 0) h.heap', List.getElem?_toArray]
  exact hv
theorem AccAt.whole {w : World} {g : Nat} {A B : Ac} (h : AccAt w g A) : AccAt (w.setRow g (accL B).toArray) g B := by
  have h' := h.heap'
  show (w.setRow g (accL B).toArray).heap[g]? = _
  rw [heap_setRow, if_pos rfl, h']; rfl
end Go.Proofs.YteahdgbokjbgcaaGreatDoor
namespace Go.Proofs.YteahdgbokjbgcaaGreatDoor
open Go.RowKit
set_option linter.unusedVariables false
set_option linter.unusedSimpArgs false

end Go.Proofs.YteahdgbokjbgcaaGreatDoor
namespace Go.Proofs.YteahdgbokjbgcaaGreatDoor
open Go.RowKit
set_option linter.unusedVariables false
set_option linter.unusedSimpArgs false

theorem pol_cells {w : World} {g : Nat} {x y : Value} {T : TypeId} (h : w.heap[g]? = some (.cells #[x, y] T (0, 0))) : w.cell? ⟨g, 0, none⟩ = some x ∧ w.cell? ⟨g, 1, none⟩ = some y :=
  ⟨by rw [cell_of_row w g 0 _ _ _ h]; rfl, by rw [cell_of_row w g 1 _ _ _ h]; rfl⟩

end Go.Proofs.YteahdgbokjbgcaaGreatDoor
