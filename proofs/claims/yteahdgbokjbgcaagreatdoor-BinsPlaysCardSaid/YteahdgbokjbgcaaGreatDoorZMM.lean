/- What an accumulator has, what is added to it, in numbers. Contracts of super.laid, New, Specials; what an accumulator is in memory. Contracts of super: total.size, New, Specials; an accumulator in memory. Contract of super's Acc.Exact. Contracts of super: count, put, more, less. No statement of the seat is proved here. -/
import Derived.Test.YteahdgbokjbgcaaGreatDoorProg
import Derived.Test.YteahdgbokjbgcaaGreatDoorZMK
import Derived.Test.YteahdgbokjbgcaaGreatDoorZMF
import Derived.Test.YteahdgbokjbgcaaGreatDoorZMJ
import Derived.Test.YteahdgbokjbgcaaGreatDoorZML
import Derived.Test.YteahdgbokjbgcaaGreatDoorZMI
namespace Go.Proofs.YteahdgbokjbgcaaGreatDoor
open Go.RowKit
set_option linter.unusedVariables false
set_option linter.unusedSimpArgs false

/-- what an accumulator has: the sum in units of 2^-2148, the counts; what is added is told likewise -/
structure Ac where
  T : Int
  nan : Int
  up : Int
  down : Int
  minus : Int
  plus : Int
  all : Int
theorem Ac.ext' {a b : Ac} (h0 : a.T = b.T) (h1 : a.nan = b.nan) (h2 : a.up = b.up) (h3 : a.down = b.down) (h4 : a.minus = b.minus) (h5 : a.plus = b.plus) (h6 : a.all = b.all) : a = b := by
  cases a; cases b; simp_all
def Ac.zero : Ac := ⟨0, 0, 0, 0, 0, 0, 0⟩
def Ac.sum (a b : Ac) : Ac := ⟨a.T + b.T, a.nan + b.nan, a.up + b.up, a.down + b.down, a.minus + b.minus, a.plus + b.plus, a.all + b.all⟩
theorem Ac.sum_comm (a b : Ac) : a.sum b = b.sum a := by unfold Ac.sum; apply Ac.ext' <;> exact Int.add_comm _ _
theorem Ac.sum_assoc (a b c : Ac) : (a.sum b).sum c = a.sum (b.sum c) := by unfold Ac.sum; apply Ac.ext' <;> exact Int.add_assoc _ _ _
theorem Ac.zero_sum (a : Ac) : Ac.zero.sum a = a := by unfold Ac.sum Ac.zero; apply Ac.ext' <;> exact Int.zero_add _
theorem Ac.sum_zero (a : Ac) : a.sum Ac.zero = a := by rw [Ac.sum_comm, Ac.zero_sum]
/-- one that may be -/
structure Ac.Ok (a : Ac) : Prop where
  v : ¬ Gt a.T
  nan : 0 ≤ a.nan
  up : 0 ≤ a.up
  down : 0 ≤ a.down
  minus : 0 ≤ a.minus
  plus : 0 ≤ a.plus
  sum : a.nan + a.up + a.down + a.minus + a.plus ≤ a.all
  all : a.all ≤ 1099511627776
theorem gt_zero : ¬ Gt 0 := by
  have := w64_pos 66
  unfold Gt
  generalize W64 ^ 66 = P at *
  omega
theorem Ac.zero_ok : Ac.zero.Ok := ⟨gt_zero, by decide, by decide, by decide, by decide, by decide, by decide, by decide⟩

/-- the parts of a number -/
structure Pt where
  s : Bool
  c : Int
  e : Int
  f : Nat
def ptOf (b : Nat) : Pt :=
  if b / 4503599627370496 % 2048 = 2047 then (if b % 4503599627370496 ≠ 0 then ⟨false, 4, 0, 0⟩ else ⟨b / 9223372036854775808 % 2 == 1, 3, 0, 0⟩)
  else if 0 < b / 4503599627370496 % 2048 then ⟨b / 9223372036854775808 % 2 == 1, 2, -1074 + (b / 4503599627370496 % 2048 : Nat) - 1, b % 4503599627370496 + 4503599627370496⟩
  else if 0 < b % 4503599627370496 then ⟨b / 9223372036854775808 % 2 == 1, 1, -1074, b % 4503599627370496⟩
  else ⟨b / 9223372036854775808 % 2 == 1, 0, -1074, 0⟩
theorem partsV_pt (b : Nat) : partsV b = .agg #[.bool (ptOf b).s, .int .i64 (ptOf b).c, .int .i64 (ptOf b).e, .int .u64 (ptOf b).f] := by
  unfold partsV ptOf
  split
  · split <;> rfl
  · split
    · rfl
    · split <;> rfl
theorem ptOf_bd (b : Nat) : 0 ≤ (ptOf b).c ∧ (ptOf b).c ≤ 4 ∧ -1074 ≤ (ptOf b).e ∧ (ptOf b).e ≤ 971 ∧ (ptOf b).f < 9007199254740992 ∧ ((ptOf b).c = 1 ∨ (ptOf b).c = 2 → 0 < (ptOf b).f) := by
  have h1 : b / 4503599627370496 % 2048 ≤ 2047 := by omega
  have h2 : b % 4503599627370496 < 4503599627370496 := by omega
  unfold ptOf
  generalize b / 4503599627370496 % 2048 = ex at *
  generalize b % 4503599627370496 = fr at *
  split
  · split <;> simp
  · split
    · simp; omega
    · split
      · simp; omega
      · simp
/-- the greatest that one thing can be -/
def mxE : Nat := 4196
def Mx : Int := ((2 ^ mxE : Nat) : Int)
end Go.Proofs.YteahdgbokjbgcaaGreatDoor
namespace Go.Proofs.YteahdgbokjbgcaaGreatDoor
open Go.RowKit
set_option linter.unusedVariables false
set_option linter.unusedSimpArgs false

end Go.Proofs.YteahdgbokjbgcaaGreatDoor
namespace Go.Proofs.YteahdgbokjbgcaaGreatDoor
open Go.RowKit
set_option linter.unusedVariables false
set_option linter.unusedSimpArgs false

def spc (A : Ac) : List Value := [.int .i64 A.nan, .int .i64 A.up, .int .i64 A.down, .int .i64 A.minus, .int .i64 A.plus, .int .i64 A.all]
/-- an accumulator in a block of its own -/
def AccAt (w : World) (g : Nat) (A : Ac) : Prop := Tot w g 124 (dz A.T) (spc A)
theorem Tot.heap' {w : World} {g : Nat} {t : TypeId} {f : Nat → Int} (h : Tot w g t f []) : w.heap[g]? = some (.cells (rowOf f).toArray t (0, 0)) := by
  unfold Tot at h; rw [List.append_nil] at h; exact h
end Go.Proofs.YteahdgbokjbgcaaGreatDoor
namespace Go.Proofs.YteahdgbokjbgcaaGreatDoor
open Go.RowKit
set_option linter.unusedVariables false
set_option linter.unusedSimpArgs false

theorem Tot.whole {w : World} {g : Nat} {t : TypeId} {f h : Nat → Int} (hT : Tot w g t f []) : Tot (w.setRow g (rowOf h).toArray) g t h [] := by
  unfold Tot at *
  rw [heap_setRow, if_pos rfl, hT, List.append_nil]; rfl
end Go.Proofs.YteahdgbokjbgcaaGreatDoor
namespace Go.Proofs.YteahdgbokjbgcaaGreatDoor
open Go.RowKit
set_option linter.unusedVariables false
set_option linter.unusedSimpArgs false

instance gtDec (T : Int) : Decidable (Gt T) := by unfold Gt; infer_instance
end Go.Proofs.YteahdgbokjbgcaaGreatDoor
