/- A list of ints as an argument, opened. No statement of the seat is proved here. -/
import Derived.Test.YthdbapibbdkclaaGreatDoorCa
import Derived.Test.YthdbapibbdkclaaGreatDoorMT
namespace Go.Proofs.YthdbapibbdkclaaGreatDoor
open Go.ChangeShapes Go.WideShapes Go.ChangeAt Go.RowKit
set_option linter.unusedVariables false
set_option linter.unusedSimpArgs false

theorem cells_int : Tryz.prog.cellsOf 3 = 1 := by kernel_rfl
theorem wf_int {n : Int} (h : (Lit.int .i64 n).wf = true) : -9223372036854775808 ≤ n ∧ n ≤ 9223372036854775807 := by
  have m1 : IntKind.i64.min = -9223372036854775808 := rfl
  have m2 : IntKind.i64.max = 9223372036854775807 := rfl
  simp [Lit.wf, IntKind.has] at h
  omega
end Go.Proofs.YthdbapibbdkclaaGreatDoor
