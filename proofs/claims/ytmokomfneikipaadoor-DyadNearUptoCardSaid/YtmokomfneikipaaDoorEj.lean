/- Contracts of steelyardref03's Alike, Alike32 and of math.Inf. No statement of the seat is proved here. -/
import Derived.Test.YtmokomfneikipaaDoorProg
import Derived.Test.YtmokomfneikipaaDoorEi
namespace Go.Proofs.YtmokomfneikipaaDoor
open Go.RowKit
set_option linter.unusedVariables false
set_option linter.unusedSimpArgs false

set_option maxRecDepth 10000 in
set_option maxHeartbeats 1000000 in
theorem alike_any (a b : Nat) (w : World) :
    Calls Tryd.prog 30 #[.float .f64 a, .float .f64 b] w fun en w' => en = .returned (.bool (decide (a = b))) ∧ w = w' := by
  have h1 := ext_bits64 a
  have h2 := ext_bits64 b
  have h3 : ((a : Int) == (b : Int)) = decide (a = b) := by
    by_cases h : a = b
    · simp [h]
    · simp [h]; omega
  go_enter Tryd.func30, Tryd.ntmps30
  go_wp2
  go_ret
  exact ⟨rfl, rfl⟩
set_option maxRecDepth 10000 in
set_option maxHeartbeats 1000000 in
theorem alike32_any (a b : Nat) (w : World) :
    Calls Tryd.prog 31 #[.float .f32 a, .float .f32 b] w fun en w' => en = .returned (.bool (decide (a = b))) ∧ w = w' := by
  have h1 := ext_bits32 a
  have h2 := ext_bits32 b
  have h3 : ((a : Int) == (b : Int)) = decide (a = b) := by
    by_cases h : a = b
    · simp [h]
    · simp [h]; omega
  go_enter Tryd.func31, Tryd.ntmps31
  go_wp2
  go_ret
  exact ⟨rfl, rfl⟩
set_option maxRecDepth 10000 in
set_option maxHeartbeats 1000000 in
theorem inf_any (w : World) :
    Calls Tryd.prog 45 #[.int .i64 1] w fun en w' => en = .returned (.float .f64 9218868437227405312) ∧ w = w' := by
  have h1 := ext_from64 9218868437227405312
  rw [show ((9218868437227405312 : Nat) : Int) = 9218868437227405312 from rfl] at h1
  go_enter Tryd.func45, Tryd.ntmps45
  go_wp2
  go_ret
  exact ⟨rfl, rfl⟩
end Go.Proofs.YtmokomfneikipaaDoor
