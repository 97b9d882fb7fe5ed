/- Contracts of bits.Split and of dyad.Of. No statement of the seat is proved here. -/
import Derived.Test.YtmokomfneikipaaDoorProg
import Derived.Test.YtmokomfneikipaaDoorDq
namespace Go.Proofs.YtmokomfneikipaaDoor
open Go.RowKit
set_option linter.unusedVariables false
set_option linter.unusedSimpArgs false

theorem partsV_shape (b : Nat) : ∃ s c e f, partsV b = .agg #[.bool s, .int .i64 c, .int .i64 e, .int .u64 f] := by
  unfold partsV; split
  · split <;> exact ⟨_, _, _, _, rfl⟩
  · split
    · exact ⟨_, _, _, _, rfl⟩
    · split <;> exact ⟨_, _, _, _, rfl⟩

set_option maxRecDepth 10000 in
set_option maxHeartbeats 1000000 in
theorem split_any (b : Nat) (w : World) (hb : b < 18446744073709551616) :
    Calls Tryd.prog 47 #[.float .f64 b] w fun en w' => en = .returned (partsV b) ∧ Below w.heap.size w w' := by
  have hx := ext_bits64 b
  have hP := fun W => parts81_any b W hb
  obtain ⟨s, c, e, f, hv⟩ := partsV_shape b
  rw [hv] at hP ⊢
  have HP := Lib.hid hP; clear hP hv
  go_enter Tryd.func47, Tryd.ntmps47
  go_wp2_with fail
  obtain ⟨w1, h1⟩ : ∃ W, W = w.alloc (.cells #[.bool false, .int .i64 0, .int .i64 0, .int .u64 0] 67) := ⟨_, rfl⟩
  rw [← h1]
  obtain ⟨k1, hB, s1⟩ := new_of h1 rfl
  clear h1
  refine (long_any w1).mono ?_; rintro en w2 ⟨rfl, hb2⟩
  have s2 := hb2.size
  go_wp2_with fail
  refine (HP.out w2).mono ?_; rintro en w3 ⟨rfl, hb3⟩
  have k3 := (hb3.block w.heap.size (by omega)).trans ((hb2.block w.heap.size (by omega)).trans k1)
  obtain ⟨⟨c0, cc1, c2, c3⟩, _, _, _, _⟩ := cells4 k3
  go_wp2
  refine bodyPost_ret (v := .agg #[.bool s, .int .i64 c, .int .i64 e, .int .u64 f]) (by simp [results, Tryd.results47, go_sem, c0, cc1, c2, c3]) rfl ?_
  have hBw : Below w.heap.size w w3 := (hB.trans (hb2.mono (by omega))).trans (hb3.mono (by omega))
  exact ⟨rfl, (((hBw.setCell (p := ⟨w.heap.size, 0, none⟩) (Nat.le_refl _) _).setCell (p := ⟨w.heap.size, 1, none⟩) (Nat.le_refl _) _).setCell (p := ⟨w.heap.size, 2, none⟩) (Nat.le_refl _) _).setCell (p := ⟨w.heap.size, 3, none⟩) (Nat.le_refl _) _⟩
end Go.Proofs.YtmokomfneikipaaDoor
