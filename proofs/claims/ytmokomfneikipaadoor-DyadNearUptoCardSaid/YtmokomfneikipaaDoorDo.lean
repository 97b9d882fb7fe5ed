/- Kinds of numbers; contracts of steelyardref03's Of64, Of32, Number. No statement of the seat is proved here. -/
import Derived.Test.YtmokomfneikipaaDoorProg
import Derived.Test.YtmokomfneikipaaDoorDn
namespace Go.Proofs.YtmokomfneikipaaDoor
open Go.RowKit
set_option linter.unusedVariables false
set_option linter.unusedSimpArgs false

/-- the k-th number of a kind of h + 1 binary digits: a whole number, and its power above the least -/
def numM (h k : Nat) : Nat := if k / 2 ^ h = 0 then k % 2 ^ h else 2 ^ h + k % 2 ^ h
def numE (h k : Nat) : Nat := k / 2 ^ h - 1

set_option maxRecDepth 10000 in
set_option maxHeartbeats 2000000 in
theorem number_any (h k : Nat) (L : Int) (E : Nat) (w : World) (hh : h ≤ 52) (hk : k < 18446744073709551616) (hh2 : 1 ≤ h) (hL1 : -2000 ≤ L) (hL2 : L ≤ 2000) (hq : k / 2 ^ h ≤ 1000000) :
    Calls Tryd.prog 85 #[.agg #[.int .i64 (h + 1 : Nat), .int .i64 L, .int .u64 E], .int .u64 k] w fun en w' => ∃ a c, en = .returned (.tuple #[.slice a (words (numM h k)).length c, .int .i64 (L + numE h k)]) ∧ Own w' 64 w.heap.size a c (words (numM h k)) ∧ Below w.heap.size w w' := by
  have hp := Nat.two_pow_pos h
  have hp52 : 2 ^ h ≤ 4503599627370496 := by have := Nat.pow_le_pow_right (show 0 < 2 by decide) hh; simpa using this
  have hp2 : 2 ≤ 2 ^ h := by have := Nat.pow_le_pow_right (show 0 < 2 by decide) hh2; simpa using this
  obtain ⟨H, hH⟩ : ∃ H, H = 2 ^ h := ⟨_, rfl⟩
  obtain ⟨q, hqe⟩ : ∃ q, q = k / H := ⟨_, rfl⟩
  obtain ⟨r, hre⟩ : ∃ r, r = k % H := ⟨_, rfl⟩
  have hM : numM h k = if q = 0 then r else H + r := by unfold numM; rw [← hH, ← hqe, ← hre]
  have hE : numE h k = q - 1 := by unfold numE; rw [← hH, ← hqe]
  rw [hM, hE]
  rw [← hH] at hp hp52 hp2 hq
  rw [← hqe] at hq
  have f1 : IntKind.u64.wrap ((2 : Int) ^ h) = (H : Int) := by
    rw [show ((2 : Int) ^ h) = ((2 ^ h : Nat) : Int) from by simp, ← hH]; exact wrap_u64_nat _ (by omega)
  have f2 : IntKind.u64.wrap ((k : Int) / (H : Int)) = (q : Int) := by
    rw [show ((k : Int) / (H : Int)) = ((k / H : Nat) : Int) from by simp, ← hqe]; exact wrap_u64_nat _ (by omega)
  have f3 : (k : Int) % (H : Int) = (r : Int) := by
    rw [show ((k : Int) % (H : Int)) = ((k % H : Nat) : Int) from by simp, ← hre]
  have hr : r < H := by rw [hre]; exact Nat.mod_lt _ hp
  clear hH hqe hre hM hE
  have hOf := fun W n (hn : n < 18446744073709551616) => rof_any n W hn
  have HOf := Lib.hid hOf; clear hOf
  obtain ⟨n, hn⟩ : ∃ n, n = (if q = 0 then r else H + r) := ⟨_, rfl⟩
  rw [← hn]
  have hn2 : n < 18446744073709551616 := by rw [hn]; split <;> omega
  have hO2 := fun W => HOf.out W n hn2
  clear HOf
  have g1 : IntKind.u64.wrap ((H : Int) + (r : Int)) = (H : Int) + (r : Int) := by rw [IntKind.wrap_u64]; omega
  have g2 : IntKind.i64.wrap (q : Int) = (q : Int) := by rw [IntKind.wrap_i64]; omega
  have g3 : IntKind.i64.wrap (L + (q : Int)) = L + (q : Int) := by rw [IntKind.wrap_i64]; omega
  have g4 : IntKind.i64.wrap (L + (q : Int) - 1) = L + (q : Int) - 1 := by rw [IntKind.wrap_i64]; omega
  have hqz : q = 0 ∧ n = r ∨ q ≠ 0 ∧ n = H + r := by
    by_cases h : q = 0
    · exact .inl ⟨h, by rw [hn, if_pos h]⟩
    · exact .inr ⟨h, by rw [hn, if_neg h]⟩
  have hO3 : ∀ W z, z = (n : Int) → Calls Tryd.prog 54 #[.int .u64 z] W fun e w' => ∃ a' c', e = .returned (.slice a' (words n).length c') ∧ Own w' 64 W.heap.size a' c' (words n) ∧ Below W.heap.size W w' := by
    rintro W z rfl; exact hO2 W
  have HO := Lib.hid hO3; clear hO2 hO3 hn
  go_enter Tryd.func85, Tryd.ntmps85
  rcases hqz with ⟨h0, h1⟩ | ⟨h0, h1⟩
  · have e1 : ((q : Int) == 0) = true := by rw [h0]; rfl
    have H0 := Lib.hid h0; have H1 := Lib.hid h1; clear h0 h1
    go_wp2_with fail
    obtain ⟨w1, h1⟩ : ∃ W, W = w.alloc (.cells #[.int .i64 ((h : Int) + 1), .int .i64 L, .int .u64 (E : Int)] 71) := ⟨_, rfl⟩
    rw [← h1]
    obtain ⟨k1, hB, s1⟩ := new_of h1 rfl
    clear h1
    obtain ⟨_, _, _, _, _, _⟩ := cells3 k1
    have b1 : Below w.heap.size w w1.drew := hB.drew
    have HS := Lib.hid s1; clear s1
    go_region_held3 (fun W => W.cell? ⟨w.heap.size, 1, none⟩ = some (.int .i64 L)) (go_keep) (first
      | (go_at_call 54; refine (HO.out _ _ (by have := H1.out; omega)).mono ?_; rintro en w4 ⟨a4, c4, rfl, ho4, hb4⟩; have k14 := (hb4.block w.heap.size (by have := HS.out; simp; omega)).trans k1; obtain ⟨_, _, _, _, _, _⟩ := cells3 k14))
    all_goals
      go_wp2
      have hs := HS.out
      refine bodyPost_ret (v := .tuple #[.slice a4 (words n).length c4, .int .i64 L]) (by simp [results, Tryd.results85, go_sem]) rfl ?_
      refine ⟨a4, c4, by rw [show q = 0 from H0.out]; simp, ho4.mono (by simp; omega), b1.trans (hb4.mono (by simp; omega))⟩
  · have e1 : ((q : Int) == 0) = false := by simp; omega
    have H0 := Lib.hid h0; have H1 := Lib.hid h1; clear h0 h1
    go_wp2_with fail
    obtain ⟨w1, h1⟩ : ∃ W, W = w.alloc (.cells #[.int .i64 ((h : Int) + 1), .int .i64 L, .int .u64 (E : Int)] 71) := ⟨_, rfl⟩
    rw [← h1]
    obtain ⟨k1, hB, s1⟩ := new_of h1 rfl
    clear h1
    obtain ⟨_, _, _, _, _, _⟩ := cells3 k1
    have b1 : Below w.heap.size w w1.drew := hB.drew
    have HS := Lib.hid s1; clear s1
    go_region_held3 (fun W => W.cell? ⟨w.heap.size, 1, none⟩ = some (.int .i64 L)) (go_keep) (first
      | (go_at_call 54; refine (HO.out _ _ (by have := H1.out; omega)).mono ?_; rintro en w4 ⟨a4, c4, rfl, ho4, hb4⟩; have k14 := (hb4.block w.heap.size (by have := HS.out; simp; omega)).trans k1; obtain ⟨_, _, _, _, _, _⟩ := cells3 k14))
    all_goals
      go_wp2
      have hs := HS.out
      refine bodyPost_ret (v := .tuple #[.slice a4 (words n).length c4, .int .i64 (L + (q : Int) - 1)]) (by simp [results, Tryd.results85, go_sem]) rfl ?_
      refine ⟨a4, c4, by rw [show L + (q : Int) - 1 = L + ((q - 1 : Nat) : Int) from by have := H0.out; omega], ho4.mono (by simp; omega), b1.trans (hb4.mono (by simp; omega))⟩
end Go.Proofs.YtmokomfneikipaaDoor
