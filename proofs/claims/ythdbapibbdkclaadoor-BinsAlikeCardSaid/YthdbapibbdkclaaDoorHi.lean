/- Contract of steelyardref09.Slice; the document's bins in memory. No statement of the seat is proved here. -/
import Derived.Test.YthdbapibbdkclaaDoorProg
import Derived.Test.YthdbapibbdkclaaDoorHh
import Derived.Test.YthdbapibbdkclaaDoorHa
namespace Go.Proofs.YthdbapibbdkclaaDoor
open Go.RowKit
set_option maxRecDepth 10000
set_option linter.unusedVariables false
set_option linter.unusedSimpArgs false

/-- a size in units of the lowest bin, by its number in the order of all -/
theorem mB_num {b : Nat} (h : b % 9223372036854775808 < 9218868437227405312) : mB b = numV 52 (b % 9223372036854775808) * 16384 := by
  have e1 : b % 9223372036854775808 / 4503599627370496 = b / 4503599627370496 % 2048 := by omega
  have e2 : b % 9223372036854775808 % 4503599627370496 = b % 4503599627370496 := by omega
  have hx : b / 4503599627370496 % 2048 < 2047 := by omega
  unfold mB numV numM numE
  rw [show (2 : Nat) ^ 52 = 4503599627370496 from rfl, e1, e2]
  unfold ptOf
  generalize b / 4503599627370496 % 2048 = ex at *
  generalize b % 4503599627370496 = fr at *
  rw [if_neg (show ¬ ex = 2047 by omega)]
  have h14 : (16384 : Nat) = 2 ^ 14 := rfl
  by_cases h1 : 0 < ex
  · rw [if_pos h1, if_neg (show ¬ ex = 0 by omega)]
    dsimp only
    rw [h14, Nat.mul_assoc, ← Nat.pow_add, Nat.add_comm fr]
    congr 2; omega
  · rw [if_neg h1]
    obtain rfl : ex = 0 := by omega
    rw [if_pos rfl]
    by_cases h2 : 0 < fr
    · rw [if_pos h2]
      dsimp only
      rw [show (0 - 1 : Nat) = 0 from rfl, Nat.pow_zero, Nat.mul_one, h14]
      congr 2
    · rw [if_neg h2]
      obtain rfl : fr = 0 := by omega
      simp
/-- the Dyad of a number's size -/
theorem size_dy {b : Nat} (h : b % 9223372036854775808 < 9218868437227405312) : ∃ d, bitsF 52 (-1074) 9218868437227405312 false (b % 9223372036854775808) = some d ∧ d.Is ∧ d.Ok ∧ -1074 ≤ d.exp ∧ d.m * 2 ^ (d.exp + 1088).toNat = mB b ∧ d.exp ≤ 1100 := by
  obtain ⟨k, hk⟩ : ∃ k, k = b % 9223372036854775808 := ⟨_, rfl⟩
  have hkk : k % 9223372036854775808 = k := by omega
  have hf : ofF k = bitsF 52 (-1074) 9218868437227405312 false k := by
    unfold ofF
    rw [hkk, decide_eq_false (by omega)]
  obtain ⟨d, hd, hz⟩ := Dz.of (v := k) (by rw [hkk, hk]; exact h)
  rw [hf] at hd
  refine ⟨d, by rw [← hk]; exact hd, hz.is, hz.ok, hz.ex, ?_, ofF_hi (b := k) (by rw [hf]; exact hd)⟩
  have h1 := z_abs hz.ex
  rw [hz.val] at h1
  have h2 : (fV k).natAbs = numV 52 k := by unfold fV; rw [sgn_abs, hkk]
  rw [mB_num h, ← hk, ← h2, ← h1, Nat.mul_assoc, show (16384 : Nat) = 2 ^ 14 from rfl, ← Nat.pow_add]
  congr 2
  have := hz.ex
  omega
/-- what bin j has of a number's size -/
def slB (b : Nat) (j : Int) : Nat := if j < -34 then 0 else dg (mB b) (j + 34).toNat
theorem slB_lt (b : Nat) (j : Int) : slB b j < 4294967296 := by
  unfold slB; split
  · decide
  · exact dg_lt _ _
theorem slB_up {b : Nat} {d : D} {j : Int} {k : Nat} (h1 : d.m * 2 ^ (d.exp + 1088).toNat = mB b) (h2 : -1074 ≤ d.exp) (hk : d.exp - 32 * j = (k : Int)) : d.m * 2 ^ k % 4294967296 = slB b j := by
  unfold slB
  split
  · have : k = 32 + (k - 32) := by omega
    rw [this, Nat.pow_add, show (2 : Nat) ^ 32 = 4294967296 from rfl, Nat.mul_left_comm, Nat.mul_mod_right]
  · obtain ⟨i, hi⟩ : ∃ i : Nat, (j + 34).toNat = i := ⟨_, rfl⟩
    rw [hi, ← h1]
    unfold dg
    rw [w32_pow, show (d.exp + 1088).toNat = k + 32 * i by omega, Nat.pow_add, ← Nat.mul_assoc, Nat.mul_div_cancel _ (Nat.two_pow_pos _)]
theorem slB_dn {b : Nat} {d : D} {j : Int} {k : Nat} (h1 : d.m * 2 ^ (d.exp + 1088).toNat = mB b) (h2 : -1074 ≤ d.exp) (hk : d.exp - 32 * j = -(k : Int)) (h0 : 0 < k) : d.m / 2 ^ k % 4294967296 = slB b j := by
  unfold slB
  rw [if_neg (by omega)]
  obtain ⟨i, hi⟩ : ∃ i : Nat, (j + 34).toNat = i := ⟨_, rfl⟩
  rw [hi, ← h1]
  unfold dg
  rw [w32_pow, show 32 * i = (d.exp + 1088).toNat + k by omega, Nat.pow_add, ← Nat.div_div_eq_div_mul, Nat.mul_div_cancel _ (Nat.two_pow_pos _)]
theorem words_first (n : Nat) : (words n = [] ∧ n % 4294967296 = 0) ∨ ∃ t, words n = (n % 4294967296) :: t := by
  by_cases h : n = 0
  · left; subst h; exact ⟨words_zero, rfl⟩
  · right; exact ⟨_, words_pos h⟩
end Go.Proofs.YthdbapibbdkclaaDoor
