/- The model's rounding to the nearest is the document's. Sums of numbers of 64 bits as the model rounds them, in numbers. Steps of numbers of 64 bits in a walk: sums, differences, a NaN in its one form; contracts of sums.told, Running. No statement of the seat is proved here. -/
import Derived.Test.YteahdgbokjbgcaaGreatDoorProg
import Derived.Test.YteahdgbokjbgcaaGreatDoorYMG
import Derived.Test.YteahdgbokjbgcaaGreatDoorYMH
import Derived.Test.YteahdgbokjbgcaaGreatDoorYMJ
import Derived.Test.YteahdgbokjbgcaaGreatDoorYMP
import Derived.Test.YteahdgbokjbgcaaGreatDoorYMQ
namespace Go.Proofs.YteahdgbokjbgcaaGreatDoor
open Go.RowKit
set_option linter.unusedVariables false
set_option linter.unusedSimpArgs false

end Go.Proofs.YteahdgbokjbgcaaGreatDoor
namespace Go.Proofs.YteahdgbokjbgcaaGreatDoor
open Go.RowKit
set_option linter.unusedVariables false
set_option linter.unusedSimpArgs false

/-- a value that is not too great has a form -/
theorem form_smallB (s : Bool) {n j : Nat} {e : Int} (hn : n < 2 ^ (32 * j)) (hj : j ≤ 8192) (h1 : -1048576 ≤ e) (h2 : e + 32 * (j : Int) ≤ 1048576) : ∃ d, formF s n e = some d := by
  unfold formF
  by_cases h0 : n = 0
  · rw [if_pos h0]; exact ⟨_, rfl⟩
  · rw [if_neg h0]
    have h3 := low_lt_bitLen h0
    have h4 : bitLen n ≤ 32 * j := bitLen_lt hn
    have h5 : (words (n / 2 ^ low n)).length ≤ j := words_len_le (by
      have := Nat.div_le_self n (2 ^ low n)
      rw [w32_pow]
      omega)
    rw [if_neg (by omega)]; exact ⟨_, rfl⟩
theorem numV_bd {k : Nat} (hk : k < 9218868437227405312) {j : Nat} (hj : j = 66) : numV 52 k < 2 ^ (32 * j) := by
  unfold numV
  have h1 : numM 52 k < 2 ^ 53 := by
    unfold numM
    rw [show (2 : Nat) ^ 52 = 4503599627370496 from rfl, show (2 : Nat) ^ 53 = 9007199254740992 from rfl]
    split <;> omega
  have h2 : numE 52 k ≤ 2046 := by
    unfold numE
    rw [show (2 : Nat) ^ 52 = 4503599627370496 from rfl]
    omega
  have h3 : numM 52 k * 2 ^ numE 52 k < 2 ^ 53 * 2 ^ numE 52 k := (Nat.mul_lt_mul_right (Nat.two_pow_pos _)).2 h1
  rw [← Nat.pow_add] at h3
  exact Nat.lt_of_lt_of_le h3 (Nat.pow_le_pow_right (by decide) (by omega))
theorem sgn_abs (s : Bool) (n : Nat) : (sgn s n).natAbs = n := by unfold sgn; split <;> omega
theorem ofF_zB {b : Nat} {p : D} (h : ofF b = some p) : p.z (-1074) = fV b ∧ -1074 ≤ p.exp := by
  unfold ofF bitsF at h
  split at h
  · cases h
  · have hz := z_form h (B := -1074) (by omega) (by decide)
    refine ⟨?_, hz.2⟩
    rw [hz.1]
    unfold fV numV
    rw [sgn_mul]
    congr 3
    omega
theorem ofF_some {b : Nat} (h : b % 9223372036854775808 < 9218868437227405312) : ∃ p, ofF b = some p := by
  unfold ofF bitsF
  rw [if_neg (by omega)]
  obtain ⟨j, hj⟩ : ∃ j, j = 66 := ⟨_, rfl⟩
  have h1 : numM 52 (b % 9223372036854775808) < 2 ^ (32 * 2) := by
    unfold numM
    rw [show (2 : Nat) ^ 52 = 4503599627370496 from rfl, show (2 : Nat) ^ (32 * 2) = 18446744073709551616 from rfl]
    split <;> omega
  have h2 : numE 52 (b % 9223372036854775808) ≤ 2046 := by
    unfold numE
    rw [show (2 : Nat) ^ 52 = 4503599627370496 from rfl]
    omega
  exact form_smallB _ h1 (by decide) (by omega) (by omega)
theorem z_abs {d : D} {B : Int} (h : B ≤ d.exp) : d.m * 2 ^ (d.exp - B).toNat = (d.z B).natAbs := by
  unfold D.z; rw [← sgn_mul, sgn_abs]
/-- forms of values that are not too great have a sum -/
theorem addD_some {p q : D} {B : Int} {j : Nat} (hp : B ≤ p.exp) (hq : B ≤ q.exp) (h0 : B ≤ 0) (bp : (p.z B).natAbs < 2 ^ (32 * j)) (bq : (q.z B).natAbs < 2 ^ (32 * j)) (hj : j + 1 ≤ 8192) (h1 : -1048576 ≤ B) (h2 : ∀ d : D, d = p ∨ d = q → d.m ≠ 0 → d.exp + 32 * ((j : Int) + 1) ≤ 1048576) : ∃ d, addD p q = some d := by
  unfold addD
  by_cases hp0 : p.m = 0
  · rw [if_pos hp0]; exact ⟨_, rfl⟩
  rw [if_neg hp0]
  by_cases hq0 : q.m = 0
  · rw [if_pos hq0]; exact ⟨_, rfl⟩
  rw [if_neg hq0]
  have hP : p.m * 2 ^ (p.exp - min p.exp q.exp).toNat < 2 ^ (32 * j) := by
    refine Nat.lt_of_le_of_lt ?_ bp
    rw [← z_abs hp]
    exact Nat.mul_le_mul_left _ (Nat.pow_le_pow_right (by decide) (by omega))
  have hQ : q.m * 2 ^ (q.exp - min p.exp q.exp).toNat < 2 ^ (32 * j) := by
    refine Nat.lt_of_le_of_lt ?_ bq
    rw [← z_abs hq]
    exact Nat.mul_le_mul_left _ (Nat.pow_le_pow_right (by decide) (by omega))
  have lP : (words (p.m * 2 ^ (p.exp - min p.exp q.exp).toNat)).length ≤ j := words_len_le (by rw [w32_pow]; exact hP)
  have lQ : (words (q.m * 2 ^ (q.exp - min p.exp q.exp).toNat)).length ≤ j := words_len_le (by rw [w32_pow]; exact hQ)
  rw [if_neg (by omega)]
  have hpow : 2 ^ (32 * (j + 1)) = 4294967296 * 2 ^ (32 * j) := by rw [show 32 * (j + 1) = 32 + 32 * j by omega, Nat.pow_add]
  have h3 := h2 p (.inl rfl) hp0
  have h4 := h2 q (.inr rfl) hq0
  have hs : ∀ (s : Bool) (n : Nat), n < 2 ^ (32 * (j + 1)) → ∃ d, formF s n (min p.exp q.exp) = some d := fun s n hn => form_smallB s hn hj (by omega) (by omega)
  split
  · exact hs _ _ (by omega)
  · split
    · exact hs _ _ (by omega)
    · exact hs _ _ (by omega)

theorem fV_abs {b : Nat} (h : b % 9223372036854775808 < 9218868437227405312) {j : Nat} (hj : j = 66) : (fV b).natAbs < 2 ^ (32 * j) := by
  unfold fV; rw [sgn_abs]; exact numV_bd h hj
end Go.Proofs.YteahdgbokjbgcaaGreatDoor
namespace Go.Proofs.YteahdgbokjbgcaaGreatDoor
open Go.RowKit
set_option linter.unusedVariables false
set_option linter.unusedSimpArgs false

/-- a number, a NaN in its one form -/
def canon (b : Nat) : Nat := if 9218868437227405312 < b % 9223372036854775808 then nan64 else b
theorem canon_nan {b : Nat} (h : 9218868437227405312 < b % 9223372036854775808) : canon b = nan64 := if_pos h
theorem canon_num {b : Nat} (h : b % 9223372036854775808 ≤ 9218868437227405312) : canon b = b := if_neg (by omega)
end Go.Proofs.YteahdgbokjbgcaaGreatDoor
