/- The chapter's examples, in numbers. No statement of the seat is proved here. -/
import Derived.Test.YtmokomfneikipaaDoorProg
import Derived.Test.YtmokomfneikipaaDoorEj
namespace Go.Proofs.YtmokomfneikipaaDoor
open Go.RowKit
set_option linter.unusedVariables false
set_option linter.unusedSimpArgs false

theorem formF_at {s : Bool} {m k : Nat} {e : Int} (hm : m % 2 = 1) (h64 : m < 18446744073709551616) (h1 : -1048576 ≤ e + k) (h2 : e + k ≤ 1048576) : formF s (2 ^ k * m) e = some ⟨s, m, e + k⟩ := by
  have hp := Nat.two_pow_pos k
  have h0 : 2 ^ k * m ≠ 0 := by
    have := Nat.mul_pos hp (show 0 < m by omega); omega
  unfold formF
  rw [if_neg h0, low_eq hm, Nat.mul_div_cancel_left _ hp]
  have hl : (words m).length ≤ 2 := words_len_le (by omega)
  rw [if_neg (by omega)]
theorem ofF_three4 : ofF 4604930618986332160 = some ⟨false, 3, -2⟩ := by
  have h := @formF_at false 3 51 (-1074 + 1021) (by decide) (by decide) (by decide) (by decide)
  have hM : numM 52 4604930618986332160 = 2 ^ 51 * 3 := by decide
  have hE : numE 52 4604930618986332160 = 1021 := by decide
  unfold ofF bitsF
  rw [if_neg (by decide), show (4604930618986332160 % 9223372036854775808 : Nat) = 4604930618986332160 by decide, hM, hE, show decide (9223372036854775808 ≤ 4604930618986332160) = false by decide]
  exact h
theorem ofF_inf : ofF 9218868437227405312 = none := by
  unfold ofF bitsF
  rw [if_pos (by decide)]
theorem intF_four : intF 4 = some ⟨false, 1, 2⟩ := by
  have h := @formF_at false 1 2 0 (by decide) (by decide) (by decide) (by decide)
  exact h
theorem addF_nineteen : addO (some ⟨false, 3, -2⟩) (some ⟨false, 1, 2⟩) = some ⟨false, 19, -2⟩ := by
  have h := @formF_at false 19 0 (-2) (by decide) (by decide) (by decide) (by decide)
  have h3 : (words 3).length ≤ 2 := words_len_le (by decide)
  have h16 : (words 16).length ≤ 2 := words_len_le (by decide)
  show addD ⟨false, 3, -2⟩ ⟨false, 1, 2⟩ = _
  unfold addD
  rw [if_neg (by decide), if_neg (by decide), if_neg]
  · rw [if_pos rfl]; exact h
  · show ¬ (8192 < (words 3).length ∨ 8192 < (words 16).length)
    omega
theorem form_two53 : formF false (num [1, 2097152]) 0 = some ⟨false, 9007199254740993, 0⟩ := by
  have h := @formF_at false 9007199254740993 0 0 (by decide) (by decide) (by decide) (by decide)
  exact h
theorem form_small : formF true (num [1]) (-1075) = some ⟨true, 1, -1075⟩ := by
  have h := @formF_at true 1 0 (-1075) (by decide) (by decide) (by decide) (by decide)
  exact h
theorem bitLen_at {n k : Nat} (h1 : 2 ^ k ≤ n) (h2 : n < 2 ^ (k + 1)) : bitLen n = k + 1 := by
  have h3 := bitLen_lt h2
  rcases Nat.lt_or_ge (bitLen n) (k + 1) with h4 | h4
  · have := (bitLen_spec n).1
    have := Nat.lt_of_lt_of_le this (Nat.pow_le_pow_right (show 0 < 2 by decide) (show bitLen n ≤ k by omega))
    omega
  · omega
theorem rounds_to {mode : Int} {d : D} {k r : Nat} {er : Int} (hd : d.m = 0 ∨ d.m % 2 = 1) (h0 : 0 ≤ mode) (h4 : mode ≤ 4) (hk : onF 52 (-1074) 9218868437227405312 d mode = k) (h : RoundsTo 52 (-1074) 9218868437227405312 9223372036854775808 mode (some d) r er) : r = k + (if d.neg = true then 9223372036854775808 else 0) ∧ er = 0 := by
  have hR := on_rounds 52 (-1074) 9218868437227405312 2047 d mode (by decide) (by decide) (by decide) hd h0 h4
  rw [hk] at hR
  exact h.uniq (.inr ⟨⟨h0, h4⟩, .inr ⟨d, k, rfl, hR, rfl, rfl⟩⟩)
theorem on_two53_up : onF 52 (-1074) 9218868437227405312 ⟨false, 9007199254740993, 0⟩ 2 = 4845873199050653697 := by
  have hb : bitLen 9007199254740993 = 53 + 1 := bitLen_at (by decide) (by decide)
  unfold onF expN
  simp only [hb]
  decide
theorem on_two53_even : onF 52 (-1074) 9218868437227405312 ⟨false, 9007199254740993, 0⟩ 0 = 4845873199050653696 := by
  have hb : bitLen 9007199254740993 = 53 + 1 := bitLen_at (by decide) (by decide)
  unfold onF expN
  simp only [hb]
  decide
theorem on_small : onF 52 (-1074) 9218868437227405312 ⟨true, 1, -1075⟩ 0 = 0 := by
  have hb : bitLen 1 = 0 + 1 := bitLen_at (by decide) (by decide)
  unfold onF expN
  simp only [hb]
  decide
end Go.Proofs.YtmokomfneikipaaDoor
