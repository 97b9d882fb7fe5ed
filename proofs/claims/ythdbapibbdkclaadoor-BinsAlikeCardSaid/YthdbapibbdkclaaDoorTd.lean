/- Of a form rounded down and up: one is the other, or the next above it. No statement of the seat is proved here. -/
import Derived.Test.YthdbapibbdkclaaDoorProg
import Derived.Test.YthdbapibbdkclaaDoorMJ
namespace Go.Proofs.YthdbapibbdkclaaDoor
open Go.RowKit
set_option linter.unusedVariables false
set_option linter.unusedSimpArgs false

/-- the number next above one that is neither NaN nor the greatest infinity -/
def nextB (b : Nat) : Nat := if b % 9223372036854775808 = 0 then 1 else if 9223372036854775808 ≤ b then b - 1 else b + 1
theorem near_both {c X k : Nat} {neg : Bool} (n : Nat → Nat) (h : ¬ numV 52 k * 2 ^ c = X) : nearK 52 c X 3 neg k = (if neg = true then k + 1 else k) ∧ nearK 52 c X 2 neg k = (if neg = true then k else k + 1) := by
  unfold nearK
  rw [if_neg h, if_neg h]
  unfold onK
  cases neg <;> simp
theorem near_alike {c X k : Nat} {m : Int} {neg : Bool} (h : numV 52 k * 2 ^ c = X) : nearK 52 c X m neg k = k := by
  unfold nearK; rw [if_pos h]
/-- down and up: the same, or neighbours -/
theorem r64_between {d : D} {x y : Nat} (h3 : R64 3 d x) (h2 : R64 2 d y) :
    x < 18446744073709551616 ∧ y < 18446744073709551616 ∧ x % 9223372036854775808 ≤ 9218868437227405312 ∧ y % 9223372036854775808 ≤ 9218868437227405312 ∧
    (x = y ∧ x % 9223372036854775808 < 9218868437227405312 ∨ fV x < fV y ∧ x ≠ 9218868437227405312 ∧ nextB x = y) := by
  obtain ⟨B, hB1, hB3⟩ : ∃ B : Int, B ≤ d.exp ∧ B ≤ -1074 := ⟨min d.exp (-1074), by omega, by omega⟩
  obtain ⟨_, k, j, a⟩ := lies_of B (by decide) (by decide) hB1 hB3 h3
  obtain ⟨_, k', j', b⟩ := lies_of B (by decide) (by decide) hB1 hB3 h2
  obtain rfl := a.below.uniq b.below
  refine ⟨a.lt, b.lt, by rw [a.mod]; exact a.le, by rw [b.mod]; exact b.le, ?_⟩
  have hkl := a.below.lt
  have n1 := a.near
  have n2 := b.near
  have t1 := a.bits
  have t2 := b.bits
  have v1 := a.val
  have v2 := b.val
  generalize d.x B = X at *
  generalize d.neg = s at *
  by_cases hE : numV 52 k * 2 ^ (-1074 - B).toNat = X
  · rw [near_alike hE] at n1 n2
    left
    exact ⟨by rw [t1, t2, n1, n2], by rw [a.mod, n1]; exact hkl⟩
  · obtain ⟨e1, e2⟩ := near_both (neg := s) (fun n => n) hE
    rw [e1] at n1
    rw [e2] at n2
    right
    have hlt : numV 52 k < numV 52 (k + 1) := numV_lt (Nat.lt_succ_self k)
    cases s
    · simp only [Bool.false_eq_true, if_false] at *
      subst n1; subst n2
      rw [v1, v2]
      unfold sgn nextB
      simp only [Bool.false_eq_true, if_false]
      refine ⟨by omega, by omega, ?_⟩
      split
      · omega
      · rw [if_neg (by omega)]; omega
    · simp only [if_true] at *
      subst n1; subst n2
      rw [v1, v2]
      unfold sgn nextB
      simp only [if_true]
      refine ⟨by omega, by omega, ?_⟩
      rw [if_neg (by omega), if_pos (by omega)]; omega
end Go.Proofs.YthdbapibbdkclaaDoor
