/- The bound of bins, the exact sum of a list's finite numbers, in numbers. No statement of the seat is proved here. -/
import Derived.Test.YthdbapibbdkclaaDoorProg
import Derived.Test.YthdbapibbdkclaaDoorHq
import Derived.Test.YthdbapibbdkclaaDoorHi
namespace Go.Proofs.YthdbapibbdkclaaDoor
open Go.RowKit
set_option linter.unusedVariables false
set_option linter.unusedSimpArgs false

theorem Dy.lower {B : Int} {J : Nat} {d : D} {z : Int} (h : Dy B J d z) (k : Nat) {K : Nat} (hK : 32 * J + k ≤ 32 * K) : Dy (B - k) K d (z * ((2 ^ k : Nat) : Int)) := by
  refine ⟨h.is, h.ok, by have := h.ex; omega, by rw [z_down h.ex, h.val], ?_⟩
  rw [Int.natAbs_mul, Int.natAbs_natCast]
  refine Nat.lt_of_lt_of_le ((Nat.mul_lt_mul_right (Nat.two_pow_pos _)).2 h.sz) ?_
  rw [← Nat.pow_add]
  exact Nat.pow_le_pow_right (by decide) hK
theorem Dy.cmp {B : Int} {J K : Nat} {p q : D} {x y : Int} (hp : Dy B J p x) (hq : Dy B K q y) (a a' : Option Addr) (c c' : Nat) : cmpA (argOf p a c) (argOf q a' c') < 0 ↔ x < y := by
  have h := (cmpA_le (a := a) (a' := a') (c := c) (c' := c') hp.ex hq.ex).2
  rw [hp.val, hq.val] at h
  omega
/-- what Bound answers -/
def BdR (A : Bn) (f r : Nat) : Prop :=
  A.len = 0 ∧ r = 0 ∨ 0 < A.len ∧ ∃ d er, Dy (-1408) 100 d ((A.n * 4294967296 ^ (A.len + 10 - f) : Nat) : Int) ∧ RoundsTo 52 (-1074) 9218868437227405312 9223372036854775808 2 (some d) r er
theorem BdR.uniq {A : Bn} {f r r' : Nat} (h : BdR A f r) (h' : BdR A f r') : r = r' := by
  rcases h with ⟨a, rfl⟩ | ⟨a, d, er, h1, h2⟩ <;> rcases h' with ⟨a', rfl⟩ | ⟨a', d', er', h1', h2'⟩
  · rfl
  · omega
  · omega
  · obtain rfl := h1.uniq h1'
    exact (h2.uniq h2').1
theorem to_er {mode : Int} {d : D} {r : Nat} {er : Int} (h0 : 0 ≤ mode) (h4 : mode ≤ 4) (h : RoundsTo 52 (-1074) 9218868437227405312 9223372036854775808 mode (some d) r er) : er = 0 := by
  rcases h with ⟨m1, _⟩ | ⟨_, ⟨h1, _⟩ | ⟨_, _, _, _, _, h2⟩⟩
  · omega
  · cases h1
  · exact h2
theorem bdR_lt {A : Bn} {f r : Nat} (h : BdR A f r) : r < 18446744073709551616 ∧ r % 9223372036854775808 ≤ 9218868437227405312 := by
  rcases h with ⟨_, rfl⟩ | ⟨_, d, er, h1, h2⟩
  · exact ⟨by decide, by decide⟩
  · obtain rfl := to_er (by decide) (by decide) h2
    exact r64_fits (by decide) (by decide) h2
/-- the bound is more than what is off -/
theorem bound_pos {A : Bn} {m f r : Nat} (hA : A.Few m) (h0 : 0 < A.len) (hf : f ≤ 8) (h : BdR A f r) {o : D} (ho : Dy (-1088) 70 o (((A.kS A.len - A.kS f).natAbs : Nat) : Int)) :
    (ofF r = none → r = 9218868437227405312) ∧ ∀ q, ofF r = some q → 0 < fV r ∧ ∀ a c a' c', cmpA (argOf o a c) (argOf q a' c') < 0 := by
  rcases h with ⟨h1, _⟩ | ⟨_, d, er, h1, h2⟩
  · omega
  obtain rfl := to_er (by decide) (by decide) h2
  obtain ⟨k1, k2⟩ := r64_fits (by decide) (by decide) h2
  have hoff := kS_off hA h0 hf
  obtain ⟨j, hj⟩ : ∃ j, j = 320 := ⟨_, rfl⟩
  obtain ⟨i, hi⟩ : ∃ i, i = 334 := ⟨_, rfl⟩
  obtain ⟨t, ht⟩ : ∃ t, t = 10 := ⟨_, rfl⟩
  have hw : (4294967296 : Nat) ^ 10 = 2 ^ j := by
    rw [w32_pow]
    congr 1
    omega
  have ht2 : A.len + 10 - f = A.len + t - f := by rw [ht]
  rw [hw, ht2] at hoff
  rw [ht2] at h1
  obtain ⟨T, hT⟩ : ∃ T, T = A.n * 4294967296 ^ (A.len + t - f) := ⟨_, rfl⟩
  rw [← hT] at hoff h1
  obtain ⟨Z, hZ⟩ : ∃ Z, Z = (A.kS A.len - A.kS f).natAbs := ⟨_, rfl⟩
  rw [← hZ] at hoff ho
  clear hZ hT ht2 hw
  have hTp : 0 < T := by omega
  have hneg : d.neg = false := by
    have h3 := h1.val
    cases hn : d.neg
    · rfl
    · exfalso
      unfold D.z sgn at h3
      rw [hn, if_pos rfl] at h3
      have : 0 ≤ ((d.m : Nat) : Int) * ((2 ^ (d.exp - -1408).toNat : Nat) : Int) := Int.mul_nonneg (Int.natCast_nonneg _) (Int.natCast_nonneg _)
      rw [Int.neg_mul] at h3
      omega
  have hrE : r ≤ 9218868437227405312 := by
    rcases h2 with ⟨m1, _⟩ | ⟨_, ⟨h3, _⟩ | ⟨d', k, h3, h4, h5, _⟩⟩
    · omega
    · cases h3
    · cases h3
      have := h4.le
      rw [hneg] at h5
      rw [h5]
      simpa using this
  refine ⟨fun hn => ?_, fun q hq => ?_⟩
  · rcases Nat.lt_or_ge r 9218868437227405312 with h3 | h3
    · obtain ⟨p, hp⟩ := ofF_some (b := r) (by omega)
      rw [hp] at hn; cases hn
    · omega
  · obtain ⟨h3, h4, h5⟩ := ofF_z (-1074) (by decide) k1 hq
    obtain ⟨j6, hj6⟩ : ∃ j, j = 66 := ⟨_, rfl⟩
    obtain ⟨q', hq', hdq⟩ := Dy.of h3 hj6
    obtain rfl : q = q' := by rw [hq] at hq'; exact Option.some.inj hq'
    have hup := r64_up (a := none) (a' := none) (c := 0) (c' := 0) h2 hq
    have hdq2 := hdq.lower i (K := 100) (by omega)
    rw [show (-1074 : Int) - (i : Nat) = -1408 by omega] at hdq2
    have hle : (T : Int) ≤ fV r * ((2 ^ i : Nat) : Int) := by
      have := (cmpA_le (a := none) (a' := none) (c := 0) (c' := 0) hdq2.ex h1.ex).2
      rw [hdq2.val, h1.val] at this
      exact this.1 hup
    have hpos : 0 < fV r := by
      rcases Int.lt_or_le 0 (fV r) with h6 | h6
      · exact h6
      · have := Int.mul_le_mul_of_nonneg_right h6 (Int.natCast_nonneg (2 ^ i))
        omega
    refine ⟨hpos, fun a c a' c' => ?_⟩
    have hol := ho.lower j (K := 100) (by omega)
    rw [show (-1088 : Int) - (j : Nat) = -1408 by omega] at hol
    refine (hol.cmp hdq2 a a' c c').2 ?_
    have h7 : ((Z * 2 ^ j : Nat) : Int) < (T : Int) := by omega
    rw [Int.natCast_mul] at h7
    omega

/-- what a number adds to the exact sum -/
def zX (b : Nat) : Int := if 9218868437227405312 ≤ b % 9223372036854775808 then 0 else fV b * 16384
theorem bnX_zX {b : Nat} (hb : b < 18446744073709551616) {L : Nat} (hL : 66 ≤ L) : (bnX b).val L = zX b := by
  rw [bnX_val b hL]
  unfold zX
  split
  · rfl
  · rename_i h
    have h1 := mB_num (b := b) (by omega)
    have h2 : (ptOf b).s = decide (9223372036854775808 ≤ b) := by
      have e : (b / 9223372036854775808 % 2 == 1) = decide (9223372036854775808 ≤ b) := by
        by_cases h3 : 9223372036854775808 ≤ b
        · rw [decide_eq_true h3, beq_iff_eq]; omega
        · rw [decide_eq_false h3, beq_eq_false_iff_ne]; omega
      unfold ptOf
      split
      · omega
      · split
        · exact e
        · split
          · exact e
          · exact e
    rw [h1, h2]
    unfold fV
    rw [sgn_mul]; rfl
end Go.Proofs.YthdbapibbdkclaaDoor
