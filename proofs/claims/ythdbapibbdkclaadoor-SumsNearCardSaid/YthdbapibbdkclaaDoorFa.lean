/- The model's rounding to the nearest is the document's. No statement of the seat is proved here. -/
import Derived.Test.YthdbapibbdkclaaDoorProg
import Derived.Test.YthdbapibbdkclaaDoorMG
namespace Go.Proofs.YthdbapibbdkclaaDoor
open Go.RowKit
set_option linter.unusedVariables false
set_option linter.unusedSimpArgs false

theorem even_cut_zero (neg : Bool) (n : Nat) : Ieee.Toward.even.cut neg n 0 = n := by
  unfold Ieee.Toward.cut
  simp [Nat.mod_one]
theorem even_cut_odd (neg : Bool) (m c : Nat) (hm : m % 2 = 1) : Ieee.Toward.even.cut neg m (c + 1) = stepN 0 neg m ((c + 1 : Nat) : Int) := by
  have hm0 : m ≠ 0 := by omega
  have hlog := @Nat.lt_log2_self m
  unfold stepN awayN digN
  rw [if_neg (show ¬ (((c + 1 : Nat) : Int) ≤ 0) by omega), if_pos rfl, show ((c + 1 : Nat) : Int).toNat = c + 1 by omega, show (((c + 1 : Nat) : Int) - 1).toNat = c by omega, show decide (((c + 1 : Nat) : Int) = 1) = decide (c = 0) by rw [decide_eq_decide]; omega]
  unfold Ieee.Toward.cut
  dsimp only
  by_cases hb : c + 1 ≤ m.log2 + 2
  · rw [Nat.min_eq_left hb, Nat.one_shiftLeft]
    have hP := Nat.two_pow_pos (c + 1)
    obtain ⟨n, hn⟩ : ∃ n, n = m / 2 ^ (c + 1) := ⟨_, rfl⟩
    obtain ⟨r, hr⟩ : ∃ r, r = m % 2 ^ (c + 1) := ⟨_, rfl⟩
    have hmn : m = n * 2 ^ (c + 1) + r := by rw [hn, hr, Nat.mul_comm]; exact (Nat.div_add_mod m _).symm
    have hrlt : r < 2 ^ (c + 1) := by rw [hr]; exact Nat.mod_lt _ hP
    have hpw : 2 ^ (c + 1) = 2 * 2 ^ c := by rw [Nat.pow_succ, Nat.mul_comm]
    have hrodd : r % 2 = 1 := by
      rw [hmn, hpw, Nat.mul_left_comm] at hm
      omega
    have htb := testBit_ge (c := c) n r hmn hrlt
    rw [← hn, ← hr, htb]
    have hcase : (c = 0 ∧ r = 2 ^ c) ∨ (c ≠ 0 ∧ r < 2 ^ c) ∨ (c ≠ 0 ∧ 2 ^ c < r) := by
      by_cases hc0 : c = 0
      · subst hc0; left; simp at hrlt; exact ⟨rfl, by simp; omega⟩
      · right
        have : 2 ^ (c - 1 + 1) = 2 * 2 ^ (c - 1) := Nat.pow_succ'
        rw [show c - 1 + 1 = c by omega] at this
        omega
    have hc2 : (0 : Int) < ((c + 1 : Nat) : Int) := by omega
    rcases hcase with ⟨h1, h2⟩ | ⟨h1, h2⟩ | ⟨h1, h2⟩
    · have a1 : decide (2 ^ (c + 1) < 2 * r) = false := decide_eq_false (by omega)
      have a2 : (2 ^ (c + 1) == 2 * r) = true := by rw [beq_iff_eq]; omega
      rw [a1, a2, decide_eq_true h1, decide_eq_true (Nat.le_of_eq h2.symm)]
      by_cases hp : n % 2 = 1 <;> simp [hp, hc2]
    · have a1 : decide (2 ^ (c + 1) < 2 * r) = false := decide_eq_false (by omega)
      have a2 : (2 ^ (c + 1) == 2 * r) = false := by rw [beq_eq_false_iff_ne]; omega
      rw [a1, a2, decide_eq_false h1, decide_eq_false (show ¬ 2 ^ c ≤ r by omega)]
      simp
    · have a1 : decide (2 ^ (c + 1) < 2 * r) = true := decide_eq_true (by omega)
      rw [a1, decide_eq_false h1, decide_eq_true (show 2 ^ c ≤ r by omega)]
      simp [hc2]
  · rw [Nat.min_eq_right (by omega), Nat.one_shiftLeft]
    have hpw : 2 ^ (m.log2 + 2) = 2 * 2 ^ (m.log2 + 1) := by rw [Nat.pow_succ, Nat.mul_comm]
    have h2 : 2 ^ (m.log2 + 1) ≤ 2 ^ c := Nat.pow_le_pow_right (by decide) (by omega)
    have h3 : 2 ^ c ≤ 2 ^ (c + 1) := Nat.pow_le_pow_right (by decide) (by omega)
    have e1 : m / 2 ^ (m.log2 + 2) = 0 := Nat.div_eq_of_lt (by omega)
    have e2 : m % 2 ^ (m.log2 + 2) = m := Nat.mod_eq_of_lt (by omega)
    have e3 : m / 2 ^ (c + 1) = 0 := Nat.div_eq_of_lt (by omega)
    have e4 : m.testBit c = false := Nat.testBit_lt_two_pow (by omega)
    have a1 : decide (2 ^ (m.log2 + 2) < 2 * m) = false := decide_eq_false (by omega)
    have a2 : (2 ^ (m.log2 + 2) == 2 * m) = false := by rw [beq_eq_false_iff_ne]; omega
    rw [e1, e2, e3, e4, a1, a2]
    simp
theorem stepN_ge (mode : Int) (neg : Bool) (m : Nat) (cut : Int) : digN m cut ≤ stepN mode neg m cut := by
  unfold stepN; split <;> omega

theorem nearest_on (f : Ieee.Format) (h : Nat) (L : Int) (E q : Nat) (hf : f.fractionBits = h) (hL : f.leastPlace = L) (hE : f.infRung = E) (hq : E = q * 2 ^ h) (hq2 : 2 ≤ q) (hh : 1 ≤ h)
    (neg : Bool) (m : Nat) (e : Int) (hodd : m = 0 ∨ m % 2 = 1) : f.nearest neg m e = f.word neg (onF h L E ⟨neg, m, e⟩ 0) := by
  have hR := (on_rounds h L E q ⟨neg, m, e⟩ 0 hh hq hq2 hodd (by decide) (by decide)).le
  unfold onF at hR ⊢
  unfold Ieee.Format.nearest
  dsimp only at hR ⊢
  rw [hf, hL, hE, show f.binade = 2 ^ h by unfold Ieee.Format.binade; rw [hf]]
  by_cases h0 : m = 0
  · rw [if_pos h0, if_pos h0]
  rw [if_neg h0, if_neg h0]
  rw [if_neg h0] at hR
  have hm1 : m % 2 = 1 := by omega
  obtain ⟨hs1, hs2⟩ := bitLen_spec m
  have hs2 := hs2 (by omega)
  have hbp := bitLen_pos h0
  have hbl : (bitLen m : Int) = (m.log2 : Int) + 1 := by
    have h1 := Nat.log2_self_le h0
    have h2 := @Nat.lt_log2_self m
    have h3 : bitLen m - 1 < m.log2 + 1 := (Nat.pow_lt_pow_iff_right (by decide)).1 (Nat.lt_of_le_of_lt hs2 h2)
    have h4 : m.log2 < bitLen m := (Nat.pow_lt_pow_iff_right (by decide)).1 (Nat.lt_of_le_of_lt h1 hs1)
    omega
  have hEq : E / 2 ^ h = q := by rw [hq, Nat.mul_div_cancel _ (Nat.two_pow_pos h)]
  rw [hEq] at hR ⊢
  have hx : max (e + (m.log2 : Int) - (h : Int)) L = expN h L m e := by unfold expN; rw [hbl]; congr 1; omega
  rw [hx]
  have hk : Ieee.Toward.even.cut neg (m <<< (e - expN h L m e).toNat) (expN h L m e - e).toNat = stepN 0 neg m (expN h L m e - e) := by
    by_cases hcut : expN h L m e - e ≤ 0
    · rw [show (expN h L m e - e).toNat = 0 by omega, even_cut_zero, Nat.shiftLeft_eq]
      unfold stepN digN
      rw [if_neg (by omega), if_pos hcut, show (-(expN h L m e - e)).toNat = (e - expN h L m e).toNat by omega]
    · obtain ⟨c, hc⟩ : ∃ c : Nat, ((c + 1 : Nat) : Int) = expN h L m e - e := ⟨(expN h L m e - e).toNat - 1, by omega⟩
      rw [show (e - expN h L m e).toNat = 0 by omega, Nat.shiftLeft_zero, ← hc, show ((c + 1 : Nat) : Int).toNat = c + 1 by omega, even_cut_odd neg m c hm1]
  rw [hk]
  congr 1
  by_cases hbig : L + (q : Nat) - 1 + h < (bitLen m : Int) + e
  · rw [if_pos hbig]
    have h1 : beyondN E neg 0 = E := by unfold beyondN; rw [if_neg (by omega)]
    rw [h1]
    apply Nat.min_eq_right
    have hxx : expN h L m e = (bitLen m : Int) + e - (h + 1) := by unfold expN; omega
    have h2 : 2 ^ h ≤ digN m (expN h L m e - e) := by
      unfold digN
      split
      · refine Nat.le_trans ?_ (Nat.mul_le_mul_right _ hs2)
        rw [← Nat.pow_add]; exact Nat.pow_le_pow_right (by decide) (by omega)
      · refine (Nat.le_div_iff_mul_le (Nat.two_pow_pos _)).2 ?_
        rw [← Nat.pow_add]
        exact Nat.le_trans (Nat.pow_le_pow_right (by decide) (by omega)) hs2
    have h3 := stepN_ge 0 neg m (expN h L m e - e)
    have h4 : (q - 1) * 2 ^ h ≤ (expN h L m e - L).toNat * 2 ^ h := Nat.mul_le_mul_right _ (by omega)
    have h5 : E = (q - 1) * 2 ^ h + 2 ^ h := by rw [hq, ← Nat.succ_mul]; congr 1; omega
    omega
  · rw [if_neg hbig] at hR ⊢
    rw [Nat.add_comm]
    exact Nat.min_eq_left hR
end Go.Proofs.YthdbapibbdkclaaDoor
