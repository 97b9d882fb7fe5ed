/- The model's rounding to the nearest is the document's. Sums of numbers of 64 bits as the model rounds them, in numbers. Steps of numbers of 64 bits in a walk: sums, differences, a NaN in its one form; contracts of sums.told, Running. No statement of the seat is proved here. -/
import Derived.Test.YthdbapibbdkclaaDoorProg
import Derived.Test.YthdbapibbdkclaaDoorMG
import Derived.Test.YthdbapibbdkclaaDoorMH
import Derived.Test.YthdbapibbdkclaaDoorMJ
import Derived.Test.YthdbapibbdkclaaDoorMP
import Derived.Test.YthdbapibbdkclaaDoorMQ
namespace Go.Proofs.YthdbapibbdkclaaDoor
open Go.RowKit
set_option linter.unusedVariables false
set_option linter.unusedSimpArgs false

theorem even_cut_zero (neg : Bool) (n : Nat) : Ieee.Toward.even.cut neg n 0 = n := by
  unfold Ieee.Toward.cut
  simp [Nat.mod_one]
theorem even_cut_odd (neg : Bool) (m c : Nat) (hm : m % 2 = 1) : Ieee.Toward.even.cut neg m (c + 1) = stepN 0 neg m ((c + 1 : Nat) : Int) := by
  have hm0 : m ≠ 0 := by omega
  have hlog := @Nat.lt_log2_self m
  unfold stepN awayN digN
  rw [if_neg (show ¬ (((c + 1 : Nat) : Int) ≤ 0) by omega), if_pos rfl, show ((c + 1 : Nat) : Int).toNat = c + 1 by omega, show (((c + 1 : Nat) : Int) - 1).toNat = c by omega, show decide (((c + 1 : Nat) : Int) = 1) = decide (c = 0) by rw [decide_eq_decide]; omega]
  unfold Ieee.Toward.cut
  dsimp only
  by_cases hb : c + 1 ≤ m.log2 + 2
  · rw [Nat.min_eq_left hb, Nat.one_shiftLeft]
    have hP := Nat.two_pow_pos (c + 1)
    obtain ⟨n, hn⟩ : ∃ n, n = m / 2 ^ (c + 1) := ⟨_, rfl⟩
    obtain ⟨r, hr⟩ : ∃ r, r = m % 2 ^ (c + 1) := ⟨_, rfl⟩
    have hmn : m = n * 2 ^ (c + 1) + r := by rw [hn, hr, Nat.mul_comm]; exact (Nat.div_add_mod m _).symm
    have hrlt : r < 2 ^ (c + 1) := by rw [hr]; exact Nat.mod_lt _ hP
    have hpw : 2 ^ (c + 1) = 2 * 2 ^ c := by rw [Nat.pow_succ, Nat.mul_comm]
    have hrodd : r % 2 = 1 := by
      rw [hmn, hpw, Nat.mul_left_comm] at hm
      omega
    have htb := testBit_ge (c := c) n r hmn hrlt
    rw [← hn, ← hr, htb]
    have hcase : (c = 0 ∧ r = 2 ^ c) ∨ (c ≠ 0 ∧ r < 2 ^ c) ∨ (c ≠ 0 ∧ 2 ^ c < r) := by
      by_cases hc0 : c = 0
      · subst hc0; left; simp at hrlt; exact ⟨rfl, by simp; omega⟩
      · right
        have : 2 ^ (c - 1 + 1) = 2 * 2 ^ (c - 1) := Nat.pow_succ'
        rw [show c - 1 + 1 = c by omega] at this
        omega
    have hc2 : (0 : Int) < ((c + 1 : Nat) : Int) := by omega
    rcases hcase with ⟨h1, h2⟩ | ⟨h1, h2⟩ | ⟨h1, h2⟩
    · have a1 : decide (2 ^ (c + 1) < 2 * r) = false := decide_eq_false (by omega)
      have a2 : (2 ^ (c + 1) == 2 * r) = true := by rw [beq_iff_eq]; omega
      rw [a1, a2, decide_eq_true h1, decide_eq_true (Nat.le_of_eq h2.symm)]
      by_cases hp : n % 2 = 1 <;> simp [hp, hc2]
    · have a1 : decide (2 ^ (c + 1) < 2 * r) = false := decide_eq_false (by omega)
      have a2 : (2 ^ (c + 1) == 2 * r) = false := by rw [beq_eq_false_iff_ne]; omega
      rw [a1, a2, decide_eq_false h1, decide_eq_false (show ¬ 2 ^ c ≤ r by omega)]
      simp
    · have a1 : decide (2 ^ (c + 1) < 2 * r) = true := decide_eq_true (by omega)
      rw [a1, decide_eq_false h1, decide_eq_true (show 2 ^ c ≤ r by omega)]
      simp [hc2]
  · rw [Nat.min_eq_right (by omega), Nat.one_shiftLeft]
    have hpw : 2 ^ (m.log2 + 2) = 2 * 2 ^ (m.log2 + 1) := by rw [Nat.pow_succ, Nat.mul_comm]
    have h2 : 2 ^ (m.log2 + 1) ≤ 2 ^ c := Nat.pow_le_pow_right (by decide) (by omega)
    have h3 : 2 ^ c ≤ 2 ^ (c + 1) := Nat.pow_le_pow_right (by decide) (by omega)
    have e1 : m / 2 ^ (m.log2 + 2) = 0 := Nat.div_eq_of_lt (by omega)
    have e2 : m % 2 ^ (m.log2 + 2) = m := Nat.mod_eq_of_lt (by omega)
    have e3 : m / 2 ^ (c + 1) = 0 := Nat.div_eq_of_lt (by omega)
    have e4 : m.testBit c = false := Nat.testBit_lt_two_pow (by omega)
    have a1 : decide (2 ^ (m.log2 + 2) < 2 * m) = false := decide_eq_false (by omega)
    have a2 : (2 ^ (m.log2 + 2) == 2 * m) = false := by rw [beq_eq_false_iff_ne]; omega
    rw [e1, e2, e3, e4, a1, a2]
    simp
theorem stepN_ge (mode : Int) (neg : Bool) (m : Nat) (cut : Int) : digN m cut ≤ stepN mode neg m cut := by
  unfold stepN; split <;> omega

theorem nearest_on (f : Ieee.Format) (h : Nat) (L : Int) (E q : Nat) (hf : f.fractionBits = h) (hL : f.leastPlace = L) (hE : f.infRung = E) (hq : E = q * 2 ^ h) (hq2 : 2 ≤ q) (hh : 1 ≤ h)
    (neg : Bool) (m : Nat) (e : Int) (hodd : m = 0 ∨ m % 2 = 1) : f.nearest neg m e = f.word neg (onF h L E ⟨neg, m, e⟩ 0) := by
  have hR := (on_rounds h L E q ⟨neg, m, e⟩ 0 hh hq hq2 hodd (by decide) (by decide)).le
  unfold onF at hR ⊢
  unfold Ieee.Format.nearest
  dsimp only at hR ⊢
  rw [hf, hL, hE, show f.binade = 2 ^ h by unfold Ieee.Format.binade; rw [hf]]
  by_cases h0 : m = 0
  · rw [if_pos h0, if_pos h0]
  rw [if_neg h0, if_neg h0]
  rw [if_neg h0] at hR
  have hm1 : m % 2 = 1 := by omega
  obtain ⟨hs1, hs2⟩ := bitLen_spec m
  have hs2 := hs2 (by omega)
  have hbp := bitLen_pos h0
  have hbl : (bitLen m : Int) = (m.log2 : Int) + 1 := by
    have h1 := Nat.log2_self_le h0
    have h2 := @Nat.lt_log2_self m
    have h3 : bitLen m - 1 < m.log2 + 1 := (Nat.pow_lt_pow_iff_right (by decide)).1 (Nat.lt_of_le_of_lt hs2 h2)
    have h4 : m.log2 < bitLen m := (Nat.pow_lt_pow_iff_right (by decide)).1 (Nat.lt_of_le_of_lt h1 hs1)
    omega
  have hEq : E / 2 ^ h = q := by rw [hq, Nat.mul_div_cancel _ (Nat.two_pow_pos h)]
  rw [hEq] at hR ⊢
  have hx : max (e + (m.log2 : Int) - (h : Int)) L = expN h L m e := by unfold expN; rw [hbl]; congr 1; omega
  rw [hx]
  have hk : Ieee.Toward.even.cut neg (m <<< (e - expN h L m e).toNat) (expN h L m e - e).toNat = stepN 0 neg m (expN h L m e - e) := by
    by_cases hcut : expN h L m e - e ≤ 0
    · rw [show (expN h L m e - e).toNat = 0 by omega, even_cut_zero, Nat.shiftLeft_eq]
      unfold stepN digN
      rw [if_neg (by omega), if_pos hcut, show (-(expN h L m e - e)).toNat = (e - expN h L m e).toNat by omega]
    · obtain ⟨c, hc⟩ : ∃ c : Nat, ((c + 1 : Nat) : Int) = expN h L m e - e := ⟨(expN h L m e - e).toNat - 1, by omega⟩
      rw [show (e - expN h L m e).toNat = 0 by omega, Nat.shiftLeft_zero, ← hc, show ((c + 1 : Nat) : Int).toNat = c + 1 by omega, even_cut_odd neg m c hm1]
  rw [hk]
  congr 1
  by_cases hbig : L + (q : Nat) - 1 + h < (bitLen m : Int) + e
  · rw [if_pos hbig]
    have h1 : beyondN E neg 0 = E := by unfold beyondN; rw [if_neg (by omega)]
    rw [h1]
    apply Nat.min_eq_right
    have hxx : expN h L m e = (bitLen m : Int) + e - (h + 1) := by unfold expN; omega
    have h2 : 2 ^ h ≤ digN m (expN h L m e - e) := by
      unfold digN
      split
      · refine Nat.le_trans ?_ (Nat.mul_le_mul_right _ hs2)
        rw [← Nat.pow_add]; exact Nat.pow_le_pow_right (by decide) (by omega)
      · refine (Nat.le_div_iff_mul_le (Nat.two_pow_pos _)).2 ?_
        rw [← Nat.pow_add]
        exact Nat.le_trans (Nat.pow_le_pow_right (by decide) (by omega)) hs2
    have h3 := stepN_ge 0 neg m (expN h L m e - e)
    have h4 : (q - 1) * 2 ^ h ≤ (expN h L m e - L).toNat * 2 ^ h := Nat.mul_le_mul_right _ (by omega)
    have h5 : E = (q - 1) * 2 ^ h + 2 ^ h := by rw [hq, ← Nat.succ_mul]; congr 1; omega
    omega
  · rw [if_neg hbig] at hR ⊢
    rw [Nat.add_comm]
    exact Nat.min_eq_left hR
end Go.Proofs.YthdbapibbdkclaaDoor
namespace Go.Proofs.YthdbapibbdkclaaDoor
open Go.RowKit
set_option linter.unusedVariables false
set_option linter.unusedSimpArgs false

theorem log2_mul_pow {m : Nat} (h : m ≠ 0) (k : Nat) : (m * 2 ^ k).log2 = m.log2 + k := by
  have h1 := Nat.log2_self_le h
  have h2 := @Nat.lt_log2_self m
  have hp := Nat.two_pow_pos k
  refine (Nat.log2_eq_iff (by have := Nat.mul_pos (Nat.pos_of_ne_zero h) hp; omega)).2 ⟨?_, ?_⟩
  · rw [Nat.pow_add]; exact Nat.mul_le_mul_right _ h1
  · rw [show m.log2 + k + 1 = (m.log2 + 1) + k by omega, Nat.pow_add]; exact (Nat.mul_lt_mul_right hp).2 h2
theorem even_cut_scale (neg : Bool) {m : Nat} (hm : m ≠ 0) (k c : Nat) : Ieee.Toward.even.cut neg (m * 2 ^ k) (c + k) = Ieee.Toward.even.cut neg m c := by
  unfold Ieee.Toward.cut
  dsimp only
  rw [log2_mul_pow hm, show min (c + k) (m.log2 + k + 2) = min c (m.log2 + 2) + k by omega, Nat.one_shiftLeft, Nat.one_shiftLeft, Nat.pow_add]
  generalize 2 ^ min c (m.log2 + 2) = G
  have hp := Nat.two_pow_pos k
  generalize 2 ^ k = K at *
  rw [Nat.mul_div_mul_right _ _ hp, Nat.mul_mod_mul_right]
  have e1 : decide (G * K < 2 * (m % G * K)) = decide (G < 2 * (m % G)) := by
    rw [decide_eq_decide, ← Nat.mul_assoc]; exact Nat.mul_lt_mul_right hp
  have e2 : (G * K == 2 * (m % G * K)) = (G == 2 * (m % G)) := by
    rw [Bool.eq_iff_iff, beq_iff_eq, beq_iff_eq, ← Nat.mul_assoc]
    exact ⟨fun h => Nat.eq_of_mul_eq_mul_right hp h, fun h => congrArg (· * K) h⟩
  rw [e1, e2]
theorem even_cut_whole (neg : Bool) {m : Nat} (hm : m ≠ 0) (c : Nat) : Ieee.Toward.even.cut neg (m * 2 ^ c) c = m := by
  have := even_cut_scale neg hm c 0
  rw [Nat.zero_add, even_cut_zero] at this
  exact this
theorem nearest_shift (f : Ieee.Format) (neg : Bool) {m : Nat} (hm : m ≠ 0) (k : Nat) (e : Int) : f.nearest neg (m * 2 ^ k) e = f.nearest neg m (e + k) := by
  unfold Ieee.Format.nearest
  have hp := Nat.two_pow_pos k
  have hn : m * 2 ^ k ≠ 0 := by have := Nat.mul_pos (Nat.pos_of_ne_zero hm) hp; omega
  rw [if_neg hn, if_neg hm]
  dsimp only
  rw [log2_mul_pow hm, show e + ((m.log2 + k : Nat) : Int) - (f.fractionBits : Int) = e + (k : Int) + (m.log2 : Int) - (f.fractionBits : Int) by omega]
  generalize max (e + (k : Int) + (m.log2 : Int) - (f.fractionBits : Int)) f.leastPlace = l
  congr 3
  by_cases h1 : l ≤ e
  · rw [show (l - e).toNat = 0 by omega, show (l - (e + k)).toNat = 0 by omega, even_cut_zero, even_cut_zero, Nat.shiftLeft_eq, Nat.shiftLeft_eq, Nat.mul_assoc, ← Nat.pow_add]
    congr 2; omega
  · rw [show (e - l).toNat = 0 by omega, Nat.shiftLeft_zero]
    by_cases h2 : l ≤ e + k
    · rw [show (l - (e + k)).toNat = 0 by omega, even_cut_zero, Nat.shiftLeft_eq]
      have hm2 : m * 2 ^ (e + k - l).toNat ≠ 0 := by have := Nat.mul_pos (Nat.pos_of_ne_zero hm) (Nat.two_pow_pos (e + k - l).toNat); omega
      rw [show 2 ^ k = 2 ^ (e + k - l).toNat * 2 ^ (l - e).toNat by rw [← Nat.pow_add]; congr 1; omega, ← Nat.mul_assoc, even_cut_whole neg hm2]
    · rw [show (e + k - l).toNat = 0 by omega, Nat.shiftLeft_zero, show (l - e).toNat = (l - (e + k)).toNat + k by omega, even_cut_scale neg hm]
theorem near_form (f : Ieee.Format) (h : Nat) (L : Int) (E q S : Nat) (hf : f.fractionBits = h) (hL : f.leastPlace = L) (hE : f.infRung = E) (hq : E = q * 2 ^ h) (hq2 : 2 ≤ q) (hh : 1 ≤ h) (hS : f.signWeight = S)
    {s : Bool} {n : Nat} {e : Int} {d : D} (hn : n ≠ 0) (hd : formF s n e = some d) : RoundsTo h L E S 0 (some d) (f.nearest s n e) 0 := by
  obtain ⟨m, h1, h2⟩ := low_spec hn
  have hm0 : m ≠ 0 := by omega
  have hd' : d = ⟨s, m, e + low n⟩ := by
    unfold formF at hd
    rw [if_neg hn] at hd
    split at hd
    · cases hd
    · cases hd
      congr 1
      exact Nat.div_eq_of_eq_mul_right (Nat.two_pow_pos _) h1
  refine .inr ⟨by decide, .inr ⟨d, onF h L E d 0, rfl, ?_, ?_, rfl⟩⟩
  · exact on_rounds h L E q d 0 hh hq hq2 (by rw [hd']; exact .inr h2) (by decide) (by decide)
  · have e1 : f.nearest s n e = f.nearest s m (e + low n) := by
      conv => lhs; rw [h1, Nat.mul_comm]
      rw [nearest_shift f s hm0]
    rw [e1, nearest_on f h L E q hf hL hE hq hq2 hh s m _ (.inr h2), hd']
    unfold Ieee.Format.word
    rw [hS]
    dsimp only
    split <;> omega
theorem near64 {s : Bool} {n : Nat} {e : Int} {d : D} (hn : n ≠ 0) (hd : formF s n e = some d) : RoundsTo 52 (-1074) 9218868437227405312 9223372036854775808 0 (some d) (Ieee.double.nearest s n e) 0 :=
  near_form Ieee.double 52 (-1074) 9218868437227405312 2047 9223372036854775808 rfl rfl rfl rfl (by decide) (by decide) rfl hn hd

/-- a value that is not too great has a form -/
theorem form_smallB (s : Bool) {n j : Nat} {e : Int} (hn : n < 2 ^ (32 * j)) (hj : j ≤ 8192) (h1 : -1048576 ≤ e) (h2 : e + 32 * (j : Int) ≤ 1048576) : ∃ d, formF s n e = some d := by
  unfold formF
  by_cases h0 : n = 0
  · rw [if_pos h0]; exact ⟨_, rfl⟩
  · rw [if_neg h0]
    have h3 := low_lt_bitLen h0
    have h4 : bitLen n ≤ 32 * j := bitLen_lt hn
    have h5 : (words (n / 2 ^ low n)).length ≤ j := words_len_le (by
      have := Nat.div_le_self n (2 ^ low n)
      rw [w32_pow]
      omega)
    rw [if_neg (by omega)]; exact ⟨_, rfl⟩
theorem numV_bd {k : Nat} (hk : k < 9218868437227405312) {j : Nat} (hj : j = 66) : numV 52 k < 2 ^ (32 * j) := by
  unfold numV
  have h1 : numM 52 k < 2 ^ 53 := by
    unfold numM
    rw [show (2 : Nat) ^ 52 = 4503599627370496 from rfl, show (2 : Nat) ^ 53 = 9007199254740992 from rfl]
    split <;> omega
  have h2 : numE 52 k ≤ 2046 := by
    unfold numE
    rw [show (2 : Nat) ^ 52 = 4503599627370496 from rfl]
    omega
  have h3 : numM 52 k * 2 ^ numE 52 k < 2 ^ 53 * 2 ^ numE 52 k := (Nat.mul_lt_mul_right (Nat.two_pow_pos _)).2 h1
  rw [← Nat.pow_add] at h3
  exact Nat.lt_of_lt_of_le h3 (Nat.pow_le_pow_right (by decide) (by omega))
theorem sgn_abs (s : Bool) (n : Nat) : (sgn s n).natAbs = n := by unfold sgn; split <;> omega
theorem ofF_zB {b : Nat} {p : D} (h : ofF b = some p) : p.z (-1074) = fV b ∧ -1074 ≤ p.exp := by
  unfold ofF bitsF at h
  split at h
  · cases h
  · have hz := z_form h (B := -1074) (by omega) (by decide)
    refine ⟨?_, hz.2⟩
    rw [hz.1]
    unfold fV numV
    rw [sgn_mul]
    congr 3
    omega
theorem ofF_some {b : Nat} (h : b % 9223372036854775808 < 9218868437227405312) : ∃ p, ofF b = some p := by
  unfold ofF bitsF
  rw [if_neg (by omega)]
  obtain ⟨j, hj⟩ : ∃ j, j = 66 := ⟨_, rfl⟩
  have h1 : numM 52 (b % 9223372036854775808) < 2 ^ (32 * 2) := by
    unfold numM
    rw [show (2 : Nat) ^ 52 = 4503599627370496 from rfl, show (2 : Nat) ^ (32 * 2) = 18446744073709551616 from rfl]
    split <;> omega
  have h2 : numE 52 (b % 9223372036854775808) ≤ 2046 := by
    unfold numE
    rw [show (2 : Nat) ^ 52 = 4503599627370496 from rfl]
    omega
  exact form_smallB _ h1 (by decide) (by omega) (by omega)
theorem z_abs {d : D} {B : Int} (h : B ≤ d.exp) : d.m * 2 ^ (d.exp - B).toNat = (d.z B).natAbs := by
  unfold D.z; rw [← sgn_mul, sgn_abs]
/-- forms of values that are not too great have a sum -/
theorem addD_some {p q : D} {B : Int} {j : Nat} (hp : B ≤ p.exp) (hq : B ≤ q.exp) (h0 : B ≤ 0) (bp : (p.z B).natAbs < 2 ^ (32 * j)) (bq : (q.z B).natAbs < 2 ^ (32 * j)) (hj : j + 1 ≤ 8192) (h1 : -1048576 ≤ B) (h2 : ∀ d : D, d = p ∨ d = q → d.m ≠ 0 → d.exp + 32 * ((j : Int) + 1) ≤ 1048576) : ∃ d, addD p q = some d := by
  unfold addD
  by_cases hp0 : p.m = 0
  · rw [if_pos hp0]; exact ⟨_, rfl⟩
  rw [if_neg hp0]
  by_cases hq0 : q.m = 0
  · rw [if_pos hq0]; exact ⟨_, rfl⟩
  rw [if_neg hq0]
  have hP : p.m * 2 ^ (p.exp - min p.exp q.exp).toNat < 2 ^ (32 * j) := by
    refine Nat.lt_of_le_of_lt ?_ bp
    rw [← z_abs hp]
    exact Nat.mul_le_mul_left _ (Nat.pow_le_pow_right (by decide) (by omega))
  have hQ : q.m * 2 ^ (q.exp - min p.exp q.exp).toNat < 2 ^ (32 * j) := by
    refine Nat.lt_of_le_of_lt ?_ bq
    rw [← z_abs hq]
    exact Nat.mul_le_mul_left _ (Nat.pow_le_pow_right (by decide) (by omega))
  have lP : (words (p.m * 2 ^ (p.exp - min p.exp q.exp).toNat)).length ≤ j := words_len_le (by rw [w32_pow]; exact hP)
  have lQ : (words (q.m * 2 ^ (q.exp - min p.exp q.exp).toNat)).length ≤ j := words_len_le (by rw [w32_pow]; exact hQ)
  rw [if_neg (by omega)]
  have hpow : 2 ^ (32 * (j + 1)) = 4294967296 * 2 ^ (32 * j) := by rw [show 32 * (j + 1) = 32 + 32 * j by omega, Nat.pow_add]
  have h3 := h2 p (.inl rfl) hp0
  have h4 := h2 q (.inr rfl) hq0
  have hs : ∀ (s : Bool) (n : Nat), n < 2 ^ (32 * (j + 1)) → ∃ d, formF s n (min p.exp q.exp) = some d := fun s n hn => form_smallB s hn hj (by omega) (by omega)
  split
  · exact hs _ _ (by omega)
  · split
    · exact hs _ _ (by omega)
    · exact hs _ _ (by omega)

theorem fV_abs {b : Nat} (h : b % 9223372036854775808 < 9218868437227405312) {j : Nat} (hj : j = 66) : (fV b).natAbs < 2 ^ (32 * j) := by
  unfold fV; rw [sgn_abs]; exact numV_bd h hj
theorem ofF_hi {b : Nat} {p : D} (h : ofF b = some p) : p.exp ≤ 1100 := by
  unfold ofF bitsF at h
  split at h
  · cases h
  · rename_i hk
    unfold formF at h
    split at h
    · cases h; decide
    · rename_i h0
      split at h
      · cases h
      · cases h
        have h1 := low_lt_bitLen h0
        have h2 : bitLen (numM 52 (b % 9223372036854775808)) ≤ 53 := bitLen_lt (by
          unfold numM
          rw [show (2 : Nat) ^ 52 = 4503599627370496 from rfl, show (2 : Nat) ^ 53 = 9007199254740992 from rfl]
          split <;> omega)
        have h3 : numE 52 (b % 9223372036854775808) ≤ 2046 := by
          unfold numE
          rw [show (2 : Nat) ^ 52 = 4503599627370496 from rfl]
          omega
        dsimp only
        omega
/-- the exact sum of two numbers -/
theorem addO_fV {x y : Nat} (hx : x % 9223372036854775808 < 9218868437227405312) (hy : y % 9223372036854775808 < 9218868437227405312) :
    ∃ d, addO (ofF x) (ofF y) = some d ∧ d.Is ∧ d.z (-1074) = fV x + fV y ∧ -1074 ≤ d.exp := by
  obtain ⟨p, hp⟩ := ofF_some hx
  obtain ⟨q, hq⟩ := ofF_some hy
  obtain ⟨j, hj⟩ : ∃ j, j = 66 := ⟨_, rfl⟩
  have zp := ofF_zB hp
  have zq := ofF_zB hq
  have tp := ofF_hi hp
  have tq := ofF_hi hq
  obtain ⟨d, hd⟩ := addD_some (j := j) zp.2 zq.2 (by decide) (by rw [zp.1]; exact fV_abs hx hj) (by rw [zq.1]; exact fV_abs hy hj) (by omega) (by decide) (by rintro d (rfl | rfl) _ <;> omega)
  refine ⟨d, by rw [hp, hq]; exact hd, ?_, ?_⟩
  · refine addD_is hd ?_ ?_
    · unfold ofF bitsF at hp
      split at hp
      · cases hp
      · exact formF_is hp
    · unfold ofF bitsF at hq
      split at hq
      · cases hq
      · exact formF_is hq
  · have := z_add hd zp.2 zq.2 (by decide)
    rw [zp.1, zq.1] at this
    exact this
theorem z_zero_iff {d : D} (hd : d.Is) {B : Int} (h : d.z B = 0) : d = D.zero := by
  rcases hd with h1 | h1
  · exact h1
  · unfold D.z at h
    have := Nat.two_pow_pos (d.exp - B).toNat
    rcases Int.mul_eq_zero.1 h with h2 | h2
    · have := sgn_eq_zero h2; omega
    · omega
/-- the sum of two numbers, a NaN in its one form -/
def addC (x y : Nat) : Nat := match Ieee.double.add x y with | some r => r | none => nan64
theorem addC_fin {x y : Nat} (hbx : x < 18446744073709551616) (hby : y < 18446744073709551616) (hx : x % 9223372036854775808 < 9218868437227405312) (hy : y % 9223372036854775808 < 9218868437227405312) :
    (fV x + fV y = 0 → addC x y = if 9223372036854775808 ≤ x ∧ 9223372036854775808 ≤ y then 9223372036854775808 else 0) ∧
    (∀ d, d.Is → -1074 ≤ d.exp → d.z (-1074) = fV x + fV y → fV x + fV y ≠ 0 → RoundsTo 52 (-1074) 9218868437227405312 9223372036854775808 0 (some d) (addC x y) 0) := by
  obtain ⟨m, hm⟩ : ∃ m, m = numM 52 (x % 9223372036854775808) := ⟨_, rfl⟩
  obtain ⟨n, hn⟩ : ∃ n, n = numM 52 (y % 9223372036854775808) := ⟨_, rfl⟩
  obtain ⟨i, hi⟩ : ∃ i : Int, i = -1074 + (numE 52 (x % 9223372036854775808) : Nat) := ⟨_, rfl⟩
  obtain ⟨j, hj⟩ : ∃ j : Int, j = -1074 + (numE 52 (y % 9223372036854775808) : Nat) := ⟨_, rfl⟩
  have hrx := read_num hbx hx
  have hry := read_num hby hy
  rw [← hm, ← hi] at hrx
  rw [← hn, ← hj] at hry
  obtain ⟨s, hs⟩ : ∃ s, s = decide (9223372036854775808 ≤ x) := ⟨_, rfl⟩
  obtain ⟨t, ht⟩ : ∃ t, t = decide (9223372036854775808 ≤ y) := ⟨_, rfl⟩
  rw [← hs] at hrx
  rw [← ht] at hry
  obtain ⟨tot, htot⟩ : ∃ z, z = Ieee.signed s m (i - min i j).toNat + Ieee.signed t n (j - min i j).toNat := ⟨_, rfl⟩
  have hadd : addC x y = Ieee.double.nearest (if tot = 0 then s && t else decide (tot < 0)) tot.natAbs (min i j) := by
    unfold addC Ieee.Format.add
    rw [hrx, hry]
    show (match ((Ieee.Datum.sum (.number s m i) (.number t n j)).map Ieee.double.write) with | some r => r | none => nan64) = _
    unfold Ieee.Datum.sum
    dsimp only [Option.map]
    rw [← htot]
    rfl
  have hT : fV x + fV y = tot * ((2 ^ (min i j + 1074).toNat : Nat) : Int) := by
    unfold fV numV
    rw [← hm, ← hn, ← hs, ← ht, htot, signed_sgn, signed_sgn, Int.add_mul, ← sgn_mul, ← sgn_mul, Nat.mul_assoc, Nat.mul_assoc, ← Nat.pow_add, ← Nat.pow_add]
    rw [show (i - min i j).toNat + (min i j + 1074).toNat = numE 52 (x % 9223372036854775808) by omega, show (j - min i j).toNat + (min i j + 1074).toNat = numE 52 (y % 9223372036854775808) by omega]
  have hp := Nat.two_pow_pos (min i j + 1074).toNat
  refine ⟨fun h0 => ?_, fun d hd he hz hne => ?_⟩
  · have h1 : tot = 0 := by
      rw [hT] at h0
      rcases Int.mul_eq_zero.1 h0 with h2 | h2
      · exact h2
      · omega
    rw [hadd, h1, if_pos rfl]
    unfold Ieee.Format.nearest
    rw [if_pos (by rfl)]
    unfold Ieee.Format.word
    rw [show Ieee.double.signWeight = 9223372036854775808 from rfl, hs, ht]
    by_cases q1 : 9223372036854775808 ≤ x <;> by_cases q2 : 9223372036854775808 ≤ y <;> simp [q1, q2]
  · have h1 : tot ≠ 0 := by
      intro h1
      rw [hT, h1] at hne
      simp at hne
    rw [hadd, if_neg h1]
    have hk := @numV_bd (x % 9223372036854775808) hx
    obtain ⟨k, hkk⟩ : ∃ k, k = 66 := ⟨_, rfl⟩
    have b1 := fV_abs hx hkk
    have b2 := fV_abs hy hkk
    have b3 : tot.natAbs < 2 ^ (32 * (k + 1)) := by
      have e1 : (fV x + fV y).natAbs = tot.natAbs * 2 ^ (min i j + 1074).toNat := by rw [hT, Int.natAbs_mul, Int.natAbs_natCast]
      have e2 : (fV x + fV y).natAbs ≤ (fV x).natAbs + (fV y).natAbs := Int.natAbs_add_le _ _
      have e3 : tot.natAbs * 1 ≤ tot.natAbs * 2 ^ (min i j + 1074).toNat := Nat.mul_le_mul_left _ hp
      have hpow : 2 ^ (32 * (k + 1)) = 4294967296 * 2 ^ (32 * k) := by rw [show 32 * (k + 1) = 32 + 32 * k by omega, Nat.pow_add]
      omega
    have b4 : i ≤ 2000 ∧ j ≤ 2000 := by
      have q1 : numE 52 (x % 9223372036854775808) ≤ 2046 := by
        unfold numE; rw [show (2 : Nat) ^ 52 = 4503599627370496 from rfl]; omega
      have q2 : numE 52 (y % 9223372036854775808) ≤ 2046 := by
        unfold numE; rw [show (2 : Nat) ^ 52 = 4503599627370496 from rfl]; omega
      omega
    obtain ⟨d', hd'⟩ := form_smallB (decide (tot < 0)) b3 (by omega) (e := min i j) (by omega) (by omega)
    have hz' := z_form hd' (B := -1074) (by omega) (by decide)
    have hsg : sgn (decide (tot < 0)) tot.natAbs = tot := by
      unfold sgn
      by_cases q : tot < 0
      · rw [decide_eq_true q]; simp; omega
      · rw [decide_eq_false q]; simp; omega
    have heq : d = d' := z_uniq hd (formF_is hd') he hz'.2 (by rw [hz, hT, hz'.1, hsg]; congr 3)
    rw [heq]
    exact near64 (by omega) hd'
end Go.Proofs.YthdbapibbdkclaaDoor
namespace Go.Proofs.YthdbapibbdkclaaDoor
open Go.RowKit
set_option linter.unusedVariables false
set_option linter.unusedSimpArgs false

/-- a number, a NaN in its one form -/
def canon (b : Nat) : Nat := if 9218868437227405312 < b % 9223372036854775808 then nan64 else b
theorem canon_nan {b : Nat} (h : 9218868437227405312 < b % 9223372036854775808) : canon b = nan64 := if_pos h
theorem canon_num {b : Nat} (h : b % 9223372036854775808 ≤ 9218868437227405312) : canon b = b := if_neg (by omega)
theorem nan64_lt : nan64 < 18446744073709551616 := by decide
theorem nan64_nan : 9218868437227405312 < nan64 % 9223372036854775808 := by decide
theorem canon_canon (b : Nat) : canon (canon b) = canon b := by
  by_cases h : 9218868437227405312 < b % 9223372036854775808
  · rw [canon_nan h, canon_nan nan64_nan]
  · rw [canon_num (show b % 9223372036854775808 ≤ 9218868437227405312 by omega), canon_num (by omega)]
theorem canon_lt {b : Nat} (h : b < 18446744073709551616) : canon b < 18446744073709551616 := by
  unfold canon; split
  · exact nan64_lt
  · exact h
theorem read_nan {b : Nat} (h : 9218868437227405312 < b % 9223372036854775808) : ∃ s f, Ieee.double.read b = .nan s f := by
  unfold Ieee.Format.read
  rw [show Ieee.double.signWeight = 9223372036854775808 from rfl, show Ieee.double.binade = 4503599627370496 from rfl, show Ieee.double.infRung = 9218868437227405312 from rfl]
  dsimp only
  rw [if_neg (by omega), if_neg (by omega), if_neg (by omega)]
  exact ⟨_, _, rfl⟩
theorem sum_nan_l (s : Bool) (f : Nat) (d : Ieee.Datum) : Ieee.Datum.sum (.nan s f) d = none := by cases d <;> rfl
theorem sum_nan_r (s : Bool) (f : Nat) (d : Ieee.Datum) : Ieee.Datum.sum d (.nan s f) = none := by cases d <;> rfl
theorem opp_nan (s : Bool) (f : Nat) : Ieee.Datum.opposite (.nan s f) = .nan (!s) f := rfl
/-- a datum that is no NaN -/
def Num (d : Ieee.Datum) : Prop := ∀ s f, d ≠ .nan s f
theorem sum_num {a b r : Ieee.Datum} (h : Ieee.Datum.sum a b = some r) : Num r := by
  intro s f hr
  subst hr
  cases a <;> cases b <;> simp [Ieee.Datum.sum] at h
theorem word_ok (s : Bool) {k : Nat} (h : k ≤ 9218868437227405312) : Ieee.double.word s k < 18446744073709551616 ∧ Ieee.double.word s k % 9223372036854775808 ≤ 9218868437227405312 := by
  unfold Ieee.Format.word
  rw [show Ieee.double.signWeight = 9223372036854775808 from rfl]
  split <;> omega
theorem nearest_ok (s : Bool) (m : Nat) (e : Int) : Ieee.double.nearest s m e < 18446744073709551616 ∧ Ieee.double.nearest s m e % 9223372036854775808 ≤ 9218868437227405312 := by
  unfold Ieee.Format.nearest
  split
  · exact word_ok s (by decide)
  · dsimp only
    exact word_ok s (Nat.min_le_right _ _)
theorem write_ok {d : Ieee.Datum} (h : Num d) : Ieee.double.write d < 18446744073709551616 ∧ Ieee.double.write d % 9223372036854775808 ≤ 9218868437227405312 := by
  cases d with
  | number s m e => exact nearest_ok s m e
  | infinity s => exact word_ok s (Nat.le_refl _)
  | nan s f => exact absurd rfl (h s f)
theorem add_none_l {x y : Nat} (h : 9218868437227405312 < x % 9223372036854775808) : Ieee.double.add x y = none := by
  obtain ⟨s, f, e⟩ := read_nan h
  unfold Ieee.Format.add; rw [e, sum_nan_l]; rfl
theorem add_none_r {x y : Nat} (h : 9218868437227405312 < y % 9223372036854775808) : Ieee.double.add x y = none := by
  obtain ⟨s, f, e⟩ := read_nan h
  unfold Ieee.Format.add; rw [e, sum_nan_r]; rfl
theorem add_ok {x y r : Nat} (h : Ieee.double.add x y = some r) : r < 18446744073709551616 ∧ r % 9223372036854775808 ≤ 9218868437227405312 := by
  unfold Ieee.Format.add at h
  obtain ⟨d, hd, rfl⟩ := Option.map_eq_some_iff.1 h
  exact write_ok (sum_num hd)
theorem addC_none {x y : Nat} (h : Ieee.double.add x y = none) : addC x y = nan64 := by unfold addC; rw [h]
theorem addC_some {x y r : Nat} (h : Ieee.double.add x y = some r) : addC x y = r := by unfold addC; rw [h]
theorem addC_canon (x y : Nat) : addC (canon x) (canon y) = addC x y := by
  by_cases hx : 9218868437227405312 < x % 9223372036854775808
  · rw [canon_nan hx, addC_none (add_none_l nan64_nan), addC_none (add_none_l hx)]
  · rw [canon_num (show x % 9223372036854775808 ≤ 9218868437227405312 by omega)]
    by_cases hy : 9218868437227405312 < y % 9223372036854775808
    · rw [canon_nan hy, addC_none (add_none_r nan64_nan), addC_none (add_none_r hy)]
    · rw [canon_num (show y % 9223372036854775808 ≤ 9218868437227405312 by omega)]
theorem addC_lt (x y : Nat) : addC x y < 18446744073709551616 := by
  cases h : Ieee.double.add x y with
  | none => rw [addC_none h]; exact nan64_lt
  | some r => rw [addC_some h]; exact (add_ok h).1
theorem canon_addC (x y : Nat) : canon (addC x y) = addC x y := by
  cases h : Ieee.double.add x y with
  | none => rw [addC_none h, canon_nan nan64_nan]
  | some r => rw [addC_some h, canon_num (add_ok h).2]
/-- a number with its sign turned -/
def turnB (b : Nat) : Nat := if 9223372036854775808 ≤ b then b - 9223372036854775808 else b + 9223372036854775808
theorem turnB_lt {b : Nat} (h : b < 18446744073709551616) : turnB b < 18446744073709551616 := by unfold turnB; split <;> omega
theorem turnB_mod (b : Nat) (h : b < 18446744073709551616) : turnB b % 9223372036854775808 = b % 9223372036854775808 := by unfold turnB; split <;> omega
theorem read_turn {b : Nat} (h : b < 18446744073709551616) : Ieee.double.read (turnB b) = (Ieee.double.read b).opposite := by
  unfold Ieee.Format.read
  rw [show Ieee.double.signWeight = 9223372036854775808 from rfl]
  dsimp only
  rw [turnB_mod b h]
  have hs : (turnB b / 9223372036854775808 % 2 == 1) = !(b / 9223372036854775808 % 2 == 1) := by
    unfold turnB
    by_cases h1 : 9223372036854775808 ≤ b
    · rw [if_pos h1, show b / 9223372036854775808 % 2 = 1 by omega, show (b - 9223372036854775808) / 9223372036854775808 % 2 = 0 by omega]; rfl
    · rw [if_neg h1, show b / 9223372036854775808 % 2 = 0 by omega, show (b + 9223372036854775808) / 9223372036854775808 % 2 = 1 by omega]; rfl
  rw [hs]
  split
  · rfl
  · split
    · rfl
    · split <;> rfl
theorem sub_turn {x y : Nat} (hy : y < 18446744073709551616) : Ieee.double.sub x y = Ieee.double.add x (turnB y) := by
  unfold Ieee.Format.sub Ieee.Format.add; rw [read_turn hy]
def subC (x y : Nat) : Nat := addC x (turnB y)
theorem subC_canon {x y : Nat} (hy : y < 18446744073709551616) : subC (canon x) (canon y) = subC x y := by
  unfold subC
  rw [← addC_canon x (turnB y), ← addC_canon (canon x) (turnB (canon y)), canon_canon]
  congr 1
  by_cases h : 9218868437227405312 < y % 9223372036854775808
  · rw [canon_nan h, canon_nan (b := turnB y) (by rw [turnB_mod y hy]; exact h)]; decide
  · rw [canon_num (b := y) (by omega)]
theorem canon_subC (x y : Nat) : canon (subC x y) = subC x y := canon_addC _ _

/-- what a step leaves: bits, and the world, in which one answer may have been drawn -/
structure StepR (v : Nat) (W : World) (r : Nat) (W' : World) : Prop where
  can : canon r = v
  lt : r < 18446744073709551616
  wo : W' = W ∨ W' = W.drew
theorem StepR.below {v r : Nat} {W W' w : World} {B : Nat} (h : StepR v W r W') (hb : Below B w W) : Below B w W' := by
  rcases h.wo with e | e
  · rw [e]; exact hb
  · rw [e]; exact hb.drew
theorem nan_bits (W : World) (x y : Nat) : 9218868437227405312 < (Question.nanBits .f64 x y).cut (W.tape W.drawn (.nanBits .f64 x y)) % 9223372036854775808 ∧ (Question.nanBits .f64 x y).cut (W.tape W.drawn (.nanBits .f64 x y)) < 18446744073709551616 := by
  have h : ∀ t, (Question.nanBits .f64 x y).cut t = (t % 2) * 9223372036854775808 + 9218868437227405312 + 1 + (t / 2) % 4503599627370495 := fun t => rfl
  rw [h]
  generalize W.tape W.drawn (.nanBits .f64 x y) = t
  have h1 := Nat.mod_lt t (show 0 < 2 by decide)
  have h2 := Nat.mod_lt (t / 2) (show 0 < 4503599627370495 by decide)
  generalize t / 2 % 4503599627370495 = u at *
  generalize t % 2 = s at *
  omega
theorem run_arith {op : BinOp} {x y r : Nat} (W : World) (h : (match op with | .add => Ieee.double.add x y | .sub => Ieee.double.sub x y | .mul => Ieee.double.mul x y | .quo => Ieee.double.div x y | _ => none) = some r) : (binOp op 36 (.float .f64 x) (.float .f64 y)).run Tryd.prog W = .ok (.float .f64 r) W := by
  cases op <;> simp only at h <;> first | (cases h; done) | skip
  all_goals (have hd : FloatKind.f64.format = Ieee.double := rfl; simp [binOp, Op.floatArith, hd, h])
theorem run_add (x y : Nat) (W : World) : ∃ r W', (binOp .add 36 (.float .f64 x) (.float .f64 y)).run Tryd.prog W = .ok (.float .f64 r) W' ∧ StepR (addC x y) W r W' := by
  cases h : Ieee.double.add x y with
  | some r => exact ⟨r, W, run_arith (op := .add) W h, by rw [addC_some h]; exact canon_num (add_ok h).2, (add_ok h).1, .inl rfl⟩
  | none =>
    have hh : FloatKind.f64.format.add x y = none := h
    obtain ⟨n1, n2⟩ := nan_bits W x y
    refine ⟨_, W.drew, ?_, by rw [addC_none h]; exact canon_nan n1, n2, .inr rfl⟩
    simp [binOp, Op.floatArith, hh, Question.forced]
theorem run_sub (x y : Nat) (hy : y < 18446744073709551616) (W : World) : ∃ r W', (binOp .sub 36 (.float .f64 x) (.float .f64 y)).run Tryd.prog W = .ok (.float .f64 r) W' ∧ StepR (subC x y) W r W' := by
  have hst := sub_turn (x := x) hy
  cases h : Ieee.double.add x (turnB y) with
  | some r => exact ⟨r, W, run_arith (op := .sub) W (by rw [h] at hst; exact hst), by unfold subC; rw [addC_some h]; exact canon_num (add_ok h).2, (add_ok h).1, .inl rfl⟩
  | none =>
    have hh : FloatKind.f64.format.sub x y = none := by rw [h] at hst; exact hst
    obtain ⟨n1, n2⟩ := nan_bits W x y
    refine ⟨_, W.drew, ?_, by unfold subC; rw [addC_none h]; exact canon_nan n1, n2, .inr rfl⟩
    simp [binOp, Op.floatArith, hh, Question.forced]
theorem run_neqN {x y : Nat} (W : World) (h : 9218868437227405312 < x % 9223372036854775808) : (binOp .neq 36 (.float .f64 x) (.float .f64 y)).run Tryd.prog W = .ok (.bool true) W := by
  have e : (binOp .neq 36 (.float .f64 x) (.float .f64 y)).run Tryd.prog W = .ok (.bool (FloatKind.f64.format.order x y != some .eq)) W := rfl
  obtain ⟨s, f, er⟩ := read_nan h
  have eo : FloatKind.f64.format.order x y = none := by
    show Ieee.double.order x y = none
    unfold Ieee.Format.order
    rw [er]
    cases Ieee.double.read y <;> rfl
  rw [e, eo]; rfl

set_option maxRecDepth 10000 in
set_option maxHeartbeats 1000000 in
theorem stold_any (x : Nat) (w : World) (hx : x < 18446744073709551616) : Calls Tryd.prog 92 #[.float .f64 x] w fun en w' => en = .returned (.float .f64 (canon x)) ∧ w = w' := by
  by_cases h : 9218868437227405312 < x % 9223372036854775808
  · have h1 := fun W => run_neqN (y := x) W h
    rw [canon_nan h]
    clear h
    go_enter Tryd.func92, Tryd.ntmps92
    go_wp2_with fail
    refine (pnan_any w).mono ?_; rintro en w1 ⟨rfl, rfl⟩
    go_wp2_with fail
    go_ret
    exact ⟨rfl, rfl⟩
  · have hk : x % 9223372036854775808 ≤ 9218868437227405312 := by omega
    have h1 := fun W => run_neq64 W hx hx hk hk rfl
    rw [canon_num hk]
    clear h hk hx
    go_enter Tryd.func92, Tryd.ntmps92
    go_wp2_with fail
    go_ret
    exact ⟨rfl, rfl⟩

/-- from the first to the last -/
def runC : List Nat → Nat
  | [] => 0
  | x :: l => l.foldl addC (canon x)
theorem fold_snoc (f : Nat → Nat → Nat) (s : Nat) (l : List Nat) {k : Nat} (hk : k < l.length) : (l.take (k + 1)).foldl f s = f ((l.take k).foldl f s) (l.getD k 0) := by
  rw [take_succ_get (x := l.getD k 0) (by rw [List.getD_eq_getElem?_getD, List.getElem?_eq_getElem hk]; rfl), List.foldl_append]; rfl
theorem fold_can (s : Nat) : ∀ l : List Nat, canon s = s → canon (l.foldl addC s) = l.foldl addC s
  | [], h => h
  | x :: l, _ => by rw [List.foldl_cons]; exact fold_can _ l (canon_addC _ _)

set_option maxRecDepth 10000 in
set_option maxHeartbeats 4000000 in
theorem running_any (a : Option Addr) (c : Nat) (l : List Nat) (w : World) (hl : FSl w a c l) (hlen : l.length ≤ 17592186044416) :
    Calls Tryd.prog 43 #[.slice a l.length c] w fun en w' => en = .returned (.float .f64 (runC l)) ∧ Below w.heap.size w w' := by
  cases l with
  | nil =>
    go_enter Tryd.func43, Tryd.ntmps43
    go_wp2_with fail
    go_ret
    exact ⟨rfl, Below.refl _ _⟩
  | cons x l =>
    have HWf := Lib.hid (w64_getD hl.wf)
    have HL := Lib.hid (fun W (hw : Below w.heap.size w W) => hl.rd.grow hw)
    obtain ⟨b, off, rfl, hc0⟩ := hl.rd.at (i := 0) (by simp)
    have hx : x < 18446744073709551616 := by have := HWf.out 0; simpa using this
    simp only [List.getD_cons_zero, Nat.add_zero] at hc0
    simp only [List.length_cons] at hlen ⊢
    have HX := Lib.hid hx
    clear hl hx
    go_enter Tryd.func43, Tryd.ntmps43
    go_wp2_with fail
    go_loopw [3, 4, 14] (fun s ii i wr => ∃ (k r : Nat), k ≤ l.length ∧ i = .int .i64 k ∧ s = .float .f64 r ∧ Hid (canon r = (l.take k).foldl addC (canon x) ∧ r < 18446744073709551616 ∧ Below w.heap.size w wr)) (fun _ _ i _ => l.length - (intOf i).toNat)
    case atStart => exact ⟨0, x, Nat.zero_le _, rfl, rfl, by simp, HX.out, Below.refl _ _⟩
    case round =>
      obtain ⟨k, r, hk, rfl, rfl, hH⟩ := hrel
      by_cases hq : k < l.length
      · have hcell := (HL.out wr hH.out.2.2).cells (i := k + 1) (by simp; omega)
        rw [List.getD_cons_succ] at hcell
        have hbd := HWf.out (k + 1)
        rw [List.getD_cons_succ] at hbd
        have hs := fold_snoc addC (canon x) l hq
        obtain ⟨y, hy⟩ : ∃ y, y = l.getD k 0 := ⟨_, rfl⟩
        rw [← hy] at hcell hbd hs
        obtain ⟨r', W', hrun, hst⟩ := run_add r y wr
        obtain ⟨m, hm⟩ : ∃ m, m = k + 1 := ⟨_, rfl⟩
        rw [← hm] at hcell hs
        have e1 : IntKind.i64.wrap ((k : Int) + 1) = (m : Int) := by rw [IntKind.wrap_i64]; omega
        have hml : m < l.length + 1 := by omega
        have HS : Hid (canon r' = (l.take m).foldl addC (canon x) ∧ r' < 18446744073709551616 ∧ Below w.heap.size w W') := by
          refine ⟨?_, hst.lt, hst.below hH.out.2.2⟩
          rw [hst.can, hs, ← addC_canon, hH.out.1, ← addC_canon (List.foldl addC (canon x) (l.take k)) y, fold_can _ _ (canon_canon _)]
        have HM := Lib.hid hm
        clear hst hy hs hm hbd
        go_wp2_with fail
        go_roundw
        case rel => exact ⟨m, r', by have := HM.out; omega, by first | rfl | (have := HM.out; go_num), rfl, HS.out⟩
        case measure => have := HM.out; simp [intOf]; omega
      · obtain rfl : l.length = k := by omega
        have HT := Lib.hid (stold_any r wr hH.out.2.1)
        have hv := hH.out.1
        rw [List.take_length] at hv
        have HV := Lib.hid hv
        have HB := Lib.hid hH.out.2.2
        clear hv hH
        go_wp2_with fail
        refine HT.out.mono ?_; rintro en w1 ⟨rfl, rfl⟩
        go_wp2_with fail
        go_ret
        rw [HV.out]
        exact ⟨rfl, HB.out⟩
end Go.Proofs.YthdbapibbdkclaaDoor
