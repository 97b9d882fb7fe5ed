/- Sums of numbers of 64 bits as the model rounds them, in numbers. No statement of the seat is proved here. -/
import Derived.Test.YthdbapibbdkclaaDoorProg
import Derived.Test.YthdbapibbdkclaaDoorFa
import Derived.Test.YthdbapibbdkclaaDoorMH
import Derived.Test.YthdbapibbdkclaaDoorMJ
import Derived.Test.YthdbapibbdkclaaDoorMP
namespace Go.Proofs.YthdbapibbdkclaaDoor
open Go.RowKit
set_option linter.unusedVariables false
set_option linter.unusedSimpArgs false

theorem log2_mul_pow {m : Nat} (h : m ≠ 0) (k : Nat) : (m * 2 ^ k).log2 = m.log2 + k := by
  have h1 := Nat.log2_self_le h
  have h2 := @Nat.lt_log2_self m
  have hp := Nat.two_pow_pos k
  refine (Nat.log2_eq_iff (by have := Nat.mul_pos (Nat.pos_of_ne_zero h) hp; omega)).2 ⟨?_, ?_⟩
  · rw [Nat.pow_add]; exact Nat.mul_le_mul_right _ h1
  · rw [show m.log2 + k + 1 = (m.log2 + 1) + k by omega, Nat.pow_add]; exact (Nat.mul_lt_mul_right hp).2 h2
theorem even_cut_scale (neg : Bool) {m : Nat} (hm : m ≠ 0) (k c : Nat) : Ieee.Toward.even.cut neg (m * 2 ^ k) (c + k) = Ieee.Toward.even.cut neg m c := by
  unfold Ieee.Toward.cut
  dsimp only
  rw [log2_mul_pow hm, show min (c + k) (m.log2 + k + 2) = min c (m.log2 + 2) + k by omega, Nat.one_shiftLeft, Nat.one_shiftLeft, Nat.pow_add]
  generalize 2 ^ min c (m.log2 + 2) = G
  have hp := Nat.two_pow_pos k
  generalize 2 ^ k = K at *
  rw [Nat.mul_div_mul_right _ _ hp, Nat.mul_mod_mul_right]
  have e1 : decide (G * K < 2 * (m % G * K)) = decide (G < 2 * (m % G)) := by
    rw [decide_eq_decide, ← Nat.mul_assoc]; exact Nat.mul_lt_mul_right hp
  have e2 : (G * K == 2 * (m % G * K)) = (G == 2 * (m % G)) := by
    rw [Bool.eq_iff_iff, beq_iff_eq, beq_iff_eq, ← Nat.mul_assoc]
    exact ⟨fun h => Nat.eq_of_mul_eq_mul_right hp h, fun h => congrArg (· * K) h⟩
  rw [e1, e2]
theorem even_cut_whole (neg : Bool) {m : Nat} (hm : m ≠ 0) (c : Nat) : Ieee.Toward.even.cut neg (m * 2 ^ c) c = m := by
  have := even_cut_scale neg hm c 0
  rw [Nat.zero_add, even_cut_zero] at this
  exact this
theorem nearest_shift (f : Ieee.Format) (neg : Bool) {m : Nat} (hm : m ≠ 0) (k : Nat) (e : Int) : f.nearest neg (m * 2 ^ k) e = f.nearest neg m (e + k) := by
  unfold Ieee.Format.nearest
  have hp := Nat.two_pow_pos k
  have hn : m * 2 ^ k ≠ 0 := by have := Nat.mul_pos (Nat.pos_of_ne_zero hm) hp; omega
  rw [if_neg hn, if_neg hm]
  dsimp only
  rw [log2_mul_pow hm, show e + ((m.log2 + k : Nat) : Int) - (f.fractionBits : Int) = e + (k : Int) + (m.log2 : Int) - (f.fractionBits : Int) by omega]
  generalize max (e + (k : Int) + (m.log2 : Int) - (f.fractionBits : Int)) f.leastPlace = l
  congr 3
  by_cases h1 : l ≤ e
  · rw [show (l - e).toNat = 0 by omega, show (l - (e + k)).toNat = 0 by omega, even_cut_zero, even_cut_zero, Nat.shiftLeft_eq, Nat.shiftLeft_eq, Nat.mul_assoc, ← Nat.pow_add]
    congr 2; omega
  · rw [show (e - l).toNat = 0 by omega, Nat.shiftLeft_zero]
    by_cases h2 : l ≤ e + k
    · rw [show (l - (e + k)).toNat = 0 by omega, even_cut_zero, Nat.shiftLeft_eq]
      have hm2 : m * 2 ^ (e + k - l).toNat ≠ 0 := by have := Nat.mul_pos (Nat.pos_of_ne_zero hm) (Nat.two_pow_pos (e + k - l).toNat); omega
      rw [show 2 ^ k = 2 ^ (e + k - l).toNat * 2 ^ (l - e).toNat by rw [← Nat.pow_add]; congr 1; omega, ← Nat.mul_assoc, even_cut_whole neg hm2]
    · rw [show (e + k - l).toNat = 0 by omega, Nat.shiftLeft_zero, show (l - e).toNat = (l - (e + k)).toNat + k by omega, even_cut_scale neg hm]
theorem near_form (f : Ieee.Format) (h : Nat) (L : Int) (E q S : Nat) (hf : f.fractionBits = h) (hL : f.leastPlace = L) (hE : f.infRung = E) (hq : E = q * 2 ^ h) (hq2 : 2 ≤ q) (hh : 1 ≤ h) (hS : f.signWeight = S)
    {s : Bool} {n : Nat} {e : Int} {d : D} (hn : n ≠ 0) (hd : formF s n e = some d) : RoundsTo h L E S 0 (some d) (f.nearest s n e) 0 := by
  obtain ⟨m, h1, h2⟩ := low_spec hn
  have hm0 : m ≠ 0 := by omega
  have hd' : d = ⟨s, m, e + low n⟩ := by
    unfold formF at hd
    rw [if_neg hn] at hd
    split at hd
    · cases hd
    · cases hd
      congr 1
      exact Nat.div_eq_of_eq_mul_right (Nat.two_pow_pos _) h1
  refine .inr ⟨by decide, .inr ⟨d, onF h L E d 0, rfl, ?_, ?_, rfl⟩⟩
  · exact on_rounds h L E q d 0 hh hq hq2 (by rw [hd']; exact .inr h2) (by decide) (by decide)
  · have e1 : f.nearest s n e = f.nearest s m (e + low n) := by
      conv => lhs; rw [h1, Nat.mul_comm]
      rw [nearest_shift f s hm0]
    rw [e1, nearest_on f h L E q hf hL hE hq hq2 hh s m _ (.inr h2), hd']
    unfold Ieee.Format.word
    rw [hS]
    dsimp only
    split <;> omega
theorem near64 {s : Bool} {n : Nat} {e : Int} {d : D} (hn : n ≠ 0) (hd : formF s n e = some d) : RoundsTo 52 (-1074) 9218868437227405312 9223372036854775808 0 (some d) (Ieee.double.nearest s n e) 0 :=
  near_form Ieee.double 52 (-1074) 9218868437227405312 2047 9223372036854775808 rfl rfl rfl rfl (by decide) (by decide) rfl hn hd

/-- a value that is not too great has a form -/
theorem form_smallB (s : Bool) {n j : Nat} {e : Int} (hn : n < 2 ^ (32 * j)) (hj : j ≤ 8192) (h1 : -1048576 ≤ e) (h2 : e + 32 * (j : Int) ≤ 1048576) : ∃ d, formF s n e = some d := by
  unfold formF
  by_cases h0 : n = 0
  · rw [if_pos h0]; exact ⟨_, rfl⟩
  · rw [if_neg h0]
    have h3 := low_lt_bitLen h0
    have h4 : bitLen n ≤ 32 * j := bitLen_lt hn
    have h5 : (words (n / 2 ^ low n)).length ≤ j := words_len_le (by
      have := Nat.div_le_self n (2 ^ low n)
      rw [w32_pow]
      omega)
    rw [if_neg (by omega)]; exact ⟨_, rfl⟩
theorem numV_bd {k : Nat} (hk : k < 9218868437227405312) {j : Nat} (hj : j = 66) : numV 52 k < 2 ^ (32 * j) := by
  unfold numV
  have h1 : numM 52 k < 2 ^ 53 := by
    unfold numM
    rw [show (2 : Nat) ^ 52 = 4503599627370496 from rfl, show (2 : Nat) ^ 53 = 9007199254740992 from rfl]
    split <;> omega
  have h2 : numE 52 k ≤ 2046 := by
    unfold numE
    rw [show (2 : Nat) ^ 52 = 4503599627370496 from rfl]
    omega
  have h3 : numM 52 k * 2 ^ numE 52 k < 2 ^ 53 * 2 ^ numE 52 k := (Nat.mul_lt_mul_right (Nat.two_pow_pos _)).2 h1
  rw [← Nat.pow_add] at h3
  exact Nat.lt_of_lt_of_le h3 (Nat.pow_le_pow_right (by decide) (by omega))
theorem sgn_abs (s : Bool) (n : Nat) : (sgn s n).natAbs = n := by unfold sgn; split <;> omega
theorem ofF_zB {b : Nat} {p : D} (h : ofF b = some p) : p.z (-1074) = fV b ∧ -1074 ≤ p.exp := by
  unfold ofF bitsF at h
  split at h
  · cases h
  · have hz := z_form h (B := -1074) (by omega) (by decide)
    refine ⟨?_, hz.2⟩
    rw [hz.1]
    unfold fV numV
    rw [sgn_mul]
    congr 3
    omega
theorem ofF_some {b : Nat} (h : b % 9223372036854775808 < 9218868437227405312) : ∃ p, ofF b = some p := by
  unfold ofF bitsF
  rw [if_neg (by omega)]
  obtain ⟨j, hj⟩ : ∃ j, j = 66 := ⟨_, rfl⟩
  have h1 : numM 52 (b % 9223372036854775808) < 2 ^ (32 * 2) := by
    unfold numM
    rw [show (2 : Nat) ^ 52 = 4503599627370496 from rfl, show (2 : Nat) ^ (32 * 2) = 18446744073709551616 from rfl]
    split <;> omega
  have h2 : numE 52 (b % 9223372036854775808) ≤ 2046 := by
    unfold numE
    rw [show (2 : Nat) ^ 52 = 4503599627370496 from rfl]
    omega
  exact form_smallB _ h1 (by decide) (by omega) (by omega)
theorem z_abs {d : D} {B : Int} (h : B ≤ d.exp) : d.m * 2 ^ (d.exp - B).toNat = (d.z B).natAbs := by
  unfold D.z; rw [← sgn_mul, sgn_abs]
/-- forms of values that are not too great have a sum -/
theorem addD_some {p q : D} {B : Int} {j : Nat} (hp : B ≤ p.exp) (hq : B ≤ q.exp) (h0 : B ≤ 0) (bp : (p.z B).natAbs < 2 ^ (32 * j)) (bq : (q.z B).natAbs < 2 ^ (32 * j)) (hj : j + 1 ≤ 8192) (h1 : -1048576 ≤ B) (h2 : ∀ d : D, d = p ∨ d = q → d.m ≠ 0 → d.exp + 32 * ((j : Int) + 1) ≤ 1048576) : ∃ d, addD p q = some d := by
  unfold addD
  by_cases hp0 : p.m = 0
  · rw [if_pos hp0]; exact ⟨_, rfl⟩
  rw [if_neg hp0]
  by_cases hq0 : q.m = 0
  · rw [if_pos hq0]; exact ⟨_, rfl⟩
  rw [if_neg hq0]
  have hP : p.m * 2 ^ (p.exp - min p.exp q.exp).toNat < 2 ^ (32 * j) := by
    refine Nat.lt_of_le_of_lt ?_ bp
    rw [← z_abs hp]
    exact Nat.mul_le_mul_left _ (Nat.pow_le_pow_right (by decide) (by omega))
  have hQ : q.m * 2 ^ (q.exp - min p.exp q.exp).toNat < 2 ^ (32 * j) := by
    refine Nat.lt_of_le_of_lt ?_ bq
    rw [← z_abs hq]
    exact Nat.mul_le_mul_left _ (Nat.pow_le_pow_right (by decide) (by omega))
  have lP : (words (p.m * 2 ^ (p.exp - min p.exp q.exp).toNat)).length ≤ j := words_len_le (by rw [w32_pow]; exact hP)
  have lQ : (words (q.m * 2 ^ (q.exp - min p.exp q.exp).toNat)).length ≤ j := words_len_le (by rw [w32_pow]; exact hQ)
  rw [if_neg (by omega)]
  have hpow : 2 ^ (32 * (j + 1)) = 4294967296 * 2 ^ (32 * j) := by rw [show 32 * (j + 1) = 32 + 32 * j by omega, Nat.pow_add]
  have h3 := h2 p (.inl rfl) hp0
  have h4 := h2 q (.inr rfl) hq0
  have hs : ∀ (s : Bool) (n : Nat), n < 2 ^ (32 * (j + 1)) → ∃ d, formF s n (min p.exp q.exp) = some d := fun s n hn => form_smallB s hn hj (by omega) (by omega)
  split
  · exact hs _ _ (by omega)
  · split
    · exact hs _ _ (by omega)
    · exact hs _ _ (by omega)

theorem fV_abs {b : Nat} (h : b % 9223372036854775808 < 9218868437227405312) {j : Nat} (hj : j = 66) : (fV b).natAbs < 2 ^ (32 * j) := by
  unfold fV; rw [sgn_abs]; exact numV_bd h hj
theorem ofF_hi {b : Nat} {p : D} (h : ofF b = some p) : p.exp ≤ 1100 := by
  unfold ofF bitsF at h
  split at h
  · cases h
  · rename_i hk
    unfold formF at h
    split at h
    · cases h; decide
    · rename_i h0
      split at h
      · cases h
      · cases h
        have h1 := low_lt_bitLen h0
        have h2 : bitLen (numM 52 (b % 9223372036854775808)) ≤ 53 := bitLen_lt (by
          unfold numM
          rw [show (2 : Nat) ^ 52 = 4503599627370496 from rfl, show (2 : Nat) ^ 53 = 9007199254740992 from rfl]
          split <;> omega)
        have h3 : numE 52 (b % 9223372036854775808) ≤ 2046 := by
          unfold numE
          rw [show (2 : Nat) ^ 52 = 4503599627370496 from rfl]
          omega
        dsimp only
        omega
/-- the exact sum of two numbers -/
theorem addO_fV {x y : Nat} (hx : x % 9223372036854775808 < 9218868437227405312) (hy : y % 9223372036854775808 < 9218868437227405312) :
    ∃ d, addO (ofF x) (ofF y) = some d ∧ d.Is ∧ d.z (-1074) = fV x + fV y ∧ -1074 ≤ d.exp := by
  obtain ⟨p, hp⟩ := ofF_some hx
  obtain ⟨q, hq⟩ := ofF_some hy
  obtain ⟨j, hj⟩ : ∃ j, j = 66 := ⟨_, rfl⟩
  have zp := ofF_zB hp
  have zq := ofF_zB hq
  have tp := ofF_hi hp
  have tq := ofF_hi hq
  obtain ⟨d, hd⟩ := addD_some (j := j) zp.2 zq.2 (by decide) (by rw [zp.1]; exact fV_abs hx hj) (by rw [zq.1]; exact fV_abs hy hj) (by omega) (by decide) (by rintro d (rfl | rfl) _ <;> omega)
  refine ⟨d, by rw [hp, hq]; exact hd, ?_, ?_⟩
  · refine addD_is hd ?_ ?_
    · unfold ofF bitsF at hp
      split at hp
      · cases hp
      · exact formF_is hp
    · unfold ofF bitsF at hq
      split at hq
      · cases hq
      · exact formF_is hq
  · have := z_add hd zp.2 zq.2 (by decide)
    rw [zp.1, zq.1] at this
    exact this
theorem z_zero_iff {d : D} (hd : d.Is) {B : Int} (h : d.z B = 0) : d = D.zero := by
  rcases hd with h1 | h1
  · exact h1
  · unfold D.z at h
    have := Nat.two_pow_pos (d.exp - B).toNat
    rcases Int.mul_eq_zero.1 h with h2 | h2
    · have := sgn_eq_zero h2; omega
    · omega
/-- the sum of two numbers, a NaN in its one form -/
def addC (x y : Nat) : Nat := match Ieee.double.add x y with | some r => r | none => nan64
theorem addC_fin {x y : Nat} (hbx : x < 18446744073709551616) (hby : y < 18446744073709551616) (hx : x % 9223372036854775808 < 9218868437227405312) (hy : y % 9223372036854775808 < 9218868437227405312) :
    (fV x + fV y = 0 → addC x y = if 9223372036854775808 ≤ x ∧ 9223372036854775808 ≤ y then 9223372036854775808 else 0) ∧
    (∀ d, d.Is → -1074 ≤ d.exp → d.z (-1074) = fV x + fV y → fV x + fV y ≠ 0 → RoundsTo 52 (-1074) 9218868437227405312 9223372036854775808 0 (some d) (addC x y) 0) := by
  obtain ⟨m, hm⟩ : ∃ m, m = numM 52 (x % 9223372036854775808) := ⟨_, rfl⟩
  obtain ⟨n, hn⟩ : ∃ n, n = numM 52 (y % 9223372036854775808) := ⟨_, rfl⟩
  obtain ⟨i, hi⟩ : ∃ i : Int, i = -1074 + (numE 52 (x % 9223372036854775808) : Nat) := ⟨_, rfl⟩
  obtain ⟨j, hj⟩ : ∃ j : Int, j = -1074 + (numE 52 (y % 9223372036854775808) : Nat) := ⟨_, rfl⟩
  have hrx := read_num hbx hx
  have hry := read_num hby hy
  rw [← hm, ← hi] at hrx
  rw [← hn, ← hj] at hry
  obtain ⟨s, hs⟩ : ∃ s, s = decide (9223372036854775808 ≤ x) := ⟨_, rfl⟩
  obtain ⟨t, ht⟩ : ∃ t, t = decide (9223372036854775808 ≤ y) := ⟨_, rfl⟩
  rw [← hs] at hrx
  rw [← ht] at hry
  obtain ⟨tot, htot⟩ : ∃ z, z = Ieee.signed s m (i - min i j).toNat + Ieee.signed t n (j - min i j).toNat := ⟨_, rfl⟩
  have hadd : addC x y = Ieee.double.nearest (if tot = 0 then s && t else decide (tot < 0)) tot.natAbs (min i j) := by
    unfold addC Ieee.Format.add
    rw [hrx, hry]
    show (match ((Ieee.Datum.sum (.number s m i) (.number t n j)).map Ieee.double.write) with | some r => r | none => nan64) = _
    unfold Ieee.Datum.sum
    dsimp only [Option.map]
    rw [← htot]
    rfl
  have hT : fV x + fV y = tot * ((2 ^ (min i j + 1074).toNat : Nat) : Int) := by
    unfold fV numV
    rw [← hm, ← hn, ← hs, ← ht, htot, signed_sgn, signed_sgn, Int.add_mul, ← sgn_mul, ← sgn_mul, Nat.mul_assoc, Nat.mul_assoc, ← Nat.pow_add, ← Nat.pow_add]
    rw [show (i - min i j).toNat + (min i j + 1074).toNat = numE 52 (x % 9223372036854775808) by omega, show (j - min i j).toNat + (min i j + 1074).toNat = numE 52 (y % 9223372036854775808) by omega]
  have hp := Nat.two_pow_pos (min i j + 1074).toNat
  refine ⟨fun h0 => ?_, fun d hd he hz hne => ?_⟩
  · have h1 : tot = 0 := by
      rw [hT] at h0
      rcases Int.mul_eq_zero.1 h0 with h2 | h2
      · exact h2
      · omega
    rw [hadd, h1, if_pos rfl]
    unfold Ieee.Format.nearest
    rw [if_pos (by rfl)]
    unfold Ieee.Format.word
    rw [show Ieee.double.signWeight = 9223372036854775808 from rfl, hs, ht]
    by_cases q1 : 9223372036854775808 ≤ x <;> by_cases q2 : 9223372036854775808 ≤ y <;> simp [q1, q2]
  · have h1 : tot ≠ 0 := by
      intro h1
      rw [hT, h1] at hne
      simp at hne
    rw [hadd, if_neg h1]
    have hk := @numV_bd (x % 9223372036854775808) hx
    obtain ⟨k, hkk⟩ : ∃ k, k = 66 := ⟨_, rfl⟩
    have b1 := fV_abs hx hkk
    have b2 := fV_abs hy hkk
    have b3 : tot.natAbs < 2 ^ (32 * (k + 1)) := by
      have e1 : (fV x + fV y).natAbs = tot.natAbs * 2 ^ (min i j + 1074).toNat := by rw [hT, Int.natAbs_mul, Int.natAbs_natCast]
      have e2 : (fV x + fV y).natAbs ≤ (fV x).natAbs + (fV y).natAbs := Int.natAbs_add_le _ _
      have e3 : tot.natAbs * 1 ≤ tot.natAbs * 2 ^ (min i j + 1074).toNat := Nat.mul_le_mul_left _ hp
      have hpow : 2 ^ (32 * (k + 1)) = 4294967296 * 2 ^ (32 * k) := by rw [show 32 * (k + 1) = 32 + 32 * k by omega, Nat.pow_add]
      omega
    have b4 : i ≤ 2000 ∧ j ≤ 2000 := by
      have q1 : numE 52 (x % 9223372036854775808) ≤ 2046 := by
        unfold numE; rw [show (2 : Nat) ^ 52 = 4503599627370496 from rfl]; omega
      have q2 : numE 52 (y % 9223372036854775808) ≤ 2046 := by
        unfold numE; rw [show (2 : Nat) ^ 52 = 4503599627370496 from rfl]; omega
      omega
    obtain ⟨d', hd'⟩ := form_smallB (decide (tot < 0)) b3 (by omega) (e := min i j) (by omega) (by omega)
    have hz' := z_form hd' (B := -1074) (by omega) (by decide)
    have hsg : sgn (decide (tot < 0)) tot.natAbs = tot := by
      unfold sgn
      by_cases q : tot < 0
      · rw [decide_eq_true q]; simp; omega
      · rw [decide_eq_false q]; simp; omega
    have heq : d = d' := z_uniq hd (formF_is hd') he hz'.2 (by rw [hz, hT, hz'.1, hsg]; congr 3)
    rw [heq]
    exact near64 (by omega) hd'
end Go.Proofs.YthdbapibbdkclaaDoor
