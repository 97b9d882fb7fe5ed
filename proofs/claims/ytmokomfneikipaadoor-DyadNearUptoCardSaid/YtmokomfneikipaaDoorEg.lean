/- Contract of steelyardref03's half. No statement of the seat is proved here. -/
import Derived.Test.YtmokomfneikipaaDoorProg
import Derived.Test.YtmokomfneikipaaDoorEf
namespace Go.Proofs.YtmokomfneikipaaDoor
open Go.RowKit
set_option linter.unusedVariables false
set_option linter.unusedSimpArgs false

set_option maxRecDepth 10000 in
set_option maxHeartbeats 2000000 in
theorem half_any (h q k : Nat) (L : Int) (E : Nat) (a : Option Addr) (c : Nat) (l : List Nat) (e : Int) (w : World) (hh : 1 ≤ h) (hh2 : h ≤ 52) (hL1 : -2000 ≤ L) (hL2 : L ≤ 0) (hE : E = q * 2 ^ h) (hq2 : q ≤ 2047) (hk : k + 1 ≤ E) (hs : Sl w a c l) (hlen : l.length ≤ 8192) (he1 : -2000000 ≤ e) (he2 : e ≤ 2000000) :
    Calls Tryd.prog 103 #[.agg #[.int .i64 (h + 1 : Nat), .int .i64 L, .int .u64 E], .int .u64 k, .slice a l.length c, .int .i64 e] w fun en w' => en = .returned (.int .i64 (cmpN (2 * sx L (num l) e) ((numV h k + numV h (k + 1)) * 2 ^ sc L e))) ∧ Below w.heap.size w w' := by
  have hp := Nat.two_pow_pos h
  have hp52 : 2 ^ h ≤ 4503599627370496 := by have := Nat.pow_le_pow_right (show 0 < 2 by decide) hh2; simpa using this
  have hE2 : E ≤ 9218868437227405312 := by
    have := Nat.mul_le_mul hq2 hp52
    rw [← hE] at this; omega
  have hdiv : ∀ k, k ≤ E → k / 2 ^ h ≤ 1000000 := fun k hk => by
    have h1 : k / 2 ^ h ≤ E / 2 ^ h := Nat.div_le_div_right hk
    rw [hE, Nat.mul_div_cancel _ hp] at h1; omega
  rw [← ag_half]
  have hl1 := numM_len h k hh2
  have hl2 := numM_len h (k + 1) hh2
  have hb1 := numE_bd (hdiv k (by omega))
  have hb2 := numE_bd (hdiv (k + 1) hk)
  have hle := numE_le h k
  obtain ⟨d, hd⟩ : ∃ d, d = numE h (k + 1) - numE h k := ⟨_, rfl⟩
  rw [← hd]
  obtain ⟨F, hF⟩ : ∃ F, F = L + (numE h k : Int) := ⟨_, rfl⟩
  obtain ⟨G, hG⟩ : ∃ G, G = L + (numE h (k + 1) : Int) := ⟨_, rfl⟩
  have hdG : (d : Int) = G - F := by omega
  have hN1 := fun W => number_any h k L E W hh2 (by omega) hh hL1 (by omega) (hdiv k (by omega))
  have hN2 := fun W => number_any h (k + 1) L E W hh2 (by omega) hh hL1 (by omega) (hdiv (k + 1) hk)
  rw [← hF] at hN1 ⊢
  rw [← hG] at hN2
  have hF1 : -2000 ≤ F := by omega
  have hF2 : F ≤ 1000000 := by omega
  have hG2 : G ≤ 1000000 := by omega
  have hFG : ¬ G < F := by omega
  have hd3 : d ≤ 1000000 := by omega
  generalize numM h k = M at *
  generalize numM h (k + 1) = M' at *
  have hML : (words (M' * 2 ^ d)).length ≤ 40000 := by
    obtain ⟨j, hj⟩ : ∃ j, j = 31250 := ⟨_, rfl⟩
    refine Nat.le_trans (words_len_le (k := 2 + j) ?_) (by omega)
    have h1 : M' < 4294967296 ^ 2 := by have := num_lt (W32_words M'); rw [num_words] at this; exact Nat.lt_of_lt_of_le this (Nat.pow_le_pow_right (by decide) hl2)
    have h2 : 2 ^ d ≤ 4294967296 ^ j := by rw [pow32]; exact Nat.pow_le_pow_right (by decide) (by omega)
    have h3 : M' * 2 ^ d < 4294967296 ^ 2 * 4294967296 ^ j := Nat.lt_of_lt_of_le ((Nat.mul_lt_mul_right (Nat.two_pow_pos d)).2 h1) (Nat.mul_le_mul_left _ h2)
    rw [← Nat.pow_add] at h3
    exact h3
  have hMv : ∀ W a2 c2 base, Own W 64 base a2 c2 (words M') → Calls Tryd.prog 63 #[.slice a2 (words M').length c2, .int .i64 (G - F)] W fun e w' => ∃ a1 c1, e = .returned (.slice a1 (words (M' * 2 ^ d)).length c1) ∧ Own w' 64 W.heap.size a1 c1 (words (M' * 2 ^ d)) ∧ Below W.heap.size W w' := by
    intro W a2 c2 base ho
    have := rmoved_up a2 c2 (words M') d W (by omega) (by omega) (ho.sl (W32_words _))
    rw [num_words, hdG] at this
    exact this
  obtain ⟨M2, hM2⟩ : ∃ M2, M2 = M' * 2 ^ d := ⟨_, rfl⟩
  rw [← hM2] at hMv hML ⊢
  clear hM2
  have hSumL : (words (M + M2)).length ≤ 40001 := by
    obtain ⟨j, hj⟩ : ∃ j, j = 40000 := ⟨_, rfl⟩
    refine Nat.le_trans (words_len_le (k := j + 1) ?_) (by omega)
    have h1 := num_lt (W32_words M); rw [num_words] at h1
    have h2 := num_lt (W32_words M2); rw [num_words] at h2
    have h3 : 4294967296 ^ (words M).length ≤ 4294967296 ^ j := Nat.pow_le_pow_right (by decide) (by omega)
    have h4 : 4294967296 ^ (words M2).length ≤ 4294967296 ^ j := Nat.pow_le_pow_right (by decide) (by omega)
    rw [Nat.pow_succ]
    generalize 4294967296 ^ j = Z at *
    omega
  have hPl : ∀ W a1 c1 a2 c2 b1 b2, Own W 64 b1 a1 c1 (words M) → Own W 64 b2 a2 c2 (words M2) → Calls Tryd.prog 64 #[.slice a1 (words M).length c1, .slice a2 (words M2).length c2] W fun e w' => ∃ a' c', e = .returned (.slice a' (words (M + M2)).length c') ∧ Own w' 64 W.heap.size a' c' (words (M + M2)) ∧ Below W.heap.size W w' := by
    intro W a1 c1 a2 c2 b1 b2 h1 h2
    have := rplus_any a1 a2 c1 c2 (words M) (words M2) W (by omega) (by omega) (W32_words _) h1.rd (W32_words _) h2.rd
    rw [num_words, num_words] at this; exact this
  obtain ⟨S, hS⟩ : ∃ S, S = M + M2 := ⟨_, rfl⟩
  rw [← hS] at hPl hSumL ⊢
  clear hS
  have hnl := num_lt hs.w32
  have h2l : (words (num l * 2)).length ≤ 8193 := by
    refine Nat.le_trans (words_len_le (k := l.length + 1) ?_) (by omega)
    rw [Nat.pow_succ]
    generalize 4294967296 ^ l.length = Z at *
    omega
  have hTi : ∀ W, Below w.heap.size w W → Calls Tryd.prog 75 #[.slice a l.length c, .slice (some ⟨W.heap.size, 0, none⟩) 1 1] (W.alloc (.cells #[.int .u32 2] 64)) fun e w' => ∃ a' c', e = .returned (.slice a' (words (num l * 2)).length c') ∧ Own w' 64 W.heap.size a' c' (words (num l * 2)) ∧ Below W.heap.size W w' := by
    intro W hw
    have hB := blk_alloc W 64 #[.int .u32 2] [2] (by simp)
    have hsw := Sl.blk hB (W32.cons (by decide) W32.nil)
    have := rtimes_any a (some ⟨W.heap.size, 0, none⟩) c 1 l [2] (W.alloc (.cells #[.int .u32 2] 64)) (by simp; omega) hs.w32 ((hs.rd.grow hw).grow ((Below.refl _ _).alloc (Nat.le_refl _) _)) hsw.w32 hsw.rd
    rw [show num l * num [2] = num l * 2 by simp [num], World.size_alloc] at this
    refine this.mono ?_
    rintro e w' ⟨a', c', h1, h2, h3⟩
    exact ⟨a', c', h1, h2.mono (by omega), ((Below.refl _ _).alloc (Nat.le_refl _) _).trans (h3.mono (by omega))⟩
  have hAg : ∀ W a1 c1 a2 c2 b1 b2, Own W 64 b1 a1 c1 (words (num l * 2)) → Own W 64 b2 a2 c2 (words S) → Calls Tryd.prog 78 #[.slice a1 (words (num l * 2)).length c1, .int .i64 e, .slice a2 (words S).length c2, .int .i64 F] W fun en w' => en = .returned (.int .i64 (agN (num l * 2) e S F)) ∧ Below W.heap.size W w' := by
    intro W a1 c1 a2 c2 b1 b2 h1 h2
    have := against_any a1 a2 c1 c2 (words (num l * 2)) (words S) e F W (by omega) (by omega) (h1.sl (W32_words _)) (h2.sl (W32_words _)) (by omega) (by omega) (by omega) (by omega)
    rw [num_words, num_words] at this; exact this
  generalize agN (num l * 2) e S F = r at *
  generalize num l * 2 = X at *
  have HN1 := Lib.hid hN1; have HN2 := Lib.hid hN2; have HMv := Lib.hid hMv; have HPl := Lib.hid hPl; have HTi := Lib.hid hTi; have HAg := Lib.hid hAg
  have hk1 : IntKind.u64.wrap ((k : Int) + 1) = ((k + 1 : Nat) : Int) := by rw [IntKind.wrap_u64]; omega
  have hdw : IntKind.i64.wrap (G - F) = G - F := by rw [IntKind.wrap_i64]; omega
  clear hN1 hN2 hMv hPl hTi hAg hs hE hp hp52 hdiv hl1 hl2 hb1 hb2 hle hd hF hG hdG hML hSumL hnl h2l
  rw [show ((h + 1 : Nat) : Int) = (h : Int) + 1 from by simp] at *
  go_enter Tryd.func103, Tryd.ntmps103
  go_wp2_with fail
  obtain ⟨w1, h1⟩ : ∃ W, W = w.alloc (.cells #[.int .i64 ((h : Int) + 1), .int .i64 L, .int .u64 (E : Int)] 71) := ⟨_, rfl⟩
  rw [← h1]
  obtain ⟨k1, hB, s1⟩ := new_of h1 rfl
  clear h1
  refine (HN1.out w1).mono ?_; rintro en w2 ⟨a1, c1, rfl, ho1, hb2⟩
  have k2 := (hb2.block w.heap.size (by omega)).trans k1
  obtain ⟨_, _, _, _, _, _⟩ := cells3 k2
  have hB2 := hB.trans (hb2.mono (by omega))
  have HB2 := Lib.hid hB2; have HO1 := Lib.hid ho1; clear hB2 ho1 hb2 hB
  go_wp2_with fail
  refine (HN2.out w2).mono ?_; rintro en w3 ⟨a2, c2, rfl, ho2, hb3⟩
  have hB3 := HB2.out.trans (hb3.mono HB2.out.size)
  have ho1' := HO1.out.grow hb3
  have HB3 := Lib.hid hB3; have HO1' := Lib.hid ho1'; have HO2 := Lib.hid ho2; clear hB3 ho1' hb3 ho2 HB2 HO1
  go_wp2_with fail
  refine (HMv.out _ _ _ _ HO2.out).mono ?_; rintro en w4 ⟨a3, c3, rfl, ho3, hb4⟩
  have hB4 := HB3.out.trans (hb4.mono HB3.out.size)
  have ho1' := HO1'.out.grow hb4
  have HB4 := Lib.hid hB4; have HO14 := Lib.hid ho1'; have HO3 := Lib.hid ho3; clear hB4 ho1' hb4 ho3 HB3 HO1'
  go_wp2_with fail
  refine (HPl.out _ _ _ _ _ _ _ HO14.out HO3.out).mono ?_; rintro en w5 ⟨a4, c4, rfl, ho4, hb5⟩
  have hB5 := HB4.out.trans (hb5.mono HB4.out.size)
  have HB5 := Lib.hid hB5; have HO4 := Lib.hid ho4; clear hB5 hb5 ho4 HB4
  go_wp2_with fail
  refine (HTi.out w5 HB5.out).mono ?_; rintro en w6 ⟨a5, c5, rfl, ho5, hb6⟩
  have hB6 := HB5.out.trans (hb6.mono HB5.out.size)
  have ho4 := HO4.out.grow hb6
  have HB6 := Lib.hid hB6; have HO5 := Lib.hid ho5; have HO46 := Lib.hid ho4; clear hB6 hb6 ho5 ho4 HB5
  go_wp2_with fail
  refine (HAg.out _ _ _ _ _ _ _ HO5.out HO46.out).mono ?_; rintro en w7 ⟨rfl, hb7⟩
  have hB7 := HB6.out.trans (hb7.mono HB6.out.size)
  have HB7 := Lib.hid hB7; clear hB7 hb7
  go_wp2
  go_ret
  exact ⟨rfl, HB7.out⟩
end Go.Proofs.YtmokomfneikipaaDoor
