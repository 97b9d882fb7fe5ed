/- Contracts of package wide: Sub, Mul, Shift. No statement of the seat is proved here. -/
import Derived.Test.YtmokomfneikipaaDoorProg
import Derived.Test.YtmokomfneikipaaDoorWd
namespace Go.Proofs.YtmokomfneikipaaDoor
open Go.RowKit
set_option linter.unusedVariables false
set_option linter.unusedSimpArgs false

theorem digs_words {k n : Nat} (h : n < 4294967296 ^ k) : words (num (digs k n)) = words n := by rw [num_digs_lt h]

set_option maxHeartbeats 1000000 in
set_option maxRecDepth 10000 in
theorem wsub_any (a b : Option Addr) (c d : Nat) (l m : List Nat) (w : World) (hlen : l.length ≤ 17592186044416) (hc : l.length ≤ c) (hw : W32 l) (hr : Rd w a l) (hlen2 : m.length ≤ 17592186044416) (hd : m.length ≤ d) (hw2 : W32 m) (hr2 : Rd w b m)
    (h1 : (words (num l)).length ≤ 8192) (h2 : (words (num m)).length ≤ 8192) (hle : num m ≤ num l) :
    Calls Tryd.prog 61 #[.slice a l.length c, .slice b m.length d] w fun e w' => ∃ a', e = .returned (.tuple #[.slice a' (words (num l - num m)).length (words (num l - num m)).length, .int .i64 0]) ∧ Own w' 64 w.heap.size a' (words (num l - num m)).length (words (num l - num m)) ∧ Below w.heap.size w w' := by
  have B1 := Lib.hid (wboth_any a b c d l m w (by omega) hc hw hr (by omega) hd hw2 hr2 h1 h2)
  have hl1 := words_num_len hw
  have hl2 := words_num_len hw2
  have hR1 := hr.words hw
  have hR2 := hr2.words hw2
  obtain ⟨N, hN⟩ : ∃ N, N = num l := ⟨_, rfl⟩
  obtain ⟨M, hM⟩ : ∃ M, M = num m := ⟨_, rfl⟩
  rw [← hN] at B1 hl1 hR1 h1 hle ⊢
  rw [← hM] at B1 hl2 hR2 h2 hle ⊢
  clear hN hM hr hw hr2 hw2
  have C1 := Lib.hid (fun n => cmp_any a b c d (words N) (words M) (w.drewN n) (by omega) (by omega) (W32_words N) hR1 (by omega) (by omega) (W32_words M) hR2)
  have hmn : (words M).length ≤ (words N).length := words_len_le (Nat.lt_of_le_of_lt hle (by have := num_lt (W32_words N); rwa [num_words] at this))
  have L1 := Lib.hid (fun n => less_any a b c d (words N) (words M) (w.drewN n) (by omega) hmn (W32_words N) hR1 (W32_words M) hR2 (by rw [num_words, num_words]; exact hle))
  have hcn : ¬ cmpN (num (words N)) (num (words M)) < 0 := by rw [num_words, num_words, cmpN_neg]; omega
  have hcl := cmpN_lo (num (words N)) (num (words M))
  have hch := cmpN_hi (num (words N)) (num (words M))
  have HLE := Lib.hid hle; clear hle
  go_enter Tryd.func61, Tryd.ntmps61
  go_wp2_with fail
  refine B1.out.mono ?_; rintro e w' ⟨rfl, rfl⟩
  go_wp2_with fail
  refine (C1.out 0).mono ?_; rintro e w' ⟨rfl, n, rfl⟩
  go_wp2_with fail
  refine (L1.out _).mono ?_; rintro e w1 ⟨rfl, hk, hb⟩
  have hlt : N - M < 4294967296 ^ (words N).length := by have := num_lt (W32_words N); rw [num_words] at this; omega
  rw [num_words, num_words] at hk
  have F1 := fits_any (some ⟨w.heap.size, 0, none⟩) (words N).length (digs (words N).length (N - M)) w1 (by rw [digs_len]; omega) (by rw [digs_len]; omega) (W32_digs _ _) hk.rd (by rw [digs_words hlt]; exact Nat.le_trans (words_len_of_le (Nat.sub_le _ _)) h1)
  rw [digs_words hlt, digs_len] at F1
  have HF := Lib.hid F1; clear F1
  go_wp2_with fail
  refine HF.out.mono ?_; rintro e w' ⟨rfl, rfl⟩
  go_wp2
  go_ret2
  refine ⟨some ⟨w.heap.size, 0, none⟩, rfl, ?_, below_drewN hb⟩
  have h3 := (Own.of hk (Nat.le_refl w.heap.size)).cut (k := (words (N - M)).length) (by rw [digs_len]; exact words_len_le hlt)
  have h4 := words_num_prefix (W32_digs (words N).length (N - M))
  rw [digs_words hlt] at h4
  rw [← h4] at h3
  exact h3.shut

set_option maxHeartbeats 1000000 in
set_option maxRecDepth 10000 in
theorem wmul_any (a b : Option Addr) (c d : Nat) (l m : List Nat) (w : World) (hlen : l.length ≤ 17592186044416) (hc : l.length ≤ c) (hw : W32 l) (hr : Rd w a l) (hlen2 : m.length ≤ 17592186044416) (hd : m.length ≤ d) (hw2 : W32 m) (hr2 : Rd w b m)
    (h1 : (words (num l)).length ≤ 8192) (h2 : (words (num m)).length ≤ 8192) (h3 : (words (num l * num m)).length ≤ 8192) :
    Calls Tryd.prog 74 #[.slice a l.length c, .slice b m.length d] w fun e w' => ∃ a', e = .returned (.tuple #[.slice a' (words (num l * num m)).length (words (num l * num m)).length, .int .i64 0]) ∧ Own w' 64 w.heap.size a' (words (num l * num m)).length (words (num l * num m)) ∧ Below w.heap.size w w' := by
  have B1 := Lib.hid (wboth_any a b c d l m w (by omega) hc hw hr (by omega) hd hw2 hr2 h1 h2)
  have hl1 := words_num_len hw
  have hl2 := words_num_len hw2
  have hR1 := hr.words hw
  have hR2 := hr2.words hw2
  obtain ⟨N, hN⟩ : ∃ N, N = num l := ⟨_, rfl⟩
  obtain ⟨M, hM⟩ : ∃ M, M = num m := ⟨_, rfl⟩
  rw [← hN] at B1 hl1 hR1 h1 h3 ⊢
  rw [← hM] at B1 hl2 hR2 h2 h3 ⊢
  clear hN hM hr hw hr2 hw2
  have L1 := Lib.hid (times_any a b c d (words N) (words M) w (by omega) (by omega) (W32_words N) hR1 (W32_words M) hR2)
  go_enter Tryd.func74, Tryd.ntmps74
  go_wp2_with fail
  refine B1.out.mono ?_; rintro e w' ⟨rfl, rfl⟩
  go_wp2_with fail
  refine L1.out.mono ?_; rintro e w1 ⟨rfl, hk, hb⟩
  have hlt : N * M < 4294967296 ^ ((words N).length + (words M).length) := by
    have h4 := num_lt (W32_words N); have h5 := num_lt (W32_words M)
    rw [num_words] at h4 h5
    rw [Nat.pow_add]; exact Nat.mul_lt_mul'' h4 h5
  rw [num_words, num_words] at hk
  have F1 := fits_any (some ⟨w.heap.size, 0, none⟩) ((words N).length + (words M).length) (digs ((words N).length + (words M).length) (N * M)) w1 (by rw [digs_len]; omega) (by rw [digs_len]; omega) (W32_digs _ _) hk.rd (by rw [digs_words hlt]; exact h3)
  rw [digs_words hlt, digs_len] at F1
  have HF := Lib.hid F1; clear F1
  go_wp2_with fail
  refine HF.out.mono ?_; rintro e w' ⟨rfl, rfl⟩
  go_wp2
  go_ret2
  refine ⟨some ⟨w.heap.size, 0, none⟩, rfl, ?_, hb⟩
  have h5 := (Own.of hk (Nat.le_refl w.heap.size)).cut (k := (words (N * M)).length) (by rw [digs_len]; exact words_len_le hlt)
  have h4 := words_num_prefix (W32_digs ((words N).length + (words M).length) (N * M))
  rw [digs_words hlt] at h4
  rw [← h4] at h5
  exact h5.shut
set_option maxHeartbeats 1000000 in
set_option maxRecDepth 10000 in
theorem wmul_long (a b : Option Addr) (c d : Nat) (l m : List Nat) (w : World) (hlen : l.length ≤ 17592186044416) (hc : l.length ≤ c) (hw : W32 l) (hr : Rd w a l) (hlen2 : m.length ≤ 17592186044416) (hd : m.length ≤ d) (hw2 : W32 m) (hr2 : Rd w b m)
    (h1 : (words (num l)).length ≤ 8192) (h2 : (words (num m)).length ≤ 8192) (h3 : 8192 < (words (num l * num m)).length) :
    Calls Tryd.prog 74 #[.slice a l.length c, .slice b m.length d] w fun e w' => e = .returned (.tuple #[.slice none 0 0, .int .i64 2]) ∧ Below w.heap.size w w' := by
  have B1 := Lib.hid (wboth_any a b c d l m w (by omega) hc hw hr (by omega) hd hw2 hr2 h1 h2)
  have hl1 := words_num_len hw
  have hl2 := words_num_len hw2
  have hR1 := hr.words hw
  have hR2 := hr2.words hw2
  obtain ⟨N, hN⟩ : ∃ N, N = num l := ⟨_, rfl⟩
  obtain ⟨M, hM⟩ : ∃ M, M = num m := ⟨_, rfl⟩
  rw [← hN] at B1 hl1 hR1 h1 h3
  rw [← hM] at B1 hl2 hR2 h2 h3
  clear hN hM hr hw hr2 hw2
  have L1 := Lib.hid (times_any a b c d (words N) (words M) w (by omega) (by omega) (W32_words N) hR1 (W32_words M) hR2)
  go_enter Tryd.func74, Tryd.ntmps74
  go_wp2_with fail
  refine B1.out.mono ?_; rintro e w' ⟨rfl, rfl⟩
  go_wp2_with fail
  refine L1.out.mono ?_; rintro e w1 ⟨rfl, hk, hb⟩
  have hlt : N * M < 4294967296 ^ ((words N).length + (words M).length) := by
    have h4 := num_lt (W32_words N); have h5 := num_lt (W32_words M)
    rw [num_words] at h4 h5
    rw [Nat.pow_add]; exact Nat.mul_lt_mul'' h4 h5
  rw [num_words, num_words] at hk
  have F1 := fits_long (some ⟨w.heap.size, 0, none⟩) ((words N).length + (words M).length) (digs ((words N).length + (words M).length) (N * M)) w1 (by rw [digs_len]; omega) (by rw [digs_len]; omega) (W32_digs _ _) hk.rd (by rw [digs_words hlt]; exact h3)
  rw [digs_len] at F1
  have HF := Lib.hid F1; clear F1
  go_wp2_with fail
  refine HF.out.mono ?_; rintro e w' ⟨rfl, rfl⟩
  go_wp2
  go_ret2
  exact ⟨rfl, hb⟩

theorem bitLen_lt {n k : Nat} (h : n < 2 ^ k) : bitLen n ≤ k := by
  unfold bitLen
  split
  · omega
  · rename_i h0; have := (Nat.log2_lt h0).2 h; omega
theorem bitLen_words_le {n k : Nat} (h : bitLen n ≤ 32 * k) : (words n).length ≤ k := by
  apply words_len_le
  have := (bitLen_spec n).1
  rw [pow32]
  exact Nat.lt_of_lt_of_le this (Nat.pow_le_pow_right (by decide) h)
theorem words_bitLen {n k : Nat} (h : (words n).length ≤ k) : bitLen n ≤ 32 * k := by
  apply bitLen_lt
  rw [← pow32]
  have := num_lt (W32_words n); rw [num_words] at this
  exact Nat.lt_of_lt_of_le this (Nat.pow_le_pow_right (by decide) h)
theorem bitLen_pos {n : Nat} (h : n ≠ 0) : 0 < bitLen n := by unfold bitLen; rw [if_neg h]; omega
theorem bitLen_mul {n : Nat} (k : Nat) (h : n ≠ 0) : bitLen (n * 2 ^ k) = bitLen n + k := by
  have h1 : n * 2 ^ k / 2 ^ k = n := Nat.mul_div_cancel _ (Nat.two_pow_pos k)
  have := bitLen_shift (n * 2 ^ k) k (by rw [h1]; exact h)
  rw [h1] at this; omega
theorem div_zero_of {n k : Nat} (h : bitLen n ≤ k) : n / 2 ^ k = 0 := Nat.div_eq_of_lt (Nat.lt_of_lt_of_le (bitLen_spec n).1 (Nat.pow_le_pow_right (by decide) h))

/-- Shift down by k: k = 0 too. -/
theorem drop_words {N k : Nat} : num ((words N).drop k) = N / 4294967296 ^ k := by rw [num_drop (W32_words N), num_words]

theorem Rd.dropAt {w : World} {a : Option Addr} {l : List Nat} (h : Rd w a l) {k : Nat} (hk : k < l.length) :
    ∃ b off, a = some ⟨b, off, none⟩ ∧ Rd w (some ⟨b, off + k, none⟩) (l.drop k) := by
  obtain ⟨x, hx⟩ : ∃ x, l[k]? = some x := ⟨l[k], List.getElem?_eq_getElem hk⟩
  obtain ⟨b, off, h1, h2⟩ := h k x hx
  refine ⟨b, off, h1, fun i y hy => ?_⟩
  rw [List.getElem?_drop] at hy
  obtain ⟨b', off', h3, h4⟩ := h (k + i) y hy
  rw [h1] at h3; cases h3
  exact ⟨b, off + k, rfl, by rw [Nat.add_assoc]; exact h4⟩

set_option maxHeartbeats 1000000 in
set_option maxRecDepth 10000 in
theorem shift_nil (a : Option Addr) (c : Nat) (l : List Nat) (by_ : Int) (w : World) (hlen : l.length ≤ 17592186044416) (hc : l.length ≤ c) (hw : W32 l) (hr : Rd w a l) (h8 : (words (num l)).length ≤ 8192)
    (hz : num l = 0 ∨ by_ ≤ -(bitLen (num l) : Int)) (hb1 : -9223372036854775808 ≤ by_) :
    Calls Tryd.prog 58 #[.slice a l.length c, .int .i64 by_] w fun e w' => e = .returned (.tuple #[.slice none 0 0, .int .i64 0]) ∧ w = w' := by
  have C1 := Lib.hid (cut_any a c l w (by omega) hc hw hr)
  have hl1 := words_num_len hw
  have hR1 := hr.words hw
  obtain ⟨N, hN⟩ : ∃ N, N = num l := ⟨_, rfl⟩
  rw [← hN] at C1 hl1 hR1 hz h8
  clear hN hr hw
  by_cases h0 : (words N).length = 0
  · go_enter Tryd.func58, Tryd.ntmps58
    go_wp2_with fail
    refine C1.out.mono ?_; rintro e w' ⟨rfl, rfl⟩
    go_wp2
    go_ret2
    exact ⟨rfl, rfl⟩
  · have h1 : N ≠ 0 := fun h => h0 (by rw [h, words_zero]; rfl)
    have h2 := bitLen_pos h1
    have h3 := words_bitLen h8
    have hz2 : by_ ≤ -(bitLen N : Int) := by rcases hz with hz | hz; exact absurd hz h1; exact hz
    have L1 := Lib.hid (len_any a c (words N) w (by omega) (by omega) (W32_words N) hR1)
    rw [num_words] at L1
    have hb0 : (((words N).length : Int) == 0) = false := by simp; exact fun h => h0 (by rw [h]; rfl)
    clear h0 h1 hz
    go_enter Tryd.func58, Tryd.ntmps58
    go_wp2_with fail
    refine C1.out.mono ?_; rintro e w' ⟨rfl, rfl⟩
    go_wp2_with fail
    refine L1.out.mono ?_; rintro e w' ⟨rfl, rfl⟩
    go_wp2
    go_ret2
    exact ⟨rfl, rfl⟩

set_option maxHeartbeats 1000000 in
set_option maxRecDepth 10000 in
theorem shift_down (a : Option Addr) (c : Nat) (l : List Nat) (k : Nat) (w : World) (hlen : l.length ≤ 17592186044416) (hc : l.length ≤ c) (hc2 : c ≤ 9223372036854775807) (hw : W32 l) (hr : Rd w a l) (h8 : (words (num l)).length ≤ 8192) (hk0 : 0 < k)
    (hk : k < bitLen (num l)) :
    Calls Tryd.prog 58 #[.slice a l.length c, .int .i64 (-(k : Int))] w fun e w' => ∃ a', e = .returned (.tuple #[.slice a' (words (num l / 2 ^ k)).length (words (num l / 2 ^ k)).length, .int .i64 0]) ∧ Own w' 64 w.heap.size a' (words (num l / 2 ^ k)).length (words (num l / 2 ^ k)) ∧ Below w.heap.size w w' := by
  have C1 := Lib.hid (cut_any a c l w (by omega) hc hw hr)
  have hl1 := words_num_len hw
  have hR1 := hr.words hw
  obtain ⟨N, hN⟩ : ∃ N, N = num l := ⟨_, rfl⟩
  rw [← hN] at C1 hl1 hR1 hk h8 ⊢
  clear hN hr hw
  have h3 := words_bitLen h8
  have h4 := words_bitLen (Nat.le_refl (words N).length)
  have h0 : 0 < (words N).length := by omega
  have hkw : k / 32 < (words N).length := by omega
  obtain ⟨b, off, rfl, hR2⟩ := hR1.dropAt hkw
  have L1 := Lib.hid (len_any (some ⟨b, off, none⟩) c (words N) w (by omega) (by omega) (W32_words N) hR1)
  rw [num_words] at L1
  have D1 := down_any (some ⟨b, off + k / 32, none⟩) (c - k / 32) ((words N).drop (k / 32)) (k % 32) w (by simp; omega) (by omega) ((W32_words N).drop _) hR2
  have e1 : num ((words N).drop (k / 32)) / 2 ^ (k % 32) = N / 2 ^ k := by
    rw [drop_words, pow32, Nat.div_div_eq_div_mul, ← Nat.pow_add, show 32 * (k / 32) + k % 32 = k by omega]
  have e2 : ((words N).drop (k / 32)).length = (words N).length - k / 32 := by simp
  rw [e1, e2] at D1
  have hlt : N / 2 ^ k < 4294967296 ^ ((words N).length - k / 32) := by
    have := num_lt ((W32_words N).drop (k / 32))
    rw [e2] at this
    rw [← e1]
    exact Nat.lt_of_le_of_lt (Nat.div_le_self _ _) this
  have D2 := Lib.hid D1; clear D1 e1 e2
  have hb0 : (((words N).length : Int) == 0) = false := by simp; exact fun h => by rw [h] at h0; simp at h0
  have HLT := Lib.hid hlt; clear hlt
  have hk1 : k ≤ 262144 := by omega
  go_enter Tryd.func58, Tryd.ntmps58
  go_wp2_with fail
  refine C1.out.mono ?_; rintro e w' ⟨rfl, rfl⟩
  go_wp2_with fail
  refine L1.out.mono ?_; rintro e w' ⟨rfl, rfl⟩
  go_wp2_with fail
  refine D2.out.mono ?_; rintro e w1 ⟨rfl, hk2, hb⟩
  have N1 := norm_any (some ⟨w.heap.size, 0, none⟩) ((words N).length - k / 32) (digs ((words N).length - k / 32) (N / 2 ^ k)) w1 (by rw [digs_len]; omega) (W32_digs _ _) hk2.rd
  rw [digs_words HLT.out, digs_len] at N1
  have N2 := Lib.hid N1; clear N1
  go_wp2_with fail
  refine N2.out.mono ?_; rintro e w2 ⟨rfl, hk3, hb3⟩
  go_wp2
  go_ret2
  exact ⟨some ⟨w1.heap.size, 0, none⟩, rfl, Own.of hk3 hb.size, hb.trans (hb3.mono hb.size)⟩

set_option maxHeartbeats 1000000 in
set_option maxRecDepth 10000 in
theorem shift_long (a : Option Addr) (c : Nat) (l : List Nat) (k : Nat) (w : World) (hlen : l.length ≤ 17592186044416) (hc : l.length ≤ c) (hw : W32 l) (hr : Rd w a l) (h8 : (words (num l)).length ≤ 8192) (hz : num l ≠ 0) (hk : 262144 < k + bitLen (num l)) (hk2 : k ≤ 9223372036854775807) :
    Calls Tryd.prog 58 #[.slice a l.length c, .int .i64 (k : Int)] w fun e w' => e = .returned (.tuple #[.slice none 0 0, .int .i64 2]) ∧ w = w' := by
  have C1 := Lib.hid (cut_any a c l w (by omega) hc hw hr)
  have hl1 := words_num_len hw
  have hR1 := hr.words hw
  obtain ⟨N, hN⟩ : ∃ N, N = num l := ⟨_, rfl⟩
  rw [← hN] at C1 hl1 hR1 hz hk h8
  clear hN hr hw
  have h3 := words_bitLen h8
  have h4 := bitLen_pos hz
  have h0 : (words N).length ≠ 0 := fun h => hz (len_words_zero.1 h)
  have L1 := Lib.hid (len_any a c (words N) w (by omega) (by omega) (W32_words N) hR1)
  rw [num_words] at L1
  have hb0 : (((words N).length : Int) == 0) = false := by simp; exact fun h => h0 (by rw [h]; rfl)
  have HZ := Lib.hid hz; clear hz h0
  go_enter Tryd.func58, Tryd.ntmps58
  go_wp2_with fail
  refine C1.out.mono ?_; rintro e w' ⟨rfl, rfl⟩
  go_wp2_with fail
  refine L1.out.mono ?_; rintro e w' ⟨rfl, rfl⟩
  go_wp2_with fail
  refine L1.out.mono ?_; rintro e w' ⟨rfl, rfl⟩
  go_wp2
  go_ret2
  exact ⟨rfl, rfl⟩

theorem up_split {n k N : Nat} (hk : 0 < n) (hN : N < 4294967296 ^ n) : num (List.replicate (k / 32) 0 ++ digs (n + 1) (N * 2 ^ (k % 32))) = N * 2 ^ k := by
  have h1 : N * 2 ^ (k % 32) < 4294967296 ^ (n + 1) := by
    rw [Nat.pow_succ]
    have h2 : 2 ^ (k % 32) ≤ 4294967296 := by
      have := Nat.pow_le_pow_right (show 0 < 2 by decide) (show k % 32 ≤ 32 by omega); simpa using this
    exact Nat.mul_lt_mul_of_lt_of_le hN h2 (by decide)
  rw [num_append, num_rep, Nat.zero_add, List.length_replicate, num_digs_lt h1, pow32, Nat.mul_comm, Nat.mul_assoc, ← Nat.pow_add]
  congr 2; omega

set_option maxHeartbeats 1000000 in
set_option maxRecDepth 10000 in
theorem shift_up (a : Option Addr) (c : Nat) (l : List Nat) (k : Nat) (w : World) (hlen : l.length ≤ 17592186044416) (hc : l.length ≤ c) (hw : W32 l) (hr : Rd w a l) (hz : num l ≠ 0) (hk : k + bitLen (num l) ≤ 262144) :
    Calls Tryd.prog 58 #[.slice a l.length c, .int .i64 (k : Int)] w fun e w' => ∃ a', e = .returned (.tuple #[.slice a' (words (num l * 2 ^ k)).length (words (num l * 2 ^ k)).length, .int .i64 0]) ∧ Own w' 64 w.heap.size a' (words (num l * 2 ^ k)).length (words (num l * 2 ^ k)) ∧ Below w.heap.size w w' := by
  obtain ⟨i0, hi, hz0, hz1, hz2⟩ := info_parts infoW
  have C1 := Lib.hid (cut_any a c l w (by omega) hc hw hr)
  have hl1 := words_num_len hw
  have hR1 := hr.words hw
  obtain ⟨N, hN⟩ : ∃ N, N = num l := ⟨_, rfl⟩
  rw [← hN] at C1 hl1 hR1 hz hk ⊢
  clear hN hr hw
  have h8 : (words N).length ≤ 8192 := bitLen_words_le (by omega)
  have h4 := bitLen_pos hz
  have h0 : (words N).length ≠ 0 := fun h => hz (len_words_zero.1 h)
  have h0' : 0 < (words N).length := by omega
  have L1 := Lib.hid (len_any a c (words N) w (by omega) (by omega) (W32_words N) hR1)
  rw [num_words] at L1
  have hb0 : (((words N).length : Int) == 0) = false := by simp; exact fun h => h0 (by rw [h]; rfl)
  have HZ := Lib.hid hz; clear hz h0
  go_enter Tryd.func58, Tryd.ntmps58
  go_wp2_with fail
  refine C1.out.mono ?_; rintro e w' ⟨rfl, rfl⟩
  go_wp2_with fail
  refine L1.out.mono ?_; rintro e w' ⟨rfl, rfl⟩
  go_wp2_with fail
  refine L1.out.mono ?_; rintro e w' ⟨rfl, rfl⟩
  go_wp2_with (first | (at_make; refine wpList_make_cap _ rfl _ _ 24 rfl 64 i0 Tryd.underlying24 hi hz0 hz1 hz2 _ _ _ _ (k / 32) (k / 32 + (words N).length + 1) rfl rfl (by simp) (by simp) (by omega) (by omega) ?_; intro w1 hk1 hb1 hs1))
  have U1 := up_any a c (words N) (k % 32) w1 (by omega) (by omega) (W32_words N) (hR1.grow hb1)
  rw [num_words, hs1] at U1
  have HU := Lib.hid U1; clear U1
  refine HU.out.mono ?_; rintro e w2 ⟨rfl, hk2, hb2⟩
  have hk3 := hk1.grow (hb2.mono (by omega))
  rw [show k / 32 + (words N).length + 1 = k / 32 + ((words N).length + 1) from Nat.add_assoc _ _ _, ← List.replicate_append_replicate] at hk3
  go_wp2_with (first | (at_builtin; refine wpList_append_words rfl _ _ 24 rfl 64 i0 Tryd.underlying24 hi hz0 hz1 hz2 w.heap.size (some ⟨w.heap.size, 0, none⟩) (some ⟨w.heap.size + 1, 0, none⟩) (k / 32) (k / 32 + (words N).length + 1) ((words N).length + 1) ((words N).length + 1) (List.replicate (k / 32) 0) (digs ((words N).length + 1) (N * 2 ^ (k % 32))) rfl rfl (by simp) (by rw [digs_len]) (.inr ⟨w.heap.size, _, rfl, Nat.le_refl _, by simp; omega, by simp; omega, hk3⟩) hk2.rd (by intro h; cases h) (by omega) (by have := hb2.size; omega) ?_; intro a' c' w3 ho3 hg3 hn3))
  have hN2 : num (List.replicate (k / 32) 0 ++ digs ((words N).length + 1) (N * 2 ^ (k % 32))) = N * 2 ^ k := up_split h0' (by have := num_lt (W32_words N); rwa [num_words] at this)
  have hW2 : W32 (List.replicate (k / 32) 0 ++ digs ((words N).length + 1) (N * 2 ^ (k % 32))) := (W32.rep _).append (W32_digs _ _)
  have F1 := fits_any a' c' _ w3 (by simp [digs_len]; omega) ho3.cap hW2 ho3.rd (by rw [hN2]; exact bitLen_words_le (by rw [bitLen_mul k HZ.out]; omega))
  rw [hN2] at F1
  have hLL : (List.replicate (k / 32) 0 ++ digs ((words N).length + 1) (N * 2 ^ (k % 32))).length = k / 32 + ((words N).length + 1) := by simp [digs_len]
  rw [hLL] at F1
  have HF := Lib.hid F1; clear F1
  have HLL := Lib.hid hLL; clear hLL
  have HN2 := Lib.hid hN2; have HW2 := Lib.hid hW2; clear hN2 hW2
  refine HF.out.mono ?_; rintro e w' ⟨rfl, rfl⟩
  go_wp2
  go_ret2
  have hpre := words_num_prefix HW2.out
  have hle := words_num_len HW2.out
  rw [HN2.out] at hpre hle
  have h5 := ho3.cut hle
  rw [← hpre] at h5
  refine ⟨a', rfl, h5.shut, (hb1.trans (hb2.mono (by omega))).trans ?_⟩
  exact ⟨hg3.os, hg3.tape, hg3.output, hg3.size, fun j hj => hg3.block j (by have := hb2.size; omega) (by simp; omega)⟩
end Go.Proofs.YtmokomfneikipaaDoor
