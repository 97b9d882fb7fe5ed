/- Contracts of package wide: Norm, Len, Low, Bit, Of, Small, both, fits. No statement of the seat is proved here. -/
import Derived.Test.YtmokomfneikipaaDoorProg
import Derived.Test.YtmokomfneikipaaDoorWa
import Derived.Test.YtmokomfneikipaaDoorWb
namespace Go.Proofs.YtmokomfneikipaaDoor
open Go.RowKit
set_option linter.unusedVariables false
set_option linter.unusedSimpArgs false

theorem infoS : (Tryd.prog.info? 64).map (·.size) = some 1 := by kernel_rfl

set_option maxHeartbeats 1000000 in
set_option maxRecDepth 10000 in
theorem norm_any (a : Option Addr) (c : Nat) (l : List Nat) (w : World) (hlen : l.length ≤ 70368744177664) (hw : W32 l) (hr : Rd w a l) :
    Calls Tryd.prog 82 #[.slice a l.length c] w fun e w' => e = .returned (.slice (some ⟨w.heap.size, 0, none⟩) (words (num l)).length (words (num l)).length) ∧ Blk w' 64 w.heap.size (words (num l)) ∧ Below w.heap.size w w' := by
  obtain ⟨i0, hi, hz0, hz1, hz2⟩ := info_parts infoW
  go_enter Tryd.func82, Tryd.ntmps82
  go_wp2
  go_loop [3] (fun s => ∃ k : Nat, k ≤ l.length ∧ s = .int .i64 k ∧ num (l.take k) = num l) (fun s => (intOf s).toNat)
  case atStart => exact ⟨l.length, Nat.le_refl _, rfl, by simp⟩
  case round =>
    obtain ⟨k, hk, rfl, ht⟩ := hrel
    have HT := Lib.hid ht; clear ht
    have HW := Lib.hid hw; clear hw
    cases k with
    | zero =>
      have h0 : words (num l) = [] := by rw [← HT.out]; simp [num, words_zero]
      have H0 := Lib.hid h0; clear h0
      have e0 : ((0 : Nat) : Int) = 0 := rfl
      rw [e0]
      go_wp2_with (first
        | (at_make; refine wpList_make_blk _ rfl _ _ 24 rfl 64 i0 Tryd.underlying24 hi hz0 hz1 hz2 _ _ _ _ 0 rfl rfl rfl rfl (by omega) ?_; intro w1 hk1 hb1 hs1)
        | (with_reducible refine wpList_copy_blk (o := ⟨some 23, _, _, _, _, _⟩) rfl _ _ 24 24 rfl 64 Tryd.underlying24 infoS w.heap.size 0 0 l.length c a l (List.replicate 0 0) rfl rfl rfl rfl hk1 (hr.grow hb1) w.heap.size w hb1 (Nat.le_refl _) ?_; intro w2 hk2 hb2 hg2))
      go_ret
      rw [H0.out]
      exact ⟨rfl, by simpa using hk2, hb2⟩
    | succ k =>
      obtain ⟨b, off, x, rfl, hcell, hx, HX⟩ := hr.at HW.out (show k < l.length by omega)
      have HR := Lib.hid hr; clear hr
      by_cases h0 : x = 0
      · have h : ((x : Int) == 0) = true := by simpa using h0
        have H0 := Lib.hid h0; clear h0
        go_wp2
        go_round
        case rel => exact ⟨k, by omega, rfl, by rw [← HT.out, num_take_zero HX.out H0.out]⟩
        case measure => simp [intOf]
      · have h : ((x : Int) == 0) = false := by simpa using h0
        have hL : words (num l) = l.take (k + 1) := by rw [← HT.out, words_take_pos HW.out HX.out h0]
        have hLl : (l.take (k + 1)).length = k + 1 := by rw [List.length_take]; omega
        have HL := Lib.hid hL; have HLl := Lib.hid hLl; have H0 := Lib.hid h0; clear hL hLl h0
        have e0 : ((k + 1 : Nat) : Int) = (k : Int) + 1 := by omega
        rw [e0]
        go_wp2_with (first
          | (at_make; refine wpList_make_blk _ rfl _ _ 24 rfl 64 i0 Tryd.underlying24 hi hz0 hz1 hz2 _ _ _ _ (k + 1) rfl rfl e0.symm e0.symm (by omega) ?_; intro w1 hk1 hb1 hs1)
          | (with_reducible refine wpList_copy_blk (o := ⟨some 23, _, _, _, _, _⟩) rfl _ _ 24 24 rfl 64 Tryd.underlying24 infoS w.heap.size (k + 1) (k + 1) l.length c (some ⟨b, off, none⟩) l (List.replicate (k + 1) 0) rfl rfl (by simp) rfl hk1 (HR.out.grow hb1) w.heap.size w hb1 (Nat.le_refl _) ?_; intro w2 hk2 hb2 hg2))
        go_ret
        rw [HL.out, HLl.out]
        refine ⟨rfl, ?_, hb2⟩
        rw [List.length_replicate, List.drop_of_length_le (by simp; omega), List.append_nil] at hk2
        exact hk2

set_option maxHeartbeats 1000000 in
set_option maxRecDepth 10000 in
theorem len_any (a : Option Addr) (c : Nat) (l : List Nat) (w : World) (hlen : l.length ≤ 70368744177664) (hc : l.length ≤ c) (hw : W32 l) (hr : Rd w a l) :
    Calls Tryd.prog 77 #[.slice a l.length c] w fun e w' => e = .returned (.int .i64 (bitLen (num l))) ∧ w = w' := by
  have hl1 := words_num_len hw
  have hR1 := hr.words hw
  have C1 := Lib.hid (cut_any a c l w hlen hc hw hr)
  obtain ⟨N, hN⟩ : ∃ N, N = num l := ⟨_, rfl⟩
  rw [← hN] at C1 hl1 hR1 ⊢
  clear hN hr hw
  go_enter Tryd.func77, Tryd.ntmps77
  go_wp2_with fail
  refine C1.out.mono ?_; rintro e w' ⟨rfl, rfl⟩
  by_cases h0 : (words N).length = 0
  · have h1 : N = 0 := len_words_zero.1 h0
    have H1 := Lib.hid h1; clear h1
    go_wp2
    go_ret
    rw [H1.out]
    exact ⟨rfl, rfl⟩
  · obtain ⟨k, hk⟩ : ∃ k, (words N).length = k + 1 := ⟨(words N).length - 1, by omega⟩
    obtain ⟨b, off, x, rfl, hcell, hx, HX⟩ := hR1.at (W32_words N) (show k < _ by omega)
    have HB := Lib.hid (bitLen_words hk HX.out)
    clear hR1
    have hb8 : bitLen x ≤ 32 := by
      have := bitLen_spec x
      by_cases hx0 : x = 0
      · subst hx0; exact Nat.zero_le _
      · unfold bitLen; rw [if_neg hx0]; have := (Nat.log2_lt hx0).2 (show x < 2 ^ 32 from hx); omega
    have hkb : k < 70368744177664 := by omega
    rw [hk]
    have HK := Lib.hid hk; clear hk h0
    go_wp2_with (go_at_call 106; refine (len32_any x hx _).mono ?_; rintro e w' ⟨rfl, rfl⟩)
    go_ret
    rw [HB.out]
    exact ⟨ret1i (by omega), rfl⟩

theorem ctz_low {x : Nat} (h0 : x ≠ 0) (hx : x < 4294967296) : Lib.ctz 32 x = low x := by
  unfold Lib.ctz
  rw [if_neg h0]
  obtain ⟨m, h1, _⟩ := Lib.ctzFrom_spec 32 x (by omega) hx
  conv => rhs; rw [h1]
  exact (low_eq (by omega)).symm
theorem low_le {x k : Nat} (hx : x < 2 ^ k) (h0 : x ≠ 0) : low x < k := by
  obtain ⟨m, h1, h2⟩ := low_spec h0
  apply Nat.lt_of_not_le; intro hle
  have := Nat.pow_le_pow_right (show 0 < 2 by decide) hle
  have := Nat.mul_le_mul_left (2 ^ low x) (show 1 ≤ m by omega)
  omega
theorem low_num {l : List Nat} (hw : W32 l) {k x : Nat} (hx : l[k]? = some x) (h0 : x ≠ 0) (hz : num (l.take k) = 0) : low (num l) = 32 * k + low x := by
  rw [num_split hx, hz, Nat.zero_add, pow32, low_mul _ (by omega)]
  rw [show 4294967296 = 2 ^ 32 from rfl, low_low h0 (hw.get hx)]

set_option maxHeartbeats 1000000 in
set_option maxRecDepth 10000 in
theorem low_any (a : Option Addr) (c : Nat) (l : List Nat) (w : World) (hlen : l.length ≤ 70368744177664) (hw : W32 l) (hr : Rd w a l) (hT : Tab w) :
    Calls Tryd.prog 83 #[.slice a l.length c] w fun e w' => e = .returned (.int .i64 (low (num l))) ∧ w = w' := by
  have HTab := Lib.hid hT; clear hT
  go_enter Tryd.func83, Tryd.ntmps83
  go_wp2
  go_loop [7] (fun s => ∃ k : Nat, k ≤ l.length ∧ s = .int .i64 k ∧ Hid (num (l.take k) = 0)) (fun s => l.length - (intOf s).toNat)
  case atStart => exact ⟨0, Nat.zero_le _, rfl, rfl⟩
  case round =>
    obtain ⟨k, hk, rfl, HZ⟩ := hrel
    have HW := Lib.hid hw; clear hw
    by_cases hlt : k < l.length
    · obtain ⟨b, off, x, rfl, hcell, hx, HX⟩ := hr.at HW.out hlt
      clear hr
      by_cases h0 : x = 0
      · have hb : ((x : Int) != 0) = false := by simpa using h0
        have hb2 : ((x : Int) == 0) = true := by simpa using h0
        have H0 := Lib.hid h0; clear h0
        go_wp2
        go_round
        case rel => exact ⟨k + 1, by omega, by go_num, by unfold Hid; rw [num_take_zero HX.out H0.out]; exact HZ.out⟩
        case measure => simp [intOf]; omega
      · have hb : ((x : Int) != 0) = true := by simpa using h0
        have hb2 : ((x : Int) == 0) = false := by simpa using h0
        have h3 := Lib.lowest_bit 32 x h0 hx
        have h4 := h3.2
        have H0 := Lib.hid h0; clear h0 h3
        go_wp2_with (go_at_call 107; refine (tz32_any x hx H0.out _ HTab.out).mono ?_; rintro e w' ⟨rfl, rfl⟩)
        go_ret
        refine ⟨ret1i ?_, rfl⟩
        rw [low_num HW.out HX.out H0.out HZ.out, ctz_low H0.out hx]; omega
    · go_wp2
      go_ret
      refine ⟨?_, rfl⟩
      have := HZ.out
      rw [List.take_of_length_le (by omega)] at this
      rw [this, low_zero]; rfl

set_option maxHeartbeats 1000000 in
set_option maxRecDepth 10000 in
theorem bit_any (a : Option Addr) (c : Nat) (l : List Nat) (j : Nat) (w : World) (hlen : l.length ≤ 70368744177664) (hj : j ≤ 9223372036854775807) (hw : W32 l) (hr : Rd w a l) :
    Calls Tryd.prog 101 #[.slice a l.length c, .int .i64 (j : Int)] w fun e w' => e = .returned (.bool ((num l).testBit j)) ∧ w = w' := by
  by_cases hlt : j / 32 < l.length
  · obtain ⟨b, off, x, rfl, hcell, hx, HX⟩ := hr.at hw hlt
    have HB := Lib.hid (num_testBit hw HX.out)
    clear hr hw
    go_enter Tryd.func101, Tryd.ntmps101
    go_wp2
    go_ret
    refine ⟨congrArg (fun b => Ending.returned (Value.bool b)) ?_, rfl⟩
    rw [HB.out]
    show (bits BinOp.and IntKind.u32 ((x : Int) / 2 ^ (j % 32)) 1 == 1) = _
    have hq : x / 2 ^ (j % 32) < 4294967296 := Nat.lt_of_le_of_lt (Nat.div_le_self _ _) hx
    have h1 := bits_and_u32_nat (x / 2 ^ (j % 32)) 1 hq (by decide)
    rw [show ((x : Int) / 2 ^ (j % 32)) = ((x / 2 ^ (j % 32) : Nat) : Int) from by simp, show (1 : Int) = ((1 : Nat) : Int) from rfl, h1, Nat.and_one_is_mod, Nat.testBit_eq_decide_div_mod_eq]
    by_cases hh : x / 2 ^ (j % 32) % 2 = 1
    · simp [hh]
    · have : x / 2 ^ (j % 32) % 2 = 0 := by omega
      rw [this]; rfl
  · have hz : (num l).testBit j = false := by
      apply Nat.testBit_lt_two_pow
      refine Nat.lt_of_lt_of_le (num_lt hw) ?_
      rw [pow32]
      exact Nat.pow_le_pow_right (by decide) (by omega)
    have HZ := Lib.hid hz; clear hz hw hr
    go_enter Tryd.func101, Tryd.ntmps101
    go_wp2
    go_ret
    exact ⟨by rw [HZ.out]; rfl, rfl⟩
end Go.Proofs.YtmokomfneikipaaDoor
