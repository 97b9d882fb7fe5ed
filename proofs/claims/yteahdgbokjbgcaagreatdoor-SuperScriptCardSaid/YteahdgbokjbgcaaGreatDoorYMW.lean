/- Contracts of package wide's readers: cut, Norm, Cmp, Len, Low, Bit. Contracts of package wide's loops that make words: up, down, less, times. Contracts of package wide: Norm, Len, Low, Bit, Of, Small, both, fits. Contracts of package wide: Of, Small, both, fits, Sub, times, Mul, Shift. Contracts of package wide: Sub, Mul, Shift. No statement of the seat is proved here. -/
import Derived.Test.YteahdgbokjbgcaaGreatDoorProg
import Derived.Test.YteahdgbokjbgcaaGreatDoorYA
import Derived.Laws.CopyOwn
namespace Go.Proofs.YteahdgbokjbgcaaGreatDoor
open Go.RowKit
set_option linter.unusedVariables false
set_option linter.unusedSimpArgs false

set_option maxHeartbeats 400000 in
theorem cut_any (a : Option Addr) (c : Nat) (l : List Nat) (w : World) (hlen : l.length ≤ 70368744177664) (hc : l.length ≤ c) (hw : W32 l) (hr : Rd w a l) :
    Calls Tryz.prog 287 #[.slice a l.length c] w fun e w' => e = .returned (.slice a (words (num l)).length c) ∧ w = w' := by
  go_enter Tryz.func287, Tryz.ntmps287
  go_wp2
  go_loop [0] (fun s => ∃ k : Nat, k ≤ l.length ∧ s = .slice a k c ∧ num (l.take k) = num l) (fun s => match s with | .slice _ k _ => k | _ => 0)
  case atStart => exact ⟨l.length, Nat.le_refl _, rfl, by simp⟩
  case round =>
    obtain ⟨k, hk, rfl, ht⟩ := hrel
    have HT := Lib.hid ht; clear ht
    have HW := Lib.hid hw; clear hw
    cases k with
    | zero =>
      go_wp2
      go_ret
      refine ⟨?_, rfl⟩
      rw [← HT.out]; simp [num, words_zero]
    | succ k =>
      obtain ⟨b, off, x, rfl, hcell, hx, HX⟩ := hr.at HW.out (show k < l.length by omega)
      clear hr
      go_wp2
      · have h : ((x : Int) == 0) = true := by assumption
        have h0 : x = 0 := by simpa using h
        exact ⟨⟨k, by omega, rfl, by rw [← HT.out, num_take_zero HX.out h0]⟩, by simp⟩
      · have h : ((x : Int) == 0) = false := by assumption
        have h0 : x ≠ 0 := by simpa using h
        go_ret
        refine ⟨?_, rfl⟩
        rw [← HT.out, words_take_pos HW.out HX.out h0, List.length_take, Nat.min_eq_left hk]; rfl

end Go.Proofs.YteahdgbokjbgcaaGreatDoor
namespace Go.Proofs.YteahdgbokjbgcaaGreatDoor
open Go.RowKit
set_option linter.unusedVariables false
set_option linter.unusedSimpArgs false

theorem infoW : (Tryz.prog.info? 118).map (fun i => (i.zero, i.size, i.bytes)) = some (some (.int .u32 0), 1, 4) := by kernel_rfl

/-- a word of a number, and of the number shifted to the right -/
theorem down_word {l : List Nat} (hw : W32 l) {k x y by_ : Nat} (hb : by_ < 32) (hx : l[k]? = some x) (hy : l.getD (k + 1) 0 = y) :
    num l / 2 ^ by_ / 4294967296 ^ k % 4294967296 = (x + 4294967296 * y) / 2 ^ by_ % 4294967296 := by
  have hk := (List.getElem?_eq_some_iff.1 hx).1
  have e1 : num l / 4294967296 ^ k = x + 4294967296 * (y + 4294967296 * num (l.drop (k + 2))) := by
    rw [← num_drop hw]
    have h1 : l.drop k = x :: l.drop (k + 1) := by
      rw [List.drop_eq_getElem_cons hk]; congr 1; exact (List.getElem?_eq_some_iff.1 hx).2
    have h2 : num (l.drop (k + 1)) = y + 4294967296 * num (l.drop (k + 2)) := by
      by_cases hk1 : k + 1 < l.length
      · have hyy : l[k + 1]? = some y := by rw [List.getD_eq_getElem?_getD, List.getElem?_eq_getElem hk1] at hy; rw [List.getElem?_eq_getElem hk1]; simpa using hy
        have : l.drop (k + 1) = y :: l.drop (k + 2) := by
          rw [List.drop_eq_getElem_cons hk1]; congr 1; exact (List.getElem?_eq_some_iff.1 hyy).2
        rw [this]; rfl
      · have : y = 0 := by rw [← hy, List.getD_eq_getElem?_getD, List.getElem?_eq_none (by omega)]; rfl
        rw [List.drop_of_length_le (by omega), List.drop_of_length_le (by omega), this]; rfl
    rw [h1, num, h2]
  rw [Nat.div_div_eq_div_mul, Nat.mul_comm, ← Nat.div_div_eq_div_mul, e1]
  obtain ⟨d, hd⟩ : ∃ d, 4294967296 * 4294967296 = 2 ^ by_ * (4294967296 * d) := by
    refine ⟨2 ^ (32 - by_), ?_⟩
    rw [Nat.mul_comm 4294967296 (2 ^ _), ← Nat.mul_assoc, ← Nat.pow_add, show by_ + (32 - by_) = 32 by omega]
  have e2 : x + 4294967296 * (y + 4294967296 * num (l.drop (k + 2))) = (x + 4294967296 * y) + 2 ^ by_ * (4294967296 * (d * num (l.drop (k + 2)))) := by
    rw [← Nat.mul_assoc (4294967296 : Nat) d, ← Nat.mul_assoc, ← hd, Nat.mul_add]; rw [Nat.mul_assoc]; omega
  rw [e2, Nat.add_mul_div_left _ _ (Nat.two_pow_pos _), Nat.add_mul_mod_self_left]

set_option maxRecDepth 10000 in
set_option maxHeartbeats 400000 in
theorem down_any (a : Option Addr) (c : Nat) (l : List Nat) (by_ : Nat) (w : World) (hlen : l.length ≤ 70368744177664) (hb : by_ < 32) (hw : W32 l) (hr : Rd w a l) :
    Calls Tryz.prog 298 #[.slice a l.length c, .int .i64 (by_ : Int)] w fun e w' => e = .returned (.slice (some ⟨w.heap.size, 0, none⟩) l.length l.length) ∧ Blk w' 118 w.heap.size (digs l.length (num l / 2 ^ by_)) ∧ Below w.heap.size w w' := by
  obtain ⟨i0, hi, hz0, hz1, hz2⟩ := info_parts infoW
  obtain ⟨L, hL⟩ : ∃ L, L = digs l.length (num l / 2 ^ by_) := ⟨_, rfl⟩
  have hLl : L.length = l.length := by rw [hL, digs_len]
  have hLw : W32 L := by rw [hL]; exact W32_digs _ _
  rw [← hL]
  have HL := Lib.hid hL; clear hL
  have HLl := Lib.hid hLl; clear hLl
  have HLw := Lib.hid hLw; clear hLw
  go_enter Tryz.func298, Tryz.ntmps298
  go_wp2_with (first | (at_make; refine wpList_make_blk _ rfl _ _ 44 rfl 118 i0 Tryz.underlying44 hi hz0 hz1 hz2 _ _ _ _ l.length rfl rfl rfl rfl (by omega) ?_; intro w1 hk1 hb1 hs1))
  go_loopw [14] (fun s wr => ∃ k : Nat, k ≤ l.length ∧ s = .int .i64 k ∧ Blk wr 118 w.heap.size (fillTo L k) ∧ Below w.heap.size w wr) (fun s _ => l.length - (intOf s).toNat)
  case atStart => exact ⟨0, Nat.zero_le _, rfl, by rw [fillTo_zero, HLl.out]; exact hk1, hb1⟩
  case round =>
    obtain ⟨k, hk, rfl, hkr, hbr⟩ := hrel
    have HW := Lib.hid hw; clear hw
    by_cases hlt : k < l.length
    · obtain ⟨b, off, x, rfl, hcell, hx, HX⟩ := (hr.grow hbr).at HW.out hlt
      obtain ⟨y, hy, hy2, HY⟩ := hkr.at (W32_fillTo HLw.out k) (show k < _ by rw [fillTo_len _ _ (by rw [HLl.out]; exact hk), HLl.out]; exact hlt)
      have hf1 := hkr.frozen k
      by_cases hlt1 : k + 1 < l.length
      · obtain ⟨b', off', x', hbb, hcell', hx', HX'⟩ := (hr.grow hbr).at HW.out hlt1
        simp only [Option.some.injEq, Addr.mk.injEq, and_true] at hbb
        obtain ⟨rfl, rfl⟩ := hbb
        have HR := Lib.hid hr; clear hr
        have hd : L[k]? = some (((x + 4294967296 * x') / 2 ^ by_ % 4294967296)) := by
          rw [HL.out, digs_get _ hlt, down_word (y := x') HW.out hb HX.out (by rw [List.getD_eq_getElem?_getD, HX'.out]; rfl)]
        have HD := Lib.hid hd; clear hd
        go_wp2
        have e1 : bits BinOp.or IntKind.u64 (x : Int) (↑x' * 4294967296) = ((x + 4294967296 * x' : Nat) : Int) := by
          have := bits_or_u64_nat x (x' * 4294967296) (by omega) (by omega)
          rw [or_add (k := 32) (by omega) (by omega)] at this
          rw [show ((x' : Int) * 4294967296) = ((x' * 4294967296 : Nat) : Int) from by simp, this, Nat.mul_comm]
        go_roundw
        case rel => exact ⟨k + 1, by omega, by go_num, hkr.fill rfl HD.out (by rw [e1]; simp), hbr.setCell (Nat.le_refl _) _⟩
        case measure => simp [intOf]; omega
      · have HR := Lib.hid hr; clear hr
        have hd : L[k]? = some (((x + 4294967296 * 0) / 2 ^ by_ % 4294967296)) := by
          rw [HL.out, digs_get _ hlt, down_word (y := 0) HW.out hb HX.out (by rw [List.getD_eq_getElem?_getD, List.getElem?_eq_none (by omega)]; rfl)]
        have HD := Lib.hid hd; clear hd
        go_wp2
        go_roundw
        case rel => exact ⟨k + 1, by omega, by go_num, hkr.fill rfl HD.out (by simp), hbr.setCell (Nat.le_refl _) _⟩
        case measure => simp [intOf]; omega
    · go_wp2
      go_ret
      obtain rfl : k = l.length := by omega
      exact ⟨rfl, by rw [← HLl.out, fillTo_all] at hkr; exact hkr, hbr⟩

theorem rep_succ {n k : Nat} (h : k < n) : List.replicate (n - k) 0 = 0 :: List.replicate (n - (k + 1)) 0 := by
  obtain ⟨d, hd⟩ : ∃ d, n - k = d + 1 := ⟨n - k - 1, by omega⟩
  rw [hd, List.replicate_succ]; congr 2; omega

end Go.Proofs.YteahdgbokjbgcaaGreatDoor
namespace Go.Proofs.YteahdgbokjbgcaaGreatDoor
open Go.RowKit
set_option linter.unusedVariables false
set_option linter.unusedSimpArgs false

theorem infoS : (Tryz.prog.info? 118).map (·.size) = some 1 := by kernel_rfl

set_option maxHeartbeats 1000000 in
set_option maxRecDepth 10000 in
theorem norm_any (a : Option Addr) (c : Nat) (l : List Nat) (w : World) (hlen : l.length ≤ 70368744177664) (hw : W32 l) (hr : Rd w a l) :
    Calls Tryz.prog 292 #[.slice a l.length c] w fun e w' => e = .returned (.slice (some ⟨w.heap.size, 0, none⟩) (words (num l)).length (words (num l)).length) ∧ Blk w' 118 w.heap.size (words (num l)) ∧ Below w.heap.size w w' := by
  obtain ⟨i0, hi, hz0, hz1, hz2⟩ := info_parts infoW
  go_enter Tryz.func292, Tryz.ntmps292
  go_wp2
  go_loop [3] (fun s => ∃ k : Nat, k ≤ l.length ∧ s = .int .i64 k ∧ num (l.take k) = num l) (fun s => (intOf s).toNat)
  case atStart => exact ⟨l.length, Nat.le_refl _, rfl, by simp⟩
  case round =>
    obtain ⟨k, hk, rfl, ht⟩ := hrel
    have HT := Lib.hid ht; clear ht
    have HW := Lib.hid hw; clear hw
    cases k with
    | zero =>
      have h0 : words (num l) = [] := by rw [← HT.out]; simp [num, words_zero]
      have H0 := Lib.hid h0; clear h0
      have e0 : ((0 : Nat) : Int) = 0 := rfl
      rw [e0]
      go_wp2_with (first
        | (at_make; refine wpList_make_blk _ rfl _ _ 44 rfl 118 i0 Tryz.underlying44 hi hz0 hz1 hz2 _ _ _ _ 0 rfl rfl rfl rfl (by omega) ?_; intro w1 hk1 hb1 hs1)
        | (with_reducible refine wpList_copy_blk (o := ⟨some 23, _, _, _, _, _⟩) rfl _ _ 44 44 rfl 118 Tryz.underlying44 infoS w.heap.size 0 0 l.length c a l (List.replicate 0 0) rfl rfl rfl rfl hk1 (hr.grow hb1) w.heap.size w hb1 (Nat.le_refl _) ?_; intro w2 hk2 hb2 hg2))
      go_ret
      rw [H0.out]
      exact ⟨rfl, by simpa using hk2, hb2⟩
    | succ k =>
      obtain ⟨b, off, x, rfl, hcell, hx, HX⟩ := hr.at HW.out (show k < l.length by omega)
      have HR := Lib.hid hr; clear hr
      by_cases h0 : x = 0
      · have h : ((x : Int) == 0) = true := by simpa using h0
        have H0 := Lib.hid h0; clear h0
        go_wp2
        go_round
        case rel => exact ⟨k, by omega, rfl, by rw [← HT.out, num_take_zero HX.out H0.out]⟩
        case measure => simp [intOf]
      · have h : ((x : Int) == 0) = false := by simpa using h0
        have hL : words (num l) = l.take (k + 1) := by rw [← HT.out, words_take_pos HW.out HX.out h0]
        have hLl : (l.take (k + 1)).length = k + 1 := by rw [List.length_take]; omega
        have HL := Lib.hid hL; have HLl := Lib.hid hLl; have H0 := Lib.hid h0; clear hL hLl h0
        have e0 : ((k + 1 : Nat) : Int) = (k : Int) + 1 := by omega
        rw [e0]
        go_wp2_with (first
          | (at_make; refine wpList_make_blk _ rfl _ _ 44 rfl 118 i0 Tryz.underlying44 hi hz0 hz1 hz2 _ _ _ _ (k + 1) rfl rfl e0.symm e0.symm (by omega) ?_; intro w1 hk1 hb1 hs1)
          | (with_reducible refine wpList_copy_blk (o := ⟨some 23, _, _, _, _, _⟩) rfl _ _ 44 44 rfl 118 Tryz.underlying44 infoS w.heap.size (k + 1) (k + 1) l.length c (some ⟨b, off, none⟩) l (List.replicate (k + 1) 0) rfl rfl (by simp) rfl hk1 (HR.out.grow hb1) w.heap.size w hb1 (Nat.le_refl _) ?_; intro w2 hk2 hb2 hg2))
        go_ret
        rw [HL.out, HLl.out]
        refine ⟨rfl, ?_, hb2⟩
        rw [List.length_replicate, List.drop_of_length_le (by simp; omega), List.append_nil] at hk2
        exact hk2

set_option maxHeartbeats 1000000 in
set_option maxRecDepth 10000 in
theorem len_any (a : Option Addr) (c : Nat) (l : List Nat) (w : World) (hlen : l.length ≤ 70368744177664) (hc : l.length ≤ c) (hw : W32 l) (hr : Rd w a l) :
    Calls Tryz.prog 233 #[.slice a l.length c] w fun e w' => e = .returned (.int .i64 (bitLen (num l))) ∧ w = w' := by
  have hl1 := words_num_len hw
  have hR1 := hr.words hw
  have C1 := Lib.hid (cut_any a c l w hlen hc hw hr)
  obtain ⟨N, hN⟩ : ∃ N, N = num l := ⟨_, rfl⟩
  rw [← hN] at C1 hl1 hR1 ⊢
  clear hN hr hw
  go_enter Tryz.func233, Tryz.ntmps233
  go_wp2_with fail
  refine C1.out.mono ?_; rintro e w' ⟨rfl, rfl⟩
  by_cases h0 : (words N).length = 0
  · have h1 : N = 0 := len_words_zero.1 h0
    have H1 := Lib.hid h1; clear h1
    go_wp2
    go_ret
    rw [H1.out]
    exact ⟨rfl, rfl⟩
  · obtain ⟨k, hk⟩ : ∃ k, (words N).length = k + 1 := ⟨(words N).length - 1, by omega⟩
    obtain ⟨b, off, x, rfl, hcell, hx, HX⟩ := hR1.at (W32_words N) (show k < _ by omega)
    have HB := Lib.hid (bitLen_words hk HX.out)
    clear hR1
    have hb8 : bitLen x ≤ 32 := by
      have := bitLen_spec x
      by_cases hx0 : x = 0
      · subst hx0; exact Nat.zero_le _
      · unfold bitLen; rw [if_neg hx0]; have := (Nat.log2_lt hx0).2 (show x < 2 ^ 32 from hx); omega
    have hkb : k < 70368744177664 := by omega
    rw [hk]
    have HK := Lib.hid hk; clear hk h0
    go_wp2_with (go_at_call 288; refine (len32_any x hx _).mono ?_; rintro e w' ⟨rfl, rfl⟩)
    go_ret
    rw [HB.out]
    exact ⟨ret1i (by omega), rfl⟩

theorem ctz_low {x : Nat} (h0 : x ≠ 0) (hx : x < 4294967296) : Lib.ctz 32 x = low x := by
  unfold Lib.ctz
  rw [if_neg h0]
  obtain ⟨m, h1, _⟩ := Lib.ctzFrom_spec 32 x (by omega) hx
  conv => rhs; rw [h1]
  exact (low_eq (by omega)).symm
theorem low_le {x k : Nat} (hx : x < 2 ^ k) (h0 : x ≠ 0) : low x < k := by
  obtain ⟨m, h1, h2⟩ := low_spec h0
  apply Nat.lt_of_not_le; intro hle
  have := Nat.pow_le_pow_right (show 0 < 2 by decide) hle
  have := Nat.mul_le_mul_left (2 ^ low x) (show 1 ≤ m by omega)
  omega
theorem low_num {l : List Nat} (hw : W32 l) {k x : Nat} (hx : l[k]? = some x) (h0 : x ≠ 0) (hz : num (l.take k) = 0) : low (num l) = 32 * k + low x := by
  rw [num_split hx, hz, Nat.zero_add, pow32, low_mul _ (by omega)]
  rw [show 4294967296 = 2 ^ 32 from rfl, low_low h0 (hw.get hx)]

set_option maxHeartbeats 1000000 in
set_option maxRecDepth 10000 in
theorem low_any (a : Option Addr) (c : Nat) (l : List Nat) (w : World) (hlen : l.length ≤ 70368744177664) (hw : W32 l) (hr : Rd w a l) (hT : Tab w) :
    Calls Tryz.prog 293 #[.slice a l.length c] w fun e w' => e = .returned (.int .i64 (low (num l))) ∧ w = w' := by
  have HTab := Lib.hid hT; clear hT
  go_enter Tryz.func293, Tryz.ntmps293
  go_wp2
  go_loop [7] (fun s => ∃ k : Nat, k ≤ l.length ∧ s = .int .i64 k ∧ Hid (num (l.take k) = 0)) (fun s => l.length - (intOf s).toNat)
  case atStart => exact ⟨0, Nat.zero_le _, rfl, rfl⟩
  case round =>
    obtain ⟨k, hk, rfl, HZ⟩ := hrel
    have HW := Lib.hid hw; clear hw
    by_cases hlt : k < l.length
    · obtain ⟨b, off, x, rfl, hcell, hx, HX⟩ := hr.at HW.out hlt
      clear hr
      by_cases h0 : x = 0
      · have hb : ((x : Int) != 0) = false := by simpa using h0
        have hb2 : ((x : Int) == 0) = true := by simpa using h0
        have H0 := Lib.hid h0; clear h0
        go_wp2
        go_round
        case rel => exact ⟨k + 1, by omega, by go_num, by unfold Hid; rw [num_take_zero HX.out H0.out]; exact HZ.out⟩
        case measure => simp [intOf]; omega
      · have hb : ((x : Int) != 0) = true := by simpa using h0
        have hb2 : ((x : Int) == 0) = false := by simpa using h0
        have h3 := Lib.lowest_bit 32 x h0 hx
        have h4 := h3.2
        have H0 := Lib.hid h0; clear h0 h3
        go_wp2_with (go_at_call 317; refine (tz32_any x hx H0.out _ HTab.out).mono ?_; rintro e w' ⟨rfl, rfl⟩)
        go_ret
        refine ⟨ret1i ?_, rfl⟩
        rw [low_num HW.out HX.out H0.out HZ.out, ctz_low H0.out hx]; omega
    · go_wp2
      go_ret
      refine ⟨?_, rfl⟩
      have := HZ.out
      rw [List.take_of_length_le (by omega)] at this
      rw [this, low_zero]; rfl

set_option maxHeartbeats 1000000 in
set_option maxRecDepth 10000 in
theorem bit_any (a : Option Addr) (c : Nat) (l : List Nat) (j : Nat) (w : World) (hlen : l.length ≤ 70368744177664) (hj : j ≤ 9223372036854775807) (hw : W32 l) (hr : Rd w a l) :
    Calls Tryz.prog 305 #[.slice a l.length c, .int .i64 (j : Int)] w fun e w' => e = .returned (.bool ((num l).testBit j)) ∧ w = w' := by
  by_cases hlt : j / 32 < l.length
  · obtain ⟨b, off, x, rfl, hcell, hx, HX⟩ := hr.at hw hlt
    have HB := Lib.hid (num_testBit hw HX.out)
    clear hr hw
    go_enter Tryz.func305, Tryz.ntmps305
    go_wp2
    go_ret
    refine ⟨congrArg (fun b => Ending.returned (Value.bool b)) ?_, rfl⟩
    rw [HB.out]
    show (bits BinOp.and IntKind.u32 ((x : Int) / 2 ^ (j % 32)) 1 == 1) = _
    have hq : x / 2 ^ (j % 32) < 4294967296 := Nat.lt_of_le_of_lt (Nat.div_le_self _ _) hx
    have h1 := bits_and_u32_nat (x / 2 ^ (j % 32)) 1 hq (by decide)
    rw [show ((x : Int) / 2 ^ (j % 32)) = ((x / 2 ^ (j % 32) : Nat) : Int) from by simp, show (1 : Int) = ((1 : Nat) : Int) from rfl, h1, Nat.and_one_is_mod, Nat.testBit_eq_decide_div_mod_eq]
    by_cases hh : x / 2 ^ (j % 32) % 2 = 1
    · simp [hh]
    · have : x / 2 ^ (j % 32) % 2 = 0 := by omega
      rw [this]; rfl
  · have hz : (num l).testBit j = false := by
      apply Nat.testBit_lt_two_pow
      refine Nat.lt_of_lt_of_le (num_lt hw) ?_
      rw [pow32]
      exact Nat.pow_le_pow_right (by decide) (by omega)
    have HZ := Lib.hid hz; clear hz hw hr
    go_enter Tryz.func305, Tryz.ntmps305
    go_wp2
    go_ret
    exact ⟨by rw [HZ.out]; rfl, rfl⟩
end Go.Proofs.YteahdgbokjbgcaaGreatDoor
namespace Go.Proofs.YteahdgbokjbgcaaGreatDoor
open Go.RowKit
set_option linter.unusedVariables false
set_option linter.unusedSimpArgs false

theorem num_two (n : Nat) : num [n % 4294967296, n / 4294967296] = n := by simp only [num]; omega

set_option maxHeartbeats 1000000 in
set_option maxRecDepth 10000 in
theorem small_any (a : Option Addr) (c : Nat) (l : List Nat) (w : World) (hlen : l.length ≤ 70368744177664) (hc : l.length ≤ c) (hw : W32 l) (hr : Rd w a l) (hN : num l < 18446744073709551616) :
    Calls Tryz.prog 303 #[.slice a l.length c] w fun e w' => e = .returned (.tuple #[.int .u64 (num l : Int), .int .i64 0]) ∧ w = w' := by
  have C1 := Lib.hid (cut_any a c l w hlen hc hw hr)
  have hl1 := words_num_len hw
  have hR1 := hr.words hw
  have hl2 : (words (num l)).length ≤ 2 := words_len_le (by simpa using hN)
  obtain ⟨N, hN⟩ : ∃ N, N = num l := ⟨_, rfl⟩
  rw [← hN] at C1 hl1 hR1 hl2 ⊢
  clear hN hr hw
  have hn := num_words N
  have hw := W32_words N
  generalize words N = W at *
  match W, hl2, hn, hw, C1, hl1, hR1 with
  | [], _, hn, _, C1, _, _ =>
    have HN := Lib.hid hn; clear hn
    go_enter Tryz.func303, Tryz.ntmps303
    go_wp2_with fail
    refine C1.out.mono ?_; rintro e w' ⟨rfl, rfl⟩
    go_wp2
    go_ret2
    refine ⟨ret2i ?_ rfl, rfl⟩
    rw [← HN.out]; rfl
  | [x], _, hn, hw, C1, _, hR1 =>
    have HN := Lib.hid hn; clear hn
    obtain ⟨b, off, x', rfl, hcell, hx, HX⟩ := hR1.at hw (show 0 < 1 by decide)
    have : x' = x := by have := HX.out; simpa using this.symm
    subst this
    rw [Nat.add_zero] at hcell
    have hor : bits BinOp.or IntKind.u64 0 (x' : Int) = (x' : Int) := by
      have := bits_or_u64_nat 0 x' (by decide) (by omega); rw [Nat.zero_or] at this; exact this
    clear hR1 hw
    go_enter Tryz.func303, Tryz.ntmps303
    go_wp2_with fail
    refine C1.out.mono ?_; rintro e w' ⟨rfl, rfl⟩
    go_wp2
    go_ret2
    refine ⟨ret2i ?_ rfl, rfl⟩
    rw [← HN.out]; simp [num]
  | [x, y], _, hn, hw, C1, _, hR1 =>
    have HN := Lib.hid hn; clear hn
    obtain ⟨b, off, x', rfl, hcell, hx, HX⟩ := hR1.at hw (show 0 < 2 by decide)
    obtain ⟨b', off', y', hbb, hcell', hy, HY⟩ := hR1.at hw (show 1 < 2 by decide)
    simp only [Option.some.injEq, Addr.mk.injEq, and_true] at hbb
    obtain ⟨rfl, rfl⟩ := hbb
    have : x' = x := by have := HX.out; simpa using this.symm
    subst this
    have : y' = y := by have := HY.out; simpa using this.symm
    subst this
    rw [Nat.add_zero] at hcell
    have hor : bits BinOp.or IntKind.u64 ((y' : Int) * 4294967296) (x' : Int) = ((x' + 4294967296 * y' : Nat) : Int) := by
      have := bits_or_u64_nat (y' * 4294967296) x' (by omega) (by omega)
      rw [or_add' (k := 32) (by omega) (by omega)] at this
      rw [show ((y' : Int) * 4294967296) = ((y' * 4294967296 : Nat) : Int) from by simp, this]; congr 1; omega
    have HOR := Lib.hid hor; clear hor
    clear hR1 hw
    go_enter Tryz.func303, Tryz.ntmps303
    go_wp2_with fail
    refine C1.out.mono ?_; rintro e w' ⟨rfl, rfl⟩
    go_wp2
    go_ret2
    refine ⟨ret2i ?_ rfl, rfl⟩
    rw [← HN.out, HOR.out]; simp [num]
  | _ :: _ :: _ :: _, h, _, _, _, _, _ => simp at h

theorem times_step {p q : List Nat} {s S x y i j over A : Nat} (hp : p.length = i + j) (hA : num p + over * 4294967296 ^ (i + j) + 4294967296 ^ (i + j) * (s + 4294967296 * num q) = S + x * 4294967296 ^ i * A) :
    num (p ++ [(x * y + s + over) % 4294967296]) + (x * y + s + over) / 4294967296 * 4294967296 ^ (i + (j + 1)) + 4294967296 ^ (i + (j + 1)) * num q = S + x * 4294967296 ^ i * (A + 4294967296 ^ j * y) := by
  have e1 := Nat.div_add_mod (x * y + s + over) 4294967296
  rw [num_append, hp]
  simp only [num]
  generalize (x * y + s + over) % 4294967296 = r at *
  generalize (x * y + s + over) / 4294967296 = o at *
  have e2 : 4294967296 ^ (i + (j + 1)) = 4294967296 ^ (i + j) * 4294967296 := by rw [← Nat.add_assoc, Nat.pow_succ]
  have e3 : 4294967296 ^ i * 4294967296 ^ j = 4294967296 ^ (i + j) := (Nat.pow_add _ _ _).symm
  rw [e2]
  have e4 : x * 4294967296 ^ i * (A + 4294967296 ^ j * y) = x * 4294967296 ^ i * A + x * y * 4294967296 ^ (i + j) := by
    rw [← e3]; generalize 4294967296 ^ i = u; generalize 4294967296 ^ j = v; grind
  rw [e4, ← Nat.add_assoc, ← hA]
  generalize 4294967296 ^ (i + j) = P at *
  have e5 : P * (4294967296 * o + r) = P * (x * y + s + over) := by rw [e1]
  generalize x * y = xy at *
  grind

theorem mul_w {x y s o : Nat} (hx : x < 4294967296) (hy : y < 4294967296) (hs : s < 4294967296) (ho : o < 4294967296) : x * y + s + o < 18446744073709551616 ∧ (x * y + s + o) / 4294967296 < 4294967296 ∧ x * y < 18446744073709551616 := by
  have := Nat.mul_le_mul (show x ≤ 4294967295 by omega) (show y ≤ 4294967295 by omega)
  have h1 : x * y + s + o < 18446744073709551616 := by omega
  refine ⟨h1, Nat.div_lt_of_lt_mul (by simpa using h1), by omega⟩

theorem mul_wrap {x y s o : Nat} (hx : x < 4294967296) (hy : y < 4294967296) (hs : s < 4294967296) (ho : o < 4294967296) :
    IntKind.u64.wrap (IntKind.u64.wrap (IntKind.u64.wrap ((x : Int) * (y : Int)) + (s : Int)) + (o : Int)) = ((x * y + s + o : Nat) : Int) := by
  obtain ⟨h1, h2, h3⟩ := mul_w hx hy hs ho
  rw [show ((x : Int) * (y : Int)) = ((x * y : Nat) : Int) from by simp, wrap_u64_nat _ h3, show ((x * y : Nat) : Int) + (s : Int) = ((x * y + s : Nat) : Int) from by simp, wrap_u64_nat _ (by omega),
    show ((x * y + s : Nat) : Int) + (o : Int) = ((x * y + s + o : Nat) : Int) from by simp, wrap_u64_nat _ h1]

end Go.Proofs.YteahdgbokjbgcaaGreatDoor
namespace Go.Proofs.YteahdgbokjbgcaaGreatDoor
open Go.RowKit
set_option linter.unusedVariables false
set_option linter.unusedSimpArgs false

theorem digs_words {k n : Nat} (h : n < 4294967296 ^ k) : words (num (digs k n)) = words n := by rw [num_digs_lt h]

theorem bitLen_lt {n k : Nat} (h : n < 2 ^ k) : bitLen n ≤ k := by
  unfold bitLen
  split
  · omega
  · rename_i h0; have := (Nat.log2_lt h0).2 h; omega
theorem bitLen_words_le {n k : Nat} (h : bitLen n ≤ 32 * k) : (words n).length ≤ k := by
  apply words_len_le
  have := (bitLen_spec n).1
  rw [pow32]
  exact Nat.lt_of_lt_of_le this (Nat.pow_le_pow_right (by decide) h)
theorem words_bitLen {n k : Nat} (h : (words n).length ≤ k) : bitLen n ≤ 32 * k := by
  apply bitLen_lt
  rw [← pow32]
  have := num_lt (W32_words n); rw [num_words] at this
  exact Nat.lt_of_lt_of_le this (Nat.pow_le_pow_right (by decide) h)
theorem bitLen_pos {n : Nat} (h : n ≠ 0) : 0 < bitLen n := by unfold bitLen; rw [if_neg h]; omega
theorem bitLen_mul {n : Nat} (k : Nat) (h : n ≠ 0) : bitLen (n * 2 ^ k) = bitLen n + k := by
  have h1 : n * 2 ^ k / 2 ^ k = n := Nat.mul_div_cancel _ (Nat.two_pow_pos k)
  have := bitLen_shift (n * 2 ^ k) k (by rw [h1]; exact h)
  rw [h1] at this; omega
/-- Shift down by k: k = 0 too. -/
theorem drop_words {N k : Nat} : num ((words N).drop k) = N / 4294967296 ^ k := by rw [num_drop (W32_words N), num_words]

theorem Rd.dropAt {w : World} {a : Option Addr} {l : List Nat} (h : Rd w a l) {k : Nat} (hk : k < l.length) :
    ∃ b off, a = some ⟨b, off, none⟩ ∧ Rd w (some ⟨b, off + k, none⟩) (l.drop k) := by
  obtain ⟨x, hx⟩ : ∃ x, l[k]? = some x := ⟨l[k], List.getElem?_eq_getElem hk⟩
  obtain ⟨b, off, h1, h2⟩ := h k x hx
  refine ⟨b, off, h1, fun i y hy => ?_⟩
  rw [List.getElem?_drop] at hy
  obtain ⟨b', off', h3, h4⟩ := h (k + i) y hy
  rw [h1] at h3; cases h3
  exact ⟨b, off + k, rfl, by rw [Nat.add_assoc]; exact h4⟩

set_option maxHeartbeats 1000000 in
set_option maxRecDepth 10000 in
theorem shift_nil (a : Option Addr) (c : Nat) (l : List Nat) (by_ : Int) (w : World) (hlen : l.length ≤ 17592186044416) (hc : l.length ≤ c) (hw : W32 l) (hr : Rd w a l) (h8 : (words (num l)).length ≤ 8192)
    (hz : num l = 0 ∨ by_ ≤ -(bitLen (num l) : Int)) (hb1 : -9223372036854775808 ≤ by_) :
    Calls Tryz.prog 251 #[.slice a l.length c, .int .i64 by_] w fun e w' => e = .returned (.tuple #[.slice none 0 0, .int .i64 0]) ∧ w = w' := by
  have C1 := Lib.hid (cut_any a c l w (by omega) hc hw hr)
  have hl1 := words_num_len hw
  have hR1 := hr.words hw
  obtain ⟨N, hN⟩ : ∃ N, N = num l := ⟨_, rfl⟩
  rw [← hN] at C1 hl1 hR1 hz h8
  clear hN hr hw
  by_cases h0 : (words N).length = 0
  · go_enter Tryz.func251, Tryz.ntmps251
    go_wp2_with fail
    refine C1.out.mono ?_; rintro e w' ⟨rfl, rfl⟩
    go_wp2
    go_ret2
    exact ⟨rfl, rfl⟩
  · have h1 : N ≠ 0 := fun h => h0 (by rw [h, words_zero]; rfl)
    have h2 := bitLen_pos h1
    have h3 := words_bitLen h8
    have hz2 : by_ ≤ -(bitLen N : Int) := by rcases hz with hz | hz; exact absurd hz h1; exact hz
    have L1 := Lib.hid (len_any a c (words N) w (by omega) (by omega) (W32_words N) hR1)
    rw [num_words] at L1
    have hb0 : (((words N).length : Int) == 0) = false := by simp; exact fun h => h0 (by rw [h]; rfl)
    clear h0 h1 hz
    go_enter Tryz.func251, Tryz.ntmps251
    go_wp2_with fail
    refine C1.out.mono ?_; rintro e w' ⟨rfl, rfl⟩
    go_wp2_with fail
    refine L1.out.mono ?_; rintro e w' ⟨rfl, rfl⟩
    go_wp2
    go_ret2
    exact ⟨rfl, rfl⟩

end Go.Proofs.YteahdgbokjbgcaaGreatDoor
