/- Contracts of package wide's readers: cut, Norm, Cmp, Len, Low, Bit. Contracts of package wide's loops that make words: up, down, less, times. Contracts of package wide: Norm, Len, Low, Bit, Of, Small, both, fits. Contracts of package wide: Of, Small, both, fits, Sub, times, Mul, Shift. Contracts of package wide: Sub, Mul, Shift. No statement of the seat is proved here. -/
import Derived.Test.YteahdgbokjbgcaaGreatDoorProg
import Derived.Test.YteahdgbokjbgcaaGreatDoorZBit
import Derived.Laws.CopyOwn
namespace Go.Proofs.YteahdgbokjbgcaaGreatDoor
open Go.RowKit
set_option linter.unusedVariables false
set_option linter.unusedSimpArgs false

set_option maxHeartbeats 400000 in
theorem cut_any (a : Option Addr) (c : Nat) (l : List Nat) (w : World) (hlen : l.length ≤ 70368744177664) (hc : l.length ≤ c) (hw : W32 l) (hr : Rd w a l) :
    Calls Tryz.prog 287 #[.slice a l.length c] w fun e w' => e = .returned (.slice a (words (num l)).length c) ∧ w = w' := by
  go_enter Tryz.func287, Tryz.ntmps287
  go_wp2
  go_loop [0] (fun s => ∃ k : Nat, k ≤ l.length ∧ s = .slice a k c ∧ num (l.take k) = num l) (fun s => match s with | .slice _ k _ => k | _ => 0)
  case atStart => exact ⟨l.length, Nat.le_refl _, rfl, by simp⟩
  case round =>
    obtain ⟨k, hk, rfl, ht⟩ := hrel
    have HT := Lib.hid ht; clear ht
    have HW := Lib.hid hw; clear hw
    cases k with
    | zero =>
      go_wp2
      go_ret
      refine ⟨?_, rfl⟩
      rw [← HT.out]; simp [num, words_zero]
    | succ k =>
      obtain ⟨b, off, x, rfl, hcell, hx, HX⟩ := hr.at HW.out (show k < l.length by omega)
      clear hr
      go_wp2
      · have h : ((x : Int) == 0) = true := by assumption
        have h0 : x = 0 := by simpa using h
        exact ⟨⟨k, by omega, rfl, by rw [← HT.out, num_take_zero HX.out h0]⟩, by simp⟩
      · have h : ((x : Int) == 0) = false := by assumption
        have h0 : x ≠ 0 := by simpa using h
        go_ret
        refine ⟨?_, rfl⟩
        rw [← HT.out, words_take_pos HW.out HX.out h0, List.length_take, Nat.min_eq_left hk]; rfl

set_option maxHeartbeats 1000000 in
set_option maxRecDepth 10000 in
theorem cmp_any (a b : Option Addr) (c d : Nat) (l m : List Nat) (w : World) (hlen : l.length ≤ 70368744177664) (hc : l.length ≤ c) (hw : W32 l) (hr : Rd w a l) (hlen2 : m.length ≤ 70368744177664) (hd : m.length ≤ d) (hw2 : W32 m) (hr2 : Rd w b m) :
    Calls Tryz.prog 253 #[.slice a l.length c, .slice b m.length d] w fun e w' => e = .returned (.int .i64 (cmpN (num l) (num m))) ∧ ∃ n, w' = w.drewN n := by
  have hl1 := words_num_len hw
  have hl2 := words_num_len hw2
  have hR1 := Lib.hid (hr.words hw)
  have hR2 := Lib.hid (hr2.words hw2)
  obtain ⟨N, hN⟩ : ∃ N, N = num l := ⟨_, rfl⟩
  obtain ⟨M, hM⟩ : ∃ M, M = num m := ⟨_, rfl⟩
  have c1 := cut_any a c l w hlen hc hw hr
  have c2 := cut_any b d m w hlen2 hd hw2 hr2
  rw [← hN] at c1 hl1 hR1
  rw [← hM] at c2 hl2 hR2
  rw [← hN, ← hM]
  have C1 := Lib.hid c1; clear c1
  have C2 := Lib.hid c2; clear c2
  clear hr hr2 hw hw2 hN hM
  go_enter Tryz.func253, Tryz.ntmps253
  go_wp2_with fail
  refine C1.out.mono ?_; rintro e w' ⟨rfl, rfl⟩
  go_wp2_with fail
  refine C2.out.mono ?_; rintro e w' ⟨rfl, rfl⟩
  rcases Nat.lt_trichotomy (words N).length (words M).length with h | h | h
  · go_wp2
    go_ret
    exact ⟨by rw [cmpN_lt (words_len_mono h)]; rfl, 0, rfl⟩
  · have h1 : ¬ (words N).length < (words M).length := by omega
    have h2 : ¬ (words M).length < (words N).length := by omega
    have H := Lib.hid h; clear h
    go_wp2
    go_loopw [5] (fun s wr => ∃ (k n : Nat), wr = w.drewN n ∧ k ≤ (words N).length ∧ s = .int .i64 ((k : Int) - 1) ∧ Hid ((words N).drop k = (words M).drop k)) (fun s _ => (intOf s + 1).toNat)
    case atStart => exact ⟨(words N).length, 0, rfl, Nat.le_refl _, rfl, by unfold Hid; rw [List.drop_length, H.out, List.drop_length]⟩
    case round =>
      obtain ⟨k, n, rfl, hk, rfl, HD⟩ := hrel
      cases k with
      | zero =>
        have e0 : ((0 : Nat) : Int) - 1 = -1 := rfl
        rw [e0]
        go_wp2
        go_ret
        refine ⟨?_, n, rfl⟩
        have : N = M := words_inj (by simpa [Hid] using HD.out)
        rw [cmpN_eq this]; rfl
      | succ k =>
        have e0 : ((k + 1 : Nat) : Int) - 1 = (k : Int) := by omega
        rw [e0]
        obtain ⟨ba, offa, x, ha, hca, hx, HX⟩ := hR1.out.at (W32_words N) (show k < _ by omega)
        obtain ⟨bb, offb, y, hb, hcb, hy, HY⟩ := hR2.out.at (W32_words M) (show k < _ by have := H.out; omega)
        subst ha hb
        have hk2 : k < (words M).length := by have := H.out; omega
        have HR1 := Lib.hid hR1; clear hR1
        have HR2 := Lib.hid hR2; clear hR2
        rcases Nat.lt_trichotomy x y with hxy | hxy | hxy
        · go_wp2
          go_quiet (fail)
          go_wp2
          go_ret
          refine ⟨?_, _, by simp only [World.drewN_drewN]; rfl⟩
          have := num_digit_lt (W32_words N) HX.out HY.out HD.out hxy
          rw [num_words, num_words] at this
          rw [cmpN_lt this]; rfl
        · subst hxy
          go_wp2
          go_quiet (fail)
          go_wp2
          go_quiet (fail)
          go_wp2
          go_roundw
          case rel => exact ⟨k, _, rfl, by omega, rfl, by unfold Hid; rw [drop_eq_cons HX.out, drop_eq_cons HY.out, HD.out]⟩
          case measure => simp [intOf]
        · have hyx : ¬ x < y := by omega
          go_wp2
          go_quiet (fail)
          go_wp2
          go_quiet (fail)
          go_wp2
          go_ret
          refine ⟨?_, _, by simp only [World.drewN_drewN]; rfl⟩
          have := num_digit_lt (W32_words M) HY.out HX.out HD.out.symm hxy
          rw [num_words, num_words] at this
          rw [cmpN_gt this]; rfl
  · have h1 : ¬ (words N).length < (words M).length := by omega
    go_wp2
    go_ret
    exact ⟨by rw [cmpN_gt (words_len_mono h)]; rfl, 0, rfl⟩
end Go.Proofs.YteahdgbokjbgcaaGreatDoor
namespace Go.Proofs.YteahdgbokjbgcaaGreatDoor
open Go.RowKit
set_option linter.unusedVariables false
set_option linter.unusedSimpArgs false

theorem infoW : (Tryz.prog.info? 118).map (fun i => (i.zero, i.size, i.bytes)) = some (some (.int .u32 0), 1, 4) := by kernel_rfl

/-- a word of a number, and of the number shifted to the right -/
theorem down_word {l : List Nat} (hw : W32 l) {k x y by_ : Nat} (hb : by_ < 32) (hx : l[k]? = some x) (hy : l.getD (k + 1) 0 = y) :
    num l / 2 ^ by_ / 4294967296 ^ k % 4294967296 = (x + 4294967296 * y) / 2 ^ by_ % 4294967296 := by
  have hk := (List.getElem?_eq_some_iff.1 hx).1
  have e1 : num l / 4294967296 ^ k = x + 4294967296 * (y + 4294967296 * num (l.drop (k + 2))) := by
    rw [← num_drop hw]
    have h1 : l.drop k = x :: l.drop (k + 1) := by
      rw [List.drop_eq_getElem_cons hk]; congr 1; exact (List.getElem?_eq_some_iff.1 hx).2
    have h2 : num (l.drop (k + 1)) = y + 4294967296 * num (l.drop (k + 2)) := by
      by_cases hk1 : k + 1 < l.length
      · have hyy : l[k + 1]? = some y := by rw [List.getD_eq_getElem?_getD, List.getElem?_eq_getElem hk1] at hy; rw [List.getElem?_eq_getElem hk1]; simpa using hy
        have : l.drop (k + 1) = y :: l.drop (k + 2) := by
          rw [List.drop_eq_getElem_cons hk1]; congr 1; exact (List.getElem?_eq_some_iff.1 hyy).2
        rw [this]; rfl
      · have : y = 0 := by rw [← hy, List.getD_eq_getElem?_getD, List.getElem?_eq_none (by omega)]; rfl
        rw [List.drop_of_length_le (by omega), List.drop_of_length_le (by omega), this]; rfl
    rw [h1, num, h2]
  rw [Nat.div_div_eq_div_mul, Nat.mul_comm, ← Nat.div_div_eq_div_mul, e1]
  obtain ⟨d, hd⟩ : ∃ d, 4294967296 * 4294967296 = 2 ^ by_ * (4294967296 * d) := by
    refine ⟨2 ^ (32 - by_), ?_⟩
    rw [Nat.mul_comm 4294967296 (2 ^ _), ← Nat.mul_assoc, ← Nat.pow_add, show by_ + (32 - by_) = 32 by omega]
  have e2 : x + 4294967296 * (y + 4294967296 * num (l.drop (k + 2))) = (x + 4294967296 * y) + 2 ^ by_ * (4294967296 * (d * num (l.drop (k + 2)))) := by
    rw [← Nat.mul_assoc (4294967296 : Nat) d, ← Nat.mul_assoc, ← hd, Nat.mul_add]; rw [Nat.mul_assoc]; omega
  rw [e2, Nat.add_mul_div_left _ _ (Nat.two_pow_pos _), Nat.add_mul_mod_self_left]

set_option maxRecDepth 10000 in
set_option maxHeartbeats 400000 in
theorem down_any (a : Option Addr) (c : Nat) (l : List Nat) (by_ : Nat) (w : World) (hlen : l.length ≤ 70368744177664) (hb : by_ < 32) (hw : W32 l) (hr : Rd w a l) :
    Calls Tryz.prog 298 #[.slice a l.length c, .int .i64 (by_ : Int)] w fun e w' => e = .returned (.slice (some ⟨w.heap.size, 0, none⟩) l.length l.length) ∧ Blk w' 118 w.heap.size (digs l.length (num l / 2 ^ by_)) ∧ Below w.heap.size w w' := by
  obtain ⟨i0, hi, hz0, hz1, hz2⟩ := info_parts infoW
  obtain ⟨L, hL⟩ : ∃ L, L = digs l.length (num l / 2 ^ by_) := ⟨_, rfl⟩
  have hLl : L.length = l.length := by rw [hL, digs_len]
  have hLw : W32 L := by rw [hL]; exact W32_digs _ _
  rw [← hL]
  have HL := Lib.hid hL; clear hL
  have HLl := Lib.hid hLl; clear hLl
  have HLw := Lib.hid hLw; clear hLw
  go_enter Tryz.func298, Tryz.ntmps298
  go_wp2_with (first | (at_make; refine wpList_make_blk _ rfl _ _ 44 rfl 118 i0 Tryz.underlying44 hi hz0 hz1 hz2 _ _ _ _ l.length rfl rfl rfl rfl (by omega) ?_; intro w1 hk1 hb1 hs1))
  go_loopw [14] (fun s wr => ∃ k : Nat, k ≤ l.length ∧ s = .int .i64 k ∧ Blk wr 118 w.heap.size (fillTo L k) ∧ Below w.heap.size w wr) (fun s _ => l.length - (intOf s).toNat)
  case atStart => exact ⟨0, Nat.zero_le _, rfl, by rw [fillTo_zero, HLl.out]; exact hk1, hb1⟩
  case round =>
    obtain ⟨k, hk, rfl, hkr, hbr⟩ := hrel
    have HW := Lib.hid hw; clear hw
    by_cases hlt : k < l.length
    · obtain ⟨b, off, x, rfl, hcell, hx, HX⟩ := (hr.grow hbr).at HW.out hlt
      obtain ⟨y, hy, hy2, HY⟩ := hkr.at (W32_fillTo HLw.out k) (show k < _ by rw [fillTo_len _ _ (by rw [HLl.out]; exact hk), HLl.out]; exact hlt)
      have hf1 := hkr.frozen k
      by_cases hlt1 : k + 1 < l.length
      · obtain ⟨b', off', x', hbb, hcell', hx', HX'⟩ := (hr.grow hbr).at HW.out hlt1
        simp only [Option.some.injEq, Addr.mk.injEq, and_true] at hbb
        obtain ⟨rfl, rfl⟩ := hbb
        have HR := Lib.hid hr; clear hr
        have hd : L[k]? = some (((x + 4294967296 * x') / 2 ^ by_ % 4294967296)) := by
          rw [HL.out, digs_get _ hlt, down_word (y := x') HW.out hb HX.out (by rw [List.getD_eq_getElem?_getD, HX'.out]; rfl)]
        have HD := Lib.hid hd; clear hd
        go_wp2
        have e1 : bits BinOp.or IntKind.u64 (x : Int) (↑x' * 4294967296) = ((x + 4294967296 * x' : Nat) : Int) := by
          have := bits_or_u64_nat x (x' * 4294967296) (by omega) (by omega)
          rw [or_add (k := 32) (by omega) (by omega)] at this
          rw [show ((x' : Int) * 4294967296) = ((x' * 4294967296 : Nat) : Int) from by simp, this, Nat.mul_comm]
        go_roundw
        case rel => exact ⟨k + 1, by omega, by go_num, hkr.fill rfl HD.out (by rw [e1]; simp), hbr.setCell (Nat.le_refl _) _⟩
        case measure => simp [intOf]; omega
      · have HR := Lib.hid hr; clear hr
        have hd : L[k]? = some (((x + 4294967296 * 0) / 2 ^ by_ % 4294967296)) := by
          rw [HL.out, digs_get _ hlt, down_word (y := 0) HW.out hb HX.out (by rw [List.getD_eq_getElem?_getD, List.getElem?_eq_none (by omega)]; rfl)]
        have HD := Lib.hid hd; clear hd
        go_wp2
        go_roundw
        case rel => exact ⟨k + 1, by omega, by go_num, hkr.fill rfl HD.out (by simp), hbr.setCell (Nat.le_refl _) _⟩
        case measure => simp [intOf]; omega
    · go_wp2
      go_ret
      obtain rfl : k = l.length := by omega
      exact ⟨rfl, by rw [← HLl.out, fillTo_all] at hkr; exact hkr, hbr⟩

theorem rep_succ {n k : Nat} (h : k < n) : List.replicate (n - k) 0 = 0 :: List.replicate (n - (k + 1)) 0 := by
  obtain ⟨d, hd⟩ : ∃ d, n - k = d + 1 := ⟨n - k - 1, by omega⟩
  rw [hd, List.replicate_succ]; congr 2; omega

theorem up_step {m : List Nat} {h x by_ S k : Nat} (hb : by_ < 32) (hx : x < 4294967296) (hm : W32 m) (hk : m.length = k) (hh : h < 2 ^ by_) (hS : num m + 4294967296 ^ k * h = S * 2 ^ by_) :
    h ||| (x * 2 ^ by_ % 4294967296) = h + x * 2 ^ by_ % 4294967296 ∧ h + x * 2 ^ by_ % 4294967296 < 4294967296 ∧ x * 2 ^ by_ / 4294967296 < 2 ^ by_ ∧
      num (m ++ [h + x * 2 ^ by_ % 4294967296]) + 4294967296 ^ (k + 1) * (x * 2 ^ by_ / 4294967296) = (S + 4294967296 ^ k * x) * 2 ^ by_ := by
  obtain ⟨d, hd⟩ : ∃ d, 4294967296 = 2 ^ by_ * d := ⟨2 ^ (32 - by_), by rw [← Nat.pow_add, show by_ + (32 - by_) = 32 by omega]⟩
  have hp := Nat.two_pow_pos by_
  have e0 : x * 2 ^ by_ % 4294967296 = 2 ^ by_ * (x % d) := by rw [hd, Nat.mul_comm x, Nat.mul_mod_mul_left]
  have hdp : 0 < d := by rcases Nat.eq_zero_or_pos d with h0 | h0; · rw [h0] at hd; omega
                         · exact h0
  have hxd : x % d + 1 ≤ d := Nat.mod_lt _ hdp
  have hle := Nat.mul_le_mul_left (2 ^ by_) hxd
  rw [Nat.mul_add, ← hd, Nat.mul_one] at hle
  refine ⟨or_add hh (by rw [e0]; exact Nat.mul_mod_right _ _), by rw [e0]; omega, ?_, ?_⟩
  · apply Nat.div_lt_of_lt_mul
    exact Nat.mul_lt_mul_of_pos_right hx hp
  · rw [num_append, hk]
    have e1 := Nat.div_add_mod (x * 2 ^ by_) 4294967296
    generalize x * 2 ^ by_ % 4294967296 = r at *
    generalize x * 2 ^ by_ / 4294967296 = q at *
    rw [Nat.pow_succ, Nat.add_mul, ← hS]
    have e2 : 4294967296 ^ k * x * 2 ^ by_ = 4294967296 ^ k * (4294967296 * q + r) := by rw [e1, Nat.mul_assoc]
    rw [e2]
    simp only [num]
    generalize 4294967296 ^ k = P at *
    grind

set_option maxRecDepth 10000 in
set_option maxHeartbeats 400000 in
theorem up_any (a : Option Addr) (c : Nat) (l : List Nat) (by_ : Nat) (w : World) (hlen : l.length ≤ 35184372088832) (hb : by_ < 32) (hw : W32 l) (hr : Rd w a l) :
    Calls Tryz.prog 299 #[.slice a l.length c, .int .i64 (by_ : Int)] w fun e w' => e = .returned (.slice (some ⟨w.heap.size, 0, none⟩) (l.length + 1) (l.length + 1)) ∧ Blk w' 118 w.heap.size (digs (l.length + 1) (num l * 2 ^ by_)) ∧ Below w.heap.size w w' := by
  obtain ⟨i0, hi, hz0, hz1, hz2⟩ := info_parts infoW
  go_enter Tryz.func299, Tryz.ntmps299
  go_wp2_with (first | (at_make; refine wpList_make_blk _ rfl _ _ 44 rfl 118 i0 Tryz.underlying44 hi hz0 hz1 hz2 _ _ _ _ (l.length + 1) rfl rfl (by simp) (by simp) (by omega) ?_; intro w1 hk1 hb1 hs1))
  go_loopw [15] (fun s wr => ∃ (k : Nat) (m : List Nat) (h : Nat), k ≤ l.length ∧ s = .int .i64 k ∧ m.length = k ∧ W32 m ∧ h < 2 ^ by_ ∧ Hid (num m + 4294967296 ^ k * h = num (l.take k) * 2 ^ by_) ∧ Blk wr 118 w.heap.size (m ++ h :: List.replicate (l.length - k) 0) ∧ Below w.heap.size w wr) (fun s _ => l.length - (intOf s).toNat)
  case atStart => exact ⟨0, [], 0, Nat.zero_le _, rfl, rfl, W32.nil, Nat.two_pow_pos _, by simp [Hid, num], by simpa [List.replicate_succ] using hk1, hb1⟩
  case round =>
    obtain ⟨k, m, h, hk, rfl, hmk, hm, hh, HS, hkr, hbr⟩ := hrel
    have HW := Lib.hid hw; clear hw
    have Hm := Lib.hid hm; clear hm
    have Hmk := Lib.hid hmk; clear hmk
    have h32 : h < 4294967296 := Nat.lt_of_lt_of_le hh (by have := Nat.pow_le_pow_right (show 0 < 2 by decide) (show by_ ≤ 32 by omega); simpa using this)
    by_cases hlt : k < l.length
    · obtain ⟨b, off, x, rfl, hcell, hx, HX⟩ := (hr.grow hbr).at HW.out hlt
      have HR := Lib.hid hr; clear hr
      rw [rep_succ hlt] at hkr
      have hc1 := hkr.midCell Hmk.out.symm
      have hc2 : wr.cell? ⟨w.heap.size, k + 1, none⟩ = some (.int .u32 ((0 : Nat) : Int)) := by
        have := hkr; rw [show ∀ z, m ++ h :: 0 :: z = (m ++ [h]) ++ 0 :: z from fun z => by simp] at this
        exact this.midCell (by simp [Hmk.out])
      have hf1 := hkr.frozen k
      have hf2 := hkr.frozen (k + 1)
      have Hst := Lib.hid (up_step hb hx Hm.out Hmk.out hh HS.out)
      have Hhh := Lib.hid hh; clear hh
      go_wp2
      obtain ⟨s1, s2, s3, s4⟩ := Hst.out
      have hxb : x * 2 ^ by_ < 18446744073709551616 := by
        have := Nat.mul_lt_mul_of_lt_of_le hx (Nat.pow_le_pow_right (show 0 < 2 by decide) (show by_ ≤ 32 by omega)) (by decide)
        simpa using this
      have e0 : IntKind.u64.wrap ((x : Int) * 2 ^ by_) = ((x * 2 ^ by_ : Nat) : Int) := by
        rw [show ((x : Int) * 2 ^ by_) = ((x * 2 ^ by_ : Nat) : Int) from by simp]; exact wrap_u64_nat _ hxb
      have e1 : bits BinOp.or IntKind.u32 (h : Int) (IntKind.u64.wrap ((x : Int) * 2 ^ by_) % 4294967296) = ((h + x * 2 ^ by_ % 4294967296 : Nat) : Int) := by
        rw [e0, show ((x * 2 ^ by_ : Nat) : Int) % 4294967296 = ((x * 2 ^ by_ % 4294967296 : Nat) : Int) from by omega, bits_or_u32_nat _ _ h32 (by omega), s1]
      have hx2 := Nat.pow_le_pow_right (show 0 < 2 by decide) (show by_ ≤ 32 by omega)
      have e2 : IntKind.u64.wrap ((x : Int) * 2 ^ by_) / 4294967296 % 4294967296 = ((x * 2 ^ by_ / 4294967296 : Nat) : Int) := by
        rw [e0]; omega
      have hk2 := (hkr.midPush Hmk.out.symm _ e1)
      have hk3 := hk2.midSet (i := k + 1) (by simp [Hmk.out]) _ e2
      go_roundw
      case rel => exact ⟨k + 1, m ++ [h + x * 2 ^ by_ % 4294967296], x * 2 ^ by_ / 4294967296, by omega, by go_num, by simp [Hmk.out], Hm.out.append (W32.cons s2 W32.nil), s3, by rw [num_take_succ HX.out]; exact s4, hk3, (hbr.setCell (Nat.le_refl _) _).setCell (Nat.le_refl _) _⟩
      case measure => simp [intOf]; omega
    · go_wp2
      go_ret
      obtain rfl : k = l.length := by omega
      refine ⟨rfl, ?_, hbr⟩
      rw [Nat.sub_self] at hkr
      have hl2 := num_lt (Hm.out.append (W32.cons h32 W32.nil))
      have e1 : num (m ++ [h]) = num l * 2 ^ by_ := by rw [num_append, Hmk.out]; simp only [num]; have := HS.out; rw [List.take_length] at this; rw [← this]; simp
      have : m ++ [h] = digs (l.length + 1) (num l * 2 ^ by_) := digs_eq (Hm.out.append (W32.cons h32 W32.nil)) (by simp [Hmk.out]) (by rw [e1] at hl2 ⊢; rw [Nat.mod_eq_of_lt]; simpa [Hmk.out] using hl2)
      rw [← this]; exact hkr

theorem sub32_law (x y c : Nat) (hx : x < 4294967296) (hy : y < 4294967296) (hc : c ≤ 1) : sub32 x y c < 4294967296 ∧ sub32 x y c + y + c = x + borrow x y c * 4294967296 := by
  unfold sub32 borrow; split <;> omega

set_option maxRecDepth 10000 in
set_option maxHeartbeats 400000 in
theorem less_any (a b : Option Addr) (c d : Nat) (l m : List Nat) (w : World) (hlen : l.length ≤ 70368744177664) (hml : m.length ≤ l.length) (hw : W32 l) (hr : Rd w a l) (hw2 : W32 m) (hr2 : Rd w b m) (hle : num m ≤ num l) :
    Calls Tryz.prog 301 #[.slice a l.length c, .slice b m.length d] w fun e w' => e = .returned (.slice (some ⟨w.heap.size, 0, none⟩) l.length l.length) ∧ Blk w' 118 w.heap.size (digs l.length (num l - num m)) ∧ Below w.heap.size w w' := by
  obtain ⟨i0, hi, hz0, hz1, hz2⟩ := info_parts infoW
  have HL := Lib.hid hle; clear hle
  go_enter Tryz.func301, Tryz.ntmps301
  go_wp2_with (first | (at_make; refine wpList_make_blk _ rfl _ _ 44 rfl 118 i0 Tryz.underlying44 hi hz0 hz1 hz2 _ _ _ _ l.length rfl rfl rfl rfl (by omega) ?_; intro w1 hk1 hb1 hs1))
  go_loopw [14, 6] (fun s o wr => ∃ (k c : Nat) (p : List Nat), k ≤ l.length ∧ s = .int .i64 k ∧ o = .int .u32 c ∧ c ≤ 1 ∧ Hid (p.length = k ∧ W32 p ∧ num p + num (m.take k) = num (l.take k) + c * 4294967296 ^ k) ∧ Blk wr 118 w.heap.size (p ++ List.replicate (l.length - k) 0) ∧ Below w.heap.size w wr) (fun s _ _ => l.length - (intOf s).toNat)
  case atStart => exact ⟨0, 0, [], Nat.zero_le _, rfl, rfl, by decide, ⟨rfl, W32.nil, by simp [num]⟩, by simpa using hk1, hb1⟩
  case round =>
    obtain ⟨k, c, p, hk, rfl, rfl, hc, HS, hkr, hbr⟩ := hrel
    have HW := Lib.hid hw; clear hw
    have HW2 := Lib.hid hw2; clear hw2
    by_cases hlt : k < l.length
    · obtain ⟨ba, offa, x, rfl, hcell, hx, HX⟩ := (hr.grow hbr).at HW.out hlt
      have HR := Lib.hid hr; clear hr
      rw [rep_succ hlt] at hkr
      have hc1 := hkr.midCell HS.out.1.symm
      have hf1 := hkr.frozen k
      by_cases hlt2 : k < m.length
      · obtain ⟨bb, offb, y, rfl, hcell2, hy, HY⟩ := (hr2.grow hbr).at HW2.out hlt2
        have HR2 := Lib.hid hr2; clear hr2
        have Hst := Lib.hid (sub32_law x y c hx hy hc)
        have hbo := borrow_le x y c
        go_wp2_with (go_at_call 320; refine (sub32_any x y c hx hy hc _).mono ?_; rintro e w' ⟨rfl, rfl⟩)
        obtain ⟨s1, s2⟩ := Hst.out
        obtain ⟨q1, q2, q3⟩ := HS.out
        have hk2 := hkr.midPush q1.symm (sub32 x y c) rfl
        go_roundw
        case rel => exact ⟨k + 1, borrow x y c, p ++ [sub32 x y c], by omega, by go_num, rfl, hbo, ⟨by simp [q1], q2.append (W32.cons s1 W32.nil), by rw [num_append, q1, num_take_succ HX.out, num_take_succ HY.out, Nat.pow_succ]; simp only [num]; generalize 4294967296 ^ k = P at *; generalize borrow x y c = c' at *; grind⟩, hk2, hbr.setCell (Nat.le_refl _) _⟩
        case measure => simp [intOf]; omega
      · have HR2 := Lib.hid hr2; clear hr2
        have Hst := Lib.hid (sub32_law x 0 c hx (by decide) hc)
        have hbo := borrow_le x 0 c
        go_wp2_with (go_at_call 320; refine (sub32_any x 0 c hx (by decide) hc _).mono ?_; rintro e w' ⟨rfl, rfl⟩)
        obtain ⟨s1, s2⟩ := Hst.out
        obtain ⟨q1, q2, q3⟩ := HS.out
        have hk2 := hkr.midPush q1.symm (sub32 x 0 c) rfl
        go_roundw
        case rel => exact ⟨k + 1, borrow x 0 c, p ++ [sub32 x 0 c], by omega, by go_num, rfl, hbo, ⟨by simp [q1], q2.append (W32.cons s1 W32.nil), by rw [num_append, q1, num_take_succ HX.out, List.take_of_length_le (by omega), Nat.pow_succ]; rw [List.take_of_length_le (by omega)] at q3; simp only [num]; generalize 4294967296 ^ k = P at *; generalize borrow x 0 c = c' at *; grind⟩, hk2, hbr.setCell (Nat.le_refl _) _⟩
        case measure => simp [intOf]; omega
    · go_wp2
      go_ret
      obtain rfl : k = l.length := by omega
      obtain ⟨q1, q2, q3⟩ := HS.out
      refine ⟨rfl, ?_, hbr⟩
      rw [Nat.sub_self, List.replicate_zero, List.append_nil] at hkr
      rw [List.take_length, List.take_of_length_le hml] at q3
      have hl2 := num_lt q2
      rw [q1] at hl2
      have hle := HL.out
      have : p = digs l.length (num l - num m) := digs_eq q2 q1 (by
        rcases Nat.le_one_iff_eq_zero_or_eq_one.1 hc with rfl | rfl
        · rw [Nat.mod_eq_of_lt] <;> omega
        · omega)
      rw [← this]; exact hkr
end Go.Proofs.YteahdgbokjbgcaaGreatDoor
namespace Go.Proofs.YteahdgbokjbgcaaGreatDoor
open Go.RowKit
set_option linter.unusedVariables false
set_option linter.unusedSimpArgs false

theorem infoS : (Tryz.prog.info? 118).map (·.size) = some 1 := by kernel_rfl

set_option maxHeartbeats 1000000 in
set_option maxRecDepth 10000 in
theorem norm_any (a : Option Addr) (c : Nat) (l : List Nat) (w : World) (hlen : l.length ≤ 70368744177664) (hw : W32 l) (hr : Rd w a l) :
    Calls Tryz.prog 292 #[.slice a l.length c] w fun e w' => e = .returned (.slice (some ⟨w.heap.size, 0, none⟩) (words (num l)).length (words (num l)).length) ∧ Blk w' 118 w.heap.size (words (num l)) ∧ Below w.heap.size w w' := by
  obtain ⟨i0, hi, hz0, hz1, hz2⟩ := info_parts infoW
  go_enter Tryz.func292, Tryz.ntmps292
  go_wp2
  go_loop [3] (fun s => ∃ k : Nat, k ≤ l.length ∧ s = .int .i64 k ∧ num (l.take k) = num l) (fun s => (intOf s).toNat)
  case atStart => exact ⟨l.length, Nat.le_refl _, rfl, by simp⟩
  case round =>
    obtain ⟨k, hk, rfl, ht⟩ := hrel
    have HT := Lib.hid ht; clear ht
    have HW := Lib.hid hw; clear hw
    cases k with
    | zero =>
      have h0 : words (num l) = [] := by rw [← HT.out]; simp [num, words_zero]
      have H0 := Lib.hid h0; clear h0
      have e0 : ((0 : Nat) : Int) = 0 := rfl
      rw [e0]
      go_wp2_with (first
        | (at_make; refine wpList_make_blk _ rfl _ _ 44 rfl 118 i0 Tryz.underlying44 hi hz0 hz1 hz2 _ _ _ _ 0 rfl rfl rfl rfl (by omega) ?_; intro w1 hk1 hb1 hs1)
        | (with_reducible refine wpList_copy_blk (o := ⟨some 23, _, _, _, _, _⟩) rfl _ _ 44 44 rfl 118 Tryz.underlying44 infoS w.heap.size 0 0 l.length c a l (List.replicate 0 0) rfl rfl rfl rfl hk1 (hr.grow hb1) w.heap.size w hb1 (Nat.le_refl _) ?_; intro w2 hk2 hb2 hg2))
      go_ret
      rw [H0.out]
      exact ⟨rfl, by simpa using hk2, hb2⟩
    | succ k =>
      obtain ⟨b, off, x, rfl, hcell, hx, HX⟩ := hr.at HW.out (show k < l.length by omega)
      have HR := Lib.hid hr; clear hr
      by_cases h0 : x = 0
      · have h : ((x : Int) == 0) = true := by simpa using h0
        have H0 := Lib.hid h0; clear h0
        go_wp2
        go_round
        case rel => exact ⟨k, by omega, rfl, by rw [← HT.out, num_take_zero HX.out H0.out]⟩
        case measure => simp [intOf]
      · have h : ((x : Int) == 0) = false := by simpa using h0
        have hL : words (num l) = l.take (k + 1) := by rw [← HT.out, words_take_pos HW.out HX.out h0]
        have hLl : (l.take (k + 1)).length = k + 1 := by rw [List.length_take]; omega
        have HL := Lib.hid hL; have HLl := Lib.hid hLl; have H0 := Lib.hid h0; clear hL hLl h0
        have e0 : ((k + 1 : Nat) : Int) = (k : Int) + 1 := by omega
        rw [e0]
        go_wp2_with (first
          | (at_make; refine wpList_make_blk _ rfl _ _ 44 rfl 118 i0 Tryz.underlying44 hi hz0 hz1 hz2 _ _ _ _ (k + 1) rfl rfl e0.symm e0.symm (by omega) ?_; intro w1 hk1 hb1 hs1)
          | (with_reducible refine wpList_copy_blk (o := ⟨some 23, _, _, _, _, _⟩) rfl _ _ 44 44 rfl 118 Tryz.underlying44 infoS w.heap.size (k + 1) (k + 1) l.length c (some ⟨b, off, none⟩) l (List.replicate (k + 1) 0) rfl rfl (by simp) rfl hk1 (HR.out.grow hb1) w.heap.size w hb1 (Nat.le_refl _) ?_; intro w2 hk2 hb2 hg2))
        go_ret
        rw [HL.out, HLl.out]
        refine ⟨rfl, ?_, hb2⟩
        rw [List.length_replicate, List.drop_of_length_le (by simp; omega), List.append_nil] at hk2
        exact hk2

set_option maxHeartbeats 1000000 in
set_option maxRecDepth 10000 in
theorem len_any (a : Option Addr) (c : Nat) (l : List Nat) (w : World) (hlen : l.length ≤ 70368744177664) (hc : l.length ≤ c) (hw : W32 l) (hr : Rd w a l) :
    Calls Tryz.prog 233 #[.slice a l.length c] w fun e w' => e = .returned (.int .i64 (bitLen (num l))) ∧ w = w' := by
  have hl1 := words_num_len hw
  have hR1 := hr.words hw
  have C1 := Lib.hid (cut_any a c l w hlen hc hw hr)
  obtain ⟨N, hN⟩ : ∃ N, N = num l := ⟨_, rfl⟩
  rw [← hN] at C1 hl1 hR1 ⊢
  clear hN hr hw
  go_enter Tryz.func233, Tryz.ntmps233
  go_wp2_with fail
  refine C1.out.mono ?_; rintro e w' ⟨rfl, rfl⟩
  by_cases h0 : (words N).length = 0
  · have h1 : N = 0 := len_words_zero.1 h0
    have H1 := Lib.hid h1; clear h1
    go_wp2
    go_ret
    rw [H1.out]
    exact ⟨rfl, rfl⟩
  · obtain ⟨k, hk⟩ : ∃ k, (words N).length = k + 1 := ⟨(words N).length - 1, by omega⟩
    obtain ⟨b, off, x, rfl, hcell, hx, HX⟩ := hR1.at (W32_words N) (show k < _ by omega)
    have HB := Lib.hid (bitLen_words hk HX.out)
    clear hR1
    have hb8 : bitLen x ≤ 32 := by
      have := bitLen_spec x
      by_cases hx0 : x = 0
      · subst hx0; exact Nat.zero_le _
      · unfold bitLen; rw [if_neg hx0]; have := (Nat.log2_lt hx0).2 (show x < 2 ^ 32 from hx); omega
    have hkb : k < 70368744177664 := by omega
    rw [hk]
    have HK := Lib.hid hk; clear hk h0
    go_wp2_with (go_at_call 288; refine (len32_any x hx _).mono ?_; rintro e w' ⟨rfl, rfl⟩)
    go_ret
    rw [HB.out]
    exact ⟨ret1i (by omega), rfl⟩

theorem ctz_low {x : Nat} (h0 : x ≠ 0) (hx : x < 4294967296) : Lib.ctz 32 x = low x := by
  unfold Lib.ctz
  rw [if_neg h0]
  obtain ⟨m, h1, _⟩ := Lib.ctzFrom_spec 32 x (by omega) hx
  conv => rhs; rw [h1]
  exact (low_eq (by omega)).symm
theorem low_le {x k : Nat} (hx : x < 2 ^ k) (h0 : x ≠ 0) : low x < k := by
  obtain ⟨m, h1, h2⟩ := low_spec h0
  apply Nat.lt_of_not_le; intro hle
  have := Nat.pow_le_pow_right (show 0 < 2 by decide) hle
  have := Nat.mul_le_mul_left (2 ^ low x) (show 1 ≤ m by omega)
  omega
theorem low_num {l : List Nat} (hw : W32 l) {k x : Nat} (hx : l[k]? = some x) (h0 : x ≠ 0) (hz : num (l.take k) = 0) : low (num l) = 32 * k + low x := by
  rw [num_split hx, hz, Nat.zero_add, pow32, low_mul _ (by omega)]
  rw [show 4294967296 = 2 ^ 32 from rfl, low_low h0 (hw.get hx)]

set_option maxHeartbeats 1000000 in
set_option maxRecDepth 10000 in
theorem low_any (a : Option Addr) (c : Nat) (l : List Nat) (w : World) (hlen : l.length ≤ 70368744177664) (hw : W32 l) (hr : Rd w a l) (hT : Tab w) :
    Calls Tryz.prog 293 #[.slice a l.length c] w fun e w' => e = .returned (.int .i64 (low (num l))) ∧ w = w' := by
  have HTab := Lib.hid hT; clear hT
  go_enter Tryz.func293, Tryz.ntmps293
  go_wp2
  go_loop [7] (fun s => ∃ k : Nat, k ≤ l.length ∧ s = .int .i64 k ∧ Hid (num (l.take k) = 0)) (fun s => l.length - (intOf s).toNat)
  case atStart => exact ⟨0, Nat.zero_le _, rfl, rfl⟩
  case round =>
    obtain ⟨k, hk, rfl, HZ⟩ := hrel
    have HW := Lib.hid hw; clear hw
    by_cases hlt : k < l.length
    · obtain ⟨b, off, x, rfl, hcell, hx, HX⟩ := hr.at HW.out hlt
      clear hr
      by_cases h0 : x = 0
      · have hb : ((x : Int) != 0) = false := by simpa using h0
        have hb2 : ((x : Int) == 0) = true := by simpa using h0
        have H0 := Lib.hid h0; clear h0
        go_wp2
        go_round
        case rel => exact ⟨k + 1, by omega, by go_num, by unfold Hid; rw [num_take_zero HX.out H0.out]; exact HZ.out⟩
        case measure => simp [intOf]; omega
      · have hb : ((x : Int) != 0) = true := by simpa using h0
        have hb2 : ((x : Int) == 0) = false := by simpa using h0
        have h3 := Lib.lowest_bit 32 x h0 hx
        have h4 := h3.2
        have H0 := Lib.hid h0; clear h0 h3
        go_wp2_with (go_at_call 317; refine (tz32_any x hx H0.out _ HTab.out).mono ?_; rintro e w' ⟨rfl, rfl⟩)
        go_ret
        refine ⟨ret1i ?_, rfl⟩
        rw [low_num HW.out HX.out H0.out HZ.out, ctz_low H0.out hx]; omega
    · go_wp2
      go_ret
      refine ⟨?_, rfl⟩
      have := HZ.out
      rw [List.take_of_length_le (by omega)] at this
      rw [this, low_zero]; rfl

set_option maxHeartbeats 1000000 in
set_option maxRecDepth 10000 in
theorem bit_any (a : Option Addr) (c : Nat) (l : List Nat) (j : Nat) (w : World) (hlen : l.length ≤ 70368744177664) (hj : j ≤ 9223372036854775807) (hw : W32 l) (hr : Rd w a l) :
    Calls Tryz.prog 305 #[.slice a l.length c, .int .i64 (j : Int)] w fun e w' => e = .returned (.bool ((num l).testBit j)) ∧ w = w' := by
  by_cases hlt : j / 32 < l.length
  · obtain ⟨b, off, x, rfl, hcell, hx, HX⟩ := hr.at hw hlt
    have HB := Lib.hid (num_testBit hw HX.out)
    clear hr hw
    go_enter Tryz.func305, Tryz.ntmps305
    go_wp2
    go_ret
    refine ⟨congrArg (fun b => Ending.returned (Value.bool b)) ?_, rfl⟩
    rw [HB.out]
    show (bits BinOp.and IntKind.u32 ((x : Int) / 2 ^ (j % 32)) 1 == 1) = _
    have hq : x / 2 ^ (j % 32) < 4294967296 := Nat.lt_of_le_of_lt (Nat.div_le_self _ _) hx
    have h1 := bits_and_u32_nat (x / 2 ^ (j % 32)) 1 hq (by decide)
    rw [show ((x : Int) / 2 ^ (j % 32)) = ((x / 2 ^ (j % 32) : Nat) : Int) from by simp, show (1 : Int) = ((1 : Nat) : Int) from rfl, h1, Nat.and_one_is_mod, Nat.testBit_eq_decide_div_mod_eq]
    by_cases hh : x / 2 ^ (j % 32) % 2 = 1
    · simp [hh]
    · have : x / 2 ^ (j % 32) % 2 = 0 := by omega
      rw [this]; rfl
  · have hz : (num l).testBit j = false := by
      apply Nat.testBit_lt_two_pow
      refine Nat.lt_of_lt_of_le (num_lt hw) ?_
      rw [pow32]
      exact Nat.pow_le_pow_right (by decide) (by omega)
    have HZ := Lib.hid hz; clear hz hw hr
    go_enter Tryz.func305, Tryz.ntmps305
    go_wp2
    go_ret
    exact ⟨by rw [HZ.out]; rfl, rfl⟩
end Go.Proofs.YteahdgbokjbgcaaGreatDoor
namespace Go.Proofs.YteahdgbokjbgcaaGreatDoor
open Go.RowKit
set_option linter.unusedVariables false
set_option linter.unusedSimpArgs false

theorem num_two (n : Nat) : num [n % 4294967296, n / 4294967296] = n := by simp only [num]; omega

set_option maxHeartbeats 1000000 in
set_option maxRecDepth 10000 in
theorem wof_any (n : Nat) (w : World) (hn : n < 18446744073709551616) :
    Calls Tryz.prog 237 #[.int .u64 (n : Int)] w fun e w' => e = .returned (.slice (some ⟨w.heap.size + 1, 0, none⟩) (words n).length (words n).length) ∧ Blk w' 118 (w.heap.size + 1) (words n) ∧ Below w.heap.size w w' := by
  obtain ⟨i0, hi, hz0, hz1, hz2⟩ := info_parts infoW
  go_enter Tryz.func237, Tryz.ntmps237
  go_wp2_with fail
  have hB : Blk (w.alloc (Obj.cells #[Value.int .u32 ((n : Int) % 4294967296), Value.int .u32 ((n : Int) / 4294967296)] 118)) 118 w.heap.size [n % 4294967296, n / 4294967296] := by
    unfold Blk; rw [heap_alloc_new]; simp
  have hn2 := num_two n
  have hN := norm_any (some ⟨w.heap.size, 0, none⟩) 2 [n % 4294967296, n / 4294967296] _ (by simp) (W32.cons (by omega) (W32.cons (by omega) W32.nil)) hB.rd
  rw [hn2] at hN
  refine hN.mono ?_
  rintro e w' ⟨rfl, hk, hb⟩
  rw [World.size_alloc] at hk hb ⊢
  clear hn2 hN hB
  go_wp2
  go_ret
  exact ⟨rfl, hk, ((Below.refl _ _).alloc (Nat.le_refl _) _).trans (hb.mono (by omega))⟩

set_option maxHeartbeats 1000000 in
set_option maxRecDepth 10000 in
theorem small_any (a : Option Addr) (c : Nat) (l : List Nat) (w : World) (hlen : l.length ≤ 70368744177664) (hc : l.length ≤ c) (hw : W32 l) (hr : Rd w a l) (hN : num l < 18446744073709551616) :
    Calls Tryz.prog 303 #[.slice a l.length c] w fun e w' => e = .returned (.tuple #[.int .u64 (num l : Int), .int .i64 0]) ∧ w = w' := by
  have C1 := Lib.hid (cut_any a c l w hlen hc hw hr)
  have hl1 := words_num_len hw
  have hR1 := hr.words hw
  have hl2 : (words (num l)).length ≤ 2 := words_len_le (by simpa using hN)
  obtain ⟨N, hN⟩ : ∃ N, N = num l := ⟨_, rfl⟩
  rw [← hN] at C1 hl1 hR1 hl2 ⊢
  clear hN hr hw
  have hn := num_words N
  have hw := W32_words N
  generalize words N = W at *
  match W, hl2, hn, hw, C1, hl1, hR1 with
  | [], _, hn, _, C1, _, _ =>
    have HN := Lib.hid hn; clear hn
    go_enter Tryz.func303, Tryz.ntmps303
    go_wp2_with fail
    refine C1.out.mono ?_; rintro e w' ⟨rfl, rfl⟩
    go_wp2
    go_ret2
    refine ⟨ret2i ?_ rfl, rfl⟩
    rw [← HN.out]; rfl
  | [x], _, hn, hw, C1, _, hR1 =>
    have HN := Lib.hid hn; clear hn
    obtain ⟨b, off, x', rfl, hcell, hx, HX⟩ := hR1.at hw (show 0 < 1 by decide)
    have : x' = x := by have := HX.out; simpa using this.symm
    subst this
    rw [Nat.add_zero] at hcell
    have hor : bits BinOp.or IntKind.u64 0 (x' : Int) = (x' : Int) := by
      have := bits_or_u64_nat 0 x' (by decide) (by omega); rw [Nat.zero_or] at this; exact this
    clear hR1 hw
    go_enter Tryz.func303, Tryz.ntmps303
    go_wp2_with fail
    refine C1.out.mono ?_; rintro e w' ⟨rfl, rfl⟩
    go_wp2
    go_ret2
    refine ⟨ret2i ?_ rfl, rfl⟩
    rw [← HN.out]; simp [num]
  | [x, y], _, hn, hw, C1, _, hR1 =>
    have HN := Lib.hid hn; clear hn
    obtain ⟨b, off, x', rfl, hcell, hx, HX⟩ := hR1.at hw (show 0 < 2 by decide)
    obtain ⟨b', off', y', hbb, hcell', hy, HY⟩ := hR1.at hw (show 1 < 2 by decide)
    simp only [Option.some.injEq, Addr.mk.injEq, and_true] at hbb
    obtain ⟨rfl, rfl⟩ := hbb
    have : x' = x := by have := HX.out; simpa using this.symm
    subst this
    have : y' = y := by have := HY.out; simpa using this.symm
    subst this
    rw [Nat.add_zero] at hcell
    have hor : bits BinOp.or IntKind.u64 ((y' : Int) * 4294967296) (x' : Int) = ((x' + 4294967296 * y' : Nat) : Int) := by
      have := bits_or_u64_nat (y' * 4294967296) x' (by omega) (by omega)
      rw [or_add' (k := 32) (by omega) (by omega)] at this
      rw [show ((y' : Int) * 4294967296) = ((y' * 4294967296 : Nat) : Int) from by simp, this]; congr 1; omega
    have HOR := Lib.hid hor; clear hor
    clear hR1 hw
    go_enter Tryz.func303, Tryz.ntmps303
    go_wp2_with fail
    refine C1.out.mono ?_; rintro e w' ⟨rfl, rfl⟩
    go_wp2
    go_ret2
    refine ⟨ret2i ?_ rfl, rfl⟩
    rw [← HN.out, HOR.out]; simp [num]
  | _ :: _ :: _ :: _, h, _, _, _, _, _ => simp at h

set_option maxHeartbeats 1000000 in
set_option maxRecDepth 10000 in
theorem fits_any (a : Option Addr) (c : Nat) (l : List Nat) (w : World) (hlen : l.length ≤ 70368744177664) (hc : l.length ≤ c) (hw : W32 l) (hr : Rd w a l) (hN : (words (num l)).length ≤ 8192) :
    Calls Tryz.prog 290 #[.slice a l.length c] w fun e w' => e = .returned (.tuple #[.slice a (words (num l)).length (words (num l)).length, .int .i64 0]) ∧ w = w' := by
  have C1 := Lib.hid (cut_any a c l w hlen hc hw hr)
  have hl1 := words_num_len hw
  clear hr hw
  go_enter Tryz.func290, Tryz.ntmps290
  go_wp2_with fail
  refine C1.out.mono ?_; rintro e w' ⟨rfl, rfl⟩
  go_wp2
  go_ret2
  exact ⟨rfl, rfl⟩
set_option maxHeartbeats 1000000 in
set_option maxRecDepth 10000 in
theorem fits_long (a : Option Addr) (c : Nat) (l : List Nat) (w : World) (hlen : l.length ≤ 70368744177664) (hc : l.length ≤ c) (hw : W32 l) (hr : Rd w a l) (hN : 8192 < (words (num l)).length) :
    Calls Tryz.prog 290 #[.slice a l.length c] w fun e w' => e = .returned (.tuple #[.slice none 0 0, .int .i64 2]) ∧ w = w' := by
  have C1 := Lib.hid (cut_any a c l w hlen hc hw hr)
  have hl1 := words_num_len hw
  clear hr hw
  go_enter Tryz.func290, Tryz.ntmps290
  go_wp2_with fail
  refine C1.out.mono ?_; rintro e w' ⟨rfl, rfl⟩
  go_wp2
  go_ret2
  exact ⟨rfl, rfl⟩

set_option maxHeartbeats 1000000 in
set_option maxRecDepth 10000 in
theorem wboth_any (a b : Option Addr) (c d : Nat) (l m : List Nat) (w : World) (hlen : l.length ≤ 70368744177664) (hc : l.length ≤ c) (hw : W32 l) (hr : Rd w a l) (hlen2 : m.length ≤ 70368744177664) (hd : m.length ≤ d) (hw2 : W32 m) (hr2 : Rd w b m)
    (h1 : (words (num l)).length ≤ 8192) (h2 : (words (num m)).length ≤ 8192) :
    Calls Tryz.prog 289 #[.slice a l.length c, .slice b m.length d] w fun e w' => e = .returned (.tuple #[.slice a (words (num l)).length c, .slice b (words (num m)).length d, .int .i64 0]) ∧ w = w' := by
  have C1 := Lib.hid (cut_any a c l w hlen hc hw hr)
  have C2 := Lib.hid (cut_any b d m w hlen2 hd hw2 hr2)
  clear hr hw hr2 hw2
  go_enter Tryz.func289, Tryz.ntmps289
  go_wp2_with fail
  refine C1.out.mono ?_; rintro e w' ⟨rfl, rfl⟩
  go_wp2_with fail
  refine C2.out.mono ?_; rintro e w' ⟨rfl, rfl⟩
  go_wp2
  all_goals (go_ret3; exact ⟨rfl, rfl⟩)
theorem times_step {p q : List Nat} {s S x y i j over A : Nat} (hp : p.length = i + j) (hA : num p + over * 4294967296 ^ (i + j) + 4294967296 ^ (i + j) * (s + 4294967296 * num q) = S + x * 4294967296 ^ i * A) :
    num (p ++ [(x * y + s + over) % 4294967296]) + (x * y + s + over) / 4294967296 * 4294967296 ^ (i + (j + 1)) + 4294967296 ^ (i + (j + 1)) * num q = S + x * 4294967296 ^ i * (A + 4294967296 ^ j * y) := by
  have e1 := Nat.div_add_mod (x * y + s + over) 4294967296
  rw [num_append, hp]
  simp only [num]
  generalize (x * y + s + over) % 4294967296 = r at *
  generalize (x * y + s + over) / 4294967296 = o at *
  have e2 : 4294967296 ^ (i + (j + 1)) = 4294967296 ^ (i + j) * 4294967296 := by rw [← Nat.add_assoc, Nat.pow_succ]
  have e3 : 4294967296 ^ i * 4294967296 ^ j = 4294967296 ^ (i + j) := (Nat.pow_add _ _ _).symm
  rw [e2]
  have e4 : x * 4294967296 ^ i * (A + 4294967296 ^ j * y) = x * 4294967296 ^ i * A + x * y * 4294967296 ^ (i + j) := by
    rw [← e3]; generalize 4294967296 ^ i = u; generalize 4294967296 ^ j = v; grind
  rw [e4, ← Nat.add_assoc, ← hA]
  generalize 4294967296 ^ (i + j) = P at *
  have e5 : P * (4294967296 * o + r) = P * (x * y + s + over) := by rw [e1]
  generalize x * y = xy at *
  grind

theorem mul_w {x y s o : Nat} (hx : x < 4294967296) (hy : y < 4294967296) (hs : s < 4294967296) (ho : o < 4294967296) : x * y + s + o < 18446744073709551616 ∧ (x * y + s + o) / 4294967296 < 4294967296 ∧ x * y < 18446744073709551616 := by
  have := Nat.mul_le_mul (show x ≤ 4294967295 by omega) (show y ≤ 4294967295 by omega)
  have h1 : x * y + s + o < 18446744073709551616 := by omega
  refine ⟨h1, Nat.div_lt_of_lt_mul (by simpa using h1), by omega⟩

theorem mul_wrap {x y s o : Nat} (hx : x < 4294967296) (hy : y < 4294967296) (hs : s < 4294967296) (ho : o < 4294967296) :
    IntKind.u64.wrap (IntKind.u64.wrap (IntKind.u64.wrap ((x : Int) * (y : Int)) + (s : Int)) + (o : Int)) = ((x * y + s + o : Nat) : Int) := by
  obtain ⟨h1, h2, h3⟩ := mul_w hx hy hs ho
  rw [show ((x : Int) * (y : Int)) = ((x * y : Nat) : Int) from by simp, wrap_u64_nat _ h3, show ((x * y : Nat) : Int) + (s : Int) = ((x * y + s : Nat) : Int) from by simp, wrap_u64_nat _ (by omega),
    show ((x * y + s : Nat) : Int) + (o : Int) = ((x * y + s + o : Nat) : Int) from by simp, wrap_u64_nat _ h1]

set_option maxHeartbeats 1000000 in
set_option maxRecDepth 10000 in
theorem times_any (a b : Option Addr) (c d : Nat) (l m : List Nat) (w : World) (hlen : l.length ≤ 17592186044416) (hlen2 : m.length ≤ 17592186044416) (hw : W32 l) (hr : Rd w a l) (hw2 : W32 m) (hr2 : Rd w b m) :
    Calls Tryz.prog 291 #[.slice a l.length c, .slice b m.length d] w fun e w' => e = .returned (.slice (some ⟨w.heap.size, 0, none⟩) (l.length + m.length) (l.length + m.length)) ∧ Blk w' 118 w.heap.size (digs (l.length + m.length) (num l * num m)) ∧ Below w.heap.size w w' := by
  obtain ⟨i0, hi, hz0, hz1, hz2⟩ := info_parts infoW
  go_enter Tryz.func291, Tryz.ntmps291
  go_wp2_with (first | (at_make; refine wpList_make_blk _ rfl _ _ 44 rfl 118 i0 Tryz.underlying44 hi hz0 hz1 hz2 _ _ _ _ (l.length + m.length) rfl rfl (by simp) (by simp) (by omega) ?_; intro w1 hk1 hb1 hs1))
  go_loopw [20] (fun s wr => ∃ (i : Nat) (p : List Nat), i ≤ l.length ∧ s = .int .i64 i ∧ Hid (p.length = i + m.length ∧ W32 p ∧ num p = num (l.take i) * num m) ∧ Blk wr 118 w.heap.size (p ++ List.replicate (l.length - i) 0) ∧ Below w.heap.size w wr) (fun s _ => l.length - (intOf s).toNat)
  case atStart => exact ⟨0, List.replicate m.length 0, Nat.zero_le _, rfl, ⟨by simp, W32.rep _, by simp [num, num_rep]⟩, by simpa [List.replicate_append_replicate, Nat.add_comm] using hk1, hb1⟩
  case round =>
    obtain ⟨i, p, hi2, rfl, HP, hkr, hbr⟩ := hrel
    have HW := Lib.hid hw; clear hw
    have HW2 := Lib.hid hw2; clear hw2
    by_cases hlt : i < l.length
    · obtain ⟨ba, offa, x, rfl, hcell, hx, HX⟩ := (hr.grow hbr).at HW.out hlt
      have HR := Lib.hid hr; clear hr
      rw [rep_succ hlt] at hkr
      have hbx : ba < w.heap.size := by
        have := HR.out.lt (ad := ⟨ba, offa, none⟩) rfl (by intro h; rw [h] at hlt; simp at hlt)
        exact this
      obtain ⟨wo, hwo⟩ : ∃ wo : World, wo = wr := ⟨_, rfl⟩
      go_wp2
      go_loopw [27, 8] (fun s o wr => ∃ (j over : Nat) (p1 q : List Nat), j ≤ m.length ∧ s = .int .i64 j ∧ o = .int .u64 over ∧ over < 4294967296 ∧ Hid (p1.length = i + j ∧ q.length = m.length - j ∧ W32 p1 ∧ W32 q ∧
          num p1 + over * 4294967296 ^ (i + j) + 4294967296 ^ (i + j) * num q = num (l.take i) * num m + x * 4294967296 ^ i * num (m.take j)) ∧ Blk wr 118 w.heap.size (p1 ++ q ++ 0 :: List.replicate (l.length - (i + 1)) 0) ∧ Below w.heap.size w wr) (fun s _ _ => m.length - (intOf s).toNat)
      case atStart =>
        refine ⟨0, 0, p.take i, p.drop i, Nat.zero_le _, rfl, rfl, by decide, ?_, by rw [List.take_append_drop]; exact hkr, hbr⟩
        obtain ⟨h1, h2, h3⟩ := HP.out
        refine ⟨by simp; omega, by simp; omega, h2.take _, h2.drop _, ?_⟩
        have := num_append (p.take i) (p.drop i)
        rw [List.take_append_drop, h3] at this
        have h4 : (p.take i).length = i := by simp; omega
        rw [h4] at this
        simp [num]; omega
      case round =>
        obtain ⟨j, over, p1, q, hj, rfl, rfl, hov, HQ, hkr2, hbr2⟩ := hrel
        by_cases hlt2 : j < m.length
        · obtain ⟨bb, offb, y, rfl, hcell2, hy, HY⟩ := (hr2.grow hbr2).at HW2.out hlt2
          have HR2 := Lib.hid hr2; clear hr2
          obtain ⟨s, q', hq⟩ : ∃ s q', q = s :: q' := by
            cases q with
            | nil => have := HQ.out.2.1; simp at this; omega
            | cons s q' => exact ⟨s, q', rfl⟩
          subst hq
          have hs : s < 4294967296 := HQ.out.2.2.2.1.head
          have hkr3 : Blk wr 118 w.heap.size (p1 ++ s :: (q' ++ 0 :: List.replicate (l.length - (i + 1)) 0)) := by simpa using hkr2
          have hc3 := hkr3.midCell HQ.out.1.symm
          have hf3 := hkr3.frozen (i + j)
          have HM := Lib.hid (mul_wrap hx hy hs hov)
          have HM2 := Lib.hid (mul_w hx hy hs hov)
          go_wp2
          obtain ⟨q1, q2, q3, q4, q5⟩ := HQ.out
          obtain ⟨m1, m2, m3⟩ := HM2.out
          have hk4 := hkr3.midPush q1.symm ((x * y + s + over) % 4294967296) (v := IntKind.u64.wrap (IntKind.u64.wrap (IntKind.u64.wrap ((x : Int) * (y : Int)) + (s : Int)) + (over : Int)) % 4294967296) (by rw [HM.out]; omega)
          go_roundw
          case rel => exact ⟨j + 1, (x * y + s + over) / 4294967296, p1 ++ [(x * y + s + over) % 4294967296], q', by omega, by go_num, by rw [HM.out]; simp, m2, ⟨by simp [q1]; omega, by simp at q2; omega, q3.append (W32.cons (Nat.mod_lt _ (by decide)) W32.nil), q4.tail, by rw [num_take_succ HY.out]; exact times_step q1 (by simpa [num] using q5)⟩, by simpa using hk4, hbr2.setCell (Nat.le_refl _) _⟩
          case measure => simp [intOf]; omega
        · obtain rfl : j = m.length := by omega
          have hq : q = [] := by have := HQ.out.2.1; simpa using this
          subst hq
          rw [List.append_nil] at hkr2
          have hc3 := hkr2.midCell HQ.out.1.symm
          have hf3 := hkr2.frozen (i + m.length)
          go_wp2
          obtain ⟨q1, q2, q3, q4, q5⟩ := HQ.out
          have hk4 := hkr2.midPush q1.symm over (v := (over : Int)) rfl
          go_roundw
          case rel => exact ⟨i + 1, p1 ++ [over], by omega, by go_num, ⟨by simp [q1]; omega, q3.append (W32.cons hov W32.nil), by
            rw [List.take_length] at q5
            rw [num_take_succ HX.out, num_append, q1, Nat.add_mul]
            simp only [num] at q5 ⊢
            have e3 : 4294967296 ^ i * x * num m = x * 4294967296 ^ i * num m := by rw [Nat.mul_comm x]
            rw [e3, ← q5, Nat.mul_comm over, Nat.mul_zero, Nat.mul_zero, Nat.add_zero, Nat.add_zero]⟩, hk4, hbr2.setCell (Nat.le_refl _) _⟩
          case measure => simp [intOf]; omega
    · go_wp2
      go_ret
      obtain rfl : i = l.length := by omega
      obtain ⟨h1, h2, h3⟩ := HP.out
      refine ⟨rfl, ?_, hbr⟩
      rw [Nat.sub_self, List.replicate_zero, List.append_nil] at hkr
      rw [List.take_length] at h3
      have hl2 := num_lt h2
      rw [h1, h3] at hl2
      rw [← digs_eq h2 h1 (by rw [h3, Nat.mod_eq_of_lt hl2])]
      exact hkr
end Go.Proofs.YteahdgbokjbgcaaGreatDoor
namespace Go.Proofs.YteahdgbokjbgcaaGreatDoor
open Go.RowKit
set_option linter.unusedVariables false
set_option linter.unusedSimpArgs false

theorem digs_words {k n : Nat} (h : n < 4294967296 ^ k) : words (num (digs k n)) = words n := by rw [num_digs_lt h]

set_option maxHeartbeats 1000000 in
set_option maxRecDepth 10000 in
theorem wsub_any (a b : Option Addr) (c d : Nat) (l m : List Nat) (w : World) (hlen : l.length ≤ 17592186044416) (hc : l.length ≤ c) (hw : W32 l) (hr : Rd w a l) (hlen2 : m.length ≤ 17592186044416) (hd : m.length ≤ d) (hw2 : W32 m) (hr2 : Rd w b m)
    (h1 : (words (num l)).length ≤ 8192) (h2 : (words (num m)).length ≤ 8192) (hle : num m ≤ num l) :
    Calls Tryz.prog 254 #[.slice a l.length c, .slice b m.length d] w fun e w' => ∃ a', e = .returned (.tuple #[.slice a' (words (num l - num m)).length (words (num l - num m)).length, .int .i64 0]) ∧ Own w' 118 w.heap.size a' (words (num l - num m)).length (words (num l - num m)) ∧ Below w.heap.size w w' := by
  have B1 := Lib.hid (wboth_any a b c d l m w (by omega) hc hw hr (by omega) hd hw2 hr2 h1 h2)
  have hl1 := words_num_len hw
  have hl2 := words_num_len hw2
  have hR1 := hr.words hw
  have hR2 := hr2.words hw2
  obtain ⟨N, hN⟩ : ∃ N, N = num l := ⟨_, rfl⟩
  obtain ⟨M, hM⟩ : ∃ M, M = num m := ⟨_, rfl⟩
  rw [← hN] at B1 hl1 hR1 h1 hle ⊢
  rw [← hM] at B1 hl2 hR2 h2 hle ⊢
  clear hN hM hr hw hr2 hw2
  have C1 := Lib.hid (fun n => cmp_any a b c d (words N) (words M) (w.drewN n) (by omega) (by omega) (W32_words N) hR1 (by omega) (by omega) (W32_words M) hR2)
  have hmn : (words M).length ≤ (words N).length := words_len_le (Nat.lt_of_le_of_lt hle (by have := num_lt (W32_words N); rwa [num_words] at this))
  have L1 := Lib.hid (fun n => less_any a b c d (words N) (words M) (w.drewN n) (by omega) hmn (W32_words N) hR1 (W32_words M) hR2 (by rw [num_words, num_words]; exact hle))
  have hcn : ¬ cmpN (num (words N)) (num (words M)) < 0 := by rw [num_words, num_words, cmpN_neg]; omega
  have hcl := cmpN_lo (num (words N)) (num (words M))
  have hch := cmpN_hi (num (words N)) (num (words M))
  have HLE := Lib.hid hle; clear hle
  go_enter Tryz.func254, Tryz.ntmps254
  go_wp2_with fail
  refine B1.out.mono ?_; rintro e w' ⟨rfl, rfl⟩
  go_wp2_with fail
  refine (C1.out 0).mono ?_; rintro e w' ⟨rfl, n, rfl⟩
  go_wp2_with fail
  refine (L1.out _).mono ?_; rintro e w1 ⟨rfl, hk, hb⟩
  have hlt : N - M < 4294967296 ^ (words N).length := by have := num_lt (W32_words N); rw [num_words] at this; omega
  rw [num_words, num_words] at hk
  have F1 := fits_any (some ⟨w.heap.size, 0, none⟩) (words N).length (digs (words N).length (N - M)) w1 (by rw [digs_len]; omega) (by rw [digs_len]; omega) (W32_digs _ _) hk.rd (by rw [digs_words hlt]; exact Nat.le_trans (words_len_of_le (Nat.sub_le _ _)) h1)
  rw [digs_words hlt, digs_len] at F1
  have HF := Lib.hid F1; clear F1
  go_wp2_with fail
  refine HF.out.mono ?_; rintro e w' ⟨rfl, rfl⟩
  go_wp2
  go_ret2
  refine ⟨some ⟨w.heap.size, 0, none⟩, rfl, ?_, below_drewN hb⟩
  have h3 := (Own.of hk (Nat.le_refl w.heap.size)).cut (k := (words (N - M)).length) (by rw [digs_len]; exact words_len_le hlt)
  have h4 := words_num_prefix (W32_digs (words N).length (N - M))
  rw [digs_words hlt] at h4
  rw [← h4] at h3
  exact h3.shut

set_option maxHeartbeats 1000000 in
set_option maxRecDepth 10000 in
theorem wmul_any (a b : Option Addr) (c d : Nat) (l m : List Nat) (w : World) (hlen : l.length ≤ 17592186044416) (hc : l.length ≤ c) (hw : W32 l) (hr : Rd w a l) (hlen2 : m.length ≤ 17592186044416) (hd : m.length ≤ d) (hw2 : W32 m) (hr2 : Rd w b m)
    (h1 : (words (num l)).length ≤ 8192) (h2 : (words (num m)).length ≤ 8192) (h3 : (words (num l * num m)).length ≤ 8192) :
    Calls Tryz.prog 235 #[.slice a l.length c, .slice b m.length d] w fun e w' => ∃ a', e = .returned (.tuple #[.slice a' (words (num l * num m)).length (words (num l * num m)).length, .int .i64 0]) ∧ Own w' 118 w.heap.size a' (words (num l * num m)).length (words (num l * num m)) ∧ Below w.heap.size w w' := by
  have B1 := Lib.hid (wboth_any a b c d l m w (by omega) hc hw hr (by omega) hd hw2 hr2 h1 h2)
  have hl1 := words_num_len hw
  have hl2 := words_num_len hw2
  have hR1 := hr.words hw
  have hR2 := hr2.words hw2
  obtain ⟨N, hN⟩ : ∃ N, N = num l := ⟨_, rfl⟩
  obtain ⟨M, hM⟩ : ∃ M, M = num m := ⟨_, rfl⟩
  rw [← hN] at B1 hl1 hR1 h1 h3 ⊢
  rw [← hM] at B1 hl2 hR2 h2 h3 ⊢
  clear hN hM hr hw hr2 hw2
  have L1 := Lib.hid (times_any a b c d (words N) (words M) w (by omega) (by omega) (W32_words N) hR1 (W32_words M) hR2)
  go_enter Tryz.func235, Tryz.ntmps235
  go_wp2_with fail
  refine B1.out.mono ?_; rintro e w' ⟨rfl, rfl⟩
  go_wp2_with fail
  refine L1.out.mono ?_; rintro e w1 ⟨rfl, hk, hb⟩
  have hlt : N * M < 4294967296 ^ ((words N).length + (words M).length) := by
    have h4 := num_lt (W32_words N); have h5 := num_lt (W32_words M)
    rw [num_words] at h4 h5
    rw [Nat.pow_add]; exact Nat.mul_lt_mul'' h4 h5
  rw [num_words, num_words] at hk
  have F1 := fits_any (some ⟨w.heap.size, 0, none⟩) ((words N).length + (words M).length) (digs ((words N).length + (words M).length) (N * M)) w1 (by rw [digs_len]; omega) (by rw [digs_len]; omega) (W32_digs _ _) hk.rd (by rw [digs_words hlt]; exact h3)
  rw [digs_words hlt, digs_len] at F1
  have HF := Lib.hid F1; clear F1
  go_wp2_with fail
  refine HF.out.mono ?_; rintro e w' ⟨rfl, rfl⟩
  go_wp2
  go_ret2
  refine ⟨some ⟨w.heap.size, 0, none⟩, rfl, ?_, hb⟩
  have h5 := (Own.of hk (Nat.le_refl w.heap.size)).cut (k := (words (N * M)).length) (by rw [digs_len]; exact words_len_le hlt)
  have h4 := words_num_prefix (W32_digs ((words N).length + (words M).length) (N * M))
  rw [digs_words hlt] at h4
  rw [← h4] at h5
  exact h5.shut
set_option maxHeartbeats 1000000 in
set_option maxRecDepth 10000 in
theorem wmul_long (a b : Option Addr) (c d : Nat) (l m : List Nat) (w : World) (hlen : l.length ≤ 17592186044416) (hc : l.length ≤ c) (hw : W32 l) (hr : Rd w a l) (hlen2 : m.length ≤ 17592186044416) (hd : m.length ≤ d) (hw2 : W32 m) (hr2 : Rd w b m)
    (h1 : (words (num l)).length ≤ 8192) (h2 : (words (num m)).length ≤ 8192) (h3 : 8192 < (words (num l * num m)).length) :
    Calls Tryz.prog 235 #[.slice a l.length c, .slice b m.length d] w fun e w' => e = .returned (.tuple #[.slice none 0 0, .int .i64 2]) ∧ Below w.heap.size w w' := by
  have B1 := Lib.hid (wboth_any a b c d l m w (by omega) hc hw hr (by omega) hd hw2 hr2 h1 h2)
  have hl1 := words_num_len hw
  have hl2 := words_num_len hw2
  have hR1 := hr.words hw
  have hR2 := hr2.words hw2
  obtain ⟨N, hN⟩ : ∃ N, N = num l := ⟨_, rfl⟩
  obtain ⟨M, hM⟩ : ∃ M, M = num m := ⟨_, rfl⟩
  rw [← hN] at B1 hl1 hR1 h1 h3
  rw [← hM] at B1 hl2 hR2 h2 h3
  clear hN hM hr hw hr2 hw2
  have L1 := Lib.hid (times_any a b c d (words N) (words M) w (by omega) (by omega) (W32_words N) hR1 (W32_words M) hR2)
  go_enter Tryz.func235, Tryz.ntmps235
  go_wp2_with fail
  refine B1.out.mono ?_; rintro e w' ⟨rfl, rfl⟩
  go_wp2_with fail
  refine L1.out.mono ?_; rintro e w1 ⟨rfl, hk, hb⟩
  have hlt : N * M < 4294967296 ^ ((words N).length + (words M).length) := by
    have h4 := num_lt (W32_words N); have h5 := num_lt (W32_words M)
    rw [num_words] at h4 h5
    rw [Nat.pow_add]; exact Nat.mul_lt_mul'' h4 h5
  rw [num_words, num_words] at hk
  have F1 := fits_long (some ⟨w.heap.size, 0, none⟩) ((words N).length + (words M).length) (digs ((words N).length + (words M).length) (N * M)) w1 (by rw [digs_len]; omega) (by rw [digs_len]; omega) (W32_digs _ _) hk.rd (by rw [digs_words hlt]; exact h3)
  rw [digs_len] at F1
  have HF := Lib.hid F1; clear F1
  go_wp2_with fail
  refine HF.out.mono ?_; rintro e w' ⟨rfl, rfl⟩
  go_wp2
  go_ret2
  exact ⟨rfl, hb⟩

theorem bitLen_lt {n k : Nat} (h : n < 2 ^ k) : bitLen n ≤ k := by
  unfold bitLen
  split
  · omega
  · rename_i h0; have := (Nat.log2_lt h0).2 h; omega
theorem bitLen_words_le {n k : Nat} (h : bitLen n ≤ 32 * k) : (words n).length ≤ k := by
  apply words_len_le
  have := (bitLen_spec n).1
  rw [pow32]
  exact Nat.lt_of_lt_of_le this (Nat.pow_le_pow_right (by decide) h)
theorem words_bitLen {n k : Nat} (h : (words n).length ≤ k) : bitLen n ≤ 32 * k := by
  apply bitLen_lt
  rw [← pow32]
  have := num_lt (W32_words n); rw [num_words] at this
  exact Nat.lt_of_lt_of_le this (Nat.pow_le_pow_right (by decide) h)
theorem bitLen_pos {n : Nat} (h : n ≠ 0) : 0 < bitLen n := by unfold bitLen; rw [if_neg h]; omega
theorem bitLen_mul {n : Nat} (k : Nat) (h : n ≠ 0) : bitLen (n * 2 ^ k) = bitLen n + k := by
  have h1 : n * 2 ^ k / 2 ^ k = n := Nat.mul_div_cancel _ (Nat.two_pow_pos k)
  have := bitLen_shift (n * 2 ^ k) k (by rw [h1]; exact h)
  rw [h1] at this; omega
/-- Shift down by k: k = 0 too. -/
theorem drop_words {N k : Nat} : num ((words N).drop k) = N / 4294967296 ^ k := by rw [num_drop (W32_words N), num_words]

theorem Rd.dropAt {w : World} {a : Option Addr} {l : List Nat} (h : Rd w a l) {k : Nat} (hk : k < l.length) :
    ∃ b off, a = some ⟨b, off, none⟩ ∧ Rd w (some ⟨b, off + k, none⟩) (l.drop k) := by
  obtain ⟨x, hx⟩ : ∃ x, l[k]? = some x := ⟨l[k], List.getElem?_eq_getElem hk⟩
  obtain ⟨b, off, h1, h2⟩ := h k x hx
  refine ⟨b, off, h1, fun i y hy => ?_⟩
  rw [List.getElem?_drop] at hy
  obtain ⟨b', off', h3, h4⟩ := h (k + i) y hy
  rw [h1] at h3; cases h3
  exact ⟨b, off + k, rfl, by rw [Nat.add_assoc]; exact h4⟩

set_option maxHeartbeats 1000000 in
set_option maxRecDepth 10000 in
theorem shift_nil (a : Option Addr) (c : Nat) (l : List Nat) (by_ : Int) (w : World) (hlen : l.length ≤ 17592186044416) (hc : l.length ≤ c) (hw : W32 l) (hr : Rd w a l) (h8 : (words (num l)).length ≤ 8192)
    (hz : num l = 0 ∨ by_ ≤ -(bitLen (num l) : Int)) (hb1 : -9223372036854775808 ≤ by_) :
    Calls Tryz.prog 251 #[.slice a l.length c, .int .i64 by_] w fun e w' => e = .returned (.tuple #[.slice none 0 0, .int .i64 0]) ∧ w = w' := by
  have C1 := Lib.hid (cut_any a c l w (by omega) hc hw hr)
  have hl1 := words_num_len hw
  have hR1 := hr.words hw
  obtain ⟨N, hN⟩ : ∃ N, N = num l := ⟨_, rfl⟩
  rw [← hN] at C1 hl1 hR1 hz h8
  clear hN hr hw
  by_cases h0 : (words N).length = 0
  · go_enter Tryz.func251, Tryz.ntmps251
    go_wp2_with fail
    refine C1.out.mono ?_; rintro e w' ⟨rfl, rfl⟩
    go_wp2
    go_ret2
    exact ⟨rfl, rfl⟩
  · have h1 : N ≠ 0 := fun h => h0 (by rw [h, words_zero]; rfl)
    have h2 := bitLen_pos h1
    have h3 := words_bitLen h8
    have hz2 : by_ ≤ -(bitLen N : Int) := by rcases hz with hz | hz; exact absurd hz h1; exact hz
    have L1 := Lib.hid (len_any a c (words N) w (by omega) (by omega) (W32_words N) hR1)
    rw [num_words] at L1
    have hb0 : (((words N).length : Int) == 0) = false := by simp; exact fun h => h0 (by rw [h]; rfl)
    clear h0 h1 hz
    go_enter Tryz.func251, Tryz.ntmps251
    go_wp2_with fail
    refine C1.out.mono ?_; rintro e w' ⟨rfl, rfl⟩
    go_wp2_with fail
    refine L1.out.mono ?_; rintro e w' ⟨rfl, rfl⟩
    go_wp2
    go_ret2
    exact ⟨rfl, rfl⟩

set_option maxHeartbeats 1000000 in
set_option maxRecDepth 10000 in
theorem shift_long (a : Option Addr) (c : Nat) (l : List Nat) (k : Nat) (w : World) (hlen : l.length ≤ 17592186044416) (hc : l.length ≤ c) (hw : W32 l) (hr : Rd w a l) (h8 : (words (num l)).length ≤ 8192) (hz : num l ≠ 0) (hk : 262144 < k + bitLen (num l)) (hk2 : k ≤ 9223372036854775807) :
    Calls Tryz.prog 251 #[.slice a l.length c, .int .i64 (k : Int)] w fun e w' => e = .returned (.tuple #[.slice none 0 0, .int .i64 2]) ∧ w = w' := by
  have C1 := Lib.hid (cut_any a c l w (by omega) hc hw hr)
  have hl1 := words_num_len hw
  have hR1 := hr.words hw
  obtain ⟨N, hN⟩ : ∃ N, N = num l := ⟨_, rfl⟩
  rw [← hN] at C1 hl1 hR1 hz hk h8
  clear hN hr hw
  have h3 := words_bitLen h8
  have h4 := bitLen_pos hz
  have h0 : (words N).length ≠ 0 := fun h => hz (len_words_zero.1 h)
  have L1 := Lib.hid (len_any a c (words N) w (by omega) (by omega) (W32_words N) hR1)
  rw [num_words] at L1
  have hb0 : (((words N).length : Int) == 0) = false := by simp; exact fun h => h0 (by rw [h]; rfl)
  have HZ := Lib.hid hz; clear hz h0
  go_enter Tryz.func251, Tryz.ntmps251
  go_wp2_with fail
  refine C1.out.mono ?_; rintro e w' ⟨rfl, rfl⟩
  go_wp2_with fail
  refine L1.out.mono ?_; rintro e w' ⟨rfl, rfl⟩
  go_wp2_with fail
  refine L1.out.mono ?_; rintro e w' ⟨rfl, rfl⟩
  go_wp2
  go_ret2
  exact ⟨rfl, rfl⟩

theorem up_split {n k N : Nat} (hk : 0 < n) (hN : N < 4294967296 ^ n) : num (List.replicate (k / 32) 0 ++ digs (n + 1) (N * 2 ^ (k % 32))) = N * 2 ^ k := by
  have h1 : N * 2 ^ (k % 32) < 4294967296 ^ (n + 1) := by
    rw [Nat.pow_succ]
    have h2 : 2 ^ (k % 32) ≤ 4294967296 := by
      have := Nat.pow_le_pow_right (show 0 < 2 by decide) (show k % 32 ≤ 32 by omega); simpa using this
    exact Nat.mul_lt_mul_of_lt_of_le hN h2 (by decide)
  rw [num_append, num_rep, Nat.zero_add, List.length_replicate, num_digs_lt h1, pow32, Nat.mul_comm, Nat.mul_assoc, ← Nat.pow_add]
  congr 2; omega

set_option maxHeartbeats 1000000 in
set_option maxRecDepth 10000 in
theorem shift_up (a : Option Addr) (c : Nat) (l : List Nat) (k : Nat) (w : World) (hlen : l.length ≤ 17592186044416) (hc : l.length ≤ c) (hw : W32 l) (hr : Rd w a l) (hz : num l ≠ 0) (hk : k + bitLen (num l) ≤ 262144) :
    Calls Tryz.prog 251 #[.slice a l.length c, .int .i64 (k : Int)] w fun e w' => ∃ a', e = .returned (.tuple #[.slice a' (words (num l * 2 ^ k)).length (words (num l * 2 ^ k)).length, .int .i64 0]) ∧ Own w' 118 w.heap.size a' (words (num l * 2 ^ k)).length (words (num l * 2 ^ k)) ∧ Below w.heap.size w w' := by
  obtain ⟨i0, hi, hz0, hz1, hz2⟩ := info_parts infoW
  have C1 := Lib.hid (cut_any a c l w (by omega) hc hw hr)
  have hl1 := words_num_len hw
  have hR1 := hr.words hw
  obtain ⟨N, hN⟩ : ∃ N, N = num l := ⟨_, rfl⟩
  rw [← hN] at C1 hl1 hR1 hz hk ⊢
  clear hN hr hw
  have h8 : (words N).length ≤ 8192 := bitLen_words_le (by omega)
  have h4 := bitLen_pos hz
  have h0 : (words N).length ≠ 0 := fun h => hz (len_words_zero.1 h)
  have h0' : 0 < (words N).length := by omega
  have L1 := Lib.hid (len_any a c (words N) w (by omega) (by omega) (W32_words N) hR1)
  rw [num_words] at L1
  have hb0 : (((words N).length : Int) == 0) = false := by simp; exact fun h => h0 (by rw [h]; rfl)
  have HZ := Lib.hid hz; clear hz h0
  go_enter Tryz.func251, Tryz.ntmps251
  go_wp2_with fail
  refine C1.out.mono ?_; rintro e w' ⟨rfl, rfl⟩
  go_wp2_with fail
  refine L1.out.mono ?_; rintro e w' ⟨rfl, rfl⟩
  go_wp2_with fail
  refine L1.out.mono ?_; rintro e w' ⟨rfl, rfl⟩
  go_wp2_with (first | (at_make; refine wpList_make_cap _ rfl _ _ 44 rfl 118 i0 Tryz.underlying44 hi hz0 hz1 hz2 _ _ _ _ (k / 32) (k / 32 + (words N).length + 1) rfl rfl (by simp) (by simp) (by omega) (by omega) ?_; intro w1 hk1 hb1 hs1))
  have U1 := up_any a c (words N) (k % 32) w1 (by omega) (by omega) (W32_words N) (hR1.grow hb1)
  rw [num_words, hs1] at U1
  have HU := Lib.hid U1; clear U1
  refine HU.out.mono ?_; rintro e w2 ⟨rfl, hk2, hb2⟩
  have hk3 := hk1.grow (hb2.mono (by omega))
  rw [show k / 32 + (words N).length + 1 = k / 32 + ((words N).length + 1) from Nat.add_assoc _ _ _, ← List.replicate_append_replicate] at hk3
  go_wp2_with (first | (at_builtin; refine wpList_append_words rfl _ _ 44 rfl 118 i0 Tryz.underlying44 hi hz0 hz1 hz2 w.heap.size (some ⟨w.heap.size, 0, none⟩) (some ⟨w.heap.size + 1, 0, none⟩) (k / 32) (k / 32 + (words N).length + 1) ((words N).length + 1) ((words N).length + 1) (List.replicate (k / 32) 0) (digs ((words N).length + 1) (N * 2 ^ (k % 32))) rfl rfl (by simp) (by rw [digs_len]) (.inr ⟨w.heap.size, _, rfl, Nat.le_refl _, by simp; omega, by simp; omega, hk3⟩) hk2.rd (by intro h; cases h) (by omega) (by have := hb2.size; omega) ?_; intro a' c' w3 ho3 hg3 hn3))
  have hN2 : num (List.replicate (k / 32) 0 ++ digs ((words N).length + 1) (N * 2 ^ (k % 32))) = N * 2 ^ k := up_split h0' (by have := num_lt (W32_words N); rwa [num_words] at this)
  have hW2 : W32 (List.replicate (k / 32) 0 ++ digs ((words N).length + 1) (N * 2 ^ (k % 32))) := (W32.rep _).append (W32_digs _ _)
  have F1 := fits_any a' c' _ w3 (by simp [digs_len]; omega) ho3.cap hW2 ho3.rd (by rw [hN2]; exact bitLen_words_le (by rw [bitLen_mul k HZ.out]; omega))
  rw [hN2] at F1
  have hLL : (List.replicate (k / 32) 0 ++ digs ((words N).length + 1) (N * 2 ^ (k % 32))).length = k / 32 + ((words N).length + 1) := by simp [digs_len]
  rw [hLL] at F1
  have HF := Lib.hid F1; clear F1
  have HLL := Lib.hid hLL; clear hLL
  have HN2 := Lib.hid hN2; have HW2 := Lib.hid hW2; clear hN2 hW2
  refine HF.out.mono ?_; rintro e w' ⟨rfl, rfl⟩
  go_wp2
  go_ret2
  have hpre := words_num_prefix HW2.out
  have hle := words_num_len HW2.out
  rw [HN2.out] at hpre hle
  have h5 := ho3.cut hle
  rw [← hpre] at h5
  refine ⟨a', rfl, h5.shut, (hb1.trans (hb2.mono (by omega))).trans ?_⟩
  exact ⟨hg3.os, hg3.tape, hg3.output, hg3.size, fun j hj => hg3.block j (by have := hb2.size; omega) (by simp; omega)⟩
end Go.Proofs.YteahdgbokjbgcaaGreatDoor
