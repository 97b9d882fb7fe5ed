/- Contracts of package steelyardref02: Len, Low, Bit, digit, Parts. No statement of the seat is proved here. -/
import Derived.Test.YtmokomfneikipaaDoorProg
import Derived.Test.YtmokomfneikipaaDoorRb
import Derived.Test.YtmokomfneikipaaDoorRc
namespace Go.Proofs.YtmokomfneikipaaDoor
open Go.RowKit
set_option linter.unusedVariables false
set_option linter.unusedSimpArgs false

set_option maxHeartbeats 1000000 in
set_option maxRecDepth 10000 in
theorem rbit_any (a : Option Addr) (c : Nat) (l : List Nat) (j : Nat) (w : World) (hlen : l.length ≤ 70368744177664) (hj : j ≤ 9223372036854775807) (hw : W32 l) (hr : Rd w a l) :
    Calls Tryd.prog 108 #[.slice a l.length c, .int .i64 (j : Int)] w fun e w' => e = .returned (.bool ((num l).testBit j)) ∧ w = w' := by
  by_cases hlt : j / 32 < l.length
  · obtain ⟨b, off, x, rfl, hcell, hx, HX⟩ := hr.at hw hlt
    have HB := Lib.hid (num_testBit hw HX.out)
    clear hr hw
    go_enter Tryd.func108, Tryd.ntmps108
    go_wp2
    go_ret
    refine ⟨congrArg (fun b => Ending.returned (Value.bool b)) ?_, rfl⟩
    rw [HB.out]
    show (bits BinOp.and IntKind.u32 ((x : Int) / 2 ^ (j % 32)) 1 == 1) = _
    have hq : x / 2 ^ (j % 32) < 4294967296 := Nat.lt_of_le_of_lt (Nat.div_le_self _ _) hx
    have h1 := bits_and_u32_nat (x / 2 ^ (j % 32)) 1 hq (by decide)
    rw [show ((x : Int) / 2 ^ (j % 32)) = ((x / 2 ^ (j % 32) : Nat) : Int) from by simp, show (1 : Int) = ((1 : Nat) : Int) from rfl, h1, Nat.and_one_is_mod, Nat.testBit_eq_decide_div_mod_eq]
    by_cases hh : x / 2 ^ (j % 32) % 2 = 1
    · simp [hh]
    · have : x / 2 ^ (j % 32) % 2 = 0 := by omega
      rw [this]; rfl
  · have hz : (num l).testBit j = false := by
      apply Nat.testBit_lt_two_pow
      refine Nat.lt_of_lt_of_le (num_lt hw) ?_
      rw [pow32]
      exact Nat.pow_le_pow_right (by decide) (by omega)
    have HZ := Lib.hid hz; clear hz hw hr
    go_enter Tryd.func108, Tryd.ntmps108
    go_wp2
    go_ret
    exact ⟨by rw [HZ.out]; rfl, rfl⟩

theorem bitLen_half {x : Nat} (h : 0 < x) : bitLen x = bitLen (x / 2) + 1 := by
  by_cases h1 : x = 1
  · subst h1; decide
  · have := bitLen_shift x 1 (by omega)
    rw [this, Nat.pow_one]; omega

set_option maxHeartbeats 1000000 in
set_option maxRecDepth 10000 in
theorem rlen_any (a : Option Addr) (c : Nat) (l : List Nat) (w : World) (hlen : l.length ≤ 70368744177664) (hw : W32 l) (hr : Rd w a l) :
    Calls Tryd.prog 79 #[.slice a l.length c] w fun e w' => e = .returned (.int .i64 (bitLen (num l))) ∧ w = w' := by
  have hl1 := words_num_len hw
  have hR1 := hr.words hw
  have C1 := Lib.hid (rsize_any a c l w hlen hw hr)
  obtain ⟨N, hN⟩ : ∃ N, N = num l := ⟨_, rfl⟩
  rw [← hN] at C1 hl1 hR1 ⊢
  clear hN hr hw
  go_enter Tryd.func79, Tryd.ntmps79
  go_wp2_with fail
  refine C1.out.mono ?_; rintro e w' ⟨rfl, rfl⟩
  by_cases h0 : (words N).length = 0
  · have h1 : N = 0 := len_words_zero.1 h0
    have H1 := Lib.hid h1; clear h1
    go_wp2
    go_ret
    rw [H1.out]
    exact ⟨rfl, rfl⟩
  · obtain ⟨k, hk⟩ : ∃ k, (words N).length = k + 1 := ⟨(words N).length - 1, by omega⟩
    obtain ⟨b, off, x, rfl, hcell, hx, HX⟩ := hR1.at (W32_words N) (show k < _ by omega)
    have HB := Lib.hid (bitLen_words hk HX.out)
    clear hR1
    have hb8 : bitLen x ≤ 32 := bitLen_lt hx
    have hkb : k < 70368744177664 := by omega
    have hkl : k < l.length := by omega
    have hne : (((k : Int) + 1) == 0) = false := by simp; omega
    rw [hk]
    have HK := Lib.hid hk; clear hk h0
    go_wp2
    go_loop [4, 5] (fun s o => ∃ y n : Nat, o = .int .u32 y ∧ y < 4294967296 ∧ s = .int .i64 n ∧ Hid (n + bitLen y = 32 * k + bitLen x) ∧ n ≤ 32 * k + 32) (fun _ o => (intOf o).toNat)
    case atStart => exact ⟨x, 32 * k, rfl, hx, by simp, rfl, by omega⟩
    case round =>
      obtain ⟨y, n, rfl, hy, rfl, HS, hn⟩ := hrel
      by_cases hy0 : 0 < y
      · have h2 := HS.out
        have h3 := bitLen_half hy0
        have h4 : n + 1 + bitLen (y / 2) = 32 * k + bitLen x := by omega
        have H4 := Lib.hid h4
        have h5 : n + 1 ≤ 32 * k + 32 := by omega
        clear h2 h3 h4
        go_wp2
        go_round
        case rel => exact ⟨y / 2, n + 1, by simp, by omega, by go_num, H4, h5⟩
        case measure => simp [intOf]; omega
      · have hy1 : y = 0 := by omega
        subst hy1
        go_wp2
        go_ret
        refine ⟨ret1i ?_, rfl⟩
        rw [HB.out, ← HS.out, bitLen_zero]; rfl

set_option maxHeartbeats 1000000 in
set_option maxRecDepth 10000 in
theorem rlow_any (a : Option Addr) (c : Nat) (l : List Nat) (w : World) (hlen : l.length ≤ 4294967296) (hw : W32 l) (hr : Rd w a l) :
    Calls Tryd.prog 87 #[.slice a l.length c] w fun e w' => e = .returned (.int .i64 (low (num l))) ∧ w = w' := by
  have C1 := Lib.hid (rsize_any a c l w (by omega) hw hr)
  have B1 := Lib.hid (fun j hj => rbit_any a c l j w (by omega) hj hw hr)
  have hnl := num_lt hw
  rw [pow32] at hnl
  obtain ⟨N, hN⟩ : ∃ N, N = num l := ⟨_, rfl⟩
  rw [← hN] at C1 B1 hnl ⊢
  clear hN hr hw
  by_cases h0 : N = 0
  · have h1 : (words N).length = 0 := len_words_zero.2 h0
    have H1 := Lib.hid h0; clear h0 hnl
    go_enter Tryd.func87, Tryd.ntmps87
    go_wp2_with fail
    refine C1.out.mono ?_; rintro e w' ⟨rfl, rfl⟩
    go_wp2
    go_ret
    rw [H1.out, low_zero]
    exact ⟨rfl, rfl⟩
  · have h1 : (words N).length ≠ 0 := fun h => h0 (len_words_zero.1 h)
    have hne : (((words N).length : Int) == 0) = false := by simp; exact fun h => h1 (by rw [h]; rfl)
    have hlow : low N < 32 * l.length := low_le hnl h0
    obtain ⟨m, hm, hodd⟩ := low_spec h0
    have hbit : ∀ j, j < low N → N.testBit j = false := by
      intro j hj
      conv => lhs; rw [hm]
      rw [Nat.testBit_two_pow_mul]; simp; omega
    have hbit1 : N.testBit (low N) = true := by
      conv => lhs; arg 1; rw [hm]
      rw [Nat.testBit_two_pow_mul]; simp [Nat.testBit_zero, hodd]
    have HB := Lib.hid hbit; have HB1 := Lib.hid hbit1; have H0 := Lib.hid h0
    clear hbit hbit1 h0 h1 hm hodd hnl
    go_enter Tryd.func87, Tryd.ntmps87
    go_wp2_with fail
    refine C1.out.mono ?_; rintro e w' ⟨rfl, rfl⟩
    go_wp2
    go_loop [3] (fun s => ∃ j : Nat, j ≤ low N ∧ s = .int .i64 j) (fun s => low N - (intOf s).toNat)
    case atStart => exact ⟨0, Nat.zero_le _, rfl⟩
    case round =>
      obtain ⟨j, hj, rfl⟩ := hrel
      have BB := Lib.hid (B1.out j (by omega))
      by_cases hlt : j < low N
      · have hf := HB.out j hlt
        go_wp2_with fail
        refine BB.out.mono ?_; rintro e w' ⟨rfl, rfl⟩
        rw [hf]
        clear hf
        go_wp2
        go_round
        case rel => exact ⟨j + 1, by omega, by go_num⟩
        case measure => simp [intOf]; omega
      · have hjj : j = low N := by omega
        have hf := HB1.out
        rw [← hjj] at hf
        have HJ := Lib.hid hjj; clear hjj
        go_wp2_with fail
        refine BB.out.mono ?_; rintro e w' ⟨rfl, rfl⟩
        rw [hf]
        clear hf
        go_wp2
        go_ret
        exact ⟨by rw [← HJ.out]; rfl, rfl⟩

set_option maxHeartbeats 2000000 in
set_option maxRecDepth 10000 in
theorem digit_any (a b : Option Addr) (c d : Nat) (l m : List Nat) (w : World) (hlen : l.length ≤ 17592186044416) (hlen2 : m.length ≤ 17592186044416) (hw : W32 l) (hr : Rd w a l) (hw2 : W32 m) (hr2 : Rd w b m) (hlt : num l < 4294967296 * num m) :
    Calls Tryd.prog 110 #[.slice a l.length c, .slice b m.length d] w fun e w' => ∃ a' c', e = .returned (.tuple #[.int .u32 ((num l / num m : Nat) : Int), .slice a' (words (num l / num m * num m)).length c']) ∧ Own w' 64 w.heap.size a' c' (words (num l / num m * num m)) ∧ Below w.heap.size w w' := by
  have HR := Lib.hid hr; clear hr
  have HR2 := Lib.hid hr2; clear hr2
  have HW := Lib.hid hw; clear hw
  have HW2 := Lib.hid hw2; clear hw2
  have HLT := Lib.hid hlt; clear hlt
  go_enter Tryd.func110, Tryd.ntmps110
  go_wp2
  go_loopw [6, 7, 8] (fun f t s wr => ∃ (lo hi : Nat) (a' : Option Addr) (c' : Nat), f = .int .u64 lo ∧ t = .int .u64 hi ∧ s = .slice a' (words (lo * num m)).length c' ∧ lo < hi ∧ hi ≤ 4294967296 ∧ Hid (lo * num m ≤ num l ∧ num l < hi * num m) ∧ Own wr 64 w.heap.size a' c' (words (lo * num m)) ∧ Below w.heap.size w wr) (fun f t _ _ => (intOf t).toNat - (intOf f).toNat)
  case atStart => exact ⟨0, 4294967296, none, 0, rfl, rfl, by rw [Nat.zero_mul, words_zero]; rfl, by decide, by decide, ⟨by simp, HLT.out⟩, by rw [Nat.zero_mul, words_zero]; exact Own.none _ _ _, Below.refl _ _⟩
  case round =>
    obtain ⟨lo, hi, a', c', rfl, rfl, rfl, hlh, hhi, HP, ho, hbr⟩ := hrel
    have HO := Lib.hid ho; clear ho
    have hsz := hbr.size
    by_cases hgo : 1 < hi - lo
    · have hB := blk_alloc wr 64 #[.int .u32 (((lo : Int) + (hi : Int)) / 2)] [(lo + hi) / 2] (by simp)
      have hmid : (lo + hi) / 2 < 4294967296 := by omega
      have hsw := Sl.blk hB (W32.cons hmid W32.nil)
      have T1 := rtimes_any b (some ⟨wr.heap.size, 0, none⟩) d 1 m [(lo + hi) / 2] _ (by simp; omega) HW2.out ((HR2.out.grow hbr).grow ((Below.refl _ _).alloc (Nat.le_refl _) (Obj.cells #[Value.int .u32 (((lo : Int) + (hi : Int)) / 2)] 64))) hsw.w32 hsw.rd
      have hnm : num m * num [(lo + hi) / 2] = (lo + hi) / 2 * num m := by simp [num, Nat.mul_comm]
      rw [hnm, World.size_alloc] at T1
      have HT := Lib.hid T1; clear T1 hnm hB hsw
      go_wp2_with fail
      refine HT.out.mono ?_; rintro e w1 ⟨a2, c2, rfl, ho2, hb2⟩
      have hb3 : Below w.heap.size w w1 := hbr.trans (((Below.refl _ _).alloc hsz _).trans (hb2.mono (by omega)))
      have K1 := Lib.hid (rcmp_any a2 a c2 c (words ((lo + hi) / 2 * num m)) l w1 (by
        have h1 : (lo + hi) / 2 * num m < 4294967296 ^ (m.length + 1) := by
          have h2 := num_lt HW2.out
          rw [Nat.pow_succ, Nat.mul_comm]
          exact Nat.mul_lt_mul'' h2 hmid
        have := words_len_le h1; omega) (W32_words _) ho2.rd (by omega) HW.out (HR.out.grow hb3))
      rw [num_words] at K1
      go_wp2_with fail
      refine K1.out.mono ?_; rintro e w' ⟨rfl, n, rfl⟩
      have k1 := cmpN_lo ((lo + hi) / 2 * num m) (num l)
      have k2 := cmpN_hi ((lo + hi) / 2 * num m) (num l)
      by_cases hcmp : num l < (lo + hi) / 2 * num m
      · have hc : ¬ cmpN ((lo + hi) / 2 * num m) (num l) ≤ 0 := by rw [cmpN_gt hcmp]; decide
        have Hc := Lib.hid hcmp; clear hcmp
        go_wp2
        go_roundw
        case rel => exact ⟨lo, (lo + hi) / 2, a', c', rfl, by simp, rfl, by omega, by omega, ⟨HP.out.1, Hc.out⟩, (HO.out.grow (below_drewN' (((Below.refl _ _).alloc (Nat.le_refl wr.heap.size) _).trans (hb2.mono (Nat.le_succ _))))), below_drewN' hb3⟩
        case measure => simp [intOf]; omega
      · have hc : cmpN ((lo + hi) / 2 * num m) (num l) ≤ 0 := by unfold cmpN; split; decide; first | (rw [if_neg hcmp]; decide) | decide
        have Hc := Lib.hid hcmp; clear hcmp
        go_wp2
        go_roundw
        case rel => exact ⟨(lo + hi) / 2, hi, a2, c2, by simp, rfl, rfl, by omega, by omega, ⟨by have := Hc.out; omega, HP.out.2⟩, ho2.mono (by omega), below_drewN' hb3⟩
        case measure => simp [intOf]; omega
    · have h1 : hi = lo + 1 := by omega
      have h2 : num l / num m = lo := by
        obtain ⟨h3, h4⟩ := HP.out
        rw [h1] at h4
        rw [Nat.mul_comm] at h3 h4
        have hm : 0 < num m := by rcases Nat.eq_zero_or_pos (num m) with h0 | h0; rw [h0] at h4; omega; exact h0
        rw [Nat.div_eq_of_lt_le]
        · rw [Nat.mul_comm]; exact h3
        · rw [Nat.mul_comm]; exact h4
      have H2 := Lib.hid h2; clear h2 h1
      go_wp2
      go_ret2
      rw [H2.out]
      exact ⟨a', c', rfl, HO.out, hbr⟩

theorem mod_lem {q z : Nat} (h : q < 4294967296) : (q + 4294967296 * z) % 4294967296 = q ∧ (q + 4294967296 * z) / 4294967296 = z := by omega
theorem Rd.set {w : World} {a : Option Addr} {l : List Nat} (h : Rd w a l) (p : Addr) (v : Value) (hp : ∀ ad, a = some ad → ad.block ≠ p.block) : Rd (w.setCell p v) a l := fun i x hx => by
  obtain ⟨b, off, h1, h2⟩ := h i x hx
  exact ⟨b, off, h1, (World.cell?_setCell_other w p ⟨b, off + i, none⟩ v (by intro e; exact hp _ h1 (by rw [e]))).trans h2⟩
theorem Own.set {w : World} {e : TypeId} {base c : Nat} {a : Option Addr} {l : List Nat} (h : Own w e base a c l) (p : Addr) (v : Value) (hp : p.block < base) : Own (w.setCell p v) e base a c l := by
  rcases h with h | ⟨g, t, h0, h1, h2, h3, h4⟩
  · exact .inl h
  · exact .inr ⟨g, t, h0, h1, h2, h3, h4.other (by omega) v⟩
theorem parts_step {x A b : Nat} (hx : x < 4294967296) (hb : 0 < b) :
    (x + 4294967296 * A) % b = (x + 4294967296 * (A % b)) % b ∧ (x + 4294967296 * A) / b = (x + 4294967296 * (A % b)) / b + 4294967296 * (A / b) ∧ (x + 4294967296 * (A % b)) / b < 4294967296 := by
  have h1 := Nat.div_add_mod A b
  have h2 : A % b < b := Nat.mod_lt _ hb
  have e : x + 4294967296 * A = (x + 4294967296 * (A % b)) + b * (4294967296 * (A / b)) := by
    conv => lhs; rw [← h1]
    rw [Nat.mul_add, ← Nat.mul_assoc, Nat.mul_comm 4294967296 b, Nat.mul_assoc]; omega
  refine ⟨?_, ?_, ?_⟩
  · conv => lhs; rw [e]
    rw [Nat.add_mul_mod_self_left]
  · conv => lhs; rw [e]
    rw [Nat.add_mul_div_left _ _ hb]
  · apply Nat.div_lt_of_lt_mul
    have : 4294967296 * (A % b + 1) ≤ 4294967296 * b := Nat.mul_le_mul_left _ h2
    rw [Nat.mul_comm b]; omega

set_option maxHeartbeats 4000000 in
set_option maxRecDepth 10000 in
theorem parts_any (a b : Option Addr) (c d : Nat) (l m : List Nat) (w : World) (hlen : l.length ≤ 8796093022208) (hlen2 : m.length ≤ 8796093022208) (hw : W32 l) (hr : Rd w a l) (hw2 : W32 m) (hr2 : Rd w b m) (hm0 : num m ≠ 0) :
    Calls Tryd.prog 95 #[.slice a l.length c, .slice b m.length d] w fun e w' => ∃ a1 c1 a2 c2, e = .returned (.tuple #[.slice a1 (words (num l / num m)).length c1, .slice a2 (words (num l % num m)).length c2]) ∧ Own w' 64 w.heap.size a1 c1 (words (num l / num m)) ∧ Own w' 64 w.heap.size a2 c2 (words (num l % num m)) ∧ Below w.heap.size w w' := by
  obtain ⟨i0, hi, hz0, hz1, hz2⟩ := info_parts infoW
  have HR := Lib.hid hr; clear hr
  have HR2 := Lib.hid hr2; clear hr2
  have HM0 := Lib.hid (Nat.pos_of_ne_zero hm0); clear hm0
  go_enter Tryd.func95, Tryd.ntmps95
  go_wp2_with (first | (at_make; refine wpList_make_blk _ rfl _ _ 24 rfl 64 i0 Tryd.underlying24 hi hz0 hz1 hz2 _ _ _ _ l.length rfl rfl rfl rfl (by omega) ?_; intro w1 hk1 hb1 hs1))
  go_loopw [7, 8] (fun r i wr => ∃ (k : Nat) (a' : Option Addr) (c' : Nat), i = .int .i64 ((k : Int) - 1) ∧ k ≤ l.length ∧ r = .slice a' (words (num (l.drop k) % num m)).length c' ∧
      Blk wr 64 w.heap.size (List.replicate k 0 ++ digs (l.length - k) (num (l.drop k) / num m)) ∧ Own wr 64 (w.heap.size + 1) a' c' (words (num (l.drop k) % num m)) ∧ Below w.heap.size w wr ∧ w.heap.size < wr.heap.size) (fun _ i _ => (intOf i + 1).toNat)
  case atStart => exact ⟨l.length, none, 0, rfl, Nat.le_refl _, by rw [List.drop_length]; simp [num, words_zero], by rw [Nat.sub_self]; simpa [digs] using hk1, by rw [List.drop_length]; simp [num, words_zero]; exact Own.none _ _ _, hb1, by omega⟩
  case round =>
    obtain ⟨k, a', c', rfl, hk, rfl, hkr, ho, hbr, hsz⟩ := hrel
    have HO := Lib.hid ho; clear ho
    have HW := Lib.hid hw; clear hw
    have HW2 := Lib.hid hw2; clear hw2
    have HK := Lib.hid hkr; clear hkr
    cases k with
    | zero =>
      have e0 : ((0 : Nat) : Int) - 1 = -1 := rfl
      rw [e0]
      have hq := HK.out
      rw [List.replicate_zero, List.nil_append, Nat.sub_zero, List.drop_zero] at hq
      have hlt : num l / num m < 4294967296 ^ l.length := Nat.lt_of_le_of_lt (Nat.div_le_self _ _) (num_lt HW.out)
      have N1 := rnorm_any (some ⟨w.heap.size, 0, none⟩) l.length (digs l.length (num l / num m)) wr (by rw [digs_len]; omega) ⟨hq.rd, W32_digs _ _, by rw [digs_len]; omega, by intro h; cases h⟩
      rw [digs_words hlt, digs_len] at N1
      have HN := Lib.hid N1; clear N1 hq hlt
      go_wp2_with fail
      refine HN.out.mono ?_; rintro e w2 ⟨a1, c1, rfl, ho1, hb2⟩
      go_wp2
      go_ret2
      have h5 := HO.out
      rw [List.drop_zero] at h5
      exact ⟨a1, c1, a', c', rfl, ho1.mono (by omega), (h5.grow hb2).mono (by omega), hbr.trans (hb2.mono (by omega))⟩
    | succ k =>
      have e0 : ((k + 1 : Nat) : Int) - 1 = (k : Int) := by omega
      rw [e0]
      obtain ⟨ba, offa, x, ha, hcell, hx, HX⟩ := (HR.out.grow hbr).at HW.out (show k < l.length by omega)
      subst ha
      have hS := Lib.hid (parts_step (A := num (l.drop (k + 1))) hx HM0.out)
      have hD : num (l.drop k) = x + 4294967296 * num (l.drop (k + 1)) := by rw [drop_eq_cons HX.out]; rfl
      have HD := Lib.hid hD; clear hD
      obtain ⟨R, hR⟩ : ∃ R, R = num (l.drop (k + 1)) % num m := ⟨_, rfl⟩
      rw [← hR] at hS HO ⊢
      have hRm : R < num m := by rw [hR]; exact Nat.mod_lt _ HM0.out
      have hRl : (words R).length ≤ m.length := words_len_le (Nat.lt_trans hRm (num_lt HW2.out))
      have HRm := Lib.hid hRm; have HRE := Lib.hid hR; clear hRm hR
      -- next := {a[i]}; next = append(next, rest...)
      have hB := blk_alloc wr 64 #[.int .u32 (x : Int)] [x] (by simp)
      have HB := Lib.hid hB; clear hB
      have hn1 : (Below wr.heap.size wr (wr.alloc (Obj.cells #[Value.int .u32 (x : Int)] 64))) := (Below.refl _ _).alloc (Nat.le_refl _) _
      have HN1 := Lib.hid hn1; clear hn1
      go_wp2_with (first | (at_builtin; refine wpList_append_words rfl _ _ 24 rfl 64 i0 Tryd.underlying24 hi hz0 hz1 hz2 wr.heap.size (some ⟨wr.heap.size, 0, none⟩) a' 1 1 (words R).length c' [x] (words R) rfl rfl rfl rfl (Own.of HB.out (Nat.le_refl _)) (HO.out.rd.grow HN1.out) (HO.out.sl (W32_words _)).nil (by omega) (by rw [World.size_alloc]; omega) ?_; intro a2 c2 w2 ho2 hg2 hn2))
      have hb2 : Below wr.heap.size wr w2 := HN1.out.trans ⟨hg2.os, hg2.tape, hg2.output, hg2.size, fun j hj => hg2.block j (by rw [World.size_alloc]; omega) (by simp; omega)⟩
      have hnum2 : num ([x] ++ words R) = x + 4294967296 * R := by simp [num, num_words]
      have hw2 : W32 ([x] ++ words R) := W32.cons hx (W32_words R)
      have N1 := rnorm_any a2 c2 ([x] ++ words R) w2 (by simp; omega) (ho2.sl hw2)
      rw [hnum2, show ([x] ++ words R).length = 1 + (words R).length from by simp; omega] at N1
      have HN := Lib.hid N1; clear N1 hnum2 hw2
      refine HN.out.mono ?_; rintro e w3 ⟨a3, c3, rfl, ho3, hb3⟩
      have hb13 : Below wr.heap.size wr w3 := hb2.trans (hb3.mono hb2.size)
      have hs3 := hb3.size
      have hs2 := hb2.size
      obtain ⟨R2, hR2⟩ : ∃ R2, R2 = x + 4294967296 * R := ⟨_, rfl⟩
      rw [← hR2] at ho3 hS ⊢
      have hR2l : (words R2).length ≤ m.length + 1 := by
        apply words_len_le
        have h1 := num_lt HW2.out; have h2 := HRm.out
        rw [hR2, Nat.pow_succ]
        have : 4294967296 * (R + 1) ≤ 4294967296 * 4294967296 ^ m.length := Nat.mul_le_mul_left _ (by omega)
        rw [Nat.mul_comm (_ ^ _)]; omega
      have HR2E := Lib.hid hR2; clear hR2
      have C1 := Lib.hid (rcmp_any a3 b c3 d (words R2) m w3 (by omega) (W32_words _) ho3.rd (by omega) HW2.out (HR2.out.grow (hbr.trans (hb13.mono (by omega)))))
      rw [num_words] at C1
      go_wp2_with fail
      refine C1.out.mono ?_; rintro e w' ⟨rfl, n, rfl⟩
      have k1 := cmpN_lo R2 (num m)
      have k2 := cmpN_hi R2 (num m)
      have hbw : Below w.heap.size w w3 := hbr.trans (hb13.mono (by omega))
      obtain ⟨s1, s2, s3⟩ := hS.out
      have hdg : digs (l.length - k) (num (l.drop k) / num m) = R2 / num m :: digs (l.length - (k + 1)) (num (l.drop (k + 1)) / num m) := by
        rw [HD.out, s2, show l.length - k = (l.length - (k + 1)) + 1 by omega]
        simp only [digs]
        rw [(mod_lem s3).1, (mod_lem s3).2]
      have hq3 : Blk w3 64 w.heap.size (List.replicate k 0 ++ 0 :: digs (l.length - (k + 1)) (num (l.drop (k + 1)) / num m)) := by
        have := (HK.out.grow hb13)
        rw [List.replicate_succ', List.append_assoc] at this
        exact this
      have HDG := Lib.hid hdg; have HQ3 := Lib.hid hq3; have HS1 := Lib.hid s1; clear hdg hq3 s1 s2 s3 hS
      by_cases hcmp : R2 < num m
      · have hc : ¬ 0 ≤ cmpN R2 (num m) := by rw [cmpN_lt hcmp]; decide
        have Hc := Lib.hid hcmp; clear hcmp
        go_wp2
        go_roundw
        case rel =>
          have e1 : num (l.drop k) % num m = R2 := by rw [HD.out, HS1.out, Nat.mod_eq_of_lt Hc.out]
          have e2 : R2 / num m = 0 := Nat.div_eq_of_lt Hc.out
          refine ⟨k, a3, c3, rfl, by omega, by rw [e1], ?_, by rw [e1]; exact ho3.mono (by omega), below_drewN' hbw, by simp; omega⟩
          rw [HDG.out, e2]; exact HQ3.out
        case measure => simp [intOf]
      · have hc : 0 ≤ cmpN R2 (num m) := by unfold cmpN; rw [if_neg hcmp]; split <;> decide
        have D1 := Lib.hid (digit_any a3 b c3 d (words R2) m (w3.drewN n) (by omega) (by omega) (W32_words _) ho3.rd HW2.out (HR2.out.grow (below_drewN' hbw)) (by
          rw [num_words, HR2E.out]
          have h2 := HRm.out
          have : 4294967296 * (R + 1) ≤ 4294967296 * num m := Nat.mul_le_mul_left _ h2
          omega))
        rw [num_words] at D1
        have Hc := Lib.hid hcmp; clear hcmp
        go_wp2_with fail
        refine D1.out.mono ?_; rintro e w4 ⟨a4, c4, rfl, ho4, hb4⟩
        have hq4 : Blk w4 64 w.heap.size (List.replicate k 0 ++ 0 :: digs (l.length - (k + 1)) (num (l.drop (k + 1)) / num m)) := HQ3.out.grow (below_drewN hb4)
        have hc4 := hq4.midCell (i := k) (by simp)
        have hf4 := hq4.frozen k
        have hs4 := hb4.size
        have hs4' : w3.heap.size ≤ w4.heap.size := hs4
        have HQ5 := Lib.hid (hq4.midSet (i := k) (by simp) (R2 / num m) (v := ((R2 / num m : Nat) : Int)) rfl)
        have hb34 : Below w3.heap.size w3 w4 := below_drewN hb4
        have hmul : R2 / num m * num m ≤ R2 := Nat.div_mul_le_self _ _
        have M1 := (rminus_any a3 a4 c3 c4 (words R2) (words (R2 / num m * num m)) (w4.setCell ⟨w.heap.size, k, none⟩ (.int .u32 ((R2 / num m : Nat) : Int))) (by omega) (by
            have := words_len_of_le hmul; omega) (W32_words _) ((ho3.grow hb34).set _ _ (by simp; omega)).rd (W32_words _) (ho4.set _ _ (by simp; omega)).rd (by rw [num_words, num_words]; exact hmul))
        rw [num_words, num_words, World.size_setCell] at M1
        have HM := Lib.hid M1; clear M1 hmul hq4
        obtain ⟨D, hD⟩ : ∃ D, D = R2 / num m := ⟨_, rfl⟩
        rw [← hD] at HQ5 HM HDG ⊢
        rw [← hD] at ho4
        have HDD := Lib.hid hD; clear hD
        go_wp2_with fail
        refine HM.out.mono ?_; rintro e w5 ⟨a5, c5, rfl, ho5, hb5⟩
        go_wp2
        go_roundw
        case rel =>
          have e1 : num (l.drop k) % num m = R2 - D * num m := by
            rw [HD.out, HS1.out, HDD.out]
            have := Nat.div_add_mod R2 (num m)
            rw [Nat.mul_comm] at this; omega
          have hb6 : Below w.heap.size w (w4.setCell ⟨w.heap.size, k, none⟩ (.int .u32 (D : Int))) := (hbw.trans (hb34.mono (by omega))).setCell (Nat.le_refl _) _
          refine ⟨k, a5, c5, rfl, by omega, by rw [e1], ?_, by rw [e1]; exact ho5.mono (by omega), hb6.trans (hb5.mono (by omega)), by have := hb5.size; simp at this; omega⟩
          rw [HDG.out]
          exact HQ5.out.below hb5 (by omega)
        case measure => simp [intOf]
end Go.Proofs.YtmokomfneikipaaDoor
