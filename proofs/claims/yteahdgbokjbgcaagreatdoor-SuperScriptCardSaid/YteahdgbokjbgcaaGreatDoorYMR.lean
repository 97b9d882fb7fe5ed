/- Contracts of package dyad: lower. Contracts of package steelyardref02: size, Norm, Of, Cmp, at, Len, Low, Bit. Contracts of package steelyardref02: Plus, Minus, Times. Contracts of package steelyardref02: Times. Contracts of package steelyardref02: Len, Low, Bit, digit, Parts. Contracts of package steelyardref02: Moved. No statement of the seat is proved here. -/
import Derived.Test.YteahdgbokjbgcaaGreatDoorProg
import Derived.Test.YteahdgbokjbgcaaGreatDoorYMW
namespace Go.Proofs.YteahdgbokjbgcaaGreatDoor
open Go.RowKit
set_option linter.unusedVariables false
set_option linter.unusedSimpArgs false

theorem lower_lem {x y by_ : Nat} (hb : by_ < 32) (hb0 : 0 < by_) (hx : x < 4294967296) (hy : y < 4294967296) :
    x / 2 ^ by_ ||| (y * 2 ^ (32 - by_) % 4294967296) = (x + 4294967296 * y) / 2 ^ by_ % 4294967296 ∧ x / 2 ^ by_ < 4294967296 ∧ (x + 4294967296 * 0) / 2 ^ by_ % 4294967296 = x / 2 ^ by_ := by
  obtain ⟨d, hd⟩ : ∃ d, d = 2 ^ (32 - by_) := ⟨_, rfl⟩
  have hP : 4294967296 = 2 ^ by_ * d := by rw [hd, ← Nat.pow_add, show by_ + (32 - by_) = 32 by omega]
  have hp := Nat.two_pow_pos by_
  have h1 : x / 2 ^ by_ < d := Nat.div_lt_of_lt_mul (by rw [← hP]; exact hx)
  have h2 : (y * d % 4294967296) % d = 0 := by
    rw [hP, Nat.mul_comm y d, Nat.mul_comm (2 ^ by_) d, Nat.mul_mod_mul_left]; exact Nat.mul_mod_right _ _
  have h3 : (x + 4294967296 * y) / 2 ^ by_ = x / 2 ^ by_ + d * y := by
    rw [hP, Nat.mul_assoc, Nat.add_mul_div_left _ _ hp]
  have h4 : x / 2 ^ by_ ≤ x := Nat.div_le_self _ _
  rw [← hd]
  refine ⟨?_, by omega, by rw [Nat.mul_zero, Nat.add_zero, Nat.mod_eq_of_lt (by omega)]⟩
  rw [hd] at h1 h2
  rw [hd, or_add h1 h2, h3, ← hd]
  have h5 : y * d % 4294967296 + d ≤ 4294967296 := by
    have e : y * d % 4294967296 = d * (y % 2 ^ by_) := by rw [hP, Nat.mul_comm y d, Nat.mul_comm (2 ^ by_) d, Nat.mul_mod_mul_left]
    rw [e]
    have : y % 2 ^ by_ + 1 ≤ 2 ^ by_ := Nat.mod_lt _ hp
    have := Nat.mul_le_mul_left d this
    rw [Nat.mul_add, Nat.mul_one, Nat.mul_comm d (2 ^ by_), ← hP] at this
    exact this
  rw [← hd] at h1
  rw [Nat.mul_comm d y]
  generalize y * d = z at *
  generalize x / 2 ^ by_ = u at *
  omega

set_option maxRecDepth 10000 in
set_option maxHeartbeats 400000 in
theorem lower_any (a : Option Addr) (c : Nat) (l : List Nat) (by_ : Nat) (w : World) (hlen : l.length ≤ 70368744177664) (hl0 : 0 < l.length) (hlast : words (num l) = l) (hb : by_ < 32) (hw : W32 l) (hr : Rd w a l) :
    Calls Tryz.prog 294 #[.slice a l.length c, .int .i64 (by_ : Int)] w fun e w' => ∃ a', e = .returned (.slice a' (words (num l / 2 ^ by_)).length (words (num l / 2 ^ by_)).length) ∧ Own w' 118 w.heap.size a' (words (num l / 2 ^ by_)).length (words (num l / 2 ^ by_)) ∧ Below w.heap.size w w' := by
  obtain ⟨i0, hi, hz0, hz1, hz2⟩ := info_parts infoW
  obtain ⟨L, hL⟩ : ∃ L, L = digs l.length (num l / 2 ^ by_) := ⟨_, rfl⟩
  have hLl : L.length = l.length := by rw [hL, digs_len]
  have hLw : W32 L := by rw [hL]; exact W32_digs _ _
  have hLn : num L = num l / 2 ^ by_ := by
    rw [hL, num_digs_lt (Nat.lt_of_le_of_lt (Nat.div_le_self _ _) (num_lt hw))]
  have hLL : words (num L) = L.take (words (num L)).length := words_num_prefix hLw
  rw [← hLn]
  have HL := Lib.hid hL; clear hL
  have HLl := Lib.hid hLl; clear hLl
  have HLw := Lib.hid hLw; clear hLw
  have HLn := Lib.hid hLn; clear hLn
  have HLL := Lib.hid hLL; clear hLL
  have Hlast := Lib.hid hlast; clear hlast
  go_enter Tryz.func294, Tryz.ntmps294
  go_wp2_with (first | (at_make; refine wpList_make_blk _ rfl _ _ 44 rfl 118 i0 Tryz.underlying44 hi hz0 hz1 hz2 _ _ _ _ l.length rfl rfl rfl rfl (by omega) ?_; intro w1 hk1 hb1 hs1))
  go_loopw [14] (fun s wr => ∃ k : Nat, k ≤ l.length ∧ s = .int .i64 k ∧ Blk wr 118 w.heap.size (fillTo L k) ∧ Below w.heap.size w wr) (fun s _ => l.length - (intOf s).toNat)
  case atStart => exact ⟨0, Nat.zero_le _, rfl, by rw [fillTo_zero, HLl.out]; exact hk1, hb1⟩
  case round =>
    obtain ⟨k, hk, rfl, hkr, hbr⟩ := hrel
    have HW := Lib.hid hw; clear hw
    by_cases hlt : k < l.length
    · obtain ⟨b, off, x, rfl, hcell, hx, HX⟩ := (hr.grow hbr).at HW.out hlt
      obtain ⟨y, hy, hy2, HY⟩ := hkr.at (W32_fillTo HLw.out k) (show k < _ by rw [fillTo_len _ _ (by rw [HLl.out]; exact hk), HLl.out]; exact hlt)
      have hf1 := hkr.frozen k
      have hkf : Blk (wr.setCell ⟨w.heap.size, k, none⟩ (.int .u32 ((x / 2 ^ by_ : Nat) : Int))) 118 w.heap.size ((fillTo L k).set k (x / 2 ^ by_)) := hkr.set k _
      by_cases hlt1 : k + 1 < l.length ∧ 0 < by_
      · obtain ⟨hlt1, hby⟩ := hlt1
        obtain ⟨b', off', x', hbb, hcell', hx', HX'⟩ := (hr.grow hbr).at HW.out hlt1
        simp only [Option.some.injEq, Addr.mk.injEq, and_true] at hbb
        obtain ⟨rfl, rfl⟩ := hbb
        have HR := Lib.hid hr; clear hr
        have hll := lower_lem hb hby hx hx'
        have hd : L[k]? = some (((x + 4294967296 * x') / 2 ^ by_ % 4294967296)) := by
          rw [HL.out, digs_get _ hlt, down_word (y := x') HW.out hb HX.out (by rw [List.getD_eq_getElem?_getD, HX'.out]; rfl)]
        have HD := Lib.hid hd; clear hd
        have HKF := Lib.hid hkf; clear hkf
        have HLEM := Lib.hid hll; clear hll
        have g1 : IntKind.i64.wrap ((k : Int) + 1) = ((k + 1 : Nat) : Int) := by rw [IntKind.wrap_i64]; omega
        have g2 : IntKind.i64.wrap (32 - (by_ : Int)) = ((32 - by_ : Nat) : Int) := by rw [IntKind.wrap_i64]; omega
        have g3 : (32 - (by_ : Int)).toNat = 32 - by_ := by omega
        have g4 : ((k : Int) + 1).toNat = k + 1 := by omega
        go_wp2
        go_region
        go_wp2
        go_roundw
        case rel =>
          refine ⟨k + 1, by omega, by go_num, ?_, ((hbr.setCell (Nat.le_refl _) _).setCell (Nat.le_refl _) _).drew⟩
          obtain ⟨m1, m2, m3⟩ := HLEM.out
          have e0 : ((x : Int) / 2 ^ by_) = ((x / 2 ^ by_ : Nat) : Int) := by simp
          have e1 : ((x' : Int) * 2 ^ (32 - by_) % 4294967296) = ((x' * 2 ^ (32 - by_) % 4294967296 : Nat) : Int) := by simp
          rw [e0, e1, bits_or_u32_nat _ _ m2 (Nat.mod_lt _ (by decide)), m1]
          have := HKF.out.set k ((x + 4294967296 * x') / 2 ^ by_ % 4294967296)
          rw [List.set_set, fillTo_set HD.out] at this
          exact this.drew
        case measure => simp [intOf]; omega
      · have HR := Lib.hid hr; clear hr
        have hd : L[k]? = some (x / 2 ^ by_) := by
          rcases Nat.eq_zero_or_pos by_ with h0 | h0
          · rw [HL.out, digs_get _ hlt, h0, Nat.pow_zero, Nat.div_one, Nat.div_one, num_get HW.out HX.out]
          · have h1 := lower_lem hb h0 hx hx
            rw [HL.out, digs_get _ hlt, down_word (y := 0) HW.out hb HX.out (by rw [List.getD_eq_getElem?_getD, List.getElem?_eq_none (by omega)]; rfl), h1.2.2]
        have HD := Lib.hid hd; clear hd
        have hno : (by_ = 0 ∧ k + 1 < l.length) ∨ (by_ = 0 ∧ ¬ (k + 1 < l.length)) ∨ (0 < by_ ∧ ¬ (k + 1 < l.length)) := by omega
        rcases hno with ⟨h, h2⟩ | ⟨h, h2⟩ | ⟨h, h2⟩
        all_goals
          go_wp2
          go_roundw
          case rel => exact ⟨k + 1, by omega, by go_num, hkr.fill rfl HD.out (by first | (simp; done) | (rw [h]; simp)), hbr.setCell (Nat.le_refl _) _⟩
          case measure => simp [intOf]; omega
    · obtain rfl : k = l.length := by omega
      obtain ⟨n1, hn1⟩ : ∃ n1, l.length = n1 + 1 := ⟨l.length - 1, by omega⟩
      have hkr2 : Blk wr 118 w.heap.size L := by rw [← HLl.out, fillTo_all] at hkr; exact hkr
      obtain ⟨y, hy, hy2, HY⟩ := hkr2.at HLw.out (show n1 < L.length by rw [HLl.out]; omega)
      have HK := Lib.hid hkr2; clear hkr2 hkr
      rw [hn1]
      have hge : 4294967296 ^ n1 ≤ num l := by
        rcases Nat.lt_or_ge (num l) (4294967296 ^ n1) with h | h
        · have := words_len_le h; rw [Hlast.out] at this; omega
        · exact h
      have hlen1 : n1 ≤ (words (num L)).length := by
        cases n1 with
        | zero => omega
        | succ j =>
          refine words_len_gt ?_
          rw [HLn.out, Nat.le_div_iff_mul_le (Nat.two_pow_pos _)]
          refine Nat.le_trans ?_ hge
          rw [Nat.pow_succ]
          have h2 : 2 ^ by_ ≤ 4294967296 := by
            have := Nat.pow_le_pow_right (show 0 < 2 by decide) (show by_ ≤ 32 by omega); simpa using this
          exact Nat.mul_le_mul_left _ h2
      have hlen2 : y = 0 → (words (num L)).length ≤ n1 := fun h => by
        refine words_len_le ?_
        have h3 := num_take_zero HY.out h
        rw [List.take_of_length_le (by rw [HLl.out]; omega)] at h3
        rw [h3]; exact num_take_lt HLw.out _
      have hlen3 : y ≠ 0 → words (num L) = L := fun h => by
        have h3 := words_take_pos HLw.out HY.out h
        rw [List.take_of_length_le (by rw [HLl.out]; omega)] at h3
        exact h3
      have H1 := Lib.hid hlen1; have H2 := Lib.hid hlen2; have H3 := Lib.hid hlen3; clear hlen1 hlen2 hlen3 hge
      by_cases hy0 : y = 0
      · subst hy0
        have e := Nat.le_antisymm (H2.out rfl) H1.out
        go_wp2
        go_ret
        have hO := (Own.of HK.out (Nat.le_refl w.heap.size)).cut (k := n1) (by rw [HLl.out]; omega)
        have hO2 := hO.shut
        rw [show L.take n1 = words (num L) from by rw [HLL.out, e]] at hO2
        rw [e] at hO2
        exact ⟨_, rfl, hO2, hbr⟩
      · have e := H3.out hy0
        go_wp2
        go_ret
        rw [e]
        have hO := Own.of HK.out (Nat.le_refl w.heap.size)
        rw [HLl.out, hn1] at hO ⊢
        exact ⟨_, rfl, hO, hbr⟩
end Go.Proofs.YteahdgbokjbgcaaGreatDoor
namespace Go.Proofs.YteahdgbokjbgcaaGreatDoor
open Go.RowKit
set_option linter.unusedVariables false
set_option linter.unusedSimpArgs false

set_option maxHeartbeats 400000 in
theorem rsize_any (a : Option Addr) (c : Nat) (l : List Nat) (w : World) (hlen : l.length ≤ 70368744177664) (hw : W32 l) (hr : Rd w a l) :
    Calls Tryz.prog 261 #[.slice a l.length c] w fun e w' => e = .returned (.int .i64 (words (num l)).length) ∧ w = w' := by
  go_enter Tryz.func261, Tryz.ntmps261
  go_wp2
  go_loop [3] (fun s => ∃ k : Nat, k ≤ l.length ∧ s = .int .i64 k ∧ num (l.take k) = num l) (fun s => (intOf s).toNat)
  case atStart => exact ⟨l.length, Nat.le_refl _, rfl, by simp⟩
  case round =>
    obtain ⟨k, hk, rfl, ht⟩ := hrel
    have HT := Lib.hid ht; clear ht
    have HW := Lib.hid hw; clear hw
    cases k with
    | zero =>
      have e0 : ((0 : Nat) : Int) = 0 := rfl
      rw [e0]
      go_wp2
      go_ret
      refine ⟨?_, rfl⟩
      rw [← HT.out]; simp [num, words_zero]
    | succ k =>
      obtain ⟨b, off, x, rfl, hcell, hx, HX⟩ := hr.at HW.out (show k < l.length by omega)
      clear hr
      go_wp2
      · have h : ((x : Int) == 0) = true := by assumption
        have h0 : x = 0 := by simpa using h
        go_round
        case rel => exact ⟨k, by omega, rfl, by rw [← HT.out, num_take_zero HX.out h0]⟩
        case measure => simp [intOf]
      · have h : ((x : Int) == 0) = false := by assumption
        have h0 : x ≠ 0 := by simpa using h
        go_ret
        refine ⟨?_, rfl⟩
        rw [← HT.out, words_take_pos HW.out HX.out h0, List.length_take, Nat.min_eq_left hk]; rfl

set_option maxHeartbeats 400000 in
theorem rnorm_any (a : Option Addr) (c : Nat) (l : List Nat) (w : World) (hlen : l.length ≤ 35184372088832) (hs : Sl w a c l) :
    Calls Tryz.prog 238 #[.slice a l.length c] w fun e w' => ∃ a' c', e = .returned (.slice a' (words (num l)).length c') ∧ Own w' 118 w.heap.size a' c' (words (num l)) ∧ Below w.heap.size w w' := by
  obtain ⟨i0, hi, hz0, hz1, hz2⟩ := info_parts infoW
  have S1 := Lib.hid (rsize_any a c l w (by omega) hs.w32 hs.rd)
  have hl1 := words_num_len hs.w32
  have hcap := hs.cap
  have H1 := hs.words
  obtain ⟨W, hW⟩ : ∃ W, W = words (num l) := ⟨_, rfl⟩
  rw [← hW] at S1 hl1 H1 ⊢
  have HS := Lib.hid hs; clear hs hW
  go_enter Tryz.func238, Tryz.ntmps238
  go_wp2_with fail
  refine S1.out.mono ?_; rintro e w' ⟨rfl, rfl⟩
  go_wp2_with (first | (at_builtin; refine wpList_append_words rfl _ _ 44 rfl 118 i0 Tryz.underlying44 hi hz0 hz1 hz2 w.heap.size none a 0 0 W.length c [] W rfl rfl rfl rfl (Own.none _ _ _) H1.rd H1.nil (by omega) (Nat.le_refl _) ?_; intro a' c' w1 ho hg hn))
  simp only [Nat.zero_add, List.nil_append] at ho ⊢
  go_wp2
  go_ret
  exact ⟨a', c', rfl, ho, ⟨hg.os, hg.tape, hg.output, hg.size, fun k hk => hg.block k hk (by simp)⟩⟩

set_option maxHeartbeats 400000 in
theorem rof_any (n : Nat) (w : World) (hn : n < 18446744073709551616) :
    Calls Tryz.prog 126 #[.int .u64 (n : Int)] w fun e w' => ∃ a' c', e = .returned (.slice a' (words n).length c') ∧ Own w' 118 w.heap.size a' c' (words n) ∧ Below w.heap.size w w' := by
  go_enter Tryz.func126, Tryz.ntmps126
  go_wp2_with fail
  have hB := blk_alloc w 118 #[Value.int .u32 ((n : Int) % 4294967296), Value.int .u32 ((n : Int) / 4294967296)] [n % 4294967296, n / 4294967296] (by simp)
  have hN := rnorm_any (some ⟨w.heap.size, 0, none⟩) 2 [n % 4294967296, n / 4294967296] _ (by simp) (Sl.blk hB (W32.cons (by omega) (W32.cons (by omega) W32.nil)))
  rw [num_two n] at hN
  refine hN.mono ?_
  rintro e w' ⟨a', c', rfl, ho, hb⟩
  rw [World.size_alloc] at ho hb
  clear hN hB
  go_wp2
  go_ret
  exact ⟨a', c', rfl, ho.mono (by omega), ((Below.refl _ _).alloc (Nat.le_refl _) _).trans (hb.mono (by omega))⟩

set_option maxHeartbeats 1000000 in
set_option maxRecDepth 10000 in
theorem rcmp_any (a b : Option Addr) (c d : Nat) (l m : List Nat) (w : World) (hlen : l.length ≤ 70368744177664) (hw : W32 l) (hr : Rd w a l) (hlen2 : m.length ≤ 70368744177664) (hw2 : W32 m) (hr2 : Rd w b m) :
    Calls Tryz.prog 187 #[.slice a l.length c, .slice b m.length d] w fun e w' => e = .returned (.int .i64 (cmpN (num l) (num m))) ∧ ∃ n, w' = w.drewN n := by
  have hl1 := words_num_len hw
  have hl2 := words_num_len hw2
  have hR1 := Lib.hid (hr.words hw)
  have hR2 := Lib.hid (hr2.words hw2)
  obtain ⟨N, hN⟩ : ∃ N, N = num l := ⟨_, rfl⟩
  obtain ⟨M, hM⟩ : ∃ M, M = num m := ⟨_, rfl⟩
  have c1 := rsize_any a c l w hlen hw hr
  have c2 := rsize_any b d m w hlen2 hw2 hr2
  rw [← hN] at c1 hl1 hR1
  rw [← hM] at c2 hl2 hR2
  rw [← hN, ← hM]
  have C1 := Lib.hid c1; clear c1
  have C2 := Lib.hid c2; clear c2
  clear hr hr2 hw hw2 hN hM
  go_enter Tryz.func187, Tryz.ntmps187
  go_wp2_with fail
  refine C1.out.mono ?_; rintro e w' ⟨rfl, rfl⟩
  go_wp2_with fail
  refine C2.out.mono ?_; rintro e w' ⟨rfl, rfl⟩
  rcases Nat.lt_trichotomy (words N).length (words M).length with h | h | h
  · have hne : (((words N).length : Int) != ((words M).length : Int)) = true := by simp; omega
    go_wp2
    go_ret
    exact ⟨by rw [cmpN_lt (words_len_mono h)]; rfl, 0, rfl⟩
  · have hne : (((words N).length : Int) != ((words M).length : Int)) = false := by simp; omega
    have H := Lib.hid h; clear h
    go_wp2
    go_loopw [5] (fun s wr => ∃ (k n : Nat), wr = w.drewN n ∧ k ≤ (words N).length ∧ s = .int .i64 ((k : Int) - 1) ∧ Hid ((words N).drop k = (words M).drop k)) (fun s _ => (intOf s + 1).toNat)
    case atStart => exact ⟨(words N).length, 0, rfl, Nat.le_refl _, rfl, by unfold Hid; rw [List.drop_length, H.out, List.drop_length]⟩
    case round =>
      obtain ⟨k, n, rfl, hk, rfl, HD⟩ := hrel
      cases k with
      | zero =>
        have e0 : ((0 : Nat) : Int) - 1 = -1 := rfl
        rw [e0]
        go_wp2
        go_ret
        refine ⟨?_, n, rfl⟩
        have : N = M := words_inj (by simpa [Hid] using HD.out)
        rw [cmpN_eq this]; rfl
      | succ k =>
        have e0 : ((k + 1 : Nat) : Int) - 1 = (k : Int) := by omega
        rw [e0]
        obtain ⟨ba, offa, x, ha, hca, hx, HX⟩ := hR1.out.at (W32_words N) (show k < _ by omega)
        obtain ⟨bb, offb, y, hb, hcb, hy, HY⟩ := hR2.out.at (W32_words M) (show k < _ by have := H.out; omega)
        subst ha hb
        have hk2 : k < l.length := by omega
        have hk3 : k < m.length := by have := H.out; omega
        have HR1 := Lib.hid hR1; clear hR1
        have HR2 := Lib.hid hR2; clear hR2
        rcases Nat.lt_trichotomy x y with hxy | hxy | hxy
        · go_wp2
          go_quiet (fail)
          go_wp2
          go_ret
          refine ⟨?_, _, by simp only [World.drewN_drewN]; rfl⟩
          have := num_digit_lt (W32_words N) HX.out HY.out HD.out hxy
          rw [num_words, num_words] at this
          rw [cmpN_lt this]; rfl
        · subst hxy
          go_wp2
          go_quiet (fail)
          go_wp2
          go_quiet (fail)
          go_wp2
          go_roundw
          case rel => exact ⟨k, _, rfl, by omega, rfl, by unfold Hid; rw [drop_eq_cons HX.out, drop_eq_cons HY.out, HD.out]⟩
          case measure => simp [intOf]
        · have hyx : ¬ x < y := by omega
          go_wp2
          go_quiet (fail)
          go_wp2
          go_quiet (fail)
          go_wp2
          go_ret
          refine ⟨?_, _, by simp only [World.drewN_drewN]; rfl⟩
          have := num_digit_lt (W32_words M) HY.out HX.out HD.out.symm hxy
          rw [num_words, num_words] at this
          rw [cmpN_gt this]; rfl
  · have hne : (((words N).length : Int) != ((words M).length : Int)) = true := by simp; omega
    have h1 : ¬ (words N).length < (words M).length := by omega
    go_wp2
    go_ret
    exact ⟨by rw [cmpN_gt (words_len_mono h)]; rfl, 0, rfl⟩

theorem rat_any (a : Option Addr) (c : Nat) (l : List Nat) (k x : Nat) (w : World) (hlen : l.length ≤ 70368744177664) (hk : k ≤ 9223372036854775807) (hw : W32 l) (hr : Rd w a l) (hx : l.getD k 0 = x) :
    Calls Tryz.prog 260 #[.slice a l.length c, .int .i64 (k : Int)] w fun e w' => e = .returned (.int .u64 (x : Int)) ∧ w = w' := by
  by_cases h : k < l.length
  · obtain ⟨b, off, y, rfl, hcell, hy, HY⟩ := hr.at hw h
    have : y = x := by rw [List.getD_eq_getElem?_getD, HY.out] at hx; exact hx
    subst this
    clear hr hw hx
    go_enter Tryz.func260, Tryz.ntmps260
    go_wp2
    go_ret
    exact ⟨rfl, rfl⟩
  · have : x = 0 := by rw [List.getD_eq_getElem?_getD, List.getElem?_eq_none (by omega)] at hx; exact hx.symm
    subst this
    clear hr hw hx
    go_enter Tryz.func260, Tryz.ntmps260
    go_wp2
    go_ret
    exact ⟨rfl, rfl⟩
end Go.Proofs.YteahdgbokjbgcaaGreatDoor
namespace Go.Proofs.YteahdgbokjbgcaaGreatDoor
open Go.RowKit
set_option linter.unusedVariables false
set_option linter.unusedSimpArgs false

theorem getD_take_succ {l : List Nat} {k x : Nat} (hx : l.getD k 0 = x) : num (l.take (k + 1)) = num (l.take k) + 4294967296 ^ k * x := by
  by_cases h : k < l.length
  · have : l[k]? = some x := by rw [List.getD_eq_getElem?_getD, List.getElem?_eq_getElem h] at hx; rw [List.getElem?_eq_getElem h]; simpa using hx
    exact num_take_succ this
  · have : x = 0 := by rw [List.getD_eq_getElem?_getD, List.getElem?_eq_none (by omega)] at hx; exact hx.symm
    rw [List.take_of_length_le (by omega), List.take_of_length_le (by omega), this]; simp

theorem plus_step {p : List Nat} {x y o k A : Nat} (hp : p.length = k) (hA : num p + o * 4294967296 ^ k = A) :
    num (p ++ [(x + y + o) % 4294967296]) + (x + y + o) / 4294967296 * 4294967296 ^ (k + 1) = A + 4294967296 ^ k * (x + y) := by
  have e1 := Nat.div_add_mod (x + y + o) 4294967296
  rw [num_append, hp, Nat.pow_succ, ← hA]
  simp only [num]
  generalize (x + y + o) % 4294967296 = r at *
  generalize (x + y + o) / 4294967296 = q at *
  generalize 4294967296 ^ k = P at *
  have e5 : P * (4294967296 * q + r) = P * (x + y + o) := by rw [e1]
  grind

set_option maxHeartbeats 2000000 in
set_option maxRecDepth 10000 in
theorem rplus_any (a b : Option Addr) (c d : Nat) (l m : List Nat) (w : World) (hlen : l.length ≤ 17592186044416) (hlen2 : m.length ≤ 17592186044416) (hw : W32 l) (hr : Rd w a l) (hw2 : W32 m) (hr2 : Rd w b m) :
    Calls Tryz.prog 186 #[.slice a l.length c, .slice b m.length d] w fun e w' => ∃ a' c', e = .returned (.slice a' (words (num l + num m)).length c') ∧ Own w' 118 w.heap.size a' c' (words (num l + num m)) ∧ Below w.heap.size w w' := by
  obtain ⟨i0, hi, hz0, hz1, hz2⟩ := info_parts infoW
  have HR := Lib.hid hr; clear hr
  have HR2 := Lib.hid hr2; clear hr2
  have HW := Lib.hid hw; clear hw
  have HW2 := Lib.hid hw2; clear hw2
  go_enter Tryz.func186, Tryz.ntmps186
  go_wp2
  go_loopw [5, 6, 7] (fun s o i wr => ∃ (k over : Nat) (a' : Option Addr) (c' : Nat) (p : List Nat), i = .int .i64 k ∧ o = .int .u64 over ∧ s = .slice a' k c' ∧ over ≤ 1 ∧ (k ≤ l.length ∨ k ≤ m.length ∨ k = max l.length m.length + 1) ∧ Hid (p.length = k ∧ W32 p ∧ num p + over * 4294967296 ^ k = num (l.take k) + num (m.take k)) ∧ (k = max l.length m.length + 1 → over = 0) ∧ Own wr 118 w.heap.size a' c' p ∧ Below w.heap.size w wr) (fun _ _ i _ => l.length + m.length + 1 - (intOf i).toNat)
  case atStart => exact ⟨0, 0, none, 0, [], rfl, rfl, rfl, by decide, .inl (Nat.zero_le _), ⟨rfl, W32.nil, by simp [num]⟩, fun _ => rfl, Own.none _ _ _, Below.refl _ _⟩
  case round =>
    obtain ⟨k, over, a', c', p, rfl, rfl, rfl, ho1, hk, HP, hk0, ho, hbr⟩ := hrel
    have hkb : k ≤ l.length + m.length + 1 := by omega
    have HK0 := Lib.hid hk0; clear hk0
    have HO := Lib.hid ho; clear ho
    have HK := Lib.hid hk; clear hk
    by_cases hgo : k < l.length ∨ k < m.length ∨ 0 < over
    · obtain ⟨x, hx⟩ : ∃ x, l.getD k 0 = x := ⟨_, rfl⟩
      obtain ⟨y, hy⟩ : ∃ y, m.getD k 0 = y := ⟨_, rfl⟩
      have hx4 : x < 4294967296 := by rw [← hx]; exact HW.out.getD k
      have hy4 : y < 4294967296 := by rw [← hy]; exact HW2.out.getD k
      have A1 := Lib.hid (rat_any a c l k x wr (by omega) (by omega) HW.out (HR.out.grow hbr) hx)
      have A2 := Lib.hid (rat_any b d m k y wr (by omega) (by omega) HW2.out (HR2.out.grow hbr) hy)
      have Hx := Lib.hid hx; have Hy := Lib.hid hy; clear hx hy
      have hkm : k ≤ max l.length m.length := by
        have h1 := HK.out; have h2 := HK0.out; omega
      have hsz := hbr.size
      have fin : ∀ (K : Prop), (∀ a2 c2 w2, Own w2 118 w.heap.size a2 c2 (p ++ [(x + y + over) % 4294967296]) → (wr.alloc (.cells #[.int .u32 (((x : Int) + (y : Int) + (over : Int)) % 4294967296)] 118)).grownBy w2 (a'.map (·.block)) → K) → True := fun _ _ => trivial
      clear fin
      have hB := blk_alloc wr 118 #[.int .u32 (((x : Int) + (y : Int) + (over : Int)) % 4294967296)] [(x + y + over) % 4294967296] (by simp)
      have HB := Lib.hid hB; clear hB
      rcases (show k < l.length ∨ (¬ k < l.length ∧ k < m.length) ∨ (¬ k < l.length ∧ ¬ k < m.length ∧ 0 < over) by omega) with h1 | ⟨h1, h2⟩ | ⟨h1, h2, h3⟩
      all_goals
        go_wp2_with fail
        refine A1.out.mono ?_; rintro e w' ⟨rfl, rfl⟩
        go_wp2_with fail
        refine A2.out.mono ?_; rintro e w' ⟨rfl, rfl⟩
        go_wp2_with (first | (at_builtin; refine wpList_append_words rfl _ _ 44 rfl 118 i0 Tryz.underlying44 hi hz0 hz1 hz2 w.heap.size a' (some ⟨wr.heap.size, 0, none⟩) k c' 1 1 p [(x + y + over) % 4294967296] rfl rfl HP.out.1.symm rfl (HO.out.grow ((Below.refl _ _).alloc (Nat.le_refl _) _)) HB.out.rd (by intro h; cases h) (by omega) (by rw [World.size_alloc]; omega) ?_; intro a2 c2 w2 ho2 hg2 hn2))
        go_wp2
        obtain ⟨h4, h5, h6⟩ := HP.out
        go_roundw
        case rel =>
          refine ⟨k + 1, (x + y + over) / 4294967296, a2, c2, p ++ [(x + y + over) % 4294967296], by go_num, by simp, rfl, by omega, by omega, ⟨by simp [h4], h5.append (W32.cons (Nat.mod_lt _ (by decide)) W32.nil), ?_⟩, ?_, ho2, ?_⟩
          · rw [getD_take_succ Hx.out, getD_take_succ Hy.out, plus_step h4 h6, Nat.mul_add]; omega
          · intro hkk
            have h7 := HK.out
            have h8 : x = 0 := by rw [← Hx.out, List.getD_eq_getElem?_getD, List.getElem?_eq_none (by omega)]; rfl
            have h9 : y = 0 := by rw [← Hy.out, List.getD_eq_getElem?_getD, List.getElem?_eq_none (by omega)]; rfl
            rw [h8, h9]; omega
          · refine hbr.trans (((Below.refl _ _).alloc (by omega) _).trans ⟨hg2.os, hg2.tape, hg2.output, hg2.size, fun j hj => hg2.block j (by rw [World.size_alloc]; omega) ?_⟩)
            intro h
            rcases HO.out with ⟨h0, _⟩ | ⟨g, t, h0, h1, _⟩
            · rw [h0] at h; cases h
            · rw [h0] at h; simp at h; omega
        case measure => simp [intOf]; omega
    · have h1 : ¬ k < l.length := by omega
      have h2 : ¬ k < m.length := by omega
      have h3 : over = 0 := by omega
      subst h3
      have e0 : ((0 : Nat) : Int) = 0 := rfl
      rw [e0]
      obtain ⟨h4, h5, h6⟩ := HP.out
      have hN : num p = num l + num m := by rw [List.take_of_length_le (by omega), List.take_of_length_le (by omega)] at h6; omega
      have hh := HK.out
      have N1 := rnorm_any a' c' p wr (by omega) (HO.out.sl h5)
      rw [hN, h4] at N1
      have HN := Lib.hid N1; clear N1 hN h4 h5 h6 hh
      go_wp2_with fail
      refine HN.out.mono ?_; rintro e w1 ⟨a2, c2, rfl, ho2, hb2⟩
      go_wp2
      go_ret
      exact ⟨a2, c2, rfl, ho2.mono hbr.size, hbr.trans (hb2.mono hbr.size)⟩

theorem minus_step {p : List Nat} {x y o k A B : Nat} (hx : x < 4294967296) (hy : y < 4294967296) (ho : o ≤ 1) (hp : p.length = k) (hA : num p + B = A + o * 4294967296 ^ k) :
    num (p ++ [(x + 4294967296 - y - o) % 4294967296]) + (B + 4294967296 ^ k * y) = (A + 4294967296 ^ k * x) + (1 - (x + 4294967296 - y - o) / 4294967296) * 4294967296 ^ (k + 1) := by
  rw [num_append, hp, Nat.pow_succ]
  simp only [num]
  have e1 : (x + 4294967296 - y - o) % 4294967296 + y + o = x + (1 - (x + 4294967296 - y - o) / 4294967296) * 4294967296 := by omega
  generalize (x + 4294967296 - y - o) % 4294967296 = r at *
  generalize 1 - (x + 4294967296 - y - o) / 4294967296 = q at *
  generalize 4294967296 ^ k = P at *
  have e5 : P * (r + y + o) = P * (x + q * 4294967296) := by rw [e1]
  grind

set_option maxHeartbeats 2000000 in
set_option maxRecDepth 10000 in
theorem rminus_any (a b : Option Addr) (c d : Nat) (l m : List Nat) (w : World) (hlen : l.length ≤ 17592186044416) (hlen2 : m.length ≤ 17592186044416) (hw : W32 l) (hr : Rd w a l) (hw2 : W32 m) (hr2 : Rd w b m) (hle : num m ≤ num l) :
    Calls Tryz.prog 188 #[.slice a l.length c, .slice b m.length d] w fun e w' => ∃ a' c', e = .returned (.slice a' (words (num l - num m)).length c') ∧ Own w' 118 w.heap.size a' c' (words (num l - num m)) ∧ Below w.heap.size w w' := by
  obtain ⟨i0, hi, hz0, hz1, hz2⟩ := info_parts infoW
  have HR := Lib.hid hr; clear hr
  have HR2 := Lib.hid hr2; clear hr2
  have HW := Lib.hid hw; clear hw
  have HW2 := Lib.hid hw2; clear hw2
  have HLE := Lib.hid hle; clear hle
  go_enter Tryz.func188, Tryz.ntmps188
  go_wp2
  go_loopw [5, 6, 7] (fun s o i wr => ∃ (k over : Nat) (a' : Option Addr) (c' : Nat) (p : List Nat), i = .int .i64 k ∧ o = .int .u64 over ∧ s = .slice a' k c' ∧ over ≤ 1 ∧ k ≤ l.length ∧ Hid (p.length = k ∧ W32 p ∧ num p + num (m.take k) = num (l.take k) + over * 4294967296 ^ k) ∧ Own wr 118 w.heap.size a' c' p ∧ Below w.heap.size w wr) (fun _ _ i _ => l.length - (intOf i).toNat)
  case atStart => exact ⟨0, 0, none, 0, [], rfl, rfl, rfl, by decide, Nat.zero_le _, ⟨rfl, W32.nil, by simp [num]⟩, Own.none _ _ _, Below.refl _ _⟩
  case round =>
    obtain ⟨k, over, a', c', p, rfl, rfl, rfl, ho1, hk, HP, ho, hbr⟩ := hrel
    have HO := Lib.hid ho; clear ho
    by_cases hgo : k < l.length
    · obtain ⟨x, hx⟩ : ∃ x, l.getD k 0 = x := ⟨_, rfl⟩
      obtain ⟨y, hy⟩ : ∃ y, m.getD k 0 = y := ⟨_, rfl⟩
      have hx4 : x < 4294967296 := by rw [← hx]; exact HW.out.getD k
      have hy4 : y < 4294967296 := by rw [← hy]; exact HW2.out.getD k
      have A1 := Lib.hid (rat_any a c l k x wr (by omega) (by omega) HW.out (HR.out.grow hbr) hx)
      have A2 := Lib.hid (rat_any b d m k y wr (by omega) (by omega) HW2.out (HR2.out.grow hbr) hy)
      have Hx := Lib.hid hx; have Hy := Lib.hid hy; clear hx hy
      have hsz := hbr.size
      have hB := blk_alloc wr 118 #[.int .u32 (((x : Int) + 4294967296 - (y : Int) - (over : Int)) % 4294967296)] [(x + 4294967296 - y - over) % 4294967296] (by simp; omega)
      have HB := Lib.hid hB; clear hB
      go_wp2_with fail
      refine A1.out.mono ?_; rintro e w' ⟨rfl, rfl⟩
      go_wp2_with fail
      refine A2.out.mono ?_; rintro e w' ⟨rfl, rfl⟩
      go_wp2_with (first | (at_builtin; refine wpList_append_words rfl _ _ 44 rfl 118 i0 Tryz.underlying44 hi hz0 hz1 hz2 w.heap.size a' (some ⟨wr.heap.size, 0, none⟩) k c' 1 1 p [(x + 4294967296 - y - over) % 4294967296] rfl rfl HP.out.1.symm rfl (HO.out.grow ((Below.refl _ _).alloc (Nat.le_refl _) _)) HB.out.rd (by intro h; cases h) (by omega) (by rw [World.size_alloc]; omega) ?_; intro a2 c2 w2 ho2 hg2 hn2))
      go_wp2
      obtain ⟨h4, h5, h6⟩ := HP.out
      go_roundw
      case rel =>
        refine ⟨k + 1, 1 - (x + 4294967296 - y - over) / 4294967296, a2, c2, p ++ [(x + 4294967296 - y - over) % 4294967296], by go_num, by congr 1; omega, rfl, by omega, by omega, ⟨by simp [h4], h5.append (W32.cons (Nat.mod_lt _ (by decide)) W32.nil), ?_⟩, ho2, ?_⟩
        · rw [getD_take_succ Hx.out, getD_take_succ Hy.out]; exact minus_step hx4 hy4 ho1 h4 h6
        · refine hbr.trans (((Below.refl _ _).alloc (by omega) _).trans ⟨hg2.os, hg2.tape, hg2.output, hg2.size, fun j hj => hg2.block j (by rw [World.size_alloc]; omega) ?_⟩)
          intro h
          rcases HO.out with ⟨h0, _⟩ | ⟨g, t, h0, h1, _⟩
          · rw [h0] at h; cases h
          · rw [h0] at h; simp at h; omega
      case measure => simp [intOf]; omega
    · obtain ⟨h4, h5, h6⟩ := HP.out
      have hkl : k = l.length := by omega
      have hN : num p = num l - num m := by
        have h7 := num_lt h5
        have h8 := HLE.out
        have h9 := num_take HW2.out k
        have h10 := num_lt HW.out
        rw [h4] at h7
        rw [hkl] at h6 h7 h9
        rw [Nat.mod_eq_of_lt (by omega)] at h9
        rw [h9, List.take_length] at h6
        rcases Nat.le_one_iff_eq_zero_or_eq_one.1 ho1 with rfl | rfl <;> omega
      have N1 := rnorm_any a' c' p wr (by omega) (HO.out.sl h5)
      rw [hN, h4] at N1
      have HN := Lib.hid N1; clear N1 hN h4 h5 h6 hkl
      go_wp2_with fail
      refine HN.out.mono ?_; rintro e w1 ⟨a2, c2, rfl, ho2, hb2⟩
      go_wp2
      go_ret
      exact ⟨a2, c2, rfl, ho2.mono hbr.size, hbr.trans (hb2.mono hbr.size)⟩
end Go.Proofs.YteahdgbokjbgcaaGreatDoor
namespace Go.Proofs.YteahdgbokjbgcaaGreatDoor
open Go.RowKit
set_option linter.unusedVariables false
set_option linter.unusedSimpArgs false

set_option maxHeartbeats 2000000 in
set_option maxRecDepth 10000 in
theorem rtimes_any (a b : Option Addr) (c d : Nat) (l m : List Nat) (w : World) (hlen : l.length + m.length ≤ 35184372088832) (hw : W32 l) (hr : Rd w a l) (hw2 : W32 m) (hr2 : Rd w b m) :
    Calls Tryz.prog 184 #[.slice a l.length c, .slice b m.length d] w fun e w' => ∃ a' c', e = .returned (.slice a' (words (num l * num m)).length c') ∧ Own w' 118 w.heap.size a' c' (words (num l * num m)) ∧ Below w.heap.size w w' := by
  obtain ⟨i0, hi, hz0, hz1, hz2⟩ := info_parts infoW
  have HR := Lib.hid hr; clear hr
  have HR2 := Lib.hid hr2; clear hr2
  go_enter Tryz.func184, Tryz.ntmps184
  go_wp2_with (first | (at_make; refine wpList_make_blk _ rfl _ _ 44 rfl 118 i0 Tryz.underlying44 hi hz0 hz1 hz2 _ _ _ _ (l.length + m.length) rfl rfl (by simp) (by simp) (by omega) ?_; intro w1 hk1 hb1 hs1))
  go_loopw [6] (fun s wr => ∃ (i : Nat) (p : List Nat), i ≤ l.length ∧ s = .int .i64 i ∧ Hid (p.length = i + m.length ∧ W32 p ∧ num p = num (l.take i) * num m) ∧ Blk wr 118 w.heap.size (p ++ List.replicate (l.length - i) 0) ∧ Below w.heap.size w wr) (fun s _ => l.length - (intOf s).toNat)
  case atStart => exact ⟨0, List.replicate m.length 0, Nat.zero_le _, rfl, ⟨by simp, W32.rep _, by simp [num, num_rep]⟩, by simpa [List.replicate_append_replicate, Nat.add_comm] using hk1, hb1⟩
  case round =>
    obtain ⟨i, p, hi2, rfl, HP, hkr, hbr⟩ := hrel
    have HW := Lib.hid hw; clear hw
    have HW2 := Lib.hid hw2; clear hw2
    by_cases hlt : i < l.length
    · obtain ⟨ba, offa, x, ha, hcell, hx, HX⟩ := (HR.out.grow hbr).at HW.out hlt
      subst ha
      clear hcell
      rw [rep_succ hlt] at hkr
      go_wp2
      go_loopw [8, 7] (fun s o wr => ∃ (j over : Nat) (p1 q : List Nat), j ≤ m.length ∧ s = .int .i64 j ∧ o = .int .u64 over ∧ over < 4294967296 ∧ Hid (p1.length = i + j ∧ q.length = m.length - j ∧ W32 p1 ∧ W32 q ∧
          num p1 + over * 4294967296 ^ (i + j) + 4294967296 ^ (i + j) * num q = num (l.take i) * num m + x * 4294967296 ^ i * num (m.take j)) ∧ Blk wr 118 w.heap.size (p1 ++ q ++ 0 :: List.replicate (l.length - (i + 1)) 0) ∧ Below w.heap.size w wr) (fun s _ _ => m.length - (intOf s).toNat)
      case atStart =>
        refine ⟨0, 0, p.take i, p.drop i, Nat.zero_le _, rfl, rfl, by decide, ?_, by rw [List.take_append_drop]; exact hkr, hbr⟩
        obtain ⟨h1, h2, h3⟩ := HP.out
        refine ⟨by simp; omega, by simp; omega, h2.take _, h2.drop _, ?_⟩
        have := num_append (p.take i) (p.drop i)
        rw [List.take_append_drop, h3] at this
        have h4 : (p.take i).length = i := by simp; omega
        rw [h4] at this
        simp [num]; omega
      case round =>
        obtain ⟨j, over, p1, q, hj, rfl, rfl, hov, HQ, hkr2, hbr2⟩ := hrel
        by_cases hlt2 : j < m.length
        · obtain ⟨ba', offa', x', ha', hcell, hx', HX'⟩ := (HR.out.grow hbr2).at HW.out hlt
          simp only [Option.some.injEq, Addr.mk.injEq, and_true] at ha'
          obtain ⟨rfl, rfl⟩ := ha'
          have hxx : x' = x := by have h1 := HX'.out; rw [HX.out] at h1; exact (Option.some.inj h1).symm
          subst hxx
          obtain ⟨bb, offb, y, hb2', hcell2, hy, HY⟩ := (HR2.out.grow hbr2).at HW2.out hlt2
          subst hb2'
          obtain ⟨s, q', hq⟩ : ∃ s q', q = s :: q' := by
            cases q with
            | nil => have := HQ.out.2.1; simp at this; omega
            | cons s q' => exact ⟨s, q', rfl⟩
          subst hq
          have hs : s < 4294967296 := HQ.out.2.2.2.1.head
          have hkr3 : Blk wr 118 w.heap.size (p1 ++ s :: (q' ++ 0 :: List.replicate (l.length - (i + 1)) 0)) := by simpa using hkr2
          have hc3 := hkr3.midCell HQ.out.1.symm
          have hf3 := hkr3.frozen (i + j)
          have HM := Lib.hid (mul_wrap hx hy hs hov)
          have HM2 := Lib.hid (mul_w hx hy hs hov)
          go_wp2
          go_quiet (fail)
          go_wp2
          obtain ⟨q1, q2, q3, q4, q5⟩ := HQ.out
          obtain ⟨m1, m2, m3⟩ := HM2.out
          have hk4 := (show Blk (wr.drewN nq) 118 w.heap.size _ from hkr3).midPush q1.symm ((x' * y + s + over) % 4294967296) (v := IntKind.u64.wrap (IntKind.u64.wrap (IntKind.u64.wrap ((x' : Int) * (y : Int)) + (s : Int)) + (over : Int)) % 4294967296) (by rw [HM.out]; omega)
          go_roundw
          case rel => exact ⟨j + 1, (x' * y + s + over) / 4294967296, p1 ++ [(x' * y + s + over) % 4294967296], q', by omega, by go_num, by rw [HM.out]; simp, m2, ⟨by simp [q1]; omega, by simp at q2; omega, q3.append (W32.cons (Nat.mod_lt _ (by decide)) W32.nil), q4.tail, by rw [num_take_succ HY.out]; exact times_step q1 (by simpa [num] using q5)⟩, by simpa using hk4, (below_drewN' hbr2).setCell (Nat.le_refl _) _⟩
          case measure => simp [intOf]; omega
        · obtain rfl : j = m.length := by omega
          have hq : q = [] := by have := HQ.out.2.1; simpa using this
          subst hq
          rw [List.append_nil] at hkr2
          have hc3 := hkr2.midCell HQ.out.1.symm
          have hf3 := hkr2.frozen (i + m.length)
          go_wp2
          obtain ⟨q1, q2, q3, q4, q5⟩ := HQ.out
          have hk4 := hkr2.midPush q1.symm over (v := (over : Int)) rfl
          go_roundw
          case rel => exact ⟨i + 1, p1 ++ [over], by omega, by go_num, ⟨by simp [q1]; omega, q3.append (W32.cons hov W32.nil), by
            rw [List.take_length] at q5
            rw [num_take_succ HX.out, num_append, q1, Nat.add_mul]
            simp only [num] at q5 ⊢
            have e3 : 4294967296 ^ i * x * num m = x * 4294967296 ^ i * num m := by rw [Nat.mul_comm x]
            rw [e3, ← q5, Nat.mul_comm over, Nat.mul_zero, Nat.mul_zero, Nat.add_zero, Nat.add_zero]⟩, hk4, hbr2.setCell (Nat.le_refl _) _⟩
          case measure => simp [intOf]; omega
    · obtain rfl : i = l.length := by omega
      obtain ⟨h1, h2, h3⟩ := HP.out
      rw [Nat.sub_self, List.replicate_zero, List.append_nil] at hkr
      rw [List.take_length] at h3
      have N1 := rnorm_any (some ⟨w.heap.size, 0, none⟩) (l.length + m.length) p wr (by omega) ⟨hkr.rd, h2, by omega, by intro h; cases h⟩
      rw [h3, h1] at N1
      have HN := Lib.hid N1; clear N1 h1 h2 h3
      go_wp2_with fail
      refine HN.out.mono ?_; rintro e w1 ⟨a2, c2, rfl, ho2, hb2⟩
      go_wp2
      go_ret
      exact ⟨a2, c2, rfl, ho2.mono hbr.size, hbr.trans (hb2.mono hbr.size)⟩
end Go.Proofs.YteahdgbokjbgcaaGreatDoor
namespace Go.Proofs.YteahdgbokjbgcaaGreatDoor
open Go.RowKit
set_option linter.unusedVariables false
set_option linter.unusedSimpArgs false

set_option maxHeartbeats 1000000 in
set_option maxRecDepth 10000 in
theorem rbit_any (a : Option Addr) (c : Nat) (l : List Nat) (j : Nat) (w : World) (hlen : l.length ≤ 70368744177664) (hj : j ≤ 9223372036854775807) (hw : W32 l) (hr : Rd w a l) :
    Calls Tryz.prog 295 #[.slice a l.length c, .int .i64 (j : Int)] w fun e w' => e = .returned (.bool ((num l).testBit j)) ∧ w = w' := by
  by_cases hlt : j / 32 < l.length
  · obtain ⟨b, off, x, rfl, hcell, hx, HX⟩ := hr.at hw hlt
    have HB := Lib.hid (num_testBit hw HX.out)
    clear hr hw
    go_enter Tryz.func295, Tryz.ntmps295
    go_wp2
    go_ret
    refine ⟨congrArg (fun b => Ending.returned (Value.bool b)) ?_, rfl⟩
    rw [HB.out]
    show (bits BinOp.and IntKind.u32 ((x : Int) / 2 ^ (j % 32)) 1 == 1) = _
    have hq : x / 2 ^ (j % 32) < 4294967296 := Nat.lt_of_le_of_lt (Nat.div_le_self _ _) hx
    have h1 := bits_and_u32_nat (x / 2 ^ (j % 32)) 1 hq (by decide)
    rw [show ((x : Int) / 2 ^ (j % 32)) = ((x / 2 ^ (j % 32) : Nat) : Int) from by simp, show (1 : Int) = ((1 : Nat) : Int) from rfl, h1, Nat.and_one_is_mod, Nat.testBit_eq_decide_div_mod_eq]
    by_cases hh : x / 2 ^ (j % 32) % 2 = 1
    · simp [hh]
    · have : x / 2 ^ (j % 32) % 2 = 0 := by omega
      rw [this]; rfl
  · have hz : (num l).testBit j = false := by
      apply Nat.testBit_lt_two_pow
      refine Nat.lt_of_lt_of_le (num_lt hw) ?_
      rw [pow32]
      exact Nat.pow_le_pow_right (by decide) (by omega)
    have HZ := Lib.hid hz; clear hz hw hr
    go_enter Tryz.func295, Tryz.ntmps295
    go_wp2
    go_ret
    exact ⟨by rw [HZ.out]; rfl, rfl⟩

theorem bitLen_half {x : Nat} (h : 0 < x) : bitLen x = bitLen (x / 2) + 1 := by
  by_cases h1 : x = 1
  · subst h1; decide
  · have := bitLen_shift x 1 (by omega)
    rw [this, Nat.pow_one]; omega

set_option maxHeartbeats 1000000 in
set_option maxRecDepth 10000 in
theorem rlen_any (a : Option Addr) (c : Nat) (l : List Nat) (w : World) (hlen : l.length ≤ 70368744177664) (hw : W32 l) (hr : Rd w a l) :
    Calls Tryz.prog 262 #[.slice a l.length c] w fun e w' => e = .returned (.int .i64 (bitLen (num l))) ∧ w = w' := by
  have hl1 := words_num_len hw
  have hR1 := hr.words hw
  have C1 := Lib.hid (rsize_any a c l w hlen hw hr)
  obtain ⟨N, hN⟩ : ∃ N, N = num l := ⟨_, rfl⟩
  rw [← hN] at C1 hl1 hR1 ⊢
  clear hN hr hw
  go_enter Tryz.func262, Tryz.ntmps262
  go_wp2_with fail
  refine C1.out.mono ?_; rintro e w' ⟨rfl, rfl⟩
  by_cases h0 : (words N).length = 0
  · have h1 : N = 0 := len_words_zero.1 h0
    have H1 := Lib.hid h1; clear h1
    go_wp2
    go_ret
    rw [H1.out]
    exact ⟨rfl, rfl⟩
  · obtain ⟨k, hk⟩ : ∃ k, (words N).length = k + 1 := ⟨(words N).length - 1, by omega⟩
    obtain ⟨b, off, x, rfl, hcell, hx, HX⟩ := hR1.at (W32_words N) (show k < _ by omega)
    have HB := Lib.hid (bitLen_words hk HX.out)
    clear hR1
    have hb8 : bitLen x ≤ 32 := bitLen_lt hx
    have hkb : k < 70368744177664 := by omega
    have hkl : k < l.length := by omega
    have hne : (((k : Int) + 1) == 0) = false := by simp; omega
    rw [hk]
    have HK := Lib.hid hk; clear hk h0
    go_wp2
    go_loop [4, 5] (fun s o => ∃ y n : Nat, o = .int .u32 y ∧ y < 4294967296 ∧ s = .int .i64 n ∧ Hid (n + bitLen y = 32 * k + bitLen x) ∧ n ≤ 32 * k + 32) (fun _ o => (intOf o).toNat)
    case atStart => exact ⟨x, 32 * k, rfl, hx, by simp, rfl, by omega⟩
    case round =>
      obtain ⟨y, n, rfl, hy, rfl, HS, hn⟩ := hrel
      by_cases hy0 : 0 < y
      · have h2 := HS.out
        have h3 := bitLen_half hy0
        have h4 : n + 1 + bitLen (y / 2) = 32 * k + bitLen x := by omega
        have H4 := Lib.hid h4
        have h5 : n + 1 ≤ 32 * k + 32 := by omega
        clear h2 h3 h4
        go_wp2
        go_round
        case rel => exact ⟨y / 2, n + 1, by simp, by omega, by go_num, H4, h5⟩
        case measure => simp [intOf]; omega
      · have hy1 : y = 0 := by omega
        subst hy1
        go_wp2
        go_ret
        refine ⟨ret1i ?_, rfl⟩
        rw [HB.out, ← HS.out, bitLen_zero]; rfl

set_option maxHeartbeats 1000000 in
set_option maxRecDepth 10000 in
theorem rlow_any (a : Option Addr) (c : Nat) (l : List Nat) (w : World) (hlen : l.length ≤ 4294967296) (hw : W32 l) (hr : Rd w a l) :
    Calls Tryz.prog 239 #[.slice a l.length c] w fun e w' => e = .returned (.int .i64 (low (num l))) ∧ w = w' := by
  have C1 := Lib.hid (rsize_any a c l w (by omega) hw hr)
  have B1 := Lib.hid (fun j hj => rbit_any a c l j w (by omega) hj hw hr)
  have hnl := num_lt hw
  rw [pow32] at hnl
  obtain ⟨N, hN⟩ : ∃ N, N = num l := ⟨_, rfl⟩
  rw [← hN] at C1 B1 hnl ⊢
  clear hN hr hw
  by_cases h0 : N = 0
  · have h1 : (words N).length = 0 := len_words_zero.2 h0
    have H1 := Lib.hid h0; clear h0 hnl
    go_enter Tryz.func239, Tryz.ntmps239
    go_wp2_with fail
    refine C1.out.mono ?_; rintro e w' ⟨rfl, rfl⟩
    go_wp2
    go_ret
    rw [H1.out, low_zero]
    exact ⟨rfl, rfl⟩
  · have h1 : (words N).length ≠ 0 := fun h => h0 (len_words_zero.1 h)
    have hne : (((words N).length : Int) == 0) = false := by simp; exact fun h => h1 (by rw [h]; rfl)
    have hlow : low N < 32 * l.length := low_le hnl h0
    obtain ⟨m, hm, hodd⟩ := low_spec h0
    have hbit : ∀ j, j < low N → N.testBit j = false := by
      intro j hj
      conv => lhs; rw [hm]
      rw [Nat.testBit_two_pow_mul]; simp; omega
    have hbit1 : N.testBit (low N) = true := by
      conv => lhs; arg 1; rw [hm]
      rw [Nat.testBit_two_pow_mul]; simp [Nat.testBit_zero, hodd]
    have HB := Lib.hid hbit; have HB1 := Lib.hid hbit1; have H0 := Lib.hid h0
    clear hbit hbit1 h0 h1 hm hodd hnl
    go_enter Tryz.func239, Tryz.ntmps239
    go_wp2_with fail
    refine C1.out.mono ?_; rintro e w' ⟨rfl, rfl⟩
    go_wp2
    go_loop [3] (fun s => ∃ j : Nat, j ≤ low N ∧ s = .int .i64 j) (fun s => low N - (intOf s).toNat)
    case atStart => exact ⟨0, Nat.zero_le _, rfl⟩
    case round =>
      obtain ⟨j, hj, rfl⟩ := hrel
      have BB := Lib.hid (B1.out j (by omega))
      by_cases hlt : j < low N
      · have hf := HB.out j hlt
        go_wp2_with fail
        refine BB.out.mono ?_; rintro e w' ⟨rfl, rfl⟩
        rw [hf]
        clear hf
        go_wp2
        go_round
        case rel => exact ⟨j + 1, by omega, by go_num⟩
        case measure => simp [intOf]; omega
      · have hjj : j = low N := by omega
        have hf := HB1.out
        rw [← hjj] at hf
        have HJ := Lib.hid hjj; clear hjj
        go_wp2_with fail
        refine BB.out.mono ?_; rintro e w' ⟨rfl, rfl⟩
        rw [hf]
        clear hf
        go_wp2
        go_ret
        exact ⟨by rw [← HJ.out]; rfl, rfl⟩

set_option maxHeartbeats 2000000 in
set_option maxRecDepth 10000 in
theorem digit_any (a b : Option Addr) (c d : Nat) (l m : List Nat) (w : World) (hlen : l.length ≤ 17592186044416) (hlen2 : m.length ≤ 17592186044416) (hw : W32 l) (hr : Rd w a l) (hw2 : W32 m) (hr2 : Rd w b m) (hlt : num l < 4294967296 * num m) :
    Calls Tryz.prog 308 #[.slice a l.length c, .slice b m.length d] w fun e w' => ∃ a' c', e = .returned (.tuple #[.int .u32 ((num l / num m : Nat) : Int), .slice a' (words (num l / num m * num m)).length c']) ∧ Own w' 118 w.heap.size a' c' (words (num l / num m * num m)) ∧ Below w.heap.size w w' := by
  have HR := Lib.hid hr; clear hr
  have HR2 := Lib.hid hr2; clear hr2
  have HW := Lib.hid hw; clear hw
  have HW2 := Lib.hid hw2; clear hw2
  have HLT := Lib.hid hlt; clear hlt
  go_enter Tryz.func308, Tryz.ntmps308
  go_wp2
  go_loopw [6, 7, 8] (fun f t s wr => ∃ (lo hi : Nat) (a' : Option Addr) (c' : Nat), f = .int .u64 lo ∧ t = .int .u64 hi ∧ s = .slice a' (words (lo * num m)).length c' ∧ lo < hi ∧ hi ≤ 4294967296 ∧ Hid (lo * num m ≤ num l ∧ num l < hi * num m) ∧ Own wr 118 w.heap.size a' c' (words (lo * num m)) ∧ Below w.heap.size w wr) (fun f t _ _ => (intOf t).toNat - (intOf f).toNat)
  case atStart => exact ⟨0, 4294967296, none, 0, rfl, rfl, by rw [Nat.zero_mul, words_zero]; rfl, by decide, by decide, ⟨by simp, HLT.out⟩, by rw [Nat.zero_mul, words_zero]; exact Own.none _ _ _, Below.refl _ _⟩
  case round =>
    obtain ⟨lo, hi, a', c', rfl, rfl, rfl, hlh, hhi, HP, ho, hbr⟩ := hrel
    have HO := Lib.hid ho; clear ho
    have hsz := hbr.size
    by_cases hgo : 1 < hi - lo
    · have hB := blk_alloc wr 118 #[.int .u32 (((lo : Int) + (hi : Int)) / 2)] [(lo + hi) / 2] (by simp)
      have hmid : (lo + hi) / 2 < 4294967296 := by omega
      have hsw := Sl.blk hB (W32.cons hmid W32.nil)
      have T1 := rtimes_any b (some ⟨wr.heap.size, 0, none⟩) d 1 m [(lo + hi) / 2] _ (by simp; omega) HW2.out ((HR2.out.grow hbr).grow ((Below.refl _ _).alloc (Nat.le_refl _) (Obj.cells #[Value.int .u32 (((lo : Int) + (hi : Int)) / 2)] 118))) hsw.w32 hsw.rd
      have hnm : num m * num [(lo + hi) / 2] = (lo + hi) / 2 * num m := by simp [num, Nat.mul_comm]
      rw [hnm, World.size_alloc] at T1
      have HT := Lib.hid T1; clear T1 hnm hB hsw
      go_wp2_with fail
      refine HT.out.mono ?_; rintro e w1 ⟨a2, c2, rfl, ho2, hb2⟩
      have hb3 : Below w.heap.size w w1 := hbr.trans (((Below.refl _ _).alloc hsz _).trans (hb2.mono (by omega)))
      have K1 := Lib.hid (rcmp_any a2 a c2 c (words ((lo + hi) / 2 * num m)) l w1 (by
        have h1 : (lo + hi) / 2 * num m < 4294967296 ^ (m.length + 1) := by
          have h2 := num_lt HW2.out
          rw [Nat.pow_succ, Nat.mul_comm]
          exact Nat.mul_lt_mul'' h2 hmid
        have := words_len_le h1; omega) (W32_words _) ho2.rd (by omega) HW.out (HR.out.grow hb3))
      rw [num_words] at K1
      go_wp2_with fail
      refine K1.out.mono ?_; rintro e w' ⟨rfl, n, rfl⟩
      have k1 := cmpN_lo ((lo + hi) / 2 * num m) (num l)
      have k2 := cmpN_hi ((lo + hi) / 2 * num m) (num l)
      by_cases hcmp : num l < (lo + hi) / 2 * num m
      · have hc : ¬ cmpN ((lo + hi) / 2 * num m) (num l) ≤ 0 := by rw [cmpN_gt hcmp]; decide
        have Hc := Lib.hid hcmp; clear hcmp
        go_wp2
        go_roundw
        case rel => exact ⟨lo, (lo + hi) / 2, a', c', rfl, by simp, rfl, by omega, by omega, ⟨HP.out.1, Hc.out⟩, (HO.out.grow (below_drewN' (((Below.refl _ _).alloc (Nat.le_refl wr.heap.size) _).trans (hb2.mono (Nat.le_succ _))))), below_drewN' hb3⟩
        case measure => simp [intOf]; omega
      · have hc : cmpN ((lo + hi) / 2 * num m) (num l) ≤ 0 := by unfold cmpN; split; decide; first | (rw [if_neg hcmp]; decide) | decide
        have Hc := Lib.hid hcmp; clear hcmp
        go_wp2
        go_roundw
        case rel => exact ⟨(lo + hi) / 2, hi, a2, c2, by simp, rfl, rfl, by omega, by omega, ⟨by have := Hc.out; omega, HP.out.2⟩, ho2.mono (by omega), below_drewN' hb3⟩
        case measure => simp [intOf]; omega
    · have h1 : hi = lo + 1 := by omega
      have h2 : num l / num m = lo := by
        obtain ⟨h3, h4⟩ := HP.out
        rw [h1] at h4
        rw [Nat.mul_comm] at h3 h4
        have hm : 0 < num m := by rcases Nat.eq_zero_or_pos (num m) with h0 | h0; rw [h0] at h4; omega; exact h0
        rw [Nat.div_eq_of_lt_le]
        · rw [Nat.mul_comm]; exact h3
        · rw [Nat.mul_comm]; exact h4
      have H2 := Lib.hid h2; clear h2 h1
      go_wp2
      go_ret2
      rw [H2.out]
      exact ⟨a', c', rfl, HO.out, hbr⟩

theorem mod_lem {q z : Nat} (h : q < 4294967296) : (q + 4294967296 * z) % 4294967296 = q ∧ (q + 4294967296 * z) / 4294967296 = z := by omega
theorem Rd.set {w : World} {a : Option Addr} {l : List Nat} (h : Rd w a l) (p : Addr) (v : Value) (hp : ∀ ad, a = some ad → ad.block ≠ p.block) : Rd (w.setCell p v) a l := fun i x hx => by
  obtain ⟨b, off, h1, h2⟩ := h i x hx
  exact ⟨b, off, h1, (World.cell?_setCell_other w p ⟨b, off + i, none⟩ v (by intro e; exact hp _ h1 (by rw [e]))).trans h2⟩
theorem Own.set {w : World} {e : TypeId} {base c : Nat} {a : Option Addr} {l : List Nat} (h : Own w e base a c l) (p : Addr) (v : Value) (hp : p.block < base) : Own (w.setCell p v) e base a c l := by
  rcases h with h | ⟨g, t, h0, h1, h2, h3, h4⟩
  · exact .inl h
  · exact .inr ⟨g, t, h0, h1, h2, h3, h4.other (by omega) v⟩
theorem parts_step {x A b : Nat} (hx : x < 4294967296) (hb : 0 < b) :
    (x + 4294967296 * A) % b = (x + 4294967296 * (A % b)) % b ∧ (x + 4294967296 * A) / b = (x + 4294967296 * (A % b)) / b + 4294967296 * (A / b) ∧ (x + 4294967296 * (A % b)) / b < 4294967296 := by
  have h1 := Nat.div_add_mod A b
  have h2 : A % b < b := Nat.mod_lt _ hb
  have e : x + 4294967296 * A = (x + 4294967296 * (A % b)) + b * (4294967296 * (A / b)) := by
    conv => lhs; rw [← h1]
    rw [Nat.mul_add, ← Nat.mul_assoc, Nat.mul_comm 4294967296 b, Nat.mul_assoc]; omega
  refine ⟨?_, ?_, ?_⟩
  · conv => lhs; rw [e]
    rw [Nat.add_mul_mod_self_left]
  · conv => lhs; rw [e]
    rw [Nat.add_mul_div_left _ _ hb]
  · apply Nat.div_lt_of_lt_mul
    have : 4294967296 * (A % b + 1) ≤ 4294967296 * b := Nat.mul_le_mul_left _ h2
    rw [Nat.mul_comm b]; omega

set_option maxHeartbeats 4000000 in
set_option maxRecDepth 10000 in
theorem parts_any (a b : Option Addr) (c d : Nat) (l m : List Nat) (w : World) (hlen : l.length ≤ 8796093022208) (hlen2 : m.length ≤ 8796093022208) (hw : W32 l) (hr : Rd w a l) (hw2 : W32 m) (hr2 : Rd w b m) (hm0 : num m ≠ 0) :
    Calls Tryz.prog 259 #[.slice a l.length c, .slice b m.length d] w fun e w' => ∃ a1 c1 a2 c2, e = .returned (.tuple #[.slice a1 (words (num l / num m)).length c1, .slice a2 (words (num l % num m)).length c2]) ∧ Own w' 118 w.heap.size a1 c1 (words (num l / num m)) ∧ Own w' 118 w.heap.size a2 c2 (words (num l % num m)) ∧ Below w.heap.size w w' := by
  obtain ⟨i0, hi, hz0, hz1, hz2⟩ := info_parts infoW
  have HR := Lib.hid hr; clear hr
  have HR2 := Lib.hid hr2; clear hr2
  have HM0 := Lib.hid (Nat.pos_of_ne_zero hm0); clear hm0
  go_enter Tryz.func259, Tryz.ntmps259
  go_wp2_with (first | (at_make; refine wpList_make_blk _ rfl _ _ 44 rfl 118 i0 Tryz.underlying44 hi hz0 hz1 hz2 _ _ _ _ l.length rfl rfl rfl rfl (by omega) ?_; intro w1 hk1 hb1 hs1))
  go_loopw [7, 8] (fun r i wr => ∃ (k : Nat) (a' : Option Addr) (c' : Nat), i = .int .i64 ((k : Int) - 1) ∧ k ≤ l.length ∧ r = .slice a' (words (num (l.drop k) % num m)).length c' ∧
      Blk wr 118 w.heap.size (List.replicate k 0 ++ digs (l.length - k) (num (l.drop k) / num m)) ∧ Own wr 118 (w.heap.size + 1) a' c' (words (num (l.drop k) % num m)) ∧ Below w.heap.size w wr ∧ w.heap.size < wr.heap.size) (fun _ i _ => (intOf i + 1).toNat)
  case atStart => exact ⟨l.length, none, 0, rfl, Nat.le_refl _, by rw [List.drop_length]; simp [num, words_zero], by rw [Nat.sub_self]; simpa [digs] using hk1, by rw [List.drop_length]; simp [num, words_zero]; exact Own.none _ _ _, hb1, by omega⟩
  case round =>
    obtain ⟨k, a', c', rfl, hk, rfl, hkr, ho, hbr, hsz⟩ := hrel
    have HO := Lib.hid ho; clear ho
    have HW := Lib.hid hw; clear hw
    have HW2 := Lib.hid hw2; clear hw2
    have HK := Lib.hid hkr; clear hkr
    cases k with
    | zero =>
      have e0 : ((0 : Nat) : Int) - 1 = -1 := rfl
      rw [e0]
      have hq := HK.out
      rw [List.replicate_zero, List.nil_append, Nat.sub_zero, List.drop_zero] at hq
      have hlt : num l / num m < 4294967296 ^ l.length := Nat.lt_of_le_of_lt (Nat.div_le_self _ _) (num_lt HW.out)
      have N1 := rnorm_any (some ⟨w.heap.size, 0, none⟩) l.length (digs l.length (num l / num m)) wr (by rw [digs_len]; omega) ⟨hq.rd, W32_digs _ _, by rw [digs_len]; omega, by intro h; cases h⟩
      rw [digs_words hlt, digs_len] at N1
      have HN := Lib.hid N1; clear N1 hq hlt
      go_wp2_with fail
      refine HN.out.mono ?_; rintro e w2 ⟨a1, c1, rfl, ho1, hb2⟩
      go_wp2
      go_ret2
      have h5 := HO.out
      rw [List.drop_zero] at h5
      exact ⟨a1, c1, a', c', rfl, ho1.mono (by omega), (h5.grow hb2).mono (by omega), hbr.trans (hb2.mono (by omega))⟩
    | succ k =>
      have e0 : ((k + 1 : Nat) : Int) - 1 = (k : Int) := by omega
      rw [e0]
      obtain ⟨ba, offa, x, ha, hcell, hx, HX⟩ := (HR.out.grow hbr).at HW.out (show k < l.length by omega)
      subst ha
      have hS := Lib.hid (parts_step (A := num (l.drop (k + 1))) hx HM0.out)
      have hD : num (l.drop k) = x + 4294967296 * num (l.drop (k + 1)) := by rw [drop_eq_cons HX.out]; rfl
      have HD := Lib.hid hD; clear hD
      obtain ⟨R, hR⟩ : ∃ R, R = num (l.drop (k + 1)) % num m := ⟨_, rfl⟩
      rw [← hR] at hS HO ⊢
      have hRm : R < num m := by rw [hR]; exact Nat.mod_lt _ HM0.out
      have hRl : (words R).length ≤ m.length := words_len_le (Nat.lt_trans hRm (num_lt HW2.out))
      have HRm := Lib.hid hRm; have HRE := Lib.hid hR; clear hRm hR
      -- next := {a[i]}; next = append(next, rest...)
      have hB := blk_alloc wr 118 #[.int .u32 (x : Int)] [x] (by simp)
      have HB := Lib.hid hB; clear hB
      have hn1 : (Below wr.heap.size wr (wr.alloc (Obj.cells #[Value.int .u32 (x : Int)] 118))) := (Below.refl _ _).alloc (Nat.le_refl _) _
      have HN1 := Lib.hid hn1; clear hn1
      go_wp2_with (first | (at_builtin; refine wpList_append_words rfl _ _ 44 rfl 118 i0 Tryz.underlying44 hi hz0 hz1 hz2 wr.heap.size (some ⟨wr.heap.size, 0, none⟩) a' 1 1 (words R).length c' [x] (words R) rfl rfl rfl rfl (Own.of HB.out (Nat.le_refl _)) (HO.out.rd.grow HN1.out) (HO.out.sl (W32_words _)).nil (by omega) (by rw [World.size_alloc]; omega) ?_; intro a2 c2 w2 ho2 hg2 hn2))
      have hb2 : Below wr.heap.size wr w2 := HN1.out.trans ⟨hg2.os, hg2.tape, hg2.output, hg2.size, fun j hj => hg2.block j (by rw [World.size_alloc]; omega) (by simp; omega)⟩
      have hnum2 : num ([x] ++ words R) = x + 4294967296 * R := by simp [num, num_words]
      have hw2 : W32 ([x] ++ words R) := W32.cons hx (W32_words R)
      have N1 := rnorm_any a2 c2 ([x] ++ words R) w2 (by simp; omega) (ho2.sl hw2)
      rw [hnum2, show ([x] ++ words R).length = 1 + (words R).length from by simp; omega] at N1
      have HN := Lib.hid N1; clear N1 hnum2 hw2
      refine HN.out.mono ?_; rintro e w3 ⟨a3, c3, rfl, ho3, hb3⟩
      have hb13 : Below wr.heap.size wr w3 := hb2.trans (hb3.mono hb2.size)
      have hs3 := hb3.size
      have hs2 := hb2.size
      obtain ⟨R2, hR2⟩ : ∃ R2, R2 = x + 4294967296 * R := ⟨_, rfl⟩
      rw [← hR2] at ho3 hS ⊢
      have hR2l : (words R2).length ≤ m.length + 1 := by
        apply words_len_le
        have h1 := num_lt HW2.out; have h2 := HRm.out
        rw [hR2, Nat.pow_succ]
        have : 4294967296 * (R + 1) ≤ 4294967296 * 4294967296 ^ m.length := Nat.mul_le_mul_left _ (by omega)
        rw [Nat.mul_comm (_ ^ _)]; omega
      have HR2E := Lib.hid hR2; clear hR2
      have C1 := Lib.hid (rcmp_any a3 b c3 d (words R2) m w3 (by omega) (W32_words _) ho3.rd (by omega) HW2.out (HR2.out.grow (hbr.trans (hb13.mono (by omega)))))
      rw [num_words] at C1
      go_wp2_with fail
      refine C1.out.mono ?_; rintro e w' ⟨rfl, n, rfl⟩
      have k1 := cmpN_lo R2 (num m)
      have k2 := cmpN_hi R2 (num m)
      have hbw : Below w.heap.size w w3 := hbr.trans (hb13.mono (by omega))
      obtain ⟨s1, s2, s3⟩ := hS.out
      have hdg : digs (l.length - k) (num (l.drop k) / num m) = R2 / num m :: digs (l.length - (k + 1)) (num (l.drop (k + 1)) / num m) := by
        rw [HD.out, s2, show l.length - k = (l.length - (k + 1)) + 1 by omega]
        simp only [digs]
        rw [(mod_lem s3).1, (mod_lem s3).2]
      have hq3 : Blk w3 118 w.heap.size (List.replicate k 0 ++ 0 :: digs (l.length - (k + 1)) (num (l.drop (k + 1)) / num m)) := by
        have := (HK.out.grow hb13)
        rw [List.replicate_succ', List.append_assoc] at this
        exact this
      have HDG := Lib.hid hdg; have HQ3 := Lib.hid hq3; have HS1 := Lib.hid s1; clear hdg hq3 s1 s2 s3 hS
      by_cases hcmp : R2 < num m
      · have hc : ¬ 0 ≤ cmpN R2 (num m) := by rw [cmpN_lt hcmp]; decide
        have Hc := Lib.hid hcmp; clear hcmp
        go_wp2
        go_roundw
        case rel =>
          have e1 : num (l.drop k) % num m = R2 := by rw [HD.out, HS1.out, Nat.mod_eq_of_lt Hc.out]
          have e2 : R2 / num m = 0 := Nat.div_eq_of_lt Hc.out
          refine ⟨k, a3, c3, rfl, by omega, by rw [e1], ?_, by rw [e1]; exact ho3.mono (by omega), below_drewN' hbw, by simp; omega⟩
          rw [HDG.out, e2]; exact HQ3.out
        case measure => simp [intOf]
      · have hc : 0 ≤ cmpN R2 (num m) := by unfold cmpN; rw [if_neg hcmp]; split <;> decide
        have D1 := Lib.hid (digit_any a3 b c3 d (words R2) m (w3.drewN n) (by omega) (by omega) (W32_words _) ho3.rd HW2.out (HR2.out.grow (below_drewN' hbw)) (by
          rw [num_words, HR2E.out]
          have h2 := HRm.out
          have : 4294967296 * (R + 1) ≤ 4294967296 * num m := Nat.mul_le_mul_left _ h2
          omega))
        rw [num_words] at D1
        have Hc := Lib.hid hcmp; clear hcmp
        go_wp2_with fail
        refine D1.out.mono ?_; rintro e w4 ⟨a4, c4, rfl, ho4, hb4⟩
        have hq4 : Blk w4 118 w.heap.size (List.replicate k 0 ++ 0 :: digs (l.length - (k + 1)) (num (l.drop (k + 1)) / num m)) := HQ3.out.grow (below_drewN hb4)
        have hc4 := hq4.midCell (i := k) (by simp)
        have hf4 := hq4.frozen k
        have hs4 := hb4.size
        have hs4' : w3.heap.size ≤ w4.heap.size := hs4
        have HQ5 := Lib.hid (hq4.midSet (i := k) (by simp) (R2 / num m) (v := ((R2 / num m : Nat) : Int)) rfl)
        have hb34 : Below w3.heap.size w3 w4 := below_drewN hb4
        have hmul : R2 / num m * num m ≤ R2 := Nat.div_mul_le_self _ _
        have M1 := (rminus_any a3 a4 c3 c4 (words R2) (words (R2 / num m * num m)) (w4.setCell ⟨w.heap.size, k, none⟩ (.int .u32 ((R2 / num m : Nat) : Int))) (by omega) (by
            have := words_len_of_le hmul; omega) (W32_words _) ((ho3.grow hb34).set _ _ (by simp; omega)).rd (W32_words _) (ho4.set _ _ (by simp; omega)).rd (by rw [num_words, num_words]; exact hmul))
        rw [num_words, num_words, World.size_setCell] at M1
        have HM := Lib.hid M1; clear M1 hmul hq4
        obtain ⟨D, hD⟩ : ∃ D, D = R2 / num m := ⟨_, rfl⟩
        rw [← hD] at HQ5 HM HDG ⊢
        rw [← hD] at ho4
        have HDD := Lib.hid hD; clear hD
        go_wp2_with fail
        refine HM.out.mono ?_; rintro e w5 ⟨a5, c5, rfl, ho5, hb5⟩
        go_wp2
        go_roundw
        case rel =>
          have e1 : num (l.drop k) % num m = R2 - D * num m := by
            rw [HD.out, HS1.out, HDD.out]
            have := Nat.div_add_mod R2 (num m)
            rw [Nat.mul_comm] at this; omega
          have hb6 : Below w.heap.size w (w4.setCell ⟨w.heap.size, k, none⟩ (.int .u32 (D : Int))) := (hbw.trans (hb34.mono (by omega))).setCell (Nat.le_refl _) _
          refine ⟨k, a5, c5, rfl, by omega, by rw [e1], ?_, by rw [e1]; exact ho5.mono (by omega), hb6.trans (hb5.mono (by omega)), by have := hb5.size; simp at this; omega⟩
          rw [HDG.out]
          exact HQ5.out.below hb5 (by omega)
        case measure => simp [intOf]
end Go.Proofs.YteahdgbokjbgcaaGreatDoor
namespace Go.Proofs.YteahdgbokjbgcaaGreatDoor
open Go.RowKit
set_option linter.unusedVariables false
set_option linter.unusedSimpArgs false

set_option maxHeartbeats 2000000 in
set_option maxRecDepth 10000 in
theorem rmoved_up (a : Option Addr) (c : Nat) (l : List Nat) (k : Nat) (w : World) (hlen : l.length ≤ 8796093022208) (hk : k ≤ 140737488355328) (hs : Sl w a c l) :
    Calls Tryz.prog 185 #[.slice a l.length c, .int .i64 (k : Int)] w fun e w' => ∃ a1 c1, e = .returned (.slice a1 (words (num l * 2 ^ k)).length c1) ∧ Own w' 118 w.heap.size a1 c1 (words (num l * 2 ^ k)) ∧ Below w.heap.size w w' := by
  obtain ⟨i0, hi, hz0, hz1, hz2⟩ := info_parts infoW
  have HS := Lib.hid hs; clear hs
  have hp : 2 ^ (k % 32) < 4294967296 := by
    have := Nat.pow_lt_pow_right (show 1 < 2 by decide) (show k % 32 < 32 by omega); simpa using this
  have f6 : ((2 : Int) ^ (k % 32)) % 4294967296 = (2 : Int) ^ (k % 32) := by
    rw [show ((2 : Int) ^ (k % 32)) = ((2 ^ (k % 32) : Nat) : Int) from by simp]
    generalize 2 ^ (k % 32) = z at *; omega
  have HP := Lib.hid hp; clear hp
  go_enter Tryz.func185, Tryz.ntmps185
  go_wp2_with (first
    | (at_make; refine wpList_make_blk _ rfl _ _ 44 rfl 118 i0 Tryz.underlying44 hi hz0 hz1 hz2 _ _ _ _ (k / 32) rfl rfl (by simp) (by simp) (by omega) ?_; intro w1 hk1 hb1 hs1)
    | (at_builtin; refine wpList_append_words rfl _ _ 44 rfl 118 i0 Tryz.underlying44 hi hz0 hz1 hz2 w.heap.size (some ⟨w.heap.size, 0, none⟩) a (k / 32) (k / 32) l.length c (List.replicate (k / 32) 0) l rfl rfl (by simp) rfl (by simpa using Own.of hk1 (Nat.le_refl w.heap.size)) (HS.out.grow hb1).rd HS.out.nil (by omega) (by omega) ?_; intro a2 c2 w2 ho2 hg2 hn2))
  have hb2 : Below w.heap.size w w2 := hb1.trans ⟨hg2.os, hg2.tape, hg2.output, hg2.size, fun j hj => hg2.block j (by omega) (by simp; omega)⟩
  have hs2 := hg2.size
  have hB := blk_alloc w2 118 #[.int .u32 ((2 : Int) ^ (k % 32))] [2 ^ (k % 32)] (by simp)
  have hW : W32 (List.replicate (k / 32) 0 ++ l) := (W32.rep _).append HS.out.w32
  have T1 := rtimes_any a2 (some ⟨w2.heap.size, 0, none⟩) c2 1 (List.replicate (k / 32) 0 ++ l) [2 ^ (k % 32)] _ (by simp; omega) hW (ho2.rd.grow ((Below.refl _ _).alloc (Nat.le_refl _) (Obj.cells #[Value.int .u32 ((2 : Int) ^ (k % 32))] 118))) (W32.cons HP.out W32.nil) hB.rd
  have hn : num (List.replicate (k / 32) 0 ++ l) * num [2 ^ (k % 32)] = num l * 2 ^ k := by
    rw [num_append, num_rep, Nat.zero_add, List.length_replicate, pow32]
    simp only [num, Nat.mul_zero, Nat.add_zero]
    rw [Nat.mul_comm (2 ^ _) (num l), Nat.mul_assoc, ← Nat.pow_add, show 32 * (k / 32) + k % 32 = k by omega]
  have hll : (List.replicate (k / 32) 0 ++ l).length = k / 32 + l.length := by simp
  rw [hn, World.size_alloc, hll] at T1
  have HT := Lib.hid T1; clear T1 hn hW hB
  refine HT.out.mono ?_; rintro e w3 ⟨a3, c3, rfl, ho3, hb3⟩
  go_wp2
  go_ret
  exact ⟨a3, c3, rfl, ho3.mono (by omega), hb2.trans (((Below.refl _ _).alloc hb2.size _).trans (hb3.mono (by have := hb2.size; omega)))⟩

set_option maxHeartbeats 2000000 in
set_option maxRecDepth 10000 in
theorem rmoved_down (a : Option Addr) (c : Nat) (l : List Nat) (k : Nat) (w : World) (hlen : l.length ≤ 8796093022208) (hk0 : 0 < k) (hk : k ≤ 1099511627776) (hs : Sl w a c l) :
    Calls Tryz.prog 185 #[.slice a l.length c, .int .i64 (-(k : Int))] w fun e w' => ∃ a1 c1, e = .returned (.slice a1 (words (num l / 2 ^ k)).length c1) ∧ Own w' 118 w.heap.size a1 c1 (words (num l / 2 ^ k)) ∧ Below w.heap.size w w' := by
  have HS := Lib.hid hs; clear hs
  by_cases hlt : l.length ≤ k / 32
  · have hz : num l / 2 ^ k = 0 := Nat.div_eq_of_lt (Nat.lt_of_lt_of_le (num_lt HS.out.w32) (by rw [pow32]; exact Nat.pow_le_pow_right (by decide) (by omega)))
    have HZ := Lib.hid hz; clear hz
    go_enter Tryz.func185, Tryz.ntmps185
    go_wp2
    go_ret
    rw [HZ.out, words_zero]
    exact ⟨none, 0, rfl, Own.none _ _ _, Below.refl _ _⟩
  · have hcap := HS.out.cap
    obtain ⟨b, off, rfl, hR2⟩ := HS.out.rd.dropAt (show k / 32 < l.length by omega)
    have HR2 := Lib.hid hR2; clear hR2
    have hkc : k / 32 < c := by omega
    have hw3 := HS.out.w32.drop (k / 32)
    have hl3 : (l.drop (k / 32)).length = l.length - k / 32 := by simp
    have N1 : ∀ W, Below w.heap.size w W → Calls Tryz.prog 238 #[.slice (some ⟨b, off + k / 32, none⟩) (l.length - k / 32) (c - k / 32)] W fun e w' => ∃ a' c', e = .returned (.slice a' (words (num (l.drop (k / 32)))).length c') ∧ Own w' 118 W.heap.size a' c' (words (num (l.drop (k / 32)))) ∧ Below W.heap.size W w' := by
      intro W hW
      have := rnorm_any (some ⟨b, off + k / 32, none⟩) (c - k / 32) (l.drop (k / 32)) W (by omega) ⟨HR2.out.grow hW, hw3, by omega, by intro h; cases h⟩
      rw [hl3] at this
      exact this
    have e1 : num (l.drop (k / 32)) / 2 ^ (k % 32) = num l / 2 ^ k := by
      rw [num_drop HS.out.w32, pow32, Nat.div_div_eq_div_mul, ← Nat.pow_add, show 32 * (k / 32) + k % 32 = k by omega]
    have hp : 2 ^ (k % 32) < 4294967296 := by
      have := Nat.pow_lt_pow_right (show 1 < 2 by decide) (show k % 32 < 32 by omega); simpa using this
    have hwl := words_num_len hw3
    have HN := Lib.hid N1; have HE := Lib.hid e1; have HP := Lib.hid hp; have Hwl := Lib.hid hwl; have Hl3 := Lib.hid hl3; clear N1 e1 hp hwl hw3 hl3
    obtain ⟨M, hM⟩ : ∃ M, M = num (l.drop (k / 32)) := ⟨_, rfl⟩
    rw [← hM] at HN HE Hwl
    clear hM
    have P1 : ∀ W a1 c1 g, Rd W a1 (words M) → Rd W (some ⟨g, 0, none⟩) [2 ^ (k % 32)] → Calls Tryz.prog 259 #[.slice a1 (words M).length c1, .slice (some ⟨g, 0, none⟩) 1 1] W fun e w' => ∃ a1 c1 a2 c2, e = .returned (.tuple #[.slice a1 (words (num l / 2 ^ k)).length c1, .slice a2 (words (M % 2 ^ (k % 32))).length c2]) ∧ Own w' 118 W.heap.size a1 c1 (words (num l / 2 ^ k)) ∧ Own w' 118 W.heap.size a2 c2 (words (M % 2 ^ (k % 32))) ∧ Below W.heap.size W w' := by
      intro W a1 c1 g h1 h2
      have hn2 : num [2 ^ (k % 32)] = 2 ^ (k % 32) := by simp [num]
      have := parts_any a1 (some ⟨g, 0, none⟩) c1 1 (words M) [2 ^ (k % 32)] W (by have := Hwl.out; have := Hl3.out; omega) (by simp) (W32_words _) h1 (W32.cons HP.out W32.nil) h2 (by rw [hn2]; exact Nat.ne_of_gt (Nat.two_pow_pos _))
      rw [num_words, hn2, HE.out] at this
      exact this
    have HPt := Lib.hid P1; clear P1
    have hB : ∀ W, Blk (w.alloc (.cells #[.int .u32 ((2 : Int) ^ (k % 32))] 118)) 118 w.heap.size [2 ^ (k % 32)] ∧ Blk (World.alloc W (.cells #[.int .u32 ((2 : Int) ^ (k % 32))] 118)) 118 W.heap.size [2 ^ (k % 32)] := fun W => ⟨blk_alloc _ _ _ _ (by simp), blk_alloc _ _ _ _ (by simp)⟩
    have HB := Lib.hid hB; clear hB
    have f1 : IntKind.i64.wrap (k : Int) = (k : Int) := by rw [IntKind.wrap_i64]; omega
    have f2 : (k : Int).tmod 32 = (k : Int) % 32 := Int.tmod_eq_emod_of_nonneg (by omega)
    have f3 : 0 ≤ (k : Int) % 32 := by omega
    have f4 : ((k : Int) % 32).toNat = k % 32 := by omega
    have f5 : IntKind.u32.wrap ((2 : Int) ^ (k % 32)) = (2 : Int) ^ (k % 32) := by
      have := wrap_u32_nat _ HP.out; simpa using this
    go_enter Tryz.func185, Tryz.ntmps185
    go_wp2_with fail
    go_region_with (first
      | (go_at_call 238; refine (HN.out _ (by first | exact (Below.refl _ _).drew | exact ((Below.refl _ _).alloc (Nat.le_refl _) _).drew)).mono ?_; rintro e w1 ⟨a1, c1, rfl, ho1, hb1⟩)
      | (go_at_call 259; refine (HPt.out _ _ _ _ (by first | exact ho1.rd | exact ho1.rd.grow ((Below.refl _ _).alloc (Nat.le_refl _) _)) (by first | exact (HB.out w1).2.rd | exact ((HB.out w).1.rd.grow (below_drewN (n := 1) hb1)))).mono ?_; rintro e w2 ⟨a3, c3, a4, c4, rfl, ho3, ho4, hb3⟩))
    all_goals
      go_wp2
      go_ret
      have q1 := hb1.size
      have q2 := hb3.size
      simp only [World.size_alloc, World.size_drew] at q1 q2
      refine ⟨a3, c3, rfl, ho3.mono (by first | omega | (simp only [World.size_alloc]; omega)), ?_⟩
      first
        | exact (below_drewN (n := 1) hb1).trans (((Below.refl _ _).alloc q1 _).trans (hb3.mono (by first | omega | (simp only [World.size_alloc]; omega))))
        | exact ((Below.refl _ _).alloc (Nat.le_refl _) _).trans (((below_drewN (n := 1) hb1).mono (by simp)).trans (hb3.mono (by omega)))
end Go.Proofs.YteahdgbokjbgcaaGreatDoor
