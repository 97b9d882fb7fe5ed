/- Contracts of package steelyardref02: size, Norm, Of, Cmp, at, Len, Low, Bit. No statement of the seat is proved here. -/
import Derived.Test.YtmokomfneikipaaDoorProg
import Derived.Test.YtmokomfneikipaaDoorWe
namespace Go.Proofs.YtmokomfneikipaaDoor
open Go.RowKit
set_option linter.unusedVariables false
set_option linter.unusedSimpArgs false

set_option maxHeartbeats 400000 in
theorem rsize_any (a : Option Addr) (c : Nat) (l : List Nat) (w : World) (hlen : l.length ≤ 70368744177664) (hw : W32 l) (hr : Rd w a l) :
    Calls Tryd.prog 97 #[.slice a l.length c] w fun e w' => e = .returned (.int .i64 (words (num l)).length) ∧ w = w' := by
  go_enter Tryd.func97, Tryd.ntmps97
  go_wp2
  go_loop [3] (fun s => ∃ k : Nat, k ≤ l.length ∧ s = .int .i64 k ∧ num (l.take k) = num l) (fun s => (intOf s).toNat)
  case atStart => exact ⟨l.length, Nat.le_refl _, rfl, by simp⟩
  case round =>
    obtain ⟨k, hk, rfl, ht⟩ := hrel
    have HT := Lib.hid ht; clear ht
    have HW := Lib.hid hw; clear hw
    cases k with
    | zero =>
      have e0 : ((0 : Nat) : Int) = 0 := rfl
      rw [e0]
      go_wp2
      go_ret
      refine ⟨?_, rfl⟩
      rw [← HT.out]; simp [num, words_zero]
    | succ k =>
      obtain ⟨b, off, x, rfl, hcell, hx, HX⟩ := hr.at HW.out (show k < l.length by omega)
      clear hr
      go_wp2
      · have h : ((x : Int) == 0) = true := by assumption
        have h0 : x = 0 := by simpa using h
        go_round
        case rel => exact ⟨k, by omega, rfl, by rw [← HT.out, num_take_zero HX.out h0]⟩
        case measure => simp [intOf]
      · have h : ((x : Int) == 0) = false := by assumption
        have h0 : x ≠ 0 := by simpa using h
        go_ret
        refine ⟨?_, rfl⟩
        rw [← HT.out, words_take_pos HW.out HX.out h0, List.length_take, Nat.min_eq_left hk]; rfl

set_option maxHeartbeats 400000 in
theorem rnorm_any (a : Option Addr) (c : Nat) (l : List Nat) (w : World) (hlen : l.length ≤ 35184372088832) (hs : Sl w a c l) :
    Calls Tryd.prog 86 #[.slice a l.length c] w fun e w' => ∃ a' c', e = .returned (.slice a' (words (num l)).length c') ∧ Own w' 64 w.heap.size a' c' (words (num l)) ∧ Below w.heap.size w w' := by
  obtain ⟨i0, hi, hz0, hz1, hz2⟩ := info_parts infoW
  have S1 := Lib.hid (rsize_any a c l w (by omega) hs.w32 hs.rd)
  have hl1 := words_num_len hs.w32
  have hcap := hs.cap
  have H1 := hs.words
  obtain ⟨W, hW⟩ : ∃ W, W = words (num l) := ⟨_, rfl⟩
  rw [← hW] at S1 hl1 H1 ⊢
  have HS := Lib.hid hs; clear hs hW
  go_enter Tryd.func86, Tryd.ntmps86
  go_wp2_with fail
  refine S1.out.mono ?_; rintro e w' ⟨rfl, rfl⟩
  go_wp2_with (first | (at_builtin; refine wpList_append_words rfl _ _ 24 rfl 64 i0 Tryd.underlying24 hi hz0 hz1 hz2 w.heap.size none a 0 0 W.length c [] W rfl rfl rfl rfl (Own.none _ _ _) H1.rd H1.nil (by omega) (Nat.le_refl _) ?_; intro a' c' w1 ho hg hn))
  simp only [Nat.zero_add, List.nil_append] at ho ⊢
  go_wp2
  go_ret
  exact ⟨a', c', rfl, ho, ⟨hg.os, hg.tape, hg.output, hg.size, fun k hk => hg.block k hk (by simp)⟩⟩

set_option maxHeartbeats 400000 in
theorem rof_any (n : Nat) (w : World) (hn : n < 18446744073709551616) :
    Calls Tryd.prog 54 #[.int .u64 (n : Int)] w fun e w' => ∃ a' c', e = .returned (.slice a' (words n).length c') ∧ Own w' 64 w.heap.size a' c' (words n) ∧ Below w.heap.size w w' := by
  go_enter Tryd.func54, Tryd.ntmps54
  go_wp2_with fail
  have hB := blk_alloc w 64 #[Value.int .u32 ((n : Int) % 4294967296), Value.int .u32 ((n : Int) / 4294967296)] [n % 4294967296, n / 4294967296] (by simp)
  have hN := rnorm_any (some ⟨w.heap.size, 0, none⟩) 2 [n % 4294967296, n / 4294967296] _ (by simp) (Sl.blk hB (W32.cons (by omega) (W32.cons (by omega) W32.nil)))
  rw [num_two n] at hN
  refine hN.mono ?_
  rintro e w' ⟨a', c', rfl, ho, hb⟩
  rw [World.size_alloc] at ho hb
  clear hN hB
  go_wp2
  go_ret
  exact ⟨a', c', rfl, ho.mono (by omega), ((Below.refl _ _).alloc (Nat.le_refl _) _).trans (hb.mono (by omega))⟩

set_option maxHeartbeats 1000000 in
set_option maxRecDepth 10000 in
theorem rcmp_any (a b : Option Addr) (c d : Nat) (l m : List Nat) (w : World) (hlen : l.length ≤ 70368744177664) (hw : W32 l) (hr : Rd w a l) (hlen2 : m.length ≤ 70368744177664) (hw2 : W32 m) (hr2 : Rd w b m) :
    Calls Tryd.prog 65 #[.slice a l.length c, .slice b m.length d] w fun e w' => e = .returned (.int .i64 (cmpN (num l) (num m))) ∧ ∃ n, w' = w.drewN n := by
  have hl1 := words_num_len hw
  have hl2 := words_num_len hw2
  have hR1 := Lib.hid (hr.words hw)
  have hR2 := Lib.hid (hr2.words hw2)
  obtain ⟨N, hN⟩ : ∃ N, N = num l := ⟨_, rfl⟩
  obtain ⟨M, hM⟩ : ∃ M, M = num m := ⟨_, rfl⟩
  have c1 := rsize_any a c l w hlen hw hr
  have c2 := rsize_any b d m w hlen2 hw2 hr2
  rw [← hN] at c1 hl1 hR1
  rw [← hM] at c2 hl2 hR2
  rw [← hN, ← hM]
  have C1 := Lib.hid c1; clear c1
  have C2 := Lib.hid c2; clear c2
  clear hr hr2 hw hw2 hN hM
  go_enter Tryd.func65, Tryd.ntmps65
  go_wp2_with fail
  refine C1.out.mono ?_; rintro e w' ⟨rfl, rfl⟩
  go_wp2_with fail
  refine C2.out.mono ?_; rintro e w' ⟨rfl, rfl⟩
  rcases Nat.lt_trichotomy (words N).length (words M).length with h | h | h
  · have hne : (((words N).length : Int) != ((words M).length : Int)) = true := by simp; omega
    go_wp2
    go_ret
    exact ⟨by rw [cmpN_lt (words_len_mono h)]; rfl, 0, rfl⟩
  · have hne : (((words N).length : Int) != ((words M).length : Int)) = false := by simp; omega
    have H := Lib.hid h; clear h
    go_wp2
    go_loopw [5] (fun s wr => ∃ (k n : Nat), wr = w.drewN n ∧ k ≤ (words N).length ∧ s = .int .i64 ((k : Int) - 1) ∧ Hid ((words N).drop k = (words M).drop k)) (fun s _ => (intOf s + 1).toNat)
    case atStart => exact ⟨(words N).length, 0, rfl, Nat.le_refl _, rfl, by unfold Hid; rw [List.drop_length, H.out, List.drop_length]⟩
    case round =>
      obtain ⟨k, n, rfl, hk, rfl, HD⟩ := hrel
      cases k with
      | zero =>
        have e0 : ((0 : Nat) : Int) - 1 = -1 := rfl
        rw [e0]
        go_wp2
        go_ret
        refine ⟨?_, n, rfl⟩
        have : N = M := words_inj (by simpa [Hid] using HD.out)
        rw [cmpN_eq this]; rfl
      | succ k =>
        have e0 : ((k + 1 : Nat) : Int) - 1 = (k : Int) := by omega
        rw [e0]
        obtain ⟨ba, offa, x, ha, hca, hx, HX⟩ := hR1.out.at (W32_words N) (show k < _ by omega)
        obtain ⟨bb, offb, y, hb, hcb, hy, HY⟩ := hR2.out.at (W32_words M) (show k < _ by have := H.out; omega)
        subst ha hb
        have hk2 : k < l.length := by omega
        have hk3 : k < m.length := by have := H.out; omega
        have HR1 := Lib.hid hR1; clear hR1
        have HR2 := Lib.hid hR2; clear hR2
        rcases Nat.lt_trichotomy x y with hxy | hxy | hxy
        · go_wp2
          go_quiet (fail)
          go_wp2
          go_ret
          refine ⟨?_, _, by simp only [World.drewN_drewN]; rfl⟩
          have := num_digit_lt (W32_words N) HX.out HY.out HD.out hxy
          rw [num_words, num_words] at this
          rw [cmpN_lt this]; rfl
        · subst hxy
          go_wp2
          go_quiet (fail)
          go_wp2
          go_quiet (fail)
          go_wp2
          go_roundw
          case rel => exact ⟨k, _, rfl, by omega, rfl, by unfold Hid; rw [drop_eq_cons HX.out, drop_eq_cons HY.out, HD.out]⟩
          case measure => simp [intOf]
        · have hyx : ¬ x < y := by omega
          go_wp2
          go_quiet (fail)
          go_wp2
          go_quiet (fail)
          go_wp2
          go_ret
          refine ⟨?_, _, by simp only [World.drewN_drewN]; rfl⟩
          have := num_digit_lt (W32_words M) HY.out HX.out HD.out.symm hxy
          rw [num_words, num_words] at this
          rw [cmpN_gt this]; rfl
  · have hne : (((words N).length : Int) != ((words M).length : Int)) = true := by simp; omega
    have h1 : ¬ (words N).length < (words M).length := by omega
    go_wp2
    go_ret
    exact ⟨by rw [cmpN_gt (words_len_mono h)]; rfl, 0, rfl⟩

theorem rat_any (a : Option Addr) (c : Nat) (l : List Nat) (k x : Nat) (w : World) (hlen : l.length ≤ 70368744177664) (hk : k ≤ 9223372036854775807) (hw : W32 l) (hr : Rd w a l) (hx : l.getD k 0 = x) :
    Calls Tryd.prog 96 #[.slice a l.length c, .int .i64 (k : Int)] w fun e w' => e = .returned (.int .u64 (x : Int)) ∧ w = w' := by
  by_cases h : k < l.length
  · obtain ⟨b, off, y, rfl, hcell, hy, HY⟩ := hr.at hw h
    have : y = x := by rw [List.getD_eq_getElem?_getD, HY.out] at hx; exact hx
    subst this
    clear hr hw hx
    go_enter Tryd.func96, Tryd.ntmps96
    go_wp2
    go_ret
    exact ⟨rfl, rfl⟩
  · have : x = 0 := by rw [List.getD_eq_getElem?_getD, List.getElem?_eq_none (by omega)] at hx; exact hx.symm
    subst this
    clear hr hw hx
    go_enter Tryd.func96, Tryd.ntmps96
    go_wp2
    go_ret
    exact ⟨rfl, rfl⟩
end Go.Proofs.YtmokomfneikipaaDoor
