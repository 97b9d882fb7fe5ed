/- Contracts of package wide's readers: cut, Norm, Cmp, Len, Low, Bit. No statement of the seat is proved here. -/
import Derived.Test.YtmokomfneikipaaDoorProg
import Derived.Test.YtmokomfneikipaaDoorBit
import Derived.Laws.CopyOwn
namespace Go.Proofs.YtmokomfneikipaaDoor
open Go.RowKit
set_option linter.unusedVariables false
set_option linter.unusedSimpArgs false

set_option maxHeartbeats 400000 in
theorem cut_any (a : Option Addr) (c : Nat) (l : List Nat) (w : World) (hlen : l.length ≤ 70368744177664) (hc : l.length ≤ c) (hw : W32 l) (hr : Rd w a l) :
    Calls Tryd.prog 88 #[.slice a l.length c] w fun e w' => e = .returned (.slice a (words (num l)).length c) ∧ w = w' := by
  go_enter Tryd.func88, Tryd.ntmps88
  go_wp2
  go_loop [0] (fun s => ∃ k : Nat, k ≤ l.length ∧ s = .slice a k c ∧ num (l.take k) = num l) (fun s => match s with | .slice _ k _ => k | _ => 0)
  case atStart => exact ⟨l.length, Nat.le_refl _, rfl, by simp⟩
  case round =>
    obtain ⟨k, hk, rfl, ht⟩ := hrel
    have HT := Lib.hid ht; clear ht
    have HW := Lib.hid hw; clear hw
    cases k with
    | zero =>
      go_wp2
      go_ret
      refine ⟨?_, rfl⟩
      rw [← HT.out]; simp [num, words_zero]
    | succ k =>
      obtain ⟨b, off, x, rfl, hcell, hx, HX⟩ := hr.at HW.out (show k < l.length by omega)
      clear hr
      go_wp2
      · have h : ((x : Int) == 0) = true := by assumption
        have h0 : x = 0 := by simpa using h
        exact ⟨⟨k, by omega, rfl, by rw [← HT.out, num_take_zero HX.out h0]⟩, by simp⟩
      · have h : ((x : Int) == 0) = false := by assumption
        have h0 : x ≠ 0 := by simpa using h
        go_ret
        refine ⟨?_, rfl⟩
        rw [← HT.out, words_take_pos HW.out HX.out h0, List.length_take, Nat.min_eq_left hk]; rfl

set_option maxHeartbeats 1000000 in
set_option maxRecDepth 10000 in
theorem cmp_any (a b : Option Addr) (c d : Nat) (l m : List Nat) (w : World) (hlen : l.length ≤ 70368744177664) (hc : l.length ≤ c) (hw : W32 l) (hr : Rd w a l) (hlen2 : m.length ≤ 70368744177664) (hd : m.length ≤ d) (hw2 : W32 m) (hr2 : Rd w b m) :
    Calls Tryd.prog 60 #[.slice a l.length c, .slice b m.length d] w fun e w' => e = .returned (.int .i64 (cmpN (num l) (num m))) ∧ ∃ n, w' = w.drewN n := by
  have hl1 := words_num_len hw
  have hl2 := words_num_len hw2
  have hR1 := Lib.hid (hr.words hw)
  have hR2 := Lib.hid (hr2.words hw2)
  obtain ⟨N, hN⟩ : ∃ N, N = num l := ⟨_, rfl⟩
  obtain ⟨M, hM⟩ : ∃ M, M = num m := ⟨_, rfl⟩
  have c1 := cut_any a c l w hlen hc hw hr
  have c2 := cut_any b d m w hlen2 hd hw2 hr2
  rw [← hN] at c1 hl1 hR1
  rw [← hM] at c2 hl2 hR2
  rw [← hN, ← hM]
  have C1 := Lib.hid c1; clear c1
  have C2 := Lib.hid c2; clear c2
  clear hr hr2 hw hw2 hN hM
  go_enter Tryd.func60, Tryd.ntmps60
  go_wp2_with fail
  refine C1.out.mono ?_; rintro e w' ⟨rfl, rfl⟩
  go_wp2_with fail
  refine C2.out.mono ?_; rintro e w' ⟨rfl, rfl⟩
  rcases Nat.lt_trichotomy (words N).length (words M).length with h | h | h
  · go_wp2
    go_ret
    exact ⟨by rw [cmpN_lt (words_len_mono h)]; rfl, 0, rfl⟩
  · have h1 : ¬ (words N).length < (words M).length := by omega
    have h2 : ¬ (words M).length < (words N).length := by omega
    have H := Lib.hid h; clear h
    go_wp2
    go_loopw [5] (fun s wr => ∃ (k n : Nat), wr = w.drewN n ∧ k ≤ (words N).length ∧ s = .int .i64 ((k : Int) - 1) ∧ Hid ((words N).drop k = (words M).drop k)) (fun s _ => (intOf s + 1).toNat)
    case atStart => exact ⟨(words N).length, 0, rfl, Nat.le_refl _, rfl, by unfold Hid; rw [List.drop_length, H.out, List.drop_length]⟩
    case round =>
      obtain ⟨k, n, rfl, hk, rfl, HD⟩ := hrel
      cases k with
      | zero =>
        have e0 : ((0 : Nat) : Int) - 1 = -1 := rfl
        rw [e0]
        go_wp2
        go_ret
        refine ⟨?_, n, rfl⟩
        have : N = M := words_inj (by simpa [Hid] using HD.out)
        rw [cmpN_eq this]; rfl
      | succ k =>
        have e0 : ((k + 1 : Nat) : Int) - 1 = (k : Int) := by omega
        rw [e0]
        obtain ⟨ba, offa, x, ha, hca, hx, HX⟩ := hR1.out.at (W32_words N) (show k < _ by omega)
        obtain ⟨bb, offb, y, hb, hcb, hy, HY⟩ := hR2.out.at (W32_words M) (show k < _ by have := H.out; omega)
        subst ha hb
        have hk2 : k < (words M).length := by have := H.out; omega
        have HR1 := Lib.hid hR1; clear hR1
        have HR2 := Lib.hid hR2; clear hR2
        rcases Nat.lt_trichotomy x y with hxy | hxy | hxy
        · go_wp2
          go_quiet (fail)
          go_wp2
          go_ret
          refine ⟨?_, _, by simp only [World.drewN_drewN]; rfl⟩
          have := num_digit_lt (W32_words N) HX.out HY.out HD.out hxy
          rw [num_words, num_words] at this
          rw [cmpN_lt this]; rfl
        · subst hxy
          go_wp2
          go_quiet (fail)
          go_wp2
          go_quiet (fail)
          go_wp2
          go_roundw
          case rel => exact ⟨k, _, rfl, by omega, rfl, by unfold Hid; rw [drop_eq_cons HX.out, drop_eq_cons HY.out, HD.out]⟩
          case measure => simp [intOf]
        · have hyx : ¬ x < y := by omega
          go_wp2
          go_quiet (fail)
          go_wp2
          go_quiet (fail)
          go_wp2
          go_ret
          refine ⟨?_, _, by simp only [World.drewN_drewN]; rfl⟩
          have := num_digit_lt (W32_words M) HY.out HX.out HD.out.symm hxy
          rw [num_words, num_words] at this
          rw [cmpN_gt this]; rfl
  · have h1 : ¬ (words N).length < (words M).length := by omega
    go_wp2
    go_ret
    exact ⟨by rw [cmpN_gt (words_len_mono h)]; rfl, 0, rfl⟩
end Go.Proofs.YtmokomfneikipaaDoor
