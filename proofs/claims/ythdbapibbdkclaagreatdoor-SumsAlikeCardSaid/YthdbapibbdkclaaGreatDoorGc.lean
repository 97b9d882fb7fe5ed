/- Contracts of steelyardref05.Plus, Minus. No statement of the seat is proved here. -/
import Derived.Test.YthdbapibbdkclaaGreatDoorProg
import Derived.Test.YthdbapibbdkclaaGreatDoorGb
namespace Go.Proofs.YthdbapibbdkclaaGreatDoor
open Go.RowKit
set_option maxRecDepth 10000
set_option linter.unusedVariables false
set_option linter.unusedSimpArgs false

set_option maxRecDepth 10000 in
set_option maxHeartbeats 8000000 in
theorem plusfin_any {x y : Nat} (hx : x < 18446744073709551616) (hy : y < 18446744073709551616) (fx : x % 9223372036854775808 < 9218868437227405312) (fy : y % 9223372036854775808 < 9218868437227405312) (w : World) :
    Calls Tryz.prog 82 #[.float .f64 x, .float .f64 y] w fun en w' => en = .returned (.float .f64 (addC x y)) ∧ Below w.heap.size w w' := by
  obtain ⟨p, hp, dp⟩ := Dz.of fx
  obtain ⟨q, hq, dq⟩ := Dz.of fy
  obtain ⟨k66, hk66⟩ : ∃ k, k = 66 := ⟨_, rfl⟩
  obtain ⟨g, hg, dg⟩ := dp.add (j := k66) dq (fV_abs fx hk66) (fV_abs fy hk66) (by omega)
  clear hk66
  have HOx := Lib.hid (fun W => rOf hx hp dp.ok W)
  have HOy := Lib.hid (fun W => rOf hy hq dq.ok W)
  have HAd := Lib.hid (fun W a a' c c' h1 h2 => rAdd dp dq hg dg a a' c c' W h1 h2)
  have HI1 : Hid (∀ W, Calls Tryz.prog 142 #[.float .f64 x] W fun en w' => en = .returned (.bool false) ∧ W = w') := Lib.hid fun W => by
    have h := isodd_any x W hx; rw [decide_eq_false (by omega)] at h; exact h
  have HI2 : Hid (∀ W, Calls Tryz.prog 142 #[.float .f64 y] W fun en w' => en = .returned (.bool false) ∧ W = w') := Lib.hid fun W => by
    have h := isodd_any y W hy; rw [decide_eq_false (by omega)] at h; exact h
  have HE1 : Hid (∀ W, Calls Tryz.prog 143 #[.float .f64 x] W fun en w' => en = .returned (.bool false) ∧ W = w') := Lib.hid fun W => by
    have h := isendless_any x W hx; rw [decide_eq_false (by omega)] at h; exact h
  have HE2 : Hid (∀ W, Calls Tryz.prog 143 #[.float .f64 y] W fun en w' => en = .returned (.bool false) ∧ W = w') := Lib.hid fun W => by
    have h := isendless_any y W hy; rw [decide_eq_false (by omega)] at h; exact h
  obtain ⟨z1, z2⟩ := addC_fin hx hy fx fy
  have HN1 := Lib.hid fun W => neg_any x W hx
  have HN2 := Lib.hid fun W => neg_any y W hy
  have hcase : (g = D.zero ∧ addC x y = if (decide (9223372036854775808 ≤ x) && decide (9223372036854775808 ≤ y)) = true then 9223372036854775808 else 0) ∨
      ((∀ a c W, (argOf g a c).Ok W → Calls Tryz.prog 123 #[DV g a c, .int .i64 0] W fun en w' => en = .returned (.tuple #[.float .f64 (addC x y), .int .i64 0]) ∧ Below W.heap.size W w') ∧ ((((words g.m).length : Nat) : Int) == 0) = false) := by
    by_cases h0 : fV x + fV y = 0
    · left
      refine ⟨z_zero_iff dg.is (by rw [dg.val]; exact h0), ?_⟩
      rw [z1 h0]
      by_cases u : 9223372036854775808 ≤ x <;> by_cases v : 9223372036854775808 ≤ y <;> simp [u, v]
    · right
      refine ⟨fun a c W h1 => rRound dg (z2 g dg.is dg.ex dg.val h0) a c W h1, ?_⟩
      have hm : g.m ≠ 0 := by
        intro hm
        rcases dg.is with h | h
        · apply h0; rw [← dg.val, h]; exact z_zero _
        · omega
      have hl : (words g.m).length ≠ 0 := fun h => hm (by rw [← num_words g.m, List.eq_nil_of_length_eq_zero h]; rfl)
      exact decide_eq_false (by omega)
  have HC := Lib.hid hcase
  have HOk : Hid (p.Ok ∧ q.Ok ∧ g.Ok) := ⟨dp.ok, dq.ok, dg.ok⟩
  clear z1 z2 hcase hp hq hg dp dq dg hx hy fx fy
  obtain ⟨sx, hsx⟩ : ∃ s, s = decide (9223372036854775808 ≤ x) := ⟨_, rfl⟩
  obtain ⟨sy, hsy⟩ : ∃ s, s = decide (9223372036854775808 ≤ y) := ⟨_, rfl⟩
  rw [← hsx] at HN1 HC
  rw [← hsy] at HN2 HC
  clear hsx hsy
  generalize addC x y = r at *
  unfold DV at *
  go_enter Tryz.func82, Tryz.ntmps82
  go_wp2_with fail
  refine (HI1.out _).mono ?_; rintro en w1 ⟨rfl, rfl⟩
  go_wp2_with fail
  refine (HI2.out _).mono ?_; rintro en w1 ⟨rfl, rfl⟩
  go_wp2_with fail
  refine (HE1.out _).mono ?_; rintro en w1 ⟨rfl, rfl⟩
  go_wp2_with fail
  refine (HE2.out _).mono ?_; rintro en w1 ⟨rfl, rfl⟩
  go_wp2_with fail
  refine (HOx.out _).mono ?_; rintro en w3 ⟨a1, c1, rfl, ho1, hb⟩
  have HB3 : Hid (Below w.heap.size w w3) := hb
  clear hb
  simp only [DV]
  obtain ⟨g4, hg4⟩ : ∃ n, n = w3.heap.size := ⟨_, rfl⟩
  obtain ⟨w4, e4⟩ : ∃ W, W = w3.alloc (.cells #[.bool p.neg, .slice a1 (words p.m).length c1, .int .i64 p.exp] 46) := ⟨_, rfl⟩
  obtain ⟨k4, b4, s4⟩ := new_cel e4 hg4.symm
  have hz3 := HB3.out.size
  have HB4 : Hid (Below w.heap.size w w4) := HB3.out.trans (b4.mono (by omega))
  have HO4 := Lib.hid ((ho1.grow (b4.mono (by omega))))
  have E4 := Lib.hid e4
  have G4 := Lib.hid hg4
  clear e4 b4 ho1 hg4 hz3 s4
  go_wp2_with fail
  rw [← E4.out, ← G4.out]
  refine (HOy.out _).mono ?_; rintro en w5 ⟨a2, c2, rfl, ho2, hb⟩
  have k45 := k4.below hb k4.lt
  have hz5 := hb.size
  have k4l := k4.lt
  have hz4 := HB4.out.size
  have HB5 : Hid (Below w.heap.size w w5) := HB4.out.trans (hb.mono hz4)
  have HO5 := Lib.hid (HO4.out.grow hb)
  clear hb HO4
  simp only [DV]
  obtain ⟨g6, hg6⟩ : ∃ n, n = w5.heap.size := ⟨_, rfl⟩
  obtain ⟨w6, e6⟩ : ∃ W, W = w5.alloc (.cells #[.bool q.neg, .slice a2 (words q.m).length c2, .int .i64 q.exp] 46) := ⟨_, rfl⟩
  obtain ⟨k6, b6, s6⟩ := new_cel e6 hg6.symm
  have k46 := k45.below b6 (by omega)
  have HB6 : Hid (Below w.heap.size w w6) := HB5.out.trans (b6.mono (by omega))
  have HO6 := Lib.hid (And.intro (HO5.out.grow (b6.mono (by omega))) (ho2.grow (b6.mono (by omega))))
  have E6 := Lib.hid e6
  have G6 := Lib.hid hg6
  have q6 := (k45.alloc (.cells #[.bool q.neg, .slice a2 (words q.m).length c2, .int .i64 q.exp] 46)).facts
  obtain ⟨_, _, _, _, _, _⟩ := q6
  clear e6 b6 ho2 hg6 hz5 hz4 k4l s6 k4 k45 HO5
  go_wp2_with fail
  rw [← E6.out, ← G6.out]
  refine (HAd.out w6 a1 a2 c1 c2 (HO6.out.1.arg HOk.out.1) (HO6.out.2.arg HOk.out.2.1)).mono ?_; rintro en w7 ⟨a3, c3, rfl, ho3, hb⟩
  have hz6 := HB6.out.size
  have hz7 := hb.size
  have HB7 : Hid (Below w.heap.size w w7) := HB6.out.trans (hb.mono hz6)
  clear hb HO6
  simp only [DV]
  obtain ⟨g8, hg8⟩ : ∃ n, n = w7.heap.size := ⟨_, rfl⟩
  obtain ⟨w8, e8⟩ : ∃ W, W = w7.alloc (.cells #[.bool g.neg, .slice a3 (words g.m).length c3, .int .i64 g.exp] 46) := ⟨_, rfl⟩
  obtain ⟨k8, b8, s8⟩ := new_cel e8 hg8.symm
  have HB8 : Hid (Below w.heap.size w w8) := HB7.out.trans (b8.mono (by omega))
  have HO8 := Lib.hid ((ho3.grow (b8.mono (by omega))))
  have E8 := Lib.hid e8
  have G8 := Lib.hid hg8
  clear e8 b8 ho3 hg8 hz6 hz7 s8 k46 k6
  rcases HC.out with ⟨rfl, hr⟩ | ⟨hR, hl⟩
  · have HR0 := Lib.hid hr
    clear hr HC
    have hw0 : ((((words D.zero.m).length : Nat) : Int) == 0) = true := by rw [show D.zero.m = 0 from rfl, words_zero]; rfl
    cases sx with
    | false =>
      go_wp2_with fail
      rw [← E8.out, ← G8.out]
      refine (HN1.out _).mono ?_; rintro en w1 ⟨rfl, rfl⟩
      go_wp2_with fail
      refine (signed0_any _ _).mono ?_; rintro en w1 ⟨rfl, rfl⟩
      go_wp2_with fail
      go_ret
      exact ⟨by rw [HR0.out]; rfl, HB8.out⟩
    | true =>
      cases sy
      all_goals
        go_wp2_with fail
        rw [← E8.out, ← G8.out]
        refine (HN1.out _).mono ?_; rintro en w1 ⟨rfl, rfl⟩
        go_wp2_with fail
        refine (HN2.out _).mono ?_; rintro en w1 ⟨rfl, rfl⟩
        go_wp2_with fail
        refine (signed0_any _ _).mono ?_; rintro en w1 ⟨rfl, rfl⟩
        go_wp2_with fail
        go_ret
        exact ⟨by rw [HR0.out]; rfl, HB8.out⟩
  · have HR := Lib.hid hR
    clear hR HC
    go_wp2_with fail
    rw [← E8.out, ← G8.out]
    refine (HR.out a3 c3 w8 (HO8.out.arg HOk.out.2.2)).mono ?_; rintro en w9 ⟨rfl, hb⟩
    have HB9 : Hid (Below w.heap.size w w9) := HB8.out.trans (hb.mono HB8.out.size)
    clear hb
    go_wp2_with fail
    go_ret
    exact ⟨rfl, HB9.out⟩

set_option maxRecDepth 10000 in
set_option maxHeartbeats 8000000 in
theorem plus_any {x y : Nat} (hx : x < 18446744073709551616) (hy : y < 18446744073709551616) (w : World) :
    Calls Tryz.prog 82 #[.float .f64 x, .float .f64 y] w fun en w' => en = .returned (.float .f64 (addC x y)) ∧ Below w.heap.size w w' := by
  by_cases hfin : x % 9223372036854775808 < 9218868437227405312 ∧ y % 9223372036854775808 < 9218868437227405312
  · exact plusfin_any hx hy hfin.1 hfin.2 w
  have HI1 := Lib.hid (fun W => isodd_any x W hx)
  have HI2 := Lib.hid (fun W => isodd_any y W hy)
  have HE1 := Lib.hid (fun W => isendless_any x W hx)
  have HE2 := Lib.hid (fun W => isendless_any y W hy)
  have HN1 := Lib.hid (fun W => neg_any x W hx)
  have HN2 := Lib.hid (fun W => neg_any y W hy)
  obtain ⟨A, hA⟩ : ∃ b, b = decide (9218868437227405312 < x % 9223372036854775808) := ⟨_, rfl⟩
  obtain ⟨B, hB⟩ : ∃ b, b = decide (9218868437227405312 < y % 9223372036854775808) := ⟨_, rfl⟩
  obtain ⟨C, hC⟩ : ∃ b, b = decide (x % 9223372036854775808 = 9218868437227405312) := ⟨_, rfl⟩
  obtain ⟨D, hD⟩ : ∃ b, b = decide (y % 9223372036854775808 = 9218868437227405312) := ⟨_, rfl⟩
  obtain ⟨s, hs⟩ : ∃ b, b = decide (9223372036854775808 ≤ x) := ⟨_, rfl⟩
  obtain ⟨t, ht⟩ : ∃ b, b = decide (9223372036854775808 ≤ y) := ⟨_, rfl⟩
  have hcase : (A = true ∧ addC x y = nan64) ∨ (A = false ∧ B = true ∧ addC x y = nan64) ∨ (A = false ∧ B = false ∧ C = true ∧ D = true ∧ t = !s ∧ addC x y = nan64) ∨
      (A = false ∧ B = false ∧ C = true ∧ D = true ∧ t = s ∧ addC x y = x) ∨ (A = false ∧ B = false ∧ C = true ∧ D = false ∧ addC x y = x) ∨ (A = false ∧ B = false ∧ C = false ∧ D = true ∧ addC x y = y) := by
    by_cases o1 : 9218868437227405312 < x % 9223372036854775808
    · exact .inl ⟨by rw [hA]; exact decide_eq_true o1, addC_nan (.inl o1)⟩
    have a1 : A = false := by rw [hA]; exact decide_eq_false o1
    by_cases o2 : 9218868437227405312 < y % 9223372036854775808
    · exact .inr (.inl ⟨a1, by rw [hB]; exact decide_eq_true o2, addC_nan (.inr o2)⟩)
    have b1 : B = false := by rw [hB]; exact decide_eq_false o2
    by_cases e1 : x % 9223372036854775808 = 9218868437227405312
    · have c1 : C = true := by rw [hC]; exact decide_eq_true e1
      by_cases e2 : y % 9223372036854775808 = 9218868437227405312
      · have d1 : D = true := by rw [hD]; exact decide_eq_true e2
        by_cases hst : s = t
        · exact .inr (.inr (.inr (.inl ⟨a1, b1, c1, d1, hst.symm, addC_infl hx hy e1 (by omega) (fun _ => by rw [← hs, ← ht]; exact hst)⟩)))
        · exact .inr (.inr (.inl ⟨a1, b1, c1, d1, by cases s <;> cases t <;> simp_all, addC_opp hx hy e1 e2 (by rw [← hs, ← ht]; exact hst)⟩))
      · exact .inr (.inr (.inr (.inr (.inl ⟨a1, b1, c1, by rw [hD]; exact decide_eq_false e2, addC_infl hx hy e1 (by omega) (fun h => absurd h e2)⟩))))
    · have e2 : y % 9223372036854775808 = 9218868437227405312 := by
        rcases Nat.lt_or_ge (x % 9223372036854775808) 9218868437227405312 with q | q
        · have := fun r => hfin ⟨q, r⟩
          omega
        · omega
      exact .inr (.inr (.inr (.inr (.inr ⟨a1, b1, by rw [hC]; exact decide_eq_false e1, by rw [hD]; exact decide_eq_true e2, addC_infr hx hy (by omega) e2⟩))))
  rw [← hA] at HI1
  rw [← hB] at HI2
  rw [← hC] at HE1
  rw [← hD] at HE2
  rw [← hs] at HN1
  rw [← ht] at HN2
  clear hA hB hC hD hs ht hfin hx hy
  rcases hcase with ⟨rfl, hv⟩ | ⟨rfl, rfl, hv⟩ | ⟨rfl, rfl, rfl, rfl, rfl, hv⟩ | ⟨rfl, rfl, rfl, rfl, rfl, hv⟩ | ⟨rfl, rfl, rfl, rfl, hv⟩ | ⟨rfl, rfl, rfl, rfl, hv⟩
  all_goals rw [hv]; clear hv
  · go_enter Tryz.func82, Tryz.ntmps82
    go_wp2_with fail
    refine (HI1.out _).mono ?_; rintro en w1 ⟨rfl, rfl⟩
    go_wp2_with fail
    refine (HI2.out _).mono ?_; rintro en w1 ⟨rfl, rfl⟩
    go_wp2_with fail
    refine (HE1.out _).mono ?_; rintro en w1 ⟨rfl, rfl⟩
    go_wp2_with fail
    refine (HE2.out _).mono ?_; rintro en w1 ⟨rfl, rfl⟩
    go_wp2_with fail
    refine (oddv_any _).mono ?_; rintro en w1 ⟨rfl, rfl⟩
    go_wp2_with fail
    go_ret
    exact ⟨rfl, Below.refl _ _⟩
  · go_enter Tryz.func82, Tryz.ntmps82
    go_wp2_with fail
    refine (HI1.out _).mono ?_; rintro en w1 ⟨rfl, rfl⟩
    go_wp2_with fail
    refine (HI2.out _).mono ?_; rintro en w1 ⟨rfl, rfl⟩
    go_wp2_with fail
    refine (HE1.out _).mono ?_; rintro en w1 ⟨rfl, rfl⟩
    go_wp2_with fail
    refine (HE2.out _).mono ?_; rintro en w1 ⟨rfl, rfl⟩
    go_wp2_with fail
    refine (oddv_any _).mono ?_; rintro en w1 ⟨rfl, rfl⟩
    go_wp2_with fail
    go_ret
    exact ⟨rfl, Below.refl _ _⟩
  · go_enter Tryz.func82, Tryz.ntmps82
    go_wp2_with fail
    refine (HI1.out _).mono ?_; rintro en w1 ⟨rfl, rfl⟩
    go_wp2_with fail
    refine (HI2.out _).mono ?_; rintro en w1 ⟨rfl, rfl⟩
    go_wp2_with fail
    refine (HE1.out _).mono ?_; rintro en w1 ⟨rfl, rfl⟩
    go_wp2_with fail
    refine (HE2.out _).mono ?_; rintro en w1 ⟨rfl, rfl⟩
    cases s
    all_goals
      go_wp2_with fail
      refine (HN1.out _).mono ?_; rintro en w1 ⟨rfl, rfl⟩
      go_wp2_with fail
      refine (HN2.out _).mono ?_; rintro en w1 ⟨rfl, rfl⟩
      go_wp2_with fail
      refine (oddv_any _).mono ?_; rintro en w1 ⟨rfl, rfl⟩
      go_wp2_with fail
      go_ret
      exact ⟨rfl, Below.refl _ _⟩
  · go_enter Tryz.func82, Tryz.ntmps82
    go_wp2_with fail
    refine (HI1.out _).mono ?_; rintro en w1 ⟨rfl, rfl⟩
    go_wp2_with fail
    refine (HI2.out _).mono ?_; rintro en w1 ⟨rfl, rfl⟩
    go_wp2_with fail
    refine (HE1.out _).mono ?_; rintro en w1 ⟨rfl, rfl⟩
    go_wp2_with fail
    refine (HE2.out _).mono ?_; rintro en w1 ⟨rfl, rfl⟩
    go_wp2_with fail
    refine (HN1.out _).mono ?_; rintro en w1 ⟨rfl, rfl⟩
    go_wp2_with fail
    refine (HN2.out _).mono ?_; rintro en w1 ⟨rfl, rfl⟩
    cases t
    all_goals
      go_wp2_with fail
      go_ret
      exact ⟨rfl, Below.refl _ _⟩
  · go_enter Tryz.func82, Tryz.ntmps82
    go_wp2_with fail
    refine (HI1.out _).mono ?_; rintro en w1 ⟨rfl, rfl⟩
    go_wp2_with fail
    refine (HI2.out _).mono ?_; rintro en w1 ⟨rfl, rfl⟩
    go_wp2_with fail
    refine (HE1.out _).mono ?_; rintro en w1 ⟨rfl, rfl⟩
    go_wp2_with fail
    refine (HE2.out _).mono ?_; rintro en w1 ⟨rfl, rfl⟩
    go_wp2_with fail
    go_ret
    exact ⟨rfl, Below.refl _ _⟩
  · go_enter Tryz.func82, Tryz.ntmps82
    go_wp2_with fail
    refine (HI1.out _).mono ?_; rintro en w1 ⟨rfl, rfl⟩
    go_wp2_with fail
    refine (HI2.out _).mono ?_; rintro en w1 ⟨rfl, rfl⟩
    go_wp2_with fail
    refine (HE1.out _).mono ?_; rintro en w1 ⟨rfl, rfl⟩
    go_wp2_with fail
    refine (HE2.out _).mono ?_; rintro en w1 ⟨rfl, rfl⟩
    go_wp2_with fail
    go_ret
    exact ⟨rfl, Below.refl _ _⟩
theorem minus_any {x y : Nat} (hx : x < 18446744073709551616) (hy : y < 18446744073709551616) (w : World) :
    Calls Tryz.prog 83 #[.float .f64 x, .float .f64 y] w fun en w' => en = .returned (.float .f64 (subC x y)) ∧ Below w.heap.size w w' := by
  have HT := Lib.hid (fun W => turned5_any y W hy)
  have HP := Lib.hid (fun W => plus_any hx (turnB_lt hy) W)
  clear hx hy
  unfold subC
  generalize addC x (turnB y) = r at *
  generalize turnB y = z at *
  go_enter Tryz.func83, Tryz.ntmps83
  go_wp2_with fail
  refine (HT.out _).mono ?_; rintro en w1 ⟨rfl, rfl⟩
  go_wp2_with fail
  refine (HP.out _).mono ?_; rintro en w1 ⟨rfl, hb⟩
  have HB := Lib.hid hb
  clear hb
  go_wp2_with fail
  go_ret
  exact ⟨rfl, HB.out⟩
end Go.Proofs.YthdbapibbdkclaaGreatDoor
