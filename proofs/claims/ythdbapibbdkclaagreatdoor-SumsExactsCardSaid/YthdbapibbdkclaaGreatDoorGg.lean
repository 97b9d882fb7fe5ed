/- Contracts of steelyardref06: Kind, May, MayBe, Refused, Verdict, Nought. No statement of the seat is proved here. -/
import Derived.Test.YthdbapibbdkclaaGreatDoorProg
import Derived.Test.YthdbapibbdkclaaGreatDoorGf
namespace Go.Proofs.YthdbapibbdkclaaGreatDoor
open Go.RowKit
set_option maxRecDepth 10000
set_option linter.unusedVariables false
set_option linter.unusedSimpArgs false

/-- a number's kind -/
def kindN (b : Nat) : Int :=
  if 9218868437227405312 < b % 9223372036854775808 then 5
  else if b % 9223372036854775808 = 9218868437227405312 then (if 9223372036854775808 ≤ b then 4 else 3)
  else if b % 9223372036854775808 = 0 then (if 9223372036854775808 ≤ b then 1 else 2) else 0
theorem kind6_any (b : Nat) (w : World) (hb : b < 18446744073709551616) : Calls Tryz.prog 151 #[.float .f64 b] w fun en w' => en = .returned (.int .i64 (kindN b)) ∧ w = w' := by
  have h1 := ext_bits64 b
  have e1 : (b : Int) % 9223372036854775808 = ((b % 9223372036854775808 : Nat) : Int) := by omega
  have e2 : ((b : Int) / 9223372036854775808 == 1) = decide (9223372036854775808 ≤ b) := by
    by_cases h : 9223372036854775808 ≤ b
    · rw [decide_eq_true h]; exact decide_eq_true (by omega)
    · rw [decide_eq_false h]; exact decide_eq_false (by omega)
  have hm := Nat.mod_lt b (show 0 < 9223372036854775808 by decide)
  obtain ⟨m, hmm⟩ : ∃ m, m = b % 9223372036854775808 := ⟨_, rfl⟩
  obtain ⟨s, hs⟩ : ∃ s, s = decide (9223372036854775808 ≤ b) := ⟨_, rfl⟩
  rw [← hmm] at e1 hm
  rw [← hs] at e2
  have hk : kindN b = if 9218868437227405312 < m then 5 else if m = 9218868437227405312 then (if s = true then 4 else 3) else if m = 0 then (if s = true then 1 else 2) else 0 := by
    unfold kindN
    rw [← hmm, hs]
    simp only [decide_eq_true_eq]
  rw [hk]
  clear hk hmm hs hb
  by_cases c1 : 9218868437227405312 < m
  · rw [if_pos c1]
    have u1 : decide ((9218868437227405312 : Int) < (m : Int)) = true := decide_eq_true (by omega)
    clear c1 hm
    go_enter Tryz.func151, Tryz.ntmps151
    go_wp2_with fail
    go_ret
    exact ⟨rfl, rfl⟩
  rw [if_neg c1]
  have u1 : decide ((9218868437227405312 : Int) < (m : Int)) = false := decide_eq_false (by omega)
  by_cases c2 : m = 9218868437227405312
  · subst c2
    rw [if_pos rfl]
    clear u1 c1 hm
    cases s
    all_goals
      go_enter Tryz.func151, Tryz.ntmps151
      go_wp2_with fail
      go_ret
      exact ⟨rfl, rfl⟩
  rw [if_neg c2]
  have u2 : ((m : Int) == 9218868437227405312) = false := decide_eq_false (by omega)
  by_cases c3 : m = 0
  · subst c3
    rw [if_pos rfl]
    clear u1 u2 c1 c2 hm
    cases s
    all_goals
      go_enter Tryz.func151, Tryz.ntmps151
      go_wp2_with fail
      go_ret
      exact ⟨rfl, rfl⟩
  rw [if_neg c3]
  have u3 : ((m : Int) == 0) = false := decide_eq_false (by omega)
  clear c1 c2 c3 hm
  go_enter Tryz.func151, Tryz.ntmps151
  go_wp2_with fail
  go_ret
  exact ⟨rfl, rfl⟩
theorem may6_any (pn pi : Int) (w : World) : Calls Tryz.prog 70 #[pol pn pi] w fun en w' => en = .returned (.bool (okP pn pi)) ∧ Below w.heap.size w w' := by
  have HB : Hid (Below w.heap.size w (w.alloc (.cells #[.int .i64 pn, .int .i64 pi] 51))) := (Below.refl _ _).alloc (Nat.le_refl _) _
  unfold pol okP okB
  rcases Bool.eq_false_or_eq_true (decide (0 ≤ pn)) with u1 | u1 <;> rcases Bool.eq_false_or_eq_true (decide (pn ≤ 2)) with u2 | u2 <;>
    rcases Bool.eq_false_or_eq_true (decide (0 ≤ pi)) with u3 | u3 <;> rcases Bool.eq_false_or_eq_true (decide (pi ≤ 2)) with u4 | u4
  all_goals
    rw [u1, u2, u3, u4]
    go_enter Tryz.func70, Tryz.ntmps70
    go_wp2_with fail
    go_ret
    exact ⟨by simp, HB.out⟩
theorem within6_any (n : Int) (w : World) (h0 : 0 ≤ n) (h1 : n ≤ 1099511627776) : Calls Tryz.prog 245 #[.int .i64 n] w fun en w' => en = .returned (.bool true) ∧ w = w' := by
  go_enter Tryz.func245, Tryz.ntmps245
  go_wp2_with fail
  go_ret
  exact ⟨by simp <;> omega, rfl⟩
set_option maxRecDepth 10000 in
set_option maxHeartbeats 4000000 in
theorem maybe6_any (A : Ac) (w : World) (hA : A.Ok) : Calls Tryz.prog 210 #[spcV A] w fun en w' => en = .returned (.bool true) ∧ Below w.heap.size w w' := by
  obtain ⟨_, k2, k3, k4, k5, k6, k7, k8⟩ := hA
  obtain ⟨w1, e1⟩ : ∃ W, W = w.alloc (.cells #[.int .i64 A.nan, .int .i64 A.up, .int .i64 A.down, .int .i64 A.minus, .int .i64 A.plus, .int .i64 A.all] 71) := ⟨_, rfl⟩
  obtain ⟨b1, hB1, s1⟩ := new_of e1 rfl
  obtain ⟨x0, x1, x2, x3, x4, x5⟩ := spc_cells b1
  have HB := Lib.hid hB1
  have E1 := Lib.hid e1
  have H0 := Lib.hid (fun W => within6_any A.nan W k2 (by omega))
  have H1 := Lib.hid (fun W => within6_any A.up W k3 (by omega))
  have H2 := Lib.hid (fun W => within6_any A.down W k4 (by omega))
  have H3 := Lib.hid (fun W => within6_any A.minus W k5 (by omega))
  have H4 := Lib.hid (fun W => within6_any A.plus W k6 (by omega))
  have H5 := Lib.hid (fun W => within6_any A.all W (by omega) k8)
  have u : A.nan + A.up + A.down + A.minus + A.plus ≤ A.all := k7
  clear e1 b1 hB1 s1
  unfold spcV
  go_enter Tryz.func210, Tryz.ntmps210
  go_wp2_with fail
  rw [← E1.out]
  refine (H0.out _).mono ?_; rintro en w2 ⟨rfl, rfl⟩
  go_wp2_with fail
  refine (H1.out _).mono ?_; rintro en w2 ⟨rfl, rfl⟩
  go_wp2_with fail
  refine (H2.out _).mono ?_; rintro en w2 ⟨rfl, rfl⟩
  go_wp2_with fail
  refine (H3.out _).mono ?_; rintro en w2 ⟨rfl, rfl⟩
  go_wp2_with fail
  refine (H4.out _).mono ?_; rintro en w2 ⟨rfl, rfl⟩
  go_wp2_with fail
  refine (H5.out _).mono ?_; rintro en w2 ⟨rfl, rfl⟩
  go_wp2_with fail
  go_ret
  exact ⟨by simp <;> omega, HB.out⟩
theorem nan6_any (w : World) : Calls Tryz.prog 211 #[] w fun en w' => en = .returned (.float .f64 nan64) ∧ w = w' := by
  have h1 := ext_from64 9221120237041090560
  rw [show ((9221120237041090560 : Nat) : Int) = 9221120237041090560 from rfl] at h1
  go_enter Tryz.func211, Tryz.ntmps211
  go_wp2_with fail
  go_ret
  exact ⟨rfl, rfl⟩
theorem inf6_any (s : Bool) (w : World) : Calls Tryz.prog 212 #[.bool s] w fun en w' => en = .returned (.float .f64 (if s = true then ninf64 else inf64)) ∧ w = w' := by
  have h1 := ext_from64 9218868437227405312
  rw [show ((9218868437227405312 : Nat) : Int) = 9218868437227405312 from rfl] at h1
  have h2 := ext_from64 18442240474082181120
  rw [show ((18442240474082181120 : Nat) : Int) = 18442240474082181120 from rfl] at h2
  cases s
  all_goals
    go_enter Tryz.func212, Tryz.ntmps212
    go_wp2_with fail
    go_ret
    exact ⟨rfl, rfl⟩
theorem zero6_any (s : Bool) (w : World) : Calls Tryz.prog 213 #[.bool s] w fun en w' => en = .returned (.float .f64 (if s = true then nzero64 else 0)) ∧ w = w' := by
  have h1 := ext_from64 0
  rw [show ((0 : Nat) : Int) = 0 from rfl] at h1
  have h2 := ext_from64 9223372036854775808
  rw [show ((9223372036854775808 : Nat) : Int) = 9223372036854775808 from rfl] at h2
  cases s
  all_goals
    go_enter Tryz.func213, Tryz.ntmps213
    go_wp2_with fail
    go_ret
    exact ⟨rfl, rfl⟩
end Go.Proofs.YthdbapibbdkclaaGreatDoor
