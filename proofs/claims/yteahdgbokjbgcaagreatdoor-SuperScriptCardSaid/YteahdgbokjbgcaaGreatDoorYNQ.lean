/- Contracts of steelyardref06: Kind, May, MayBe, Refused, Verdict, Nought. Contracts of steelyardref06.Refused, Verdict, Nought for the counts of an accumulator. Contracts of steelyardref07: great, counted, Of; the document's accumulator in memory. Contracts of steelyardref07.Of, Acc.Add, Whole. Contracts of steelyardref07.Acc.refused, Round, steelyardref10.Exact. No statement of the seat is proved here. -/
import Derived.Test.YteahdgbokjbgcaaGreatDoorProg
import Derived.Test.YteahdgbokjbgcaaGreatDoorYB
import Derived.Test.YteahdgbokjbgcaaGreatDoorYNF
namespace Go.Proofs.YteahdgbokjbgcaaGreatDoor
open Go.RowKit
set_option maxRecDepth 10000
set_option linter.unusedVariables false
set_option linter.unusedSimpArgs false

/-- a number's kind -/
def kindN (b : Nat) : Int :=
  if 9218868437227405312 < b % 9223372036854775808 then 5
  else if b % 9223372036854775808 = 9218868437227405312 then (if 9223372036854775808 ≤ b then 4 else 3)
  else if b % 9223372036854775808 = 0 then (if 9223372036854775808 ≤ b then 1 else 2) else 0
theorem kind6_any (b : Nat) (w : World) (hb : b < 18446744073709551616) : Calls Tryz.prog 174 #[.float .f64 b] w fun en w' => en = .returned (.int .i64 (kindN b)) ∧ w = w' := by
  have h1 := ext_bits64 b
  have e1 : (b : Int) % 9223372036854775808 = ((b % 9223372036854775808 : Nat) : Int) := by omega
  have e2 : ((b : Int) / 9223372036854775808 == 1) = decide (9223372036854775808 ≤ b) := by
    by_cases h : 9223372036854775808 ≤ b
    · rw [decide_eq_true h]; exact decide_eq_true (by omega)
    · rw [decide_eq_false h]; exact decide_eq_false (by omega)
  have hm := Nat.mod_lt b (show 0 < 9223372036854775808 by decide)
  obtain ⟨m, hmm⟩ : ∃ m, m = b % 9223372036854775808 := ⟨_, rfl⟩
  obtain ⟨s, hs⟩ : ∃ s, s = decide (9223372036854775808 ≤ b) := ⟨_, rfl⟩
  rw [← hmm] at e1 hm
  rw [← hs] at e2
  have hk : kindN b = if 9218868437227405312 < m then 5 else if m = 9218868437227405312 then (if s = true then 4 else 3) else if m = 0 then (if s = true then 1 else 2) else 0 := by
    unfold kindN
    rw [← hmm, hs]
    simp only [decide_eq_true_eq]
  rw [hk]
  clear hk hmm hs hb
  by_cases c1 : 9218868437227405312 < m
  · rw [if_pos c1]
    have u1 : decide ((9218868437227405312 : Int) < (m : Int)) = true := decide_eq_true (by omega)
    clear c1 hm
    go_enter Tryz.func174, Tryz.ntmps174
    go_wp2_with fail
    go_ret
    exact ⟨rfl, rfl⟩
  rw [if_neg c1]
  have u1 : decide ((9218868437227405312 : Int) < (m : Int)) = false := decide_eq_false (by omega)
  by_cases c2 : m = 9218868437227405312
  · subst c2
    rw [if_pos rfl]
    clear u1 c1 hm
    cases s
    all_goals
      go_enter Tryz.func174, Tryz.ntmps174
      go_wp2_with fail
      go_ret
      exact ⟨rfl, rfl⟩
  rw [if_neg c2]
  have u2 : ((m : Int) == 9218868437227405312) = false := decide_eq_false (by omega)
  by_cases c3 : m = 0
  · subst c3
    rw [if_pos rfl]
    clear u1 u2 c1 c2 hm
    cases s
    all_goals
      go_enter Tryz.func174, Tryz.ntmps174
      go_wp2_with fail
      go_ret
      exact ⟨rfl, rfl⟩
  rw [if_neg c3]
  have u3 : ((m : Int) == 0) = false := decide_eq_false (by omega)
  clear c1 c2 c3 hm
  go_enter Tryz.func174, Tryz.ntmps174
  go_wp2_with fail
  go_ret
  exact ⟨rfl, rfl⟩
theorem may6_any (pn pi : Int) (w : World) : Calls Tryz.prog 162 #[pol pn pi] w fun en w' => en = .returned (.bool (okP pn pi)) ∧ Below w.heap.size w w' := by
  have HB : Hid (Below w.heap.size w (w.alloc (.cells #[.int .i64 pn, .int .i64 pi] 61))) := (Below.refl _ _).alloc (Nat.le_refl _) _
  unfold pol okP okB
  rcases Bool.eq_false_or_eq_true (decide (0 ≤ pn)) with u1 | u1 <;> rcases Bool.eq_false_or_eq_true (decide (pn ≤ 2)) with u2 | u2 <;>
    rcases Bool.eq_false_or_eq_true (decide (0 ≤ pi)) with u3 | u3 <;> rcases Bool.eq_false_or_eq_true (decide (pi ≤ 2)) with u4 | u4
  all_goals
    rw [u1, u2, u3, u4]
    go_enter Tryz.func162, Tryz.ntmps162
    go_wp2_with fail
    go_ret
    exact ⟨by simp, HB.out⟩
theorem within6_any (n : Int) (w : World) (h0 : 0 ≤ n) (h1 : n ≤ 1099511627776) : Calls Tryz.prog 311 #[.int .i64 n] w fun en w' => en = .returned (.bool true) ∧ w = w' := by
  go_enter Tryz.func311, Tryz.ntmps311
  go_wp2_with fail
  go_ret
  exact ⟨by simp <;> omega, rfl⟩
set_option maxRecDepth 10000 in
set_option maxHeartbeats 4000000 in
theorem maybe6_any (A : Ac) (w : World) (hA : A.Ok) : Calls Tryz.prog 276 #[spcV A] w fun en w' => en = .returned (.bool true) ∧ Below w.heap.size w w' := by
  obtain ⟨_, k2, k3, k4, k5, k6, k7, k8⟩ := hA
  obtain ⟨w1, e1⟩ : ∃ W, W = w.alloc (.cells #[.int .i64 A.nan, .int .i64 A.up, .int .i64 A.down, .int .i64 A.minus, .int .i64 A.plus, .int .i64 A.all] 57) := ⟨_, rfl⟩
  obtain ⟨b1, hB1, s1⟩ := new_of e1 rfl
  obtain ⟨x0, x1, x2, x3, x4, x5⟩ := spc_cells b1
  have HB := Lib.hid hB1
  have E1 := Lib.hid e1
  have H0 := Lib.hid (fun W => within6_any A.nan W k2 (by omega))
  have H1 := Lib.hid (fun W => within6_any A.up W k3 (by omega))
  have H2 := Lib.hid (fun W => within6_any A.down W k4 (by omega))
  have H3 := Lib.hid (fun W => within6_any A.minus W k5 (by omega))
  have H4 := Lib.hid (fun W => within6_any A.plus W k6 (by omega))
  have H5 := Lib.hid (fun W => within6_any A.all W (by omega) k8)
  have u : A.nan + A.up + A.down + A.minus + A.plus ≤ A.all := k7
  clear e1 b1 hB1 s1
  unfold spcV
  go_enter Tryz.func276, Tryz.ntmps276
  go_wp2_with fail
  rw [← E1.out]
  refine (H0.out _).mono ?_; rintro en w2 ⟨rfl, rfl⟩
  go_wp2_with fail
  refine (H1.out _).mono ?_; rintro en w2 ⟨rfl, rfl⟩
  go_wp2_with fail
  refine (H2.out _).mono ?_; rintro en w2 ⟨rfl, rfl⟩
  go_wp2_with fail
  refine (H3.out _).mono ?_; rintro en w2 ⟨rfl, rfl⟩
  go_wp2_with fail
  refine (H4.out _).mono ?_; rintro en w2 ⟨rfl, rfl⟩
  go_wp2_with fail
  refine (H5.out _).mono ?_; rintro en w2 ⟨rfl, rfl⟩
  go_wp2_with fail
  go_ret
  exact ⟨by simp <;> omega, HB.out⟩
theorem nan6_any (w : World) : Calls Tryz.prog 170 #[] w fun en w' => en = .returned (.float .f64 nan64) ∧ w = w' := by
  have h1 := ext_from64 9221120237041090560
  rw [show ((9221120237041090560 : Nat) : Int) = 9221120237041090560 from rfl] at h1
  go_enter Tryz.func170, Tryz.ntmps170
  go_wp2_with fail
  go_ret
  exact ⟨rfl, rfl⟩
theorem inf6_any (s : Bool) (w : World) : Calls Tryz.prog 171 #[.bool s] w fun en w' => en = .returned (.float .f64 (if s = true then ninf64 else inf64)) ∧ w = w' := by
  have h1 := ext_from64 9218868437227405312
  rw [show ((9218868437227405312 : Nat) : Int) = 9218868437227405312 from rfl] at h1
  have h2 := ext_from64 18442240474082181120
  rw [show ((18442240474082181120 : Nat) : Int) = 18442240474082181120 from rfl] at h2
  cases s
  all_goals
    go_enter Tryz.func171, Tryz.ntmps171
    go_wp2_with fail
    go_ret
    exact ⟨rfl, rfl⟩
theorem zero6_any (s : Bool) (w : World) : Calls Tryz.prog 277 #[.bool s] w fun en w' => en = .returned (.float .f64 (if s = true then nzero64 else 0)) ∧ w = w' := by
  have h1 := ext_from64 0
  rw [show ((0 : Nat) : Int) = 0 from rfl] at h1
  have h2 := ext_from64 9223372036854775808
  rw [show ((9223372036854775808 : Nat) : Int) = 9223372036854775808 from rfl] at h2
  cases s
  all_goals
    go_enter Tryz.func277, Tryz.ntmps277
    go_wp2_with fail
    go_ret
    exact ⟨rfl, rfl⟩
end Go.Proofs.YteahdgbokjbgcaaGreatDoor
namespace Go.Proofs.YteahdgbokjbgcaaGreatDoor
open Go.RowKit
set_option maxRecDepth 10000
set_option linter.unusedVariables false
set_option linter.unusedSimpArgs false

def refB (n z s i : Bool) : Int := if n && z then 60 else if s && i then 61 else 0
theorem refB_eq (A : Ac) (pn pi : Int) : refB (decide (0 < A.nan)) (pn == 2) (decide (0 < A.up + A.down)) (pi == 2) = if 0 < A.nan ∧ pn = 2 then 60 else if 0 < A.up + A.down ∧ pi = 2 then 61 else 0 := by
  unfold refB
  simp only [Bool.and_eq_true, decide_eq_true_eq, beq_iff_eq]
set_option maxHeartbeats 4000000 in
theorem refused6_any (A : Ac) (pn pi : Int) (w : World) (hA : A.Ok) : Calls Tryz.prog 275 #[spcV A, pol pn pi] w fun en w' => en = .returned (.int .i64 (refB (decide (0 < A.nan)) (pn == 2) (decide (0 < A.up + A.down)) (pi == 2))) ∧ Below w.heap.size w w' := by
  obtain ⟨_, k2, k3, k4, k5, k6, k7, k8⟩ := hA
  obtain ⟨w1, e1⟩ : ∃ W, W = w.alloc (.cells #[.int .i64 A.nan, .int .i64 A.up, .int .i64 A.down, .int .i64 A.minus, .int .i64 A.plus, .int .i64 A.all] 57) := ⟨_, rfl⟩
  obtain ⟨b1, hB1, s1⟩ := new_of e1 rfl
  obtain ⟨w2, e2⟩ : ∃ W, W = w1.alloc (.cells #[.int .i64 pn, .int .i64 pi] 61) := ⟨_, rfl⟩
  obtain ⟨b2, hB2, s2⟩ := new_of e2 s1
  replace b1 := blk_below b1 hB2 (by omega)
  replace hB1 := hB1.trans (hB2.mono (by omega))
  obtain ⟨x0, x1, x2, x3, x4, x5⟩ := spc_cells b1
  obtain ⟨y0, y1⟩ := pol_cells b2
  have HB := Lib.hid hB1
  have E1 := Lib.hid e1; have E2 := Lib.hid e2
  have S1 := Lib.hid s1
  clear e1 e2 b1 b2 hB1 hB2 s2 s1
  unfold spcV pol
  rcases Bool.eq_false_or_eq_true (decide (0 < A.nan)) with u1 | u1 <;> rcases Bool.eq_false_or_eq_true (pn == 2) with u2 | u2 <;>
    rcases Bool.eq_false_or_eq_true (decide (0 < A.up + A.down)) with u3 | u3 <;> rcases Bool.eq_false_or_eq_true (pi == 2) with u4 | u4
  all_goals
    rw [u1, u2, u3, u4]
    go_enter Tryz.func275, Tryz.ntmps275
    go_upto_region 1 with fail
    rw [← E1.out, ← E2.out]
    go_wp2_with fail
    go_ret
    exact ⟨rfl, HB.out⟩

def verB (n z i u d : Bool) : Option Nat := if n && z then some nan64 else if i then (if u && d then some nan64 else if u then some inf64 else if d then some ninf64 else none) else none
theorem verB_eq (A : Ac) (pn pi : Int) : verB (decide (0 < A.nan)) (pn == 0) (pi == 0) (decide (0 < A.up)) (decide (0 < A.down)) = verd A pn pi := by
  unfold verB verd
  simp only [Bool.and_eq_true, decide_eq_true_eq, beq_iff_eq]
set_option maxHeartbeats 16000000 in
theorem verdict6_any (A : Ac) (pn pi : Int) (w : World) (hA : A.Ok) (hp : okP pn pi = true) : Calls Tryz.prog 221 #[spcV A, pol pn pi] w fun en w' => en = .returned (.tuple #[.float .f64 ((verd A pn pi).getD 0), .bool (verd A pn pi).isSome]) ∧ Below w.heap.size w w' := by
  have hM := fun W => maybe6_any A W hA
  have hY := fun W => may6_any pn pi W
  rw [hp] at hY
  obtain ⟨_, k2, k3, k4, k5, k6, k7, k8⟩ := hA
  obtain ⟨w1, e1⟩ : ∃ W, W = w.alloc (.cells #[.int .i64 A.nan, .int .i64 A.up, .int .i64 A.down, .int .i64 A.minus, .int .i64 A.plus, .int .i64 A.all] 57) := ⟨_, rfl⟩
  obtain ⟨b1, hB1, s1⟩ := new_of e1 rfl
  obtain ⟨w2, e2⟩ : ∃ W, W = w1.alloc (.cells #[.int .i64 pn, .int .i64 pi] 61) := ⟨_, rfl⟩
  obtain ⟨b2, hB2, s2⟩ := new_of e2 s1
  replace b1 := blk_below b1 hB2 (by omega)
  replace hB1 := hB1.trans (hB2.mono (by omega))
  have HC := Lib.hid (fun W (hw : Below w2.heap.size w2 W) => And.intro (spc_cells (blk_below b1 hw (by omega))) (pol_cells (blk_below b2 hw (by omega))))
  have HB := Lib.hid (fun W (hw : Below w2.heap.size w2 W) => hB1.trans (hw.mono (by omega)))
  obtain ⟨x0, x1, x2, x3, x4, x5⟩ := spc_cells b1
  obtain ⟨y0, y1⟩ := pol_cells b2
  have E1 := Lib.hid e1; have E2 := Lib.hid e2
  have S1 := Lib.hid s1
  obtain ⟨V, hV⟩ : ∃ V, V = verd A pn pi := ⟨_, rfl⟩
  rw [← hV]
  rw [← verB_eq] at hV
  have HV := Lib.hid hV
  unfold spcV pol at *
  have HM := Lib.hid hM; have HY := Lib.hid hY
  clear e1 e2 b1 b2 hB1 hB2 s1 s2 hM hY hp hV
  go_enter Tryz.func221, Tryz.ntmps221
  go_upto_region 1 with fail
  rw [← E1.out, ← E2.out]
  go_wp2_with fail
  refine (HM.out w2).mono ?_; rintro en w3 ⟨rfl, hb⟩
  have HB3 := Lib.hid hb
  clear x0 x1 x2 x3 x4 x5 y0 y1 hb
  obtain ⟨⟨x0, x1, x2, x3, x4, x5⟩, y0, y1⟩ := HC.out w3 HB3.out
  go_wp2_with fail
  refine (HY.out w3).mono ?_; rintro en w4 ⟨rfl, hb⟩
  have HB4 := Lib.hid (HB3.out.trans (hb.mono HB3.out.size))
  clear x0 x1 x2 x3 x4 x5 y0 y1 hb
  obtain ⟨⟨x0, x1, x2, x3, x4, x5⟩, y0, y1⟩ := HC.out w4 HB4.out
  rcases Bool.eq_false_or_eq_true (decide (0 < A.nan)) with u1 | u1 <;> rcases Bool.eq_false_or_eq_true (pn == 0) with u2 | u2 <;> rcases Bool.eq_false_or_eq_true (pi == 0) with u3 | u3 <;>
    rcases Bool.eq_false_or_eq_true (decide (0 < A.up)) with u4 | u4 <;> rcases Bool.eq_false_or_eq_true (decide (0 < A.down)) with u5 | u5
  all_goals
    have hv := HV.out
    rw [u1, u2, u3, u4, u5] at hv
    have HW := Lib.hid hv
    clear hv
    go_wp2_with (first
      | (go_at_call 170; refine (nan6_any _).mono ?_; rintro en w' ⟨rfl, rfl⟩)
      | (go_at_call 171; refine (inf6_any _ _).mono ?_; rintro en w' ⟨rfl, rfl⟩))
    go_ret2
    rw [HW.out]
    exact ⟨rfl, HB.out w4 HB4.out⟩

theorem noughtB_eq {A : Ac} (hA : A.Ok) (mode : Int) : noughtB A mode = if A.all - A.nan - A.up - A.down = 0 then 0 else if A.minus = A.all - A.nan - A.up - A.down then nzero64 else if A.plus = A.all - A.nan - A.up - A.down then 0 else if mode = 3 then nzero64 else 0 := by
  obtain ⟨_, k2, k3, k4, k5, k6, k7, k8⟩ := hA
  unfold noughtB
  by_cases h1 : A.all - A.nan - A.up - A.down = 0
  · rw [if_pos h1, if_neg (by omega)]
  · rw [if_neg h1]
    by_cases h2 : A.minus = A.all - A.nan - A.up - A.down
    · rw [if_pos h2, if_pos ⟨by omega, .inl h2⟩]
    · rw [if_neg h2]
      by_cases h3 : A.plus = A.all - A.nan - A.up - A.down
      · rw [if_pos h3, if_neg (by omega)]
      · rw [if_neg h3]
        by_cases h4 : mode = 3
        · rw [if_pos h4, if_pos ⟨by omega, .inr ⟨by omega, h4⟩⟩]
        · rw [if_neg h4, if_neg (by omega)]
set_option maxHeartbeats 16000000 in
theorem nought6_any (A : Ac) (mode : Int) (w : World) (hA : A.Ok) : Calls Tryz.prog 222 #[spcV A, .int .i64 mode] w fun en w' => en = .returned (.float .f64 (noughtB A mode)) ∧ Below w.heap.size w w' := by
  have hM := fun W => maybe6_any A W hA
  obtain ⟨R, hR⟩ : ∃ R, R = noughtB A mode := ⟨_, rfl⟩
  rw [← hR]
  rw [noughtB_eq hA] at hR
  obtain ⟨_, k2, k3, k4, k5, k6, k7, k8⟩ := hA
  obtain ⟨w1, e1⟩ : ∃ W, W = w.alloc (.cells #[.int .i64 A.nan, .int .i64 A.up, .int .i64 A.down, .int .i64 A.minus, .int .i64 A.plus, .int .i64 A.all] 57) := ⟨_, rfl⟩
  obtain ⟨b1, hB1, s1⟩ := new_of e1 rfl
  have HC := Lib.hid (fun W (hw : Below w1.heap.size w1 W) => spc_cells (blk_below b1 hw (by omega)))
  have HB := Lib.hid (fun W (hw : Below w1.heap.size w1 W) => hB1.trans (hw.mono (by omega)))
  obtain ⟨x0, x1, x2, x3, x4, x5⟩ := spc_cells b1
  have E1 := Lib.hid e1
  unfold spcV at *
  have HM := Lib.hid hM
  clear e1 b1 hB1 s1 hM
  obtain ⟨f, hf⟩ : ∃ f, f = A.all - A.nan - A.up - A.down := ⟨_, rfl⟩
  have hw : IntKind.i64.wrap f = f := by rw [IntKind.wrap_i64]; omega
  rw [← hf] at hR
  have HR := Lib.hid hR
  clear hR
  go_enter Tryz.func222, Tryz.ntmps222
  go_wp2_with fail
  rw [← E1.out]
  refine (HM.out w1).mono ?_; rintro en w3 ⟨rfl, hb⟩
  have HB3 := Lib.hid hb
  clear x0 x1 x2 x3 x4 x5 hb
  obtain ⟨x0, x1, x2, x3, x4, x5⟩ := HC.out w3 HB3.out
  by_cases h1 : f = 0
  · have u1 : (A.all - A.nan - A.up - A.down == 0) = true := by rw [← hf]; simpa using h1
    have HW : Hid (R = 0) := by have := HR.out; rw [if_pos h1] at this; exact this
    clear hf h1 hw
    go_wp2_with fail
    refine (zero6_any _ _).mono ?_; rintro en w' ⟨rfl, rfl⟩
    go_wp2_with fail
    go_ret
    rw [HW.out]
    exact ⟨rfl, HB.out w3 HB3.out⟩
  have HR2 : Hid (R = if A.minus = f then nzero64 else if A.plus = f then 0 else if mode = 3 then nzero64 else 0) := by have := HR.out; rw [if_neg h1] at this; exact this
  have u1 : (A.all - A.nan - A.up - A.down == 0) = false := by rw [← hf]; simpa using h1
  by_cases h2 : A.minus = f
  · have u2 : (A.minus == A.all - A.nan - A.up - A.down) = true := by rw [← hf]; simpa using h2
    have HW : Hid (R = nzero64) := by have := HR2.out; rw [if_pos h2] at this; exact this
    clear hf h1 h2 hw
    go_wp2_with fail
    refine (zero6_any _ _).mono ?_; rintro en w' ⟨rfl, rfl⟩
    go_wp2_with fail
    go_ret
    rw [HW.out]
    exact ⟨rfl, HB.out w3 HB3.out⟩
  have HR3 : Hid (R = if A.plus = f then 0 else if mode = 3 then nzero64 else 0) := by have := HR2.out; rw [if_neg h2] at this; exact this
  have u2 : (A.minus == A.all - A.nan - A.up - A.down) = false := by rw [← hf]; simpa using h2
  by_cases h3 : A.plus = f
  · have u3 : (A.plus == A.all - A.nan - A.up - A.down) = true := by rw [← hf]; simpa using h3
    have HW : Hid (R = 0) := by have := HR3.out; rw [if_pos h3] at this; exact this
    clear hf h1 h2 h3 hw
    go_wp2_with fail
    refine (zero6_any _ _).mono ?_; rintro en w' ⟨rfl, rfl⟩
    go_wp2_with fail
    go_ret
    rw [HW.out]
    exact ⟨rfl, HB.out w3 HB3.out⟩
  have HR4 : Hid (R = if mode = 3 then nzero64 else 0) := by have := HR3.out; rw [if_neg h3] at this; exact this
  have u3 : (A.plus == A.all - A.nan - A.up - A.down) = false := by rw [← hf]; simpa using h3
  clear hf h1 h2 h3 hw
  rcases Bool.eq_false_or_eq_true (mode == 3) with u4 | u4
  · have HW : Hid (R = nzero64) := by have := HR4.out; rw [if_pos (by simpa using u4)] at this; exact this
    go_wp2_with fail
    refine (zero6_any _ _).mono ?_; rintro en w' ⟨rfl, rfl⟩
    go_wp2_with fail
    go_ret
    rw [HW.out]
    exact ⟨rfl, HB.out w3 HB3.out⟩
  · have HW : Hid (R = 0) := by have := HR4.out; rw [if_neg (by simpa using u4)] at this; exact this
    go_wp2_with fail
    refine (zero6_any _ _).mono ?_; rintro en w' ⟨rfl, rfl⟩
    go_wp2_with fail
    go_ret
    rw [HW.out]
    exact ⟨rfl, HB.out w3 HB3.out⟩
end Go.Proofs.YteahdgbokjbgcaaGreatDoor
namespace Go.Proofs.YteahdgbokjbgcaaGreatDoor
open Go.RowKit
set_option maxRecDepth 10000
set_option linter.unusedVariables false
set_option linter.unusedSimpArgs false

/-- a thing of a kind of the document's -/
def kT (k T : Int) : Ac :=
  if k = 5 then ⟨0, 1, 0, 0, 0, 0, 1⟩ else if k = 3 then ⟨0, 0, 1, 0, 0, 0, 1⟩ else if k = 4 then ⟨0, 0, 0, 1, 0, 0, 1⟩ else if k = 1 then ⟨0, 0, 0, 0, 1, 0, 1⟩ else if k = 2 then ⟨0, 0, 0, 0, 0, 1, 1⟩ else ⟨T, 0, 0, 0, 0, 0, 1⟩
theorem kindN_bd (b : Nat) : 0 ≤ kindN b ∧ kindN b ≤ 5 := by
  unfold kindN; split; · decide
  split; · split <;> decide
  split; · split <;> decide
  decide
theorem numT_kT (b : Nat) (hb : b < 18446744073709551616) : numT b = kT (kindN b) (numT b).T ∧ (kindN b ≠ 0 → (numT b).T = 0) ∧ (kindN b = 0 → b % 9223372036854775808 < 9218868437227405312) := by
  have hs : (b / 9223372036854775808 % 2 == 1) = decide (9223372036854775808 ≤ b) := by
    by_cases h1 : 9223372036854775808 ≤ b
    · rw [decide_eq_true h1, show b / 9223372036854775808 % 2 = 1 by omega]; rfl
    · rw [decide_eq_false h1, show b / 9223372036854775808 % 2 = 0 by omega]; rfl
  have hx : b % 9223372036854775808 = (b / 4503599627370496 % 2048) * 4503599627370496 + b % 4503599627370496 := by omega
  have hx2 : b / 4503599627370496 % 2048 ≤ 2047 := by omega
  have hf : b % 4503599627370496 < 4503599627370496 := by omega
  unfold numT ptOf kindN
  rw [hs, hx]
  generalize b / 4503599627370496 % 2048 = ex at *
  generalize b % 4503599627370496 = fr at *
  by_cases h9 : 9223372036854775808 ≤ b
  all_goals
    first | rw [decide_eq_true h9] | rw [decide_eq_false h9]
    by_cases h1 : ex = 2047
    · subst h1
      by_cases h2 : fr = 0
      · subst h2; simp [h9, mkT, kT]
      · rw [if_pos rfl, if_pos (show fr ≠ 0 from h2), if_pos (show 9218868437227405312 < 2047 * 4503599627370496 + fr by omega)]
        simp [mkT, kT]
    · rw [if_neg h1, if_neg (show ¬ 9218868437227405312 < ex * 4503599627370496 + fr by omega), if_neg (show ¬ ex * 4503599627370496 + fr = 9218868437227405312 by omega)]
      by_cases h3 : 0 < ex
      · rw [if_pos h3, if_neg (show ¬ ex * 4503599627370496 + fr = 0 by omega)]
        refine ⟨rfl, fun h => absurd rfl h, fun _ => by omega⟩
      · obtain rfl : ex = 0 := by omega
        rw [if_neg h3]
        by_cases h4 : 0 < fr
        · rw [if_pos h4, if_neg (show ¬ 0 * 4503599627370496 + fr = 0 by omega)]
          refine ⟨rfl, fun h => absurd rfl h, fun _ => by omega⟩
        · obtain rfl : fr = 0 := by omega
          simp [h9, mkT, kT]
/-- a Dyad that stands for what a thing, an accumulator comes to -/
abbrev DT (d : D) (T : Int) : Prop := Dy (-2148) 133 d T
theorem rg_dt : Rg (-2148) 133 := ⟨by decide, by decide, by decide⟩
theorem gt_dt {T : Int} (h : ¬ Gt T) : T.natAbs < 2 ^ (32 * 133) := by
  obtain ⟨k, hk⟩ : ∃ k, k = 32 * 133 := ⟨_, rfl⟩
  rw [← hk]
  exact gt_nat h (by omega)
theorem mx_lt {T : Int} (h1 : -Mx ≤ T) (h2 : T ≤ Mx) : T.natAbs < 2 ^ (32 * 133) := by
  obtain ⟨k, hk⟩ : ∃ k, k = 32 * 133 := ⟨_, rfl⟩
  rw [← hk]
  have h3 : mxE < k := by unfold mxE; omega
  have h4 : 2 ^ mxE < 2 ^ k := Nat.pow_lt_pow_right (by decide) h3
  rw [mx_eq] at h1 h2
  omega
/-- the value of a finite number as an accumulator counts it -/
theorem dt_num {b : Nat} (hb : b < 18446744073709551616) (h : kindN b = 0) : ∃ d, ofF b = some d ∧ DT d (numT b).T := by
  obtain ⟨j, hj⟩ : ∃ j, j = 66 := ⟨_, rfl⟩
  have hf := (numT_kT b hb).2.2 h
  obtain ⟨d, h1, h2⟩ := Dy.of hf hj
  have h3 := h2.ex
  refine ⟨d, h1, h2.is, h2.ok, by omega, ?_, mx_lt (numT_bd b).1 (numT_bd b).2⟩
  obtain ⟨k, hk⟩ : ∃ k, k = 1074 := ⟨_, rfl⟩
  have h4 := z_down h3 k
  rw [h2.val] at h4
  rw [show (-2148 : Int) = -1074 - (k : Int) by omega, h4, (numT_fV hb hf).1, PZ_eq hk]
theorem gt_abs (T : Int) {k : Nat} (hk : k = 4238) : Gt T ↔ 2 ^ k ≤ T.natAbs := by
  unfold Gt
  obtain ⟨b, hb⟩ : ∃ b : Nat, b = 4196 := ⟨_, rfl⟩
  have e := mx_gen (a := 66) (b := b) (by omega)
  have h2 := pow_m42 b
  rw [show b + 42 = k by omega] at h2
  rw [e, ← h2]
  generalize (2 : Nat) ^ b = M at *
  omega
theorem great_bits {d : D} {T : Int} (h : DT d T) : decide ((2090 : Int) < (bitLen d.m : Int) + d.exp) = decide (Gt T) := by
  obtain ⟨k, hk⟩ : ∃ k : Nat, k = 4238 := ⟨_, rfl⟩
  refine decide_eq_decide.2 ?_
  rw [gt_abs T hk]
  have h1 := z_abs h.ex
  rw [h.val] at h1
  have hx := h.ex
  by_cases h0 : d.m = 0
  · have hz : d = D.zero := by
      rcases h.is with h2 | h2
      · exact h2
      · rw [h0] at h2; cases h2
    rw [h0, Nat.zero_mul] at h1
    rw [hz, ← h1]
    have := Nat.two_pow_pos k
    constructor
    · intro h; exact absurd h (by decide)
    · intro h; omega
  · rw [← h1]
    obtain ⟨q, hq⟩ : ∃ q : Nat, (d.exp - -2148).toNat = q := ⟨_, rfl⟩
    rw [hq]
    constructor
    · intro h2
      obtain ⟨j, hj⟩ : ∃ j, bitLen d.m = j + 1 := ⟨bitLen d.m - 1, by
        have : bitLen d.m ≠ 0 := by
          intro h3
          have := (bitLen_spec d.m).1
          rw [h3, Nat.pow_zero] at this; omega
        omega⟩
      have h3 : 2 ^ j ≤ d.m := by
        rcases Nat.lt_or_ge d.m (2 ^ j) with h4 | h4
        · have := bitLen_lt h4; omega
        · exact h4
      have h5 : 2 ^ j * 2 ^ q ≤ d.m * 2 ^ q := Nat.mul_le_mul_right _ h3
      rw [← Nat.pow_add] at h5
      exact Nat.le_trans (Nat.pow_le_pow_right (by decide) (by omega)) h5
    · intro h2
      rcases Int.lt_or_le 2090 ((bitLen d.m : Int) + d.exp) with h3 | h3
      · exact h3
      · have h4 := (bitLen_spec d.m).1
        have h5 : d.m * 2 ^ q < 2 ^ bitLen d.m * 2 ^ q := (Nat.mul_lt_mul_right (Nat.two_pow_pos _)).2 h4
        rw [← Nat.pow_add] at h5
        have h6 : 2 ^ (bitLen d.m + q) ≤ 2 ^ k := Nat.pow_le_pow_right (by decide) (by omega)
        omega
set_option maxHeartbeats 4000000 in
theorem great7_any {d : D} {T : Int} (h : DT d T) (a : Option Addr) (c : Nat) (w : World) (h1 : (argOf d a c).Ok w) : Calls Tryz.prog 207 #[DV d a c] w fun en w' => en = .returned (.bool (decide (Gt T))) ∧ Below w.heap.size w w' := by
  have hl := h.ok
  have hg := great_bits h
  obtain ⟨w1, e1⟩ : ∃ W, W = w.alloc (.cells #[.bool d.neg, .slice a (words d.m).length c, .int .i64 d.exp] 46) := ⟨_, rfl⟩
  obtain ⟨k1, hB1, s1⟩ := new_cel e1 rfl
  have HLn : Hid (∀ W, Below w.heap.size w W → Calls Tryz.prog 262 #[.slice a (words d.m).length c] W fun en w' => en = .returned (.int .i64 (bitLen d.m)) ∧ W = w') := by
    intro W hW
    have := rlen_any a c (words d.m) W (by have := h1.len; have e : (argOf d a c).l = words d.m := rfl; rw [e] at this; omega) (W32_words _) (h1.sl.grow hW).rd
    rw [num_words] at this
    exact this
  have hx : -2148 ≤ d.exp ∧ d.exp ≤ 1048576 ∧ bitLen d.m ≤ 1000000 := by
    refine ⟨h.ex, ?_, ?_⟩
    · obtain ⟨_, o2, o3⟩ := h.ok; omega
    · have := bitLen_lt h.msz; omega
  obtain ⟨hx1, hx2, hx3⟩ := hx
  obtain ⟨L, hL⟩ : ∃ L, L = bitLen d.m := ⟨_, rfl⟩
  rw [← hL] at HLn hg hx3
  have hw : IntKind.i64.wrap ((L : Int) + d.exp) = (L : Int) + d.exp := by rw [IntKind.wrap_i64]; omega
  obtain ⟨_, _, _, _, _, _⟩ := k1.facts
  have HB := Lib.hid hB1
  have HG := Lib.hid hg
  have E1 := Lib.hid e1
  have HK := Lib.hid k1
  unfold DV
  clear e1 hL hg h h1 hl k1 hB1 s1
  go_enter Tryz.func207, Tryz.ntmps207
  go_wp2_with fail
  rw [← E1.out]
  go_region_held3 (fun W => W.cell? ⟨w.heap.size, 1, none⟩ = some (.slice a (words d.m).length c) ∧ W.cell? ⟨w.heap.size, 2, none⟩ = some (.int .i64 d.exp)) (go_keep) (first
    | (go_at_call 262; refine (HLn.out _ (below_drewN' HB.out)).mono ?_; rintro en w5 ⟨rfl, rfl⟩))
  all_goals
    go_wp2_with fail
    go_ret
    exact ⟨by rw [← HG.out]; rfl, below_drewN' HB.out⟩

/-- counts, with n more of a kind -/
def cnt7 (A : Ac) (k n : Int) : Ac :=
  if k = 5 then { A with all := A.all + n, nan := A.nan + n } else if k = 3 then { A with all := A.all + n, up := A.up + n } else if k = 4 then { A with all := A.all + n, down := A.down + n } else if k = 1 then { A with all := A.all + n, minus := A.minus + n } else if k = 2 then { A with all := A.all + n, plus := A.plus + n } else { A with all := A.all + n }
set_option maxHeartbeats 16000000 in
theorem counted7_any (A : Ac) (k n : Int) (w : World) (hA : A.Ok) (hn : n = 1 ∨ n = -1) : Calls Tryz.prog 208 #[spcV A, .int .i64 k, .int .i64 n] w fun en w' => en = .returned (spcV (cnt7 A k n)) ∧ Below w.heap.size w w' := by
  obtain ⟨_, k2, k3, k4, k5, k6, k7, k8⟩ := hA
  have w1 : IntKind.i64.wrap (A.all + n) = A.all + n := by rw [IntKind.wrap_i64]; omega
  have w2 : IntKind.i64.wrap (A.nan + n) = A.nan + n := by rw [IntKind.wrap_i64]; omega
  have w3 : IntKind.i64.wrap (A.up + n) = A.up + n := by rw [IntKind.wrap_i64]; omega
  have w4 : IntKind.i64.wrap (A.down + n) = A.down + n := by rw [IntKind.wrap_i64]; omega
  have w5 : IntKind.i64.wrap (A.minus + n) = A.minus + n := by rw [IntKind.wrap_i64]; omega
  have w6 : IntKind.i64.wrap (A.plus + n) = A.plus + n := by rw [IntKind.wrap_i64]; omega
  have hBl : Hid (∀ W : World, Below w.heap.size w W → ∀ (i j : Nat) (u v : Value), Below w.heap.size w ((W.setCell ⟨w.heap.size, i, none⟩ u).setCell ⟨w.heap.size, j, none⟩ v)) := fun W hW i j u v => (hW.setCell (p := ⟨_, i, none⟩) (Nat.le_refl _) u).setCell (p := ⟨_, j, none⟩) (Nat.le_refl _) v
  obtain ⟨V, hV⟩ : ∃ V, V = cnt7 A k n := ⟨_, rfl⟩
  rw [← hV]
  have HV := Lib.hid hV
  clear hV
  unfold spcV
  have hcs : k = 5 ∨ k = 3 ∨ k = 4 ∨ k = 1 ∨ k = 2 ∨ ((k == 5) = false ∧ (k == 3) = false ∧ (k == 4) = false ∧ (k == 1) = false ∧ (k == 2) = false) := by
    by_cases h5 : k = 5
    · exact .inl h5
    by_cases h3 : k = 3
    · exact .inr (.inl h3)
    by_cases h4 : k = 4
    · exact .inr (.inr (.inl h4))
    by_cases h1 : k = 1
    · exact .inr (.inr (.inr (.inl h1)))
    by_cases h2 : k = 2
    · exact .inr (.inr (.inr (.inr (.inl h2))))
    · exact .inr (.inr (.inr (.inr (.inr ⟨by simpa using h5, by simpa using h3, by simpa using h4, by simpa using h1, by simpa using h2⟩))))
  rcases hcs with rfl | rfl | rfl | rfl | rfl | ⟨h5, h3, h4, h1, h2⟩
  · go_enter Tryz.func208, Tryz.ntmps208
    go_wp2_with fail
    refine bodyPost_ret (v := .agg #[.int .i64 (A.nan + n), .int .i64 A.up, .int .i64 A.down, .int .i64 A.minus, .int .i64 A.plus, .int .i64 (A.all + n)]) (by simp [results, Tryz.results208, go_sem]) rfl ?_
    refine ⟨?_, ((Below.refl _ _).alloc (Nat.le_refl _) _).alloc (by simp) _⟩
    rw [HV.out]
    rfl
  · go_enter Tryz.func208, Tryz.ntmps208
    go_wp2_with fail
    refine bodyPost_ret (v := .agg #[.int .i64 A.nan, .int .i64 (A.up + n), .int .i64 A.down, .int .i64 A.minus, .int .i64 A.plus, .int .i64 (A.all + n)]) (by simp [results, Tryz.results208, go_sem]) rfl ?_
    refine ⟨?_, ((Below.refl _ _).alloc (Nat.le_refl _) _).alloc (by simp) _⟩
    rw [HV.out]
    rfl
  · go_enter Tryz.func208, Tryz.ntmps208
    go_wp2_with fail
    refine bodyPost_ret (v := .agg #[.int .i64 A.nan, .int .i64 A.up, .int .i64 (A.down + n), .int .i64 A.minus, .int .i64 A.plus, .int .i64 (A.all + n)]) (by simp [results, Tryz.results208, go_sem]) rfl ?_
    refine ⟨?_, ((Below.refl _ _).alloc (Nat.le_refl _) _).alloc (by simp) _⟩
    rw [HV.out]
    rfl
  · go_enter Tryz.func208, Tryz.ntmps208
    go_wp2_with fail
    refine bodyPost_ret (v := .agg #[.int .i64 A.nan, .int .i64 A.up, .int .i64 A.down, .int .i64 (A.minus + n), .int .i64 A.plus, .int .i64 (A.all + n)]) (by simp [results, Tryz.results208, go_sem]) rfl ?_
    refine ⟨?_, ((Below.refl _ _).alloc (Nat.le_refl _) _).alloc (by simp) _⟩
    rw [HV.out]
    rfl
  · go_enter Tryz.func208, Tryz.ntmps208
    go_wp2_with fail
    refine bodyPost_ret (v := .agg #[.int .i64 A.nan, .int .i64 A.up, .int .i64 A.down, .int .i64 A.minus, .int .i64 (A.plus + n), .int .i64 (A.all + n)]) (by simp [results, Tryz.results208, go_sem]) rfl ?_
    refine ⟨?_, ((Below.refl _ _).alloc (Nat.le_refl _) _).alloc (by simp) _⟩
    rw [HV.out]
    rfl
  · go_enter Tryz.func208, Tryz.ntmps208
    go_wp2_with fail
    refine bodyPost_ret (v := .agg #[.int .i64 A.nan, .int .i64 A.up, .int .i64 A.down, .int .i64 A.minus, .int .i64 A.plus, .int .i64 (A.all + n)]) (by simp [results, Tryz.results208, go_sem]) rfl ?_
    refine ⟨?_, ((Below.refl _ _).alloc (Nat.le_refl _) _).alloc (by simp) _⟩
    rw [HV.out]
    have e : cnt7 A k n = { A with all := A.all + n } := by
      unfold cnt7
      rw [if_neg (by simpa using h5), if_neg (by simpa using h3), if_neg (by simpa using h4), if_neg (by simpa using h1), if_neg (by simpa using h2)]
    rw [e]
end Go.Proofs.YteahdgbokjbgcaaGreatDoor
namespace Go.Proofs.YteahdgbokjbgcaaGreatDoor
open Go.RowKit
set_option maxRecDepth 10000
set_option linter.unusedVariables false
set_option linter.unusedSimpArgs false

/-- the document's accumulator, as cells -/
def rac (d : D) (a : Option Addr) (c : Nat) (A : Ac) : Array Value := #[.bool d.neg, .slice a (words d.m).length c, .int .i64 d.exp, .int .i64 A.nan, .int .i64 A.up, .int .i64 A.down, .int .i64 A.minus, .int .i64 A.plus, .int .i64 A.all]
/-- .. in a block of its own -/
def RAc (w : World) (g : Nat) (A : Ac) : Prop := ∃ d a c, w.heap[g]? = some (.cells (rac d a c A) 59 (0, 0)) ∧ Own w 118 0 a c (words d.m) ∧ DT d A.T
theorem RAc.lt {w : World} {g : Nat} {A : Ac} (h : RAc w g A) : g < w.heap.size := by
  obtain ⟨d, a, c, h1, _⟩ := h
  exact (Array.getElem?_eq_some_iff.1 h1).1
theorem RAc.grow {w w' : World} {g : Nat} {A : Ac} (h : RAc w g A) (hb : Below w.heap.size w w') : RAc w' g A := by
  have hl := h.lt
  obtain ⟨d, a, c, h1, h2, h3⟩ := h
  exact ⟨d, a, c, blk_below h1 hb hl, h2.grow hb, h3⟩
theorem rac_cells {w : World} {g : Nat} {d : D} {a : Option Addr} {c : Nat} {A : Ac} {T : TypeId} (h : w.heap[g]? = some (.cells (rac d a c A) T (0, 0))) :
    w.cell? ⟨g, 0, none⟩ = some (.bool d.neg) ∧ w.cell? ⟨g, 1, none⟩ = some (.slice a (words d.m).length c) ∧ w.cell? ⟨g, 2, none⟩ = some (.int .i64 d.exp) ∧ w.cell? ⟨g, 3, none⟩ = some (.int .i64 A.nan) ∧ w.cell? ⟨g, 4, none⟩ = some (.int .i64 A.up) ∧ w.cell? ⟨g, 5, none⟩ = some (.int .i64 A.down) ∧ w.cell? ⟨g, 6, none⟩ = some (.int .i64 A.minus) ∧ w.cell? ⟨g, 7, none⟩ = some (.int .i64 A.plus) ∧ w.cell? ⟨g, 8, none⟩ = some (.int .i64 A.all) :=
  ⟨by rw [cell_of_row w g 0 _ _ _ h]; rfl, by rw [cell_of_row w g 1 _ _ _ h]; rfl, by rw [cell_of_row w g 2 _ _ _ h]; rfl, by rw [cell_of_row w g 3 _ _ _ h]; rfl, by rw [cell_of_row w g 4 _ _ _ h]; rfl, by rw [cell_of_row w g 5 _ _ _ h]; rfl, by rw [cell_of_row w g 6 _ _ _ h]; rfl, by rw [cell_of_row w g 7 _ _ _ h]; rfl, by rw [cell_of_row w g 8 _ _ _ h]; rfl⟩
/-- a thing as it is handed in -/
def thV (k : Int) (d : D) (a : Option Addr) (c : Nat) : Value := .agg #[.int .i64 k, .bool d.neg, .slice a (words d.m).length c, .int .i64 d.exp]
theorem th4_cells {w : World} {g : Nat} {v0 v1 v2 v3 : Value} {T : TypeId} (h : w.heap[g]? = some (.cells #[v0, v1, v2, v3] T (0, 0))) :
    w.cell? ⟨g, 0, none⟩ = some v0 ∧ w.cell? ⟨g, 1, none⟩ = some v1 ∧ w.cell? ⟨g, 2, none⟩ = some v2 ∧ w.cell? ⟨g, 3, none⟩ = some v3 :=
  ⟨by rw [cell_of_row w g 0 _ _ _ h]; rfl, by rw [cell_of_row w g 1 _ _ _ h]; rfl, by rw [cell_of_row w g 2 _ _ _ h]; rfl, by rw [cell_of_row w g 3 _ _ _ h]; rfl⟩
structure ThOk (t : Ac) (k : Int) (d : D) : Prop where
  eq : t = kT k t.T
  no : k ≠ 0 → t.T = 0
  dt : DT d t.T
theorem kT_cnt (A t : Ac) {k : Int} (h : t = kT k t.T) : cnt7 A k 1 = { A.sum t with T := A.T } := by
  rw [h]
  unfold cnt7 kT Ac.sum
  split
  · simp
  · split
    · simp
    · split
      · simp
      · split
        · simp
        · split
          · simp
          · simp
set_option maxHeartbeats 4000000 in
theorem of7_any (b : Nat) (w : World) (hb : b < 18446744073709551616) : Calls Tryz.prog 98 #[.float .f64 b] w fun en w' => ∃ d a c, en = .returned (thV (kindN b) d a c) ∧ Own w' 118 w.heap.size a c (words d.m) ∧ ThOk (numT b) (kindN b) d ∧ Below w.heap.size w w' := by
  obtain ⟨h1, h2, h3⟩ := numT_kT b hb
  have hk := fun W => kind6_any b W hb
  obtain ⟨k, hkk⟩ : ∃ k, k = kindN b := ⟨_, rfl⟩
  rw [← hkk] at hk h1 h2 ⊢
  have HK := Lib.hid hk
  clear hk
  by_cases h0 : k = 0
  · obtain ⟨d, hd, hdt⟩ := dt_num hb (by rw [← hkk]; exact h0)
    have hOf := fun W => rOf (W := W) hb hd hdt.ok
    have HO := Lib.hid hOf
    have HF : Hid (ThOk (numT b) k d) := ⟨h1, h2, hdt⟩
    subst h0
    clear h1 h2 h3 hOf hd hdt hkk
    go_enter Tryz.func98, Tryz.ntmps98
    go_wp2_with fail
    refine (HK.out _).mono ?_; rintro en w2 ⟨rfl, rfl⟩
    go_upto_region 3 with fail
    obtain ⟨w1, e1⟩ : ∃ W, W = w.alloc (.cells #[.int .i64 0, .bool false, .slice none 0 0, .int .i64 0] 127) := ⟨_, rfl⟩
    obtain ⟨w2, e2⟩ : ∃ W, W = w1.alloc (.cells #[.int .i64 0, .bool false, .slice none 0 0, .int .i64 0] 127) := ⟨_, rfl⟩
    rw [← e1, ← e2]
    obtain ⟨k1, b1, s1⟩ := new_of e1 rfl
    obtain ⟨k2, b2, s2⟩ := new_of e2 s1
    have K1 := Lib.hid (fun W (hW : Below w2.heap.size w2 W) => th4_cells (blk_below (blk_below k1 b2 (show w.heap.size < w.heap.size + 1 by omega)) hW (show w.heap.size < w2.heap.size by omega)))
    have K2 := Lib.hid (fun W (hW : Below w2.heap.size w2 W) => th4_cells (blk_below k2 hW (show w.heap.size + 1 < w2.heap.size by omega)))
    have K1f := Lib.hid (fun W (hW : Below w2.heap.size w2 W) i => frozen_of_row W w.heap.size i _ _ (blk_below (blk_below k1 b2 (show w.heap.size < w.heap.size + 1 by omega)) hW (show w.heap.size < w2.heap.size by omega)))
    have K2f := Lib.hid (fun W (hW : Below w2.heap.size w2 W) i => frozen_of_row W (w.heap.size + 1) i _ _ (blk_below k2 hW (show w.heap.size + 1 < w2.heap.size by omega)))
    have HB2 := Lib.hid (b1.trans (b2.mono (by omega)))
    have hs2 : w2.heap.size = w.heap.size + 2 := by omega
    have HS2 := Lib.hid hs2
    clear e1 e2 k1 k2 b1 b2 s1 s2 hs2
    go_wp2_with fail
    refine (HO.out w2).mono ?_; rintro en w5 ⟨a, c, rfl, ho, hb⟩
    have HO5 := Lib.hid ho; have HBb := Lib.hid hb
    obtain ⟨q0, q1, q2, q3⟩ := K1.out w5 hb
    obtain ⟨r0, r1, r2, r3⟩ := K2.out w5 hb
    have f0 := K1f.out w5 hb 0; have f1 := K1f.out w5 hb 1; have f2 := K1f.out w5 hb 2; have f3 := K1f.out w5 hb 3
    have g1 := K2f.out w5 hb 1; have g2 := K2f.out w5 hb 2; have g3 := K2f.out w5 hb 3
    unfold DV
    clear ho hb
    go_wp2_with fail
    refine bodyPost_ret (v := thV 0 d a c) (by simp [results, Tryz.results98, go_sem, thV, q0, q1, q2, q3]) rfl ?_
    have l0 : w.heap.size < w2.heap.size := by have := HS2.out; omega
    have l1 : w.heap.size + 1 < w2.heap.size := by have := HS2.out; omega
    have hw0 : w.heap.size ≤ w.heap.size + 1 := by omega
    refine ⟨d, a, c, rfl, ?_, HF.out, ?_⟩
    · exact (((((((HO5.out.set ⟨_, 1, none⟩ _ l1).set ⟨_, 2, none⟩ _ l1).set ⟨_, 3, none⟩ _ l1).set ⟨_, 0, none⟩ _ l0).set ⟨_, 1, none⟩ _ l0).set ⟨_, 2, none⟩ _ l0).set ⟨_, 3, none⟩ _ l0).mono (Nat.le_of_lt l0)
    · exact ((((((((HB2.out.trans (HBb.out.mono (Nat.le_of_lt l0))).setCell (p := ⟨_, 1, none⟩) hw0 _).setCell (p := ⟨_, 2, none⟩) hw0 _).setCell (p := ⟨_, 3, none⟩) hw0 _).setCell (p := ⟨_, 0, none⟩) (Nat.le_refl _) _).setCell (p := ⟨_, 1, none⟩) (Nat.le_refl _) _).setCell (p := ⟨_, 2, none⟩) (Nat.le_refl _) _).setCell (p := ⟨_, 3, none⟩) (Nat.le_refl _) _)
  · have hk0 : (k == 0) = false := by simpa using h0
    have HF : Hid (ThOk (numT b) k D.zero) := ⟨h1, h2, by rw [h2 h0]; exact Dy.zero (by decide)⟩
    clear h1 h2 h3 h0 hkk
    go_enter Tryz.func98, Tryz.ntmps98
    go_wp2_with fail
    refine (HK.out _).mono ?_; rintro en w2 ⟨rfl, rfl⟩
    go_wp2_with fail
    refine bodyPost_ret (v := .agg #[.int .i64 k, .bool false, .slice none 0 0, .int .i64 0]) (by simp [results, Tryz.results98, go_sem]) rfl ?_
    refine ⟨D.zero, none, 0, ?_, ?_, HF.out, ((Below.refl _ _).alloc (Nat.le_refl _) _).alloc (by simp) _⟩
    · show _ = Ending.returned (.agg #[.int .i64 k, .bool false, .slice none (words 0).length 0, .int .i64 0])
      rw [words_zero]; rfl
    · show Own _ _ _ none 0 (words 0)
      rw [words_zero]; exact Own.none _ _ _

theorem own_ne {w : World} {a : Option Addr} {c g : Nat} {l : List Nat} {cs : Array Value} {T : TypeId} (h : Own w 118 0 a c l) (hg : w.heap[g]? = some (.cells cs T (0, 0))) (hT : T ≠ 118) : ∀ ad, a = some ad → ad.block ≠ g := by
  rintro ad rfl rfl
  rcases h with ⟨h, _⟩ | ⟨g', t, h0, _, _, _, h4⟩
  · cases h
  · cases h0
    unfold Blk at h4
    rw [hg] at h4
    cases h4
    exact hT rfl
theorem cells9 {w : World} {g : Nat} {v0 v1 v2 v3 v4 v5 v6 v7 v8 : Value} {T : TypeId} (h : w.heap[g]? = some (.cells #[v0, v1, v2, v3, v4, v5, v6, v7, v8] T (0, 0))) :
    w.cell? ⟨g, 0, none⟩ = some v0 ∧ w.cell? ⟨g, 1, none⟩ = some v1 ∧ w.cell? ⟨g, 2, none⟩ = some v2 ∧ w.cell? ⟨g, 3, none⟩ = some v3 ∧ w.cell? ⟨g, 4, none⟩ = some v4 ∧ w.cell? ⟨g, 5, none⟩ = some v5 ∧ w.cell? ⟨g, 6, none⟩ = some v6 ∧ w.cell? ⟨g, 7, none⟩ = some v7 ∧ w.cell? ⟨g, 8, none⟩ = some v8 :=
  ⟨by rw [cell_of_row w g 0 _ _ _ h]; rfl, by rw [cell_of_row w g 1 _ _ _ h]; rfl, by rw [cell_of_row w g 2 _ _ _ h]; rfl, by rw [cell_of_row w g 3 _ _ _ h]; rfl, by rw [cell_of_row w g 4 _ _ _ h]; rfl, by rw [cell_of_row w g 5 _ _ _ h]; rfl, by rw [cell_of_row w g 6 _ _ _ h]; rfl, by rw [cell_of_row w g 7 _ _ _ h]; rfl, by rw [cell_of_row w g 8 _ _ _ h]; rfl⟩
theorem row_setA {w : World} {g : Nat} {l : List Value} {t : TypeId} (h : w.heap[g]? = some (.cells l.toArray t (0, 0))) (i : Nat) (v : Value) : (w.setCell ⟨g, i, none⟩ v).heap[g]? = some (.cells (l.set i v).toArray t (0, 0)) := by
  rw [heap_setCell_same w g i _ t _ h, List.setIfInBounds_toArray]
theorem sum_lt {T U : Int} (h : ¬ Gt T) (h1 : -Mx ≤ U) (h2 : U ≤ Mx) : (T + U).natAbs < 2 ^ (32 * 133) := by
  obtain ⟨k, hk⟩ : ∃ k, k = 4238 := ⟨_, rfl⟩
  obtain ⟨j, hj⟩ : ∃ j, j = 32 * 133 := ⟨_, rfl⟩
  rw [← hj]
  have h3 := gt_nat h (k := k) (by omega)
  have h4 : mxE ≤ k := by unfold mxE; omega
  have h5 : 2 ^ mxE ≤ 2 ^ k := Nat.pow_le_pow_right (by decide) h4
  have h6 : 2 ^ (k + 1) ≤ 2 ^ j := Nat.pow_le_pow_right (by decide) (by omega)
  rw [mx_eq] at h1 h2
  rw [Nat.pow_succ] at h6
  omega
theorem gr_below' {w w' : World} {g : Nat} (h : Below w.heap.size w w') (hg : g < w.heap.size) : w.grownBy w' (some g) := ⟨h.os, h.tape, h.output, h.size, fun j hj _ => h.block j hj⟩
def RAccR (r : Int × Ac) (w : World) (g : Nat) (en : Ending) (w' : World) : Prop := en = .returned (.int .i64 r.1) ∧ RAc w' g r.2 ∧ w.grownBy w' (some g)
set_option maxHeartbeats 16000000 in
theorem radd7_any (A t : Ac) (k : Int) (dt : D) (a' : Option Addr) (c' g b' : Nat) (w : World) (hA : A.Ok) (ht : ThOk t k dt) (hM1 : -Mx ≤ t.T) (hM2 : t.T ≤ Mx) (ho : Own w 118 b' a' c' (words dt.m)) (hR : RAc w g A) :
    Calls Tryz.prog 97 #[.pointer (some ⟨g, 0, none⟩), thV k dt a' c'] w (RAccR (addR A t) w g) := by
  have hlt := hR.lt
  obtain ⟨d, a, c, hg, hown, hdt⟩ := hR
  obtain ⟨x0, x1, x2, x3, x4, x5, x6, x7, x8⟩ := rac_cells hg
  obtain ⟨R, hRR⟩ : ∃ R, R = addR A t := ⟨_, rfl⟩
  rw [← hRR]
  obtain ⟨w1, e1⟩ : ∃ W, W = w.alloc (.cells #[.int .i64 k, .bool dt.neg, .slice a' (words dt.m).length c', .int .i64 dt.exp] 127) := ⟨_, rfl⟩
  obtain ⟨k1, b1, s1⟩ := new_of e1 rfl
  have E1 := Lib.hid e1
  by_cases hall : A.all = 1099511627776
  · have hq : (A.all == 1099511627776) = true := by rw [hall]; rfl
    have HF : Hid (RAc w1 g A ∧ w.grownBy w1 (some g)) := ⟨⟨d, a, c, blk_below hg b1 hlt, hown.grow b1, hdt⟩, ⟨b1.os, b1.tape, b1.output, b1.size, fun j hj _ => b1.block j hj⟩⟩
    have HR2 : Hid (R = (2, A)) := by show R = _; rw [hRR]; unfold addR; rw [if_pos hall]
    have x8' : w1.cell? ⟨g, 8, none⟩ = some (.int .i64 A.all) := (rac_cells (blk_below hg b1 hlt)).2.2.2.2.2.2.2.2
    unfold thV
    clear hRR e1 k1 b1 s1 hall hg hown hdt ho ht x0 x1 x2 x3 x4 x5 x6 x7 x8 hA
    go_enter Tryz.func97, Tryz.ntmps97
    go_upto_region 1 with fail
    rw [← E1.out]
    go_wp2_with fail
    go_ret
    rw [HR2.out]
    exact ⟨rfl, HF.out⟩
  have hq : (A.all == 1099511627776) = false := by simpa using hall
  have hg1 := blk_below hg b1 hlt
  have hown1 := hown.grow b1
  have ho1 := ho.grow b1
  have hG1 : w.grownBy w1 (some g) := ⟨b1.os, b1.tape, b1.output, b1.size, fun j hj _ => b1.block j hj⟩
  obtain ⟨dn, hdn, hdn2⟩ := hdt.addZ ht.dt rg_dt (sum_lt hA.v hM1 hM2)
  have HAd : Hid (∀ W, Below w1.heap.size w1 W → Calls Tryz.prog 71 #[DV d a c, DV dt a' c'] W (OutDE dn W)) := fun W hW => qAdd hdt.is hdt.ok ht.dt.is ht.dt.ok hdn a a' c c' W ((hown1.grow hW).arg hdt.ok) ((ho1.grow hW).arg ht.dt.ok)
  have HGr : Hid (∀ W a5 c5 b5, Own W 118 b5 a5 c5 (words dn.m) → Calls Tryz.prog 207 #[DV dn a5 c5] W fun en w' => en = .returned (.bool (decide (Gt (A.T + t.T)))) ∧ Below W.heap.size W w') := fun W a5 c5 b5 ho => great7_any hdn2 a5 c5 W (ho.arg hdn2.ok)
  have HCt : Hid (∀ W, Calls Tryz.prog 208 #[spcV A, .int .i64 k, .int .i64 1] W fun en w' => en = .returned (spcV (cnt7 A k 1)) ∧ Below W.heap.size W w') := fun W => counted7_any A k 1 W hA (.inl rfl)
  have HCe := Lib.hid (kT_cnt A t ht.eq)
  have HRa : Hid (R = if Gt (A.T + t.T) then (2, A) else (0, A.sum t)) := by show R = _; rw [hRR]; unfold addR; rw [if_neg hall]
  have HDn := Lib.hid hdn2
  have HC1 : Hid (∀ W, Below w1.heap.size w1 W → W.cell? ⟨g, 0, none⟩ = some (.bool d.neg) ∧ W.cell? ⟨g, 1, none⟩ = some (.slice a (words d.m).length c) ∧ W.cell? ⟨g, 2, none⟩ = some (.int .i64 d.exp) ∧ W.cell? ⟨w.heap.size, 1, none⟩ = some (.bool dt.neg) ∧ W.cell? ⟨w.heap.size, 2, none⟩ = some (.slice a' (words dt.m).length c') ∧ W.cell? ⟨w.heap.size, 3, none⟩ = some (.int .i64 dt.exp)) := by
    intro W hW
    have r := rac_cells (blk_below hg1 hW (by omega))
    have s := th4_cells (blk_below k1 hW (by omega))
    exact ⟨r.1, r.2.1, r.2.2.1, s.2.1, s.2.2.1, s.2.2.2⟩
  have HK : Hid (∀ W, Below w1.heap.size w1 W → W.heap[g]? = some (.cells (rac d a c A) 59 (0, 0)) ∧ W.cell? ⟨w.heap.size, 0, none⟩ = some (.int .i64 k)) := fun W hW => ⟨blk_below hg1 hW (by omega), (th4_cells (blk_below k1 hW (by omega))).1⟩
  have HGw := Lib.hid hG1
  have hlt1 : g < w1.heap.size := by omega
  have HOwn : Hid (∀ W, Below w1.heap.size w1 W → Own W 118 0 a c (words d.m)) := fun W hW => hown1.grow hW
  have HDt := Lib.hid hdt
  have x8' : w1.cell? ⟨g, 8, none⟩ = some (.int .i64 A.all) := (rac_cells hg1).2.2.2.2.2.2.2.2
  have HS1 := Lib.hid s1
  unfold thV spcV at *
  clear hRR e1 k1 b1 s1 hall hg hown hdt ho ht x0 x1 x2 x3 x4 x5 x6 x7 x8 hA hg1 hown1 ho1 hG1 hdn hdn2 hM1 hM2
  unfold DV at HAd
  go_enter Tryz.func97, Tryz.ntmps97
  go_upto_region 1 with fail
  rw [← E1.out]
  go_upto_region 3 with fail
  obtain ⟨q0, q1, q2, q3, q4, q5⟩ := HC1.out w1 (Below.refl _ _)
  have m5 : w1.heap.size ≠ g := by omega
  have m6 : w1.heap.size ≠ w.heap.size := by have := HS1.out; omega
  go_region_held3 (fun W => W.cell? ⟨g, 0, none⟩ = some (.bool d.neg) ∧ W.cell? ⟨g, 1, none⟩ = some (.slice a (words d.m).length c) ∧ W.cell? ⟨g, 2, none⟩ = some (.int .i64 d.exp) ∧ W.cell? ⟨w.heap.size, 1, none⟩ = some (.bool dt.neg) ∧ W.cell? ⟨w.heap.size, 2, none⟩ = some (.slice a' (words dt.m).length c') ∧ W.cell? ⟨w.heap.size, 3, none⟩ = some (.int .i64 dt.exp)) (go_keep) (first
      | (go_at_call 71; refine (HAd.out w1.drew (Below.refl _ _).drew).mono ?_; rintro en w5 ⟨a5, c5, rfl, ho5, hb5⟩; simp only [DV]; have HB5 : Hid (Below w1.heap.size w1 w5) := below_drewN (n := 1) hb5; have n5 : w5.heap.size ≠ g := (by have := HB5.out.size; omega); have n6 : w5.heap.size ≠ w.heap.size := (by have := HB5.out.size; have := HS1.out; omega); obtain ⟨q0, q1, q2, q3, q4, q5⟩ := HC1.out w5 HB5.out)
      | (go_at_call 71; refine (HAd.out (w1.alloc (.cells #[.bool false, .slice none 0 0, .int .i64 0] 46)).drew ((Below.refl _ _).alloc (Nat.le_refl _) _).drew).mono ?_; rintro en w5 ⟨a5, c5, rfl, ho5, hb5⟩; simp only [DV]; have HB5 : Hid (Below w1.heap.size w1 w5) := ((Below.refl _ _).alloc (Nat.le_refl _) _).drew.trans (hb5.mono (by simp)); have j5 := (Cel.new w1 (.bool false) (.slice none 0 0) (.int .i64 0)).below (below_drewN (n := 1) hb5) (by simp); obtain ⟨q0, q1, q2, q3, q4, q5⟩ := HC1.out w5 HB5.out; obtain ⟨_, _, _, _, _, _⟩ := j5.facts))
  all_goals
    (first
      | (obtain ⟨w6, e6⟩ : ∃ W, W = w5.alloc (.cells #[.bool dn.neg, .slice a5 (words dn.m).length c5, .int .i64 dn.exp] 46) := ⟨_, rfl⟩
         rw [← e6]
         obtain ⟨K6, z6, _⟩ := new_cel e6 rfl
         have HO6 : Own w6 118 0 a5 c5 (words dn.m) := (ho5.grow z6).mono (Nat.zero_le _)
         have HB6 := Lib.hid (HB5.out.trans (z6.mono HB5.out.size))
         have hp6 : w1.heap.size ≤ w5.heap.size := HB5.out.size
         obtain ⟨p6, e7⟩ : ∃ p, p = w5.heap.size := ⟨_, rfl⟩
         rw [← e7] at K6 hp6 ⊢
         clear e7 e6 z6)
      | (obtain ⟨w6, e6⟩ : ∃ W, W = wr3 w5 w1.heap.size (.bool dn.neg) (.slice a5 (words dn.m).length c5) (.int .i64 dn.exp) := ⟨_, rfl⟩
         have e8 := e6
         unfold wr3 at e8
         rw [← e8]
         have K6 := cel_wr_same e6 j5
         have HO6 : Own w6 118 0 a5 c5 (words dn.m) := (own_wr e6 (ho5.mono (b := w1.heap.size + 1) (by simp)) (by omega)).mono (Nat.zero_le _)
         have HB6 := Lib.hid (below_wr e6 HB5.out (Nat.le_refl _))
         have hp6 : w1.heap.size ≤ w1.heap.size := Nat.le_refl _
         obtain ⟨p6, e7⟩ : ∃ p, p = w1.heap.size := ⟨_, rfl⟩
         have hp6 : w1.heap.size ≤ p6 := by omega
         rw [← e7] at K6 ⊢
         clear e8 e7 e6 j5))
    clear ho5 hb5
    try clear n5 n6
    have HO := Lib.hid HO6
    have hp7 : p6 < w6.heap.size := K6.lt
    have HK6 := Lib.hid K6
    clear HO6 K6 q0 q1 q2 q3 q4 q5
    obtain ⟨_, _, _, _, _, _⟩ := HK6.out.facts
    have HGr6 := Lib.hid (HGr.out w6 a5 c5 _ HO.out)
    unfold DV at HGr6
    go_wp2_with fail
    refine HGr6.out.mono ?_; rintro en w7 ⟨rfl, hb7⟩
    have HB7 := Lib.hid (HB6.out.trans (hb7.mono HB6.out.size))
    have HO7 := Lib.hid (HO.out.grow hb7)
    have HK7 := Lib.hid (HK6.out.below hb7 hp7)
    clear hb7 HGr6
    obtain ⟨G, hG⟩ : ∃ G, G = decide (Gt (A.T + t.T)) := ⟨_, rfl⟩
    rw [← hG]
    have HGg := Lib.hid hG
    clear hG
    cases G
    case true =>
      have HR2 : Hid (R = (2, A)) := by have := HRa.out; rw [if_pos (of_decide_eq_true HGg.out.symm)] at this; exact this
      go_wp2_with fail
      go_ret
      rw [HR2.out]
      exact ⟨rfl, ⟨d, a, c, (HK.out w7 HB7.out).1, HOwn.out w7 HB7.out, HDt.out⟩, gr_trans HGw.out (gr_below' HB7.out hlt1)⟩
    case false =>
      have HR2 : Hid (R = (0, A.sum t)) := by have := HRa.out; rw [if_neg (of_decide_eq_false HGg.out.symm)] at this; exact this
      have hrow := (HK.out w7 HB7.out).1
      obtain ⟨u0, u1, u2, _, _, _, _, _, _⟩ := rac_cells hrow
      have f0 := frozen_of_row w7 g 0 _ _ hrow
      have f1 := frozen_of_row w7 g 1 _ _ hrow
      have f2 := frozen_of_row w7 g 2 _ _ hrow
      have HRow := Lib.hid hrow
      obtain ⟨_, _, _, _, _, _⟩ := HK7.out.facts
      have hpg : p6 ≠ g := by omega
      clear hrow
      go_upto_region 7 with fail
      obtain ⟨w8, e8⟩ : ∃ W, W = (((w7.setCell ⟨g, 0, none⟩ (.bool dn.neg)).setCell ⟨g, 1, none⟩ (.slice a5 (words dn.m).length c5)).setCell ⟨g, 2, none⟩ (.int .i64 dn.exp)) := ⟨_, rfl⟩
      rw [← e8]
      have hrow8 : w8.heap[g]? = some (.cells (rac dn a5 c5 A) 59 (0, 0)) := by
        rw [e8]
        have := row_setA (row_setA (row_setA (l := (rac d a c A).toList) HRow.out 0 (.bool dn.neg)) 1 (.slice a5 (words dn.m).length c5)) 2 (.int .i64 dn.exp)
        exact this
      have HG8 : Hid (w.grownBy w8 (some g)) := by rw [e8]; exact grown_set' (grown_set' (grown_set' (gr_trans HGw.out (gr_below' HB7.out hlt1)) _ _) _ _) _ _
      have HO8 : Hid (Own w8 118 0 a5 c5 (words dn.m)) := own_grown HO7.out (by rw [e8]; exact grown_set' (grown_set' (grown_set' (grown_refl _ _) _ _) _ _) _ _) (own_ne HO7.out HRow.out (by decide))
      have hk8 : w8.cell? ⟨w.heap.size, 0, none⟩ = some (.int .i64 k) := by
        have h1 := (HK.out w7 HB7.out).2
        have hne : w.heap.size ≠ g := by omega
        rw [e8, World.cell?_setCell_other _ _ _ _ (by simp [hne]), World.cell?_setCell_other _ _ _ _ (by simp [hne]), World.cell?_setCell_other _ _ _ _ (by simp [hne])]
        exact h1
      have hs8 : g < w8.heap.size := by rw [e8]; simp; have := HB7.out.size; omega
      have HRow8 := Lib.hid hrow8
      clear e8 HRow
      obtain ⟨_, _, _, v3, v4, v5, v6, v7, v8⟩ := rac_cells hrow8
      clear hrow8
      obtain ⟨C, hC⟩ : ∃ C, C = cnt7 A k 1 := ⟨_, rfl⟩
      rw [← hC] at HCt HCe
      clear hC
      go_region_with (first
        | (go_at_call 208; refine (HCt.out _).mono ?_; rintro en w9 ⟨rfl, hb9⟩; simp only [spcV]; have hrow9 := blk_below HRow8.out (below_drewN (n := 1) hb9) (by simpa using hs8); obtain ⟨_, _, _, z3, z4, z5, z6, z7, z8⟩ := rac_cells hrow9; have g3 := frozen_of_row w9 g 3 _ _ hrow9; have g4 := frozen_of_row w9 g 4 _ _ hrow9; have g5 := frozen_of_row w9 g 5 _ _ hrow9; have g6 := frozen_of_row w9 g 6 _ _ hrow9; have g7 := frozen_of_row w9 g 7 _ _ hrow9; have g8 := frozen_of_row w9 g 8 _ _ hrow9))
      all_goals
        go_wp2_with fail
        go_ret
        rw [HR2.out]
        have hG9 := gr_trans HG8.out (gr_below' (below_drewN (n := 1) hb9) (by simpa using hs8))
        have hO9 := HO8.out.grow (below_drewN (n := 1) hb9)
        obtain rfl : C = { A.sum t with T := A.T } := HCe.out
        refine ⟨rfl, ⟨dn, a5, c5, ?_, ?_, HDn.out⟩, ?_⟩
        · have := row_setA (row_setA (row_setA (row_setA (row_setA (row_setA (l := (rac dn a5 c5 A).toList) hrow9 3 (.int .i64 (A.sum t).nan)) 4 (.int .i64 (A.sum t).up)) 5 (.int .i64 (A.sum t).down)) 6 (.int .i64 (A.sum t).minus)) 7 (.int .i64 (A.sum t).plus)) 8 (.int .i64 (A.sum t).all)
          exact this
        · exact own_grown hO9 (grown_set' (grown_set' (grown_set' (grown_set' (grown_set' (grown_set' (grown_refl _ _) _ _) _ _) _ _) _ _) _ _) _ _) (own_ne hO9 hrow9 (by decide))
        · exact grown_set' (grown_set' (grown_set' (grown_set' (grown_set' (grown_set' hG9 _ _) _ _) _ _) _ _) _ _) _ _

theorem rac_zero {w : World} {g : Nat} (h : w.heap[g]? = some (.cells #[.bool false, .slice none 0 0, .int .i64 0, .int .i64 0, .int .i64 0, .int .i64 0, .int .i64 0, .int .i64 0, .int .i64 0] 59 (0, 0))) : RAc w g Ac.zero := by
  refine ⟨D.zero, none, 0, ?_, ?_, Dy.zero (by decide)⟩
  · rw [h]
    show _ = some (Obj.cells #[.bool false, .slice none (words 0).length 0, .int .i64 0, .int .i64 0, .int .i64 0, .int .i64 0, .int .i64 0, .int .i64 0, .int .i64 0] _ _)
    rw [words_zero]; rfl
  · show Own _ _ _ none 0 (words 0)
    rw [words_zero]; exact Own.none _ _ _
end Go.Proofs.YteahdgbokjbgcaaGreatDoor
namespace Go.Proofs.YteahdgbokjbgcaaGreatDoor
open Go.RowKit
set_option maxRecDepth 10000
set_option linter.unusedVariables false
set_option linter.unusedSimpArgs false

/-- what is refused -/
def rfs (A : Ac) (mode pn pi : Int) : Int := if mode < 0 ∨ 4 < mode ∨ okP pn pi = false then 1 else refB (decide (0 < A.nan)) (pn == 2) (decide (0 < A.up + A.down)) (pi == 2)
set_option maxHeartbeats 8000000 in
theorem refused7_any (A : Ac) (mode pn pi : Int) (g : Nat) (w : World) (hA : A.Ok) (hR : RAc w g A) :
    Calls Tryz.prog 219 #[.pointer (some ⟨g, 0, none⟩), .int .i64 mode, pol pn pi] w fun en w' => en = .returned (.int .i64 (rfs A mode pn pi)) ∧ Below w.heap.size w w' := by
  have hlt := hR.lt
  obtain ⟨V, hV⟩ : ∃ V, V = rfs A mode pn pi := ⟨_, rfl⟩
  rw [← hV]
  obtain ⟨w1, e1⟩ : ∃ W, W = w.alloc (.cells #[.int .i64 pn, .int .i64 pi] 61) := ⟨_, rfl⟩
  obtain ⟨k1, b1, s1⟩ := new_of e1 rfl
  obtain ⟨d, a, c, hrow, _, _⟩ := hR.grow b1
  have HK := Lib.hid (fun W (hW : Below w1.heap.size w1 W) => pol_cells (blk_below k1 hW (by omega)))
  have HC := Lib.hid (fun W (hW : Below w1.heap.size w1 W) => (rac_cells (blk_below hrow hW (by omega))).2.2.2)
  have HM := Lib.hid (fun W => may6_any pn pi W)
  have HF := Lib.hid (fun W => refused6_any A pn pi W hA)
  have HB1 := Lib.hid b1
  have E1 := Lib.hid e1
  have HV := Lib.hid hV
  obtain ⟨y0, y1⟩ := pol_cells k1
  unfold pol spcV at *
  clear hV e1 k1 b1 s1 hrow hR hA
  go_enter Tryz.func219, Tryz.ntmps219
  go_upto_region 1 with fail
  rw [← E1.out]
  go_wp2_with fail
  refine (HM.out w1).mono ?_; rintro en w2 ⟨rfl, hb⟩
  have HB2 := Lib.hid hb
  clear hb y0 y1
  obtain ⟨OK, hOK⟩ : ∃ b, b = okP pn pi := ⟨_, rfl⟩
  rw [← hOK]
  have HOK := Lib.hid hOK
  clear hOK
  have hcs : mode < 0 ∨ (¬ mode < 0 ∧ 4 < mode) ∨ (¬ mode < 0 ∧ ¬ 4 < mode ∧ OK = false) ∨ (0 ≤ mode ∧ mode ≤ 4 ∧ OK = true) := by
    cases OK <;> simp <;> omega
  rcases hcs with h1 | ⟨h1, h2⟩ | ⟨h1, h2, rfl⟩ | ⟨h1, h2, rfl⟩
  · have HW : Hid (V = 1) := by have := HV.out; unfold rfs at this; rw [if_pos (.inl h1)] at this; exact this
    go_wp2_with fail
    go_ret
    rw [HW.out]
    exact ⟨rfl, HB1.out.trans (HB2.out.mono HB1.out.size)⟩
  · have HW : Hid (V = 1) := by have := HV.out; unfold rfs at this; rw [if_pos (.inr (.inl h2))] at this; exact this
    go_wp2_with fail
    go_ret
    rw [HW.out]
    exact ⟨rfl, HB1.out.trans (HB2.out.mono HB1.out.size)⟩
  · have HW : Hid (V = 1) := by have := HV.out; unfold rfs at this; rw [if_pos (.inr (.inr HOK.out.symm))] at this; exact this
    go_wp2_with fail
    go_ret
    rw [HW.out]
    exact ⟨rfl, HB1.out.trans (HB2.out.mono HB1.out.size)⟩
  · have HW : Hid (V = refB (decide (0 < A.nan)) (pn == 2) (decide (0 < A.up + A.down)) (pi == 2)) := by
      have := HV.out
      unfold rfs at this
      rw [if_neg (by rintro (h | h | h); omega; omega; rw [← HOK.out] at h; cases h)] at this
      exact this
    obtain ⟨q3, q4, q5, q6, q7, q8⟩ := HC.out w2 HB2.out
    obtain ⟨y0, y1⟩ := HK.out w2 HB2.out
    go_upto_region 4 with fail
    go_region_with (first
      | (go_at_call 275; refine (HF.out _).mono ?_; rintro en w9 ⟨rfl, hb9⟩))
    all_goals
      go_wp2_with fail
      go_ret
      rw [HW.out]
      exact ⟨rfl, HB1.out.trans ((HB2.out.trans ((below_drewN (n := 1) hb9).mono HB2.out.size)).mono HB1.out.size)⟩
theorem refB_zero {A : Ac} {pn pi : Int} (h : refB (decide (0 < A.nan)) (pn == 2) (decide (0 < A.up + A.down)) (pi == 2) = 0) : ¬ (0 < A.nan ∧ pn = 2) ∧ ¬ (0 < A.up + A.down ∧ pi = 2) := by
  rw [refB_eq] at h
  split at h
  · cases h
  · split at h
    · cases h
    · exact ⟨by assumption, by assumption⟩
theorem roundR_ref {A : Ac} {mode pn pi e : Int} (h : refB (decide (0 < A.nan)) (pn == 2) (decide (0 < A.up + A.down)) (pi == 2) = e) (he : e ≠ 0) : RoundR A mode pn pi 0 e := by
  rw [refB_eq] at h
  have hs : specR A mode pn pi = (0, false, e) := by
    unfold specR
    split at h
    · rename_i h1
      rw [if_pos h1, h]
    · rename_i h1
      rw [if_neg h1]
      split at h
      · rename_i h2
        rw [if_pos h2, h]
      · exact absurd h.symm he
  left
  rw [hs]
  exact ⟨.inr he, rfl, rfl⟩
theorem specR_not {A : Ac} {mode pn pi : Int} (h : refB (decide (0 < A.nan)) (pn == 2) (decide (0 < A.up + A.down)) (pi == 2) = 0) : specR A mode pn pi = match verd A pn pi with
  | some x => (x, true, 0)
  | none => if A.T = 0 then (noughtB A mode, true, 0) else (0, false, 0) := by
  obtain ⟨h1, h2⟩ := refB_zero h
  unfold specR
  rw [if_neg h1, if_neg h2]
  cases verd A pn pi <;> rfl
theorem roundR_verd {A : Ac} {mode pn pi : Int} {x : Nat} (h : refB (decide (0 < A.nan)) (pn == 2) (decide (0 < A.up + A.down)) (pi == 2) = 0) (hv : verd A pn pi = some x) : RoundR A mode pn pi x 0 := by
  have hs := specR_not (mode := mode) h
  rw [hv] at hs
  left
  rw [hs]
  exact ⟨.inl rfl, rfl, rfl⟩
theorem roundR_nought {A : Ac} {mode pn pi : Int} (h : refB (decide (0 < A.nan)) (pn == 2) (decide (0 < A.up + A.down)) (pi == 2) = 0) (hv : verd A pn pi = none) (hT : A.T = 0) : RoundR A mode pn pi (noughtB A mode) 0 := by
  have hs := specR_not (mode := mode) h
  rw [hv] at hs
  dsimp only at hs
  rw [if_pos hT] at hs
  left
  rw [hs]
  exact ⟨.inl rfl, rfl, rfl⟩
theorem roundR_val {A : Ac} {mode pn pi : Int} {r : Nat} {er : Int} (h : refB (decide (0 < A.nan)) (pn == 2) (decide (0 < A.up + A.down)) (pi == 2) = 0) (hv : verd A pn pi = none) (hT : A.T ≠ 0) (hr : RoundsTo 52 (-1074) 9218868437227405312 9223372036854775808 mode (exO A.T) r er) : RoundR A mode pn pi r er := by
  have hs := specR_not (mode := mode) h
  rw [hv] at hs
  dsimp only at hs
  rw [if_neg hT] at hs
  right
  rw [hs]
  exact ⟨rfl, rfl, hr⟩
theorem exO_dt {T : Int} {d : D} (hk : ¬ Gt T) (h : DT d T) : exO T = some d := by
  obtain ⟨d', h1, h2⟩ := zO_dy rg_dt (gt_dt hk)
  rw [h2.uniq h] at h1
  exact h1
def RRound7 (A : Ac) (mode pn pi : Int) (w : World) (en : Ending) (w' : World) : Prop := ∃ (r : Nat) (er : Int), en = .returned (.tuple #[.float .f64 r, .int .i64 er]) ∧ (badM mode pn pi ∧ r = 0 ∧ er = 1 ∨ ¬ badM mode pn pi ∧ RoundR A mode pn pi r er) ∧ Below w.heap.size w w'
set_option maxHeartbeats 16000000 in
theorem rround7_any (A : Ac) (mode pn pi : Int) (g : Nat) (w : World) (hA : A.Ok) (hR : RAc w g A) :
    Calls Tryz.prog 108 #[.pointer (some ⟨g, 0, none⟩), .int .i64 mode, pol pn pi] w (RRound7 A mode pn pi w) := by
  have hlt := hR.lt
  obtain ⟨w1, e1⟩ : ∃ W, W = w.alloc (.cells #[.int .i64 pn, .int .i64 pi] 61) := ⟨_, rfl⟩
  obtain ⟨k1, b1, s1⟩ := new_of e1 rfl
  have hR1 := hR.grow b1
  obtain ⟨d, a, c, hrow, hown, hdt⟩ := hR1
  have HK := Lib.hid (fun W (hW : Below w1.heap.size w1 W) => pol_cells (blk_below k1 hW (by omega)))
  have HC := Lib.hid (fun W (hW : Below w1.heap.size w1 W) => rac_cells (blk_below hrow hW (by omega)))
  have HF := Lib.hid (fun W (hW : Below w1.heap.size w1 W) => refused7_any A mode pn pi g W hA (RAc.grow ⟨d, a, c, hrow, hown, hdt⟩ hW))
  have HVd := Lib.hid (fun W (hp : okP pn pi = true) => verdict6_any A pn pi W hA hp)
  have HNo := Lib.hid (fun W => nought6_any A mode W hA)
  have hex := exO_dt hA.v hdt
  have HRo : Hid (∀ W, Below w1.heap.size w1 W → Calls Tryz.prog 178 #[DV d a c, .int .i64 mode] W fun en w' => (∃ (r : Nat) (er : Int), en = .returned (.tuple #[.float .f64 r, .int .i64 er]) ∧ RoundsTo 52 (-1074) 9218868437227405312 9223372036854775808 mode (exO A.T) r er) ∧ Below W.heap.size W w') := by
    intro W hW
    have := rround_any (argOf d a c) mode W ((hown.grow hW).arg hdt.ok)
    rw [argF hdt.is hdt.ok, ← hex] at this
    exact this
  have HB1 := Lib.hid b1
  have E1 := Lib.hid e1
  have hz : (words d.m).length = 0 ↔ A.T = 0 := by rw [len_words_zero]; exact hdt.zeroV
  have HZ := Lib.hid hz
  obtain ⟨y0, y1⟩ := pol_cells k1
  have HBd : Hid (badM mode pn pi ↔ (mode < 0 ∨ 4 < mode ∨ okP pn pi = false)) := Iff.rfl
  obtain ⟨V, hV⟩ : ∃ V, V = rfs A mode pn pi := ⟨_, rfl⟩
  rw [← hV] at HF
  have HV := Lib.hid hV
  obtain ⟨vd, hvd⟩ : ∃ v, v = verd A pn pi := ⟨_, rfl⟩
  rw [← hvd] at HVd
  have HVe := Lib.hid hvd
  obtain ⟨nb, hnb⟩ : ∃ v, v = noughtB A mode := ⟨_, rfl⟩
  rw [← hnb] at HNo
  have HNe := Lib.hid hnb
  unfold pol spcV DV at *
  clear hvd hnb hV e1 k1 b1 s1 hrow hR hA hown hdt hex hz
  go_enter Tryz.func108, Tryz.ntmps108
  go_upto_region 1 with fail
  rw [← E1.out]
  go_wp2_with fail
  refine (HF.out w1 (Below.refl _ _)).mono ?_; rintro en w2 ⟨rfl, hb⟩
  have HB2 := Lib.hid hb
  clear hb y0 y1
  by_cases hV0 : V = 0
  case neg =>
    have hq : (V == 0) = false := by simpa using hV0
    have HW : Hid (badM mode pn pi ∧ (0 : Nat) = 0 ∧ V = 1 ∨ ¬ badM mode pn pi ∧ RoundR A mode pn pi 0 V) := by
      by_cases hbad : badM mode pn pi
      · have := HV.out
        unfold rfs at this
        rw [if_pos (HBd.out.1 hbad)] at this
        exact .inl ⟨hbad, rfl, this⟩
      · have := HV.out
        unfold rfs at this
        rw [if_neg (fun h => hbad (HBd.out.2 h))] at this
        exact .inr ⟨hbad, roundR_ref this.symm hV0⟩
    clear hV0
    go_wp2_with fail
    refine (bofz_any _).mono ?_; rintro en w3 ⟨rfl, rfl⟩
    go_wp2_with fail
    go_ret2
    exact ⟨0, V, rfl, by rcases HW.out with ⟨h1, _, h3⟩ | h1; exact .inl ⟨h1, rfl, h3⟩; exact .inr h1, HB1.out.trans (HB2.out.mono HB1.out.size)⟩
  case pos =>
  have hbad : ¬ badM mode pn pi := by
    intro hbad
    have := HV.out
    unfold rfs at this
    rw [if_pos (HBd.out.1 hbad), hV0] at this
    cases this
  have href : refB (decide (0 < A.nan)) (pn == 2) (decide (0 < A.up + A.down)) (pi == 2) = 0 := by
    have := HV.out
    unfold rfs at this
    rw [if_neg (fun h => hbad (HBd.out.2 h)), hV0] at this
    exact this.symm
  have hok : okP pn pi = true := by
    cases h : okP pn pi
    · exact absurd (HBd.out.2 (.inr (.inr h))) hbad
    · rfl
  have HBad := Lib.hid hbad; have HRef := Lib.hid href; have HOk := Lib.hid hok
  subst hV0
  clear hbad href hok
  obtain ⟨q0, q1, q2, q3, q4, q5, q6, q7, q8⟩ := HC.out w2 HB2.out
  obtain ⟨y0, y1⟩ := HK.out w2 HB2.out
  go_upto_region 4 with fail
  go_region_with (first
    | (go_at_call 221; refine (HVd.out _ HOk.out).mono ?_; rintro en w9 ⟨rfl, hb9⟩))
  all_goals
    have HB9 : Hid (Below w1.heap.size w1 w9) := HB2.out.trans ((below_drewN (n := 1) hb9).mono HB2.out.size)
    clear hb9 q0 q1 q2 q3 q4 q5 q6 q7 q8 y0 y1
    obtain ⟨q0, q1, q2, q3, q4, q5, q6, q7, q8⟩ := HC.out w9 HB9.out
    cases vd
    case some x =>
      go_wp2_with fail
      go_ret2
      exact ⟨x, 0, rfl, .inr ⟨HBad.out, roundR_verd HRef.out HVe.out.symm⟩, HB1.out.trans (HB9.out.mono HB1.out.size)⟩
    case none =>
      by_cases hT : A.T = 0
      · have hl := HZ.out.2 hT
        have e0 : (((words d.m).length : Int) == 0) = true := by rw [hl]; rfl
        have HT0 := Lib.hid hT
        clear hT hl
        go_wp2_with fail
        refine (HNo.out _).mono ?_; rintro en w10 ⟨rfl, hb⟩
        have HB10 := Lib.hid (HB9.out.trans (hb.mono HB9.out.size))
        clear hb
        go_wp2_with fail
        go_ret2
        exact ⟨nb, 0, rfl, .inr ⟨HBad.out, by rw [HNe.out]; exact roundR_nought HRef.out HVe.out.symm HT0.out⟩, HB1.out.trans (HB10.out.mono HB1.out.size)⟩
      · have hl := fun h => hT (HZ.out.1 h)
        have e0 : (((words d.m).length : Int) == 0) = false := by rw [beq_eq_false_iff_ne]; intro h; exact hl (by omega)
        have HT0 := Lib.hid hT
        clear hT hl
        go_wp2_with fail
        refine (HRo.out _ HB9.out).mono ?_; rintro en w10 ⟨⟨r, er, rfl, hr⟩, hb⟩
        have HB10 := Lib.hid (HB9.out.trans (hb.mono HB9.out.size))
        have HRr := Lib.hid hr
        clear hb hr
        go_wp2_with fail
        go_ret2
        exact ⟨r, er, rfl, .inr ⟨HBad.out, roundR_val HRef.out HVe.out.symm HT0.out HRr.out⟩, HB1.out.trans (HB10.out.mono HB1.out.size)⟩

end Go.Proofs.YteahdgbokjbgcaaGreatDoor
