/- Contracts of steelyardref06.Refused, Verdict, Nought for the counts of an accumulator. No statement of the seat is proved here. -/
import Derived.Test.YthdbapibbdkclaaGreatDoorProg
import Derived.Test.YthdbapibbdkclaaGreatDoorGg
namespace Go.Proofs.YthdbapibbdkclaaGreatDoor
open Go.RowKit
set_option maxRecDepth 10000
set_option linter.unusedVariables false
set_option linter.unusedSimpArgs false

def refB (n z s i : Bool) : Int := if n && z then 60 else if s && i then 61 else 0
theorem refB_eq (A : Ac) (pn pi : Int) : refB (decide (0 < A.nan)) (pn == 2) (decide (0 < A.up + A.down)) (pi == 2) = if 0 < A.nan ∧ pn = 2 then 60 else if 0 < A.up + A.down ∧ pi = 2 then 61 else 0 := by
  unfold refB
  simp only [Bool.and_eq_true, decide_eq_true_eq, beq_iff_eq]
set_option maxHeartbeats 4000000 in
theorem refused6_any (A : Ac) (pn pi : Int) (w : World) (hA : A.Ok) : Calls Tryz.prog 209 #[spcV A, pol pn pi] w fun en w' => en = .returned (.int .i64 (refB (decide (0 < A.nan)) (pn == 2) (decide (0 < A.up + A.down)) (pi == 2))) ∧ Below w.heap.size w w' := by
  obtain ⟨_, k2, k3, k4, k5, k6, k7, k8⟩ := hA
  obtain ⟨w1, e1⟩ : ∃ W, W = w.alloc (.cells #[.int .i64 A.nan, .int .i64 A.up, .int .i64 A.down, .int .i64 A.minus, .int .i64 A.plus, .int .i64 A.all] 71) := ⟨_, rfl⟩
  obtain ⟨b1, hB1, s1⟩ := new_of e1 rfl
  obtain ⟨w2, e2⟩ : ∃ W, W = w1.alloc (.cells #[.int .i64 pn, .int .i64 pi] 51) := ⟨_, rfl⟩
  obtain ⟨b2, hB2, s2⟩ := new_of e2 s1
  replace b1 := blk_below b1 hB2 (by omega)
  replace hB1 := hB1.trans (hB2.mono (by omega))
  obtain ⟨x0, x1, x2, x3, x4, x5⟩ := spc_cells b1
  obtain ⟨y0, y1⟩ := pol_cells b2
  have HB := Lib.hid hB1
  have E1 := Lib.hid e1; have E2 := Lib.hid e2
  have S1 := Lib.hid s1
  clear e1 e2 b1 b2 hB1 hB2 s2 s1
  unfold spcV pol
  rcases Bool.eq_false_or_eq_true (decide (0 < A.nan)) with u1 | u1 <;> rcases Bool.eq_false_or_eq_true (pn == 2) with u2 | u2 <;>
    rcases Bool.eq_false_or_eq_true (decide (0 < A.up + A.down)) with u3 | u3 <;> rcases Bool.eq_false_or_eq_true (pi == 2) with u4 | u4
  all_goals
    rw [u1, u2, u3, u4]
    go_enter Tryz.func209, Tryz.ntmps209
    go_upto_region 1 with fail
    rw [← E1.out, ← E2.out]
    go_wp2_with fail
    go_ret
    exact ⟨rfl, HB.out⟩

def verB (n z i u d : Bool) : Option Nat := if n && z then some nan64 else if i then (if u && d then some nan64 else if u then some inf64 else if d then some ninf64 else none) else none
theorem verB_eq (A : Ac) (pn pi : Int) : verB (decide (0 < A.nan)) (pn == 0) (pi == 0) (decide (0 < A.up)) (decide (0 < A.down)) = verd A pn pi := by
  unfold verB verd
  simp only [Bool.and_eq_true, decide_eq_true_eq, beq_iff_eq]
set_option maxHeartbeats 16000000 in
theorem verdict6_any (A : Ac) (pn pi : Int) (w : World) (hA : A.Ok) (hp : okP pn pi = true) : Calls Tryz.prog 138 #[spcV A, pol pn pi] w fun en w' => en = .returned (.tuple #[.float .f64 ((verd A pn pi).getD 0), .bool (verd A pn pi).isSome]) ∧ Below w.heap.size w w' := by
  have hM := fun W => maybe6_any A W hA
  have hY := fun W => may6_any pn pi W
  rw [hp] at hY
  obtain ⟨_, k2, k3, k4, k5, k6, k7, k8⟩ := hA
  obtain ⟨w1, e1⟩ : ∃ W, W = w.alloc (.cells #[.int .i64 A.nan, .int .i64 A.up, .int .i64 A.down, .int .i64 A.minus, .int .i64 A.plus, .int .i64 A.all] 71) := ⟨_, rfl⟩
  obtain ⟨b1, hB1, s1⟩ := new_of e1 rfl
  obtain ⟨w2, e2⟩ : ∃ W, W = w1.alloc (.cells #[.int .i64 pn, .int .i64 pi] 51) := ⟨_, rfl⟩
  obtain ⟨b2, hB2, s2⟩ := new_of e2 s1
  replace b1 := blk_below b1 hB2 (by omega)
  replace hB1 := hB1.trans (hB2.mono (by omega))
  have HC := Lib.hid (fun W (hw : Below w2.heap.size w2 W) => And.intro (spc_cells (blk_below b1 hw (by omega))) (pol_cells (blk_below b2 hw (by omega))))
  have HB := Lib.hid (fun W (hw : Below w2.heap.size w2 W) => hB1.trans (hw.mono (by omega)))
  obtain ⟨x0, x1, x2, x3, x4, x5⟩ := spc_cells b1
  obtain ⟨y0, y1⟩ := pol_cells b2
  have E1 := Lib.hid e1; have E2 := Lib.hid e2
  have S1 := Lib.hid s1
  obtain ⟨V, hV⟩ : ∃ V, V = verd A pn pi := ⟨_, rfl⟩
  rw [← hV]
  rw [← verB_eq] at hV
  have HV := Lib.hid hV
  unfold spcV pol at *
  have HM := Lib.hid hM; have HY := Lib.hid hY
  clear e1 e2 b1 b2 hB1 hB2 s1 s2 hM hY hp hV
  go_enter Tryz.func138, Tryz.ntmps138
  go_upto_region 1 with fail
  rw [← E1.out, ← E2.out]
  go_wp2_with fail
  refine (HM.out w2).mono ?_; rintro en w3 ⟨rfl, hb⟩
  have HB3 := Lib.hid hb
  clear x0 x1 x2 x3 x4 x5 y0 y1 hb
  obtain ⟨⟨x0, x1, x2, x3, x4, x5⟩, y0, y1⟩ := HC.out w3 HB3.out
  go_wp2_with fail
  refine (HY.out w3).mono ?_; rintro en w4 ⟨rfl, hb⟩
  have HB4 := Lib.hid (HB3.out.trans (hb.mono HB3.out.size))
  clear x0 x1 x2 x3 x4 x5 y0 y1 hb
  obtain ⟨⟨x0, x1, x2, x3, x4, x5⟩, y0, y1⟩ := HC.out w4 HB4.out
  rcases Bool.eq_false_or_eq_true (decide (0 < A.nan)) with u1 | u1 <;> rcases Bool.eq_false_or_eq_true (pn == 0) with u2 | u2 <;> rcases Bool.eq_false_or_eq_true (pi == 0) with u3 | u3 <;>
    rcases Bool.eq_false_or_eq_true (decide (0 < A.up)) with u4 | u4 <;> rcases Bool.eq_false_or_eq_true (decide (0 < A.down)) with u5 | u5
  all_goals
    have hv := HV.out
    rw [u1, u2, u3, u4, u5] at hv
    have HW := Lib.hid hv
    clear hv
    go_wp2_with (first
      | (go_at_call 211; refine (nan6_any _).mono ?_; rintro en w' ⟨rfl, rfl⟩)
      | (go_at_call 212; refine (inf6_any _ _).mono ?_; rintro en w' ⟨rfl, rfl⟩))
    go_ret2
    rw [HW.out]
    exact ⟨rfl, HB.out w4 HB4.out⟩

theorem noughtB_eq {A : Ac} (hA : A.Ok) (mode : Int) : noughtB A mode = if A.all - A.nan - A.up - A.down = 0 then 0 else if A.minus = A.all - A.nan - A.up - A.down then nzero64 else if A.plus = A.all - A.nan - A.up - A.down then 0 else if mode = 3 then nzero64 else 0 := by
  obtain ⟨_, k2, k3, k4, k5, k6, k7, k8⟩ := hA
  unfold noughtB
  by_cases h1 : A.all - A.nan - A.up - A.down = 0
  · rw [if_pos h1, if_neg (by omega)]
  · rw [if_neg h1]
    by_cases h2 : A.minus = A.all - A.nan - A.up - A.down
    · rw [if_pos h2, if_pos ⟨by omega, .inl h2⟩]
    · rw [if_neg h2]
      by_cases h3 : A.plus = A.all - A.nan - A.up - A.down
      · rw [if_pos h3, if_neg (by omega)]
      · rw [if_neg h3]
        by_cases h4 : mode = 3
        · rw [if_pos h4, if_pos ⟨by omega, .inr ⟨by omega, h4⟩⟩]
        · rw [if_neg h4, if_neg (by omega)]
set_option maxHeartbeats 16000000 in
theorem nought6_any (A : Ac) (mode : Int) (w : World) (hA : A.Ok) : Calls Tryz.prog 139 #[spcV A, .int .i64 mode] w fun en w' => en = .returned (.float .f64 (noughtB A mode)) ∧ Below w.heap.size w w' := by
  have hM := fun W => maybe6_any A W hA
  obtain ⟨R, hR⟩ : ∃ R, R = noughtB A mode := ⟨_, rfl⟩
  rw [← hR]
  rw [noughtB_eq hA] at hR
  obtain ⟨_, k2, k3, k4, k5, k6, k7, k8⟩ := hA
  obtain ⟨w1, e1⟩ : ∃ W, W = w.alloc (.cells #[.int .i64 A.nan, .int .i64 A.up, .int .i64 A.down, .int .i64 A.minus, .int .i64 A.plus, .int .i64 A.all] 71) := ⟨_, rfl⟩
  obtain ⟨b1, hB1, s1⟩ := new_of e1 rfl
  have HC := Lib.hid (fun W (hw : Below w1.heap.size w1 W) => spc_cells (blk_below b1 hw (by omega)))
  have HB := Lib.hid (fun W (hw : Below w1.heap.size w1 W) => hB1.trans (hw.mono (by omega)))
  obtain ⟨x0, x1, x2, x3, x4, x5⟩ := spc_cells b1
  have E1 := Lib.hid e1
  unfold spcV at *
  have HM := Lib.hid hM
  clear e1 b1 hB1 s1 hM
  obtain ⟨f, hf⟩ : ∃ f, f = A.all - A.nan - A.up - A.down := ⟨_, rfl⟩
  have hw : IntKind.i64.wrap f = f := by rw [IntKind.wrap_i64]; omega
  rw [← hf] at hR
  have HR := Lib.hid hR
  clear hR
  go_enter Tryz.func139, Tryz.ntmps139
  go_wp2_with fail
  rw [← E1.out]
  refine (HM.out w1).mono ?_; rintro en w3 ⟨rfl, hb⟩
  have HB3 := Lib.hid hb
  clear x0 x1 x2 x3 x4 x5 hb
  obtain ⟨x0, x1, x2, x3, x4, x5⟩ := HC.out w3 HB3.out
  by_cases h1 : f = 0
  · have u1 : (A.all - A.nan - A.up - A.down == 0) = true := by rw [← hf]; simpa using h1
    have HW : Hid (R = 0) := by have := HR.out; rw [if_pos h1] at this; exact this
    clear hf h1 hw
    go_wp2_with fail
    refine (zero6_any _ _).mono ?_; rintro en w' ⟨rfl, rfl⟩
    go_wp2_with fail
    go_ret
    rw [HW.out]
    exact ⟨rfl, HB.out w3 HB3.out⟩
  have HR2 : Hid (R = if A.minus = f then nzero64 else if A.plus = f then 0 else if mode = 3 then nzero64 else 0) := by have := HR.out; rw [if_neg h1] at this; exact this
  have u1 : (A.all - A.nan - A.up - A.down == 0) = false := by rw [← hf]; simpa using h1
  by_cases h2 : A.minus = f
  · have u2 : (A.minus == A.all - A.nan - A.up - A.down) = true := by rw [← hf]; simpa using h2
    have HW : Hid (R = nzero64) := by have := HR2.out; rw [if_pos h2] at this; exact this
    clear hf h1 h2 hw
    go_wp2_with fail
    refine (zero6_any _ _).mono ?_; rintro en w' ⟨rfl, rfl⟩
    go_wp2_with fail
    go_ret
    rw [HW.out]
    exact ⟨rfl, HB.out w3 HB3.out⟩
  have HR3 : Hid (R = if A.plus = f then 0 else if mode = 3 then nzero64 else 0) := by have := HR2.out; rw [if_neg h2] at this; exact this
  have u2 : (A.minus == A.all - A.nan - A.up - A.down) = false := by rw [← hf]; simpa using h2
  by_cases h3 : A.plus = f
  · have u3 : (A.plus == A.all - A.nan - A.up - A.down) = true := by rw [← hf]; simpa using h3
    have HW : Hid (R = 0) := by have := HR3.out; rw [if_pos h3] at this; exact this
    clear hf h1 h2 h3 hw
    go_wp2_with fail
    refine (zero6_any _ _).mono ?_; rintro en w' ⟨rfl, rfl⟩
    go_wp2_with fail
    go_ret
    rw [HW.out]
    exact ⟨rfl, HB.out w3 HB3.out⟩
  have HR4 : Hid (R = if mode = 3 then nzero64 else 0) := by have := HR3.out; rw [if_neg h3] at this; exact this
  have u3 : (A.plus == A.all - A.nan - A.up - A.down) = false := by rw [← hf]; simpa using h3
  clear hf h1 h2 h3 hw
  rcases Bool.eq_false_or_eq_true (mode == 3) with u4 | u4
  · have HW : Hid (R = nzero64) := by have := HR4.out; rw [if_pos (by simpa using u4)] at this; exact this
    go_wp2_with fail
    refine (zero6_any _ _).mono ?_; rintro en w' ⟨rfl, rfl⟩
    go_wp2_with fail
    go_ret
    rw [HW.out]
    exact ⟨rfl, HB.out w3 HB3.out⟩
  · have HW : Hid (R = 0) := by have := HR4.out; rw [if_neg (by simpa using u4)] at this; exact this
    go_wp2_with fail
    refine (zero6_any _ _).mono ?_; rintro en w' ⟨rfl, rfl⟩
    go_wp2_with fail
    go_ret
    rw [HW.out]
    exact ⟨rfl, HB.out w3 HB3.out⟩
end Go.Proofs.YthdbapibbdkclaaGreatDoor
