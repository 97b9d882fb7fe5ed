/- Contracts of steelyardref07.OfProduct, Acc.Merge. No statement of the seat is proved here. -/
import Derived.Test.YteahdgbokjbgcaaGreatDoorProg
import Derived.Test.YteahdgbokjbgcaaGreatDoorYKj
namespace Go.Proofs.YteahdgbokjbgcaaGreatDoor
open Go.RowKit
set_option maxRecDepth 10000
set_option linter.unusedVariables false
set_option linter.unusedSimpArgs false

def nB (k : Int) : Bool := k == 1 || k == 2
def eB (k : Int) : Bool := k == 3 || k == 4
theorem nought7_any (k : Int) (w : World) : Calls Tryz.prog 213 #[.int .i64 k] w fun en w' => en = .returned (.bool (nB k)) ∧ w = w' := by
  unfold nB
  rcases Bool.eq_false_or_eq_true (k == 1) with h | h
  all_goals
    rw [h]
    go_enter Tryz.func213, Tryz.ntmps213
    go_wp2_with fail
    go_ret
    exact ⟨by simp, rfl⟩
theorem endless7_any (k : Int) (w : World) : Calls Tryz.prog 214 #[.int .i64 k] w fun en w' => en = .returned (.bool (eB k)) ∧ w = w' := by
  unfold eB
  rcases Bool.eq_false_or_eq_true (k == 3) with h | h
  all_goals
    rw [h]
    go_enter Tryz.func214, Tryz.ntmps214
    go_wp2_with fail
    go_ret
    exact ⟨by simp, rfl⟩
/-- the sign of bits that are no NaN's -/
theorem canon_sign {b : Nat} (hb : b < 18446744073709551616) (h : kindN b ≠ 5) : canon b / 9223372036854775808 = if bigB b = true then 1 else 0 := by
  have h1 : ¬ 9218868437227405312 < b % 9223372036854775808 := fun h2 => h (by unfold kindN; rw [if_pos h2])
  rw [canon_num (by omega)]
  unfold bigB
  by_cases h2 : 9223372036854775808 ≤ b
  · rw [decide_eq_true h2, if_pos rfl]; omega
  · rw [decide_eq_false h2, if_neg (by simp)]; omega
theorem kind_cls (b : Nat) : ((kindN b == 5) = true ∧ nB (kindN b) = false ∧ eB (kindN b) = false) ∨ ((kindN b == 5) = false ∧ nB (kindN b) = true ∧ eB (kindN b) = false) ∨ ((kindN b == 5) = false ∧ nB (kindN b) = false ∧ eB (kindN b) = true) ∨ ((kindN b == 5) = false ∧ nB (kindN b) = false ∧ eB (kindN b) = false) := by
  unfold nB eB
  have h : kindN b = 5 ∨ kindN b = 4 ∨ kindN b = 3 ∨ kindN b = 1 ∨ kindN b = 2 ∨ kindN b = 0 := by have := kindN_bd b; omega
  rcases h with h | h | h | h | h | h <;> rw [h] <;> decide
theorem kindPB_of (k l : Int) (s : Bool) : kindPB k l s = if (k == 5 || l == 5 || ((nB k || nB l) && (eB k || eB l))) = true then 5 else if (eB k || eB l) = true then (if s = true then 4 else 3) else if (nB k || nB l) = true then (if s = true then 1 else 2) else 0 := by
  unfold kindPB nB eB
  simp only [Bool.or_eq_true, Bool.and_eq_true, beq_iff_eq, or_assoc]
def PrQ (b c : Nat) (w : World) (en : Ending) (w' : World) : Prop := ∃ d a q, en = .returned (thV (kindP b c) d a q) ∧ Own w' 118 w.heap.size a q (words d.m) ∧ ThOk (prT b c) (kindP b c) d ∧ Below w.heap.size w w'
theorem prq_special {b c : Nat} {w W : World} {k : Int} (hb : b < 18446744073709551616) (hc : c < 18446744073709551616) (hk : kindP b c = k) (h0 : k ≠ 0) (hB : Below w.heap.size w W) : PrQ b c w (.returned (.agg #[.int .i64 k, .bool false, .slice none 0 0, .int .i64 0])) W := by
  obtain ⟨h1, h2, _⟩ := prT_kT b c hb hc
  refine ⟨D.zero, none, 0, ?_, ?_, ⟨h1, h2, ?_⟩, hB⟩
  · rw [hk]
    show _ = Ending.returned (.agg #[.int .i64 k, .bool false, .slice none (words 0).length 0, .int .i64 0])
    rw [words_zero]; rfl
  · show Own _ _ _ none 0 (words 0)
    rw [words_zero]; exact Own.none _ _ _
  · rw [h2 (by rw [hk]; exact h0)]; exact Dy.zero (by decide)
set_option maxHeartbeats 32000000 in
theorem of7p_any (b c : Nat) (w : World) (hb : b < 18446744073709551616) (hc : c < 18446744073709551616) :
    Calls Tryz.prog 102 #[.float .f64 b, .float .f64 c] w (PrQ b c w) := by
  obtain ⟨w1, e1⟩ : ∃ W, W = w.alloc (.cells #[.int .i64 0, .bool false, .slice none 0 0, .int .i64 0] 127) := ⟨_, rfl⟩
  obtain ⟨k1, b1, s1⟩ := new_of e1 rfl
  have H1 := Lib.hid (of7_any b w1 hb)
  have HSp := Lib.hid (fun W k (hk : kindP b c = k) (h0 : k ≠ 0) (hB : Below w.heap.size w W) => prq_special hb hc hk h0 hB)
  have HK1 := Lib.hid k1
  have HB1 := Lib.hid b1
  have E1 := Lib.hid e1
  have HS1 : Hid (w.heap.size < w1.heap.size) := by show _ < _; omega
  have Hb := Lib.hid hb; have Hc := Lib.hid hc
  have N0 := Lib.hid (fun k W => nought7_any k W)
  have N1 := Lib.hid (fun k W => endless7_any k W)
  have BB := Lib.hid (fun W => bbits_any b W)
  have BC := Lib.hid (fun W => bbits_any c W)
  obtain ⟨cb, hcb⟩ : ∃ x, x = canon b := ⟨_, rfl⟩
  obtain ⟨cc, hcc⟩ : ∃ x, x = canon c := ⟨_, rfl⟩
  rw [← hcb] at BB
  rw [← hcc] at BC
  have HCb := Lib.hid hcb; have HCc := Lib.hid hcc
  clear k1 b1 s1 e1 hb hc hcb hcc
  go_enter Tryz.func102, Tryz.ntmps102
  go_upto_region 1 with fail
  rw [← E1.out]
  go_wp2_with fail
  refine H1.out.mono ?_; rintro en w2 ⟨d1, a1, c1, rfl, ho1, ht1, hB2⟩
  have HB2 := Lib.hid (HB1.out.trans (hB2.mono HB1.out.size))
  have HS2 : Hid (w.heap.size < w2.heap.size) := Nat.lt_of_lt_of_le HS1.out hB2.size
  have HK2 := Lib.hid (blk_below HK1.out hB2 HS1.out)
  have HO1 := Lib.hid (ho1.mono (b := w.heap.size) (Nat.le_of_lt HS1.out))
  have HT1 := Lib.hid ht1
  clear ho1 ht1 hB2 H1 HK1 E1
  obtain ⟨K, hK⟩ : ∃ K, K = kindN b := ⟨_, rfl⟩
  rw [← hK]
  have HKb := Lib.hid hK
  clear hK
  unfold thV
  go_upto_region 2 with fail
  obtain ⟨w3, e3⟩ : ∃ W, W = w2.alloc (.cells #[.int .i64 K, .bool d1.neg, .slice a1 (words d1.m).length c1, .int .i64 d1.exp] 127) := ⟨_, rfl⟩
  obtain ⟨p2, hp2⟩ : ∃ p, p = w2.heap.size := ⟨_, rfl⟩
  rw [← e3, ← hp2]
  obtain ⟨k3, b3, s3⟩ := new_of e3 hp2.symm
  rw [hp2] at b3
  have H3 := Lib.hid (of7_any c w3 Hc.out)
  have HK3 := Lib.hid (And.intro (blk_below HK2.out b3 HS2.out) k3)
  have HB3 := Lib.hid (HB2.out.trans (b3.mono HB2.out.size))
  have HO3 := Lib.hid (HO1.out.grow b3)
  have HS3 : Hid (w.heap.size < p2 ∧ w3.heap.size = p2 + 1) := ⟨by rw [hp2]; exact HS2.out, s3⟩
  clear e3 k3 b3 s3 hp2 HB2 HK2 HO1 HS2
  go_wp2_with fail
  refine H3.out.mono ?_; rintro en w4 ⟨d2, a2, c2, rfl, ho2, ht2, hB4⟩
  have l3 : w.heap.size < w3.heap.size ∧ p2 < w3.heap.size := by have := HS3.out; omega
  have HB4 := Lib.hid (HB3.out.trans (hB4.mono HB3.out.size))
  have HK4 := Lib.hid (And.intro (blk_below HK3.out.1 hB4 l3.1) (blk_below HK3.out.2 hB4 l3.2))
  have HO4 := Lib.hid (HO3.out.grow hB4)
  have HO2 := Lib.hid (ho2.mono (b := w.heap.size) (Nat.le_of_lt l3.1))
  have HT2 := Lib.hid ht2
  have HS4 : Hid (w.heap.size < p2 ∧ p2 < w4.heap.size) := ⟨HS3.out.1, Nat.lt_of_lt_of_le l3.2 hB4.size⟩
  clear ho2 ht2 hB4 H3 l3 HB3 HK3 HO3 HS3
  obtain ⟨L, hL⟩ : ∃ L, L = kindN c := ⟨_, rfl⟩
  rw [← hL]
  have HLb := Lib.hid hL
  clear hL
  unfold thV
  go_upto_region 3 with fail
  obtain ⟨w5, e5⟩ : ∃ W, W = w4.alloc (.cells #[.int .i64 L, .bool d2.neg, .slice a2 (words d2.m).length c2, .int .i64 d2.exp] 127) := ⟨_, rfl⟩
  obtain ⟨p4, hp4⟩ : ∃ p, p = w4.heap.size := ⟨_, rfl⟩
  rw [← e5, ← hp4]
  obtain ⟨k5, b5, s5⟩ := new_of e5 hp4.symm
  rw [hp4] at b5
  have HK5 := Lib.hid (And.intro (blk_below HK4.out.1 b5 (by have := HS4.out; omega)) (And.intro (blk_below HK4.out.2 b5 HS4.out.2) k5))
  have HB5 := Lib.hid (HB4.out.trans (b5.mono HB4.out.size))
  have HO5 := Lib.hid (And.intro (HO4.out.grow b5) (HO2.out.grow b5))
  have HS5 : Hid (w.heap.size < p2 ∧ p2 < p4 ∧ w5.heap.size = p4 + 1) := ⟨HS4.out.1, by rw [hp4]; exact HS4.out.2, s5⟩
  clear e5 k5 b5 s5 hp4 HB4 HK4 HO4 HO2 HS4
  go_wp2_with fail
  refine (BB.out _).mono ?_; rintro en w' ⟨rfl, rfl⟩
  go_wp2_with fail
  refine (BC.out _).mono ?_; rintro en w' ⟨rfl, rfl⟩
  go_upto_region 4 with fail
  obtain ⟨ng, hng⟩ : ∃ ng, ng = ((cb : Int) / 9223372036854775808 != (cc : Int) / 9223372036854775808) := ⟨_, rfl⟩
  rw [← hng]
  have HNg : Hid ((K == 5) = false → (L == 5) = false → (bigB b != bigB c) = ng) := by
    intro h1 h2
    have c1 := canon_sign Hb.out (by rw [← HKb.out]; simpa using h1)
    have c2 := canon_sign Hc.out (by rw [← HLb.out]; simpa using h2)
    rw [← HCb.out] at c1
    rw [← HCc.out] at c2
    rw [hng, show (cb : Int) / 9223372036854775808 = ((cb / 9223372036854775808 : Nat) : Int) by omega, show (cc : Int) / 9223372036854775808 = ((cc / 9223372036854775808 : Nat) : Int) by omega, c1, c2]
    cases bigB b <;> cases bigB c <;> rfl
  have HKP : Hid (kindP b c = if (K == 5 || L == 5 || ((nB K || nB L) && (eB K || eB L))) = true then 5 else if (eB K || eB L) = true then (if (bigB b != bigB c) = true then 4 else 3) else if (nB K || nB L) = true then (if (bigB b != bigB c) = true then 1 else 2) else 0) := by
    show kindP b c = _
    unfold kindP
    rw [kindPB_of, ← HKb.out, ← HLb.out]
  have hcl1 := kind_cls b
  rw [← HKb.out] at hcl1
  have hcl2 := kind_cls c
  rw [← HLb.out] at hcl2
  have HMl := Lib.hid (fun (h : kindP b c = 0) => mul_num Hb.out Hc.out h HT1.out.dt HT2.out.dt)
  have HPk := Lib.hid (prT_kT b c Hb.out Hc.out)
  clear hng HCb HCc BB BC
  obtain ⟨q0, q1, q2, q3⟩ := th4_cells HK5.out.1
  obtain ⟨r0, r1, r2, r3⟩ := th4_cells HK5.out.2.1
  obtain ⟨s0, s1, s2, s3⟩ := th4_cells HK5.out.2.2
  have f0 := frozen_of_row w5 w.heap.size 0 _ _ HK5.out.1
  have f1 := frozen_of_row w5 w.heap.size 1 _ _ HK5.out.1
  have f2 := frozen_of_row w5 w.heap.size 2 _ _ HK5.out.1
  have f3 := frozen_of_row w5 w.heap.size 3 _ _ HK5.out.1
  rcases hcl1 with ⟨x1, x2, x3⟩ | ⟨x1, x2, x3⟩ | ⟨x1, x2, x3⟩ | ⟨x1, x2, x3⟩ <;> rcases hcl2 with ⟨y1, y2, y3⟩ | ⟨y1, y2, y3⟩ | ⟨y1, y2, y3⟩ | ⟨y1, y2, y3⟩
  case inr.inr.inr.inr.inr.inr =>
    have hk0 : kindP b c = 0 := by rw [HKP.out, x1, x2, x3, y1, y2, y3]; rfl
    obtain ⟨d, hd, hdt⟩ := HMl.out hk0
    have HDt := Lib.hid hdt
    have HMu := Lib.hid (fun W (hW : Below w5.heap.size w5 W) => qMul HT1.out.dt.is HT1.out.dt.ok HT2.out.dt.is HT2.out.dt.ok hd a1 a2 c1 c2 W ((HO5.out.1.grow hW).arg HT1.out.dt.ok) ((HO5.out.2.grow hW).arg HT2.out.dt.ok))
    have HK0 := Lib.hid hk0
    unfold DV at HMu
    clear hd hdt hk0
    go_upto_region 16 with (first
      | (go_at_call 213; (with_reducible refine (N0.out _ _).mono ?_); rintro en w' ⟨rfl, rfl⟩)
      | (go_at_call 214; (with_reducible refine (N1.out _ _).mono ?_); rintro en w' ⟨rfl, rfl⟩))
    clear f0 f1 f2 f3 q0 q1 q2 q3
    go_wp2_with fail
    refine (HMu.out _ (Below.refl _ _)).mono ?_; rintro en w6 ⟨a6, c6, rfl, ho6, hb6⟩
    have HO6 := Lib.hid ho6; have HB6 := Lib.hid hb6
    clear ho6 hb6 r0 r1 r2 r3 s0 s1 s2 s3
    simp only [DV]
    go_upto_region 17 with fail
    obtain ⟨w7, e7⟩ : ∃ W, W = w6.alloc (.cells #[.bool d.neg, .slice a6 (words d.m).length c6, .int .i64 d.exp] 46) := ⟨_, rfl⟩
    obtain ⟨p7, hp7⟩ : ∃ p, p = w6.heap.size := ⟨_, rfl⟩
    rw [← e7, ← hp7]
    obtain ⟨K7, b7, s7⟩ := new_cel e7 hp7.symm
    rw [hp7] at b7
    have HB7 := Lib.hid (HB6.out.trans (b7.mono HB6.out.size))
    have HO7 := Lib.hid (HO6.out.grow b7)
    have k7 := blk_below HK5.out.1 HB7.out (by have := HS5.out; omega)
    obtain ⟨q0, q1, q2, q3⟩ := th4_cells k7
    have f0 := frozen_of_row w7 w.heap.size 0 _ _ k7
    have f1 := frozen_of_row w7 w.heap.size 1 _ _ k7
    have f2 := frozen_of_row w7 w.heap.size 2 _ _ k7
    have f3 := frozen_of_row w7 w.heap.size 3 _ _ k7
    obtain ⟨_, _, _, _, _, _⟩ := K7.facts
    have HLt : Hid (w.heap.size < w5.heap.size) := by have := HS5.out; show _ < _; omega
    clear e7 hp7 K7 b7 s7 k7
    go_wp2_with fail
    refine bodyPost_ret (v := thV 0 d a6 c6) (by simp [results, Tryz.results102, go_sem, thV, q0, q1, q2, q3]) rfl ?_
    refine ⟨d, a6, c6, by rw [HK0.out], ?_, ⟨HPk.out.1, HPk.out.2.1, HDt.out⟩, ?_⟩
    · exact ((((HO7.out.set ⟨_, 0, none⟩ _ HLt.out).set ⟨_, 1, none⟩ _ HLt.out).set ⟨_, 2, none⟩ _ HLt.out).set ⟨_, 3, none⟩ _ HLt.out).mono (Nat.le_of_lt HLt.out)
    · have hz := HB5.out.trans (HB7.out.mono HB5.out.size)
      repeat (first | exact hz | refine Below.setCell ?_ (by exact Nat.le_refl _) _)
  all_goals
    cases ng
    all_goals
      go_wp2_with (first
        | (go_at_call 213; (with_reducible refine (N0.out _ _).mono ?_); rintro en w' ⟨rfl, rfl⟩)
        | (go_at_call 214; (with_reducible refine (N1.out _ _).mono ?_); rintro en w' ⟨rfl, rfl⟩))
      have hk := HKP.out
      rw [x1, x2, x3, y1, y2, y3] at hk
      try rw [HNg.out x1 y1] at hk
      simp at hk
      refine bodyPost_ret (v := .agg #[.int .i64 (kindP b c), .bool false, .slice none 0 0, .int .i64 0]) (by rw [hk]; simp [results, Tryz.results102, go_sem, q0, q1, q2, q3]) rfl (HSp.out _ _ rfl (by rw [hk]; decide) ?_)
      repeat (first | exact HB5.out | refine Below.setCell ?_ (by exact Nat.le_refl _) _)
end Go.Proofs.YteahdgbokjbgcaaGreatDoor
