/- Contracts of steelyardref07: great, counted, Of; the document's accumulator in memory. No statement of the seat is proved here. -/
import Derived.Test.YthdbapibbdkclaaGreatDoorProg
import Derived.Test.YthdbapibbdkclaaGreatDoorGh
import Derived.Test.YthdbapibbdkclaaGreatDoorHa
import Derived.Test.YthdbapibbdkclaaGreatDoorFj
namespace Go.Proofs.YthdbapibbdkclaaGreatDoor
open Go.RowKit
set_option maxRecDepth 10000
set_option linter.unusedVariables false
set_option linter.unusedSimpArgs false

/-- a thing of a kind of the document's -/
def kT (k T : Int) : Ac :=
  if k = 5 then ⟨0, 1, 0, 0, 0, 0, 1⟩ else if k = 3 then ⟨0, 0, 1, 0, 0, 0, 1⟩ else if k = 4 then ⟨0, 0, 0, 1, 0, 0, 1⟩ else if k = 1 then ⟨0, 0, 0, 0, 1, 0, 1⟩ else if k = 2 then ⟨0, 0, 0, 0, 0, 1, 1⟩ else ⟨T, 0, 0, 0, 0, 0, 1⟩
theorem kindN_bd (b : Nat) : 0 ≤ kindN b ∧ kindN b ≤ 5 := by
  unfold kindN; split; · decide
  split; · split <;> decide
  split; · split <;> decide
  decide
theorem numT_kT (b : Nat) (hb : b < 18446744073709551616) : numT b = kT (kindN b) (numT b).T ∧ (kindN b ≠ 0 → (numT b).T = 0) ∧ (kindN b = 0 → b % 9223372036854775808 < 9218868437227405312) := by
  have hs : (b / 9223372036854775808 % 2 == 1) = decide (9223372036854775808 ≤ b) := by
    by_cases h1 : 9223372036854775808 ≤ b
    · rw [decide_eq_true h1, show b / 9223372036854775808 % 2 = 1 by omega]; rfl
    · rw [decide_eq_false h1, show b / 9223372036854775808 % 2 = 0 by omega]; rfl
  have hx : b % 9223372036854775808 = (b / 4503599627370496 % 2048) * 4503599627370496 + b % 4503599627370496 := by omega
  have hx2 : b / 4503599627370496 % 2048 ≤ 2047 := by omega
  have hf : b % 4503599627370496 < 4503599627370496 := by omega
  unfold numT ptOf kindN
  rw [hs, hx]
  generalize b / 4503599627370496 % 2048 = ex at *
  generalize b % 4503599627370496 = fr at *
  by_cases h9 : 9223372036854775808 ≤ b
  all_goals
    first | rw [decide_eq_true h9] | rw [decide_eq_false h9]
    by_cases h1 : ex = 2047
    · subst h1
      by_cases h2 : fr = 0
      · subst h2; simp [h9, mkT, kT]
      · rw [if_pos rfl, if_pos (show fr ≠ 0 from h2), if_pos (show 9218868437227405312 < 2047 * 4503599627370496 + fr by omega)]
        simp [mkT, kT]
    · rw [if_neg h1, if_neg (show ¬ 9218868437227405312 < ex * 4503599627370496 + fr by omega), if_neg (show ¬ ex * 4503599627370496 + fr = 9218868437227405312 by omega)]
      by_cases h3 : 0 < ex
      · rw [if_pos h3, if_neg (show ¬ ex * 4503599627370496 + fr = 0 by omega)]
        refine ⟨rfl, fun h => absurd rfl h, fun _ => by omega⟩
      · obtain rfl : ex = 0 := by omega
        rw [if_neg h3]
        by_cases h4 : 0 < fr
        · rw [if_pos h4, if_neg (show ¬ 0 * 4503599627370496 + fr = 0 by omega)]
          refine ⟨rfl, fun h => absurd rfl h, fun _ => by omega⟩
        · obtain rfl : fr = 0 := by omega
          simp [h9, mkT, kT]
/-- a Dyad that stands for what a thing, an accumulator comes to -/
abbrev DT (d : D) (T : Int) : Prop := Dy (-2148) 133 d T
theorem rg_dt : Rg (-2148) 133 := ⟨by decide, by decide, by decide⟩
theorem gt_dt {T : Int} (h : ¬ Gt T) : T.natAbs < 2 ^ (32 * 133) := by
  obtain ⟨k, hk⟩ : ∃ k, k = 32 * 133 := ⟨_, rfl⟩
  rw [← hk]
  exact gt_nat h (by omega)
theorem mx_lt {T : Int} (h1 : -Mx ≤ T) (h2 : T ≤ Mx) : T.natAbs < 2 ^ (32 * 133) := by
  obtain ⟨k, hk⟩ : ∃ k, k = 32 * 133 := ⟨_, rfl⟩
  rw [← hk]
  have h3 : mxE < k := by unfold mxE; omega
  have h4 : 2 ^ mxE < 2 ^ k := Nat.pow_lt_pow_right (by decide) h3
  rw [mx_eq] at h1 h2
  omega
/-- the value of a finite number as an accumulator counts it -/
theorem dt_num {b : Nat} (hb : b < 18446744073709551616) (h : kindN b = 0) : ∃ d, ofF b = some d ∧ DT d (numT b).T := by
  obtain ⟨j, hj⟩ : ∃ j, j = 66 := ⟨_, rfl⟩
  have hf := (numT_kT b hb).2.2 h
  obtain ⟨d, h1, h2⟩ := Dy.of hf hj
  have h3 := h2.ex
  refine ⟨d, h1, h2.is, h2.ok, by omega, ?_, mx_lt (numT_bd b).1 (numT_bd b).2⟩
  obtain ⟨k, hk⟩ : ∃ k, k = 1074 := ⟨_, rfl⟩
  have h4 := z_down h3 k
  rw [h2.val] at h4
  rw [show (-2148 : Int) = -1074 - (k : Int) by omega, h4, (numT_fV hb hf).1, PZ_eq hk]
theorem gt_abs (T : Int) {k : Nat} (hk : k = 4238) : Gt T ↔ 2 ^ k ≤ T.natAbs := by
  unfold Gt
  obtain ⟨b, hb⟩ : ∃ b : Nat, b = 4196 := ⟨_, rfl⟩
  have e := mx_gen (a := 66) (b := b) (by omega)
  have h2 := pow_m42 b
  rw [show b + 42 = k by omega] at h2
  rw [e, ← h2]
  generalize (2 : Nat) ^ b = M at *
  omega
theorem bitLen_ge {n k : Nat} (h : 2 ^ k ≤ n) : k < bitLen n := by
  rcases Nat.lt_or_ge k (bitLen n) with h1 | h1
  · exact h1
  · have h2 := (bitLen_spec n).1
    have h3 : 2 ^ bitLen n ≤ 2 ^ k := Nat.pow_le_pow_right (by decide) h1
    omega
theorem great_bits {d : D} {T : Int} (h : DT d T) : decide ((2090 : Int) < (bitLen d.m : Int) + d.exp) = decide (Gt T) := by
  obtain ⟨k, hk⟩ : ∃ k : Nat, k = 4238 := ⟨_, rfl⟩
  refine decide_eq_decide.2 ?_
  rw [gt_abs T hk]
  have h1 := z_abs h.ex
  rw [h.val] at h1
  have hx := h.ex
  by_cases h0 : d.m = 0
  · have hz : d = D.zero := by
      rcases h.is with h2 | h2
      · exact h2
      · rw [h0] at h2; cases h2
    rw [h0, Nat.zero_mul] at h1
    rw [hz, ← h1]
    have := Nat.two_pow_pos k
    constructor
    · intro h; exact absurd h (by decide)
    · intro h; omega
  · rw [← h1]
    obtain ⟨q, hq⟩ : ∃ q : Nat, (d.exp - -2148).toNat = q := ⟨_, rfl⟩
    rw [hq]
    constructor
    · intro h2
      obtain ⟨j, hj⟩ : ∃ j, bitLen d.m = j + 1 := ⟨bitLen d.m - 1, by
        have : bitLen d.m ≠ 0 := by
          intro h3
          have := (bitLen_spec d.m).1
          rw [h3, Nat.pow_zero] at this; omega
        omega⟩
      have h3 : 2 ^ j ≤ d.m := by
        rcases Nat.lt_or_ge d.m (2 ^ j) with h4 | h4
        · have := bitLen_lt h4; omega
        · exact h4
      have h5 : 2 ^ j * 2 ^ q ≤ d.m * 2 ^ q := Nat.mul_le_mul_right _ h3
      rw [← Nat.pow_add] at h5
      exact Nat.le_trans (Nat.pow_le_pow_right (by decide) (by omega)) h5
    · intro h2
      rcases Int.lt_or_le 2090 ((bitLen d.m : Int) + d.exp) with h3 | h3
      · exact h3
      · have h4 := (bitLen_spec d.m).1
        have h5 : d.m * 2 ^ q < 2 ^ bitLen d.m * 2 ^ q := (Nat.mul_lt_mul_right (Nat.two_pow_pos _)).2 h4
        rw [← Nat.pow_add] at h5
        have h6 : 2 ^ (bitLen d.m + q) ≤ 2 ^ k := Nat.pow_le_pow_right (by decide) (by omega)
        omega
set_option maxHeartbeats 4000000 in
theorem great7_any {d : D} {T : Int} (h : DT d T) (a : Option Addr) (c : Nat) (w : World) (h1 : (argOf d a c).Ok w) : Calls Tryz.prog 149 #[DV d a c] w fun en w' => en = .returned (.bool (decide (Gt T))) ∧ Below w.heap.size w w' := by
  have hl := h.ok
  have hg := great_bits h
  obtain ⟨w1, e1⟩ : ∃ W, W = w.alloc (.cells #[.bool d.neg, .slice a (words d.m).length c, .int .i64 d.exp] 46) := ⟨_, rfl⟩
  obtain ⟨k1, hB1, s1⟩ := new_cel e1 rfl
  have HLn : Hid (∀ W, Below w.heap.size w W → Calls Tryz.prog 193 #[.slice a (words d.m).length c] W fun en w' => en = .returned (.int .i64 (bitLen d.m)) ∧ W = w') := by
    intro W hW
    have := rlen_any a c (words d.m) W (by have := h1.len; have e : (argOf d a c).l = words d.m := rfl; rw [e] at this; omega) (W32_words _) (h1.sl.grow hW).rd
    rw [num_words] at this
    exact this
  have hx : -2148 ≤ d.exp ∧ d.exp ≤ 1048576 ∧ bitLen d.m ≤ 1000000 := by
    refine ⟨h.ex, ?_, ?_⟩
    · obtain ⟨_, o2, o3⟩ := h.ok; omega
    · have := bitLen_lt h.msz; omega
  obtain ⟨hx1, hx2, hx3⟩ := hx
  obtain ⟨L, hL⟩ : ∃ L, L = bitLen d.m := ⟨_, rfl⟩
  rw [← hL] at HLn hg hx3
  have hw : IntKind.i64.wrap ((L : Int) + d.exp) = (L : Int) + d.exp := by rw [IntKind.wrap_i64]; omega
  obtain ⟨_, _, _, _, _, _⟩ := k1.facts
  have HB := Lib.hid hB1
  have HG := Lib.hid hg
  have E1 := Lib.hid e1
  have HK := Lib.hid k1
  unfold DV
  clear e1 hL hg h h1 hl k1 hB1 s1
  go_enter Tryz.func149, Tryz.ntmps149
  go_wp2_with fail
  rw [← E1.out]
  go_region_held3 (fun W => W.cell? ⟨w.heap.size, 1, none⟩ = some (.slice a (words d.m).length c) ∧ W.cell? ⟨w.heap.size, 2, none⟩ = some (.int .i64 d.exp)) (go_keep) (first
    | (go_at_call 193; refine (HLn.out _ (below_drewN' HB.out)).mono ?_; rintro en w5 ⟨rfl, rfl⟩))
  all_goals
    go_wp2_with fail
    go_ret
    exact ⟨by rw [← HG.out]; rfl, below_drewN' HB.out⟩

/-- counts, with n more of a kind -/
def cnt7 (A : Ac) (k n : Int) : Ac :=
  if k = 5 then { A with all := A.all + n, nan := A.nan + n } else if k = 3 then { A with all := A.all + n, up := A.up + n } else if k = 4 then { A with all := A.all + n, down := A.down + n } else if k = 1 then { A with all := A.all + n, minus := A.minus + n } else if k = 2 then { A with all := A.all + n, plus := A.plus + n } else { A with all := A.all + n }
set_option maxHeartbeats 16000000 in
theorem counted7_any (A : Ac) (k n : Int) (w : World) (hA : A.Ok) (hn : n = 1 ∨ n = -1) : Calls Tryz.prog 150 #[spcV A, .int .i64 k, .int .i64 n] w fun en w' => en = .returned (spcV (cnt7 A k n)) ∧ Below w.heap.size w w' := by
  obtain ⟨_, k2, k3, k4, k5, k6, k7, k8⟩ := hA
  have w1 : IntKind.i64.wrap (A.all + n) = A.all + n := by rw [IntKind.wrap_i64]; omega
  have w2 : IntKind.i64.wrap (A.nan + n) = A.nan + n := by rw [IntKind.wrap_i64]; omega
  have w3 : IntKind.i64.wrap (A.up + n) = A.up + n := by rw [IntKind.wrap_i64]; omega
  have w4 : IntKind.i64.wrap (A.down + n) = A.down + n := by rw [IntKind.wrap_i64]; omega
  have w5 : IntKind.i64.wrap (A.minus + n) = A.minus + n := by rw [IntKind.wrap_i64]; omega
  have w6 : IntKind.i64.wrap (A.plus + n) = A.plus + n := by rw [IntKind.wrap_i64]; omega
  have hBl : Hid (∀ W : World, Below w.heap.size w W → ∀ (i j : Nat) (u v : Value), Below w.heap.size w ((W.setCell ⟨w.heap.size, i, none⟩ u).setCell ⟨w.heap.size, j, none⟩ v)) := fun W hW i j u v => (hW.setCell (p := ⟨_, i, none⟩) (Nat.le_refl _) u).setCell (p := ⟨_, j, none⟩) (Nat.le_refl _) v
  obtain ⟨V, hV⟩ : ∃ V, V = cnt7 A k n := ⟨_, rfl⟩
  rw [← hV]
  have HV := Lib.hid hV
  clear hV
  unfold spcV
  have hcs : k = 5 ∨ k = 3 ∨ k = 4 ∨ k = 1 ∨ k = 2 ∨ ((k == 5) = false ∧ (k == 3) = false ∧ (k == 4) = false ∧ (k == 1) = false ∧ (k == 2) = false) := by
    by_cases h5 : k = 5
    · exact .inl h5
    by_cases h3 : k = 3
    · exact .inr (.inl h3)
    by_cases h4 : k = 4
    · exact .inr (.inr (.inl h4))
    by_cases h1 : k = 1
    · exact .inr (.inr (.inr (.inl h1)))
    by_cases h2 : k = 2
    · exact .inr (.inr (.inr (.inr (.inl h2))))
    · exact .inr (.inr (.inr (.inr (.inr ⟨by simpa using h5, by simpa using h3, by simpa using h4, by simpa using h1, by simpa using h2⟩))))
  rcases hcs with rfl | rfl | rfl | rfl | rfl | ⟨h5, h3, h4, h1, h2⟩
  · go_enter Tryz.func150, Tryz.ntmps150
    go_wp2_with fail
    refine bodyPost_ret (v := .agg #[.int .i64 (A.nan + n), .int .i64 A.up, .int .i64 A.down, .int .i64 A.minus, .int .i64 A.plus, .int .i64 (A.all + n)]) (by simp [results, Tryz.results150, go_sem]) rfl ?_
    refine ⟨?_, ((Below.refl _ _).alloc (Nat.le_refl _) _).alloc (by simp) _⟩
    rw [HV.out]
    rfl
  · go_enter Tryz.func150, Tryz.ntmps150
    go_wp2_with fail
    refine bodyPost_ret (v := .agg #[.int .i64 A.nan, .int .i64 (A.up + n), .int .i64 A.down, .int .i64 A.minus, .int .i64 A.plus, .int .i64 (A.all + n)]) (by simp [results, Tryz.results150, go_sem]) rfl ?_
    refine ⟨?_, ((Below.refl _ _).alloc (Nat.le_refl _) _).alloc (by simp) _⟩
    rw [HV.out]
    rfl
  · go_enter Tryz.func150, Tryz.ntmps150
    go_wp2_with fail
    refine bodyPost_ret (v := .agg #[.int .i64 A.nan, .int .i64 A.up, .int .i64 (A.down + n), .int .i64 A.minus, .int .i64 A.plus, .int .i64 (A.all + n)]) (by simp [results, Tryz.results150, go_sem]) rfl ?_
    refine ⟨?_, ((Below.refl _ _).alloc (Nat.le_refl _) _).alloc (by simp) _⟩
    rw [HV.out]
    rfl
  · go_enter Tryz.func150, Tryz.ntmps150
    go_wp2_with fail
    refine bodyPost_ret (v := .agg #[.int .i64 A.nan, .int .i64 A.up, .int .i64 A.down, .int .i64 (A.minus + n), .int .i64 A.plus, .int .i64 (A.all + n)]) (by simp [results, Tryz.results150, go_sem]) rfl ?_
    refine ⟨?_, ((Below.refl _ _).alloc (Nat.le_refl _) _).alloc (by simp) _⟩
    rw [HV.out]
    rfl
  · go_enter Tryz.func150, Tryz.ntmps150
    go_wp2_with fail
    refine bodyPost_ret (v := .agg #[.int .i64 A.nan, .int .i64 A.up, .int .i64 A.down, .int .i64 A.minus, .int .i64 (A.plus + n), .int .i64 (A.all + n)]) (by simp [results, Tryz.results150, go_sem]) rfl ?_
    refine ⟨?_, ((Below.refl _ _).alloc (Nat.le_refl _) _).alloc (by simp) _⟩
    rw [HV.out]
    rfl
  · go_enter Tryz.func150, Tryz.ntmps150
    go_wp2_with fail
    refine bodyPost_ret (v := .agg #[.int .i64 A.nan, .int .i64 A.up, .int .i64 A.down, .int .i64 A.minus, .int .i64 A.plus, .int .i64 (A.all + n)]) (by simp [results, Tryz.results150, go_sem]) rfl ?_
    refine ⟨?_, ((Below.refl _ _).alloc (Nat.le_refl _) _).alloc (by simp) _⟩
    rw [HV.out]
    have e : cnt7 A k n = { A with all := A.all + n } := by
      unfold cnt7
      rw [if_neg (by simpa using h5), if_neg (by simpa using h3), if_neg (by simpa using h4), if_neg (by simpa using h1), if_neg (by simpa using h2)]
    rw [e]
end Go.Proofs.YthdbapibbdkclaaGreatDoor
