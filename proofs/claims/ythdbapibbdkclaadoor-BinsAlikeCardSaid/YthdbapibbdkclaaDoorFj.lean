/- Whole numbers: the exact sum, the sum by blocks. No statement of the seat is proved here. -/
import Derived.Test.YthdbapibbdkclaaDoorProg
import Derived.Test.YthdbapibbdkclaaDoorFi
import Derived.Test.YthdbapibbdkclaaDoorTf
namespace Go.Proofs.YthdbapibbdkclaaDoor
open Go.RowKit
set_option linter.unusedVariables false
set_option linter.unusedSimpArgs false

/-- what a finite number adds to an accumulator -/
theorem numT_fV {b : Nat} (hb : b < 18446744073709551616) (h : b % 9223372036854775808 < 9218868437227405312) :
    (numT b).T = fV b * (PZ : Int) ∧ (numT b).nan = 0 ∧ (numT b).up = 0 ∧ (numT b).down = 0 := by
  obtain ⟨J, hJ⟩ : ∃ J, J = 1074 := ⟨_, rfl⟩
  have hs : (b / 9223372036854775808 % 2 == 1) = decide (9223372036854775808 ≤ b) := by
    by_cases h1 : 9223372036854775808 ≤ b
    · rw [decide_eq_true h1, show b / 9223372036854775808 % 2 = 1 by omega]; rfl
    · rw [decide_eq_false h1, show b / 9223372036854775808 % 2 = 0 by omega]; rfl
  have e1 : b % 9223372036854775808 / 4503599627370496 = b / 4503599627370496 % 2048 := by omega
  have e2 : b % 9223372036854775808 % 4503599627370496 = b % 4503599627370496 := by omega
  have hV : fV b = sgn (decide (9223372036854775808 ≤ b)) ((if b / 4503599627370496 % 2048 = 0 then b % 4503599627370496 else 4503599627370496 + b % 4503599627370496) * 2 ^ (b / 4503599627370496 % 2048 - 1)) := by
    unfold fV numV numM numE
    rw [show (2 : Nat) ^ 52 = 4503599627370496 from rfl, e1, e2]
  have hx : b / 4503599627370496 % 2048 < 2047 := by omega
  rw [hV]
  unfold numT ptOf
  rw [hs]
  generalize b / 4503599627370496 % 2048 = ex at *
  generalize hfr : b % 4503599627370496 = fr at *
  generalize decide (9223372036854775808 ≤ b) = s at *
  rw [if_neg (show ¬ ex = 2047 by omega)]
  by_cases h1 : 0 < ex
  · rw [if_pos h1, if_neg (show ¬ ex = 0 by omega)]
    unfold mkT
    dsimp only
    simp only [show ((2 : Int) = 4) = False by simp, show ((2 : Int) = 3) = False by simp, show ((2 : Int) = 0) = False by simp, if_false]
    refine ⟨?_, by trivial, by trivial, by trivial⟩
    rw [PZ_eq hJ, ← sgn_mul, Nat.mul_assoc, ← Nat.pow_add]
    congr 2
    · omega
    · congr 1; omega
  · rw [if_neg h1]
    obtain rfl : ex = 0 := by omega
    rw [if_pos rfl]
    by_cases h2 : 0 < fr
    · rw [if_pos h2]
      unfold mkT
      dsimp only
      simp only [show ((1 : Int) = 4) = False by simp, show ((1 : Int) = 3) = False by simp, show ((1 : Int) = 0) = False by simp, if_false]
      refine ⟨?_, by trivial, by trivial, by trivial⟩
      rw [PZ_eq hJ, ← sgn_mul, show ((-1074 : Int) + 2148).toNat = J by omega, show (0 - 1 : Nat) = 0 from rfl, Nat.pow_zero, Nat.mul_one]
    · rw [if_neg h2]
      obtain rfl : fr = 0 := by omega
      unfold mkT
      dsimp only
      simp only [show ((0 : Int) = 4) = False by simp, show ((0 : Int) = 3) = False by simp, if_false, if_true]
      rw [Nat.zero_mul, sgn_zero, Int.zero_mul]
      cases s <;> exact ⟨rfl, rfl, rfl, rfl⟩
theorem sumL_cons (A : Ac) (l : List Nat) : l.foldl (fun A b => A.sum (numT b)) A = A.sum (sumL l) := by
  unfold sumL
  induction l generalizing A with
  | nil => rw [List.foldl_nil, List.foldl_nil, Ac.sum_zero]
  | cons x l ih => rw [List.foldl_cons, List.foldl_cons, ih, ih (Ac.zero.sum _), Ac.zero_sum, Ac.sum_assoc]
theorem sumL_cons' (x : Nat) (l : List Nat) : sumL (x :: l) = (numT x).sum (sumL l) := by
  conv => lhs; unfold sumL
  rw [List.foldl_cons, sumL_cons, Ac.zero_sum]
theorem fit_sumL {l : List Nat} (h : l.length ≤ 1099511627776) : Fit l.length (sumL l) := by
  induction l with
  | nil => exact fit_zero
  | cons x l ih =>
    rw [List.length_cons] at h ⊢
    rw [sumL_cons', Ac.sum_comm]
    exact fit_add (ih (by omega)) (numT_thing x) h
theorem sumL_I {l : List Int} (h : absI l < 9007199254740992) : (sumL (l.map fI)).T = sumI l * (PZ : Int) * (PZ : Int) ∧ (sumL (l.map fI)).nan = 0 ∧ (sumL (l.map fI)).up = 0 ∧ (sumL (l.map fI)).down = 0 := by
  induction l with
  | nil => exact ⟨by show (0 : Int) = 0 * _ * _; simp, rfl, rfl, rfl⟩
  | cons x l ih =>
    rw [absI_cons] at h
    obtain ⟨i1, i2, i3, i4⟩ := ih (by omega)
    have hi := fI_is (n := x) (by omega)
    obtain ⟨j1, j2, j3, j4⟩ := numT_fV hi.lt hi.fin
    rw [List.map_cons, sumL_cons']
    unfold Ac.sum
    dsimp only
    rw [i1, i2, i3, i4, j1, j2, j3, j4, hi.val, sumI_cons]
    exact ⟨by rw [Int.add_mul, Int.add_mul], rfl, rfl, rfl⟩
theorem exr_I {l : List Int} (h : absI l < 9007199254740992) (hl : l.length ≤ 65536) {r : Nat} {er : Int} (hR : ExR (l.map fI) 1 0 0 r er) : er = 0 ∧ r < 18446744073709551616 ∧ r % 9223372036854775808 ≤ 9218868437227405312 ∧ fV r = fV (fI (sumI l)) := by
  have hp := PZ_pos
  have hnb : ¬ badM 1 0 0 := by
    rintro (h | h | h)
    · omega
    · omega
    · revert h; decide
  have hR2 : RoundR (sumL (l.map fI)) 1 0 0 r er := by
    rcases hR with ⟨h1, _⟩ | ⟨_, h1, _⟩ | ⟨_, _, h1⟩
    · exact absurd h1 hnb
    · rw [List.length_map] at h1; omega
    · exact h1
  have hfit := fit_sumL (l := l.map fI) (by rw [List.length_map]; omega)
  obtain ⟨hT, n1, n2, n3⟩ := sumL_I h
  have hb := sumI_abs l
  have hi := fI_is (n := sumI l) (by omega)
  generalize sumL (l.map fI) = A at *
  have hs : specR A 1 0 0 = if A.T = 0 then (noughtB A 1, true, 0) else (0, false, 0) := by
    unfold specR verd
    rw [if_neg (by omega), if_neg (by omega), if_neg (by omega), if_pos rfl, if_neg (by omega), if_neg (by omega), if_neg (by omega)]
  unfold RoundR at hR2
  rw [hs] at hR2
  by_cases h0 : sumI l = 0
  · have hT0 : A.T = 0 := by rw [hT, h0]; simp
    rw [if_pos hT0] at hR2
    rcases hR2 with ⟨_, rfl, rfl⟩ | ⟨h1, _⟩
    · have hn : noughtB A 1 = 0 ∨ noughtB A 1 = nzero64 := by unfold noughtB; split <;> simp
      rw [h0, fI_zero]
      dsimp only
      rcases hn with hn | hn <;> rw [hn]
      · exact ⟨rfl, by decide, by decide, rfl⟩
      · exact ⟨rfl, by decide, by decide, by rw [fV_zero (b := nzero64) (by decide), fV_zero (b := 0) (by decide)]⟩
    · cases h1
  · have hT0 : A.T ≠ 0 := by
      rw [hT]
      intro h1
      rcases Int.mul_eq_zero.1 h1 with h2 | h2
      · rcases Int.mul_eq_zero.1 h2 with h3 | h3
        · exact h0 h3
        · omega
      · omega
    rw [if_neg hT0] at hR2
    rcases hR2 with ⟨h1, _⟩ | ⟨_, _, h1⟩
    · rcases h1 with h1 | h1
      · cases h1
      · exact absurd rfl h1
    · obtain ⟨d, hd⟩ := exO_some hfit.ok.v
      obtain ⟨q, hq⟩ := ofF_some hi.fin
      obtain ⟨_, q2, q3⟩ := ofF_z (-2148) (by decide) hi.lt hq
      have hd' := hd
      unfold exO at hd'
      have zd := z_form hd' (B := -2148) (by decide) (by decide)
      have hqi : q.Is := by
        have hq' := hq
        unfold ofF bitsF at hq'
        split at hq'
        · cases hq'
        · exact formF_is hq'
      obtain ⟨J, hJ⟩ : ∃ J, J = 1074 := ⟨_, rfl⟩
      have hv := hi.val
      unfold fV at hv
      have heq : d = q := z_uniq (formF_is hd') hqi zd.2 q2 (by
        rw [zd.1, q3, sgn_mul, hv, sgn_int, hT, show ((-2148 : Int) - -2148).toNat = 0 by decide, show (2 : Nat) ^ 0 = 1 from rfl, PZ_eq hJ, show (-1074 - (-2148 : Int)).toNat = J by omega]
        simp)
      rw [hd, heq] at h1
      obtain ⟨a1, a2, a3, a4⟩ := r64_own (by decide) (by decide) hi.lt hq h1
      exact ⟨a1, a3, a4, a2⟩

/-- so many blocks' sums are the sum of what they hold -/
theorem chunks_I (l : List Int) (s k : Nat) : sumI ((List.range k).map fun i => sumI ((l.drop (i * s)).take (min l.length ((i + 1) * s) - i * s))) = sumI (l.take (k * s)) ∧ absI ((List.range k).map fun i => sumI ((l.drop (i * s)).take (min l.length ((i + 1) * s) - i * s))) ≤ absI (l.take (k * s)) := by
  induction k with
  | zero => simp [sumI, absI]
  | succ k ih =>
    rw [List.range_succ, List.map_append, sumI_append, absI_append, ih.1]
    have h1 : l.take ((k + 1) * s) = l.take (k * s) ++ (l.drop (k * s)).take (min l.length ((k + 1) * s) - k * s) := by
      rw [Nat.succ_mul]
      have h2 : (l.drop (k * s)).take (min l.length (k * s + s) - k * s) = (l.drop (k * s)).take s := by
        by_cases h3 : k * s + s ≤ l.length
        · rw [Nat.min_eq_right h3, Nat.add_sub_cancel_left]
        · rw [Nat.min_eq_left (by omega), List.take_of_length_le (by rw [List.length_drop]; exact Nat.le_refl _), List.take_of_length_le (by rw [List.length_drop]; omega)]
      rw [h2, List.take_add]
    rw [h1, sumI_append, absI_append]
    have h3 := ih.2
    have h4 := sumI_abs ((l.drop (k * s)).take (min l.length ((k + 1) * s) - k * s))
    simp only [List.map_cons, List.map_nil]
    constructor
    · show _ + (sumI _ + 0) = _
      rw [Int.add_zero]
    · show _ + (Int.natAbs (sumI _) + 0) ≤ _
      omega
theorem absI_take (l : List Int) (k : Nat) : absI (l.take k) ≤ absI l := by
  have := absI_append (l.take k) (l.drop k)
  rw [List.take_append_drop] at this
  omega
theorem absI_drop (l : List Int) (k : Nat) : absI (l.drop k) ≤ absI l := by
  have := absI_append (l.take k) (l.drop k)
  rw [List.take_append_drop] at this
  omega
theorem blkC_I {l : List Int} (h : absI l < 9007199254740992) {s : Nat} (hs : 0 < s) : blkC (l.map fI) s = fI (sumI l) := by
  unfold blkC
  rw [List.length_map]
  obtain ⟨n, hn⟩ : ∃ n, n = (l.length + s - 1) / s := ⟨_, rfl⟩
  rw [← hn]
  have hch : ∀ i, chC (l.map fI) s i = fI (sumI ((l.drop (i * s)).take (min l.length ((i + 1) * s) - i * s))) := by
    intro i
    unfold chC
    rw [List.length_map, ← List.map_drop, ← List.map_take, runC_I]
    have h1 := absI_take (l.drop (i * s)) (min l.length ((i + 1) * s) - i * s)
    have h2 := absI_drop l (i * s)
    omega
  obtain ⟨c1, c2⟩ := chunks_I l s n
  have hall : l.take (n * s) = l := by
    apply List.take_of_length_le
    rw [hn]
    have := Nat.lt_div_mul_add (a := l.length + s - 1) hs
    omega
  rw [hall] at c1 c2
  have e1 : (List.range n).map (chC (l.map fI) s) = ((List.range n).map fun i => sumI ((l.drop (i * s)).take (min l.length ((i + 1) * s) - i * s))).map fI := by
    rw [List.map_map]
    apply List.map_congr_left
    intro i _
    exact hch i
  rw [e1, runC_I (by omega), c1]
theorem blr_I {l : List Int} (h : absI l < 9007199254740992) (hl : l.length ≤ 65536) {size : Int} {r : Nat} {er : Int} (hR : BlR (l.map fI) size r er) : ((1 ≤ size ∧ size ≤ 65536) ∧ er = 0 ∧ r = fI (sumI l)) ∨ (¬ (1 ≤ size ∧ size ≤ 65536) ∧ er = 1) := by
  rcases hR with ⟨h1, _, h2⟩ | ⟨_, h1, _⟩ | ⟨h1, _, h2, h3⟩
  · exact .inr ⟨by omega, h2⟩
  · rw [List.length_map] at h1; omega
  · exact .inl ⟨h1, h3, by rw [h2, blkC_I h (by omega)]⟩
end Go.Proofs.YthdbapibbdkclaaDoor
