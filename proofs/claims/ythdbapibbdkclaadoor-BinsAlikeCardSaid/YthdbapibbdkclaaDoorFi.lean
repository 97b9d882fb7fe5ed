/- Whole numbers as numbers of 64 bits: their sums are right. No statement of the seat is proved here. -/
import Derived.Test.YthdbapibbdkclaaDoorProg
import Derived.Test.YthdbapibbdkclaaDoorMU
import Derived.Test.YthdbapibbdkclaaDoorTe
namespace Go.Proofs.YthdbapibbdkclaaDoor
open Go.RowKit
set_option linter.unusedVariables false
set_option linter.unusedSimpArgs false

/-- the number of a whole number -/
def fI (n : Int) : Nat := Ieee.double.nearest (decide (n < 0)) n.natAbs 0
/-- 2^1074, kept shut -/
def pzE : Nat := 1074
def PZ : Nat := 2 ^ pzE
theorem PZ_pos : 0 < PZ := Nat.two_pow_pos _
theorem PZ_eq {j : Nat} (h : j = 1074) : PZ = 2 ^ j := by
  have e : pzE = j := by rw [h]; rfl
  unfold PZ; rw [e]
theorem fI_zero : fI 0 = 0 := by decide
theorem sgn_int (n : Int) : sgn (decide (n < 0)) n.natAbs = n := by
  unfold sgn
  by_cases q : n < 0
  · rw [decide_eq_true q]; simp; omega
  · rw [decide_eq_false q]; simp; omega
theorem rep_num {m : Nat} (h0 : 0 < m) (h : m < 9007199254740992) : ∃ k, k < 9218868437227405312 ∧ numV 52 k = m * PZ := by
  have l1 := Nat.log2_self_le (show m ≠ 0 by omega)
  have l2 := @Nat.lt_log2_self m
  have l3 : m.log2 < 53 := (Nat.pow_lt_pow_iff_right (a := 2) (by decide)).1 (Nat.lt_of_le_of_lt l1 (show m < 2 ^ 53 from h))
  obtain ⟨J, hJ⟩ : ∃ J, J = 1074 := ⟨_, rfl⟩
  obtain ⟨s, hs⟩ : ∃ s, s = 52 - m.log2 := ⟨_, rfl⟩
  have h1 : 2 ^ 52 ≤ m * 2 ^ s := by
    refine Nat.le_trans ?_ (Nat.mul_le_mul_right _ l1)
    rw [← Nat.pow_add]; exact Nat.pow_le_pow_right (by decide) (by omega)
  have h2 : m * 2 ^ s < 2 ^ (52 + 1) := by
    refine Nat.lt_of_lt_of_le ((Nat.mul_lt_mul_right (Nat.two_pow_pos s)).2 l2) ?_
    rw [← Nat.pow_add]; exact Nat.pow_le_pow_right (by decide) (by omega)
  refine ⟨m * 2 ^ s + (J - s) * 2 ^ 52, ?_, ?_⟩
  · rw [show (2 : Nat) ^ (52 + 1) = 9007199254740992 from rfl] at h2
    rw [show (2 : Nat) ^ 52 = 4503599627370496 from rfl]
    have : (J - s) * 4503599627370496 ≤ 1074 * 4503599627370496 := Nat.mul_le_mul_right _ (by omega)
    omega
  · rw [numV_at h2 (.inr h1), PZ_eq hJ, Nat.mul_assoc, ← Nat.pow_add]
    congr 2; omega
theorem of_formI {n : Int} (h : n.natAbs < 9007199254740992) (hn : n ≠ 0) : ∃ z d, z < 18446744073709551616 ∧ z % 9223372036854775808 < 9218868437227405312 ∧ fV z = n * (PZ : Int) ∧ ofF z = some d ∧ formF (decide (n < 0)) n.natAbs 0 = some d := by
  obtain ⟨k, hk, hv⟩ := rep_num (m := n.natAbs) (by omega) h
  obtain ⟨z, hz⟩ : ∃ z, z = k + if n < 0 then 9223372036854775808 else 0 := ⟨_, rfl⟩
  have hz1 : z < 18446744073709551616 := by rw [hz]; split <;> omega
  have hz2 : z % 9223372036854775808 = k := by rw [hz]; split <;> omega
  have hz3 : decide (9223372036854775808 ≤ z) = decide (n < 0) := by
    rw [decide_eq_decide, hz]
    by_cases q : n < 0
    · rw [if_pos q]; omega
    · rw [if_neg q]; omega
  have hf : fV z = n * (PZ : Int) := by
    unfold fV
    rw [hz2, hz3, hv, sgn_mul, sgn_int]
  obtain ⟨q, hq⟩ := ofF_some (b := z) (by omega)
  obtain ⟨d, hd⟩ := form_smallB (decide (n < 0)) (n := n.natAbs) (j := 2) (e := 0) (by rw [show (2 : Nat) ^ (32 * 2) = 18446744073709551616 from rfl]; omega) (by decide) (by decide) (by decide)
  have zq := ofF_zB hq
  have zd := z_form hd (B := -1074) (by decide) (by decide)
  obtain ⟨J, hJ⟩ : ∃ J, J = 1074 := ⟨_, rfl⟩
  have hqi : q.Is := by
    unfold ofF bitsF at hq
    split at hq
    · cases hq
    · exact formF_is hq
  have heq : q = d := z_uniq hqi (formF_is hd) zq.2 zd.2 (by rw [zq.1, zd.1, hf, sgn_int, PZ_eq hJ]; congr 3)
  exact ⟨z, d, hz1, by omega, hf, by rw [hq, heq], hd⟩
structure IsI (b : Nat) (n : Int) : Prop where
  lt : b < 18446744073709551616
  fin : b % 9223372036854775808 < 9218868437227405312
  val : fV b = n * (PZ : Int)
theorem fI_is {n : Int} (h : n.natAbs < 9007199254740992) : IsI (fI n) n := by
  by_cases h0 : n = 0
  · subst h0
    rw [fI_zero]
    exact ⟨by decide, by decide, by rw [fV_zero (by decide)]; simp⟩
  · obtain ⟨z, d, z1, z2, z3, z4, z5⟩ := of_formI h h0
    have hR := near64 (s := decide (n < 0)) (n := n.natAbs) (e := 0) (by omega) z5
    obtain ⟨_, h2, h3, h4⟩ := r64_own (by decide) (by decide) z1 z4 hR
    refine ⟨h3, ?_, h2.trans z3⟩
    rcases Nat.lt_or_ge ((fI n) % 9223372036854775808) 9218868437227405312 with h5 | h5
    · exact h5
    · exfalso
      have h6 : (fI n) % 9223372036854775808 = 9218868437227405312 := by unfold fI at h5 ⊢; omega
      have h7 : (fV (fI n)).natAbs = numV 52 9218868437227405312 := by unfold fV; rw [sgn_abs, h6]
      have h8 : (fV z).natAbs = numV 52 (z % 9223372036854775808) := by unfold fV; rw [sgn_abs]
      have h9 := numV_lt (h := 52) z2
      have h10 : fV (fI n) = fV z := h2
      rw [h10, h8] at h7
      omega
theorem fI_sign {n : Int} (h : n.natAbs < 9007199254740992) : 9223372036854775808 ≤ fI n ↔ n < 0 := by
  have hi := fI_is h
  have hp := PZ_pos
  by_cases h0 : n = 0
  · subst h0; rw [fI_zero]; decide
  · have hne : fI n % 9223372036854775808 ≠ 0 := by
      intro hz
      have := fV_zero hz
      rw [hi.val] at this
      rcases Int.mul_eq_zero.1 this with h1 | h1
      · exact h0 h1
      · omega
    constructor
    · intro hs
      have := fV_neg hs hne
      rw [hi.val] at this
      by_cases h1 : n < 0
      · exact h1
      · have := Int.mul_nonneg (show 0 ≤ n by omega) (show (0 : Int) ≤ (PZ : Int) by omega)
        omega
    · intro hs
      rcases Nat.lt_or_ge (fI n) 9223372036854775808 with h1 | h1
      · have := fV_pos h1 hne
        rw [hi.val] at this
        have := Int.mul_neg_of_neg_of_pos hs (show (0 : Int) < (PZ : Int) by omega)
        omega
      · exact h1
theorem fI_canon {n : Int} (h : n.natAbs < 9007199254740992) : canon (fI n) = fI n := canon_num (Nat.le_of_lt (fI_is h).fin)
theorem add_is {x y : Nat} {m n : Int} (hx : IsI x m) (hy : IsI y n) (h : (m + n).natAbs < 9007199254740992) (hs : m + n = 0 → ¬ (9223372036854775808 ≤ x ∧ 9223372036854775808 ≤ y)) : addC x y = fI (m + n) := by
  have hp := PZ_pos
  have hT : fV x + fV y = (m + n) * (PZ : Int) := by rw [hx.val, hy.val, Int.add_mul]
  obtain ⟨c1, c2⟩ := addC_fin hx.lt hy.lt hx.fin hy.fin
  by_cases h0 : m + n = 0
  · rw [c1 (by rw [hT, h0, Int.zero_mul]), if_neg (hs h0), h0, fI_zero]
  · obtain ⟨z, d, z1, z2, z3, z4, z5⟩ := of_formI h h0
    have zd := z_form z5 (B := -1074) (by decide) (by decide)
    obtain ⟨J, hJ⟩ : ∃ J, J = 1074 := ⟨_, rfl⟩
    have hz : d.z (-1074) = fV x + fV y := by
      rw [zd.1, hT, sgn_int, PZ_eq hJ]; congr 3; omega
    have hne : fV x + fV y ≠ 0 := by
      rw [hT]
      intro h1
      rcases Int.mul_eq_zero.1 h1 with h2 | h2
      · exact h0 h2
      · omega
    have h1 := c2 d (formF_is z5) zd.2 hz hne
    have h2 := near64 (s := decide (m + n < 0)) (n := (m + n).natAbs) (e := 0) (by omega) z5
    exact (h1.uniq h2).1
theorem addI {m n : Int} (hm : m.natAbs < 9007199254740992) (hn : n.natAbs < 9007199254740992) (h : (m + n).natAbs < 9007199254740992) : addC (fI m) (fI n) = fI (m + n) :=
  add_is (fI_is hm) (fI_is hn) h (fun h0 => by rw [fI_sign hm, fI_sign hn]; omega)
theorem turn_is {b : Nat} {n : Int} (h : IsI b n) : IsI (turnB b) (-n) := by
  refine ⟨turnB_lt h.lt, by rw [turnB_mod b h.lt]; exact h.fin, ?_⟩
  have : fV (turnB b) = - fV b := by
    unfold fV
    rw [turnB_mod b h.lt, ← sgn_not]
    congr 1
    have := h.lt
    unfold turnB
    by_cases q : 9223372036854775808 ≤ b
    · rw [if_pos q, decide_eq_true q, decide_eq_false (by omega)]; rfl
    · rw [if_neg q, decide_eq_false q, decide_eq_true (by omega)]; rfl
  rw [this, h.val, Int.neg_mul]
theorem subI {m n : Int} (hm : m.natAbs < 9007199254740992) (hn : n.natAbs < 9007199254740992) (h : (m - n).natAbs < 9007199254740992) : subC (fI m) (fI n) = fI (m - n) := by
  have hl := (fI_is hn).lt
  have := add_is (fI_is hm) (turn_is (fI_is hn)) (by rw [← Int.sub_eq_add_neg]; exact h) (fun h0 => by
    have hmn : m = n := by omega
    subst hmn
    rintro ⟨h1, h2⟩
    unfold turnB at h2
    rw [if_pos h1] at h2
    omega)
  rw [← Int.sub_eq_add_neg] at this
  exact this

/-- the sum, the sum of sizes -/
def sumI (l : List Int) : Int := l.foldr (· + ·) 0
def absI (l : List Int) : Nat := l.foldr (fun n s => n.natAbs + s) 0
theorem sumI_cons (x : Int) (l : List Int) : sumI (x :: l) = x + sumI l := rfl
theorem absI_cons (x : Int) (l : List Int) : absI (x :: l) = x.natAbs + absI l := rfl
theorem sumI_append (l m : List Int) : sumI (l ++ m) = sumI l + sumI m := by
  induction l with
  | nil => simp [sumI]
  | cons x l ih => rw [List.cons_append, sumI_cons, sumI_cons, ih]; omega
theorem absI_append (l m : List Int) : absI (l ++ m) = absI l + absI m := by
  induction l with
  | nil => simp [absI]
  | cons x l ih => rw [List.cons_append, absI_cons, absI_cons, ih]; omega
theorem sumI_abs (l : List Int) : (sumI l).natAbs ≤ absI l := by
  induction l with
  | nil => simp [sumI, absI]
  | cons x l ih => rw [sumI_cons, absI_cons]; omega
theorem fold_I (l : List Int) : ∀ s : Int, s.natAbs + absI l < 9007199254740992 → (l.map fI).foldl addC (fI s) = fI (s + sumI l) := by
  induction l with
  | nil => intro s _; simp [sumI]
  | cons x l ih =>
    intro s h
    rw [absI_cons] at h
    rw [List.map_cons, List.foldl_cons, addI (by omega) (by omega) (by omega), ih _ (by omega), sumI_cons, Int.add_assoc]
theorem runC_I {l : List Int} (h : absI l < 9007199254740992) : runC (l.map fI) = fI (sumI l) := by
  cases l with
  | nil => rw [show sumI [] = 0 from rfl, fI_zero]; rfl
  | cons x l =>
    rw [absI_cons] at h
    show (l.map fI).foldl addC (canon (fI x)) = _
    rw [fI_canon (by omega), fold_I l x h, sumI_cons]
theorem hal_I {L : List Nat} {v : Nat} (h : Hal L v) : ∀ {l : List Int}, L = l.map fI → absI l < 9007199254740992 → v = fI (sumI l) := by
  induction h with
  | nil =>
    intro l hl _
    obtain rfl : l = [] := by simpa using hl.symm
    exact fI_zero.symm
  | one x =>
    intro l hl ha
    match l, hl with
    | [n], hl =>
      simp at hl
      subst hl
      rw [absI_cons] at ha
      rw [fI_canon (by omega)]
      show fI n = fI (n + 0)
      rw [Int.add_zero]
  | @two L j a b h1 h2 h3 _ _ ih1 ih2 =>
    intro l hl ha
    have e1 : L.take (2 ^ j) = (l.take (2 ^ j)).map fI := by rw [hl, List.map_take]
    have e2 : L.drop (2 ^ j) = (l.drop (2 ^ j)).map fI := by rw [hl, List.map_drop]
    have hs := sumI_append (l.take (2 ^ j)) (l.drop (2 ^ j))
    have hb := absI_append (l.take (2 ^ j)) (l.drop (2 ^ j))
    rw [List.take_append_drop] at hs hb
    have b1 := sumI_abs (l.take (2 ^ j))
    have b2 := sumI_abs (l.drop (2 ^ j))
    rw [ih1 e1 (by omega), ih2 e2 (by omega), addI (by omega) (by omega) (by omega), hs]
theorem kstep_I {s x : Int} (hs : s.natAbs < 9007199254740992) (hx : x.natAbs < 9007199254740992) (h : (s + x).natAbs < 9007199254740992) : kStep (fI s) 0 (fI x) = (fI (s + x), 0) := by
  have e0 : subC (fI x) 0 = fI x := by
    have := subI (m := x) (n := 0) hx (by decide) (by simpa using hx)
    rw [fI_zero, Int.sub_zero] at this; exact this
  have e1 := addI hs hx h
  have e2 := subI h hs (by rw [show s + x - s = x by omega]; exact hx)
  rw [show s + x - s = x by omega] at e2
  have e3 := subI hx hx (by rw [Int.sub_self]; decide)
  rw [Int.sub_self, fI_zero] at e3
  unfold kStep
  rw [e0, e1, e2, e3]
theorem nstep_I {s x : Int} (hs : s.natAbs < 9007199254740992) (hx : x.natAbs < 9007199254740992) (h : (s + x).natAbs < 9007199254740992) : nStep (fI s) 0 (fI x) = (fI (s + x), 0) := by
  have e1 := addI hs hx h
  have e2 := subI hs h (by rw [show s - (s + x) = -x by omega, Int.natAbs_neg]; exact hx)
  rw [show s - (s + x) = -x by omega] at e2
  have e3 := subI hx h (by rw [show x - (s + x) = -s by omega, Int.natAbs_neg]; exact hs)
  rw [show x - (s + x) = -s by omega] at e3
  have e4 := addI (m := -x) (n := x) (by rw [Int.natAbs_neg]; exact hx) hx (by rw [Int.add_left_neg]; decide)
  rw [Int.add_left_neg, fI_zero] at e4
  have e5 := addI (m := -s) (n := s) (by rw [Int.natAbs_neg]; exact hs) hs (by rw [Int.add_left_neg]; decide)
  rw [Int.add_left_neg, fI_zero] at e5
  have e6 : addC 0 0 = 0 := by
    have := addI (m := 0) (n := 0) (by decide) (by decide) (by decide)
    rw [fI_zero] at this; exact this
  unfold nStep
  rw [e1, e2, e3, e4, e5]
  split <;> rw [e6]
theorem way_I {f : Nat → Nat → Nat → Nat × Nat} (hf : ∀ s x : Int, s.natAbs < 9007199254740992 → x.natAbs < 9007199254740992 → (s + x).natAbs < 9007199254740992 → f (fI s) 0 (fI x) = (fI (s + x), 0)) (l : List Int) :
    ∀ s : Int, s.natAbs + absI l < 9007199254740992 → (l.map fI).foldl (fun p x => f p.1 p.2 (canon x)) (fI s, 0) = (fI (s + sumI l), 0) := by
  induction l with
  | nil => intro s _; simp [sumI]
  | cons x l ih =>
    intro s h
    rw [absI_cons] at h
    rw [List.map_cons, List.foldl_cons]
    dsimp only
    rw [fI_canon (by omega), hf s x (by omega) (by omega) (by omega), ih _ (by omega), sumI_cons, Int.add_assoc]
theorem kahC_I {l : List Int} (h : absI l < 9007199254740992) : kahC (l.map fI) = fI (sumI l) := by
  have := way_I (f := kStep) (fun s x => kstep_I) l 0 (by simpa using h)
  rw [fI_zero, Int.zero_add] at this
  unfold kahC wayC
  rw [this]
theorem neuC_I {l : List Int} (h : absI l < 9007199254740992) : neuC (l.map fI) = fI (sumI l) := by
  have := way_I (f := nStep) (fun s x => nstep_I) l 0 (by simpa using h)
  rw [fI_zero, Int.zero_add] at this
  have hb := sumI_abs l
  unfold neuC wayC
  rw [this]
  dsimp only
  have := addI (m := sumI l) (n := 0) (by omega) (by decide) (by rw [Int.add_zero]; omega)
  rw [fI_zero, Int.add_zero] at this
  exact this
end Go.Proofs.YthdbapibbdkclaaDoor
