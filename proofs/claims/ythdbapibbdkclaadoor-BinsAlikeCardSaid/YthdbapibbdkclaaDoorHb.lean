/- What bins have, in numbers. No statement of the seat is proved here. -/
import Derived.Test.YthdbapibbdkclaaDoorProg
import Derived.Test.YthdbapibbdkclaaDoorMS
namespace Go.Proofs.YthdbapibbdkclaaDoor
open Go.RowKit
set_option linter.unusedVariables false
set_option linter.unusedSimpArgs false

/-- the size of a number, in units of the lowest bin -/
def mB (b : Nat) : Nat := (ptOf b).f * 2 ^ ((ptOf b).e + 1088).toNat
/-- what bin i has of a size -/
def dg (m i : Nat) : Nat := m / 4294967296 ^ i % 4294967296
theorem dg_lt (m i : Nat) : dg m i < 4294967296 := Nat.mod_lt _ (by decide)
theorem dg_hi {m i : Nat} (h : m < 4294967296 ^ i) : dg m i = 0 := by unfold dg; rw [Nat.div_eq_of_lt h]
theorem dg_mul (F q i : Nat) : dg (F * 4294967296 ^ q) (q + i) = F / 4294967296 ^ i % 4294967296 := by
  unfold dg
  rw [Nat.pow_add, ← Nat.div_div_eq_div_mul, Nat.mul_div_cancel _ (Nat.pow_pos (by decide))]
theorem dg_low (F : Nat) {q j : Nat} (h : j < q) : dg (F * 4294967296 ^ q) j = 0 := by
  unfold dg
  obtain ⟨k, rfl⟩ : ∃ k, q = j + (k + 1) := ⟨q - j - 1, by omega⟩
  rw [Nat.pow_add, Nat.pow_succ, show F * (4294967296 ^ j * (4294967296 ^ k * 4294967296)) = F * 4294967296 ^ k * 4294967296 * 4294967296 ^ j by ac_rfl, Nat.mul_div_cancel _ (Nat.pow_pos (by decide)), Nat.mul_mod_left]
theorem wl_lt (m : Nat) : m < 4294967296 ^ (words m).length := by
  have := num_lt (W32_words m)
  rwa [num_words] at this
theorem wl_le {m i : Nat} (h : (words m).length ≤ i) : m < 4294967296 ^ i := Nat.lt_of_lt_of_le (wl_lt m) (Nat.pow_le_pow_right (by decide) h)
/-- how many bins a size reaches: by its three digits -/
theorem wl_three {F q c0 c1 c2 : Nat} (hF : F < 4294967296 ^ 3) (h0 : c0 = F % 4294967296) (h1 : c1 = F / 4294967296 % 4294967296) (h2 : c2 = F / 4294967296 ^ 2 % 4294967296) :
    (words (F * 4294967296 ^ q)).length = if c2 ≠ 0 then q + 3 else if c1 ≠ 0 then q + 2 else if c0 ≠ 0 then q + 1 else 0 := by
  have hp : 0 < 4294967296 ^ q := Nat.pow_pos (by decide)
  have key : ∀ j, F < 4294967296 ^ (j + 1) → 4294967296 ^ j ≤ F → (words (F * 4294967296 ^ q)).length = q + (j + 1) := by
    intro j a b
    have l1 : (words (F * 4294967296 ^ q)).length ≤ q + (j + 1) := words_len_le (by rw [Nat.pow_add, Nat.mul_comm]; exact (Nat.mul_lt_mul_left hp).2 a)
    have l2 : q + j < (words (F * 4294967296 ^ q)).length := words_len_gt (by rw [Nat.pow_add, Nat.mul_comm F]; exact Nat.mul_le_mul_left _ b)
    omega
  rw [show (4294967296 : Nat) ^ 3 = 79228162514264337593543950336 from rfl] at hF
  rw [show (4294967296 : Nat) ^ 2 = 18446744073709551616 from rfl] at h2
  split
  · exact key 2 (by rw [show (4294967296 : Nat) ^ (2 + 1) = 79228162514264337593543950336 from rfl]; exact hF) (by rw [show (4294967296 : Nat) ^ 2 = 18446744073709551616 from rfl]; omega)
  · split
    · exact key 1 (by rw [show (4294967296 : Nat) ^ (1 + 1) = 18446744073709551616 from rfl]; omega) (by rw [Nat.pow_one]; omega)
    · split
      · exact key 0 (by rw [show (4294967296 : Nat) ^ (0 + 1) = 4294967296 from rfl]; omega) (by rw [Nat.pow_zero]; omega)
      · rw [show F = 0 by omega, Nat.zero_mul, words_zero]; rfl

/-- bins: how many numbers, how many bins from the lowest one on, what each has -/
structure Bn where
  n : Nat
  len : Nat
  K : Nat → Int
def Bn.zero : Bn := ⟨0, 0, fun _ => 0⟩
def Bn.sum (a b : Bn) : Bn := ⟨a.n + b.n, max a.len b.len, fun i => a.K i + b.K i⟩
/-- one number -/
def bn1 (b : Nat) : Bn := ⟨1, (words (mB b)).length, fun i => sgn (ptOf b).s (dg (mB b) i)⟩
/-- a number so often -/
def bnT (t b : Nat) : Bn := ⟨t, (words (mB b)).length, fun i => (t : Int) * sgn (ptOf b).s (dg (mB b) i)⟩
theorem Bn.ext' {a b : Bn} (h1 : a.n = b.n) (h2 : a.len = b.len) (h3 : a.K = b.K) : a = b := by cases a; cases b; simp_all
theorem Bn.sum_comm (a b : Bn) : a.sum b = b.sum a := Bn.ext' (Nat.add_comm _ _) (Nat.max_comm _ _) (funext fun _ => Int.add_comm _ _)
theorem Bn.sum_assoc (a b c : Bn) : (a.sum b).sum c = a.sum (b.sum c) := Bn.ext' (Nat.add_assoc _ _ _) (Nat.max_assoc _ _ _) (funext fun _ => Int.add_assoc _ _ _)
theorem Bn.zero_sum (a : Bn) : Bn.zero.sum a = a := Bn.ext' (Nat.zero_add _) (Nat.zero_max _) (funext fun _ => Int.zero_add _)
theorem Bn.sum_zero (a : Bn) : a.sum Bn.zero = a := by rw [Bn.sum_comm, Bn.zero_sum]
theorem bnT_one (b : Nat) : bnT 1 b = bn1 b := Bn.ext' rfl rfl (funext fun i => Int.one_mul _)
structure Bn.Ok (A : Bn) : Prop where
  hi : ∀ i, A.len ≤ i → A.K i = 0
  bd : ∀ i, (A.K i).natAbs ≤ A.n * 4294967295
  n : A.n ≤ 1099511627776
  len : A.len ≤ 66
theorem Bn.zero_ok : Bn.zero.Ok := ⟨fun _ _ => rfl, fun _ => by simp [Bn.zero], by simp [Bn.zero], by simp [Bn.zero]⟩
theorem Bn.Ok.sum {a b : Bn} (ha : a.Ok) (hb : b.Ok) (hn : a.n + b.n ≤ 1099511627776) : (a.sum b).Ok := by
  refine ⟨fun i hi => ?_, fun i => ?_, hn, ?_⟩
  · have hi' : max a.len b.len ≤ i := hi
    show a.K i + b.K i = 0
    rw [ha.hi i (by omega), hb.hi i (by omega)]; rfl
  · show (a.K i + b.K i).natAbs ≤ (a.n + b.n) * 4294967295
    have h1 := ha.bd i; have h2 := hb.bd i
    omega
  · have h1 := ha.len; have h2 := hb.len
    show max a.len b.len ≤ 66
    omega
theorem mB_lt (b : Nat) {j : Nat} (hj : j = 66) : mB b < 4294967296 ^ j := by
  obtain ⟨h1, h2, h3, h4, h5, h6⟩ := ptOf_bd b
  unfold mB
  rw [w32_pow]
  have h7 : (ptOf b).f * 2 ^ ((ptOf b).e + 1088).toNat < 2 ^ 53 * 2 ^ ((ptOf b).e + 1088).toNat := (Nat.mul_lt_mul_right (Nat.two_pow_pos _)).2 h5
  rw [← Nat.pow_add] at h7
  exact Nat.lt_of_lt_of_le h7 (Nat.pow_le_pow_right (by decide) (by omega))
theorem bn1_len (b : Nat) : (words (mB b)).length ≤ 66 := by
  obtain ⟨j, hj⟩ : ∃ j, j = 66 := ⟨_, rfl⟩
  have := words_len_le (mB_lt b hj)
  omega
theorem bn1_ok (b : Nat) : (bn1 b).Ok := by
  refine ⟨fun i hi => ?_, fun i => ?_, by show 1 ≤ _; decide, bn1_len b⟩
  · show sgn (ptOf b).s (dg (mB b) i) = 0
    rw [dg_hi (wl_le hi), sgn_zero]
  · show (sgn (ptOf b).s (dg (mB b) i)).natAbs ≤ 1 * 4294967295
    rw [sgn_abs]
    have := dg_lt (mB b) i
    omega
theorem bnT_ok {t : Nat} (b : Nat) (ht : t ≤ 1099511627776) : (bnT t b).Ok := by
  refine ⟨fun i hi => ?_, fun i => ?_, ht, bn1_len b⟩
  · show (t : Int) * sgn (ptOf b).s (dg (mB b) i) = 0
    rw [dg_hi (wl_le hi), sgn_zero, Int.mul_zero]
  · show ((t : Int) * sgn (ptOf b).s (dg (mB b) i)).natAbs ≤ t * 4294967295
    rw [Int.natAbs_mul, sgn_abs, Int.natAbs_natCast]
    have := dg_lt (mB b) i
    exact Nat.mul_le_mul_left _ (by omega)
theorem bnT_sum (s t b : Nat) : (bnT s b).sum (bnT t b) = bnT (s + t) b := by
  refine Bn.ext' rfl (Nat.max_self _) (funext fun i => ?_)
  show (s : Int) * _ + (t : Int) * _ = ((s + t : Nat) : Int) * _
  rw [Int.natCast_add, Int.add_mul]

/-- a slice goes into bin i -/
def Bn.slice (A : Bn) (i : Nat) (v : Int) : Bn := if v = 0 then A else ⟨A.n, max A.len (i + 1), fun j => if j = i then A.K j + v else A.K j⟩
theorem slice_n (A : Bn) (i : Nat) (v : Int) : (A.slice i v).n = A.n := by unfold Bn.slice; split <;> rfl
theorem slice_len (A : Bn) (i : Nat) (v : Int) : (A.slice i v).len = if v = 0 then A.len else max A.len (i + 1) := by unfold Bn.slice; split <;> rfl
theorem slice_K (A : Bn) (i : Nat) (v : Int) (j : Nat) : (A.slice i v).K j = if j = i then A.K j + v else A.K j := by
  unfold Bn.slice
  split
  · rename_i h; subst h; simp
  · rfl
theorem slices_sum (A : Bn) {b F q c0 c1 c2 : Nat} (hm : mB b = F * 4294967296 ^ q) (hF : F < 4294967296 ^ 3) (h0 : c0 = F % 4294967296) (h1 : c1 = F / 4294967296 % 4294967296) (h2 : c2 = F / 4294967296 ^ 2 % 4294967296) :
    ((((⟨A.n + 1, A.len, A.K⟩ : Bn).slice (q + 2) (sgn (ptOf b).s c2)).slice (q + 1) (sgn (ptOf b).s c1)).slice q (sgn (ptOf b).s c0)) = A.sum (bn1 b) := by
  have hs : ∀ c : Nat, sgn (ptOf b).s c = 0 ↔ c = 0 := fun c => ⟨sgn_eq_zero, fun h => by rw [h, sgn_zero]⟩
  refine Bn.ext' ?_ ?_ (funext fun i => ?_)
  · rw [slice_n, slice_n, slice_n]; rfl
  · show _ = max A.len (words (mB b)).length
    rw [hm, wl_three hF h0 h1 h2, slice_len, slice_len, slice_len]
    simp only [hs]
    by_cases k2 : c2 = 0 <;> by_cases k1 : c1 = 0 <;> by_cases k0 : c0 = 0 <;> simp only [k0, k1, k2, ne_eq, not_true_eq_false, not_false_eq_true, if_true, if_false] <;> omega
  · show _ = A.K i + sgn (ptOf b).s (dg (mB b) i)
    rw [hm, slice_K, slice_K, slice_K]
    by_cases k0 : i = q
    · subst k0
      have e := dg_mul F i 0
      rw [Nat.add_zero, Nat.pow_zero, Nat.div_one, ← h0] at e
      rw [e, if_pos rfl, if_neg (by omega), if_neg (by omega)]
    · rw [if_neg k0]
      by_cases k1 : i = q + 1
      · subst k1
        rw [dg_mul, Nat.pow_one, ← h1, if_pos rfl, if_neg (by omega)]
      · rw [if_neg k1]
        by_cases k2 : i = q + 2
        · subst k2
          rw [dg_mul, ← h2, if_pos rfl]
        · rw [if_neg k2]
          have e : dg (F * 4294967296 ^ q) i = 0 := by
            by_cases k3 : i < q
            · exact dg_low F k3
            · refine dg_hi ?_
              obtain ⟨j, rfl⟩ : ∃ j, i = q + 3 + j := ⟨i - q - 3, by omega⟩
              rw [show q + 3 + j = q + (3 + j) by omega, Nat.pow_add, Nat.mul_comm]
              exact (Nat.mul_lt_mul_left (Nat.pow_pos (by decide))).2 (Nat.lt_of_lt_of_le hF (Nat.pow_le_pow_right (by decide) (by omega)))
          rw [e, sgn_zero, Int.add_zero]

/-- what stands at place k of so many, from the top down -/
def Bn.win (A : Bn) (f k : Nat) : Int := if k < f ∧ k < A.len then A.K (A.len - 1 - k) else 0
def Bn.rise (A : Bn) (i : Nat) : Bn := ⟨A.n, max A.len (i + 1), A.K⟩
theorem rise_win {A : Bn} (hA : ∀ i, A.len ≤ i → A.K i = 0) {f i : Nat} (k : Nat) (h : A.len ≤ i) : (A.rise i).win f k = if i + 1 - A.len ≤ k ∧ k < f then A.win f (k - (i + 1 - A.len)) else 0 := by
  have e : (A.rise i).len = i + 1 := by show max A.len (i + 1) = i + 1; omega
  unfold Bn.win
  rw [e]
  show (if k < f ∧ k < i + 1 then A.K (i + 1 - 1 - k) else 0) = _
  by_cases h1 : i + 1 - A.len ≤ k ∧ k < f
  · rw [if_pos h1]
    by_cases h2 : k < i + 1
    · rw [if_pos ⟨h1.2, h2⟩, if_pos ⟨by omega, by omega⟩]; congr 1; omega
    · rw [if_neg (by omega), if_neg (by omega)]
  · rw [if_neg h1]
    by_cases h2 : k < f ∧ k < i + 1
    · rw [if_pos h2]; exact hA _ (by omega)
    · rw [if_neg h2]
theorem rise_low {A : Bn} {i : Nat} (h : i < A.len) : A.rise i = A := by
  refine Bn.ext' rfl ?_ rfl
  show max A.len (i + 1) = A.len
  omega
theorem slice_win {A : Bn} {f i : Nat} {v : Int} (hv : v ≠ 0) (k : Nat) : (A.slice i v).win f k = if k < f ∧ k = max A.len (i + 1) - 1 - i then (A.rise i).win f k + v else (A.rise i).win f k := by
  have e : (A.slice i v).len = max A.len (i + 1) := by rw [slice_len, if_neg hv]
  have e2 : (A.rise i).len = max A.len (i + 1) := rfl
  unfold Bn.win
  rw [e, e2, slice_K]
  show (if k < f ∧ k < max A.len (i + 1) then (if max A.len (i + 1) - 1 - k = i then A.K (max A.len (i + 1) - 1 - k) + v else A.K (max A.len (i + 1) - 1 - k)) else 0) = if k < f ∧ k = max A.len (i + 1) - 1 - i then (if k < f ∧ k < max A.len (i + 1) then A.K (max A.len (i + 1) - 1 - k) else 0) + v else (if k < f ∧ k < max A.len (i + 1) then A.K (max A.len (i + 1) - 1 - k) else 0)
  generalize hL : max A.len (i + 1) = L
  have hi : i + 1 ≤ L := by omega
  by_cases h1 : k < f ∧ k < L
  · simp only [if_pos h1]
    by_cases h2 : L - 1 - k = i
    · rw [if_pos h2, if_pos (show k < f ∧ k = L - 1 - i from ⟨h1.1, by omega⟩)]
    · rw [if_neg h2, if_neg (show ¬ (k < f ∧ k = L - 1 - i) by omega)]
  · simp only [if_neg h1]
    rw [if_neg (show ¬ (k < f ∧ k = L - 1 - i) by omega)]

/-- what the first k of the bins come to, in units of the lowest -/
def Bn.kS (A : Bn) : Nat → Int
  | 0 => 0
  | k + 1 => A.kS k + (if k < A.len then A.K (A.len - 1 - k) * ((4294967296 ^ (A.len - 1 - k) : Nat) : Int) else 0)
theorem kS_bd {A : Bn} (hA : A.Ok) (k : Nat) : (A.kS k).natAbs + A.n * 4294967296 ^ (A.len - k) ≤ A.n * 4294967296 ^ A.len := by
  induction k with
  | zero => simp [Bn.kS]
  | succ k ih =>
    rw [Bn.kS]
    by_cases h : k < A.len
    · rw [if_pos h]
      have h1 := hA.bd (A.len - 1 - k)
      have h2 : (A.K (A.len - 1 - k) * ((4294967296 ^ (A.len - 1 - k) : Nat) : Int)).natAbs ≤ A.n * 4294967295 * 4294967296 ^ (A.len - 1 - k) := by
        rw [Int.natAbs_mul, Int.natAbs_natCast]
        exact Nat.mul_le_mul_right _ h1
      obtain ⟨j, hj⟩ : ∃ j, A.len - 1 - k = j := ⟨_, rfl⟩
      rw [hj] at h2
      rw [show A.len - k = j + 1 by omega, Nat.pow_succ] at ih
      rw [hj, show A.len - (k + 1) = j by omega]
      generalize A.K j * ((4294967296 ^ j : Nat) : Int) = Z at *
      have e1 : A.n * 4294967295 * 4294967296 ^ j + A.n * 4294967296 ^ j = A.n * (4294967296 ^ j * 4294967296) := by
        rw [Nat.mul_assoc, ← Nat.mul_add]
        congr 1
        omega
      omega
    · rw [if_neg h, Int.add_zero]
      rw [show A.len - (k + 1) = A.len - k by omega]; exact ih
theorem kS_sz {A : Bn} (hA : A.Ok) (k : Nat) {j : Nat} (hj : j = 68) : (A.kS k).natAbs < 2 ^ (32 * j) := by
  have h1 := kS_bd hA k
  have h2 : A.n * 4294967296 ^ A.len ≤ 1099511627776 * 4294967296 ^ A.len := Nat.mul_le_mul_right _ hA.n
  have h3 : 4294967296 ^ A.len ≤ 4294967296 ^ (j - 2) := Nat.pow_le_pow_right (by decide) (by have := hA.len; omega)
  have h4 : 4294967296 ^ j = 4294967296 ^ (j - 2) * 18446744073709551616 := by
    rw [show (18446744073709551616 : Nat) = 4294967296 ^ 2 from rfl, ← Nat.pow_add]
    congr 1; omega
  rw [← w32_pow, h4]
  have h5 : 0 < 4294967296 ^ (j - 2) := Nat.pow_pos (by decide)
  generalize 4294967296 ^ (j - 2) = P at *
  omega
theorem kS_more {A : Bn} {k : Nat} (h : A.len ≤ k) : A.kS k = A.kS A.len := by
  induction k with
  | zero => rw [show A.len = 0 by omega]
  | succ k ih =>
    rw [Bn.kS]
    by_cases h1 : A.len ≤ k
    · rw [ih h1, if_neg (by omega), Int.add_zero]
    · rw [show A.len = k + 1 by omega, Bn.kS]
      simp [show A.len = k + 1 by omega]
/-- what is not kept is less than as many units as there are numbers -/
theorem kS_rest {A : Bn} (hA : A.Ok) {f : Nat} (hf : f ≤ A.len) (d : Nat) (hd : f + d ≤ A.len) : (A.kS (f + d) - A.kS f).natAbs + A.n * 4294967296 ^ (A.len - (f + d)) ≤ A.n * 4294967296 ^ (A.len - f) := by
  induction d with
  | zero => simp
  | succ d ih =>
    have ih' := ih (by omega)
    rw [show f + (d + 1) = (f + d) + 1 by omega, Bn.kS, if_pos (by omega)]
    have h1 := hA.bd (A.len - 1 - (f + d))
    have h2 : (A.K (A.len - 1 - (f + d)) * ((4294967296 ^ (A.len - 1 - (f + d)) : Nat) : Int)).natAbs ≤ A.n * 4294967295 * 4294967296 ^ (A.len - 1 - (f + d)) := by
      rw [Int.natAbs_mul, Int.natAbs_natCast]
      exact Nat.mul_le_mul_right _ h1
    obtain ⟨j, hj⟩ : ∃ j, A.len - 1 - (f + d) = j := ⟨_, rfl⟩
    rw [hj] at h2
    rw [show A.len - (f + d) = j + 1 by omega, Nat.pow_succ] at ih'
    rw [hj, show A.len - (f + d + 1) = j by omega]
    generalize A.K j * ((4294967296 ^ j : Nat) : Int) = Z at *
    have e1 : A.n * 4294967295 * 4294967296 ^ j + A.n * 4294967296 ^ j = A.n * (4294967296 ^ j * 4294967296) := by
      rw [Nat.mul_assoc, ← Nat.mul_add]
      congr 1
      omega
    omega
/-- the two words of what a bin has -/
def loI (z : Int) : Int := z % 18446744073709551616
def hiI (z : Int) : Int := z / 18446744073709551616
theorem lohi_add (x y : Int) : loI (x + y) = (loI x + loI y) % 18446744073709551616 ∧ hiI (x + y) = hiI x + hiI y + (loI x + loI y) / 18446744073709551616 := by
  unfold loI hiI
  omega
theorem win_bd {A : Bn} (hA : A.Ok) (f k : Nat) : (A.win f k).natAbs < 4722366482869645213696 := by
  unfold Bn.win
  split
  · have h1 := hA.bd (A.len - 1 - k)
    have h2 := hA.n
    omega
  · decide
end Go.Proofs.YthdbapibbdkclaaDoor
