/- What bins have, in numbers. Bins in memory; contracts of bins.part.add, New, Count, Fold. Contract of bins.Bins.raise. Contracts of bins.Bins.Add's closure, bins.slices, bins.Bins.Add. No statement of the seat is proved here. -/
import Derived.Test.YteahdgbokjbgcaaGreatDoorProg
import Derived.Test.YteahdgbokjbgcaaGreatDoorZMS
import Derived.Test.YteahdgbokjbgcaaGreatDoorZTi
import Derived.Test.YteahdgbokjbgcaaGreatDoorZTh
namespace Go.Proofs.YteahdgbokjbgcaaGreatDoor
open Go.RowKit
set_option linter.unusedVariables false
set_option linter.unusedSimpArgs false

/-- the size of a number, in units of the lowest bin -/
def mB (b : Nat) : Nat := (ptOf b).f * 2 ^ ((ptOf b).e + 1088).toNat
/-- what bin i has of a size -/
def dg (m i : Nat) : Nat := m / 4294967296 ^ i % 4294967296
theorem dg_lt (m i : Nat) : dg m i < 4294967296 := Nat.mod_lt _ (by decide)
theorem dg_hi {m i : Nat} (h : m < 4294967296 ^ i) : dg m i = 0 := by unfold dg; rw [Nat.div_eq_of_lt h]
theorem dg_mul (F q i : Nat) : dg (F * 4294967296 ^ q) (q + i) = F / 4294967296 ^ i % 4294967296 := by
  unfold dg
  rw [Nat.pow_add, ← Nat.div_div_eq_div_mul, Nat.mul_div_cancel _ (Nat.pow_pos (by decide))]
theorem dg_low (F : Nat) {q j : Nat} (h : j < q) : dg (F * 4294967296 ^ q) j = 0 := by
  unfold dg
  obtain ⟨k, rfl⟩ : ∃ k, q = j + (k + 1) := ⟨q - j - 1, by omega⟩
  rw [Nat.pow_add, Nat.pow_succ, show F * (4294967296 ^ j * (4294967296 ^ k * 4294967296)) = F * 4294967296 ^ k * 4294967296 * 4294967296 ^ j by ac_rfl, Nat.mul_div_cancel _ (Nat.pow_pos (by decide)), Nat.mul_mod_left]
theorem wl_lt (m : Nat) : m < 4294967296 ^ (words m).length := by
  have := num_lt (W32_words m)
  rwa [num_words] at this
theorem wl_le {m i : Nat} (h : (words m).length ≤ i) : m < 4294967296 ^ i := Nat.lt_of_lt_of_le (wl_lt m) (Nat.pow_le_pow_right (by decide) h)
/-- how many bins a size reaches: by its three digits -/
theorem wl_three {F q c0 c1 c2 : Nat} (hF : F < 4294967296 ^ 3) (h0 : c0 = F % 4294967296) (h1 : c1 = F / 4294967296 % 4294967296) (h2 : c2 = F / 4294967296 ^ 2 % 4294967296) :
    (words (F * 4294967296 ^ q)).length = if c2 ≠ 0 then q + 3 else if c1 ≠ 0 then q + 2 else if c0 ≠ 0 then q + 1 else 0 := by
  have hp : 0 < 4294967296 ^ q := Nat.pow_pos (by decide)
  have key : ∀ j, F < 4294967296 ^ (j + 1) → 4294967296 ^ j ≤ F → (words (F * 4294967296 ^ q)).length = q + (j + 1) := by
    intro j a b
    have l1 : (words (F * 4294967296 ^ q)).length ≤ q + (j + 1) := words_len_le (by rw [Nat.pow_add, Nat.mul_comm]; exact (Nat.mul_lt_mul_left hp).2 a)
    have l2 : q + j < (words (F * 4294967296 ^ q)).length := words_len_gt (by rw [Nat.pow_add, Nat.mul_comm F]; exact Nat.mul_le_mul_left _ b)
    omega
  rw [show (4294967296 : Nat) ^ 3 = 79228162514264337593543950336 from rfl] at hF
  rw [show (4294967296 : Nat) ^ 2 = 18446744073709551616 from rfl] at h2
  split
  · exact key 2 (by rw [show (4294967296 : Nat) ^ (2 + 1) = 79228162514264337593543950336 from rfl]; exact hF) (by rw [show (4294967296 : Nat) ^ 2 = 18446744073709551616 from rfl]; omega)
  · split
    · exact key 1 (by rw [show (4294967296 : Nat) ^ (1 + 1) = 18446744073709551616 from rfl]; omega) (by rw [Nat.pow_one]; omega)
    · split
      · exact key 0 (by rw [show (4294967296 : Nat) ^ (0 + 1) = 4294967296 from rfl]; omega) (by rw [Nat.pow_zero]; omega)
      · rw [show F = 0 by omega, Nat.zero_mul, words_zero]; rfl

/-- bins: how many numbers, how many bins from the lowest one on, what each has -/
structure Bn where
  n : Nat
  len : Nat
  K : Nat → Int
def Bn.zero : Bn := ⟨0, 0, fun _ => 0⟩
def Bn.sum (a b : Bn) : Bn := ⟨a.n + b.n, max a.len b.len, fun i => a.K i + b.K i⟩
/-- one number -/
def bn1 (b : Nat) : Bn := ⟨1, (words (mB b)).length, fun i => sgn (ptOf b).s (dg (mB b) i)⟩
/-- a number so often -/
def bnT (t b : Nat) : Bn := ⟨t, (words (mB b)).length, fun i => (t : Int) * sgn (ptOf b).s (dg (mB b) i)⟩
theorem Bn.ext' {a b : Bn} (h1 : a.n = b.n) (h2 : a.len = b.len) (h3 : a.K = b.K) : a = b := by cases a; cases b; simp_all
theorem Bn.sum_comm (a b : Bn) : a.sum b = b.sum a := Bn.ext' (Nat.add_comm _ _) (Nat.max_comm _ _) (funext fun _ => Int.add_comm _ _)
theorem Bn.sum_assoc (a b c : Bn) : (a.sum b).sum c = a.sum (b.sum c) := Bn.ext' (Nat.add_assoc _ _ _) (Nat.max_assoc _ _ _) (funext fun _ => Int.add_assoc _ _ _)
theorem Bn.zero_sum (a : Bn) : Bn.zero.sum a = a := Bn.ext' (Nat.zero_add _) (Nat.zero_max _) (funext fun _ => Int.zero_add _)
theorem Bn.sum_zero (a : Bn) : a.sum Bn.zero = a := by rw [Bn.sum_comm, Bn.zero_sum]
theorem bnT_one (b : Nat) : bnT 1 b = bn1 b := Bn.ext' rfl rfl (funext fun i => Int.one_mul _)
structure Bn.Ok (A : Bn) : Prop where
  hi : ∀ i, A.len ≤ i → A.K i = 0
  bd : ∀ i, (A.K i).natAbs ≤ A.n * 4294967295
  n : A.n ≤ 1099511627776
  len : A.len ≤ 66
theorem Bn.zero_ok : Bn.zero.Ok := ⟨fun _ _ => rfl, fun _ => by simp [Bn.zero], by simp [Bn.zero], by simp [Bn.zero]⟩
theorem Bn.Ok.sum {a b : Bn} (ha : a.Ok) (hb : b.Ok) (hn : a.n + b.n ≤ 1099511627776) : (a.sum b).Ok := by
  refine ⟨fun i hi => ?_, fun i => ?_, hn, ?_⟩
  · have hi' : max a.len b.len ≤ i := hi
    show a.K i + b.K i = 0
    rw [ha.hi i (by omega), hb.hi i (by omega)]; rfl
  · show (a.K i + b.K i).natAbs ≤ (a.n + b.n) * 4294967295
    have h1 := ha.bd i; have h2 := hb.bd i
    omega
  · have h1 := ha.len; have h2 := hb.len
    show max a.len b.len ≤ 66
    omega
theorem mB_lt (b : Nat) {j : Nat} (hj : j = 66) : mB b < 4294967296 ^ j := by
  obtain ⟨h1, h2, h3, h4, h5, h6⟩ := ptOf_bd b
  unfold mB
  rw [w32_pow]
  have h7 : (ptOf b).f * 2 ^ ((ptOf b).e + 1088).toNat < 2 ^ 53 * 2 ^ ((ptOf b).e + 1088).toNat := (Nat.mul_lt_mul_right (Nat.two_pow_pos _)).2 h5
  rw [← Nat.pow_add] at h7
  exact Nat.lt_of_lt_of_le h7 (Nat.pow_le_pow_right (by decide) (by omega))
theorem bn1_len (b : Nat) : (words (mB b)).length ≤ 66 := by
  obtain ⟨j, hj⟩ : ∃ j, j = 66 := ⟨_, rfl⟩
  have := words_len_le (mB_lt b hj)
  omega
theorem bn1_ok (b : Nat) : (bn1 b).Ok := by
  refine ⟨fun i hi => ?_, fun i => ?_, by show 1 ≤ _; decide, bn1_len b⟩
  · show sgn (ptOf b).s (dg (mB b) i) = 0
    rw [dg_hi (wl_le hi), sgn_zero]
  · show (sgn (ptOf b).s (dg (mB b) i)).natAbs ≤ 1 * 4294967295
    rw [sgn_abs]
    have := dg_lt (mB b) i
    omega
theorem bnT_ok {t : Nat} (b : Nat) (ht : t ≤ 1099511627776) : (bnT t b).Ok := by
  refine ⟨fun i hi => ?_, fun i => ?_, ht, bn1_len b⟩
  · show (t : Int) * sgn (ptOf b).s (dg (mB b) i) = 0
    rw [dg_hi (wl_le hi), sgn_zero, Int.mul_zero]
  · show ((t : Int) * sgn (ptOf b).s (dg (mB b) i)).natAbs ≤ t * 4294967295
    rw [Int.natAbs_mul, sgn_abs, Int.natAbs_natCast]
    have := dg_lt (mB b) i
    exact Nat.mul_le_mul_left _ (by omega)
theorem bnT_sum (s t b : Nat) : (bnT s b).sum (bnT t b) = bnT (s + t) b := by
  refine Bn.ext' rfl (Nat.max_self _) (funext fun i => ?_)
  show (s : Int) * _ + (t : Int) * _ = ((s + t : Nat) : Int) * _
  rw [Int.natCast_add, Int.add_mul]

/-- a slice goes into bin i -/
def Bn.slice (A : Bn) (i : Nat) (v : Int) : Bn := if v = 0 then A else ⟨A.n, max A.len (i + 1), fun j => if j = i then A.K j + v else A.K j⟩
theorem slice_n (A : Bn) (i : Nat) (v : Int) : (A.slice i v).n = A.n := by unfold Bn.slice; split <;> rfl
theorem slice_len (A : Bn) (i : Nat) (v : Int) : (A.slice i v).len = if v = 0 then A.len else max A.len (i + 1) := by unfold Bn.slice; split <;> rfl
theorem slice_K (A : Bn) (i : Nat) (v : Int) (j : Nat) : (A.slice i v).K j = if j = i then A.K j + v else A.K j := by
  unfold Bn.slice
  split
  · rename_i h; subst h; simp
  · rfl
theorem slices_sum (A : Bn) {b F q c0 c1 c2 : Nat} (hm : mB b = F * 4294967296 ^ q) (hF : F < 4294967296 ^ 3) (h0 : c0 = F % 4294967296) (h1 : c1 = F / 4294967296 % 4294967296) (h2 : c2 = F / 4294967296 ^ 2 % 4294967296) :
    ((((⟨A.n + 1, A.len, A.K⟩ : Bn).slice (q + 2) (sgn (ptOf b).s c2)).slice (q + 1) (sgn (ptOf b).s c1)).slice q (sgn (ptOf b).s c0)) = A.sum (bn1 b) := by
  have hs : ∀ c : Nat, sgn (ptOf b).s c = 0 ↔ c = 0 := fun c => ⟨sgn_eq_zero, fun h => by rw [h, sgn_zero]⟩
  refine Bn.ext' ?_ ?_ (funext fun i => ?_)
  · rw [slice_n, slice_n, slice_n]; rfl
  · show _ = max A.len (words (mB b)).length
    rw [hm, wl_three hF h0 h1 h2, slice_len, slice_len, slice_len]
    simp only [hs]
    by_cases k2 : c2 = 0 <;> by_cases k1 : c1 = 0 <;> by_cases k0 : c0 = 0 <;> simp only [k0, k1, k2, ne_eq, not_true_eq_false, not_false_eq_true, if_true, if_false] <;> omega
  · show _ = A.K i + sgn (ptOf b).s (dg (mB b) i)
    rw [hm, slice_K, slice_K, slice_K]
    by_cases k0 : i = q
    · subst k0
      have e := dg_mul F i 0
      rw [Nat.add_zero, Nat.pow_zero, Nat.div_one, ← h0] at e
      rw [e, if_pos rfl, if_neg (by omega), if_neg (by omega)]
    · rw [if_neg k0]
      by_cases k1 : i = q + 1
      · subst k1
        rw [dg_mul, Nat.pow_one, ← h1, if_pos rfl, if_neg (by omega)]
      · rw [if_neg k1]
        by_cases k2 : i = q + 2
        · subst k2
          rw [dg_mul, ← h2, if_pos rfl]
        · rw [if_neg k2]
          have e : dg (F * 4294967296 ^ q) i = 0 := by
            by_cases k3 : i < q
            · exact dg_low F k3
            · refine dg_hi ?_
              obtain ⟨j, rfl⟩ : ∃ j, i = q + 3 + j := ⟨i - q - 3, by omega⟩
              rw [show q + 3 + j = q + (3 + j) by omega, Nat.pow_add, Nat.mul_comm]
              exact (Nat.mul_lt_mul_left (Nat.pow_pos (by decide))).2 (Nat.lt_of_lt_of_le hF (Nat.pow_le_pow_right (by decide) (by omega)))
          rw [e, sgn_zero, Int.add_zero]

/-- what stands at place k of so many, from the top down -/
def Bn.win (A : Bn) (f k : Nat) : Int := if k < f ∧ k < A.len then A.K (A.len - 1 - k) else 0
def Bn.rise (A : Bn) (i : Nat) : Bn := ⟨A.n, max A.len (i + 1), A.K⟩
theorem rise_win {A : Bn} (hA : ∀ i, A.len ≤ i → A.K i = 0) {f i : Nat} (k : Nat) (h : A.len ≤ i) : (A.rise i).win f k = if i + 1 - A.len ≤ k ∧ k < f then A.win f (k - (i + 1 - A.len)) else 0 := by
  have e : (A.rise i).len = i + 1 := by show max A.len (i + 1) = i + 1; omega
  unfold Bn.win
  rw [e]
  show (if k < f ∧ k < i + 1 then A.K (i + 1 - 1 - k) else 0) = _
  by_cases h1 : i + 1 - A.len ≤ k ∧ k < f
  · rw [if_pos h1]
    by_cases h2 : k < i + 1
    · rw [if_pos ⟨h1.2, h2⟩, if_pos ⟨by omega, by omega⟩]; congr 1; omega
    · rw [if_neg (by omega), if_neg (by omega)]
  · rw [if_neg h1]
    by_cases h2 : k < f ∧ k < i + 1
    · rw [if_pos h2]; exact hA _ (by omega)
    · rw [if_neg h2]
theorem rise_low {A : Bn} {i : Nat} (h : i < A.len) : A.rise i = A := by
  refine Bn.ext' rfl ?_ rfl
  show max A.len (i + 1) = A.len
  omega
theorem slice_win {A : Bn} {f i : Nat} {v : Int} (hv : v ≠ 0) (k : Nat) : (A.slice i v).win f k = if k < f ∧ k = max A.len (i + 1) - 1 - i then (A.rise i).win f k + v else (A.rise i).win f k := by
  have e : (A.slice i v).len = max A.len (i + 1) := by rw [slice_len, if_neg hv]
  have e2 : (A.rise i).len = max A.len (i + 1) := rfl
  unfold Bn.win
  rw [e, e2, slice_K]
  show (if k < f ∧ k < max A.len (i + 1) then (if max A.len (i + 1) - 1 - k = i then A.K (max A.len (i + 1) - 1 - k) + v else A.K (max A.len (i + 1) - 1 - k)) else 0) = if k < f ∧ k = max A.len (i + 1) - 1 - i then (if k < f ∧ k < max A.len (i + 1) then A.K (max A.len (i + 1) - 1 - k) else 0) + v else (if k < f ∧ k < max A.len (i + 1) then A.K (max A.len (i + 1) - 1 - k) else 0)
  generalize hL : max A.len (i + 1) = L
  have hi : i + 1 ≤ L := by omega
  by_cases h1 : k < f ∧ k < L
  · simp only [if_pos h1]
    by_cases h2 : L - 1 - k = i
    · rw [if_pos h2, if_pos (show k < f ∧ k = L - 1 - i from ⟨h1.1, by omega⟩)]
    · rw [if_neg h2, if_neg (show ¬ (k < f ∧ k = L - 1 - i) by omega)]
  · simp only [if_neg h1]
    rw [if_neg (show ¬ (k < f ∧ k = L - 1 - i) by omega)]

/-- what the first k of the bins come to, in units of the lowest -/
def Bn.kS (A : Bn) : Nat → Int
  | 0 => 0
  | k + 1 => A.kS k + (if k < A.len then A.K (A.len - 1 - k) * ((4294967296 ^ (A.len - 1 - k) : Nat) : Int) else 0)
theorem kS_bd {A : Bn} (hA : A.Ok) (k : Nat) : (A.kS k).natAbs + A.n * 4294967296 ^ (A.len - k) ≤ A.n * 4294967296 ^ A.len := by
  induction k with
  | zero => simp [Bn.kS]
  | succ k ih =>
    rw [Bn.kS]
    by_cases h : k < A.len
    · rw [if_pos h]
      have h1 := hA.bd (A.len - 1 - k)
      have h2 : (A.K (A.len - 1 - k) * ((4294967296 ^ (A.len - 1 - k) : Nat) : Int)).natAbs ≤ A.n * 4294967295 * 4294967296 ^ (A.len - 1 - k) := by
        rw [Int.natAbs_mul, Int.natAbs_natCast]
        exact Nat.mul_le_mul_right _ h1
      obtain ⟨j, hj⟩ : ∃ j, A.len - 1 - k = j := ⟨_, rfl⟩
      rw [hj] at h2
      rw [show A.len - k = j + 1 by omega, Nat.pow_succ] at ih
      rw [hj, show A.len - (k + 1) = j by omega]
      generalize A.K j * ((4294967296 ^ j : Nat) : Int) = Z at *
      have e1 : A.n * 4294967295 * 4294967296 ^ j + A.n * 4294967296 ^ j = A.n * (4294967296 ^ j * 4294967296) := by
        rw [Nat.mul_assoc, ← Nat.mul_add]
        congr 1
        omega
      omega
    · rw [if_neg h, Int.add_zero]
      rw [show A.len - (k + 1) = A.len - k by omega]; exact ih
theorem kS_sz {A : Bn} (hA : A.Ok) (k : Nat) {j : Nat} (hj : j = 68) : (A.kS k).natAbs < 2 ^ (32 * j) := by
  have h1 := kS_bd hA k
  have h2 : A.n * 4294967296 ^ A.len ≤ 1099511627776 * 4294967296 ^ A.len := Nat.mul_le_mul_right _ hA.n
  have h3 : 4294967296 ^ A.len ≤ 4294967296 ^ (j - 2) := Nat.pow_le_pow_right (by decide) (by have := hA.len; omega)
  have h4 : 4294967296 ^ j = 4294967296 ^ (j - 2) * 18446744073709551616 := by
    rw [show (18446744073709551616 : Nat) = 4294967296 ^ 2 from rfl, ← Nat.pow_add]
    congr 1; omega
  rw [← w32_pow, h4]
  have h5 : 0 < 4294967296 ^ (j - 2) := Nat.pow_pos (by decide)
  generalize 4294967296 ^ (j - 2) = P at *
  omega
theorem kS_more {A : Bn} {k : Nat} (h : A.len ≤ k) : A.kS k = A.kS A.len := by
  induction k with
  | zero => rw [show A.len = 0 by omega]
  | succ k ih =>
    rw [Bn.kS]
    by_cases h1 : A.len ≤ k
    · rw [ih h1, if_neg (by omega), Int.add_zero]
    · rw [show A.len = k + 1 by omega, Bn.kS]
      simp [show A.len = k + 1 by omega]
/-- the two words of what a bin has -/
def loI (z : Int) : Int := z % 18446744073709551616
def hiI (z : Int) : Int := z / 18446744073709551616
theorem lohi_add (x y : Int) : loI (x + y) = (loI x + loI y) % 18446744073709551616 ∧ hiI (x + y) = hiI x + hiI y + (loI x + loI y) / 18446744073709551616 := by
  unfold loI hiI
  omega
theorem win_bd {A : Bn} (hA : A.Ok) (f k : Nat) : (A.win f k).natAbs < 4722366482869645213696 := by
  unfold Bn.win
  split
  · have h1 := hA.bd (A.len - 1 - k)
    have h2 := hA.n
    omega
  · decide
end Go.Proofs.YteahdgbokjbgcaaGreatDoor
namespace Go.Proofs.YteahdgbokjbgcaaGreatDoor
open Go.RowKit
set_option maxRecDepth 10000
set_option linter.unusedVariables false
set_option linter.unusedSimpArgs false

theorem row_set {w : World} {g : Nat} {l : List Value} {t : TypeId} (h : w.heap[g]? = some (.cells l.toArray t (0, 0))) (i : Nat) (v : Value) : (w.setCell ⟨g, i, none⟩ v).heap[g]? = some (.cells (l.set i v).toArray t (0, 0)) := by
  rw [heap_setCell_same w g i _ t _ h, List.setIfInBounds_toArray]
/-- the parts of bins, one by one -/
def rowsP (h : Nat → Int) : List Value := (List.range 16).map fun j => if j % 2 = 0 then .int .u64 (loI (h (j / 2))) else .int .i64 (hiI (h (j / 2)))
theorem rowsP_len (h : Nat → Int) : (rowsP h).length = 16 := by simp [rowsP]
theorem rowsP_get (h : Nat → Int) {j : Nat} (hj : j < 16) : (rowsP h)[j]? = some (if j % 2 = 0 then .int .u64 (loI (h (j / 2))) else .int .i64 (hiI (h (j / 2)))) := by
  unfold rowsP
  rw [List.getElem?_map, List.getElem?_range hj]; rfl
theorem rowsP_lo (h : Nat → Int) {k : Nat} (hk : k < 8) : (rowsP h)[2 * k]? = some (.int .u64 (loI (h k))) := by
  rw [rowsP_get h (by omega), if_pos (by omega), show 2 * k / 2 = k by omega]
theorem rowsP_hi (h : Nat → Int) {k : Nat} (hk : k < 8) : (rowsP h)[2 * k + 1]? = some (.int .i64 (hiI (h k))) := by
  rw [rowsP_get h (by omega), if_neg (by omega), show (2 * k + 1) / 2 = k by omega]
def upd (h : Nat → Int) (k : Nat) (z : Int) : Nat → Int := fun j => if j = k then z else h j
theorem rowsP_upd (h : Nat → Int) {k : Nat} (hk : k < 8) (z : Int) : ((rowsP h).set (2 * k) (.int .u64 (loI z))).set (2 * k + 1) (.int .i64 (hiI z)) = rowsP (upd h k z) := by
  apply List.ext_getElem?
  intro i
  by_cases hi : i < 16
  · rw [rowsP_get _ hi, List.getElem?_set, List.getElem?_set, rowsP_get h hi, List.length_set, rowsP_len]
    unfold upd
    by_cases h1 : 2 * k + 1 = i
    · rw [if_pos h1, if_pos (by omega), if_neg (by omega), if_pos (by omega)]
    · rw [if_neg h1]
      by_cases h2 : 2 * k = i
      · rw [if_pos h2, if_pos (by omega), if_pos (by omega), if_pos (by omega)]
      · rw [if_neg h2]
        have h3 : i / 2 ≠ k := by omega
        simp only [if_neg h3]
  · rw [List.getElem?_eq_none (by simp [rowsP_len]; omega), List.getElem?_eq_none (by rw [rowsP_len]; omega)]
theorem rowsP_congr {h h' : Nat → Int} (e : ∀ k, k < 8 → h k = h' k) : rowsP h = rowsP h' := by
  unfold rowsP
  refine List.map_congr_left fun j hj => ?_
  have : j < 16 := by simpa using hj
  rw [e (j / 2) (by omega)]
def binL (f n : Int) (any : Bool) (top : Int) (h : Nat → Int) : List Value := [.int .i64 f, .int .i64 n, .bool any, .int .i64 top] ++ rowsP h
/-- bins in a block of their own -/
def BinC (w : World) (g : Nat) (f n : Int) (any : Bool) (top : Int) (h : Nat → Int) : Prop := w.heap[g]? = some (.cells (binL f n any top h).toArray 192 (0, 0))
section
variable {w w' : World} {g : Nat} {f n top : Int} {any : Bool} {h : Nat → Int}
theorem BinC.head (k : BinC w g f n any top h) : w.cell? ⟨g, 0, none⟩ = some (.int .i64 f) ∧ w.cell? ⟨g, 1, none⟩ = some (.int .i64 n) ∧ w.cell? ⟨g, 2, none⟩ = some (.bool any) ∧ w.cell? ⟨g, 3, none⟩ = some (.int .i64 top) :=
  ⟨by rw [cell_of_row w g 0 _ _ _ k]; rfl, by rw [cell_of_row w g 1 _ _ _ k]; rfl, by rw [cell_of_row w g 2 _ _ _ k]; rfl, by rw [cell_of_row w g 3 _ _ _ k]; rfl⟩
theorem BinC.part (k : BinC w g f n any top h) {j : Nat} (hj : j < 8) : w.cell? ⟨g, 4 + j * 2, none⟩ = some (.int .u64 (loI (h j))) ∧ w.cell? ⟨g, 4 + j * 2 + 1, none⟩ = some (.int .i64 (hiI (h j))) := by
  constructor
  · rw [cell_of_row w g _ _ _ _ k, List.getElem?_toArray]
    unfold binL
    rw [List.getElem?_append_right (by simp), show 4 + j * 2 - ([.int .i64 f, .int .i64 n, .bool any, .int .i64 top] : List Value).length = 2 * j by simp; omega, rowsP_lo h hj]
  · rw [cell_of_row w g _ _ _ _ k, List.getElem?_toArray]
    unfold binL
    rw [List.getElem?_append_right (by simp; omega), show 4 + j * 2 + 1 - ([.int .i64 f, .int .i64 n, .bool any, .int .i64 top] : List Value).length = 2 * j + 1 by simp; omega, rowsP_hi h hj]
theorem BinC.frozen (k : BinC w g f n any top h) (j : Nat) : w.frozen? ⟨g, j, none⟩ = false := frozen_of_row w g j _ _ k
theorem BinC.lt (k : BinC w g f n any top h) : g < w.heap.size := (Array.getElem?_eq_some_iff.1 k).1
theorem BinC.setN (k : BinC w g f n any top h) (m : Int) : BinC (w.setCell ⟨g, 1, none⟩ (.int .i64 m)) g f m any top h := row_set k 1 _
theorem BinC.setA (k : BinC w g f n any top h) (b : Bool) : BinC (w.setCell ⟨g, 2, none⟩ (.bool b)) g f n b top h := row_set k 2 _
theorem BinC.setT (k : BinC w g f n any top h) (m : Int) : BinC (w.setCell ⟨g, 3, none⟩ (.int .i64 m)) g f n any m h := row_set k 3 _
theorem BinC.setP (k : BinC w g f n any top h) {j : Nat} (hj : j < 8) (z : Int) : BinC ((w.setCell ⟨g, 4 + j * 2, none⟩ (.int .u64 (loI z))).setCell ⟨g, 4 + j * 2 + 1, none⟩ (.int .i64 (hiI z))) g f n any top (upd h j z) := by
  have h1 := row_set (row_set k (4 + j * 2) (.int .u64 (loI z))) (4 + j * 2 + 1) (.int .i64 (hiI z))
  unfold BinC
  rw [h1]
  unfold binL
  rw [List.set_append_right _ _ (by simp), List.set_append_right _ _ (by simp; omega), show 4 + j * 2 - ([.int .i64 f, .int .i64 n, .bool any, .int .i64 top] : List Value).length = 2 * j by simp; omega, show 4 + j * 2 + 1 - ([.int .i64 f, .int .i64 n, .bool any, .int .i64 top] : List Value).length = 2 * j + 1 by simp; omega, rowsP_upd h hj]
theorem BinC.other (k : BinC w g f n any top h) {a : Addr} (ha : a.block ≠ g) (v : Value) : BinC (w.setCell a v) g f n any top h := by
  unfold BinC; rw [heap_setCell_other _ _ _ _ (fun e => ha e.symm)]; exact k
theorem BinC.below {B : Nat} (k : BinC w g f n any top h) (hb : Below B w w') (hg : g < B) : BinC w' g f n any top h := by
  unfold BinC; rw [hb.block _ hg]; exact k
theorem BinC.grow (k : BinC w g f n any top h) (hb : Below w.heap.size w w') : BinC w' g f n any top h := k.below hb k.lt
theorem BinC.alloc (k : BinC w g f n any top h) (o : Obj) : BinC (w.alloc o) g f n any top h := k.below ((Below.refl w.heap.size w).alloc (Nat.le_refl _) o) k.lt
theorem BinC.drew (k : BinC w g f n any top h) : BinC w.drew g f n any top h := k
theorem BinC.grown (k : BinC w g f n any top h) {r : Nat} (hk : w.grownBy w' (some r)) (hne : g ≠ r) : BinC w' g f n any top h := (hk.block g k.lt (by simpa using hne)).trans k
theorem BinC.congr (k : BinC w g f n any top h) {h' : Nat → Int} (e : ∀ j, j < 8 → h j = h' j) : BinC w g f n any top h' := by
  unfold BinC binL; rw [← rowsP_congr e]; exact k
end
/-- bins hold what numbers came to -/
def BinAt (w : World) (g f : Nat) (A : Bn) : Prop := BinC w g f A.n (decide (0 < A.len)) (if 0 < A.len then (A.len : Int) - 35 else 0) (A.win f)

set_option maxHeartbeats 4000000 in
theorem padd_any (g k : Nat) (f n : Int) (any : Bool) (top : Int) (h : Nat → Int) (v : Int) (w : World) (hB : BinC w g f n any top h) (hk : k < 8) (b1 : (h k).natAbs < 4722366482869645213696) (b2 : v.natAbs < 4722366482869645213696) :
    Calls Tryz.prog 195 #[.pointer (some ⟨g, 4 + k * 2, none⟩), .agg #[.int .u64 (loI v), .int .i64 (hiI v)]] w fun en w' => en = .returned (.tuple #[]) ∧ BinC w' g f n any top (upd h k (h k + v)) ∧ w.grownBy w' (some g) := by
  obtain ⟨z, hz⟩ : ∃ z, z = h k := ⟨_, rfl⟩
  obtain ⟨e1, e2⟩ := lohi_add z v
  obtain ⟨w1, e3⟩ : ∃ W, W = w.alloc (.cells #[.int .u64 (loI v), .int .i64 (hiI v)] 189) := ⟨_, rfl⟩
  obtain ⟨k1, c1, s1⟩ := new_of e3 rfl
  have hB1 := hB.below c1 hB.lt
  obtain ⟨x0, x1⟩ := hB1.part hk
  obtain ⟨y0, y1⟩ := pol_cells k1
  have f1 := hB1.frozen (4 + k * 2)
  have f2 := hB1.frozen (4 + k * 2 + 1)
  have hlt := hB.lt
  rw [← hz] at x0 x1 b1
  have l1 : 0 ≤ loI z ∧ loI z < 18446744073709551616 := by unfold loI; omega
  have l2 : 0 ≤ loI v ∧ loI v < 18446744073709551616 := by unfold loI; omega
  have i1 : -257 ≤ hiI z ∧ hiI z ≤ 257 := by unfold hiI; omega
  have i2 : -257 ≤ hiI v ∧ hiI v ≤ 257 := by unfold hiI; omega
  have hA : ∀ W, (callFunc 265 #[.int .u64 (loI z), .int .u64 (loI v), .int .u64 0]).run Tryz.prog W = .ok (.value (.tuple #[.int .u64 (loI (z + v)), .int .u64 ((loI z + loI v) / 18446744073709551616)])) W := by
    intro W
    have := ext_add64 (loI z) (loI v) 0 l1.1 l1.2 l2.1 l2.2 (by decide) (by decide) W
    rw [Int.add_zero] at this
    rw [this, e1]
  have HF : Hid (∀ W, BinC W g f n any top h → w.grownBy W (some g) → BinC ((W.setCell ⟨g, 4 + k * 2, none⟩ (.int .u64 (loI (z + v)))).setCell ⟨g, 4 + k * 2 + 1, none⟩ (.int .i64 (hiI z + hiI v + (loI z + loI v) / 18446744073709551616))) g f n any top (upd h k (h k + v)) ∧ w.grownBy ((W.setCell ⟨g, 4 + k * 2, none⟩ (.int .u64 (loI (z + v)))).setCell ⟨g, 4 + k * 2 + 1, none⟩ (.int .i64 (hiI z + hiI v + (loI z + loI v) / 18446744073709551616))) (some g)) := by
    intro W hW hG
    rw [← e2, ← hz]
    exact ⟨hW.setP hk _, grown_set' (grown_set' hG _ _) _ _⟩
  have HG1 : Hid (w.grownBy w1 (some g)) := ⟨c1.os, c1.tape, c1.output, c1.size, fun j hj _ => c1.block j hj⟩
  have HB1 := Lib.hid hB1
  have E3 := Lib.hid e3
  have o1 : 0 ≤ (loI z + loI v) / 18446744073709551616 ∧ (loI z + loI v) / 18446744073709551616 ≤ 1 := by omega
  obtain ⟨cr, hcr⟩ : ∃ cr, cr = (loI z + loI v) / 18446744073709551616 := ⟨_, rfl⟩
  obtain ⟨lz, hlz⟩ : ∃ x, x = loI (z + v) := ⟨_, rfl⟩
  rw [← hcr] at hA HF o1
  rw [← hlz] at hA HF
  obtain ⟨a, ha⟩ : ∃ a, a = loI z := ⟨_, rfl⟩
  obtain ⟨b, hb⟩ : ∃ b, b = loI v := ⟨_, rfl⟩
  obtain ⟨c, hc⟩ : ∃ c, c = hiI z := ⟨_, rfl⟩
  obtain ⟨d, hd⟩ : ∃ d, d = hiI v := ⟨_, rfl⟩
  rw [← ha, ← hb] at hA
  rw [← ha] at x0
  rw [← hc] at x1 i1
  rw [← hb] at y0
  rw [← hd] at y1 i2
  rw [← hc, ← hd] at HF
  rw [← hb, ← hd] at E3 ⊢
  clear e3 k1 c1 hB1 hB e1 e2 hz l1 l2 hcr hlz ha hb hc hd b1 b2
  have w1' : IntKind.i64.wrap (c + d) = c + d := by rw [IntKind.wrap_i64]; omega
  have w2' : IntKind.i64.wrap (c + d + cr) = c + d + cr := by rw [IntKind.wrap_i64]; omega
  have w3' : IntKind.i64.wrap cr = cr := by rw [IntKind.wrap_i64]; omega
  obtain ⟨i11, i12⟩ := i1
  obtain ⟨i21, i22⟩ := i2
  obtain ⟨o11, o12⟩ := o1
  go_enter Tryz.func195, Tryz.ntmps195
  go_wp2_with fail
  rw [← E3.out]
  go_region
  all_goals
    go_wp2_with fail
    go_region
  all_goals
    go_wp2_with fail
    go_end0
    exact ⟨rfl, (HF.out _ HB1.out HG1.out).1, gr_drew (gr_drew (HF.out _ HB1.out HG1.out).2)⟩

set_option maxHeartbeats 2000000 in
theorem bnew_any (f : Nat) (w : World) (h1 : 1 ≤ f) (h2 : f ≤ 8) : Calls Tryz.prog 77 #[.int .i64 f] w fun en w' => en = .returned (.pointer (some ⟨w.heap.size, 0, none⟩)) ∧ BinAt w' w.heap.size f Bn.zero ∧ Below w.heap.size w w' := by
  have hz : (binL f 0 false 0 (Bn.zero.win f)) = [.int .i64 f, .int .i64 0, .bool false, .int .i64 0, .int .u64 0, .int .i64 0, .int .u64 0, .int .i64 0, .int .u64 0, .int .i64 0, .int .u64 0, .int .i64 0, .int .u64 0, .int .i64 0, .int .u64 0, .int .i64 0, .int .u64 0, .int .i64 0, .int .u64 0, .int .i64 0] := by
    unfold binL
    rw [rowsP_congr (h' := fun _ => 0) (fun k _ => by unfold Bn.win Bn.zero; split <;> rfl)]
    rfl
  have HZ := Lib.hid hz
  clear hz
  go_enter Tryz.func77, Tryz.ntmps77
  go_wp2_with fail
  go_ret
  refine ⟨rfl, ?_, (Below.refl _ _).alloc (Nat.le_refl _) _⟩
  unfold BinAt BinC
  rw [show (if 0 < Bn.zero.len then ((Bn.zero.len : Nat) : Int) - 35 else 0) = 0 from rfl, show decide (0 < Bn.zero.len) = false from rfl, show ((Bn.zero.n : Nat) : Int) = 0 from rfl, HZ.out]
  exact heap_alloc_new _ _
theorem bnewN_any (f : Int) (w : World) (h : f < 1 ∨ 8 < f) : Calls Tryz.prog 77 #[.int .i64 f] w fun en w' => en = .returned (.pointer none) ∧ w = w' := by
  rcases h with h | h
  all_goals
    go_enter Tryz.func77, Tryz.ntmps77
    go_wp2_with fail
    go_ret
    exact ⟨rfl, rfl⟩
theorem bcount_any (A : Bn) (g f : Nat) (w : World) (h : BinAt w g f A) : Calls Tryz.prog 82 #[.pointer (some ⟨g, 0, none⟩)] w fun en w' => en = .returned (.int .i64 A.n) ∧ w = w' := by
  obtain ⟨_, x1, _, _⟩ := BinC.head h
  clear h
  go_enter Tryz.func82, Tryz.ntmps82
  go_wp2_with fail
  go_ret
  exact ⟨rfl, rfl⟩
theorem bfold_any (A : Bn) (g f : Nat) (w : World) (h : BinAt w g f A) : Calls Tryz.prog 83 #[.pointer (some ⟨g, 0, none⟩)] w fun en w' => en = .returned (.int .i64 f) ∧ w = w' := by
  obtain ⟨x0, _, _, _⟩ := BinC.head h
  clear h
  go_enter Tryz.func83, Tryz.ntmps83
  go_wp2_with fail
  go_ret
  exact ⟨rfl, rfl⟩
end Go.Proofs.YteahdgbokjbgcaaGreatDoor
namespace Go.Proofs.YteahdgbokjbgcaaGreatDoor
open Go.RowKit
set_option maxRecDepth 10000
set_option linter.unusedVariables false
set_option linter.unusedSimpArgs false

theorem info_parts : (Tryz.prog.info? 190).map (·.size) = some 16 := by kernel_rfl
/-- an array of parts in a block of its own -/
def ParC (w : World) (g : Nat) (h : Nat → Int) : Prop := w.heap[g]? = some (.cells (rowsP h).toArray 190 (0, 0))
theorem ParC.part {w : World} {g : Nat} {h : Nat → Int} (k : ParC w g h) {j : Nat} (hj : j < 8) : w.cell? ⟨g, j * 2, none⟩ = some (.int .u64 (loI (h j))) ∧ w.cell? ⟨g, j * 2 + 1, none⟩ = some (.int .i64 (hiI (h j))) :=
  ⟨by rw [cell_of_row w g _ _ _ _ k, List.getElem?_toArray, Nat.mul_comm, rowsP_lo h hj], by rw [cell_of_row w g _ _ _ _ k, List.getElem?_toArray, Nat.mul_comm, rowsP_hi h hj]⟩
theorem ParC.grown {w w' : World} {g r : Nat} {h : Nat → Int} (k : ParC w g h) (hk : w.grownBy w' (some r)) (hne : g ≠ r) : ParC w' g h := (hk.block g (Array.getElem?_eq_some_iff.1 k).1 (by simpa using hne)).trans k
theorem rowsP_one (h : Nat → Int) : ∀ v ∈ rowsP h, v.oneCell' = true := by
  intro v hv
  unfold rowsP at hv
  obtain ⟨j, _, rfl⟩ := List.mem_map.1 hv
  split <;> rfl
theorem rowsP_all (h : Nat → Int) : (rowsP h).toArray.all (·.oneCell') = true := by
  rw [List.all_toArray, List.all_eq_true]
  exact rowsP_one h
theorem zero_parts : (#[.int .u64 0, .int .i64 0, .int .u64 0, .int .i64 0, .int .u64 0, .int .i64 0, .int .u64 0, .int .i64 0, .int .u64 0, .int .i64 0, .int .u64 0, .int .i64 0, .int .u64 0, .int .i64 0, .int .u64 0, .int .i64 0] : Array Value) = (rowsP fun _ => 0).toArray := by kernel_rfl
theorem BinC.parts {w : World} {g : Nat} {f n top : Int} {any : Bool} {h : Nat → Int} (k : BinC w g f n any top h) : ∀ j v, (rowsP h)[j]? = some v → w.cell? ⟨g, 4 + j, none⟩ = some v := by
  intro j v hv
  rw [cell_of_row w g _ _ _ _ k, List.getElem?_toArray]
  unfold binL
  rw [List.getElem?_append_right (by simp), show 4 + j - ([.int .i64 f, .int .i64 n, .bool any, .int .i64 top] : List Value).length = j by simp, hv]
/-- what stands there while the parts move down -/
def shf (A : Bn) (f u j k : Nat) : Int := if k < j then (if u ≤ k ∧ k < f then A.win f (k - u) else 0) else A.win f k
theorem upd_shf0 (A : Bn) (f u j k : Nat) (h : ¬ (u ≤ j ∧ j < f)) : upd (shf A f u j) j 0 k = shf A f u (j + 1) k := by
  unfold upd shf
  by_cases h1 : k = j
  · subst h1
    rw [if_pos rfl, if_pos (show k < k + 1 by omega), if_neg h]
  · rw [if_neg h1]
    by_cases h2 : k < j
    · simp only [if_pos h2, if_pos (show k < j + 1 by omega)]
    · simp only [if_neg h2, if_neg (show ¬ k < j + 1 by omega)]
theorem upd_shf1 (A : Bn) (f u j k : Nat) (h : u ≤ j ∧ j < f) : upd (upd (shf A f u j) j 0) j (A.win f (j - u)) k = shf A f u (j + 1) k := by
  unfold upd shf
  by_cases h1 : k = j
  · subst h1
    rw [if_pos rfl, if_pos (show k < k + 1 by omega), if_pos h]
  · rw [if_neg h1, if_neg h1]
    by_cases h2 : k < j
    · simp only [if_pos h2, if_pos (show k < j + 1 by omega)]
    · simp only [if_neg h2, if_neg (show ¬ k < j + 1 by omega)]

def RaiseQ (A : Bn) (g f i : Nat) (w : World) (en : Ending) (w' : World) : Prop := en = .returned (.int .i64 (((max A.len (i + 1) : Nat) : Int) - 1 - i)) ∧ BinAt w' g f (A.rise i) ∧ w.grownBy w' (some g)
set_option maxHeartbeats 8000000 in
theorem raise_any (A : Bn) (g f i : Nat) (b : Int) (w : World) (hK : ∀ j, A.len ≤ j → A.K j = 0) (hl : A.len ≤ 68) (hi : i ≤ 68) (hf : f ≤ 8) (b1 : b + 34 ≤ i) (b2 : (i : Int) ≤ b + 34) (hB : BinAt w g f A) :
    Calls Tryz.prog 194 #[.pointer (some ⟨g, 0, none⟩), .int .i64 b] w (RaiseQ A g f i w) := by
  have hlt := BinC.lt hB
  obtain ⟨x0, x1, x2, x3⟩ := BinC.head hB
  have f2 := BinC.frozen hB 2
  have f3 := BinC.frozen hB 3
  have hrl : (A.rise i).len = max A.len (i + 1) := rfl
  have hrn : (A.rise i).n = A.n := rfl
  by_cases h0 : A.len = 0
  · have hw : ∀ k, A.win f k = 0 := fun k => by unfold Bn.win; rw [if_neg (by omega)]
    have hw2 : ∀ k, (A.rise i).win f k = 0 := fun k => by
      unfold Bn.win; split
      · exact hK _ (by rw [h0]; exact Nat.zero_le _)
      · rfl
    rw [show decide (0 < A.len) = false from decide_eq_false (by omega)] at x2
    rw [if_neg (show ¬ 0 < A.len by omega)] at x3
    have HF : Hid (BinAt ((w.setCell ⟨g, 2, none⟩ (.bool true)).setCell ⟨g, 3, none⟩ (.int .i64 b)) g f (A.rise i) ∧ w.grownBy ((w.setCell ⟨g, 2, none⟩ (.bool true)).setCell ⟨g, 3, none⟩ (.int .i64 b)) (some g)) := by
      refine ⟨?_, grown_set' (grown_set' (grown_refl _ _) _ _) _ _⟩
      have h1 := (BinC.setA hB true).setT b
      unfold BinAt
      rw [hrl, hrn, show decide (0 < max A.len (i + 1)) = true from decide_eq_true (by omega), if_pos (by omega), show (((max A.len (i + 1) : Nat) : Int) - 35) = b by omega]
      exact h1.congr fun k _ => by rw [hw, hw2]
    have HR : Hid ((((max A.len (i + 1) : Nat) : Int) - 1 - i) = 0) := by show _ = _; omega
    have e1 : IntKind.i64.wrap (b - b) = 0 := by rw [Int.sub_self]; rfl
    clear hB hK hw hw2 hrl hrn h0
    go_enter Tryz.func194, Tryz.ntmps194
    go_wp2_with fail
    go_ret
    exact ⟨by rw [HR.out]; simp, HF.out.1, HF.out.2⟩
  rw [show decide (0 < A.len) = true from decide_eq_true (by omega)] at x2
  rw [if_pos (show 0 < A.len by omega)] at x3
  by_cases h1 : i < A.len
  · have HF : Hid (BinAt w g f (A.rise i)) := by rw [rise_low h1]; exact hB
    have HR : Hid ((((max A.len (i + 1) : Nat) : Int) - 1 - i) = (A.len : Int) - 35 - b) := by show _ = _; omega
    clear hB hK hrl hrn
    go_enter Tryz.func194, Tryz.ntmps194
    go_wp2_with fail
    go_ret
    exact ⟨by rw [HR.out]; rfl, HF.out, grown_refl _ _⟩
  obtain ⟨u, hu⟩ : ∃ u, u = i + 1 - A.len := ⟨_, rfl⟩
  have hu2 : b - ((A.len : Int) - 35) = (u : Int) := by omega
  have hu3 : IntKind.i64.wrap (u : Int) = (u : Int) := by rw [IntKind.wrap_i64]; omega
  have hu4 : 0 < u ∧ u ≤ 69 := by omega
  obtain ⟨hu5, hu6⟩ := hu4
  obtain ⟨w1, e1⟩ : ∃ W, W = w.alloc (.cells #[.int .u64 0, .int .i64 0, .int .u64 0, .int .i64 0, .int .u64 0, .int .i64 0, .int .u64 0, .int .i64 0, .int .u64 0, .int .i64 0, .int .u64 0, .int .i64 0, .int .u64 0, .int .i64 0, .int .u64 0, .int .i64 0] 190) := ⟨_, rfl⟩
  have k1 : ParC w1 w.heap.size (fun _ => 0) := by rw [e1, zero_parts]; exact heap_alloc_new _ _
  have c1 : Below w.heap.size w w1 := by rw [e1]; exact (Below.refl _ _).alloc (Nat.le_refl _) _
  obtain ⟨w2, e2⟩ : ∃ W, W = w1.setRow w.heap.size (rowsP (A.win f)).toArray := ⟨_, rfl⟩
  have k2 : ParC w2 w.heap.size (A.win f) := by rw [e2]; unfold ParC at *; rw [heap_setRow, if_pos rfl, k1]; rfl
  have c2 : Below w.heap.size w w2 := by rw [e2]; exact bel_grown c1 (Nat.le_refl _) (grown_row _ _ _) (Nat.le_refl _)
  have hB2 : BinC w2 g f A.n true ((A.len : Int) - 35) (A.win f) := by
    have := BinC.below hB c2 hlt
    rw [show decide (0 < A.len) = true from decide_eq_true (by omega), if_pos (show 0 < A.len by omega)] at this
    exact this
  have HB := Lib.hid hB
  have K1 := Lib.hid k1; have E1 := Lib.hid e1; have E2 := Lib.hid e2
  have K2 := Lib.hid k2; have B2 := Lib.hid hB2
  have HG2 : Hid (w.grownBy w2 (some g)) := ⟨c2.os, c2.tape, c2.output, c2.size, fun j hj _ => c2.block j hj⟩
  have HE : Hid (∀ W, BinC W g f A.n true ((A.len : Int) - 35) (shf A f u 8) → w.grownBy W (some g) → BinAt (W.setCell ⟨g, 3, none⟩ (.int .i64 b)) g f (A.rise i) ∧ w.grownBy (W.setCell ⟨g, 3, none⟩ (.int .i64 b)) (some g)) := by
    intro W hW hG
    refine ⟨?_, grown_set' hG _ _⟩
    unfold BinAt
    rw [hrl, hrn, show decide (0 < max A.len (i + 1)) = true from decide_eq_true (by omega), if_pos (by omega), show (((max A.len (i + 1) : Nat) : Int) - 35) = b by omega]
    refine (hW.setT b).congr fun k hk => ?_
    rw [rise_win hK k (by omega), ← hu]
    unfold shf
    rw [if_pos hk]
  have HR : Hid ((((max A.len (i + 1) : Nat) : Int) - 1 - i) = 0) := by show _ = _; omega
  have hne : g ≠ w.heap.size := by omega
  have s2 : w.heap.size < w2.heap.size := by
    have := (Array.getElem?_eq_some_iff.1 k2).1; exact this
  have HUse := Lib.hid hu
  have hb0 : IntKind.i64.wrap (b - b) = 0 := by rw [Int.sub_self]; rfl
  clear hB k1 e1 k2 e2 c1 c2 hB2 hK hrl hrn hu h0
  go_enter Tryz.func194, Tryz.ntmps194
  go_wp2_with (first
    | (refine wpList_load_cells rfl 190 _ rfl g 4 rfl (rowsP (A.win f)) _ HB.out.parts Tryz.underlying190 rfl (by rw [rowsP_len]; exact info_parts) ?_)
    | (rw [← E1.out]; refine wpList_store_row rfl 190 _ _ rfl w.heap.size (rowsP (A.win f)).toArray rfl rfl 190 (rowsP (fun _ => 0)).toArray K1.out (by rw [List.size_toArray, rowsP_len]; exact info_parts) (by rw [List.size_toArray, List.size_toArray, rowsP_len, rowsP_len]) (rowsP_all _) ?_))
  rw [← E2.out]
  go_loopw [32] (fun ii wr => ∃ j : Nat, j ≤ 8 ∧ ii = .int .i64 j ∧ Hid (BinC wr g f A.n true ((A.len : Int) - 35) (shf A f u j) ∧ ParC wr w.heap.size (A.win f) ∧ w.grownBy wr (some g))) (fun ii _ => 8 - (intOf ii).toNat)
  case atStart => exact ⟨0, by omega, rfl, B2.out.congr fun k _ => by unfold shf; rw [if_neg (by omega)], K2.out, HG2.out⟩
  case round =>
    obtain ⟨j, hj, rfl, hH⟩ := hrel
    by_cases hj8 : j < 8
    · obtain ⟨y0, _, _, _⟩ := hH.out.1.head
      obtain ⟨y1, y2⟩ := hH.out.1.part hj8
      have z1 := hH.out.1.frozen (4 + j * 2)
      have z2 := hH.out.1.frozen (4 + j * 2 + 1)
      have HZ : Hid (∀ W, BinC W g f A.n true ((A.len : Int) - 35) (shf A f u j) → BinC ((W.setCell ⟨g, 4 + j * 2, none⟩ (.int .u64 0)).setCell ⟨g, 4 + j * 2 + 1, none⟩ (.int .i64 0)) g f A.n true ((A.len : Int) - 35) (upd (shf A f u j) j 0)) := fun W hW => hW.setP hj8 0
      obtain ⟨wx, ex⟩ : ∃ W, W = (wr.setCell ⟨g, 4 + j * 2, none⟩ (.int .u64 0)).setCell ⟨g, 4 + j * 2 + 1, none⟩ (.int .i64 0) := ⟨_, rfl⟩
      have hX : BinC wx g f A.n true ((A.len : Int) - 35) (upd (shf A f u j) j 0) := by rw [ex]; exact HZ.out _ hH.out.1
      have hXP : ParC wx w.heap.size (A.win f) := by rw [ex]; exact hH.out.2.1.grown (grown_set' (grown_set' (grown_refl _ _) _ _) _ _) (fun e => hne e.symm)
      have hXG : w.grownBy wx (some g) := by rw [ex]; exact grown_set' (grown_set' hH.out.2.2 _ _) _ _
      have EX := Lib.hid ex
      clear ex hH HZ
      by_cases hc : u ≤ j ∧ j < f
      · obtain ⟨hc1, hc2⟩ := hc
        obtain ⟨p0, p1⟩ := hXP.part (j := j - u) (by omega)
        obtain ⟨y3, y4⟩ := hX.part hj8
        obtain ⟨y5, _, _, _⟩ := hX.head
        have z3 := hX.frozen (4 + j * 2)
        have z4 := hX.frozen (4 + j * 2 + 1)
        have hju : IntKind.i64.wrap ((j : Int) - u) = ((j - u : Nat) : Int) := by rw [IntKind.wrap_i64]; omega
        have HX : Hid (BinC ((wx.setCell ⟨g, 4 + j * 2, none⟩ (.int .u64 (loI (A.win f (j - u))))).setCell ⟨g, 4 + j * 2 + 1, none⟩ (.int .i64 (hiI (A.win f (j - u))))) g f A.n true ((A.len : Int) - 35) (shf A f u (j + 1)) ∧ ParC ((wx.setCell ⟨g, 4 + j * 2, none⟩ (.int .u64 (loI (A.win f (j - u))))).setCell ⟨g, 4 + j * 2 + 1, none⟩ (.int .i64 (hiI (A.win f (j - u))))) w.heap.size (A.win f) ∧ w.grownBy ((wx.setCell ⟨g, 4 + j * 2, none⟩ (.int .u64 (loI (A.win f (j - u))))).setCell ⟨g, 4 + j * 2 + 1, none⟩ (.int .i64 (hiI (A.win f (j - u))))).drew (some g)) :=
          ⟨(hX.setP hj8 _).congr fun k _ => upd_shf1 A f u j k ⟨hc1, hc2⟩, hXP.grown (grown_set' (grown_set' (grown_refl _ _) _ _) _ _) (fun e => hne e.symm), gr_drew (grown_set' (grown_set' hXG _ _) _ _)⟩
        obtain ⟨lo, hlo⟩ : ∃ x, x = loI (A.win f (j - u)) := ⟨_, rfl⟩
        obtain ⟨hi', hhi⟩ : ∃ x, x = hiI (A.win f (j - u)) := ⟨_, rfl⟩
        rw [← hlo] at p0 HX
        rw [← hhi] at p1 HX
        clear hlo hhi hX hXP hXG
        go_wp2_with fail
        rw [← EX.out]
        go_region
        all_goals
          go_wp2_with fail
          go_roundw
          case rel => exact ⟨j + 1, by omega, by go_num, HX.out⟩
          case measure => simp [intOf]; omega
      · have HX : Hid (BinC wx g f A.n true ((A.len : Int) - 35) (shf A f u (j + 1)) ∧ ParC wx w.heap.size (A.win f) ∧ w.grownBy wx (some g)) := ⟨hX.congr fun k _ => upd_shf0 A f u j k hc, hXP, hXG⟩
        have hor : j < u ∨ (u ≤ j ∧ f ≤ j) := by omega
        obtain ⟨y5, _, _, _⟩ := hX.head
        have hxc : wx.cell? ⟨g, 0, none⟩ = some (.int .i64 f) := y5
        clear hX hXP hXG hc
        rcases hor with hc | ⟨hc, hc2⟩
        all_goals
          go_wp2_with fail
          rw [← EX.out]
          go_roundw
          case rel => exact ⟨j + 1, by omega, by go_num, HX.out⟩
          case measure => simp [intOf]; omega
    · obtain rfl : j = 8 := by omega
      obtain ⟨y0, _, _, y3⟩ := hH.out.1.head
      have z1 := hH.out.1.frozen 3
      have HX := Lib.hid (HE.out wr hH.out.1 hH.out.2.2)
      clear hH
      go_wp2_with fail
      go_ret
      exact ⟨by rw [HR.out]; simp, HX.out.1, HX.out.2⟩
end Go.Proofs.YteahdgbokjbgcaaGreatDoor
namespace Go.Proofs.YteahdgbokjbgcaaGreatDoor
open Go.RowKit
set_option maxRecDepth 10000
set_option linter.unusedVariables false
set_option linter.unusedSimpArgs false

/-- bins while a number's slices go in -/
structure Bn.Sm (A : Bn) (m : Nat) : Prop where
  hi : ∀ i, A.len ≤ i → A.K i = 0
  bd : ∀ i, (A.K i).natAbs ≤ m * 4294967295
  len : A.len ≤ 68
theorem slice_sm {A : Bn} {m i c : Nat} (s : Bool) (h : A.Sm m) (hi : i ≤ 67) (hc : c < 4294967296) : (A.slice i (sgn s c)).Sm (m + 1) := by
  have hv : (sgn s c).natAbs = c := sgn_abs s c
  refine ⟨fun j hj => ?_, fun j => ?_, ?_⟩
  · rw [slice_len] at hj
    rw [slice_K]
    split at hj
    · rename_i h0
      rw [h0]
      split
      · rw [h.hi j hj]; rfl
      · exact h.hi j hj
    · rw [if_neg (by omega)]; exact h.hi j (by omega)
  · rw [slice_K]
    have h3 := h.bd j
    have h4 : (sgn s c).natAbs ≤ 4294967295 := by rw [hv]; omega
    clear hv
    generalize sgn s c = v at *
    generalize A.K j = z at *
    rw [Nat.succ_mul]
    split
    · exact Nat.le_trans (Int.natAbs_add_le z v) (Nat.add_le_add h3 h4)
    · exact Nat.le_trans h3 (Nat.le_add_right _ _)
  · rw [slice_len]
    have := h.len
    split <;> omega
theorem win_sm {A : Bn} {m : Nat} (h : ∀ i, (A.K i).natAbs ≤ m * 4294967295) (hm : m ≤ 1099511627777) (f k : Nat) : (A.win f k).natAbs < 4722366482869645213696 := by
  unfold Bn.win
  split
  · have h1 := h (A.len - 1 - k)
    omega
  · decide
theorem lohi_sgn (s : Bool) {c : Nat} (hc : c < 4294967296) (h0 : 0 < c) : loI (sgn s c) = (if s = true then 18446744073709551616 - (c : Int) else c) ∧ hiI (sgn s c) = (if s = true then -1 else 0) := by
  unfold loI hiI sgn
  cases s
  · simp only [Bool.false_eq_true, if_false]; omega
  · simp only [if_true]; omega
/-- what the closure reads -/
structure Cap (w : World) (g gb gp : Nat) (s : Bool) : Prop where
  b : w.cell? ⟨gb, 0, none⟩ = some (.pointer (some ⟨g, 0, none⟩))
  p : w.cell? ⟨gp, 0, none⟩ = some (.bool s)
  nb : gb ≠ g
  np : gp ≠ g
  lb : gb < w.heap.size
  lp : gp < w.heap.size
theorem Cap.grown {w w' : World} {g gb gp : Nat} {s : Bool} (h : Cap w g gb gp s) (hk : w.grownBy w' (some g)) : Cap w' g gb gp s := by
  have e1 := hk.block gb h.lb (by simpa using h.nb)
  have e2 := hk.block gp h.lp (by simpa using h.np)
  refine ⟨?_, ?_, h.nb, h.np, Nat.lt_of_lt_of_le h.lb hk.size, Nat.lt_of_lt_of_le h.lp hk.size⟩
  · have := h.b
    unfold World.cell? at this ⊢
    rw [e1]; exact this
  · have := h.p
    unfold World.cell? at this ⊢
    rw [e2]; exact this
def SliceQ (A : Bn) (g f : Nat) (w : World) (en : Ending) (w' : World) : Prop := en = .returned (.tuple #[]) ∧ BinAt w' g f A ∧ w.grownBy w' (some g)
set_option maxHeartbeats 8000000 in
theorem binclo_any (A : Bn) (m g f i gb gp : Nat) (b : Int) (c : Nat) (s : Bool) (w : World) (hS : A.Sm m) (hm : m ≤ 1099511627777) (hi : i ≤ 67) (hf : f ≤ 8) (b1 : b + 34 ≤ i) (b2 : (i : Int) ≤ b + 34) (hc : c < 4294967296) (hB : BinAt w g f A) (hC : Cap w g gb gp s) :
    Calls Tryz.prog 193 #[.int .i64 b, .int .u32 c, .pointer (some ⟨gb, 0, none⟩), .pointer (some ⟨gp, 0, none⟩)] w (SliceQ (A.slice i (sgn s c)) g f w) := by
  by_cases h0 : c = 0
  · subst h0
    have HF : Hid (BinAt w g f (A.slice i (sgn s 0))) := by rw [sgn_zero]; unfold Bn.slice; rw [if_pos rfl]; exact hB
    clear hB hC hS
    go_enter Tryz.func193, Tryz.ntmps193
    go_wp2_with fail
    go_end0
    exact ⟨rfl, HF.out, grown_refl _ _⟩
  have hv : sgn s c ≠ 0 := fun h => h0 (sgn_eq_zero h)
  have hR := fun W (hW : BinAt W g f A) => raise_any A g f i b W hS.hi hS.len (by omega) hf b1 b2 hW
  obtain ⟨x0, x1, x2, x3, x4, x5⟩ := hC
  have hC : Cap w g gb gp s := ⟨x0, x1, x2, x3, x4, x5⟩
  have hrl : (A.slice i (sgn s c)).len = (A.rise i).len := by rw [slice_len, if_neg hv]; rfl
  have hrn : (A.slice i (sgn s c)).n = (A.rise i).n := by rw [slice_n]; rfl
  obtain ⟨t, ht⟩ : ∃ t, t = max A.len (i + 1) - 1 - i := ⟨_, rfl⟩
  have ht2 : (((max A.len (i + 1) : Nat) : Int) - 1 - i) = (t : Int) := by omega
  have ht3 : t ≤ 68 := by have := hS.len; omega
  have hS2 : ∀ k, (A.slice i (sgn s c)).win f k = if k < f ∧ k = t then (A.rise i).win f k + sgn s c else (A.rise i).win f k := fun k => by rw [slice_win hv k, ht]
  have HR : Hid (∀ W, BinAt W g f A → Calls Tryz.prog 194 #[.pointer (some ⟨g, 0, none⟩), .int .i64 b] W fun en w' => en = .returned (.int .i64 (t : Int)) ∧ BinAt w' g f (A.rise i) ∧ W.grownBy w' (some g)) := by
    intro W hW
    refine (hR W hW).mono ?_
    rintro en w' ⟨rfl, h1, h2⟩
    exact ⟨by rw [ht2], h1, h2⟩
  have HB := Lib.hid hB; have HC := Lib.hid hC
  have HS2 := Lib.hid hS2; have HRL := Lib.hid (And.intro hrl hrn)
  have HWB : Hid (∀ k, ((A.rise i).win f k).natAbs < 4722366482869645213696) := fun k => win_sm (A := A.rise i) (fun j => hS.bd j) (by omega) f k
  obtain ⟨e1, e2⟩ := lohi_sgn s hc (by omega)
  have hcs : (sgn s c).natAbs < 4722366482869645213696 := by rw [sgn_abs]; omega
  clear hR hB hC hS2 hrl hrn ht ht2 x0 x1 x2 x3 x4 x5 hS hv
  go_enter Tryz.func193, Tryz.ntmps193
  have x0 := HC.out.b
  go_wp2_with fail
  refine (HR.out w HB.out).mono ?_; rintro en w1 ⟨rfl, hB1, hG1⟩
  have HB1 := Lib.hid hB1; have HG1 := Lib.hid hG1
  have HC1 := Lib.hid (HC.out.grown hG1)
  have x0 := HC1.out.b
  have x1 := HC1.out.p
  obtain ⟨y0, _, _, _⟩ := hB1.head
  clear hB1 hG1
  by_cases htf : t < f
  · have hP := fun W (hW : BinC W g f (A.rise i).n (decide (0 < (A.rise i).len)) (if 0 < (A.rise i).len then ((A.rise i).len : Int) - 35 else 0) ((A.rise i).win f)) => padd_any g t f (A.rise i).n _ _ ((A.rise i).win f) (sgn s c) W hW (by omega) (HWB.out t) hcs
    have HE : Hid (∀ W, BinC W g f (A.rise i).n (decide (0 < (A.rise i).len)) (if 0 < (A.rise i).len then ((A.rise i).len : Int) - 35 else 0) (upd ((A.rise i).win f) t ((A.rise i).win f t + sgn s c)) → BinAt W g f (A.slice i (sgn s c))) := by
      intro W hW
      unfold BinAt
      rw [HRL.out.1, HRL.out.2]
      refine BinC.congr hW fun k hk => ?_
      rw [HS2.out k]
      unfold upd
      by_cases h1 : k = t
      · rw [if_pos h1, if_pos ⟨by omega, h1⟩, h1]
      · rw [if_neg h1, if_neg (fun h => h1 h.2)]
    rw [e1, e2] at hP
    have HP := Lib.hid hP
    have q1 : (c : Int) / 9223372036854775808 = 0 := by omega
    have q2 : -(c : Int) / 9223372036854775808 = -1 := by omega
    have q3 : IntKind.u64.wrap (-(c : Int)) = 18446744073709551616 - (c : Int) := by rw [IntKind.wrap_u64]; omega
    clear hP e1 e2 hcs
    cases s
    · simp only [Bool.false_eq_true, if_false] at HP
      go_wp2_with fail
      refine (HP.out w1 HB1.out).mono ?_; rintro en w2 ⟨rfl, hB2, hG2⟩
      have HB2 := Lib.hid (HE.out _ hB2); have HG2 := Lib.hid (gr_trans HG1.out hG2)
      clear hB2 hG2
      go_wp2_with fail
      go_end0
      exact ⟨rfl, HB2.out, HG2.out⟩
    · simp only [if_true] at HP
      go_wp2_with fail
      refine (HP.out w1 HB1.out).mono ?_; rintro en w2 ⟨rfl, hB2, hG2⟩
      have HB2 := Lib.hid (HE.out _ hB2); have HG2 := Lib.hid (gr_trans HG1.out hG2)
      clear hB2 hG2
      go_wp2_with fail
      go_end0
      exact ⟨rfl, HB2.out, HG2.out⟩
  · have HE : Hid (BinAt w1 g f (A.slice i (sgn s c))) := by
      unfold BinAt
      rw [HRL.out.1, HRL.out.2]
      refine BinC.congr HB1.out fun k hk => ?_
      rw [HS2.out k, if_neg (by omega)]
    clear e1 e2 hcs
    go_wp2_with fail
    go_end0
    exact ⟨rfl, HE.out, HG1.out⟩

set_option maxHeartbeats 8000000 in
theorem slices_any (A : Bn) (m g f gb gp q sh fr : Nat) (s : Bool) (cl e : Int) (w : World) (hS : A.Sm m) (hm : m ≤ 1099511627775) (hq : q ≤ 64) (hsh : sh < 32) (hf : f ≤ 8) (he : e + 1088 = 32 * q + sh) (hfr : fr < 9007199254740992) (hB : BinAt w g f A) (hC : Cap w g gb gp s) :
    Calls Tryz.prog 192 #[.agg #[.bool s, .int .i64 cl, .int .i64 e, .int .u64 fr], .func (Fn.func 193) #[] #[.pointer (some ⟨gb, 0, none⟩), .pointer (some ⟨gp, 0, none⟩)]] w
      (SliceQ (((A.slice (q + 2) (sgn s (fr * 2 ^ sh / 4294967296 ^ 2 % 4294967296 : Nat))).slice (q + 1) (sgn s (fr * 2 ^ sh / 4294967296 % 4294967296 : Nat))).slice q (sgn s (fr * 2 ^ sh % 4294967296 : Nat))) g f w) := by
  obtain ⟨hi, hhi⟩ : ∃ x, x = fr / 2 ^ (64 - sh) := ⟨_, rfl⟩
  obtain ⟨lo, hlo⟩ : ∃ x, x = fr * 2 ^ sh % 18446744073709551616 := ⟨_, rfl⟩
  have hp := Nat.two_pow_pos sh
  have hpq : 2 ^ sh * 2 ^ (64 - sh) = 18446744073709551616 := by rw [← Nat.pow_add, show sh + (64 - sh) = 64 by omega]
  have hF2 : fr * 2 ^ sh / 4294967296 ^ 2 = hi := by
    rw [hhi, show (4294967296 : Nat) ^ 2 = 2 ^ sh * 2 ^ (64 - sh) by rw [hpq], ← Nat.div_div_eq_div_mul, Nat.mul_div_cancel _ hp]
  have hhi2 : hi < 4294967296 := by
    have h1 : hi ≤ fr / 2 ^ 33 := by
      rw [hhi]
      exact Nat.div_le_div_left (Nat.pow_le_pow_right (by decide) (by omega)) (by decide)
    rw [show (2 : Nat) ^ 33 = 8589934592 from rfl] at h1
    omega
  have hlo2 : lo < 18446744073709551616 := by rw [hlo]; exact Nat.mod_lt _ (by decide)
  obtain ⟨F, hF⟩ : ∃ F, F = fr * 2 ^ sh := ⟨_, rfl⟩
  rw [← hF] at hF2 hlo ⊢
  have c2 : F / 4294967296 ^ 2 % 4294967296 = hi := by rw [hF2]; omega
  have c1 : F / 4294967296 % 4294967296 = lo / 4294967296 := by omega
  have c0 : F % 4294967296 = lo % 4294967296 := by omega
  rw [c2, c1, c0]
  have g1 : ((fr : Int) / 2 ^ (64 - sh)) = (hi : Int) := by rw [hhi]; simp
  have g2 : IntKind.u64.wrap ((fr : Int) * 2 ^ sh) = (lo : Int) := by
    rw [IntKind.wrap_u64, hlo, hF]; simp
  have G1 := Lib.hid g1; have G2 := Lib.hid g2
  obtain ⟨at', hat⟩ : ∃ x : Nat, x = 32 * q + sh := ⟨_, rfl⟩
  have t1 : e + 1088 = (at' : Int) := by omega
  have t2 : (at' : Int) % 32 = (sh : Int) := by omega
  have t3 : (at' : Int) / 32 = (q : Int) := by omega
  have t4 : (64 - (sh : Int)).toNat = 64 - sh := by omega
  have t5 : IntKind.u32.wrap (hi : Int) = (hi : Int) := by rw [IntKind.wrap_u32]; omega
  have t6 : IntKind.u32.wrap ((lo : Int) / 4294967296) = ((lo / 4294967296 : Nat) : Int) := by rw [IntKind.wrap_u32]; omega
  have t7 : IntKind.u32.wrap (lo : Int) = ((lo % 4294967296 : Nat) : Int) := by rw [IntKind.wrap_u32]; omega
  obtain ⟨x0, x1, x2, x3, x4, x5⟩ := hC
  have hC : Cap w g gb gp s := ⟨x0, x1, x2, x3, x4, x5⟩
  have hlt := BinC.lt hB
  obtain ⟨w1, e1⟩ : ∃ W, W = w.alloc (.cells #[.bool s, .int .i64 cl, .int .i64 e, .int .u64 fr] 194) := ⟨_, rfl⟩
  obtain ⟨k1, b1, s1⟩ := new_of e1 rfl
  have hg1 : w.grownBy w1 (some g) := ⟨b1.os, b1.tape, b1.output, b1.size, fun j hj _ => b1.block j hj⟩
  have HB1 := Lib.hid (BinC.below hB b1 hlt)
  have HC1 := Lib.hid (hC.grown hg1)
  have HG1 := Lib.hid hg1
  have y2 : w1.cell? ⟨w.heap.size, 2, none⟩ = some (.int .i64 e) := by rw [cell_of_row w1 _ 2 _ _ _ k1]; rfl
  have y3 : w1.cell? ⟨w.heap.size, 3, none⟩ = some (.int .u64 fr) := by rw [cell_of_row w1 _ 3 _ _ _ k1]; rfl
  have E1 := Lib.hid e1
  have HA2 := Lib.hid (slice_sm (i := q + 2) s hS (by omega) hhi2)
  have hl32 : lo / 4294967296 < 4294967296 := by omega
  have hl0 : lo % 4294967296 < 4294967296 := by omega
  have HA1 := Lib.hid (slice_sm (i := q + 1) s HA2.out (by omega) hl32)
  have H2 := Lib.hid (fun W (hW : BinAt W g f A) (hc : Cap W g gb gp s) => binclo_any A m g f (q + 2) gb gp ((q : Int) + -34 + 2) hi s W hS (by omega) (by omega) hf (by omega) (by omega) hhi2 hW hc)
  have H1 := Lib.hid (fun W (hW : BinAt W g f (A.slice (q + 2) (sgn s hi))) (hc : Cap W g gb gp s) => binclo_any _ (m + 1) g f (q + 1) gb gp ((q : Int) + -34 + 1) (lo / 4294967296) s W HA2.out (by omega) (by omega) hf (by omega) (by omega) hl32 hW hc)
  have H0 := Lib.hid (fun W (hW : BinAt W g f ((A.slice (q + 2) (sgn s hi)).slice (q + 1) (sgn s (lo / 4294967296 : Nat)))) (hc : Cap W g gb gp s) => binclo_any _ (m + 2) g f q gb gp ((q : Int) + -34) (lo % 4294967296) s W HA1.out (by omega) (by omega) hf (by omega) (by omega) hl0 hW hc)
  clear hB hC x0 x1 x2 x3 x4 x5 hS e1 k1 b1 s1 hg1 HA1 HA2 hhi hlo hp hpq hF2 c0 c1 c2 hF g1 g2 hat he
  go_enter Tryz.func192, Tryz.ntmps192
  go_wp2_with fail
  rw [← E1.out]
  go_region
  rw [G1.out, G2.out]
  have HBd : Hid (BinAt w1.drew g f A) := HB1.out
  have HCd : Hid (Cap w1.drew g gb gp s) := ⟨HC1.out.b, HC1.out.p, HC1.out.nb, HC1.out.np, HC1.out.lb, HC1.out.lp⟩
  have HGd : Hid (w.grownBy w1.drew (some g)) := gr_drew HG1.out
  obtain ⟨wd, hwd⟩ : ∃ W, W = w1.drew := ⟨_, rfl⟩
  rw [← hwd] at HBd HCd HGd ⊢
  clear hwd
  go_wp2_with fail
  refine (H2.out wd HBd.out HCd.out).mono ?_; rintro en w2 ⟨rfl, hB2, hG2⟩
  have HB2 := Lib.hid hB2; have HC2 := Lib.hid (HCd.out.grown hG2); have HG2 := Lib.hid (gr_trans HGd.out hG2)
  clear hB2 hG2
  go_wp2_with fail
  refine (H1.out w2 HB2.out HC2.out).mono ?_; rintro en w3 ⟨rfl, hB3, hG3⟩
  have HB3 := Lib.hid hB3; have HC3 := Lib.hid (HC2.out.grown hG3); have HG3 := Lib.hid (gr_trans HG2.out hG3)
  clear hB3 hG3
  go_wp2_with fail
  refine (H0.out w3 HB3.out HC3.out).mono ?_; rintro en w4 ⟨rfl, hB4, hG4⟩
  have HB4 := Lib.hid hB4; have HG4 := Lib.hid (gr_trans HG3.out hG4)
  clear hB4 hG4
  go_wp2_with fail
  go_end0
  exact ⟨rfl, HB4.out, HG4.out⟩

/-- what Add answers: its error, what the bins have then -/
def badB (b : Nat) : Prop := 9218868437227405312 ≤ b % 9223372036854775808
def BAddQ (A : Bn) (g f b : Nat) (w : World) (en : Ending) (w' : World) : Prop :=
  (1099511627776 ≤ A.n ∧ en = .returned (.int .i64 2) ∧ BinAt w' g f A ∨ A.n < 1099511627776 ∧ badB b ∧ en = .returned (.int .i64 30) ∧ BinAt w' g f A ∨ A.n < 1099511627776 ∧ ¬ badB b ∧ en = .returned (.int .i64 0) ∧ BinAt w' g f (A.sum (bn1 b))) ∧ w.grownBy w' (some g)
theorem ptOf_bad (b : Nat) (hb : b < 18446744073709551616) : ((ptOf b).c = 3 ∨ (ptOf b).c = 4) ↔ badB b := by
  have hx : b % 9223372036854775808 = (b / 4503599627370496 % 2048) * 4503599627370496 + b % 4503599627370496 := by omega
  have hx2 : b / 4503599627370496 % 2048 ≤ 2047 := by omega
  have hf : b % 4503599627370496 < 4503599627370496 := by omega
  unfold badB ptOf
  rw [hx]
  generalize b / 4503599627370496 % 2048 = ex at *
  generalize b % 4503599627370496 = fr at *
  split
  · split <;> simp <;> omega
  · split
    · simp; omega
    · split <;> simp <;> omega
set_option maxHeartbeats 8000000 in
theorem badd_any (A : Bn) (g f b : Nat) (w : World) (hA : A.Ok) (hf : f ≤ 8) (hb : b < 18446744073709551616) (hB : BinAt w g f A) :
    Calls Tryz.prog 78 #[.pointer (some ⟨g, 0, none⟩), .float .f64 b] w (BAddQ A g f b w) := by
  have hS := fun W => split_any b W hb
  rw [partsV_pt] at hS
  obtain ⟨p1, p2, p3, p4, p5, p6⟩ := ptOf_bd b
  have hbad := ptOf_bad b hb
  obtain ⟨q, hq⟩ : ∃ q : Nat, (q : Int) = ((ptOf b).e + 1088) / 32 := ⟨(((ptOf b).e + 1088) / 32).toNat, by omega⟩
  obtain ⟨sh, hsh⟩ : ∃ sh : Nat, (sh : Int) = ((ptOf b).e + 1088) % 32 := ⟨(((ptOf b).e + 1088) % 32).toNat, by omega⟩
  have he : (ptOf b).e + 1088 = 32 * q + sh := by omega
  have hm : mB b = ((ptOf b).f * 2 ^ sh) * 4294967296 ^ q := by
    unfold mB
    rw [w32_pow, Nat.mul_assoc, ← Nat.pow_add]
    congr 2; omega
  have hF3 : (ptOf b).f * 2 ^ sh < 4294967296 ^ 3 := by
    have h1 : 2 ^ sh ≤ 2 ^ 31 := Nat.pow_le_pow_right (by decide) (by omega)
    have h2 : (ptOf b).f * 2 ^ sh ≤ 9007199254740992 * 2 ^ 31 := Nat.mul_le_mul (by omega) h1
    exact Nat.lt_of_le_of_lt h2 (by decide)
  have hsum := slices_sum A (b := b) (F := (ptOf b).f * 2 ^ sh) (q := q) hm hF3 rfl rfl rfl
  have hSl := fun W gb gp cl (hn : A.n < 1099511627776) (hW : BinAt W g f ⟨A.n + 1, A.len, A.K⟩) (hc : Cap W g gb gp (ptOf b).s) => slices_any ⟨A.n + 1, A.len, A.K⟩ A.n g f gb gp q sh (ptOf b).f (ptOf b).s cl (ptOf b).e W ⟨hA.hi, hA.bd, by have := hA.len; show A.len ≤ 68; omega⟩ (by omega) (by omega) (by omega) hf he p5 hW hc
  rw [hsum] at hSl
  obtain ⟨s, hs⟩ : ∃ s, s = (ptOf b).s := ⟨_, rfl⟩
  obtain ⟨cl, hcl⟩ : ∃ c, c = (ptOf b).c := ⟨_, rfl⟩
  obtain ⟨e, hee⟩ : ∃ e, e = (ptOf b).e := ⟨_, rfl⟩
  obtain ⟨fr, hfr⟩ : ∃ f, f = (ptOf b).f := ⟨_, rfl⟩
  rw [← hs, ← hcl, ← hee, ← hfr] at hS
  rw [← hs, ← hee, ← hfr] at hSl
  rw [← hcl] at hbad p1 p2
  have hlt := BinC.lt hB
  obtain ⟨w1, e1⟩ : ∃ W, W = w.alloc (.cells #[.pointer (some ⟨g, 0, none⟩)] 34) := ⟨_, rfl⟩
  obtain ⟨k1, b1, s1⟩ := new_of e1 rfl
  have HS := Lib.hid hS; have HSl := Lib.hid hSl
  have HB := Lib.hid (fun W (hW : Below w.heap.size w W) => BinC.below hB hW hlt)
  have HBd := Lib.hid hbad
  have E1 := Lib.hid e1; have K1 := Lib.hid k1; have B1 := Lib.hid b1
  have S1 := Lib.hid s1
  clear hS hSl hbad hB e1 k1 b1 s1 hm hF3 hsum he hq hsh hs hcl hee hfr p3 p4 p5 p6 hA
  go_enter Tryz.func78, Tryz.ntmps78
  go_wp2_with fail
  rw [← E1.out]
  refine (HS.out w1).mono ?_; rintro en w2 ⟨rfl, hb2⟩
  have B2 := Lib.hid (B1.out.trans (hb2.mono B1.out.size))
  have K2 := Lib.hid (blk_below K1.out hb2 (by rw [S1.out]; omega))
  have hs2 : w.heap.size < w2.heap.size := by have := hb2.size; have := S1.out; omega
  clear hb2
  obtain ⟨w3, e3⟩ : ∃ W, W = w2.alloc (.cells #[.bool s, .int .i64 cl, .int .i64 e, .int .u64 fr] 194) := ⟨_, rfl⟩
  obtain ⟨k3, b3, s3⟩ := new_of e3 rfl
  have K3 := Lib.hid k3
  have E3 := Lib.hid e3
  have HB3 := Lib.hid (B2.out.trans (b3.mono B2.out.size))
  have hbin := HB.out w3 HB3.out
  have K23 := Lib.hid (blk_below K2.out b3 hs2)
  have hlt3 := hbin.lt
  obtain ⟨x0, x1, x2, x3⟩ := hbin.head
  have f1 := hbin.frozen 1
  have g0 : w3.cell? ⟨w.heap.size, 0, none⟩ = some (.pointer (some ⟨g, 0, none⟩)) := by rw [cell_of_row w3 _ 0 _ _ _ K23.out]; rfl
  have y0 : w3.cell? ⟨w2.heap.size, 0, none⟩ = some (.bool s) := by rw [cell_of_row w3 _ 0 _ _ _ k3]; rfl
  have y1 : w3.cell? ⟨w2.heap.size, 1, none⟩ = some (.int .i64 cl) := by rw [cell_of_row w3 _ 1 _ _ _ k3]; rfl
  have y2 : w3.cell? ⟨w2.heap.size, 2, none⟩ = some (.int .i64 e) := by rw [cell_of_row w3 _ 2 _ _ _ k3]; rfl
  have y3 : w3.cell? ⟨w2.heap.size, 3, none⟩ = some (.int .u64 fr) := by rw [cell_of_row w3 _ 3 _ _ _ k3]; rfl
  have hg3 : Hid (w.grownBy w3 (some g)) := ⟨HB3.out.os, HB3.out.tape, HB3.out.output, HB3.out.size, fun j hj _ => HB3.out.block j hj⟩
  have HBin := Lib.hid hbin
  have hng : g ≠ w2.heap.size := by omega
  have hng2 : g ≠ w.heap.size := by omega
  have hs3 : w2.heap.size < w3.heap.size := by omega
  clear k3 b3 s3 e3 hbin
  go_upto_region 2 with fail
  rw [← E3.out]
  by_cases hn : 1099511627776 ≤ A.n
  · have hn' : (1099511627776 : Int) ≤ (A.n : Int) := by omega
    go_wp2_with fail
    go_ret
    exact ⟨.inl ⟨hn, rfl, HBin.out⟩, hg3.out⟩
  have hn' : ¬ (1099511627776 : Int) ≤ (A.n : Int) := by omega
  by_cases hbd : badB b
  · have hc34 := HBd.out.2 hbd
    have HC := Lib.hid hbd
    clear hbd
    rcases hc34 with rfl | rfl
    all_goals
      go_wp2_with fail
      go_ret
      exact ⟨.inr (.inl ⟨by omega, HC.out, rfl, HBin.out⟩), hg3.out⟩
  have hc34 : ¬ (cl = 3 ∨ cl = 4) := fun h => hbd (HBd.out.1 h)
  have hc3 : (cl == 3) = false := by simp; omega
  have hc4 : (cl == 4) = false := by simp; omega
  have HC := Lib.hid hbd
  clear hbd hc34
  have hwn : IntKind.i64.wrap ((A.n : Int) + 1) = (A.n : Int) + 1 := by rw [IntKind.wrap_i64]; omega
  obtain ⟨w4, e4⟩ : ∃ W, W = w3.setCell ⟨g, 1, none⟩ (.int .i64 ((A.n : Int) + 1)) := ⟨_, rfl⟩
  have hb4 : BinAt w4 g f ⟨A.n + 1, A.len, A.K⟩ := by
    have := HBin.out.setN ((A.n : Int) + 1)
    rw [e4]; exact this
  have hg4 : Hid (w.grownBy w4 (some g)) := by rw [e4]; exact grown_set' hg3.out _ _
  have hcap : Hid (Cap w4 g w.heap.size w2.heap.size s) := by
    have : Cap w3 g w.heap.size w2.heap.size s := ⟨g0, y0, fun h => hng2 h.symm, fun h => hng h.symm, by omega, hs3⟩
    rw [e4]; exact this.grown (grown_set' (grown_refl _ _) _ _)
  have E4 := Lib.hid e4
  have HB4 := Lib.hid hb4
  have HS4 := Lib.hid (HSl.out w4 w.heap.size w2.heap.size cl (by omega) hb4 hcap.out)
  have hmf : ∀ (fn : Fn) (first cap : Array Value) (w : World), (Instr.makeFunc fn first cap).run Tryz.prog w = .ok (.func fn first cap) w := fun _ _ _ _ => rfl
  clear e4 hb4
  go_wp2_with fail
  rw [← E4.out]
  refine HS4.out.mono ?_; rintro en w5 ⟨rfl, hb5, hg5⟩
  have HB5 := Lib.hid hb5
  have HG5 := Lib.hid (gr_trans hg4.out hg5)
  clear hb5 hg5
  go_wp2_with fail
  go_ret
  exact ⟨.inr (.inr ⟨by omega, HC.out, rfl, HB5.out⟩), HG5.out⟩
end Go.Proofs.YteahdgbokjbgcaaGreatDoor
