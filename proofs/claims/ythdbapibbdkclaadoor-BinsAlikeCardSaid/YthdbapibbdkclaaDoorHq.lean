/- Sums of bins over places, their value, and how far what is kept may lie from it. No statement of the seat is proved here. -/
import Derived.Test.YthdbapibbdkclaaDoorProg
import Derived.Test.YthdbapibbdkclaaDoorHh
import Derived.Test.YthdbapibbdkclaaDoorMJ
namespace Go.Proofs.YthdbapibbdkclaaDoor
open Go.RowKit
set_option linter.unusedVariables false
set_option linter.unusedSimpArgs false

/-- what a number adds, if bins take it -/
def bnX (b : Nat) : Bn := if 9218868437227405312 ≤ b % 9223372036854775808 then Bn.zero else bn1 b
def sumB (c : Nat → Bn) : Nat → Bn
  | 0 => Bn.zero
  | n + 1 => (sumB c n).sum (c n)
theorem sumB_congr {c d : Nat → Bn} {n : Nat} (h : ∀ i, i < n → c i = d i) : sumB c n = sumB d n := by
  induction n with
  | zero => rfl
  | succ n ih => rw [sumB, sumB, ih (fun i hi => h i (by omega)), h n (by omega)]
theorem sumB_zero (n : Nat) : sumB (fun _ => Bn.zero) n = Bn.zero := by
  induction n with
  | zero => rfl
  | succ n ih => rw [sumB, ih, Bn.sum_zero]
theorem sum_four (a b c d : Bn) : (a.sum b).sum (c.sum d) = (a.sum c).sum (b.sum d) := by
  rw [Bn.sum_assoc, ← Bn.sum_assoc b, Bn.sum_comm b c, Bn.sum_assoc c, ← Bn.sum_assoc]
theorem sumB_add (c d : Nat → Bn) (n : Nat) : sumB (fun i => (c i).sum (d i)) n = (sumB c n).sum (sumB d n) := by
  induction n with
  | zero => exact (Bn.sum_zero _).symm
  | succ n ih => rw [sumB, sumB, sumB, ih, sum_four]
theorem sumB_swap (c : Nat → Nat → Bn) (m n : Nat) : sumB (fun i => sumB (c i) n) m = sumB (fun j => sumB (fun i => c i j) m) n := by
  induction m with
  | zero => exact (sumB_zero n).symm
  | succ m ih =>
    rw [sumB, ih, ← sumB_add]
    exact sumB_congr fun j _ => rfl
theorem sumB_skip {c : Nat → Bn} {a b : Nat} (hab : a ≤ b) (h : ∀ j, a ≤ j → j < b → c j = Bn.zero) : sumB c b = sumB c a := by
  induction b with
  | zero => rw [show a = 0 by omega]
  | succ b ih =>
    by_cases h1 : a ≤ b
    · rw [sumB, h b h1 (by omega), Bn.sum_zero, ih h1 (fun j h2 h3 => h j h2 (by omega))]
    · rw [show a = b + 1 by omega]
theorem sumB_pick {i m : Nat} (h : i < m) (v : Bn) : sumB (fun k => if k = i then v else Bn.zero) m = v := by
  rw [sumB_skip (a := i + 1) (by omega) (fun j h1 _ => if_neg (by omega)), sumB, if_pos rfl, sumB_skip (a := 0) (by omega) (fun j _ h2 => if_neg (by omega))]
  exact Bn.zero_sum v
theorem sumB_front (c : Nat → Bn) (n : Nat) : sumB c (n + 1) = (c 0).sum (sumB (fun i => c (i + 1)) n) := by
  induction n with
  | zero => show Bn.zero.sum (c 0) = (c 0).sum Bn.zero; rw [Bn.sum_comm]
  | succ n ih => rw [sumB, ih, sumB, Bn.sum_assoc]
theorem sumB_rev (c : Nat → Bn) (n : Nat) : sumB (fun i => c (n - 1 - i)) n = sumB c n := by
  induction n with
  | zero => rfl
  | succ n ih =>
    rw [sumB_front, sumB, Bn.sum_comm (sumB c n), ← ih]
    show (c (n + 1 - 1 - 0)).sum _ = _
    rw [show n + 1 - 1 - 0 = n by omega]
    congr 1
    exact sumB_congr fun i _ => by show c (n + 1 - 1 - (i + 1)) = c (n - 1 - i); congr 1; omega
/-- what a place has, if it is one of every so many from one on -/
def stepB (v : Nat → Bn) (n from' s j : Nat) : Bn := if from' ≤ j ∧ (j - from') % s = 0 ∧ j < n then v j else Bn.zero
theorem stepB_all (v : Nat → Bn) (n : Nat) : sumB (stepB v n 0 1) n = sumB v n := sumB_congr fun j hj => if_pos ⟨Nat.zero_le _, Nat.mod_one _, hj⟩
theorem stepB_shares (v : Nat → Bn) (n : Nat) {s : Nat} (hs : 0 < s) : sumB (fun i => sumB (stepB v n i s) n) s = sumB v n := by
  rw [sumB_swap]
  refine sumB_congr fun j hj => ?_
  have e : ∀ i, i < s → stepB v n i s j = if i = j % s then v j else Bn.zero := by
    intro i hi
    unfold stepB
    by_cases h : i = j % s
    · rw [if_pos h]
      have h1 : i ≤ j := by rw [h]; exact Nat.mod_le _ _
      have h2 : (j - i) % s = 0 := by
        rw [h, Nat.sub_mod_eq_zero_of_mod_eq]
        rw [Nat.mod_mod]
      rw [if_pos ⟨h1, h2, hj⟩]
    · rw [if_neg h, if_neg]
      rintro ⟨h1, h2, _⟩
      apply h
      obtain ⟨q, hq⟩ := Nat.dvd_of_mod_eq_zero h2
      rw [show j = i + s * q by omega, Nat.add_mul_mod_self_left, Nat.mod_eq_of_lt hi]
  rw [sumB_congr e]
  exact sumB_pick (Nat.mod_lt _ hs) _
theorem stepB_next {v : Nat → Bn} {n from' s i : Nat} (hs : 0 < s) (hf : from' ≤ i) (hm : (i - from') % s = 0) (hi : i < n) : sumB (stepB v n from' s) (i + s) = (sumB (stepB v n from' s) i).sum (v i) ∧ (i + s - from') % s = 0 := by
  constructor
  · rw [sumB_skip (a := i + 1) (by omega), sumB]
    · congr 1
      exact if_pos ⟨hf, hm, hi⟩
    · intro j h1 h2
      refine if_neg ?_
      rintro ⟨_, h3, _⟩
      obtain ⟨q, hq⟩ := Nat.dvd_of_mod_eq_zero hm
      rw [show j - from' = (j - i) + s * q by omega, Nat.add_mul_mod_self_left, Nat.mod_eq_of_lt (by omega)] at h3
      omega
  · rw [show i + s - from' = (i - from') + s by omega, Nat.add_mod_right]; exact hm
theorem stepB_end {v : Nat → Bn} {n from' s i : Nat} (hi : n ≤ i) : sumB (stepB v n from' s) i = sumB (stepB v n from' s) n :=
  sumB_skip hi fun j h1 _ => if_neg (by omega)
theorem stepB_start (v : Nat → Bn) (n from' s : Nat) : sumB (stepB v n from' s) from' = Bn.zero := sumB_skip (a := 0) (Nat.zero_le _) fun j _ h => if_neg (by omega)

/-- bins that a few numbers can come to -/
structure Bn.Few (A : Bn) (k : Nat) : Prop where
  ok : A.Ok
  le : A.n ≤ k
  some : A.n = 0 → A.len = 0
theorem Bn.zero_few (k : Nat) : Bn.zero.Few k := ⟨Bn.zero_ok, Nat.zero_le _, fun _ => rfl⟩
theorem bnX_few (b : Nat) : (bnX b).Few 1 := by
  unfold bnX
  split
  · exact Bn.zero_few 1
  · exact ⟨bn1_ok b, Nat.le_refl _, fun h => by cases h⟩
theorem Bn.Few.sum {A B : Bn} {j k : Nat} (ha : A.Few j) (hb : B.Few k) (h : j + k ≤ 1099511627776) : (A.sum B).Few (j + k) := by
  have h1 := ha.le
  have h2 := hb.le
  refine ⟨ha.ok.sum hb.ok (by omega), Nat.add_le_add h1 h2, fun h3 => ?_⟩
  have h4 : A.n + B.n = 0 := h3
  show max A.len B.len = 0
  rw [ha.some (by omega), hb.some (by omega)]; rfl
theorem Bn.Few.mono {A : Bn} {j k : Nat} (h : A.Few j) (hk : j ≤ k) : A.Few k := ⟨h.ok, Nat.le_trans h.le hk, h.some⟩
theorem sumB_few {c : Nat → Bn} {n : Nat} (h : ∀ i, i < n → (c i).Few 1) (hn : n ≤ 1099511627776) : (sumB c n).Few n := by
  induction n with
  | zero => exact Bn.zero_few 0
  | succ n ih => exact (ih (fun i hi => h i (by omega)) (by omega)).sum (h n (by omega)) (by omega)
theorem stepB_few {l : List Nat} {n from' s : Nat} (j : Nat) : (stepB (fun i => bnX (l.getD i 0)) n from' s j).Few 1 := by
  unfold stepB
  split
  · exact bnX_few _
  · exact Bn.zero_few 1

/-- what all bins come to -/
def Bn.val (A : Bn) : Nat → Int
  | 0 => 0
  | k + 1 => A.val k + A.K k * ((4294967296 ^ k : Nat) : Int)
theorem val_sum (A B : Bn) (L : Nat) : (A.sum B).val L = A.val L + B.val L := by
  induction L with
  | zero => rfl
  | succ L ih =>
    rw [Bn.val, Bn.val, Bn.val, ih]
    show _ + (A.K L + B.K L) * _ = _
    rw [Int.add_mul]; omega
theorem val_zero (L : Nat) : Bn.zero.val L = 0 := by
  induction L with
  | zero => rfl
  | succ L ih => rw [Bn.val, ih]; show 0 + 0 * _ = _; rw [Int.zero_mul]; rfl
theorem kS_val {A : Bn} (k : Nat) (h : k ≤ A.len) : A.kS k + A.val (A.len - k) = A.val A.len := by
  induction k with
  | zero => show 0 + _ = _; rw [Int.zero_add, Nat.sub_zero]
  | succ k ih =>
    have ih' := ih (by omega)
    rw [Bn.kS, if_pos (by omega)]
    obtain ⟨j, hj⟩ : ∃ j, A.len - 1 - k = j := ⟨_, rfl⟩
    rw [show A.len - k = j + 1 by omega, Bn.val] at ih'
    rw [hj, show A.len - (k + 1) = j by omega]
    omega
theorem val_hi {A : Bn} (hA : ∀ i, A.len ≤ i → A.K i = 0) {L : Nat} (h : A.len ≤ L) : A.val L = A.val A.len := by
  induction L with
  | zero => rw [show A.len = 0 by omega]
  | succ L ih =>
    by_cases h1 : A.len ≤ L
    · rw [Bn.val, hA L h1, Int.zero_mul, Int.add_zero, ih h1]
    · rw [show A.len = L + 1 by omega]
theorem kS_full {A : Bn} (hA : ∀ i, A.len ≤ i → A.K i = 0) {L : Nat} (h : A.len ≤ L) : A.kS A.len = A.val L := by
  have := kS_val (A := A) A.len (Nat.le_refl _)
  rw [val_hi hA h, ← this, Nat.sub_self]
  show _ = _ + 0
  omega
theorem bn1_val (b L : Nat) : (bn1 b).val L = sgn (ptOf b).s (mB b % 4294967296 ^ L) := by
  induction L with
  | zero => rw [Nat.pow_zero, Nat.mod_one, sgn_zero]; rfl
  | succ L ih =>
    rw [Bn.val, ih, Nat.mod_pow_succ, sgn_add]
    congr 1
    show sgn (ptOf b).s (dg (mB b) L) * _ = _
    rw [← sgn_mul]
    unfold dg
    rw [Nat.mul_comm]
theorem bnX_val (b : Nat) {L : Nat} (hL : 66 ≤ L) : (bnX b).val L = if 9218868437227405312 ≤ b % 9223372036854775808 then 0 else sgn (ptOf b).s (mB b) := by
  unfold bnX
  split
  · exact val_zero L
  · obtain ⟨j, hj⟩ : ∃ j, j = 66 := ⟨_, rfl⟩
    rw [bn1_val, Nat.mod_eq_of_lt (Nat.lt_of_lt_of_le (mB_lt b hj) (Nat.pow_le_pow_right (by decide) (by omega)))]
theorem sumB_val (c : Nat → Bn) (n L : Nat) : (sumB c (n + 1)).val L = (sumB c n).val L + (c n).val L := val_sum _ _ _

theorem val_bd {A : Bn} (hA : A.Ok) {L : Nat} (hL : A.len ≤ L) {j : Nat} (hj : j = 68) : (A.val L).natAbs < 2 ^ (32 * j) := by
  rw [← kS_full hA.hi hL]; exact kS_sz hA _ hj
/-- what is not kept is less than the bound, in units of ten bins below the lowest -/
theorem kS_off {A : Bn} {m : Nat} (hA : A.Few m) (h0 : 0 < A.len) {f : Nat} (hf : f ≤ 8) : (A.kS A.len - A.kS f).natAbs * 4294967296 ^ 10 < A.n * 4294967296 ^ (A.len + 10 - f) := by
  have hn : 0 < A.n := by
    rcases Nat.eq_zero_or_pos A.n with h | h
    · have := hA.some h; omega
    · exact h
  have hp := Nat.pow_pos (n := A.len + 10 - f) (show 0 < 4294967296 by decide)
  by_cases h : f ≤ A.len
  · have h1 := kS_rest hA.ok h (A.len - f) (by omega)
    rw [show f + (A.len - f) = A.len by omega, Nat.sub_self, Nat.pow_zero, Nat.mul_one] at h1
    rw [show A.len + 10 - f = (A.len - f) + 10 by omega, Nat.pow_add, ← Nat.mul_assoc]
    exact (Nat.mul_lt_mul_right (Nat.pow_pos (by decide))).2 (by omega)
  · rw [kS_more (A := A) (k := f) (by omega), Int.sub_self]
    simpa using Nat.mul_pos hn hp
end Go.Proofs.YthdbapibbdkclaaDoor
