/- The numbers of a kind in their order, and what it is to round, in numbers. No statement of the seat is proved here. -/
import Derived.Test.YtmokomfneikipaaDoorProg
import Derived.Test.YtmokomfneikipaaDoorDo
namespace Go.Proofs.YtmokomfneikipaaDoor
open Go.RowKit
set_option linter.unusedVariables false
set_option linter.unusedSimpArgs false

/-- the k-th number, in units of the least power -/
def numV (h k : Nat) : Nat := numM h k * 2 ^ numE h k
theorem numV_step (h k : Nat) : numV h (k + 1) = numV h k + 2 ^ numE h k := by
  have hp := Nat.two_pow_pos h
  unfold numV numM numE
  generalize 2 ^ h = H at *
  have hd := Nat.div_add_mod k H
  have hr := Nat.mod_lt k hp
  generalize k / H = q at *
  generalize k % H = r at *
  subst hd
  by_cases h1 : r + 1 < H
  · rw [show H * q + r + 1 = r + 1 + H * q by omega, Nat.add_mul_div_left _ _ hp, Nat.add_mul_mod_self_left, Nat.div_eq_of_lt h1, Nat.mod_eq_of_lt h1, Nat.zero_add]
    by_cases h2 : q = 0
    · rw [if_pos h2, if_pos h2, h2]; simp
    · rw [if_neg h2, if_neg h2, ← Nat.add_assoc, Nat.add_mul, Nat.one_mul]
  · obtain rfl : H = r + 1 := by omega
    have h3 : (r + 1) * q + r + 1 = (r + 1) * (q + 1) := by rw [Nat.mul_succ, Nat.add_assoc]
    rw [h3, Nat.mul_mod_right, Nat.mul_div_cancel_left _ hp, if_neg (by omega)]
    by_cases h2 : q = 0
    · rw [if_pos h2, h2]; simp
    · rw [if_neg h2]
      obtain ⟨p, rfl⟩ : ∃ p, q = p + 1 := ⟨q - 1, by omega⟩
      simp only [Nat.add_sub_cancel, Nat.add_zero]
      rw [Nat.pow_succ, ← Nat.succ_mul, Nat.mul_comm (2 ^ p) 2, ← Nat.mul_assoc]
      congr 1; omega
theorem numV_lt {h a b : Nat} (hab : a < b) : numV h a < numV h b := by
  induction b with
  | zero => omega
  | succ b ih =>
    have h1 := numV_step h b
    have h2 := Nat.two_pow_pos (numE h b)
    rcases Nat.lt_or_ge a b with h3 | h3
    · have := ih h3; omega
    · obtain rfl : a = b := by omega
      omega
theorem numV_le {h a b : Nat} (hab : a ≤ b) : numV h a ≤ numV h b := by
  rcases Nat.lt_or_ge a b with h3 | h3
  · exact Nat.le_of_lt (numV_lt h3)
  · obtain rfl : a = b := by omega
    exact Nat.le_refl _
/-- where a number stands whose digits are n, its power j above the least -/
theorem numE_at {h n j : Nat} (hn : n < 2 ^ (h + 1)) (hj : j = 0 ∨ 2 ^ h ≤ n) : numE h (n + j * 2 ^ h) = j := by
  have hp := Nat.two_pow_pos h
  rw [Nat.pow_succ] at hn
  unfold numE
  generalize 2 ^ h = H at *
  rw [Nat.mul_comm j H, Nat.add_mul_div_left _ _ hp]
  have h1 : n / H ≤ 1 := by
    have : n / H < 2 := Nat.div_lt_of_lt_mul (by omega)
    omega
  rcases hj with h2 | h2
  · omega
  · have : 1 ≤ n / H := (Nat.le_div_iff_mul_le hp).2 (by omega)
    omega
theorem numV_at {h n j : Nat} (hn : n < 2 ^ (h + 1)) (hj : j = 0 ∨ 2 ^ h ≤ n) : numV h (n + j * 2 ^ h) = n * 2 ^ j := by
  have h0 := numE_at hn hj
  have hp := Nat.two_pow_pos h
  unfold numV
  rw [h0]
  congr 1
  rw [Nat.pow_succ] at hn
  unfold numM
  generalize 2 ^ h = H at *
  rw [Nat.mul_comm j H, Nat.add_mul_div_left _ _ hp, Nat.add_mul_mod_self_left]
  have hd := Nat.div_add_mod n H
  have h1 : n / H ≤ 1 := by
    have : n / H < 2 := Nat.div_lt_of_lt_mul (by omega)
    omega
  generalize n / H = q at *
  rcases (show q = 0 ∨ q = 1 by omega) with rfl | rfl
  · rcases hj with h2 | h2
    · rw [if_pos (by omega)]; omega
    · have := Nat.mod_lt n hp; omega
  · rw [if_neg (by omega)]; omega

/-- what is compared: X stands for the value, 2^c for one of the least power -/
structure IsBelow (h E c X k : Nat) : Prop where
  lt : k < E
  le : numV h k * 2 ^ c ≤ X
  nx : k + 1 = E ∨ X < numV h (k + 1) * 2 ^ c
theorem IsBelow.uniq {h E c X k k' : Nat} (a : IsBelow h E c X k) (b : IsBelow h E c X k') : k = k' := by
  have hp := Nat.two_pow_pos c
  have aux : ∀ {i j : Nat}, IsBelow h E c X i → IsBelow h E c X j → ¬ i < j := by
    intro i j x y hij
    rcases x.nx with h1 | h1
    · have := y.lt; omega
    · have h2 := y.le
      have h3 : numV h (i + 1) * 2 ^ c ≤ numV h j * 2 ^ c := Nat.mul_le_mul_right _ (numV_le (by omega))
      omega
  have h1 := aux a b
  have h2 := aux b a
  omega
def onK (mode : Int) (neg : Bool) (k : Nat) (g : Int) : Bool :=
  if mode = 0 then decide (0 < g) || (decide (g = 0) && decide (k % 2 = 1)) else if mode = 2 then !neg else if mode = 3 then neg else if mode = 4 then decide (0 ≤ g) else false
def nearK (h c X : Nat) (mode : Int) (neg : Bool) (k : Nat) : Nat :=
  if numV h k * 2 ^ c = X then k else if onK mode neg k (cmpN (2 * X) ((numV h k + numV h (k + 1)) * 2 ^ c)) then k + 1 else k
/-- b: a power that lies below both -/
def sc (L e : Int) : Nat := (L - min L e).toNat
def sx (L : Int) (m : Nat) (e : Int) : Nat := m * 2 ^ (e - min L e).toNat
def Rounds (h : Nat) (L : Int) (E : Nat) (d : D) (mode : Int) (r : Nat) : Prop := ∃ k, IsBelow h E (sc L d.exp) (sx L d.m d.exp) k ∧ r = nearK h (sc L d.exp) (sx L d.m d.exp) mode d.neg k
theorem Rounds.uniq {h : Nat} {L : Int} {E : Nat} {d : D} {mode : Int} {r r' : Nat} (a : Rounds h L E d mode r) (b : Rounds h L E d mode r') : r = r' := by
  obtain ⟨k, h1, rfl⟩ := a
  obtain ⟨k', h2, rfl⟩ := b
  rw [h1.uniq h2]
theorem Rounds.le {h : Nat} {L : Int} {E : Nat} {d : D} {mode : Int} {r : Nat} (a : Rounds h L E d mode r) : r ≤ E := by
  obtain ⟨k, h1, rfl⟩ := a
  have := h1.lt
  unfold nearK; split
  · omega
  · split <;> omega

theorem cmpN_scale (a b : Nat) {p : Nat} (hp : 0 < p) : cmpN (a * p) (b * p) = cmpN a b := by
  unfold cmpN
  simp only [Nat.mul_lt_mul_right hp]
theorem magCmp_scale (m : Nat) (e : Int) (n : Nat) (f b : Int) (he : b ≤ e) (hf : b ≤ f) : magCmp m e n f = cmpN (m * 2 ^ (e - b).toNat) (n * 2 ^ (f - b).toNat) := by
  unfold magCmp
  split
  · rw [show (e - b).toNat = (e - f).toNat + (f - b).toNat by omega, Nat.pow_add, ← Nat.mul_assoc, cmpN_scale _ _ (Nat.two_pow_pos _)]
  · rw [show (f - b).toNat = (f - e).toNat + (e - b).toNat by omega, Nat.pow_add, ← Nat.mul_assoc, cmpN_scale _ _ (Nat.two_pow_pos _)]
theorem agN_scale (m : Nat) (e : Int) (n : Nat) (f b : Int) (he : b ≤ e) (hf : b ≤ f) : agN m e n f = cmpN (m * 2 ^ (e - b).toNat) (n * 2 ^ (f - b).toNat) := by
  have p1 := Nat.two_pow_pos (e - b).toNat
  have p2 := Nat.two_pow_pos (f - b).toNat
  unfold agN
  split
  · next h =>
    rcases h with rfl | rfl
    · rw [Nat.zero_mul]
      rcases Nat.eq_zero_or_pos n with rfl | hn
      · simp
      · rw [cmpN_lt hn, cmpN_lt (Nat.mul_pos hn p2)]
    · rw [Nat.zero_mul]
      rcases Nat.eq_zero_or_pos m with rfl | hn
      · simp
      · rw [cmpN_gt hn, cmpN_gt (Nat.mul_pos hn p1)]
  · exact magCmp_scale _ _ _ _ _ he hf
/-- the k-th number against a value -/
theorem ag_num (h k : Nat) (L : Int) (m : Nat) (e : Int) : agN (numM h k) (L + numE h k) m e = cmpN (numV h k * 2 ^ sc L e) (sx L m e) := by
  rw [agN_scale _ _ _ _ (min L e) (by omega) (by omega)]
  unfold numV sc sx
  rw [Nat.mul_assoc, ← Nat.pow_add, show (L + (numE h k : Int) - min L e).toNat = numE h k + (L - min L e).toNat by omega]
theorem numE_le (h k : Nat) : numE h k ≤ numE h (k + 1) := by
  unfold numE
  have : k / 2 ^ h ≤ (k + 1) / 2 ^ h := Nat.div_le_div_right (by omega)
  omega
/-- the middle -/
theorem ag_half (h k : Nat) (L : Int) (m : Nat) (e : Int) : agN (m * 2) e (numM h k + numM h (k + 1) * 2 ^ (numE h (k + 1) - numE h k)) (L + numE h k) = cmpN (2 * sx L m e) ((numV h k + numV h (k + 1)) * 2 ^ sc L e) := by
  rw [agN_scale _ _ _ _ (min L e) (by omega) (by omega)]
  have hle := numE_le h k
  have h1 : numV h k + numV h (k + 1) = (numM h k + numM h (k + 1) * 2 ^ (numE h (k + 1) - numE h k)) * 2 ^ numE h k := by
    unfold numV
    rw [Nat.add_mul, Nat.mul_assoc, ← Nat.pow_add, Nat.sub_add_cancel hle]
  rw [h1]
  unfold sc sx
  rw [show (L + (numE h k : Int) - min L e).toNat = numE h k + (L - min L e).toNat by omega, Nat.pow_add, Nat.mul_comm m 2, Nat.mul_assoc 2 m, ← Nat.mul_assoc _ (2 ^ numE h k)]
theorem cmpN_zero {a b : Nat} : cmpN a b = 0 ↔ a = b := by unfold cmpN; split <;> (try split) <;> omega
theorem cmpN_le {a b : Nat} : cmpN a b ≤ 0 ↔ a ≤ b := by unfold cmpN; split <;> (try split) <;> omega
end Go.Proofs.YtmokomfneikipaaDoor
