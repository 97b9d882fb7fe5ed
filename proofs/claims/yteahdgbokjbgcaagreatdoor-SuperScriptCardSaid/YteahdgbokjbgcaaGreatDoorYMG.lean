/- The numbers of a kind in their order, and what it is to round, in numbers. What dyad's grid.on answers, in numbers: it is what Rounds says. Contracts of dyad.told, away, beyond. Contract of dyad's grid.on. No statement of the seat is proved here. -/
import Derived.Test.YteahdgbokjbgcaaGreatDoorProg
import Derived.Test.YteahdgbokjbgcaaGreatDoorYME
import Derived.Test.YteahdgbokjbgcaaGreatDoorYMF
namespace Go.Proofs.YteahdgbokjbgcaaGreatDoor
open Go.RowKit
set_option linter.unusedVariables false
set_option linter.unusedSimpArgs false

/-- the k-th number, in units of the least power -/
def numV (h k : Nat) : Nat := numM h k * 2 ^ numE h k
theorem numV_step (h k : Nat) : numV h (k + 1) = numV h k + 2 ^ numE h k := by
  have hp := Nat.two_pow_pos h
  unfold numV numM numE
  generalize 2 ^ h = H at *
  have hd := Nat.div_add_mod k H
  have hr := Nat.mod_lt k hp
  generalize k / H = q at *
  generalize k % H = r at *
  subst hd
  by_cases h1 : r + 1 < H
  · rw [show H * q + r + 1 = r + 1 + H * q by omega, Nat.add_mul_div_left _ _ hp, Nat.add_mul_mod_self_left, Nat.div_eq_of_lt h1, Nat.mod_eq_of_lt h1, Nat.zero_add]
    by_cases h2 : q = 0
    · rw [if_pos h2, if_pos h2, h2]; simp
    · rw [if_neg h2, if_neg h2, ← Nat.add_assoc, Nat.add_mul, Nat.one_mul]
  · obtain rfl : H = r + 1 := by omega
    have h3 : (r + 1) * q + r + 1 = (r + 1) * (q + 1) := by rw [Nat.mul_succ, Nat.add_assoc]
    rw [h3, Nat.mul_mod_right, Nat.mul_div_cancel_left _ hp, if_neg (by omega)]
    by_cases h2 : q = 0
    · rw [if_pos h2, h2]; simp
    · rw [if_neg h2]
      obtain ⟨p, rfl⟩ : ∃ p, q = p + 1 := ⟨q - 1, by omega⟩
      simp only [Nat.add_sub_cancel, Nat.add_zero]
      rw [Nat.pow_succ, ← Nat.succ_mul, Nat.mul_comm (2 ^ p) 2, ← Nat.mul_assoc]
      congr 1; omega
theorem numV_lt {h a b : Nat} (hab : a < b) : numV h a < numV h b := by
  induction b with
  | zero => omega
  | succ b ih =>
    have h1 := numV_step h b
    have h2 := Nat.two_pow_pos (numE h b)
    rcases Nat.lt_or_ge a b with h3 | h3
    · have := ih h3; omega
    · obtain rfl : a = b := by omega
      omega
theorem numV_le {h a b : Nat} (hab : a ≤ b) : numV h a ≤ numV h b := by
  rcases Nat.lt_or_ge a b with h3 | h3
  · exact Nat.le_of_lt (numV_lt h3)
  · obtain rfl : a = b := by omega
    exact Nat.le_refl _
/-- where a number stands whose digits are n, its power j above the least -/
theorem numE_at {h n j : Nat} (hn : n < 2 ^ (h + 1)) (hj : j = 0 ∨ 2 ^ h ≤ n) : numE h (n + j * 2 ^ h) = j := by
  have hp := Nat.two_pow_pos h
  rw [Nat.pow_succ] at hn
  unfold numE
  generalize 2 ^ h = H at *
  rw [Nat.mul_comm j H, Nat.add_mul_div_left _ _ hp]
  have h1 : n / H ≤ 1 := by
    have : n / H < 2 := Nat.div_lt_of_lt_mul (by omega)
    omega
  rcases hj with h2 | h2
  · omega
  · have : 1 ≤ n / H := (Nat.le_div_iff_mul_le hp).2 (by omega)
    omega
theorem numV_at {h n j : Nat} (hn : n < 2 ^ (h + 1)) (hj : j = 0 ∨ 2 ^ h ≤ n) : numV h (n + j * 2 ^ h) = n * 2 ^ j := by
  have h0 := numE_at hn hj
  have hp := Nat.two_pow_pos h
  unfold numV
  rw [h0]
  congr 1
  rw [Nat.pow_succ] at hn
  unfold numM
  generalize 2 ^ h = H at *
  rw [Nat.mul_comm j H, Nat.add_mul_div_left _ _ hp, Nat.add_mul_mod_self_left]
  have hd := Nat.div_add_mod n H
  have h1 : n / H ≤ 1 := by
    have : n / H < 2 := Nat.div_lt_of_lt_mul (by omega)
    omega
  generalize n / H = q at *
  rcases (show q = 0 ∨ q = 1 by omega) with rfl | rfl
  · rcases hj with h2 | h2
    · rw [if_pos (by omega)]; omega
    · have := Nat.mod_lt n hp; omega
  · rw [if_neg (by omega)]; omega

/-- what is compared: X stands for the value, 2^c for one of the least power -/
structure IsBelow (h E c X k : Nat) : Prop where
  lt : k < E
  le : numV h k * 2 ^ c ≤ X
  nx : k + 1 = E ∨ X < numV h (k + 1) * 2 ^ c
theorem IsBelow.uniq {h E c X k k' : Nat} (a : IsBelow h E c X k) (b : IsBelow h E c X k') : k = k' := by
  have hp := Nat.two_pow_pos c
  have aux : ∀ {i j : Nat}, IsBelow h E c X i → IsBelow h E c X j → ¬ i < j := by
    intro i j x y hij
    rcases x.nx with h1 | h1
    · have := y.lt; omega
    · have h2 := y.le
      have h3 : numV h (i + 1) * 2 ^ c ≤ numV h j * 2 ^ c := Nat.mul_le_mul_right _ (numV_le (by omega))
      omega
  have h1 := aux a b
  have h2 := aux b a
  omega
def onK (mode : Int) (neg : Bool) (k : Nat) (g : Int) : Bool :=
  if mode = 0 then decide (0 < g) || (decide (g = 0) && decide (k % 2 = 1)) else if mode = 2 then !neg else if mode = 3 then neg else if mode = 4 then decide (0 ≤ g) else false
def nearK (h c X : Nat) (mode : Int) (neg : Bool) (k : Nat) : Nat :=
  if numV h k * 2 ^ c = X then k else if onK mode neg k (cmpN (2 * X) ((numV h k + numV h (k + 1)) * 2 ^ c)) then k + 1 else k
/-- b: a power that lies below both -/
def sc (L e : Int) : Nat := (L - min L e).toNat
def sx (L : Int) (m : Nat) (e : Int) : Nat := m * 2 ^ (e - min L e).toNat
def Rounds (h : Nat) (L : Int) (E : Nat) (d : D) (mode : Int) (r : Nat) : Prop := ∃ k, IsBelow h E (sc L d.exp) (sx L d.m d.exp) k ∧ r = nearK h (sc L d.exp) (sx L d.m d.exp) mode d.neg k
theorem Rounds.uniq {h : Nat} {L : Int} {E : Nat} {d : D} {mode : Int} {r r' : Nat} (a : Rounds h L E d mode r) (b : Rounds h L E d mode r') : r = r' := by
  obtain ⟨k, h1, rfl⟩ := a
  obtain ⟨k', h2, rfl⟩ := b
  rw [h1.uniq h2]
theorem Rounds.le {h : Nat} {L : Int} {E : Nat} {d : D} {mode : Int} {r : Nat} (a : Rounds h L E d mode r) : r ≤ E := by
  obtain ⟨k, h1, rfl⟩ := a
  have := h1.lt
  unfold nearK; split
  · omega
  · split <;> omega

theorem cmpN_scale (a b : Nat) {p : Nat} (hp : 0 < p) : cmpN (a * p) (b * p) = cmpN a b := by
  unfold cmpN
  simp only [Nat.mul_lt_mul_right hp]
theorem magCmp_scale (m : Nat) (e : Int) (n : Nat) (f b : Int) (he : b ≤ e) (hf : b ≤ f) : magCmp m e n f = cmpN (m * 2 ^ (e - b).toNat) (n * 2 ^ (f - b).toNat) := by
  unfold magCmp
  split
  · rw [show (e - b).toNat = (e - f).toNat + (f - b).toNat by omega, Nat.pow_add, ← Nat.mul_assoc, cmpN_scale _ _ (Nat.two_pow_pos _)]
  · rw [show (f - b).toNat = (f - e).toNat + (e - b).toNat by omega, Nat.pow_add, ← Nat.mul_assoc, cmpN_scale _ _ (Nat.two_pow_pos _)]
theorem agN_scale (m : Nat) (e : Int) (n : Nat) (f b : Int) (he : b ≤ e) (hf : b ≤ f) : agN m e n f = cmpN (m * 2 ^ (e - b).toNat) (n * 2 ^ (f - b).toNat) := by
  have p1 := Nat.two_pow_pos (e - b).toNat
  have p2 := Nat.two_pow_pos (f - b).toNat
  unfold agN
  split
  · next h =>
    rcases h with rfl | rfl
    · rw [Nat.zero_mul]
      rcases Nat.eq_zero_or_pos n with rfl | hn
      · simp
      · rw [cmpN_lt hn, cmpN_lt (Nat.mul_pos hn p2)]
    · rw [Nat.zero_mul]
      rcases Nat.eq_zero_or_pos m with rfl | hn
      · simp
      · rw [cmpN_gt hn, cmpN_gt (Nat.mul_pos hn p1)]
  · exact magCmp_scale _ _ _ _ _ he hf
/-- the k-th number against a value -/
theorem ag_num (h k : Nat) (L : Int) (m : Nat) (e : Int) : agN (numM h k) (L + numE h k) m e = cmpN (numV h k * 2 ^ sc L e) (sx L m e) := by
  rw [agN_scale _ _ _ _ (min L e) (by omega) (by omega)]
  unfold numV sc sx
  rw [Nat.mul_assoc, ← Nat.pow_add, show (L + (numE h k : Int) - min L e).toNat = numE h k + (L - min L e).toNat by omega]
theorem numE_le (h k : Nat) : numE h k ≤ numE h (k + 1) := by
  unfold numE
  have : k / 2 ^ h ≤ (k + 1) / 2 ^ h := Nat.div_le_div_right (by omega)
  omega
/-- the middle -/
theorem ag_half (h k : Nat) (L : Int) (m : Nat) (e : Int) : agN (m * 2) e (numM h k + numM h (k + 1) * 2 ^ (numE h (k + 1) - numE h k)) (L + numE h k) = cmpN (2 * sx L m e) ((numV h k + numV h (k + 1)) * 2 ^ sc L e) := by
  rw [agN_scale _ _ _ _ (min L e) (by omega) (by omega)]
  have hle := numE_le h k
  have h1 : numV h k + numV h (k + 1) = (numM h k + numM h (k + 1) * 2 ^ (numE h (k + 1) - numE h k)) * 2 ^ numE h k := by
    unfold numV
    rw [Nat.add_mul, Nat.mul_assoc, ← Nat.pow_add, Nat.sub_add_cancel hle]
  rw [h1]
  unfold sc sx
  rw [show (L + (numE h k : Int) - min L e).toNat = numE h k + (L - min L e).toNat by omega, Nat.pow_add, Nat.mul_comm m 2, Nat.mul_assoc 2 m, ← Nat.mul_assoc _ (2 ^ numE h k)]
theorem cmpN_zero {a b : Nat} : cmpN a b = 0 ↔ a = b := by unfold cmpN; split <;> (try split) <;> omega
theorem cmpN_le {a b : Nat} : cmpN a b ≤ 0 ↔ a ≤ b := by unfold cmpN; split <;> (try split) <;> omega
end Go.Proofs.YteahdgbokjbgcaaGreatDoor
namespace Go.Proofs.YteahdgbokjbgcaaGreatDoor
open Go.RowKit
set_option linter.unusedVariables false
set_option linter.unusedSimpArgs false

def beyondN (E : Nat) (neg : Bool) (mode : Int) : Nat := if mode = 1 ∨ mode = 2 ∧ neg = true ∨ mode = 3 ∧ neg = false then E - 1 else E
def awayN (mode : Int) (neg : Bool) (n : Nat) (half only : Bool) : Bool :=
  if mode = 0 then half && (!only || decide (n % 2 = 1)) else if mode = 4 then half else if mode = 2 then !neg else if mode = 3 then neg else false
/-- the power at which a value's last digit stands -/
def expN (h : Nat) (L : Int) (m : Nat) (e : Int) : Int := max ((bitLen m : Int) + e - (h + 1)) L
def digN (m : Nat) (cut : Int) : Nat := if cut ≤ 0 then m * 2 ^ (-cut).toNat else m / 2 ^ cut.toNat
def stepN (mode : Int) (neg : Bool) (m : Nat) (cut : Int) : Nat := if 0 < cut ∧ awayN mode neg (digN m cut) (m.testBit (cut - 1).toNat) (decide (cut = 1)) = true then digN m cut + 1 else digN m cut
def onF (h : Nat) (L : Int) (E : Nat) (d : D) (mode : Int) : Nat :=
  if d.m = 0 then 0
  else if L + (E / 2 ^ h : Nat) - 1 + h < (bitLen d.m : Int) + d.exp then beyondN E d.neg mode
  else stepN mode d.neg d.m (expN h L d.m d.exp - d.exp) + (expN h L d.m d.exp - L).toNat * 2 ^ h

theorem testBit_ge {m c : Nat} (n r : Nat) (hm : m = n * 2 ^ (c + 1) + r) (hr : r < 2 ^ (c + 1)) : m.testBit c = decide (2 ^ c ≤ r) := by
  have hp := Nat.two_pow_pos c
  have h1 : m / 2 ^ c = 2 * n + r / 2 ^ c := by
    rw [hm, Nat.pow_succ, show n * (2 ^ c * 2) = 2 ^ c * (2 * n) by rw [Nat.mul_left_comm, Nat.mul_comm n 2, Nat.mul_left_comm], Nat.mul_add_div hp]
  have h2 : m.testBit c = decide ((m / 2 ^ c) % 2 = 1) := Nat.testBit_eq_decide_div_mod_eq
  rw [h2, h1]
  have h3 : r / 2 ^ c < 2 := Nat.div_lt_of_lt_mul (by rw [← Nat.pow_succ]; exact hr)
  by_cases h4 : 2 ^ c ≤ r
  · have h5 : 1 ≤ r / 2 ^ c := (Nat.le_div_iff_mul_le hp).2 (by omega)
    rw [decide_eq_true h4]; simp; omega
  · have h5 : r / 2 ^ c = 0 := Nat.div_eq_of_lt (by omega)
    rw [decide_eq_false h4, h5]; simp

theorem on_rounds (h : Nat) (L : Int) (E q : Nat) (d : D) (mode : Int) (hh : 1 ≤ h) (hE : E = q * 2 ^ h) (hq : 2 ≤ q) (hodd : d.m = 0 ∨ d.m % 2 = 1) (hm0 : 0 ≤ mode) (hm4 : mode ≤ 4) : Rounds h L E d mode (onF h L E d mode) := by
  obtain ⟨neg, m, e⟩ := d
  dsimp only at hodd
  have hH := Nat.two_pow_pos h
  have hEpos : 0 < E := by rw [hE]; exact Nat.mul_pos (by omega) hH
  have hC := Nat.two_pow_pos (sc L e)
  unfold onF Rounds
  dsimp only
  by_cases h0 : m = 0
  · rw [if_pos h0]
    have hv0 : numV h 0 = 0 := by unfold numV numM; simp
    refine ⟨0, ⟨hEpos, by rw [hv0]; simp, ?_⟩, ?_⟩
    · right
      have := numV_step h 0
      have := Nat.two_pow_pos (numE h 0)
      rw [show sx L m e = 0 by unfold sx; rw [h0, Nat.zero_mul]]
      exact Nat.mul_pos (by omega) hC
    · unfold nearK; rw [hv0, show sx L m e = 0 by unfold sx; rw [h0, Nat.zero_mul], if_pos (by simp)]
  rw [if_neg h0]
  have hm1 : m % 2 = 1 := by omega
  obtain ⟨hs1, hs2⟩ := bitLen_spec m
  have hs2 := hs2 (by omega)
  have hbp := bitLen_pos h0
  have hEq : E / 2 ^ h = q := by rw [hE, Nat.mul_div_cancel _ hH]
  rw [hEq]
  have hVE : numV h E = 2 ^ (q - 1 + h) := by
    rw [hE]
    have := @numV_at h (2 ^ h) (q - 1) (by rw [Nat.pow_succ]; omega) (.inr (Nat.le_refl _))
    rw [show q * 2 ^ h = 2 ^ h + (q - 1) * 2 ^ h by rw [show q = 1 + (q - 1) by omega, Nat.add_mul, Nat.one_mul]; simp, this, ← Nat.pow_add, Nat.add_comm]
  by_cases hbig : L + (q : Nat) - 1 + h < (bitLen m : Int) + e
  · rw [if_pos hbig]
    have hX : numV h E * 2 ^ sc L e ≤ sx L m e := by
      rw [hVE, ← Nat.pow_add]
      unfold sx sc
      refine Nat.le_trans ?_ (Nat.mul_le_mul_right _ hs2)
      rw [← Nat.pow_add]
      exact Nat.pow_le_pow_right (by decide) (by omega)
    have hVlt : numV h (E - 1) < numV h E := numV_lt (by omega)
    have hlt : numV h (E - 1) * 2 ^ sc L e < numV h E * 2 ^ sc L e := (Nat.mul_lt_mul_right hC).2 hVlt
    refine ⟨E - 1, ⟨by omega, by omega, .inl (by omega)⟩, ?_⟩
    unfold nearK
    rw [if_neg (by omega), show E - 1 + 1 = E by omega, cmpN_gt (by rw [Nat.add_mul]; omega)]
    unfold beyondN onK
    rcases (show mode = 0 ∨ mode = 1 ∨ mode = 2 ∨ mode = 3 ∨ mode = 4 by omega) with rfl | rfl | rfl | rfl | rfl <;> cases neg <;> simp
  · rw [if_neg hbig]
    obtain ⟨x, hx⟩ : ∃ x, x = expN h L m e := ⟨_, rfl⟩
    rw [← hx]
    unfold expN at hx
    obtain ⟨j, hj⟩ : ∃ j : Nat, (j : Int) = x - L := ⟨(x - L).toNat, by omega⟩
    rw [show (x - L).toNat = j by omega]
    have hsc : ((sc L e : Nat) : Int) = L - min L e := by unfold sc; omega
    by_cases hcut : x - e ≤ 0
    · -- all digits stay
      have hn : digN m (x - e) = m * 2 ^ (e - x).toNat := by unfold digN; rw [if_pos hcut, show (-(x - e)).toNat = (e - x).toNat by omega]
      have hst : stepN mode neg m (x - e) = m * 2 ^ (e - x).toNat := by unfold stepN; rw [if_neg (by omega), hn]
      rw [hst]
      have hn1 : m * 2 ^ (e - x).toNat < 2 ^ (h + 1) := by
        refine Nat.lt_of_lt_of_le ((Nat.mul_lt_mul_right (Nat.two_pow_pos _)).2 hs1) ?_
        rw [← Nat.pow_add]; exact Nat.pow_le_pow_right (by decide) (by omega)
      have hn2 : j = 0 ∨ 2 ^ h ≤ m * 2 ^ (e - x).toNat := by
        by_cases hj0 : j = 0
        · exact .inl hj0
        · right
          refine Nat.le_trans ?_ (Nat.mul_le_mul_right _ hs2)
          rw [← Nat.pow_add]; exact Nat.pow_le_pow_right (by decide) (by omega)
      have hV := numV_at hn1 hn2
      have hE1 := numE_at hn1 hn2
      have hk : m * 2 ^ (e - x).toNat + j * 2 ^ h < E := by
        rw [hE]
        by_cases hj0 : j = 0
        · rw [hj0, Nat.zero_mul, Nat.add_zero]
          refine Nat.lt_of_lt_of_le hn1 ?_
          rw [Nat.pow_succ, Nat.mul_comm]; exact Nat.mul_le_mul_right _ hq
        · have h5 : (2 + j) * 2 ^ h ≤ q * 2 ^ h := Nat.mul_le_mul_right _ (by omega)
          rw [Nat.add_mul] at h5; rw [Nat.pow_succ] at hn1; omega
      have heq : numV h (m * 2 ^ (e - x).toNat + j * 2 ^ h) * 2 ^ sc L e = sx L m e := by
        rw [hV, Nat.mul_assoc, Nat.mul_assoc, ← Nat.pow_add, ← Nat.pow_add]
        unfold sx
        congr 2; omega
      refine ⟨_, ⟨hk, by omega, .inr ?_⟩, ?_⟩
      · rw [numV_step, Nat.add_mul, heq]
        have := Nat.mul_pos (Nat.two_pow_pos (numE h (m * 2 ^ (e - x).toNat + j * 2 ^ h))) hC
        omega
      · unfold nearK; rw [if_pos heq]
    · -- digits are cut
      obtain ⟨c, hc⟩ : ∃ c : Nat, ((c + 1 : Nat) : Int) = x - e := ⟨(x - e).toNat - 1, by omega⟩
      have hP := Nat.two_pow_pos (c + 1)
      obtain ⟨n, hn⟩ : ∃ n, n = m / 2 ^ (c + 1) := ⟨_, rfl⟩
      obtain ⟨r, hr⟩ : ∃ r, r = m % 2 ^ (c + 1) := ⟨_, rfl⟩
      have hdg : digN m (x - e) = n := by unfold digN; rw [if_neg hcut, show (x - e).toNat = c + 1 by omega, hn]
      have hmn : m = n * 2 ^ (c + 1) + r := by rw [hn, hr, Nat.mul_comm]; exact (Nat.div_add_mod m _).symm
      have hrlt : r < 2 ^ (c + 1) := by rw [hr]; exact Nat.mod_lt _ hP
      have hrodd : r % 2 = 1 := by
        have : 2 ^ (c + 1) = 2 * 2 ^ c := by rw [Nat.pow_succ, Nat.mul_comm]
        rw [hmn, this, Nat.mul_left_comm] at hm1
        omega
      have htb := testBit_ge (c := c) n r hmn hrlt
      have hst : stepN mode neg m (x - e) = if awayN mode neg n (decide (2 ^ c ≤ r)) (decide (c = 0)) = true then n + 1 else n := by
        unfold stepN
        rw [hdg, show (x - e - 1).toNat = c by omega, htb, show decide (x - e = 1) = decide (c = 0) from by rw [decide_eq_decide]; omega]
        by_cases ha : awayN mode neg n (decide (2 ^ c ≤ r)) (decide (c = 0)) = true
        · rw [if_pos ⟨by omega, ha⟩, if_pos ha]
        · rw [if_neg (fun hh => ha hh.2), if_neg ha]
      rw [hst]
      have hn1 : n < 2 ^ (h + 1) := by
        rw [hn]; refine Nat.div_lt_of_lt_mul ?_
        rw [← Nat.pow_add]
        exact Nat.lt_of_lt_of_le hs1 (Nat.pow_le_pow_right (by decide) (by omega))
      have hn2 : j = 0 ∨ 2 ^ h ≤ n := by
        by_cases hj0 : j = 0
        · exact .inl hj0
        · right
          rw [hn]; refine (Nat.le_div_iff_mul_le hP).2 ?_
          rw [← Nat.pow_add]
          exact Nat.le_trans (Nat.pow_le_pow_right (by decide) (by omega)) hs2
      have hV := numV_at hn1 hn2
      have hE1 := numE_at hn1 hn2
      have hV1 : numV h (n + j * 2 ^ h + 1) = (n + 1) * 2 ^ j := by rw [numV_step, hV, hE1, Nat.add_mul, Nat.one_mul]
      have hk : n + j * 2 ^ h < E := by
        rw [hE]
        by_cases hj0 : j = 0
        · rw [hj0, Nat.zero_mul, Nat.add_zero]
          refine Nat.lt_of_lt_of_le hn1 ?_
          rw [Nat.pow_succ, Nat.mul_comm]; exact Nat.mul_le_mul_right _ hq
        · have h5 : (2 + j) * 2 ^ h ≤ q * 2 ^ h := Nat.mul_le_mul_right _ (by omega)
          rw [Nat.add_mul] at h5; rw [Nat.pow_succ] at hn1; omega
      obtain ⟨Y, hY⟩ : ∃ Y, Y = 2 ^ (e - min L e).toNat := ⟨_, rfl⟩
      have hYp : 0 < Y := by rw [hY]; exact Nat.two_pow_pos _
      have hjc : 2 ^ j * 2 ^ sc L e = 2 ^ (c + 1) * Y := by
        rw [hY, ← Nat.pow_add, ← Nat.pow_add]; congr 1; omega
      have hsx : sx L m e = (n * 2 ^ (c + 1) + r) * Y := by unfold sx; rw [← hY, ← hmn]
      have e1 : numV h (n + j * 2 ^ h) * 2 ^ sc L e = n * 2 ^ (c + 1) * Y := by rw [hV, Nat.mul_assoc, hjc, Nat.mul_assoc]
      have e2 : numV h (n + j * 2 ^ h + 1) * 2 ^ sc L e = (n * 2 ^ (c + 1) + 2 ^ (c + 1)) * Y := by rw [hV1, Nat.mul_assoc, hjc, ← Nat.mul_assoc, Nat.add_mul, Nat.one_mul]
      have e3 : (numV h (n + j * 2 ^ h) + numV h (n + j * 2 ^ h + 1)) * 2 ^ sc L e = (2 * (n * 2 ^ (c + 1)) + 2 ^ (c + 1)) * Y := by
        rw [Nat.add_mul, e1, e2, ← Nat.add_mul]; congr 1; omega
      have hlt1 : n * 2 ^ (c + 1) * Y < sx L m e := by rw [hsx]; exact (Nat.mul_lt_mul_right hYp).2 (by omega)
      have hlt2 : sx L m e < (n * 2 ^ (c + 1) + 2 ^ (c + 1)) * Y := by rw [hsx]; exact (Nat.mul_lt_mul_right hYp).2 (by omega)
      refine ⟨n + j * 2 ^ h, ⟨hk, by rw [e1]; exact Nat.le_of_lt hlt1, .inr (by rw [e2]; exact hlt2)⟩, ?_⟩
      unfold nearK
      rw [if_neg (show ¬ numV h (n + j * 2 ^ h) * 2 ^ sc L e = sx L m e from by rw [e1]; exact Nat.ne_of_lt hlt1), e3, hsx, ← Nat.mul_assoc, cmpN_scale _ _ hYp]
      have hg : onK mode neg (n + j * 2 ^ h) (cmpN (2 * (n * 2 ^ (c + 1) + r)) (2 * (n * 2 ^ (c + 1)) + 2 ^ (c + 1))) = awayN mode neg n (decide (2 ^ c ≤ r)) (decide (c = 0)) := by
        have hpw : 2 ^ (c + 1) = 2 * 2 ^ c := by rw [Nat.pow_succ, Nat.mul_comm]
        have hpar : (n + j * 2 ^ h) % 2 = n % 2 := by
          obtain ⟨h', rfl⟩ : ∃ h', h = h' + 1 := ⟨h - 1, by omega⟩
          rw [Nat.pow_succ, ← Nat.mul_assoc]; omega
        generalize n * 2 ^ (c + 1) = nn at *
        have hcase : (c = 0 ∧ r = 2 ^ c) ∨ (c ≠ 0 ∧ r < 2 ^ c) ∨ (c ≠ 0 ∧ 2 ^ c < r) := by
          by_cases hc0 : c = 0
          · subst hc0; left; simp at hrlt; exact ⟨rfl, by simp; omega⟩
          · right
            have : 2 ^ (c - 1 + 1) = 2 * 2 ^ (c - 1) := Nat.pow_succ'
            rw [show c - 1 + 1 = c by omega] at this
            omega
        unfold onK awayN
        rw [hpar, hpw]
        rcases hcase with ⟨h1, h2⟩ | ⟨h1, h2⟩ | ⟨h1, h2⟩
        · rw [cmpN_eq (by omega), decide_eq_true h1, decide_eq_true (Nat.le_of_eq h2.symm)]
          rcases (show mode = 0 ∨ mode = 1 ∨ mode = 2 ∨ mode = 3 ∨ mode = 4 by omega) with rfl | rfl | rfl | rfl | rfl <;> simp
        · rw [cmpN_lt (by omega), decide_eq_false h1, decide_eq_false (by omega)]
          rcases (show mode = 0 ∨ mode = 1 ∨ mode = 2 ∨ mode = 3 ∨ mode = 4 by omega) with rfl | rfl | rfl | rfl | rfl <;> simp <;> omega
        · rw [cmpN_gt (by omega), decide_eq_false h1, decide_eq_true (by omega)]
          rcases (show mode = 0 ∨ mode = 1 ∨ mode = 2 ∨ mode = 3 ∨ mode = 4 by omega) with rfl | rfl | rfl | rfl | rfl <;> simp <;> omega
      rw [hg]
      by_cases ha : awayN mode neg n (decide (2 ^ c ≤ r)) (decide (c = 0)) = true
      · rw [if_pos ha, if_pos ha]; omega
      · rw [if_neg ha, if_neg ha]
end Go.Proofs.YteahdgbokjbgcaaGreatDoor
namespace Go.Proofs.YteahdgbokjbgcaaGreatDoor
open Go.RowKit
set_option linter.unusedVariables false
set_option linter.unusedSimpArgs false

def errT (mode : Int) (o : Option D) : Int := if mode < 0 ∨ 4 < mode then 1 else errO o
def outT (mode : Int) (o : Option D) : D := if mode < 0 ∨ 4 < mode then D.zero else outO o
def CameT (w w' : World) (mode : Int) (o : Option D) (e : Ending) : Prop := ∃ v, e = .returned (.tuple #[v, .int .i64 (errT mode o)]) ∧ DOwn w' w.heap.size (outT mode o) v ∧ Below w.heap.size w w'

set_option maxRecDepth 10000 in
set_option maxHeartbeats 1000000 in
theorem dtold_any (x : Arg) (mode : Int) (w : World) (hx : x.Ok w) (hT : Tab w) :
    Calls Tryz.prog 255 #[x.v, .int .i64 mode] w fun en w' => CameT w w' mode x.F en := by
  have hF := fun W (hw : Below w.heap.size w W) => dform_any x.s x.a x.c x.l x.e W (by have := hx.len; omega) hx.sl.w32 (hx.sl.rd.grow hw) hx.lo hx.hi (hT.grow hw)
  unfold CameT
  obtain ⟨o, ho⟩ : ∃ o, o = x.F := ⟨_, rfl⟩
  rw [← ho]
  have hF2 : ∀ W, Below w.heap.size w W → Calls Tryz.prog 236 #[.bool x.s, .slice x.a x.l.length x.c, .int .i64 x.e] W fun en w' => Came W w' o en := by rw [ho]; exact hF
  clear hF ho hx hT
  have HF := Lib.hid hF2; clear hF2
  obtain ⟨s, a, l, c, e⟩ := x
  simp only [Arg.v] at HF ⊢
  have hb2 := ((Below.refl w.heap.size w).alloc (Nat.le_refl _) (.cells #[.bool s, .slice a l.length c, .int .i64 e] 46)).alloc (by rw [World.size_alloc]; omega) (.cells #[.bool false, .slice none 0 0, .int .i64 0] 46)
  have kn := Cel.new (w.alloc (.cells #[.bool s, .slice a l.length c, .int .i64 e] 46)) (.bool false) (.slice none 0 0) (.int .i64 0)
  rw [World.size_alloc] at kn
  rcases (show mode < 0 ∨ (¬ mode < 0 ∧ 4 < mode) ∨ (¬ mode < 0 ∧ ¬ 4 < mode) by omega) with hm | ⟨hm1, hm⟩ | ⟨hm1, hm2⟩
  · have hmm : mode < 0 ∨ 4 < mode := by omega
    have HM := Lib.hid hmm; clear hmm
    obtain ⟨c0, cc1, cc2, _, _, _⟩ := kn.facts
    go_enter Tryz.func255, Tryz.ntmps255
    go_wp2_with fail
    refine bodyPost_ret (v := .tuple #[dyV D.zero none 0, .int .i64 1]) (by simp [results, Tryz.results255, go_sem, dyV, D.zero, words_zero, c0, cc1, cc2]) rfl ?_
    unfold errT outT
    rw [if_pos HM.out, if_pos HM.out]
    exact ⟨_, rfl, ⟨none, 0, rfl, by rw [show D.zero.m = 0 from rfl, words_zero]; exact Own.none _ _ _⟩, hb2⟩
  · have hmm : mode < 0 ∨ 4 < mode := by omega
    have HM := Lib.hid hmm; clear hmm
    obtain ⟨c0, cc1, cc2, _, _, _⟩ := kn.facts
    go_enter Tryz.func255, Tryz.ntmps255
    go_wp2_with fail
    refine bodyPost_ret (v := .tuple #[dyV D.zero none 0, .int .i64 1]) (by simp [results, Tryz.results255, go_sem, dyV, D.zero, words_zero, c0, cc1, cc2]) rfl ?_
    unfold errT outT
    rw [if_pos HM.out, if_pos HM.out]
    exact ⟨_, rfl, ⟨none, 0, rfl, by rw [show D.zero.m = 0 from rfl, words_zero]; exact Own.none _ _ _⟩, hb2⟩
  · have hmm : ¬ (mode < 0 ∨ 4 < mode) := by omega
    have HM := Lib.hid hmm; clear hmm kn hb2
    go_enter Tryz.func255, Tryz.ntmps255
    go_wp2_with fail
    (obtain ⟨w1, h1⟩ : ∃ W, W = (w.alloc (.cells #[.bool s, .slice a l.length c, .int .i64 e] 46)) := ⟨_, rfl⟩; have pinEq := h1; (try simp only [wr3] at pinEq); rw [← pinEq]; clear pinEq)
    (obtain ⟨w2, h2⟩ : ∃ W, W = (w1.alloc (.cells #[.bool false, .slice none 0 0, .int .i64 0] 46)) := ⟨_, rfl⟩; have pinEq := h2; (try simp only [wr3] at pinEq); rw [← pinEq]; clear pinEq)
    obtain ⟨k1, hB, s1⟩ := new_cel h1 rfl
    obtain ⟨k2, b2, s2⟩ := new_cel h2 s1
    (replace k1 := cel_call b2 k1 (by omega); replace hB := below_call b2 hB (by omega))
    clear h1 h2 b2
    (obtain ⟨q60x0x0, q60x0x1, q60x0x2, q60x0x3, q60x0x4, q60x0x5⟩ := Cel.facts k2; obtain ⟨q60x1x0, q60x1x1, q60x1x2, q60x1x3, q60x1x4, q60x1x5⟩ := Cel.facts k1)
    refine (HF.out w2 hB).mono ?_; rintro en w4 ⟨v, rfl, ⟨a1, c1, rfl, ho1⟩, hb⟩
    (replace k2 := cel_call hb k2 (by omega); replace k1 := cel_call hb k1 (by omega); replace hB := below_call hb hB (by omega))
    have s4 := hb.size
    clear hb
    simp only [dyV]
    (clear q60x0x0 q60x0x1 q60x0x2 q60x0x3 q60x0x4 q60x0x5 q60x1x0 q60x1x1 q60x1x2 q60x1x3 q60x1x4 q60x1x5; obtain ⟨q66x0x0, q66x0x1, q66x0x2, q66x0x3, q66x0x4, q66x0x5⟩ := Cel.facts k2; obtain ⟨q66x1x0, q66x1x1, q66x1x2, q66x1x3, q66x1x4, q66x1x5⟩ := Cel.facts k1)
    go_wp2
    obtain ⟨c0, cc1, cc2, _, _, _⟩ := k2.facts
    refine bodyPost_ret (v := .tuple #[dyV (outO o) a1 c1, .int .i64 (errO o)]) (by simp [results, Tryz.results255, go_sem, dyV, c0, cc1, cc2]) rfl ?_
    unfold errT outT
    rw [if_neg HM.out, if_neg HM.out]
    exact ⟨_, rfl, ⟨a1, c1, rfl, (own_wr3 (g := w.heap.size + 1) ho1 (by omega)).mono (by omega)⟩, below_wr3 (g := w.heap.size + 1) hB (by omega)⟩

set_option maxRecDepth 10000 in
set_option maxHeartbeats 1000000 in
theorem away_any (mode : Int) (neg : Bool) (n : Nat) (half only : Bool) (w : World) (hn : n < 18446744073709551616) :
    Calls Tryz.prog 304 #[.int .i64 mode, .bool neg, .int .u64 n, .bool half, .bool only] w fun en w' => en = .returned (.bool (awayN mode neg n half only)) ∧ w = w' := by
  have g1 : (bits BinOp.and IntKind.u64 (n : Int) 1 == 1) = decide (n % 2 = 1) := by
    have := bits_and_u64_nat n 1 hn (by decide)
    rw [show ((1 : Nat) : Int) = 1 from rfl] at this
    rw [this, show 1 = 2 ^ 1 - 1 from rfl, Nat.and_two_pow_sub_one_eq_mod]
    rcases (show n % 2 ^ 1 = 0 ∨ n % 2 ^ 1 = 1 by omega) with h | h <;> rw [h] <;> simp <;> omega
  obtain ⟨od, hod⟩ : ∃ od, od = decide (n % 2 = 1) := ⟨_, rfl⟩
  rw [← hod] at g1
  have HOD := Lib.hid hod; clear hod
  go_enter Tryz.func304, Tryz.ntmps304
  rcases (show mode = 0 ∨ mode = 4 ∨ mode = 2 ∨ mode = 3 ∨ (mode ≠ 0 ∧ mode ≠ 4 ∧ mode ≠ 2 ∧ mode ≠ 3) by omega) with h | h | h | h | ⟨h1, h2, h3, h4⟩
  · subst h
    cases half <;> cases only
    all_goals
      go_wp2
      go_ret
      refine ⟨?_, rfl⟩
      unfold awayN
      rw [← HOD.out]
      simp [g1]
  · subst h
    go_wp2
    go_ret
    exact ⟨by unfold awayN; simp, rfl⟩
  · subst h
    go_wp2
    go_ret
    exact ⟨by unfold awayN; simp, rfl⟩
  · subst h
    go_wp2
    go_ret
    exact ⟨by unfold awayN; simp, rfl⟩
  · have e1 : (mode == 0) = false := by simpa using h1
    have e2 : (mode == 4) = false := by simpa using h2
    have e3 : (mode == 2) = false := by simpa using h3
    have e4 : (mode == 3) = false := by simpa using h4
    have H1 := Lib.hid h1; have H2 := Lib.hid h2; have H3 := Lib.hid h3; have H4 := Lib.hid h4; clear h1 h2 h3 h4
    go_wp2
    go_ret
    exact ⟨by unfold awayN; rw [if_neg H1.out, if_neg H2.out, if_neg H3.out, if_neg H4.out]; rfl, rfl⟩

set_option maxRecDepth 10000 in
set_option maxHeartbeats 1000000 in
theorem beyond_any (v0 v1 : Int) (E : Nat) (neg : Bool) (mode : Int) (w : World) (hE0 : 0 < E) (hE : E < 18446744073709551616) :
    Calls Tryz.prog 302 #[.agg #[.int .i64 v0, .int .i64 v1, .int .u64 E], .bool neg, .int .i64 mode] w fun en w' => en = .returned (.int .u64 (beyondN E neg mode : Nat)) ∧ Below w.heap.size w w' := by
  have hB := (Below.refl w.heap.size w).alloc (Nat.le_refl _) (.cells #[.int .i64 v0, .int .i64 v1, .int .u64 E] 251)
  have e0 : IntKind.u64.wrap ((E : Int) - 1) = ((E - 1 : Nat) : Int) := by rw [IntKind.wrap_u64]; omega
  have k := cells3 (heap_alloc_new w (.cells #[.int .i64 v0, .int .i64 v1, .int .u64 E] 251))
  obtain ⟨c0, cc1, cc2, _, _, _⟩ := k
  have HB := Lib.hid hB; clear hB
  have hret : ∀ z, z = beyondN E neg mode → Ending.returned (.int .u64 ((z : Nat) : Int)) = .returned (.int .u64 (beyondN E neg mode : Nat)) := fun z h => by rw [h]
  have HR := Lib.hid hret; clear hret
  go_enter Tryz.func302, Tryz.ntmps302
  rcases (show mode = 1 ∨ mode = 2 ∨ mode = 3 ∨ (mode ≠ 1 ∧ mode ≠ 2 ∧ mode ≠ 3) by omega) with h | h | h | ⟨h1, h2, h3⟩
  · subst h
    go_wp2
    all_goals
      go_ret
      exact ⟨HR.out _ (by unfold beyondN; simp), HB.out⟩
  · subst h
    cases neg
    all_goals
      go_wp2
      go_ret
      exact ⟨HR.out _ (by unfold beyondN; simp), HB.out⟩
  · subst h
    cases neg
    all_goals
      go_wp2
      go_ret
      exact ⟨HR.out _ (by unfold beyondN; simp), HB.out⟩
  · have e1 : (mode == 1) = false := by simpa using h1
    have e2 : (mode == 2) = false := by simpa using h2
    have e3 : (mode == 3) = false := by simpa using h3
    have H1 := Lib.hid h1; have H2 := Lib.hid h2; have H3 := Lib.hid h3; clear h1 h2 h3
    go_wp2
    go_ret
    exact ⟨HR.out _ (by unfold beyondN; rw [if_neg (by simp [H1.out, H2.out, H3.out])]), HB.out⟩
end Go.Proofs.YteahdgbokjbgcaaGreatDoor
namespace Go.Proofs.YteahdgbokjbgcaaGreatDoor
open Go.RowKit
set_option linter.unusedVariables false
set_option linter.unusedSimpArgs false

set_option maxHeartbeats 1000000 in
set_option maxRecDepth 10000 in
theorem shift_dn (a : Option Addr) (c : Nat) (l : List Nat) (k : Nat) (w : World) (hlen : l.length ≤ 17592186044416) (hc : l.length ≤ c) (hw : W32 l) (hr : Rd w a l) (h8 : (words (num l)).length ≤ 8192) (hk0 : 0 < k)
    (hk : k < bitLen (num l)) :
    Calls Tryz.prog 251 #[.slice a l.length c, .int .i64 (-(k : Int))] w fun e w' => ∃ a', e = .returned (.tuple #[.slice a' (words (num l / 2 ^ k)).length (words (num l / 2 ^ k)).length, .int .i64 0]) ∧ Own w' 118 w.heap.size a' (words (num l / 2 ^ k)).length (words (num l / 2 ^ k)) ∧ Below w.heap.size w w' := by
  have C1 := Lib.hid (cut_any a c l w (by omega) hc hw hr)
  have hl1 := words_num_len hw
  have hR1 := hr.words hw
  obtain ⟨N, hN⟩ : ∃ N, N = num l := ⟨_, rfl⟩
  rw [← hN] at C1 hl1 hR1 hk h8 ⊢
  clear hN hr hw
  have h3 := words_bitLen h8
  have h4 := words_bitLen (Nat.le_refl (words N).length)
  have h0 : 0 < (words N).length := by omega
  have hkw : k / 32 < (words N).length := by omega
  obtain ⟨b, off, rfl, hR2⟩ := hR1.dropAt hkw
  have L1 := Lib.hid (len_any (some ⟨b, off, none⟩) c (words N) w (by omega) (by omega) (W32_words N) hR1)
  rw [num_words] at L1
  have D1 := down_any (some ⟨b, off + k / 32, none⟩) (c - k / 32) ((words N).drop (k / 32)) (k % 32) w (by simp; omega) (by omega) ((W32_words N).drop _) hR2
  have e1 : num ((words N).drop (k / 32)) / 2 ^ (k % 32) = N / 2 ^ k := by
    rw [drop_words, pow32, Nat.div_div_eq_div_mul, ← Nat.pow_add, show 32 * (k / 32) + k % 32 = k by omega]
  have e2 : ((words N).drop (k / 32)).length = (words N).length - k / 32 := by simp
  rw [e1, e2] at D1
  have hlt : N / 2 ^ k < 4294967296 ^ ((words N).length - k / 32) := by
    have := num_lt ((W32_words N).drop (k / 32))
    rw [e2] at this
    rw [← e1]
    exact Nat.lt_of_le_of_lt (Nat.div_le_self _ _) this
  have D2 := Lib.hid D1; clear D1 e1 e2
  have hb0 : (((words N).length : Int) == 0) = false := by simp; exact fun h => by rw [h] at h0; simp at h0
  have HLT := Lib.hid hlt; clear hlt
  have hk1 : k ≤ 262144 := by omega
  go_enter Tryz.func251, Tryz.ntmps251
  go_wp2_with fail
  refine C1.out.mono ?_; rintro e w' ⟨rfl, rfl⟩
  go_wp2_with fail
  refine L1.out.mono ?_; rintro e w' ⟨rfl, rfl⟩
  go_wp2_with fail
  refine D2.out.mono ?_; rintro e w1 ⟨rfl, hk2, hb⟩
  have N1 := norm_any (some ⟨w.heap.size, 0, none⟩) ((words N).length - k / 32) (digs ((words N).length - k / 32) (N / 2 ^ k)) w1 (by rw [digs_len]; omega) (W32_digs _ _) hk2.rd
  rw [digs_words HLT.out, digs_len] at N1
  have N2 := Lib.hid N1; clear N1
  go_wp2_with fail
  refine N2.out.mono ?_; rintro e w2 ⟨rfl, hk3, hb3⟩
  go_wp2
  go_ret2
  exact ⟨some ⟨w1.heap.size, 0, none⟩, rfl, Own.of hk3 hb.size, hb.trans (hb3.mono hb.size)⟩


theorem shift_cut (a : Option Addr) (c M k : Nat) (w : World) (hc : (words M).length ≤ c) (hr : Rd w a (words M)) (h8 : (words M).length ≤ 8192) (hk0 : 0 < k) (hk1 : k ≤ 9223372036854775807) :
    Calls Tryz.prog 251 #[.slice a (words M).length c, .int .i64 (-(k : Int))] w fun e w' => ∃ a' c', e = .returned (.tuple #[.slice a' (words (M / 2 ^ k)).length c', .int .i64 0]) ∧ Own w' 118 w.heap.size a' c' (words (M / 2 ^ k)) ∧ Below w.heap.size w w' := by
  by_cases h : k < bitLen M
  · have := shift_dn a c (words M) k w (by omega) hc (W32_words M) hr (by rw [num_words]; exact h8) hk0 (by rw [num_words]; exact h)
    rw [num_words] at this
    refine this.mono ?_
    rintro e w' ⟨a', h1, h2, h3⟩
    exact ⟨a', _, h1, h2, h3⟩
  · have := shift_nil a c (words M) (-(k : Int)) w (by omega) hc (W32_words M) hr (by rw [num_words]; exact h8) (by rw [num_words]; right; omega) (by omega)
    refine this.mono ?_
    rintro e w' ⟨h1, rfl⟩
    have h0 : M / 2 ^ k = 0 := Nat.div_eq_of_lt (Nat.lt_of_lt_of_le (bitLen_spec M).1 (Nat.pow_le_pow_right (by decide) (by omega)))
    rw [h0, words_zero]
    exact ⟨none, 0, h1, Own.none _ _ _, Below.refl _ _⟩

set_option maxRecDepth 10000 in
set_option maxHeartbeats 4000000 in
theorem on_any (h q : Nat) (L : Int) (E : Nat) (d : D) (mode : Int) (a : Option Addr) (c base : Nat) (w : World) (hh : 1 ≤ h) (hh2 : h ≤ 52) (hL1 : -2000 ≤ L) (hL2 : L ≤ 0) (hE : E = q * 2 ^ h) (hq : 2 ≤ q) (hq2 : q ≤ 2047) (hd : d.Ok) (ho : Own w 118 base a c (words d.m)) :
    Calls Tryz.prog 256 #[.agg #[.int .i64 (h + 1 : Nat), .int .i64 L, .int .u64 E], dyV d a c, .int .i64 mode] w fun en w' => en = .returned (.int .u64 (onF h L E d mode : Nat)) ∧ Below w.heap.size w w' := by
  obtain ⟨neg, m, e⟩ := d
  have hp := Nat.two_pow_pos h
  have hp52 : 2 ^ h ≤ 4503599627370496 := by have := Nat.pow_le_pow_right (show 0 < 2 by decide) hh2; simpa using this
  have hEq : E / 2 ^ h = q := by rw [hE, Nat.mul_div_cancel _ hp]
  have hE0 : 0 < E := by rw [hE]; exact Nat.mul_pos (by omega) hp
  have hE2 : E < 18446744073709551616 := by
    have := Nat.mul_le_mul hq2 hp52
    rw [← hE] at this; omega
  obtain ⟨hd1, hd2, hd3⟩ := hd
  simp only at hd1 hd2 hd3 ho
  have hLen := fun W (hw : Below w.heap.size w W) => len_any a c (words m) W (by omega) ho.cap (W32_words m) (ho.rd.grow hw)
  have hSm := fun W (hw : Below w.heap.size w W) (hm : m < 18446744073709551616) => small_any a c (words m) W (by omega) ho.cap (W32_words m) (ho.rd.grow hw) (by rw [num_words]; exact hm)
  have hSh := fun k W (hw : Below w.heap.size w W) (h0 : 0 < k) (h1 : k ≤ 9223372036854775807) => shift_cut a c m k W ho.cap (ho.rd.grow hw) hd1 h0 h1
  have hBt := fun j W (hw : Below w.heap.size w W) (hj : j ≤ 9223372036854775807) => bit_any a c (words m) j W (by omega) hj (W32_words m) (ho.rd.grow hw)
  have hBy := fun W => beyond_any (h + 1 : Nat) L E neg mode W hE0 hE2
  have hAw := fun n half only W hn => away_any mode neg n half only W hn
  have hbl := words_bitLen (Nat.le_refl (words m).length)
  simp only [num_words] at hLen hSm hBt
  obtain ⟨R, hR⟩ : ∃ R, R = onF h L E ⟨neg, m, e⟩ mode := ⟨_, rfl⟩
  rw [← hR]
  unfold onF at hR
  simp only [hEq] at hR
  have f1 : (E : Int) / ((2 : Int) ^ h) = (q : Int) := by
    rw [show ((2 : Int) ^ h) = ((2 ^ h : Nat) : Int) from by simp, ← Int.natCast_ediv, hEq]
  have HR := Lib.hid hR; have HLen := Lib.hid hLen; have HSm := Lib.hid hSm; have HSh := Lib.hid hSh; have HBt := Lib.hid hBt; have HBy := Lib.hid hBy; have HAw := Lib.hid hAw
  have HE := Lib.hid hE
  have HEq := Lib.hid hEq
  have HOc := Lib.hid ho.cap
  clear hR hLen hSm hSh hBt hBy hAw ho hE hEq
  simp only [dyV]
  have hz1 : m = 0 ∨ (m ≠ 0 ∧ 0 < bitLen m) := by
    rcases Nat.eq_zero_or_pos m with h | h
    · exact .inl h
    · exact .inr ⟨by omega, bitLen_pos (by omega)⟩
  have HZ := Lib.hid hz1; clear hz1
  go_enter Tryz.func256, Tryz.ntmps256
  go_wp2_with fail
  obtain ⟨w1, h1⟩ : ∃ W, W = w.alloc (.cells #[.int .i64 ((h : Int) + 1), .int .i64 L, .int .u64 (E : Int)] 251) := ⟨_, rfl⟩
  rw [← h1]
  obtain ⟨k1, hB, s1⟩ := new_of h1 rfl
  clear h1
  (obtain ⟨w2, h2⟩ : ∃ W, W = (w1.alloc (.cells #[.bool neg, .slice a (words m).length c, .int .i64 e] 46)) := ⟨_, rfl⟩; have pinEq := h2; (try simp only [wr3] at pinEq); rw [← pinEq]; clear pinEq)
  obtain ⟨k2, b2, s2⟩ := new_cel h2 s1
  have k1' : w2.heap[w.heap.size]? = _ := (b2.block _ (by omega)).trans k1
  replace hB := below_call b2 hB (by omega)
  clear h2 b2 k1
  obtain ⟨q124x0x0, q124x0x1, q124x0x2, q124x0x3, q124x0x4, q124x0x5⟩ := Cel.facts k2
  obtain ⟨_, _, _, _, _, _⟩ := cells3 k1'
  refine (HLen.out w2 hB).mono ?_; rintro en w3 ⟨rfl, rfl⟩
  rcases HZ.out with h0 | ⟨h0, hbp⟩
  · have e1 : ((bitLen m : Int) == 0) = true := by rw [h0]; rfl
    have H0 := Lib.hid h0; clear h0
    go_wp2
    go_ret
    refine ⟨?_, hB⟩
    rw [HR.out, if_pos H0.out]; rfl
  have e1 : ((bitLen m : Int) == 0) = false := by simp; omega
  have H0 := Lib.hid h0; clear h0
  have g0 : IntKind.i64.wrap (h : Int) = (h : Int) := by rw [IntKind.wrap_i64]; omega
  have g0' : IntKind.i64.wrap ((h : Int) + 1 - 1) = (h : Int) := by rw [IntKind.wrap_i64]; omega
  have g1 : IntKind.i64.wrap (q : Int) = (q : Int) := by rw [IntKind.wrap_i64]; omega
  have g2 : IntKind.i64.wrap (L + (q : Int)) = L + (q : Int) := by rw [IntKind.wrap_i64]; omega
  have g3 : IntKind.i64.wrap (L + (q : Int) - 1) = L + (q : Int) - 1 := by rw [IntKind.wrap_i64]; omega
  have g4 : IntKind.i64.wrap (L + (q : Int) - 1 + ((h : Int) + 1)) = L + (q : Int) - 1 + ((h : Int) + 1) := by rw [IntKind.wrap_i64]; omega
  have g5 : IntKind.i64.wrap (L + (q : Int) - 1 + ((h : Int) + 1) - 1) = L + (q : Int) - 1 + ((h : Int) + 1) - 1 := by rw [IntKind.wrap_i64]; omega
  go_wp2_with fail
  go_quiet (fail)
  have k2q : Cel (w2.drewN nq) (w.heap.size + 1) (.bool neg) (.slice a (words m).length c) (.int .i64 e) := k2
  have k1q : (w2.drewN nq).heap[w.heap.size]? = _ := k1'
  have hBq : Below w.heap.size w (w2.drewN nq) := below_drewN' hB
  obtain ⟨w3, hw3⟩ : ∃ w3, w3 = w2.drewN nq := ⟨_, rfl⟩
  rw [← hw3] at k2q k1q hBq ⊢
  have s3 : w3.heap.size = w.heap.size + 1 + 1 := by rw [hw3]; exact s2
  clear hw3 k2 k1' hB
  obtain ⟨_, _, _, _, _, _⟩ := k2q.facts
  obtain ⟨_, _, _, _, _, _⟩ := cells3 k1q
  have hbs := bitLen_spec m
  have hm64 : bitLen m ≤ 53 → m < 18446744073709551616 := fun hb => Nat.lt_of_lt_of_le hbs.1 (by
    have := Nat.pow_le_pow_right (show 0 < 2 by decide) hb
    omega)
  have HBS := Lib.hid hbs; clear hbs
  have HM64 := Lib.hid hm64; clear hm64
  obtain ⟨x, hx⟩ : ∃ x, x = expN h L m e := ⟨_, rfl⟩
  rw [← hx] at HR
  unfold expN at hx
  generalize bitLen m = bl at *
  have hmax : (if (bl : Int) + e - ((h : Int) + 1) < L then L else (bl : Int) + e - ((h : Int) + 1)) = x := by split <;> omega
  have hx1 : L ≤ x := by omega
  have hx2 : (bl : Int) + e - ((h : Int) + 1) ≤ x := by omega
  have hx3 : x ≤ 3000000000000 := by omega
  clear hx
  by_cases hbig : L + (q : Int) - 1 + ((h : Int) + 1) - 1 < bl + e
  · have hRb : R = beyondN E neg mode := by rw [HR.out, if_neg H0.out, if_pos (by omega)]
    have HRb := Lib.hid hRb; clear hRb
    go_wp2_with fail
    refine (HBy.out w3).mono ?_; rintro en w4 ⟨rfl, hb⟩
    have hb2 := hBq.trans (hb.mono hBq.size)
    go_wp2
    go_ret
    exact ⟨by rw [HRb.out]; rfl, hb2⟩
  have hRs : R = stepN mode neg m (x - e) + (x - L).toNat * 2 ^ h := by rw [HR.out, if_neg H0.out, if_neg (by omega)]
  have HRs := Lib.hid hRs; clear hRs HR
  obtain ⟨j, hj⟩ : ∃ j : Nat, (j : Int) = x - L := ⟨(x - L).toNat, by omega⟩
  have hjq : j ≤ q := by omega
  obtain ⟨J, hJ⟩ : ∃ J, J = j * 2 ^ h := ⟨_, rfl⟩
  have hJE : J ≤ E := by rw [hJ, HE.out]; exact Nat.mul_le_mul_right _ hjq
  have hEb : E ≤ 2047 * 4503599627370496 := by rw [HE.out]; exact Nat.mul_le_mul hq2 hp52
  have f7 : IntKind.u64.wrap ((x - L) * (2 : Int) ^ h) = (J : Int) := by
    have : (x - L) * (2 : Int) ^ h = (J : Int) := by rw [← hj, hJ]; simp
    rw [this]; exact wrap_u64_nat _ (by omega)
  have f9 : IntKind.u64.wrap (x - L) = x - L := by rw [IntKind.wrap_u64]; omega
  have hRJ : R = stepN mode neg m (x - e) + J := by rw [HRs.out, hJ, show (x - L).toNat = j by omega]
  have HRJ := Lib.hid hRJ; clear hRJ HRs
  have HJ := Lib.hid hj; clear hj hJ
  have hn53 : (2 : Nat) ^ (h + 1) ≤ 9007199254740992 := by have := Nat.pow_le_pow_right (show 0 < 2 by decide) (show h + 1 ≤ 53 by omega); simpa using this
  by_cases hcut : x - e ≤ 0
  · obtain ⟨k, hk⟩ : ∃ k : Nat, (k : Int) = e - x := ⟨(e - x).toNat, by omega⟩
    have hcut2 : ¬ 0 < x - e := by omega
    have hcut3 : decide (0 < x - e) = false := by simp; omega
    obtain ⟨N, hN⟩ : ∃ N, N = m * 2 ^ k := ⟨_, rfl⟩
    have hNlt : N < 9007199254740992 := by
      rw [hN]
      refine Nat.lt_of_lt_of_le ((Nat.mul_lt_mul_right (Nat.two_pow_pos _)).2 HBS.out.1) (Nat.le_trans ?_ hn53)
      rw [← Nat.pow_add]; exact Nat.pow_le_pow_right (by decide) (by omega)
    have gS : IntKind.u64.wrap ((m : Int) * (2 : Int) ^ (-(x - e)).toNat) = (N : Int) := by
      rw [show (-(x - e)).toNat = k by omega, show (m : Int) * (2 : Int) ^ k = (N : Int) by rw [hN]; simp]
      exact wrap_u64_nat _ (by omega)
    have hRN : R = N + J := by
      rw [HRJ.out]; unfold stepN digN; rw [if_neg (by omega), if_pos hcut, show (-(x - e)).toNat = k by omega, ← hN]
    have f8 : IntKind.u64.wrap ((N : Int) + (J : Int)) = (R : Int) := by rw [IntKind.wrap_u64, hRN]; omega
    have HK := Lib.hid hk; have HN := Lib.hid hN; have HRN := Lib.hid hRN; clear hk hN hRN
    go_wp2_with fail
    refine (HSm.out w3 hBq (HM64.out (by have := HK.out; omega))).mono ?_; rintro en w4 ⟨rfl, rfl⟩
    go_wp2_with fail
    have hcut4 : decide (e < x) = false := decide_eq_false (by omega)
    go_big_quiet (fail)
    have k2r : Cel (w3.drewN nq) (w.heap.size + 1) (.bool neg) (.slice a (words m).length c) (.int .i64 e) := k2q
    have k1r : (w3.drewN nq).heap[w.heap.size]? = _ := k1q
    have hBr : Below w.heap.size w (w3.drewN nq) := below_drewN' hBq
    have HBR := Lib.hid hBr; clear hBr
    obtain ⟨_, _, _, _, _, _⟩ := k2r.facts
    obtain ⟨_, _, _, _, _, _⟩ := cells3 k1r
    go_wp2_with fail
    go_ret
    exact ⟨rfl, HBR.out⟩
  · obtain ⟨k, hk⟩ : ∃ k : Nat, ((k + 1 : Nat) : Int) = x - e := ⟨(x - e).toNat - 1, by omega⟩
    have hcut2 : 0 < x - e := by omega
    have hcut3 : decide (0 < x - e) = true := by simp; omega
    have hSh := HSh.out (k + 1) w3 hBq (by omega) (by omega)
    rw [hk] at hSh
    obtain ⟨N, hN⟩ : ∃ N, N = m / 2 ^ (k + 1) := ⟨_, rfl⟩
    rw [← hN] at hSh
    have hNlt : N < 9007199254740992 := by
      rw [hN]
      refine Nat.lt_of_lt_of_le (?_ : m / 2 ^ (k + 1) < 2 ^ (h + 1)) hn53
      refine Nat.div_lt_of_lt_mul ?_
      rw [← Nat.pow_add]
      exact Nat.lt_of_lt_of_le HBS.out.1 (Nat.pow_le_pow_right (by decide) (by omega))
    have hNl := words_len_le (n := N) (k := 2) (by omega)
    have hSm4 := fun W a4 c4 base (ho : Own W 118 base a4 c4 (words N)) => small_any a4 c4 (words N) W (by omega) ho.cap (W32_words N) ho.rd (by rw [num_words]; omega)
    simp only [num_words] at hSm4
    have HSm4 := Lib.hid hSm4; clear hSm4
    have hc1 : ((x - e) == 1) = decide (k = 0) := by
      by_cases h : k = 0
      · rw [decide_eq_true h]; simp; omega
      · rw [decide_eq_false h]; simp; omega
    obtain ⟨hf, hhf⟩ : ∃ hf, hf = m.testBit k := ⟨_, rfl⟩
    obtain ⟨ol, hol⟩ : ∃ ol, ol = decide (k = 0) := ⟨_, rfl⟩
    rw [← hol] at hc1
    obtain ⟨on, hon⟩ : ∃ on, on = awayN mode neg N hf ol := ⟨_, rfl⟩
    have hRN : R = (if on = true then N + 1 else N) + J := by
      rw [HRJ.out]; unfold stepN digN
      rw [if_neg hcut, show (x - e).toNat = k + 1 by omega, ← hN, show (x - e - 1).toNat = k by omega, ← hhf, show decide (x - e = 1) = ol by rw [hol]; rw [decide_eq_decide]; omega, ← hon]
      cases on <;> simp
      omega
    have hAw := fun W => HAw.out N hf ol W (by omega)
    rw [← hon] at hAw
    have hBt := fun W (hw : Below w.heap.size w W) => HBt.out k W hw (by omega)
    rw [← hhf, show (k : Int) = x - e - 1 by omega] at hBt
    have HSh2 := Lib.hid hSh; have HK := Lib.hid hk; have HN := Lib.hid hN; have HRN := Lib.hid hRN; have HAw2 := Lib.hid hAw; have HBt2 := Lib.hid hBt; clear hSh hk hN hRN hAw hBt hon hhf hol
    go_wp2_with fail
    refine HSh2.out.mono ?_; rintro en w4 ⟨a4, c4, rfl, ho4, hb4⟩
    have k2s := k2q.below hb4 k2q.lt
    have k1s := (hb4.block w.heap.size (by omega)).trans k1q
    obtain ⟨_, _, _, _, _, _⟩ := k2s.facts
    obtain ⟨_, _, _, _, _, _⟩ := cells3 k1s
    have hBs := hBq.trans (hb4.mono hBq.size)
    have HBS4 := Lib.hid hBs; clear hBs
    go_wp2_with fail
    refine (HSm4.out _ _ _ _ ho4).mono ?_; rintro en w5 ⟨rfl, rfl⟩
    go_wp2_with fail
    have Q1 := Lib.hid (show ∀ n, Calls Tryz.prog 305 #[.slice a (words m).length c, .int .i64 (x - e - 1)] (w4.drewN n) fun e w'' => e = .returned (.bool hf) ∧ w'' = w4.drewN n from fun n => (HBt2.out _ (below_drewN' HBS4.out)).mono (by rintro en w3 ⟨rfl, rfl⟩; exact ⟨rfl, rfl⟩))
    have Q2 := Lib.hid (show ∀ n, Calls Tryz.prog 304 #[.int .i64 mode, .bool neg, .int .u64 N, .bool hf, .bool ol] (w4.drewN n) fun e w'' => e = .returned (.bool on) ∧ w'' = w4.drewN n from fun n => (HAw2.out _).mono (by rintro en w3 ⟨rfl, rfl⟩; exact ⟨rfl, rfl⟩))
    have hcut4 : decide (e < x) = true := decide_eq_true (by omega)
    go_big_quiet (first
      | (go_at_call 305; with_reducible exact Calls.quiet_of_same (Q1.out _))
      | (go_at_call 304; with_reducible exact Calls.quiet_of_same (Q2.out _)))
    have k1r : (w4.drewN nq).heap[w.heap.size]? = _ := k1s
    have hBr : Below w.heap.size w (w4.drewN nq) := below_drewN' HBS4.out
    have HBR := Lib.hid hBr; clear hBr
    obtain ⟨_, _, _, _, _, _⟩ := cells3 k1r
    cases on with
    | true =>
      have hRN := HRN.out
      rw [if_pos rfl] at hRN
      have f8 : IntKind.u64.wrap ((N : Int) + 1 + (J : Int)) = (R : Int) := by rw [IntKind.wrap_u64, hRN]; omega
      clear hRN
      go_wp2_with fail
      go_ret
      exact ⟨rfl, HBR.out⟩
    | false =>
      have hRN := HRN.out
      rw [if_neg (by simp)] at hRN
      have f8 : IntKind.u64.wrap ((N : Int) + (J : Int)) = (R : Int) := by rw [IntKind.wrap_u64, hRN]; omega
      clear hRN
      go_wp2_with fail
      go_ret
      exact ⟨rfl, HBR.out⟩
end Go.Proofs.YteahdgbokjbgcaaGreatDoor
