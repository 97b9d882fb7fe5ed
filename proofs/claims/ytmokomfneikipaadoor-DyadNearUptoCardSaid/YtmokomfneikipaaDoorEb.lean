/- What dyad's grid.on answers, in numbers: it is what Rounds says. No statement of the seat is proved here. -/
import Derived.Test.YtmokomfneikipaaDoorProg
import Derived.Test.YtmokomfneikipaaDoorEa
namespace Go.Proofs.YtmokomfneikipaaDoor
open Go.RowKit
set_option linter.unusedVariables false
set_option linter.unusedSimpArgs false

def beyondN (E : Nat) (neg : Bool) (mode : Int) : Nat := if mode = 1 ∨ mode = 2 ∧ neg = true ∨ mode = 3 ∧ neg = false then E - 1 else E
def awayN (mode : Int) (neg : Bool) (n : Nat) (half only : Bool) : Bool :=
  if mode = 0 then half && (!only || decide (n % 2 = 1)) else if mode = 4 then half else if mode = 2 then !neg else if mode = 3 then neg else false
/-- the power at which a value's last digit stands -/
def expN (h : Nat) (L : Int) (m : Nat) (e : Int) : Int := max ((bitLen m : Int) + e - (h + 1)) L
def digN (m : Nat) (cut : Int) : Nat := if cut ≤ 0 then m * 2 ^ (-cut).toNat else m / 2 ^ cut.toNat
def stepN (mode : Int) (neg : Bool) (m : Nat) (cut : Int) : Nat := if 0 < cut ∧ awayN mode neg (digN m cut) (m.testBit (cut - 1).toNat) (decide (cut = 1)) = true then digN m cut + 1 else digN m cut
def onF (h : Nat) (L : Int) (E : Nat) (d : D) (mode : Int) : Nat :=
  if d.m = 0 then 0
  else if L + (E / 2 ^ h : Nat) - 1 + h < (bitLen d.m : Int) + d.exp then beyondN E d.neg mode
  else stepN mode d.neg d.m (expN h L d.m d.exp - d.exp) + (expN h L d.m d.exp - L).toNat * 2 ^ h

theorem testBit_ge {m c : Nat} (n r : Nat) (hm : m = n * 2 ^ (c + 1) + r) (hr : r < 2 ^ (c + 1)) : m.testBit c = decide (2 ^ c ≤ r) := by
  have hp := Nat.two_pow_pos c
  have h1 : m / 2 ^ c = 2 * n + r / 2 ^ c := by
    rw [hm, Nat.pow_succ, show n * (2 ^ c * 2) = 2 ^ c * (2 * n) by rw [Nat.mul_left_comm, Nat.mul_comm n 2, Nat.mul_left_comm], Nat.mul_add_div hp]
  have h2 : m.testBit c = decide ((m / 2 ^ c) % 2 = 1) := Nat.testBit_eq_decide_div_mod_eq
  rw [h2, h1]
  have h3 : r / 2 ^ c < 2 := Nat.div_lt_of_lt_mul (by rw [← Nat.pow_succ]; exact hr)
  by_cases h4 : 2 ^ c ≤ r
  · have h5 : 1 ≤ r / 2 ^ c := (Nat.le_div_iff_mul_le hp).2 (by omega)
    rw [decide_eq_true h4]; simp; omega
  · have h5 : r / 2 ^ c = 0 := Nat.div_eq_of_lt (by omega)
    rw [decide_eq_false h4, h5]; simp

theorem on_rounds (h : Nat) (L : Int) (E q : Nat) (d : D) (mode : Int) (hh : 1 ≤ h) (hE : E = q * 2 ^ h) (hq : 2 ≤ q) (hodd : d.m = 0 ∨ d.m % 2 = 1) (hm0 : 0 ≤ mode) (hm4 : mode ≤ 4) : Rounds h L E d mode (onF h L E d mode) := by
  obtain ⟨neg, m, e⟩ := d
  dsimp only at hodd
  have hH := Nat.two_pow_pos h
  have hEpos : 0 < E := by rw [hE]; exact Nat.mul_pos (by omega) hH
  have hC := Nat.two_pow_pos (sc L e)
  unfold onF Rounds
  dsimp only
  by_cases h0 : m = 0
  · rw [if_pos h0]
    have hv0 : numV h 0 = 0 := by unfold numV numM; simp
    refine ⟨0, ⟨hEpos, by rw [hv0]; simp, ?_⟩, ?_⟩
    · right
      have := numV_step h 0
      have := Nat.two_pow_pos (numE h 0)
      rw [show sx L m e = 0 by unfold sx; rw [h0, Nat.zero_mul]]
      exact Nat.mul_pos (by omega) hC
    · unfold nearK; rw [hv0, show sx L m e = 0 by unfold sx; rw [h0, Nat.zero_mul], if_pos (by simp)]
  rw [if_neg h0]
  have hm1 : m % 2 = 1 := by omega
  obtain ⟨hs1, hs2⟩ := bitLen_spec m
  have hs2 := hs2 (by omega)
  have hbp := bitLen_pos h0
  have hEq : E / 2 ^ h = q := by rw [hE, Nat.mul_div_cancel _ hH]
  rw [hEq]
  have hVE : numV h E = 2 ^ (q - 1 + h) := by
    rw [hE]
    have := @numV_at h (2 ^ h) (q - 1) (by rw [Nat.pow_succ]; omega) (.inr (Nat.le_refl _))
    rw [show q * 2 ^ h = 2 ^ h + (q - 1) * 2 ^ h by rw [show q = 1 + (q - 1) by omega, Nat.add_mul, Nat.one_mul]; simp, this, ← Nat.pow_add, Nat.add_comm]
  by_cases hbig : L + (q : Nat) - 1 + h < (bitLen m : Int) + e
  · rw [if_pos hbig]
    have hX : numV h E * 2 ^ sc L e ≤ sx L m e := by
      rw [hVE, ← Nat.pow_add]
      unfold sx sc
      refine Nat.le_trans ?_ (Nat.mul_le_mul_right _ hs2)
      rw [← Nat.pow_add]
      exact Nat.pow_le_pow_right (by decide) (by omega)
    have hVlt : numV h (E - 1) < numV h E := numV_lt (by omega)
    have hlt : numV h (E - 1) * 2 ^ sc L e < numV h E * 2 ^ sc L e := (Nat.mul_lt_mul_right hC).2 hVlt
    refine ⟨E - 1, ⟨by omega, by omega, .inl (by omega)⟩, ?_⟩
    unfold nearK
    rw [if_neg (by omega), show E - 1 + 1 = E by omega, cmpN_gt (by rw [Nat.add_mul]; omega)]
    unfold beyondN onK
    rcases (show mode = 0 ∨ mode = 1 ∨ mode = 2 ∨ mode = 3 ∨ mode = 4 by omega) with rfl | rfl | rfl | rfl | rfl <;> cases neg <;> simp
  · rw [if_neg hbig]
    obtain ⟨x, hx⟩ : ∃ x, x = expN h L m e := ⟨_, rfl⟩
    rw [← hx]
    unfold expN at hx
    obtain ⟨j, hj⟩ : ∃ j : Nat, (j : Int) = x - L := ⟨(x - L).toNat, by omega⟩
    rw [show (x - L).toNat = j by omega]
    have hsc : ((sc L e : Nat) : Int) = L - min L e := by unfold sc; omega
    by_cases hcut : x - e ≤ 0
    · -- all digits stay
      have hn : digN m (x - e) = m * 2 ^ (e - x).toNat := by unfold digN; rw [if_pos hcut, show (-(x - e)).toNat = (e - x).toNat by omega]
      have hst : stepN mode neg m (x - e) = m * 2 ^ (e - x).toNat := by unfold stepN; rw [if_neg (by omega), hn]
      rw [hst]
      have hn1 : m * 2 ^ (e - x).toNat < 2 ^ (h + 1) := by
        refine Nat.lt_of_lt_of_le ((Nat.mul_lt_mul_right (Nat.two_pow_pos _)).2 hs1) ?_
        rw [← Nat.pow_add]; exact Nat.pow_le_pow_right (by decide) (by omega)
      have hn2 : j = 0 ∨ 2 ^ h ≤ m * 2 ^ (e - x).toNat := by
        by_cases hj0 : j = 0
        · exact .inl hj0
        · right
          refine Nat.le_trans ?_ (Nat.mul_le_mul_right _ hs2)
          rw [← Nat.pow_add]; exact Nat.pow_le_pow_right (by decide) (by omega)
      have hV := numV_at hn1 hn2
      have hE1 := numE_at hn1 hn2
      have hk : m * 2 ^ (e - x).toNat + j * 2 ^ h < E := by
        rw [hE]
        by_cases hj0 : j = 0
        · rw [hj0, Nat.zero_mul, Nat.add_zero]
          refine Nat.lt_of_lt_of_le hn1 ?_
          rw [Nat.pow_succ, Nat.mul_comm]; exact Nat.mul_le_mul_right _ hq
        · have h5 : (2 + j) * 2 ^ h ≤ q * 2 ^ h := Nat.mul_le_mul_right _ (by omega)
          rw [Nat.add_mul] at h5; rw [Nat.pow_succ] at hn1; omega
      have heq : numV h (m * 2 ^ (e - x).toNat + j * 2 ^ h) * 2 ^ sc L e = sx L m e := by
        rw [hV, Nat.mul_assoc, Nat.mul_assoc, ← Nat.pow_add, ← Nat.pow_add]
        unfold sx
        congr 2; omega
      refine ⟨_, ⟨hk, by omega, .inr ?_⟩, ?_⟩
      · rw [numV_step, Nat.add_mul, heq]
        have := Nat.mul_pos (Nat.two_pow_pos (numE h (m * 2 ^ (e - x).toNat + j * 2 ^ h))) hC
        omega
      · unfold nearK; rw [if_pos heq]
    · -- digits are cut
      obtain ⟨c, hc⟩ : ∃ c : Nat, ((c + 1 : Nat) : Int) = x - e := ⟨(x - e).toNat - 1, by omega⟩
      have hP := Nat.two_pow_pos (c + 1)
      obtain ⟨n, hn⟩ : ∃ n, n = m / 2 ^ (c + 1) := ⟨_, rfl⟩
      obtain ⟨r, hr⟩ : ∃ r, r = m % 2 ^ (c + 1) := ⟨_, rfl⟩
      have hdg : digN m (x - e) = n := by unfold digN; rw [if_neg hcut, show (x - e).toNat = c + 1 by omega, hn]
      have hmn : m = n * 2 ^ (c + 1) + r := by rw [hn, hr, Nat.mul_comm]; exact (Nat.div_add_mod m _).symm
      have hrlt : r < 2 ^ (c + 1) := by rw [hr]; exact Nat.mod_lt _ hP
      have hrodd : r % 2 = 1 := by
        have : 2 ^ (c + 1) = 2 * 2 ^ c := by rw [Nat.pow_succ, Nat.mul_comm]
        rw [hmn, this, Nat.mul_left_comm] at hm1
        omega
      have htb := testBit_ge (c := c) n r hmn hrlt
      have hst : stepN mode neg m (x - e) = if awayN mode neg n (decide (2 ^ c ≤ r)) (decide (c = 0)) = true then n + 1 else n := by
        unfold stepN
        rw [hdg, show (x - e - 1).toNat = c by omega, htb, show decide (x - e = 1) = decide (c = 0) from by rw [decide_eq_decide]; omega]
        by_cases ha : awayN mode neg n (decide (2 ^ c ≤ r)) (decide (c = 0)) = true
        · rw [if_pos ⟨by omega, ha⟩, if_pos ha]
        · rw [if_neg (fun hh => ha hh.2), if_neg ha]
      rw [hst]
      have hn1 : n < 2 ^ (h + 1) := by
        rw [hn]; refine Nat.div_lt_of_lt_mul ?_
        rw [← Nat.pow_add]
        exact Nat.lt_of_lt_of_le hs1 (Nat.pow_le_pow_right (by decide) (by omega))
      have hn2 : j = 0 ∨ 2 ^ h ≤ n := by
        by_cases hj0 : j = 0
        · exact .inl hj0
        · right
          rw [hn]; refine (Nat.le_div_iff_mul_le hP).2 ?_
          rw [← Nat.pow_add]
          exact Nat.le_trans (Nat.pow_le_pow_right (by decide) (by omega)) hs2
      have hV := numV_at hn1 hn2
      have hE1 := numE_at hn1 hn2
      have hV1 : numV h (n + j * 2 ^ h + 1) = (n + 1) * 2 ^ j := by rw [numV_step, hV, hE1, Nat.add_mul, Nat.one_mul]
      have hk : n + j * 2 ^ h < E := by
        rw [hE]
        by_cases hj0 : j = 0
        · rw [hj0, Nat.zero_mul, Nat.add_zero]
          refine Nat.lt_of_lt_of_le hn1 ?_
          rw [Nat.pow_succ, Nat.mul_comm]; exact Nat.mul_le_mul_right _ hq
        · have h5 : (2 + j) * 2 ^ h ≤ q * 2 ^ h := Nat.mul_le_mul_right _ (by omega)
          rw [Nat.add_mul] at h5; rw [Nat.pow_succ] at hn1; omega
      obtain ⟨Y, hY⟩ : ∃ Y, Y = 2 ^ (e - min L e).toNat := ⟨_, rfl⟩
      have hYp : 0 < Y := by rw [hY]; exact Nat.two_pow_pos _
      have hjc : 2 ^ j * 2 ^ sc L e = 2 ^ (c + 1) * Y := by
        rw [hY, ← Nat.pow_add, ← Nat.pow_add]; congr 1; omega
      have hsx : sx L m e = (n * 2 ^ (c + 1) + r) * Y := by unfold sx; rw [← hY, ← hmn]
      have e1 : numV h (n + j * 2 ^ h) * 2 ^ sc L e = n * 2 ^ (c + 1) * Y := by rw [hV, Nat.mul_assoc, hjc, Nat.mul_assoc]
      have e2 : numV h (n + j * 2 ^ h + 1) * 2 ^ sc L e = (n * 2 ^ (c + 1) + 2 ^ (c + 1)) * Y := by rw [hV1, Nat.mul_assoc, hjc, ← Nat.mul_assoc, Nat.add_mul, Nat.one_mul]
      have e3 : (numV h (n + j * 2 ^ h) + numV h (n + j * 2 ^ h + 1)) * 2 ^ sc L e = (2 * (n * 2 ^ (c + 1)) + 2 ^ (c + 1)) * Y := by
        rw [Nat.add_mul, e1, e2, ← Nat.add_mul]; congr 1; omega
      have hlt1 : n * 2 ^ (c + 1) * Y < sx L m e := by rw [hsx]; exact (Nat.mul_lt_mul_right hYp).2 (by omega)
      have hlt2 : sx L m e < (n * 2 ^ (c + 1) + 2 ^ (c + 1)) * Y := by rw [hsx]; exact (Nat.mul_lt_mul_right hYp).2 (by omega)
      refine ⟨n + j * 2 ^ h, ⟨hk, by rw [e1]; exact Nat.le_of_lt hlt1, .inr (by rw [e2]; exact hlt2)⟩, ?_⟩
      unfold nearK
      rw [if_neg (show ¬ numV h (n + j * 2 ^ h) * 2 ^ sc L e = sx L m e from by rw [e1]; exact Nat.ne_of_lt hlt1), e3, hsx, ← Nat.mul_assoc, cmpN_scale _ _ hYp]
      have hg : onK mode neg (n + j * 2 ^ h) (cmpN (2 * (n * 2 ^ (c + 1) + r)) (2 * (n * 2 ^ (c + 1)) + 2 ^ (c + 1))) = awayN mode neg n (decide (2 ^ c ≤ r)) (decide (c = 0)) := by
        have hpw : 2 ^ (c + 1) = 2 * 2 ^ c := by rw [Nat.pow_succ, Nat.mul_comm]
        have hpar : (n + j * 2 ^ h) % 2 = n % 2 := by
          obtain ⟨h', rfl⟩ : ∃ h', h = h' + 1 := ⟨h - 1, by omega⟩
          rw [Nat.pow_succ, ← Nat.mul_assoc]; omega
        generalize n * 2 ^ (c + 1) = nn at *
        have hcase : (c = 0 ∧ r = 2 ^ c) ∨ (c ≠ 0 ∧ r < 2 ^ c) ∨ (c ≠ 0 ∧ 2 ^ c < r) := by
          by_cases hc0 : c = 0
          · subst hc0; left; simp at hrlt; exact ⟨rfl, by simp; omega⟩
          · right
            have : 2 ^ (c - 1 + 1) = 2 * 2 ^ (c - 1) := Nat.pow_succ'
            rw [show c - 1 + 1 = c by omega] at this
            omega
        unfold onK awayN
        rw [hpar, hpw]
        rcases hcase with ⟨h1, h2⟩ | ⟨h1, h2⟩ | ⟨h1, h2⟩
        · rw [cmpN_eq (by omega), decide_eq_true h1, decide_eq_true (Nat.le_of_eq h2.symm)]
          rcases (show mode = 0 ∨ mode = 1 ∨ mode = 2 ∨ mode = 3 ∨ mode = 4 by omega) with rfl | rfl | rfl | rfl | rfl <;> simp
        · rw [cmpN_lt (by omega), decide_eq_false h1, decide_eq_false (by omega)]
          rcases (show mode = 0 ∨ mode = 1 ∨ mode = 2 ∨ mode = 3 ∨ mode = 4 by omega) with rfl | rfl | rfl | rfl | rfl <;> simp <;> omega
        · rw [cmpN_gt (by omega), decide_eq_false h1, decide_eq_true (by omega)]
          rcases (show mode = 0 ∨ mode = 1 ∨ mode = 2 ∨ mode = 3 ∨ mode = 4 by omega) with rfl | rfl | rfl | rfl | rfl <;> simp <;> omega
      rw [hg]
      by_cases ha : awayN mode neg n (decide (2 ^ c ≤ r)) (decide (c = 0)) = true
      · rw [if_pos ha, if_pos ha]; omega
      · rw [if_neg ha, if_neg ha]
end Go.Proofs.YtmokomfneikipaaDoor
