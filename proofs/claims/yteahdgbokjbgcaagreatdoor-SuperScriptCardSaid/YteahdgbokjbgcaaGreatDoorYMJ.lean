/- The value of a form as a whole number times a power of two; forms of a value are unique; sums and products of forms. Contracts of steelyardlaw03's fine.add, fine.mul. The laws of a ring for forms; the sign of a difference. DyadRing, in numbers. Numbers of 64 bits in the floats' own order; what is rounded lies as it should, in numbers. Where a rounded number lies beside the value, beside other numbers. Contract of steelyardlaw03's gap. What DyadNear's walk asks of numbers: that a rounding exists, its order, floats compared. No statement of the seat is proved here. -/
import Derived.Test.YteahdgbokjbgcaaGreatDoorProg
import Derived.Test.YteahdgbokjbgcaaGreatDoorYMI
import Derived.Test.YteahdgbokjbgcaaGreatDoorYME
namespace Go.Proofs.YteahdgbokjbgcaaGreatDoor
open Go.RowKit
set_option linter.unusedVariables false
set_option linter.unusedSimpArgs false

def sgn (s : Bool) (n : Nat) : Int := if s = true then -(n : Int) else n
theorem sgn_mul (s : Bool) (m k : Nat) : sgn s (m * k) = sgn s m * (k : Int) := by
  unfold sgn; cases s
  · simp
  · simp [Int.neg_mul]
theorem sgn_zero (s : Bool) : sgn s 0 = 0 := by unfold sgn; cases s <;> simp
theorem sgn_not (s : Bool) (m : Nat) : sgn (!s) m = - sgn s m := by unfold sgn; cases s <;> simp
theorem sgn_add (s : Bool) (m k : Nat) : sgn s (m + k) = sgn s m + sgn s k := by unfold sgn; cases s <;> simp <;> omega
theorem sgn_xor (s t : Bool) (m k : Nat) : sgn (s != t) (m * k) = sgn s m * sgn t k := by
  unfold sgn; cases s <;> cases t <;> simp [Int.neg_mul, Int.mul_neg]
theorem sgn_eq_zero {s : Bool} {m : Nat} (h : sgn s m = 0) : m = 0 := by unfold sgn at h; split at h <;> omega
/-- the value in units of 2^B -/
def D.z (d : D) (B : Int) : Int := sgn d.neg d.m * ((2 ^ (d.exp - B).toNat : Nat) : Int)
theorem z_zero (B : Int) : D.zero.z B = 0 := by unfold D.z D.zero; simp [sgn]
theorem pow_split {e B : Int} {k : Nat} (h : B ≤ e) : 2 ^ (e + k - B).toNat = 2 ^ k * 2 ^ (e - B).toNat := by
  rw [← Nat.pow_add]; congr 1; omega
theorem z_form {s : Bool} {n : Nat} {e B : Int} {d : D} (h : formF s n e = some d) (hB : B ≤ e) (hB0 : B ≤ 0) : d.z B = sgn s n * ((2 ^ (e - B).toNat : Nat) : Int) ∧ B ≤ d.exp := by
  unfold formF at h
  split at h
  · next h0 =>
    cases h
    rw [z_zero, h0, sgn_zero, Int.zero_mul]
    exact ⟨rfl, hB0⟩
  · next h0 =>
    split at h
    · cases h
    · cases h
      obtain ⟨m, h1, h2⟩ := low_spec h0
      have h3 : n / 2 ^ low n = m := by
        conv => lhs; arg 1; rw [h1]
        exact Nat.mul_div_cancel_left _ (Nat.two_pow_pos _)
      refine ⟨?_, by dsimp only; omega⟩
      unfold D.z
      dsimp only
      rw [h3, pow_split hB]
      conv => rhs; rw [h1]
      rw [Nat.mul_comm (2 ^ low n) m, sgn_mul, Int.mul_assoc, ← Int.natCast_mul]
theorem z_scale {d : D} {E B : Int} (h1 : E ≤ d.exp) (h2 : B ≤ E) : d.z B = sgn d.neg (d.m * 2 ^ (d.exp - E).toNat) * ((2 ^ (E - B).toNat : Nat) : Int) := by
  unfold D.z
  rw [sgn_mul, Int.mul_assoc, ← Int.natCast_mul, ← Nat.pow_add]
  congr 4; omega
theorem z_add {p q r : D} {B : Int} (h : addD p q = some r) (hp : B ≤ p.exp) (hq : B ≤ q.exp) (h0 : B ≤ 0) : r.z B = p.z B + q.z B ∧ B ≤ r.exp := by
  unfold addD at h
  split at h
  · next h1 =>
    cases h
    refine ⟨?_, hq⟩
    have : p.z B = 0 := by unfold D.z; rw [h1, sgn_zero, Int.zero_mul]
    omega
  split at h
  · next h1 =>
    cases h
    refine ⟨?_, hp⟩
    have : q.z B = 0 := by unfold D.z; rw [h1, sgn_zero, Int.zero_mul]
    omega
  split at h
  · cases h
  have hE : B ≤ min p.exp q.exp := by omega
  have e1 := z_scale (d := p) (E := min p.exp q.exp) (B := B) (by omega) hE
  have e2 := z_scale (d := q) (E := min p.exp q.exp) (B := B) (by omega) hE
  generalize p.m * 2 ^ (p.exp - min p.exp q.exp).toNat = a at *
  generalize q.m * 2 ^ (q.exp - min p.exp q.exp).toNat = b at *
  split at h
  · next hs =>
    obtain ⟨e3, e4⟩ := z_form h hE h0
    refine ⟨?_, e4⟩
    rw [e3, e1, e2, sgn_add, Int.add_mul, hs]
  · next hs =>
    split at h
    · next hlt =>
      obtain ⟨e3, e4⟩ := z_form h hE h0
      refine ⟨?_, e4⟩
      rw [e3, e1, e2, ← Int.add_mul]
      congr 1
      unfold sgn
      cases hp2 : p.neg <;> cases hq2 : q.neg <;> simp_all <;> omega
    · next hlt =>
      obtain ⟨e3, e4⟩ := z_form h hE h0
      refine ⟨?_, e4⟩
      rw [e3, e1, e2, ← Int.add_mul]
      congr 1
      unfold sgn
      cases hp2 : p.neg <;> cases hq2 : q.neg <;> simp_all <;> omega
theorem z_mul {p q r : D} {B C : Int} (h : mulD p q = some r) (hp : B ≤ p.exp) (hq : C ≤ q.exp) (h0 : B + C ≤ 0) : r.z (B + C) = p.z B * q.z C ∧ B + C ≤ r.exp := by
  obtain ⟨e3, e4⟩ := z_form h (show B + C ≤ p.exp + q.exp by omega) h0
  refine ⟨?_, e4⟩
  rw [e3, sgn_xor]
  unfold D.z
  have : 2 ^ (p.exp + q.exp - (B + C)).toNat = 2 ^ (p.exp - B).toNat * 2 ^ (q.exp - C).toNat := by
    rw [← Nat.pow_add]; congr 1; omega
  rw [this, Int.natCast_mul]
  generalize ((2 ^ (p.exp - B).toNat : Nat) : Int) = x
  generalize ((2 ^ (q.exp - C).toNat : Nat) : Int) = y
  rw [Int.mul_assoc, Int.mul_assoc, Int.mul_left_comm (sgn q.neg q.m) x y]
/-- a form -/
def D.Is (d : D) : Prop := d = D.zero ∨ d.m % 2 = 1
theorem formF_is {s : Bool} {n : Nat} {e : Int} {d : D} (h : formF s n e = some d) : d.Is := by
  rcases formF_odd h with h1 | h1
  · exact .inl (formF_zero h h1)
  · exact .inr h1
theorem addD_is {p q r : D} (h : addD p q = some r) (hp : p.Is) (hq : q.Is) : r.Is := by
  unfold addD at h
  split at h
  · cases h; exact hq
  split at h
  · cases h; exact hp
  split at h
  · cases h
  split at h
  · exact formF_is h
  · split at h
    · exact formF_is h
    · exact formF_is h
theorem z_uniq {p q : D} {B : Int} (hp : p.Is) (hq : q.Is) (h1 : B ≤ p.exp) (h2 : B ≤ q.exp) (h : p.z B = q.z B) : p = q := by
  have key : ∀ {d : D}, d.z B = 0 → d.m = 0 := by
    intro d h
    unfold D.z at h
    rcases Int.mul_eq_zero.1 h with h3 | h3
    · exact sgn_eq_zero h3
    · have := Nat.two_pow_pos (d.exp - B).toNat
      omega
  rcases hp with rfl | hp
  · rw [z_zero] at h
    have h3 := key h.symm
    rcases hq with rfl | hq
    · rfl
    · rw [h3] at hq; simp at hq
  · rcases hq with rfl | hq
    · rw [z_zero] at h
      have h3 := key h
      rw [h3] at hp; simp at hp
    · obtain ⟨s, m, e⟩ := p
      obtain ⟨t, n, f⟩ := q
      dsimp only at *
      unfold D.z at h
      dsimp only at h
      have hs : s = t ∧ 2 ^ (e - B).toNat * m = 2 ^ (f - B).toNat * n := by
        rw [← sgn_mul, ← sgn_mul] at h
        have pm : 0 < m * 2 ^ (e - B).toNat := Nat.mul_pos (by omega) (Nat.two_pow_pos _)
        have pn : 0 < n * 2 ^ (f - B).toNat := Nat.mul_pos (by omega) (Nat.two_pow_pos _)
        rw [Nat.mul_comm _ m, Nat.mul_comm _ n]
        generalize m * 2 ^ (e - B).toNat = a at *
        generalize n * 2 ^ (f - B).toNat = b at *
        unfold sgn at h
        cases s <;> cases t <;> simp at h ⊢ <;> omega
      obtain ⟨rfl, h3⟩ := hs
      have h4 := low_eq (k := (e - B).toNat) hp
      have h5 := low_eq (k := (f - B).toNat) hq
      rw [h3, h5] at h4
      rw [h4] at h3
      have h6 := Nat.eq_of_mul_eq_mul_left (Nat.two_pow_pos _) h3
      have h7 : e = f := by omega
      rw [h6, h7]
end Go.Proofs.YteahdgbokjbgcaaGreatDoor
namespace Go.Proofs.YteahdgbokjbgcaaGreatDoor
open Go.RowKit
set_option linter.unusedVariables false
set_option linter.unusedSimpArgs false

end Go.Proofs.YteahdgbokjbgcaaGreatDoor
namespace Go.Proofs.YteahdgbokjbgcaaGreatDoor
open Go.RowKit
set_option linter.unusedVariables false
set_option linter.unusedSimpArgs false

theorem form_self {d : D} (h : d.Is) (ok : d.Ok) : formF d.neg d.m d.exp = some d := by
  rcases h with rfl | h
  · rfl
  · obtain ⟨l1, l2, l3⟩ := ok
    unfold formF
    rw [if_neg (by omega), low_odd h]
    simp only [Nat.pow_zero, Nat.div_one]
    rw [if_neg (by omega)]
    obtain ⟨s, m, e⟩ := d
    simp
theorem addD_form {p q r : D} (h : addD p q = some r) (hp : p.Is) (hq : q.Is) (op : p.Ok) (oq : q.Ok) : r.Is ∧ r.Ok := by
  refine ⟨addD_is h hp hq, ?_⟩
  have := addD_ok op oq
  rw [h] at this; exact this
theorem mulD_form {p q r : D} (h : mulD p q = some r) : r.Is ∧ r.Ok := ⟨formF_is h, formF_ok h⟩
theorem neg_form {s : Bool} {n : Nat} {e : Int} {q : D} (h : formF s n e = some q) : ∃ q', formF (!s) n e = some q' ∧ ∀ B, B ≤ q.exp → B ≤ q'.exp → q'.z B = - q.z B := by
  unfold formF at h ⊢
  by_cases h0 : n = 0
  · rw [if_pos h0] at h ⊢
    cases h
    exact ⟨D.zero, rfl, fun B _ _ => by rw [z_zero]; rfl⟩
  · rw [if_neg h0] at h ⊢
    by_cases h1 : 1048576 < e + low n ∨ e + low n < -1048576 ∨ 8192 < (words (n / 2 ^ low n)).length
    · rw [if_pos h1] at h; cases h
    · rw [if_neg h1] at h ⊢
      cases h
      refine ⟨_, rfl, fun B _ _ => ?_⟩
      unfold D.z
      dsimp only
      rw [sgn_not, Int.neg_mul]
end Go.Proofs.YteahdgbokjbgcaaGreatDoor
namespace Go.Proofs.YteahdgbokjbgcaaGreatDoor
open Go.RowKit
set_option linter.unusedVariables false
set_option linter.unusedSimpArgs false

theorem form_both {s : Bool} {n : Nat} {e : Int} {d : D} (h : formF s n e = some d) : d.Is ∧ d.Ok := ⟨formF_is h, formF_ok h⟩
end Go.Proofs.YteahdgbokjbgcaaGreatDoor
namespace Go.Proofs.YteahdgbokjbgcaaGreatDoor
open Go.RowKit
set_option linter.unusedVariables false
set_option linter.unusedSimpArgs false

/-- the value of bits, in units of the least power; infinity comes right behind the greatest number -/
def fV (b : Nat) : Int := sgn (decide (9223372036854775808 ≤ b)) (numV 52 (b % 9223372036854775808))
def cmpZ (a b : Int) : Ordering := if a < b then .lt else if a = b then .eq else .gt
theorem cmpZ_lt {a b : Int} (h : a < b) : cmpZ a b = .lt := if_pos h
theorem cmpZ_gt {a b : Int} (h : b < a) : cmpZ a b = .gt := by unfold cmpZ; rw [if_neg (by omega), if_neg (by omega)]
theorem cmpZ_self (a : Int) : cmpZ a a = .eq := by unfold cmpZ; rw [if_neg (by omega), if_pos rfl]
theorem cmpZ_scale (a b : Int) {p : Nat} (hp : 0 < p) : cmpZ (a * (p : Int)) (b * (p : Int)) = cmpZ a b := by
  have h0 : (0 : Int) < (p : Int) := by omega
  have h1 : a * (p : Int) < b * (p : Int) ↔ a < b := Int.mul_lt_mul_right h0
  have h2 : a * (p : Int) = b * (p : Int) ↔ a = b := Int.mul_eq_mul_right_iff (by omega)
  unfold cmpZ
  simp only [h1, h2]
theorem compare_cmpZ (a b : Int) : compare a b = cmpZ a b := by
  unfold cmpZ
  show compareOfLessAndEq a b = _
  unfold compareOfLessAndEq
  rfl

theorem signed_sgn (s : Bool) (m u : Nat) : Ieee.signed s m u = sgn s (m * 2 ^ u) := by
  unfold Ieee.signed sgn
  rw [Nat.shiftLeft_eq]
theorem order_num (s t : Bool) (m n : Nat) (i j B : Int) (hi : B ≤ i) (hj : B ≤ j) : Ieee.Datum.order (.number s m i) (.number t n j) = some (cmpZ (sgn s (m * 2 ^ (i - B).toNat)) (sgn t (n * 2 ^ (j - B).toNat))) := by
  show some (compare (Ieee.signed s m (i - min i j).toNat) (Ieee.signed t n (j - min i j).toNat)) = _
  rw [signed_sgn, signed_sgn, compare_cmpZ, ← cmpZ_scale _ _ (Nat.two_pow_pos (min i j - B).toNat), ← sgn_mul, ← sgn_mul, Nat.mul_assoc, Nat.mul_assoc, ← Nat.pow_add, ← Nat.pow_add]
  rw [show (i - min i j).toNat + (min i j - B).toNat = (i - B).toNat by omega, show (j - min i j).toNat + (min i j - B).toNat = (j - B).toNat by omega]
theorem read_num {b : Nat} (hb : b < 18446744073709551616) (h : b % 9223372036854775808 < 9218868437227405312) : Ieee.double.read b = .number (decide (9223372036854775808 ≤ b)) (numM 52 (b % 9223372036854775808)) (-1074 + (numE 52 (b % 9223372036854775808) : Nat)) := by
  unfold Ieee.Format.read
  rw [show Ieee.double.signWeight = 9223372036854775808 from rfl, show Ieee.double.binade = 4503599627370496 from rfl, show Ieee.double.infRung = 9218868437227405312 from rfl, show Ieee.double.leastPlace = -1074 from rfl]
  have hs : (b / 9223372036854775808 % 2 == 1) = decide (9223372036854775808 ≤ b) := by
    by_cases h1 : 9223372036854775808 ≤ b
    · rw [decide_eq_true h1, show b / 9223372036854775808 % 2 = 1 by omega]; rfl
    · rw [decide_eq_false h1, show b / 9223372036854775808 % 2 = 0 by omega]; rfl
  dsimp only
  rw [hs]
  generalize b % 9223372036854775808 = k at *
  unfold numM numE
  rw [show (2 : Nat) ^ 52 = 4503599627370496 from rfl]
  by_cases h1 : k < 4503599627370496
  · rw [if_pos h1, if_pos (by omega), show k / 4503599627370496 - 1 = 0 by omega, Nat.mod_eq_of_lt h1]; rfl
  · rw [if_neg h1, if_pos h, if_neg (by omega)]
theorem read_inf {b : Nat} (hb : b < 18446744073709551616) (h : b % 9223372036854775808 = 9218868437227405312) : Ieee.double.read b = .infinity (decide (9223372036854775808 ≤ b)) := by
  unfold Ieee.Format.read
  rw [show Ieee.double.signWeight = 9223372036854775808 from rfl, show Ieee.double.binade = 4503599627370496 from rfl, show Ieee.double.infRung = 9218868437227405312 from rfl, show Ieee.double.leastPlace = -1074 from rfl]
  have hs : (b / 9223372036854775808 % 2 == 1) = decide (9223372036854775808 ≤ b) := by
    by_cases h1 : 9223372036854775808 ≤ b
    · rw [decide_eq_true h1, show b / 9223372036854775808 % 2 = 1 by omega]; rfl
    · rw [decide_eq_false h1, show b / 9223372036854775808 % 2 = 0 by omega]; rfl
  dsimp only
  rw [hs, h]
  rfl
theorem numV_pos (h : Nat) : ∀ {k : Nat}, 0 < k → numV h 0 < numV h k := fun hk => numV_lt hk
/-- the floats' order is the order of the values -/
theorem order64 {a b : Nat} (ha : a < 18446744073709551616) (hb : b < 18446744073709551616) (ka : a % 9223372036854775808 ≤ 9218868437227405312) (kb : b % 9223372036854775808 ≤ 9218868437227405312) : FloatKind.f64.format.order a b = some (cmpZ (fV a) (fV b)) := by
  rw [show FloatKind.f64.format.order a b = (Ieee.double.read a).order (Ieee.double.read b) from rfl]
  have hx : ∀ {s t : Bool} {x y : Nat}, x < y → sgn t x < sgn false y ∧ sgn true y < sgn t x := by
    intro s t x y h; unfold sgn; cases t <;> simp <;> omega
  have p0 : 0 < numV 52 9218868437227405312 := by
    have := numV_pos 52 (k := 9218868437227405312) (by decide)
    omega
  rcases Nat.lt_or_eq_of_le ka with ka | ka <;> rcases Nat.lt_or_eq_of_le kb with kb | kb
  · rw [read_num ha ka, read_num hb kb, order_num _ _ _ _ _ _ (-1074) (by omega) (by omega)]
    unfold fV numV
    rw [show (-1074 + ((numE 52 (a % 9223372036854775808) : Nat) : Int) - -1074).toNat = numE 52 (a % 9223372036854775808) by omega, show (-1074 + ((numE 52 (b % 9223372036854775808) : Nat) : Int) - -1074).toNat = numE 52 (b % 9223372036854775808) by omega]
  · rw [read_num ha ka, read_inf hb kb]
    obtain ⟨h1, h2⟩ := hx (s := true) (t := decide (9223372036854775808 ≤ a)) (numV_lt (h := 52) (show a % 9223372036854775808 < 9218868437227405312 from ka))
    unfold fV
    rw [kb]
    show some (if decide (9223372036854775808 ≤ b) = true then Ordering.gt else Ordering.lt) = _
    cases decide (9223372036854775808 ≤ b)
    · rw [cmpZ_lt h1]; rfl
    · rw [cmpZ_gt h2]; rfl
  · rw [read_inf ha ka, read_num hb kb]
    obtain ⟨h1, h2⟩ := hx (s := true) (t := decide (9223372036854775808 ≤ b)) (numV_lt (h := 52) (show b % 9223372036854775808 < 9218868437227405312 from kb))
    unfold fV
    rw [ka]
    show some (if decide (9223372036854775808 ≤ a) = true then Ordering.lt else Ordering.gt) = _
    cases decide (9223372036854775808 ≤ a)
    · rw [cmpZ_gt h1]; rfl
    · rw [cmpZ_lt h2]; rfl
  · rw [read_inf ha ka, read_inf hb kb]
    unfold fV
    rw [ka, kb]
    show some (compare (decide (9223372036854775808 ≤ b)).toNat (decide (9223372036854775808 ≤ a)).toNat) = _
    generalize numV 52 9218868437227405312 = V at *
    cases decide (9223372036854775808 ≤ a) <;> cases decide (9223372036854775808 ≤ b)
    · rw [cmpZ_self]; rfl
    · rw [cmpZ_gt (by unfold sgn; simp; omega)]; rfl
    · rw [cmpZ_lt (by unfold sgn; simp; omega)]; rfl
    · rw [cmpZ_self]; rfl

theorem IsBelow.scale {h E c X k : Nat} (t : Nat) (H : IsBelow h E c X k) : IsBelow h E (c + t) (X * 2 ^ t) k := by
  have hp := Nat.two_pow_pos t
  refine ⟨H.lt, ?_, ?_⟩
  · rw [Nat.pow_add, ← Nat.mul_assoc]; exact Nat.mul_le_mul_right _ H.le
  · rcases H.nx with h1 | h1
    · exact .inl h1
    · right; rw [Nat.pow_add, ← Nat.mul_assoc]; exact (Nat.mul_lt_mul_right hp).2 h1
theorem nearK_scale (h c X : Nat) (mode : Int) (neg : Bool) (k t : Nat) : nearK h (c + t) (X * 2 ^ t) mode neg k = nearK h c X mode neg k := by
  have hp := Nat.two_pow_pos t
  have e1 : numV h k * 2 ^ (c + t) = numV h k * 2 ^ c * 2 ^ t := by rw [Nat.pow_add, Nat.mul_assoc]
  have e2 : (numV h k + numV h (k + 1)) * 2 ^ (c + t) = (numV h k + numV h (k + 1)) * 2 ^ c * 2 ^ t := by rw [Nat.pow_add, Nat.mul_assoc]
  have e3 : 2 * (X * 2 ^ t) = 2 * X * 2 ^ t := by rw [Nat.mul_assoc]
  unfold nearK
  rw [e1, e2, e3, cmpN_scale _ _ hp]
  have e4 : numV h k * 2 ^ c * 2 ^ t = X * 2 ^ t ↔ numV h k * 2 ^ c = X := ⟨fun h => Nat.eq_of_mul_eq_mul_right hp h, fun h => by rw [h]⟩
  by_cases h1 : numV h k * 2 ^ c = X
  · rw [if_pos h1, if_pos (e4.2 h1)]
  · rw [if_neg h1, if_neg (fun h => h1 (e4.1 h))]
/-- a form's size in units of 2^B -/
def D.x (d : D) (B : Int) : Nat := d.m * 2 ^ (d.exp - B).toNat
theorem z_x (d : D) (B : Int) : d.z B = sgn d.neg (d.x B) := by unfold D.z D.x; rw [sgn_mul]
theorem rounds_B {h : Nat} {L : Int} {E : Nat} {d : D} {mode : Int} {r : Nat} (B : Int) (H : Rounds h L E d mode r) (hB : B ≤ d.exp) (hL : B ≤ L) : ∃ k, IsBelow h E (L - B).toNat (d.x B) k ∧ r = nearK h (L - B).toNat (d.x B) mode d.neg k := by
  obtain ⟨k, h1, rfl⟩ := H
  have e1 : (L - B).toNat = sc L d.exp + (min L d.exp - B).toNat := by unfold sc; omega
  have e2 : d.x B = sx L d.m d.exp * 2 ^ (min L d.exp - B).toNat := by
    unfold D.x sx; rw [Nat.mul_assoc, ← Nat.pow_add]; congr 2; omega
  refine ⟨k, ?_, ?_⟩
  · rw [e1, e2]; exact h1.scale _
  · rw [e1, e2, nearK_scale]

theorem near_exact {h E c j k : Nat} {mode : Int} {neg : Bool} (a : IsBelow h E c (numV h j * 2 ^ c) k) (hj : j < E) : nearK h c (numV h j * 2 ^ c) mode neg k = j := by
  have hp := Nat.two_pow_pos c
  have : IsBelow h E c (numV h j * 2 ^ c) j := ⟨hj, Nat.le_refl _, .inr ((Nat.mul_lt_mul_right hp).2 (numV_lt (by omega)))⟩
  rw [a.uniq this]
  unfold nearK; rw [if_pos rfl]
end Go.Proofs.YteahdgbokjbgcaaGreatDoor
namespace Go.Proofs.YteahdgbokjbgcaaGreatDoor
open Go.RowKit
set_option linter.unusedVariables false
set_option linter.unusedSimpArgs false

theorem fV_at {neg : Bool} {j r : Nat} (hj : j ≤ 9218868437227405312) (hr : r = j + (if neg = true then 9223372036854775808 else 0)) : fV r = sgn neg (numV 52 j) ∧ r < 18446744073709551616 ∧ r % 9223372036854775808 = j := by
  subst hr
  unfold fV
  cases neg
  · simp only [Bool.false_eq_true, if_false, Nat.add_zero]
    rw [decide_eq_false (by omega), Nat.mod_eq_of_lt (by omega)]
    exact ⟨rfl, by omega, rfl⟩
  · simp only [if_true]
    rw [decide_eq_true (by omega), show (j + 9223372036854775808) % 9223372036854775808 = j by omega]
    exact ⟨rfl, by omega, rfl⟩
/-- what a rounding says, in units of 2^B -/
structure Lies (B mode : Int) (d : D) (r k j : Nat) : Prop where
  below : IsBelow 52 9218868437227405312 (-1074 - B).toNat (d.x B) k
  near : j = nearK 52 (-1074 - B).toNat (d.x B) mode d.neg k
  le : j ≤ 9218868437227405312
  val : fV r = sgn d.neg (numV 52 j)
  lt : r < 18446744073709551616
  mod : r % 9223372036854775808 = j
  bits : r = j + (if d.neg = true then 9223372036854775808 else 0)
theorem lies_of {mode : Int} {d : D} {r : Nat} {er : Int} (B : Int) (h0 : 0 ≤ mode) (h4 : mode ≤ 4) (hB : B ≤ d.exp) (hL : B ≤ -1074) (H : RoundsTo 52 (-1074) 9218868437227405312 9223372036854775808 mode (some d) r er) : er = 0 ∧ ∃ k j, Lies B mode d r k j := by
  rcases H with ⟨h1, _⟩ | ⟨_, ⟨h1, _⟩ | ⟨d', j, h1, h2, h3, h5⟩⟩
  · omega
  · cases h1
  · cases h1
    obtain ⟨k, h6, h7⟩ := rounds_B B h2 hB hL
    have h8 := h2.le
    obtain ⟨h9, h10, h11⟩ := fV_at h8 h3
    exact ⟨h5, k, j, h6, h7, h8, h9, h10, h11, h3⟩
theorem ofF_z {b : Nat} {q : D} (B : Int) (hL : B ≤ -1074) (hb : b < 18446744073709551616) (h : ofF b = some q) : b % 9223372036854775808 < 9218868437227405312 ∧ B ≤ q.exp ∧ q.z B = sgn (decide (9223372036854775808 ≤ b)) (numV 52 (b % 9223372036854775808) * 2 ^ (-1074 - B).toNat) := by
  unfold ofF bitsF at h
  split at h
  · cases h
  · next h1 =>
    obtain ⟨h2, h3⟩ := z_form h (show B ≤ -1074 + (numE 52 (b % 9223372036854775808) : Nat) by omega) (by omega)
    refine ⟨by omega, h3, ?_⟩
    rw [h2, ← sgn_mul]
    unfold numV
    rw [Nat.mul_assoc, ← Nat.pow_add]
    congr 3
    omega
/-- a number's own value comes back -/
theorem lies_own {B mode : Int} {q : D} {r k j z : Nat} (a : Lies B mode q r k j) (hL : B ≤ -1074) (hz : z < 18446744073709551616) (hq : ofF z = some q) : fV r = fV z := by
  obtain ⟨h1, _, h2⟩ := ofF_z B hL hz hq
  rw [a.val]
  unfold fV
  rw [z_x] at h2
  have e1 := a.below
  have n1 := a.near
  clear a hq
  generalize z % 9223372036854775808 = i at *
  generalize decide (9223372036854775808 ≤ z) = t at *
  generalize q.neg = s at *
  generalize q.x B = X at *
  generalize (-1074 - B).toNat = C at *
  have hX : X = numV 52 i * 2 ^ C ∧ (X = 0 ∨ s = t) := by
    generalize numV 52 i * 2 ^ C = Y at *
    unfold sgn at h2
    cases s <;> cases t <;> simp at h2 ⊢ <;> omega
  obtain ⟨rfl, h3⟩ := hX
  rw [near_exact e1 h1] at n1
  rw [n1]
  rcases h3 with h3 | rfl
  · have : numV 52 i = 0 := by
      rcases Nat.mul_eq_zero.1 h3 with h | h
      · exact h
      · have := Nat.two_pow_pos C; omega
    rw [this, sgn_zero, sgn_zero]
  · rfl
end Go.Proofs.YteahdgbokjbgcaaGreatDoor
namespace Go.Proofs.YteahdgbokjbgcaaGreatDoor
open Go.RowKit
set_option linter.unusedVariables false
set_option linter.unusedSimpArgs false

end Go.Proofs.YteahdgbokjbgcaaGreatDoor
namespace Go.Proofs.YteahdgbokjbgcaaGreatDoor
open Go.RowKit
set_option linter.unusedVariables false
set_option linter.unusedSimpArgs false

/-- a number's own value -/
theorem r64_own {mode : Int} {q : D} {z r : Nat} {er : Int} (h0 : 0 ≤ mode) (h4 : mode ≤ 4) (hz : z < 18446744073709551616) (hq : ofF z = some q) (H : RoundsTo 52 (-1074) 9218868437227405312 9223372036854775808 mode (some q) r er) : er = 0 ∧ fV r = fV z ∧ r < 18446744073709551616 ∧ r % 9223372036854775808 ≤ 9218868437227405312 := by
  obtain ⟨B, hB1, hB3⟩ : ∃ B : Int, B ≤ q.exp ∧ B ≤ -1074 := ⟨min q.exp (-1074), by omega, by omega⟩
  obtain ⟨he, _, _, l⟩ := lies_of B h0 h4 hB1 hB3 H
  exact ⟨he, lies_own l hB3 hz hq, l.lt, by rw [l.mod]; exact l.le⟩

end Go.Proofs.YteahdgbokjbgcaaGreatDoor
