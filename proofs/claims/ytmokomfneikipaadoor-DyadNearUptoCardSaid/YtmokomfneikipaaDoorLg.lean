/- DyadNear: numbers of 64 bits in the floats' own order, where a rounded number lies, the distance of a number from a form, and the walk: true for every input of the sizes that its hypotheses name. -/
import Derived.Test.YtmokomfneikipaaDoorProg
import Derived.Test.YtmokomfneikipaaDoorLf
namespace Go.Proofs.YtmokomfneikipaaDoor
open Go.RowKit
set_option linter.unusedVariables false
set_option linter.unusedSimpArgs false

/-- the value of bits, in units of the least power; infinity comes right behind the greatest number -/
def fV (b : Nat) : Int := sgn (decide (9223372036854775808 ≤ b)) (numV 52 (b % 9223372036854775808))
def cmpZ (a b : Int) : Ordering := if a < b then .lt else if a = b then .eq else .gt
theorem cmpZ_lt {a b : Int} (h : a < b) : cmpZ a b = .lt := if_pos h
theorem cmpZ_gt {a b : Int} (h : b < a) : cmpZ a b = .gt := by unfold cmpZ; rw [if_neg (by omega), if_neg (by omega)]
theorem cmpZ_self (a : Int) : cmpZ a a = .eq := by unfold cmpZ; rw [if_neg (by omega), if_pos rfl]
theorem cmpZ_scale (a b : Int) {p : Nat} (hp : 0 < p) : cmpZ (a * (p : Int)) (b * (p : Int)) = cmpZ a b := by
  have h0 : (0 : Int) < (p : Int) := by omega
  have h1 : a * (p : Int) < b * (p : Int) ↔ a < b := Int.mul_lt_mul_right h0
  have h2 : a * (p : Int) = b * (p : Int) ↔ a = b := Int.mul_eq_mul_right_iff (by omega)
  unfold cmpZ
  simp only [h1, h2]
theorem compare_cmpZ (a b : Int) : compare a b = cmpZ a b := by
  unfold cmpZ
  show compareOfLessAndEq a b = _
  unfold compareOfLessAndEq
  rfl

theorem signed_sgn (s : Bool) (m u : Nat) : Ieee.signed s m u = sgn s (m * 2 ^ u) := by
  unfold Ieee.signed sgn
  rw [Nat.shiftLeft_eq]
theorem order_num (s t : Bool) (m n : Nat) (i j B : Int) (hi : B ≤ i) (hj : B ≤ j) : Ieee.Datum.order (.number s m i) (.number t n j) = some (cmpZ (sgn s (m * 2 ^ (i - B).toNat)) (sgn t (n * 2 ^ (j - B).toNat))) := by
  show some (compare (Ieee.signed s m (i - min i j).toNat) (Ieee.signed t n (j - min i j).toNat)) = _
  rw [signed_sgn, signed_sgn, compare_cmpZ, ← cmpZ_scale _ _ (Nat.two_pow_pos (min i j - B).toNat), ← sgn_mul, ← sgn_mul, Nat.mul_assoc, Nat.mul_assoc, ← Nat.pow_add, ← Nat.pow_add]
  rw [show (i - min i j).toNat + (min i j - B).toNat = (i - B).toNat by omega, show (j - min i j).toNat + (min i j - B).toNat = (j - B).toNat by omega]
theorem read_num {b : Nat} (hb : b < 18446744073709551616) (h : b % 9223372036854775808 < 9218868437227405312) : Ieee.double.read b = .number (decide (9223372036854775808 ≤ b)) (numM 52 (b % 9223372036854775808)) (-1074 + (numE 52 (b % 9223372036854775808) : Nat)) := by
  unfold Ieee.Format.read
  rw [show Ieee.double.signWeight = 9223372036854775808 from rfl, show Ieee.double.binade = 4503599627370496 from rfl, show Ieee.double.infRung = 9218868437227405312 from rfl, show Ieee.double.leastPlace = -1074 from rfl]
  have hs : (b / 9223372036854775808 % 2 == 1) = decide (9223372036854775808 ≤ b) := by
    by_cases h1 : 9223372036854775808 ≤ b
    · rw [decide_eq_true h1, show b / 9223372036854775808 % 2 = 1 by omega]; rfl
    · rw [decide_eq_false h1, show b / 9223372036854775808 % 2 = 0 by omega]; rfl
  dsimp only
  rw [hs]
  generalize b % 9223372036854775808 = k at *
  unfold numM numE
  rw [show (2 : Nat) ^ 52 = 4503599627370496 from rfl]
  by_cases h1 : k < 4503599627370496
  · rw [if_pos h1, if_pos (by omega), show k / 4503599627370496 - 1 = 0 by omega, Nat.mod_eq_of_lt h1]; rfl
  · rw [if_neg h1, if_pos h, if_neg (by omega)]
theorem read_inf {b : Nat} (hb : b < 18446744073709551616) (h : b % 9223372036854775808 = 9218868437227405312) : Ieee.double.read b = .infinity (decide (9223372036854775808 ≤ b)) := by
  unfold Ieee.Format.read
  rw [show Ieee.double.signWeight = 9223372036854775808 from rfl, show Ieee.double.binade = 4503599627370496 from rfl, show Ieee.double.infRung = 9218868437227405312 from rfl, show Ieee.double.leastPlace = -1074 from rfl]
  have hs : (b / 9223372036854775808 % 2 == 1) = decide (9223372036854775808 ≤ b) := by
    by_cases h1 : 9223372036854775808 ≤ b
    · rw [decide_eq_true h1, show b / 9223372036854775808 % 2 = 1 by omega]; rfl
    · rw [decide_eq_false h1, show b / 9223372036854775808 % 2 = 0 by omega]; rfl
  dsimp only
  rw [hs, h]
  rfl
theorem numV_pos (h : Nat) : ∀ {k : Nat}, 0 < k → numV h 0 < numV h k := fun hk => numV_lt hk
theorem numV_zero (h : Nat) : numV h 0 = 0 := by unfold numV numM; simp
/-- the floats' order is the order of the values -/
theorem order64 {a b : Nat} (ha : a < 18446744073709551616) (hb : b < 18446744073709551616) (ka : a % 9223372036854775808 ≤ 9218868437227405312) (kb : b % 9223372036854775808 ≤ 9218868437227405312) : FloatKind.f64.format.order a b = some (cmpZ (fV a) (fV b)) := by
  rw [show FloatKind.f64.format.order a b = (Ieee.double.read a).order (Ieee.double.read b) from rfl]
  have hx : ∀ {s t : Bool} {x y : Nat}, x < y → sgn t x < sgn false y ∧ sgn true y < sgn t x := by
    intro s t x y h; unfold sgn; cases t <;> simp <;> omega
  have p0 : 0 < numV 52 9218868437227405312 := by
    have := numV_pos 52 (k := 9218868437227405312) (by decide)
    omega
  rcases Nat.lt_or_eq_of_le ka with ka | ka <;> rcases Nat.lt_or_eq_of_le kb with kb | kb
  · rw [read_num ha ka, read_num hb kb, order_num _ _ _ _ _ _ (-1074) (by omega) (by omega)]
    unfold fV numV
    rw [show (-1074 + ((numE 52 (a % 9223372036854775808) : Nat) : Int) - -1074).toNat = numE 52 (a % 9223372036854775808) by omega, show (-1074 + ((numE 52 (b % 9223372036854775808) : Nat) : Int) - -1074).toNat = numE 52 (b % 9223372036854775808) by omega]
  · rw [read_num ha ka, read_inf hb kb]
    obtain ⟨h1, h2⟩ := hx (s := true) (t := decide (9223372036854775808 ≤ a)) (numV_lt (h := 52) (show a % 9223372036854775808 < 9218868437227405312 from ka))
    unfold fV
    rw [kb]
    show some (if decide (9223372036854775808 ≤ b) = true then Ordering.gt else Ordering.lt) = _
    cases decide (9223372036854775808 ≤ b)
    · rw [cmpZ_lt h1]; rfl
    · rw [cmpZ_gt h2]; rfl
  · rw [read_inf ha ka, read_num hb kb]
    obtain ⟨h1, h2⟩ := hx (s := true) (t := decide (9223372036854775808 ≤ b)) (numV_lt (h := 52) (show b % 9223372036854775808 < 9218868437227405312 from kb))
    unfold fV
    rw [ka]
    show some (if decide (9223372036854775808 ≤ a) = true then Ordering.lt else Ordering.gt) = _
    cases decide (9223372036854775808 ≤ a)
    · rw [cmpZ_gt h1]; rfl
    · rw [cmpZ_lt h2]; rfl
  · rw [read_inf ha ka, read_inf hb kb]
    unfold fV
    rw [ka, kb]
    show some (compare (decide (9223372036854775808 ≤ b)).toNat (decide (9223372036854775808 ≤ a)).toNat) = _
    generalize numV 52 9218868437227405312 = V at *
    cases decide (9223372036854775808 ≤ a) <;> cases decide (9223372036854775808 ≤ b)
    · rw [cmpZ_self]; rfl
    · rw [cmpZ_gt (by unfold sgn; simp; omega)]; rfl
    · rw [cmpZ_lt (by unfold sgn; simp; omega)]; rfl
    · rw [cmpZ_self]; rfl

theorem IsBelow.scale {h E c X k : Nat} (t : Nat) (H : IsBelow h E c X k) : IsBelow h E (c + t) (X * 2 ^ t) k := by
  have hp := Nat.two_pow_pos t
  refine ⟨H.lt, ?_, ?_⟩
  · rw [Nat.pow_add, ← Nat.mul_assoc]; exact Nat.mul_le_mul_right _ H.le
  · rcases H.nx with h1 | h1
    · exact .inl h1
    · right; rw [Nat.pow_add, ← Nat.mul_assoc]; exact (Nat.mul_lt_mul_right hp).2 h1
theorem nearK_scale (h c X : Nat) (mode : Int) (neg : Bool) (k t : Nat) : nearK h (c + t) (X * 2 ^ t) mode neg k = nearK h c X mode neg k := by
  have hp := Nat.two_pow_pos t
  have e1 : numV h k * 2 ^ (c + t) = numV h k * 2 ^ c * 2 ^ t := by rw [Nat.pow_add, Nat.mul_assoc]
  have e2 : (numV h k + numV h (k + 1)) * 2 ^ (c + t) = (numV h k + numV h (k + 1)) * 2 ^ c * 2 ^ t := by rw [Nat.pow_add, Nat.mul_assoc]
  have e3 : 2 * (X * 2 ^ t) = 2 * X * 2 ^ t := by rw [Nat.mul_assoc]
  unfold nearK
  rw [e1, e2, e3, cmpN_scale _ _ hp]
  have e4 : numV h k * 2 ^ c * 2 ^ t = X * 2 ^ t ↔ numV h k * 2 ^ c = X := ⟨fun h => Nat.eq_of_mul_eq_mul_right hp h, fun h => by rw [h]⟩
  by_cases h1 : numV h k * 2 ^ c = X
  · rw [if_pos h1, if_pos (e4.2 h1)]
  · rw [if_neg h1, if_neg (fun h => h1 (e4.1 h))]
/-- a form's size in units of 2^B -/
def D.x (d : D) (B : Int) : Nat := d.m * 2 ^ (d.exp - B).toNat
theorem z_x (d : D) (B : Int) : d.z B = sgn d.neg (d.x B) := by unfold D.z D.x; rw [sgn_mul]
theorem rounds_B {h : Nat} {L : Int} {E : Nat} {d : D} {mode : Int} {r : Nat} (B : Int) (H : Rounds h L E d mode r) (hB : B ≤ d.exp) (hL : B ≤ L) : ∃ k, IsBelow h E (L - B).toNat (d.x B) k ∧ r = nearK h (L - B).toNat (d.x B) mode d.neg k := by
  obtain ⟨k, h1, rfl⟩ := H
  have e1 : (L - B).toNat = sc L d.exp + (min L d.exp - B).toNat := by unfold sc; omega
  have e2 : d.x B = sx L d.m d.exp * 2 ^ (min L d.exp - B).toNat := by
    unfold D.x sx; rw [Nat.mul_assoc, ← Nat.pow_add]; congr 2; omega
  refine ⟨k, ?_, ?_⟩
  · rw [e1, e2]; exact h1.scale _
  · rw [e1, e2, nearK_scale]

theorem nearK_or (h c X : Nat) (mode : Int) (neg : Bool) (k : Nat) : nearK h c X mode neg k = k ∨ nearK h c X mode neg k = k + 1 ∧ numV h k * 2 ^ c ≠ X ∧ onK mode neg k (cmpN (2 * X) ((numV h k + numV h (k + 1)) * 2 ^ c)) = true := by
  unfold nearK; split
  · exact .inl rfl
  · next h1 =>
    split
    · next h2 => exact .inr ⟨rfl, h1, h2⟩
    · exact .inl rfl
theorem cmpN_mono {a b c : Nat} (h : a ≤ b) : cmpN a c ≤ cmpN b c := by unfold cmpN; repeat' split <;> omega
theorem onK_mono {mode : Int} {neg : Bool} {k : Nat} {g g' : Int} (h : g ≤ g') (hg : onK mode neg k g = true) : onK mode neg k g' = true := by
  unfold onK at hg ⊢
  by_cases h0 : mode = 0
  · rw [if_pos h0] at hg ⊢
    simp only [Bool.or_eq_true, Bool.and_eq_true, decide_eq_true_eq] at hg ⊢
    omega
  · rw [if_neg h0] at hg ⊢
    by_cases h2 : mode = 2
    · rw [if_pos h2] at hg ⊢; exact hg
    · rw [if_neg h2] at hg ⊢
      by_cases h3 : mode = 3
      · rw [if_pos h3] at hg ⊢; exact hg
      · rw [if_neg h3] at hg ⊢
        by_cases h4 : mode = 4
        · rw [if_pos h4, decide_eq_true_eq] at hg ⊢; omega
        · rw [if_neg h4] at hg ⊢; exact hg
theorem near_mono {h E c X Y k j : Nat} {mode : Int} {neg : Bool} (a : IsBelow h E c X k) (b : IsBelow h E c Y j) (hxy : X ≤ Y) : nearK h c X mode neg k ≤ nearK h c Y mode neg j := by
  have hp := Nat.two_pow_pos c
  have hkj : k ≤ j := by
    rcases Nat.lt_or_ge j k with h1 | h1
    · rcases b.nx with h2 | h2
      · have := a.lt; omega
      · have h3 : numV h (j + 1) * 2 ^ c ≤ numV h k * 2 ^ c := Nat.mul_le_mul_right _ (numV_le h1)
        have := a.le; omega
    · exact h1
  rcases Nat.lt_or_eq_of_le hkj with h1 | rfl
  · rcases nearK_or h c X mode neg k with h2 | ⟨h2, _⟩ <;> rcases nearK_or h c Y mode neg j with h3 | ⟨h3, _⟩ <;> omega
  · rcases nearK_or h c X mode neg k with h2 | ⟨h2, h3, h4⟩
    · rcases nearK_or h c Y mode neg k with h5 | ⟨h5, _⟩ <;> omega
    · have h6 : numV h k * 2 ^ c ≠ Y := by have := a.le; omega
      have h7 := onK_mono (cmpN_mono (c := (numV h k + numV h (k + 1)) * 2 ^ c) (show 2 * X ≤ 2 * Y by omega)) h4
      have h8 : nearK h c Y mode neg k = k + 1 := by unfold nearK; rw [if_neg h6, if_pos h7]
      omega
theorem near_exact {h E c j k : Nat} {mode : Int} {neg : Bool} (a : IsBelow h E c (numV h j * 2 ^ c) k) (hj : j < E) : nearK h c (numV h j * 2 ^ c) mode neg k = j := by
  have hp := Nat.two_pow_pos c
  have : IsBelow h E c (numV h j * 2 ^ c) j := ⟨hj, Nat.le_refl _, .inr ((Nat.mul_lt_mul_right hp).2 (numV_lt (by omega)))⟩
  rw [a.uniq this]
  unfold nearK; rw [if_pos rfl]
end Go.Proofs.YtmokomfneikipaaDoor

namespace Go.Proofs.YtmokomfneikipaaDoor
open Go.RowKit
set_option linter.unusedVariables false
set_option linter.unusedSimpArgs false

theorem fV_at {neg : Bool} {j r : Nat} (hj : j ≤ 9218868437227405312) (hr : r = j + (if neg = true then 9223372036854775808 else 0)) : fV r = sgn neg (numV 52 j) ∧ r < 18446744073709551616 ∧ r % 9223372036854775808 = j := by
  subst hr
  unfold fV
  cases neg
  · simp only [Bool.false_eq_true, if_false, Nat.add_zero]
    rw [decide_eq_false (by omega), Nat.mod_eq_of_lt (by omega)]
    exact ⟨rfl, by omega, rfl⟩
  · simp only [if_true]
    rw [decide_eq_true (by omega), show (j + 9223372036854775808) % 9223372036854775808 = j by omega]
    exact ⟨rfl, by omega, rfl⟩
/-- what a rounding says, in units of 2^B -/
structure Lies (B mode : Int) (d : D) (r k j : Nat) : Prop where
  below : IsBelow 52 9218868437227405312 (-1074 - B).toNat (d.x B) k
  near : j = nearK 52 (-1074 - B).toNat (d.x B) mode d.neg k
  le : j ≤ 9218868437227405312
  val : fV r = sgn d.neg (numV 52 j)
  lt : r < 18446744073709551616
  mod : r % 9223372036854775808 = j
  bits : r = j + (if d.neg = true then 9223372036854775808 else 0)
theorem lies_of {mode : Int} {d : D} {r : Nat} {er : Int} (B : Int) (h0 : 0 ≤ mode) (h4 : mode ≤ 4) (hB : B ≤ d.exp) (hL : B ≤ -1074) (H : RoundsTo 52 (-1074) 9218868437227405312 9223372036854775808 mode (some d) r er) : er = 0 ∧ ∃ k j, Lies B mode d r k j := by
  rcases H with ⟨h1, _⟩ | ⟨_, ⟨h1, _⟩ | ⟨d', j, h1, h2, h3, h5⟩⟩
  · omega
  · cases h1
  · cases h1
    obtain ⟨k, h6, h7⟩ := rounds_B B h2 hB hL
    have h8 := h2.le
    obtain ⟨h9, h10, h11⟩ := fV_at h8 h3
    exact ⟨h5, k, j, h6, h7, h8, h9, h10, h11, h3⟩
theorem sgn_le {s t : Bool} {a b : Nat} (h1 : s = false → t = false → a ≤ b) (h2 : s = true → t = true → b ≤ a) (h3 : s = false → t = true → a = 0 ∧ b = 0) : sgn s a ≤ sgn t b := by
  unfold sgn
  cases s <;> cases t
  · have := h1 rfl rfl; simp; omega
  · obtain ⟨h4, h5⟩ := h3 rfl rfl; simp [h4, h5]
  · simp <;> omega
  · have := h2 rfl rfl; simp; omega
theorem near_zero {E c k : Nat} {mode : Int} {neg : Bool} (a : IsBelow 52 E c 0 k) (hE : 0 < E) : nearK 52 c 0 mode neg k = 0 := by
  have h : (0 : Nat) = numV 52 0 * 2 ^ c := by rw [numV_zero, Nat.zero_mul]
  rw [h] at a
  have := near_exact (mode := mode) (neg := neg) a hE
  rw [numV_zero, Nat.zero_mul] at this
  exact this
theorem lies_mono {B mode : Int} {d d' : D} {r k j r' k' j' : Nat} (a : Lies B mode d r k j) (b : Lies B mode d' r' k' j') (h : d.z B ≤ d'.z B) : fV r ≤ fV r' := by
  rw [a.val, b.val]
  rw [z_x, z_x] at h
  have e1 := a.below
  have e2 := b.below
  have n1 := a.near
  have n2 := b.near
  generalize d.x B = X at *
  generalize d'.x B = Y at *
  generalize d.neg = s at *
  generalize d'.neg = t at *
  refine sgn_le ?_ ?_ ?_
  · rintro rfl rfl
    rw [n1, n2]
    exact numV_le (near_mono e1 e2 (by unfold sgn at h; simpa using h))
  · rintro rfl rfl
    rw [n1, n2]
    exact numV_le (near_mono e2 e1 (by unfold sgn at h; simp at h; omega))
  · rintro rfl rfl
    have h1 : X = 0 ∧ Y = 0 := by unfold sgn at h; simp at h; omega
    obtain ⟨rfl, rfl⟩ := h1
    rw [near_zero e1 (by decide)] at n1
    rw [near_zero e2 (by decide)] at n2
    rw [n1, n2, numV_zero]; exact ⟨rfl, rfl⟩
theorem lies_same {B mode mode' : Int} {d : D} {r k j r' k' j' : Nat} (a : Lies B mode d r k j) (b : Lies B mode' d r' k' j') (h : ∀ i g, onK mode d.neg i g = onK mode' d.neg i g) : r = r' := by
  rw [a.bits, b.bits, a.near, b.near, a.below.uniq b.below]
  unfold nearK
  simp only [h]
theorem ofF_z {b : Nat} {q : D} (B : Int) (hL : B ≤ -1074) (hb : b < 18446744073709551616) (h : ofF b = some q) : b % 9223372036854775808 < 9218868437227405312 ∧ B ≤ q.exp ∧ q.z B = sgn (decide (9223372036854775808 ≤ b)) (numV 52 (b % 9223372036854775808) * 2 ^ (-1074 - B).toNat) := by
  unfold ofF bitsF at h
  split at h
  · cases h
  · next h1 =>
    obtain ⟨h2, h3⟩ := z_form h (show B ≤ -1074 + (numE 52 (b % 9223372036854775808) : Nat) by omega) (by omega)
    refine ⟨by omega, h3, ?_⟩
    rw [h2, ← sgn_mul]
    unfold numV
    rw [Nat.mul_assoc, ← Nat.pow_add]
    congr 3
    omega
theorem numV_mul_le {a b : Nat} (c : Nat) (h : a ≤ b) : numV 52 a * 2 ^ c ≤ numV 52 b * 2 ^ c := Nat.mul_le_mul_right _ (numV_le h)
/-- on which sides the one below and the one above lie -/
theorem lies_side {B mode : Int} {d : D} {r k j : Nat} {q : D} (a : Lies B mode d r k j) (hL : B ≤ -1074) (hq : ofF r = some q) :
    ((∀ i g, onK mode d.neg i g = d.neg) → q.z B ≤ d.z B) ∧ ((∀ i g, onK mode d.neg i g = !d.neg) → d.z B ≤ q.z B) := by
  obtain ⟨h1, _, h2⟩ := ofF_z B hL a.lt hq
  have hz : q.z B = sgn d.neg (numV 52 j * 2 ^ (-1074 - B).toNat) := by
    rw [sgn_mul, ← a.val, h2, sgn_mul]; rfl
  rw [hz, z_x]
  have e1 := a.below
  have n1 := a.near
  have hj : j < 9218868437227405312 := by rw [← a.mod]; exact h1
  clear hz h2 h1 hq a
  generalize (-1074 - B).toNat = C at *
  generalize d.x B = X at *
  generalize d.neg = s at *
  have hd : j = k → numV 52 j * 2 ^ C ≤ X := fun h => by rw [h]; exact e1.le
  have hu : j = k + 1 → X ≤ numV 52 j * 2 ^ C := fun h => by
    rcases e1.nx with h2 | h2
    · omega
    · rw [h]; omega
  have hk : (∀ i g, onK mode s i g = false) → numV 52 j * 2 ^ C ≤ X := fun h => by
    rcases nearK_or 52 C X mode s k with h2 | ⟨_, _, h2⟩
    · exact hd (n1.trans h2)
    · rw [h] at h2; cases h2
  have hl : (∀ i g, onK mode s i g = true) → X ≤ numV 52 j * 2 ^ C := fun h => by
    by_cases h1 : numV 52 k * 2 ^ C = X
    · have : j = k := by rw [n1]; unfold nearK; rw [if_pos h1]
      rw [this, h1]; exact Nat.le_refl _
    · exact hu (by rw [n1]; unfold nearK; rw [if_neg h1, h, if_pos rfl])
  generalize numV 52 j * 2 ^ C = Y at *
  cases s
  · refine ⟨fun h => ?_, fun h => ?_⟩
    · have := hk h; unfold sgn; simp; omega
    · have := hl h; unfold sgn; simp; omega
  · refine ⟨fun h => ?_, fun h => ?_⟩
    · have := hl h; unfold sgn; simp; omega
    · have := hk h; unfold sgn; simp; omega
theorem cmpN_lt0 {a b : Nat} : cmpN a b < 0 ↔ a < b := by unfold cmpN; repeat' split <;> omega
theorem cmpN_gt0 {a b : Nat} : 0 < cmpN a b ↔ b < a := by unfold cmpN; repeat' split <;> omega
/-- none lies nearer -/
theorem lies_nearest {B mode : Int} {d p q : D} {r k j z : Nat} (a : Lies B mode d r k j) (hL : B ≤ -1074) (hm : mode = 0 ∨ mode = 4) (hz : z < 18446744073709551616) (hq : ofF r = some q) (hp : ofF z = some p) :
    (q.z B - d.z B).natAbs ≤ (p.z B - d.z B).natAbs := by
  obtain ⟨h1, _, h2⟩ := ofF_z B hL a.lt hq
  obtain ⟨h3, _, h4⟩ := ofF_z B hL hz hp
  have hzq : q.z B = sgn d.neg (numV 52 j * 2 ^ (-1074 - B).toNat) := by
    rw [sgn_mul, ← a.val, h2, sgn_mul]; rfl
  rw [hzq, z_x, h4]
  have e1 := a.below
  have n1 := a.near
  have hj : j < 9218868437227405312 := by rw [← a.mod]; exact h1
  clear hzq h4 h2 h1 hq hp a
  generalize z % 9223372036854775808 = i at *
  generalize decide (9223372036854775808 ≤ z) = t
  generalize (-1074 - B).toNat = C at *
  generalize d.x B = X at *
  generalize d.neg = s at *
  have c1 : i ≤ k → numV 52 i * 2 ^ C ≤ numV 52 k * 2 ^ C := numV_mul_le C
  have c2 : k + 1 ≤ i → numV 52 (k + 1) * 2 ^ C ≤ numV 52 i * 2 ^ C := numV_mul_le C
  have hle := e1.le
  have hnx := e1.nx
  have hmid : (numV 52 k + numV 52 (k + 1)) * 2 ^ C = numV 52 k * 2 ^ C + numV 52 (k + 1) * 2 ^ C := Nat.add_mul _ _ _
  have key : j = k ∧ (k + 1 = 9218868437227405312 ∨ 2 * X ≤ numV 52 k * 2 ^ C + numV 52 (k + 1) * 2 ^ C) ∨ j = k + 1 ∧ numV 52 k * 2 ^ C + numV 52 (k + 1) * 2 ^ C ≤ 2 * X := by
    rw [← hmid]
    unfold nearK at n1
    have hk1 : numV 52 k * 2 ^ C < numV 52 (k + 1) * 2 ^ C := (Nat.mul_lt_mul_right (Nat.two_pow_pos C)).2 (numV_lt (by omega))
    split at n1
    · next h => exact .inl ⟨n1, .inr (by rw [hmid]; omega)⟩
    · split at n1
      · next h =>
        refine .inr ⟨n1, ?_⟩
        unfold onK at h
        rcases hm with rfl | rfl
        · simp only [if_true, Bool.or_eq_true, Bool.and_eq_true, decide_eq_true_eq] at h
          rcases h with h | ⟨h, _⟩
          · have := cmpN_gt0.1 h; omega
          · have := cmpN_zero.1 h; omega
        · rw [if_neg (by decide), if_neg (by decide), if_neg (by decide), if_pos rfl, decide_eq_true_eq] at h
          rcases Nat.lt_or_ge (2 * X) ((numV 52 k + numV 52 (k + 1)) * 2 ^ C) with h5 | h5
          · have := cmpN_lt0.2 h5; omega
          · exact h5
      · next h =>
        refine .inl ⟨n1, .inr ?_⟩
        rcases Nat.lt_or_ge ((numV 52 k + numV 52 (k + 1)) * 2 ^ C) (2 * X) with h5 | h5
        · exfalso; apply h
          have := cmpN_gt0.2 h5
          unfold onK
          rcases hm with rfl | rfl
          · rw [if_pos rfl]; simp only [Bool.or_eq_true, decide_eq_true_eq]; exact .inl this
          · rw [if_neg (by decide), if_neg (by decide), if_neg (by decide), if_pos rfl, decide_eq_true_eq]; omega
        · exact h5
  clear n1 hmid e1
  rcases key with ⟨rfl, h5⟩ | ⟨rfl, h5⟩
  · generalize numV 52 j * 2 ^ C = a0 at *
    generalize numV 52 (j + 1) * 2 ^ C = a1 at *
    generalize numV 52 i * 2 ^ C = y at *
    have hy : y ≤ a0 ∨ a1 ≤ y ∧ 2 * X ≤ a0 + a1 := by
      rcases Nat.lt_or_ge j i with h6 | h6
      · rcases h5 with h5 | h5
        · omega
        · exact .inr ⟨c2 h6, h5⟩
      · exact .inl (c1 h6)
    unfold sgn
    cases s <;> cases t <;> simp <;> omega
  · have hk1 : numV 52 k * 2 ^ C ≤ numV 52 (k + 1) * 2 ^ C := numV_mul_le C (by omega)
    generalize numV 52 k * 2 ^ C = a0 at *
    generalize numV 52 (k + 1) * 2 ^ C = a1 at *
    generalize numV 52 i * 2 ^ C = y at *
    have hx : X < a1 := by rcases hnx with h6 | h6; omega; exact h6
    have hy : y ≤ a0 ∨ a1 ≤ y := by
      rcases Nat.lt_or_ge k i with h6 | h6
      · exact .inr (c2 h6)
      · exact .inl (c1 h6)
    unfold sgn
    cases s <;> cases t <;> simp <;> omega
/-- a number's own value comes back -/
theorem lies_own {B mode : Int} {q : D} {r k j z : Nat} (a : Lies B mode q r k j) (hL : B ≤ -1074) (hz : z < 18446744073709551616) (hq : ofF z = some q) : fV r = fV z := by
  obtain ⟨h1, _, h2⟩ := ofF_z B hL hz hq
  rw [a.val]
  unfold fV
  rw [z_x] at h2
  have e1 := a.below
  have n1 := a.near
  clear a hq
  generalize z % 9223372036854775808 = i at *
  generalize decide (9223372036854775808 ≤ z) = t at *
  generalize q.neg = s at *
  generalize q.x B = X at *
  generalize (-1074 - B).toNat = C at *
  have hX : X = numV 52 i * 2 ^ C ∧ (X = 0 ∨ s = t) := by
    generalize numV 52 i * 2 ^ C = Y at *
    unfold sgn at h2
    cases s <;> cases t <;> simp at h2 ⊢ <;> omega
  obtain ⟨rfl, h3⟩ := hX
  rw [near_exact e1 h1] at n1
  rw [n1]
  rcases h3 with h3 | rfl
  · have : numV 52 i = 0 := by
      rcases Nat.mul_eq_zero.1 h3 with h | h
      · exact h
      · have := Nat.two_pow_pos C; omega
    rw [this, sgn_zero, sgn_zero]
  · rfl
end Go.Proofs.YtmokomfneikipaaDoor

namespace Go.Proofs.YtmokomfneikipaaDoor
open Go.RowKit
set_option linter.unusedVariables false
set_option linter.unusedSimpArgs false

def signD (d : D) : Int := if d.m = 0 then 0 else if d.neg = true then -1 else 1
def absD (d : D) : D := if signD d < 0 then outO (formF (!d.neg) d.m d.exp) else d
theorem absD_z {d : D} {B : Int} (hi : d.Is) (ok : d.Ok) (hB : B ≤ d.exp) (h0 : B ≤ 0) : (absD d).Is ∧ (absD d).Ok ∧ B ≤ (absD d).exp ∧ (absD d).z B = ((d.z B).natAbs : Int) := by
  obtain ⟨k1, k2, k3⟩ := z_sign (d := d) hB
  have hs : signD d = (if d.m = 0 then (0 : Int) else if d.neg = true then -1 else 1) := rfl
  rw [← hs] at k1 k2 k3
  unfold absD
  rcases Int.lt_trichotomy (d.z B) 0 with h | h | h
  · rw [k1 h, if_pos (by decide)]
    obtain ⟨q, h1, h2⟩ := neg_form (form_self hi ok)
    rw [h1]
    have h3 : B ≤ q.exp := (z_form h1 hB h0).2
    have h4 := h2 B hB h3
    refine ⟨formF_is h1, formF_ok h1, h3, ?_⟩
    show q.z B = _
    rw [h4]; omega
  · rw [k2 h, if_neg (by decide)]
    exact ⟨hi, ok, hB, by omega⟩
  · rw [k3 h, if_neg (by decide)]
    exact ⟨hi, ok, hB, by omega⟩
theorem absD_ok {d : D} (hi : d.Is) (ok : d.Ok) : (absD d).Ok := (absD_z (B := min d.exp 0) hi ok (by omega) (by omega)).2.1
/-- how far bits lie from a form -/
def gapO (b : Nat) (x : Option D) : Option D := addO (refo (outO (ofF b))) x
theorem outO_ok {o : Option D} (h : ∀ d, o = some d → d.Ok) : (outO o).Ok := by
  cases o with
  | none => exact D.zero_ok
  | some d => exact h d rfl
theorem addO_okk {p q : Option D} (hp : ∀ d, p = some d → d.Is ∧ d.Ok) (hq : ∀ d, q = some d → d.Is ∧ d.Ok) : (outO (addO p q)).Is ∧ (outO (addO p q)).Ok := by
  cases h : addO p q with
  | none => exact ⟨.inl rfl, D.zero_ok⟩
  | some d =>
    obtain ⟨p', q', rfl, rfl, h3⟩ := addO_some h
    exact addD_form h3 (hp _ rfl).1 (hq _ rfl).1 (hp _ rfl).2 (hq _ rfl).2

set_option maxRecDepth 10000 in
set_option maxHeartbeats 4000000 in
theorem gap_any (b : Nat) (x : Arg) (w : World) (hb : b < 18446744073709551616) (hx : x.Ok w) (hT : Tab w) :
    Calls Tryd.prog 41 #[.float .f64 b, x.v] w fun en w' => ∃ a c, en = .returned (.tuple #[.agg #[.bool (absD (outO (gapO b x.opp.F))).neg, .slice a (words (absD (outO (gapO b x.opp.F))).m).length c, .int .i64 (absD (outO (gapO b x.opp.F))).exp], .bool ((ofF b).isSome && (gapO b x.opp.F).isSome)]) ∧ Own w' 64 w.heap.size a c (words (absD (outO (gapO b x.opp.F))).m) ∧ Below w.heap.size w w' := by
  obtain ⟨o, ho⟩ : ∃ o, o = ofF b := ⟨_, rfl⟩
  obtain ⟨q, hq⟩ : ∃ q, q = outO o := ⟨_, rfl⟩
  have hqk : q.Ok := by rw [hq, ho]; exact ofF_ok b
  obtain ⟨o2, ho2⟩ : ∃ o2, o2 = gapO b x.opp.F := ⟨_, rfl⟩
  obtain ⟨g, hg⟩ : ∃ g, g = outO o2 := ⟨_, rfl⟩
  have hgk : g.Is ∧ g.Ok := by
    rw [hg, ho2]
    exact addO_okk (fun d h => form_both h) (fun d h => form_both h)
  rw [← ho2, ← hg, ← ho]
  have hOf : ∀ W, Below w.heap.size w W → Calls Tryd.prog 11 #[.float .f64 b] W fun en w' => ∃ a c, en = .returned (.tuple #[.agg #[.bool q.neg, .slice a (words q.m).length c, .int .i64 q.exp], .int .i64 (errOf o)]) ∧ Own w' 64 W.heap.size a c (words q.m) ∧ Below W.heap.size W w' := by
    intro W hw
    refine (dof_any b W hb (hT.grow hw)).mono ?_
    rintro en w' ⟨v, rfl, ⟨a, c, rfl, h1⟩, h2⟩
    rw [← ho, ← hq] at h1 ⊢
    exact ⟨a, c, rfl, h1, h2⟩
  have hSub : ∀ W a1 c1 base, Below w.heap.size w W → Own W 64 base a1 c1 (words q.m) → Calls Tryd.prog 22 #[.agg #[.bool q.neg, .slice a1 (words q.m).length c1, .int .i64 q.exp], x.v] W fun en w' => ∃ a c, en = .returned (.tuple #[.agg #[.bool g.neg, .slice a (words g.m).length c, .int .i64 g.exp], .int .i64 (errO o2)]) ∧ Own w' 64 W.heap.size a c (words g.m) ∧ Below W.heap.size W w' := by
    intro W a1 c1 base hw h1
    refine (dsub_any (argOf q a1 c1) x W (h1.arg hqk) (hx.grow hw) (hT.grow hw)).mono ?_
    rintro en w' ⟨v, rfl, ⟨a, c, rfl, h3⟩, h2⟩
    have e : addO (Arg.F (argOf q a1 c1)) x.opp.F = o2 := by
      rw [ho2]; unfold gapO; rw [← ho, ← hq]; unfold Arg.F argOf refo; dsimp only; rw [num_words]
    rw [e, ← hg] at h3
    rw [e]
    unfold dyV
    rw [← hg]
    exact ⟨a, c, rfl, h3, h2⟩
  have hSg : ∀ W a1 c1 base, Own W 64 base a1 c1 (words g.m) → Calls Tryd.prog 36 #[.agg #[.bool g.neg, .slice a1 (words g.m).length c1, .int .i64 g.exp]] W fun en w' => en = .returned (.int .i64 (signD g)) ∧ Below W.heap.size W w' := by
    intro W a1 c1 base h1
    have := dsign_any (argOf g a1 c1) W (h1.arg hgk.2)
    rw [show Arg.sign (argOf g a1 c1) = signD g by unfold Arg.sign argOf signD; dsimp only; rw [num_words]] at this
    exact this
  have hNg : ∀ W a1 c1 base, Below w.heap.size w W → signD g < 0 → Own W 64 base a1 c1 (words g.m) → Calls Tryd.prog 34 #[.agg #[.bool g.neg, .slice a1 (words g.m).length c1, .int .i64 g.exp]] W fun en w' => ∃ a c, en = .returned (.agg #[.bool (absD g).neg, .slice a (words (absD g).m).length c, .int .i64 (absD g).exp]) ∧ Own w' 64 W.heap.size a c (words (absD g).m) ∧ Below W.heap.size W w' := by
    intro W a1 c1 base hw hs h1
    refine (dneg_any (argOf g a1 c1) W (h1.arg hgk.2) (hT.grow hw)).mono ?_
    rintro en w' ⟨v, rfl, ⟨a, c, rfl, h3⟩, h2⟩
    have e : outO (Arg.F (Arg.opp (argOf g a1 c1))) = absD g := by
      unfold absD; rw [if_pos hs]; unfold Arg.F Arg.opp argOf; dsimp only; rw [num_words]
    rw [e] at h3
    unfold dyV
    rw [e]
    exact ⟨a, c, rfl, h3, h2⟩
  have hpos : ¬ signD g < 0 → absD g = g := fun h => by unfold absD; rw [if_neg h]
  obtain ⟨is, his⟩ : ∃ is, is = (o.isSome && o2.isSome) := ⟨_, rfl⟩
  obtain ⟨G, hG⟩ : ∃ G, G = absD g := ⟨_, rfl⟩
  rw [← his, ← hG]
  rw [← hG] at hNg hpos
  obtain ⟨e1, he1⟩ : ∃ e1, e1 = errOf o := ⟨_, rfl⟩
  obtain ⟨e2, he2⟩ : ∃ e2, e2 = errO o2 := ⟨_, rfl⟩
  rw [← he1] at hOf
  rw [← he2] at hSub
  have hee : (e1 = 0 ∧ e2 = 0 ∧ is = true) ∨ (e1 = 0 ∧ (e2 == 0) = false ∧ is = false) ∨ ((e1 == 0) = false ∧ is = false) := by
    rw [he1, he2, his]
    cases o <;> cases o2 <;> simp [errOf, errO]
  have HOf := Lib.hid hOf; have HSub := Lib.hid hSub; have HSg := Lib.hid hSg; have HNg := Lib.hid hNg; have Hpos := Lib.hid hpos; have HEE := Lib.hid hee
  clear hOf hSub hSg hNg hpos hee hq ho ho2 hg hG his he1 he2 hqk hgk hx hT o o2
  obtain ⟨s, a, l, c, e⟩ := x
  simp only [Arg.v] at HSub ⊢
  go_enter Tryd.func41, Tryd.ntmps41
  go_wp2_with fail
  (obtain ⟨w1, h1⟩ : ∃ W, W = (w.alloc (.cells #[.bool s, .slice a l.length c, .int .i64 e] 27)) := ⟨_, rfl⟩; have pinEq := h1; (try simp only [wr3] at pinEq); rw [← pinEq]; clear pinEq)
  (obtain ⟨w2, h2⟩ : ∃ W, W = (w1.alloc (.cells #[.bool false, .slice none 0 0, .int .i64 0] 27)) := ⟨_, rfl⟩; have pinEq := h2; (try simp only [wr3] at pinEq); rw [← pinEq]; clear pinEq)
  obtain ⟨k1, hB, s1⟩ := new_cel h1 rfl
  obtain ⟨k2, b2, s2⟩ := new_cel h2 s1
  (replace k1 := cel_call b2 k1 (by omega); replace hB := below_call b2 hB (by omega))
  clear h1 h2 b2
  refine (HOf.out w2 hB).mono ?_; rintro en w3 ⟨a1, c1, rfl, ho1, hb⟩
  (replace k2 := cel_call hb k2 (by omega); replace k1 := cel_call hb k1 (by omega); replace hB := below_call hb hB (by omega))
  have s3 := hb.size
  clear hb
  obtain ⟨_, _, _, _, _, _⟩ := (k1.alloc (.cells #[.bool q.neg, .slice a1 (words q.m).length c1, .int .i64 q.exp] 27)).facts
  go_wp2_with fail
  (obtain ⟨w4, h4⟩ : ∃ W, W = (w3.alloc (.cells #[.bool q.neg, .slice a1 (words q.m).length c1, .int .i64 q.exp] 27)) := ⟨_, rfl⟩; have pinEq := h4; (try simp only [wr3] at pinEq); rw [← pinEq]; clear pinEq)
  obtain ⟨k4, b4, s4⟩ := new_cel h4 rfl
  (replace ho1 := own_call b4 ho1; replace k2 := cel_call b4 k2 (by omega); replace k1 := cel_call b4 k1 (by omega); replace hB := below_call b4 hB (by omega))
  clear h4 b4
  refine (HSub.out w4 a1 c1 _ hB ho1).mono ?_; rintro en w5 ⟨a2, c2, rfl, ho2, hb⟩
  (replace k4 := cel_call hb k4 (by omega); replace ho1 := own_call hb ho1; replace k2 := cel_call hb k2 (by omega); replace k1 := cel_call hb k1 (by omega); replace hB := below_call hb hB (by omega))
  have s5 := hb.size
  clear hb k4 k1 ho1
  go_wp2_with fail
  (obtain ⟨w6, h6⟩ : ∃ W, W = (w5.alloc (.cells #[.bool g.neg, .slice a2 (words g.m).length c2, .int .i64 g.exp] 27)) := ⟨_, rfl⟩; have pinEq := h6; (try simp only [wr3] at pinEq); rw [← pinEq]; clear pinEq)
  obtain ⟨k6, b6, s6⟩ := new_cel h6 rfl
  (replace ho2 := own_call b6 ho2; replace k2 := cel_call b6 k2 (by omega); replace hB := below_call b6 hB (by omega))
  clear h6 b6
  refine (HSg.out w6 a2 c2 _ ho2).mono ?_; rintro en w7 ⟨rfl, hb⟩
  (replace k6 := cel_call hb k6 (by omega); replace ho2 := own_call hb ho2; replace k2 := cel_call hb k2 (by omega); replace hB := below_call hb hB (by omega))
  have s7 := hb.size
  clear hb
  obtain ⟨_, _, _, _, _, _⟩ := k6.facts
  by_cases hs : signD g < 0
  · go_wp2_with fail
    refine (HNg.out w7 a2 c2 _ hB hs ho2).mono ?_; rintro en w8 ⟨a3, c3, rfl, ho3, hb⟩
    (replace k6 := cel_call hb k6 (by omega); replace ho2 := own_call hb ho2; replace k2 := cel_call hb k2 (by omega); replace hB := below_call hb hB (by omega))
    have s8 := hb.size
    clear hb hs ho2
    obtain ⟨_, _, _, _, _, _⟩ := k6.facts
    have q6 := k6.wr (.bool G.neg) (.slice a3 (words G.m).length c3) (.int .i64 G.exp)
    have q2 := k2.wrOther (g' := w5.heap.size) (by omega) (.bool G.neg) (.slice a3 (words G.m).length c3) (.int .i64 G.exp)
    have r2 := q2.wr (.bool G.neg) (.slice a3 (words G.m).length c3) (.int .i64 G.exp)
    have hO := (own_wr3 (v0 := .bool G.neg) (v1 := .slice a3 (words G.m).length c3) (v2 := .int .i64 G.exp) (own_wr3 (v0 := .bool G.neg) (v1 := .slice a3 (words G.m).length c3) (v2 := .int .i64 G.exp) ho3 (show w5.heap.size < _ by omega)) (show w.heap.size + 1 < _ by omega)).mono (show w.heap.size ≤ _ by omega)
    have hE := below_wr3 (g := w.heap.size + 1) (v0 := .bool G.neg) (v1 := .slice a3 (words G.m).length c3) (v2 := .int .i64 G.exp) (below_wr3 (g := w5.heap.size) (v0 := .bool G.neg) (v1 := .slice a3 (words G.m).length c3) (v2 := .int .i64 G.exp) hB (by omega)) (by omega)
    have HO := Lib.hid hO; have HE := Lib.hid hE; clear hO hE hB ho3
    unfold wr3 at q6 q2 r2 HO HE
    obtain ⟨_, _, _, _, _, _⟩ := q6.facts
    obtain ⟨_, _, _, _, _, _⟩ := q2.facts
    obtain ⟨c0, cc1, cc2, _, _, _⟩ := r2.facts
    clear q6 q2 r2 k6 k2
    have fin : w.heap.size + 1 < w8.heap.size := by omega
    rcases HEE.out with ⟨i1, i2, i3⟩ | ⟨i1, i2, i3⟩ | ⟨i1, i3⟩
    · have I3 := Lib.hid i3; clear i3
      have t1 : (e1 == 0) = true := by rw [i1]; rfl
      have t2 : (e2 == 0) = true := by rw [i2]; rfl
      clear i1 i2
      go_wp2_with fail
      refine bodyPost_ret (v := .tuple #[.agg #[.bool G.neg, .slice a3 (words G.m).length c3, .int .i64 G.exp], .bool true]) (by simp [results, Tryd.results41, go_sem, c0, cc1, cc2]) rfl ?_
      exact ⟨a3, c3, by rw [I3.out], HO.out, HE.out⟩
    · have I3 := Lib.hid i3; clear i3
      have t1 : (e1 == 0) = true := by rw [i1]; rfl
      clear i1
      go_wp2_with fail
      refine bodyPost_ret (v := .tuple #[.agg #[.bool G.neg, .slice a3 (words G.m).length c3, .int .i64 G.exp], .bool false]) (by simp [results, Tryd.results41, go_sem, c0, cc1, cc2]) rfl ?_
      exact ⟨a3, c3, by rw [I3.out], HO.out, HE.out⟩
    · have I3 := Lib.hid i3; clear i3
      skip
      go_wp2_with fail
      refine bodyPost_ret (v := .tuple #[.agg #[.bool G.neg, .slice a3 (words G.m).length c3, .int .i64 G.exp], .bool false]) (by simp [results, Tryd.results41, go_sem, c0, cc1, cc2]) rfl ?_
      exact ⟨a3, c3, by rw [I3.out], HO.out, HE.out⟩
  · have hG := Hpos.out (by omega)
    have HS := Lib.hid hs; clear hs
    have hs2 : 0 ≤ signD g := by have := HS.out; omega
    subst hG
    have r2 := k2.wr (.bool G.neg) (.slice a2 (words G.m).length c2) (.int .i64 G.exp)
    have hO := (own_wr3 (v0 := .bool G.neg) (v1 := .slice a2 (words G.m).length c2) (v2 := .int .i64 G.exp) ho2 (show w.heap.size + 1 < _ by omega)).mono (show w.heap.size ≤ _ by omega)
    have hE := below_wr3 (g := w.heap.size + 1) (v0 := .bool G.neg) (v1 := .slice a2 (words G.m).length c2) (v2 := .int .i64 G.exp) hB (by omega)
    have HO := Lib.hid hO; have HE := Lib.hid hE; clear hO hE hB ho2
    unfold wr3 at r2 HO HE
    obtain ⟨_, _, _, _, _, _⟩ := k6.facts
    obtain ⟨_, _, _, _, _, _⟩ := k2.facts
    obtain ⟨c0, cc1, cc2, _, _, _⟩ := r2.facts
    clear r2 k6 k2
    have fin : w.heap.size + 1 < w7.heap.size := by omega
    rcases HEE.out with ⟨i1, i2, i3⟩ | ⟨i1, i2, i3⟩ | ⟨i1, i3⟩
    · have I3 := Lib.hid i3; clear i3
      have t1 : (e1 == 0) = true := by rw [i1]; rfl
      have t2 : (e2 == 0) = true := by rw [i2]; rfl
      clear i1 i2
      go_wp2_with fail
      refine bodyPost_ret (v := .tuple #[.agg #[.bool G.neg, .slice a2 (words G.m).length c2, .int .i64 G.exp], .bool true]) (by simp [results, Tryd.results41, go_sem, c0, cc1, cc2]) rfl ?_
      exact ⟨a2, c2, by rw [I3.out], HO.out, HE.out⟩
    · have I3 := Lib.hid i3; clear i3
      have t1 : (e1 == 0) = true := by rw [i1]; rfl
      clear i1
      go_wp2_with fail
      refine bodyPost_ret (v := .tuple #[.agg #[.bool G.neg, .slice a2 (words G.m).length c2, .int .i64 G.exp], .bool false]) (by simp [results, Tryd.results41, go_sem, c0, cc1, cc2]) rfl ?_
      exact ⟨a2, c2, by rw [I3.out], HO.out, HE.out⟩
    · have I3 := Lib.hid i3; clear i3
      skip
      go_wp2_with fail
      refine bodyPost_ret (v := .tuple #[.agg #[.bool G.neg, .slice a2 (words G.m).length c2, .int .i64 G.exp], .bool false]) (by simp [results, Tryd.results41, go_sem, c0, cc1, cc2]) rfl ?_
      exact ⟨a2, c2, by rw [I3.out], HO.out, HE.out⟩
end Go.Proofs.YtmokomfneikipaaDoor

namespace Go.Proofs.YtmokomfneikipaaDoor
open Go.RowKit
set_option linter.unusedVariables false
set_option linter.unusedSimpArgs false

theorem below_exists (h E c X : Nat) : ∀ n, 0 < n → ∃ k, k < n ∧ numV h k * 2 ^ c ≤ X ∧ (k + 1 = n ∨ X < numV h (k + 1) * 2 ^ c) := by
  intro n
  induction n with
  | zero => intro h0; omega
  | succ n ih =>
    intro _
    rcases Nat.eq_zero_or_pos n with rfl | hn
    · exact ⟨0, by omega, by rw [numV_zero, Nat.zero_mul]; exact Nat.zero_le _, .inl rfl⟩
    · obtain ⟨k, h1, h2, h3⟩ := ih hn
      rcases h3 with h3 | h3
      · subst h3
        rcases Nat.lt_or_ge X (numV h (k + 1) * 2 ^ c) with h4 | h4
        · exact ⟨k, by omega, h2, .inr h4⟩
        · exact ⟨k + 1, by omega, h4, .inl rfl⟩
      · exact ⟨k, by omega, h2, .inr h3⟩
theorem rounds_exists {h : Nat} {L : Int} {E S : Nat} (hE : 0 < E) (d : D) {mode : Int} (h0 : 0 ≤ mode) (h4 : mode ≤ 4) : ∃ r, RoundsTo h L E S mode (some d) r 0 := by
  obtain ⟨k, h1, h2, h3⟩ := below_exists h E (sc L d.exp) (sx L d.m d.exp) E hE
  exact ⟨_, .inr ⟨⟨h0, h4⟩, .inr ⟨d, _, rfl, ⟨k, ⟨h1, h2, h3⟩, rfl⟩, rfl, rfl⟩⟩⟩
abbrev R64 (mode : Int) (d : D) (r : Nat) : Prop := RoundsTo 52 (-1074) 9218868437227405312 9223372036854775808 mode (some d) r 0
theorem round_letters (d : D) : ∃ X : Nat → Nat, ∀ k : Nat, k ≤ 4 → R64 (k : Int) d (X k) := by
  have : ∀ k : Nat, ∃ r, k ≤ 4 → R64 (k : Int) d r := by
    intro k
    by_cases hk : k ≤ 4
    · obtain ⟨r, hr⟩ := rounds_exists (h := 52) (L := -1074) (E := 9218868437227405312) (S := 9223372036854775808) (by decide) d (mode := (k : Int)) (by omega) (by omega)
      exact ⟨r, fun _ => hr⟩
    · exact ⟨0, fun h => absurd h hk⟩
  exact Classical.axiomOfChoice this
theorem r64_fits {mode : Int} {d : D} {r : Nat} (h0 : 0 ≤ mode) (h4 : mode ≤ 4) (H : R64 mode d r) : r < 18446744073709551616 ∧ r % 9223372036854775808 ≤ 9218868437227405312 := by
  obtain ⟨_, k, j, h⟩ := lies_of (min d.exp (-1074)) h0 h4 (by omega) (by omega) H
  exact ⟨h.lt, by rw [h.mod]; exact h.le⟩
/-- forms in order -/
theorem cmpA_le {d n : D} {a a' : Option Addr} {c c' : Nat} {B : Int} (hd : B ≤ d.exp) (hn : B ≤ n.exp) : (cmpA (argOf d a c) (argOf n a' c') ≤ 0 ↔ d.z B ≤ n.z B) ∧ (0 ≤ cmpA (argOf d a c) (argOf n a' c') ↔ n.z B ≤ d.z B) := by
  obtain ⟨h1, h2, h3⟩ := cmpA_z (argOf d a c) (argOf n a' c') B hd hn
  have e1 : sgn (argOf d a c).s (num (argOf d a c).l * 2 ^ ((argOf d a c).e - B).toNat) = d.z B := by unfold argOf D.z; dsimp only; rw [num_words, sgn_mul]
  have e2 : sgn (argOf n a' c').s (num (argOf n a' c').l * 2 ^ ((argOf n a' c').e - B).toNat) = n.z B := by unfold argOf D.z; dsimp only; rw [num_words, sgn_mul]
  rw [e1, e2] at h1 h2 h3
  rcases Int.lt_trichotomy (d.z B) (n.z B) with h | h | h
  · rw [h1 (by omega)]; constructor <;> constructor <;> intro _ <;> omega
  · rw [h2 (by omega)]; constructor <;> constructor <;> intro _ <;> omega
  · rw [h3 (by omega)]; constructor <;> constructor <;> intro _ <;> omega
theorem r64_mono {mode : Int} {d n : D} {r t : Nat} {a a' : Option Addr} {c c' : Nat} (h0 : 0 ≤ mode) (h4 : mode ≤ 4) (H : R64 mode d r) (K : R64 mode n t) :
    (cmpA (argOf d a c) (argOf n a' c') ≤ 0 → fV r ≤ fV t) ∧ (0 ≤ cmpA (argOf d a c) (argOf n a' c') → fV t ≤ fV r) := by
  obtain ⟨B, hB1, hB2, hB3⟩ : ∃ B : Int, B ≤ d.exp ∧ B ≤ n.exp ∧ B ≤ -1074 := ⟨min (min d.exp n.exp) (-1074), by omega, by omega, by omega⟩
  obtain ⟨_, k, j, h⟩ := lies_of B h0 h4 hB1 hB3 H
  obtain ⟨_, k', j', h'⟩ := lies_of B h0 h4 hB2 hB3 K
  obtain ⟨e1, e2⟩ := cmpA_le (a := a) (a' := a') (c := c) (c' := c') hB1 hB2
  exact ⟨fun hc => lies_mono h h' (e1.1 hc), fun hc => lies_mono h' h (e2.1 hc)⟩
/-- Zero is Down or Up -/
theorem r64_zero {d : D} {x1 x2 x3 : Nat} (h1 : R64 1 d x1) (h2 : R64 2 d x2) (h3 : R64 3 d x3) : (d.neg = false → x1 = x3) ∧ (d.neg = true → x1 = x2) := by
  obtain ⟨B, hB1, hB3⟩ : ∃ B : Int, B ≤ d.exp ∧ B ≤ -1074 := ⟨min d.exp (-1074), by omega, by omega⟩
  obtain ⟨_, _, _, l1⟩ := lies_of B (by decide) (by decide) hB1 hB3 h1
  obtain ⟨_, _, _, l2⟩ := lies_of B (by decide) (by decide) hB1 hB3 h2
  obtain ⟨_, _, _, l3⟩ := lies_of B (by decide) (by decide) hB1 hB3 h3
  constructor
  · intro hn
    refine lies_same l1 l3 ?_
    rw [hn]; intro i g; rfl
  · intro hn
    refine lies_same l1 l2 ?_
    rw [hn]; intro i g; rfl
/-- Down does not lie above, Up not below -/
theorem r64_down {d q : D} {x : Nat} {a a' : Option Addr} {c c' : Nat} (h : R64 3 d x) (hq : ofF x = some q) : cmpA (argOf q a c) (argOf d a' c') ≤ 0 := by
  obtain ⟨B, hB1, hB2, hB3⟩ : ∃ B : Int, B ≤ d.exp ∧ B ≤ q.exp ∧ B ≤ -1074 := ⟨min (min d.exp q.exp) (-1074), by omega, by omega, by omega⟩
  obtain ⟨_, _, _, l⟩ := lies_of B (by decide) (by decide) hB1 hB3 h
  refine ((cmpA_le hB2 hB1).1).2 ((lies_side l hB3 hq).1 ?_)
  intro i g; rfl
theorem r64_up {d q : D} {x : Nat} {a a' : Option Addr} {c c' : Nat} (h : R64 2 d x) (hq : ofF x = some q) : 0 ≤ cmpA (argOf q a c) (argOf d a' c') := by
  obtain ⟨B, hB1, hB2, hB3⟩ : ∃ B : Int, B ≤ d.exp ∧ B ≤ q.exp ∧ B ≤ -1074 := ⟨min (min d.exp q.exp) (-1074), by omega, by omega, by omega⟩
  obtain ⟨_, _, _, l⟩ := lies_of B (by decide) (by decide) hB1 hB3 h
  refine ((cmpA_le hB2 hB1).2).2 ((lies_side l hB3 hq).2 ?_)
  intro i g; rfl
/-- gaps -/
theorem gap_z {b : Nat} {d p g : D} {a : Option Addr} {c : Nat} {B : Int} (hi : d.Is) (ok : d.Ok) (hp : ofF b = some p) (hg : gapO b (argOf d a c).opp.F = some g) (hB1 : B ≤ d.exp) (hB2 : B ≤ p.exp) (hB0 : B ≤ 0) :
    (absD g).Is ∧ (absD g).Ok ∧ B ≤ (absD g).exp ∧ (absD g).z B = ((p.z B - d.z B).natAbs : Int) := by
  unfold gapO at hg
  obtain ⟨p', q', h1, h2, h3⟩ := addO_some hg
  rw [hp] at h1
  have hpf : p' = p := by
    have : refo (outO (some p)) = some p := by
      unfold refo outO
      exact form_self (form_both (show formF _ _ _ = some p from by unfold ofF bitsF at hp; split at hp; cases hp; exact hp)).1 (form_both (show formF _ _ _ = some p from by unfold ofF bitsF at hp; split at hp; cases hp; exact hp)).2
    rw [this] at h1
    cases h1; rfl
  subst hpf
  obtain ⟨q, hq, hqz⟩ := neg_form (form_self hi ok)
  have e : (argOf d a c).opp.F = formF (!d.neg) d.m d.exp := by unfold Arg.opp Arg.F argOf; dsimp only; rw [num_words]
  rw [e, hq] at h2
  have e2 : q' = q := (Option.some.inj h2).symm
  rw [e2] at h3
  have hqe : B ≤ q.exp := (z_form hq hB1 hB0).2
  obtain ⟨h4, h5⟩ := z_add h3 hB2 hqe hB0
  obtain ⟨h6, h7⟩ := addD_form h3 (form_both (show formF _ _ _ = some p' from by unfold ofF bitsF at hp; split at hp; cases hp; exact hp)).1 (form_both hq).1 (form_both (show formF _ _ _ = some p' from by unfold ofF bitsF at hp; split at hp; cases hp; exact hp)).2 (form_both hq).2
  obtain ⟨h8, h9, h10, h11⟩ := absD_z h6 h7 h5 hB0
  refine ⟨h8, h9, h10, ?_⟩
  rw [h11, h4, hqz B hB1 hqe, ← Int.sub_eq_add_neg]
/-- no number lies nearer than Even and Away -/
theorem r64_near {mode : Int} {d p q g h : D} {x z : Nat} {a a1 a2 a3 : Option Addr} {c c1 c2 c3 : Nat} (hi : d.Is) (ok : d.Ok) (hm : mode = 0 ∨ mode = 4) (hz : z < 18446744073709551616) (H : R64 mode d x) (hq : ofF x = some q) (hp : ofF z = some p)
    (hg : gapO z (argOf d a c).opp.F = some g) (hh : gapO x (argOf d a1 c1).opp.F = some h) : 0 ≤ cmpA (argOf (absD g) a2 c2) (argOf (absD h) a3 c3) := by
  obtain ⟨B, hB1, hB2, hB3, hB4⟩ : ∃ B : Int, B ≤ d.exp ∧ B ≤ q.exp ∧ B ≤ p.exp ∧ B ≤ -1074 := ⟨min (min (min d.exp q.exp) p.exp) (-1074), by omega, by omega, by omega, by omega⟩
  obtain ⟨_, _, _, l⟩ := lies_of B (by omega) (by omega) hB1 hB4 H
  have hn := lies_nearest l hB4 hm hz hq hp
  obtain ⟨_, _, g1, g2⟩ := gap_z hi ok hp hg hB1 hB3 (by omega)
  obtain ⟨_, _, h1, h2⟩ := gap_z hi ok hq hh hB1 hB2 (by omega)
  refine ((cmpA_le g1 h1).2).2 ?_
  rw [g2, h2]; omega
/-- a number's own value -/
theorem r64_own {mode : Int} {q : D} {z r : Nat} {er : Int} (h0 : 0 ≤ mode) (h4 : mode ≤ 4) (hz : z < 18446744073709551616) (hq : ofF z = some q) (H : RoundsTo 52 (-1074) 9218868437227405312 9223372036854775808 mode (some q) r er) : er = 0 ∧ fV r = fV z ∧ r < 18446744073709551616 ∧ r % 9223372036854775808 ≤ 9218868437227405312 := by
  obtain ⟨B, hB1, hB3⟩ : ∃ B : Int, B ≤ q.exp ∧ B ≤ -1074 := ⟨min q.exp (-1074), by omega, by omega⟩
  obtain ⟨he, _, _, l⟩ := lies_of B h0 h4 hB1 hB3 H
  exact ⟨he, lies_own l hB3 hz hq, l.lt, by rw [l.mod]; exact l.le⟩

theorem run_gtr64 {a b : Nat} (W : World) (ha : a < 18446744073709551616) (hb : b < 18446744073709551616) (ka : a % 9223372036854775808 ≤ 9218868437227405312) (kb : b % 9223372036854775808 ≤ 9218868437227405312) (h : fV a ≤ fV b) : (binOp .gtr 22 (.float .f64 a) (.float .f64 b)).run Tryd.prog W = .ok (.bool false) W := by
  have e : (binOp .gtr 22 (.float .f64 a) (.float .f64 b)).run Tryd.prog W = .ok (.bool (FloatKind.f64.format.order a b == some .gt)) W := rfl
  rw [e, order64 ha hb ka kb]
  rcases Int.lt_or_eq_of_le h with h1 | h1
  · rw [cmpZ_lt h1]; rfl
  · rw [h1, cmpZ_self]; rfl
theorem run_lss64 {a b : Nat} (W : World) (ha : a < 18446744073709551616) (hb : b < 18446744073709551616) (ka : a % 9223372036854775808 ≤ 9218868437227405312) (kb : b % 9223372036854775808 ≤ 9218868437227405312) (h : fV b ≤ fV a) : (binOp .lss 22 (.float .f64 a) (.float .f64 b)).run Tryd.prog W = .ok (.bool false) W := by
  have e : (binOp .lss 22 (.float .f64 a) (.float .f64 b)).run Tryd.prog W = .ok (.bool (FloatKind.f64.format.order a b == some .lt)) W := rfl
  rw [e, order64 ha hb ka kb]
  rcases Int.lt_or_eq_of_le h with h1 | h1
  · rw [cmpZ_gt h1]; rfl
  · rw [h1, cmpZ_self]; rfl
theorem run_neq64 {a b : Nat} (W : World) (ha : a < 18446744073709551616) (hb : b < 18446744073709551616) (ka : a % 9223372036854775808 ≤ 9218868437227405312) (kb : b % 9223372036854775808 ≤ 9218868437227405312) (h : fV a = fV b) : (binOp .neq 22 (.float .f64 a) (.float .f64 b)).run Tryd.prog W = .ok (.bool false) W := by
  have e : (binOp .neq 22 (.float .f64 a) (.float .f64 b)).run Tryd.prog W = .ok (.bool (FloatKind.f64.format.order a b != some .eq)) W := rfl
  rw [e, order64 ha hb ka kb, h, cmpZ_self]; rfl
end Go.Proofs.YtmokomfneikipaaDoor

namespace Go.Proofs.YtmokomfneikipaaDoor
open Go.RowKit
set_option linter.unusedVariables false
set_option linter.unusedSimpArgs false

theorem grown_set (w : World) (g k : Nat) (v : Value) : w.grownBy (w.setCell ⟨g, k, none⟩ v) (some g) :=
  ⟨rfl, rfl, rfl, by simp, fun j hj hr => heap_setCell_other _ _ _ _ (by simpa using hr)⟩
/-- the five numbers, as far as they were laid -/
def upX (X : Nat → Nat) (k j : Nat) : Nat := if j < k then X j else 0
def Arr5 (w : World) (g : Nat) (X : Nat → Nat) (k : Nat) : Prop := w.heap[g]? = some (.cells #[.float .f64 (upX X k 0), .float .f64 (upX X k 1), .float .f64 (upX X k 2), .float .f64 (upX X k 3), .float .f64 (upX X k 4)] 52 (0, 0))
theorem Arr5.below {w w' : World} {g B k : Nat} {X : Nat → Nat} (h : Arr5 w g X k) (hb : Below B w w') (hg : g < B) : Arr5 w' g X k := by
  unfold Arr5; rw [hb.block _ hg]; exact h
theorem Arr5.alloc {w : World} {g k : Nat} {X : Nat → Nat} (h : Arr5 w g X k) (o : Obj) : Arr5 (w.alloc o) g X k := h.below ((Below.refl w.heap.size w).alloc (Nat.le_refl _) o) (Array.getElem?_eq_some_iff.1 h).1
theorem Arr5.lt {w : World} {g k : Nat} {X : Nat → Nat} (h : Arr5 w g X k) : g < w.heap.size := (Array.getElem?_eq_some_iff.1 h).1
theorem Arr5.cell {w : World} {g k : Nat} {X : Nat → Nat} (h : Arr5 w g X k) (j : Nat) (hj : j < 5) : w.cell? ⟨g, j, none⟩ = some (.float .f64 (upX X k j)) ∧ w.frozen? ⟨g, j, none⟩ = false := by
  refine ⟨?_, ?_⟩
  · rw [cell_of_row w g j _ _ (0, 0) h]
    rcases (show j = 0 ∨ j = 1 ∨ j = 2 ∨ j = 3 ∨ j = 4 by omega) with rfl | rfl | rfl | rfl | rfl <;> rfl
  · exact frozen_of_row w g j _ _ h
theorem Arr5.set {w : World} {g k : Nat} {X : Nat → Nat} (h : Arr5 w g X k) (hk : k < 5) : Arr5 (w.setCell ⟨g, k, none⟩ (.float .f64 (X k))) g X (k + 1) := by
  unfold Arr5
  rw [heap_setCell_same w g k _ _ _ h]
  rcases (show k = 0 ∨ k = 1 ∨ k = 2 ∨ k = 3 ∨ k = 4 by omega) with rfl | rfl | rfl | rfl | rfl <;> rfl
theorem Arr5.full {w : World} {g : Nat} {X : Nat → Nat} (h : Arr5 w g X 5) (j : Nat) (hj : j < 5) : w.cell? ⟨g, j, none⟩ = some (.float .f64 (X j)) := by
  rw [(h.cell j hj).1]; unfold upX; rw [if_pos hj]

theorem run_store_f64 (b : Nat) (a : Addr) (m : Mode) (w : World) : (store a (.float .f64 b) m).run Tryd.prog w = stored Tryd.prog w a (.float .f64 b) m := run_store Tryd.prog w a _ m rfl

set_option maxRecDepth 10000 in
set_option maxHeartbeats 16000000 in
theorem near_any (x y : Arg) (z : Nat) (w : World) (hz : z < 18446744073709551616) (hx : x.Ok w) (hy : y.Ok w) (hT : Tab w) :
    Calls Tryd.prog 8 #[x.v, y.v, .int .u64 z] w fun en w' => en = .returned (.bool true) ∧ Below w.heap.size w w' := by
  obtain ⟨s, a, l, c, e⟩ := x
  obtain ⟨s', a', l', c', e'⟩ := y
  simp only [Arg.v]
  have hAwk := fun W (hw : Below w.heap.size w W) => awake_any W (hT.grow hw)
  obtain ⟨o1, p1⟩ : ∃ o, o = formF s (num l) e := ⟨_, rfl⟩
  obtain ⟨o2, p2⟩ : ∃ o, o = formF s' (num l') e' := ⟨_, rfl⟩
  obtain ⟨d, q1⟩ : ∃ d, d = outO o1 := ⟨_, rfl⟩
  obtain ⟨n, q2⟩ : ∃ d, d = outO o2 := ⟨_, rfl⟩
  obtain ⟨e1, m1⟩ : ∃ e, e = errO o1 := ⟨_, rfl⟩
  obtain ⟨e2, m2⟩ : ∃ e, e = errO o2 := ⟨_, rfl⟩
  have okd : d.Ok := by rw [q1, p1]; exact outF_ok _ _ _
  have okn : n.Ok := by rw [q2, p2]; exact outF_ok _ _ _
  have hm1 : ∀ W : World, Below w.heap.size w W → Calls Tryd.prog 14 #[.bool s, .slice a l.length c, .int .i64 e] W fun en w' => ∃ ra rc, en = .returned (.tuple #[.agg #[.bool d.neg, .slice ra (words d.m).length rc, .int .i64 d.exp], .int .i64 e1]) ∧ Own w' 64 W.heap.size ra rc (words d.m) ∧ Below W.heap.size W w' := by
    intro W hw
    have := dmake_any s a c l e W (hx.grow hw) (hT.grow hw)
    rw [← p1] at this
    refine this.mono ?_
    rintro en w' ⟨v, rfl, ⟨ra, rc, rfl, ho⟩, hb⟩
    rw [← q1] at ho ⊢
    rw [← m1]
    exact ⟨ra, rc, rfl, ho, hb⟩
  have hm2 : ∀ W : World, Below w.heap.size w W → Calls Tryd.prog 14 #[.bool s', .slice a' l'.length c', .int .i64 e'] W fun en w' => ∃ ra rc, en = .returned (.tuple #[.agg #[.bool n.neg, .slice ra (words n.m).length rc, .int .i64 n.exp], .int .i64 e2]) ∧ Own w' 64 W.heap.size ra rc (words n.m) ∧ Below W.heap.size W w' := by
    intro W hw
    have := dmake_any s' a' c' l' e' W (hy.grow hw) (hT.grow hw)
    rw [← p2] at this
    refine this.mono ?_
    rintro en w' ⟨v, rfl, ⟨ra, rc, rfl, ho⟩, hb⟩
    rw [← q2] at ho ⊢
    rw [← m2]
    exact ⟨ra, rc, rfl, ho, hb⟩
  have hee : ((e1 != 0) = true ∧ (e1 == 0) = false) ∨ (e1 = 0 ∧ (e2 != 0) = true ∧ (e2 == 0) = false) ∨ (e1 = 0 ∧ e2 = 0 ∧ d.Is ∧ n.Is) := by
    rw [m1, m2]
    cases h1 : o1 with
    | none => left; exact ⟨rfl, rfl⟩
    | some d1 =>
      cases h2 : o2 with
      | none => right; left; exact ⟨rfl, rfl, rfl⟩
      | some d2 =>
        right; right
        refine ⟨rfl, rfl, ?_, ?_⟩
        · rw [q1, h1]; exact (form_both (p1.symm.trans h1)).1
        · rw [q2, h2]; exact (form_both (p2.symm.trans h2)).1
  obtain ⟨X, hX⟩ := round_letters d
  obtain ⟨C, hC⟩ : ∃ C, C = cmpA (argOf d none 0) (argOf n none 0) := ⟨_, rfl⟩
  have hC0 : ∀ ra rc rb rd, cmpA (argOf d ra rc) (argOf n rb rd) = C := fun _ _ _ _ => hC.symm
  have hR : ∀ (D : D), D.Ok → D.Is → ∀ (W : World) (k : Nat) ra rc b, k ≤ 4 → Below w.heap.size w W → Own W 64 b ra rc (words D.m) → Calls Tryd.prog 26 #[.agg #[.bool D.neg, .slice ra (words D.m).length rc, .int .i64 D.exp], .int .i64 (k : Int)] W fun en w' => ∃ r, en = .returned (.tuple #[.float .f64 r, .int .i64 0]) ∧ R64 (k : Int) D r ∧ Below W.heap.size W w' := by
    intro D okD isD W k ra rc b hk hw ho
    refine (dround_any (argOf D ra rc) (k : Int) W (ho.arg okD) (hT.grow hw)).mono ?_
    rintro en w' ⟨⟨r, er, rfl, H⟩, hb⟩
    rw [show Arg.F (argOf D ra rc) = some D by unfold Arg.F argOf; dsimp only; rw [num_words]; exact form_self isD okD] at H
    obtain ⟨rfl, _⟩ := lies_of (min D.exp (-1074)) (by omega) (by omega) (by omega) (by omega) H
    exact ⟨r, rfl, H, hb⟩
  have hR1 : d.Is → ∀ (W : World) (k : Nat) ra rc b, k ≤ 4 → Below w.heap.size w W → Own W 64 b ra rc (words d.m) → Calls Tryd.prog 26 #[.agg #[.bool d.neg, .slice ra (words d.m).length rc, .int .i64 d.exp], .int .i64 (k : Int)] W fun en w' => en = .returned (.tuple #[.float .f64 (X k), .int .i64 0]) ∧ Below W.heap.size W w' := by
    intro isD W k ra rc b hk hw ho
    refine (hR d okd isD W k ra rc b hk hw ho).mono ?_
    rintro en w' ⟨r, rfl, H, hb⟩
    rw [(H.uniq (hX k hk)).1]
    exact ⟨rfl, hb⟩
  have hR2 : d.Is → n.Is → ∀ (W : World) (k : Nat) ra rc b, k ≤ 4 → Below w.heap.size w W → Own W 64 b ra rc (words n.m) → Calls Tryd.prog 26 #[.agg #[.bool n.neg, .slice ra (words n.m).length rc, .int .i64 n.exp], .int .i64 (k : Int)] W fun en w' => ∃ r, en = .returned (.tuple #[.float .f64 r, .int .i64 0]) ∧ Hid (C ≤ 0 → ∀ W, (binOp .gtr 22 (.float .f64 (X k)) (.float .f64 r)).run Tryd.prog W = .ok (.bool false) W) ∧ Hid (0 ≤ C → ∀ W, (binOp .lss 22 (.float .f64 (X k)) (.float .f64 r)).run Tryd.prog W = .ok (.bool false) W) ∧ Below W.heap.size W w' := by
    intro isD isN W k ra rc b hk hw ho
    refine (hR n okn isN W k ra rc b hk hw ho).mono ?_
    rintro en w' ⟨r, rfl, H, hb⟩
    obtain ⟨f1, f2⟩ := r64_fits (by omega) (by omega) (hX k hk)
    obtain ⟨f3, f4⟩ := r64_fits (by omega) (by omega) H
    obtain ⟨f5, f6⟩ := r64_mono (a := none) (a' := none) (c := 0) (c' := 0) (by omega) (by omega) (hX k hk) H
    rw [← hC] at f5 f6
    exact ⟨r, rfl, fun hc W => run_gtr64 W f1 f3 f2 f4 (f5 hc), fun hc W => run_lss64 W f1 f3 f2 f4 (f6 hc), hb⟩
  have hCm : ∀ (p q : D), p.Ok → q.Ok → ∀ (W : World) ra rc b rb rd b', Below w.heap.size w W → Own W 64 b ra rc (words p.m) → Own W 64 b' rb rd (words q.m) → Calls Tryd.prog 35 #[.agg #[.bool p.neg, .slice ra (words p.m).length rc, .int .i64 p.exp], .agg #[.bool q.neg, .slice rb (words q.m).length rd, .int .i64 q.exp]] W fun en w' => en = .returned (.int .i64 (cmpA (argOf p ra rc) (argOf q rb rd))) ∧ Below W.heap.size W w' := by
    intro p q okp okq W ra rc b rb rd b' hw h1 h2
    exact dcmp_any (argOf p ra rc) (argOf q rb rd) W (h1.arg okp) (h2.arg okq)
  have hC1 : ∀ (W : World) ra rc b rb rd b', Below w.heap.size w W → Own W 64 b ra rc (words d.m) → Own W 64 b' rb rd (words n.m) → Calls Tryd.prog 35 #[.agg #[.bool d.neg, .slice ra (words d.m).length rc, .int .i64 d.exp], .agg #[.bool n.neg, .slice rb (words n.m).length rd, .int .i64 n.exp]] W fun en w' => en = .returned (.int .i64 C) ∧ Below W.heap.size W w' := by
    intro W ra rc b rb rd b' hw h1 h2
    have := hCm d n okd okn W ra rc b rb rd b' hw h1 h2
    rw [hC0] at this
    exact this
  -- the numbers at Down and Up
  obtain ⟨oD, hoD⟩ : ∃ o, o = ofF (X 3) := ⟨_, rfl⟩
  obtain ⟨oU, hoU⟩ : ∃ o, o = ofF (X 2) := ⟨_, rfl⟩
  obtain ⟨dD, hdD⟩ : ∃ d, d = outO oD := ⟨_, rfl⟩
  obtain ⟨dU, hdU⟩ : ∃ d, d = outO oU := ⟨_, rfl⟩
  obtain ⟨eD, heD⟩ : ∃ e, e = errOf oD := ⟨_, rfl⟩
  obtain ⟨eU, heU⟩ : ∃ e, e = errOf oU := ⟨_, rfl⟩
  have okD : dD.Ok := by rw [hdD, hoD]; exact ofF_ok _
  have okU : dU.Ok := by rw [hdU, hoU]; exact ofF_ok _
  have hOf : ∀ (b : Nat) (W : World), b < 18446744073709551616 → Below w.heap.size w W → Calls Tryd.prog 11 #[.float .f64 b] W fun en w' => ∃ ra rc, en = .returned (.tuple #[.agg #[.bool (outO (ofF b)).neg, .slice ra (words (outO (ofF b)).m).length rc, .int .i64 (outO (ofF b)).exp], .int .i64 (errOf (ofF b))]) ∧ Own w' 64 W.heap.size ra rc (words (outO (ofF b)).m) ∧ Below W.heap.size W w' := by
    intro b W hb64 hw
    refine (dof_any b W hb64 (hT.grow hw)).mono ?_
    rintro en w' ⟨v, rfl, ⟨ra, rc, rfl, ho⟩, hb⟩
    exact ⟨ra, rc, rfl, ho, hb⟩
  have hO1 : ∀ W, Below w.heap.size w W → Calls Tryd.prog 11 #[.float .f64 (X 3)] W fun en w' => ∃ ra rc, en = .returned (.tuple #[.agg #[.bool dD.neg, .slice ra (words dD.m).length rc, .int .i64 dD.exp], .int .i64 eD]) ∧ Own w' 64 W.heap.size ra rc (words dD.m) ∧ Below W.heap.size W w' := by
    intro W hw
    have := hOf (X 3) W (r64_fits (by decide) (by decide) (hX 3 (by decide))).1 hw
    rw [← hoD, ← hdD, ← heD] at this
    exact this
  have hO2 : ∀ W, Below w.heap.size w W → Calls Tryd.prog 11 #[.float .f64 (X 2)] W fun en w' => ∃ ra rc, en = .returned (.tuple #[.agg #[.bool dU.neg, .slice ra (words dU.m).length rc, .int .i64 dU.exp], .int .i64 eU]) ∧ Own w' 64 W.heap.size ra rc (words dU.m) ∧ Below W.heap.size W w' := by
    intro W hw
    have := hOf (X 2) W (r64_fits (by decide) (by decide) (hX 2 (by decide))).1 hw
    rw [← hoU, ← hdU, ← heU] at this
    exact this
  have hC2 : eD = 0 → ∀ (W : World) ra rc b rb rd b', Below w.heap.size w W → Own W 64 b ra rc (words dD.m) → Own W 64 b' rb rd (words d.m) → Calls Tryd.prog 35 #[.agg #[.bool dD.neg, .slice ra (words dD.m).length rc, .int .i64 dD.exp], .agg #[.bool d.neg, .slice rb (words d.m).length rd, .int .i64 d.exp]] W fun en w' => ∃ g : Int, g ≤ 0 ∧ en = .returned (.int .i64 g) ∧ Below W.heap.size W w' := by
    intro h0 W ra rc b rb rd b' hw h1 h2
    refine (hCm dD d okD okd W ra rc b rb rd b' hw h1 h2).mono ?_
    rintro en w' ⟨rfl, hb⟩
    refine ⟨_, ?_, rfl, hb⟩
    rw [heD] at h0
    cases h : oD with
    | none => rw [h] at h0; cases h0
    | some q =>
      rw [hdD, h]
      exact r64_down (hX 3 (by decide)) (by rw [← hoD, h]; rfl)
  have hC3 : eU = 0 → ∀ (W : World) ra rc b rb rd b', Below w.heap.size w W → Own W 64 b ra rc (words dU.m) → Own W 64 b' rb rd (words d.m) → Calls Tryd.prog 35 #[.agg #[.bool dU.neg, .slice ra (words dU.m).length rc, .int .i64 dU.exp], .agg #[.bool d.neg, .slice rb (words d.m).length rd, .int .i64 d.exp]] W fun en w' => ∃ g : Int, 0 ≤ g ∧ en = .returned (.int .i64 g) ∧ Below W.heap.size W w' := by
    intro h0 W ra rc b rb rd b' hw h1 h2
    refine (hCm dU d okU okd W ra rc b rb rd b' hw h1 h2).mono ?_
    rintro en w' ⟨rfl, hb⟩
    refine ⟨_, ?_, rfl, hb⟩
    rw [heU] at h0
    cases h : oU with
    | none => rw [h] at h0; cases h0
    | some q =>
      rw [hdU, h]
      exact r64_up (hX 2 (by decide)) (by rw [← hoU, h]; rfl)
  -- Zero
  have hZero : (d.neg = false → ∀ W, (binOp .neq 22 (.float .f64 (X 1)) (.float .f64 (X 3))).run Tryd.prog W = .ok (.bool false) W) ∧ (d.neg = true → ∀ W, (binOp .neq 22 (.float .f64 (X 1)) (.float .f64 (X 2))).run Tryd.prog W = .ok (.bool false) W) := by
    obtain ⟨z1, z2⟩ := r64_zero (hX 1 (by decide)) (hX 2 (by decide)) (hX 3 (by decide))
    obtain ⟨f1, f2⟩ := r64_fits (by decide) (by decide) (hX 1 (by decide))
    refine ⟨fun h W => ?_, fun h W => ?_⟩
    · rw [← z1 h]; exact run_neq64 W f1 f1 f2 f2 rfl
    · rw [← z2 h]; exact run_neq64 W f1 f1 f2 f2 rfl
  -- gaps
  obtain ⟨oz, hoz⟩ : ∃ o, o = ofF z := ⟨_, rfl⟩
  obtain ⟨gz, hgz⟩ : ∃ g, g = gapO z (formF (!d.neg) (num (words d.m)) d.exp) := ⟨_, rfl⟩
  obtain ⟨G, hG⟩ : ∃ g, g = absD (outO gz) := ⟨_, rfl⟩
  obtain ⟨is, his⟩ : ∃ i, i = (oz.isSome && gz.isSome) := ⟨_, rfl⟩
  obtain ⟨F, hF⟩ : ∃ F, F = formF (!d.neg) (num (words d.m)) d.exp := ⟨_, rfl⟩
  rw [← hF] at hgz
  have okA : ∀ b, (outO (gapO b F)).Is ∧ (outO (gapO b F)).Ok := fun b => addO_okk (fun d h => form_both h) (fun d h => form_both (by rw [hF] at h; exact h))
  have okG : G.Ok := by rw [hG, hgz]; exact absD_ok (okA _).1 (okA _).2
  obtain ⟨H, hH⟩ : ∃ H : Nat → D, ∀ m, H m = absD (outO (gapO (X m) F)) := ⟨_, fun _ => rfl⟩
  obtain ⟨fin, hfin⟩ : ∃ f : Nat → Bool, ∀ m, f m = ((ofF (X m)).isSome && (gapO (X m) F).isSome) := ⟨_, fun _ => rfl⟩
  have okH : ∀ m, (H m).Ok := fun m => by rw [hH]; exact absD_ok (okA _).1 (okA _).2
  have hGap : ∀ (b : Nat) (W : World) ra rc b', b < 18446744073709551616 → Below w.heap.size w W → Own W 64 b' ra rc (words d.m) → Calls Tryd.prog 41 #[.float .f64 b, .agg #[.bool d.neg, .slice ra (words d.m).length rc, .int .i64 d.exp]] W fun en w' => ∃ a c, en = .returned (.tuple #[.agg #[.bool (absD (outO (gapO b F))).neg, .slice a (words (absD (outO (gapO b F))).m).length c, .int .i64 (absD (outO (gapO b F))).exp], .bool ((ofF b).isSome && (gapO b F).isSome)]) ∧ Own w' 64 W.heap.size a c (words (absD (outO (gapO b F))).m) ∧ Below W.heap.size W w' := by
    intro b W ra rc b' hb hw ho
    rw [hF]
    exact gap_any b (argOf d ra rc) W hb (ho.arg okd) (hT.grow hw)
  have hG1 : ∀ (W : World) ra rc b', Below w.heap.size w W → Own W 64 b' ra rc (words d.m) → Calls Tryd.prog 41 #[.float .f64 z, .agg #[.bool d.neg, .slice ra (words d.m).length rc, .int .i64 d.exp]] W fun en w' => ∃ a c, en = .returned (.tuple #[.agg #[.bool G.neg, .slice a (words G.m).length c, .int .i64 G.exp], .bool is]) ∧ Own w' 64 W.heap.size a c (words G.m) ∧ Below W.heap.size W w' := by
    intro W ra rc b' hw ho
    have := hGap z W ra rc b' hz hw ho
    rw [← hgz, ← hG, ← hoz, ← his] at this
    exact this
  have hG2 : ∀ (m : Nat) (W : World) ra rc b', m ≤ 4 → Below w.heap.size w W → Own W 64 b' ra rc (words d.m) → Calls Tryd.prog 41 #[.float .f64 (X m), .agg #[.bool d.neg, .slice ra (words d.m).length rc, .int .i64 d.exp]] W fun en w' => ∃ a c, en = .returned (.tuple #[.agg #[.bool (H m).neg, .slice a (words (H m).m).length c, .int .i64 (H m).exp], .bool (fin m)]) ∧ Own w' 64 W.heap.size a c (words (H m).m) ∧ Below W.heap.size W w' := by
    intro m W ra rc b' hm hw ho
    have := hGap (X m) W ra rc b' (r64_fits (by omega) (by omega) (hX m hm)).1 hw ho
    rw [← hH, ← hfin] at this
    exact this
  have hC4 : d.Is → is = true → ∀ (m : Nat), m = 0 ∨ m = 4 → fin m = true → ∀ (W : World) ra rc b rb rd b', Below w.heap.size w W → Own W 64 b ra rc (words G.m) → Own W 64 b' rb rd (words (H m).m) → Calls Tryd.prog 35 #[.agg #[.bool G.neg, .slice ra (words G.m).length rc, .int .i64 G.exp], .agg #[.bool (H m).neg, .slice rb (words (H m).m).length rd, .int .i64 (H m).exp]] W fun en w' => ∃ g : Int, 0 ≤ g ∧ en = .returned (.int .i64 g) ∧ Below W.heap.size W w' := by
    intro isD h0 m hm h1 W ra rc b rb rd b' hw k1 k2
    refine (hCm G (H m) okG (okH m) W ra rc b rb rd b' hw k1 k2).mono ?_
    rintro en w' ⟨rfl, hb⟩
    refine ⟨_, ?_, rfl, hb⟩
    rw [his, Bool.and_eq_true] at h0
    rw [hfin, Bool.and_eq_true] at h1
    obtain ⟨p, hp⟩ := Option.isSome_iff_exists.1 h0.1
    obtain ⟨g, hg⟩ := Option.isSome_iff_exists.1 h0.2
    obtain ⟨q, hq⟩ := Option.isSome_iff_exists.1 h1.1
    obtain ⟨h, hh⟩ := Option.isSome_iff_exists.1 h1.2
    rw [hG, hH, hg, hh]
    have e : F = (argOf d none 0).opp.F := hF
    rw [hgz, e] at hg
    rw [e] at hh
    rw [hoz] at hp
    refine r64_near (mode := (m : Int)) isD okd (by omega) hz (hX m (by omega)) hq hp hg hh
  -- its own value
  obtain ⟨dz, hdz⟩ : ∃ d, d = outO oz := ⟨_, rfl⟩
  have okz : dz.Ok := by rw [hdz, hoz]; exact ofF_ok _
  obtain ⟨ez, hez⟩ : ∃ e, e = errOf oz := ⟨_, rfl⟩
  have hO3 : ∀ W, Below w.heap.size w W → Calls Tryd.prog 11 #[.float .f64 z] W fun en w' => ∃ ra rc, en = .returned (.tuple #[.agg #[.bool dz.neg, .slice ra (words dz.m).length rc, .int .i64 dz.exp], .int .i64 ez]) ∧ Own w' 64 W.heap.size ra rc (words dz.m) ∧ Below W.heap.size W w' := by
    intro W hw
    have := hOf z W hz hw
    rw [← hoz, ← hdz, ← hez] at this
    exact this
  have hR3 : is = true → ∀ (W : World) (k : Nat) ra rc b, k ≤ 4 → Below w.heap.size w W → Own W 64 b ra rc (words dz.m) → Calls Tryd.prog 26 #[.agg #[.bool dz.neg, .slice ra (words dz.m).length rc, .int .i64 dz.exp], .int .i64 (k : Int)] W fun en w' => ∃ r, en = .returned (.tuple #[.float .f64 r, .int .i64 0]) ∧ Hid (∀ W, (binOp .neq 22 (.float .f64 r) (.float .f64 z)).run Tryd.prog W = .ok (.bool false) W) ∧ Below W.heap.size W w' := by
    intro h0 W k ra rc b hk hw ho
    rw [his, Bool.and_eq_true] at h0
    obtain ⟨p, hp⟩ := Option.isSome_iff_exists.1 h0.1
    have hpz : ofF z = some p := hoz.symm.trans hp
    have hpd : dz = p := by rw [hdz, hp]; rfl
    have isP : p.Is := (form_both (show formF _ _ _ = some p from by have := hpz; unfold ofF bitsF at this; split at this; cases this; exact this)).1
    refine (hR dz okz (hpd ▸ isP) W k ra rc b hk hw ho).mono ?_
    rintro en w' ⟨r, rfl, H, hb⟩
    rw [hpd] at H
    obtain ⟨_, f1, f2, f3⟩ := r64_own (by omega) (by omega) hz hpz H
    have f4 := (ofF_z (-1074) (by omega) hz hpz).1
    exact ⟨r, rfl, fun W => run_neq64 W f2 hz f3 (by omega) f1, hb⟩
  have HAwk := Lib.hid hAwk; have HM1 := Lib.hid hm1; have HM2 := Lib.hid hm2; have HEE := Lib.hid hee
  have HR1 := Lib.hid hR1; have HR2 := Lib.hid hR2; have HC1 := Lib.hid hC1; have HO1 := Lib.hid hO1; have HO2 := Lib.hid hO2; have HC2 := Lib.hid hC2; have HC3 := Lib.hid hC3
  have HZ := Lib.hid hZero; have HG1 := Lib.hid hG1; have HG2 := Lib.hid hG2; have HC4 := Lib.hid hC4; have HO3 := Lib.hid hO3; have HR3 := Lib.hid hR3
  clear hAwk hm1 hm2 hee hR1 hR2 hC1 hO1 hO2 hC2 hC3 hZero hG1 hG2 hC4 hO3 hR3 hR hOf hCm hGap hx hy hT hX hC hC0 hoz hgz hG his hH hfin okG okH okA hF hdz okz hez p1 p2 q1 q2 m1 m2 okd okn hoD hoU hdD hdU heD heU okD okU hz
  clear oz gz F oD oU o1 o2
  go_enter Tryd.func8, Tryd.ntmps8
  go_wp2_with fail
  (obtain ⟨u1, g1'⟩ : ∃ W, W = (w.alloc (.cells #[.bool s, .slice a l.length c, .int .i64 e] 27)) := ⟨_, rfl⟩; have pinEq := g1'; (try simp only [wr3] at pinEq); rw [← pinEq]; clear pinEq)
  (obtain ⟨u2, g2'⟩ : ∃ W, W = (u1.alloc (.cells #[.bool s', .slice a' l'.length c', .int .i64 e'] 27)) := ⟨_, rfl⟩; have pinEq := g2'; (try simp only [wr3] at pinEq); rw [← pinEq]; clear pinEq)
  obtain ⟨kA, hB, s1⟩ := new_cel g1' rfl
  obtain ⟨kB, b2, s2⟩ := new_cel g2' s1
  (replace kA := cel_call b2 kA (by omega); replace hB := below_call b2 hB (by omega))
  clear g1' g2' b2
  refine (HAwk.out u2 hB).mono ?_; rintro en w0 ⟨rfl, hb⟩
  (replace kB := cel_call hb kB (by omega); replace kA := cel_call hb kA (by omega); replace hB := below_call hb hB (by omega))
  have z0 := hb.size
  clear hb
  obtain ⟨_, _, _, _, _, _⟩ := kA.facts
  go_wp2_with fail
  refine (HM1.out w0 hB).mono ?_; rintro en w1 ⟨ra1, rc1, rfl, ho1, hb⟩
  have NE1 := Lib.hid ho1.lt
  (replace kB := cel_call hb kB (by omega); replace kA := cel_call hb kA (by omega); replace hB := below_call hb hB (by omega))
  have z1 := hb.size
  clear hb
  obtain ⟨_, _, _, _, _, _⟩ := (kB.alloc (.cells #[.bool d.neg, .slice ra1 (words d.m).length rc1, .int .i64 d.exp] 27)).facts
  go_wp2_with fail
  (obtain ⟨v1, hv1⟩ : ∃ W, W = (w1.alloc (.cells #[.bool d.neg, .slice ra1 (words d.m).length rc1, .int .i64 d.exp] 27)) := ⟨_, rfl⟩; have pinEq := hv1; (try simp only [wr3] at pinEq); rw [← pinEq]; clear pinEq)
  obtain ⟨kF, bb, sF⟩ := new_cel hv1 rfl
  (replace ho1 := own_call bb ho1; replace kB := cel_call bb kB (by omega); replace kA := cel_call bb kA (by omega); replace hB := below_call bb hB (by omega))
  clear hv1 bb
  refine (HM2.out v1 hB).mono ?_; rintro en w2 ⟨ra2, rc2, rfl, ho2, hb⟩
  have NE2 := Lib.hid ho2.lt
  (replace kF := cel_call hb kF (by omega); replace ho1 := own_call hb ho1; replace kB := cel_call hb kB (by omega); replace kA := cel_call hb kA (by omega); replace hB := below_call hb hB (by omega))
  have z2 := hb.size
  clear hb kA kB
  rcases HEE.out with ⟨t1, t2⟩ | ⟨t0, t1, t2⟩ | ⟨t0, t1, isD, isN⟩
  · have HB := Lib.hid (bel_alloc hB (Nat.le_refl _) (.cells #[.bool n.neg, .slice ra2 (words n.m).length rc2, .int .i64 n.exp] 27))
    clear hB
    go_wp2_with fail
    go_ret
    exact ⟨rfl, HB.out⟩
  · have HB := Lib.hid (bel_alloc hB (Nat.le_refl _) (.cells #[.bool n.neg, .slice ra2 (words n.m).length rc2, .int .i64 n.exp] 27))
    clear hB
    subst t0
    go_wp2_with fail
    go_ret
    exact ⟨rfl, HB.out⟩
  · subst t0
    subst t1
    go_wp2_with fail
    (obtain ⟨v2, hv2⟩ : ∃ W, W = (w2.alloc (.cells #[.bool n.neg, .slice ra2 (words n.m).length rc2, .int .i64 n.exp] 27)) := ⟨_, rfl⟩; have pinEq := hv2; (try simp only [wr3] at pinEq); rw [← pinEq]; clear pinEq)
    obtain ⟨kN, bb, sN⟩ := new_cel hv2 rfl
    (replace ho2 := own_call bb ho2; replace kF := cel_call bb kF (by omega); replace ho1 := own_call bb ho1; replace hB := below_call bb hB (by omega))
    clear hv2 bb
    (obtain ⟨v3, hv3⟩ : ∃ W, W = (v2.alloc (.cells #[.float .f64 0, .float .f64 0, .float .f64 0, .float .f64 0, .float .f64 0] 52)) := ⟨_, rfl⟩; have pinEq := hv3; (try simp only [wr3] at pinEq); rw [← pinEq]; clear pinEq)
    obtain ⟨hA, bb, sL⟩ := new_of hv3 sN
    replace hA : Arr5 v3 (w2.heap.size + 1) X 0 := hA
    have bb' : Below v2.heap.size v2 v3 := by rw [sN]; exact bb
    clear bb
    (replace kN := cel_call bb' kN (by omega); replace ho2 := own_call bb' ho2; replace kF := cel_call bb' kF (by omega); replace ho1 := own_call bb' ho1; replace hB := below_call bb' hB (by omega))
    clear hv3 bb'
    have y1 : w.heap.size ≤ w1.heap.size := by omega
    have y2 : w1.heap.size < w2.heap.size := by omega
    have y3 : w0.heap.size ≤ w1.heap.size := by omega
    have y4 : v1.heap.size ≤ w2.heap.size := by omega
    have y5 : w2.heap.size + 1 < v3.heap.size := by omega
    have HR := Lib.hid (show Arr5 v3 (w2.heap.size + 1) X 0 ∧ Cel v3 w1.heap.size (.bool d.neg) (.slice ra1 (words d.m).length rc1) (.int .i64 d.exp) ∧ Cel v3 w2.heap.size (.bool n.neg) (.slice ra2 (words n.m).length rc2) (.int .i64 n.exp) ∧ Own v3 64 w0.heap.size ra1 rc1 (words d.m) ∧ Own v3 64 v1.heap.size ra2 rc2 (words n.m) ∧ Below w.heap.size w v3 ∧ w2.heap.size + 1 < v3.heap.size from ⟨hA, kF, kN, ho1, ho2, hB, y5⟩)
    have HD := Lib.hid isD; have HN := Lib.hid isN
    clear hA kF kN ho1 ho2 hB isD isN sN sL sF y5 z0 z1 z2 s1 s2
    go_loopw [13] (fun i wr => ∃ k : Nat, k ≤ 5 ∧ i = .int .i64 k ∧ Hid (Arr5 wr (w2.heap.size + 1) X k ∧ Cel wr w1.heap.size (.bool d.neg) (.slice ra1 (words d.m).length rc1) (.int .i64 d.exp) ∧ Cel wr w2.heap.size (.bool n.neg) (.slice ra2 (words n.m).length rc2) (.int .i64 n.exp) ∧ Own wr 64 w0.heap.size ra1 rc1 (words d.m) ∧ Own wr 64 v1.heap.size ra2 rc2 (words n.m) ∧ Below w.heap.size w wr ∧ w2.heap.size + 1 < wr.heap.size)) (fun i _ => 5 - (intOf i).toNat)
    case atStart => exact ⟨0, by omega, rfl, HR.out⟩
    case round =>
      clear HR
      obtain ⟨k, hk, rfl, hH⟩ := hrel
      obtain ⟨hA, kF, kN, ho1, ho2, hB, y5⟩ := hH.out
      clear hH
      have yr := hB.size
      by_cases hlt : k < 5
      · obtain ⟨_, _, _, _, _, _⟩ := kF.facts
        go_wp2_with fail
        refine (HR1.out HD.out wr k ra1 rc1 _ (by omega) hB ho1).mono ?_; rintro en x1 ⟨rfl, hb⟩
        (replace kF := cel_call hb kF (by omega); replace kN := cel_call hb kN (by omega); replace ho1 := own_call hb ho1; replace ho2 := own_call hb ho2; replace hB := below_call hb hB (by omega))
        replace hA := hA.below hb hA.lt
        have y6 := hb.size
        clear hb
        obtain ⟨_, _, _, _, _, _⟩ := kN.facts
        go_wp2_with fail
        refine (HR2.out HD.out HN.out x1 k ra2 rc2 _ (by omega) hB ho2).mono ?_; rintro en x2 ⟨r, rfl, G1, G2, hb⟩
        (replace kF := cel_call hb kF (by omega); replace kN := cel_call hb kN (by omega); replace ho1 := own_call hb ho1; replace ho2 := own_call hb ho2; replace hB := below_call hb hB (by omega))
        replace hA := hA.below hb hA.lt
        have y7 := hb.size
        clear hb
        obtain ⟨_, _, _, _, _, _⟩ := kF.facts
        obtain ⟨_, _, _, _, _, _⟩ := kN.facts
        go_wp2_with fail
        refine (HC1.out x2 ra1 rc1 _ ra2 rc2 _ hB ho1 ho2).mono ?_; rintro en x3 ⟨rfl, hb⟩
        (replace kF := cel_call hb kF (by omega); replace kN := cel_call hb kN (by omega); replace ho1 := own_call hb ho1; replace ho2 := own_call hb ho2; replace hB := below_call hb hB (by omega))
        replace hA := hA.below hb hA.lt
        have y8 := hb.size
        clear hb
        obtain ⟨_, _, _, _, _, _⟩ := kF.facts
        obtain ⟨_, _, _, _, _, _⟩ := kN.facts
        have hcs : (C ≤ 0 ∧ 0 ≤ C ∧ (∀ W, (binOp .gtr 22 (.float .f64 (X k)) (.float .f64 r)).run Tryd.prog W = .ok (.bool false) W) ∧ (∀ W, (binOp .lss 22 (.float .f64 (X k)) (.float .f64 r)).run Tryd.prog W = .ok (.bool false) W)) ∨ (C ≤ 0 ∧ ¬ 0 ≤ C ∧ (∀ W, (binOp .gtr 22 (.float .f64 (X k)) (.float .f64 r)).run Tryd.prog W = .ok (.bool false) W) ∧ True) ∨ (¬ C ≤ 0 ∧ 0 ≤ C ∧ True ∧ (∀ W, (binOp .lss 22 (.float .f64 (X k)) (.float .f64 r)).run Tryd.prog W = .ok (.bool false) W)) := by
          rcases Int.lt_trichotomy C 0 with h | h | h
          · exact .inr (.inl ⟨by omega, by omega, G1.out (by omega), trivial⟩)
          · exact .inl ⟨by omega, by omega, G1.out (by omega), G2.out (by omega)⟩
          · exact .inr (.inr ⟨by omega, by omega, trivial, G2.out (by omega)⟩)
        rcases hcs with ⟨c1, c2, g1, g2⟩ | ⟨c1, c2, g1, g2⟩ | ⟨c1, c2, g1, g2⟩
        all_goals go_wp2_with fail
        all_goals
          refine (HC1.out x3 ra1 rc1 _ ra2 rc2 _ hB ho1 ho2).mono ?_; rintro en x4 ⟨rfl, hb⟩
          (replace kF := cel_call hb kF (by omega); replace kN := cel_call hb kN (by omega); replace ho1 := own_call hb ho1; replace ho2 := own_call hb ho2; replace hB := below_call hb hB (by omega))
          replace hA := hA.below hb hA.lt
          have y9 := hb.size
          clear hb
          have hk2 := grown_set x4 (w2.heap.size + 1) k (.float .f64 (X k))
          have y10 : w2.heap.size + 1 < (x4.setCell ⟨w2.heap.size + 1, k, none⟩ (.float .f64 (X k))).heap.size := by simp; omega
          have HR := Lib.hid (show Arr5 _ (w2.heap.size + 1) X (k + 1) ∧ Cel _ w1.heap.size (.bool d.neg) (.slice ra1 (words d.m).length rc1) (.int .i64 d.exp) ∧ Cel _ w2.heap.size (.bool n.neg) (.slice ra2 (words n.m).length rc2) (.int .i64 n.exp) ∧ Own _ 64 w0.heap.size ra1 rc1 (words d.m) ∧ Own _ 64 v1.heap.size ra2 rc2 (words n.m) ∧ Below w.heap.size w _ ∧ w2.heap.size + 1 < _ from
            ⟨hA.set hlt, cel_grown kF hk2 (by omega), cel_grown kN hk2 (by omega), own_grown ho1 hk2 (fun ad ha => by have := NE1.out ad ha; omega), own_grown ho2 hk2 (fun ad ha => by have := NE2.out ad ha; omega), bel_of_grown hB hk2 (by omega), y10⟩)
          obtain ⟨f1, f2⟩ := hA.cell k hlt
          have hst := run_store_f64 (X k)
          clear hA kF kN ho1 ho2 hB hk2 y10
          go_wp2_with fail
          go_roundw
          case rel => exact ⟨k + 1, by omega, by go_num, HR.out⟩
          case measure => simp [intOf]; omega
      · obtain rfl : k = 5 := by omega
        have a1 := hA.full 1 (by omega)
        have a2 := hA.full 2 (by omega)
        have a3 := hA.full 3 (by omega)
        obtain ⟨_, _, _, _, _, _⟩ := kF.facts
        have y11 : w2.heap.size + 1 < wr.heap.size := y5
        have hcs : (d.neg = true ∧ ∀ W, (binOp .neq 22 (.float .f64 (X 1)) (.float .f64 (X 2))).run Tryd.prog W = .ok (.bool false) W) ∨ (d.neg = false ∧ ∀ W, (binOp .neq 22 (.float .f64 (X 1)) (.float .f64 (X 3))).run Tryd.prog W = .ok (.bool false) W) := by
          cases hn : d.neg
          · exact .inr ⟨rfl, HZ.out.1 hn⟩
          · exact .inl ⟨rfl, HZ.out.2 hn⟩
        clear hk hlt
        rcases hcs with ⟨hn, hz⟩ | ⟨hn, hz⟩
        all_goals go_wp2_with fail
        all_goals
          clear hn hz kN ho2 a1 a2 a3
          refine (HO1.out wr hB).mono ?_; rintro en x1 ⟨ra3, rc3, rfl, ho3, hb⟩
          (replace kF := cel_call hb kF (by omega); replace ho1 := own_call hb ho1; replace hB := below_call hb hB (by omega))
          replace hA := hA.below hb hA.lt
          have y6 := hb.size
          clear hb
          have a2 := fun o => (hA.alloc o).full 2 (by omega)
          go_wp2_with fail
          clear a2
          (obtain ⟨x2, hx2⟩ : ∃ W, W = (x1.alloc (.cells #[.bool dD.neg, .slice ra3 (words dD.m).length rc3, .int .i64 dD.exp] 27)) := ⟨_, rfl⟩; have pinEq := hx2; (try simp only [wr3] at pinEq); rw [← pinEq]; clear pinEq)
          obtain ⟨kD, bb, s3⟩ := new_cel hx2 rfl
          (replace ho3 := own_call bb ho3; replace kF := cel_call bb kF (by omega); replace ho1 := own_call bb ho1; replace hB := below_call bb hB (by omega))
          replace hA := hA.below bb hA.lt
          have y7 := bb.size
          clear bb s3 hx2
          have y8 := kD.lt
          refine (HO2.out x2 hB).mono ?_; rintro en x3 ⟨ra4, rc4, rfl, ho4, hb⟩
          (replace kD := cel_call hb kD (by omega); replace ho3 := own_call hb ho3; replace kF := cel_call hb kF (by omega); replace ho1 := own_call hb ho1; replace hB := below_call hb hB (by omega))
          replace hA := hA.below hb hA.lt
          have y9 := hb.size
          clear hb
          go_upto_region 22 with (fail)
          (obtain ⟨x4, hx4⟩ : ∃ W, W = (x3.alloc (.cells #[.bool dU.neg, .slice ra4 (words dU.m).length rc4, .int .i64 dU.exp] 27)) := ⟨_, rfl⟩; have pinEq := hx4; (try simp only [wr3] at pinEq); rw [← pinEq]; clear pinEq)
          obtain ⟨kU, bb, s_x4⟩ := new_cel hx4 rfl
          (replace ho4 := own_call bb ho4; replace kD := cel_call bb kD (by omega); replace ho3 := own_call bb ho3; replace kF := cel_call bb kF (by omega); replace ho1 := own_call bb ho1; replace hB := below_call bb hB (by omega))
          replace hA := hA.below bb hA.lt
          have y_x4 := bb.size
          clear bb s_x4 hx4
          have l_x4 := kU.lt
          go_cut [153] from 136 to 153 (fun sl wx => sl = .bool false ∧ Below x4.heap.size x4 wx)
          case first =>
            have hcs : (eD = 0 ∧ eU = 0) ∨ (eD = 0 ∧ (eU == 0) = false) ∨ ((eD == 0) = false ∧ eU = 0) ∨ ((eD == 0) = false ∧ (eU == 0) = false) := by
              by_cases h1 : eD = 0 <;> by_cases h2 : eU = 0 <;> simp [h1, h2]
            obtain ⟨_, _, _, _, _, _⟩ := kD.facts
            obtain ⟨_, _, _, _, _, _⟩ := kF.facts
            obtain ⟨_, _, _, _, _, _⟩ := kU.facts
            rcases hcs with ⟨t1, t2⟩ | ⟨t1, t2⟩ | ⟨t1, t2⟩ | ⟨t1, t2⟩
            · have T1 := Lib.hid t1; have T2 := Lib.hid t2
              have t1' : (eD == 0) = true := by rw [t1]; rfl
              have t2' : (eU == 0) = true := by rw [t2]; rfl
              clear t1 t2
              go_wp2_with fail
              refine (HC2.out T1.out x4 ra3 rc3 _ ra1 rc1 _ hB ho3 ho1).mono ?_; rintro en x5 ⟨g, hg, rfl, hb⟩
              have hb' := hb
              (replace kU := cel_call hb kU (by omega); replace ho4 := own_call hb ho4; replace kD := cel_call hb kD (by omega); replace ho3 := own_call hb ho3; replace kF := cel_call hb kF (by omega); replace ho1 := own_call hb ho1; replace hB := below_call hb hB (by omega))
              have y_x5 := hb.size
              clear hb
              obtain ⟨_, _, _, _, _, _⟩ := kF.facts
              obtain ⟨_, _, _, _, _, _⟩ := kU.facts
              go_wp2_with fail
              refine (HC3.out T2.out x5 ra4 rc4 _ ra1 rc1 _ hB ho4 ho1).mono ?_; rintro en y ⟨g', hg', rfl, hb⟩
              have HF := Lib.hid (hb'.trans (hb.mono y_x5))
              clear hb hb'
              go_wp2_with fail
              go_meet
              case rel => exact ⟨by simp; omega, HF.out⟩
            · have T1 := Lib.hid t1
              have t1' : (eD == 0) = true := by rw [t1]; rfl
              clear t1
              go_wp2_with fail
              refine (HC2.out T1.out x4 ra3 rc3 _ ra1 rc1 _ hB ho3 ho1).mono ?_; rintro en y ⟨g, hg, rfl, hb⟩
              have HF := Lib.hid hb
              clear hb
              go_wp2_with fail
              go_meet
              case rel => exact ⟨by simp; omega, HF.out⟩
            · have T2 := Lib.hid t2
              have t2' : (eU == 0) = true := by rw [t2]; rfl
              clear t2
              go_wp2_with fail
              refine (HC3.out T2.out x4 ra4 rc4 _ ra1 rc1 _ hB ho4 ho1).mono ?_; rintro en y ⟨g', hg', rfl, hb⟩
              have HF := Lib.hid hb
              clear hb
              go_wp2_with fail
              go_meet
              case rel => exact ⟨by simp; omega, HF.out⟩
            · go_wp2_with fail
              go_meet
              case rel => exact ⟨rfl, Below.refl _ _⟩
          case rest =>
            obtain ⟨rfl, hb⟩ := hcut
            obtain ⟨y, rfl⟩ : ∃ y, y = wc := ⟨_, rfl⟩
            (replace kU := cel_call hb kU (by omega); replace ho4 := own_call hb ho4; replace kD := cel_call hb kD (by omega); replace ho3 := own_call hb ho3; replace kF := cel_call hb kF (by omega); replace ho1 := own_call hb ho1; replace hB := below_call hb hB (by omega))
            replace hA := hA.below hb hA.lt
            have y_y := hb.size
            clear hb
            have hx := ext_from64 z
            obtain ⟨_, _, _, _, _, _⟩ := kF.facts
            go_wp2_with fail
            clear hx
            refine (HG1.out y ra1 rc1 _ hB ho1).mono ?_; rintro en y1 ⟨ra5, rc5, rfl, ho5, hb⟩
            (replace kU := cel_call hb kU (by omega); replace ho4 := own_call hb ho4; replace kD := cel_call hb kD (by omega); replace ho3 := own_call hb ho3; replace kF := cel_call hb kF (by omega); replace ho1 := own_call hb ho1; replace hB := below_call hb hB (by omega))
            replace hA := hA.below hb hA.lt
            have y_y1 := hb.size
            clear hb
            go_wp2_with fail
            (obtain ⟨y2, hy2⟩ : ∃ W, W = (y1.alloc (.cells #[.bool G.neg, .slice ra5 (words G.m).length rc5, .int .i64 G.exp] 27)) := ⟨_, rfl⟩; have pinEq := hy2; (try simp only [wr3] at pinEq); rw [← pinEq]; clear pinEq)
            obtain ⟨kG, bb, s_y2⟩ := new_cel hy2 rfl
            (replace ho5 := own_call bb ho5; replace kU := cel_call bb kU (by omega); replace ho4 := own_call bb ho4; replace kD := cel_call bb kD (by omega); replace ho3 := own_call bb ho3; replace kF := cel_call bb kF (by omega); replace ho1 := own_call bb ho1; replace hB := below_call bb hB (by omega))
            replace hA := hA.below bb hA.lt
            have y_y2 := bb.size
            clear bb s_y2 hy2
            have l_y2 := kG.lt
            have HR : Hid (Arr5 y2 (w2.heap.size + 1) X 5 ∧ Cel y2 w1.heap.size (.bool d.neg) (.slice ra1 (words d.m).length rc1) (.int .i64 d.exp) ∧ Own y2 64 w0.heap.size ra1 rc1 (words d.m) ∧ Cel y2 y1.heap.size (.bool G.neg) (.slice ra5 (words G.m).length rc5) (.int .i64 G.exp) ∧ Own y2 64 y.heap.size ra5 rc5 (words G.m) ∧ Below w.heap.size w y2) := Lib.hid ⟨hA, kF, ho1, kG, ho5, hB⟩
            clear hA kF ho1 kG ho5 hB kD ho3
            try clear kU
            try clear ho4
            try clear hg
            try clear hg'
            go_loopw [26] (fun i wr => ∃ j : Int, (j = 0 ∨ j = 1 ∨ j = 2) ∧ i = .int .i64 j ∧ Hid (Arr5 wr (w2.heap.size + 1) X 5 ∧ Cel wr w1.heap.size (.bool d.neg) (.slice ra1 (words d.m).length rc1) (.int .i64 d.exp) ∧ Own wr 64 w0.heap.size ra1 rc1 (words d.m) ∧ Cel wr y1.heap.size (.bool G.neg) (.slice ra5 (words G.m).length rc5) (.int .i64 G.exp) ∧ Own wr 64 y.heap.size ra5 rc5 (words G.m) ∧ Below w.heap.size w wr)) (fun i _ => (2 - intOf i).toNat)
            case atStart => exact ⟨0, .inl rfl, rfl, HR⟩
            case round =>
              clear HR
              obtain ⟨j, hj, rfl, hH⟩ := hrel
              obtain ⟨hA, kF, ho1, kG, ho5, hB⟩ := hH.out
              clear hH
              have y20 := hB.size
              have y21 := kG.lt
              have y22 := hA.lt
              rcases hj with rfl | rfl | rfl
              · have e1 := fun o => (hA.alloc o).full 0 (by omega)
                have e2 := fun o => (kF.alloc o).facts
                go_wp2_with fail
                clear e1 e2
                (obtain ⟨x6, hx6⟩ : ∃ W, W = (wr.alloc (.cells #[.int .i64 0, .int .i64 4] 3)) := ⟨_, rfl⟩; have pinEq := hx6; (try simp only [wr3] at pinEq); rw [← pinEq]; clear pinEq)
                obtain ⟨_, bb, _⟩ := new_of hx6 rfl
                (replace kF := cel_call bb kF (by omega); replace ho1 := own_call bb ho1; replace kG := cel_call bb kG (by omega); replace ho5 := own_call bb ho5; replace hB := below_call bb hB (by omega))
                replace hA := hA.below bb hA.lt
                have y23 := bb.size
                clear bb hx6
                refine (HG2.out 0 x6 ra1 rc1 _ (by omega) hB ho1).mono ?_; rintro en x7 ⟨ra6, rc6, rfl, ho6, hb⟩
                (replace kF := cel_call hb kF (by omega); replace ho1 := own_call hb ho1; replace kG := cel_call hb kG (by omega); replace ho5 := own_call hb ho5; replace hB := below_call hb hB (by omega))
                replace hA := hA.below hb hA.lt
                have y_x7 := hb.size
                clear hb
                have e1 := fun o => (kG.alloc o).facts
                cases is
                · go_wp2_with fail
                  clear e1
                  (obtain ⟨x8, hx8⟩ : ∃ W, W = (x7.alloc (.cells #[.bool (H 0).neg, .slice ra6 (words (H 0).m).length rc6, .int .i64 (H 0).exp] 27)) := ⟨_, rfl⟩; have pinEq := hx8; (try simp only [wr3] at pinEq); rw [← pinEq]; clear pinEq)
                  obtain ⟨kH, bb, s_x8⟩ := new_cel hx8 rfl
                  (replace ho6 := own_call bb ho6; replace kF := cel_call bb kF (by omega); replace ho1 := own_call bb ho1; replace kG := cel_call bb kG (by omega); replace ho5 := own_call bb ho5; replace hB := below_call bb hB (by omega))
                  replace hA := hA.below bb hA.lt
                  have y_x8 := bb.size
                  clear bb s_x8 hx8
                  have l_x8 := kH.lt
                  have HR : Hid (Arr5 x8 (w2.heap.size + 1) X 5 ∧ Cel x8 w1.heap.size (.bool d.neg) (.slice ra1 (words d.m).length rc1) (.int .i64 d.exp) ∧ Own x8 64 w0.heap.size ra1 rc1 (words d.m) ∧ Cel x8 y1.heap.size (.bool G.neg) (.slice ra5 (words G.m).length rc5) (.int .i64 G.exp) ∧ Own x8 64 y.heap.size ra5 rc5 (words G.m) ∧ Below w.heap.size w x8) := Lib.hid ⟨hA, kF, ho1, kG, ho5, hB⟩
                  clear hA kF ho1 kG ho5 hB kH ho6
                  go_roundw
                  case rel => exact ⟨1, by omega, by go_num, HR⟩
                  case measure => simp [intOf]
                · obtain ⟨f, hf⟩ : ∃ f, f = fin 0 := ⟨_, rfl⟩
                  have HF := Lib.hid hf.symm
                  rw [← hf]
                  clear hf
                  cases f
                  · go_wp2_with fail
                    clear e1
                    (obtain ⟨x8, hx8⟩ : ∃ W, W = (x7.alloc (.cells #[.bool (H 0).neg, .slice ra6 (words (H 0).m).length rc6, .int .i64 (H 0).exp] 27)) := ⟨_, rfl⟩; have pinEq := hx8; (try simp only [wr3] at pinEq); rw [← pinEq]; clear pinEq)
                    obtain ⟨kH, bb, s_x8⟩ := new_cel hx8 rfl
                    (replace ho6 := own_call bb ho6; replace kF := cel_call bb kF (by omega); replace ho1 := own_call bb ho1; replace kG := cel_call bb kG (by omega); replace ho5 := own_call bb ho5; replace hB := below_call bb hB (by omega))
                    replace hA := hA.below bb hA.lt
                    have y_x8 := bb.size
                    clear bb s_x8 hx8
                    have l_x8 := kH.lt
                    have HR : Hid (Arr5 x8 (w2.heap.size + 1) X 5 ∧ Cel x8 w1.heap.size (.bool d.neg) (.slice ra1 (words d.m).length rc1) (.int .i64 d.exp) ∧ Own x8 64 w0.heap.size ra1 rc1 (words d.m) ∧ Cel x8 y1.heap.size (.bool G.neg) (.slice ra5 (words G.m).length rc5) (.int .i64 G.exp) ∧ Own x8 64 y.heap.size ra5 rc5 (words G.m) ∧ Below w.heap.size w x8) := Lib.hid ⟨hA, kF, ho1, kG, ho5, hB⟩
                    clear hA kF ho1 kG ho5 hB kH ho6
                    go_roundw
                    case rel => exact ⟨1, by omega, by go_num, HR⟩
                    case measure => simp [intOf]
                  · go_wp2_with fail
                    clear e1
                    (obtain ⟨x8, hx8⟩ : ∃ W, W = (x7.alloc (.cells #[.bool (H 0).neg, .slice ra6 (words (H 0).m).length rc6, .int .i64 (H 0).exp] 27)) := ⟨_, rfl⟩; have pinEq := hx8; (try simp only [wr3] at pinEq); rw [← pinEq]; clear pinEq)
                    obtain ⟨kH, bb, s_x8⟩ := new_cel hx8 rfl
                    (replace ho6 := own_call bb ho6; replace kF := cel_call bb kF (by omega); replace ho1 := own_call bb ho1; replace kG := cel_call bb kG (by omega); replace ho5 := own_call bb ho5; replace hB := below_call bb hB (by omega))
                    replace hA := hA.below bb hA.lt
                    have y_x8 := bb.size
                    clear bb s_x8 hx8
                    have l_x8 := kH.lt
                    refine (HC4.out HD.out (by trivial) 0 (by omega) HF.out x8 ra5 rc5 _ ra6 rc6 _ hB ho5 ho6).mono ?_; rintro en x9 ⟨g, hg, rfl, hb⟩
                    (replace kH := cel_call hb kH (by omega); replace ho6 := own_call hb ho6; replace kF := cel_call hb kF (by omega); replace ho1 := own_call hb ho1; replace kG := cel_call hb kG (by omega); replace ho5 := own_call hb ho5; replace hB := below_call hb hB (by omega))
                    replace hA := hA.below hb hA.lt
                    have y_x9 := hb.size
                    clear hb
                    have HR : Hid (Arr5 x9 (w2.heap.size + 1) X 5 ∧ Cel x9 w1.heap.size (.bool d.neg) (.slice ra1 (words d.m).length rc1) (.int .i64 d.exp) ∧ Own x9 64 w0.heap.size ra1 rc1 (words d.m) ∧ Cel x9 y1.heap.size (.bool G.neg) (.slice ra5 (words G.m).length rc5) (.int .i64 G.exp) ∧ Own x9 64 y.heap.size ra5 rc5 (words G.m) ∧ Below w.heap.size w x9) := Lib.hid ⟨hA, kF, ho1, kG, ho5, hB⟩
                    clear hA kF ho1 kG ho5 hB kH ho6
                    go_wp2_with fail
                    go_roundw
                    case rel => exact ⟨1, by omega, by go_num, HR⟩
                    case measure => simp [intOf]
              · have e1 := fun o => (hA.alloc o).full 4 (by omega)
                have e2 := fun o => (kF.alloc o).facts
                go_wp2_with fail
                clear e1 e2
                (obtain ⟨x6, hx6⟩ : ∃ W, W = (wr.alloc (.cells #[.int .i64 0, .int .i64 4] 3)) := ⟨_, rfl⟩; have pinEq := hx6; (try simp only [wr3] at pinEq); rw [← pinEq]; clear pinEq)
                obtain ⟨_, bb, _⟩ := new_of hx6 rfl
                (replace kF := cel_call bb kF (by omega); replace ho1 := own_call bb ho1; replace kG := cel_call bb kG (by omega); replace ho5 := own_call bb ho5; replace hB := below_call bb hB (by omega))
                replace hA := hA.below bb hA.lt
                have y23 := bb.size
                clear bb hx6
                refine (HG2.out 4 x6 ra1 rc1 _ (by omega) hB ho1).mono ?_; rintro en x7 ⟨ra6, rc6, rfl, ho6, hb⟩
                (replace kF := cel_call hb kF (by omega); replace ho1 := own_call hb ho1; replace kG := cel_call hb kG (by omega); replace ho5 := own_call hb ho5; replace hB := below_call hb hB (by omega))
                replace hA := hA.below hb hA.lt
                have y_x7 := hb.size
                clear hb
                have e1 := fun o => (kG.alloc o).facts
                cases is
                · go_wp2_with fail
                  clear e1
                  (obtain ⟨x8, hx8⟩ : ∃ W, W = (x7.alloc (.cells #[.bool (H 4).neg, .slice ra6 (words (H 4).m).length rc6, .int .i64 (H 4).exp] 27)) := ⟨_, rfl⟩; have pinEq := hx8; (try simp only [wr3] at pinEq); rw [← pinEq]; clear pinEq)
                  obtain ⟨kH, bb, s_x8⟩ := new_cel hx8 rfl
                  (replace ho6 := own_call bb ho6; replace kF := cel_call bb kF (by omega); replace ho1 := own_call bb ho1; replace kG := cel_call bb kG (by omega); replace ho5 := own_call bb ho5; replace hB := below_call bb hB (by omega))
                  replace hA := hA.below bb hA.lt
                  have y_x8 := bb.size
                  clear bb s_x8 hx8
                  have l_x8 := kH.lt
                  have HR : Hid (Arr5 x8 (w2.heap.size + 1) X 5 ∧ Cel x8 w1.heap.size (.bool d.neg) (.slice ra1 (words d.m).length rc1) (.int .i64 d.exp) ∧ Own x8 64 w0.heap.size ra1 rc1 (words d.m) ∧ Cel x8 y1.heap.size (.bool G.neg) (.slice ra5 (words G.m).length rc5) (.int .i64 G.exp) ∧ Own x8 64 y.heap.size ra5 rc5 (words G.m) ∧ Below w.heap.size w x8) := Lib.hid ⟨hA, kF, ho1, kG, ho5, hB⟩
                  clear hA kF ho1 kG ho5 hB kH ho6
                  go_roundw
                  case rel => exact ⟨2, by omega, by go_num, HR⟩
                  case measure => simp [intOf]
                · obtain ⟨f, hf⟩ : ∃ f, f = fin 4 := ⟨_, rfl⟩
                  have HF := Lib.hid hf.symm
                  rw [← hf]
                  clear hf
                  cases f
                  · go_wp2_with fail
                    clear e1
                    (obtain ⟨x8, hx8⟩ : ∃ W, W = (x7.alloc (.cells #[.bool (H 4).neg, .slice ra6 (words (H 4).m).length rc6, .int .i64 (H 4).exp] 27)) := ⟨_, rfl⟩; have pinEq := hx8; (try simp only [wr3] at pinEq); rw [← pinEq]; clear pinEq)
                    obtain ⟨kH, bb, s_x8⟩ := new_cel hx8 rfl
                    (replace ho6 := own_call bb ho6; replace kF := cel_call bb kF (by omega); replace ho1 := own_call bb ho1; replace kG := cel_call bb kG (by omega); replace ho5 := own_call bb ho5; replace hB := below_call bb hB (by omega))
                    replace hA := hA.below bb hA.lt
                    have y_x8 := bb.size
                    clear bb s_x8 hx8
                    have l_x8 := kH.lt
                    have HR : Hid (Arr5 x8 (w2.heap.size + 1) X 5 ∧ Cel x8 w1.heap.size (.bool d.neg) (.slice ra1 (words d.m).length rc1) (.int .i64 d.exp) ∧ Own x8 64 w0.heap.size ra1 rc1 (words d.m) ∧ Cel x8 y1.heap.size (.bool G.neg) (.slice ra5 (words G.m).length rc5) (.int .i64 G.exp) ∧ Own x8 64 y.heap.size ra5 rc5 (words G.m) ∧ Below w.heap.size w x8) := Lib.hid ⟨hA, kF, ho1, kG, ho5, hB⟩
                    clear hA kF ho1 kG ho5 hB kH ho6
                    go_roundw
                    case rel => exact ⟨2, by omega, by go_num, HR⟩
                    case measure => simp [intOf]
                  · go_wp2_with fail
                    clear e1
                    (obtain ⟨x8, hx8⟩ : ∃ W, W = (x7.alloc (.cells #[.bool (H 4).neg, .slice ra6 (words (H 4).m).length rc6, .int .i64 (H 4).exp] 27)) := ⟨_, rfl⟩; have pinEq := hx8; (try simp only [wr3] at pinEq); rw [← pinEq]; clear pinEq)
                    obtain ⟨kH, bb, s_x8⟩ := new_cel hx8 rfl
                    (replace ho6 := own_call bb ho6; replace kF := cel_call bb kF (by omega); replace ho1 := own_call bb ho1; replace kG := cel_call bb kG (by omega); replace ho5 := own_call bb ho5; replace hB := below_call bb hB (by omega))
                    replace hA := hA.below bb hA.lt
                    have y_x8 := bb.size
                    clear bb s_x8 hx8
                    have l_x8 := kH.lt
                    refine (HC4.out HD.out (by trivial) 4 (by omega) HF.out x8 ra5 rc5 _ ra6 rc6 _ hB ho5 ho6).mono ?_; rintro en x9 ⟨g, hg, rfl, hb⟩
                    (replace kH := cel_call hb kH (by omega); replace ho6 := own_call hb ho6; replace kF := cel_call hb kF (by omega); replace ho1 := own_call hb ho1; replace kG := cel_call hb kG (by omega); replace ho5 := own_call hb ho5; replace hB := below_call hb hB (by omega))
                    replace hA := hA.below hb hA.lt
                    have y_x9 := hb.size
                    clear hb
                    have HR : Hid (Arr5 x9 (w2.heap.size + 1) X 5 ∧ Cel x9 w1.heap.size (.bool d.neg) (.slice ra1 (words d.m).length rc1) (.int .i64 d.exp) ∧ Own x9 64 w0.heap.size ra1 rc1 (words d.m) ∧ Cel x9 y1.heap.size (.bool G.neg) (.slice ra5 (words G.m).length rc5) (.int .i64 G.exp) ∧ Own x9 64 y.heap.size ra5 rc5 (words G.m) ∧ Below w.heap.size w x9) := Lib.hid ⟨hA, kF, ho1, kG, ho5, hB⟩
                    clear hA kF ho1 kG ho5 hB kH ho6
                    go_wp2_with fail
                    go_roundw
                    case rel => exact ⟨2, by omega, by go_num, HR⟩
                    case measure => simp [intOf]
              · cases is
                · have HB := Lib.hid hB
                  clear hB kF kG ho1 ho5 hA
                  go_wp2_with fail
                  go_ret
                  exact ⟨rfl, HB.out⟩
                · clear kF kG ho1 ho5 hA
                  go_wp2_with fail
                  obtain ⟨wo, rfl⟩ : ∃ wo : World, wo = wr := ⟨_, rfl⟩
                  refine (HO3.out wo hB).mono ?_; rintro en x7 ⟨ra6, rc6, rfl, ho6, hb⟩
                  replace hB := below_call hb hB (by omega)
                  have y_x7 := hb.size
                  clear hb
                  go_wp2_with fail
                  (obtain ⟨x8, hx8⟩ : ∃ W, W = (x7.alloc (.cells #[.bool dz.neg, .slice ra6 (words dz.m).length rc6, .int .i64 dz.exp] 27)) := ⟨_, rfl⟩; have pinEq := hx8; (try simp only [wr3] at pinEq); rw [← pinEq]; clear pinEq)
                  obtain ⟨kZ, bb, s_x8⟩ := new_cel hx8 rfl
                  (replace ho6 := own_call bb ho6; replace hB := below_call bb hB (by omega))
                  have y_x8 := bb.size
                  clear bb s_x8 hx8
                  have l_x8 := kZ.lt
                  have HR : Hid (Cel x8 x7.heap.size (.bool dz.neg) (.slice ra6 (words dz.m).length rc6) (.int .i64 dz.exp) ∧ Own x8 64 wo.heap.size ra6 rc6 (words dz.m) ∧ Below w.heap.size w x8) := Lib.hid ⟨kZ, ho6, hB⟩
                  clear kZ ho6 hB
                  go_loopw [32] (fun i wr => ∃ k : Nat, k ≤ 5 ∧ i = .int .i64 k ∧ Hid (Cel wr x7.heap.size (.bool dz.neg) (.slice ra6 (words dz.m).length rc6) (.int .i64 dz.exp) ∧ Own wr 64 wo.heap.size ra6 rc6 (words dz.m) ∧ Below w.heap.size w wr)) (fun i _ => 5 - (intOf i).toNat)
                  case atStart => exact ⟨0, by omega, rfl, HR⟩
                  case round =>
                    clear HR
                    obtain ⟨k, hk, rfl, hH⟩ := hrel
                    obtain ⟨kZ, ho6, hB⟩ := hH.out
                    clear hH
                    have y30 := hB.size
                    have y31 := kZ.lt
                    by_cases hlt : k < 5
                    · obtain ⟨_, _, _, _, _, _⟩ := kZ.facts
                      go_wp2_with fail
                      refine (HR3.out (by trivial) wr k ra6 rc6 _ (by omega) hB ho6).mono ?_; rintro en x9 ⟨r, rfl, G1, hb⟩
                      (replace kZ := cel_call hb kZ (by omega); replace ho6 := own_call hb ho6; replace hB := below_call hb hB (by omega))
                      clear hb
                      have g1 := G1.out
                      have HR : Hid (Cel x9 x7.heap.size (.bool dz.neg) (.slice ra6 (words dz.m).length rc6) (.int .i64 dz.exp) ∧ Own x9 64 wo.heap.size ra6 rc6 (words dz.m) ∧ Below w.heap.size w x9) := Lib.hid ⟨kZ, ho6, hB⟩
                      clear kZ ho6 hB G1
                      go_wp2_with fail
                      go_roundw
                      case rel => exact ⟨k + 1, by omega, by go_num, HR⟩
                      case measure => simp [intOf]; omega
                    · have HB := Lib.hid hB
                      clear hB kZ ho6
                      go_wp2_with fail
                      go_ret
                      exact ⟨rfl, HB.out⟩
end Go.Proofs.YtmokomfneikipaaDoor
