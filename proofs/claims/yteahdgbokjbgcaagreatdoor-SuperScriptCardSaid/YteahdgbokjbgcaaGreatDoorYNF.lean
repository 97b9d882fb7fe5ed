/- Whole numbers as numbers of 64 bits: their sums are right. Whole numbers: the exact sum, the sum by blocks. How far a sum of numbers may be off, in whatever order its steps are grouped. Dyads by their values: Of, Add, Sub, Sign, Neg, and the bound of steelyardlaw10.off. No statement of the seat is proved here. -/
import Derived.Test.YteahdgbokjbgcaaGreatDoorProg
import Derived.Test.YteahdgbokjbgcaaGreatDoorYMU
import Derived.Test.YteahdgbokjbgcaaGreatDoorYMV
namespace Go.Proofs.YteahdgbokjbgcaaGreatDoor
open Go.RowKit
set_option linter.unusedVariables false
set_option linter.unusedSimpArgs false

/-- 2^1074, kept shut -/
def pzE : Nat := 1074
def PZ : Nat := 2 ^ pzE
theorem PZ_eq {j : Nat} (h : j = 1074) : PZ = 2 ^ j := by
  have e : pzE = j := by rw [h]; rfl
  unfold PZ; rw [e]
end Go.Proofs.YteahdgbokjbgcaaGreatDoor
namespace Go.Proofs.YteahdgbokjbgcaaGreatDoor
open Go.RowKit
set_option linter.unusedVariables false
set_option linter.unusedSimpArgs false

/-- what a finite number adds to an accumulator -/
theorem numT_fV {b : Nat} (hb : b < 18446744073709551616) (h : b % 9223372036854775808 < 9218868437227405312) :
    (numT b).T = fV b * (PZ : Int) ∧ (numT b).nan = 0 ∧ (numT b).up = 0 ∧ (numT b).down = 0 := by
  obtain ⟨J, hJ⟩ : ∃ J, J = 1074 := ⟨_, rfl⟩
  have hs : (b / 9223372036854775808 % 2 == 1) = decide (9223372036854775808 ≤ b) := by
    by_cases h1 : 9223372036854775808 ≤ b
    · rw [decide_eq_true h1, show b / 9223372036854775808 % 2 = 1 by omega]; rfl
    · rw [decide_eq_false h1, show b / 9223372036854775808 % 2 = 0 by omega]; rfl
  have e1 : b % 9223372036854775808 / 4503599627370496 = b / 4503599627370496 % 2048 := by omega
  have e2 : b % 9223372036854775808 % 4503599627370496 = b % 4503599627370496 := by omega
  have hV : fV b = sgn (decide (9223372036854775808 ≤ b)) ((if b / 4503599627370496 % 2048 = 0 then b % 4503599627370496 else 4503599627370496 + b % 4503599627370496) * 2 ^ (b / 4503599627370496 % 2048 - 1)) := by
    unfold fV numV numM numE
    rw [show (2 : Nat) ^ 52 = 4503599627370496 from rfl, e1, e2]
  have hx : b / 4503599627370496 % 2048 < 2047 := by omega
  rw [hV]
  unfold numT ptOf
  rw [hs]
  generalize b / 4503599627370496 % 2048 = ex at *
  generalize hfr : b % 4503599627370496 = fr at *
  generalize decide (9223372036854775808 ≤ b) = s at *
  rw [if_neg (show ¬ ex = 2047 by omega)]
  by_cases h1 : 0 < ex
  · rw [if_pos h1, if_neg (show ¬ ex = 0 by omega)]
    unfold mkT
    dsimp only
    simp only [show ((2 : Int) = 4) = False by simp, show ((2 : Int) = 3) = False by simp, show ((2 : Int) = 0) = False by simp, if_false]
    refine ⟨?_, by trivial, by trivial, by trivial⟩
    rw [PZ_eq hJ, ← sgn_mul, Nat.mul_assoc, ← Nat.pow_add]
    congr 2
    · omega
    · congr 1; omega
  · rw [if_neg h1]
    obtain rfl : ex = 0 := by omega
    rw [if_pos rfl]
    by_cases h2 : 0 < fr
    · rw [if_pos h2]
      unfold mkT
      dsimp only
      simp only [show ((1 : Int) = 4) = False by simp, show ((1 : Int) = 3) = False by simp, show ((1 : Int) = 0) = False by simp, if_false]
      refine ⟨?_, by trivial, by trivial, by trivial⟩
      rw [PZ_eq hJ, ← sgn_mul, show ((-1074 : Int) + 2148).toNat = J by omega, show (0 - 1 : Nat) = 0 from rfl, Nat.pow_zero, Nat.mul_one]
    · rw [if_neg h2]
      obtain rfl : fr = 0 := by omega
      unfold mkT
      dsimp only
      simp only [show ((0 : Int) = 4) = False by simp, show ((0 : Int) = 3) = False by simp, if_false, if_true]
      rw [Nat.zero_mul, sgn_zero, Int.zero_mul]
      cases s <;> exact ⟨rfl, rfl, rfl, rfl⟩
end Go.Proofs.YteahdgbokjbgcaaGreatDoor
namespace Go.Proofs.YteahdgbokjbgcaaGreatDoor
open Go.RowKit
set_option linter.unusedVariables false
set_option linter.unusedSimpArgs false

end Go.Proofs.YteahdgbokjbgcaaGreatDoor
namespace Go.Proofs.YteahdgbokjbgcaaGreatDoor
open Go.RowKit
set_option linter.unusedVariables false
set_option linter.unusedSimpArgs false

/-- a Dyad of a value, in units of 2^-1074 -/
structure Dz (d : D) (z : Int) : Prop where
  is : d.Is
  ok : d.Ok
  ex : -1074 ≤ d.exp
  val : d.z (-1074) = z
theorem Dz.zero : Dz D.zero 0 := ⟨.inl rfl, D.zero_ok, by decide, z_zero _⟩
def DV (d : D) (a : Option Addr) (c : Nat) : Value := .agg #[.bool d.neg, .slice a (words d.m).length c, .int .i64 d.exp]
theorem argF {d : D} (hi : d.Is) (ok : d.Ok) (a : Option Addr) (c : Nat) : (argOf d a c).F = some d := by
  show formF d.neg (num (words d.m)) d.exp = some d
  rw [num_words]; exact form_self hi ok
theorem Dz.of {v : Nat} (h : v % 9223372036854775808 < 9218868437227405312) : ∃ p, ofF v = some p ∧ Dz p (fV v) := by
  obtain ⟨p, hp⟩ := ofF_some h
  have hz := ofF_zB hp
  have hb : p.Is ∧ p.Ok := by
    have hp' := hp
    unfold ofF bitsF at hp'
    split at hp'
    · cases hp'
    · exact form_both hp'
  exact ⟨p, hp, hb.1, hb.2, hz.2, hz.1⟩
theorem Dz.small {d : D} {z : Int} {j : Nat} (h : Dz d z) (hb : z.natAbs < 2 ^ (32 * j)) (hm : d.m ≠ 0) : d.exp + 1074 < 32 * (j : Int) := by
  have h1 := z_abs h.ex
  rw [h.val] at h1
  have h2 : 2 ^ (d.exp - -1074).toNat ≤ d.m * 2 ^ (d.exp - -1074).toNat := Nat.le_mul_of_pos_left _ (Nat.pos_of_ne_zero hm)
  have h3 : (d.exp - -1074).toNat < 32 * j := (Nat.pow_lt_pow_iff_right (a := 2) (by decide)).1 (by omega)
  omega
theorem Dz.add {p q : D} {x y : Int} {j : Nat} (hp : Dz p x) (hq : Dz q y) (bx : x.natAbs < 2 ^ (32 * j)) (by' : y.natAbs < 2 ^ (32 * j)) (hj : j ≤ 100) : ∃ d, addD p q = some d ∧ Dz d (x + y) := by
  obtain ⟨d, hd⟩ := addD_some (p := p) (q := q) (B := -1074) (j := j) hp.ex hq.ex (by decide) (by rw [hp.val]; exact bx) (by rw [hq.val]; exact by') (by omega) (by decide) (by
    rintro d (rfl | rfl) hm
    · have := hp.small bx hm; omega
    · have := hq.small by' hm; omega)
  obtain ⟨h1, h2⟩ := addD_form hd hp.is hq.is hp.ok hq.ok
  have h3 := z_add hd hp.ex hq.ex (by decide)
  exact ⟨d, hd, h1, h2, h3.2, by rw [h3.1, hp.val, hq.val]⟩
theorem Dz.neg {d : D} {z : Int} (h : Dz d z) : ∃ d', formF (!d.neg) d.m d.exp = some d' ∧ Dz d' (-z) := by
  obtain ⟨q, h1, h2⟩ := neg_form (form_self h.is h.ok)
  have h3 : -1074 ≤ q.exp := (z_form h1 h.ex (by decide)).2
  exact ⟨q, h1, formF_is h1, formF_ok h1, h3, by rw [h2 (-1074) h.ex h3, h.val]⟩
theorem z_down {d : D} {B : Int} (h : B ≤ d.exp) (k : Nat) : d.z (B - k) = d.z B * ((2 ^ k : Nat) : Int) := by
  unfold D.z
  rw [← sgn_mul, ← sgn_mul, ← sgn_mul, Nat.mul_assoc, ← Nat.pow_add]
  congr 3; omega

/-- a Dyad and no error came out -/
def OutDE (d : D) (W : World) (en : Ending) (w' : World) : Prop := ∃ a c, en = .returned (.tuple #[DV d a c, .int .i64 0]) ∧ Own w' 118 W.heap.size a c (words d.m) ∧ Below W.heap.size W w'
theorem came_out {o : Option D} {d : D} {W w' : World} {en : Ending} (h : Came W w' o en) (ho : o = some d) (ok : d.Ok) : OutDE d W en w' := by
  obtain ⟨v, rfl, ⟨a, c, rfl, h1⟩, h2⟩ := h
  subst ho
  exact ⟨a, c, rfl, h1, h2⟩
end Go.Proofs.YteahdgbokjbgcaaGreatDoor
