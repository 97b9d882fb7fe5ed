/- Whole numbers as numbers of 64 bits: their sums are right. Whole numbers: the exact sum, the sum by blocks. How far a sum of numbers may be off, in whatever order its steps are grouped. Dyads by their values: Of, Add, Sub, Sign, Neg, and the bound of steelyardlaw10.off. No statement of the seat is proved here. -/
import Derived.Test.YteahdgbokjbgcaaGreatDoorProg
import Derived.Test.YteahdgbokjbgcaaGreatDoorZMU
import Derived.Test.YteahdgbokjbgcaaGreatDoorZMV
namespace Go.Proofs.YteahdgbokjbgcaaGreatDoor
open Go.RowKit
set_option linter.unusedVariables false
set_option linter.unusedSimpArgs false

end Go.Proofs.YteahdgbokjbgcaaGreatDoor
namespace Go.Proofs.YteahdgbokjbgcaaGreatDoor
open Go.RowKit
set_option linter.unusedVariables false
set_option linter.unusedSimpArgs false

end Go.Proofs.YteahdgbokjbgcaaGreatDoor
namespace Go.Proofs.YteahdgbokjbgcaaGreatDoor
open Go.RowKit
set_option linter.unusedVariables false
set_option linter.unusedSimpArgs false

end Go.Proofs.YteahdgbokjbgcaaGreatDoor
namespace Go.Proofs.YteahdgbokjbgcaaGreatDoor
open Go.RowKit
set_option linter.unusedVariables false
set_option linter.unusedSimpArgs false

/-- a Dyad of a value, in units of 2^-1074 -/
structure Dz (d : D) (z : Int) : Prop where
  is : d.Is
  ok : d.Ok
  ex : -1074 ≤ d.exp
  val : d.z (-1074) = z
theorem Dz.zero : Dz D.zero 0 := ⟨.inl rfl, D.zero_ok, by decide, z_zero _⟩
def DV (d : D) (a : Option Addr) (c : Nat) : Value := .agg #[.bool d.neg, .slice a (words d.m).length c, .int .i64 d.exp]
theorem argF {d : D} (hi : d.Is) (ok : d.Ok) (a : Option Addr) (c : Nat) : (argOf d a c).F = some d := by
  show formF d.neg (num (words d.m)) d.exp = some d
  rw [num_words]; exact form_self hi ok
theorem Dz.of {v : Nat} (h : v % 9223372036854775808 < 9218868437227405312) : ∃ p, ofF v = some p ∧ Dz p (fV v) := by
  obtain ⟨p, hp⟩ := ofF_some h
  have hz := ofF_zB hp
  have hb : p.Is ∧ p.Ok := by
    have hp' := hp
    unfold ofF bitsF at hp'
    split at hp'
    · cases hp'
    · exact form_both hp'
  exact ⟨p, hp, hb.1, hb.2, hz.2, hz.1⟩
theorem Dz.small {d : D} {z : Int} {j : Nat} (h : Dz d z) (hb : z.natAbs < 2 ^ (32 * j)) (hm : d.m ≠ 0) : d.exp + 1074 < 32 * (j : Int) := by
  have h1 := z_abs h.ex
  rw [h.val] at h1
  have h2 : 2 ^ (d.exp - -1074).toNat ≤ d.m * 2 ^ (d.exp - -1074).toNat := Nat.le_mul_of_pos_left _ (Nat.pos_of_ne_zero hm)
  have h3 : (d.exp - -1074).toNat < 32 * j := (Nat.pow_lt_pow_iff_right (a := 2) (by decide)).1 (by omega)
  omega
theorem Dz.add {p q : D} {x y : Int} {j : Nat} (hp : Dz p x) (hq : Dz q y) (bx : x.natAbs < 2 ^ (32 * j)) (by' : y.natAbs < 2 ^ (32 * j)) (hj : j ≤ 100) : ∃ d, addD p q = some d ∧ Dz d (x + y) := by
  obtain ⟨d, hd⟩ := addD_some (p := p) (q := q) (B := -1074) (j := j) hp.ex hq.ex (by decide) (by rw [hp.val]; exact bx) (by rw [hq.val]; exact by') (by omega) (by decide) (by
    rintro d (rfl | rfl) hm
    · have := hp.small bx hm; omega
    · have := hq.small by' hm; omega)
  obtain ⟨h1, h2⟩ := addD_form hd hp.is hq.is hp.ok hq.ok
  have h3 := z_add hd hp.ex hq.ex (by decide)
  exact ⟨d, hd, h1, h2, h3.2, by rw [h3.1, hp.val, hq.val]⟩
theorem Dz.neg {d : D} {z : Int} (h : Dz d z) : ∃ d', formF (!d.neg) d.m d.exp = some d' ∧ Dz d' (-z) := by
  obtain ⟨q, h1, h2⟩ := neg_form (form_self h.is h.ok)
  have h3 : -1074 ≤ q.exp := (z_form h1 h.ex (by decide)).2
  exact ⟨q, h1, formF_is h1, formF_ok h1, h3, by rw [h2 (-1074) h.ex h3, h.val]⟩
theorem z_down {d : D} {B : Int} (h : B ≤ d.exp) (k : Nat) : d.z (B - k) = d.z B * ((2 ^ k : Nat) : Int) := by
  unfold D.z
  rw [← sgn_mul, ← sgn_mul, ← sgn_mul, Nat.mul_assoc, ← Nat.pow_add]
  congr 3; omega

/-- a Dyad came out -/
def OutD (d : D) (W : World) (en : Ending) (w' : World) : Prop := ∃ a c, en = .returned (DV d a c) ∧ Own w' 118 W.heap.size a c (words d.m) ∧ Below W.heap.size W w'
/-- a Dyad and no error came out -/
def OutDE (d : D) (W : World) (en : Ending) (w' : World) : Prop := ∃ a c, en = .returned (.tuple #[DV d a c, .int .i64 0]) ∧ Own w' 118 W.heap.size a c (words d.m) ∧ Below W.heap.size W w'
theorem came_out {o : Option D} {d : D} {W w' : World} {en : Ending} (h : Came W w' o en) (ho : o = some d) (ok : d.Ok) : OutDE d W en w' := by
  obtain ⟨v, rfl, ⟨a, c, rfl, h1⟩, h2⟩ := h
  subst ho
  exact ⟨a, c, rfl, h1, h2⟩
end Go.Proofs.YteahdgbokjbgcaaGreatDoor
