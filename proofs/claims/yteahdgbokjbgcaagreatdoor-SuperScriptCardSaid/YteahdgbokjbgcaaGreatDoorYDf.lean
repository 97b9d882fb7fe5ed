/- Sums of Dyads, in numbers; contract of dyad.Add. No statement of the seat is proved here. -/
import Derived.Test.YteahdgbokjbgcaaGreatDoorProg
import Derived.Test.YteahdgbokjbgcaaGreatDoorYMD
namespace Go.Proofs.YteahdgbokjbgcaaGreatDoor
open Go.RowKit
set_option linter.unusedVariables false
set_option linter.unusedSimpArgs false

structure D.Ok (d : D) : Prop where
  len : (words d.m).length ≤ 8192
  lo : -1048576 ≤ d.exp
  hi : d.exp ≤ 1048576
theorem D.zero_ok : D.zero.Ok := ⟨by simp [D.zero, words_zero], by decide, by decide⟩
theorem formF_ok {s : Bool} {n : Nat} {e : Int} {d : D} (h : formF s n e = some d) : d.Ok := by
  unfold formF at h
  split at h
  · cases h; exact D.zero_ok
  · split at h
    · cases h
    · rename_i h2
      cases h
      exact ⟨by dsimp only; omega, by dsimp only; omega, by dsimp only; omega⟩

/-- the sum of two forms -/
def addD (p q : D) : Option D :=
  if p.m = 0 then some q else if q.m = 0 then some p
  else if 8192 < (words (p.m * 2 ^ (p.exp - min p.exp q.exp).toNat)).length ∨ 8192 < (words (q.m * 2 ^ (q.exp - min p.exp q.exp).toNat)).length then none
  else if p.neg = q.neg then formF p.neg (p.m * 2 ^ (p.exp - min p.exp q.exp).toNat + q.m * 2 ^ (q.exp - min p.exp q.exp).toNat) (min p.exp q.exp)
  else if p.m * 2 ^ (p.exp - min p.exp q.exp).toNat < q.m * 2 ^ (q.exp - min p.exp q.exp).toNat then formF q.neg (q.m * 2 ^ (q.exp - min p.exp q.exp).toNat - p.m * 2 ^ (p.exp - min p.exp q.exp).toNat) (min p.exp q.exp)
  else formF p.neg (p.m * 2 ^ (p.exp - min p.exp q.exp).toNat - q.m * 2 ^ (q.exp - min p.exp q.exp).toNat) (min p.exp q.exp)
def addO : Option D → Option D → Option D
  | some p, some q => addD p q
  | _, _ => none

end Go.Proofs.YteahdgbokjbgcaaGreatDoor
