/- What bins have, in numbers. Bins in memory; contracts of bins.part.add, New, Count, Fold. Contract of bins.Bins.raise. Contracts of bins.Bins.Add's closure, bins.slices, bins.Bins.Add. No statement of the seat is proved here. -/
import Derived.Test.YteahdgbokjbgcaaGreatDoorProg
import Derived.Test.YteahdgbokjbgcaaGreatDoorYMS
import Derived.Test.YteahdgbokjbgcaaGreatDoorYTi
import Derived.Test.YteahdgbokjbgcaaGreatDoorYTh
namespace Go.Proofs.YteahdgbokjbgcaaGreatDoor
open Go.RowKit
set_option linter.unusedVariables false
set_option linter.unusedSimpArgs false

/-- bins: how many numbers, how many bins from the lowest one on, what each has -/
structure Bn where
  n : Nat
  len : Nat
  K : Nat → Int
def Bn.zero : Bn := ⟨0, 0, fun _ => 0⟩
def Bn.sum (a b : Bn) : Bn := ⟨a.n + b.n, max a.len b.len, fun i => a.K i + b.K i⟩
structure Bn.Ok (A : Bn) : Prop where
  hi : ∀ i, A.len ≤ i → A.K i = 0
  bd : ∀ i, (A.K i).natAbs ≤ A.n * 4294967295
  n : A.n ≤ 1099511627776
  len : A.len ≤ 66
theorem Bn.zero_ok : Bn.zero.Ok := ⟨fun _ _ => rfl, fun _ => by simp [Bn.zero], by simp [Bn.zero], by simp [Bn.zero]⟩
theorem Bn.Ok.sum {a b : Bn} (ha : a.Ok) (hb : b.Ok) (hn : a.n + b.n ≤ 1099511627776) : (a.sum b).Ok := by
  refine ⟨fun i hi => ?_, fun i => ?_, hn, ?_⟩
  · have hi' : max a.len b.len ≤ i := hi
    show a.K i + b.K i = 0
    rw [ha.hi i (by omega), hb.hi i (by omega)]; rfl
  · show (a.K i + b.K i).natAbs ≤ (a.n + b.n) * 4294967295
    have h1 := ha.bd i; have h2 := hb.bd i
    omega
  · have h1 := ha.len; have h2 := hb.len
    show max a.len b.len ≤ 66
    omega
/-- a slice goes into bin i -/
def Bn.slice (A : Bn) (i : Nat) (v : Int) : Bn := if v = 0 then A else ⟨A.n, max A.len (i + 1), fun j => if j = i then A.K j + v else A.K j⟩
end Go.Proofs.YteahdgbokjbgcaaGreatDoor
namespace Go.Proofs.YteahdgbokjbgcaaGreatDoor
open Go.RowKit
set_option maxRecDepth 10000
set_option linter.unusedVariables false
set_option linter.unusedSimpArgs false

section
variable {w w' : World} {g : Nat} {f n top : Int} {any : Bool} {h : Nat → Int}
end
end Go.Proofs.YteahdgbokjbgcaaGreatDoor
namespace Go.Proofs.YteahdgbokjbgcaaGreatDoor
open Go.RowKit
set_option maxRecDepth 10000
set_option linter.unusedVariables false
set_option linter.unusedSimpArgs false

theorem info_parts : (Tryz.prog.info? 190).map (·.size) = some 16 := by kernel_rfl
end Go.Proofs.YteahdgbokjbgcaaGreatDoor
namespace Go.Proofs.YteahdgbokjbgcaaGreatDoor
open Go.RowKit
set_option maxRecDepth 10000
set_option linter.unusedVariables false
set_option linter.unusedSimpArgs false

/-- bins while a number's slices go in -/
structure Bn.Sm (A : Bn) (m : Nat) : Prop where
  hi : ∀ i, A.len ≤ i → A.K i = 0
  bd : ∀ i, (A.K i).natAbs ≤ m * 4294967295
  len : A.len ≤ 68
end Go.Proofs.YteahdgbokjbgcaaGreatDoor
