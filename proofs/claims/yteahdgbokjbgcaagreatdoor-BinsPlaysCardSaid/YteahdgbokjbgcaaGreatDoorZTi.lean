/- SuperOrder's plain part: sums of things in another order; contracts of steelyardlaw07.pick, exact. No statement of the seat is proved here. -/
import Derived.Test.YteahdgbokjbgcaaGreatDoorProg
import Derived.Test.YteahdgbokjbgcaaGreatDoorZTh
import Derived.Test.YteahdgbokjbgcaaGreatDoorZMT
import Derived.Test.YteahdgbokjbgcaaGreatDoorZMQ
import Derived.Deep.RegionLaw
namespace Go.Proofs.YteahdgbokjbgcaaGreatDoor
open Go.RowKit
set_option linter.unusedVariables false
set_option linter.unusedSimpArgs false

/-- numbers as cells -/
def iv (n : Nat) : Value := .int .i64 (n : Int)
theorem Tot.grownO {w w' : World} {g : Nat} {t : TypeId} {f : Nat → Int} {rest : List Value} (h : Tot w g t f rest) {r : Option Nat} (hk : w.grownBy w' r) (hne : ∀ b, r = some b → g ≠ b) : Tot w' g t f rest := by
  unfold Tot; rw [hk.block g h.lt (fun e => hne g e.symm rfl)]; exact h

/-- three accumulators, and a slice of the call's own -/
structure Or (w W : World) (B g1 g2 g3 : Nat) (A1 A2 A3 : Ac) (a : Option Addr) (c : Nat) (r : List Nat) : Prop where
  a1 : AccAt W g1 A1
  a2 : AccAt W g2 A2
  a3 : AccAt W g3 A3
  own : VOwn W 3 1 B a c (r.map iv)
  bel : Below w.heap.size w W
  siz : B ≤ W.heap.size
structure OrN (w : World) (B g1 g2 g3 : Nat) : Prop where
  h1 : w.heap.size ≤ g1
  h2 : g1 < g2
  h3 : g2 < g3
  h4 : g3 < B
section
variable {w W W' : World} {B g1 g2 g3 : Nat} {A1 A2 A3 C : Ac} {a : Option Addr} {c : Nat} {r : List Nat}
theorem Or.drew (h : Or w W B g1 g2 g3 A1 A2 A3 a c r) (q : Nat) : Or w (W.drewN q) B g1 g2 g3 A1 A2 A3 a c r :=
  ⟨h.a1, h.a2, h.a3, by rcases h.own with h | ⟨g, p, t, h0, h1, h2, h3, h4⟩; exact .inl h; exact .inr ⟨g, p, t, h0, h1, h2, h3, h4⟩, below_drewN' h.bel, h.siz⟩
theorem Or.below (h : Or w W B g1 g2 g3 A1 A2 A3 a c r) (hN : OrN w B g1 g2 g3) (hb : Below W.heap.size W W') : Or w W' B g1 g2 g3 A1 A2 A3 a c r :=
  ⟨Tot.below h.a1 hb (Tot.lt h.a1), Tot.below h.a2 hb (Tot.lt h.a2), Tot.below h.a3 hb (Tot.lt h.a3), h.own.grow hb, h.bel.trans (hb.mono h.bel.size), Nat.le_trans h.siz hb.size⟩
theorem Or.set1 (h : Or w W B g1 g2 g3 A1 A2 A3 a c r) (hN : OrN w B g1 g2 g3) (hA : AccAt W' g1 C) (hk : W.grownBy W' (some g1)) : Or w W' B g1 g2 g3 C A2 A3 a c r := by
  obtain ⟨h1, h2, h3, h4⟩ := hN
  exact ⟨hA, Tot.grown h.a2 hk (by omega), Tot.grown h.a3 hk (by omega), h.own.grown hk (fun ad had => by have := h.own.ge ad had; omega), bel_grown h.bel (Nat.le_refl _) hk h1, Nat.le_trans h.siz hk.size⟩
theorem Or.set2 (h : Or w W B g1 g2 g3 A1 A2 A3 a c r) (hN : OrN w B g1 g2 g3) (hA : AccAt W' g2 C) (hk : W.grownBy W' (some g2)) : Or w W' B g1 g2 g3 A1 C A3 a c r := by
  obtain ⟨h1, h2, h3, h4⟩ := hN
  exact ⟨Tot.grown h.a1 hk (by omega), hA, Tot.grown h.a3 hk (by omega), h.own.grown hk (fun ad had => by have := h.own.ge ad had; omega), bel_grown h.bel (Nat.le_refl _) hk (by omega), Nat.le_trans h.siz hk.size⟩
theorem Or.app {a' : Option Addr} {c' : Nat} {r' : List Nat} (h : Or w W B g1 g2 g3 A1 A2 A3 a c r) (hN : OrN w B g1 g2 g3) {b : Option Nat} (ho : VOwn W' 3 1 B a' c' (r'.map iv)) (hk : W.grownBy W' b) (hb : ∀ g, b = some g → B ≤ g) : Or w W' B g1 g2 g3 A1 A2 A3 a' c' r' := by
  obtain ⟨h1, h2, h3, h4⟩ := hN
  exact ⟨Tot.grownO h.a1 hk (fun g hg => by have := hb g hg; omega), Tot.grownO h.a2 hk (fun g hg => by have := hb g hg; omega), Tot.grownO h.a3 hk (fun g hg => by have := hb g hg; omega), ho, Rgrown h.bel (Nat.le_refl _) hk (fun g hg => by have := hb g hg; omega), Nat.le_trans h.siz hk.size⟩
end

end Go.Proofs.YteahdgbokjbgcaaGreatDoor
