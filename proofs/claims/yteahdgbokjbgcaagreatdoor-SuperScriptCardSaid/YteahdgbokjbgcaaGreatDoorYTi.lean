/- SuperOrder's plain part: sums of things in another order; contracts of steelyardlaw07.pick, exact. No statement of the seat is proved here. -/
import Derived.Test.YteahdgbokjbgcaaGreatDoorProg
import Derived.Test.YteahdgbokjbgcaaGreatDoorYTh
import Derived.Test.YteahdgbokjbgcaaGreatDoorYMT
import Derived.Test.YteahdgbokjbgcaaGreatDoorYMQ
import Derived.Deep.RegionLaw
namespace Go.Proofs.YteahdgbokjbgcaaGreatDoor
open Go.RowKit
set_option linter.unusedVariables false
set_option linter.unusedSimpArgs false

/-- numbers as cells -/
def iv (n : Nat) : Value := .int .i64 (n : Int)
/-- three accumulators, and a slice of the call's own -/
structure Or (w W : World) (B g1 g2 g3 : Nat) (A1 A2 A3 : Ac) (a : Option Addr) (c : Nat) (r : List Nat) : Prop where
  a1 : AccAt W g1 A1
  a2 : AccAt W g2 A2
  a3 : AccAt W g3 A3
  own : VOwn W 3 1 B a c (r.map iv)
  bel : Below w.heap.size w W
  siz : B ≤ W.heap.size
structure OrN (w : World) (B g1 g2 g3 : Nat) : Prop where
  h1 : w.heap.size ≤ g1
  h2 : g1 < g2
  h3 : g2 < g3
  h4 : g3 < B
section
variable {w W W' : World} {B g1 g2 g3 : Nat} {A1 A2 A3 C : Ac} {a : Option Addr} {c : Nat} {r : List Nat}
theorem Or.drew (h : Or w W B g1 g2 g3 A1 A2 A3 a c r) (q : Nat) : Or w (W.drewN q) B g1 g2 g3 A1 A2 A3 a c r :=
  ⟨h.a1, h.a2, h.a3, by rcases h.own with h | ⟨g, p, t, h0, h1, h2, h3, h4⟩; exact .inl h; exact .inr ⟨g, p, t, h0, h1, h2, h3, h4⟩, below_drewN' h.bel, h.siz⟩
theorem Or.below (h : Or w W B g1 g2 g3 A1 A2 A3 a c r) (hN : OrN w B g1 g2 g3) (hb : Below W.heap.size W W') : Or w W' B g1 g2 g3 A1 A2 A3 a c r :=
  ⟨Tot.below h.a1 hb (Tot.lt h.a1), Tot.below h.a2 hb (Tot.lt h.a2), Tot.below h.a3 hb (Tot.lt h.a3), h.own.grow hb, h.bel.trans (hb.mono h.bel.size), Nat.le_trans h.siz hb.size⟩
theorem Or.set1 (h : Or w W B g1 g2 g3 A1 A2 A3 a c r) (hN : OrN w B g1 g2 g3) (hA : AccAt W' g1 C) (hk : W.grownBy W' (some g1)) : Or w W' B g1 g2 g3 C A2 A3 a c r := by
  obtain ⟨h1, h2, h3, h4⟩ := hN
  exact ⟨hA, Tot.grown h.a2 hk (by omega), Tot.grown h.a3 hk (by omega), h.own.grown hk (fun ad had => by have := h.own.ge ad had; omega), bel_grown h.bel (Nat.le_refl _) hk h1, Nat.le_trans h.siz hk.size⟩
theorem Or.set2 (h : Or w W B g1 g2 g3 A1 A2 A3 a c r) (hN : OrN w B g1 g2 g3) (hA : AccAt W' g2 C) (hk : W.grownBy W' (some g2)) : Or w W' B g1 g2 g3 A1 C A3 a c r := by
  obtain ⟨h1, h2, h3, h4⟩ := hN
  exact ⟨Tot.grown h.a1 hk (by omega), hA, Tot.grown h.a3 hk (by omega), h.own.grown hk (fun ad had => by have := h.own.ge ad had; omega), bel_grown h.bel (Nat.le_refl _) hk (by omega), Nat.le_trans h.siz hk.size⟩
end

theorem RoundR.uniq {A : Ac} {mode pn pi : Int} {r r' : Nat} {er er' : Int} (h : RoundR A mode pn pi r er) (k : RoundR A mode pn pi r' er') : r = r' ∧ er = er' := by
  unfold RoundR at h k
  rcases h with ⟨h1, h2, h3⟩ | ⟨h1, h2, h3⟩ <;> rcases k with ⟨k1, k2, k3⟩ | ⟨k1, k2, k3⟩
  · exact ⟨h2.trans k2.symm, h3.trans k3.symm⟩
  · rcases h1 with h1 | h1
    · rw [k1] at h1; cases h1
    · exact absurd k2 h1
  · rcases k1 with k1 | k1
    · rw [h1] at k1; cases k1
    · exact absurd h2 k1
  · exact h3.uniq k3

/-- what a raw number picks of n things -/
def PickR (n : Nat) (w : World) (en : Ending) (w' : World) : Prop := ∃ m : Nat, m < n ∧ en = .returned (.int .i64 (m : Int)) ∧ w = w'
set_option maxRecDepth 10000 in
set_option maxHeartbeats 2000000 in
theorem pick_any (c : Int) (n : Nat) (w : World) (h1 : -9223372036854775808 ≤ c) (h2 : c ≤ 9223372036854775807) (hn : 0 < n) (hn2 : n ≤ 1099511627776) :
    Calls Tryz.prog 23 #[.int .i64 c, .int .i64 (n : Int)] w (PickR n w) := by
  by_cases hc : c < 0
  · obtain ⟨k, hk⟩ : ∃ k : Nat, -(c + 1) = (k : Int) := ⟨(-(c + 1)).toNat, by omega⟩
    have hl := Nat.mod_lt k hn
    have HL := Lib.hid hl
    have n0 : n ≠ 0 := by omega
    clear hl
    go_enter Tryz.func23, Tryz.ntmps23
    go_wp2_with fail
    go_ret
    exact ⟨k % n, HL.out, rfl, rfl⟩
  · obtain ⟨k, rfl⟩ : ∃ k : Nat, c = (k : Int) := ⟨c.toNat, by omega⟩
    have hl := Nat.mod_lt k hn
    have HL := Lib.hid hl
    have n0 : n ≠ 0 := by omega
    clear hl
    go_enter Tryz.func23, Tryz.ntmps23
    go_wp2_with fail
    go_ret
    exact ⟨k % n, HL.out, rfl, rfl⟩
set_option maxRecDepth 10000 in
set_option maxHeartbeats 1000000 in
theorem exact_law (a b : Nat) (w : World) :
    Calls Tryz.prog 111 #[.float .f64 a, .float .f64 b] w fun en w' => en = .returned (.bool (decide (a = b))) ∧ w = w' := by
  have h1 := ext_bits64 a
  have h2 := ext_bits64 b
  have h3 : ((a : Int) == (b : Int)) = decide (a = b) := by
    by_cases h : a = b
    · simp [h]
    · simp [h]; omega
  go_enter Tryz.func111, Tryz.ntmps111
  go_wp2
  go_ret
  exact ⟨rfl, rfl⟩
end Go.Proofs.YteahdgbokjbgcaaGreatDoor
