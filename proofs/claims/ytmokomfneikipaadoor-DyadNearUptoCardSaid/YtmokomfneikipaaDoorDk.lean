/- Dyads in memory: as they are handed in, in the cells of a variable, in a walk's worlds. No statement of the seat is proved here. -/
import Derived.Test.YtmokomfneikipaaDoorProg
import Derived.Test.YtmokomfneikipaaDoorDc
namespace Go.Proofs.YtmokomfneikipaaDoor
open Go.RowKit
set_option linter.unusedVariables false
set_option linter.unusedSimpArgs false

/-- a Dyad as it is handed in -/
structure Arg where
  s : Bool
  a : Option Addr
  l : List Nat
  c : Nat
  e : Int
def Arg.v (x : Arg) : Value := .agg #[.bool x.s, .slice x.a x.l.length x.c, .int .i64 x.e]
structure Arg.Ok (w : World) (x : Arg) : Prop where
  sl : Sl w x.a x.c x.l
  len : x.l.length ≤ 1073741824
  lo : -9223372036854775808 ≤ x.e
  hi : x.e ≤ 9223372036854775807
theorem Arg.Ok.grow {w w' : World} {x : Arg} (h : x.Ok w) (hb : Below w.heap.size w w') : x.Ok w' := ⟨h.sl.grow hb, h.len, h.lo, h.hi⟩
def Arg.F (x : Arg) : Option D := formF x.s (num x.l) x.e
/-- a Dyad that came out, as it is handed in again -/
def argOf (d : D) (a : Option Addr) (c : Nat) : Arg := ⟨d.neg, a, words d.m, c, d.exp⟩

/-- the three cells of a Dyad -/
def Cel (w : World) (g : Nat) (v0 v1 v2 : Value) : Prop := w.heap[g]? = some (.cells #[v0, v1, v2] 27 (0, 0))
theorem Cel.facts {w : World} {g : Nat} {v0 v1 v2 : Value} (h : Cel w g v0 v1 v2) :
    w.cell? ⟨g, 0, none⟩ = some v0 ∧ w.cell? ⟨g, 1, none⟩ = some v1 ∧ w.cell? ⟨g, 2, none⟩ = some v2 ∧ w.frozen? ⟨g, 0, none⟩ = false ∧ w.frozen? ⟨g, 1, none⟩ = false ∧ w.frozen? ⟨g, 2, none⟩ = false := cells3 h
theorem Cel.below {B g : Nat} {w w' : World} {v0 v1 v2 : Value} (h : Cel w g v0 v1 v2) (hb : Below B w w') (hg : g < B) : Cel w' g v0 v1 v2 := by
  unfold Cel; rw [hb.block _ hg]; exact h
theorem Cel.new (w : World) (v0 v1 v2 : Value) : Cel (w.alloc (.cells #[v0, v1, v2] 27)) w.heap.size v0 v1 v2 := heap_alloc_new _ _
theorem Cel.lt {w : World} {g : Nat} {v0 v1 v2 : Value} (h : Cel w g v0 v1 v2) : g < w.heap.size := (Array.getElem?_eq_some_iff.1 h).1
theorem Cel.set0 {w : World} {g : Nat} {v0 v1 v2 : Value} (h : Cel w g v0 v1 v2) (u : Value) : Cel (w.setCell ⟨g, 0, none⟩ u) g u v1 v2 := by
  unfold Cel; rw [heap_setCell_same w g 0 _ _ u h]; rfl
theorem Cel.set1 {w : World} {g : Nat} {v0 v1 v2 : Value} (h : Cel w g v0 v1 v2) (u : Value) : Cel (w.setCell ⟨g, 1, none⟩ u) g v0 u v2 := by
  unfold Cel; rw [heap_setCell_same w g 1 _ _ u h]; rfl
theorem Cel.set2 {w : World} {g : Nat} {v0 v1 v2 : Value} (h : Cel w g v0 v1 v2) (u : Value) : Cel (w.setCell ⟨g, 2, none⟩ u) g v0 v1 u := by
  unfold Cel; rw [heap_setCell_same w g 2 _ _ u h]; rfl
theorem Cel.other {w : World} {g : Nat} {v0 v1 v2 : Value} (h : Cel w g v0 v1 v2) {a : Addr} (ha : a.block ≠ g) (u : Value) : Cel (w.setCell a u) g v0 v1 v2 := by
  unfold Cel; rw [heap_setCell_other _ _ _ _ (fun e => ha e.symm)]; exact h
theorem Cel.wr {w : World} {g : Nat} {v0 v1 v2 : Value} (h : Cel w g v0 v1 v2) (u0 u1 u2 : Value) : Cel (wr3 w g u0 u1 u2) g u0 u1 u2 := ((h.set0 u0).set1 u1).set2 u2
theorem Cel.wrOther {w : World} {g g' : Nat} {v0 v1 v2 : Value} (h : Cel w g v0 v1 v2) (hg : g' ≠ g) (u0 u1 u2 : Value) : Cel (wr3 w g' u0 u1 u2) g v0 v1 v2 := ((h.other (a := ⟨g', 0, none⟩) hg u0).other (a := ⟨g', 1, none⟩) hg u1).other (a := ⟨g', 2, none⟩) hg u2
theorem Cel.drew {w : World} {g : Nat} {v0 v1 v2 : Value} (h : Cel w g v0 v1 v2) : Cel w.drew g v0 v1 v2 := h
theorem Cel.alloc {w : World} {g : Nat} {v0 v1 v2 : Value} (h : Cel w g v0 v1 v2) (o : Obj) : Cel (w.alloc o) g v0 v1 v2 := h.below ((Below.refl w.heap.size w).alloc (Nat.le_refl _) o) h.lt


section
variable {w w1 W : World} {B g g' n : Nat} {v0 v1 v2 a0 a1 a2 : Value}
theorem cel_wr_same (hW : W = wr3 w1 g v0 v1 v2) (h : Cel w1 g a0 a1 a2) : Cel W g v0 v1 v2 := hW ▸ h.wr v0 v1 v2
theorem cel_wr_ne (hW : W = wr3 w1 g v0 v1 v2) (h : Cel w1 g' a0 a1 a2) (hne : g ≠ g') : Cel W g' a0 a1 a2 := hW ▸ h.wrOther hne v0 v1 v2
theorem below_wr (hW : W = wr3 w1 g v0 v1 v2) (h : Below B w w1) (hg : B ≤ g) : Below B w W := hW ▸ below_wr3 h hg
theorem own_wr {e : TypeId} {base c : Nat} {a : Option Addr} {l : List Nat} (hW : W = wr3 w1 g v0 v1 v2) (h : Own w1 e base a c l) (hg : g < base) : Own W e base a c l := hW ▸ own_wr3 h hg
theorem size_wr (hW : W = wr3 w1 g v0 v1 v2) : W.heap.size = w1.heap.size := by rw [hW]; simp [wr3, World.setCell]
theorem cel_call (hb : Below B w1 W) (h : Cel w1 g a0 a1 a2) (hg : g < B) : Cel W g a0 a1 a2 := h.below hb hg
theorem below_call {B' : Nat} (hb : Below B' w1 W) (h : Below B w w1) (hB : B ≤ B') : Below B w W := h.trans (hb.mono hB)
theorem own_call {e : TypeId} {base c : Nat} {a : Option Addr} {l : List Nat} (hb : Below w1.heap.size w1 W) (h : Own w1 e base a c l) : Own W e base a c l := h.grow hb
theorem own_call' {e : TypeId} {base c : Nat} {a : Option Addr} {l : List Nat} {n : Nat} (hb : Below n w1 W) (h : Own w1 e base a c l) (hn : n = w1.heap.size) : Own W e base a c l := by subst hn; exact h.grow hb
theorem new_of {vs : Array Value} {T : TypeId} (hW : W = w.alloc (.cells vs T)) (hn : w.heap.size = n) : W.heap[n]? = some (.cells vs T (0, 0)) ∧ Below n w W ∧ W.heap.size = n + 1 := by
  subst hW; subst hn
  exact ⟨heap_alloc_new _ _, (Below.refl _ _).alloc (Nat.le_refl _) _, World.size_alloc _ _⟩
theorem new_cel (hW : W = w.alloc (.cells #[v0, v1, v2] 27)) (hn : w.heap.size = n) : Cel W n v0 v1 v2 ∧ Below n w W ∧ W.heap.size = n + 1 := new_of hW hn
theorem cel_drew (h : Cel w g v0 v1 v2) : Cel w.drew g v0 v1 v2 := h
theorem below_drew' (h : Below B w w1) : Below B w w1.drew := h.drew
theorem own_drew {e : TypeId} {base c : Nat} {a : Option Addr} {l : List Nat} (h : Own w e base a c l) : Own w.drew e base a c l := h
theorem cel_drew_eq (hW : W = w1.drew) (h : Cel w1 g v0 v1 v2) : Cel W g v0 v1 v2 := hW ▸ h
theorem below_drew_eq (hW : W = w1.drew) (h : Below B w w1) : Below B w W := hW ▸ h.drew
theorem own_drew_eq {e : TypeId} {base c : Nat} {a : Option Addr} {l : List Nat} (hW : W = w1.drew) (h : Own w1 e base a c l) : Own W e base a c l := hW ▸ h
theorem cel_drewN_eq {k : Nat} (hW : W = w1.drewN k) (h : Cel w1 g v0 v1 v2) : Cel W g v0 v1 v2 := hW ▸ h
theorem below_drewN_eq {k : Nat} (hW : W = w1.drewN k) (h : Below B w w1) : Below B w W := hW ▸ below_drewN' h
theorem own_drewN_eq {k : Nat} {e : TypeId} {base c : Nat} {a : Option Addr} {l : List Nat} (hW : W = w1.drewN k) (h : Own w1 e base a c l) : Own W e base a c l := hW ▸ h
end
end Go.Proofs.YtmokomfneikipaaDoor
