/- Contracts of package steelyardref02: Book.Take, Book.Owned. Contract of steelyardref02's Book.Owned. Contract of steelyardlaw03.took. What the laws of layer 3 share. Sums and products of forms commute; what the walks of the laws of layer 3 share. No statement of the seat is proved here. -/
import Derived.Test.YteahdgbokjbgcaaGreatDoorProg
import Derived.Test.YteahdgbokjbgcaaGreatDoorYMR
import Derived.Test.YteahdgbokjbgcaaGreatDoorYMH
namespace Go.Proofs.YteahdgbokjbgcaaGreatDoor
open Go.RowKit
set_option linter.unusedVariables false
set_option linter.unusedSimpArgs false

theorem row_ne' {w : World} {base B : Nat} {v : Value} {k : Nat} {xs : List Value} {cs : Array Value} {T : TypeId} {fr : Nat × Nat} (h1 : w.heap[B]? = some (.cells cs T fr)) (hT : T ≠ 44) (h2 : w.ownsRow base 44 1 v k xs) : v.ownBlock ≠ some B := by
  rcases h2.2 with ⟨rfl, _⟩ | ⟨g, cap, cur, rfl, _, hg, _⟩
  · simp [Value.ownBlock]
  · simp [Value.ownBlock]
    rintro rfl
    rw [h1] at hg; simp at hg; exact hT hg.2.1
end Go.Proofs.YteahdgbokjbgcaaGreatDoor
namespace Go.Proofs.YteahdgbokjbgcaaGreatDoor
open Go.RowKit
set_option linter.unusedVariables false
set_option linter.unusedSimpArgs false

/-- behind an append to a row of slices the words stand -/
theorem row_keeps {w w1 : World} {o : Obj} {b2 k g : Nat} {v : Value} {xs : List Value} {cs : Array Value} {T : TypeId} {fr : Nat × Nat} (hg : w.heap[g]? = some (.cells cs T fr)) (hT : T ≠ 44) (hr : w.ownsRow b2 44 1 v k xs) (hk : (w.alloc o).grownBy w1 v.ownBlock) : w1.heap[g]? = w.heap[g]? := by
  have hlt := (Array.getElem?_eq_some_iff.1 hg).1
  rw [hk.block g (by simp; omega) (fun e => row_ne' hg hT hr e.symm), World.alloc, Array.getElem?_push, if_neg (by omega)]

theorem Own.row {w w1 : World} {o : Obj} {b2 k base c : Nat} {v : Value} {xs : List Value} {a : Option Addr} {l : List Nat} (h : Own w 118 base a c l) (hr : w.ownsRow b2 44 1 v k xs) (hk : (w.alloc o).grownBy w1 v.ownBlock) : Own w1 118 base a c l := by
  rcases h with h | ⟨g, t, h1, h2, h3, h4, h5⟩
  · exact .inl h
  · exact .inr ⟨g, t, h1, h2, h3, h4, by unfold Blk; rw [row_keeps (g := g) h5 (by decide) hr hk]; exact h5⟩
end Go.Proofs.YteahdgbokjbgcaaGreatDoor
namespace Go.Proofs.YteahdgbokjbgcaaGreatDoor
open Go.RowKit
set_option linter.unusedVariables false
set_option linter.unusedSimpArgs false

theorem Own.lt {w : World} {e : TypeId} {base c : Nat} {a : Option Addr} {l : List Nat} (h : Own w e base a c l) (ad : Addr) (ha : a = some ad) : ad.block < w.heap.size := by
  rcases h with ⟨h1, _⟩ | ⟨g, t, h0, h1, h2, h3, h4⟩
  · rw [h1] at ha; cases ha
  · rw [h0] at ha; cases ha; exact h4.lt
theorem Own.ge {w : World} {e : TypeId} {base c : Nat} {a : Option Addr} {l : List Nat} (h : Own w e base a c l) (ad : Addr) (ha : a = some ad) : base ≤ ad.block := by
  rcases h with ⟨h1, _⟩ | ⟨g, t, h0, h1, h2, h3, h4⟩
  · rw [h1] at ha; cases ha
  · rw [h0] at ha; cases ha; exact h1
end Go.Proofs.YteahdgbokjbgcaaGreatDoor
namespace Go.Proofs.YteahdgbokjbgcaaGreatDoor
open Go.RowKit
set_option linter.unusedVariables false
set_option linter.unusedSimpArgs false

theorem bel_grown {B g : Nat} {w0 w w' : World} (h : Below B w0 w) (hB : B ≤ w0.heap.size) (hk : w.grownBy w' (some g)) (hg : B ≤ g) : Below B w0 w' :=
  ⟨hk.os.trans h.os, hk.tape.trans h.tape, hk.output.trans h.output, Nat.le_trans h.size hk.size, fun j hj => (hk.block j (Nat.lt_of_lt_of_le hj (Nat.le_trans hB h.size)) (by simp; omega)).trans (h.block j hj)⟩
theorem cel_grown {w w' : World} {g g' : Nat} {v0 v1 v2 : Value} (h : Cel w g' v0 v1 v2) (hk : w.grownBy w' (some g)) (hne : g' ≠ g) : Cel w' g' v0 v1 v2 :=
  (hk.block g' h.lt (by simpa using hne)).trans h
theorem own_grown {w w' : World} {e : TypeId} {g base c : Nat} {a : Option Addr} {l : List Nat} (h : Own w e base a c l) (hk : w.grownBy w' (some g)) (hne : ∀ ad, a = some ad → ad.block ≠ g) : Own w' e base a c l := by
  rcases h with h | ⟨g', t, h0, h1, h2, h3, h4⟩
  · exact .inl h
  · refine .inr ⟨g', t, h0, h1, h2, h3, ?_⟩
    have := hne _ h0
    exact (hk.block g' h4.lt (by simpa using this)).trans h4
/-- the cells of a list of Dyads -/
def cellsOf : List Arg → List Value
  | [] => []
  | x :: xs => .bool x.s :: .slice x.a x.l.length x.c :: .int .i64 x.e :: cellsOf xs
theorem outF_ok (s : Bool) (n : Nat) (e : Int) : (outO (formF s n e)).Ok := by
  cases h : formF s n e with
  | none => exact D.zero_ok
  | some d => exact formF_ok h
theorem Own.arg {w : World} {base c : Nat} {a : Option Addr} {d : D} (h : Own w 118 base a c (words d.m)) (hd : d.Ok) : (argOf d a c).Ok w :=
  ⟨h.sl (W32_words _), by have := hd.len; show (words d.m).length ≤ _; omega, by have := hd.lo; show _ ≤ d.exp; omega, by have := hd.hi; show d.exp ≤ _; omega⟩
theorem old_alloc {w : World} {g : Nat} {o : Obj} (h : w.heap[g]? = some o) (p : Obj) : (w.alloc p).heap[g]? = some o :=
  (((Below.refl w.heap.size w).alloc (Nat.le_refl _) p).block g (lt_of_block h)).trans h
theorem own_alloc {w : World} {e : TypeId} {base c : Nat} {a : Option Addr} {l : List Nat} (h : Own w e base a c l) (p : Obj) : Own (w.alloc p) e base a c l := h.grow ((Below.refl _ _).alloc (Nat.le_refl _) p)
theorem bel_alloc {B : Nat} {w w' : World} (h : Below B w w') (hB : B ≤ w.heap.size) (p : Obj) : Below B w (w'.alloc p) := h.alloc (Nat.le_trans hB h.size) p
theorem cel_apart {W : World} {base c g : Nat} {a : Option Addr} {l : List Nat} {v0 v1 v2 : Value} (h : Cel W g v0 v1 v2) (ho : Own W 118 base a c l) (ad : Addr) (ha : a = some ad) : ad.block ≠ g := by
  intro e
  rcases ho with ⟨h1, _⟩ | ⟨g', t, h0, h1, h2, h3, h4⟩
  · rw [h1] at ha; cases ha
  · rw [h0] at ha; cases ha
    have h5 : W.heap[g']? = _ := h4
    have h6 : W.heap[g]? = _ := h
    simp only at e
    subst e
    rw [h6] at h5
    injection h5 with h7
    injection h7 with h8 h9
    exact absurd h9 (by decide)
end Go.Proofs.YteahdgbokjbgcaaGreatDoor
namespace Go.Proofs.YteahdgbokjbgcaaGreatDoor
open Go.RowKit
set_option linter.unusedVariables false
set_option linter.unusedSimpArgs false

theorem formF_zero {s : Bool} {n : Nat} {e : Int} {d : D} (h : formF s n e = some d) (h0 : d.m = 0) : d = D.zero := by
  unfold formF at h
  split at h
  · cases h; rfl
  · next hn =>
    split at h
    · cases h
    · cases h
      obtain ⟨m, h1, h2⟩ := low_spec hn
      have h3 : n / 2 ^ low n = m := by
        conv => lhs; arg 1; rw [h1]
        exact Nat.mul_div_cancel_left _ (Nat.two_pow_pos _)
      dsimp only at h0
      rw [h3] at h0; subst h0; simp at h2
theorem addD_ok {p q : D} (hp : p.Ok) (hq : q.Ok) : (outO (addD p q)).Ok := by
  unfold addD
  split
  · exact hq
  · split
    · exact hp
    · split
      · exact D.zero_ok
      · split
        · exact outF_ok _ _ _
        · split
          · exact outF_ok _ _ _
          · exact outF_ok _ _ _
end Go.Proofs.YteahdgbokjbgcaaGreatDoor
