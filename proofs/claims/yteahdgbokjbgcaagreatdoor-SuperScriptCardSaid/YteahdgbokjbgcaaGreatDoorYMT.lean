/- Contracts of sums.Kahan, Neumaier: the steps, way.sum. Slices of values of whatever kind: what can be read, blocks, slices of the call's own, append. Contracts: policy.May of whatever policy, sums.Exact, sums.Halving. No statement of the seat is proved here. -/
import Derived.Test.YteahdgbokjbgcaaGreatDoorProg
import Derived.Test.YteahdgbokjbgcaaGreatDoorYMS
import Derived.Test.YteahdgbokjbgcaaGreatDoorYA
import Derived.Deep.AppendSrc
namespace Go.Proofs.YteahdgbokjbgcaaGreatDoor
open Go.RowKit
set_option linter.unusedVariables false
set_option linter.unusedSimpArgs false

end Go.Proofs.YteahdgbokjbgcaaGreatDoor
namespace Go.Proofs.YteahdgbokjbgcaaGreatDoor
open Go.RowKit
set_option linter.unusedVariables false
set_option linter.unusedSimpArgs false

/-- values that can be read at an address -/
def VRd (w : World) (a : Option Addr) (l : List Value) : Prop :=
  ∀ i v, l[i]? = some v → ∃ b off, a = some ⟨b, off, none⟩ ∧ w.cell? ⟨b, off + i, none⟩ = some v
theorem VRd.nil (w : World) (a : Option Addr) : VRd w a [] := fun i x h => by simp at h
theorem VRd.take {w : World} {a : Option Addr} {l : List Value} (h : VRd w a l) (k : Nat) : VRd w a (l.take k) := fun i x hx => by
  rw [List.getElem?_take] at hx
  split at hx
  · exact h i x hx
  · cases hx
theorem VRd.drop {w : World} {b off : Nat} {l : List Value} (h : VRd w (some ⟨b, off, none⟩) l) (k : Nat) : VRd w (some ⟨b, off + k, none⟩) (l.drop k) := fun i x hx => by
  rw [List.getElem?_drop] at hx
  obtain ⟨b', off', e, h2⟩ := h _ x hx
  cases e
  exact ⟨b, off + k, rfl, by rw [Nat.add_assoc]; exact h2⟩
theorem VRd.below {B : Nat} {w w' : World} {a : Option Addr} {l : List Value} (h : VRd w a l) (hb : Below B w w') (hB : ∀ ad, a = some ad → l ≠ [] → ad.block < B) : VRd w' a l := fun i x hx => by
  obtain ⟨b, off, rfl, h2⟩ := h i x hx
  refine ⟨b, off, rfl, ?_⟩
  rw [hb.cell (p := ⟨b, off + i, none⟩) (hB ⟨b, off, none⟩ rfl (by rintro rfl; simp at hx))]; exact h2
theorem VRd.lt {w : World} {a : Option Addr} {l : List Value} (h : VRd w a l) {ad : Addr} (ha : a = some ad) (hl : l ≠ []) : ad.block < w.heap.size := by
  cases l with
  | nil => exact absurd rfl hl
  | cons x l =>
    obtain ⟨b, off, h1, h2⟩ := h 0 x rfl
    rw [h1] at ha; cases ha
    exact World.block_lt_of_cell? _ _ h2
theorem VRd.grow {w w' : World} {a : Option Addr} {l : List Value} (h : VRd w a l) (hb : Below w.heap.size w w') : VRd w' a l :=
  h.below hb fun _ ha hl => h.lt ha hl

/-- a block of cells -/
def VBlk (w : World) (e : TypeId) (g : Nat) (l : List Value) : Prop := w.heap[g]? = some (.cells l.toArray e (0, 0))
section
variable {w w' : World} {e : TypeId} {g k : Nat} {l : List Value}
theorem VBlk.cell (h : VBlk w e g l) {i : Nat} {x : Value} (hx : l[i]? = some x) : w.cell? ⟨g, i, none⟩ = some x := by
  rw [cell_of_row w g i _ e (0, 0) h]; simpa using hx
theorem VBlk.frozen (h : VBlk w e g l) (i : Nat) : w.frozen? ⟨g, i, none⟩ = false := frozen_of_row w g i _ e h
theorem VBlk.lt (h : VBlk w e g l) : g < w.heap.size := (Array.getElem?_eq_some_iff.1 h).1
theorem VBlk.set (h : VBlk w e g l) (i : Nat) (x : Value) : VBlk (w.setCell ⟨g, i, none⟩ x) e g (l.set i x) := by
  unfold VBlk
  rw [heap_setCell_same w g i _ e _ h]
  congr 2
  apply Array.toList_inj.1
  simp
theorem VBlk.other (h : VBlk w e g l) {a : Addr} (ha : a.block ≠ g) (v : Value) : VBlk (w.setCell a v) e g l := by
  unfold VBlk; rw [heap_setCell_other _ _ _ _ (fun e => ha e.symm)]; exact h
theorem VBlk.alloc (h : VBlk w e g l) (o : Obj) : VBlk (w.alloc o) e g l := by
  unfold VBlk; rw [World.alloc, Array.getElem?_push, if_neg (Nat.ne_of_lt h.lt)]; exact h
theorem VBlk.drew (h : VBlk w e g l) : VBlk w.drew e g l := h
theorem VBlk.below {B : Nat} (h : VBlk w e g l) (hb : Below B w w') (hg : g < B) : VBlk w' e g l := by
  unfold VBlk; rw [hb.block g hg]; exact h
theorem VBlk.grow (h : VBlk w e g l) (hb : Below w.heap.size w w') : VBlk w' e g l := h.below hb h.lt
theorem VBlk.grown (h : VBlk w e g l) {r : Nat} (hk : w.grownBy w' (some r)) (hne : g ≠ r) : VBlk w' e g l := (hk.block g h.lt (by simpa using hne)).trans h
theorem VBlk.rd (h : VBlk w e g l) : VRd w (some ⟨g, 0, none⟩) l := fun i x hx => ⟨g, 0, rfl, by rw [Nat.zero_add]; exact h.cell hx⟩
theorem VBlk.rdAt {p q : List Value} (h : VBlk w e g (p ++ (l ++ q))) : VRd w (some ⟨g, p.length, none⟩) l := fun i x hx => ⟨g, p.length, rfl, by
  refine h.cell ?_
  rw [List.getElem?_append_right (by omega), Nat.add_sub_cancel_left, List.getElem?_append_left (List.getElem?_eq_some_iff.1 hx).1]; exact hx⟩
end
/-- a slice in memory of its own, from a block on; sz cells an element -/
def VOwn (w : World) (e : TypeId) (sz base : Nat) (a : Option Addr) (c : Nat) (l : List Value) : Prop :=
  (a = none ∧ c = 0 ∧ l = []) ∨ ∃ g p t, a = some ⟨g, p.length, none⟩ ∧ base ≤ g ∧ l.length ≤ c * sz ∧ c * sz ≤ (l ++ t).length ∧ VBlk w e g (p ++ (l ++ t))
section
variable {w w' : World} {e : TypeId} {sz base c : Nat} {a : Option Addr} {l : List Value}
theorem VOwn.none (w : World) (e : TypeId) (sz base : Nat) : VOwn w e sz base none 0 [] := .inl ⟨rfl, rfl, rfl⟩
theorem VOwn.of {g n : Nat} (h : VBlk w e g l) (hb : base ≤ g) (hn : l.length = n * sz) : VOwn w e sz base (some ⟨g, 0, Option.none⟩) n l := .inr ⟨g, [], [], rfl, hb, by omega, by simp; omega, by simpa using h⟩
theorem VOwn.rd (h : VOwn w e sz base a c l) : VRd w a l := by
  rcases h with ⟨rfl, rfl, rfl⟩ | ⟨g, p, t, rfl, hb, h1, h2, h3⟩
  · exact VRd.nil _ _
  · exact h3.rdAt
theorem VOwn.mono {b : Nat} (h : VOwn w e sz base a c l) (hb : b ≤ base) : VOwn w e sz b a c l := by
  rcases h with h | ⟨g, p, t, h0, h1, h2⟩
  · exact .inl h
  · exact .inr ⟨g, p, t, h0, by omega, h2⟩
theorem VOwn.grow (h : VOwn w e sz base a c l) (hb : Below w.heap.size w w') : VOwn w' e sz base a c l := by
  rcases h with h | ⟨g, p, t, h0, h1, h2, h3, h4⟩
  · exact .inl h
  · exact .inr ⟨g, p, t, h0, h1, h2, h3, h4.grow hb⟩
theorem VOwn.grown (h : VOwn w e sz base a c l) {r : Nat} (hk : w.grownBy w' (some r)) (hne : ∀ ad, a = some ad → ad.block ≠ r) : VOwn w' e sz base a c l := by
  rcases h with h | ⟨g, p, t, h0, h1, h2, h3, h4⟩
  · exact .inl h
  · have := hne _ h0
    exact .inr ⟨g, p, t, h0, h1, h2, h3, h4.grown hk this⟩
theorem VOwn.ge (h : VOwn w e sz base a c l) (ad : Addr) (ha : a = some ad) : base ≤ ad.block := by
  rcases h with ⟨rfl, _⟩ | ⟨g, p, t, h0, h1, _⟩
  · cases ha
  · rw [h0] at ha; cases ha; exact h1
theorem VOwn.lt (h : VOwn w e sz base a c l) (ad : Addr) (ha : a = some ad) : ad.block < w.heap.size := by
  rcases h with ⟨rfl, _⟩ | ⟨g, p, t, h0, h1, h2, h3, h4⟩
  · cases ha
  · rw [h0] at ha; cases ha; exact h4.lt
theorem VOwn.cap (h : VOwn w e sz base a c l) : l.length ≤ c * sz := by
  rcases h with ⟨rfl, rfl, rfl⟩ | ⟨g, p, t, rfl, hb, h1, h2, h3⟩
  · simp
  · exact h1
/-- cut at its end, by so many elements kept -/
theorem VOwn.cut (h : VOwn w e sz base a c l) (k : Nat) : VOwn w e sz base a c (l.take k) := by
  rcases h with ⟨rfl, rfl, rfl⟩ | ⟨g, p, t, h0, h1, h2, h3, h4⟩
  · exact .inl ⟨rfl, rfl, by simp⟩
  · exact .inr ⟨g, p, l.drop k ++ t, h0, h1, by simp; omega, by rw [← List.append_assoc, List.take_append_drop]; exact h3, by rw [← List.append_assoc (l.take k), List.take_append_drop]; exact h4⟩
/-- cut at its front -/
theorem VOwn.skip {b off : Nat} (h : VOwn w e sz base (some ⟨b, off, Option.none⟩) c l) {k : Nat} (hk : k * sz ≤ l.length) : VOwn w e sz base (some ⟨b, off + k * sz, Option.none⟩) (c - k) (l.drop (k * sz)) := by
  rcases h with ⟨h, _⟩ | ⟨g, p, t, h0, h1, h2, h3, h4⟩
  · cases h
  · cases h0
    refine .inr ⟨b, p ++ l.take (k * sz), t, by simp [Nat.min_eq_left hk], h1, ?_, ?_, ?_⟩
    · rw [List.length_drop, Nat.sub_mul]; omega
    · rw [Nat.sub_mul]; simp at h3 ⊢; omega
    · rw [List.append_assoc, ← List.append_assoc (l.take _), List.take_append_drop]; exact h4
end

theorem VOwn.drew {w : World} {e : TypeId} {sz base c : Nat} {a : Option Addr} {l : List Value} (h : VOwn w e sz base a c l) : VOwn w.drew e sz base a c l := by
  rcases h with h | ⟨g, p, t, h0, h1, h2, h3, h4⟩
  · exact .inl h
  · exact .inr ⟨g, p, t, h0, h1, h2, h3, h4⟩
theorem VOwn.row {w : World} {e : TypeId} {sz base c : Nat} {a : Option Addr} {l : List Value} (h : VOwn w e sz base a c l) : ∀ g, a.map (·.block) = some g → base ≤ g := by
  intro g hg
  obtain ⟨ad, had, rfl⟩ := Option.map_eq_some_iff.1 hg
  exact h.ge ad had
end Go.Proofs.YteahdgbokjbgcaaGreatDoor
namespace Go.Proofs.YteahdgbokjbgcaaGreatDoor
open Go.RowKit
set_option linter.unusedVariables false
set_option linter.unusedSimpArgs false

def okB (n : Int) : Bool := decide (0 ≤ n) && decide (n ≤ 2)
set_option maxRecDepth 10000 in
set_option maxHeartbeats 1000000 in
theorem choice_all (n : Int) (w : World) : Calls Tryz.prog 249 #[.int .i64 n] w fun en w' => en = .returned (.bool (okB n)) ∧ w = w' := by
  unfold okB
  by_cases h1 : 0 ≤ n
  · by_cases h2 : n ≤ 2
    · rw [decide_eq_true h1, decide_eq_true h2]
      go_enter Tryz.func249, Tryz.ntmps249
      go_wp2_with fail
      go_ret
      exact ⟨rfl, rfl⟩
    · rw [decide_eq_true h1, decide_eq_false h2]
      go_enter Tryz.func249, Tryz.ntmps249
      go_wp2_with fail
      go_ret
      exact ⟨rfl, rfl⟩
  · rw [decide_eq_false h1]
    go_enter Tryz.func249, Tryz.ntmps249
    go_wp2_with fail
    go_ret
    exact ⟨rfl, rfl⟩
def okP (pn pi : Int) : Bool := okB pn && okB pi
set_option maxRecDepth 10000 in
set_option maxHeartbeats 2000000 in
theorem may_all (pn pi : Int) (w : World) : Calls Tryz.prog 157 #[pol pn pi] w fun en w' => en = .returned (.bool (okP pn pi)) ∧ Below w.heap.size w w' := by
  have HB : Hid (Below w.heap.size w (w.alloc (.cells #[.int .i64 pn, .int .i64 pi] 61))) := (Below.refl _ _).alloc (Nat.le_refl _) _
  have h1 := fun W => choice_all pn W
  have h2 := fun W => choice_all pi W
  unfold pol okP
  have H1 := Lib.hid h1; have H2 := Lib.hid h2
  clear h1 h2
  cases hp : okB pn with
  | true =>
    rw [hp] at H1
    clear hp
    generalize okB pi = b at *
    go_enter Tryz.func157, Tryz.ntmps157
    go_wp2_with (first
      | (go_at_call 249; refine (H1.out _).mono ?_; rintro e w' ⟨rfl, rfl⟩)
      | (go_at_call 249; refine (H2.out _).mono ?_; rintro e w' ⟨rfl, rfl⟩))
    go_ret
    exact ⟨by simp, HB.out⟩
  | false =>
    rw [hp] at H1
    clear hp
    go_enter Tryz.func157, Tryz.ntmps157
    go_wp2_with (go_at_call 249; refine (H1.out _).mono ?_; rintro e w' ⟨rfl, rfl⟩)
    go_ret
    exact ⟨rfl, HB.out⟩
theorem okP_iff (pn pi : Int) : okP pn pi = true ↔ (0 ≤ pn ∧ pn ≤ 2) ∧ 0 ≤ pi ∧ pi ≤ 2 := by unfold okP okB; simp

def badM (mode pn pi : Int) : Prop := mode < 0 ∨ 4 < mode ∨ okP pn pi = false
end Go.Proofs.YteahdgbokjbgcaaGreatDoor
