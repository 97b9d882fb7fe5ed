/- What the laws of layer 3 share. No statement of the seat is proved here. -/
import Derived.Test.YtmokomfneikipaaDoorProg
import Derived.Test.YtmokomfneikipaaDoorEm
namespace Go.Proofs.YtmokomfneikipaaDoor
open Go.RowKit
set_option linter.unusedVariables false
set_option linter.unusedSimpArgs false

theorem bel_grown {B g : Nat} {w0 w w' : World} (h : Below B w0 w) (hB : B ≤ w0.heap.size) (hk : w.grownBy w' (some g)) (hg : B ≤ g) : Below B w0 w' :=
  ⟨hk.os.trans h.os, hk.tape.trans h.tape, hk.output.trans h.output, Nat.le_trans h.size hk.size, fun j hj => (hk.block j (Nat.lt_of_lt_of_le hj (Nat.le_trans hB h.size)) (by simp; omega)).trans (h.block j hj)⟩
theorem cel_grown {w w' : World} {g g' : Nat} {v0 v1 v2 : Value} (h : Cel w g' v0 v1 v2) (hk : w.grownBy w' (some g)) (hne : g' ≠ g) : Cel w' g' v0 v1 v2 :=
  (hk.block g' h.lt (by simpa using hne)).trans h
theorem own_grown {w w' : World} {e : TypeId} {g base c : Nat} {a : Option Addr} {l : List Nat} (h : Own w e base a c l) (hk : w.grownBy w' (some g)) (hne : ∀ ad, a = some ad → ad.block ≠ g) : Own w' e base a c l := by
  rcases h with h | ⟨g', t, h0, h1, h2, h3, h4⟩
  · exact .inl h
  · refine .inr ⟨g', t, h0, h1, h2, h3, ?_⟩
    have := hne _ h0
    exact (hk.block g' h4.lt (by simpa using this)).trans h4
theorem blk_grown {w w' : World} {e : TypeId} {g g' : Nat} {l : List Nat} (h : Blk w e g' l) (hk : w.grownBy w' (some g)) (hne : g' ≠ g) : Blk w' e g' l :=
  (hk.block g' h.lt (by simpa using hne)).trans h
theorem sl_lent {w : World} {e : TypeId} {g : Nat} {l : List Nat} (h : Blk w e g (l ++ [71, 72])) (hw : W32 l) : Sl w (some ⟨g, 0, none⟩) (l.length + 2) l :=
  ⟨by have := h.rd.take l.length; simpa using this, hw, by omega, fun h => by cases h⟩
/-- the cells of a list of Dyads -/
def cellsOf : List Arg → List Value
  | [] => []
  | x :: xs => .bool x.s :: .slice x.a x.l.length x.c :: .int .i64 x.e :: cellsOf xs
theorem cellsOf_get {xs : List Arg} {i : Nat} {x : Arg} (h : xs[i]? = some x) : (cellsOf xs)[i * 3]? = some (.bool x.s) ∧ (cellsOf xs)[i * 3 + 1]? = some (.slice x.a x.l.length x.c) ∧ (cellsOf xs)[i * 3 + 2]? = some (.int .i64 x.e) := by
  induction xs generalizing i with
  | nil => simp at h
  | cons y ys ih =>
    cases i with
    | zero => simp at h; subst h; simp [cellsOf]
    | succ i =>
      rw [List.getElem?_cons_succ] at h
      obtain ⟨h1, h2, h3⟩ := ih h
      rw [show (i + 1) * 3 = i * 3 + 3 by omega]
      simp only [cellsOf]
      exact ⟨h1, h2, h3⟩
theorem dys_block {w : World} {g : Nat} {T : TypeId} {vs : Array Value} {xs : List Arg} (h : w.heap[g]? = some (.cells vs T (0, 0))) (hv : vs.toList = cellsOf xs) : Dys w g xs := by
  intro i x hx
  obtain ⟨h1, h2, h3⟩ := cellsOf_get hx
  rw [← hv, Array.getElem?_toList] at h1 h2 h3
  refine ⟨?_, ?_, ?_⟩
  · rw [cell_of_row w g _ _ _ _ h]; exact h1
  · rw [cell_of_row w g _ _ _ _ h]; exact h2
  · rw [cell_of_row w g _ _ _ _ h]; exact h3
theorem ofF_ok (b : Nat) : (outO (ofF b)).Ok := by
  cases h : ofF b with
  | none => exact D.zero_ok
  | some d =>
    unfold ofF bitsF at h
    split at h
    · cases h
    · exact formF_ok h
theorem outF_ok (s : Bool) (n : Nat) (e : Int) : (outO (formF s n e)).Ok := by
  cases h : formF s n e with
  | none => exact D.zero_ok
  | some d => exact formF_ok h
theorem Own.arg {w : World} {base c : Nat} {a : Option Addr} {d : D} (h : Own w 64 base a c (words d.m)) (hd : d.Ok) : (argOf d a c).Ok w :=
  ⟨h.sl (W32_words _), by have := hd.len; show (words d.m).length ≤ _; omega, by have := hd.lo; show _ ≤ d.exp; omega, by have := hd.hi; show d.exp ≤ _; omega⟩
theorem two_alloc_0 (w : World) (vs us : Array Value) (T U : TypeId) : ((w.alloc (.cells vs T)).alloc (.cells us U)).heap[w.heap.size]? = some (.cells vs T (0, 0)) :=
  (((Below.refl (w.heap.size + 1) (w.alloc (.cells vs T))).alloc (by rw [World.size_alloc]; omega) (.cells us U)).block w.heap.size (by omega)).trans (heap_alloc_new _ _)
theorem two_alloc_1 (w : World) (vs us : Array Value) (T U : TypeId) : ((w.alloc (.cells vs T)).alloc (.cells us U)).heap[w.heap.size + 1]? = some (.cells us U (0, 0)) := by
  have := heap_alloc_new (w.alloc (.cells vs T)) (.cells us U)
  rwa [World.size_alloc] at this
theorem old_alloc {w : World} {g : Nat} {o : Obj} (h : w.heap[g]? = some o) (p : Obj) : (w.alloc p).heap[g]? = some o :=
  (((Below.refl w.heap.size w).alloc (Nat.le_refl _) p).block g (lt_of_block h)).trans h
theorem own_alloc {w : World} {e : TypeId} {base c : Nat} {a : Option Addr} {l : List Nat} (h : Own w e base a c l) (p : Obj) : Own (w.alloc p) e base a c l := h.grow ((Below.refl _ _).alloc (Nat.le_refl _) p)
theorem bel_alloc {B : Nat} {w w' : World} (h : Below B w w') (hB : B ≤ w.heap.size) (p : Obj) : Below B w (w'.alloc p) := h.alloc (Nat.le_trans hB h.size) p
/-- one more at the front of a chain -/
theorem Chain.cons {w : World} {base mid c : Nat} {a : Option Addr} {d : D} {xs : List Arg} (h : Own w 64 base a c (words d.m)) (hm : base ≤ mid) (hlt : ∀ ad, a = some ad → ad.block < mid) (hc : Chain w mid xs) : Chain w base (argOf d a c :: xs) := ⟨h, mid, hm, hlt, hc⟩
theorem cel_apart {W : World} {base c g : Nat} {a : Option Addr} {l : List Nat} {v0 v1 v2 : Value} (h : Cel W g v0 v1 v2) (ho : Own W 64 base a c l) (ad : Addr) (ha : a = some ad) : ad.block ≠ g := by
  intro e
  rcases ho with ⟨h1, _⟩ | ⟨g', t, h0, h1, h2, h3, h4⟩
  · rw [h1] at ha; cases ha
  · rw [h0] at ha; cases ha
    have h5 : W.heap[g']? = _ := h4
    have h6 : W.heap[g]? = _ := h
    simp only at e
    subst e
    rw [h6] at h5
    injection h5 with h7
    injection h7 with h8 h9
    exact absurd h9 (by decide)
/-- took, and the variables stay -/
theorem took_cel (base g k : Nat) (xs ys : List Arg) (w : World) (hbase : base ≤ w.heap.size) (hn : xs.length ≤ 100) (hlen : ys.length = xs.length) (hg : g < w.heap.size) (hk : k < w.heap.size) (hdx : Dys w g xs) (hdy : Dys w k ys)
    (hc : Chain w base xs) (hx : ∀ x ∈ xs, x.Ok w ∧ x.l.length ≤ 10000) (hy : ∀ y ∈ ys, y.Ok w) (hsame : ∀ (i : Nat) (x y : Arg), xs[i]? = some x → ys[i]? = some y → x.s = y.s ∧ x.e = y.e ∧ x.l = y.l) :
    Calls Tryd.prog 19 #[.slice (some ⟨g, 0, none⟩) xs.length xs.length, .slice (some ⟨k, 0, none⟩) ys.length ys.length] w fun en w' => en = .returned (.bool true) ∧ Below base w w' ∧ ∀ g v0 v1 v2, Cel w g v0 v1 v2 → Cel w' g v0 v1 v2 := by
  refine (took_any base g k xs ys w hbase hn hlen hg hk hdx hdy hc hx hy hsame).mono ?_
  rintro en w' ⟨h1, h2⟩
  exact ⟨h1, h2.b, fun g v0 v1 v2 h => (h2.k g ⟨h.lt, fun x hx ad ha => cel_apart h (hc.own hx) ad ha⟩).trans h⟩
end Go.Proofs.YtmokomfneikipaaDoor
