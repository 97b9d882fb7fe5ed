/- Sums and products of forms commute; what the walks of the laws of layer 3 share. No statement of the seat is proved here. -/
import Derived.Test.YtmokomfneikipaaDoorProg
import Derived.Test.YtmokomfneikipaaDoorEn
namespace Go.Proofs.YtmokomfneikipaaDoor
open Go.RowKit
set_option linter.unusedVariables false
set_option linter.unusedSimpArgs false

theorem formF_zero {s : Bool} {n : Nat} {e : Int} {d : D} (h : formF s n e = some d) (h0 : d.m = 0) : d = D.zero := by
  unfold formF at h
  split at h
  · cases h; rfl
  · next hn =>
    split at h
    · cases h
    · cases h
      obtain ⟨m, h1, h2⟩ := low_spec hn
      have h3 : n / 2 ^ low n = m := by
        conv => lhs; arg 1; rw [h1]
        exact Nat.mul_div_cancel_left _ (Nat.two_pow_pos _)
      dsimp only at h0
      rw [h3] at h0; subst h0; simp at h2
theorem formF_nought (s t : Bool) (e f : Int) : formF s 0 e = formF t 0 f := by unfold formF; rw [if_pos rfl, if_pos rfl]
theorem addD_comm {p q : D} (hp : p.m = 0 → p = D.zero) (hq : q.m = 0 → q = D.zero) : addD p q = addD q p := by
  unfold addD
  by_cases h1 : p.m = 0
  · by_cases h2 : q.m = 0
    · rw [if_pos h1, if_pos h2, hp h1, hq h2]
    · rw [if_pos h1, if_neg h2, if_pos h1]
  · by_cases h2 : q.m = 0
    · rw [if_neg h1, if_pos h2, if_pos h2]
    · rw [if_neg h1, if_neg h2, if_neg h2, if_neg h1, Int.min_comm q.exp p.exp]
      generalize p.m * 2 ^ (p.exp - min p.exp q.exp).toNat = A
      generalize q.m * 2 ^ (q.exp - min p.exp q.exp).toNat = B
      by_cases h3 : 8192 < (words A).length ∨ 8192 < (words B).length
      · rw [if_pos h3, if_pos (show 8192 < (words B).length ∨ 8192 < (words A).length by omega)]
      · rw [if_neg h3, if_neg (show ¬ (8192 < (words B).length ∨ 8192 < (words A).length) by omega)]
        by_cases h4 : p.neg = q.neg
        · rw [if_pos h4, if_pos h4.symm, h4, Nat.add_comm]
        · rw [if_neg h4, if_neg (show ¬ q.neg = p.neg from fun h => h4 h.symm)]
          rcases Nat.lt_trichotomy A B with h5 | h5 | h5
          · rw [if_pos h5, if_neg (show ¬ B < A by omega)]
          · subst h5
            rw [if_neg (show ¬ A < A by omega), if_neg (show ¬ A < A by omega), Nat.sub_self]; exact formF_nought _ _ _ _
          · rw [if_neg (show ¬ A < B by omega), if_pos h5]
theorem addF_comm (s : Bool) (n : Nat) (e : Int) (t : Bool) (m : Nat) (f : Int) : addO (formF s n e) (formF t m f) = addO (formF t m f) (formF s n e) := by
  cases h1 : formF s n e with
  | none => cases formF t m f <;> rfl
  | some p =>
    cases h2 : formF t m f with
    | none => rfl
    | some q => exact addD_comm (formF_zero h1) (formF_zero h2)
theorem mulF_comm (s : Bool) (n : Nat) (e : Int) (t : Bool) (m : Nat) (f : Int) : mulO (formF s n e) (formF t m f) = mulO (formF t m f) (formF s n e) := by
  cases h1 : formF s n e with
  | none => cases formF t m f <;> rfl
  | some p =>
    cases h2 : formF t m f with
    | none => rfl
    | some q =>
      show mulD p q = mulD q p
      unfold mulD
      rw [Nat.mul_comm, Int.add_comm, show (p.neg != q.neg) = (q.neg != p.neg) by cases p.neg <;> cases q.neg <;> rfl]
theorem addD_ok {p q : D} (hp : p.Ok) (hq : q.Ok) : (outO (addD p q)).Ok := by
  unfold addD
  split
  · exact hq
  · split
    · exact hp
    · split
      · exact D.zero_ok
      · split
        · exact outF_ok _ _ _
        · split
          · exact outF_ok _ _ _
          · exact outF_ok _ _ _
theorem addO_ok (s : Bool) (n : Nat) (e : Int) (t : Bool) (m : Nat) (f : Int) : (outO (addO (formF s n e) (formF t m f))).Ok := by
  cases h1 : formF s n e with
  | none => exact D.zero_ok
  | some p =>
    cases h2 : formF t m f with
    | none => exact D.zero_ok
    | some q => exact addD_ok (formF_ok h1) (formF_ok h2)
theorem mulO_ok (s : Bool) (n : Nat) (e : Int) (t : Bool) (m : Nat) (f : Int) : (outO (mulO (formF s n e) (formF t m f))).Ok := by
  cases h1 : formF s n e with
  | none => exact D.zero_ok
  | some p =>
    cases h2 : formF t m f with
    | none => exact D.zero_ok
    | some q => exact outF_ok _ _ _
theorem lent_ok {w W : World} {s : Bool} {a : Option Addr} {l : List Nat} {c g : Nat} {e : Int} (hx : Arg.Ok w ⟨s, a, l, c, e⟩) (h : Blk W 64 g (l ++ [71, 72])) : Arg.Ok W ⟨s, some ⟨g, 0, none⟩, l, l.length + 2, e⟩ :=
  ⟨sl_lent h hx.sl.w32, hx.len, hx.lo, hx.hi⟩
theorem three_alloc_1 (w : World) (o : Obj) (vs us : Array Value) (T U : TypeId) : (((w.alloc o).alloc (.cells vs T)).alloc (.cells us U)).heap[w.heap.size + 1]? = some (.cells vs T (0, 0)) := by
  have := two_alloc_0 (w.alloc o) vs us T U
  rwa [World.size_alloc] at this
theorem three_alloc_2 (w : World) (o : Obj) (vs us : Array Value) (T U : TypeId) : (((w.alloc o).alloc (.cells vs T)).alloc (.cells us U)).heap[w.heap.size + 1 + 1]? = some (.cells us U (0, 0)) := by
  have := two_alloc_1 (w.alloc o) vs us T U
  rwa [World.size_alloc] at this
end Go.Proofs.YtmokomfneikipaaDoor
