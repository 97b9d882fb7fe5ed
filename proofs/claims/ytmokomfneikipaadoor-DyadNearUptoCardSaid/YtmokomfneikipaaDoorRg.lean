/- Contracts of package steelyardref02: Book.Take, Book.Owned. No statement of the seat is proved here. -/
import Derived.Test.YtmokomfneikipaaDoorProg
import Derived.Test.YtmokomfneikipaaDoorRd
namespace Go.Proofs.YtmokomfneikipaaDoor
open Go.RowKit
set_option linter.unusedVariables false
set_option linter.unusedSimpArgs false

theorem infoN : (Tryd.prog.info? 24).map (fun i => (i.zero, i.size, i.bytes)) = some (some (.slice none 0 0), 1, 24) := by kernel_rfl

/-- a Book at a block, its list of slices in a row of its own -/
def BookAt (w : World) (base B : Nat) (v : Value) (k : Nat) (xs : List Value) : Prop :=
  w.heap[B]? = some (.cells #[v] 79 (0, 0)) ∧ w.ownsRow base 24 1 v k xs

theorem row_ne' {w : World} {base B : Nat} {v : Value} {k : Nat} {xs : List Value} {cs : Array Value} {T : TypeId} {fr : Nat × Nat} (h1 : w.heap[B]? = some (.cells cs T fr)) (hT : T ≠ 24) (h2 : w.ownsRow base 24 1 v k xs) : v.ownBlock ≠ some B := by
  rcases h2.2 with ⟨rfl, _⟩ | ⟨g, cap, cur, rfl, _, hg, _⟩
  · simp [Value.ownBlock]
  · simp [Value.ownBlock]
    rintro rfl
    rw [h1] at hg; simp at hg; exact hT hg.2.1
theorem row_ne {w : World} {base B : Nat} {v : Value} {k : Nat} {xs : List Value} (h : BookAt w base B v k xs) : v.ownBlock ≠ some B := row_ne' h.1 (by decide) h.2

set_option maxHeartbeats 1000000 in
set_option maxRecDepth 10000 in
theorem take_any (base B : Nat) (v : Value) (k : Nat) (xs : List Value) (a : Option Addr) (n c : Nat) (w : World) (hk : k ≤ 1000000) (hbase : base ≤ w.heap.size) (hB : BookAt w base B v k xs) :
    Calls Tryd.prog 55 #[.pointer (some ⟨B, 0, none⟩), .slice a n c] w fun e w' => e = .returned (.tuple #[]) ∧ ∃ v', BookAt w' base B v' (k + 1) (xs ++ [.slice a n c]) ∧
      (∀ j, j < w.heap.size → j ≠ B → some j ≠ v.ownBlock → w'.heap[j]? = w.heap[j]?) ∧ w'.os = w.os ∧ w'.tape = w.tape ∧ w'.output = w.output ∧ w.heap.size ≤ w'.heap.size := by
  obtain ⟨i0, hi, hz0, hz1, hz2⟩ := info_parts infoN
  have hc := cell_of_one hB.1
  have hBl := lt_of_block hB.1
  have hne := Lib.hid (row_ne hB)
  have HB := Lib.hid hB; clear hB
  have hA := Lib.hid (HB.out.2.alloc (.cells #[.slice a n c] 24))
  go_enter Tryd.func55, Tryd.ntmps55
  go_wp2_with (first | (at_builtin; refine wpList_append_own _ rfl _ _ 77 rfl base 24 i0 (.slice none 0 0) 1 24 Tryd.underlying77 hi hz0 hz1 hz2 rfl (by decide) v k xs rfl hA.out ⟨w.heap.size, 0, none⟩ 1 1 [.slice a n c] rfl rfl ?_ ?_ (by unfold maxLen; omega) (by omega) (by simp; omega) ?_))
  · intro j u hj
    match j, hj with
    | 0, hj => simp at hj; subst hj; simp [Addr.add]
  · intro u hu; simp at hu; subst hu; rfl
  · intro v' w1 hown hg _
    have hB1 : w1.heap[B]? = some (.cells #[v] 79 (0, 0)) := by
      rw [hg.block B (by simp; omega) (by intro e; exact hne.out e.symm)]
      rw [World.alloc, Array.getElem?_push, if_neg (by omega)]; exact HB.out.1
    have hc1 := cell_of_one hB1
    have hf1 := free_of_one hB1
    have HB1 := Lib.hid hB1; clear hB1 hc
    obtain ⟨g, cap, rfl⟩ : ∃ g cap, v' = .slice (some ⟨g, 0, none⟩) (k + 1) cap := by
      rcases hown.2 with ⟨_, h⟩ | ⟨g, cap, _, h, _⟩
      · omega
      · exact ⟨g, cap, h⟩
    have HO := Lib.hid hown; clear hown
    go_wp2
    go_end0
    refine ⟨rfl, _, ⟨one_setCell HB1.out, ?_⟩, ?_, hg.os, hg.tape, hg.output, ?_⟩
    · exact ownsRow_setCell_other HO.out (row_ne' HB1.out (by decide) HO.out) _
    · intro j hj h1 h2
      rw [heap_setCell_other _ _ _ _ h1, hg.block j (by simp; omega) h2, World.alloc, Array.getElem?_push, if_neg (by omega)]
    · have := hg.size; simp at this ⊢; omega
end Go.Proofs.YtmokomfneikipaaDoor
