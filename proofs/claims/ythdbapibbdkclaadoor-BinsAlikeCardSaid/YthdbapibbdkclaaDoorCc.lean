/- A list of float64 as an argument, opened. No statement of the seat is proved here. -/
import Derived.Test.YthdbapibbdkclaaDoorCa
import Derived.Test.YthdbapibbdkclaaDoorMQ
import Derived.Deep.Slices
namespace Go.Proofs.YthdbapibbdkclaaDoor
open Go.ChangeShapes Go.WideShapes Go.ChangeAt Go.RowKit
set_option linter.unusedVariables false
set_option linter.unusedSimpArgs false

theorem cells_f64 : Tryd.prog.cellsOf 36 = 1 := by kernel_rfl
theorem trod_f64 {H : Type} {enc : TypeId × Value → H} {W : World} {base n : Nat} {sp : Nat → Bool} {held : Bool} {v : Value} {x : DataW H × List MemPlace} (h : DataW.trod enc Tryd.prog W base sp held n 36 [v] = some x) :
    ∃ b, v = .float .f64 b ∧ b < 18446744073709551616 := by
  have ht := Tryd.underlying36
  cases n with
  | zero => simp [DataW.trod] at h
  | succ n =>
    cases v with
    | float k b =>
      cases k with
      | f64 =>
        simp only [DataW.trod, ht] at h
        by_cases hw : (Lit.float .f64 b).wf = true
        · exact ⟨b, rfl, by simpa [Lit.wf] using hw⟩
        · simp [hw] at h
      | f32 => simp [DataW.trod, ht] at h
    | _ => simp [DataW.trod, ht] at h
def fBits : Value → Nat
  | .float _ b => b
  | _ => 0
set_option maxRecDepth 100000 in
theorem open_fl {H : Type} {enc : TypeId × Value → H} {W : World} {base : Nat} {v : Value} {d : DataW H} {p : List MemPlace} (hval : Value.okWide Tryd.prog W .any base 33 v) (h0 : DataW.Trod enc Tryd.prog W 0 (fun _ => true) true 33 v d p) :
    ∃ a c l, v = .slice a l.length c ∧ FSl W a c l := by
  obtain ⟨a, len, cap, rfl⟩ := okWide_slice Tryd.underlying33 hval
  obtain ⟨fuel, hf⟩ := h0
  rcases Deep.open_slice1 Tryd.underlying33 cells_f64 hf with ⟨hcs, hx⟩ | ⟨a', len', cap', m, n, V, D, Pl, hcs, _, hl, hm, hmm, hx, hV⟩
  · simp [Value.cells] at hcs
    obtain ⟨rfl, rfl, rfl⟩ := hcs
    exact ⟨none, 0, [], rfl, FRd.nil _ _, W64L.nil, Nat.le_refl _, fun _ => rfl⟩
  · simp [Value.cells] at hcs
    obtain ⟨rfl, rfl, rfl⟩ := hcs
    simp only [if_true] at hmm
    subst hmm
    have hll : ((List.range len).map fun i => fBits (V i)).length = len := by simp
    refine ⟨some a', m, (List.range len).map fun i => fBits (V i), by rw [hll], ?_, ?_, by rw [hll]; exact hl, fun h => by cases h⟩
    · intro i x hi
      have hil : i < len := by
        have := (List.getElem?_eq_some_iff.1 hi).1
        rw [hll] at this; exact this
      rw [List.getElem?_map, List.getElem?_range hil] at hi
      obtain rfl : fBits (V i) = x := by simpa using hi
      obtain ⟨h1, h2⟩ := hV i (by omega)
      obtain ⟨b, hb, _⟩ := trod_f64 h2
      rw [hb] at h1 ⊢
      have h0 := spot_none (hV 0 (by omega)).1
      obtain ⟨bk, off, spot⟩ := a'
      have hs : spot = none := by simpa [Addr.add] using h0
      subst hs
      refine ⟨bk, off, rfl, ?_⟩
      have hadd : Addr.add ⟨bk, off, none⟩ i = ⟨bk, off + i, none⟩ := by
        unfold Addr.add; split
        · next h => subst h; rfl
        · rfl
      rw [← hadd]; exact h1
    · intro x hx2
      obtain ⟨i, hi, rfl⟩ := List.mem_map.1 hx2
      obtain ⟨h1, h2⟩ := hV i (by have := List.mem_range.1 hi; omega)
      obtain ⟨b, hb, hlt⟩ := trod_f64 h2
      rw [hb]; exact hlt
end Go.Proofs.YthdbapibbdkclaaDoor
