/- A list of ints as an argument, opened. No statement of the seat is proved here. -/
import Derived.Test.YthdbapibbdkclaaDoorCa
import Derived.Test.YthdbapibbdkclaaDoorMT
namespace Go.Proofs.YthdbapibbdkclaaDoor
open Go.ChangeShapes Go.WideShapes Go.ChangeAt Go.RowKit
set_option linter.unusedVariables false
set_option linter.unusedSimpArgs false

theorem cells_int : Tryd.prog.cellsOf 3 = 1 := by kernel_rfl
theorem wf_int {n : Int} (h : (Lit.int .i64 n).wf = true) : -9223372036854775808 ≤ n ∧ n ≤ 9223372036854775807 := by
  have m1 : IntKind.i64.min = -9223372036854775808 := rfl
  have m2 : IntKind.i64.max = 9223372036854775807 := rfl
  simp [Lit.wf, IntKind.has] at h
  omega
set_option maxRecDepth 100000 in
theorem open_is {H : Type} {enc : TypeId × Value → H} {W : World} {base : Nat} {v : Value} {d : DataW H} {p : List MemPlace} (hval : Value.okWide Tryd.prog W .any base 52 v) (h0 : DataW.Trod enc Tryd.prog W 0 (fun _ => true) true 52 v d p) :
    ∃ (a : Option Addr) (c : Nat) (l : List Int), v = .slice a l.length c ∧ VRd W a (l.map fun n => .int .i64 n) ∧ (∀ n ∈ l, -9223372036854775808 ≤ n ∧ n ≤ 9223372036854775807) ∧ l.length ≤ c := by
  obtain ⟨a, len, cap, rfl⟩ := okWide_slice Tryd.underlying52 hval
  obtain ⟨fuel, hf⟩ := h0
  rcases open_ints Tryd.underlying52 Tryd.underlying3 cells_int hf with ⟨hcs, hx⟩ | ⟨a', len', cap', zs, hcs, _, hl, hm, hz, hx, hcell, hwf⟩
  · simp [Value.cells] at hcs
    obtain ⟨rfl, rfl, rfl⟩ := hcs
    exact ⟨none, 0, [], rfl, VRd.nil _ _, fun n h => by (cases h), Nat.le_refl _⟩
  · simp [Value.cells] at hcs
    obtain ⟨rfl, rfl, rfl⟩ := hcs
    simp only [if_true] at hz
    have hll : (zs.take len).length = len := by rw [List.length_take]; omega
    refine ⟨some a', cap, zs.take len, by rw [hll], ?_, ?_, by rw [hll]; exact hl⟩
    · intro i x hi
      rw [List.getElem?_map] at hi
      obtain ⟨z, hz2, rfl⟩ := Option.map_eq_some_iff.1 hi
      have hil : i < len := by
        have := (List.getElem?_eq_some_iff.1 hz2).1
        rw [List.length_take] at this; omega
      rw [List.getElem?_take_of_lt hil] at hz2
      have h1 := hcell i (by omega)
      have h0 := spot_none (hcell 0 (by omega))
      have hg : zs.getD i 0 = z := by rw [List.getD_eq_getElem?_getD, hz2]; rfl
      rw [hg] at h1
      obtain ⟨bk, off, spot⟩ := a'
      have hs : spot = none := by simpa [Addr.add] using h0
      subst hs
      refine ⟨bk, off, rfl, ?_⟩
      have hadd : Addr.add ⟨bk, off, none⟩ i = ⟨bk, off + i, none⟩ := by
        unfold Addr.add; split
        · next h => subst h; rfl
        · rfl
      rw [← hadd]; exact h1
    · intro z hz2
      exact wf_int (hwf z (List.mem_of_mem_take hz2))
end Go.Proofs.YthdbapibbdkclaaDoor
