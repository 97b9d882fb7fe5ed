/- How long a list of float64 that came in may be: the form's own reach. No statement of the seat is proved here. -/
import Derived.Test.YthdbapibbdkclaaGreatDoorCa
import Derived.Test.YthdbapibbdkclaaGreatDoorCc
import Derived.SizedLaws
namespace Go.Proofs.YthdbapibbdkclaaGreatDoor
open Go.ChangeShapes Go.WideShapes Go.ChangeAt Go.RowKit
set_option linter.unusedVariables false
set_option linter.unusedSimpArgs false

theorem bytes_f64 : Tryz.prog.bytesOf 30 = 8 := by kernel_rfl
set_option maxRecDepth 100000 in
theorem reach_fl {H : Type} {enc : TypeId × Value → H} {W : World} {a : Option Addr} {n c j : Nat} {d : DataW H} {p : List MemPlace} {ts : List TypeId} {ds : List (DataW H)}
    (h0 : DataW.Trod enc Tryz.prog W 0 (fun _ => true) true 49 (.slice a n c) d p) (hd : ds[j]? = some d) (ht : ts[j]? = some 49)
    (hsz : (DataW.weightsEach Tryz.prog ts ds).all (· ≤ reachBytes) = true) : n ≤ 17592186044416 := by
  obtain ⟨fuel, hf⟩ := h0
  rcases Deep.open_slice1 Tryz.underlying49 cells_f64 hf with ⟨hcs, hx⟩ | ⟨a', len', cap', m, n', V, D, Pl, hcs, _, hl, hm, hmm, hx, hV⟩
  · simp [Value.cells] at hcs
    obtain ⟨rfl, rfl, rfl⟩ := hcs
    decide
  · simp [Value.cells] at hcs
    obtain ⟨rfl, rfl, rfl⟩ := hcs
    obtain ⟨hd1, _⟩ := Prod.mk.inj hx
    rw [hd1] at hd
    have h := sized_slice hsz ht hd Tryz.underlying49
    rw [bytes_f64] at h
    simp only [List.length_map, List.length_range] at h
    have hr : reachBytes = 140737488351232 := rfl
    rw [hr] at h
    omega
end Go.Proofs.YthdbapibbdkclaaGreatDoor
