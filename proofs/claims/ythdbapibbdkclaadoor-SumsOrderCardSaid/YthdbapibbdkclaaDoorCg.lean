/- A number of 64 bits, a policy as an argument, opened. No statement of the seat is proved here. -/
import Derived.Test.YthdbapibbdkclaaDoorCa
import Derived.Test.YthdbapibbdkclaaDoorCc
import Derived.Test.YthdbapibbdkclaaDoorCe
import Derived.Test.YthdbapibbdkclaaDoorMT
import Derived.Laws.Cover2
import Derived.ChangeSame
namespace Go.Proofs.YthdbapibbdkclaaDoor
open Go.ChangeShapes Go.WideShapes Go.ChangeAt Go.RowKit
set_option linter.unusedVariables false
set_option linter.unusedSimpArgs false

set_option maxRecDepth 100000 in
theorem open_f64 {H : Type} {enc : TypeId × Value → H} {W : World} {base : Nat} {v : Value} {d : DataW H} {p : List MemPlace} (hval : Value.okWide Tryd.prog W .any base 36 v) (h0 : DataW.Trod enc Tryd.prog W 0 (fun _ => true) true 36 v d p) : ∃ b, v = .float .f64 b ∧ b < 18446744073709551616 := by
  obtain ⟨b, rfl⟩ := okWide_float Tryd.underlying36 hval
  obtain ⟨fuel, hf⟩ := h0
  obtain ⟨b', h, hb⟩ := trod_f64 (v := .float .f64 b) hf
  cases h
  exact ⟨b, rfl, hb⟩
set_option maxRecDepth 100000 in
theorem open_pol {H : Type} {enc : TypeId × Value → H} {W : World} {base : Nat} {v : Value} {d : DataW H} {p : List MemPlace} (hval : Value.okWide Tryd.prog W .any base 59 v) (h0 : DataW.Trod enc Tryd.prog W 0 (fun _ => true) true 59 v d p) : ∃ pn pi, v = pol pn pi := by
  obtain ⟨cs, rfl, hsz⟩ := okWide_struct Tryd.underlying59 hval
  obtain ⟨fuel, hf⟩ := h0
  obtain ⟨y0, y1, n, hx, hl, t0, t1⟩ := Go.ChangeShapes.trod_struct2 Tryd.underlying59 hf
  have hl2 : (Value.agg cs).cells.toList.length = 2 := hl.trans (by kernel_rfl)
  have hcs : ∃ c0 c1, (Value.agg cs).cells.toList = [c0, c1] := by
    match h : (Value.agg cs).cells.toList, hl2 with
    | [c0, c1], _ => exact ⟨c0, c1, rfl⟩
  obtain ⟨c0, c1, hcs⟩ := hcs
  rw [hcs] at t0 t1
  have k0 : Tryd.prog.cellsOf 3 = 1 := by kernel_rfl
  have t0' : DataW.trod enc Tryd.prog W 0 (fun _ => true) true n 3 [c0] = some y0 := by have := t0; simpa [k0] using this
  have t1' : DataW.trod enc Tryd.prog W 0 (fun _ => true) true n 3 [c1] = some y1 := by have := t1; simpa [k0] using this
  obtain ⟨e, h5, hy2, hwf⟩ := DataW.trod_int Tryd.underlying3 t0'
  obtain ⟨e', h6, hy3, hwf'⟩ := DataW.trod_int Tryd.underlying3 t1'
  simp only [List.cons.injEq, and_true] at h5 h6
  subst h5; subst h6
  have hcs2 : cs = #[.int .i64 e, .int .i64 e'] := by
    have : cs.toList = _ := hcs
    exact Array.toList_inj.1 this
  subst hcs2
  exact ⟨e, e', rfl⟩
end Go.Proofs.YthdbapibbdkclaaDoor
