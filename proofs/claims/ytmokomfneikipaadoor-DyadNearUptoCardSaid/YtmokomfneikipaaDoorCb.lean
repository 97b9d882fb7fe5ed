/- A Dyad that is an argument, opened. No statement of the seat is proved here. -/
import Derived.Test.YtmokomfneikipaaDoorCa
import Derived.Test.YtmokomfneikipaaDoorDk
import Derived.Deep.Strs
namespace Go.Proofs.YtmokomfneikipaaDoor
open Go.ChangeShapes Go.WideShapes Go.ChangeAt Go.RowKit
set_option linter.unusedVariables false
set_option linter.unusedSimpArgs false

theorem bulk_part {H : Type} {d : DataW H} {l : List (DataW H)} (h : d ∈ l) : Rows.uptoBulk d ≤ Rows.uptoBulkAll l := by
  induction l with
  | nil => cases h
  | cons x r ih =>
    simp only [Rows.uptoBulkAll]
    cases List.mem_cons.1 h with
    | inl e => subst e; omega
    | inr e => have := ih e; omega
set_option maxRecDepth 100000 in
theorem nat_trod {H : Type} {enc : TypeId × Value → H} {W : World} {fuel : Nat} {cs : List Value} {x : DataW H × List MemPlace} (hf : DataW.trod enc Tryd.prog W 0 (fun _ => true) true fuel 24 cs = some x) :
    ∃ a c l, cs = [.slice a l.length c] ∧ Sl W a c l ∧ l.length + 1 ≤ Rows.uptoBulk x.1 := by
  rcases open_ints Tryd.underlying24 Tryd.underlying64 cells_word hf with ⟨rfl, hx⟩ | ⟨a', len, cap, zs, rfl, _, hl, hm, hz, hx, hcell, hwf⟩
  · exact ⟨none, 0, [], rfl, Sl.none W, bulk_one _⟩
  · simp only [if_true] at hz
    have hll : ((zs.take len).map Int.toNat).length = len := by rw [List.length_map, List.length_take]; omega
    refine ⟨some a', cap, (zs.take len).map Int.toNat, by rw [hll], ⟨?_, ?_, by rw [hll]; exact hl, fun h => by cases h⟩, ?_⟩
    · intro i x' hi
      rw [List.getElem?_map] at hi
      obtain ⟨z, hz2, rfl⟩ := Option.map_eq_some_iff.1 hi
      have hil : i < len := by
        have := (List.getElem?_eq_some_iff.1 hz2).1
        rw [List.length_take] at this; omega
      rw [List.getElem?_take_of_lt hil] at hz2
      have h1 := hcell i (by omega)
      have h0 := spot_none (hcell 0 (by omega))
      have hw := hwf z (List.mem_of_getElem? hz2)
      have hg : zs.getD i 0 = z := by rw [List.getD_eq_getElem?_getD, hz2]; rfl
      rw [hg] at h1
      obtain ⟨bk, off, spot⟩ := a'
      have hs : spot = none := by simpa [Addr.add] using h0
      subst hs
      refine ⟨bk, off, rfl, ?_⟩
      have hz0 : ((z.toNat : Nat) : Int) = z := by
        have m1 : IntKind.u32.min = 0 := rfl
        simp [Lit.wf, IntKind.has] at hw
        omega
      rw [hz0]
      have hadd : Addr.add ⟨bk, off, none⟩ i = ⟨bk, off + i, none⟩ := by
        unfold Addr.add; split
        · next h => subst h; rfl
        · rfl
      rw [← hadd]; exact h1
    · intro x' hx2
      obtain ⟨z, hz2, rfl⟩ := List.mem_map.1 hx2
      have hw := hwf z (List.mem_of_mem_take hz2)
      have m1 : IntKind.u32.min = 0 := rfl
      have m2 : IntKind.u32.max = 4294967295 := rfl
      simp [Lit.wf, IntKind.has] at hw
      omega
    · rw [hll]
      have hd : x.1 = .slice (lits .u32 (zs.take len)) (lits .u32 (zs.drop len)) := by
        rw [hx]
      rw [hd]
      have h1 := bulk_len (lits (H := H) .u32 (zs.take len))
      have h2 : (lits (H := H) .u32 (zs.take len)).length = len := by simp [lits]; omega
      simp only [Rows.uptoBulk]
      omega
set_option maxRecDepth 100000 in
theorem open_dyad {H : Type} {enc : TypeId × Value → H} {W : World} {base : Nat} {v : Value} {d : DataW H} {p : List MemPlace} (hval : Value.okWide Tryd.prog W .any base 27 v) (h0 : DataW.Trod enc Tryd.prog W 0 (fun _ => true) true 27 v d p) :
    ∃ x : Arg, v = x.v ∧ x.l.length + 1 ≤ Rows.uptoBulk d ∧ (x.l.length ≤ 1073741824 → x.Ok W) := by
  obtain ⟨cs, rfl, hsz⟩ := okWide_struct Tryd.underlying27 hval
  obtain ⟨fuel, hf⟩ := h0
  obtain ⟨y0, y1, y2, n, hx, hl, t0, t1, t2⟩ := Deep.trod_struct3 Tryd.underlying27 hf
  have hl3 : (Value.agg cs).cells.toList.length = 3 := hl.trans (by kernel_rfl)
  have hcs : ∃ c0 c1 c2, (Value.agg cs).cells.toList = [c0, c1, c2] := by
    match h : (Value.agg cs).cells.toList, hl3 with
    | [c0, c1, c2], _ => exact ⟨c0, c1, c2, rfl⟩
  obtain ⟨c0, c1, c2, hcs⟩ := hcs
  rw [hcs] at t0 t1 t2
  have k0 : Tryd.prog.cellsOf 4 = 1 := by kernel_rfl
  have k1 : Tryd.prog.cellsOf 24 = 1 := by kernel_rfl
  have k2 : Tryd.prog.cellsOf 3 = 1 := by kernel_rfl
  have t0' : DataW.trod enc Tryd.prog W 0 (fun _ => true) true n 4 [c0] = some y0 := by have := t0; simpa [k0] using this
  have t1' : DataW.trod enc Tryd.prog W 0 (fun _ => true) true n 24 [c1] = some y1 := by have := t1; simpa [k1] using this
  have t2' : DataW.trod enc Tryd.prog W 0 (fun _ => true) true n 3 [c2] = some y2 := by have := t2; simpa [k2] using this
  obtain ⟨s, h3, hy0⟩ := DataW.trod_bool Tryd.underlying4 t0'
  obtain ⟨e, h5, hy2, hwf⟩ := DataW.trod_int Tryd.underlying3 t2'
  obtain ⟨a, c, l, h6, hs, hb⟩ := nat_trod t1'
  simp only [List.cons.injEq, and_true] at h3 h5 h6
  subst h3; subst h5; subst h6
  have hcs2 : cs = #[.bool s, .slice a l.length c, .int .i64 e] := by
    have : cs.toList = _ := hcs
    exact Array.toList_inj.1 this
  subst hcs2
  have m1 : IntKind.i64.min = -9223372036854775808 := rfl
  have m2 : IntKind.i64.max = 9223372036854775807 := rfl
  simp [Lit.wf, IntKind.has] at hwf
  refine ⟨⟨s, a, l, c, e⟩, rfl, ?_, fun hlen => ⟨hs, hlen, by dsimp only; omega, by dsimp only; omega⟩⟩
  have hd : d = .agg [y0.1, y1.1, y2.1] := by have := congrArg Prod.fst hx; exact this
  rw [hd]
  have := bulk_part (d := y1.1) (l := [y0.1, y1.1, y2.1]) (by simp)
  simp only [Rows.uptoBulk]
  show l.length + 1 ≤ _
  omega
end Go.Proofs.YtmokomfneikipaaDoor
