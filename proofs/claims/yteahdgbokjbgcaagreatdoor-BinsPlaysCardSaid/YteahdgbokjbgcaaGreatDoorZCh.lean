/- A script of bins as an argument, opened. No statement of the seat is proved here. -/
import Derived.Test.YteahdgbokjbgcaaGreatDoorZMC
import Derived.Test.YteahdgbokjbgcaaGreatDoorZNP
import Derived.Deep.Slices
namespace Go.Proofs.YteahdgbokjbgcaaGreatDoor
open Go.ChangeShapes Go.WideShapes Go.ChangeAt Go.RowKit
set_option linter.unusedVariables false
set_option linter.unusedSimpArgs false

def opC (o : Oq) : List Value := [.int .i64 o.kind, .int .i64 o.on, .int .i64 o.wth, .int .i64 o.n, .float .f64 o.x]
theorem opsV_in : ∀ (l : List Oq) (t : Nat) (v : Value), (opsV l)[t]? = some v → ∃ (i : Nat) (o : Oq) (j : Nat), l[i]? = some o ∧ t = i * 5 + j ∧ (opC o)[j]? = some v
  | [], t, v, h => by simp [opsV] at h
  | o :: l, t, v, h => by
    have e : opsV (o :: l) = opC o ++ opsV l := rfl
    rw [e] at h
    by_cases ht : t < 5
    · rw [List.getElem?_append_left (by simpa [opC] using ht)] at h
      exact ⟨0, o, t, rfl, by omega, h⟩
    · rw [List.getElem?_append_right (by simp [opC]; omega)] at h
      obtain ⟨i, o', j, h1, h2, h3⟩ := opsV_in l (t - (opC o).length) v h
      have hl : (opC o).length = 5 := rfl
      rw [hl] at h2
      exact ⟨i + 1, o', j, by simpa using h1, by omega, h3⟩
theorem cells_op : Tryz.prog.cellsOf 32 = 5 := by kernel_rfl
theorem cells_int9 : Tryz.prog.cellsOf 3 = 1 := by kernel_rfl
theorem cells_f649 : Tryz.prog.cellsOf 30 = 1 := by kernel_rfl
set_option maxRecDepth 100000 in
theorem trod_op {H : Type} {enc : TypeId × Value → H} {W : World} {base n : Nat} {sp : Nat → Bool} {held : Bool} {cs : List Value} {x : DataW H × List MemPlace} (h : DataW.trod enc Tryz.prog W base sp held n 32 cs = some x) : ∃ o : Oq, cs = opC o ∧ o.Ok := by
  obtain ⟨xs, m, _, _, hl, hx, hf⟩ := DataW.trod_struct Tryz.underlying32 h
  rw [cells_op] at hl
  have hx5 : xs.length = 5 := hx
  match cs, hl with
  | [c0, c1, c2, c3, c4], _ =>
  match xs, hx5 with
  | [y0, y1, y2, y3, y4], _ =>
  have t0 := hf 0 _ rfl
  have t1 := hf 1 _ rfl
  have t2 := hf 2 _ rfl
  have t3 := hf 3 _ rfl
  have t4 := hf 4 _ rfl
  have t0' : DataW.trod enc Tryz.prog W base sp held m 3 [c0] = some y0 := by have := t0; simpa [cells_int9] using this
  have t1' : DataW.trod enc Tryz.prog W base sp held m 3 [c1] = some y1 := by have := t1; simpa [cells_int9] using this
  have t2' : DataW.trod enc Tryz.prog W base sp held m 3 [c2] = some y2 := by have := t2; simpa [cells_int9] using this
  have t3' : DataW.trod enc Tryz.prog W base sp held m 3 [c3] = some y3 := by have := t3; simpa [cells_int9] using this
  have t4' : DataW.trod enc Tryz.prog W base sp held m 30 [c4] = some y4 := by have := t4; simpa [cells_f649] using this
  obtain ⟨e0, h0, _, w0⟩ := DataW.trod_int Tryz.underlying3 t0'
  obtain ⟨e1, h1, _, w1⟩ := DataW.trod_int Tryz.underlying3 t1'
  obtain ⟨e2, h2, _, w2⟩ := DataW.trod_int Tryz.underlying3 t2'
  obtain ⟨e3, h3, _, w3⟩ := DataW.trod_int Tryz.underlying3 t3'
  obtain ⟨b, h4, hb⟩ := trod_f64 t4'
  simp only [List.cons.injEq, and_true] at h0 h1 h2 h3
  subst h0; subst h1; subst h2; subst h3; subst h4
  exact ⟨⟨e0, e1, e2, e3, b⟩, rfl, hb, (wf_int w1).1, (wf_int w1).2, (wf_int w2).1, (wf_int w2).2⟩
instance : Inhabited Oq := ⟨⟨0, 0, 0, 0, 0⟩⟩
set_option maxRecDepth 100000 in
theorem open_ops {H : Type} {enc : TypeId × Value → H} {W : World} {base : Nat} {v : Value} {d : DataW H} {p : List MemPlace} (hval : Value.okWide Tryz.prog W .any base 22 v) (h0 : DataW.Trod enc Tryz.prog W 0 (fun _ => true) true 22 v d p) :
    ∃ (a : Option Addr) (c : Nat) (l : List Oq), v = .slice a l.length c ∧ VRd W a (opsV l) ∧ ∀ o ∈ l, o.Ok := by
  obtain ⟨a, len, cap, rfl⟩ := okWide_slice Tryz.underlying22 hval
  obtain ⟨fuel, hf⟩ := h0
  rcases Deep.open_slice Tryz.underlying22 hf with ⟨hcs, hx⟩ | ⟨a', len', cap', m, n, D, Pl, hcs, _, hl, hm, hmm, hx, hV⟩
  · simp [Value.cells] at hcs
    obtain ⟨rfl, rfl, rfl⟩ := hcs
    exact ⟨none, 0, [], rfl, VRd.nil _ _, fun o h => by simp at h⟩
  · simp [Value.cells] at hcs
    obtain ⟨rfl, rfl, rfl⟩ := hcs
    simp only [if_true] at hmm
    subst hmm
    rw [cells_op] at hV
    obtain ⟨O, hO⟩ := Deep.choose_lt (p := fun i (o : Oq) => W.cells? 0 (a'.add (i * 5)) 5 = some (opC o) ∧ o.Ok) (fun i (hi : i < m) => by
      obtain ⟨cs', h1, h2⟩ := hV i hi
      obtain ⟨o, rfl, ho⟩ := trod_op h2
      exact ⟨o, h1, ho⟩)
    have hll : ((List.range len).map O).length = len := by simp
    have hcell : ∀ i, i < len → ∀ j, j < 5 → W.cell? ((a'.add (i * 5)).add j) = (opC (O i))[j]? := fun i hi j hj => (World.cells?_some (hO i (by omega)).1).2.2 j hj
    refine ⟨some a', m, (List.range len).map O, by rw [hll], ?_, ?_⟩
    · intro t u ht
      obtain ⟨i, o, j, h1, h2, h3⟩ := opsV_in _ t u ht
      have hil : i < len := by
        have := (List.getElem?_eq_some_iff.1 h1).1
        rw [hll] at this; exact this
      rw [List.getElem?_map, List.getElem?_range hil] at h1
      obtain rfl : O i = o := by simpa using h1
      have hj : j < 5 := (List.getElem?_eq_some_iff.1 h3).1
      have hc := hcell i hil j hj
      rw [h3] at hc
      have hs := spot_none (w := W) (a := a') (v := .int .i64 (O 0).kind) (by
        have := hcell 0 (by omega) 0 (by decide)
        simpa [Addr.add, opC] using this)
      obtain ⟨bk, off, spot⟩ := a'
      subst hs
      refine ⟨bk, off, rfl, ?_⟩
      have hadd : ∀ o k, Addr.add ⟨bk, o, none⟩ k = ⟨bk, o + k, none⟩ := fun o k => by
        unfold Addr.add; split
        · next h => subst h; rfl
        · rfl
      rw [hadd, hadd] at hc
      rw [h2, ← Nat.add_assoc]; exact hc
    · intro o ho
      obtain ⟨i, hi, rfl⟩ := List.mem_map.1 ho
      exact (hO i (by have := List.mem_range.1 hi; omega)).2
end Go.Proofs.YteahdgbokjbgcaaGreatDoor
