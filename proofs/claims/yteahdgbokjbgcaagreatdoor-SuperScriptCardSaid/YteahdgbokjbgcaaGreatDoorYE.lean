/- A script of steps on accumulators as an argument, opened; its reach. How long a list of float64 that came in may be: the form's own reach. No statement of the seat is proved here. -/
import Derived.Test.YteahdgbokjbgcaaGreatDoorYMC
import Derived.Test.YteahdgbokjbgcaaGreatDoorYKr
import Derived.Deep.Slices
import Derived.SizedLaws
import Derived.Laws.Cover2
import Derived.ChangeSame
namespace Go.Proofs.YteahdgbokjbgcaaGreatDoor
open Go.ChangeShapes Go.WideShapes Go.ChangeAt Go.RowKit
set_option linter.unusedVariables false
set_option linter.unusedSimpArgs false

def stC (o : Tq) : List Value := [.int .i64 o.kind, .int .i64 o.on, .int .i64 o.wth, .int .i64 o.n, .float .f64 o.x, .float .f64 o.y, .int .i64 o.mode, .int .i64 o.pn, .int .i64 o.pi]
theorem stsV_in : ∀ (l : List Tq) (t : Nat) (v : Value), (stsV l)[t]? = some v → ∃ (i : Nat) (o : Tq) (j : Nat), l[i]? = some o ∧ t = i * 9 + j ∧ (stC o)[j]? = some v
  | [], t, v, h => by simp [stsV] at h
  | o :: l, t, v, h => by
    have e : stsV (o :: l) = stC o ++ stsV l := rfl
    rw [e] at h
    by_cases ht : t < 9
    · rw [List.getElem?_append_left (by simpa [stC] using ht)] at h
      exact ⟨0, o, t, rfl, by omega, h⟩
    · rw [List.getElem?_append_right (by simp [stC]; omega)] at h
      obtain ⟨i, o', j, h1, h2, h3⟩ := stsV_in l (t - (stC o).length) v h
      have hl : (stC o).length = 9 := rfl
      rw [hl] at h2
      exact ⟨i + 1, o', j, by simpa using h1, by omega, h3⟩
theorem cells_st : Tryz.prog.cellsOf 63 = 9 := by kernel_rfl
theorem cells_int7 : Tryz.prog.cellsOf 3 = 1 := by kernel_rfl
theorem cells_f647 : Tryz.prog.cellsOf 30 = 1 := by kernel_rfl
theorem cells_pol7 : Tryz.prog.cellsOf 61 = 2 := by kernel_rfl
set_option maxRecDepth 100000 in
theorem trod_st {H : Type} {enc : TypeId × Value → H} {W : World} {base n : Nat} {sp : Nat → Bool} {held : Bool} {cs : List Value} {x : DataW H × List MemPlace} (h : DataW.trod enc Tryz.prog W base sp held n 63 cs = some x) : ∃ o : Tq, cs = stC o ∧ o.Ok := by
  obtain ⟨xs, m, _, _, hl, hx, hf⟩ := DataW.trod_struct Tryz.underlying63 h
  rw [cells_st] at hl
  have hx5 : xs.length = 8 := hx
  match cs, hl with
  | [c0, c1, c2, c3, c4, c5, c6, c7, c8], _ =>
  match xs, hx5 with
  | [y0, y1, y2, y3, y4, y5, y6, y7], _ =>
  have t0 := hf 0 _ rfl
  have t1 := hf 1 _ rfl
  have t2 := hf 2 _ rfl
  have t3 := hf 3 _ rfl
  have t4 := hf 4 _ rfl
  have t5 := hf 5 _ rfl
  have t6 := hf 6 _ rfl
  have t7 := hf 7 _ rfl
  have t0' : DataW.trod enc Tryz.prog W base sp held m 3 [c0] = some y0 := by have := t0; simpa [cells_int7] using this
  have t1' : DataW.trod enc Tryz.prog W base sp held m 3 [c1] = some y1 := by have := t1; simpa [cells_int7] using this
  have t2' : DataW.trod enc Tryz.prog W base sp held m 3 [c2] = some y2 := by have := t2; simpa [cells_int7] using this
  have t3' : DataW.trod enc Tryz.prog W base sp held m 3 [c3] = some y3 := by have := t3; simpa [cells_int7] using this
  have t4' : DataW.trod enc Tryz.prog W base sp held m 30 [c4] = some y4 := by have := t4; simpa [cells_int7, cells_f647] using this
  have t5' : DataW.trod enc Tryz.prog W base sp held m 30 [c5] = some y5 := by have := t5; simpa [cells_int7, cells_f647] using this
  have t6' : DataW.trod enc Tryz.prog W base sp held m 3 [c6] = some y6 := by have := t6; simpa [cells_int7, cells_f647] using this
  have t7' : DataW.trod enc Tryz.prog W base sp held m 61 [c7, c8] = some y7 := by have := t7; simpa [cells_int7, cells_f647, cells_pol7] using this
  obtain ⟨z0, z1, n', hx', hl', u0, u1⟩ := Go.ChangeShapes.trod_struct2 Tryz.underlying61 t7'
  have u0' : DataW.trod enc Tryz.prog W base sp held n' 3 [c7] = some z0 := by have := u0; simpa [cells_int7] using this
  have u1' : DataW.trod enc Tryz.prog W base sp held n' 3 [c8] = some z1 := by have := u1; simpa [cells_int7] using this
  obtain ⟨e0, h0, _, w0⟩ := DataW.trod_int Tryz.underlying3 t0'
  obtain ⟨e1, h1, _, w1⟩ := DataW.trod_int Tryz.underlying3 t1'
  obtain ⟨e2, h2, _, w2⟩ := DataW.trod_int Tryz.underlying3 t2'
  obtain ⟨e3, h3, _, w3⟩ := DataW.trod_int Tryz.underlying3 t3'
  obtain ⟨b4, h4, hb4⟩ := trod_f64 t4'
  obtain ⟨b5, h5, hb5⟩ := trod_f64 t5'
  obtain ⟨e6, h6, _, w6⟩ := DataW.trod_int Tryz.underlying3 t6'
  obtain ⟨e7, h7, _, w7⟩ := DataW.trod_int Tryz.underlying3 u0'
  obtain ⟨e8, h8, _, w8⟩ := DataW.trod_int Tryz.underlying3 u1'
  simp only [List.cons.injEq, and_true] at h0 h1 h2 h3 h6 h7 h8
  subst h0; subst h1; subst h2; subst h3; subst h4; subst h5; subst h6; subst h7; subst h8
  exact ⟨⟨e0, e1, e2, e3, b4, b5, e6, e7, e8⟩, rfl, hb4, hb5, (wf_int w1).1, (wf_int w1).2, (wf_int w2).1, (wf_int w2).2, (wf_int w3).1, (wf_int w3).2⟩
instance : Inhabited Tq := ⟨⟨0, 0, 0, 0, 0, 0, 0, 0, 0⟩⟩
set_option maxRecDepth 100000 in
theorem open_sts {H : Type} {enc : TypeId × Value → H} {W : World} {base : Nat} {v : Value} {d : DataW H} {p : List MemPlace} (hval : Value.okWide Tryz.prog W .any base 49 v) (h0 : DataW.Trod enc Tryz.prog W 0 (fun _ => true) true 49 v d p) :
    ∃ (a : Option Addr) (c : Nat) (l : List Tq), v = .slice a l.length c ∧ VRd W a (stsV l) ∧ ∀ o ∈ l, o.Ok := by
  obtain ⟨a, len, cap, rfl⟩ := okWide_slice Tryz.underlying49 hval
  obtain ⟨fuel, hf⟩ := h0
  rcases Deep.open_slice Tryz.underlying49 hf with ⟨hcs, hx⟩ | ⟨a', len', cap', m, n, D, Pl, hcs, _, hl, hm, hmm, hx, hV⟩
  · simp [Value.cells] at hcs
    obtain ⟨rfl, rfl, rfl⟩ := hcs
    exact ⟨none, 0, [], rfl, VRd.nil _ _, fun o h => by simp at h⟩
  · simp [Value.cells] at hcs
    obtain ⟨rfl, rfl, rfl⟩ := hcs
    simp only [if_true] at hmm
    subst hmm
    rw [cells_st] at hV
    obtain ⟨O, hO⟩ := Deep.choose_lt (p := fun i (o : Tq) => W.cells? 0 (a'.add (i * 9)) 9 = some (stC o) ∧ o.Ok) (fun i (hi : i < m) => by
      obtain ⟨cs', h1, h2⟩ := hV i hi
      obtain ⟨o, rfl, ho⟩ := trod_st h2
      exact ⟨o, h1, ho⟩)
    have hll : ((List.range len).map O).length = len := by simp
    have hcell : ∀ i, i < len → ∀ j, j < 9 → W.cell? ((a'.add (i * 9)).add j) = (stC (O i))[j]? := fun i hi j hj => (World.cells?_some (hO i (by omega)).1).2.2 j hj
    refine ⟨some a', m, (List.range len).map O, by rw [hll], ?_, ?_⟩
    · intro t u ht
      obtain ⟨i, o, j, h1, h2, h3⟩ := stsV_in _ t u ht
      have hil : i < len := by
        have := (List.getElem?_eq_some_iff.1 h1).1
        rw [hll] at this; exact this
      rw [List.getElem?_map, List.getElem?_range hil] at h1
      obtain rfl : O i = o := by simpa using h1
      have hj : j < 9 := (List.getElem?_eq_some_iff.1 h3).1
      have hc := hcell i hil j hj
      rw [h3] at hc
      have hs := spot_none (w := W) (a := a') (v := .int .i64 (O 0).kind) (by
        have := hcell 0 (by omega) 0 (by decide)
        simpa [Addr.add, stC] using this)
      obtain ⟨bk, off, spot⟩ := a'
      subst hs
      refine ⟨bk, off, rfl, ?_⟩
      have hadd : ∀ o k, Addr.add ⟨bk, o, none⟩ k = ⟨bk, o + k, none⟩ := fun o k => by
        unfold Addr.add; split
        · next h => subst h; rfl
        · rfl
      rw [hadd, hadd] at hc
      rw [h2, ← Nat.add_assoc]; exact hc
    · intro o ho
      obtain ⟨i, hi, rfl⟩ := List.mem_map.1 ho
      exact (hO i (by have := List.mem_range.1 hi; omega)).2
theorem bytes_st : Tryz.prog.bytesOf 63 = 72 := by kernel_rfl
set_option maxRecDepth 100000 in
theorem reach_sts {H : Type} {enc : TypeId × Value → H} {W : World} {a : Option Addr} {n c j : Nat} {d : DataW H} {p : List MemPlace} {ts : List TypeId} {ds : List (DataW H)}
    (h0 : DataW.Trod enc Tryz.prog W 0 (fun _ => true) true 49 (.slice a n c) d p) (hd : ds[j]? = some d) (ht : ts[j]? = some 49)
    (hsz : (DataW.weightsEach Tryz.prog ts ds).all (· ≤ reachBytes) = true) : n ≤ 17592186044416 := by
  obtain ⟨fuel, hf⟩ := h0
  rcases Deep.open_slice Tryz.underlying49 hf with ⟨hcs, hx⟩ | ⟨a', len', cap', m, n', D, Pl, hcs, _, hl, hm, hmm, hx, hV⟩
  · simp [Value.cells] at hcs
    obtain ⟨rfl, rfl, rfl⟩ := hcs
    decide
  · simp [Value.cells] at hcs
    obtain ⟨rfl, rfl, rfl⟩ := hcs
    obtain ⟨hd1, _⟩ := Prod.mk.inj hx
    rw [hd1] at hd
    have h := sized_slice hsz ht hd Tryz.underlying49
    rw [bytes_st] at h
    simp only [List.length_map, List.length_range] at h
    have hr : reachBytes = 140737488351232 := rfl
    rw [hr] at h
    omega
end Go.Proofs.YteahdgbokjbgcaaGreatDoor
namespace Go.Proofs.YteahdgbokjbgcaaGreatDoor
open Go.ChangeShapes Go.WideShapes Go.ChangeAt Go.RowKit
set_option linter.unusedVariables false
set_option linter.unusedSimpArgs false

end Go.Proofs.YteahdgbokjbgcaaGreatDoor
