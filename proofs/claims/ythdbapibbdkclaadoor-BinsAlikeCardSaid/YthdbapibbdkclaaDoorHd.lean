/- Contract of bins.Bins.raise. No statement of the seat is proved here. -/
import Derived.Test.YthdbapibbdkclaaDoorProg
import Derived.Test.YthdbapibbdkclaaDoorHc
import Derived.Test.YthdbapibbdkclaaDoorTh
namespace Go.Proofs.YthdbapibbdkclaaDoor
open Go.RowKit
set_option maxRecDepth 10000
set_option linter.unusedVariables false
set_option linter.unusedSimpArgs false

theorem info_parts : (Tryd.prog.info? 90).map (·.size) = some 16 := by kernel_rfl
/-- an array of parts in a block of its own -/
def ParC (w : World) (g : Nat) (h : Nat → Int) : Prop := w.heap[g]? = some (.cells (rowsP h).toArray 90 (0, 0))
theorem ParC.part {w : World} {g : Nat} {h : Nat → Int} (k : ParC w g h) {j : Nat} (hj : j < 8) : w.cell? ⟨g, j * 2, none⟩ = some (.int .u64 (loI (h j))) ∧ w.cell? ⟨g, j * 2 + 1, none⟩ = some (.int .i64 (hiI (h j))) :=
  ⟨by rw [cell_of_row w g _ _ _ _ k, List.getElem?_toArray, Nat.mul_comm, rowsP_lo h hj], by rw [cell_of_row w g _ _ _ _ k, List.getElem?_toArray, Nat.mul_comm, rowsP_hi h hj]⟩
theorem ParC.grown {w w' : World} {g r : Nat} {h : Nat → Int} (k : ParC w g h) (hk : w.grownBy w' (some r)) (hne : g ≠ r) : ParC w' g h := (hk.block g (Array.getElem?_eq_some_iff.1 k).1 (by simpa using hne)).trans k
theorem rowsP_one (h : Nat → Int) : ∀ v ∈ rowsP h, v.oneCell' = true := by
  intro v hv
  unfold rowsP at hv
  obtain ⟨j, _, rfl⟩ := List.mem_map.1 hv
  split <;> rfl
theorem rowsP_all (h : Nat → Int) : (rowsP h).toArray.all (·.oneCell') = true := by
  rw [List.all_toArray, List.all_eq_true]
  exact rowsP_one h
theorem zero_parts : (#[.int .u64 0, .int .i64 0, .int .u64 0, .int .i64 0, .int .u64 0, .int .i64 0, .int .u64 0, .int .i64 0, .int .u64 0, .int .i64 0, .int .u64 0, .int .i64 0, .int .u64 0, .int .i64 0, .int .u64 0, .int .i64 0] : Array Value) = (rowsP fun _ => 0).toArray := by kernel_rfl
theorem BinC.parts {w : World} {g : Nat} {f n top : Int} {any : Bool} {h : Nat → Int} (k : BinC w g f n any top h) : ∀ j v, (rowsP h)[j]? = some v → w.cell? ⟨g, 4 + j, none⟩ = some v := by
  intro j v hv
  rw [cell_of_row w g _ _ _ _ k, List.getElem?_toArray]
  unfold binL
  rw [List.getElem?_append_right (by simp), show 4 + j - ([.int .i64 f, .int .i64 n, .bool any, .int .i64 top] : List Value).length = j by simp, hv]
/-- what stands there while the parts move down -/
def shf (A : Bn) (f u j k : Nat) : Int := if k < j then (if u ≤ k ∧ k < f then A.win f (k - u) else 0) else A.win f k
theorem upd_shf0 (A : Bn) (f u j k : Nat) (h : ¬ (u ≤ j ∧ j < f)) : upd (shf A f u j) j 0 k = shf A f u (j + 1) k := by
  unfold upd shf
  by_cases h1 : k = j
  · subst h1
    rw [if_pos rfl, if_pos (show k < k + 1 by omega), if_neg h]
  · rw [if_neg h1]
    by_cases h2 : k < j
    · simp only [if_pos h2, if_pos (show k < j + 1 by omega)]
    · simp only [if_neg h2, if_neg (show ¬ k < j + 1 by omega)]
theorem upd_shf1 (A : Bn) (f u j k : Nat) (h : u ≤ j ∧ j < f) : upd (upd (shf A f u j) j 0) j (A.win f (j - u)) k = shf A f u (j + 1) k := by
  unfold upd shf
  by_cases h1 : k = j
  · subst h1
    rw [if_pos rfl, if_pos (show k < k + 1 by omega), if_pos h]
  · rw [if_neg h1, if_neg h1]
    by_cases h2 : k < j
    · simp only [if_pos h2, if_pos (show k < j + 1 by omega)]
    · simp only [if_neg h2, if_neg (show ¬ k < j + 1 by omega)]

def RaiseQ (A : Bn) (g f i : Nat) (w : World) (en : Ending) (w' : World) : Prop := en = .returned (.int .i64 (((max A.len (i + 1) : Nat) : Int) - 1 - i)) ∧ BinAt w' g f (A.rise i) ∧ w.grownBy w' (some g)
set_option maxHeartbeats 8000000 in
theorem raise_any (A : Bn) (g f i : Nat) (b : Int) (w : World) (hK : ∀ j, A.len ≤ j → A.K j = 0) (hl : A.len ≤ 68) (hi : i ≤ 68) (hf : f ≤ 8) (b1 : b + 34 ≤ i) (b2 : (i : Int) ≤ b + 34) (hB : BinAt w g f A) :
    Calls Tryd.prog 67 #[.pointer (some ⟨g, 0, none⟩), .int .i64 b] w (RaiseQ A g f i w) := by
  have hlt := BinC.lt hB
  obtain ⟨x0, x1, x2, x3⟩ := BinC.head hB
  have f2 := BinC.frozen hB 2
  have f3 := BinC.frozen hB 3
  have hrl : (A.rise i).len = max A.len (i + 1) := rfl
  have hrn : (A.rise i).n = A.n := rfl
  by_cases h0 : A.len = 0
  · have hw : ∀ k, A.win f k = 0 := fun k => by unfold Bn.win; rw [if_neg (by omega)]
    have hw2 : ∀ k, (A.rise i).win f k = 0 := fun k => by
      unfold Bn.win; split
      · exact hK _ (by rw [h0]; exact Nat.zero_le _)
      · rfl
    rw [show decide (0 < A.len) = false from decide_eq_false (by omega)] at x2
    rw [if_neg (show ¬ 0 < A.len by omega)] at x3
    have HF : Hid (BinAt ((w.setCell ⟨g, 2, none⟩ (.bool true)).setCell ⟨g, 3, none⟩ (.int .i64 b)) g f (A.rise i) ∧ w.grownBy ((w.setCell ⟨g, 2, none⟩ (.bool true)).setCell ⟨g, 3, none⟩ (.int .i64 b)) (some g)) := by
      refine ⟨?_, grown_set' (grown_set' (grown_refl _ _) _ _) _ _⟩
      have h1 := (BinC.setA hB true).setT b
      unfold BinAt
      rw [hrl, hrn, show decide (0 < max A.len (i + 1)) = true from decide_eq_true (by omega), if_pos (by omega), show (((max A.len (i + 1) : Nat) : Int) - 35) = b by omega]
      exact h1.congr fun k _ => by rw [hw, hw2]
    have HR : Hid ((((max A.len (i + 1) : Nat) : Int) - 1 - i) = 0) := by show _ = _; omega
    have e1 : IntKind.i64.wrap (b - b) = 0 := by rw [Int.sub_self]; rfl
    clear hB hK hw hw2 hrl hrn h0
    go_enter Tryd.func67, Tryd.ntmps67
    go_wp2_with fail
    go_ret
    exact ⟨by rw [HR.out]; simp, HF.out.1, HF.out.2⟩
  rw [show decide (0 < A.len) = true from decide_eq_true (by omega)] at x2
  rw [if_pos (show 0 < A.len by omega)] at x3
  by_cases h1 : i < A.len
  · have HF : Hid (BinAt w g f (A.rise i)) := by rw [rise_low h1]; exact hB
    have HR : Hid ((((max A.len (i + 1) : Nat) : Int) - 1 - i) = (A.len : Int) - 35 - b) := by show _ = _; omega
    clear hB hK hrl hrn
    go_enter Tryd.func67, Tryd.ntmps67
    go_wp2_with fail
    go_ret
    exact ⟨by rw [HR.out]; rfl, HF.out, grown_refl _ _⟩
  obtain ⟨u, hu⟩ : ∃ u, u = i + 1 - A.len := ⟨_, rfl⟩
  have hu2 : b - ((A.len : Int) - 35) = (u : Int) := by omega
  have hu3 : IntKind.i64.wrap (u : Int) = (u : Int) := by rw [IntKind.wrap_i64]; omega
  have hu4 : 0 < u ∧ u ≤ 69 := by omega
  obtain ⟨hu5, hu6⟩ := hu4
  obtain ⟨w1, e1⟩ : ∃ W, W = w.alloc (.cells #[.int .u64 0, .int .i64 0, .int .u64 0, .int .i64 0, .int .u64 0, .int .i64 0, .int .u64 0, .int .i64 0, .int .u64 0, .int .i64 0, .int .u64 0, .int .i64 0, .int .u64 0, .int .i64 0, .int .u64 0, .int .i64 0] 90) := ⟨_, rfl⟩
  have k1 : ParC w1 w.heap.size (fun _ => 0) := by rw [e1, zero_parts]; exact heap_alloc_new _ _
  have c1 : Below w.heap.size w w1 := by rw [e1]; exact (Below.refl _ _).alloc (Nat.le_refl _) _
  obtain ⟨w2, e2⟩ : ∃ W, W = w1.setRow w.heap.size (rowsP (A.win f)).toArray := ⟨_, rfl⟩
  have k2 : ParC w2 w.heap.size (A.win f) := by rw [e2]; unfold ParC at *; rw [heap_setRow, if_pos rfl, k1]; rfl
  have c2 : Below w.heap.size w w2 := by rw [e2]; exact bel_grown c1 (Nat.le_refl _) (grown_row _ _ _) (Nat.le_refl _)
  have hB2 : BinC w2 g f A.n true ((A.len : Int) - 35) (A.win f) := by
    have := BinC.below hB c2 hlt
    rw [show decide (0 < A.len) = true from decide_eq_true (by omega), if_pos (show 0 < A.len by omega)] at this
    exact this
  have HB := Lib.hid hB
  have K1 := Lib.hid k1; have E1 := Lib.hid e1; have E2 := Lib.hid e2
  have K2 := Lib.hid k2; have B2 := Lib.hid hB2
  have HG2 : Hid (w.grownBy w2 (some g)) := ⟨c2.os, c2.tape, c2.output, c2.size, fun j hj _ => c2.block j hj⟩
  have HE : Hid (∀ W, BinC W g f A.n true ((A.len : Int) - 35) (shf A f u 8) → w.grownBy W (some g) → BinAt (W.setCell ⟨g, 3, none⟩ (.int .i64 b)) g f (A.rise i) ∧ w.grownBy (W.setCell ⟨g, 3, none⟩ (.int .i64 b)) (some g)) := by
    intro W hW hG
    refine ⟨?_, grown_set' hG _ _⟩
    unfold BinAt
    rw [hrl, hrn, show decide (0 < max A.len (i + 1)) = true from decide_eq_true (by omega), if_pos (by omega), show (((max A.len (i + 1) : Nat) : Int) - 35) = b by omega]
    refine (hW.setT b).congr fun k hk => ?_
    rw [rise_win hK k (by omega), ← hu]
    unfold shf
    rw [if_pos hk]
  have HR : Hid ((((max A.len (i + 1) : Nat) : Int) - 1 - i) = 0) := by show _ = _; omega
  have hne : g ≠ w.heap.size := by omega
  have s2 : w.heap.size < w2.heap.size := by
    have := (Array.getElem?_eq_some_iff.1 k2).1; exact this
  have HUse := Lib.hid hu
  have hb0 : IntKind.i64.wrap (b - b) = 0 := by rw [Int.sub_self]; rfl
  clear hB k1 e1 k2 e2 c1 c2 hB2 hK hrl hrn hu h0
  go_enter Tryd.func67, Tryd.ntmps67
  go_wp2_with (first
    | (refine wpList_load_cells rfl 90 _ rfl g 4 rfl (rowsP (A.win f)) _ HB.out.parts Tryd.underlying90 rfl (by rw [rowsP_len]; exact info_parts) ?_)
    | (rw [← E1.out]; refine wpList_store_row rfl 90 _ _ rfl w.heap.size (rowsP (A.win f)).toArray rfl rfl 90 (rowsP (fun _ => 0)).toArray K1.out (by rw [List.size_toArray, rowsP_len]; exact info_parts) (by rw [List.size_toArray, List.size_toArray, rowsP_len, rowsP_len]) (rowsP_all _) ?_))
  rw [← E2.out]
  go_loopw [32] (fun ii wr => ∃ j : Nat, j ≤ 8 ∧ ii = .int .i64 j ∧ Hid (BinC wr g f A.n true ((A.len : Int) - 35) (shf A f u j) ∧ ParC wr w.heap.size (A.win f) ∧ w.grownBy wr (some g))) (fun ii _ => 8 - (intOf ii).toNat)
  case atStart => exact ⟨0, by omega, rfl, B2.out.congr fun k _ => by unfold shf; rw [if_neg (by omega)], K2.out, HG2.out⟩
  case round =>
    obtain ⟨j, hj, rfl, hH⟩ := hrel
    by_cases hj8 : j < 8
    · obtain ⟨y0, _, _, _⟩ := hH.out.1.head
      obtain ⟨y1, y2⟩ := hH.out.1.part hj8
      have z1 := hH.out.1.frozen (4 + j * 2)
      have z2 := hH.out.1.frozen (4 + j * 2 + 1)
      have HZ : Hid (∀ W, BinC W g f A.n true ((A.len : Int) - 35) (shf A f u j) → BinC ((W.setCell ⟨g, 4 + j * 2, none⟩ (.int .u64 0)).setCell ⟨g, 4 + j * 2 + 1, none⟩ (.int .i64 0)) g f A.n true ((A.len : Int) - 35) (upd (shf A f u j) j 0)) := fun W hW => hW.setP hj8 0
      obtain ⟨wx, ex⟩ : ∃ W, W = (wr.setCell ⟨g, 4 + j * 2, none⟩ (.int .u64 0)).setCell ⟨g, 4 + j * 2 + 1, none⟩ (.int .i64 0) := ⟨_, rfl⟩
      have hX : BinC wx g f A.n true ((A.len : Int) - 35) (upd (shf A f u j) j 0) := by rw [ex]; exact HZ.out _ hH.out.1
      have hXP : ParC wx w.heap.size (A.win f) := by rw [ex]; exact hH.out.2.1.grown (grown_set' (grown_set' (grown_refl _ _) _ _) _ _) (fun e => hne e.symm)
      have hXG : w.grownBy wx (some g) := by rw [ex]; exact grown_set' (grown_set' hH.out.2.2 _ _) _ _
      have EX := Lib.hid ex
      clear ex hH HZ
      by_cases hc : u ≤ j ∧ j < f
      · obtain ⟨hc1, hc2⟩ := hc
        obtain ⟨p0, p1⟩ := hXP.part (j := j - u) (by omega)
        obtain ⟨y3, y4⟩ := hX.part hj8
        obtain ⟨y5, _, _, _⟩ := hX.head
        have z3 := hX.frozen (4 + j * 2)
        have z4 := hX.frozen (4 + j * 2 + 1)
        have hju : IntKind.i64.wrap ((j : Int) - u) = ((j - u : Nat) : Int) := by rw [IntKind.wrap_i64]; omega
        have HX : Hid (BinC ((wx.setCell ⟨g, 4 + j * 2, none⟩ (.int .u64 (loI (A.win f (j - u))))).setCell ⟨g, 4 + j * 2 + 1, none⟩ (.int .i64 (hiI (A.win f (j - u))))) g f A.n true ((A.len : Int) - 35) (shf A f u (j + 1)) ∧ ParC ((wx.setCell ⟨g, 4 + j * 2, none⟩ (.int .u64 (loI (A.win f (j - u))))).setCell ⟨g, 4 + j * 2 + 1, none⟩ (.int .i64 (hiI (A.win f (j - u))))) w.heap.size (A.win f) ∧ w.grownBy ((wx.setCell ⟨g, 4 + j * 2, none⟩ (.int .u64 (loI (A.win f (j - u))))).setCell ⟨g, 4 + j * 2 + 1, none⟩ (.int .i64 (hiI (A.win f (j - u))))).drew (some g)) :=
          ⟨(hX.setP hj8 _).congr fun k _ => upd_shf1 A f u j k ⟨hc1, hc2⟩, hXP.grown (grown_set' (grown_set' (grown_refl _ _) _ _) _ _) (fun e => hne e.symm), gr_drew (grown_set' (grown_set' hXG _ _) _ _)⟩
        obtain ⟨lo, hlo⟩ : ∃ x, x = loI (A.win f (j - u)) := ⟨_, rfl⟩
        obtain ⟨hi', hhi⟩ : ∃ x, x = hiI (A.win f (j - u)) := ⟨_, rfl⟩
        rw [← hlo] at p0 HX
        rw [← hhi] at p1 HX
        clear hlo hhi hX hXP hXG
        go_wp2_with fail
        rw [← EX.out]
        go_region
        all_goals
          go_wp2_with fail
          go_roundw
          case rel => exact ⟨j + 1, by omega, by go_num, HX.out⟩
          case measure => simp [intOf]; omega
      · have HX : Hid (BinC wx g f A.n true ((A.len : Int) - 35) (shf A f u (j + 1)) ∧ ParC wx w.heap.size (A.win f) ∧ w.grownBy wx (some g)) := ⟨hX.congr fun k _ => upd_shf0 A f u j k hc, hXP, hXG⟩
        have hor : j < u ∨ (u ≤ j ∧ f ≤ j) := by omega
        obtain ⟨y5, _, _, _⟩ := hX.head
        have hxc : wx.cell? ⟨g, 0, none⟩ = some (.int .i64 f) := y5
        clear hX hXP hXG hc
        rcases hor with hc | ⟨hc, hc2⟩
        all_goals
          go_wp2_with fail
          rw [← EX.out]
          go_roundw
          case rel => exact ⟨j + 1, by omega, by go_num, HX.out⟩
          case measure => simp [intOf]; omega
    · obtain rfl : j = 8 := by omega
      obtain ⟨y0, _, _, y3⟩ := hH.out.1.head
      have z1 := hH.out.1.frozen 3
      have HX := Lib.hid (HE.out wr hH.out.1 hH.out.2.2)
      clear hH
      go_wp2_with fail
      go_ret
      exact ⟨by rw [HR.out]; simp, HX.out.1, HX.out.2⟩
end Go.Proofs.YthdbapibbdkclaaDoor
