/- Bins in memory; contracts of bins.part.add, New, Count, Fold. No statement of the seat is proved here. -/
import Derived.Test.YthdbapibbdkclaaDoorProg
import Derived.Test.YthdbapibbdkclaaDoorHb
import Derived.Test.YthdbapibbdkclaaDoorTi
namespace Go.Proofs.YthdbapibbdkclaaDoor
open Go.RowKit
set_option maxRecDepth 10000
set_option linter.unusedVariables false
set_option linter.unusedSimpArgs false

theorem row_set {w : World} {g : Nat} {l : List Value} {t : TypeId} (h : w.heap[g]? = some (.cells l.toArray t (0, 0))) (i : Nat) (v : Value) : (w.setCell ⟨g, i, none⟩ v).heap[g]? = some (.cells (l.set i v).toArray t (0, 0)) := by
  rw [heap_setCell_same w g i _ t _ h, List.setIfInBounds_toArray]
/-- the parts of bins, one by one -/
def rowsP (h : Nat → Int) : List Value := (List.range 16).map fun j => if j % 2 = 0 then .int .u64 (loI (h (j / 2))) else .int .i64 (hiI (h (j / 2)))
theorem rowsP_len (h : Nat → Int) : (rowsP h).length = 16 := by simp [rowsP]
theorem rowsP_get (h : Nat → Int) {j : Nat} (hj : j < 16) : (rowsP h)[j]? = some (if j % 2 = 0 then .int .u64 (loI (h (j / 2))) else .int .i64 (hiI (h (j / 2)))) := by
  unfold rowsP
  rw [List.getElem?_map, List.getElem?_range hj]; rfl
theorem rowsP_lo (h : Nat → Int) {k : Nat} (hk : k < 8) : (rowsP h)[2 * k]? = some (.int .u64 (loI (h k))) := by
  rw [rowsP_get h (by omega), if_pos (by omega), show 2 * k / 2 = k by omega]
theorem rowsP_hi (h : Nat → Int) {k : Nat} (hk : k < 8) : (rowsP h)[2 * k + 1]? = some (.int .i64 (hiI (h k))) := by
  rw [rowsP_get h (by omega), if_neg (by omega), show (2 * k + 1) / 2 = k by omega]
def upd (h : Nat → Int) (k : Nat) (z : Int) : Nat → Int := fun j => if j = k then z else h j
theorem rowsP_upd (h : Nat → Int) {k : Nat} (hk : k < 8) (z : Int) : ((rowsP h).set (2 * k) (.int .u64 (loI z))).set (2 * k + 1) (.int .i64 (hiI z)) = rowsP (upd h k z) := by
  apply List.ext_getElem?
  intro i
  by_cases hi : i < 16
  · rw [rowsP_get _ hi, List.getElem?_set, List.getElem?_set, rowsP_get h hi, List.length_set, rowsP_len]
    unfold upd
    by_cases h1 : 2 * k + 1 = i
    · rw [if_pos h1, if_pos (by omega), if_neg (by omega), if_pos (by omega)]
    · rw [if_neg h1]
      by_cases h2 : 2 * k = i
      · rw [if_pos h2, if_pos (by omega), if_pos (by omega), if_pos (by omega)]
      · rw [if_neg h2]
        have h3 : i / 2 ≠ k := by omega
        simp only [if_neg h3]
  · rw [List.getElem?_eq_none (by simp [rowsP_len]; omega), List.getElem?_eq_none (by rw [rowsP_len]; omega)]
theorem rowsP_upd' (h : Nat → Int) {k : Nat} (hk : k < 8) (z : Int) : ((rowsP h).set (2 * k + 1) (.int .i64 (hiI z))).set (2 * k) (.int .u64 (loI z)) = rowsP (upd h k z) := by
  rw [List.set_comm _ _ (by omega), rowsP_upd h hk]
theorem rowsP_congr {h h' : Nat → Int} (e : ∀ k, k < 8 → h k = h' k) : rowsP h = rowsP h' := by
  unfold rowsP
  refine List.map_congr_left fun j hj => ?_
  have : j < 16 := by simpa using hj
  rw [e (j / 2) (by omega)]
def binL (f n : Int) (any : Bool) (top : Int) (h : Nat → Int) : List Value := [.int .i64 f, .int .i64 n, .bool any, .int .i64 top] ++ rowsP h
/-- bins in a block of their own -/
def BinC (w : World) (g : Nat) (f n : Int) (any : Bool) (top : Int) (h : Nat → Int) : Prop := w.heap[g]? = some (.cells (binL f n any top h).toArray 92 (0, 0))
section
variable {w w' : World} {g : Nat} {f n top : Int} {any : Bool} {h : Nat → Int}
theorem BinC.head (k : BinC w g f n any top h) : w.cell? ⟨g, 0, none⟩ = some (.int .i64 f) ∧ w.cell? ⟨g, 1, none⟩ = some (.int .i64 n) ∧ w.cell? ⟨g, 2, none⟩ = some (.bool any) ∧ w.cell? ⟨g, 3, none⟩ = some (.int .i64 top) :=
  ⟨by rw [cell_of_row w g 0 _ _ _ k]; rfl, by rw [cell_of_row w g 1 _ _ _ k]; rfl, by rw [cell_of_row w g 2 _ _ _ k]; rfl, by rw [cell_of_row w g 3 _ _ _ k]; rfl⟩
theorem BinC.part (k : BinC w g f n any top h) {j : Nat} (hj : j < 8) : w.cell? ⟨g, 4 + j * 2, none⟩ = some (.int .u64 (loI (h j))) ∧ w.cell? ⟨g, 4 + j * 2 + 1, none⟩ = some (.int .i64 (hiI (h j))) := by
  constructor
  · rw [cell_of_row w g _ _ _ _ k, List.getElem?_toArray]
    unfold binL
    rw [List.getElem?_append_right (by simp), show 4 + j * 2 - ([.int .i64 f, .int .i64 n, .bool any, .int .i64 top] : List Value).length = 2 * j by simp; omega, rowsP_lo h hj]
  · rw [cell_of_row w g _ _ _ _ k, List.getElem?_toArray]
    unfold binL
    rw [List.getElem?_append_right (by simp; omega), show 4 + j * 2 + 1 - ([.int .i64 f, .int .i64 n, .bool any, .int .i64 top] : List Value).length = 2 * j + 1 by simp; omega, rowsP_hi h hj]
theorem BinC.frozen (k : BinC w g f n any top h) (j : Nat) : w.frozen? ⟨g, j, none⟩ = false := frozen_of_row w g j _ _ k
theorem BinC.lt (k : BinC w g f n any top h) : g < w.heap.size := (Array.getElem?_eq_some_iff.1 k).1
theorem BinC.setN (k : BinC w g f n any top h) (m : Int) : BinC (w.setCell ⟨g, 1, none⟩ (.int .i64 m)) g f m any top h := row_set k 1 _
theorem BinC.setA (k : BinC w g f n any top h) (b : Bool) : BinC (w.setCell ⟨g, 2, none⟩ (.bool b)) g f n b top h := row_set k 2 _
theorem BinC.setT (k : BinC w g f n any top h) (m : Int) : BinC (w.setCell ⟨g, 3, none⟩ (.int .i64 m)) g f n any m h := row_set k 3 _
theorem BinC.setP (k : BinC w g f n any top h) {j : Nat} (hj : j < 8) (z : Int) : BinC ((w.setCell ⟨g, 4 + j * 2, none⟩ (.int .u64 (loI z))).setCell ⟨g, 4 + j * 2 + 1, none⟩ (.int .i64 (hiI z))) g f n any top (upd h j z) := by
  have h1 := row_set (row_set k (4 + j * 2) (.int .u64 (loI z))) (4 + j * 2 + 1) (.int .i64 (hiI z))
  unfold BinC
  rw [h1]
  unfold binL
  rw [List.set_append_right _ _ (by simp), List.set_append_right _ _ (by simp; omega), show 4 + j * 2 - ([.int .i64 f, .int .i64 n, .bool any, .int .i64 top] : List Value).length = 2 * j by simp; omega, show 4 + j * 2 + 1 - ([.int .i64 f, .int .i64 n, .bool any, .int .i64 top] : List Value).length = 2 * j + 1 by simp; omega, rowsP_upd h hj]
theorem BinC.setP' (k : BinC w g f n any top h) {j : Nat} (hj : j < 8) (z : Int) : BinC ((w.setCell ⟨g, 4 + j * 2 + 1, none⟩ (.int .i64 (hiI z))).setCell ⟨g, 4 + j * 2, none⟩ (.int .u64 (loI z))) g f n any top (upd h j z) := by
  have h1 := row_set (row_set k (4 + j * 2 + 1) (.int .i64 (hiI z))) (4 + j * 2) (.int .u64 (loI z))
  unfold BinC
  rw [h1]
  unfold binL
  rw [List.set_append_right _ _ (by simp; omega), List.set_append_right _ _ (by simp), show 4 + j * 2 - ([.int .i64 f, .int .i64 n, .bool any, .int .i64 top] : List Value).length = 2 * j by simp; omega, show 4 + j * 2 + 1 - ([.int .i64 f, .int .i64 n, .bool any, .int .i64 top] : List Value).length = 2 * j + 1 by simp; omega, rowsP_upd' h hj]
theorem BinC.other (k : BinC w g f n any top h) {a : Addr} (ha : a.block ≠ g) (v : Value) : BinC (w.setCell a v) g f n any top h := by
  unfold BinC; rw [heap_setCell_other _ _ _ _ (fun e => ha e.symm)]; exact k
theorem BinC.below {B : Nat} (k : BinC w g f n any top h) (hb : Below B w w') (hg : g < B) : BinC w' g f n any top h := by
  unfold BinC; rw [hb.block _ hg]; exact k
theorem BinC.grow (k : BinC w g f n any top h) (hb : Below w.heap.size w w') : BinC w' g f n any top h := k.below hb k.lt
theorem BinC.alloc (k : BinC w g f n any top h) (o : Obj) : BinC (w.alloc o) g f n any top h := k.below ((Below.refl w.heap.size w).alloc (Nat.le_refl _) o) k.lt
theorem BinC.drew (k : BinC w g f n any top h) : BinC w.drew g f n any top h := k
theorem BinC.grown (k : BinC w g f n any top h) {r : Nat} (hk : w.grownBy w' (some r)) (hne : g ≠ r) : BinC w' g f n any top h := (hk.block g k.lt (by simpa using hne)).trans k
theorem BinC.congr (k : BinC w g f n any top h) {h' : Nat → Int} (e : ∀ j, j < 8 → h j = h' j) : BinC w g f n any top h' := by
  unfold BinC binL; rw [← rowsP_congr e]; exact k
end
/-- bins hold what numbers came to -/
def BinAt (w : World) (g f : Nat) (A : Bn) : Prop := BinC w g f A.n (decide (0 < A.len)) (if 0 < A.len then (A.len : Int) - 35 else 0) (A.win f)

set_option maxHeartbeats 4000000 in
theorem padd_any (g k : Nat) (f n : Int) (any : Bool) (top : Int) (h : Nat → Int) (v : Int) (w : World) (hB : BinC w g f n any top h) (hk : k < 8) (b1 : (h k).natAbs < 4722366482869645213696) (b2 : v.natAbs < 4722366482869645213696) :
    Calls Tryd.prog 68 #[.pointer (some ⟨g, 4 + k * 2, none⟩), .agg #[.int .u64 (loI v), .int .i64 (hiI v)]] w fun en w' => en = .returned (.tuple #[]) ∧ BinC w' g f n any top (upd h k (h k + v)) ∧ w.grownBy w' (some g) := by
  obtain ⟨z, hz⟩ : ∃ z, z = h k := ⟨_, rfl⟩
  obtain ⟨e1, e2⟩ := lohi_add z v
  obtain ⟨w1, e3⟩ : ∃ W, W = w.alloc (.cells #[.int .u64 (loI v), .int .i64 (hiI v)] 89) := ⟨_, rfl⟩
  obtain ⟨k1, c1, s1⟩ := new_of e3 rfl
  have hB1 := hB.below c1 hB.lt
  obtain ⟨x0, x1⟩ := hB1.part hk
  obtain ⟨y0, y1⟩ := pol_cells k1
  have f1 := hB1.frozen (4 + k * 2)
  have f2 := hB1.frozen (4 + k * 2 + 1)
  have hlt := hB.lt
  rw [← hz] at x0 x1 b1
  have l1 : 0 ≤ loI z ∧ loI z < 18446744073709551616 := by unfold loI; omega
  have l2 : 0 ≤ loI v ∧ loI v < 18446744073709551616 := by unfold loI; omega
  have i1 : -257 ≤ hiI z ∧ hiI z ≤ 257 := by unfold hiI; omega
  have i2 : -257 ≤ hiI v ∧ hiI v ≤ 257 := by unfold hiI; omega
  have hA : ∀ W, (callFunc 121 #[.int .u64 (loI z), .int .u64 (loI v), .int .u64 0]).run Tryd.prog W = .ok (.value (.tuple #[.int .u64 (loI (z + v)), .int .u64 ((loI z + loI v) / 18446744073709551616)])) W := by
    intro W
    have := ext_add64 (loI z) (loI v) 0 l1.1 l1.2 l2.1 l2.2 (by decide) (by decide) W
    rw [Int.add_zero] at this
    rw [this, e1]
  have HF : Hid (∀ W, BinC W g f n any top h → w.grownBy W (some g) → BinC ((W.setCell ⟨g, 4 + k * 2, none⟩ (.int .u64 (loI (z + v)))).setCell ⟨g, 4 + k * 2 + 1, none⟩ (.int .i64 (hiI z + hiI v + (loI z + loI v) / 18446744073709551616))) g f n any top (upd h k (h k + v)) ∧ w.grownBy ((W.setCell ⟨g, 4 + k * 2, none⟩ (.int .u64 (loI (z + v)))).setCell ⟨g, 4 + k * 2 + 1, none⟩ (.int .i64 (hiI z + hiI v + (loI z + loI v) / 18446744073709551616))) (some g)) := by
    intro W hW hG
    rw [← e2, ← hz]
    exact ⟨hW.setP hk _, grown_set' (grown_set' hG _ _) _ _⟩
  have HG1 : Hid (w.grownBy w1 (some g)) := ⟨c1.os, c1.tape, c1.output, c1.size, fun j hj _ => c1.block j hj⟩
  have HB1 := Lib.hid hB1
  have E3 := Lib.hid e3
  have o1 : 0 ≤ (loI z + loI v) / 18446744073709551616 ∧ (loI z + loI v) / 18446744073709551616 ≤ 1 := by omega
  obtain ⟨cr, hcr⟩ : ∃ cr, cr = (loI z + loI v) / 18446744073709551616 := ⟨_, rfl⟩
  obtain ⟨lz, hlz⟩ : ∃ x, x = loI (z + v) := ⟨_, rfl⟩
  rw [← hcr] at hA HF o1
  rw [← hlz] at hA HF
  obtain ⟨a, ha⟩ : ∃ a, a = loI z := ⟨_, rfl⟩
  obtain ⟨b, hb⟩ : ∃ b, b = loI v := ⟨_, rfl⟩
  obtain ⟨c, hc⟩ : ∃ c, c = hiI z := ⟨_, rfl⟩
  obtain ⟨d, hd⟩ : ∃ d, d = hiI v := ⟨_, rfl⟩
  rw [← ha, ← hb] at hA
  rw [← ha] at x0
  rw [← hc] at x1 i1
  rw [← hb] at y0
  rw [← hd] at y1 i2
  rw [← hc, ← hd] at HF
  rw [← hb, ← hd] at E3 ⊢
  clear e3 k1 c1 hB1 hB e1 e2 hz l1 l2 hcr hlz ha hb hc hd b1 b2
  have w1' : IntKind.i64.wrap (c + d) = c + d := by rw [IntKind.wrap_i64]; omega
  have w2' : IntKind.i64.wrap (c + d + cr) = c + d + cr := by rw [IntKind.wrap_i64]; omega
  have w3' : IntKind.i64.wrap cr = cr := by rw [IntKind.wrap_i64]; omega
  obtain ⟨i11, i12⟩ := i1
  obtain ⟨i21, i22⟩ := i2
  obtain ⟨o11, o12⟩ := o1
  go_enter Tryd.func68, Tryd.ntmps68
  go_wp2_with fail
  rw [← E3.out]
  go_region
  all_goals
    go_wp2_with fail
    go_region
  all_goals
    go_wp2_with fail
    go_end0
    exact ⟨rfl, (HF.out _ HB1.out HG1.out).1, gr_drew (gr_drew (HF.out _ HB1.out HG1.out).2)⟩

set_option maxHeartbeats 2000000 in
theorem bnew_any (f : Nat) (w : World) (h1 : 1 ≤ f) (h2 : f ≤ 8) : Calls Tryd.prog 18 #[.int .i64 f] w fun en w' => en = .returned (.pointer (some ⟨w.heap.size, 0, none⟩)) ∧ BinAt w' w.heap.size f Bn.zero ∧ Below w.heap.size w w' := by
  have hz : (binL f 0 false 0 (Bn.zero.win f)) = [.int .i64 f, .int .i64 0, .bool false, .int .i64 0, .int .u64 0, .int .i64 0, .int .u64 0, .int .i64 0, .int .u64 0, .int .i64 0, .int .u64 0, .int .i64 0, .int .u64 0, .int .i64 0, .int .u64 0, .int .i64 0, .int .u64 0, .int .i64 0, .int .u64 0, .int .i64 0] := by
    unfold binL
    rw [rowsP_congr (h' := fun _ => 0) (fun k _ => by unfold Bn.win Bn.zero; split <;> rfl)]
    rfl
  have HZ := Lib.hid hz
  clear hz
  go_enter Tryd.func18, Tryd.ntmps18
  go_wp2_with fail
  go_ret
  refine ⟨rfl, ?_, (Below.refl _ _).alloc (Nat.le_refl _) _⟩
  unfold BinAt BinC
  rw [show (if 0 < Bn.zero.len then ((Bn.zero.len : Nat) : Int) - 35 else 0) = 0 from rfl, show decide (0 < Bn.zero.len) = false from rfl, show ((Bn.zero.n : Nat) : Int) = 0 from rfl, HZ.out]
  exact heap_alloc_new _ _
theorem bnewN_any (f : Int) (w : World) (h : f < 1 ∨ 8 < f) : Calls Tryd.prog 18 #[.int .i64 f] w fun en w' => en = .returned (.pointer none) ∧ w = w' := by
  rcases h with h | h
  all_goals
    go_enter Tryd.func18, Tryd.ntmps18
    go_wp2_with fail
    go_ret
    exact ⟨rfl, rfl⟩
theorem bcount_any (A : Bn) (g f : Nat) (w : World) (h : BinAt w g f A) : Calls Tryd.prog 65 #[.pointer (some ⟨g, 0, none⟩)] w fun en w' => en = .returned (.int .i64 A.n) ∧ w = w' := by
  obtain ⟨_, x1, _, _⟩ := BinC.head h
  clear h
  go_enter Tryd.func65, Tryd.ntmps65
  go_wp2_with fail
  go_ret
  exact ⟨rfl, rfl⟩
theorem bfold_any (A : Bn) (g f : Nat) (w : World) (h : BinAt w g f A) : Calls Tryd.prog 66 #[.pointer (some ⟨g, 0, none⟩)] w fun en w' => en = .returned (.int .i64 f) ∧ w = w' := by
  obtain ⟨x0, _, _, _⟩ := BinC.head h
  clear h
  go_enter Tryd.func66, Tryd.ntmps66
  go_wp2_with fail
  go_ret
  exact ⟨rfl, rfl⟩
end Go.Proofs.YthdbapibbdkclaaDoor
