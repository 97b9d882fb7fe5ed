/- Contracts of math/bits.Mul64, super.one, super.product. Contract of super.product. No statement of the seat is proved here. -/
import Derived.Test.YteahdgbokjbgcaaGreatDoorProg
import Derived.Test.YteahdgbokjbgcaaGreatDoorYSl
import Derived.Lib.Mul64
namespace Go.Proofs.YteahdgbokjbgcaaGreatDoor
open Go.RowKit
set_option linter.unusedVariables false
set_option linter.unusedSimpArgs false

theorem m64_mask (a : Nat) (ha : a < 18446744073709551616) : bits .and .u64 (a : Int) 4294967295 = ((a % 4294967296 : Nat) : Int) := by
  have h := u64_and_nat a 4294967295 ha (by omega)
  rw [Nat.and_two_pow_sub_one_eq_mod a 32] at h
  exact h
theorem m64_div (a : Nat) : (a : Int) / 4294967296 = ((a / 4294967296 : Nat) : Int) := by omega
theorem m64_mul (a b : Nat) : (a : Int) * (b : Int) = ((a * b : Nat) : Int) := (Int.natCast_mul a b).symm
theorem m64_add (a b : Nat) : (a : Int) + (b : Int) = ((a + b : Nat) : Int) := (Int.natCast_add a b).symm
theorem m64_wrap (a : Nat) (ha : a < 18446744073709551616) : IntKind.u64.wrap (a : Int) = (a : Int) := by rw [IntKind.wrap_u64]; omega
theorem m64_wrapM (a : Nat) : IntKind.u64.wrap (a : Int) = ((a % 18446744073709551616 : Nat) : Int) := by rw [IntKind.wrap_u64]; omega

set_option maxRecDepth 10000 in
set_option maxHeartbeats 1000000 in
theorem mul64_any (x y : Nat) (hx : x < 18446744073709551616) (hy : y < 18446744073709551616) (w : World) :
    Calls Tryz.prog 273 #[.int .u64 x, .int .u64 y] w fun e w' => e = .returned (.tuple #[.int .u64 ((x * y / 18446744073709551616 : Nat) : Int), .int .u64 ((x * y % 18446744073709551616 : Nat) : Int)]) ∧ w = w' := by
  obtain ⟨bd, bt, bw, hhi⟩ := Lib.mul64_hi x y hx hy
  have ba := Lib.half_mul_le (a := x / 4294967296) (b := y / 4294967296) (by omega) (by omega)
  have bb := Lib.half_mul_le (a := x / 4294967296) (b := y % 4294967296) (by omega) (by omega)
  have bc := Lib.half_mul_le (a := x % 4294967296) (b := y / 4294967296) (by omega) (by omega)
  have ba' : x / 4294967296 * (y / 4294967296) < 18446744073709551616 := by omega
  have bb' : x / 4294967296 * (y % 4294967296) < 18446744073709551616 := by omega
  have bc' : x % 4294967296 * (y / 4294967296) < 18446744073709551616 := by omega
  have hxy : x * y < 18446744073709551616 * 18446744073709551616 := Nat.mul_lt_mul'' hx hy
  have bh : x / 4294967296 * (y / 4294967296) + (x / 4294967296 * (y % 4294967296) + x % 4294967296 * (y % 4294967296) / 4294967296) / 4294967296 + ((x / 4294967296 * (y % 4294967296) + x % 4294967296 * (y % 4294967296) / 4294967296) % 4294967296 + x % 4294967296 * (y / 4294967296)) / 4294967296 < 18446744073709551616 := by
    rw [hhi]; exact Nat.div_lt_of_lt_mul hxy
  have bh1 : x / 4294967296 * (y / 4294967296) + (x / 4294967296 * (y % 4294967296) + x % 4294967296 * (y % 4294967296) / 4294967296) / 4294967296 < 18446744073709551616 := by omega
  have H1 := Lib.hid hhi; have H2 := Lib.hid bd; have H3 := Lib.hid bt; have H4 := Lib.hid bw; have H5 := Lib.hid ba'; have H6 := Lib.hid bb'; have H7 := Lib.hid bc'; have H8 := Lib.hid bh; have H9 := Lib.hid bh1
  clear hhi bd bt bw ba bb bc ba' bb' bc' bh bh1 hxy
  go_enter Tryz.func273, Tryz.ntmps273
  go_wp2
  simp only [m64_mask x hx, m64_mask y hy, m64_div, m64_mul, m64_add, m64_wrap _ H2.out, m64_wrap _ H6.out, m64_wrap _ H3.out, m64_mask _ H3.out, m64_wrap _ H7.out, m64_wrap _ H4.out, m64_wrap _ H5.out, m64_wrap _ H9.out, m64_wrap _ H8.out, m64_wrapM (x * y)]
  rw [H1.out]
  go_ret2
  exact ⟨rfl, rfl⟩

theorem placed_lV (hi lo b q : Nat) : placed (lV hi lo b) q = (((hi * 18446744073709551616 + lo) * 2 ^ (64 * q + b) : Nat) : Int) := by
  unfold placed lV
  rw [w64_nat, ← Int.natCast_mul, Nat.mul_assoc, ← Nat.pow_add, Nat.add_comm b]
theorem mkT_special {c : Int} {s : Bool} {v v' : Int} (h : c = 0 ∨ c = 3 ∨ c = 4) : mkT c s v = mkT c s v' := by
  unfold mkT
  rcases h with rfl | rfl | rfl <;> simp
theorem th_zero_val (c : Int) (s : Bool) : (⟨c, s, false, 0, 0⟩ : Th).val = .agg #[.int .i64 c, .bool s, .bool false, .int .i64 0, .int .u64 0, .int .u64 0, .int .u64 0] := by
  unfold Th.val; simp only [dz_zero]; rfl
theorem th_zero_ok (c : Int) (s : Bool) : (⟨c, s, false, 0, 0⟩ : Th).Ok := ⟨Int.le_refl _, w64_pos 3, (by decide : 0 + 3 ≤ 66)⟩
def OneR (w : World) (A : Ac) (en : Ending) (w' : World) : Prop := ∃ t : Th, en = .returned t.val ∧ t.Ok ∧ t.ac = A ∧ Below w.heap.size w w'

/-- a block of seven cells -/
def C7 (w : World) (g : Nat) (T : TypeId) (v0 v1 v2 v3 v4 v5 v6 : Value) : Prop := w.heap[g]? = some (.cells #[v0, v1, v2, v3, v4, v5, v6] T (0, 0))
theorem C7.below {w w' : World} {g B : Nat} {T : TypeId} {v0 v1 v2 v3 v4 v5 v6 : Value} (h : C7 w g T v0 v1 v2 v3 v4 v5 v6) (hb : Below B w w') (hg : g < B) : C7 w' g T v0 v1 v2 v3 v4 v5 v6 := by
  unfold C7; rw [hb.block _ hg]; exact h
theorem C7.cells {w : World} {g : Nat} {T : TypeId} {v0 v1 v2 v3 v4 v5 v6 : Value} (h : C7 w g T v0 v1 v2 v3 v4 v5 v6) :
    w.cell? ⟨g, 0, none⟩ = some v0 ∧ w.cell? ⟨g, 1, none⟩ = some v1 ∧ w.cell? ⟨g, 2, none⟩ = some v2 ∧ w.cell? ⟨g, 3, none⟩ = some v3 ∧ w.cell? ⟨g, 4, none⟩ = some v4 ∧ w.cell? ⟨g, 5, none⟩ = some v5 ∧ w.cell? ⟨g, 6, none⟩ = some v6 := th_cells h
theorem C7.frozen {w : World} {g : Nat} {T : TypeId} {v0 v1 v2 v3 v4 v5 v6 : Value} (h : C7 w g T v0 v1 v2 v3 v4 v5 v6) (i : Nat) : w.frozen? ⟨g, i, none⟩ = false := frozen_of_row w g i _ T h
/-- five cells from the third on, laid anew -/
def wr5 (w : World) (g : Nat) (u2 u3 u4 u5 u6 : Value) : World := ((((w.setCell ⟨g, 2, none⟩ u2).setCell ⟨g, 3, none⟩ u3).setCell ⟨g, 4, none⟩ u4).setCell ⟨g, 5, none⟩ u5).setCell ⟨g, 6, none⟩ u6
def wr7 (w : World) (g : Nat) (u0 u1 u2 u3 u4 u5 u6 : Value) : World := wr5 ((w.setCell ⟨g, 0, none⟩ u0).setCell ⟨g, 1, none⟩ u1) g u2 u3 u4 u5 u6
theorem C7.set {w : World} {g i : Nat} {T : TypeId} {cs : Array Value} (h : w.heap[g]? = some (.cells cs T (0, 0))) (u : Value) : (w.setCell ⟨g, i, none⟩ u).heap[g]? = some (.cells (cs.setIfInBounds i u) T (0, 0)) := heap_setCell_same w g i _ T u h
theorem C7.wr5 {w : World} {g : Nat} {T : TypeId} {v0 v1 v2 v3 v4 v5 v6 : Value} (h : C7 w g T v0 v1 v2 v3 v4 v5 v6) (u2 u3 u4 u5 u6 : Value) : C7 (wr5 w g u2 u3 u4 u5 u6) g T v0 v1 u2 u3 u4 u5 u6 :=
  C7.set (i := 6) (C7.set (i := 5) (C7.set (i := 4) (C7.set (i := 3) (C7.set (i := 2) h u2) u3) u4) u5) u6
theorem C7.wr7 {w : World} {g : Nat} {T : TypeId} {v0 v1 v2 v3 v4 v5 v6 : Value} (h : C7 w g T v0 v1 v2 v3 v4 v5 v6) (u0 u1 u2 u3 u4 u5 u6 : Value) : C7 (wr7 w g u0 u1 u2 u3 u4 u5 u6) g T u0 u1 u2 u3 u4 u5 u6 :=
  C7.wr5 (show C7 ((w.setCell ⟨g, 0, none⟩ u0).setCell ⟨g, 1, none⟩ u1) g T u0 u1 v2 v3 v4 v5 v6 from C7.set (i := 1) (C7.set (i := 0) h u0) u1) u2 u3 u4 u5 u6
theorem gr_wr5 (w : World) (g : Nat) (u2 u3 u4 u5 u6 : Value) : w.grownBy (wr5 w g u2 u3 u4 u5 u6) (some g) :=
  grown_set' (grown_set' (grown_set' (grown_set' (grown_set' (grown_refl w _) _ _) _ _) _ _) _ _) _ _
theorem gr_wr7 (w : World) (g : Nat) (u0 u1 u2 u3 u4 u5 u6 : Value) : w.grownBy (wr7 w g u0 u1 u2 u3 u4 u5 u6) (some g) :=
  gr_trans (grown_set' (grown_set' (grown_refl w _) _ _) _ _) (gr_wr5 _ _ _ _ _ _ _)
theorem C7.grown {w w' : World} {g r : Nat} {T : TypeId} {v0 v1 v2 v3 v4 v5 v6 : Value} (h : C7 w g T v0 v1 v2 v3 v4 v5 v6) (hk : w.grownBy w' (some r)) (hne : g ≠ r) : C7 w' g T v0 v1 v2 v3 v4 v5 v6 := blk_grown' h hk hne
theorem C7.lt {w : World} {g : Nat} {T : TypeId} {v0 v1 v2 v3 v4 v5 v6 : Value} (h : C7 w g T v0 v1 v2 v3 v4 v5 v6) : g < w.heap.size := (Array.getElem?_eq_some_iff.1 h).1

set_option maxRecDepth 10000 in
set_option maxHeartbeats 4000000 in
theorem one_any (b : Nat) (w : World) (hb : b < 18446744073709551616) :
    Calls Tryz.prog 203 #[.float .f64 b] w (OneR w (numT b)) := by
  have hS := fun W => split_any b W hb
  rw [partsV_pt] at hS
  obtain ⟨h1, h2, h3, h4, h5, h6⟩ := ptOf_bd b
  unfold numT
  generalize ptOf b = P at *
  obtain ⟨s, c, e, f⟩ := P
  simp only [] at *
  have hL := fun W => laid_any s 0 f e W (by decide) (by omega) (by omega) (by omega)
  have HS := Lib.hid hS; have HL := Lib.hid hL
  clear hS hL
  obtain ⟨A, hA⟩ : ∃ A, A = mkT c s (sgn s (f * 2 ^ (e + 2148).toNat)) := ⟨_, rfl⟩
  rw [← hA]
  have HA := Lib.hid hA
  clear hA
  have Z : C7 (w.alloc (.cells #[.int .i64 0, .bool false, .bool false, .int .i64 0, .int .u64 0, .int .u64 0, .int .u64 0] 217)) w.heap.size 217 (.int .i64 0) (.bool false) (.bool false) (.int .i64 0) (.int .u64 0) (.int .u64 0) (.int .u64 0) := heap_alloc_new _ _
  have HZ := Lib.hid Z
  have HZB : Hid (Below w.heap.size w (w.alloc (.cells #[.int .i64 0, .bool false, .bool false, .int .i64 0, .int .u64 0, .int .u64 0, .int .u64 0] 217))) := (Below.refl _ _).alloc (Nat.le_refl _) _
  clear Z
  have HB := Lib.hid hb
  clear hb
  by_cases hc : c = 1 ∨ c = 2
  · have hc2 : (c == 1) = true ∨ (c == 1) = false ∧ (c == 2) = true := by rcases hc with rfl | rfl <;> simp
    clear hc
    rcases hc2 with e1 | ⟨e1, e2⟩
    all_goals
      go_enter Tryz.func203, Tryz.ntmps203
      go_wp2_with fail
      refine (HS.out _).mono ?_; rintro en w1 ⟨rfl, hb1⟩
      have k0 := HZ.out.below hb1 (by simp)
      have hB1 := HZB.out.trans (hb1.mono (by simp))
      have z1 := k0.lt
      clear hb1
      go_wp2_with fail
      obtain ⟨w2, q2⟩ : ∃ W, W = w1.alloc (.cells #[.bool s, .int .i64 c, .int .i64 e, .int .u64 (f : Int)] 194) := ⟨_, rfl⟩
      rw [← q2]
      obtain ⟨_, b2, s2⟩ := new_of q2 rfl
      clear q2
      obtain ⟨w3, e3⟩ : ∃ W, W = w2.alloc (.cells #[.int .i64 c, .bool s, .bool false, .int .i64 0, .int .u64 0, .int .u64 0, .int .u64 0] 217) := ⟨_, rfl⟩
      rw [← e3]
      obtain ⟨k3, b3, s3⟩ := new_of e3 s2
      replace k3 : C7 w3 (w1.heap.size + 1) 217 (.int .i64 c) (.bool s) (.bool false) (.int .i64 0) (.int .u64 0) (.int .u64 0) (.int .u64 0) := k3
      clear e3
      replace k0 := (k0.below b2 z1).below b3 (by omega)
      have hB3 := (hB1.trans (b2.mono hB1.size)).trans (b3.mono (by omega))
      clear hB1 b2 b3
      refine (HL.out w3).mono ?_; rintro en w4 ⟨rfl, hb4⟩
      replace k0 := k0.below hb4 (by omega)
      replace k3 := k3.below hb4 (by omega)
      have hB4 := hB3.trans (hb4.mono hB3.size)
      clear hb4 hB3 s2 s3
      obtain ⟨q, hq⟩ : ∃ q : Nat, (e + 2148) / 64 = (q : Int) := ⟨((e + 2148) / 64).toNat, by omega⟩
      obtain ⟨r, hr⟩ : ∃ r : Nat, ((e + 2148) % 64).toNat = r := ⟨_, rfl⟩
      rw [hr, hq]
      obtain ⟨V, hV⟩ : ∃ V, V = lV 0 f r := ⟨_, rfl⟩
      rw [← hV]
      have k3' := k3.wr5 (.bool s) (.int .i64 (q : Int)) (.int .u64 (dz V 0)) (.int .u64 (dz V 1)) (.int .u64 (dz V 2))
      have g3 := gr_wr5 w4 (w1.heap.size + 1) (.bool s) (.int .i64 (q : Int)) (.int .u64 (dz V 0)) (.int .u64 (dz V 1)) (.int .u64 (dz V 2))
      have k0' := k0.grown g3 (by omega)
      have k5 := k0'.wr7 (.int .i64 c) (.bool s) (.bool s) (.int .i64 (q : Int)) (.int .u64 (dz V 0)) (.int .u64 (dz V 1)) (.int .u64 (dz V 2))
      have g5 := gr_wr7 (wr5 w4 (w1.heap.size + 1) (.bool s) (.int .i64 (q : Int)) (.int .u64 (dz V 0)) (.int .u64 (dz V 1)) (.int .u64 (dz V 2))) w.heap.size (.int .i64 c) (.bool s) (.bool s) (.int .i64 (q : Int)) (.int .u64 (dz V 0)) (.int .u64 (dz V 1)) (.int .u64 (dz V 2))
      have hE := bel_grown (bel_grown hB4 (Nat.le_refl _) g3 (by omega)) (Nat.le_refl _) g5 (Nat.le_refl _)
      have HQ := Lib.hid hq; have HR := Lib.hid hr; have HV := Lib.hid hV; have HE := Lib.hid hE; have K5 := Lib.hid k5
      have f0 := k0.frozen; have f3 := k3.frozen
      obtain ⟨c0, c1, c2, c3, c4, c5, c6⟩ := k3.cells
      obtain ⟨d0, d1, d2, d3, d4, d5, d6⟩ := k0.cells
      have ne : w.heap.size ≠ w1.heap.size + 1 := by omega
      clear hq hr hV hE k5 g5 g3 k0' k3' k0 k3 hB4
      go_wp2_with fail
      have k5 := K5.out
      have e5 := HE.out
      unfold wr7 wr5 at k5 e5
      obtain ⟨x0, x1, x2, x3, x4, x5, x6⟩ := k5.cells
      refine bodyPost_ret (v := .agg #[.int .i64 c, .bool s, .bool s, .int .i64 (q : Int), .int .u64 (dz V 0), .int .u64 (dz V 1), .int .u64 (dz V 2)]) (by simp [results, Tryz.results203, go_sem, x0, x1, x2, x3, x4, x5, x6]) rfl ?_
      obtain ⟨v0, v1⟩ := lV_bd (hi := 0) (lo := f) (b := r) (by decide) (by omega) (by have := HR.out; omega)
      refine ⟨⟨c, s, s, q, V⟩, rfl, ⟨by rw [HV.out]; exact v0, by rw [HV.out]; exact v1, by have := HQ.out; show q + 3 ≤ 66; omega⟩, ?_, e5⟩
      rw [HA.out]
      unfold Th.ac Th.v
      simp only []
      rw [HV.out, placed_lV, Nat.zero_mul, Nat.zero_add, show 64 * q + r = (e + 2148).toNat by have := HQ.out; have := HR.out; omega]
      rfl
  · have e1 : (c == 1) = false := by simp; omega
    have e2 : (c == 2) = false := by simp; omega
    have HC := Lib.hid (show c = 0 ∨ c = 3 ∨ c = 4 by omega)
    clear hc
    go_enter Tryz.func203, Tryz.ntmps203
    go_wp2_with fail
    refine (HS.out _).mono ?_; rintro en w1 ⟨rfl, hb1⟩
    have k0 := HZ.out.below hb1 (by simp)
    have hB1 := HZB.out.trans (hb1.mono (by simp))
    have z1 := k0.lt
    clear hb1
    obtain ⟨d0, d1, d2, d3, d4, d5, d6⟩ := k0.cells
    have f0 := k0.frozen
    have k5 := ((k0.wr7 (.int .i64 c) (.bool s) (.bool false) (.int .i64 0) (.int .u64 0) (.int .u64 0) (.int .u64 0)))
    have g5 := gr_wr7 w1 w.heap.size (.int .i64 c) (.bool s) (.bool false) (.int .i64 0) (.int .u64 0) (.int .u64 0) (.int .u64 0)
    have hE := bel_alloc (bel_alloc (bel_grown hB1 (Nat.le_refl _) g5 (Nat.le_refl _)) (Nat.le_refl _) (.cells #[.bool s, .int .i64 c, .int .i64 e, .int .u64 (f : Int)] 194)) (Nat.le_refl _) (.cells #[.int .i64 c, .bool s, .bool false, .int .i64 0, .int .u64 0, .int .u64 0, .int .u64 0] 217)
    have HE := Lib.hid hE; have K5 := Lib.hid (show C7 (((wr7 w1 w.heap.size (.int .i64 c) (.bool s) (.bool false) (.int .i64 0) (.int .u64 0) (.int .u64 0) (.int .u64 0)).alloc (.cells #[.bool s, .int .i64 c, .int .i64 e, .int .u64 (f : Int)] 194)).alloc (.cells #[.int .i64 c, .bool s, .bool false, .int .i64 0, .int .u64 0, .int .u64 0, .int .u64 0] 217)) w.heap.size 217 _ _ _ _ _ _ _ from old_alloc (old_alloc k5 _) _)
    have ne : w.heap.size ≠ w1.heap.size + 1 := by omega
    have ne2 : w.heap.size ≠ w1.heap.size := by omega
    clear hE k5 g5 k0 hB1
    go_wp2_with fail
    have k5 := K5.out
    have e5 := HE.out
    unfold wr7 wr5 at k5 e5
    obtain ⟨x0, x1, x2, x3, x4, x5, x6⟩ := k5.cells
    refine bodyPost_ret (v := .agg #[.int .i64 c, .bool s, .bool false, .int .i64 0, .int .u64 0, .int .u64 0, .int .u64 0]) (by simp [results, Tryz.results203, go_sem, x0, x1, x2, x3, x4, x5, x6]) rfl ?_
    refine ⟨⟨c, s, false, 0, 0⟩, by rw [th_zero_val], th_zero_ok c s, ?_, e5⟩
    rw [HA.out]
    exact mkT_special HC.out
end Go.Proofs.YteahdgbokjbgcaaGreatDoor
namespace Go.Proofs.YteahdgbokjbgcaaGreatDoor
open Go.RowKit
set_option linter.unusedVariables false
set_option linter.unusedSimpArgs false

set_option maxRecDepth 10000 in
set_option maxHeartbeats 16000000 in
theorem product_any (a b : Nat) (w : World) (ha : a < 18446744073709551616) (hb : b < 18446744073709551616) :
    Calls Tryz.prog 211 #[.float .f64 a, .float .f64 b] w (OneR w (prT a b)) := by
  have hS1 := fun W => split_any a W ha
  have hS2 := fun W => split_any b W hb
  rw [partsV_pt] at hS1 hS2
  obtain ⟨h1, h2, h3, h4, h5, h6⟩ := ptOf_bd a
  obtain ⟨j1, j2, j3, j4, j5, j6⟩ := ptOf_bd b
  unfold prT
  generalize ptOf a = P at *
  generalize ptOf b = Q at *
  obtain ⟨s, c, e, f⟩ := P
  obtain ⟨s', c', e', f'⟩ := Q
  simp only [] at *
  have HS1 := Lib.hid hS1; have HS2 := Lib.hid hS2
  clear hS1 hS2
  obtain ⟨A, hA⟩ : ∃ A, A = mkT (prC ⟨s, c, e, f⟩ ⟨s', c', e', f'⟩) (s != s') (sgn (s != s') (f * f' * 2 ^ (e + e' + 2148).toNat)) := ⟨_, rfl⟩
  rw [← hA]
  have Z : C7 (w.alloc (.cells #[.int .i64 0, .bool false, .bool false, .int .i64 0, .int .u64 0, .int .u64 0, .int .u64 0] 217)) w.heap.size 217 (.int .i64 0) (.bool false) (.bool false) (.int .i64 0) (.int .u64 0) (.int .u64 0) (.int .u64 0) := heap_alloc_new _ _
  have HZ := Lib.hid Z
  have HZB : Hid (Below w.heap.size w (w.alloc (.cells #[.int .i64 0, .bool false, .bool false, .int .i64 0, .int .u64 0, .int .u64 0, .int .u64 0] 217))) := (Below.refl _ _).alloc (Nat.le_refl _) _
  have HB := Lib.hid hb; have HA := Lib.hid hA
  clear Z hb ha hA
  go_enter Tryz.func211, Tryz.ntmps211
  go_wp2_with fail
  refine (HS1.out _).mono ?_; rintro en w1 ⟨rfl, hb1⟩
  have k0 := HZ.out.below hb1 (by simp)
  have hB1 := HZB.out.trans (hb1.mono (by simp))
  have z1 := k0.lt
  clear hb1
  go_wp2_with fail
  refine (HS2.out _).mono ?_; rintro en w2 ⟨rfl, hb2⟩
  replace k0 := k0.below hb2 z1
  replace hB1 := hB1.trans (hb2.mono hB1.size)
  have z2 := k0.lt
  clear hb2
  have hL := fun hi lo W (q1 : hi < 18446744073709551616) (q2 : lo < 18446744073709551616) => laid_any (!s == s') hi lo (e + e') W q1 q2 (by omega) (by omega)
  have HL := Lib.hid hL
  have hsx : (!s == s') = (s != s') := by cases s <;> cases s' <;> rfl
  have HSX := Lib.hid hsx
  have hff : f * f' < 18446744073709551616 * 18446744073709551616 := Nat.mul_lt_mul'' (by omega) (by omega)
  have HFF := Lib.hid hff
  clear hL hsx hff h6 j6
  have hc : c = 0 ∨ c = 1 ∨ c = 2 ∨ c = 3 ∨ c = 4 := by omega
  have hc' : c' = 0 ∨ c' = 1 ∨ c' = 2 ∨ c' = 3 ∨ c' = 4 := by omega
  clear h1 h2 j1 j2
  obtain ⟨d0, d1, d2, d3, d4, d5, d6⟩ := k0.cells
  have f0 := k0.frozen
  have ne : w.heap.size ≠ w2.heap.size + 1 := by omega
  have ne2 : w.heap.size ≠ w2.heap.size := by omega
  have K0 := Lib.hid k0; have HB1 := Lib.hid hB1
  clear k0 hB1
  rcases hc with rfl | rfl | rfl | rfl | rfl <;> rcases hc' with rfl | rfl | rfl | rfl | rfl
  · have K5 := Lib.hid (K0.out.wr7 (.int .i64 0) (.bool (!s == s')) (.bool false) (.int .i64 0) (.int .u64 0) (.int .u64 0) (.int .u64 0))
    have HE := Lib.hid (bel_alloc (bel_alloc (bel_grown HB1.out (Nat.le_refl _) (gr_wr7 w2 w.heap.size (.int .i64 0) (.bool (!s == s')) (.bool false) (.int .i64 0) (.int .u64 0) (.int .u64 0) (.int .u64 0)) (Nat.le_refl _)) (Nat.le_refl _) (.cells #[.bool s, .int .i64 0, .int .i64 e, .int .u64 (f : Int)] 194)) (Nat.le_refl _) (.cells #[.bool s', .int .i64 0, .int .i64 e', .int .u64 (f' : Int)] 194))
    go_wp2_with fail
    have k5 := old_alloc (old_alloc K5.out (.cells #[.bool s, .int .i64 0, .int .i64 e, .int .u64 (f : Int)] 194)) (.cells #[.bool s', .int .i64 0, .int .i64 e', .int .u64 (f' : Int)] 194)
    have e5 := HE.out
    unfold wr7 wr5 at k5 e5
    obtain ⟨x0, x1, x2, x3, x4, x5, x6⟩ := th_cells k5
    refine bodyPost_ret (v := .agg #[.int .i64 0, .bool (!s == s'), .bool false, .int .i64 0, .int .u64 0, .int .u64 0, .int .u64 0]) (by simp [results, Tryz.results211, go_sem, x0, x1, x2, x3, x4, x5, x6]) rfl ?_
    refine ⟨⟨0, (!s == s'), false, 0, 0⟩, by rw [th_zero_val], th_zero_ok _ _, ?_, e5⟩
    rw [HA.out, ← HSX.out]
    exact mkT_special (c := 0) (by decide)
  · have K5 := Lib.hid (K0.out.wr7 (.int .i64 0) (.bool (!s == s')) (.bool false) (.int .i64 0) (.int .u64 0) (.int .u64 0) (.int .u64 0))
    have HE := Lib.hid (bel_alloc (bel_alloc (bel_grown HB1.out (Nat.le_refl _) (gr_wr7 w2 w.heap.size (.int .i64 0) (.bool (!s == s')) (.bool false) (.int .i64 0) (.int .u64 0) (.int .u64 0) (.int .u64 0)) (Nat.le_refl _)) (Nat.le_refl _) (.cells #[.bool s, .int .i64 0, .int .i64 e, .int .u64 (f : Int)] 194)) (Nat.le_refl _) (.cells #[.bool s', .int .i64 1, .int .i64 e', .int .u64 (f' : Int)] 194))
    go_wp2_with fail
    have k5 := old_alloc (old_alloc K5.out (.cells #[.bool s, .int .i64 0, .int .i64 e, .int .u64 (f : Int)] 194)) (.cells #[.bool s', .int .i64 1, .int .i64 e', .int .u64 (f' : Int)] 194)
    have e5 := HE.out
    unfold wr7 wr5 at k5 e5
    obtain ⟨x0, x1, x2, x3, x4, x5, x6⟩ := th_cells k5
    refine bodyPost_ret (v := .agg #[.int .i64 0, .bool (!s == s'), .bool false, .int .i64 0, .int .u64 0, .int .u64 0, .int .u64 0]) (by simp [results, Tryz.results211, go_sem, x0, x1, x2, x3, x4, x5, x6]) rfl ?_
    refine ⟨⟨0, (!s == s'), false, 0, 0⟩, by rw [th_zero_val], th_zero_ok _ _, ?_, e5⟩
    rw [HA.out, ← HSX.out]
    exact mkT_special (c := 0) (by decide)
  · have K5 := Lib.hid (K0.out.wr7 (.int .i64 0) (.bool (!s == s')) (.bool false) (.int .i64 0) (.int .u64 0) (.int .u64 0) (.int .u64 0))
    have HE := Lib.hid (bel_alloc (bel_alloc (bel_grown HB1.out (Nat.le_refl _) (gr_wr7 w2 w.heap.size (.int .i64 0) (.bool (!s == s')) (.bool false) (.int .i64 0) (.int .u64 0) (.int .u64 0) (.int .u64 0)) (Nat.le_refl _)) (Nat.le_refl _) (.cells #[.bool s, .int .i64 0, .int .i64 e, .int .u64 (f : Int)] 194)) (Nat.le_refl _) (.cells #[.bool s', .int .i64 2, .int .i64 e', .int .u64 (f' : Int)] 194))
    go_wp2_with fail
    have k5 := old_alloc (old_alloc K5.out (.cells #[.bool s, .int .i64 0, .int .i64 e, .int .u64 (f : Int)] 194)) (.cells #[.bool s', .int .i64 2, .int .i64 e', .int .u64 (f' : Int)] 194)
    have e5 := HE.out
    unfold wr7 wr5 at k5 e5
    obtain ⟨x0, x1, x2, x3, x4, x5, x6⟩ := th_cells k5
    refine bodyPost_ret (v := .agg #[.int .i64 0, .bool (!s == s'), .bool false, .int .i64 0, .int .u64 0, .int .u64 0, .int .u64 0]) (by simp [results, Tryz.results211, go_sem, x0, x1, x2, x3, x4, x5, x6]) rfl ?_
    refine ⟨⟨0, (!s == s'), false, 0, 0⟩, by rw [th_zero_val], th_zero_ok _ _, ?_, e5⟩
    rw [HA.out, ← HSX.out]
    exact mkT_special (c := 0) (by decide)
  · have K5 := Lib.hid (K0.out.wr7 (.int .i64 4) (.bool false) (.bool false) (.int .i64 0) (.int .u64 0) (.int .u64 0) (.int .u64 0))
    have HE := Lib.hid (bel_alloc (bel_alloc (bel_grown HB1.out (Nat.le_refl _) (gr_wr7 w2 w.heap.size (.int .i64 4) (.bool false) (.bool false) (.int .i64 0) (.int .u64 0) (.int .u64 0) (.int .u64 0)) (Nat.le_refl _)) (Nat.le_refl _) (.cells #[.bool s, .int .i64 0, .int .i64 e, .int .u64 (f : Int)] 194)) (Nat.le_refl _) (.cells #[.bool s', .int .i64 3, .int .i64 e', .int .u64 (f' : Int)] 194))
    go_wp2_with fail
    have k5 := old_alloc (old_alloc K5.out (.cells #[.bool s, .int .i64 0, .int .i64 e, .int .u64 (f : Int)] 194)) (.cells #[.bool s', .int .i64 3, .int .i64 e', .int .u64 (f' : Int)] 194)
    have e5 := HE.out
    unfold wr7 wr5 at k5 e5
    obtain ⟨x0, x1, x2, x3, x4, x5, x6⟩ := th_cells k5
    refine bodyPost_ret (v := .agg #[.int .i64 4, .bool false, .bool false, .int .i64 0, .int .u64 0, .int .u64 0, .int .u64 0]) (by simp [results, Tryz.results211, go_sem, x0, x1, x2, x3, x4, x5, x6]) rfl ?_
    refine ⟨⟨4, false, false, 0, 0⟩, by rw [th_zero_val], th_zero_ok _ _, ?_, e5⟩
    rw [HA.out]
    rfl
  · have K5 := Lib.hid (K0.out.wr7 (.int .i64 4) (.bool false) (.bool false) (.int .i64 0) (.int .u64 0) (.int .u64 0) (.int .u64 0))
    have HE := Lib.hid (bel_alloc (bel_alloc (bel_grown HB1.out (Nat.le_refl _) (gr_wr7 w2 w.heap.size (.int .i64 4) (.bool false) (.bool false) (.int .i64 0) (.int .u64 0) (.int .u64 0) (.int .u64 0)) (Nat.le_refl _)) (Nat.le_refl _) (.cells #[.bool s, .int .i64 0, .int .i64 e, .int .u64 (f : Int)] 194)) (Nat.le_refl _) (.cells #[.bool s', .int .i64 4, .int .i64 e', .int .u64 (f' : Int)] 194))
    go_wp2_with fail
    have k5 := old_alloc (old_alloc K5.out (.cells #[.bool s, .int .i64 0, .int .i64 e, .int .u64 (f : Int)] 194)) (.cells #[.bool s', .int .i64 4, .int .i64 e', .int .u64 (f' : Int)] 194)
    have e5 := HE.out
    unfold wr7 wr5 at k5 e5
    obtain ⟨x0, x1, x2, x3, x4, x5, x6⟩ := th_cells k5
    refine bodyPost_ret (v := .agg #[.int .i64 4, .bool false, .bool false, .int .i64 0, .int .u64 0, .int .u64 0, .int .u64 0]) (by simp [results, Tryz.results211, go_sem, x0, x1, x2, x3, x4, x5, x6]) rfl ?_
    refine ⟨⟨4, false, false, 0, 0⟩, by rw [th_zero_val], th_zero_ok _ _, ?_, e5⟩
    rw [HA.out]
    rfl
  · have K5 := Lib.hid (K0.out.wr7 (.int .i64 0) (.bool (!s == s')) (.bool false) (.int .i64 0) (.int .u64 0) (.int .u64 0) (.int .u64 0))
    have HE := Lib.hid (bel_alloc (bel_alloc (bel_grown HB1.out (Nat.le_refl _) (gr_wr7 w2 w.heap.size (.int .i64 0) (.bool (!s == s')) (.bool false) (.int .i64 0) (.int .u64 0) (.int .u64 0) (.int .u64 0)) (Nat.le_refl _)) (Nat.le_refl _) (.cells #[.bool s, .int .i64 1, .int .i64 e, .int .u64 (f : Int)] 194)) (Nat.le_refl _) (.cells #[.bool s', .int .i64 0, .int .i64 e', .int .u64 (f' : Int)] 194))
    go_wp2_with fail
    have k5 := old_alloc (old_alloc K5.out (.cells #[.bool s, .int .i64 1, .int .i64 e, .int .u64 (f : Int)] 194)) (.cells #[.bool s', .int .i64 0, .int .i64 e', .int .u64 (f' : Int)] 194)
    have e5 := HE.out
    unfold wr7 wr5 at k5 e5
    obtain ⟨x0, x1, x2, x3, x4, x5, x6⟩ := th_cells k5
    refine bodyPost_ret (v := .agg #[.int .i64 0, .bool (!s == s'), .bool false, .int .i64 0, .int .u64 0, .int .u64 0, .int .u64 0]) (by simp [results, Tryz.results211, go_sem, x0, x1, x2, x3, x4, x5, x6]) rfl ?_
    refine ⟨⟨0, (!s == s'), false, 0, 0⟩, by rw [th_zero_val], th_zero_ok _ _, ?_, e5⟩
    rw [HA.out, ← HSX.out]
    exact mkT_special (c := 0) (by decide)
  · go_wp2_with fail
    obtain ⟨w3, q3⟩ : ∃ W, W = (w2.alloc (.cells #[.bool s, .int .i64 1, .int .i64 e, .int .u64 (f : Int)] 194)).alloc (.cells #[.bool s', .int .i64 1, .int .i64 e', .int .u64 (f' : Int)] 194) := ⟨_, rfl⟩
    rw [← q3]
    have k3 : C7 w3 w.heap.size 217 (.int .i64 0) (.bool false) (.bool false) (.int .i64 0) (.int .u64 0) (.int .u64 0) (.int .u64 0) := by rw [q3]; exact old_alloc (old_alloc K0.out (.cells #[.bool s, .int .i64 1, .int .i64 e, .int .u64 (f : Int)] 194)) (.cells #[.bool s', .int .i64 1, .int .i64 e', .int .u64 (f' : Int)] 194)
    have hB3 : Below w.heap.size w w3 := by rw [q3]; exact bel_alloc (bel_alloc HB1.out (Nat.le_refl _) (.cells #[.bool s, .int .i64 1, .int .i64 e, .int .u64 (f : Int)] 194)) (Nat.le_refl _) (.cells #[.bool s', .int .i64 1, .int .i64 e', .int .u64 (f' : Int)] 194)
    obtain ⟨x0, x1, x2, x3⟩ := (cells4 (w := w3) (g := w2.heap.size) (T := 194) (v0 := .bool s) (v1 := .int .i64 1) (v2 := .int .i64 e) (v3 := .int .u64 (f : Int)) (by rw [q3]; exact old_alloc (heap_alloc_new _ _) _)).1
    obtain ⟨y0, y1, y2, y3⟩ := (cells4 (w := w3) (g := w2.heap.size + 1) (T := 194) (v0 := .bool s') (v1 := .int .i64 1) (v2 := .int .i64 e') (v3 := .int .u64 (f' : Int)) (by rw [q3]; have := heap_alloc_new (w2.alloc (.cells #[.bool s, .int .i64 1, .int .i64 e, .int .u64 (f : Int)] 194)) (.cells #[.bool s', .int .i64 1, .int .i64 e', .int .u64 (f' : Int)] 194); rw [World.size_alloc] at this; exact this)).1
    have K3 := Lib.hid k3; have HB3 := Lib.hid hB3
    have z3 := k3.lt
    clear q3 k3 hB3
    refine (mul64_any f f' (by omega) (by omega) w3).mono ?_; rintro en w' ⟨rfl, rfl⟩
    go_wp2_with fail
    refine (HL.out (f * f' / 18446744073709551616) (f * f' % 18446744073709551616) w3 (Nat.div_lt_of_lt_mul HFF.out) (Nat.mod_lt _ (by decide))).mono ?_; rintro en w4 ⟨rfl, hb4⟩
    have k4 := K3.out.below hb4 z3
    have hB4 := HB3.out.trans (hb4.mono HB3.out.size)
    clear hb4 x0 x1 x2 x3 y0 y1 y2 y3 K3 HB3
    obtain ⟨q, hq⟩ : ∃ q : Nat, (e + e' + 2148) / 64 = (q : Int) := ⟨((e + e' + 2148) / 64).toNat, by omega⟩
    obtain ⟨r, hr⟩ : ∃ r : Nat, ((e + e' + 2148) % 64).toNat = r := ⟨_, rfl⟩
    rw [hr, hq]
    obtain ⟨V, hV⟩ : ∃ V, V = lV (f * f' / 18446744073709551616) (f * f' % 18446744073709551616) r := ⟨_, rfl⟩
    rw [← hV]
    have K5 := Lib.hid (k4.wr7 (.int .i64 2) (.bool (!s == s')) (.bool (!s == s')) (.int .i64 (q : Int)) (.int .u64 (dz V 0)) (.int .u64 (dz V 1)) (.int .u64 (dz V 2)))
    have HE := Lib.hid (bel_grown hB4 (Nat.le_refl _) (gr_wr7 w4 w.heap.size (.int .i64 2) (.bool (!s == s')) (.bool (!s == s')) (.int .i64 (q : Int)) (.int .u64 (dz V 0)) (.int .u64 (dz V 1)) (.int .u64 (dz V 2))) (Nat.le_refl _))
    obtain ⟨d0, d1, d2, d3, d4, d5, d6⟩ := k4.cells
    have f0 := k4.frozen
    have HQ := Lib.hid hq; have HR := Lib.hid hr; have HV := Lib.hid hV
    clear hq hr hV k4 hB4
    go_wp2_with fail
    have k5 := K5.out
    have e5 := HE.out
    unfold wr7 wr5 at k5 e5
    obtain ⟨x0, x1, x2, x3, x4, x5, x6⟩ := k5.cells
    refine bodyPost_ret (v := .agg #[.int .i64 2, .bool (!s == s'), .bool (!s == s'), .int .i64 (q : Int), .int .u64 (dz V 0), .int .u64 (dz V 1), .int .u64 (dz V 2)]) (by simp [results, Tryz.results211, go_sem, x0, x1, x2, x3, x4, x5, x6]) rfl ?_
    obtain ⟨v0, v1⟩ := lV_bd (hi := f * f' / 18446744073709551616) (lo := f * f' % 18446744073709551616) (b := r) (Nat.div_lt_of_lt_mul HFF.out) (Nat.mod_lt _ (by decide)) (by have := HR.out; omega)
    refine ⟨⟨2, !s == s', !s == s', q, V⟩, rfl, ⟨by rw [HV.out]; exact v0, by rw [HV.out]; exact v1, by have := HQ.out; show q + 3 ≤ 66; omega⟩, ?_, e5⟩
    rw [HA.out, ← HSX.out]
    unfold Th.ac Th.v
    simp only []
    rw [HV.out, placed_lV, Nat.div_add_mod', show 64 * q + r = (e + e' + 2148).toNat by have := HQ.out; have := HR.out; omega]
    rfl
  · go_wp2_with fail
    obtain ⟨w3, q3⟩ : ∃ W, W = (w2.alloc (.cells #[.bool s, .int .i64 1, .int .i64 e, .int .u64 (f : Int)] 194)).alloc (.cells #[.bool s', .int .i64 2, .int .i64 e', .int .u64 (f' : Int)] 194) := ⟨_, rfl⟩
    rw [← q3]
    have k3 : C7 w3 w.heap.size 217 (.int .i64 0) (.bool false) (.bool false) (.int .i64 0) (.int .u64 0) (.int .u64 0) (.int .u64 0) := by rw [q3]; exact old_alloc (old_alloc K0.out (.cells #[.bool s, .int .i64 1, .int .i64 e, .int .u64 (f : Int)] 194)) (.cells #[.bool s', .int .i64 2, .int .i64 e', .int .u64 (f' : Int)] 194)
    have hB3 : Below w.heap.size w w3 := by rw [q3]; exact bel_alloc (bel_alloc HB1.out (Nat.le_refl _) (.cells #[.bool s, .int .i64 1, .int .i64 e, .int .u64 (f : Int)] 194)) (Nat.le_refl _) (.cells #[.bool s', .int .i64 2, .int .i64 e', .int .u64 (f' : Int)] 194)
    obtain ⟨x0, x1, x2, x3⟩ := (cells4 (w := w3) (g := w2.heap.size) (T := 194) (v0 := .bool s) (v1 := .int .i64 1) (v2 := .int .i64 e) (v3 := .int .u64 (f : Int)) (by rw [q3]; exact old_alloc (heap_alloc_new _ _) _)).1
    obtain ⟨y0, y1, y2, y3⟩ := (cells4 (w := w3) (g := w2.heap.size + 1) (T := 194) (v0 := .bool s') (v1 := .int .i64 2) (v2 := .int .i64 e') (v3 := .int .u64 (f' : Int)) (by rw [q3]; have := heap_alloc_new (w2.alloc (.cells #[.bool s, .int .i64 1, .int .i64 e, .int .u64 (f : Int)] 194)) (.cells #[.bool s', .int .i64 2, .int .i64 e', .int .u64 (f' : Int)] 194); rw [World.size_alloc] at this; exact this)).1
    have K3 := Lib.hid k3; have HB3 := Lib.hid hB3
    have z3 := k3.lt
    clear q3 k3 hB3
    refine (mul64_any f f' (by omega) (by omega) w3).mono ?_; rintro en w' ⟨rfl, rfl⟩
    go_wp2_with fail
    refine (HL.out (f * f' / 18446744073709551616) (f * f' % 18446744073709551616) w3 (Nat.div_lt_of_lt_mul HFF.out) (Nat.mod_lt _ (by decide))).mono ?_; rintro en w4 ⟨rfl, hb4⟩
    have k4 := K3.out.below hb4 z3
    have hB4 := HB3.out.trans (hb4.mono HB3.out.size)
    clear hb4 x0 x1 x2 x3 y0 y1 y2 y3 K3 HB3
    obtain ⟨q, hq⟩ : ∃ q : Nat, (e + e' + 2148) / 64 = (q : Int) := ⟨((e + e' + 2148) / 64).toNat, by omega⟩
    obtain ⟨r, hr⟩ : ∃ r : Nat, ((e + e' + 2148) % 64).toNat = r := ⟨_, rfl⟩
    rw [hr, hq]
    obtain ⟨V, hV⟩ : ∃ V, V = lV (f * f' / 18446744073709551616) (f * f' % 18446744073709551616) r := ⟨_, rfl⟩
    rw [← hV]
    have K5 := Lib.hid (k4.wr7 (.int .i64 2) (.bool (!s == s')) (.bool (!s == s')) (.int .i64 (q : Int)) (.int .u64 (dz V 0)) (.int .u64 (dz V 1)) (.int .u64 (dz V 2)))
    have HE := Lib.hid (bel_grown hB4 (Nat.le_refl _) (gr_wr7 w4 w.heap.size (.int .i64 2) (.bool (!s == s')) (.bool (!s == s')) (.int .i64 (q : Int)) (.int .u64 (dz V 0)) (.int .u64 (dz V 1)) (.int .u64 (dz V 2))) (Nat.le_refl _))
    obtain ⟨d0, d1, d2, d3, d4, d5, d6⟩ := k4.cells
    have f0 := k4.frozen
    have HQ := Lib.hid hq; have HR := Lib.hid hr; have HV := Lib.hid hV
    clear hq hr hV k4 hB4
    go_wp2_with fail
    have k5 := K5.out
    have e5 := HE.out
    unfold wr7 wr5 at k5 e5
    obtain ⟨x0, x1, x2, x3, x4, x5, x6⟩ := k5.cells
    refine bodyPost_ret (v := .agg #[.int .i64 2, .bool (!s == s'), .bool (!s == s'), .int .i64 (q : Int), .int .u64 (dz V 0), .int .u64 (dz V 1), .int .u64 (dz V 2)]) (by simp [results, Tryz.results211, go_sem, x0, x1, x2, x3, x4, x5, x6]) rfl ?_
    obtain ⟨v0, v1⟩ := lV_bd (hi := f * f' / 18446744073709551616) (lo := f * f' % 18446744073709551616) (b := r) (Nat.div_lt_of_lt_mul HFF.out) (Nat.mod_lt _ (by decide)) (by have := HR.out; omega)
    refine ⟨⟨2, !s == s', !s == s', q, V⟩, rfl, ⟨by rw [HV.out]; exact v0, by rw [HV.out]; exact v1, by have := HQ.out; show q + 3 ≤ 66; omega⟩, ?_, e5⟩
    rw [HA.out, ← HSX.out]
    unfold Th.ac Th.v
    simp only []
    rw [HV.out, placed_lV, Nat.div_add_mod', show 64 * q + r = (e + e' + 2148).toNat by have := HQ.out; have := HR.out; omega]
    rfl
  · have K5 := Lib.hid (K0.out.wr7 (.int .i64 3) (.bool (!s == s')) (.bool false) (.int .i64 0) (.int .u64 0) (.int .u64 0) (.int .u64 0))
    have HE := Lib.hid (bel_alloc (bel_alloc (bel_grown HB1.out (Nat.le_refl _) (gr_wr7 w2 w.heap.size (.int .i64 3) (.bool (!s == s')) (.bool false) (.int .i64 0) (.int .u64 0) (.int .u64 0) (.int .u64 0)) (Nat.le_refl _)) (Nat.le_refl _) (.cells #[.bool s, .int .i64 1, .int .i64 e, .int .u64 (f : Int)] 194)) (Nat.le_refl _) (.cells #[.bool s', .int .i64 3, .int .i64 e', .int .u64 (f' : Int)] 194))
    go_wp2_with fail
    have k5 := old_alloc (old_alloc K5.out (.cells #[.bool s, .int .i64 1, .int .i64 e, .int .u64 (f : Int)] 194)) (.cells #[.bool s', .int .i64 3, .int .i64 e', .int .u64 (f' : Int)] 194)
    have e5 := HE.out
    unfold wr7 wr5 at k5 e5
    obtain ⟨x0, x1, x2, x3, x4, x5, x6⟩ := th_cells k5
    refine bodyPost_ret (v := .agg #[.int .i64 3, .bool (!s == s'), .bool false, .int .i64 0, .int .u64 0, .int .u64 0, .int .u64 0]) (by simp [results, Tryz.results211, go_sem, x0, x1, x2, x3, x4, x5, x6]) rfl ?_
    refine ⟨⟨3, (!s == s'), false, 0, 0⟩, by rw [th_zero_val], th_zero_ok _ _, ?_, e5⟩
    rw [HA.out, ← HSX.out]
    exact mkT_special (c := 3) (by decide)
  · have K5 := Lib.hid (K0.out.wr7 (.int .i64 4) (.bool false) (.bool false) (.int .i64 0) (.int .u64 0) (.int .u64 0) (.int .u64 0))
    have HE := Lib.hid (bel_alloc (bel_alloc (bel_grown HB1.out (Nat.le_refl _) (gr_wr7 w2 w.heap.size (.int .i64 4) (.bool false) (.bool false) (.int .i64 0) (.int .u64 0) (.int .u64 0) (.int .u64 0)) (Nat.le_refl _)) (Nat.le_refl _) (.cells #[.bool s, .int .i64 1, .int .i64 e, .int .u64 (f : Int)] 194)) (Nat.le_refl _) (.cells #[.bool s', .int .i64 4, .int .i64 e', .int .u64 (f' : Int)] 194))
    go_wp2_with fail
    have k5 := old_alloc (old_alloc K5.out (.cells #[.bool s, .int .i64 1, .int .i64 e, .int .u64 (f : Int)] 194)) (.cells #[.bool s', .int .i64 4, .int .i64 e', .int .u64 (f' : Int)] 194)
    have e5 := HE.out
    unfold wr7 wr5 at k5 e5
    obtain ⟨x0, x1, x2, x3, x4, x5, x6⟩ := th_cells k5
    refine bodyPost_ret (v := .agg #[.int .i64 4, .bool false, .bool false, .int .i64 0, .int .u64 0, .int .u64 0, .int .u64 0]) (by simp [results, Tryz.results211, go_sem, x0, x1, x2, x3, x4, x5, x6]) rfl ?_
    refine ⟨⟨4, false, false, 0, 0⟩, by rw [th_zero_val], th_zero_ok _ _, ?_, e5⟩
    rw [HA.out]
    rfl
  · have K5 := Lib.hid (K0.out.wr7 (.int .i64 0) (.bool (!s == s')) (.bool false) (.int .i64 0) (.int .u64 0) (.int .u64 0) (.int .u64 0))
    have HE := Lib.hid (bel_alloc (bel_alloc (bel_grown HB1.out (Nat.le_refl _) (gr_wr7 w2 w.heap.size (.int .i64 0) (.bool (!s == s')) (.bool false) (.int .i64 0) (.int .u64 0) (.int .u64 0) (.int .u64 0)) (Nat.le_refl _)) (Nat.le_refl _) (.cells #[.bool s, .int .i64 2, .int .i64 e, .int .u64 (f : Int)] 194)) (Nat.le_refl _) (.cells #[.bool s', .int .i64 0, .int .i64 e', .int .u64 (f' : Int)] 194))
    go_wp2_with fail
    have k5 := old_alloc (old_alloc K5.out (.cells #[.bool s, .int .i64 2, .int .i64 e, .int .u64 (f : Int)] 194)) (.cells #[.bool s', .int .i64 0, .int .i64 e', .int .u64 (f' : Int)] 194)
    have e5 := HE.out
    unfold wr7 wr5 at k5 e5
    obtain ⟨x0, x1, x2, x3, x4, x5, x6⟩ := th_cells k5
    refine bodyPost_ret (v := .agg #[.int .i64 0, .bool (!s == s'), .bool false, .int .i64 0, .int .u64 0, .int .u64 0, .int .u64 0]) (by simp [results, Tryz.results211, go_sem, x0, x1, x2, x3, x4, x5, x6]) rfl ?_
    refine ⟨⟨0, (!s == s'), false, 0, 0⟩, by rw [th_zero_val], th_zero_ok _ _, ?_, e5⟩
    rw [HA.out, ← HSX.out]
    exact mkT_special (c := 0) (by decide)
  · go_wp2_with fail
    obtain ⟨w3, q3⟩ : ∃ W, W = (w2.alloc (.cells #[.bool s, .int .i64 2, .int .i64 e, .int .u64 (f : Int)] 194)).alloc (.cells #[.bool s', .int .i64 1, .int .i64 e', .int .u64 (f' : Int)] 194) := ⟨_, rfl⟩
    rw [← q3]
    have k3 : C7 w3 w.heap.size 217 (.int .i64 0) (.bool false) (.bool false) (.int .i64 0) (.int .u64 0) (.int .u64 0) (.int .u64 0) := by rw [q3]; exact old_alloc (old_alloc K0.out (.cells #[.bool s, .int .i64 2, .int .i64 e, .int .u64 (f : Int)] 194)) (.cells #[.bool s', .int .i64 1, .int .i64 e', .int .u64 (f' : Int)] 194)
    have hB3 : Below w.heap.size w w3 := by rw [q3]; exact bel_alloc (bel_alloc HB1.out (Nat.le_refl _) (.cells #[.bool s, .int .i64 2, .int .i64 e, .int .u64 (f : Int)] 194)) (Nat.le_refl _) (.cells #[.bool s', .int .i64 1, .int .i64 e', .int .u64 (f' : Int)] 194)
    obtain ⟨x0, x1, x2, x3⟩ := (cells4 (w := w3) (g := w2.heap.size) (T := 194) (v0 := .bool s) (v1 := .int .i64 2) (v2 := .int .i64 e) (v3 := .int .u64 (f : Int)) (by rw [q3]; exact old_alloc (heap_alloc_new _ _) _)).1
    obtain ⟨y0, y1, y2, y3⟩ := (cells4 (w := w3) (g := w2.heap.size + 1) (T := 194) (v0 := .bool s') (v1 := .int .i64 1) (v2 := .int .i64 e') (v3 := .int .u64 (f' : Int)) (by rw [q3]; have := heap_alloc_new (w2.alloc (.cells #[.bool s, .int .i64 2, .int .i64 e, .int .u64 (f : Int)] 194)) (.cells #[.bool s', .int .i64 1, .int .i64 e', .int .u64 (f' : Int)] 194); rw [World.size_alloc] at this; exact this)).1
    have K3 := Lib.hid k3; have HB3 := Lib.hid hB3
    have z3 := k3.lt
    clear q3 k3 hB3
    refine (mul64_any f f' (by omega) (by omega) w3).mono ?_; rintro en w' ⟨rfl, rfl⟩
    go_wp2_with fail
    refine (HL.out (f * f' / 18446744073709551616) (f * f' % 18446744073709551616) w3 (Nat.div_lt_of_lt_mul HFF.out) (Nat.mod_lt _ (by decide))).mono ?_; rintro en w4 ⟨rfl, hb4⟩
    have k4 := K3.out.below hb4 z3
    have hB4 := HB3.out.trans (hb4.mono HB3.out.size)
    clear hb4 x0 x1 x2 x3 y0 y1 y2 y3 K3 HB3
    obtain ⟨q, hq⟩ : ∃ q : Nat, (e + e' + 2148) / 64 = (q : Int) := ⟨((e + e' + 2148) / 64).toNat, by omega⟩
    obtain ⟨r, hr⟩ : ∃ r : Nat, ((e + e' + 2148) % 64).toNat = r := ⟨_, rfl⟩
    rw [hr, hq]
    obtain ⟨V, hV⟩ : ∃ V, V = lV (f * f' / 18446744073709551616) (f * f' % 18446744073709551616) r := ⟨_, rfl⟩
    rw [← hV]
    have K5 := Lib.hid (k4.wr7 (.int .i64 2) (.bool (!s == s')) (.bool (!s == s')) (.int .i64 (q : Int)) (.int .u64 (dz V 0)) (.int .u64 (dz V 1)) (.int .u64 (dz V 2)))
    have HE := Lib.hid (bel_grown hB4 (Nat.le_refl _) (gr_wr7 w4 w.heap.size (.int .i64 2) (.bool (!s == s')) (.bool (!s == s')) (.int .i64 (q : Int)) (.int .u64 (dz V 0)) (.int .u64 (dz V 1)) (.int .u64 (dz V 2))) (Nat.le_refl _))
    obtain ⟨d0, d1, d2, d3, d4, d5, d6⟩ := k4.cells
    have f0 := k4.frozen
    have HQ := Lib.hid hq; have HR := Lib.hid hr; have HV := Lib.hid hV
    clear hq hr hV k4 hB4
    go_wp2_with fail
    have k5 := K5.out
    have e5 := HE.out
    unfold wr7 wr5 at k5 e5
    obtain ⟨x0, x1, x2, x3, x4, x5, x6⟩ := k5.cells
    refine bodyPost_ret (v := .agg #[.int .i64 2, .bool (!s == s'), .bool (!s == s'), .int .i64 (q : Int), .int .u64 (dz V 0), .int .u64 (dz V 1), .int .u64 (dz V 2)]) (by simp [results, Tryz.results211, go_sem, x0, x1, x2, x3, x4, x5, x6]) rfl ?_
    obtain ⟨v0, v1⟩ := lV_bd (hi := f * f' / 18446744073709551616) (lo := f * f' % 18446744073709551616) (b := r) (Nat.div_lt_of_lt_mul HFF.out) (Nat.mod_lt _ (by decide)) (by have := HR.out; omega)
    refine ⟨⟨2, !s == s', !s == s', q, V⟩, rfl, ⟨by rw [HV.out]; exact v0, by rw [HV.out]; exact v1, by have := HQ.out; show q + 3 ≤ 66; omega⟩, ?_, e5⟩
    rw [HA.out, ← HSX.out]
    unfold Th.ac Th.v
    simp only []
    rw [HV.out, placed_lV, Nat.div_add_mod', show 64 * q + r = (e + e' + 2148).toNat by have := HQ.out; have := HR.out; omega]
    rfl
  · go_wp2_with fail
    obtain ⟨w3, q3⟩ : ∃ W, W = (w2.alloc (.cells #[.bool s, .int .i64 2, .int .i64 e, .int .u64 (f : Int)] 194)).alloc (.cells #[.bool s', .int .i64 2, .int .i64 e', .int .u64 (f' : Int)] 194) := ⟨_, rfl⟩
    rw [← q3]
    have k3 : C7 w3 w.heap.size 217 (.int .i64 0) (.bool false) (.bool false) (.int .i64 0) (.int .u64 0) (.int .u64 0) (.int .u64 0) := by rw [q3]; exact old_alloc (old_alloc K0.out (.cells #[.bool s, .int .i64 2, .int .i64 e, .int .u64 (f : Int)] 194)) (.cells #[.bool s', .int .i64 2, .int .i64 e', .int .u64 (f' : Int)] 194)
    have hB3 : Below w.heap.size w w3 := by rw [q3]; exact bel_alloc (bel_alloc HB1.out (Nat.le_refl _) (.cells #[.bool s, .int .i64 2, .int .i64 e, .int .u64 (f : Int)] 194)) (Nat.le_refl _) (.cells #[.bool s', .int .i64 2, .int .i64 e', .int .u64 (f' : Int)] 194)
    obtain ⟨x0, x1, x2, x3⟩ := (cells4 (w := w3) (g := w2.heap.size) (T := 194) (v0 := .bool s) (v1 := .int .i64 2) (v2 := .int .i64 e) (v3 := .int .u64 (f : Int)) (by rw [q3]; exact old_alloc (heap_alloc_new _ _) _)).1
    obtain ⟨y0, y1, y2, y3⟩ := (cells4 (w := w3) (g := w2.heap.size + 1) (T := 194) (v0 := .bool s') (v1 := .int .i64 2) (v2 := .int .i64 e') (v3 := .int .u64 (f' : Int)) (by rw [q3]; have := heap_alloc_new (w2.alloc (.cells #[.bool s, .int .i64 2, .int .i64 e, .int .u64 (f : Int)] 194)) (.cells #[.bool s', .int .i64 2, .int .i64 e', .int .u64 (f' : Int)] 194); rw [World.size_alloc] at this; exact this)).1
    have K3 := Lib.hid k3; have HB3 := Lib.hid hB3
    have z3 := k3.lt
    clear q3 k3 hB3
    refine (mul64_any f f' (by omega) (by omega) w3).mono ?_; rintro en w' ⟨rfl, rfl⟩
    go_wp2_with fail
    refine (HL.out (f * f' / 18446744073709551616) (f * f' % 18446744073709551616) w3 (Nat.div_lt_of_lt_mul HFF.out) (Nat.mod_lt _ (by decide))).mono ?_; rintro en w4 ⟨rfl, hb4⟩
    have k4 := K3.out.below hb4 z3
    have hB4 := HB3.out.trans (hb4.mono HB3.out.size)
    clear hb4 x0 x1 x2 x3 y0 y1 y2 y3 K3 HB3
    obtain ⟨q, hq⟩ : ∃ q : Nat, (e + e' + 2148) / 64 = (q : Int) := ⟨((e + e' + 2148) / 64).toNat, by omega⟩
    obtain ⟨r, hr⟩ : ∃ r : Nat, ((e + e' + 2148) % 64).toNat = r := ⟨_, rfl⟩
    rw [hr, hq]
    obtain ⟨V, hV⟩ : ∃ V, V = lV (f * f' / 18446744073709551616) (f * f' % 18446744073709551616) r := ⟨_, rfl⟩
    rw [← hV]
    have K5 := Lib.hid (k4.wr7 (.int .i64 2) (.bool (!s == s')) (.bool (!s == s')) (.int .i64 (q : Int)) (.int .u64 (dz V 0)) (.int .u64 (dz V 1)) (.int .u64 (dz V 2)))
    have HE := Lib.hid (bel_grown hB4 (Nat.le_refl _) (gr_wr7 w4 w.heap.size (.int .i64 2) (.bool (!s == s')) (.bool (!s == s')) (.int .i64 (q : Int)) (.int .u64 (dz V 0)) (.int .u64 (dz V 1)) (.int .u64 (dz V 2))) (Nat.le_refl _))
    obtain ⟨d0, d1, d2, d3, d4, d5, d6⟩ := k4.cells
    have f0 := k4.frozen
    have HQ := Lib.hid hq; have HR := Lib.hid hr; have HV := Lib.hid hV
    clear hq hr hV k4 hB4
    go_wp2_with fail
    have k5 := K5.out
    have e5 := HE.out
    unfold wr7 wr5 at k5 e5
    obtain ⟨x0, x1, x2, x3, x4, x5, x6⟩ := k5.cells
    refine bodyPost_ret (v := .agg #[.int .i64 2, .bool (!s == s'), .bool (!s == s'), .int .i64 (q : Int), .int .u64 (dz V 0), .int .u64 (dz V 1), .int .u64 (dz V 2)]) (by simp [results, Tryz.results211, go_sem, x0, x1, x2, x3, x4, x5, x6]) rfl ?_
    obtain ⟨v0, v1⟩ := lV_bd (hi := f * f' / 18446744073709551616) (lo := f * f' % 18446744073709551616) (b := r) (Nat.div_lt_of_lt_mul HFF.out) (Nat.mod_lt _ (by decide)) (by have := HR.out; omega)
    refine ⟨⟨2, !s == s', !s == s', q, V⟩, rfl, ⟨by rw [HV.out]; exact v0, by rw [HV.out]; exact v1, by have := HQ.out; show q + 3 ≤ 66; omega⟩, ?_, e5⟩
    rw [HA.out, ← HSX.out]
    unfold Th.ac Th.v
    simp only []
    rw [HV.out, placed_lV, Nat.div_add_mod', show 64 * q + r = (e + e' + 2148).toNat by have := HQ.out; have := HR.out; omega]
    rfl
  · have K5 := Lib.hid (K0.out.wr7 (.int .i64 3) (.bool (!s == s')) (.bool false) (.int .i64 0) (.int .u64 0) (.int .u64 0) (.int .u64 0))
    have HE := Lib.hid (bel_alloc (bel_alloc (bel_grown HB1.out (Nat.le_refl _) (gr_wr7 w2 w.heap.size (.int .i64 3) (.bool (!s == s')) (.bool false) (.int .i64 0) (.int .u64 0) (.int .u64 0) (.int .u64 0)) (Nat.le_refl _)) (Nat.le_refl _) (.cells #[.bool s, .int .i64 2, .int .i64 e, .int .u64 (f : Int)] 194)) (Nat.le_refl _) (.cells #[.bool s', .int .i64 3, .int .i64 e', .int .u64 (f' : Int)] 194))
    go_wp2_with fail
    have k5 := old_alloc (old_alloc K5.out (.cells #[.bool s, .int .i64 2, .int .i64 e, .int .u64 (f : Int)] 194)) (.cells #[.bool s', .int .i64 3, .int .i64 e', .int .u64 (f' : Int)] 194)
    have e5 := HE.out
    unfold wr7 wr5 at k5 e5
    obtain ⟨x0, x1, x2, x3, x4, x5, x6⟩ := th_cells k5
    refine bodyPost_ret (v := .agg #[.int .i64 3, .bool (!s == s'), .bool false, .int .i64 0, .int .u64 0, .int .u64 0, .int .u64 0]) (by simp [results, Tryz.results211, go_sem, x0, x1, x2, x3, x4, x5, x6]) rfl ?_
    refine ⟨⟨3, (!s == s'), false, 0, 0⟩, by rw [th_zero_val], th_zero_ok _ _, ?_, e5⟩
    rw [HA.out, ← HSX.out]
    exact mkT_special (c := 3) (by decide)
  · have K5 := Lib.hid (K0.out.wr7 (.int .i64 4) (.bool false) (.bool false) (.int .i64 0) (.int .u64 0) (.int .u64 0) (.int .u64 0))
    have HE := Lib.hid (bel_alloc (bel_alloc (bel_grown HB1.out (Nat.le_refl _) (gr_wr7 w2 w.heap.size (.int .i64 4) (.bool false) (.bool false) (.int .i64 0) (.int .u64 0) (.int .u64 0) (.int .u64 0)) (Nat.le_refl _)) (Nat.le_refl _) (.cells #[.bool s, .int .i64 2, .int .i64 e, .int .u64 (f : Int)] 194)) (Nat.le_refl _) (.cells #[.bool s', .int .i64 4, .int .i64 e', .int .u64 (f' : Int)] 194))
    go_wp2_with fail
    have k5 := old_alloc (old_alloc K5.out (.cells #[.bool s, .int .i64 2, .int .i64 e, .int .u64 (f : Int)] 194)) (.cells #[.bool s', .int .i64 4, .int .i64 e', .int .u64 (f' : Int)] 194)
    have e5 := HE.out
    unfold wr7 wr5 at k5 e5
    obtain ⟨x0, x1, x2, x3, x4, x5, x6⟩ := th_cells k5
    refine bodyPost_ret (v := .agg #[.int .i64 4, .bool false, .bool false, .int .i64 0, .int .u64 0, .int .u64 0, .int .u64 0]) (by simp [results, Tryz.results211, go_sem, x0, x1, x2, x3, x4, x5, x6]) rfl ?_
    refine ⟨⟨4, false, false, 0, 0⟩, by rw [th_zero_val], th_zero_ok _ _, ?_, e5⟩
    rw [HA.out]
    rfl
  · have K5 := Lib.hid (K0.out.wr7 (.int .i64 4) (.bool false) (.bool false) (.int .i64 0) (.int .u64 0) (.int .u64 0) (.int .u64 0))
    have HE := Lib.hid (bel_alloc (bel_alloc (bel_grown HB1.out (Nat.le_refl _) (gr_wr7 w2 w.heap.size (.int .i64 4) (.bool false) (.bool false) (.int .i64 0) (.int .u64 0) (.int .u64 0) (.int .u64 0)) (Nat.le_refl _)) (Nat.le_refl _) (.cells #[.bool s, .int .i64 3, .int .i64 e, .int .u64 (f : Int)] 194)) (Nat.le_refl _) (.cells #[.bool s', .int .i64 0, .int .i64 e', .int .u64 (f' : Int)] 194))
    go_wp2_with fail
    have k5 := old_alloc (old_alloc K5.out (.cells #[.bool s, .int .i64 3, .int .i64 e, .int .u64 (f : Int)] 194)) (.cells #[.bool s', .int .i64 0, .int .i64 e', .int .u64 (f' : Int)] 194)
    have e5 := HE.out
    unfold wr7 wr5 at k5 e5
    obtain ⟨x0, x1, x2, x3, x4, x5, x6⟩ := th_cells k5
    refine bodyPost_ret (v := .agg #[.int .i64 4, .bool false, .bool false, .int .i64 0, .int .u64 0, .int .u64 0, .int .u64 0]) (by simp [results, Tryz.results211, go_sem, x0, x1, x2, x3, x4, x5, x6]) rfl ?_
    refine ⟨⟨4, false, false, 0, 0⟩, by rw [th_zero_val], th_zero_ok _ _, ?_, e5⟩
    rw [HA.out]
    rfl
  · have K5 := Lib.hid (K0.out.wr7 (.int .i64 3) (.bool (!s == s')) (.bool false) (.int .i64 0) (.int .u64 0) (.int .u64 0) (.int .u64 0))
    have HE := Lib.hid (bel_alloc (bel_alloc (bel_grown HB1.out (Nat.le_refl _) (gr_wr7 w2 w.heap.size (.int .i64 3) (.bool (!s == s')) (.bool false) (.int .i64 0) (.int .u64 0) (.int .u64 0) (.int .u64 0)) (Nat.le_refl _)) (Nat.le_refl _) (.cells #[.bool s, .int .i64 3, .int .i64 e, .int .u64 (f : Int)] 194)) (Nat.le_refl _) (.cells #[.bool s', .int .i64 1, .int .i64 e', .int .u64 (f' : Int)] 194))
    go_wp2_with fail
    have k5 := old_alloc (old_alloc K5.out (.cells #[.bool s, .int .i64 3, .int .i64 e, .int .u64 (f : Int)] 194)) (.cells #[.bool s', .int .i64 1, .int .i64 e', .int .u64 (f' : Int)] 194)
    have e5 := HE.out
    unfold wr7 wr5 at k5 e5
    obtain ⟨x0, x1, x2, x3, x4, x5, x6⟩ := th_cells k5
    refine bodyPost_ret (v := .agg #[.int .i64 3, .bool (!s == s'), .bool false, .int .i64 0, .int .u64 0, .int .u64 0, .int .u64 0]) (by simp [results, Tryz.results211, go_sem, x0, x1, x2, x3, x4, x5, x6]) rfl ?_
    refine ⟨⟨3, (!s == s'), false, 0, 0⟩, by rw [th_zero_val], th_zero_ok _ _, ?_, e5⟩
    rw [HA.out, ← HSX.out]
    exact mkT_special (c := 3) (by decide)
  · have K5 := Lib.hid (K0.out.wr7 (.int .i64 3) (.bool (!s == s')) (.bool false) (.int .i64 0) (.int .u64 0) (.int .u64 0) (.int .u64 0))
    have HE := Lib.hid (bel_alloc (bel_alloc (bel_grown HB1.out (Nat.le_refl _) (gr_wr7 w2 w.heap.size (.int .i64 3) (.bool (!s == s')) (.bool false) (.int .i64 0) (.int .u64 0) (.int .u64 0) (.int .u64 0)) (Nat.le_refl _)) (Nat.le_refl _) (.cells #[.bool s, .int .i64 3, .int .i64 e, .int .u64 (f : Int)] 194)) (Nat.le_refl _) (.cells #[.bool s', .int .i64 2, .int .i64 e', .int .u64 (f' : Int)] 194))
    go_wp2_with fail
    have k5 := old_alloc (old_alloc K5.out (.cells #[.bool s, .int .i64 3, .int .i64 e, .int .u64 (f : Int)] 194)) (.cells #[.bool s', .int .i64 2, .int .i64 e', .int .u64 (f' : Int)] 194)
    have e5 := HE.out
    unfold wr7 wr5 at k5 e5
    obtain ⟨x0, x1, x2, x3, x4, x5, x6⟩ := th_cells k5
    refine bodyPost_ret (v := .agg #[.int .i64 3, .bool (!s == s'), .bool false, .int .i64 0, .int .u64 0, .int .u64 0, .int .u64 0]) (by simp [results, Tryz.results211, go_sem, x0, x1, x2, x3, x4, x5, x6]) rfl ?_
    refine ⟨⟨3, (!s == s'), false, 0, 0⟩, by rw [th_zero_val], th_zero_ok _ _, ?_, e5⟩
    rw [HA.out, ← HSX.out]
    exact mkT_special (c := 3) (by decide)
  · have K5 := Lib.hid (K0.out.wr7 (.int .i64 3) (.bool (!s == s')) (.bool false) (.int .i64 0) (.int .u64 0) (.int .u64 0) (.int .u64 0))
    have HE := Lib.hid (bel_alloc (bel_alloc (bel_grown HB1.out (Nat.le_refl _) (gr_wr7 w2 w.heap.size (.int .i64 3) (.bool (!s == s')) (.bool false) (.int .i64 0) (.int .u64 0) (.int .u64 0) (.int .u64 0)) (Nat.le_refl _)) (Nat.le_refl _) (.cells #[.bool s, .int .i64 3, .int .i64 e, .int .u64 (f : Int)] 194)) (Nat.le_refl _) (.cells #[.bool s', .int .i64 3, .int .i64 e', .int .u64 (f' : Int)] 194))
    go_wp2_with fail
    have k5 := old_alloc (old_alloc K5.out (.cells #[.bool s, .int .i64 3, .int .i64 e, .int .u64 (f : Int)] 194)) (.cells #[.bool s', .int .i64 3, .int .i64 e', .int .u64 (f' : Int)] 194)
    have e5 := HE.out
    unfold wr7 wr5 at k5 e5
    obtain ⟨x0, x1, x2, x3, x4, x5, x6⟩ := th_cells k5
    refine bodyPost_ret (v := .agg #[.int .i64 3, .bool (!s == s'), .bool false, .int .i64 0, .int .u64 0, .int .u64 0, .int .u64 0]) (by simp [results, Tryz.results211, go_sem, x0, x1, x2, x3, x4, x5, x6]) rfl ?_
    refine ⟨⟨3, (!s == s'), false, 0, 0⟩, by rw [th_zero_val], th_zero_ok _ _, ?_, e5⟩
    rw [HA.out, ← HSX.out]
    exact mkT_special (c := 3) (by decide)
  · have K5 := Lib.hid (K0.out.wr7 (.int .i64 4) (.bool false) (.bool false) (.int .i64 0) (.int .u64 0) (.int .u64 0) (.int .u64 0))
    have HE := Lib.hid (bel_alloc (bel_alloc (bel_grown HB1.out (Nat.le_refl _) (gr_wr7 w2 w.heap.size (.int .i64 4) (.bool false) (.bool false) (.int .i64 0) (.int .u64 0) (.int .u64 0) (.int .u64 0)) (Nat.le_refl _)) (Nat.le_refl _) (.cells #[.bool s, .int .i64 3, .int .i64 e, .int .u64 (f : Int)] 194)) (Nat.le_refl _) (.cells #[.bool s', .int .i64 4, .int .i64 e', .int .u64 (f' : Int)] 194))
    go_wp2_with fail
    have k5 := old_alloc (old_alloc K5.out (.cells #[.bool s, .int .i64 3, .int .i64 e, .int .u64 (f : Int)] 194)) (.cells #[.bool s', .int .i64 4, .int .i64 e', .int .u64 (f' : Int)] 194)
    have e5 := HE.out
    unfold wr7 wr5 at k5 e5
    obtain ⟨x0, x1, x2, x3, x4, x5, x6⟩ := th_cells k5
    refine bodyPost_ret (v := .agg #[.int .i64 4, .bool false, .bool false, .int .i64 0, .int .u64 0, .int .u64 0, .int .u64 0]) (by simp [results, Tryz.results211, go_sem, x0, x1, x2, x3, x4, x5, x6]) rfl ?_
    refine ⟨⟨4, false, false, 0, 0⟩, by rw [th_zero_val], th_zero_ok _ _, ?_, e5⟩
    rw [HA.out]
    rfl
  · have K5 := Lib.hid (K0.out.wr7 (.int .i64 4) (.bool false) (.bool false) (.int .i64 0) (.int .u64 0) (.int .u64 0) (.int .u64 0))
    have HE := Lib.hid (bel_alloc (bel_alloc (bel_grown HB1.out (Nat.le_refl _) (gr_wr7 w2 w.heap.size (.int .i64 4) (.bool false) (.bool false) (.int .i64 0) (.int .u64 0) (.int .u64 0) (.int .u64 0)) (Nat.le_refl _)) (Nat.le_refl _) (.cells #[.bool s, .int .i64 4, .int .i64 e, .int .u64 (f : Int)] 194)) (Nat.le_refl _) (.cells #[.bool s', .int .i64 0, .int .i64 e', .int .u64 (f' : Int)] 194))
    go_wp2_with fail
    have k5 := old_alloc (old_alloc K5.out (.cells #[.bool s, .int .i64 4, .int .i64 e, .int .u64 (f : Int)] 194)) (.cells #[.bool s', .int .i64 0, .int .i64 e', .int .u64 (f' : Int)] 194)
    have e5 := HE.out
    unfold wr7 wr5 at k5 e5
    obtain ⟨x0, x1, x2, x3, x4, x5, x6⟩ := th_cells k5
    refine bodyPost_ret (v := .agg #[.int .i64 4, .bool false, .bool false, .int .i64 0, .int .u64 0, .int .u64 0, .int .u64 0]) (by simp [results, Tryz.results211, go_sem, x0, x1, x2, x3, x4, x5, x6]) rfl ?_
    refine ⟨⟨4, false, false, 0, 0⟩, by rw [th_zero_val], th_zero_ok _ _, ?_, e5⟩
    rw [HA.out]
    rfl
  · have K5 := Lib.hid (K0.out.wr7 (.int .i64 4) (.bool false) (.bool false) (.int .i64 0) (.int .u64 0) (.int .u64 0) (.int .u64 0))
    have HE := Lib.hid (bel_alloc (bel_alloc (bel_grown HB1.out (Nat.le_refl _) (gr_wr7 w2 w.heap.size (.int .i64 4) (.bool false) (.bool false) (.int .i64 0) (.int .u64 0) (.int .u64 0) (.int .u64 0)) (Nat.le_refl _)) (Nat.le_refl _) (.cells #[.bool s, .int .i64 4, .int .i64 e, .int .u64 (f : Int)] 194)) (Nat.le_refl _) (.cells #[.bool s', .int .i64 1, .int .i64 e', .int .u64 (f' : Int)] 194))
    go_wp2_with fail
    have k5 := old_alloc (old_alloc K5.out (.cells #[.bool s, .int .i64 4, .int .i64 e, .int .u64 (f : Int)] 194)) (.cells #[.bool s', .int .i64 1, .int .i64 e', .int .u64 (f' : Int)] 194)
    have e5 := HE.out
    unfold wr7 wr5 at k5 e5
    obtain ⟨x0, x1, x2, x3, x4, x5, x6⟩ := th_cells k5
    refine bodyPost_ret (v := .agg #[.int .i64 4, .bool false, .bool false, .int .i64 0, .int .u64 0, .int .u64 0, .int .u64 0]) (by simp [results, Tryz.results211, go_sem, x0, x1, x2, x3, x4, x5, x6]) rfl ?_
    refine ⟨⟨4, false, false, 0, 0⟩, by rw [th_zero_val], th_zero_ok _ _, ?_, e5⟩
    rw [HA.out]
    rfl
  · have K5 := Lib.hid (K0.out.wr7 (.int .i64 4) (.bool false) (.bool false) (.int .i64 0) (.int .u64 0) (.int .u64 0) (.int .u64 0))
    have HE := Lib.hid (bel_alloc (bel_alloc (bel_grown HB1.out (Nat.le_refl _) (gr_wr7 w2 w.heap.size (.int .i64 4) (.bool false) (.bool false) (.int .i64 0) (.int .u64 0) (.int .u64 0) (.int .u64 0)) (Nat.le_refl _)) (Nat.le_refl _) (.cells #[.bool s, .int .i64 4, .int .i64 e, .int .u64 (f : Int)] 194)) (Nat.le_refl _) (.cells #[.bool s', .int .i64 2, .int .i64 e', .int .u64 (f' : Int)] 194))
    go_wp2_with fail
    have k5 := old_alloc (old_alloc K5.out (.cells #[.bool s, .int .i64 4, .int .i64 e, .int .u64 (f : Int)] 194)) (.cells #[.bool s', .int .i64 2, .int .i64 e', .int .u64 (f' : Int)] 194)
    have e5 := HE.out
    unfold wr7 wr5 at k5 e5
    obtain ⟨x0, x1, x2, x3, x4, x5, x6⟩ := th_cells k5
    refine bodyPost_ret (v := .agg #[.int .i64 4, .bool false, .bool false, .int .i64 0, .int .u64 0, .int .u64 0, .int .u64 0]) (by simp [results, Tryz.results211, go_sem, x0, x1, x2, x3, x4, x5, x6]) rfl ?_
    refine ⟨⟨4, false, false, 0, 0⟩, by rw [th_zero_val], th_zero_ok _ _, ?_, e5⟩
    rw [HA.out]
    rfl
  · have K5 := Lib.hid (K0.out.wr7 (.int .i64 4) (.bool false) (.bool false) (.int .i64 0) (.int .u64 0) (.int .u64 0) (.int .u64 0))
    have HE := Lib.hid (bel_alloc (bel_alloc (bel_grown HB1.out (Nat.le_refl _) (gr_wr7 w2 w.heap.size (.int .i64 4) (.bool false) (.bool false) (.int .i64 0) (.int .u64 0) (.int .u64 0) (.int .u64 0)) (Nat.le_refl _)) (Nat.le_refl _) (.cells #[.bool s, .int .i64 4, .int .i64 e, .int .u64 (f : Int)] 194)) (Nat.le_refl _) (.cells #[.bool s', .int .i64 3, .int .i64 e', .int .u64 (f' : Int)] 194))
    go_wp2_with fail
    have k5 := old_alloc (old_alloc K5.out (.cells #[.bool s, .int .i64 4, .int .i64 e, .int .u64 (f : Int)] 194)) (.cells #[.bool s', .int .i64 3, .int .i64 e', .int .u64 (f' : Int)] 194)
    have e5 := HE.out
    unfold wr7 wr5 at k5 e5
    obtain ⟨x0, x1, x2, x3, x4, x5, x6⟩ := th_cells k5
    refine bodyPost_ret (v := .agg #[.int .i64 4, .bool false, .bool false, .int .i64 0, .int .u64 0, .int .u64 0, .int .u64 0]) (by simp [results, Tryz.results211, go_sem, x0, x1, x2, x3, x4, x5, x6]) rfl ?_
    refine ⟨⟨4, false, false, 0, 0⟩, by rw [th_zero_val], th_zero_ok _ _, ?_, e5⟩
    rw [HA.out]
    rfl
  · have K5 := Lib.hid (K0.out.wr7 (.int .i64 4) (.bool false) (.bool false) (.int .i64 0) (.int .u64 0) (.int .u64 0) (.int .u64 0))
    have HE := Lib.hid (bel_alloc (bel_alloc (bel_grown HB1.out (Nat.le_refl _) (gr_wr7 w2 w.heap.size (.int .i64 4) (.bool false) (.bool false) (.int .i64 0) (.int .u64 0) (.int .u64 0) (.int .u64 0)) (Nat.le_refl _)) (Nat.le_refl _) (.cells #[.bool s, .int .i64 4, .int .i64 e, .int .u64 (f : Int)] 194)) (Nat.le_refl _) (.cells #[.bool s', .int .i64 4, .int .i64 e', .int .u64 (f' : Int)] 194))
    go_wp2_with fail
    have k5 := old_alloc (old_alloc K5.out (.cells #[.bool s, .int .i64 4, .int .i64 e, .int .u64 (f : Int)] 194)) (.cells #[.bool s', .int .i64 4, .int .i64 e', .int .u64 (f' : Int)] 194)
    have e5 := HE.out
    unfold wr7 wr5 at k5 e5
    obtain ⟨x0, x1, x2, x3, x4, x5, x6⟩ := th_cells k5
    refine bodyPost_ret (v := .agg #[.int .i64 4, .bool false, .bool false, .int .i64 0, .int .u64 0, .int .u64 0, .int .u64 0]) (by simp [results, Tryz.results211, go_sem, x0, x1, x2, x3, x4, x5, x6]) rfl ?_
    refine ⟨⟨4, false, false, 0, 0⟩, by rw [th_zero_val], th_zero_ok _ _, ?_, e5⟩
    rw [HA.out]
    rfl
end Go.Proofs.YteahdgbokjbgcaaGreatDoor
