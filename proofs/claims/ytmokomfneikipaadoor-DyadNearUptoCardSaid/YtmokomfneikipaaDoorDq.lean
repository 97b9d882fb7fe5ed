/- Contracts of bits.long, parts, Split and of dyad.Of. No statement of the seat is proved here. -/
import Derived.Test.YtmokomfneikipaaDoorProg
import Derived.Test.YtmokomfneikipaaDoorDp
namespace Go.Proofs.YtmokomfneikipaaDoor
open Go.RowKit
set_option linter.unusedVariables false
set_option linter.unusedSimpArgs false

theorem ofInt64_nat (a : Nat) (ha : a < 18446744073709551616) : (BitVec.ofInt 64 (a : Int)).toNat = a := by
  rw [BitVec.ofInt_natCast, BitVec.toNat_ofNat]; exact Nat.mod_eq_of_lt (by omega)
theorem bits_and_u64_nat (a b : Nat) (ha : a < 18446744073709551616) (hb : b < 18446744073709551616) : bits .and .u64 (a : Int) (b : Int) = ((a &&& b : Nat) : Int) := by
  have hx : a &&& b < 2 ^ 64 := Nat.and_lt_two_pow _ (by omega)
  show IntKind.u64.wrap ((BitVec.ofInt 64 (a : Int) &&& BitVec.ofInt 64 (b : Int)).toNat : Int) = _
  rw [BitVec.toNat_and, ofInt64_nat a ha, ofInt64_nat b hb, wrap_u64_nat _ (by omega)]
theorem bits_and_i64_nat (a b : Nat) (ha : a < 9223372036854775808) (hb : b < 9223372036854775808) : bits .and .i64 (a : Int) (b : Int) = ((a &&& b : Nat) : Int) := by
  have hx : a &&& b < 2 ^ 63 := Nat.and_lt_two_pow _ (by omega)
  show IntKind.i64.wrap ((BitVec.ofInt 64 (a : Int) &&& BitVec.ofInt 64 (b : Int)).toNat : Int) = _
  rw [BitVec.toNat_and, ofInt64_nat a (by omega), ofInt64_nat b (by omega), IntKind.wrap_i64]; omega

set_option maxRecDepth 10000 in
set_option maxHeartbeats 1000000 in
theorem long_any (w : World) :
    Calls Tryd.prog 80 #[] w fun en w' => en = .returned (.agg #[.int .i64 11, .int .i64 52, .int .i64 (-1074)]) ∧ Below w.heap.size w w' := by
  go_enter Tryd.func80, Tryd.ntmps80
  go_wp2
  have k := cells3 (heap_alloc_new w (.cells #[.int .i64 11, .int .i64 52, .int .i64 (-1074)] 100))
  obtain ⟨c0, cc1, cc2, _, _, _⟩ := k
  refine bodyPost_ret (v := .agg #[.int .i64 11, .int .i64 52, .int .i64 (-1074)]) (by simp [results, Tryd.results80, go_sem, c0, cc1, cc2]) rfl ?_
  exact ⟨rfl, (Below.refl _ _).alloc (Nat.le_refl _) _⟩

theorem cells4 {w : World} {g : Nat} {v0 v1 v2 v3 : Value} {T : TypeId} (h : w.heap[g]? = some (.cells #[v0, v1, v2, v3] T (0, 0))) :
    (w.cell? ⟨g, 0, none⟩ = some v0 ∧ w.cell? ⟨g, 1, none⟩ = some v1 ∧ w.cell? ⟨g, 2, none⟩ = some v2 ∧ w.cell? ⟨g, 3, none⟩ = some v3) ∧ w.frozen? ⟨g, 0, none⟩ = false ∧ w.frozen? ⟨g, 1, none⟩ = false ∧ w.frozen? ⟨g, 2, none⟩ = false ∧ w.frozen? ⟨g, 3, none⟩ = false :=
  ⟨⟨by rw [cell_of_row w g 0 _ _ _ h]; rfl, by rw [cell_of_row w g 1 _ _ _ h]; rfl, by rw [cell_of_row w g 2 _ _ _ h]; rfl, by rw [cell_of_row w g 3 _ _ _ h]; rfl⟩, frozen_of_row w g 0 _ _ h, frozen_of_row w g 1 _ _ h, frozen_of_row w g 2 _ _ h, frozen_of_row w g 3 _ _ h⟩
def partsV (b : Nat) : Value :=
  if b / 4503599627370496 % 2048 = 2047 then (if b % 4503599627370496 ≠ 0 then .agg #[.bool false, .int .i64 4, .int .i64 0, .int .u64 0] else .agg #[.bool (b / 9223372036854775808 % 2 == 1), .int .i64 3, .int .i64 0, .int .u64 0])
  else if 0 < b / 4503599627370496 % 2048 then .agg #[.bool (b / 9223372036854775808 % 2 == 1), .int .i64 2, .int .i64 (-1074 + (b / 4503599627370496 % 2048 : Nat) - 1), .int .u64 (b % 4503599627370496 + 4503599627370496 : Nat)]
  else if 0 < b % 4503599627370496 then .agg #[.bool (b / 9223372036854775808 % 2 == 1), .int .i64 1, .int .i64 (-1074), .int .u64 (b % 4503599627370496 : Nat)]
  else .agg #[.bool (b / 9223372036854775808 % 2 == 1), .int .i64 0, .int .i64 (-1074), .int .u64 0]

set_option maxRecDepth 10000 in
set_option maxHeartbeats 2000000 in
theorem parts81_any (b : Nat) (w : World) (hb : b < 18446744073709551616) :
    Calls Tryd.prog 81 #[.agg #[.int .i64 11, .int .i64 52, .int .i64 (-1074)], .int .u64 b] w fun en w' => en = .returned (partsV b) ∧ Below w.heap.size w w' := by
  go_enter Tryd.func81, Tryd.ntmps81
  go_wp2_with fail
  obtain ⟨w1, h1⟩ : ∃ W, W = w.alloc (.cells #[.int .i64 11, .int .i64 52, .int .i64 (-1074)] 100) := ⟨_, rfl⟩
  rw [← h1]
  obtain ⟨k1, hB, s1⟩ := new_of h1 rfl
  clear h1
  obtain ⟨w2, h2⟩ : ∃ W, W = w1.alloc (.cells #[.bool false, .int .i64 0, .int .i64 0, .int .u64 0] 67) := ⟨_, rfl⟩
  rw [← h2]
  obtain ⟨k2, hB2, s2⟩ := new_of h2 s1
  clear h2
  have k1' : w2.heap[w.heap.size]? = _ := (hB2.block _ (by omega)).trans k1
  obtain ⟨_, _, _, _, _, _⟩ := cells3 k1'
  obtain ⟨fr, hfr⟩ : ∃ fr, fr = b % 4503599627370496 := ⟨_, rfl⟩
  have g1 : bits BinOp.and IntKind.u64 (b : Int) 4503599627370495 = (fr : Int) := by
    have := bits_and_u64_nat b 4503599627370495 hb (by decide)
    rw [show ((4503599627370495 : Nat) : Int) = 4503599627370495 from rfl] at this
    rw [this, hfr, show 4503599627370495 = 2 ^ 52 - 1 from rfl, Nat.and_two_pow_sub_one_eq_mod]
  rw [g1]
  obtain ⟨ex, hex⟩ : ∃ ex, ex = b / 4503599627370496 % 2048 := ⟨_, rfl⟩
  have g2 : bits BinOp.and IntKind.i64 ((b : Int) / 4503599627370496) 2047 = (ex : Int) := by
    have := bits_and_i64_nat (b / 4503599627370496) 2047 (by omega) (by decide)
    rw [show ((2047 : Nat) : Int) = 2047 from rfl, show ((b / 4503599627370496 : Nat) : Int) = (b : Int) / 4503599627370496 from by simp] at this
    rw [this, hex, show 2047 = 2 ^ 11 - 1 from rfl, Nat.and_two_pow_sub_one_eq_mod]
  obtain ⟨sg, hsg⟩ : ∃ sg, sg = (b / 9223372036854775808 % 2 == 1) := ⟨_, rfl⟩
  have g3 : (bits BinOp.and IntKind.u64 ((b : Int) / 9223372036854775808) 1 == 1) = sg := by
    have := bits_and_u64_nat (b / 9223372036854775808) 1 (by omega) (by decide)
    rw [show ((1 : Nat) : Int) = 1 from rfl, show ((b / 9223372036854775808 : Nat) : Int) = (b : Int) / 9223372036854775808 from by simp] at this
    rw [this, hsg, show 1 = 2 ^ 1 - 1 from rfl, Nat.and_two_pow_sub_one_eq_mod]
    rcases (show b / 9223372036854775808 % 2 ^ 1 = 0 ∨ b / 9223372036854775808 % 2 ^ 1 = 1 by omega) with h | h <;> rw [h] <;> simp <;> omega
  have HE := Lib.hid hex; have HFR := Lib.hid hfr; have HSG := Lib.hid hsg; clear hex hfr hsg
  have hex2 : ex ≤ 2047 := by have := HE.out; omega
  have hfr2 : fr ≤ 4503599627370495 := by have := HFR.out; omega
  go_quiet (fail)
  have k1q : (w2.drewN nq).heap[w.heap.size]? = _ := k1'
  have k2q : (w2.drewN nq).heap[w.heap.size + 1]? = _ := k2
  have hp : partsV b = if ex = 2047 then (if fr ≠ 0 then .agg #[.bool false, .int .i64 4, .int .i64 0, .int .u64 0] else .agg #[.bool sg, .int .i64 3, .int .i64 0, .int .u64 0])
      else if 0 < ex then .agg #[.bool sg, .int .i64 2, .int .i64 (-1074 + (ex : Nat) - 1), .int .u64 (fr + 4503599627370496 : Nat)]
      else if 0 < fr then .agg #[.bool sg, .int .i64 1, .int .i64 (-1074), .int .u64 (fr : Nat)]
      else .agg #[.bool sg, .int .i64 0, .int .i64 (-1074), .int .u64 0] := by
    rw [HE.out, HFR.out, HSG.out]; rfl
  have HP := Lib.hid hp; clear hp HE HFR HSG
  have hBw : Below w.heap.size w (w2.drewN nq) := below_drewN' (hB.trans (hB2.mono (by omega)))
  have hg : w.heap.size ≤ w.heap.size + 1 := by omega
  obtain ⟨_, _, _, _, _, _⟩ := cells3 k1q
  obtain ⟨⟨c0, cc1, c2, c3⟩, _, _, _, _⟩ := cells4 k2q
  rcases (show (ex = 2047 ∧ fr ≠ 0) ∨ (ex = 2047 ∧ fr = 0) ∨ (ex ≠ 2047 ∧ 0 < ex) ∨ (ex = 0 ∧ 0 < fr) ∨ (ex = 0 ∧ fr = 0) by omega) with ⟨x1, x2⟩ | ⟨x1, x2⟩ | ⟨x1, x2⟩ | ⟨x1, x2⟩ | ⟨x1, x2⟩
  · have e1 : ((ex : Int) == 2047) = true := by rw [x1]; rfl
    have e2 : ((fr : Int) != 0) = true := by simp; omega
    have X1 := Lib.hid x1; have X2 := Lib.hid x2; clear x1 x2
    go_wp2_with fail
    refine bodyPost_ret (v := .agg #[.bool false, .int .i64 4, .int .i64 0, .int .u64 0]) (by simp [results, Tryd.results81, go_sem, c0, cc1, c2, c3]) rfl ?_
    refine ⟨?_, (((hBw.setCell (p := ⟨w.heap.size + 1, 0, none⟩) hg _).setCell (p := ⟨w.heap.size + 1, 1, none⟩) hg _).setCell (p := ⟨w.heap.size + 1, 2, none⟩) hg _).setCell (p := ⟨w.heap.size + 1, 3, none⟩) hg _⟩
    rw [HP.out]
    rw [if_pos X1.out, if_pos X2.out]
  · have e1 : ((ex : Int) == 2047) = true := by rw [x1]; rfl
    have e2 : ((fr : Int) != 0) = false := by rw [x2]; rfl
    have X1 := Lib.hid x1; have X2 := Lib.hid x2; clear x1 x2
    go_wp2_with fail
    refine bodyPost_ret (v := .agg #[.bool sg, .int .i64 3, .int .i64 0, .int .u64 0]) (by simp [results, Tryd.results81, go_sem, c0, cc1, c2, c3]) rfl ?_
    refine ⟨?_, (((hBw.setCell (p := ⟨w.heap.size + 1, 0, none⟩) hg _).setCell (p := ⟨w.heap.size + 1, 1, none⟩) hg _).setCell (p := ⟨w.heap.size + 1, 2, none⟩) hg _).setCell (p := ⟨w.heap.size + 1, 3, none⟩) hg _⟩
    rw [HP.out]
    rw [if_pos X1.out, if_neg (by have := X2.out; omega)]
  · have e1 : ((ex : Int) == 2047) = false := by simp; omega
    have X1 := Lib.hid x1; clear x1
    have g4 : IntKind.i64.wrap (-1074 + (ex : Int)) = -1074 + (ex : Int) := by rw [IntKind.wrap_i64]; omega
    have g5 : IntKind.i64.wrap (-1074 + (ex : Int) - 1) = -1074 + (ex : Int) - 1 := by rw [IntKind.wrap_i64]; omega
    have g6 : bits BinOp.or IntKind.u64 (fr : Int) 4503599627370496 = (fr : Int) + 4503599627370496 := by
      have := bits_or_u64_nat fr 4503599627370496 (by omega) (by decide)
      rw [show ((4503599627370496 : Nat) : Int) = 4503599627370496 from rfl] at this
      rw [this, or_add (k := 52) (by omega) (by decide)]; rfl
    obtain ⟨⟨_, _, _, _⟩, _, _, _, _⟩ := cells4 k2
    obtain ⟨_, _, _, _, _, _⟩ := cells3 k1'
    go_wp2_with fail
    go_region
    go_wp2
    have k2r : (w2.drewN (nq + 1)).heap[w.heap.size + 1]? = _ := k2
    obtain ⟨⟨d0, d1, d2, d3⟩, _, _, _, _⟩ := cells4 k2r
    refine bodyPost_ret (v := .agg #[.bool sg, .int .i64 2, .int .i64 (-1074 + (ex : Int) - 1), .int .u64 ((fr : Int) + 4503599627370496)]) (by simp [results, Tryd.results81, go_sem, d0, d1, d2, d3]) rfl ?_
    refine ⟨?_, ((((hBw.setCell (p := ⟨w.heap.size + 1, 0, none⟩) hg _).setCell (p := ⟨w.heap.size + 1, 1, none⟩) hg _).setCell (p := ⟨w.heap.size + 1, 2, none⟩) hg _).setCell (p := ⟨w.heap.size + 1, 3, none⟩) hg _).drew⟩
    rw [HP.out]
    rw [if_neg X1.out, if_pos x2]; simp
  · have e1 : ((ex : Int) == 2047) = false := by rw [x1]; rfl
    have X1 := Lib.hid x1; clear x1
    have x3 : ¬ 0 < ex := by have := X1.out; omega
    go_wp2_with fail
    refine bodyPost_ret (v := .agg #[.bool sg, .int .i64 1, .int .i64 (-1074), .int .u64 (fr : Int)]) (by simp [results, Tryd.results81, go_sem, c0, cc1, c2, c3]) rfl ?_
    refine ⟨?_, (((hBw.setCell (p := ⟨w.heap.size + 1, 0, none⟩) hg _).setCell (p := ⟨w.heap.size + 1, 1, none⟩) hg _).setCell (p := ⟨w.heap.size + 1, 2, none⟩) hg _).setCell (p := ⟨w.heap.size + 1, 3, none⟩) hg _⟩
    rw [HP.out]
    rw [if_neg (by have := X1.out; omega), if_neg x3, if_pos x2]
  · have e1 : ((ex : Int) == 2047) = false := by rw [x1]; rfl
    have X1 := Lib.hid x1; have X2 := Lib.hid x2; clear x1 x2
    have x3 : ¬ 0 < ex := by have := X1.out; omega
    have x4 : ¬ 0 < fr := by have := X2.out; omega
    go_wp2_with fail
    refine bodyPost_ret (v := .agg #[.bool sg, .int .i64 0, .int .i64 (-1074), .int .u64 0]) (by simp [results, Tryd.results81, go_sem, c0, cc1, c2, c3]) rfl ?_
    refine ⟨?_, (((hBw.setCell (p := ⟨w.heap.size + 1, 0, none⟩) hg _).setCell (p := ⟨w.heap.size + 1, 1, none⟩) hg _).setCell (p := ⟨w.heap.size + 1, 2, none⟩) hg _).setCell (p := ⟨w.heap.size + 1, 3, none⟩) hg _⟩
    rw [HP.out]
    rw [if_neg (by have := X1.out; omega), if_neg x3, if_neg x4]
end Go.Proofs.YtmokomfneikipaaDoor
