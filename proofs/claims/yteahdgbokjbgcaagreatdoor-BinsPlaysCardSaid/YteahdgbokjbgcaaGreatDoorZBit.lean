/- Bit operations of 32 and 64 bits as operations of natural numbers; math/bits: Add32, Sub32, Len32, TrailingZeros32 by their contracts. No statement of the seat is proved here. -/
import Derived.Test.YteahdgbokjbgcaaGreatDoorProg
import Derived.Test.YteahdgbokjbgcaaGreatDoorZBase
import Derived.Laws.Bits64b
import Derived.Lib.TrailingZeros
namespace Go.Proofs.YteahdgbokjbgcaaGreatDoor
open Go.RowKit
set_option linter.unusedVariables false
set_option linter.unusedSimpArgs false

theorem ofInt32_nat (a : Nat) (ha : a < 4294967296) : (BitVec.ofInt 32 (a : Int)).toNat = a := by
  rw [BitVec.ofInt_natCast, BitVec.toNat_ofNat]; exact Nat.mod_eq_of_lt (by omega)
theorem wrap_u32_nat (a : Nat) (ha : a < 4294967296) : IntKind.u32.wrap (a : Int) = (a : Int) := by rw [IntKind.wrap_u32]; omega
theorem wrap_u64_nat (a : Nat) (ha : a < 18446744073709551616) : IntKind.u64.wrap (a : Int) = (a : Int) := by rw [IntKind.wrap_u64]; omega
theorem bits_and_u32_nat (a b : Nat) (ha : a < 4294967296) (hb : b < 4294967296) : bits .and .u32 (a : Int) (b : Int) = ((a &&& b : Nat) : Int) := by
  have hx : a &&& b < 2 ^ 32 := Nat.and_lt_two_pow _ (by omega)
  show IntKind.u32.wrap ((BitVec.ofInt 32 (a : Int) &&& BitVec.ofInt 32 (b : Int)).toNat : Int) = _
  rw [BitVec.toNat_and, ofInt32_nat a ha, ofInt32_nat b hb, wrap_u32_nat _ (by omega)]
theorem bits_or_u32_nat (a b : Nat) (ha : a < 4294967296) (hb : b < 4294967296) : bits .or .u32 (a : Int) (b : Int) = ((a ||| b : Nat) : Int) := by
  have hx : a ||| b < 2 ^ 32 := Nat.or_lt_two_pow (by omega) (by omega)
  show IntKind.u32.wrap ((BitVec.ofInt 32 (a : Int) ||| BitVec.ofInt 32 (b : Int)).toNat : Int) = _
  rw [BitVec.toNat_or, ofInt32_nat a ha, ofInt32_nat b hb, wrap_u32_nat _ (by omega)]
theorem bits_xor_u32_nat (a b : Nat) (ha : a < 4294967296) (hb : b < 4294967296) : bits .xor .u32 (a : Int) (b : Int) = ((a ^^^ b : Nat) : Int) := by
  have hx : a ^^^ b < 2 ^ 32 := Nat.xor_lt_two_pow (by omega) (by omega)
  show IntKind.u32.wrap ((BitVec.ofInt 32 (a : Int) ^^^ BitVec.ofInt 32 (b : Int)).toNat : Int) = _
  rw [BitVec.toNat_xor, ofInt32_nat a ha, ofInt32_nat b hb, wrap_u32_nat _ (by omega)]
theorem bits_not_u32_nat (b : Nat) (hb : b < 4294967296) : bits .xor .u32 4294967295 (b : Int) = ((4294967295 - b : Nat) : Int) := by
  have h1 := bits_xor_u32_nat 4294967295 b (by decide) hb
  rw [show ((4294967295 : Nat) : Int) = 4294967295 from rfl] at h1
  rw [h1]
  congr 1
  apply Nat.eq_of_testBit_eq
  intro i
  have e : (4294967295 - b) = 2 ^ 32 - (b + 1) := by omega
  rw [Nat.testBit_xor, e, Nat.testBit_two_pow_sub_succ (by omega), show 4294967295 = 2 ^ 32 - 1 from rfl, Nat.testBit_two_pow_sub_one]
  by_cases hi : i < 32
  · simp [hi]
  · simp [hi]
    exact Nat.testBit_lt_two_pow (Nat.lt_of_lt_of_le hb (Nat.pow_le_pow_right (show 0 < 2 by decide) (show 32 ≤ i by omega)))
theorem or_add {x y k : Nat} (hx : x < 2 ^ k) (hy : y % 2 ^ k = 0) : x ||| y = x + y := by
  obtain ⟨q, rfl⟩ := Nat.dvd_of_mod_eq_zero hy
  rw [Nat.or_comm, Nat.add_comm, Nat.two_pow_add_eq_or_of_lt hx]
theorem or_add' {x y k : Nat} (hx : x < 2 ^ k) (hy : y % 2 ^ k = 0) : y ||| x = y + x := by rw [Nat.or_comm, or_add hx hy, Nat.add_comm]

set_option maxHeartbeats 400000 in
theorem add32_any (x y c : Nat) (hx : x < 4294967296) (hy : y < 4294967296) (hc : c < 4294967296) (w : World) :
    Calls Tryz.prog 300 #[.int .u32 x, .int .u32 y, .int .u32 c] w fun e w' => e = .returned (.tuple #[.int .u32 ((((x + y + c) % 4294967296 : Nat)) : Int), .int .u32 (((x + y + c) / 4294967296 : Nat) : Int)]) ∧ w = w' := by
  go_enter Tryz.func300, Tryz.ntmps300
  go_wp2
  go_ret2
  exact ⟨ret2i (by simp) (by simp), rfl⟩

theorem shift31 (n : Nat) (h : n < 4294967296) : n / 2147483648 = (n.testBit 31).toNat := by
  rw [Nat.testBit_eq_decide_div_mod_eq]
  simp only [show (2 : Nat) ^ 31 = 2147483648 from rfl]
  by_cases h1 : n / 2147483648 % 2 = 1
  · simp [h1]; omega
  · simp [h1]; omega
theorem testBit31 (n : Nat) (h : n < 4294967296) : n.testBit 31 = decide (2147483648 ≤ n) := by
  rw [Nat.testBit_eq_decide_div_mod_eq]
  simp only [show (2 : Nat) ^ 31 = 2147483648 from rfl]
  rw [decide_eq_decide]; omega
theorem borrow_law (x y c d : Nat) (hx : x < 4294967296) (hy : y < 4294967296) (hc : c ≤ 1) (hd : d = (4294967296 + x - y - c) % 4294967296) :
    (((4294967295 - x) &&& y) ||| ((4294967295 - (x ^^^ y)) &&& d)) / 2147483648 = if x < y + c then 1 else 0 := by
  have hxy : x ^^^ y < 2 ^ 32 := Nat.xor_lt_two_pow (by omega) (by omega)
  have h1 : (4294967295 - x) &&& y < 2 ^ 32 := Nat.and_lt_two_pow _ (by omega)
  have h2 : (4294967295 - (x ^^^ y)) &&& d < 2 ^ 32 := Nat.and_lt_two_pow _ (by omega)
  have h3 := Nat.or_lt_two_pow h1 h2
  rw [shift31 _ (by omega), Nat.testBit_or, Nat.testBit_and, Nat.testBit_and, testBit31 _ (by omega), testBit31 y (by omega), testBit31 d (by omega)]
  have e : (4294967295 - (x ^^^ y)) = 2 ^ 32 - ((x ^^^ y) + 1) := by omega
  rw [e, Nat.testBit_two_pow_sub_succ hxy, Nat.testBit_xor, testBit31 x hx, testBit31 y hy]
  by_cases a1 : 2147483648 ≤ x <;> by_cases a2 : 2147483648 ≤ y <;> by_cases a3 : 2147483648 ≤ d <;> by_cases a4 : x < y + c <;> simp [a1, a2, a3, a4] <;> omega

def borrow (x y c : Nat) : Nat := if x < y + c then 1 else 0
theorem borrow_le (x y c : Nat) : borrow x y c ≤ 1 := by unfold borrow; split <;> omega
def sub32 (x y c : Nat) : Nat := (4294967296 + x - y - c) % 4294967296
theorem sub32_key (x y c : Nat) (hx : x < 4294967296) (hy : y < 4294967296) (hc : c ≤ 1) :
    bits BinOp.or IntKind.u32 (bits BinOp.and IntKind.u32 (bits BinOp.xor IntKind.u32 4294967295 ↑x) ↑y)
      (bits BinOp.and IntKind.u32 (bits BinOp.xor IntKind.u32 4294967295 (bits BinOp.xor IntKind.u32 ↑x ↑y)) (((x : Int) - (y : Int) - (c : Int)) % 4294967296)) / 2147483648 = (borrow x y c : Int) := by
  have hxy : x ^^^ y < 2 ^ 32 := Nat.xor_lt_two_pow (by omega) (by omega)
  have h1 : (4294967295 - x) &&& y < 2 ^ 32 := Nat.and_lt_two_pow _ (by omega)
  have h2 : (4294967295 - (x ^^^ y)) &&& sub32 x y c < 2 ^ 32 := Nat.and_lt_two_pow _ (by unfold sub32; omega)
  have e : ((x : Int) - (y : Int) - (c : Int)) % 4294967296 = ((sub32 x y c : Nat) : Int) := by unfold sub32; omega
  have hs : sub32 x y c < 4294967296 := by unfold sub32; omega
  rw [e, bits_xor_u32_nat x y hx hy, bits_not_u32_nat _ hx, bits_not_u32_nat _ (by omega), bits_and_u32_nat _ _ (by omega) hy, bits_and_u32_nat _ _ (by omega) hs,
    bits_or_u32_nat _ _ (by omega) (by omega)]
  have := borrow_law x y c _ hx hy hc rfl
  unfold borrow
  rw [← this]
  unfold sub32; omega

set_option maxHeartbeats 400000 in
theorem sub32_any (x y c : Nat) (hx : x < 4294967296) (hy : y < 4294967296) (hc : c ≤ 1) (w : World) :
    Calls Tryz.prog 320 #[.int .u32 x, .int .u32 y, .int .u32 c] w fun e w' => e = .returned (.tuple #[.int .u32 (sub32 x y c : Int), .int .u32 (borrow x y c : Int)]) ∧ w = w' := by
  have HK := Lib.hid (sub32_key x y c hx hy hc)
  have hs : IntKind.u32.signed = false := rfl
  have hm : IntKind.u32.max = 4294967295 := rfl
  go_enter Tryz.func320, Tryz.ntmps320
  go_wp2
  go_ret2
  exact ⟨ret2i (by unfold sub32; omega) HK.out, rfl⟩

set_option maxHeartbeats 4000000 in
set_option maxRecDepth 100000 in
theorem len32_int (x : Int) (h0 : 0 ≤ x) (h1 : x ≤ 4294967295) (w : World) :
    Calls Tryz.prog 288 #[.int .u32 x] w fun e w' => e = .returned (.int .i64 (bitLen x.toNat)) ∧ w = w' := by
  go_enter Tryz.func288, Tryz.ntmps288
  go_wp2
  all_goals (go_ret; refine ⟨ret1i ?_, rfl⟩)
  all_goals rw [len8tab_get]
  · have e : (x / 65536 / 256).toNat = x.toNat / 2 ^ 24 := by omega
    have l := bitLen_le8 (x / 65536 / 256).toNat (by omega)
    have s := bitLen_shift x.toNat 24 (by omega)
    rw [e] at l ⊢
    unfold wrap64; omega
  · have e : (x / 65536).toNat = x.toNat / 2 ^ 16 := by omega
    have l := bitLen_le8 (x / 65536).toNat (by omega)
    have s := bitLen_shift x.toNat 16 (by omega)
    rw [e] at l ⊢
    unfold wrap64; omega
  · have e : (x / 256).toNat = x.toNat / 2 ^ 8 := by omega
    have l := bitLen_le8 (x / 256).toNat (by omega)
    have s := bitLen_shift x.toNat 8 (by omega)
    rw [e] at l ⊢
    unfold wrap64; omega
  · have l := bitLen_le8 x.toNat (by omega)
    unfold wrap64; omega
theorem len32_any (x : Nat) (hx : x < 4294967296) (w : World) :
    Calls Tryz.prog 288 #[.int .u32 x] w fun e w' => e = .returned (.int .i64 (bitLen x)) ∧ w = w' := by
  have := len32_int (x : Int) (by omega) (by omega) w
  rwa [Int.toNat_natCast] at this

/-- the table of math/bits as its initialiser lays it -/
def Tab (w : World) : Prop := ∀ j, j < Lib.deBruijn32tab.length → w.cell? ⟨1, j, none⟩ = some (.int .u8 (Lib.deBruijn32tab.getD j 0))
theorem Tab.lt {w : World} (h : Tab w) : 1 < w.heap.size := World.block_lt_of_cell? _ _ (h 0 (by decide))
theorem Tab.grow {w w' : World} (h : Tab w) (hb : Below w.heap.size w w') : Tab w' := fun j hj => by
  rw [hb.cell (p := ⟨1, j, none⟩) h.lt]; exact h j hj

theorem tz32_key (x a : Nat) (hx : x < 4294967296) (hx0 : x ≠ 0) (hlow : x &&& (4294967296 - x) = a) :
    bits BinOp.and IntKind.u32 (x : Int) (-(x : Int) % 4294967296) * 125613361 % 4294967296 / 134217728 = ((a * 125613361 % 4294967296 / 134217728 : Nat) : Int) := by
  have e1 : -(x : Int) % 4294967296 = ((4294967296 - x : Nat) : Int) := by omega
  rw [e1, bits_and_u32_nat x _ hx (by omega), hlow]
  omega

set_option maxHeartbeats 1000000 in
theorem tz32_core (x k idx : Nat) (w : World) (hx0 : ((x : Int) == 0) = false)
    (key : bits BinOp.and IntKind.u32 (x : Int) (-(x : Int) % 4294967296) * 125613361 % 4294967296 / 134217728 = (idx : Int))
    (hi : idx < 32) (hk : k < 32) (hcell : w.cell? ⟨1, idx, none⟩ = some (.int .u8 k)) :
    Calls Tryz.prog 317 #[.int .u32 x] w fun e w' => e = .returned (.int .i64 k) ∧ w = w' := by
  go_enter Tryz.func317, Tryz.ntmps317
  go_wp2_with (simp only [key])
  go_ret
  exact ⟨rfl, rfl⟩

theorem tz32_any (x : Nat) (hx : x < 4294967296) (h0 : x ≠ 0) (w : World) (hT : Tab w) :
    Calls Tryz.prog 317 #[.int .u32 x] w fun e w' => e = .returned (.int .i64 (Lib.ctz 32 x)) ∧ w = w' := by
  obtain ⟨hlow, hk⟩ := Lib.lowest_bit 32 x h0 hx
  obtain ⟨hi, htab⟩ := Lib.deBruijn32_at _ hk
  have hcell := hT _ hi
  rw [htab] at hcell
  exact tz32_core x _ _ w (by simp; omega) (tz32_key x _ hx h0 hlow) hi hk hcell
end Go.Proofs.YteahdgbokjbgcaaGreatDoor
