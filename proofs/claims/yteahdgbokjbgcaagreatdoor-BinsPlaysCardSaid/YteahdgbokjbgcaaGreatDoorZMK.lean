/- math/bits: Add64, Sub64 as they run; whole numbers by words of 64 bits. What super.move adds or takes, in numbers; a block of words. The sign of an accumulator, its bound, its words of 32 bits. No statement of the seat is proved here. -/
import Derived.Test.YteahdgbokjbgcaaGreatDoorProg
import Derived.Test.YteahdgbokjbgcaaGreatDoorZBit
import Derived.Laws.BitsAllLaws
namespace Go.Proofs.YteahdgbokjbgcaaGreatDoor
open Go.RowKit
set_option linter.unusedVariables false
set_option linter.unusedSimpArgs false

theorem three_at (name : String) (x y c : Nat) (w : World) (hc : c ≤ 1) : (Extern.MathBitsCarry.three name #[.int .u64 (x : Int), .int .u64 (y : Int), .int .u64 (c : Int)]).run Tryz.prog w = .ok (x, y, c) w := by
  show (Sem.run Tryz.prog (do
    let c := (← asInt (.int .u64 (c : Int))).toNat
    if c > 1 then unsupported (.noEntry ("extern/math/bits." ++ name ++ ": a carry that is neither 0 nor 1"))
    pure ((← asInt (.int .u64 (x : Int))).toNat, (← asInt (.int .u64 (y : Int))).toNat, c)) w) = _
  simp [asInt, asIntOf]
  omega
def addE (args : Array Value) : Sem Value := do
    let (x, y, c) ← Extern.MathBitsCarry.three "Add64" args
    pure (Extern.MathBitsCarry.pair ((x + y + c) % Extern.MathBitsCarry.m64) ((x + y + c) / Extern.MathBitsCarry.m64))
theorem find_add : Extern.find Tryz.f265 = some addE := by kernel_rfl
theorem ext_add64 (x y c : Int) (h1 : 0 ≤ x) (h2 : x < 18446744073709551616) (h3 : 0 ≤ y) (h4 : y < 18446744073709551616) (h5 : 0 ≤ c) (h6 : c ≤ 1) (w : World) :
    (callFunc 265 #[.int .u64 x, .int .u64 y, .int .u64 c]).run Tryz.prog w = .ok (.value (.tuple #[.int .u64 ((x + y + c) % 18446744073709551616), .int .u64 ((x + y + c) / 18446744073709551616)])) w := by
  obtain ⟨a, rfl⟩ := Int.eq_ofNat_of_zero_le h1
  obtain ⟨b, rfl⟩ := Int.eq_ofNat_of_zero_le h3
  obtain ⟨d, rfl⟩ := Int.eq_ofNat_of_zero_le h5
  rw [run_callFunc_extern (f := 265) (fn := Tryz.f265) (e := addE) (by kernel_rfl) (by kernel_rfl) (by kernel_rfl) (by kernel_rfl) find_add]
  unfold addE
  rw [Sem.run_bind, three_at _ _ _ _ _ (by omega)]
  show Result.ok (Next.value (Value.tuple #[.int .u64 (((a + b + d) % 18446744073709551616 : Nat) : Int), .int .u64 (((a + b + d) / 18446744073709551616 : Nat) : Int)])) w = _
  have e1 : ((a : Int) + (b : Int) + (d : Int)) % 18446744073709551616 = (((a + b + d) % 18446744073709551616 : Nat) : Int) := by omega
  have e2 : ((a : Int) + (b : Int) + (d : Int)) / 18446744073709551616 = (((a + b + d) / 18446744073709551616 : Nat) : Int) := by omega
  rw [e1, e2]
def subE (args : Array Value) : Sem Value := do
    let (x, y, c) ← Extern.MathBitsCarry.three "Sub64" args
    pure (Extern.MathBitsCarry.pair ((x + Extern.MathBitsCarry.m64 - y - c) % Extern.MathBitsCarry.m64) (if x < y + c then 1 else 0))
theorem find_sub : Extern.find Tryz.f196 = some subE := by kernel_rfl
theorem ext_sub64 (x y c : Int) (h1 : 0 ≤ x) (h2 : x < 18446744073709551616) (h3 : 0 ≤ y) (h4 : y < 18446744073709551616) (h5 : 0 ≤ c) (h6 : c ≤ 1) (w : World) :
    (callFunc 196 #[.int .u64 x, .int .u64 y, .int .u64 c]).run Tryz.prog w = .ok (.value (.tuple #[.int .u64 ((x - y - c) % 18446744073709551616), .int .u64 (-((x - y - c) / 18446744073709551616))])) w := by
  obtain ⟨a, rfl⟩ := Int.eq_ofNat_of_zero_le h1
  obtain ⟨b, rfl⟩ := Int.eq_ofNat_of_zero_le h3
  obtain ⟨d, rfl⟩ := Int.eq_ofNat_of_zero_le h5
  rw [run_callFunc_extern (f := 196) (fn := Tryz.f196) (e := subE) (by kernel_rfl) (by kernel_rfl) (by kernel_rfl) (by kernel_rfl) find_sub]
  unfold subE
  rw [Sem.run_bind, three_at _ _ _ _ _ (by omega)]
  show Result.ok (Next.value (Value.tuple #[.int .u64 (((a + 18446744073709551616 - b - d) % 18446744073709551616 : Nat) : Int), .int .u64 ((if a < b + d then 1 else 0 : Nat) : Int)])) w = _
  have e1 : ((a : Int) - (b : Int) - (d : Int)) % 18446744073709551616 = (((a + 18446744073709551616 - b - d) % 18446744073709551616 : Nat) : Int) := by omega
  have e2 : -(((a : Int) - (b : Int) - (d : Int)) / 18446744073709551616) = ((if a < b + d then 1 else 0 : Nat) : Int) := by split <;> omega
  rw [e1, e2]

/-- words of 64 bits of a whole number, in two's complement without end -/
abbrev W64 : Int := 18446744073709551616
def dz (T : Int) (i : Nat) : Int := T / W64 ^ i % W64
theorem w64_pos (i : Nat) : 0 < W64 ^ i := Int.pow_pos (by decide)
end Go.Proofs.YteahdgbokjbgcaaGreatDoor
namespace Go.Proofs.YteahdgbokjbgcaaGreatDoor
open Go.RowKit
set_option linter.unusedVariables false
set_option linter.unusedSimpArgs false

/-- a block that begins with the 67 words of an accumulator -/
def rowOf (f : Nat → Int) : List Value := (List.range 67).map fun j => Value.int .u64 (f j)
theorem rowOf_len (f : Nat → Int) : (rowOf f).length = 67 := by unfold rowOf; simp
theorem rowOf_get (f : Nat → Int) {j : Nat} (h : j < 67) : (rowOf f)[j]? = some (.int .u64 (f j)) := by
  unfold rowOf; rw [List.getElem?_map, List.getElem?_range h]; rfl
theorem rowOf_congr {f g : Nat → Int} (h : ∀ j, j < 67 → f j = g j) : rowOf f = rowOf g := by
  unfold rowOf
  apply List.map_congr_left
  intro j hj
  rw [h j (by simpa using hj)]
theorem rowOf_set (f : Nat → Int) {j : Nat} (v : Int) (h : j < 67) : (rowOf f).set j (.int .u64 v) = rowOf (fun k => if k = j then v else f k) := by
  apply List.ext_getElem?
  intro i
  rw [List.getElem?_set]
  by_cases h1 : j = i
  · subst h1
    rw [if_pos rfl, rowOf_len, if_pos h, rowOf_get _ h, if_pos rfl]
  · rw [if_neg h1]
    by_cases h2 : i < 67
    · rw [rowOf_get _ h2, rowOf_get _ h2, if_neg (fun e => h1 e.symm)]
    · rw [List.getElem?_eq_none (by rw [rowOf_len]; omega), List.getElem?_eq_none (by rw [rowOf_len]; omega)]
def Tot (w : World) (g : Nat) (t : TypeId) (f : Nat → Int) (rest : List Value) : Prop := w.heap[g]? = some (.cells (rowOf f ++ rest).toArray t (0, 0))
section
variable {w w' : World} {g : Nat} {t : TypeId} {f : Nat → Int} {rest : List Value}
theorem Tot.lt (h : Tot w g t f rest) : g < w.heap.size := (Array.getElem?_eq_some_iff.1 h).1
theorem Tot.cell (h : Tot w g t f rest) {j : Nat} (hj : j < 67) : w.cell? ⟨g, j, none⟩ = some (.int .u64 (f j)) := by
  rw [cell_of_row w g j _ t (0, 0) h, List.getElem?_toArray, List.getElem?_append_left (by rw [rowOf_len]; omega), rowOf_get _ hj]
theorem Tot.tail (h : Tot w g t f rest) (j : Nat) : w.cell? ⟨g, 67 + j, none⟩ = rest[j]? := by
  rw [cell_of_row w g _ _ t (0, 0) h, List.getElem?_toArray, List.getElem?_append_right (by rw [rowOf_len]; omega), rowOf_len, Nat.add_sub_cancel_left]
theorem Tot.frozen (h : Tot w g t f rest) (j : Nat) : w.frozen? ⟨g, j, none⟩ = false := frozen_of_row w g j _ t h
theorem Tot.set (h : Tot w g t f rest) {j : Nat} (hj : j < 67) (v : Int) : Tot (w.setCell ⟨g, j, none⟩ (.int .u64 v)) g t (fun k => if k = j then v else f k) rest := by
  unfold Tot
  rw [heap_setCell_same w g j _ t _ h, List.setIfInBounds_toArray, List.set_append_left _ _ (by rw [rowOf_len]; omega), rowOf_set _ _ hj]
theorem Tot.other (h : Tot w g t f rest) {a : Addr} (ha : a.block ≠ g) (v : Value) : Tot (w.setCell a v) g t f rest := by
  unfold Tot; rw [heap_setCell_other _ _ _ _ (fun e => ha e.symm)]; exact h
theorem Tot.below {B : Nat} (h : Tot w g t f rest) (hb : Below B w w') (hg : g < B) : Tot w' g t f rest := by
  unfold Tot; rw [hb.block _ hg]; exact h
theorem Tot.alloc (h : Tot w g t f rest) (o : Obj) : Tot (w.alloc o) g t f rest := h.below ((Below.refl w.heap.size w).alloc (Nat.le_refl _) o) h.lt
theorem Tot.drew (h : Tot w g t f rest) : Tot w.drew g t f rest := h
theorem Tot.congr (h : Tot w g t f rest) {f' : Nat → Int} (e : ∀ j, j < 67 → f j = f' j) : Tot w g t f' rest := by
  unfold Tot; rw [← rowOf_congr e]; exact h
theorem Tot.grown (h : Tot w g t f rest) {r : Nat} (hk : w.grownBy w' (some r)) (hne : g ≠ r) : Tot w' g t f rest := (hk.block g h.lt (by simpa using hne)).trans h
end
end Go.Proofs.YteahdgbokjbgcaaGreatDoor
namespace Go.Proofs.YteahdgbokjbgcaaGreatDoor
open Go.RowKit
set_option linter.unusedVariables false
set_option linter.unusedSimpArgs false

/-- is it too great? -/
def Gt (T : Int) : Prop := W64 ^ 66 * 16384 ≤ T ∨ T ≤ -(W64 ^ 66 * 16384)
end Go.Proofs.YteahdgbokjbgcaaGreatDoor
