/- math/bits: Add64, Sub64 as they run; whole numbers by words of 64 bits. What super.move adds or takes, in numbers; a block of words. The sign of an accumulator, its bound, its words of 32 bits. No statement of the seat is proved here. -/
import Derived.Test.YteahdgbokjbgcaaGreatDoorProg
import Derived.Test.YteahdgbokjbgcaaGreatDoorYA
import Derived.Laws.BitsAllLaws
namespace Go.Proofs.YteahdgbokjbgcaaGreatDoor
open Go.RowKit
set_option linter.unusedVariables false
set_option linter.unusedSimpArgs false

theorem three_at (name : String) (x y c : Nat) (w : World) (hc : c ≤ 1) : (Extern.MathBitsCarry.three name #[.int .u64 (x : Int), .int .u64 (y : Int), .int .u64 (c : Int)]).run Tryz.prog w = .ok (x, y, c) w := by
  show (Sem.run Tryz.prog (do
    let c := (← asInt (.int .u64 (c : Int))).toNat
    if c > 1 then unsupported (.noEntry ("extern/math/bits." ++ name ++ ": a carry that is neither 0 nor 1"))
    pure ((← asInt (.int .u64 (x : Int))).toNat, (← asInt (.int .u64 (y : Int))).toNat, c)) w) = _
  simp [asInt, asIntOf]
  omega
def addE (args : Array Value) : Sem Value := do
    let (x, y, c) ← Extern.MathBitsCarry.three "Add64" args
    pure (Extern.MathBitsCarry.pair ((x + y + c) % Extern.MathBitsCarry.m64) ((x + y + c) / Extern.MathBitsCarry.m64))
theorem find_add : Extern.find Tryz.f265 = some addE := by kernel_rfl
theorem ext_add64 (x y c : Int) (h1 : 0 ≤ x) (h2 : x < 18446744073709551616) (h3 : 0 ≤ y) (h4 : y < 18446744073709551616) (h5 : 0 ≤ c) (h6 : c ≤ 1) (w : World) :
    (callFunc 265 #[.int .u64 x, .int .u64 y, .int .u64 c]).run Tryz.prog w = .ok (.value (.tuple #[.int .u64 ((x + y + c) % 18446744073709551616), .int .u64 ((x + y + c) / 18446744073709551616)])) w := by
  obtain ⟨a, rfl⟩ := Int.eq_ofNat_of_zero_le h1
  obtain ⟨b, rfl⟩ := Int.eq_ofNat_of_zero_le h3
  obtain ⟨d, rfl⟩ := Int.eq_ofNat_of_zero_le h5
  rw [run_callFunc_extern (f := 265) (fn := Tryz.f265) (e := addE) (by kernel_rfl) (by kernel_rfl) (by kernel_rfl) (by kernel_rfl) find_add]
  unfold addE
  rw [Sem.run_bind, three_at _ _ _ _ _ (by omega)]
  show Result.ok (Next.value (Value.tuple #[.int .u64 (((a + b + d) % 18446744073709551616 : Nat) : Int), .int .u64 (((a + b + d) / 18446744073709551616 : Nat) : Int)])) w = _
  have e1 : ((a : Int) + (b : Int) + (d : Int)) % 18446744073709551616 = (((a + b + d) % 18446744073709551616 : Nat) : Int) := by omega
  have e2 : ((a : Int) + (b : Int) + (d : Int)) / 18446744073709551616 = (((a + b + d) / 18446744073709551616 : Nat) : Int) := by omega
  rw [e1, e2]
def subE (args : Array Value) : Sem Value := do
    let (x, y, c) ← Extern.MathBitsCarry.three "Sub64" args
    pure (Extern.MathBitsCarry.pair ((x + Extern.MathBitsCarry.m64 - y - c) % Extern.MathBitsCarry.m64) (if x < y + c then 1 else 0))
theorem find_sub : Extern.find Tryz.f196 = some subE := by kernel_rfl
theorem ext_sub64 (x y c : Int) (h1 : 0 ≤ x) (h2 : x < 18446744073709551616) (h3 : 0 ≤ y) (h4 : y < 18446744073709551616) (h5 : 0 ≤ c) (h6 : c ≤ 1) (w : World) :
    (callFunc 196 #[.int .u64 x, .int .u64 y, .int .u64 c]).run Tryz.prog w = .ok (.value (.tuple #[.int .u64 ((x - y - c) % 18446744073709551616), .int .u64 (-((x - y - c) / 18446744073709551616))])) w := by
  obtain ⟨a, rfl⟩ := Int.eq_ofNat_of_zero_le h1
  obtain ⟨b, rfl⟩ := Int.eq_ofNat_of_zero_le h3
  obtain ⟨d, rfl⟩ := Int.eq_ofNat_of_zero_le h5
  rw [run_callFunc_extern (f := 196) (fn := Tryz.f196) (e := subE) (by kernel_rfl) (by kernel_rfl) (by kernel_rfl) (by kernel_rfl) find_sub]
  unfold subE
  rw [Sem.run_bind, three_at _ _ _ _ _ (by omega)]
  show Result.ok (Next.value (Value.tuple #[.int .u64 (((a + 18446744073709551616 - b - d) % 18446744073709551616 : Nat) : Int), .int .u64 ((if a < b + d then 1 else 0 : Nat) : Int)])) w = _
  have e1 : ((a : Int) - (b : Int) - (d : Int)) % 18446744073709551616 = (((a + 18446744073709551616 - b - d) % 18446744073709551616 : Nat) : Int) := by omega
  have e2 : -(((a : Int) - (b : Int) - (d : Int)) / 18446744073709551616) = ((if a < b + d then 1 else 0 : Nat) : Int) := by split <;> omega
  rw [e1, e2]

theorem u64_not_int (x : Int) (h0 : 0 ≤ x) (h1 : x < 18446744073709551616) : bits .xor .u64 18446744073709551615 x = 18446744073709551615 - x := by
  obtain ⟨b, rfl⟩ := Int.eq_ofNat_of_zero_le h0
  have hb : b < 18446744073709551616 := by omega
  have h1 := u64_xor_nat 18446744073709551615 b (by decide) hb
  rw [show ((18446744073709551615 : Nat) : Int) = 18446744073709551615 from rfl] at h1
  rw [h1, show (18446744073709551615 : Int) - (b : Int) = ((18446744073709551615 - b : Nat) : Int) by omega]
  congr 1
  apply Nat.eq_of_testBit_eq
  intro i
  have e : (18446744073709551615 - b) = 2 ^ 64 - (b + 1) := by omega
  rw [Nat.testBit_xor, e, Nat.testBit_two_pow_sub_succ (by omega), show 18446744073709551615 = 2 ^ 64 - 1 from rfl, Nat.testBit_two_pow_sub_one]
  by_cases hi : i < 64
  · simp [hi]
  · simp [hi]
    exact Nat.testBit_lt_two_pow (Nat.lt_of_lt_of_le hb (Nat.pow_le_pow_right (show 0 < 2 by decide) (show 64 ≤ i by omega)))
/-- words of 64 bits of a whole number, in two's complement without end -/
abbrev W64 : Int := 18446744073709551616
def dz (T : Int) (i : Nat) : Int := T / W64 ^ i % W64
theorem dz_lt (T : Int) (i : Nat) : dz T i < W64 := Int.emod_lt_of_pos _ (by decide)
theorem dz_ge (T : Int) (i : Nat) : 0 ≤ dz T i := Int.emod_nonneg _ (by decide)
theorem w64_pos (i : Nat) : 0 < W64 ^ i := Int.pow_pos (by decide)
theorem w64_succ (i : Nat) : W64 ^ (i + 1) = W64 ^ i * W64 := Int.pow_succ _ _
theorem mod_split (a : Int) (i : Nat) : a % W64 ^ (i + 1) = a % W64 ^ i + W64 ^ i * dz a i := by
  have hp := w64_pos i
  have h1 := Int.emod_add_mul_ediv a (W64 ^ i)
  have h2 := Int.emod_add_mul_ediv (a / W64 ^ i) W64
  have h3 := Int.emod_nonneg a (Int.ne_of_gt hp)
  have h4 := Int.emod_lt_of_pos a hp
  have h5 := dz_ge a i
  have h6 := dz_lt a i
  unfold dz at *
  rw [w64_succ]
  generalize W64 ^ i = P at *
  generalize a % P = r at *
  generalize a / P = q at *
  generalize q % W64 = s at *
  generalize q / W64 = u at *
  subst h2
  rw [← h1, Int.mul_add, ← Int.mul_assoc, ← Int.add_assoc, Int.add_mul_emod_self_left]
  apply Int.emod_eq_of_lt
  · have := Int.mul_nonneg (Int.le_of_lt hp) h5; omega
  · have : P * s ≤ P * (W64 - 1) := Int.mul_le_mul_of_nonneg_left (by omega) (Int.le_of_lt hp)
    rw [Int.mul_sub, Int.mul_one] at this
    omega
theorem div_succ (a : Int) (i : Nat) : a / W64 ^ (i + 1) = a / W64 ^ i / W64 := by
  rw [w64_succ, Int.ediv_ediv_of_nonneg (Int.le_of_lt (w64_pos i))]
/-- what is carried into the i-th word -/
def cz (a b c : Int) (i : Nat) : Int := (a % W64 ^ i + b % W64 ^ i + c) / W64 ^ i
theorem cz_zero (a b c : Int) : cz a b c 0 = c := by unfold cz; simp
theorem cz_succ (a b c : Int) (i : Nat) : cz a b c (i + 1) = (dz a i + dz b i + cz a b c i) / W64 := by
  unfold cz
  rw [mod_split, mod_split, div_succ]
  congr 1
  rw [show a % W64 ^ i + W64 ^ i * dz a i + (b % W64 ^ i + W64 ^ i * dz b i) + c = (a % W64 ^ i + b % W64 ^ i + c) + W64 ^ i * (dz a i + dz b i) by rw [Int.mul_add]; omega, Int.add_mul_ediv_left _ _ (Int.ne_of_gt (w64_pos i))]
  omega
theorem div_add (a b c : Int) (i : Nat) : (a + b + c) / W64 ^ i = a / W64 ^ i + b / W64 ^ i + cz a b c i := by
  have h1 := Int.emod_add_mul_ediv a (W64 ^ i)
  have h2 := Int.emod_add_mul_ediv b (W64 ^ i)
  unfold cz
  conv => lhs; rw [← h1, ← h2]
  rw [show a % W64 ^ i + W64 ^ i * (a / W64 ^ i) + (b % W64 ^ i + W64 ^ i * (b / W64 ^ i)) + c = (a % W64 ^ i + b % W64 ^ i + c) + W64 ^ i * (a / W64 ^ i + b / W64 ^ i) by rw [Int.mul_add]; omega, Int.add_mul_ediv_left _ _ (Int.ne_of_gt (w64_pos i))]
  omega
theorem dz_add (a b c : Int) (i : Nat) : dz (a + b + c) i = (dz a i + dz b i + cz a b c i) % W64 := by
  unfold dz
  rw [div_add]
  generalize a / W64 ^ i = x
  generalize b / W64 ^ i = y
  unfold W64
  omega
theorem cz_bd {a b c : Int} (h0 : 0 ≤ c) (h1 : c ≤ 1) (i : Nat) : 0 ≤ cz a b c i ∧ cz a b c i ≤ 1 := by
  unfold cz
  have hp := w64_pos i
  have h2 := Int.emod_lt_of_pos a hp
  have h3 := Int.emod_lt_of_pos b hp
  have h4 := Int.emod_nonneg a (Int.ne_of_gt hp)
  have h5 := Int.emod_nonneg b (Int.ne_of_gt hp)
  refine ⟨Int.ediv_nonneg (by omega) (by omega), ?_⟩
  have : (a % W64 ^ i + b % W64 ^ i + c) / W64 ^ i < 2 := Int.ediv_lt_of_lt_mul hp (by omega)
  omega
/-- what is lent from the i-th word -/
def bz (a b : Int) (i : Nat) : Int := -((a % W64 ^ i - b % W64 ^ i) / W64 ^ i)
theorem bz_succ (a b : Int) (i : Nat) : bz a b (i + 1) = -((dz a i - dz b i - bz a b i) / W64) := by
  unfold bz
  rw [mod_split, mod_split, div_succ]
  congr 2
  rw [show a % W64 ^ i + W64 ^ i * dz a i - (b % W64 ^ i + W64 ^ i * dz b i) = (a % W64 ^ i - b % W64 ^ i) + W64 ^ i * (dz a i - dz b i) by rw [Int.mul_sub]; omega, Int.add_mul_ediv_left _ _ (Int.ne_of_gt (w64_pos i))]
  omega
theorem dz_sub (a b : Int) (i : Nat) : dz (a - b) i = (dz a i - dz b i - bz a b i) % W64 := by
  have h1 := Int.emod_add_mul_ediv a (W64 ^ i)
  have h2 := Int.emod_add_mul_ediv b (W64 ^ i)
  have h3 : (a - b) / W64 ^ i = a / W64 ^ i - b / W64 ^ i - bz a b i := by
    unfold bz
    conv => lhs; rw [← h1, ← h2]
    rw [show a % W64 ^ i + W64 ^ i * (a / W64 ^ i) - (b % W64 ^ i + W64 ^ i * (b / W64 ^ i)) = (a % W64 ^ i - b % W64 ^ i) + W64 ^ i * (a / W64 ^ i - b / W64 ^ i) by rw [Int.mul_sub]; omega, Int.add_mul_ediv_left _ _ (Int.ne_of_gt (w64_pos i))]
    omega
  unfold dz
  rw [h3]
  generalize a / W64 ^ i = x
  generalize b / W64 ^ i = y
  unfold W64
  omega
theorem bz_bd (a b : Int) (i : Nat) : 0 ≤ bz a b i ∧ bz a b i ≤ 1 := by
  unfold bz
  have hp := w64_pos i
  have h2 := Int.emod_lt_of_pos a hp
  have h3 := Int.emod_lt_of_pos b hp
  have h4 := Int.emod_nonneg a (Int.ne_of_gt hp)
  have h5 := Int.emod_nonneg b (Int.ne_of_gt hp)
  have h6 : (a % W64 ^ i - b % W64 ^ i) / W64 ^ i < 1 := Int.ediv_lt_of_lt_mul hp (by omega)
  have h7 : -1 ≤ (a % W64 ^ i - b % W64 ^ i) / W64 ^ i := Int.le_ediv_of_mul_le hp (by omega)
  omega
/-- turned sign -/
theorem dz_not (a : Int) (i : Nat) : dz (-a - 1) i = W64 - 1 - dz a i := by
  have h1 := Int.emod_add_mul_ediv a (W64 ^ i)
  have hp := w64_pos i
  have h2 := Int.emod_lt_of_pos a hp
  have h4 := Int.emod_nonneg a (Int.ne_of_gt hp)
  have h3 : (-a - 1) / W64 ^ i = - (a / W64 ^ i) - 1 := by
    conv => lhs; rw [← h1]
    rw [show -(a % W64 ^ i + W64 ^ i * (a / W64 ^ i)) - 1 = (W64 ^ i - 1 - a % W64 ^ i) + W64 ^ i * (-(a / W64 ^ i) - 1) by rw [Int.mul_sub, Int.mul_neg]; omega, Int.add_mul_ediv_left _ _ (Int.ne_of_gt hp), Int.ediv_eq_zero_of_lt (by omega) (by omega)]
    omega
  unfold dz
  rw [h3]
  generalize a / W64 ^ i = x
  unfold W64
  omega
theorem dz_zero (i : Nat) : dz 0 i = 0 := by unfold dz; simp
end Go.Proofs.YteahdgbokjbgcaaGreatDoor
namespace Go.Proofs.YteahdgbokjbgcaaGreatDoor
open Go.RowKit
set_option linter.unusedVariables false
set_option linter.unusedSimpArgs false

/-- three words from a place on -/
def placed (V : Int) (p : Nat) : Int := V * W64 ^ p
theorem w64_add (i j : Nat) : W64 ^ (i + j) = W64 ^ i * W64 ^ j := Int.pow_add _ _ _
theorem placed_low (V : Int) {p i : Nat} (h : i ≤ p) : placed V p % W64 ^ i = 0 := by
  obtain ⟨j, rfl⟩ : ∃ j, p = i + j := ⟨p - i, by omega⟩
  unfold placed
  rw [w64_add, ← Int.mul_assoc, Int.mul_comm V, Int.mul_assoc]
  exact Int.mul_emod_right _ _
theorem placed_dz (V : Int) (p i : Nat) : dz (placed V p) (p + i) = dz V i := by
  unfold dz placed
  rw [w64_add, Int.mul_comm V, Int.mul_ediv_mul_of_pos _ _ (w64_pos p)]
theorem dz_high {V : Int} {n i : Nat} (h0 : 0 ≤ V) (h : V < W64 ^ n) (hi : n ≤ i) : dz V i = 0 := by
  obtain ⟨j, rfl⟩ : ∃ j, i = n + j := ⟨i - n, by omega⟩
  unfold dz
  rw [Int.ediv_eq_zero_of_lt h0 (by
    have h2 : (1 : Int) ≤ W64 ^ j := w64_pos j
    have h3 : W64 ^ n * 1 ≤ W64 ^ n * W64 ^ j := Int.mul_le_mul_of_nonneg_left h2 (Int.le_of_lt (w64_pos n))
    rw [w64_add]; omega)]
  rfl
theorem cz_low {a b : Int} {i : Nat} (h : b % W64 ^ i = 0) : cz a b 0 i = 0 := by
  unfold cz
  rw [h, Int.add_zero, Int.add_zero]
  have hp := w64_pos i
  exact Int.ediv_eq_zero_of_lt (Int.emod_nonneg a (Int.ne_of_gt hp)) (Int.emod_lt_of_pos a hp)
theorem bz_low {a b : Int} {i : Nat} (h : b % W64 ^ i = 0) : bz a b i = 0 := by
  unfold bz
  rw [h, Int.sub_zero]
  have hp := w64_pos i
  rw [Int.ediv_eq_zero_of_lt (Int.emod_nonneg a (Int.ne_of_gt hp)) (Int.emod_lt_of_pos a hp)]; rfl
theorem dz_low_add {a b : Int} {p i : Nat} (h : b % W64 ^ p = 0) (hi : i < p) : dz (a + b + 0) i = dz a i ∧ dz (a - b) i = dz a i := by
  have h1 : ∀ {j : Nat}, j ≤ p → b % W64 ^ j = 0 := by
    intro j hj
    obtain ⟨k, rfl⟩ : ∃ k, p = j + k := ⟨p - j, by omega⟩
    rw [w64_add] at h
    have h2 : W64 ^ j ∣ b := Int.dvd_trans (Int.dvd_mul_right _ _) (Int.dvd_of_emod_eq_zero h)
    exact Int.emod_eq_zero_of_dvd h2
  have hd : dz b i = 0 := by
    have h2 := mod_split b i
    rw [h1 (show i + 1 ≤ p by omega), h1 (show i ≤ p by omega)] at h2
    have h3 := w64_pos i
    have h4 : W64 ^ i * dz b i = 0 := by omega
    rcases Int.mul_eq_zero.1 h4 with h5 | h5
    · omega
    · exact h5
  have ha := dz_ge a i
  have hb := dz_lt a i
  rw [dz_add, dz_sub, cz_low (h1 (by omega)), bz_low (h1 (by omega)), hd]
  generalize dz a i = x at *
  unfold W64 at *
  omega
/-- nothing is carried any more -/
theorem cz_stays {a b : Int} {i : Nat} (hc : cz a b 0 i = 0) (hb : ∀ j, i ≤ j → dz b j = 0) : ∀ k, cz a b 0 (i + k) = 0
  | 0 => hc
  | k + 1 => by
    rw [← Nat.add_assoc, cz_succ, cz_stays hc hb k, hb _ (by omega)]
    have h1 := dz_ge a (i + k)
    have h2 := dz_lt a (i + k)
    exact Int.ediv_eq_zero_of_lt (by omega) (by omega)
theorem dz_stays_add {a b : Int} {i j : Nat} (hc : cz a b 0 i = 0) (hb : ∀ j, i ≤ j → dz b j = 0) (hj : i ≤ j) : dz (a + b + 0) j = dz a j := by
  obtain ⟨k, rfl⟩ : ∃ k, j = i + k := ⟨j - i, by omega⟩
  rw [dz_add, cz_stays hc hb k, hb _ (by omega), Int.add_zero, Int.add_zero]
  exact Int.emod_eq_of_lt (dz_ge _ _) (dz_lt _ _)
theorem bz_stays {a b : Int} {i : Nat} (hc : bz a b i = 0) (hb : ∀ j, i ≤ j → dz b j = 0) : ∀ k, bz a b (i + k) = 0
  | 0 => hc
  | k + 1 => by
    rw [← Nat.add_assoc, bz_succ, bz_stays hc hb k, hb _ (by omega)]
    have h1 := dz_ge a (i + k)
    have h2 := dz_lt a (i + k)
    rw [Int.ediv_eq_zero_of_lt (by omega) (by omega)]; rfl
theorem dz_stays_sub {a b : Int} {i j : Nat} (hc : bz a b i = 0) (hb : ∀ j, i ≤ j → dz b j = 0) (hj : i ≤ j) : dz (a - b) j = dz a j := by
  obtain ⟨k, rfl⟩ : ∃ k, j = i + k := ⟨j - i, by omega⟩
  rw [dz_sub, bz_stays hc hb k, hb _ (by omega), Int.sub_zero, Int.sub_zero]
  exact Int.emod_eq_of_lt (dz_ge _ _) (dz_lt _ _)

/-- all words up to one are nought -/
theorem dz_all_zero {T : Int} {n : Nat} : (∀ i, i < n → dz T i = 0) ↔ T % W64 ^ n = 0 := by
  induction n with
  | zero => simp
  | succ n ih =>
    rw [mod_split]
    have hp := w64_pos n
    have h1 := Int.emod_nonneg T (Int.ne_of_gt hp)
    have h2 := Int.mul_nonneg (Int.le_of_lt hp) (dz_ge T n)
    constructor
    · intro h
      rw [h n (by omega), Int.mul_zero, Int.add_zero]
      exact ih.1 fun i hi => h i (by omega)
    · intro h
      have h3 : T % W64 ^ n = 0 := by omega
      have h4 : W64 ^ n * dz T n = 0 := by omega
      have h5 := ih.2 h3
      intro i hi
      rcases Nat.lt_or_eq_of_le (Nat.le_of_lt_succ hi) with h6 | rfl
      · exact h5 i h6
      · rcases Int.mul_eq_zero.1 h4 with h7 | h7
        · omega
        · exact h7

/-- a block that begins with the 67 words of an accumulator -/
def rowOf (f : Nat → Int) : List Value := (List.range 67).map fun j => Value.int .u64 (f j)
theorem rowOf_len (f : Nat → Int) : (rowOf f).length = 67 := by unfold rowOf; simp
theorem rowOf_get (f : Nat → Int) {j : Nat} (h : j < 67) : (rowOf f)[j]? = some (.int .u64 (f j)) := by
  unfold rowOf; rw [List.getElem?_map, List.getElem?_range h]; rfl
theorem rowOf_congr {f g : Nat → Int} (h : ∀ j, j < 67 → f j = g j) : rowOf f = rowOf g := by
  unfold rowOf
  apply List.map_congr_left
  intro j hj
  rw [h j (by simpa using hj)]
theorem rowOf_set (f : Nat → Int) {j : Nat} (v : Int) (h : j < 67) : (rowOf f).set j (.int .u64 v) = rowOf (fun k => if k = j then v else f k) := by
  apply List.ext_getElem?
  intro i
  rw [List.getElem?_set]
  by_cases h1 : j = i
  · subst h1
    rw [if_pos rfl, rowOf_len, if_pos h, rowOf_get _ h, if_pos rfl]
  · rw [if_neg h1]
    by_cases h2 : i < 67
    · rw [rowOf_get _ h2, rowOf_get _ h2, if_neg (fun e => h1 e.symm)]
    · rw [List.getElem?_eq_none (by rw [rowOf_len]; omega), List.getElem?_eq_none (by rw [rowOf_len]; omega)]
def Tot (w : World) (g : Nat) (t : TypeId) (f : Nat → Int) (rest : List Value) : Prop := w.heap[g]? = some (.cells (rowOf f ++ rest).toArray t (0, 0))
section
variable {w w' : World} {g : Nat} {t : TypeId} {f : Nat → Int} {rest : List Value}
theorem Tot.lt (h : Tot w g t f rest) : g < w.heap.size := (Array.getElem?_eq_some_iff.1 h).1
theorem Tot.cell (h : Tot w g t f rest) {j : Nat} (hj : j < 67) : w.cell? ⟨g, j, none⟩ = some (.int .u64 (f j)) := by
  rw [cell_of_row w g j _ t (0, 0) h, List.getElem?_toArray, List.getElem?_append_left (by rw [rowOf_len]; omega), rowOf_get _ hj]
theorem Tot.tail (h : Tot w g t f rest) (j : Nat) : w.cell? ⟨g, 67 + j, none⟩ = rest[j]? := by
  rw [cell_of_row w g _ _ t (0, 0) h, List.getElem?_toArray, List.getElem?_append_right (by rw [rowOf_len]; omega), rowOf_len, Nat.add_sub_cancel_left]
theorem Tot.frozen (h : Tot w g t f rest) (j : Nat) : w.frozen? ⟨g, j, none⟩ = false := frozen_of_row w g j _ t h
theorem Tot.set (h : Tot w g t f rest) {j : Nat} (hj : j < 67) (v : Int) : Tot (w.setCell ⟨g, j, none⟩ (.int .u64 v)) g t (fun k => if k = j then v else f k) rest := by
  unfold Tot
  rw [heap_setCell_same w g j _ t _ h, List.setIfInBounds_toArray, List.set_append_left _ _ (by rw [rowOf_len]; omega), rowOf_set _ _ hj]
theorem Tot.setTail (h : Tot w g t f rest) (j : Nat) (v : Value) : Tot (w.setCell ⟨g, 67 + j, none⟩ v) g t f (rest.set j v) := by
  unfold Tot
  rw [heap_setCell_same w g _ _ t _ h, List.setIfInBounds_toArray, List.set_append_right _ _ (by rw [rowOf_len]; omega), rowOf_len, Nat.add_sub_cancel_left]
theorem Tot.other (h : Tot w g t f rest) {a : Addr} (ha : a.block ≠ g) (v : Value) : Tot (w.setCell a v) g t f rest := by
  unfold Tot; rw [heap_setCell_other _ _ _ _ (fun e => ha e.symm)]; exact h
theorem Tot.below {B : Nat} (h : Tot w g t f rest) (hb : Below B w w') (hg : g < B) : Tot w' g t f rest := by
  unfold Tot; rw [hb.block _ hg]; exact h
theorem Tot.alloc (h : Tot w g t f rest) (o : Obj) : Tot (w.alloc o) g t f rest := h.below ((Below.refl w.heap.size w).alloc (Nat.le_refl _) o) h.lt
theorem Tot.drew (h : Tot w g t f rest) : Tot w.drew g t f rest := h
theorem Tot.congr (h : Tot w g t f rest) {f' : Nat → Int} (e : ∀ j, j < 67 → f j = f' j) : Tot w g t f' rest := by
  unfold Tot; rw [← rowOf_congr e]; exact h
theorem Tot.grown (h : Tot w g t f rest) {r : Nat} (hk : w.grownBy w' (some r)) (hne : g ≠ r) : Tot w' g t f rest := (hk.block g h.lt (by simpa using hne)).trans h
end
end Go.Proofs.YteahdgbokjbgcaaGreatDoor
namespace Go.Proofs.YteahdgbokjbgcaaGreatDoor
open Go.RowKit
set_option linter.unusedVariables false
set_option linter.unusedSimpArgs false

/-- it fits into 67 words -/
def Fits (T : Int) : Prop := -9223372036854775808 ≤ T / W64 ^ 66 ∧ T / W64 ^ 66 < 9223372036854775808
theorem div_neg (T : Int) : T / W64 ^ 66 < 0 ↔ T < 0 := by
  have hp := w64_pos 66
  generalize W64 ^ 66 = P at *
  constructor
  · intro h
    rcases Int.lt_or_le T 0 with h1 | h1
    · exact h1
    · have := Int.ediv_nonneg h1 (Int.le_of_lt hp); omega
  · intro h; exact Int.ediv_neg_of_neg_of_pos h hp
theorem fits_neg {T : Int} (h : Fits T) : dz T 66 / 9223372036854775808 = if T < 0 then 1 else 0 := by
  have h1 := div_neg T
  obtain ⟨h2, h3⟩ := h
  unfold dz
  generalize T / W64 ^ 66 = q at *
  unfold W64
  split <;> omega
/-- the highest word as a number with a sign -/
theorem fits_high {T : Int} (h : Fits T) : (if dz T 66 < 9223372036854775808 then dz T 66 else dz T 66 - 18446744073709551616) = T / W64 ^ 66 := by
  obtain ⟨h2, h3⟩ := h
  unfold dz
  generalize T / W64 ^ 66 = q at *
  unfold W64
  split <;> omega
/-- is it too great? -/
def Gt (T : Int) : Prop := W64 ^ 66 * 16384 ≤ T ∨ T ≤ -(W64 ^ 66 * 16384)
theorem gt_iff (T : Int) : Gt T ↔ (T / W64 ^ 66 / 16384 ≠ -1 ∧ T / W64 ^ 66 / 16384 ≠ 0) ∨ (T / W64 ^ 66 / 16384 = -1 ∧ T / W64 ^ 66 % 16384 = 0 ∧ T % W64 ^ 66 = 0) := by
  have hp := w64_pos 66
  have h1 := Int.emod_add_mul_ediv T (W64 ^ 66)
  have h2 := Int.emod_nonneg T (Int.ne_of_gt hp)
  have h3 := Int.emod_lt_of_pos T hp
  unfold Gt
  generalize W64 ^ 66 = P at *
  generalize T % P = r at *
  generalize T / P = q at *
  subst h1
  have key : ∀ a b : Int, a ≤ b → P * a ≤ P * b := fun a b h => Int.mul_le_mul_of_nonneg_left h (Int.le_of_lt hp)
  constructor
  · rintro (h | h)
    · left
      rcases Int.lt_or_le q 16384 with h4 | h4
      · have := key (q + 1) 16384 (by omega)
        rw [Int.mul_add, Int.mul_one] at this
        omega
      · omega
    · rcases Int.lt_or_le q (-16384) with h4 | h4
      · left; omega
      · have h5 := key (-16384) q h4
        rw [Int.mul_neg] at h5
        right
        have h6 : q = -16384 := by
          rcases Int.lt_or_le (-16384) q with h7 | h7
          · have := key (-16384 + 1) q (by omega)
            rw [Int.mul_add, Int.mul_neg, Int.mul_one] at this
            omega
          · omega
        subst h6
        rw [Int.mul_neg] at h
        omega
  · rintro (⟨h4, h5⟩ | ⟨h4, h5, h6⟩)
    · rcases Int.lt_or_le q 0 with h7 | h7
      · right
        have := key (q + 1) (-16384) (by omega)
        rw [Int.mul_add, Int.mul_neg, Int.mul_one] at this
        omega
      · left
        have := key 16384 q (by omega)
        omega
    · right
      obtain rfl : q = -16384 := by omega
      rw [Int.mul_neg]; omega
theorem fits_of_not_gt {T : Int} (h : ¬ Gt T) : Fits T := by
  rw [gt_iff] at h
  unfold Fits
  generalize T / W64 ^ 66 = q at *
  omega
/-- twice what is not too great still fits -/
theorem fits_sum {T U : Int} (h : ¬ Gt T) (k : ¬ Gt U) : Fits (T + U) ∧ Fits (T - U) := by
  have hp := w64_pos 66
  unfold Gt at h k
  have h1 : -(W64 ^ 66 * 16384) < T ∧ T < W64 ^ 66 * 16384 := by omega
  have h2 : -(W64 ^ 66 * 16384) < U ∧ U < W64 ^ 66 * 16384 := by omega
  have key : ∀ V : Int, -(W64 ^ 66 * 32768) ≤ V → V < W64 ^ 66 * 32768 → Fits V := by
    intro V a b
    unfold Fits
    generalize W64 ^ 66 = P at *
    have a' : -32768 ≤ V / P := Int.le_ediv_of_mul_le hp (by rw [Int.neg_mul, Int.mul_comm]; exact a)
    have b' : V / P < 32768 := Int.ediv_lt_of_lt_mul hp (by rw [Int.mul_comm]; exact b)
    omega
  generalize W64 ^ 66 = P at *
  exact ⟨key _ (by omega) (by omega), key _ (by omega) (by omega)⟩
/-- its words by halves -/
def halves (T : Int) : Nat → List Nat
  | 0 => []
  | k + 1 => halves T k ++ [(dz T k % 4294967296).toNat, (dz T k / 4294967296).toNat]
theorem halves_len (T : Int) (k : Nat) : (halves T k).length = 2 * k := by
  induction k with
  | zero => rfl
  | succ k ih => unfold halves; rw [List.length_append, ih]; simp; omega
theorem halves_w32 (T : Int) (k : Nat) : W32 (halves T k) := by
  induction k with
  | zero => intro x hx; cases hx
  | succ k ih =>
    have h1 := dz_ge T k
    have h2 := dz_lt T k
    unfold W64 at h2
    intro x hx
    unfold halves at hx
    rcases List.mem_append.1 hx with h | h
    · exact ih x h
    · simp only [List.mem_cons, List.not_mem_nil, or_false] at h
      rcases h with rfl | rfl <;> omega
theorem num_halves (T : Int) (k : Nat) : (num (halves T k) : Int) = T % W64 ^ k := by
  induction k with
  | zero => simp [halves, num]
  | succ k ih =>
    unfold halves
    rw [num_append, halves_len, mod_split, ← ih]
    have h1 := dz_ge T k
    have h2 := dz_lt T k
    unfold W64 at h2
    have e : (4294967296 : Nat) ^ (2 * k) = 18446744073709551616 ^ k := by rw [Nat.pow_mul]
    rw [e]
    unfold num
    unfold num
    unfold num
    have e2 : ((18446744073709551616 ^ k : Nat) : Int) = W64 ^ k := by rw [Int.natCast_pow]; rfl
    rw [Int.natCast_add, Int.natCast_mul, e2]
    congr 2
    omega
theorem num_halves_all {T : Int} (h0 : 0 ≤ T) (h : Fits T) : num (halves T 67) = T.toNat := by
  have h1 := num_halves T 67
  have h2 : T % W64 ^ 67 = T := by
    apply Int.emod_eq_of_lt h0
    have hp := w64_pos 66
    have h3 := Int.emod_add_mul_ediv T (W64 ^ 66)
    have h4 := Int.emod_lt_of_pos T hp
    obtain ⟨_, h5⟩ := h
    rw [w64_succ]
    generalize W64 ^ 66 = P at *
    generalize T / P = q at *
    have h6 : P * (q + 1) ≤ P * W64 := Int.mul_le_mul_of_nonneg_left (by unfold W64; omega) (Int.le_of_lt hp)
    rw [Int.mul_add, Int.mul_one] at h6
    omega
  rw [h2] at h1
  omega
end Go.Proofs.YteahdgbokjbgcaaGreatDoor
