/- Contracts of steelyardref03's Of64, Of32, Size.Bits, Of. Contracts of bits.long, parts, Split and of dyad.Of. Contracts of bits.Split and of dyad.Of. Contract of dyad.Of. No statement of the seat is proved here. -/
import Derived.Test.YteahdgbokjbgcaaGreatDoorProg
import Derived.Test.YteahdgbokjbgcaaGreatDoorYME
import Derived.Laws.Externs
namespace Go.Proofs.YteahdgbokjbgcaaGreatDoor
open Go.RowKit
set_option linter.unusedVariables false
set_option linter.unusedSimpArgs false

theorem ext_bits64 (b : Nat) (w : World) : (callFunc 133 #[.float .f64 b]).run Tryz.prog w = .ok (.value (.int .u64 b)) w := by
  rw [run_callFunc_extern (f := 133) (fn := Tryz.f133) (e := Extern.MathFloatBits.float64bits) (by kernel_rfl) (by kernel_rfl) (by kernel_rfl) (by kernel_rfl) (by kernel_rfl)]
  rfl
theorem ext_from64 (b : Nat) (w : World) : (callFunc 37 #[.int .u64 b]).run Tryz.prog w = .ok (.value (.float .f64 b)) w := by
  rw [run_callFunc_extern (f := 37) (fn := Tryz.f37) (e := Extern.MathFloatBits.float64frombits) (by kernel_rfl) (by kernel_rfl) (by kernel_rfl) (by kernel_rfl) (by kernel_rfl)]
  rfl
theorem ext_bits32 (b : Nat) (w : World) : (callFunc 112 #[.float .f32 b]).run Tryz.prog w = .ok (.value (.int .u32 b)) w := by
  rw [run_callFunc_extern (f := 112) (fn := Tryz.f112) (e := Extern.MathFloatBits.float32bits) (by kernel_rfl) (by kernel_rfl) (by kernel_rfl) (by kernel_rfl) (by kernel_rfl)]
  rfl
theorem ext_from32 (b : Nat) (w : World) : (callFunc 223 #[.int .u32 b]).run Tryz.prog w = .ok (.value (.float .f32 b)) w := by
  rw [run_callFunc_extern (f := 223) (fn := Tryz.f223) (e := Extern.MathFloatBits.float32frombits) (by kernel_rfl) (by kernel_rfl) (by kernel_rfl) (by kernel_rfl) (by kernel_rfl)]
  rfl

set_option maxRecDepth 10000 in
set_option maxHeartbeats 1000000 in
theorem of64_any (w : World) :
    Calls Tryz.prog 180 #[] w fun en w' => en = .returned (.agg #[.int .i64 53, .int .i64 (-1074), .int .u64 9218868437227405312]) ∧ Below w.heap.size w w' := by
  go_enter Tryz.func180, Tryz.ntmps180
  go_wp2
  have k := cells3 (heap_alloc_new w (.cells #[.int .i64 53, .int .i64 (-1074), .int .u64 9218868437227405312] 179))
  obtain ⟨c0, cc1, cc2, _, _, _⟩ := k
  refine bodyPost_ret (v := .agg #[.int .i64 53, .int .i64 (-1074), .int .u64 9218868437227405312]) (by simp [results, Tryz.results180, go_sem, c0, cc1, cc2]) rfl ?_
  exact ⟨rfl, (Below.refl _ _).alloc (Nat.le_refl _) _⟩

set_option maxRecDepth 10000 in
set_option maxHeartbeats 1000000 in
theorem of32_any (w : World) :
    Calls Tryz.prog 281 #[] w fun en w' => en = .returned (.agg #[.int .i64 24, .int .i64 (-149), .int .u64 2139095040]) ∧ Below w.heap.size w w' := by
  go_enter Tryz.func281, Tryz.ntmps281
  go_wp2
  have k := cells3 (heap_alloc_new w (.cells #[.int .i64 24, .int .i64 (-149), .int .u64 2139095040] 179))
  obtain ⟨c0, cc1, cc2, _, _, _⟩ := k
  refine bodyPost_ret (v := .agg #[.int .i64 24, .int .i64 (-149), .int .u64 2139095040]) (by simp [results, Tryz.results281, go_sem, c0, cc1, cc2]) rfl ?_
  exact ⟨rfl, (Below.refl _ _).alloc (Nat.le_refl _) _⟩

/-- the value of a number's bits -/
def bitsF (h : Nat) (L : Int) (E : Nat) (s : Bool) (k : Nat) : Option D := if E ≤ k then none else formF s (numM h k) (L + numE h k)

set_option maxRecDepth 10000 in
set_option maxHeartbeats 2000000 in
theorem bits_any (h k : Nat) (L : Int) (E : Nat) (s : Bool) (w : World) (hh : h ≤ 52) (hk : k < 18446744073709551616) (hh2 : 1 ≤ h) (hL1 : -2000 ≤ L) (hL2 : L ≤ 2000) (hE : E ≤ 1000000 * 2 ^ h) (hE2 : E < 18446744073709551616) :
    Calls Tryz.prog 181 #[.agg #[.int .i64 (h + 1 : Nat), .int .i64 L, .int .u64 E], .bool s, .int .u64 k] w fun en w' => CameB w w' (bitsF h L E s k) en := by
  have hN := fun W (hlt : k < E) => number_any h k L E W hh hk hh2 hL1 hL2 (by
    have : k / 2 ^ h < 1000000 := Nat.div_lt_of_lt_mul (by rw [Nat.mul_comm]; omega)
    omega)
  have hml : (words (numM h k)).length ≤ 2 := by
    refine words_len_le ?_
    have hp := Nat.two_pow_pos h
    have hp52 : 2 ^ h ≤ 4503599627370496 := by have := Nat.pow_le_pow_right (show 0 < 2 by decide) hh; simpa using this
    unfold numM; have := Nat.mod_lt k hp; split <;> omega
  have hne : numE h k ≤ k := by unfold numE; have := Nat.div_le_self k (2 ^ h); omega
  have hne2 : k < E → numE h k ≤ 1000000 := fun hlt => by
    have : k / 2 ^ h < 1000000 := Nat.div_lt_of_lt_mul (by rw [Nat.mul_comm]; omega)
    unfold numE; omega
  have hF := fun W a c base (hlt : k < E) (ho : Own W 118 base a c (words (numM h k))) => rform_any s a c (words (numM h k)) (L + numE h k) W (by omega) (ho.sl (W32_words _)) (by omega) (by have := hne2 hlt; omega)
  rw [num_words] at hF
  obtain ⟨o, ho⟩ : ∃ o, o = bitsF h L E s k := ⟨_, rfl⟩
  rw [← ho]
  unfold bitsF at ho
  have hF2 : ∀ W a c base, k < E → Own W 118 base a c (words (numM h k)) → Calls Tryz.prog 125 #[.bool s, .slice a (words (numM h k)).length c, .int .i64 (L + numE h k)] W fun en w' => CameB W w' o en := by
    intro W a c base hlt hw
    rw [ho, if_neg (by omega)]
    exact hF W a c base hlt hw
  have hnone : E ≤ k → o = none := fun hle => by rw [ho, if_pos hle]
  generalize numM h k = M at *
  generalize numE h k = Z at *
  have hN2 : ∀ W, k < E → Calls Tryz.prog 258 #[.agg #[.int .i64 ((h : Int) + 1), .int .i64 L, .int .u64 E], .int .u64 k] W fun en w' => ∃ a c, en = .returned (.tuple #[.slice a (words M).length c, .int .i64 (L + Z)]) ∧ Own w' 118 W.heap.size a c (words M) ∧ Below W.heap.size W w' := hN
  have HN := Lib.hid hN2; clear hN2; have HF := Lib.hid hF2; have HNONE := Lib.hid hnone; clear hN hF hF2 hnone ho hne hne2
  go_enter Tryz.func181, Tryz.ntmps181
  by_cases hle : E ≤ k
  · go_wp2_with fail
    have hb1 := ((Below.refl w.heap.size w).alloc (Nat.le_refl _) (.cells #[.int .i64 ((h : Int) + 1), .int .i64 L, .int .u64 (E : Int)] 179)).alloc (by rw [World.size_alloc]; omega) (.cells #[.bool false, .slice none 0 0, .int .i64 0] 46)
    have k2 := Cel.new (w.alloc (.cells #[.int .i64 ((h : Int) + 1), .int .i64 L, .int .u64 (E : Int)] 179)) (.bool false) (.slice none 0 0) (.int .i64 0)
    rw [World.size_alloc] at k2
    obtain ⟨c0, cc1, cc2, _, _, _⟩ := k2.facts
    refine bodyPost_ret (v := .tuple #[dyV D.zero none 0, .bool false]) (by simp [results, Tryz.results181, go_sem, dyV, D.zero, words_zero, c0, cc1, cc2]) rfl ?_
    rw [HNONE.out hle]
    exact ⟨dyV D.zero none 0, rfl, ⟨none, 0, rfl, by rw [show (outO none).m = 0 from rfl, words_zero]; exact Own.none _ _ _⟩, hb1⟩
  · have hlt : k < E := by omega
    go_wp2_with fail
    obtain ⟨w1, h1⟩ : ∃ W, W = w.alloc (.cells #[.int .i64 ((h : Int) + 1), .int .i64 L, .int .u64 (E : Int)] 179) := ⟨_, rfl⟩
    rw [← h1]
    obtain ⟨k1, hB, s1⟩ := new_of h1 rfl
    clear h1
    (obtain ⟨w2, h2⟩ : ∃ W, W = (w1.alloc (.cells #[.bool false, .slice none 0 0, .int .i64 0] 46)) := ⟨_, rfl⟩; have pinEq := h2; (try simp only [wr3] at pinEq); rw [← pinEq]; clear pinEq)
    obtain ⟨k2, b2, s2⟩ := new_cel h2 s1
    replace hB := below_call b2 hB (by omega)
    clear h2 b2 k1
    refine (HN.out w2 hlt).mono ?_; rintro en w3 ⟨a1, c1, rfl, ho1, hb⟩
    (replace k2 := cel_call hb k2 (by omega); replace hB := below_call hb hB (by omega))
    have s3 := hb.size
    clear hb; obtain ⟨q102x0x0, q102x0x1, q102x0x2, q102x0x3, q102x0x4, q102x0x5⟩ := Cel.facts k2
    go_wp2_with fail
    refine (HF.out w3 _ _ _ hlt ho1).mono ?_; rintro en w4 ⟨v, rfl, ⟨a3, c3, rfl, ho3⟩, hb⟩
    (replace ho1 := own_call hb ho1; replace k2 := cel_call hb k2 (by omega); replace hB := below_call hb hB (by omega))
    have s4 := hb.size
    clear hb; (clear q102x0x0 q102x0x1 q102x0x2 q102x0x3 q102x0x4 q102x0x5; obtain ⟨q107x0x0, q107x0x1, q107x0x2, q107x0x3, q107x0x4, q107x0x5⟩ := Cel.facts k2)
    simp only [dyV]
    go_wp2
    obtain ⟨c0, cc1, cc2, _, _, _⟩ := k2.facts
    refine bodyPost_ret (v := .tuple #[dyV (outO o) a3 c3, .bool o.isSome]) (by simp [results, Tryz.results181, go_sem, dyV, c0, cc1, cc2]) rfl ?_
    exact ⟨_, rfl, ⟨a3, c3, rfl, (own_wr3 (g := w.heap.size + 1) ho3 (by omega)).mono (by omega)⟩, below_wr3 (g := w.heap.size + 1) hB (by omega)⟩

/-- the value of 64 bits, if it is a finite number's -/
def ofF (b : Nat) : Option D := bitsF 52 (-1074) 9218868437227405312 (decide (9223372036854775808 ≤ b)) (b % 9223372036854775808)
def errOf (o : Option D) : Int := if o.isNone then 30 else 0
def CameOf (w w' : World) (o : Option D) (e : Ending) : Prop := ∃ v, e = .returned (.tuple #[v, .int .i64 (errOf o)]) ∧ DOwn w' w.heap.size (outO o) v ∧ Below w.heap.size w w'

set_option maxRecDepth 10000 in
set_option maxHeartbeats 2000000 in
theorem rofd_any (b : Nat) (w : World) (hb : b < 18446744073709551616) :
    Calls Tryz.prog 69 #[.float .f64 b] w fun en w' => CameOf w w' (ofF b) en := by
  have hx := ext_bits64 b
  have hBt : ∀ W, Calls Tryz.prog 181 #[.agg #[.int .i64 53, .int .i64 (-1074), .int .u64 9218868437227405312], .bool ((b : Int) / 9223372036854775808 == 1), .int .u64 (IntKind.u64.wrap ((b : Int) * 2) / 2)] W fun en w' => CameB W w' (ofF b) en := by
    intro W
    have h1 : ((b : Int) / 9223372036854775808 == 1) = decide (9223372036854775808 ≤ b) := by
      by_cases h : 9223372036854775808 ≤ b
      · have : (b : Int) / 9223372036854775808 = 1 := by omega
        simp [h, this]
      · have : (b : Int) / 9223372036854775808 = 0 := by omega
        simp [h, this]
    have h2 : IntKind.u64.wrap ((b : Int) * 2) / 2 = ((b % 9223372036854775808 : Nat) : Int) := by rw [IntKind.wrap_u64]; omega
    rw [h1, h2]
    exact bits_any 52 (b % 9223372036854775808) (-1074) 9218868437227405312 (decide (9223372036854775808 ≤ b)) W (by decide) (by omega) (by decide) (by decide) (by decide) (by decide) (by decide)
  generalize ofF b = o at *
  have HBt := Lib.hid hBt; clear hBt
  go_enter Tryz.func69, Tryz.ntmps69
  go_wp2_with fail
  (obtain ⟨w1, h1⟩ : ∃ W, W = (w.alloc (.cells #[.bool false, .slice none 0 0, .int .i64 0] 46)) := ⟨_, rfl⟩; have pinEq := h1; (try simp only [wr3] at pinEq); rw [← pinEq]; clear pinEq)
  obtain ⟨k1, hB, s1⟩ := new_cel h1 rfl
  clear h1
  refine (of64_any w1).mono ?_; rintro en w2 ⟨rfl, hb2⟩
  (replace k1 := cel_call hb2 k1 (by omega); replace hB := below_call hb2 hB (by omega))
  have s2 := hb2.size
  clear hb2; obtain ⟨q145x0x0, q145x0x1, q145x0x2, q145x0x3, q145x0x4, q145x0x5⟩ := Cel.facts k1
  go_wp2_with fail
  refine (HBt.out w2).mono ?_; rintro en w3 ⟨v, rfl, ⟨a1, c1, rfl, ho⟩, hb⟩
  (replace k1 := cel_call hb k1 (by omega); replace hB := below_call hb hB (by omega))
  have s3 := hb.size
  clear hb
  simp only [dyV]
  have hcN := Cel.new w3 (.bool (outO o).neg) (.slice a1 (words (outO o).m).length c1) (.int .i64 (outO o).exp)
  have hcA := k1.alloc (.cells #[.bool (outO o).neg, .slice a1 (words (outO o).m).length c1, .int .i64 (outO o).exp] 46)
  obtain ⟨c0, cc1, c2, z0, z1, z2⟩ := hcA.facts
  obtain ⟨d0, d1, d2, y0, y1, y2⟩ := hcN.facts
  have hb2 := hB.alloc hB.size (.cells #[.bool (outO o).neg, .slice a1 (words (outO o).m).length c1, .int .i64 (outO o).exp] 46)
  have ho2 := ho.grow ((Below.refl _ _).alloc (Nat.le_refl _) (.cells #[.bool (outO o).neg, .slice a1 (words (outO o).m).length c1, .int .i64 (outO o).exp] 46))
  have HB2 := Lib.hid hb2; have HO2 := Lib.hid ho2; clear hb2 ho2 hcN hcA
  cases o with
  | none =>
    simp only [Option.isSome]
    go_wp2
    refine bodyPost_ret (v := .tuple #[dyV D.zero none 0, .int .i64 30]) (by simp [results, Tryz.results69, go_sem, dyV, D.zero, words_zero, c0, cc1, c2]) rfl ?_
    refine ⟨_, rfl, ⟨none, 0, rfl, ?_⟩, below_wr3 (g := w.heap.size) HB2.out (Nat.le_refl _)⟩
    rw [show (outO none).m = 0 from rfl, words_zero]; exact Own.none _ _ _
  | some d =>
    simp only [Option.isSome]
    go_wp2
    refine bodyPost_ret (v := .tuple #[dyV (outO (some d)) a1 c1, .int .i64 0]) (by simp [results, Tryz.results69, go_sem, dyV, c0, cc1, c2]) rfl ?_
    exact ⟨_, rfl, ⟨a1, c1, rfl, (own_wr3 HO2.out (by omega)).mono (by omega)⟩, below_wr3 HB2.out (Nat.le_refl _)⟩
end Go.Proofs.YteahdgbokjbgcaaGreatDoor
namespace Go.Proofs.YteahdgbokjbgcaaGreatDoor
open Go.RowKit
set_option linter.unusedVariables false
set_option linter.unusedSimpArgs false

theorem ofInt64_nat (a : Nat) (ha : a < 18446744073709551616) : (BitVec.ofInt 64 (a : Int)).toNat = a := by
  rw [BitVec.ofInt_natCast, BitVec.toNat_ofNat]; exact Nat.mod_eq_of_lt (by omega)
theorem bits_and_u64_nat (a b : Nat) (ha : a < 18446744073709551616) (hb : b < 18446744073709551616) : bits .and .u64 (a : Int) (b : Int) = ((a &&& b : Nat) : Int) := by
  have hx : a &&& b < 2 ^ 64 := Nat.and_lt_two_pow _ (by omega)
  show IntKind.u64.wrap ((BitVec.ofInt 64 (a : Int) &&& BitVec.ofInt 64 (b : Int)).toNat : Int) = _
  rw [BitVec.toNat_and, ofInt64_nat a ha, ofInt64_nat b hb, wrap_u64_nat _ (by omega)]
theorem bits_and_i64_nat (a b : Nat) (ha : a < 9223372036854775808) (hb : b < 9223372036854775808) : bits .and .i64 (a : Int) (b : Int) = ((a &&& b : Nat) : Int) := by
  have hx : a &&& b < 2 ^ 63 := Nat.and_lt_two_pow _ (by omega)
  show IntKind.i64.wrap ((BitVec.ofInt 64 (a : Int) &&& BitVec.ofInt 64 (b : Int)).toNat : Int) = _
  rw [BitVec.toNat_and, ofInt64_nat a (by omega), ofInt64_nat b (by omega), IntKind.wrap_i64]; omega

set_option maxRecDepth 10000 in
set_option maxHeartbeats 1000000 in
theorem long_any (w : World) :
    Calls Tryz.prog 263 #[] w fun en w' => en = .returned (.agg #[.int .i64 11, .int .i64 52, .int .i64 (-1074)]) ∧ Below w.heap.size w w' := by
  go_enter Tryz.func263, Tryz.ntmps263
  go_wp2
  have k := cells3 (heap_alloc_new w (.cells #[.int .i64 11, .int .i64 52, .int .i64 (-1074)] 261))
  obtain ⟨c0, cc1, cc2, _, _, _⟩ := k
  refine bodyPost_ret (v := .agg #[.int .i64 11, .int .i64 52, .int .i64 (-1074)]) (by simp [results, Tryz.results263, go_sem, c0, cc1, cc2]) rfl ?_
  exact ⟨rfl, (Below.refl _ _).alloc (Nat.le_refl _) _⟩

theorem cells4 {w : World} {g : Nat} {v0 v1 v2 v3 : Value} {T : TypeId} (h : w.heap[g]? = some (.cells #[v0, v1, v2, v3] T (0, 0))) :
    (w.cell? ⟨g, 0, none⟩ = some v0 ∧ w.cell? ⟨g, 1, none⟩ = some v1 ∧ w.cell? ⟨g, 2, none⟩ = some v2 ∧ w.cell? ⟨g, 3, none⟩ = some v3) ∧ w.frozen? ⟨g, 0, none⟩ = false ∧ w.frozen? ⟨g, 1, none⟩ = false ∧ w.frozen? ⟨g, 2, none⟩ = false ∧ w.frozen? ⟨g, 3, none⟩ = false :=
  ⟨⟨by rw [cell_of_row w g 0 _ _ _ h]; rfl, by rw [cell_of_row w g 1 _ _ _ h]; rfl, by rw [cell_of_row w g 2 _ _ _ h]; rfl, by rw [cell_of_row w g 3 _ _ _ h]; rfl⟩, frozen_of_row w g 0 _ _ h, frozen_of_row w g 1 _ _ h, frozen_of_row w g 2 _ _ h, frozen_of_row w g 3 _ _ h⟩
def partsV (b : Nat) : Value :=
  if b / 4503599627370496 % 2048 = 2047 then (if b % 4503599627370496 ≠ 0 then .agg #[.bool false, .int .i64 4, .int .i64 0, .int .u64 0] else .agg #[.bool (b / 9223372036854775808 % 2 == 1), .int .i64 3, .int .i64 0, .int .u64 0])
  else if 0 < b / 4503599627370496 % 2048 then .agg #[.bool (b / 9223372036854775808 % 2 == 1), .int .i64 2, .int .i64 (-1074 + (b / 4503599627370496 % 2048 : Nat) - 1), .int .u64 (b % 4503599627370496 + 4503599627370496 : Nat)]
  else if 0 < b % 4503599627370496 then .agg #[.bool (b / 9223372036854775808 % 2 == 1), .int .i64 1, .int .i64 (-1074), .int .u64 (b % 4503599627370496 : Nat)]
  else .agg #[.bool (b / 9223372036854775808 % 2 == 1), .int .i64 0, .int .i64 (-1074), .int .u64 0]

set_option maxRecDepth 10000 in
set_option maxHeartbeats 2000000 in
theorem parts81_any (b : Nat) (w : World) (hb : b < 18446744073709551616) :
    Calls Tryz.prog 264 #[.agg #[.int .i64 11, .int .i64 52, .int .i64 (-1074)], .int .u64 b] w fun en w' => en = .returned (partsV b) ∧ Below w.heap.size w w' := by
  go_enter Tryz.func264, Tryz.ntmps264
  go_wp2_with fail
  obtain ⟨w1, h1⟩ : ∃ W, W = w.alloc (.cells #[.int .i64 11, .int .i64 52, .int .i64 (-1074)] 261) := ⟨_, rfl⟩
  rw [← h1]
  obtain ⟨k1, hB, s1⟩ := new_of h1 rfl
  clear h1
  obtain ⟨w2, h2⟩ : ∃ W, W = w1.alloc (.cells #[.bool false, .int .i64 0, .int .i64 0, .int .u64 0] 194) := ⟨_, rfl⟩
  rw [← h2]
  obtain ⟨k2, hB2, s2⟩ := new_of h2 s1
  clear h2
  have k1' : w2.heap[w.heap.size]? = _ := (hB2.block _ (by omega)).trans k1
  obtain ⟨_, _, _, _, _, _⟩ := cells3 k1'
  obtain ⟨fr, hfr⟩ : ∃ fr, fr = b % 4503599627370496 := ⟨_, rfl⟩
  have g1 : bits BinOp.and IntKind.u64 (b : Int) 4503599627370495 = (fr : Int) := by
    have := bits_and_u64_nat b 4503599627370495 hb (by decide)
    rw [show ((4503599627370495 : Nat) : Int) = 4503599627370495 from rfl] at this
    rw [this, hfr, show 4503599627370495 = 2 ^ 52 - 1 from rfl, Nat.and_two_pow_sub_one_eq_mod]
  rw [g1]
  obtain ⟨ex, hex⟩ : ∃ ex, ex = b / 4503599627370496 % 2048 := ⟨_, rfl⟩
  have g2 : bits BinOp.and IntKind.i64 ((b : Int) / 4503599627370496) 2047 = (ex : Int) := by
    have := bits_and_i64_nat (b / 4503599627370496) 2047 (by omega) (by decide)
    rw [show ((2047 : Nat) : Int) = 2047 from rfl, show ((b / 4503599627370496 : Nat) : Int) = (b : Int) / 4503599627370496 from by simp] at this
    rw [this, hex, show 2047 = 2 ^ 11 - 1 from rfl, Nat.and_two_pow_sub_one_eq_mod]
  obtain ⟨sg, hsg⟩ : ∃ sg, sg = (b / 9223372036854775808 % 2 == 1) := ⟨_, rfl⟩
  have g3 : (bits BinOp.and IntKind.u64 ((b : Int) / 9223372036854775808) 1 == 1) = sg := by
    have := bits_and_u64_nat (b / 9223372036854775808) 1 (by omega) (by decide)
    rw [show ((1 : Nat) : Int) = 1 from rfl, show ((b / 9223372036854775808 : Nat) : Int) = (b : Int) / 9223372036854775808 from by simp] at this
    rw [this, hsg, show 1 = 2 ^ 1 - 1 from rfl, Nat.and_two_pow_sub_one_eq_mod]
    rcases (show b / 9223372036854775808 % 2 ^ 1 = 0 ∨ b / 9223372036854775808 % 2 ^ 1 = 1 by omega) with h | h <;> rw [h] <;> simp <;> omega
  have HE := Lib.hid hex; have HFR := Lib.hid hfr; have HSG := Lib.hid hsg; clear hex hfr hsg
  have hex2 : ex ≤ 2047 := by have := HE.out; omega
  have hfr2 : fr ≤ 4503599627370495 := by have := HFR.out; omega
  go_quiet (fail)
  have k1q : (w2.drewN nq).heap[w.heap.size]? = _ := k1'
  have k2q : (w2.drewN nq).heap[w.heap.size + 1]? = _ := k2
  have hp : partsV b = if ex = 2047 then (if fr ≠ 0 then .agg #[.bool false, .int .i64 4, .int .i64 0, .int .u64 0] else .agg #[.bool sg, .int .i64 3, .int .i64 0, .int .u64 0])
      else if 0 < ex then .agg #[.bool sg, .int .i64 2, .int .i64 (-1074 + (ex : Nat) - 1), .int .u64 (fr + 4503599627370496 : Nat)]
      else if 0 < fr then .agg #[.bool sg, .int .i64 1, .int .i64 (-1074), .int .u64 (fr : Nat)]
      else .agg #[.bool sg, .int .i64 0, .int .i64 (-1074), .int .u64 0] := by
    rw [HE.out, HFR.out, HSG.out]; rfl
  have HP := Lib.hid hp; clear hp HE HFR HSG
  have hBw : Below w.heap.size w (w2.drewN nq) := below_drewN' (hB.trans (hB2.mono (by omega)))
  have hg : w.heap.size ≤ w.heap.size + 1 := by omega
  obtain ⟨_, _, _, _, _, _⟩ := cells3 k1q
  obtain ⟨⟨c0, cc1, c2, c3⟩, _, _, _, _⟩ := cells4 k2q
  rcases (show (ex = 2047 ∧ fr ≠ 0) ∨ (ex = 2047 ∧ fr = 0) ∨ (ex ≠ 2047 ∧ 0 < ex) ∨ (ex = 0 ∧ 0 < fr) ∨ (ex = 0 ∧ fr = 0) by omega) with ⟨x1, x2⟩ | ⟨x1, x2⟩ | ⟨x1, x2⟩ | ⟨x1, x2⟩ | ⟨x1, x2⟩
  · have e1 : ((ex : Int) == 2047) = true := by rw [x1]; rfl
    have e2 : ((fr : Int) != 0) = true := by simp; omega
    have X1 := Lib.hid x1; have X2 := Lib.hid x2; clear x1 x2
    go_wp2_with fail
    refine bodyPost_ret (v := .agg #[.bool false, .int .i64 4, .int .i64 0, .int .u64 0]) (by simp [results, Tryz.results264, go_sem, c0, cc1, c2, c3]) rfl ?_
    refine ⟨?_, (((hBw.setCell (p := ⟨w.heap.size + 1, 0, none⟩) hg _).setCell (p := ⟨w.heap.size + 1, 1, none⟩) hg _).setCell (p := ⟨w.heap.size + 1, 2, none⟩) hg _).setCell (p := ⟨w.heap.size + 1, 3, none⟩) hg _⟩
    rw [HP.out]
    rw [if_pos X1.out, if_pos X2.out]
  · have e1 : ((ex : Int) == 2047) = true := by rw [x1]; rfl
    have e2 : ((fr : Int) != 0) = false := by rw [x2]; rfl
    have X1 := Lib.hid x1; have X2 := Lib.hid x2; clear x1 x2
    go_wp2_with fail
    refine bodyPost_ret (v := .agg #[.bool sg, .int .i64 3, .int .i64 0, .int .u64 0]) (by simp [results, Tryz.results264, go_sem, c0, cc1, c2, c3]) rfl ?_
    refine ⟨?_, (((hBw.setCell (p := ⟨w.heap.size + 1, 0, none⟩) hg _).setCell (p := ⟨w.heap.size + 1, 1, none⟩) hg _).setCell (p := ⟨w.heap.size + 1, 2, none⟩) hg _).setCell (p := ⟨w.heap.size + 1, 3, none⟩) hg _⟩
    rw [HP.out]
    rw [if_pos X1.out, if_neg (by have := X2.out; omega)]
  · have e1 : ((ex : Int) == 2047) = false := by simp; omega
    have X1 := Lib.hid x1; clear x1
    have g4 : IntKind.i64.wrap (-1074 + (ex : Int)) = -1074 + (ex : Int) := by rw [IntKind.wrap_i64]; omega
    have g5 : IntKind.i64.wrap (-1074 + (ex : Int) - 1) = -1074 + (ex : Int) - 1 := by rw [IntKind.wrap_i64]; omega
    have g6 : bits BinOp.or IntKind.u64 (fr : Int) 4503599627370496 = (fr : Int) + 4503599627370496 := by
      have := bits_or_u64_nat fr 4503599627370496 (by omega) (by decide)
      rw [show ((4503599627370496 : Nat) : Int) = 4503599627370496 from rfl] at this
      rw [this, or_add (k := 52) (by omega) (by decide)]; rfl
    obtain ⟨⟨_, _, _, _⟩, _, _, _, _⟩ := cells4 k2
    obtain ⟨_, _, _, _, _, _⟩ := cells3 k1'
    go_wp2_with fail
    go_region
    go_wp2
    have k2r : (w2.drewN (nq + 1)).heap[w.heap.size + 1]? = _ := k2
    obtain ⟨⟨d0, d1, d2, d3⟩, _, _, _, _⟩ := cells4 k2r
    refine bodyPost_ret (v := .agg #[.bool sg, .int .i64 2, .int .i64 (-1074 + (ex : Int) - 1), .int .u64 ((fr : Int) + 4503599627370496)]) (by simp [results, Tryz.results264, go_sem, d0, d1, d2, d3]) rfl ?_
    refine ⟨?_, ((((hBw.setCell (p := ⟨w.heap.size + 1, 0, none⟩) hg _).setCell (p := ⟨w.heap.size + 1, 1, none⟩) hg _).setCell (p := ⟨w.heap.size + 1, 2, none⟩) hg _).setCell (p := ⟨w.heap.size + 1, 3, none⟩) hg _).drew⟩
    rw [HP.out]
    rw [if_neg X1.out, if_pos x2]; simp
  · have e1 : ((ex : Int) == 2047) = false := by rw [x1]; rfl
    have X1 := Lib.hid x1; clear x1
    have x3 : ¬ 0 < ex := by have := X1.out; omega
    go_wp2_with fail
    refine bodyPost_ret (v := .agg #[.bool sg, .int .i64 1, .int .i64 (-1074), .int .u64 (fr : Int)]) (by simp [results, Tryz.results264, go_sem, c0, cc1, c2, c3]) rfl ?_
    refine ⟨?_, (((hBw.setCell (p := ⟨w.heap.size + 1, 0, none⟩) hg _).setCell (p := ⟨w.heap.size + 1, 1, none⟩) hg _).setCell (p := ⟨w.heap.size + 1, 2, none⟩) hg _).setCell (p := ⟨w.heap.size + 1, 3, none⟩) hg _⟩
    rw [HP.out]
    rw [if_neg (by have := X1.out; omega), if_neg x3, if_pos x2]
  · have e1 : ((ex : Int) == 2047) = false := by rw [x1]; rfl
    have X1 := Lib.hid x1; have X2 := Lib.hid x2; clear x1 x2
    have x3 : ¬ 0 < ex := by have := X1.out; omega
    have x4 : ¬ 0 < fr := by have := X2.out; omega
    go_wp2_with fail
    refine bodyPost_ret (v := .agg #[.bool sg, .int .i64 0, .int .i64 (-1074), .int .u64 0]) (by simp [results, Tryz.results264, go_sem, c0, cc1, c2, c3]) rfl ?_
    refine ⟨?_, (((hBw.setCell (p := ⟨w.heap.size + 1, 0, none⟩) hg _).setCell (p := ⟨w.heap.size + 1, 1, none⟩) hg _).setCell (p := ⟨w.heap.size + 1, 2, none⟩) hg _).setCell (p := ⟨w.heap.size + 1, 3, none⟩) hg _⟩
    rw [HP.out]
    rw [if_neg (by have := X1.out; omega), if_neg x3, if_neg x4]
end Go.Proofs.YteahdgbokjbgcaaGreatDoor
namespace Go.Proofs.YteahdgbokjbgcaaGreatDoor
open Go.RowKit
set_option linter.unusedVariables false
set_option linter.unusedSimpArgs false

theorem partsV_shape (b : Nat) : ∃ s c e f, partsV b = .agg #[.bool s, .int .i64 c, .int .i64 e, .int .u64 f] := by
  unfold partsV; split
  · split <;> exact ⟨_, _, _, _, rfl⟩
  · split
    · exact ⟨_, _, _, _, rfl⟩
    · split <;> exact ⟨_, _, _, _, rfl⟩

set_option maxRecDepth 10000 in
set_option maxHeartbeats 1000000 in
theorem split_any (b : Nat) (w : World) (hb : b < 18446744073709551616) :
    Calls Tryz.prog 191 #[.float .f64 b] w fun en w' => en = .returned (partsV b) ∧ Below w.heap.size w w' := by
  have hx := ext_bits64 b
  have hP := fun W => parts81_any b W hb
  obtain ⟨s, c, e, f, hv⟩ := partsV_shape b
  rw [hv] at hP ⊢
  have HP := Lib.hid hP; clear hP hv
  go_enter Tryz.func191, Tryz.ntmps191
  go_wp2_with fail
  obtain ⟨w1, h1⟩ : ∃ W, W = w.alloc (.cells #[.bool false, .int .i64 0, .int .i64 0, .int .u64 0] 194) := ⟨_, rfl⟩
  rw [← h1]
  obtain ⟨k1, hB, s1⟩ := new_of h1 rfl
  clear h1
  refine (long_any w1).mono ?_; rintro en w2 ⟨rfl, hb2⟩
  have s2 := hb2.size
  go_wp2_with fail
  refine (HP.out w2).mono ?_; rintro en w3 ⟨rfl, hb3⟩
  have k3 := (hb3.block w.heap.size (by omega)).trans ((hb2.block w.heap.size (by omega)).trans k1)
  obtain ⟨⟨c0, cc1, c2, c3⟩, _, _, _, _⟩ := cells4 k3
  go_wp2
  refine bodyPost_ret (v := .agg #[.bool s, .int .i64 c, .int .i64 e, .int .u64 f]) (by simp [results, Tryz.results191, go_sem, c0, cc1, c2, c3]) rfl ?_
  have hBw : Below w.heap.size w w3 := (hB.trans (hb2.mono (by omega))).trans (hb3.mono (by omega))
  exact ⟨rfl, (((hBw.setCell (p := ⟨w.heap.size, 0, none⟩) (Nat.le_refl _) _).setCell (p := ⟨w.heap.size, 1, none⟩) (Nat.le_refl _) _).setCell (p := ⟨w.heap.size, 2, none⟩) (Nat.le_refl _) _).setCell (p := ⟨w.heap.size, 3, none⟩) (Nat.le_refl _) _⟩
end Go.Proofs.YteahdgbokjbgcaaGreatDoor
namespace Go.Proofs.YteahdgbokjbgcaaGreatDoor
open Go.RowKit
set_option linter.unusedVariables false
set_option linter.unusedSimpArgs false

theorem formF_small {s : Bool} {f : Nat} {e : Int} (hf : f < 9007199254740992) (he1 : -1074 ≤ e) (he2 : e ≤ 2000) : ∃ d, formF s f e = some d := by
  unfold formF
  by_cases h0 : f = 0
  · rw [if_pos h0]; exact ⟨_, rfl⟩
  · rw [if_neg h0]
    have h1 := low_lt_bitLen h0
    have h2 : bitLen f ≤ 53 := bitLen_lt (show f < 2 ^ 53 by omega)
    have h3 : (words (f / 2 ^ low f)).length ≤ 2 := words_len_le (by
      have := Nat.div_le_self f (2 ^ low f)
      omega)
    rw [if_neg (by omega)]; exact ⟨_, rfl⟩

end Go.Proofs.YteahdgbokjbgcaaGreatDoor
