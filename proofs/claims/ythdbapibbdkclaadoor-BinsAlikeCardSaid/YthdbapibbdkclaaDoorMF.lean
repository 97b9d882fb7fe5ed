/- Contracts of steelyardref03's Of64, Of32, Size.Bits, Of. Contracts of bits.long, parts, Split and of dyad.Of. Contracts of bits.Split and of dyad.Of. Contract of dyad.Of. No statement of the seat is proved here. -/
import Derived.Test.YthdbapibbdkclaaDoorProg
import Derived.Test.YthdbapibbdkclaaDoorME
import Derived.Laws.Externs
namespace Go.Proofs.YthdbapibbdkclaaDoor
open Go.RowKit
set_option linter.unusedVariables false
set_option linter.unusedSimpArgs false

theorem ext_bits64 (b : Nat) (w : World) : (callFunc 69 #[.float .f64 b]).run Tryd.prog w = .ok (.value (.int .u64 b)) w := by
  rw [run_callFunc_extern (f := 69) (fn := Tryd.f69) (e := Extern.MathFloatBits.float64bits) (by kernel_rfl) (by kernel_rfl) (by kernel_rfl) (by kernel_rfl) (by kernel_rfl)]
  rfl
theorem ext_from64 (b : Nat) (w : World) : (callFunc 90 #[.int .u64 b]).run Tryd.prog w = .ok (.value (.float .f64 b)) w := by
  rw [run_callFunc_extern (f := 90) (fn := Tryd.f90) (e := Extern.MathFloatBits.float64frombits) (by kernel_rfl) (by kernel_rfl) (by kernel_rfl) (by kernel_rfl) (by kernel_rfl)]
  rfl
set_option maxRecDepth 10000 in
set_option maxHeartbeats 1000000 in
theorem of64_any (w : World) :
    Calls Tryd.prog 70 #[] w fun en w' => en = .returned (.agg #[.int .i64 53, .int .i64 (-1074), .int .u64 9218868437227405312]) ∧ Below w.heap.size w w' := by
  go_enter Tryd.func70, Tryd.ntmps70
  go_wp2
  have k := cells3 (heap_alloc_new w (.cells #[.int .i64 53, .int .i64 (-1074), .int .u64 9218868437227405312] 98))
  obtain ⟨c0, cc1, cc2, _, _, _⟩ := k
  refine bodyPost_ret (v := .agg #[.int .i64 53, .int .i64 (-1074), .int .u64 9218868437227405312]) (by simp [results, Tryd.results70, go_sem, c0, cc1, cc2]) rfl ?_
  exact ⟨rfl, (Below.refl _ _).alloc (Nat.le_refl _) _⟩

/-- the value of a number's bits -/
def bitsF (h : Nat) (L : Int) (E : Nat) (s : Bool) (k : Nat) : Option D := if E ≤ k then none else formF s (numM h k) (L + numE h k)

set_option maxRecDepth 10000 in
set_option maxHeartbeats 2000000 in
theorem bits_any (h k : Nat) (L : Int) (E : Nat) (s : Bool) (w : World) (hh : h ≤ 52) (hk : k < 18446744073709551616) (hh2 : 1 ≤ h) (hL1 : -2000 ≤ L) (hL2 : L ≤ 2000) (hE : E ≤ 1000000 * 2 ^ h) (hE2 : E < 18446744073709551616) :
    Calls Tryd.prog 71 #[.agg #[.int .i64 (h + 1 : Nat), .int .i64 L, .int .u64 E], .bool s, .int .u64 k] w fun en w' => CameB w w' (bitsF h L E s k) en := by
  have hN := fun W (hlt : k < E) => number_any h k L E W hh hk hh2 hL1 hL2 (by
    have : k / 2 ^ h < 1000000 := Nat.div_lt_of_lt_mul (by rw [Nat.mul_comm]; omega)
    omega)
  have hml : (words (numM h k)).length ≤ 2 := by
    refine words_len_le ?_
    have hp := Nat.two_pow_pos h
    have hp52 : 2 ^ h ≤ 4503599627370496 := by have := Nat.pow_le_pow_right (show 0 < 2 by decide) hh; simpa using this
    unfold numM; have := Nat.mod_lt k hp; split <;> omega
  have hne : numE h k ≤ k := by unfold numE; have := Nat.div_le_self k (2 ^ h); omega
  have hne2 : k < E → numE h k ≤ 1000000 := fun hlt => by
    have : k / 2 ^ h < 1000000 := Nat.div_lt_of_lt_mul (by rw [Nat.mul_comm]; omega)
    unfold numE; omega
  have hF := fun W a c base (hlt : k < E) (ho : Own W 82 base a c (words (numM h k))) => rform_any s a c (words (numM h k)) (L + numE h k) W (by omega) (ho.sl (W32_words _)) (by omega) (by have := hne2 hlt; omega)
  rw [num_words] at hF
  obtain ⟨o, ho⟩ : ∃ o, o = bitsF h L E s k := ⟨_, rfl⟩
  rw [← ho]
  unfold bitsF at ho
  have hF2 : ∀ W a c base, k < E → Own W 82 base a c (words (numM h k)) → Calls Tryd.prog 79 #[.bool s, .slice a (words (numM h k)).length c, .int .i64 (L + numE h k)] W fun en w' => CameB W w' o en := by
    intro W a c base hlt hw
    rw [ho, if_neg (by omega)]
    exact hF W a c base hlt hw
  have hnone : E ≤ k → o = none := fun hle => by rw [ho, if_pos hle]
  generalize numM h k = M at *
  generalize numE h k = Z at *
  have hN2 : ∀ W, k < E → Calls Tryd.prog 122 #[.agg #[.int .i64 ((h : Int) + 1), .int .i64 L, .int .u64 E], .int .u64 k] W fun en w' => ∃ a c, en = .returned (.tuple #[.slice a (words M).length c, .int .i64 (L + Z)]) ∧ Own w' 82 W.heap.size a c (words M) ∧ Below W.heap.size W w' := hN
  have HN := Lib.hid hN2; clear hN2; have HF := Lib.hid hF2; have HNONE := Lib.hid hnone; clear hN hF hF2 hnone ho hne hne2
  go_enter Tryd.func71, Tryd.ntmps71
  by_cases hle : E ≤ k
  · go_wp2_with fail
    have hb1 := ((Below.refl w.heap.size w).alloc (Nat.le_refl _) (.cells #[.int .i64 ((h : Int) + 1), .int .i64 L, .int .u64 (E : Int)] 98)).alloc (by rw [World.size_alloc]; omega) (.cells #[.bool false, .slice none 0 0, .int .i64 0] 28)
    have k2 := Cel.new (w.alloc (.cells #[.int .i64 ((h : Int) + 1), .int .i64 L, .int .u64 (E : Int)] 98)) (.bool false) (.slice none 0 0) (.int .i64 0)
    rw [World.size_alloc] at k2
    obtain ⟨c0, cc1, cc2, _, _, _⟩ := k2.facts
    refine bodyPost_ret (v := .tuple #[dyV D.zero none 0, .bool false]) (by simp [results, Tryd.results71, go_sem, dyV, D.zero, words_zero, c0, cc1, cc2]) rfl ?_
    rw [HNONE.out hle]
    exact ⟨dyV D.zero none 0, rfl, ⟨none, 0, rfl, by rw [show (outO none).m = 0 from rfl, words_zero]; exact Own.none _ _ _⟩, hb1⟩
  · have hlt : k < E := by omega
    go_wp2_with fail
    obtain ⟨w1, h1⟩ : ∃ W, W = w.alloc (.cells #[.int .i64 ((h : Int) + 1), .int .i64 L, .int .u64 (E : Int)] 98) := ⟨_, rfl⟩
    rw [← h1]
    obtain ⟨k1, hB, s1⟩ := new_of h1 rfl
    clear h1
    (obtain ⟨w2, h2⟩ : ∃ W, W = (w1.alloc (.cells #[.bool false, .slice none 0 0, .int .i64 0] 28)) := ⟨_, rfl⟩; have pinEq := h2; (try simp only [wr3] at pinEq); rw [← pinEq]; clear pinEq)
    obtain ⟨k2, b2, s2⟩ := new_cel h2 s1
    replace hB := below_call b2 hB (by omega)
    clear h2 b2 k1
    refine (HN.out w2 hlt).mono ?_; rintro en w3 ⟨a1, c1, rfl, ho1, hb⟩
    (replace k2 := cel_call hb k2 (by omega); replace hB := below_call hb hB (by omega))
    have s3 := hb.size
    clear hb; obtain ⟨q102x0x0, q102x0x1, q102x0x2, q102x0x3, q102x0x4, q102x0x5⟩ := Cel.facts k2
    go_wp2_with fail
    refine (HF.out w3 _ _ _ hlt ho1).mono ?_; rintro en w4 ⟨v, rfl, ⟨a3, c3, rfl, ho3⟩, hb⟩
    (replace ho1 := own_call hb ho1; replace k2 := cel_call hb k2 (by omega); replace hB := below_call hb hB (by omega))
    have s4 := hb.size
    clear hb; (clear q102x0x0 q102x0x1 q102x0x2 q102x0x3 q102x0x4 q102x0x5; obtain ⟨q107x0x0, q107x0x1, q107x0x2, q107x0x3, q107x0x4, q107x0x5⟩ := Cel.facts k2)
    simp only [dyV]
    go_wp2
    obtain ⟨c0, cc1, cc2, _, _, _⟩ := k2.facts
    refine bodyPost_ret (v := .tuple #[dyV (outO o) a3 c3, .bool o.isSome]) (by simp [results, Tryd.results71, go_sem, dyV, c0, cc1, cc2]) rfl ?_
    exact ⟨_, rfl, ⟨a3, c3, rfl, (own_wr3 (g := w.heap.size + 1) ho3 (by omega)).mono (by omega)⟩, below_wr3 (g := w.heap.size + 1) hB (by omega)⟩

/-- the value of 64 bits, if it is a finite number's -/
def ofF (b : Nat) : Option D := bitsF 52 (-1074) 9218868437227405312 (decide (9223372036854775808 ≤ b)) (b % 9223372036854775808)
def errOf (o : Option D) : Int := if o.isNone then 30 else 0
def CameOf (w w' : World) (o : Option D) (e : Ending) : Prop := ∃ v, e = .returned (.tuple #[v, .int .i64 (errOf o)]) ∧ DOwn w' w.heap.size (outO o) v ∧ Below w.heap.size w w'

set_option maxRecDepth 10000 in
set_option maxHeartbeats 2000000 in
theorem rofd_any (b : Nat) (w : World) (hb : b < 18446744073709551616) :
    Calls Tryd.prog 24 #[.float .f64 b] w fun en w' => CameOf w w' (ofF b) en := by
  have hx := ext_bits64 b
  have hBt : ∀ W, Calls Tryd.prog 71 #[.agg #[.int .i64 53, .int .i64 (-1074), .int .u64 9218868437227405312], .bool ((b : Int) / 9223372036854775808 == 1), .int .u64 (IntKind.u64.wrap ((b : Int) * 2) / 2)] W fun en w' => CameB W w' (ofF b) en := by
    intro W
    have h1 : ((b : Int) / 9223372036854775808 == 1) = decide (9223372036854775808 ≤ b) := by
      by_cases h : 9223372036854775808 ≤ b
      · have : (b : Int) / 9223372036854775808 = 1 := by omega
        simp [h, this]
      · have : (b : Int) / 9223372036854775808 = 0 := by omega
        simp [h, this]
    have h2 : IntKind.u64.wrap ((b : Int) * 2) / 2 = ((b % 9223372036854775808 : Nat) : Int) := by rw [IntKind.wrap_u64]; omega
    rw [h1, h2]
    exact bits_any 52 (b % 9223372036854775808) (-1074) 9218868437227405312 (decide (9223372036854775808 ≤ b)) W (by decide) (by omega) (by decide) (by decide) (by decide) (by decide) (by decide)
  generalize ofF b = o at *
  have HBt := Lib.hid hBt; clear hBt
  go_enter Tryd.func24, Tryd.ntmps24
  go_wp2_with fail
  (obtain ⟨w1, h1⟩ : ∃ W, W = (w.alloc (.cells #[.bool false, .slice none 0 0, .int .i64 0] 28)) := ⟨_, rfl⟩; have pinEq := h1; (try simp only [wr3] at pinEq); rw [← pinEq]; clear pinEq)
  obtain ⟨k1, hB, s1⟩ := new_cel h1 rfl
  clear h1
  refine (of64_any w1).mono ?_; rintro en w2 ⟨rfl, hb2⟩
  (replace k1 := cel_call hb2 k1 (by omega); replace hB := below_call hb2 hB (by omega))
  have s2 := hb2.size
  clear hb2; obtain ⟨q145x0x0, q145x0x1, q145x0x2, q145x0x3, q145x0x4, q145x0x5⟩ := Cel.facts k1
  go_wp2_with fail
  refine (HBt.out w2).mono ?_; rintro en w3 ⟨v, rfl, ⟨a1, c1, rfl, ho⟩, hb⟩
  (replace k1 := cel_call hb k1 (by omega); replace hB := below_call hb hB (by omega))
  have s3 := hb.size
  clear hb
  simp only [dyV]
  have hcN := Cel.new w3 (.bool (outO o).neg) (.slice a1 (words (outO o).m).length c1) (.int .i64 (outO o).exp)
  have hcA := k1.alloc (.cells #[.bool (outO o).neg, .slice a1 (words (outO o).m).length c1, .int .i64 (outO o).exp] 28)
  obtain ⟨c0, cc1, c2, z0, z1, z2⟩ := hcA.facts
  obtain ⟨d0, d1, d2, y0, y1, y2⟩ := hcN.facts
  have hb2 := hB.alloc hB.size (.cells #[.bool (outO o).neg, .slice a1 (words (outO o).m).length c1, .int .i64 (outO o).exp] 28)
  have ho2 := ho.grow ((Below.refl _ _).alloc (Nat.le_refl _) (.cells #[.bool (outO o).neg, .slice a1 (words (outO o).m).length c1, .int .i64 (outO o).exp] 28))
  have HB2 := Lib.hid hb2; have HO2 := Lib.hid ho2; clear hb2 ho2 hcN hcA
  cases o with
  | none =>
    simp only [Option.isSome]
    go_wp2
    refine bodyPost_ret (v := .tuple #[dyV D.zero none 0, .int .i64 30]) (by simp [results, Tryd.results24, go_sem, dyV, D.zero, words_zero, c0, cc1, c2]) rfl ?_
    refine ⟨_, rfl, ⟨none, 0, rfl, ?_⟩, below_wr3 (g := w.heap.size) HB2.out (Nat.le_refl _)⟩
    rw [show (outO none).m = 0 from rfl, words_zero]; exact Own.none _ _ _
  | some d =>
    simp only [Option.isSome]
    go_wp2
    refine bodyPost_ret (v := .tuple #[dyV (outO (some d)) a1 c1, .int .i64 0]) (by simp [results, Tryd.results24, go_sem, dyV, c0, cc1, c2]) rfl ?_
    exact ⟨_, rfl, ⟨a1, c1, rfl, (own_wr3 HO2.out (by omega)).mono (by omega)⟩, below_wr3 HB2.out (Nat.le_refl _)⟩
end Go.Proofs.YthdbapibbdkclaaDoor
namespace Go.Proofs.YthdbapibbdkclaaDoor
open Go.RowKit
set_option linter.unusedVariables false
set_option linter.unusedSimpArgs false

theorem ofInt64_nat (a : Nat) (ha : a < 18446744073709551616) : (BitVec.ofInt 64 (a : Int)).toNat = a := by
  rw [BitVec.ofInt_natCast, BitVec.toNat_ofNat]; exact Nat.mod_eq_of_lt (by omega)
theorem bits_and_u64_nat (a b : Nat) (ha : a < 18446744073709551616) (hb : b < 18446744073709551616) : bits .and .u64 (a : Int) (b : Int) = ((a &&& b : Nat) : Int) := by
  have hx : a &&& b < 2 ^ 64 := Nat.and_lt_two_pow _ (by omega)
  show IntKind.u64.wrap ((BitVec.ofInt 64 (a : Int) &&& BitVec.ofInt 64 (b : Int)).toNat : Int) = _
  rw [BitVec.toNat_and, ofInt64_nat a ha, ofInt64_nat b hb, wrap_u64_nat _ (by omega)]
theorem bits_and_i64_nat (a b : Nat) (ha : a < 9223372036854775808) (hb : b < 9223372036854775808) : bits .and .i64 (a : Int) (b : Int) = ((a &&& b : Nat) : Int) := by
  have hx : a &&& b < 2 ^ 63 := Nat.and_lt_two_pow _ (by omega)
  show IntKind.i64.wrap ((BitVec.ofInt 64 (a : Int) &&& BitVec.ofInt 64 (b : Int)).toNat : Int) = _
  rw [BitVec.toNat_and, ofInt64_nat a (by omega), ofInt64_nat b (by omega), IntKind.wrap_i64]; omega

set_option maxRecDepth 10000 in
set_option maxHeartbeats 1000000 in
theorem long_any (w : World) :
    Calls Tryd.prog 138 #[] w fun en w' => en = .returned (.agg #[.int .i64 11, .int .i64 52, .int .i64 (-1074)]) ∧ Below w.heap.size w w' := by
  go_enter Tryd.func138, Tryd.ntmps138
  go_wp2
  have k := cells3 (heap_alloc_new w (.cells #[.int .i64 11, .int .i64 52, .int .i64 (-1074)] 166))
  obtain ⟨c0, cc1, cc2, _, _, _⟩ := k
  refine bodyPost_ret (v := .agg #[.int .i64 11, .int .i64 52, .int .i64 (-1074)]) (by simp [results, Tryd.results138, go_sem, c0, cc1, cc2]) rfl ?_
  exact ⟨rfl, (Below.refl _ _).alloc (Nat.le_refl _) _⟩

theorem cells4 {w : World} {g : Nat} {v0 v1 v2 v3 : Value} {T : TypeId} (h : w.heap[g]? = some (.cells #[v0, v1, v2, v3] T (0, 0))) :
    (w.cell? ⟨g, 0, none⟩ = some v0 ∧ w.cell? ⟨g, 1, none⟩ = some v1 ∧ w.cell? ⟨g, 2, none⟩ = some v2 ∧ w.cell? ⟨g, 3, none⟩ = some v3) ∧ w.frozen? ⟨g, 0, none⟩ = false ∧ w.frozen? ⟨g, 1, none⟩ = false ∧ w.frozen? ⟨g, 2, none⟩ = false ∧ w.frozen? ⟨g, 3, none⟩ = false :=
  ⟨⟨by rw [cell_of_row w g 0 _ _ _ h]; rfl, by rw [cell_of_row w g 1 _ _ _ h]; rfl, by rw [cell_of_row w g 2 _ _ _ h]; rfl, by rw [cell_of_row w g 3 _ _ _ h]; rfl⟩, frozen_of_row w g 0 _ _ h, frozen_of_row w g 1 _ _ h, frozen_of_row w g 2 _ _ h, frozen_of_row w g 3 _ _ h⟩
def partsV (b : Nat) : Value :=
  if b / 4503599627370496 % 2048 = 2047 then (if b % 4503599627370496 ≠ 0 then .agg #[.bool false, .int .i64 4, .int .i64 0, .int .u64 0] else .agg #[.bool (b / 9223372036854775808 % 2 == 1), .int .i64 3, .int .i64 0, .int .u64 0])
  else if 0 < b / 4503599627370496 % 2048 then .agg #[.bool (b / 9223372036854775808 % 2 == 1), .int .i64 2, .int .i64 (-1074 + (b / 4503599627370496 % 2048 : Nat) - 1), .int .u64 (b % 4503599627370496 + 4503599627370496 : Nat)]
  else if 0 < b % 4503599627370496 then .agg #[.bool (b / 9223372036854775808 % 2 == 1), .int .i64 1, .int .i64 (-1074), .int .u64 (b % 4503599627370496 : Nat)]
  else .agg #[.bool (b / 9223372036854775808 % 2 == 1), .int .i64 0, .int .i64 (-1074), .int .u64 0]

set_option maxRecDepth 10000 in
set_option maxHeartbeats 2000000 in
theorem parts81_any (b : Nat) (w : World) (hb : b < 18446744073709551616) :
    Calls Tryd.prog 139 #[.agg #[.int .i64 11, .int .i64 52, .int .i64 (-1074)], .int .u64 b] w fun en w' => en = .returned (partsV b) ∧ Below w.heap.size w w' := by
  go_enter Tryd.func139, Tryd.ntmps139
  go_wp2_with fail
  obtain ⟨w1, h1⟩ : ∃ W, W = w.alloc (.cells #[.int .i64 11, .int .i64 52, .int .i64 (-1074)] 166) := ⟨_, rfl⟩
  rw [← h1]
  obtain ⟨k1, hB, s1⟩ := new_of h1 rfl
  clear h1
  obtain ⟨w2, h2⟩ : ∃ W, W = w1.alloc (.cells #[.bool false, .int .i64 0, .int .i64 0, .int .u64 0] 127) := ⟨_, rfl⟩
  rw [← h2]
  obtain ⟨k2, hB2, s2⟩ := new_of h2 s1
  clear h2
  have k1' : w2.heap[w.heap.size]? = _ := (hB2.block _ (by omega)).trans k1
  obtain ⟨_, _, _, _, _, _⟩ := cells3 k1'
  obtain ⟨fr, hfr⟩ : ∃ fr, fr = b % 4503599627370496 := ⟨_, rfl⟩
  have g1 : bits BinOp.and IntKind.u64 (b : Int) 4503599627370495 = (fr : Int) := by
    have := bits_and_u64_nat b 4503599627370495 hb (by decide)
    rw [show ((4503599627370495 : Nat) : Int) = 4503599627370495 from rfl] at this
    rw [this, hfr, show 4503599627370495 = 2 ^ 52 - 1 from rfl, Nat.and_two_pow_sub_one_eq_mod]
  rw [g1]
  obtain ⟨ex, hex⟩ : ∃ ex, ex = b / 4503599627370496 % 2048 := ⟨_, rfl⟩
  have g2 : bits BinOp.and IntKind.i64 ((b : Int) / 4503599627370496) 2047 = (ex : Int) := by
    have := bits_and_i64_nat (b / 4503599627370496) 2047 (by omega) (by decide)
    rw [show ((2047 : Nat) : Int) = 2047 from rfl, show ((b / 4503599627370496 : Nat) : Int) = (b : Int) / 4503599627370496 from by simp] at this
    rw [this, hex, show 2047 = 2 ^ 11 - 1 from rfl, Nat.and_two_pow_sub_one_eq_mod]
  obtain ⟨sg, hsg⟩ : ∃ sg, sg = (b / 9223372036854775808 % 2 == 1) := ⟨_, rfl⟩
  have g3 : (bits BinOp.and IntKind.u64 ((b : Int) / 9223372036854775808) 1 == 1) = sg := by
    have := bits_and_u64_nat (b / 9223372036854775808) 1 (by omega) (by decide)
    rw [show ((1 : Nat) : Int) = 1 from rfl, show ((b / 9223372036854775808 : Nat) : Int) = (b : Int) / 9223372036854775808 from by simp] at this
    rw [this, hsg, show 1 = 2 ^ 1 - 1 from rfl, Nat.and_two_pow_sub_one_eq_mod]
    rcases (show b / 9223372036854775808 % 2 ^ 1 = 0 ∨ b / 9223372036854775808 % 2 ^ 1 = 1 by omega) with h | h <;> rw [h] <;> simp <;> omega
  have HE := Lib.hid hex; have HFR := Lib.hid hfr; have HSG := Lib.hid hsg; clear hex hfr hsg
  have hex2 : ex ≤ 2047 := by have := HE.out; omega
  have hfr2 : fr ≤ 4503599627370495 := by have := HFR.out; omega
  go_quiet (fail)
  have k1q : (w2.drewN nq).heap[w.heap.size]? = _ := k1'
  have k2q : (w2.drewN nq).heap[w.heap.size + 1]? = _ := k2
  have hp : partsV b = if ex = 2047 then (if fr ≠ 0 then .agg #[.bool false, .int .i64 4, .int .i64 0, .int .u64 0] else .agg #[.bool sg, .int .i64 3, .int .i64 0, .int .u64 0])
      else if 0 < ex then .agg #[.bool sg, .int .i64 2, .int .i64 (-1074 + (ex : Nat) - 1), .int .u64 (fr + 4503599627370496 : Nat)]
      else if 0 < fr then .agg #[.bool sg, .int .i64 1, .int .i64 (-1074), .int .u64 (fr : Nat)]
      else .agg #[.bool sg, .int .i64 0, .int .i64 (-1074), .int .u64 0] := by
    rw [HE.out, HFR.out, HSG.out]; rfl
  have HP := Lib.hid hp; clear hp HE HFR HSG
  have hBw : Below w.heap.size w (w2.drewN nq) := below_drewN' (hB.trans (hB2.mono (by omega)))
  have hg : w.heap.size ≤ w.heap.size + 1 := by omega
  obtain ⟨_, _, _, _, _, _⟩ := cells3 k1q
  obtain ⟨⟨c0, cc1, c2, c3⟩, _, _, _, _⟩ := cells4 k2q
  rcases (show (ex = 2047 ∧ fr ≠ 0) ∨ (ex = 2047 ∧ fr = 0) ∨ (ex ≠ 2047 ∧ 0 < ex) ∨ (ex = 0 ∧ 0 < fr) ∨ (ex = 0 ∧ fr = 0) by omega) with ⟨x1, x2⟩ | ⟨x1, x2⟩ | ⟨x1, x2⟩ | ⟨x1, x2⟩ | ⟨x1, x2⟩
  · have e1 : ((ex : Int) == 2047) = true := by rw [x1]; rfl
    have e2 : ((fr : Int) != 0) = true := by simp; omega
    have X1 := Lib.hid x1; have X2 := Lib.hid x2; clear x1 x2
    go_wp2_with fail
    refine bodyPost_ret (v := .agg #[.bool false, .int .i64 4, .int .i64 0, .int .u64 0]) (by simp [results, Tryd.results139, go_sem, c0, cc1, c2, c3]) rfl ?_
    refine ⟨?_, (((hBw.setCell (p := ⟨w.heap.size + 1, 0, none⟩) hg _).setCell (p := ⟨w.heap.size + 1, 1, none⟩) hg _).setCell (p := ⟨w.heap.size + 1, 2, none⟩) hg _).setCell (p := ⟨w.heap.size + 1, 3, none⟩) hg _⟩
    rw [HP.out]
    rw [if_pos X1.out, if_pos X2.out]
  · have e1 : ((ex : Int) == 2047) = true := by rw [x1]; rfl
    have e2 : ((fr : Int) != 0) = false := by rw [x2]; rfl
    have X1 := Lib.hid x1; have X2 := Lib.hid x2; clear x1 x2
    go_wp2_with fail
    refine bodyPost_ret (v := .agg #[.bool sg, .int .i64 3, .int .i64 0, .int .u64 0]) (by simp [results, Tryd.results139, go_sem, c0, cc1, c2, c3]) rfl ?_
    refine ⟨?_, (((hBw.setCell (p := ⟨w.heap.size + 1, 0, none⟩) hg _).setCell (p := ⟨w.heap.size + 1, 1, none⟩) hg _).setCell (p := ⟨w.heap.size + 1, 2, none⟩) hg _).setCell (p := ⟨w.heap.size + 1, 3, none⟩) hg _⟩
    rw [HP.out]
    rw [if_pos X1.out, if_neg (by have := X2.out; omega)]
  · have e1 : ((ex : Int) == 2047) = false := by simp; omega
    have X1 := Lib.hid x1; clear x1
    have g4 : IntKind.i64.wrap (-1074 + (ex : Int)) = -1074 + (ex : Int) := by rw [IntKind.wrap_i64]; omega
    have g5 : IntKind.i64.wrap (-1074 + (ex : Int) - 1) = -1074 + (ex : Int) - 1 := by rw [IntKind.wrap_i64]; omega
    have g6 : bits BinOp.or IntKind.u64 (fr : Int) 4503599627370496 = (fr : Int) + 4503599627370496 := by
      have := bits_or_u64_nat fr 4503599627370496 (by omega) (by decide)
      rw [show ((4503599627370496 : Nat) : Int) = 4503599627370496 from rfl] at this
      rw [this, or_add (k := 52) (by omega) (by decide)]; rfl
    obtain ⟨⟨_, _, _, _⟩, _, _, _, _⟩ := cells4 k2
    obtain ⟨_, _, _, _, _, _⟩ := cells3 k1'
    go_wp2_with fail
    go_region
    go_wp2
    have k2r : (w2.drewN (nq + 1)).heap[w.heap.size + 1]? = _ := k2
    obtain ⟨⟨d0, d1, d2, d3⟩, _, _, _, _⟩ := cells4 k2r
    refine bodyPost_ret (v := .agg #[.bool sg, .int .i64 2, .int .i64 (-1074 + (ex : Int) - 1), .int .u64 ((fr : Int) + 4503599627370496)]) (by simp [results, Tryd.results139, go_sem, d0, d1, d2, d3]) rfl ?_
    refine ⟨?_, ((((hBw.setCell (p := ⟨w.heap.size + 1, 0, none⟩) hg _).setCell (p := ⟨w.heap.size + 1, 1, none⟩) hg _).setCell (p := ⟨w.heap.size + 1, 2, none⟩) hg _).setCell (p := ⟨w.heap.size + 1, 3, none⟩) hg _).drew⟩
    rw [HP.out]
    rw [if_neg X1.out, if_pos x2]; simp
  · have e1 : ((ex : Int) == 2047) = false := by rw [x1]; rfl
    have X1 := Lib.hid x1; clear x1
    have x3 : ¬ 0 < ex := by have := X1.out; omega
    go_wp2_with fail
    refine bodyPost_ret (v := .agg #[.bool sg, .int .i64 1, .int .i64 (-1074), .int .u64 (fr : Int)]) (by simp [results, Tryd.results139, go_sem, c0, cc1, c2, c3]) rfl ?_
    refine ⟨?_, (((hBw.setCell (p := ⟨w.heap.size + 1, 0, none⟩) hg _).setCell (p := ⟨w.heap.size + 1, 1, none⟩) hg _).setCell (p := ⟨w.heap.size + 1, 2, none⟩) hg _).setCell (p := ⟨w.heap.size + 1, 3, none⟩) hg _⟩
    rw [HP.out]
    rw [if_neg (by have := X1.out; omega), if_neg x3, if_pos x2]
  · have e1 : ((ex : Int) == 2047) = false := by rw [x1]; rfl
    have X1 := Lib.hid x1; have X2 := Lib.hid x2; clear x1 x2
    have x3 : ¬ 0 < ex := by have := X1.out; omega
    have x4 : ¬ 0 < fr := by have := X2.out; omega
    go_wp2_with fail
    refine bodyPost_ret (v := .agg #[.bool sg, .int .i64 0, .int .i64 (-1074), .int .u64 0]) (by simp [results, Tryd.results139, go_sem, c0, cc1, c2, c3]) rfl ?_
    refine ⟨?_, (((hBw.setCell (p := ⟨w.heap.size + 1, 0, none⟩) hg _).setCell (p := ⟨w.heap.size + 1, 1, none⟩) hg _).setCell (p := ⟨w.heap.size + 1, 2, none⟩) hg _).setCell (p := ⟨w.heap.size + 1, 3, none⟩) hg _⟩
    rw [HP.out]
    rw [if_neg (by have := X1.out; omega), if_neg x3, if_neg x4]
end Go.Proofs.YthdbapibbdkclaaDoor
namespace Go.Proofs.YthdbapibbdkclaaDoor
open Go.RowKit
set_option linter.unusedVariables false
set_option linter.unusedSimpArgs false

theorem partsV_shape (b : Nat) : ∃ s c e f, partsV b = .agg #[.bool s, .int .i64 c, .int .i64 e, .int .u64 f] := by
  unfold partsV; split
  · split <;> exact ⟨_, _, _, _, rfl⟩
  · split
    · exact ⟨_, _, _, _, rfl⟩
    · split <;> exact ⟨_, _, _, _, rfl⟩

set_option maxRecDepth 10000 in
set_option maxHeartbeats 1000000 in
theorem split_any (b : Nat) (w : World) (hb : b < 18446744073709551616) :
    Calls Tryd.prog 99 #[.float .f64 b] w fun en w' => en = .returned (partsV b) ∧ Below w.heap.size w w' := by
  have hx := ext_bits64 b
  have hP := fun W => parts81_any b W hb
  obtain ⟨s, c, e, f, hv⟩ := partsV_shape b
  rw [hv] at hP ⊢
  have HP := Lib.hid hP; clear hP hv
  go_enter Tryd.func99, Tryd.ntmps99
  go_wp2_with fail
  obtain ⟨w1, h1⟩ : ∃ W, W = w.alloc (.cells #[.bool false, .int .i64 0, .int .i64 0, .int .u64 0] 127) := ⟨_, rfl⟩
  rw [← h1]
  obtain ⟨k1, hB, s1⟩ := new_of h1 rfl
  clear h1
  refine (long_any w1).mono ?_; rintro en w2 ⟨rfl, hb2⟩
  have s2 := hb2.size
  go_wp2_with fail
  refine (HP.out w2).mono ?_; rintro en w3 ⟨rfl, hb3⟩
  have k3 := (hb3.block w.heap.size (by omega)).trans ((hb2.block w.heap.size (by omega)).trans k1)
  obtain ⟨⟨c0, cc1, c2, c3⟩, _, _, _, _⟩ := cells4 k3
  go_wp2
  refine bodyPost_ret (v := .agg #[.bool s, .int .i64 c, .int .i64 e, .int .u64 f]) (by simp [results, Tryd.results99, go_sem, c0, cc1, c2, c3]) rfl ?_
  have hBw : Below w.heap.size w w3 := (hB.trans (hb2.mono (by omega))).trans (hb3.mono (by omega))
  exact ⟨rfl, (((hBw.setCell (p := ⟨w.heap.size, 0, none⟩) (Nat.le_refl _) _).setCell (p := ⟨w.heap.size, 1, none⟩) (Nat.le_refl _) _).setCell (p := ⟨w.heap.size, 2, none⟩) (Nat.le_refl _) _).setCell (p := ⟨w.heap.size, 3, none⟩) (Nat.le_refl _) _⟩
end Go.Proofs.YthdbapibbdkclaaDoor
namespace Go.Proofs.YthdbapibbdkclaaDoor
open Go.RowKit
set_option linter.unusedVariables false
set_option linter.unusedSimpArgs false

theorem partsV_of (b : Nat) (hb : b < 18446744073709551616) : ∃ (s : Bool) (c e : Int) (f : Nat), partsV b = .agg #[.bool s, .int .i64 c, .int .i64 e, .int .u64 f] ∧ -1074 ≤ e ∧ e ≤ 2000 ∧ f < 9007199254740992 ∧
    ((c = 3 ∨ c = 4) ∧ ofF b = none ∨ (c = 0 ∧ f = 0) ∧ ofF b = some D.zero ∨ (c = 1 ∨ c = 2) ∧ ofF b = formF s f e) := by
  have hx1 : (b % 9223372036854775808) / 2 ^ 52 = b / 4503599627370496 % 2048 := by omega
  have hx2 : (b % 9223372036854775808) % 2 ^ 52 = b % 4503599627370496 := by omega
  have hsg : (b / 9223372036854775808 % 2 == 1) = decide (9223372036854775808 ≤ b) := by
    by_cases h : 9223372036854775808 ≤ b
    · have : b / 9223372036854775808 % 2 = 1 := by omega
      simp [h, this]
    · have : b / 9223372036854775808 % 2 = 0 := by omega
      simp [h, this]
  have hle : 9218868437227405312 ≤ b % 9223372036854775808 ↔ b / 4503599627370496 % 2048 = 2047 := by omega
  unfold partsV ofF bitsF numM numE
  rw [hx1, hx2, hsg]
  simp only [hle]
  clear hx1 hx2 hsg hle
  have h1 : b / 4503599627370496 % 2048 ≤ 2047 := by omega
  have h2 : b % 4503599627370496 < 4503599627370496 := by omega
  generalize b / 4503599627370496 % 2048 = ex at *
  generalize b % 4503599627370496 = fr at *
  generalize decide (9223372036854775808 ≤ b) = sg at *
  by_cases x1 : ex = 2047
  · rw [if_pos x1, if_pos x1]
    by_cases x2 : fr ≠ 0
    · rw [if_pos x2]; exact ⟨_, _, _, 0, rfl, by decide, by decide, by decide, .inl ⟨.inr rfl, rfl⟩⟩
    · rw [if_neg x2]; exact ⟨_, _, _, 0, rfl, by decide, by decide, by decide, .inl ⟨.inl rfl, rfl⟩⟩
  · rw [if_neg x1, if_neg x1]
    by_cases x2 : 0 < ex
    · rw [if_pos x2]
      refine ⟨_, _, _, _, rfl, by omega, by omega, by omega, .inr (.inr ⟨.inr rfl, ?_⟩)⟩
      rw [if_neg (by omega), show (2 : Nat) ^ 52 + fr = fr + 4503599627370496 by omega, show (-1074 : Int) + ((ex - 1 : Nat) : Int) = -1074 + (ex : Int) - 1 by omega]
    · rw [if_neg x2, if_pos (show ex = 0 by omega)]
      by_cases x3 : 0 < fr
      · rw [if_pos x3]
        refine ⟨_, _, _, _, rfl, by decide, by decide, by omega, .inr (.inr ⟨.inl rfl, ?_⟩)⟩
        rw [show ((ex - 1 : Nat) : Int) = 0 by omega]; rfl
      · rw [if_neg x3]
        refine ⟨_, _, _, 0, rfl, by decide, by decide, by decide, .inr (.inl ⟨⟨rfl, rfl⟩, ?_⟩)⟩
        rw [show fr = 0 by omega]; rfl

theorem formF_small {s : Bool} {f : Nat} {e : Int} (hf : f < 9007199254740992) (he1 : -1074 ≤ e) (he2 : e ≤ 2000) : ∃ d, formF s f e = some d := by
  unfold formF
  by_cases h0 : f = 0
  · rw [if_pos h0]; exact ⟨_, rfl⟩
  · rw [if_neg h0]
    have h1 := low_lt_bitLen h0
    have h2 : bitLen f ≤ 53 := bitLen_lt (show f < 2 ^ 53 by omega)
    have h3 : (words (f / 2 ^ low f)).length ≤ 2 := words_len_le (by
      have := Nat.div_le_self f (2 ^ low f)
      omega)
    rw [if_neg (by omega)]; exact ⟨_, rfl⟩

set_option maxRecDepth 10000 in
set_option maxHeartbeats 2000000 in
theorem dof_any (b : Nat) (w : World) (hb : b < 18446744073709551616) (hT : Tab w) :
    Calls Tryd.prog 48 #[.float .f64 b] w fun en w' => CameOf w w' (ofF b) en := by
  have hS := fun W => split_any b W hb
  obtain ⟨s, c, e, f, hv, he1, he2, hf, hc⟩ := partsV_of b hb
  rw [hv] at hS
  clear hv
  have HS := Lib.hid hS; clear hS
  have hW := fun W => wof_any f W (by omega)
  have hFm := fun W (hw : Below w.heap.size w W) a cc base (ho : Own W 82 base a cc (words f)) => dform_any s a cc (words f) e W (by have := words_len_le (n := f) (k := 2) (by omega); omega) (W32_words _) ho.rd (by omega) (by omega) (hT.grow hw)
  rw [num_words] at hFm
  generalize ofF b = o at *
  have HW := Lib.hid hW; have HFm := Lib.hid hFm; clear hW hFm hT
  have HC := Lib.hid hc; clear hc
  go_enter Tryd.func48, Tryd.ntmps48
  go_wp2_with fail
  (obtain ⟨w1, h1⟩ : ∃ W, W = (w.alloc (.cells #[.bool false, .slice none 0 0, .int .i64 0] 28)) := ⟨_, rfl⟩; have pinEq := h1; (try simp only [wr3] at pinEq); rw [← pinEq]; clear pinEq)
  obtain ⟨k1, hB, s1⟩ := new_cel h1 rfl
  clear h1
  refine (HS.out w1).mono ?_; rintro en w2 ⟨rfl, hb2⟩
  have s2 := hb2.size
  have b2' : Below w.heap.size w w2 := hB.trans (hb2.mono (by omega))
  have k2 := k1.below hb2 (by omega)
  have A1 := k2.alloc (.cells #[.bool s, .int .i64 c, .int .i64 e, .int .u64 f] 127)
  have A2 := A1.alloc (.cells #[.bool false, .int .i64 0, .int .i64 e, .int .u64 0] 127)
  have A3 := A2.alloc (.cells #[.bool true, .int .i64 0, .int .i64 e, .int .u64 0] 127)
  have B1 := (Below.refl w2.heap.size w2).alloc (Nat.le_refl _) (.cells #[.bool s, .int .i64 c, .int .i64 e, .int .u64 f] 127)
  have P1 := heap_alloc_new w2 (.cells #[.bool s, .int .i64 c, .int .i64 e, .int .u64 f] 127)
  have B2 := (Below.refl (w2.heap.size + 1) (w2.alloc (.cells #[.bool s, .int .i64 c, .int .i64 e, .int .u64 f] 127))).alloc (by rw [World.size_alloc]; omega) (.cells #[.bool false, .int .i64 0, .int .i64 e, .int .u64 0] 127)
  have B3 := B2.alloc (by rw [World.size_alloc, World.size_alloc]; omega) (.cells #[.bool true, .int .i64 0, .int .i64 e, .int .u64 0] 127)
  have P3 := (B3.block w2.heap.size (by omega)).trans P1
  have BW := (b2'.trans (B1.mono (by omega))).trans (B3.mono (by omega))
  have HP3 := Lib.hid P3; have HA3 := Lib.hid A3; have HBW := Lib.hid BW
  have s3 : (((w2.alloc (.cells #[.bool s, .int .i64 c, .int .i64 e, .int .u64 f] 127)).alloc (.cells #[.bool false, .int .i64 0, .int .i64 e, .int .u64 0] 127)).alloc (.cells #[.bool true, .int .i64 0, .int .i64 e, .int .u64 0] 127)).heap.size = w2.heap.size + 3 := by rw [World.size_alloc, World.size_alloc, World.size_alloc]
  have HS3 := Lib.hid s3
  obtain ⟨c0, cc1, c2, z0, z1, z2⟩ := A3.facts
  clear A1 A2 A3 B1 B2 B3 P1 P3 BW s3 hb2 b2' k1 k2
  rcases HC.out with ⟨hc, ho⟩ | ⟨hc, ho⟩ | ⟨hc, ho⟩
  · have HO := Lib.hid ho; clear ho HC
    rcases hc with rfl | rfl
    all_goals
      go_wp2_with fail
      refine bodyPost_ret (v := .tuple #[dyV D.zero none 0, .int .i64 30]) (by simp [results, Tryd.results48, go_sem, dyV, D.zero, words_zero, c0, cc1, c2]) rfl ?_
      rw [HO.out]
      exact ⟨_, rfl, ⟨none, 0, rfl, by rw [show (outO none).m = 0 from rfl, words_zero]; exact Own.none _ _ _⟩, below_wr3 (g := w.heap.size) HBW.out (Nat.le_refl _)⟩
  · have HO := Lib.hid ho; clear ho HC
    obtain ⟨rfl, hf0⟩ := hc
    have hf1 : ((f : Int) == 0) = true := by rw [hf0]; rfl
    clear hf0
    cases s
    all_goals
      go_wp2_with fail
      refine bodyPost_ret (v := .tuple #[dyV D.zero none 0, .int .i64 0]) (by simp [results, Tryd.results48, go_sem, dyV, D.zero, words_zero, c0, cc1, c2]) rfl ?_
      rw [HO.out]
      exact ⟨_, rfl, ⟨none, 0, rfl, by rw [show (outO (some D.zero)).m = 0 from rfl, words_zero]; exact Own.none _ _ _⟩, below_wr3 (g := w.heap.size) HBW.out (Nat.le_refl _)⟩
  · have HO := Lib.hid ho; clear ho HC
    have hc3 : (c == 3) = false := by simp; omega
    have hc4 : (c == 4) = false := by simp; omega
    have hc0 : (c == 0) = false := by simp; omega
    clear hc
    obtain ⟨d, hd⟩ := formF_small (s := s) hf he1 he2
    have hFm2 := HFm.out
    rw [hd] at hFm2
    have hod : o = some d := by rw [HO.out, hd]
    have HF2 := Lib.hid hFm2; clear hFm2 HFm hd HO
    subst hod
    go_wp2_with fail
    obtain ⟨w5, h5⟩ : ∃ W, W = ((w2.alloc (.cells #[.bool s, .int .i64 c, .int .i64 e, .int .u64 f] 127)).alloc (.cells #[.bool false, .int .i64 0, .int .i64 e, .int .u64 0] 127)).alloc (.cells #[.bool true, .int .i64 0, .int .i64 e, .int .u64 0] 127) := ⟨_, rfl⟩
    have k5 := HP3.out
    have a5 := HA3.out
    have bw5 := HBW.out
    have s5 := HS3.out
    clear HP3 HA3 HBW HS3
    rw [← h5] at k5 a5 bw5 s5 ⊢
    clear h5 c0 cc1 c2 z0 z1 z2
    obtain ⟨_, _, _, _, _, _⟩ := a5.facts
    obtain ⟨⟨_, _, _, _⟩, _, _, _, _⟩ := cells4 k5
    have n1 : w.heap.size ≠ w2.heap.size := by omega
    have HBW := Lib.hid bw5; have HS5 := Lib.hid s5; have HS2 := Lib.hid s2; clear bw5 s5 s2
    go_region_held3 (fun W => W.cell? ⟨w2.heap.size, 0, none⟩ = some (.bool s) ∧ W.cell? ⟨w2.heap.size, 2, none⟩ = some (.int .i64 e) ∧ W.cell? ⟨w2.heap.size, 3, none⟩ = some (.int .u64 f)) (go_keep) (first
      | (go_at_call 101; refine (HW.out _).mono ?_; rintro en w6 ⟨rfl, ho6, hb6⟩; have k6 := (hb6.block w2.heap.size (by have := HS5.out; simp; omega)).trans k5; have a6 := a5.below (below_drewN (n := 1) hb6) (by have := a5.lt; simpa using this); obtain ⟨⟨_, _, _, _⟩, _, _, _, _⟩ := cells4 k6; obtain ⟨_, _, _, _, _, _⟩ := a6.facts)
      | (go_at_call 100; refine (HF2.out _ (HBW.out.trans ((below_drewN (n := 1) hb6).mono (by have := HBW.out.size; simp; omega))) _ _ _ (Own.of ho6 (Nat.le_refl _))).mono ?_; rintro en w7 ⟨v, rfl, ⟨a7, c7, rfl, ho7⟩, hb7⟩; have k7 := (hb7.block w2.heap.size (by have := HS5.out; have := hb6.size; simp at this; omega)).trans k6; have a7' := a6.below hb7 a6.lt; obtain ⟨⟨_, _, _, _⟩, _, _, _, _⟩ := cells4 k7; obtain ⟨_, _, _, _, _, _⟩ := a7'.facts; simp only [dyV]))
    all_goals
      go_wp2
      obtain ⟨c0, cc1, c2, _, _, _⟩ := a7'.facts
      refine bodyPost_ret (v := .tuple #[dyV (outO (some d)) a7 c7, .int .i64 0]) (by simp [results, Tryd.results48, go_sem, dyV, errO, c0, cc1, c2]) rfl ?_
      have z5 := HBW.out.size
      have z6 := hb6.size
      simp only [World.size_drew] at z6
      exact ⟨_, rfl, ⟨a7, c7, rfl, (own_wr3 (g := w.heap.size) (ho7.mono (b := w6.heap.size) (by omega)) (by have := HS5.out; have := HS2.out; omega)).mono (by omega)⟩, below_wr3 (g := w.heap.size) ((HBW.out.trans ((below_drewN (n := 1) hb6).mono (by simp; omega))).trans (hb7.mono (by omega))) (Nat.le_refl _)⟩
end Go.Proofs.YthdbapibbdkclaaDoor
