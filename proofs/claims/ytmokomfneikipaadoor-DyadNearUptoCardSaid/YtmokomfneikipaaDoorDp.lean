/- Contracts of steelyardref03's Of64, Of32, Size.Bits, Of. No statement of the seat is proved here. -/
import Derived.Test.YtmokomfneikipaaDoorProg
import Derived.Test.YtmokomfneikipaaDoorDo
import Derived.Laws.Externs
namespace Go.Proofs.YtmokomfneikipaaDoor
open Go.RowKit
set_option linter.unusedVariables false
set_option linter.unusedSimpArgs false

theorem ext_bits64 (b : Nat) (w : World) : (callFunc 46 #[.float .f64 b]).run Tryd.prog w = .ok (.value (.int .u64 b)) w := by
  rw [run_callFunc_extern (f := 46) (fn := Tryd.f46) (e := Extern.MathFloatBits.float64bits) (by kernel_rfl) (by kernel_rfl) (by kernel_rfl) (by kernel_rfl) (by kernel_rfl)]
  rfl
theorem ext_from64 (b : Nat) (w : World) : (callFunc 40 #[.int .u64 b]).run Tryd.prog w = .ok (.value (.float .f64 b)) w := by
  rw [run_callFunc_extern (f := 40) (fn := Tryd.f40) (e := Extern.MathFloatBits.float64frombits) (by kernel_rfl) (by kernel_rfl) (by kernel_rfl) (by kernel_rfl) (by kernel_rfl)]
  rfl
theorem ext_bits32 (b : Nat) (w : World) : (callFunc 73 #[.float .f32 b]).run Tryd.prog w = .ok (.value (.int .u32 b)) w := by
  rw [run_callFunc_extern (f := 73) (fn := Tryd.f73) (e := Extern.MathFloatBits.float32bits) (by kernel_rfl) (by kernel_rfl) (by kernel_rfl) (by kernel_rfl) (by kernel_rfl)]
  rfl
theorem ext_from32 (b : Nat) (w : World) : (callFunc 70 #[.int .u32 b]).run Tryd.prog w = .ok (.value (.float .f32 b)) w := by
  rw [run_callFunc_extern (f := 70) (fn := Tryd.f70) (e := Extern.MathFloatBits.float32frombits) (by kernel_rfl) (by kernel_rfl) (by kernel_rfl) (by kernel_rfl) (by kernel_rfl)]
  rfl

set_option maxRecDepth 10000 in
set_option maxHeartbeats 1000000 in
theorem of64_any (w : World) :
    Calls Tryd.prog 50 #[] w fun en w' => en = .returned (.agg #[.int .i64 53, .int .i64 (-1074), .int .u64 9218868437227405312]) ∧ Below w.heap.size w w' := by
  go_enter Tryd.func50, Tryd.ntmps50
  go_wp2
  have k := cells3 (heap_alloc_new w (.cells #[.int .i64 53, .int .i64 (-1074), .int .u64 9218868437227405312] 71))
  obtain ⟨c0, cc1, cc2, _, _, _⟩ := k
  refine bodyPost_ret (v := .agg #[.int .i64 53, .int .i64 (-1074), .int .u64 9218868437227405312]) (by simp [results, Tryd.results50, go_sem, c0, cc1, cc2]) rfl ?_
  exact ⟨rfl, (Below.refl _ _).alloc (Nat.le_refl _) _⟩

set_option maxRecDepth 10000 in
set_option maxHeartbeats 1000000 in
theorem of32_any (w : World) :
    Calls Tryd.prog 72 #[] w fun en w' => en = .returned (.agg #[.int .i64 24, .int .i64 (-149), .int .u64 2139095040]) ∧ Below w.heap.size w w' := by
  go_enter Tryd.func72, Tryd.ntmps72
  go_wp2
  have k := cells3 (heap_alloc_new w (.cells #[.int .i64 24, .int .i64 (-149), .int .u64 2139095040] 71))
  obtain ⟨c0, cc1, cc2, _, _, _⟩ := k
  refine bodyPost_ret (v := .agg #[.int .i64 24, .int .i64 (-149), .int .u64 2139095040]) (by simp [results, Tryd.results72, go_sem, c0, cc1, cc2]) rfl ?_
  exact ⟨rfl, (Below.refl _ _).alloc (Nat.le_refl _) _⟩

/-- the value of a number's bits -/
def bitsF (h : Nat) (L : Int) (E : Nat) (s : Bool) (k : Nat) : Option D := if E ≤ k then none else formF s (numM h k) (L + numE h k)

set_option maxRecDepth 10000 in
set_option maxHeartbeats 2000000 in
theorem bits_any (h k : Nat) (L : Int) (E : Nat) (s : Bool) (w : World) (hh : h ≤ 52) (hk : k < 18446744073709551616) (hh2 : 1 ≤ h) (hL1 : -2000 ≤ L) (hL2 : L ≤ 2000) (hE : E ≤ 1000000 * 2 ^ h) (hE2 : E < 18446744073709551616) :
    Calls Tryd.prog 51 #[.agg #[.int .i64 (h + 1 : Nat), .int .i64 L, .int .u64 E], .bool s, .int .u64 k] w fun en w' => CameB w w' (bitsF h L E s k) en := by
  have hN := fun W (hlt : k < E) => number_any h k L E W hh hk hh2 hL1 hL2 (by
    have : k / 2 ^ h < 1000000 := Nat.div_lt_of_lt_mul (by rw [Nat.mul_comm]; omega)
    omega)
  have hml : (words (numM h k)).length ≤ 2 := by
    refine words_len_le ?_
    have hp := Nat.two_pow_pos h
    have hp52 : 2 ^ h ≤ 4503599627370496 := by have := Nat.pow_le_pow_right (show 0 < 2 by decide) hh; simpa using this
    unfold numM; have := Nat.mod_lt k hp; split <;> omega
  have hne : numE h k ≤ k := by unfold numE; have := Nat.div_le_self k (2 ^ h); omega
  have hne2 : k < E → numE h k ≤ 1000000 := fun hlt => by
    have : k / 2 ^ h < 1000000 := Nat.div_lt_of_lt_mul (by rw [Nat.mul_comm]; omega)
    unfold numE; omega
  have hF := fun W a c base (hlt : k < E) (ho : Own W 64 base a c (words (numM h k))) => rform_any s a c (words (numM h k)) (L + numE h k) W (by omega) (ho.sl (W32_words _)) (by omega) (by have := hne2 hlt; omega)
  rw [num_words] at hF
  obtain ⟨o, ho⟩ : ∃ o, o = bitsF h L E s k := ⟨_, rfl⟩
  rw [← ho]
  unfold bitsF at ho
  have hF2 : ∀ W a c base, k < E → Own W 64 base a c (words (numM h k)) → Calls Tryd.prog 53 #[.bool s, .slice a (words (numM h k)).length c, .int .i64 (L + numE h k)] W fun en w' => CameB W w' o en := by
    intro W a c base hlt hw
    rw [ho, if_neg (by omega)]
    exact hF W a c base hlt hw
  have hnone : E ≤ k → o = none := fun hle => by rw [ho, if_pos hle]
  generalize numM h k = M at *
  generalize numE h k = Z at *
  have hN2 : ∀ W, k < E → Calls Tryd.prog 85 #[.agg #[.int .i64 ((h : Int) + 1), .int .i64 L, .int .u64 E], .int .u64 k] W fun en w' => ∃ a c, en = .returned (.tuple #[.slice a (words M).length c, .int .i64 (L + Z)]) ∧ Own w' 64 W.heap.size a c (words M) ∧ Below W.heap.size W w' := hN
  have HN := Lib.hid hN2; clear hN2; have HF := Lib.hid hF2; have HNONE := Lib.hid hnone; clear hN hF hF2 hnone ho hne hne2
  go_enter Tryd.func51, Tryd.ntmps51
  by_cases hle : E ≤ k
  · go_wp2_with fail
    have hb1 := ((Below.refl w.heap.size w).alloc (Nat.le_refl _) (.cells #[.int .i64 ((h : Int) + 1), .int .i64 L, .int .u64 (E : Int)] 71)).alloc (by rw [World.size_alloc]; omega) (.cells #[.bool false, .slice none 0 0, .int .i64 0] 27)
    have k2 := Cel.new (w.alloc (.cells #[.int .i64 ((h : Int) + 1), .int .i64 L, .int .u64 (E : Int)] 71)) (.bool false) (.slice none 0 0) (.int .i64 0)
    rw [World.size_alloc] at k2
    obtain ⟨c0, cc1, cc2, _, _, _⟩ := k2.facts
    refine bodyPost_ret (v := .tuple #[dyV D.zero none 0, .bool false]) (by simp [results, Tryd.results51, go_sem, dyV, D.zero, words_zero, c0, cc1, cc2]) rfl ?_
    rw [HNONE.out hle]
    exact ⟨dyV D.zero none 0, rfl, ⟨none, 0, rfl, by rw [show (outO none).m = 0 from rfl, words_zero]; exact Own.none _ _ _⟩, hb1⟩
  · have hlt : k < E := by omega
    go_wp2_with fail
    obtain ⟨w1, h1⟩ : ∃ W, W = w.alloc (.cells #[.int .i64 ((h : Int) + 1), .int .i64 L, .int .u64 (E : Int)] 71) := ⟨_, rfl⟩
    rw [← h1]
    obtain ⟨k1, hB, s1⟩ := new_of h1 rfl
    clear h1
    (obtain ⟨w2, h2⟩ : ∃ W, W = (w1.alloc (.cells #[.bool false, .slice none 0 0, .int .i64 0] 27)) := ⟨_, rfl⟩; have pinEq := h2; (try simp only [wr3] at pinEq); rw [← pinEq]; clear pinEq)
    obtain ⟨k2, b2, s2⟩ := new_cel h2 s1
    replace hB := below_call b2 hB (by omega)
    clear h2 b2 k1
    refine (HN.out w2 hlt).mono ?_; rintro en w3 ⟨a1, c1, rfl, ho1, hb⟩
    (replace k2 := cel_call hb k2 (by omega); replace hB := below_call hb hB (by omega))
    have s3 := hb.size
    clear hb; obtain ⟨q102x0x0, q102x0x1, q102x0x2, q102x0x3, q102x0x4, q102x0x5⟩ := Cel.facts k2
    go_wp2_with fail
    refine (HF.out w3 _ _ _ hlt ho1).mono ?_; rintro en w4 ⟨v, rfl, ⟨a3, c3, rfl, ho3⟩, hb⟩
    (replace ho1 := own_call hb ho1; replace k2 := cel_call hb k2 (by omega); replace hB := below_call hb hB (by omega))
    have s4 := hb.size
    clear hb; (clear q102x0x0 q102x0x1 q102x0x2 q102x0x3 q102x0x4 q102x0x5; obtain ⟨q107x0x0, q107x0x1, q107x0x2, q107x0x3, q107x0x4, q107x0x5⟩ := Cel.facts k2)
    simp only [dyV]
    go_wp2
    obtain ⟨c0, cc1, cc2, _, _, _⟩ := k2.facts
    refine bodyPost_ret (v := .tuple #[dyV (outO o) a3 c3, .bool o.isSome]) (by simp [results, Tryd.results51, go_sem, dyV, c0, cc1, cc2]) rfl ?_
    exact ⟨_, rfl, ⟨a3, c3, rfl, (own_wr3 (g := w.heap.size + 1) ho3 (by omega)).mono (by omega)⟩, below_wr3 (g := w.heap.size + 1) hB (by omega)⟩

/-- the value of 64 bits, if it is a finite number's -/
def ofF (b : Nat) : Option D := bitsF 52 (-1074) 9218868437227405312 (decide (9223372036854775808 ≤ b)) (b % 9223372036854775808)
def errOf (o : Option D) : Int := if o.isNone then 30 else 0
def CameOf (w w' : World) (o : Option D) (e : Ending) : Prop := ∃ v, e = .returned (.tuple #[v, .int .i64 (errOf o)]) ∧ DOwn w' w.heap.size (outO o) v ∧ Below w.heap.size w w'

set_option maxRecDepth 10000 in
set_option maxHeartbeats 2000000 in
theorem rofd_any (b : Nat) (w : World) (hb : b < 18446744073709551616) :
    Calls Tryd.prog 12 #[.float .f64 b] w fun en w' => CameOf w w' (ofF b) en := by
  have hx := ext_bits64 b
  have hBt : ∀ W, Calls Tryd.prog 51 #[.agg #[.int .i64 53, .int .i64 (-1074), .int .u64 9218868437227405312], .bool ((b : Int) / 9223372036854775808 == 1), .int .u64 (IntKind.u64.wrap ((b : Int) * 2) / 2)] W fun en w' => CameB W w' (ofF b) en := by
    intro W
    have h1 : ((b : Int) / 9223372036854775808 == 1) = decide (9223372036854775808 ≤ b) := by
      by_cases h : 9223372036854775808 ≤ b
      · have : (b : Int) / 9223372036854775808 = 1 := by omega
        simp [h, this]
      · have : (b : Int) / 9223372036854775808 = 0 := by omega
        simp [h, this]
    have h2 : IntKind.u64.wrap ((b : Int) * 2) / 2 = ((b % 9223372036854775808 : Nat) : Int) := by rw [IntKind.wrap_u64]; omega
    rw [h1, h2]
    exact bits_any 52 (b % 9223372036854775808) (-1074) 9218868437227405312 (decide (9223372036854775808 ≤ b)) W (by decide) (by omega) (by decide) (by decide) (by decide) (by decide) (by decide)
  generalize ofF b = o at *
  have HBt := Lib.hid hBt; clear hBt
  go_enter Tryd.func12, Tryd.ntmps12
  go_wp2_with fail
  (obtain ⟨w1, h1⟩ : ∃ W, W = (w.alloc (.cells #[.bool false, .slice none 0 0, .int .i64 0] 27)) := ⟨_, rfl⟩; have pinEq := h1; (try simp only [wr3] at pinEq); rw [← pinEq]; clear pinEq)
  obtain ⟨k1, hB, s1⟩ := new_cel h1 rfl
  clear h1
  refine (of64_any w1).mono ?_; rintro en w2 ⟨rfl, hb2⟩
  (replace k1 := cel_call hb2 k1 (by omega); replace hB := below_call hb2 hB (by omega))
  have s2 := hb2.size
  clear hb2; obtain ⟨q145x0x0, q145x0x1, q145x0x2, q145x0x3, q145x0x4, q145x0x5⟩ := Cel.facts k1
  go_wp2_with fail
  refine (HBt.out w2).mono ?_; rintro en w3 ⟨v, rfl, ⟨a1, c1, rfl, ho⟩, hb⟩
  (replace k1 := cel_call hb k1 (by omega); replace hB := below_call hb hB (by omega))
  have s3 := hb.size
  clear hb
  simp only [dyV]
  have hcN := Cel.new w3 (.bool (outO o).neg) (.slice a1 (words (outO o).m).length c1) (.int .i64 (outO o).exp)
  have hcA := k1.alloc (.cells #[.bool (outO o).neg, .slice a1 (words (outO o).m).length c1, .int .i64 (outO o).exp] 27)
  obtain ⟨c0, cc1, c2, z0, z1, z2⟩ := hcA.facts
  obtain ⟨d0, d1, d2, y0, y1, y2⟩ := hcN.facts
  have hb2 := hB.alloc hB.size (.cells #[.bool (outO o).neg, .slice a1 (words (outO o).m).length c1, .int .i64 (outO o).exp] 27)
  have ho2 := ho.grow ((Below.refl _ _).alloc (Nat.le_refl _) (.cells #[.bool (outO o).neg, .slice a1 (words (outO o).m).length c1, .int .i64 (outO o).exp] 27))
  have HB2 := Lib.hid hb2; have HO2 := Lib.hid ho2; clear hb2 ho2 hcN hcA
  cases o with
  | none =>
    simp only [Option.isSome]
    go_wp2
    refine bodyPost_ret (v := .tuple #[dyV D.zero none 0, .int .i64 30]) (by simp [results, Tryd.results12, go_sem, dyV, D.zero, words_zero, c0, cc1, c2]) rfl ?_
    refine ⟨_, rfl, ⟨none, 0, rfl, ?_⟩, below_wr3 (g := w.heap.size) HB2.out (Nat.le_refl _)⟩
    rw [show (outO none).m = 0 from rfl, words_zero]; exact Own.none _ _ _
  | some d =>
    simp only [Option.isSome]
    go_wp2
    refine bodyPost_ret (v := .tuple #[dyV (outO (some d)) a1 c1, .int .i64 0]) (by simp [results, Tryd.results12, go_sem, dyV, c0, cc1, c2]) rfl ?_
    exact ⟨_, rfl, ⟨a1, c1, rfl, (own_wr3 HO2.out (by omega)).mono (by omega)⟩, below_wr3 HB2.out (Nat.le_refl _)⟩
end Go.Proofs.YtmokomfneikipaaDoor
