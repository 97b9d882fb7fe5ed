/- Products of Dyads, in numbers; contracts of dyad.Mul and of steelyardref03.Mul. Contracts of dyad.Round, Round32. Contracts of steelyardref03's below, half. Contract of steelyardref03's half. Contract of steelyardref03's Nearby. Contracts of steelyardref03's Round, Round32. Contracts of steelyardref03's Alike, Alike32 and of math.Inf. The chapter's examples, in numbers. Contract of steelyardlaw03.awake. No statement of the seat is proved here. -/
import Derived.Test.YthdbapibbdkclaaDoorProg
import Derived.Test.YthdbapibbdkclaaDoorME
import Derived.Test.YthdbapibbdkclaaDoorMR
import Derived.Test.YthdbapibbdkclaaDoorMG
namespace Go.Proofs.YthdbapibbdkclaaDoor
open Go.RowKit
set_option linter.unusedVariables false
set_option linter.unusedSimpArgs false

def D.Odd (d : D) : Prop := d.m = 0 ∨ d.m % 2 = 1
theorem formF_odd {s : Bool} {n : Nat} {e : Int} {d : D} (h : formF s n e = some d) : d.Odd := by
  unfold formF at h
  split at h
  · cases h; exact .inl rfl
  · rename_i h0
    split at h
    · cases h
    · cases h
      obtain ⟨m, h1, h2⟩ := low_spec h0
      refine .inr ?_
      dsimp only
      have : n / 2 ^ low n = m := by
        conv => lhs; arg 1; rw [h1]
        exact Nat.mul_div_cancel_left _ (Nat.two_pow_pos _)
      rw [this]; exact h2
theorem low_odd {m : Nat} (h : m % 2 = 1) : low m = 0 := by
  have := low_eq (k := 0) h
  rwa [Nat.pow_zero, Nat.one_mul] at this
/-- the product of two forms -/
def mulD (p q : D) : Option D := formF (p.neg != q.neg) (p.m * q.m) (p.exp + q.exp)
def mulO : Option D → Option D → Option D
  | some p, some q => mulD p q
  | _, _ => none
theorem mulD_long {p q : D} (hp : p.Odd) (hq : q.Odd) (h : 8192 < (words (p.m * q.m)).length) : mulD p q = none := by
  have h0 : p.m * q.m ≠ 0 := by intro h0; rw [h0, words_zero] at h; simp at h
  have hp1 : p.m % 2 = 1 := by rcases hp with h1 | h1; · rw [h1, Nat.zero_mul] at h0; exact absurd rfl h0
                               · exact h1
  have hq1 : q.m % 2 = 1 := by rcases hq with h1 | h1; · rw [h1, Nat.mul_zero] at h0; exact absurd rfl h0
                               · exact h1
  have h2 : (p.m * q.m) % 2 = 1 := by rw [Nat.mul_mod, hp1, hq1]
  unfold mulD formF
  rw [if_neg h0, low_odd h2, Nat.pow_zero, Nat.div_one, if_pos (.inr (.inr h))]

set_option maxRecDepth 10000 in
set_option maxHeartbeats 2000000 in
theorem dmul_any (x y : Arg) (w : World) (hx : x.Ok w) (hy : y.Ok w) (hT : Tab w) :
    Calls Tryd.prog 113 #[x.v, y.v] w fun en w' => Came w w' (mulO x.F y.F) en := by
  have hF := fun W hw => both_any x y W (hx.grow hw) (hy.grow hw) (hT.grow hw)
  have hTab := fun W hw => hT.grow (w' := W) hw
  obtain ⟨o, ho⟩ : ∃ o, o = x.F := ⟨_, rfl⟩
  obtain ⟨o', ho'⟩ : ∃ o, o = y.F := ⟨_, rfl⟩
  have hok : ∀ p, o = some p → p.Ok := fun p h => formF_ok (by rw [← h, ho]; rfl)
  have hod : ∀ p, o = some p → p.Odd := fun p h => formF_odd (by rw [← h, ho]; rfl)
  have hok' : ∀ p, o' = some p → p.Ok := fun p h => formF_ok (by rw [← h, ho']; rfl)
  have hod' : ∀ p, o' = some p → p.Odd := fun p h => formF_odd (by rw [← h, ho']; rfl)
  rw [← ho, ← ho'] at hF ⊢
  have HF := Lib.hid hF; have HTab := Lib.hid hTab; have HOK := Lib.hid hok; have HOK' := Lib.hid hok'; have HOD := Lib.hid hod; have HOD' := Lib.hid hod'; clear hod hod' hF hx hy ho ho' hT hTab hok hok'
  obtain ⟨s, a, l, c, e⟩ := x
  obtain ⟨s', a', l', c', e'⟩ := y
  simp only [Arg.v] at HF ⊢
  go_enter Tryd.func113, Tryd.ntmps113
  go_wp2_with fail
  (obtain ⟨w1, h1⟩ : ∃ W, W = (w.alloc (.cells #[.bool s, .slice a l.length c, .int .i64 e] 28)) := ⟨_, rfl⟩; have pinEq := h1; (try simp only [wr3] at pinEq); rw [← pinEq]; clear pinEq)
  (obtain ⟨w2, h2⟩ : ∃ W, W = (w1.alloc (.cells #[.bool s', .slice a' l'.length c', .int .i64 e'] 28)) := ⟨_, rfl⟩; have pinEq := h2; (try simp only [wr3] at pinEq); rw [← pinEq]; clear pinEq)
  (obtain ⟨w3, h3⟩ : ∃ W, W = (w2.alloc (.cells #[.bool false, .slice none 0 0, .int .i64 0] 28)) := ⟨_, rfl⟩; have pinEq := h3; (try simp only [wr3] at pinEq); rw [← pinEq]; clear pinEq)
  obtain ⟨-, hB, s1⟩ := new_cel h1 rfl
  obtain ⟨k2, b2, s2⟩ := new_cel h2 s1
  replace hB := below_call b2 hB (by omega)
  obtain ⟨k3, b3, s3⟩ := new_cel h3 s2
  (replace k2 := cel_call b3 k2 (by omega); replace b2 := below_call b3 b2 (by omega); replace hB := below_call b3 hB (by omega))
  clear h1 h2 h3 b2 b3 k2
  refine (HF.out w3 hB).mono ?_; rintro en w4 ⟨v, v', rfl, ⟨a1, c1, rfl, ho1⟩, ⟨a2, c2, rfl, ho2⟩, hb⟩
  (replace k3 := cel_call hb k3 (by omega); replace hB := below_call hb hB (by omega))
  have s4 := hb.size
  clear hb
  simp only [dyV]
  obtain ⟨q78x0x0, q78x0x1, q78x0x2, q78x0x3, q78x0x4, q78x0x5⟩ := Cel.facts k3
  have kA := (k3.alloc (.cells #[.bool (outO o).neg, .slice a1 (words (outO o).m).length c1, .int .i64 (outO o).exp] 28)).alloc (.cells #[.bool (both2 o o').neg, .slice a2 (words (both2 o o').m).length c2, .int .i64 (both2 o o').exp] 28)
  have hBA := (hB.alloc hB.size (.cells #[.bool (outO o).neg, .slice a1 (words (outO o).m).length c1, .int .i64 (outO o).exp] 28)).alloc (by rw [World.size_alloc]; have := hB.size; omega) (.cells #[.bool (both2 o o').neg, .slice a2 (words (both2 o o').m).length c2, .int .i64 (both2 o o').exp] 28)
  have kX := (Cel.new w4 (.bool (outO o).neg) (.slice a1 (words (outO o).m).length c1) (.int .i64 (outO o).exp)).alloc (.cells #[.bool (both2 o o').neg, .slice a2 (words (both2 o o').m).length c2, .int .i64 (both2 o o').exp] 28)
  have kY := Cel.new (w4.alloc (.cells #[.bool (outO o).neg, .slice a1 (words (outO o).m).length c1, .int .i64 (outO o).exp] 28)) (.bool (both2 o o').neg) (.slice a2 (words (both2 o o').m).length c2) (.int .i64 (both2 o o').exp)
  have ho1' := (ho1.grow ((Below.refl _ _).alloc (Nat.le_refl _) (.cells #[.bool (outO o).neg, .slice a1 (words (outO o).m).length c1, .int .i64 (outO o).exp] 28))).grow ((Below.refl _ _).alloc (Nat.le_refl _) (.cells #[.bool (both2 o o').neg, .slice a2 (words (both2 o o').m).length c2, .int .i64 (both2 o o').exp] 28))
  have ho2' := (ho2.grow ((Below.refl _ _).alloc (Nat.le_refl _) (.cells #[.bool (outO o).neg, .slice a1 (words (outO o).m).length c1, .int .i64 (outO o).exp] 28))).grow ((Below.refl _ _).alloc (Nat.le_refl _) (.cells #[.bool (both2 o o').neg, .slice a2 (words (both2 o o').m).length c2, .int .i64 (both2 o o').exp] 28))
  rw [World.size_alloc] at kY
  clear ho1 ho2 k3 hB
  by_cases hno : o = none ∨ o' = none
  · have hE : bothE o o' = 2 := by rcases hno with h | h <;> rw [h] <;> simp [bothE]
    have hA : mulO o o' = none := by
      rcases hno with h | h
      · rw [h]; rfl
      · rw [h]; cases o <;> rfl
    rw [hE]
    have HA := Lib.hid hA; clear hno hA hE
    obtain ⟨c0, cc1, cc2, _, _, _⟩ := kA.facts
    go_wp2
    refine bodyPost_ret (v := .tuple #[dyV D.zero none 0, .int .i64 2]) (by simp [results, Tryd.results113, go_sem, dyV, D.zero, words_zero, c0, cc1, cc2]) rfl ?_
    rw [HA.out]
    refine ⟨dyV D.zero none 0, rfl, ⟨none, 0, rfl, ?_⟩, below_wr3 (g := w.heap.size + 1 + 1) hBA (by omega)⟩
    rw [show (outO none).m = 0 from rfl, words_zero]; exact Own.none _ _ _
  obtain ⟨p, rfl⟩ : ∃ p, o = some p := by cases o with | none => simp at hno | some p => exact ⟨p, rfl⟩
  obtain ⟨q, rfl⟩ : ∃ p, o' = some p := by cases o' with | none => simp at hno | some p => exact ⟨p, rfl⟩
  obtain ⟨p1, p2, p3⟩ := HOK.out p rfl
  obtain ⟨q1, q2, q3⟩ := HOK'.out q rfl
  have o1 := Lib.hid (HOD.out p rfl)
  have o2 := Lib.hid (HOD'.out q rfl)
  clear HOK HOK' HOD HOD' hno
  simp only [outO, both2, bothE, Option.getD, Option.isSome, Option.isNone, Bool.or_false, Bool.false_eq_true, if_false, if_true] at kA hBA kX kY ho1' ho2' ⊢
  obtain ⟨_, _, _, _, _, _⟩ := kA.facts
  obtain ⟨_, _, _, _, _, _⟩ := kX.facts
  obtain ⟨_, _, _, _, _, _⟩ := kY.facts
  go_wp2_with fail
  (obtain ⟨w6, h6⟩ : ∃ W, W = ((w4.alloc (.cells #[.bool p.neg, .slice a1 (words p.m).length c1, .int .i64 p.exp] 28)).alloc (.cells #[.bool q.neg, .slice a2 (words q.m).length c2, .int .i64 q.exp] 28)) := ⟨_, rfl⟩; have pinEq := h6; (try simp only [wr3] at pinEq); rw [← pinEq]; clear pinEq)
  have s6 : w6.heap.size = w4.heap.size + 1 + 1 := by rw [h6]; simp
  rw [← h6] at kA hBA kX kY ho1' ho2'
  clear h6
  by_cases hlong : 8192 < (words (p.m * q.m)).length
  · have hA : mulO (some p) (some q) = none := mulD_long o1.out o2.out hlong
    have HA := Lib.hid hA; clear hA
    have hM := wmul_long a1 a2 c1 c2 (words p.m) (words q.m) w6 (by omega) ho1'.cap (W32_words _) ho1'.rd (by omega) ho2'.cap (W32_words _) ho2'.rd (by rw [num_words]; exact p1) (by rw [num_words]; exact q1) (by rw [num_words, num_words]; exact hlong)
    refine hM.mono ?_
    clear hM
    rintro en w7 ⟨rfl, hb⟩
    (replace ho2' := own_call hb ho2'; replace ho1' := own_call hb ho1'; replace kY := cel_call hb kY (by omega); replace kX := cel_call hb kX (by omega); replace hBA := below_call hb hBA (by omega); replace kA := cel_call hb kA (by omega))
    have s7 := hb.size
    clear hb
    (clear q78x0x0 q78x0x1 q78x0x2 q78x0x3 q78x0x4 q78x0x5; obtain ⟨q127x0x0, q127x0x1, q127x0x2, q127x0x3, q127x0x4, q127x0x5⟩ := Cel.facts kY; obtain ⟨q127x1x0, q127x1x1, q127x1x2, q127x1x3, q127x1x4, q127x1x5⟩ := Cel.facts kX; obtain ⟨q127x2x0, q127x2x1, q127x2x2, q127x2x3, q127x2x4, q127x2x5⟩ := Cel.facts kA)
    obtain ⟨c0, cc1, cc2, _, _, _⟩ := kA.facts
    go_wp2
    refine bodyPost_ret (v := .tuple #[dyV D.zero none 0, .int .i64 2]) (by simp [results, Tryd.results113, go_sem, dyV, D.zero, words_zero, c0, cc1, cc2]) rfl ?_
    rw [HA.out]
    refine ⟨dyV D.zero none 0, rfl, ⟨none, 0, rfl, ?_⟩, below_wr3 (g := w.heap.size + 1 + 1) hBA (by omega)⟩
    rw [show (outO none).m = 0 from rfl, words_zero]; exact Own.none _ _ _
  · have hM := wmul_any a1 a2 c1 c2 (words p.m) (words q.m) w6 (by omega) ho1'.cap (W32_words _) ho1'.rd (by omega) ho2'.cap (W32_words _) ho2'.rd (by rw [num_words]; exact p1) (by rw [num_words]; exact q1) (by rw [num_words, num_words]; omega)
    rw [num_words, num_words] at hM
    refine hM.mono ?_
    clear hM
    rintro en w7 ⟨a6, rfl, ho6, hb⟩
    (replace ho2' := own_call hb ho2'; replace ho1' := own_call hb ho1'; replace kY := cel_call hb kY (by omega); replace kX := cel_call hb kX (by omega); replace hBA := below_call hb hBA (by omega); replace kA := cel_call hb kA (by omega))
    have s7 := hb.size
    clear hb
    (clear q78x0x0 q78x0x1 q78x0x2 q78x0x3 q78x0x4 q78x0x5; obtain ⟨q142x0x0, q142x0x1, q142x0x2, q142x0x3, q142x0x4, q142x0x5⟩ := Cel.facts kY; obtain ⟨q142x1x0, q142x1x1, q142x1x2, q142x1x3, q142x1x4, q142x1x5⟩ := Cel.facts kX; obtain ⟨q142x2x0, q142x2x1, q142x2x2, q142x2x3, q142x2x4, q142x2x5⟩ := Cel.facts kA)
    have hl : (words (p.m * q.m)).length ≤ 8192 := by omega
    have hFo : ∀ W a6 c6 base, Own W 82 base a6 c6 (words (p.m * q.m)) → Below w.heap.size w W → Calls Tryd.prog 100 #[.bool (p.neg != q.neg), .slice a6 (words (p.m * q.m)).length c6, .int .i64 (p.exp + q.exp)] W fun en w' => Came W w' (mulO (some p) (some q)) en := by
      intro W a6 c6 base r4 r5
      have := dform_any (p.neg != q.neg) a6 c6 (words (p.m * q.m)) (p.exp + q.exp) W (by omega) (W32_words _) r4.rd (by omega) (by omega) (HTab.out W r5)
      rw [num_words] at this
      exact this
    have HFo := Lib.hid hFo; clear hFo
    generalize p.m * q.m = R at *
    go_wp2_with fail
    refine (HFo.out _ _ _ _ ho6 hBA).mono ?_
    rintro en w8 ⟨v, rfl, ⟨a7, c7, rfl, ho7⟩, hb⟩
    (replace ho2' := own_call hb ho2'; replace ho1' := own_call hb ho1'; replace kY := cel_call hb kY (by omega); replace kX := cel_call hb kX (by omega); replace hBA := below_call hb hBA (by omega); replace kA := cel_call hb kA (by omega); replace ho6 := own_call hb ho6)
    have s8 := hb.size
    clear hb; (clear q142x0x0 q142x0x1 q142x0x2 q142x0x3 q142x0x4 q142x0x5 q142x1x0 q142x1x1 q142x1x2 q142x1x3 q142x1x4 q142x1x5 q142x2x0 q142x2x1 q142x2x2 q142x2x3 q142x2x4 q142x2x5; obtain ⟨q156x0x0, q156x0x1, q156x0x2, q156x0x3, q156x0x4, q156x0x5⟩ := Cel.facts kY; obtain ⟨q156x1x0, q156x1x1, q156x1x2, q156x1x3, q156x1x4, q156x1x5⟩ := Cel.facts kX; obtain ⟨q156x2x0, q156x2x1, q156x2x2, q156x2x3, q156x2x4, q156x2x5⟩ := Cel.facts kA)
    simp only [dyV]
    go_wp2
    obtain ⟨c0, cc1, cc2, _, _, _⟩ := kA.facts
    refine bodyPost_ret (v := .tuple #[dyV (outO (mulO (some p) (some q))) a7 c7, .int .i64 (errO (mulO (some p) (some q)))]) (by simp [results, Tryd.results113, go_sem, dyV, c0, cc1, cc2]) rfl ?_
    exact ⟨_, rfl, ⟨a7, c7, rfl, (own_wr3 (g := w.heap.size + 1 + 1) ho7 (by omega)).mono (by omega)⟩, below_wr3 (g := w.heap.size + 1 + 1) hBA (by omega)⟩

end Go.Proofs.YthdbapibbdkclaaDoor
namespace Go.Proofs.YthdbapibbdkclaaDoor
open Go.RowKit
set_option linter.unusedVariables false
set_option linter.unusedSimpArgs false

/-- what a rounding answers: the bits r, the number er; S: the bit of a sign -/
def RoundsTo (h : Nat) (L : Int) (E S : Nat) (mode : Int) (o : Option D) (r : Nat) (er : Int) : Prop :=
  (mode < 0 ∨ 4 < mode) ∧ r = 0 ∧ er = 1 ∨ (0 ≤ mode ∧ mode ≤ 4) ∧ (o = none ∧ r = 0 ∧ er = 2 ∨ ∃ d k, o = some d ∧ Rounds h L E d mode k ∧ r = k + (if d.neg = true then S else 0) ∧ er = 0)
theorem RoundsTo.uniq {h : Nat} {L : Int} {E S : Nat} {mode : Int} {o : Option D} {r r' : Nat} {er er' : Int} (a : RoundsTo h L E S mode o r er) (b : RoundsTo h L E S mode o r' er') : r = r' ∧ er = er' := by
  rcases a with ⟨m1, rfl, rfl⟩ | ⟨m1, a⟩
  · rcases b with ⟨m2, rfl, rfl⟩ | ⟨m2, b⟩
    · exact ⟨rfl, rfl⟩
    · clear b; omega
  · rcases b with ⟨m2, rfl, rfl⟩ | ⟨m2, b⟩
    · clear a; omega
    · rcases a with ⟨rfl, rfl, rfl⟩ | ⟨d, k, rfl, h1, rfl, rfl⟩
      · rcases b with ⟨_, rfl, rfl⟩ | ⟨d', k', h2, _⟩
        · exact ⟨rfl, rfl⟩
        · cases h2
      · rcases b with ⟨h2, _⟩ | ⟨d', k', h2, h3, rfl, rfl⟩
        · cases h2
        · cases h2; rw [h1.uniq h3]; exact ⟨rfl, rfl⟩
theorem neg64 {k : Nat} (hk : k < 9223372036854775808) : Op.negFloat .f64 k = k + 9223372036854775808 := by
  show k ^^^ 2 ^ 63 = _
  apply Nat.eq_of_testBit_eq
  intro i
  rw [Nat.testBit_xor, Nat.testBit_two_pow, show k + 9223372036854775808 = 2 ^ 63 + k by omega]
  by_cases h : 63 = i
  · subst h
    rw [Nat.testBit_two_pow_add_eq]; simp
  · rcases Nat.lt_or_ge i 63 with h1 | h1
    · rw [Nat.testBit_two_pow_add_gt h1]; simp [h]
    · rw [Nat.testBit_lt_two_pow (show k < 2 ^ i from Nat.lt_of_lt_of_le (by omega : k < 2 ^ 63) (Nat.pow_le_pow_right (by decide) h1)), Nat.testBit_lt_two_pow (show 2 ^ 63 + k < 2 ^ i from Nat.lt_of_lt_of_le (by omega : 2 ^ 63 + k < 2 ^ 64) (Nat.pow_le_pow_right (by decide) (by omega)))]
      simp [h]
theorem neg32 {k : Nat} (hk : k < 2147483648) : Op.negFloat .f32 k = k + 2147483648 := by
  show k ^^^ 2 ^ 31 = _
  apply Nat.eq_of_testBit_eq
  intro i
  rw [Nat.testBit_xor, Nat.testBit_two_pow, show k + 2147483648 = 2 ^ 31 + k by omega]
  by_cases h : 31 = i
  · subst h
    rw [Nat.testBit_two_pow_add_eq]; simp
  · rcases Nat.lt_or_ge i 31 with h1 | h1
    · rw [Nat.testBit_two_pow_add_gt h1]; simp [h]
    · rw [Nat.testBit_lt_two_pow (show k < 2 ^ i from Nat.lt_of_lt_of_le (by omega : k < 2 ^ 31) (Nat.pow_le_pow_right (by decide) h1)), Nat.testBit_lt_two_pow (show 2 ^ 31 + k < 2 ^ i from Nat.lt_of_lt_of_le (by omega : 2 ^ 31 + k < 2 ^ 32) (Nat.pow_le_pow_right (by decide) (by omega)))]
      simp [h]

theorem run_neg64 {k : Nat} (hk : k < 9223372036854775808) (W : World) : (Op.unary .neg (.float .f64 k)).run Tryd.prog W = .ok (.float .f64 (k + 9223372036854775808)) W := by
  rw [← neg64 hk]; rfl
theorem run_neg32 {k : Nat} (hk : k < 2147483648) (W : World) : (Op.unary .neg (.float .f32 k)).run Tryd.prog W = .ok (.float .f32 (k + 2147483648)) W := by
  rw [← neg32 hk]; rfl

set_option maxRecDepth 10000 in
set_option maxHeartbeats 2000000 in
theorem dround_any (x : Arg) (mode : Int) (w : World) (hx : x.Ok w) (hT : Tab w) :
    Calls Tryd.prog 87 #[x.v, .int .i64 mode] w fun en w' => (∃ (r : Nat) (er : Int), en = .returned (.tuple #[.float .f64 r, .int .i64 er]) ∧ RoundsTo 52 (-1074) 9218868437227405312 9223372036854775808 mode x.F r er) ∧ Below w.heap.size w w' := by
  have hTo := fun W (hw : Below w.heap.size w W) => dtold_any x mode W (hx.grow hw) (hT.grow hw)
  have hok : ∀ d, x.F = some d → d.Ok ∧ (d.m = 0 ∨ d.m % 2 = 1) := fun d h => ⟨formF_ok h, formF_odd h⟩
  generalize x.F = o at *
  have HTo := Lib.hid hTo; have HOK := Lib.hid hok; clear hTo hok hx hT
  obtain ⟨s, a, l, c, e⟩ := x
  simp only [Arg.v] at HTo ⊢
  have hcase : (errT mode o ≠ 0 ∧ RoundsTo 52 (-1074) 9218868437227405312 9223372036854775808 mode o 0 (errT mode o)) ∨ ∃ d, errT mode o = 0 ∧ outT mode o = d ∧ o = some d ∧ 0 ≤ mode ∧ mode ≤ 4 := by
    unfold errT outT RoundsTo
    by_cases hm : mode < 0 ∨ 4 < mode
    · rw [if_pos hm]; exact .inl ⟨by decide, .inl ⟨hm, rfl, rfl⟩⟩
    · rw [if_neg hm, if_neg hm]
      cases o with
      | none => exact .inl ⟨by decide, .inr ⟨by omega, .inl ⟨rfl, rfl, rfl⟩⟩⟩
      | some d => exact .inr ⟨d, rfl, rfl, rfl, by omega, by omega⟩
  unfold CameT at HTo
  have HC := Lib.hid hcase; clear hcase
  generalize errT mode o = er at *
  generalize outT mode o = ot at *
  go_enter Tryd.func87, Tryd.ntmps87
  go_wp2_with fail
  (obtain ⟨w1, h1⟩ : ∃ W, W = (w.alloc (.cells #[.bool s, .slice a l.length c, .int .i64 e] 28)) := ⟨_, rfl⟩; have pinEq := h1; (try simp only [wr3] at pinEq); rw [← pinEq]; clear pinEq)
  obtain ⟨k1, hB, s1⟩ := new_cel h1 rfl
  clear h1
  obtain ⟨q85x0x0, q85x0x1, q85x0x2, q85x0x3, q85x0x4, q85x0x5⟩ := Cel.facts k1
  refine (HTo.out w1 hB).mono ?_; rintro en w2 ⟨v, rfl, ⟨a1, c1, rfl, ho1⟩, hb⟩
  (replace k1 := cel_call hb k1 (by omega); replace hB := below_call hb hB (by omega))
  have s2 := hb.size
  clear hb
  simp only [dyV]
  have kn := Cel.new w2 (.bool ot.neg) (.slice a1 (words ot.m).length c1) (.int .i64 ot.exp)
  have hB3 := hB.alloc hB.size (.cells #[.bool ot.neg, .slice a1 (words ot.m).length c1, .int .i64 ot.exp] 28)
  have ho3 := ho1.grow ((Below.refl w2.heap.size w2).alloc (Nat.le_refl _) (.cells #[.bool ot.neg, .slice a1 (words ot.m).length c1, .int .i64 ot.exp] 28))
  rcases HC.out with ⟨her, hr⟩ | ⟨d, her, hot, hod, hm0, hm4⟩
  · have e1 : (er != 0) = true := by simpa using her
    have HR := Lib.hid hr; have HB3 := Lib.hid hB3; clear hr hB3 her HC
    go_wp2_with fail
    go_ret2
    exact ⟨⟨0, er, rfl, HR.out⟩, HB3.out⟩
  · subst hot
    subst hod
    obtain ⟨hdo, hdd⟩ := HOK.out ot rfl
    have e1 : (er != 0) = false := by rw [her]; rfl
    have HB3 := Lib.hid hB3; clear hB3 her HC
    have hon := on_any 52 2047 (-1074) 9218868437227405312 ot mode a1 c1 w1.heap.size _ (by decide) (by decide) (by decide) (by decide) (by decide) (by decide) (by decide) hdo ho3
    have hR := on_rounds 52 (-1074) 9218868437227405312 2047 ot mode (by decide) (by decide) (by decide) hdd hm0 hm4
    obtain ⟨k, hk⟩ : ∃ k, k = onF 52 (-1074) 9218868437227405312 ot mode := ⟨_, rfl⟩
    rw [← hk] at hon hR
    clear hk
    have hle := hR.le
    have hx := ext_from64 k
    have hng := run_neg64 (k := k) (by omega)
    obtain ⟨_, _, _, _, _, _⟩ := kn.facts
    have Hon := Lib.hid hon; have HR := Lib.hid hR; clear hon hR ho1 ho3
    simp only [dyV] at Hon
    go_wp2_with fail
    refine Hon.out.mono ?_; rintro en w4 ⟨rfl, hb4⟩
    have kn4 := kn.below hb4 kn.lt
    have hB4 := HB3.out.trans (hb4.mono HB3.out.size)
    obtain ⟨_, _, _, _, _, _⟩ := kn4.facts
    have HB4 := Lib.hid hB4; clear hB4
    have hE : ∀ (r : Nat), r = k + (if ot.neg = true then 9223372036854775808 else 0) → RoundsTo 52 (-1074) 9218868437227405312 9223372036854775808 mode (some ot) r 0 := fun r h => .inr ⟨⟨hm0, hm4⟩, .inr ⟨ot, k, rfl, HR.out, h, rfl⟩⟩
    have HE := Lib.hid hE; clear hE
    generalize hneg : ot.neg = ng at *
    cases ng with
    | true =>
      go_wp2_with fail
      go_ret2
      exact ⟨⟨k + 9223372036854775808, 0, rfl, HE.out _ (by simp)⟩, HB4.out⟩
    | false =>
      go_wp2_with fail
      go_ret2
      exact ⟨⟨k, 0, rfl, HE.out _ (by simp)⟩, HB4.out⟩
end Go.Proofs.YthdbapibbdkclaaDoor
namespace Go.Proofs.YthdbapibbdkclaaDoor
open Go.RowKit
set_option linter.unusedVariables false
set_option linter.unusedSimpArgs false

theorem numM_len (h k : Nat) (hh : h ≤ 52) : (words (numM h k)).length ≤ 2 := by
  refine words_len_le ?_
  have hp := Nat.two_pow_pos h
  have hp52 : 2 ^ h ≤ 4503599627370496 := by have := Nat.pow_le_pow_right (show 0 < 2 by decide) hh; simpa using this
  unfold numM; have := Nat.mod_lt k hp; split <;> omega
theorem numE_bd {h k : Nat} (hk : k / 2 ^ h ≤ 1000000) : numE h k ≤ 1000000 := by unfold numE; omega

end Go.Proofs.YthdbapibbdkclaaDoor
namespace Go.Proofs.YthdbapibbdkclaaDoor
open Go.RowKit
set_option linter.unusedVariables false
set_option linter.unusedSimpArgs false

end Go.Proofs.YthdbapibbdkclaaDoor
namespace Go.Proofs.YthdbapibbdkclaaDoor
open Go.RowKit
set_option linter.unusedVariables false
set_option linter.unusedSimpArgs false

end Go.Proofs.YthdbapibbdkclaaDoor
namespace Go.Proofs.YthdbapibbdkclaaDoor
open Go.RowKit
set_option linter.unusedVariables false
set_option linter.unusedSimpArgs false

end Go.Proofs.YthdbapibbdkclaaDoor
namespace Go.Proofs.YthdbapibbdkclaaDoor
open Go.RowKit
set_option linter.unusedVariables false
set_option linter.unusedSimpArgs false

set_option maxRecDepth 10000 in
set_option maxHeartbeats 1000000 in
theorem alike_any (a b : Nat) (w : World) :
    Calls Tryd.prog 23 #[.float .f64 a, .float .f64 b] w fun en w' => en = .returned (.bool (decide (a = b))) ∧ w = w' := by
  have h1 := ext_bits64 a
  have h2 := ext_bits64 b
  have h3 : ((a : Int) == (b : Int)) = decide (a = b) := by
    by_cases h : a = b
    · simp [h]
    · simp [h]; omega
  go_enter Tryd.func23, Tryd.ntmps23
  go_wp2
  go_ret
  exact ⟨rfl, rfl⟩
set_option maxRecDepth 10000 in
set_option maxHeartbeats 1000000 in
theorem inf_any (w : World) :
    Calls Tryd.prog 155 #[.int .i64 1] w fun en w' => en = .returned (.float .f64 9218868437227405312) ∧ w = w' := by
  have h1 := ext_from64 9218868437227405312
  rw [show ((9218868437227405312 : Nat) : Int) = 9218868437227405312 from rfl] at h1
  go_enter Tryd.func155, Tryd.ntmps155
  go_wp2
  go_ret
  exact ⟨rfl, rfl⟩
end Go.Proofs.YthdbapibbdkclaaDoor
namespace Go.Proofs.YthdbapibbdkclaaDoor
open Go.RowKit
set_option linter.unusedVariables false
set_option linter.unusedSimpArgs false

theorem formF_at {s : Bool} {m k : Nat} {e : Int} (hm : m % 2 = 1) (h64 : m < 18446744073709551616) (h1 : -1048576 ≤ e + k) (h2 : e + k ≤ 1048576) : formF s (2 ^ k * m) e = some ⟨s, m, e + k⟩ := by
  have hp := Nat.two_pow_pos k
  have h0 : 2 ^ k * m ≠ 0 := by
    have := Nat.mul_pos hp (show 0 < m by omega); omega
  unfold formF
  rw [if_neg h0, low_eq hm, Nat.mul_div_cancel_left _ hp]
  have hl : (words m).length ≤ 2 := words_len_le (by omega)
  rw [if_neg (by omega)]
theorem ofF_three4 : ofF 4604930618986332160 = some ⟨false, 3, -2⟩ := by
  have h := @formF_at false 3 51 (-1074 + 1021) (by decide) (by decide) (by decide) (by decide)
  have hM : numM 52 4604930618986332160 = 2 ^ 51 * 3 := by decide
  have hE : numE 52 4604930618986332160 = 1021 := by decide
  unfold ofF bitsF
  rw [if_neg (by decide), show (4604930618986332160 % 9223372036854775808 : Nat) = 4604930618986332160 by decide, hM, hE, show decide (9223372036854775808 ≤ 4604930618986332160) = false by decide]
  exact h
theorem ofF_inf : ofF 9218868437227405312 = none := by
  unfold ofF bitsF
  rw [if_pos (by decide)]
theorem intF_four : intF 4 = some ⟨false, 1, 2⟩ := by
  have h := @formF_at false 1 2 0 (by decide) (by decide) (by decide) (by decide)
  exact h
theorem addF_nineteen : addO (some ⟨false, 3, -2⟩) (some ⟨false, 1, 2⟩) = some ⟨false, 19, -2⟩ := by
  have h := @formF_at false 19 0 (-2) (by decide) (by decide) (by decide) (by decide)
  have h3 : (words 3).length ≤ 2 := words_len_le (by decide)
  have h16 : (words 16).length ≤ 2 := words_len_le (by decide)
  show addD ⟨false, 3, -2⟩ ⟨false, 1, 2⟩ = _
  unfold addD
  rw [if_neg (by decide), if_neg (by decide), if_neg]
  · rw [if_pos rfl]; exact h
  · show ¬ (8192 < (words 3).length ∨ 8192 < (words 16).length)
    omega
theorem form_two53 : formF false (num [1, 2097152]) 0 = some ⟨false, 9007199254740993, 0⟩ := by
  have h := @formF_at false 9007199254740993 0 0 (by decide) (by decide) (by decide) (by decide)
  exact h
theorem form_small : formF true (num [1]) (-1075) = some ⟨true, 1, -1075⟩ := by
  have h := @formF_at true 1 0 (-1075) (by decide) (by decide) (by decide) (by decide)
  exact h
theorem bitLen_at {n k : Nat} (h1 : 2 ^ k ≤ n) (h2 : n < 2 ^ (k + 1)) : bitLen n = k + 1 := by
  have h3 := bitLen_lt h2
  rcases Nat.lt_or_ge (bitLen n) (k + 1) with h4 | h4
  · have := (bitLen_spec n).1
    have := Nat.lt_of_lt_of_le this (Nat.pow_le_pow_right (show 0 < 2 by decide) (show bitLen n ≤ k by omega))
    omega
  · omega
theorem rounds_to {mode : Int} {d : D} {k r : Nat} {er : Int} (hd : d.m = 0 ∨ d.m % 2 = 1) (h0 : 0 ≤ mode) (h4 : mode ≤ 4) (hk : onF 52 (-1074) 9218868437227405312 d mode = k) (h : RoundsTo 52 (-1074) 9218868437227405312 9223372036854775808 mode (some d) r er) : r = k + (if d.neg = true then 9223372036854775808 else 0) ∧ er = 0 := by
  have hR := on_rounds 52 (-1074) 9218868437227405312 2047 d mode (by decide) (by decide) (by decide) hd h0 h4
  rw [hk] at hR
  exact h.uniq (.inr ⟨⟨h0, h4⟩, .inr ⟨d, k, rfl, hR, rfl, rfl⟩⟩)
theorem on_two53_up : onF 52 (-1074) 9218868437227405312 ⟨false, 9007199254740993, 0⟩ 2 = 4845873199050653697 := by
  have hb : bitLen 9007199254740993 = 53 + 1 := bitLen_at (by decide) (by decide)
  unfold onF expN
  simp only [hb]
  decide
theorem on_two53_even : onF 52 (-1074) 9218868437227405312 ⟨false, 9007199254740993, 0⟩ 0 = 4845873199050653696 := by
  have hb : bitLen 9007199254740993 = 53 + 1 := bitLen_at (by decide) (by decide)
  unfold onF expN
  simp only [hb]
  decide
theorem on_small : onF 52 (-1074) 9218868437227405312 ⟨true, 1, -1075⟩ 0 = 0 := by
  have hb : bitLen 1 = 0 + 1 := bitLen_at (by decide) (by decide)
  unfold onF expN
  simp only [hb]
  decide
end Go.Proofs.YthdbapibbdkclaaDoor
namespace Go.Proofs.YthdbapibbdkclaaDoor
open Go.RowKit
set_option linter.unusedVariables false
set_option linter.unusedSimpArgs false

theorem eq64a (W : World) : (binOp .eql 36 (.float .f64 4845873199050653697) (.float .f64 4845873199050653697)).run Tryd.prog W = .ok (.bool true) W := by kernel_rfl
theorem eq64b (W : World) : (binOp .eql 36 (.float .f64 4845873199050653696) (.float .f64 4845873199050653696)).run Tryd.prog W = .ok (.bool true) W := by kernel_rfl

end Go.Proofs.YthdbapibbdkclaaDoor
