/- Contracts of dyad.Round, Round32. No statement of the seat is proved here. -/
import Derived.Test.YtmokomfneikipaaDoorProg
import Derived.Test.YtmokomfneikipaaDoorEd
import Derived.Test.YtmokomfneikipaaDoorDi
namespace Go.Proofs.YtmokomfneikipaaDoor
open Go.RowKit
set_option linter.unusedVariables false
set_option linter.unusedSimpArgs false

/-- what a rounding answers: the bits r, the number er; S: the bit of a sign -/
def RoundsTo (h : Nat) (L : Int) (E S : Nat) (mode : Int) (o : Option D) (r : Nat) (er : Int) : Prop :=
  (mode < 0 ∨ 4 < mode) ∧ r = 0 ∧ er = 1 ∨ (0 ≤ mode ∧ mode ≤ 4) ∧ (o = none ∧ r = 0 ∧ er = 2 ∨ ∃ d k, o = some d ∧ Rounds h L E d mode k ∧ r = k + (if d.neg = true then S else 0) ∧ er = 0)
theorem RoundsTo.uniq {h : Nat} {L : Int} {E S : Nat} {mode : Int} {o : Option D} {r r' : Nat} {er er' : Int} (a : RoundsTo h L E S mode o r er) (b : RoundsTo h L E S mode o r' er') : r = r' ∧ er = er' := by
  rcases a with ⟨m1, rfl, rfl⟩ | ⟨m1, a⟩
  · rcases b with ⟨m2, rfl, rfl⟩ | ⟨m2, b⟩
    · exact ⟨rfl, rfl⟩
    · clear b; omega
  · rcases b with ⟨m2, rfl, rfl⟩ | ⟨m2, b⟩
    · clear a; omega
    · rcases a with ⟨rfl, rfl, rfl⟩ | ⟨d, k, rfl, h1, rfl, rfl⟩
      · rcases b with ⟨_, rfl, rfl⟩ | ⟨d', k', h2, _⟩
        · exact ⟨rfl, rfl⟩
        · cases h2
      · rcases b with ⟨h2, _⟩ | ⟨d', k', h2, h3, rfl, rfl⟩
        · cases h2
        · cases h2; rw [h1.uniq h3]; exact ⟨rfl, rfl⟩
theorem neg64 {k : Nat} (hk : k < 9223372036854775808) : Op.negFloat .f64 k = k + 9223372036854775808 := by
  show k ^^^ 2 ^ 63 = _
  apply Nat.eq_of_testBit_eq
  intro i
  rw [Nat.testBit_xor, Nat.testBit_two_pow, show k + 9223372036854775808 = 2 ^ 63 + k by omega]
  by_cases h : 63 = i
  · subst h
    rw [Nat.testBit_two_pow_add_eq]; simp
  · rcases Nat.lt_or_ge i 63 with h1 | h1
    · rw [Nat.testBit_two_pow_add_gt h1]; simp [h]
    · rw [Nat.testBit_lt_two_pow (show k < 2 ^ i from Nat.lt_of_lt_of_le (by omega : k < 2 ^ 63) (Nat.pow_le_pow_right (by decide) h1)), Nat.testBit_lt_two_pow (show 2 ^ 63 + k < 2 ^ i from Nat.lt_of_lt_of_le (by omega : 2 ^ 63 + k < 2 ^ 64) (Nat.pow_le_pow_right (by decide) (by omega)))]
      simp [h]
theorem neg32 {k : Nat} (hk : k < 2147483648) : Op.negFloat .f32 k = k + 2147483648 := by
  show k ^^^ 2 ^ 31 = _
  apply Nat.eq_of_testBit_eq
  intro i
  rw [Nat.testBit_xor, Nat.testBit_two_pow, show k + 2147483648 = 2 ^ 31 + k by omega]
  by_cases h : 31 = i
  · subst h
    rw [Nat.testBit_two_pow_add_eq]; simp
  · rcases Nat.lt_or_ge i 31 with h1 | h1
    · rw [Nat.testBit_two_pow_add_gt h1]; simp [h]
    · rw [Nat.testBit_lt_two_pow (show k < 2 ^ i from Nat.lt_of_lt_of_le (by omega : k < 2 ^ 31) (Nat.pow_le_pow_right (by decide) h1)), Nat.testBit_lt_two_pow (show 2 ^ 31 + k < 2 ^ i from Nat.lt_of_lt_of_le (by omega : 2 ^ 31 + k < 2 ^ 32) (Nat.pow_le_pow_right (by decide) (by omega)))]
      simp [h]

theorem run_neg64 {k : Nat} (hk : k < 9223372036854775808) (W : World) : (Op.unary .neg (.float .f64 k)).run Tryd.prog W = .ok (.float .f64 (k + 9223372036854775808)) W := by
  rw [← neg64 hk]; rfl
theorem run_neg32 {k : Nat} (hk : k < 2147483648) (W : World) : (Op.unary .neg (.float .f32 k)).run Tryd.prog W = .ok (.float .f32 (k + 2147483648)) W := by
  rw [← neg32 hk]; rfl

set_option maxRecDepth 10000 in
set_option maxHeartbeats 2000000 in
theorem dround_any (x : Arg) (mode : Int) (w : World) (hx : x.Ok w) (hT : Tab w) :
    Calls Tryd.prog 26 #[x.v, .int .i64 mode] w fun en w' => (∃ (r : Nat) (er : Int), en = .returned (.tuple #[.float .f64 r, .int .i64 er]) ∧ RoundsTo 52 (-1074) 9218868437227405312 9223372036854775808 mode x.F r er) ∧ Below w.heap.size w w' := by
  have hTo := fun W (hw : Below w.heap.size w W) => dtold_any x mode W (hx.grow hw) (hT.grow hw)
  have hok : ∀ d, x.F = some d → d.Ok ∧ (d.m = 0 ∨ d.m % 2 = 1) := fun d h => ⟨formF_ok h, formF_odd h⟩
  generalize x.F = o at *
  have HTo := Lib.hid hTo; have HOK := Lib.hid hok; clear hTo hok hx hT
  obtain ⟨s, a, l, c, e⟩ := x
  simp only [Arg.v] at HTo ⊢
  have hcase : (errT mode o ≠ 0 ∧ RoundsTo 52 (-1074) 9218868437227405312 9223372036854775808 mode o 0 (errT mode o)) ∨ ∃ d, errT mode o = 0 ∧ outT mode o = d ∧ o = some d ∧ 0 ≤ mode ∧ mode ≤ 4 := by
    unfold errT outT RoundsTo
    by_cases hm : mode < 0 ∨ 4 < mode
    · rw [if_pos hm]; exact .inl ⟨by decide, .inl ⟨hm, rfl, rfl⟩⟩
    · rw [if_neg hm, if_neg hm]
      cases o with
      | none => exact .inl ⟨by decide, .inr ⟨by omega, .inl ⟨rfl, rfl, rfl⟩⟩⟩
      | some d => exact .inr ⟨d, rfl, rfl, rfl, by omega, by omega⟩
  unfold CameT at HTo
  have HC := Lib.hid hcase; clear hcase
  generalize errT mode o = er at *
  generalize outT mode o = ot at *
  go_enter Tryd.func26, Tryd.ntmps26
  go_wp2_with fail
  (obtain ⟨w1, h1⟩ : ∃ W, W = (w.alloc (.cells #[.bool s, .slice a l.length c, .int .i64 e] 27)) := ⟨_, rfl⟩; have pinEq := h1; (try simp only [wr3] at pinEq); rw [← pinEq]; clear pinEq)
  obtain ⟨k1, hB, s1⟩ := new_cel h1 rfl
  clear h1
  obtain ⟨q85x0x0, q85x0x1, q85x0x2, q85x0x3, q85x0x4, q85x0x5⟩ := Cel.facts k1
  refine (HTo.out w1 hB).mono ?_; rintro en w2 ⟨v, rfl, ⟨a1, c1, rfl, ho1⟩, hb⟩
  (replace k1 := cel_call hb k1 (by omega); replace hB := below_call hb hB (by omega))
  have s2 := hb.size
  clear hb
  simp only [dyV]
  have kn := Cel.new w2 (.bool ot.neg) (.slice a1 (words ot.m).length c1) (.int .i64 ot.exp)
  have hB3 := hB.alloc hB.size (.cells #[.bool ot.neg, .slice a1 (words ot.m).length c1, .int .i64 ot.exp] 27)
  have ho3 := ho1.grow ((Below.refl w2.heap.size w2).alloc (Nat.le_refl _) (.cells #[.bool ot.neg, .slice a1 (words ot.m).length c1, .int .i64 ot.exp] 27))
  rcases HC.out with ⟨her, hr⟩ | ⟨d, her, hot, hod, hm0, hm4⟩
  · have e1 : (er != 0) = true := by simpa using her
    have HR := Lib.hid hr; have HB3 := Lib.hid hB3; clear hr hB3 her HC
    go_wp2_with fail
    go_ret2
    exact ⟨⟨0, er, rfl, HR.out⟩, HB3.out⟩
  · subst hot
    subst hod
    obtain ⟨hdo, hdd⟩ := HOK.out ot rfl
    have e1 : (er != 0) = false := by rw [her]; rfl
    have HB3 := Lib.hid hB3; clear hB3 her HC
    have hon := on_any 52 2047 (-1074) 9218868437227405312 ot mode a1 c1 w1.heap.size _ (by decide) (by decide) (by decide) (by decide) (by decide) (by decide) (by decide) hdo ho3
    have hR := on_rounds 52 (-1074) 9218868437227405312 2047 ot mode (by decide) (by decide) (by decide) hdd hm0 hm4
    obtain ⟨k, hk⟩ : ∃ k, k = onF 52 (-1074) 9218868437227405312 ot mode := ⟨_, rfl⟩
    rw [← hk] at hon hR
    clear hk
    have hle := hR.le
    have hx := ext_from64 k
    have hng := run_neg64 (k := k) (by omega)
    obtain ⟨_, _, _, _, _, _⟩ := kn.facts
    have Hon := Lib.hid hon; have HR := Lib.hid hR; clear hon hR ho1 ho3
    simp only [dyV] at Hon
    go_wp2_with fail
    refine Hon.out.mono ?_; rintro en w4 ⟨rfl, hb4⟩
    have kn4 := kn.below hb4 kn.lt
    have hB4 := HB3.out.trans (hb4.mono HB3.out.size)
    obtain ⟨_, _, _, _, _, _⟩ := kn4.facts
    have HB4 := Lib.hid hB4; clear hB4
    have hE : ∀ (r : Nat), r = k + (if ot.neg = true then 9223372036854775808 else 0) → RoundsTo 52 (-1074) 9218868437227405312 9223372036854775808 mode (some ot) r 0 := fun r h => .inr ⟨⟨hm0, hm4⟩, .inr ⟨ot, k, rfl, HR.out, h, rfl⟩⟩
    have HE := Lib.hid hE; clear hE
    generalize hneg : ot.neg = ng at *
    cases ng with
    | true =>
      go_wp2_with fail
      go_ret2
      exact ⟨⟨k + 9223372036854775808, 0, rfl, HE.out _ (by simp)⟩, HB4.out⟩
    | false =>
      go_wp2_with fail
      go_ret2
      exact ⟨⟨k, 0, rfl, HE.out _ (by simp)⟩, HB4.out⟩
set_option maxRecDepth 10000 in
set_option maxHeartbeats 2000000 in
theorem dround32_any (x : Arg) (mode : Int) (w : World) (hx : x.Ok w) (hT : Tab w) :
    Calls Tryd.prog 27 #[x.v, .int .i64 mode] w fun en w' => (∃ (r : Nat) (er : Int), en = .returned (.tuple #[.float .f32 r, .int .i64 er]) ∧ RoundsTo 23 (-149) 2139095040 2147483648 mode x.F r er) ∧ Below w.heap.size w w' := by
  have hTo := fun W (hw : Below w.heap.size w W) => dtold_any x mode W (hx.grow hw) (hT.grow hw)
  have hok : ∀ d, x.F = some d → d.Ok ∧ (d.m = 0 ∨ d.m % 2 = 1) := fun d h => ⟨formF_ok h, formF_odd h⟩
  generalize x.F = o at *
  have HTo := Lib.hid hTo; have HOK := Lib.hid hok; clear hTo hok hx hT
  obtain ⟨s, a, l, c, e⟩ := x
  simp only [Arg.v] at HTo ⊢
  have hcase : (errT mode o ≠ 0 ∧ RoundsTo 23 (-149) 2139095040 2147483648 mode o 0 (errT mode o)) ∨ ∃ d, errT mode o = 0 ∧ outT mode o = d ∧ o = some d ∧ 0 ≤ mode ∧ mode ≤ 4 := by
    unfold errT outT RoundsTo
    by_cases hm : mode < 0 ∨ 4 < mode
    · rw [if_pos hm]; exact .inl ⟨by decide, .inl ⟨hm, rfl, rfl⟩⟩
    · rw [if_neg hm, if_neg hm]
      cases o with
      | none => exact .inl ⟨by decide, .inr ⟨by omega, .inl ⟨rfl, rfl, rfl⟩⟩⟩
      | some d => exact .inr ⟨d, rfl, rfl, rfl, by omega, by omega⟩
  unfold CameT at HTo
  have HC := Lib.hid hcase; clear hcase
  generalize errT mode o = er at *
  generalize outT mode o = ot at *
  go_enter Tryd.func27, Tryd.ntmps27
  go_wp2_with fail
  (obtain ⟨w1, h1⟩ : ∃ W, W = (w.alloc (.cells #[.bool s, .slice a l.length c, .int .i64 e] 27)) := ⟨_, rfl⟩; have pinEq := h1; (try simp only [wr3] at pinEq); rw [← pinEq]; clear pinEq)
  obtain ⟨k1, hB, s1⟩ := new_cel h1 rfl
  clear h1
  obtain ⟨q161x0x0, q161x0x1, q161x0x2, q161x0x3, q161x0x4, q161x0x5⟩ := Cel.facts k1
  refine (HTo.out w1 hB).mono ?_; rintro en w2 ⟨v, rfl, ⟨a1, c1, rfl, ho1⟩, hb⟩
  (replace k1 := cel_call hb k1 (by omega); replace hB := below_call hb hB (by omega))
  have s2 := hb.size
  clear hb
  simp only [dyV]
  have kn := Cel.new w2 (.bool ot.neg) (.slice a1 (words ot.m).length c1) (.int .i64 ot.exp)
  have hB3 := hB.alloc hB.size (.cells #[.bool ot.neg, .slice a1 (words ot.m).length c1, .int .i64 ot.exp] 27)
  have ho3 := ho1.grow ((Below.refl w2.heap.size w2).alloc (Nat.le_refl _) (.cells #[.bool ot.neg, .slice a1 (words ot.m).length c1, .int .i64 ot.exp] 27))
  rcases HC.out with ⟨her, hr⟩ | ⟨d, her, hot, hod, hm0, hm4⟩
  · have e1 : (er != 0) = true := by simpa using her
    have HR := Lib.hid hr; have HB3 := Lib.hid hB3; clear hr hB3 her HC
    go_wp2_with fail
    go_ret2
    exact ⟨⟨0, er, rfl, HR.out⟩, HB3.out⟩
  · subst hot
    subst hod
    obtain ⟨hdo, hdd⟩ := HOK.out ot rfl
    have e1 : (er != 0) = false := by rw [her]; rfl
    have HB3 := Lib.hid hB3; clear hB3 her HC
    have hon := on_any 23 255 (-149) 2139095040 ot mode a1 c1 w1.heap.size _ (by decide) (by decide) (by decide) (by decide) (by decide) (by decide) (by decide) hdo ho3
    have hR := on_rounds 23 (-149) 2139095040 255 ot mode (by decide) (by decide) (by decide) hdd hm0 hm4
    obtain ⟨k, hk⟩ : ∃ k, k = onF 23 (-149) 2139095040 ot mode := ⟨_, rfl⟩
    rw [← hk] at hon hR
    clear hk
    have hle := hR.le
    have hx := ext_from32 k
    have hcv : IntKind.u32.wrap (k : Int) = (k : Int) := by rw [IntKind.wrap_u32]; omega
    have hng := run_neg32 (k := k) (by omega)
    obtain ⟨_, _, _, _, _, _⟩ := kn.facts
    have Hon := Lib.hid hon; have HR := Lib.hid hR; clear hon hR ho1 ho3
    simp only [dyV] at Hon
    go_wp2_with fail
    refine Hon.out.mono ?_; rintro en w4 ⟨rfl, hb4⟩
    have kn4 := kn.below hb4 kn.lt
    have hB4 := HB3.out.trans (hb4.mono HB3.out.size)
    obtain ⟨_, _, _, _, _, _⟩ := kn4.facts
    have HB4 := Lib.hid hB4; clear hB4
    have hE : ∀ (r : Nat), r = k + (if ot.neg = true then 2147483648 else 0) → RoundsTo 23 (-149) 2139095040 2147483648 mode (some ot) r 0 := fun r h => .inr ⟨⟨hm0, hm4⟩, .inr ⟨ot, k, rfl, HR.out, h, rfl⟩⟩
    have HE := Lib.hid hE; clear hE
    generalize hneg : ot.neg = ng at *
    cases ng with
    | true =>
      go_wp2_with fail
      go_ret2
      exact ⟨⟨k + 2147483648, 0, rfl, HE.out _ (by simp)⟩, HB4.out⟩
    | false =>
      go_wp2_with fail
      go_ret2
      exact ⟨⟨k, 0, rfl, HE.out _ (by simp)⟩, HB4.out⟩
end Go.Proofs.YtmokomfneikipaaDoor
