/- Products of Dyads, in numbers; contracts of dyad.Mul and of steelyardref03.Mul. Contracts of dyad.Round, Round32. Contracts of steelyardref03's below, half. Contract of steelyardref03's half. Contract of steelyardref03's Nearby. Contracts of steelyardref03's Round, Round32. Contracts of steelyardref03's Alike, Alike32 and of math.Inf. The chapter's examples, in numbers. Contract of steelyardlaw03.awake. No statement of the seat is proved here. -/
import Derived.Test.YteahdgbokjbgcaaGreatDoorProg
import Derived.Test.YteahdgbokjbgcaaGreatDoorYME
import Derived.Test.YteahdgbokjbgcaaGreatDoorYMR
import Derived.Test.YteahdgbokjbgcaaGreatDoorYMG
namespace Go.Proofs.YteahdgbokjbgcaaGreatDoor
open Go.RowKit
set_option linter.unusedVariables false
set_option linter.unusedSimpArgs false

def D.Odd (d : D) : Prop := d.m = 0 ∨ d.m % 2 = 1
theorem formF_odd {s : Bool} {n : Nat} {e : Int} {d : D} (h : formF s n e = some d) : d.Odd := by
  unfold formF at h
  split at h
  · cases h; exact .inl rfl
  · rename_i h0
    split at h
    · cases h
    · cases h
      obtain ⟨m, h1, h2⟩ := low_spec h0
      refine .inr ?_
      dsimp only
      have : n / 2 ^ low n = m := by
        conv => lhs; arg 1; rw [h1]
        exact Nat.mul_div_cancel_left _ (Nat.two_pow_pos _)
      rw [this]; exact h2
theorem low_odd {m : Nat} (h : m % 2 = 1) : low m = 0 := by
  have := low_eq (k := 0) h
  rwa [Nat.pow_zero, Nat.one_mul] at this
/-- the product of two forms -/
def mulD (p q : D) : Option D := formF (p.neg != q.neg) (p.m * q.m) (p.exp + q.exp)
def mulO : Option D → Option D → Option D
  | some p, some q => mulD p q
  | _, _ => none
set_option maxRecDepth 10000 in
set_option maxHeartbeats 4000000 in
theorem rmul_any (x y : Arg) (w : World) (hx : x.Ok w) (hy : y.Ok w) :
    Calls Tryz.prog 70 #[x.v, y.v] w fun en w' => Came w w' (mulO x.F y.F) en := by
  have hF := fun W hw => made_any x W (hx.grow hw)
  have hF' := fun W hw => made_any y W (hy.grow hw)
  obtain ⟨o, ho⟩ : ∃ o, o = x.F := ⟨_, rfl⟩
  obtain ⟨o', ho'⟩ : ∃ o, o = y.F := ⟨_, rfl⟩
  have hok : ∀ p, o = some p → p.Ok := fun p h => formF_ok (by rw [← h, ho]; rfl)
  have hok' : ∀ p, o' = some p → p.Ok := fun p h => formF_ok (by rw [← h, ho']; rfl)
  rw [← ho] at hF
  rw [← ho'] at hF'
  rw [← ho, ← ho']
  have HF := Lib.hid hF; have HF' := Lib.hid hF'; have HOK := Lib.hid hok; have HOK' := Lib.hid hok'; clear hF hF' hx hy ho ho' hok hok'
  obtain ⟨s, a, l, c, e⟩ := x
  obtain ⟨s', a', l', c', e'⟩ := y
  simp only [Arg.v] at HF HF' ⊢
  go_enter Tryz.func70, Tryz.ntmps70
  go_wp2_with fail
  (obtain ⟨w1, h1⟩ : ∃ W, W = (w.alloc (.cells #[.bool s, .slice a l.length c, .int .i64 e] 46)) := ⟨_, rfl⟩; have pinEq := h1; (try simp only [wr3] at pinEq); rw [← pinEq]; clear pinEq)
  (obtain ⟨w2, h2⟩ : ∃ W, W = (w1.alloc (.cells #[.bool s', .slice a' l'.length c', .int .i64 e'] 46)) := ⟨_, rfl⟩; have pinEq := h2; (try simp only [wr3] at pinEq); rw [← pinEq]; clear pinEq)
  (obtain ⟨w3, h3⟩ : ∃ W, W = (w2.alloc (.cells #[.bool false, .slice none 0 0, .int .i64 0] 46)) := ⟨_, rfl⟩; have pinEq := h3; (try simp only [wr3] at pinEq); rw [← pinEq]; clear pinEq)
  obtain ⟨-, hB, s1⟩ := new_cel h1 rfl
  obtain ⟨k2, b2, s2⟩ := new_cel h2 s1
  replace hB := below_call b2 hB (by omega)
  obtain ⟨k3, b3, s3⟩ := new_cel h3 s2
  (replace k2 := cel_call b3 k2 (by omega); replace b2 := below_call b3 b2 (by omega); replace hB := below_call b3 hB (by omega))
  clear h1 h2 h3 b2 b3
  refine (HF.out w3 hB).mono ?_; rintro en w4 ⟨v, rfl, ⟨a1, c1, rfl, ho1⟩, hb⟩
  (replace k3 := cel_call hb k3 (by omega); replace k2 := cel_call hb k2 (by omega); replace hB := below_call hb hB (by omega))
  have s4 := hb.size
  clear hb
  simp only [dyV]
  have kt := k2.alloc (.cells #[.bool (outO o).neg, .slice a1 (words (outO o).m).length c1, .int .i64 (outO o).exp] 46)
  obtain ⟨_, _, _, _, _, _⟩ := kt.facts
  clear kt
  go_wp2_with fail
  (obtain ⟨w5, h5⟩ : ∃ W, W = (w4.alloc (.cells #[.bool (outO o).neg, .slice a1 (words (outO o).m).length c1, .int .i64 (outO o).exp] 46)) := ⟨_, rfl⟩; have pinEq := h5; (try simp only [wr3] at pinEq); rw [← pinEq]; clear pinEq)
  obtain ⟨kX, b5, s5⟩ := new_cel h5 rfl
  (replace ho1 := own_call b5 ho1; replace k3 := cel_call b5 k3 (by omega); replace k2 := cel_call b5 k2 (by omega); replace hB := below_call b5 hB (by omega))
  clear h5 b5
  refine (HF'.out w5 hB).mono ?_; rintro en w6 ⟨v, rfl, ⟨a2, c2, rfl, ho2⟩, hb⟩
  (replace kX := cel_call hb kX (by omega); replace ho1 := own_call hb ho1; replace k3 := cel_call hb k3 (by omega); replace k2 := cel_call hb k2 (by omega); replace hB := below_call hb hB (by omega))
  have s6 := hb.size
  clear hb k2
  simp only [dyV]
  have kA := k3.alloc (.cells #[.bool (outO o').neg, .slice a2 (words (outO o').m).length c2, .int .i64 (outO o').exp] 46)
  have hBA := hB.alloc hB.size (.cells #[.bool (outO o').neg, .slice a2 (words (outO o').m).length c2, .int .i64 (outO o').exp] 46)
  have kX' := kX.alloc (.cells #[.bool (outO o').neg, .slice a2 (words (outO o').m).length c2, .int .i64 (outO o').exp] 46)
  have kY := Cel.new w6 (.bool (outO o').neg) (.slice a2 (words (outO o').m).length c2) (.int .i64 (outO o').exp)
  have ho1' := ho1.grow ((Below.refl _ _).alloc (Nat.le_refl _) (.cells #[.bool (outO o').neg, .slice a2 (words (outO o').m).length c2, .int .i64 (outO o').exp] 46))
  have ho2' := ho2.grow ((Below.refl _ _).alloc (Nat.le_refl _) (.cells #[.bool (outO o').neg, .slice a2 (words (outO o').m).length c2, .int .i64 (outO o').exp] 46))
  clear ho1 ho2 k3 hB kX
  have hfin : ∀ W v o2 a c, o2 = mulO o o' → Below w.heap.size w W → Own W 118 (w.heap.size + 1 + 1 + 1) a c (words (outO o2).m) → v = dyV (outO o2) a c → Came w W (mulO o o') (.returned (.tuple #[v, .int .i64 (errO o2)])) := by
    rintro W v o a c rfl hW ho rfl
    exact ⟨_, rfl, ⟨a, c, rfl, ho.mono (by omega)⟩, hW⟩
  have HFIN := Lib.hid hfin; clear hfin
  rw [s3] at *
  by_cases hno : o = none ∨ o' = none
  · have hA : none = mulO o o' := by
      rcases hno with h | h
      · rw [h]; rfl
      · rw [h]; cases o <;> rfl
    have HA := Lib.hid hA; clear hA
    obtain ⟨c0, cc1, cc2, _, _, _⟩ := kA.facts
    have hNO := Lib.hid hno; clear hno
    have hd : o.isSome = false ∨ (o.isSome = true ∧ o'.isSome = false) := by
      rcases hNO.out with h | h
      · rw [h]; exact .inl rfl
      · rw [h]; cases o <;> simp
    rcases hd with h1 | ⟨h1, h2⟩
    · rw [h1]
      go_wp2
      refine bodyPost_ret (v := .tuple #[dyV D.zero none 0, .int .i64 2]) (by simp [results, Tryz.results70, go_sem, dyV, D.zero, words_zero, c0, cc1, cc2]) rfl ?_
      exact HFIN.out _ _ none none 0 HA.out (below_wr3 (g := w.heap.size + 1 + 1) hBA (by omega)) (by rw [show (outO none).m = 0 from rfl, words_zero]; exact Own.none _ _ _) rfl
    · rw [h1, h2]
      go_wp2
      refine bodyPost_ret (v := .tuple #[dyV D.zero none 0, .int .i64 2]) (by simp [results, Tryz.results70, go_sem, dyV, D.zero, words_zero, c0, cc1, cc2]) rfl ?_
      exact HFIN.out _ _ none none 0 HA.out (below_wr3 (g := w.heap.size + 1 + 1) hBA (by omega)) (by rw [show (outO none).m = 0 from rfl, words_zero]; exact Own.none _ _ _) rfl
  obtain ⟨p, rfl⟩ : ∃ p, o = some p := by cases o with | none => simp at hno | some p => exact ⟨p, rfl⟩
  obtain ⟨q, rfl⟩ : ∃ p, o' = some p := by cases o' with | none => simp at hno | some p => exact ⟨p, rfl⟩
  obtain ⟨p1, p2, p3⟩ := HOK.out p rfl
  obtain ⟨q1, q2, q3⟩ := HOK'.out q rfl
  clear HOK HOK' hno
  simp only [outO, Option.getD, Option.isSome] at kA hBA kX' kY ho1' ho2' ⊢
  have hl : (words (p.m * q.m)).length ≤ 16384 := words_mul_le p1 q1
  have hT : ∀ W base base', Own W 118 base a1 c1 (words p.m) → Own W 118 base' a2 c2 (words q.m) → Calls Tryz.prog 184 #[.slice a1 (words p.m).length c1, .slice a2 (words q.m).length c2] W fun e w' => ∃ a' c', e = .returned (.slice a' (words (p.m * q.m)).length c') ∧ Own w' 118 W.heap.size a' c' (words (p.m * q.m)) ∧ Below W.heap.size W w' := by
    intro W base base' r1 r2
    have := rtimes_any a1 a2 c1 c2 (words p.m) (words q.m) W (by omega) (W32_words _) r1.rd (W32_words _) r2.rd
    rw [num_words, num_words] at this
    exact this
  have hTo : ∀ W a6 c6 base, Own W 118 base a6 c6 (words (p.m * q.m)) → Calls Tryz.prog 183 #[.bool (p.neg != q.neg), .slice a6 (words (p.m * q.m)).length c6, .int .i64 (p.exp + q.exp)] W fun en w' => Came W w' (mulO (some p) (some q)) en := by
    intro W a6 c6 base r3
    have := told_any (p.neg != q.neg) a6 c6 (words (p.m * q.m)) (p.exp + q.exp) W ⟨r3.sl (W32_words _), by dsimp only; omega, by dsimp only; omega, by dsimp only; omega⟩
    rw [num_words] at this
    exact this
  have HT := Lib.hid hT; have HTo := Lib.hid hTo; clear hT hTo
  generalize p.m * q.m = R at *
  obtain ⟨_, _, _, _, _, _⟩ := kA.facts
  obtain ⟨_, _, _, _, _, _⟩ := kX'.facts
  obtain ⟨_, _, _, _, _, _⟩ := kY.facts
  have hw : IntKind.i64.wrap (p.exp + q.exp) = p.exp + q.exp := by rw [IntKind.wrap_i64]; omega
  go_wp2_with fail
  obtain ⟨w7, h7⟩ : ∃ W, W = (w6.alloc (.cells #[.bool q.neg, .slice a2 (words q.m).length c2, .int .i64 q.exp] 46)) := ⟨_, rfl⟩
  have s7 : w7.heap.size = w6.heap.size + 1 := by rw [h7]; simp
  rw [← h7] at kA hBA kX' kY ho1' ho2' ⊢
  clear h7
  (obtain ⟨q270x0x0, q270x0x1, q270x0x2, q270x0x3, q270x0x4, q270x0x5⟩ := Cel.facts kY; obtain ⟨q270x1x0, q270x1x1, q270x1x2, q270x1x3, q270x1x4, q270x1x5⟩ := Cel.facts kX'; obtain ⟨q270x2x0, q270x2x1, q270x2x2, q270x2x3, q270x2x4, q270x2x5⟩ := Cel.facts kA)
  have n1 : w.heap.size + 1 + 1 ≠ w4.heap.size := by omega
  have n2 : w.heap.size + 1 + 1 ≠ w6.heap.size := by omega
  go_region_held3 (fun W => W.cell? ⟨w4.heap.size, 0, none⟩ = some (.bool p.neg) ∧ W.cell? ⟨w4.heap.size, 1, none⟩ = some (.slice a1 (words p.m).length c1) ∧ W.cell? ⟨w4.heap.size, 2, none⟩ = some (.int .i64 p.exp) ∧ W.cell? ⟨w6.heap.size, 0, none⟩ = some (.bool q.neg) ∧ W.cell? ⟨w6.heap.size, 1, none⟩ = some (.slice a2 (words q.m).length c2) ∧ W.cell? ⟨w6.heap.size, 2, none⟩ = some (.int .i64 q.exp)) (go_keep) (first
    | (go_at_call 184; refine (HT.out _ _ _ (own_drew ho1') (own_drew ho2')).mono ?_; rintro en w10 ⟨a6, c6, rfl, ho6, hb9⟩; have kX9 := kX'.below (below_drewN (n := 1) hb9) (by have := kX'.lt; simpa using this); have kY9 := kY.below (below_drewN (n := 1) hb9) (by have := kY.lt; simpa using this); obtain ⟨_, _, _, _, _, _⟩ := kX9.facts; obtain ⟨_, _, _, _, _, _⟩ := kY9.facts)
    | (go_at_call 183; refine (HTo.out _ _ _ _ ho6).mono ?_; rintro en w11 ⟨v, rfl, ⟨a7, c7, rfl, ho7⟩, hb10⟩; have kX10 := kX9.below hb10 kX9.lt; have kY10 := kY9.below hb10 kY9.lt; obtain ⟨_, _, _, _, _, _⟩ := kX10.facts; obtain ⟨_, _, _, _, _, _⟩ := kY10.facts; have kA9 := kA.below (below_drewN (n := 1) hb9) (by have := kA.lt; simpa using this); have kA10 := kA9.below hb10 kA9.lt; obtain ⟨_, _, _, _, _, _⟩ := kA10.facts; simp only [dyV]))
  all_goals
    go_wp2
    have z9 := hb9.size
    have z10 := hb10.size
    simp only [World.size_drew] at z9 z10
    obtain ⟨c0, cc1, cc2, _, _, _⟩ := kA10.facts
    refine bodyPost_ret (v := .tuple #[dyV (outO (mulO (some p) (some q))) a7 c7, .int .i64 (errO (mulO (some p) (some q)))]) (by simp [results, Tryz.results70, go_sem, dyV, c0, cc1, cc2]) rfl ?_
    have hbz : Below w.heap.size w w11 := (hBA.trans ((below_drewN (n := 1) hb9).mono (by simp; omega))).trans (hb10.mono (by omega))
    exact HFIN.out _ _ _ a7 c7 rfl (below_wr3 (g := w.heap.size + 1 + 1) hbz (by omega)) (own_wr3 (g := w.heap.size + 1 + 1) (ho7.mono (by omega)) (by omega)) rfl
end Go.Proofs.YteahdgbokjbgcaaGreatDoor
namespace Go.Proofs.YteahdgbokjbgcaaGreatDoor
open Go.RowKit
set_option linter.unusedVariables false
set_option linter.unusedSimpArgs false

/-- what a rounding answers: the bits r, the number er; S: the bit of a sign -/
def RoundsTo (h : Nat) (L : Int) (E S : Nat) (mode : Int) (o : Option D) (r : Nat) (er : Int) : Prop :=
  (mode < 0 ∨ 4 < mode) ∧ r = 0 ∧ er = 1 ∨ (0 ≤ mode ∧ mode ≤ 4) ∧ (o = none ∧ r = 0 ∧ er = 2 ∨ ∃ d k, o = some d ∧ Rounds h L E d mode k ∧ r = k + (if d.neg = true then S else 0) ∧ er = 0)
theorem RoundsTo.uniq {h : Nat} {L : Int} {E S : Nat} {mode : Int} {o : Option D} {r r' : Nat} {er er' : Int} (a : RoundsTo h L E S mode o r er) (b : RoundsTo h L E S mode o r' er') : r = r' ∧ er = er' := by
  rcases a with ⟨m1, rfl, rfl⟩ | ⟨m1, a⟩
  · rcases b with ⟨m2, rfl, rfl⟩ | ⟨m2, b⟩
    · exact ⟨rfl, rfl⟩
    · clear b; omega
  · rcases b with ⟨m2, rfl, rfl⟩ | ⟨m2, b⟩
    · clear a; omega
    · rcases a with ⟨rfl, rfl, rfl⟩ | ⟨d, k, rfl, h1, rfl, rfl⟩
      · rcases b with ⟨_, rfl, rfl⟩ | ⟨d', k', h2, _⟩
        · exact ⟨rfl, rfl⟩
        · cases h2
      · rcases b with ⟨h2, _⟩ | ⟨d', k', h2, h3, rfl, rfl⟩
        · cases h2
        · cases h2; rw [h1.uniq h3]; exact ⟨rfl, rfl⟩
theorem neg64 {k : Nat} (hk : k < 9223372036854775808) : Op.negFloat .f64 k = k + 9223372036854775808 := by
  show k ^^^ 2 ^ 63 = _
  apply Nat.eq_of_testBit_eq
  intro i
  rw [Nat.testBit_xor, Nat.testBit_two_pow, show k + 9223372036854775808 = 2 ^ 63 + k by omega]
  by_cases h : 63 = i
  · subst h
    rw [Nat.testBit_two_pow_add_eq]; simp
  · rcases Nat.lt_or_ge i 63 with h1 | h1
    · rw [Nat.testBit_two_pow_add_gt h1]; simp [h]
    · rw [Nat.testBit_lt_two_pow (show k < 2 ^ i from Nat.lt_of_lt_of_le (by omega : k < 2 ^ 63) (Nat.pow_le_pow_right (by decide) h1)), Nat.testBit_lt_two_pow (show 2 ^ 63 + k < 2 ^ i from Nat.lt_of_lt_of_le (by omega : 2 ^ 63 + k < 2 ^ 64) (Nat.pow_le_pow_right (by decide) (by omega)))]
      simp [h]
theorem neg32 {k : Nat} (hk : k < 2147483648) : Op.negFloat .f32 k = k + 2147483648 := by
  show k ^^^ 2 ^ 31 = _
  apply Nat.eq_of_testBit_eq
  intro i
  rw [Nat.testBit_xor, Nat.testBit_two_pow, show k + 2147483648 = 2 ^ 31 + k by omega]
  by_cases h : 31 = i
  · subst h
    rw [Nat.testBit_two_pow_add_eq]; simp
  · rcases Nat.lt_or_ge i 31 with h1 | h1
    · rw [Nat.testBit_two_pow_add_gt h1]; simp [h]
    · rw [Nat.testBit_lt_two_pow (show k < 2 ^ i from Nat.lt_of_lt_of_le (by omega : k < 2 ^ 31) (Nat.pow_le_pow_right (by decide) h1)), Nat.testBit_lt_two_pow (show 2 ^ 31 + k < 2 ^ i from Nat.lt_of_lt_of_le (by omega : 2 ^ 31 + k < 2 ^ 32) (Nat.pow_le_pow_right (by decide) (by omega)))]
      simp [h]

theorem run_neg64 {k : Nat} (hk : k < 9223372036854775808) (W : World) : (Op.unary .neg (.float .f64 k)).run Tryz.prog W = .ok (.float .f64 (k + 9223372036854775808)) W := by
  rw [← neg64 hk]; rfl
theorem run_neg32 {k : Nat} (hk : k < 2147483648) (W : World) : (Op.unary .neg (.float .f32 k)).run Tryz.prog W = .ok (.float .f32 (k + 2147483648)) W := by
  rw [← neg32 hk]; rfl

set_option maxRecDepth 10000 in
set_option maxHeartbeats 2000000 in
theorem dround_any (x : Arg) (mode : Int) (w : World) (hx : x.Ok w) (hT : Tab w) :
    Calls Tryz.prog 177 #[x.v, .int .i64 mode] w fun en w' => (∃ (r : Nat) (er : Int), en = .returned (.tuple #[.float .f64 r, .int .i64 er]) ∧ RoundsTo 52 (-1074) 9218868437227405312 9223372036854775808 mode x.F r er) ∧ Below w.heap.size w w' := by
  have hTo := fun W (hw : Below w.heap.size w W) => dtold_any x mode W (hx.grow hw) (hT.grow hw)
  have hok : ∀ d, x.F = some d → d.Ok ∧ (d.m = 0 ∨ d.m % 2 = 1) := fun d h => ⟨formF_ok h, formF_odd h⟩
  generalize x.F = o at *
  have HTo := Lib.hid hTo; have HOK := Lib.hid hok; clear hTo hok hx hT
  obtain ⟨s, a, l, c, e⟩ := x
  simp only [Arg.v] at HTo ⊢
  have hcase : (errT mode o ≠ 0 ∧ RoundsTo 52 (-1074) 9218868437227405312 9223372036854775808 mode o 0 (errT mode o)) ∨ ∃ d, errT mode o = 0 ∧ outT mode o = d ∧ o = some d ∧ 0 ≤ mode ∧ mode ≤ 4 := by
    unfold errT outT RoundsTo
    by_cases hm : mode < 0 ∨ 4 < mode
    · rw [if_pos hm]; exact .inl ⟨by decide, .inl ⟨hm, rfl, rfl⟩⟩
    · rw [if_neg hm, if_neg hm]
      cases o with
      | none => exact .inl ⟨by decide, .inr ⟨by omega, .inl ⟨rfl, rfl, rfl⟩⟩⟩
      | some d => exact .inr ⟨d, rfl, rfl, rfl, by omega, by omega⟩
  unfold CameT at HTo
  have HC := Lib.hid hcase; clear hcase
  generalize errT mode o = er at *
  generalize outT mode o = ot at *
  go_enter Tryz.func177, Tryz.ntmps177
  go_wp2_with fail
  (obtain ⟨w1, h1⟩ : ∃ W, W = (w.alloc (.cells #[.bool s, .slice a l.length c, .int .i64 e] 46)) := ⟨_, rfl⟩; have pinEq := h1; (try simp only [wr3] at pinEq); rw [← pinEq]; clear pinEq)
  obtain ⟨k1, hB, s1⟩ := new_cel h1 rfl
  clear h1
  obtain ⟨q85x0x0, q85x0x1, q85x0x2, q85x0x3, q85x0x4, q85x0x5⟩ := Cel.facts k1
  refine (HTo.out w1 hB).mono ?_; rintro en w2 ⟨v, rfl, ⟨a1, c1, rfl, ho1⟩, hb⟩
  (replace k1 := cel_call hb k1 (by omega); replace hB := below_call hb hB (by omega))
  have s2 := hb.size
  clear hb
  simp only [dyV]
  have kn := Cel.new w2 (.bool ot.neg) (.slice a1 (words ot.m).length c1) (.int .i64 ot.exp)
  have hB3 := hB.alloc hB.size (.cells #[.bool ot.neg, .slice a1 (words ot.m).length c1, .int .i64 ot.exp] 46)
  have ho3 := ho1.grow ((Below.refl w2.heap.size w2).alloc (Nat.le_refl _) (.cells #[.bool ot.neg, .slice a1 (words ot.m).length c1, .int .i64 ot.exp] 46))
  rcases HC.out with ⟨her, hr⟩ | ⟨d, her, hot, hod, hm0, hm4⟩
  · have e1 : (er != 0) = true := by simpa using her
    have HR := Lib.hid hr; have HB3 := Lib.hid hB3; clear hr hB3 her HC
    go_wp2_with fail
    go_ret2
    exact ⟨⟨0, er, rfl, HR.out⟩, HB3.out⟩
  · subst hot
    subst hod
    obtain ⟨hdo, hdd⟩ := HOK.out ot rfl
    have e1 : (er != 0) = false := by rw [her]; rfl
    have HB3 := Lib.hid hB3; clear hB3 her HC
    have hon := on_any 52 2047 (-1074) 9218868437227405312 ot mode a1 c1 w1.heap.size _ (by decide) (by decide) (by decide) (by decide) (by decide) (by decide) (by decide) hdo ho3
    have hR := on_rounds 52 (-1074) 9218868437227405312 2047 ot mode (by decide) (by decide) (by decide) hdd hm0 hm4
    obtain ⟨k, hk⟩ : ∃ k, k = onF 52 (-1074) 9218868437227405312 ot mode := ⟨_, rfl⟩
    rw [← hk] at hon hR
    clear hk
    have hle := hR.le
    have hx := ext_from64 k
    have hng := run_neg64 (k := k) (by omega)
    obtain ⟨_, _, _, _, _, _⟩ := kn.facts
    have Hon := Lib.hid hon; have HR := Lib.hid hR; clear hon hR ho1 ho3
    simp only [dyV] at Hon
    go_wp2_with fail
    refine Hon.out.mono ?_; rintro en w4 ⟨rfl, hb4⟩
    have kn4 := kn.below hb4 kn.lt
    have hB4 := HB3.out.trans (hb4.mono HB3.out.size)
    obtain ⟨_, _, _, _, _, _⟩ := kn4.facts
    have HB4 := Lib.hid hB4; clear hB4
    have hE : ∀ (r : Nat), r = k + (if ot.neg = true then 9223372036854775808 else 0) → RoundsTo 52 (-1074) 9218868437227405312 9223372036854775808 mode (some ot) r 0 := fun r h => .inr ⟨⟨hm0, hm4⟩, .inr ⟨ot, k, rfl, HR.out, h, rfl⟩⟩
    have HE := Lib.hid hE; clear hE
    generalize hneg : ot.neg = ng at *
    cases ng with
    | true =>
      go_wp2_with fail
      go_ret2
      exact ⟨⟨k + 9223372036854775808, 0, rfl, HE.out _ (by simp)⟩, HB4.out⟩
    | false =>
      go_wp2_with fail
      go_ret2
      exact ⟨⟨k, 0, rfl, HE.out _ (by simp)⟩, HB4.out⟩
set_option maxRecDepth 10000 in
set_option maxHeartbeats 2000000 in
theorem dround32_any (x : Arg) (mode : Int) (w : World) (hx : x.Ok w) (hT : Tab w) :
    Calls Tryz.prog 224 #[x.v, .int .i64 mode] w fun en w' => (∃ (r : Nat) (er : Int), en = .returned (.tuple #[.float .f32 r, .int .i64 er]) ∧ RoundsTo 23 (-149) 2139095040 2147483648 mode x.F r er) ∧ Below w.heap.size w w' := by
  have hTo := fun W (hw : Below w.heap.size w W) => dtold_any x mode W (hx.grow hw) (hT.grow hw)
  have hok : ∀ d, x.F = some d → d.Ok ∧ (d.m = 0 ∨ d.m % 2 = 1) := fun d h => ⟨formF_ok h, formF_odd h⟩
  generalize x.F = o at *
  have HTo := Lib.hid hTo; have HOK := Lib.hid hok; clear hTo hok hx hT
  obtain ⟨s, a, l, c, e⟩ := x
  simp only [Arg.v] at HTo ⊢
  have hcase : (errT mode o ≠ 0 ∧ RoundsTo 23 (-149) 2139095040 2147483648 mode o 0 (errT mode o)) ∨ ∃ d, errT mode o = 0 ∧ outT mode o = d ∧ o = some d ∧ 0 ≤ mode ∧ mode ≤ 4 := by
    unfold errT outT RoundsTo
    by_cases hm : mode < 0 ∨ 4 < mode
    · rw [if_pos hm]; exact .inl ⟨by decide, .inl ⟨hm, rfl, rfl⟩⟩
    · rw [if_neg hm, if_neg hm]
      cases o with
      | none => exact .inl ⟨by decide, .inr ⟨by omega, .inl ⟨rfl, rfl, rfl⟩⟩⟩
      | some d => exact .inr ⟨d, rfl, rfl, rfl, by omega, by omega⟩
  unfold CameT at HTo
  have HC := Lib.hid hcase; clear hcase
  generalize errT mode o = er at *
  generalize outT mode o = ot at *
  go_enter Tryz.func224, Tryz.ntmps224
  go_wp2_with fail
  (obtain ⟨w1, h1⟩ : ∃ W, W = (w.alloc (.cells #[.bool s, .slice a l.length c, .int .i64 e] 46)) := ⟨_, rfl⟩; have pinEq := h1; (try simp only [wr3] at pinEq); rw [← pinEq]; clear pinEq)
  obtain ⟨k1, hB, s1⟩ := new_cel h1 rfl
  clear h1
  obtain ⟨q161x0x0, q161x0x1, q161x0x2, q161x0x3, q161x0x4, q161x0x5⟩ := Cel.facts k1
  refine (HTo.out w1 hB).mono ?_; rintro en w2 ⟨v, rfl, ⟨a1, c1, rfl, ho1⟩, hb⟩
  (replace k1 := cel_call hb k1 (by omega); replace hB := below_call hb hB (by omega))
  have s2 := hb.size
  clear hb
  simp only [dyV]
  have kn := Cel.new w2 (.bool ot.neg) (.slice a1 (words ot.m).length c1) (.int .i64 ot.exp)
  have hB3 := hB.alloc hB.size (.cells #[.bool ot.neg, .slice a1 (words ot.m).length c1, .int .i64 ot.exp] 46)
  have ho3 := ho1.grow ((Below.refl w2.heap.size w2).alloc (Nat.le_refl _) (.cells #[.bool ot.neg, .slice a1 (words ot.m).length c1, .int .i64 ot.exp] 46))
  rcases HC.out with ⟨her, hr⟩ | ⟨d, her, hot, hod, hm0, hm4⟩
  · have e1 : (er != 0) = true := by simpa using her
    have HR := Lib.hid hr; have HB3 := Lib.hid hB3; clear hr hB3 her HC
    go_wp2_with fail
    go_ret2
    exact ⟨⟨0, er, rfl, HR.out⟩, HB3.out⟩
  · subst hot
    subst hod
    obtain ⟨hdo, hdd⟩ := HOK.out ot rfl
    have e1 : (er != 0) = false := by rw [her]; rfl
    have HB3 := Lib.hid hB3; clear hB3 her HC
    have hon := on_any 23 255 (-149) 2139095040 ot mode a1 c1 w1.heap.size _ (by decide) (by decide) (by decide) (by decide) (by decide) (by decide) (by decide) hdo ho3
    have hR := on_rounds 23 (-149) 2139095040 255 ot mode (by decide) (by decide) (by decide) hdd hm0 hm4
    obtain ⟨k, hk⟩ : ∃ k, k = onF 23 (-149) 2139095040 ot mode := ⟨_, rfl⟩
    rw [← hk] at hon hR
    clear hk
    have hle := hR.le
    have hx := ext_from32 k
    have hcv : IntKind.u32.wrap (k : Int) = (k : Int) := by rw [IntKind.wrap_u32]; omega
    have hng := run_neg32 (k := k) (by omega)
    obtain ⟨_, _, _, _, _, _⟩ := kn.facts
    have Hon := Lib.hid hon; have HR := Lib.hid hR; clear hon hR ho1 ho3
    simp only [dyV] at Hon
    go_wp2_with fail
    refine Hon.out.mono ?_; rintro en w4 ⟨rfl, hb4⟩
    have kn4 := kn.below hb4 kn.lt
    have hB4 := HB3.out.trans (hb4.mono HB3.out.size)
    obtain ⟨_, _, _, _, _, _⟩ := kn4.facts
    have HB4 := Lib.hid hB4; clear hB4
    have hE : ∀ (r : Nat), r = k + (if ot.neg = true then 2147483648 else 0) → RoundsTo 23 (-149) 2139095040 2147483648 mode (some ot) r 0 := fun r h => .inr ⟨⟨hm0, hm4⟩, .inr ⟨ot, k, rfl, HR.out, h, rfl⟩⟩
    have HE := Lib.hid hE; clear hE
    generalize hneg : ot.neg = ng at *
    cases ng with
    | true =>
      go_wp2_with fail
      go_ret2
      exact ⟨⟨k + 2147483648, 0, rfl, HE.out _ (by simp)⟩, HB4.out⟩
    | false =>
      go_wp2_with fail
      go_ret2
      exact ⟨⟨k, 0, rfl, HE.out _ (by simp)⟩, HB4.out⟩
end Go.Proofs.YteahdgbokjbgcaaGreatDoor
namespace Go.Proofs.YteahdgbokjbgcaaGreatDoor
open Go.RowKit
set_option linter.unusedVariables false
set_option linter.unusedSimpArgs false

theorem numM_len (h k : Nat) (hh : h ≤ 52) : (words (numM h k)).length ≤ 2 := by
  refine words_len_le ?_
  have hp := Nat.two_pow_pos h
  have hp52 : 2 ^ h ≤ 4503599627370496 := by have := Nat.pow_le_pow_right (show 0 < 2 by decide) hh; simpa using this
  unfold numM; have := Nat.mod_lt k hp; split <;> omega
theorem numE_bd {h k : Nat} (hk : k / 2 ^ h ≤ 1000000) : numE h k ≤ 1000000 := by unfold numE; omega

set_option maxRecDepth 10000 in
set_option maxHeartbeats 2000000 in
theorem below_any (h q : Nat) (L : Int) (E : Nat) (a : Option Addr) (c : Nat) (l : List Nat) (e : Int) (w : World) (hh : 1 ≤ h) (hh2 : h ≤ 52) (hL1 : -2000 ≤ L) (hL2 : L ≤ 0) (hE : E = q * 2 ^ h) (hq : 2 ≤ q) (hq2 : q ≤ 2047) (hs : Sl w a c l) (hlen : l.length ≤ 8192) (he1 : -2000000 ≤ e) (he2 : e ≤ 2000000) :
    Calls Tryz.prog 306 #[.agg #[.int .i64 (h + 1 : Nat), .int .i64 L, .int .u64 E], .slice a l.length c, .int .i64 e] w fun en w' => ∃ k : Nat, en = .returned (.int .u64 k) ∧ IsBelow h E (sc L e) (sx L (num l) e) k ∧ Below w.heap.size w w' := by
  have hp := Nat.two_pow_pos h
  have hp52 : 2 ^ h ≤ 4503599627370496 := by have := Nat.pow_le_pow_right (show 0 < 2 by decide) hh2; simpa using this
  have hE0 : 1 < E := by
    rw [hE]; have := Nat.mul_le_mul hq hp; omega
  have hE2 : E ≤ 9218868437227405312 := by
    have := Nat.mul_le_mul hq2 hp52
    rw [← hE] at this; omega
  have hdiv : ∀ k, k ≤ E → k / 2 ^ h ≤ 1000000 := fun k hk => by
    have h1 : k / 2 ^ h ≤ E / 2 ^ h := Nat.div_le_div_right hk
    rw [hE, Nat.mul_div_cancel _ hp] at h1; omega
  have hN : ∀ W (k : Nat) z, z = (k : Int) → k ≤ E → Calls Tryz.prog 258 #[.agg #[.int .i64 ((h : Int) + 1), .int .i64 L, .int .u64 E], .int .u64 z] W fun en w' => ∃ a c, en = .returned (.tuple #[.slice a (words (numM h k)).length c, .int .i64 (L + numE h k)]) ∧ Own w' 118 W.heap.size a c (words (numM h k)) ∧ Below W.heap.size W w' := by
    rintro W k z rfl hk
    exact number_any h k L E W hh2 (by omega) hh hL1 (by omega) (hdiv k hk)
  have hA : ∀ W (k : Nat) a1 c1 base, k ≤ E → Below w.heap.size w W → Own W 118 base a1 c1 (words (numM h k)) → Calls Tryz.prog 190 #[.slice a1 (words (numM h k)).length c1, .int .i64 (L + numE h k), .slice a l.length c, .int .i64 e] W fun en w' => en = .returned (.int .i64 (cmpN (numV h k * 2 ^ sc L e) (sx L (num l) e))) ∧ Below W.heap.size W w' := by
    intro W k a1 c1 base hk hw ho
    have h1 := numM_len h k hh2
    have h2 := numE_bd (hdiv k hk)
    have := against_any a1 a c1 c (words (numM h k)) l (L + numE h k) e W (by omega) (by omega) (ho.sl (W32_words _)) (hs.grow hw) (by omega) (by omega) (by omega) (by omega)
    rw [num_words, ag_num] at this
    exact this
  have hV0 : numV h 0 = 0 := by unfold numV numM; simp
  generalize sx L (num l) e = X at *
  generalize sc L e = C at *
  have HN := Lib.hid hN; have HA := Lib.hid hA; clear hN hA hdiv hs hE hp hp52
  rw [show ((h + 1 : Nat) : Int) = (h : Int) + 1 from by simp]
  go_enter Tryz.func306, Tryz.ntmps306
  go_wp2_with fail
  obtain ⟨w1, h1⟩ : ∃ W, W = w.alloc (.cells #[.int .i64 ((h : Int) + 1), .int .i64 L, .int .u64 (E : Int)] 179) := ⟨_, rfl⟩
  rw [← h1]
  obtain ⟨k1, hB, s1⟩ := new_of h1 rfl
  clear h1
  obtain ⟨_, _, _, _, _, _⟩ := cells3 k1
  go_wp2_with fail
  go_loopw [7, 8] (fun f t wr => ∃ (lo hi : Nat), f = .int .u64 lo ∧ t = .int .u64 hi ∧ lo < hi ∧ hi ≤ E ∧ Hid (numV h lo * 2 ^ C ≤ X ∧ (hi = E ∨ X < numV h hi * 2 ^ C)) ∧ Below w1.heap.size w1 wr) (fun f t _ => (intOf t).toNat - (intOf f).toNat)
  case atStart => exact ⟨0, E, rfl, rfl, by omega, Nat.le_refl _, ⟨by rw [hV0]; simp, .inl rfl⟩, Below.refl _ _⟩
  case round =>
    obtain ⟨lo, hi, rfl, rfl, hlh, hhi, HP, hbr⟩ := hrel
    have hsz := hbr.size
    have k1r := (hbr.block w.heap.size (by omega)).trans k1
    obtain ⟨_, _, _, _, _, _⟩ := cells3 k1r
    by_cases hgo : 1 < hi - lo
    · have HN2 := Lib.hid (HN.out wr ((lo + hi) / 2) (((lo : Int) + (hi : Int)) / 2) (by simp) (by omega))
      have hBr : Below w.heap.size w wr := hB.trans (hbr.mono (by omega))
      go_wp2_with fail
      refine HN2.out.mono ?_; rintro en w2 ⟨a2, c2, rfl, ho2, hb2⟩
      have hb3 : Below w.heap.size w w2 := hBr.trans (hb2.mono hBr.size)
      have HA2 := Lib.hid (HA.out w2 _ a2 c2 _ (by omega) hb3 ho2)
      have hb4 : Below w1.heap.size w1 w2 := hbr.trans (hb2.mono hsz)
      have HB4 := Lib.hid hb4; clear hb4 hb3 ho2 hb2
      go_wp2_with fail
      refine HA2.out.mono ?_; rintro en w3 ⟨rfl, hb3⟩
      have hb5 := HB4.out.trans (hb3.mono HB4.out.size)
      have HB5 := Lib.hid hb5; clear hb5 hb3
      by_cases hcmp : X < numV h ((lo + hi) / 2) * 2 ^ C
      · have hc : ¬ cmpN (numV h ((lo + hi) / 2) * 2 ^ C) X ≤ 0 := by rw [cmpN_gt hcmp]; decide
        have Hc := Lib.hid hcmp; clear hcmp
        go_wp2
        go_roundw
        case rel => exact ⟨lo, (lo + hi) / 2, rfl, by simp, by omega, by omega, ⟨HP.out.1, .inr Hc.out⟩, HB5.out⟩
        case measure => simp [intOf]; omega
      · have hc : cmpN (numV h ((lo + hi) / 2) * 2 ^ C) X ≤ 0 := cmpN_le.2 (by omega)
        have Hc := Lib.hid hcmp; clear hcmp
        go_wp2
        go_roundw
        case rel => exact ⟨(lo + hi) / 2, hi, by simp, rfl, by omega, by omega, ⟨by have := Hc.out; omega, HP.out.2⟩, HB5.out⟩
        case measure => simp [intOf]; omega
    · have h2 : hi = lo + 1 := by omega
      have hlt : lo < E := by omega
      have hr : IsBelow h E C X lo := ⟨hlt, HP.out.1, by rw [← h2]; exact HP.out.2⟩
      have HR := Lib.hid hr; clear hr h2
      have hBr : Below w.heap.size w wr := hB.trans (hbr.mono (by omega))
      have HBr := Lib.hid hBr; clear hBr
      go_wp2
      go_ret
      exact ⟨lo, rfl, HR.out, HBr.out⟩
end Go.Proofs.YteahdgbokjbgcaaGreatDoor
namespace Go.Proofs.YteahdgbokjbgcaaGreatDoor
open Go.RowKit
set_option linter.unusedVariables false
set_option linter.unusedSimpArgs false

set_option maxRecDepth 10000 in
set_option maxHeartbeats 2000000 in
theorem half_any (h q k : Nat) (L : Int) (E : Nat) (a : Option Addr) (c : Nat) (l : List Nat) (e : Int) (w : World) (hh : 1 ≤ h) (hh2 : h ≤ 52) (hL1 : -2000 ≤ L) (hL2 : L ≤ 0) (hE : E = q * 2 ^ h) (hq2 : q ≤ 2047) (hk : k + 1 ≤ E) (hs : Sl w a c l) (hlen : l.length ≤ 8192) (he1 : -2000000 ≤ e) (he2 : e ≤ 2000000) :
    Calls Tryz.prog 307 #[.agg #[.int .i64 (h + 1 : Nat), .int .i64 L, .int .u64 E], .int .u64 k, .slice a l.length c, .int .i64 e] w fun en w' => en = .returned (.int .i64 (cmpN (2 * sx L (num l) e) ((numV h k + numV h (k + 1)) * 2 ^ sc L e))) ∧ Below w.heap.size w w' := by
  have hp := Nat.two_pow_pos h
  have hp52 : 2 ^ h ≤ 4503599627370496 := by have := Nat.pow_le_pow_right (show 0 < 2 by decide) hh2; simpa using this
  have hE2 : E ≤ 9218868437227405312 := by
    have := Nat.mul_le_mul hq2 hp52
    rw [← hE] at this; omega
  have hdiv : ∀ k, k ≤ E → k / 2 ^ h ≤ 1000000 := fun k hk => by
    have h1 : k / 2 ^ h ≤ E / 2 ^ h := Nat.div_le_div_right hk
    rw [hE, Nat.mul_div_cancel _ hp] at h1; omega
  rw [← ag_half]
  have hl1 := numM_len h k hh2
  have hl2 := numM_len h (k + 1) hh2
  have hb1 := numE_bd (hdiv k (by omega))
  have hb2 := numE_bd (hdiv (k + 1) hk)
  have hle := numE_le h k
  obtain ⟨d, hd⟩ : ∃ d, d = numE h (k + 1) - numE h k := ⟨_, rfl⟩
  rw [← hd]
  obtain ⟨F, hF⟩ : ∃ F, F = L + (numE h k : Int) := ⟨_, rfl⟩
  obtain ⟨G, hG⟩ : ∃ G, G = L + (numE h (k + 1) : Int) := ⟨_, rfl⟩
  have hdG : (d : Int) = G - F := by omega
  have hN1 := fun W => number_any h k L E W hh2 (by omega) hh hL1 (by omega) (hdiv k (by omega))
  have hN2 := fun W => number_any h (k + 1) L E W hh2 (by omega) hh hL1 (by omega) (hdiv (k + 1) hk)
  rw [← hF] at hN1 ⊢
  rw [← hG] at hN2
  have hF1 : -2000 ≤ F := by omega
  have hF2 : F ≤ 1000000 := by omega
  have hG2 : G ≤ 1000000 := by omega
  have hFG : ¬ G < F := by omega
  have hd3 : d ≤ 1000000 := by omega
  generalize numM h k = M at *
  generalize numM h (k + 1) = M' at *
  have hML : (words (M' * 2 ^ d)).length ≤ 40000 := by
    obtain ⟨j, hj⟩ : ∃ j, j = 31250 := ⟨_, rfl⟩
    refine Nat.le_trans (words_len_le (k := 2 + j) ?_) (by omega)
    have h1 : M' < 4294967296 ^ 2 := by have := num_lt (W32_words M'); rw [num_words] at this; exact Nat.lt_of_lt_of_le this (Nat.pow_le_pow_right (by decide) hl2)
    have h2 : 2 ^ d ≤ 4294967296 ^ j := by rw [pow32]; exact Nat.pow_le_pow_right (by decide) (by omega)
    have h3 : M' * 2 ^ d < 4294967296 ^ 2 * 4294967296 ^ j := Nat.lt_of_lt_of_le ((Nat.mul_lt_mul_right (Nat.two_pow_pos d)).2 h1) (Nat.mul_le_mul_left _ h2)
    rw [← Nat.pow_add] at h3
    exact h3
  have hMv : ∀ W a2 c2 base, Own W 118 base a2 c2 (words M') → Calls Tryz.prog 185 #[.slice a2 (words M').length c2, .int .i64 (G - F)] W fun e w' => ∃ a1 c1, e = .returned (.slice a1 (words (M' * 2 ^ d)).length c1) ∧ Own w' 118 W.heap.size a1 c1 (words (M' * 2 ^ d)) ∧ Below W.heap.size W w' := by
    intro W a2 c2 base ho
    have := rmoved_up a2 c2 (words M') d W (by omega) (by omega) (ho.sl (W32_words _))
    rw [num_words, hdG] at this
    exact this
  obtain ⟨M2, hM2⟩ : ∃ M2, M2 = M' * 2 ^ d := ⟨_, rfl⟩
  rw [← hM2] at hMv hML ⊢
  clear hM2
  have hSumL : (words (M + M2)).length ≤ 40001 := by
    obtain ⟨j, hj⟩ : ∃ j, j = 40000 := ⟨_, rfl⟩
    refine Nat.le_trans (words_len_le (k := j + 1) ?_) (by omega)
    have h1 := num_lt (W32_words M); rw [num_words] at h1
    have h2 := num_lt (W32_words M2); rw [num_words] at h2
    have h3 : 4294967296 ^ (words M).length ≤ 4294967296 ^ j := Nat.pow_le_pow_right (by decide) (by omega)
    have h4 : 4294967296 ^ (words M2).length ≤ 4294967296 ^ j := Nat.pow_le_pow_right (by decide) (by omega)
    rw [Nat.pow_succ]
    generalize 4294967296 ^ j = Z at *
    omega
  have hPl : ∀ W a1 c1 a2 c2 b1 b2, Own W 118 b1 a1 c1 (words M) → Own W 118 b2 a2 c2 (words M2) → Calls Tryz.prog 186 #[.slice a1 (words M).length c1, .slice a2 (words M2).length c2] W fun e w' => ∃ a' c', e = .returned (.slice a' (words (M + M2)).length c') ∧ Own w' 118 W.heap.size a' c' (words (M + M2)) ∧ Below W.heap.size W w' := by
    intro W a1 c1 a2 c2 b1 b2 h1 h2
    have := rplus_any a1 a2 c1 c2 (words M) (words M2) W (by omega) (by omega) (W32_words _) h1.rd (W32_words _) h2.rd
    rw [num_words, num_words] at this; exact this
  obtain ⟨S, hS⟩ : ∃ S, S = M + M2 := ⟨_, rfl⟩
  rw [← hS] at hPl hSumL ⊢
  clear hS
  have hnl := num_lt hs.w32
  have h2l : (words (num l * 2)).length ≤ 8193 := by
    refine Nat.le_trans (words_len_le (k := l.length + 1) ?_) (by omega)
    rw [Nat.pow_succ]
    generalize 4294967296 ^ l.length = Z at *
    omega
  have hTi : ∀ W, Below w.heap.size w W → Calls Tryz.prog 184 #[.slice a l.length c, .slice (some ⟨W.heap.size, 0, none⟩) 1 1] (W.alloc (.cells #[.int .u32 2] 118)) fun e w' => ∃ a' c', e = .returned (.slice a' (words (num l * 2)).length c') ∧ Own w' 118 W.heap.size a' c' (words (num l * 2)) ∧ Below W.heap.size W w' := by
    intro W hw
    have hB := blk_alloc W 118 #[.int .u32 2] [2] (by simp)
    have hsw := Sl.blk hB (W32.cons (by decide) W32.nil)
    have := rtimes_any a (some ⟨W.heap.size, 0, none⟩) c 1 l [2] (W.alloc (.cells #[.int .u32 2] 118)) (by simp; omega) hs.w32 ((hs.rd.grow hw).grow ((Below.refl _ _).alloc (Nat.le_refl _) _)) hsw.w32 hsw.rd
    rw [show num l * num [2] = num l * 2 by simp [num], World.size_alloc] at this
    refine this.mono ?_
    rintro e w' ⟨a', c', h1, h2, h3⟩
    exact ⟨a', c', h1, h2.mono (by omega), ((Below.refl _ _).alloc (Nat.le_refl _) _).trans (h3.mono (by omega))⟩
  have hAg : ∀ W a1 c1 a2 c2 b1 b2, Own W 118 b1 a1 c1 (words (num l * 2)) → Own W 118 b2 a2 c2 (words S) → Calls Tryz.prog 190 #[.slice a1 (words (num l * 2)).length c1, .int .i64 e, .slice a2 (words S).length c2, .int .i64 F] W fun en w' => en = .returned (.int .i64 (agN (num l * 2) e S F)) ∧ Below W.heap.size W w' := by
    intro W a1 c1 a2 c2 b1 b2 h1 h2
    have := against_any a1 a2 c1 c2 (words (num l * 2)) (words S) e F W (by omega) (by omega) (h1.sl (W32_words _)) (h2.sl (W32_words _)) (by omega) (by omega) (by omega) (by omega)
    rw [num_words, num_words] at this; exact this
  generalize agN (num l * 2) e S F = r at *
  generalize num l * 2 = X at *
  have HN1 := Lib.hid hN1; have HN2 := Lib.hid hN2; have HMv := Lib.hid hMv; have HPl := Lib.hid hPl; have HTi := Lib.hid hTi; have HAg := Lib.hid hAg
  have hk1 : IntKind.u64.wrap ((k : Int) + 1) = ((k + 1 : Nat) : Int) := by rw [IntKind.wrap_u64]; omega
  have hdw : IntKind.i64.wrap (G - F) = G - F := by rw [IntKind.wrap_i64]; omega
  clear hN1 hN2 hMv hPl hTi hAg hs hE hp hp52 hdiv hl1 hl2 hb1 hb2 hle hd hF hG hdG hML hSumL hnl h2l
  rw [show ((h + 1 : Nat) : Int) = (h : Int) + 1 from by simp] at *
  go_enter Tryz.func307, Tryz.ntmps307
  go_wp2_with fail
  obtain ⟨w1, h1⟩ : ∃ W, W = w.alloc (.cells #[.int .i64 ((h : Int) + 1), .int .i64 L, .int .u64 (E : Int)] 179) := ⟨_, rfl⟩
  rw [← h1]
  obtain ⟨k1, hB, s1⟩ := new_of h1 rfl
  clear h1
  refine (HN1.out w1).mono ?_; rintro en w2 ⟨a1, c1, rfl, ho1, hb2⟩
  have k2 := (hb2.block w.heap.size (by omega)).trans k1
  obtain ⟨_, _, _, _, _, _⟩ := cells3 k2
  have hB2 := hB.trans (hb2.mono (by omega))
  have HB2 := Lib.hid hB2; have HO1 := Lib.hid ho1; clear hB2 ho1 hb2 hB
  go_wp2_with fail
  refine (HN2.out w2).mono ?_; rintro en w3 ⟨a2, c2, rfl, ho2, hb3⟩
  have hB3 := HB2.out.trans (hb3.mono HB2.out.size)
  have ho1' := HO1.out.grow hb3
  have HB3 := Lib.hid hB3; have HO1' := Lib.hid ho1'; have HO2 := Lib.hid ho2; clear hB3 ho1' hb3 ho2 HB2 HO1
  go_wp2_with fail
  refine (HMv.out _ _ _ _ HO2.out).mono ?_; rintro en w4 ⟨a3, c3, rfl, ho3, hb4⟩
  have hB4 := HB3.out.trans (hb4.mono HB3.out.size)
  have ho1' := HO1'.out.grow hb4
  have HB4 := Lib.hid hB4; have HO14 := Lib.hid ho1'; have HO3 := Lib.hid ho3; clear hB4 ho1' hb4 ho3 HB3 HO1'
  go_wp2_with fail
  refine (HPl.out _ _ _ _ _ _ _ HO14.out HO3.out).mono ?_; rintro en w5 ⟨a4, c4, rfl, ho4, hb5⟩
  have hB5 := HB4.out.trans (hb5.mono HB4.out.size)
  have HB5 := Lib.hid hB5; have HO4 := Lib.hid ho4; clear hB5 hb5 ho4 HB4
  go_wp2_with fail
  refine (HTi.out w5 HB5.out).mono ?_; rintro en w6 ⟨a5, c5, rfl, ho5, hb6⟩
  have hB6 := HB5.out.trans (hb6.mono HB5.out.size)
  have ho4 := HO4.out.grow hb6
  have HB6 := Lib.hid hB6; have HO5 := Lib.hid ho5; have HO46 := Lib.hid ho4; clear hB6 hb6 ho5 ho4 HB5
  go_wp2_with fail
  refine (HAg.out _ _ _ _ _ _ _ HO5.out HO46.out).mono ?_; rintro en w7 ⟨rfl, hb7⟩
  have hB7 := HB6.out.trans (hb7.mono HB6.out.size)
  have HB7 := Lib.hid hB7; clear hB7 hb7
  go_wp2
  go_ret
  exact ⟨rfl, HB7.out⟩
end Go.Proofs.YteahdgbokjbgcaaGreatDoor
namespace Go.Proofs.YteahdgbokjbgcaaGreatDoor
open Go.RowKit
set_option linter.unusedVariables false
set_option linter.unusedSimpArgs false

set_option maxRecDepth 10000 in
set_option maxHeartbeats 4000000 in
theorem nearby_any (h q : Nat) (L : Int) (E : Nat) (neg : Bool) (a : Option Addr) (c : Nat) (l : List Nat) (e mode : Int) (w : World) (hh : 1 ≤ h) (hh2 : h ≤ 52) (hL1 : -2000 ≤ L) (hL2 : L ≤ 0) (hE : E = q * 2 ^ h) (hq : 2 ≤ q) (hq2 : q ≤ 2047) (hs : Sl w a c l) (hlen : l.length ≤ 8192) (he1 : -2000000 ≤ e) (he2 : e ≤ 2000000) :
    Calls Tryz.prog 257 #[.agg #[.int .i64 (h + 1 : Nat), .int .i64 L, .int .u64 E], .bool neg, .slice a l.length c, .int .i64 e, .int .i64 mode] w fun en w' => ∃ r : Nat, en = .returned (.int .u64 r) ∧ Rounds h L E ⟨neg, num l, e⟩ mode r ∧ Below w.heap.size w w' := by
  have hp := Nat.two_pow_pos h
  have hp52 : 2 ^ h ≤ 4503599627370496 := by have := Nat.pow_le_pow_right (show 0 < 2 by decide) hh2; simpa using this
  have hE2 : E ≤ 9218868437227405312 := by
    have := Nat.mul_le_mul hq2 hp52
    rw [← hE] at this; omega
  have hdiv : ∀ k, k ≤ E → k / 2 ^ h ≤ 1000000 := fun k hk => by
    have h1 : k / 2 ^ h ≤ E / 2 ^ h := Nat.div_le_div_right hk
    rw [hE, Nat.mul_div_cancel _ hp] at h1; omega
  have hBe := fun W (hw : Below w.heap.size w W) => below_any h q L E a c l e W hh hh2 hL1 hL2 hE hq hq2 (hs.grow hw) hlen he1 he2
  have hN : ∀ W (k : Nat), k < E → Calls Tryz.prog 258 #[.agg #[.int .i64 ((h : Int) + 1), .int .i64 L, .int .u64 E], .int .u64 k] W fun en w' => ∃ a c, en = .returned (.tuple #[.slice a (words (numM h k)).length c, .int .i64 (L + numE h k)]) ∧ Own w' 118 W.heap.size a c (words (numM h k)) ∧ Below W.heap.size W w' := by
    rintro W k hk
    exact number_any h k L E W hh2 (by omega) hh hL1 (by omega) (hdiv k (by omega))
  have hA : ∀ W (k : Nat) a1 c1 base, k < E → Below w.heap.size w W → Own W 118 base a1 c1 (words (numM h k)) → Calls Tryz.prog 190 #[.slice a1 (words (numM h k)).length c1, .int .i64 (L + numE h k), .slice a l.length c, .int .i64 e] W fun en w' => en = .returned (.int .i64 (cmpN (numV h k * 2 ^ sc L e) (sx L (num l) e))) ∧ Below W.heap.size W w' := by
    intro W k a1 c1 base hk hw ho
    have h1 := numM_len h k hh2
    have h2 := numE_bd (hdiv k (by omega))
    have := against_any a1 a c1 c (words (numM h k)) l (L + numE h k) e W (by omega) (by omega) (ho.sl (W32_words _)) (hs.grow hw) (by omega) (by omega) (by omega) (by omega)
    rw [num_words, ag_num] at this
    exact this
  have hH := fun W (k : Nat) (hk : k < E) (hw : Below w.heap.size w W) => half_any h q k L E a c l e W hh hh2 hL1 hL2 hE hq2 (by omega) (hs.grow hw) hlen he1 he2
  have hR : ∀ k r, IsBelow h E (sc L e) (sx L (num l) e) k → r = nearK h (sc L e) (sx L (num l) e) mode neg k → Rounds h L E ⟨neg, num l, e⟩ mode r := fun k r h1 h2 => ⟨k, h1, h2⟩
  generalize Rounds h L E ⟨neg, num l, e⟩ mode = PR at *
  generalize sx L (num l) e = X at *
  generalize sc L e = C at *
  rw [show ((h + 1 : Nat) : Int) = (h : Int) + 1 from by simp] at *
  have HBe := Lib.hid hBe; have HN := Lib.hid hN; have HA := Lib.hid hA; have HH := Lib.hid hH; have HR := Lib.hid hR
  clear hBe hN hA hH hR hE hp hp52 hdiv hs
  go_enter Tryz.func257, Tryz.ntmps257
  go_wp2_with fail
  obtain ⟨w1, h1⟩ : ∃ W, W = w.alloc (.cells #[.int .i64 ((h : Int) + 1), .int .i64 L, .int .u64 (E : Int)] 179) := ⟨_, rfl⟩
  rw [← h1]
  obtain ⟨k1, hB, s1⟩ := new_of h1 rfl
  clear h1
  refine (HBe.out w1 hB).mono ?_; rintro en w2 ⟨k, rfl, hIB, hb2⟩
  have k2 := (hb2.block w.heap.size (by omega)).trans k1
  have hB2 := hB.trans (hb2.mono (by omega))
  have s2 := hb2.size
  have hkE := hIB.lt
  have HIB := Lib.hid hIB; clear hIB hb2 hB k1
  obtain ⟨_, _, _, _, _, _⟩ := cells3 k2
  go_wp2_with fail
  refine (HN.out w2 k hkE).mono ?_; rintro en w3 ⟨a3, c3, rfl, ho3, hb3⟩
  have k3 := (hb3.block w.heap.size (by omega)).trans k2
  have hB3 := hB2.trans (hb3.mono (by omega))
  have s3 := hb3.size
  have HA3 := Lib.hid (HA.out w3 k a3 c3 _ hkE hB3 ho3)
  clear hb3 ho3 k2 hB2
  obtain ⟨_, _, _, _, _, _⟩ := cells3 k3
  go_wp2_with fail
  refine HA3.out.mono ?_; rintro en w4 ⟨rfl, hb4⟩
  have k4 := (hb4.block w.heap.size (by omega)).trans k3
  have hB4 := hB3.trans (hb4.mono (by omega))
  have s4 := hb4.size
  have HH4 := Lib.hid (HH.out w4 k hkE hB4)
  have HB4 := Lib.hid hB4
  clear hb4 hB3 k3 hB4
  obtain ⟨_, _, _, _, _, _⟩ := cells3 k4
  by_cases heq : numV h k * 2 ^ C = X
  · have e1 : (cmpN (numV h k * 2 ^ C) X == 0) = true := by rw [cmpN_eq heq]; rfl
    have hr : PR k := HR.out k k HIB.out (by unfold nearK; rw [if_pos heq])
    have HPR := Lib.hid hr; clear hr
    have Heq := Lib.hid heq; clear heq
    go_wp2_with fail
    go_ret
    exact ⟨k, rfl, HPR.out, HB4.out⟩
  have e1 : (cmpN (numV h k * 2 ^ C) X == 0) = false := by
    have : cmpN (numV h k * 2 ^ C) X ≠ 0 := fun h0 => heq (cmpN_zero.1 h0)
    simpa using this
  obtain ⟨g, hg⟩ : ∃ g, g = cmpN (2 * X) ((numV h k + numV h (k + 1)) * 2 ^ C) := ⟨_, rfl⟩
  rw [← hg] at HH4
  have hr : ∀ r, r = (if onK mode neg k g = true then k + 1 else k) → PR r := fun r h1 => HR.out k r HIB.out (by unfold nearK; rw [if_neg heq, ← hg]; exact h1)
  have HPR := Lib.hid hr; clear hr hg heq
  generalize numV h k * 2 ^ C = V at *
  have hk1 : IntKind.u64.wrap ((k : Int) + 1) = ((k + 1 : Nat) : Int) := by rw [IntKind.wrap_u64]; omega
  unfold onK at HPR
  go_wp2_with fail
  refine HH4.out.mono ?_; rintro en w5 ⟨rfl, hb5⟩
  have hB5 := HB4.out.trans (hb5.mono HB4.out.size)
  have HB5 := Lib.hid hB5; clear hb5 hB5
  rcases (show mode = 0 ∨ mode = 2 ∨ mode = 3 ∨ mode = 4 ∨ (mode ≠ 0 ∧ mode ≠ 2 ∧ mode ≠ 3 ∧ mode ≠ 4) by omega) with hm | hm | hm | hm | ⟨hm0, hm2, hm3, hm4⟩
  · subst hm
    rcases (show 0 < g ∨ g < 0 ∨ (g = 0 ∧ k % 2 = 1) ∨ (g = 0 ∧ k % 2 = 0) by omega) with hg | hg | ⟨hg, ho⟩ | ⟨hg, ho⟩
    · have hr : PR (k + 1) := HPR.out (k + 1) (by simp [hg])
      have HP := Lib.hid hr; clear hr
      go_wp2_with fail
      go_ret
      exact ⟨k + 1, rfl, HP.out, HB5.out⟩
    · have hr : PR k := HPR.out k (by simp; omega)
      have HP := Lib.hid hr; clear hr
      have e2 : (g == 0) = false := by simp; omega
      have e3 : ¬ 0 < g := by omega
      go_wp2_with fail
      go_ret
      exact ⟨k, rfl, HP.out, HB5.out⟩
    · subst hg
      have hr : PR (k + 1) := HPR.out (k + 1) (by simp [ho])
      have HP := Lib.hid hr; clear hr
      have e2 : ((k : Int) % 2 == 1) = true := by simp; omega
      have HO := Lib.hid ho; clear ho
      go_wp2_with fail
      go_ret
      exact ⟨k + 1, rfl, HP.out, HB5.out⟩
    · subst hg
      have hr : PR k := HPR.out k (by simp [ho])
      have HP := Lib.hid hr; clear hr
      have e2 : ((k : Int) % 2 == 1) = false := by simp; omega
      have HO := Lib.hid ho; clear ho
      go_wp2_with fail
      go_ret
      exact ⟨k, rfl, HP.out, HB5.out⟩
  · subst hm
    cases neg with
    | true =>
      have hr : PR k := HPR.out k (by simp)
      have HP := Lib.hid hr; clear hr
      go_wp2_with fail
      go_ret
      exact ⟨k, rfl, HP.out, HB5.out⟩
    | false =>
      have hr : PR (k + 1) := HPR.out (k + 1) (by simp)
      have HP := Lib.hid hr; clear hr
      go_wp2_with fail
      go_ret
      exact ⟨k + 1, rfl, HP.out, HB5.out⟩
  · subst hm
    cases neg with
    | true =>
      have hr : PR (k + 1) := HPR.out (k + 1) (by simp)
      have HP := Lib.hid hr; clear hr
      go_wp2_with fail
      go_ret
      exact ⟨k + 1, rfl, HP.out, HB5.out⟩
    | false =>
      have hr : PR k := HPR.out k (by simp)
      have HP := Lib.hid hr; clear hr
      go_wp2_with fail
      go_ret
      exact ⟨k, rfl, HP.out, HB5.out⟩
  · subst hm
    by_cases hg : 0 ≤ g
    · have hr : PR (k + 1) := HPR.out (k + 1) (by simp [hg])
      have HP := Lib.hid hr; clear hr
      go_wp2_with fail
      go_ret
      exact ⟨k + 1, rfl, HP.out, HB5.out⟩
    · have hr : PR k := HPR.out k (by simp [hg])
      have HP := Lib.hid hr; clear hr
      go_wp2_with fail
      go_ret
      exact ⟨k, rfl, HP.out, HB5.out⟩
  · have hr : PR k := HPR.out k (by rw [if_neg hm0, if_neg hm2, if_neg hm3, if_neg hm4]; simp)
    have HP := Lib.hid hr; clear hr
    have e2 : (mode == 0) = false := by simpa using hm0
    have e3 : (mode == 2) = false := by simpa using hm2
    have e4 : (mode == 3) = false := by simpa using hm3
    have e5 : (mode == 4) = false := by simpa using hm4
    clear hm0 hm2 hm3 hm4
    go_wp2_with fail
    go_ret
    exact ⟨k, rfl, HP.out, HB5.out⟩
end Go.Proofs.YteahdgbokjbgcaaGreatDoor
namespace Go.Proofs.YteahdgbokjbgcaaGreatDoor
open Go.RowKit
set_option linter.unusedVariables false
set_option linter.unusedSimpArgs false

set_option maxRecDepth 10000 in
set_option maxHeartbeats 4000000 in
theorem rround_any (x : Arg) (mode : Int) (w : World) (hx : x.Ok w) :
    Calls Tryz.prog 178 #[x.v, .int .i64 mode] w fun en w' => (∃ (r : Nat) (er : Int), en = .returned (.tuple #[.float .f64 r, .int .i64 er]) ∧ RoundsTo 52 (-1074) 9218868437227405312 9223372036854775808 mode x.F r er) ∧ Below w.heap.size w w' := by
  have hMa := fun W (hw : Below w.heap.size w W) => made_any x W (hx.grow hw)
  have hok : ∀ d, x.F = some d → d.Ok := fun d h => formF_ok h
  generalize x.F = o at *
  have HMa := Lib.hid hMa; have HOK := Lib.hid hok; clear hMa hok hx
  obtain ⟨s, a, l, c, e⟩ := x
  simp only [Arg.v] at HMa ⊢
  have hb1 := (Below.refl w.heap.size w).alloc (Nat.le_refl _) (.cells #[.bool s, .slice a l.length c, .int .i64 e] 46)
  rcases (show mode < 0 ∨ (¬ mode < 0 ∧ 4 < mode) ∨ (¬ mode < 0 ∧ ¬ 4 < mode) by omega) with hm | ⟨hm1, hm⟩ | ⟨hm1, hm2⟩
  · have hr : RoundsTo 52 (-1074) 9218868437227405312 9223372036854775808 mode o 0 1 := .inl ⟨by omega, rfl, rfl⟩
    have HR := Lib.hid hr; clear hr
    have HB := Lib.hid hb1; clear hb1
    go_enter Tryz.func178, Tryz.ntmps178
    go_wp2_with fail
    go_ret2
    exact ⟨⟨0, 1, rfl, HR.out⟩, HB.out⟩
  · have hr : RoundsTo 52 (-1074) 9218868437227405312 9223372036854775808 mode o 0 1 := .inl ⟨by omega, rfl, rfl⟩
    have HR := Lib.hid hr; clear hr
    have HB := Lib.hid hb1; clear hb1
    go_enter Tryz.func178, Tryz.ntmps178
    go_wp2_with fail
    go_ret2
    exact ⟨⟨0, 1, rfl, HR.out⟩, HB.out⟩
  clear hb1
  go_enter Tryz.func178, Tryz.ntmps178
  go_wp2_with fail
  (obtain ⟨w1, h1⟩ : ∃ W, W = (w.alloc (.cells #[.bool s, .slice a l.length c, .int .i64 e] 46)) := ⟨_, rfl⟩; have pinEq := h1; (try simp only [wr3] at pinEq); rw [← pinEq]; clear pinEq)
  obtain ⟨k1, hB, s1⟩ := new_cel h1 rfl
  clear h1
  obtain ⟨q42x0x0, q42x0x1, q42x0x2, q42x0x3, q42x0x4, q42x0x5⟩ := Cel.facts k1
  refine (HMa.out w1 hB).mono ?_; rintro en w2 ⟨v, rfl, ⟨a1, c1, rfl, ho1⟩, hb⟩
  (replace k1 := cel_call hb k1 (by omega); replace hB := below_call hb hB (by omega))
  have s2 := hb.size
  clear hb
  simp only [dyV]
  have kn := Cel.new w2 (.bool (outO o).neg) (.slice a1 (words (outO o).m).length c1) (.int .i64 (outO o).exp)
  have hB3 := hB.alloc hB.size (.cells #[.bool (outO o).neg, .slice a1 (words (outO o).m).length c1, .int .i64 (outO o).exp] 46)
  have ho3 := ho1.grow ((Below.refl w2.heap.size w2).alloc (Nat.le_refl _) (.cells #[.bool (outO o).neg, .slice a1 (words (outO o).m).length c1, .int .i64 (outO o).exp] 46))
  cases o with
  | none =>
    have hr : RoundsTo 52 (-1074) 9218868437227405312 9223372036854775808 mode none 0 2 := .inr ⟨by omega, .inl ⟨rfl, rfl, rfl⟩⟩
    have HR := Lib.hid hr; have HB3 := Lib.hid hB3; clear hr hB3
    simp only [Option.isSome]
    go_wp2_with fail
    go_ret2
    exact ⟨⟨0, 2, rfl, HR.out⟩, HB3.out⟩
  | some d =>
    obtain ⟨hd1, hd2, hd3⟩ := HOK.out d rfl
    simp only [Option.isSome, show outO (some d) = d from rfl] at *
    have hE : ∀ (k r : Nat), Rounds 52 (-1074) 9218868437227405312 d mode k → r = k + (if d.neg = true then 9223372036854775808 else 0) → RoundsTo 52 (-1074) 9218868437227405312 9223372036854775808 mode (some d) r 0 := fun k r h1 h => .inr ⟨by omega, .inr ⟨d, k, rfl, h1, h, rfl⟩⟩
    have hN : ∀ W base, Own W 118 base a1 c1 (words d.m) → Calls Tryz.prog 257 #[.agg #[.int .i64 53, .int .i64 (-1074), .int .u64 9218868437227405312], .bool d.neg, .slice a1 (words d.m).length c1, .int .i64 d.exp, .int .i64 mode] W fun en w' => ∃ r : Nat, en = .returned (.int .u64 r) ∧ Rounds 52 (-1074) 9218868437227405312 d mode r ∧ Below W.heap.size W w' := by
      intro W base ho
      have := nearby_any 52 2047 (-1074) 9218868437227405312 d.neg a1 c1 (words d.m) d.exp mode W (by decide) (by decide) (by decide) (by decide) (by decide) (by decide) (by decide) (ho.sl (W32_words _)) hd1 (by omega) (by omega)
      rw [num_words] at this
      exact this
    have HE := Lib.hid hE; have HN := Lib.hid hN; clear hE hN hd1 hd2 hd3 HOK HMa
    obtain ⟨dn, dm, de⟩ := d
    simp only at *
    go_wp2_with fail
    obtain ⟨w3, h3⟩ : ∃ W, W = w2.alloc (.cells #[.bool dn, .slice a1 (words dm).length c1, .int .i64 de] 46) := ⟨_, rfl⟩
    rw [← h3] at kn hB3 ho3 ⊢
    have s3 : w3.heap.size = w2.heap.size + 1 := by rw [h3, World.size_alloc]
    clear h3 ho1
    obtain ⟨_, _, _, _, _, _⟩ := kn.facts
    have HB3 := Lib.hid hB3; have HO3 := Lib.hid ho3; have HS3 := Lib.hid s3; clear hB3 ho3 s3
    go_region_held3 (fun W => W.cell? ⟨w2.heap.size, 0, none⟩ = some (.bool dn) ∧ W.cell? ⟨w2.heap.size, 1, none⟩ = some (.slice a1 (words dm).length c1) ∧ W.cell? ⟨w2.heap.size, 2, none⟩ = some (.int .i64 de)) (go_keep) (first
      | (go_at_call 180; refine (of64_any _).mono ?_; rintro en w4 ⟨rfl, hb4⟩; have k4 := kn.below (below_drewN (n := 1) hb4) (by have := kn.lt; simpa using this); obtain ⟨_, _, _, _, _, _⟩ := k4.facts)
      | (go_at_call 257; refine (HN.out _ _ (HO3.out.grow ((below_drewN (n := 1) hb4).mono (by simp)))).mono ?_; rintro en w5 ⟨k, rfl, hR5, hb5⟩; have k5 := k4.below hb5 k4.lt; obtain ⟨_, _, _, _, _, _⟩ := k5.facts))
    all_goals
      have hle := hR5.le
      have HR5 := Lib.hid hR5; clear hR5
      have hB5 : Below w.heap.size w w5 := (HB3.out.trans ((below_drewN (n := 1) hb4).mono (by have := HB3.out.size; simp; omega))).trans (hb5.mono (by have := HB3.out.size; have := hb4.size; simp at this; omega))
      have HB5 := Lib.hid hB5; clear hB5
      have hx0 := ext_from64 k
      have hx1 := ext_from64 (k + 9223372036854775808)
      rw [show ((k + 9223372036854775808 : Nat) : Int) = (k : Int) + 9223372036854775808 from by simp] at hx1
      have hw1 : IntKind.u64.wrap ((k : Int) + 9223372036854775808) = (k : Int) + 9223372036854775808 := by rw [IntKind.wrap_u64]; omega
      cases dn with
      | true =>
        go_wp2_with fail
        go_ret2
        exact ⟨⟨k + 9223372036854775808, 0, rfl, HE.out k _ HR5.out (by simp)⟩, HB5.out⟩
      | false =>
        go_wp2_with fail
        go_ret2
        exact ⟨⟨k, 0, rfl, HE.out k _ HR5.out (by simp)⟩, HB5.out⟩
set_option maxRecDepth 10000 in
set_option maxHeartbeats 4000000 in
theorem rround32_any (x : Arg) (mode : Int) (w : World) (hx : x.Ok w) :
    Calls Tryz.prog 227 #[x.v, .int .i64 mode] w fun en w' => (∃ (r : Nat) (er : Int), en = .returned (.tuple #[.float .f32 r, .int .i64 er]) ∧ RoundsTo 23 (-149) 2139095040 2147483648 mode x.F r er) ∧ Below w.heap.size w w' := by
  have hMa := fun W (hw : Below w.heap.size w W) => made_any x W (hx.grow hw)
  have hok : ∀ d, x.F = some d → d.Ok := fun d h => formF_ok h
  generalize x.F = o at *
  have HMa := Lib.hid hMa; have HOK := Lib.hid hok; clear hMa hok hx
  obtain ⟨s, a, l, c, e⟩ := x
  simp only [Arg.v] at HMa ⊢
  have hb1 := (Below.refl w.heap.size w).alloc (Nat.le_refl _) (.cells #[.bool s, .slice a l.length c, .int .i64 e] 46)
  rcases (show mode < 0 ∨ (¬ mode < 0 ∧ 4 < mode) ∨ (¬ mode < 0 ∧ ¬ 4 < mode) by omega) with hm | ⟨hm1, hm⟩ | ⟨hm1, hm2⟩
  · have hr : RoundsTo 23 (-149) 2139095040 2147483648 mode o 0 1 := .inl ⟨by omega, rfl, rfl⟩
    have HR := Lib.hid hr; clear hr
    have HB := Lib.hid hb1; clear hb1
    go_enter Tryz.func227, Tryz.ntmps227
    go_wp2_with fail
    go_ret2
    exact ⟨⟨0, 1, rfl, HR.out⟩, HB.out⟩
  · have hr : RoundsTo 23 (-149) 2139095040 2147483648 mode o 0 1 := .inl ⟨by omega, rfl, rfl⟩
    have HR := Lib.hid hr; clear hr
    have HB := Lib.hid hb1; clear hb1
    go_enter Tryz.func227, Tryz.ntmps227
    go_wp2_with fail
    go_ret2
    exact ⟨⟨0, 1, rfl, HR.out⟩, HB.out⟩
  clear hb1
  go_enter Tryz.func227, Tryz.ntmps227
  go_wp2_with fail
  (obtain ⟨w1, h1⟩ : ∃ W, W = (w.alloc (.cells #[.bool s, .slice a l.length c, .int .i64 e] 46)) := ⟨_, rfl⟩; have pinEq := h1; (try simp only [wr3] at pinEq); rw [← pinEq]; clear pinEq)
  obtain ⟨k1, hB, s1⟩ := new_cel h1 rfl
  clear h1
  obtain ⟨q131x0x0, q131x0x1, q131x0x2, q131x0x3, q131x0x4, q131x0x5⟩ := Cel.facts k1
  refine (HMa.out w1 hB).mono ?_; rintro en w2 ⟨v, rfl, ⟨a1, c1, rfl, ho1⟩, hb⟩
  (replace k1 := cel_call hb k1 (by omega); replace hB := below_call hb hB (by omega))
  have s2 := hb.size
  clear hb
  simp only [dyV]
  have kn := Cel.new w2 (.bool (outO o).neg) (.slice a1 (words (outO o).m).length c1) (.int .i64 (outO o).exp)
  have hB3 := hB.alloc hB.size (.cells #[.bool (outO o).neg, .slice a1 (words (outO o).m).length c1, .int .i64 (outO o).exp] 46)
  have ho3 := ho1.grow ((Below.refl w2.heap.size w2).alloc (Nat.le_refl _) (.cells #[.bool (outO o).neg, .slice a1 (words (outO o).m).length c1, .int .i64 (outO o).exp] 46))
  cases o with
  | none =>
    have hr : RoundsTo 23 (-149) 2139095040 2147483648 mode none 0 2 := .inr ⟨by omega, .inl ⟨rfl, rfl, rfl⟩⟩
    have HR := Lib.hid hr; have HB3 := Lib.hid hB3; clear hr hB3
    simp only [Option.isSome]
    go_wp2_with fail
    go_ret2
    exact ⟨⟨0, 2, rfl, HR.out⟩, HB3.out⟩
  | some d =>
    obtain ⟨hd1, hd2, hd3⟩ := HOK.out d rfl
    simp only [Option.isSome, show outO (some d) = d from rfl] at *
    have hE : ∀ (k r : Nat), Rounds 23 (-149) 2139095040 d mode k → r = k + (if d.neg = true then 2147483648 else 0) → RoundsTo 23 (-149) 2139095040 2147483648 mode (some d) r 0 := fun k r h1 h => .inr ⟨by omega, .inr ⟨d, k, rfl, h1, h, rfl⟩⟩
    have hN : ∀ W base, Own W 118 base a1 c1 (words d.m) → Calls Tryz.prog 257 #[.agg #[.int .i64 24, .int .i64 (-149), .int .u64 2139095040], .bool d.neg, .slice a1 (words d.m).length c1, .int .i64 d.exp, .int .i64 mode] W fun en w' => ∃ r : Nat, en = .returned (.int .u64 r) ∧ Rounds 23 (-149) 2139095040 d mode r ∧ Below W.heap.size W w' := by
      intro W base ho
      have := nearby_any 23 255 (-149) 2139095040 d.neg a1 c1 (words d.m) d.exp mode W (by decide) (by decide) (by decide) (by decide) (by decide) (by decide) (by decide) (ho.sl (W32_words _)) hd1 (by omega) (by omega)
      rw [num_words] at this
      exact this
    have HE := Lib.hid hE; have HN := Lib.hid hN; clear hE hN hd1 hd2 hd3 HOK HMa
    obtain ⟨dn, dm, de⟩ := d
    simp only at *
    go_wp2_with fail
    obtain ⟨w3, h3⟩ : ∃ W, W = w2.alloc (.cells #[.bool dn, .slice a1 (words dm).length c1, .int .i64 de] 46) := ⟨_, rfl⟩
    rw [← h3] at kn hB3 ho3 ⊢
    have s3 : w3.heap.size = w2.heap.size + 1 := by rw [h3, World.size_alloc]
    clear h3 ho1
    obtain ⟨_, _, _, _, _, _⟩ := kn.facts
    have HB3 := Lib.hid hB3; have HO3 := Lib.hid ho3; have HS3 := Lib.hid s3; clear hB3 ho3 s3
    go_region_held3 (fun W => W.cell? ⟨w2.heap.size, 0, none⟩ = some (.bool dn) ∧ W.cell? ⟨w2.heap.size, 1, none⟩ = some (.slice a1 (words dm).length c1) ∧ W.cell? ⟨w2.heap.size, 2, none⟩ = some (.int .i64 de)) (go_keep) (first
      | (go_at_call 281; refine (of32_any _).mono ?_; rintro en w4 ⟨rfl, hb4⟩; have k4 := kn.below (below_drewN (n := 1) hb4) (by have := kn.lt; simpa using this); obtain ⟨_, _, _, _, _, _⟩ := k4.facts)
      | (go_at_call 257; refine (HN.out _ _ (HO3.out.grow ((below_drewN (n := 1) hb4).mono (by simp)))).mono ?_; rintro en w5 ⟨k, rfl, hR5, hb5⟩; have k5 := k4.below hb5 k4.lt; obtain ⟨_, _, _, _, _, _⟩ := k5.facts))
    all_goals
      have hle := hR5.le
      have HR5 := Lib.hid hR5; clear hR5
      have hB5 : Below w.heap.size w w5 := (HB3.out.trans ((below_drewN (n := 1) hb4).mono (by have := HB3.out.size; simp; omega))).trans (hb5.mono (by have := HB3.out.size; have := hb4.size; simp at this; omega))
      have HB5 := Lib.hid hB5; clear hB5
      have hx0 := ext_from32 k
      have hx1 := ext_from32 (k + 2147483648)
      rw [show ((k + 2147483648 : Nat) : Int) = (k : Int) + 2147483648 from by simp] at hx1
      have hw1 : IntKind.u64.wrap ((k : Int) + 2147483648) = (k : Int) + 2147483648 := by rw [IntKind.wrap_u64]; omega
      have hw2 : IntKind.u32.wrap (k : Int) = (k : Int) := by rw [IntKind.wrap_u32]; omega
      have hw3 : IntKind.u32.wrap ((k : Int) + 2147483648) = (k : Int) + 2147483648 := by rw [IntKind.wrap_u32]; omega
      cases dn with
      | true =>
        go_wp2_with fail
        go_ret2
        exact ⟨⟨k + 2147483648, 0, rfl, HE.out k _ HR5.out (by simp)⟩, HB5.out⟩
      | false =>
        go_wp2_with fail
        go_ret2
        exact ⟨⟨k, 0, rfl, HE.out k _ HR5.out (by simp)⟩, HB5.out⟩
end Go.Proofs.YteahdgbokjbgcaaGreatDoor
namespace Go.Proofs.YteahdgbokjbgcaaGreatDoor
open Go.RowKit
set_option linter.unusedVariables false
set_option linter.unusedSimpArgs false

end Go.Proofs.YteahdgbokjbgcaaGreatDoor
namespace Go.Proofs.YteahdgbokjbgcaaGreatDoor
open Go.RowKit
set_option linter.unusedVariables false
set_option linter.unusedSimpArgs false

end Go.Proofs.YteahdgbokjbgcaaGreatDoor
namespace Go.Proofs.YteahdgbokjbgcaaGreatDoor
open Go.RowKit
set_option linter.unusedVariables false
set_option linter.unusedSimpArgs false

end Go.Proofs.YteahdgbokjbgcaaGreatDoor
