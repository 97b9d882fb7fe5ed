/- Products of Dyads, in numbers; contracts of dyad.Mul and of steelyardref03.Mul. No statement of the seat is proved here. -/
import Derived.Test.YtmokomfneikipaaDoorProg
import Derived.Test.YtmokomfneikipaaDoorDh
import Derived.Test.YtmokomfneikipaaDoorRc
namespace Go.Proofs.YtmokomfneikipaaDoor
open Go.RowKit
set_option linter.unusedVariables false
set_option linter.unusedSimpArgs false

def D.Odd (d : D) : Prop := d.m = 0 ∨ d.m % 2 = 1
theorem formF_odd {s : Bool} {n : Nat} {e : Int} {d : D} (h : formF s n e = some d) : d.Odd := by
  unfold formF at h
  split at h
  · cases h; exact .inl rfl
  · rename_i h0
    split at h
    · cases h
    · cases h
      obtain ⟨m, h1, h2⟩ := low_spec h0
      refine .inr ?_
      dsimp only
      have : n / 2 ^ low n = m := by
        conv => lhs; arg 1; rw [h1]
        exact Nat.mul_div_cancel_left _ (Nat.two_pow_pos _)
      rw [this]; exact h2
theorem low_odd {m : Nat} (h : m % 2 = 1) : low m = 0 := by
  have := low_eq (k := 0) h
  rwa [Nat.pow_zero, Nat.one_mul] at this
/-- the product of two forms -/
def mulD (p q : D) : Option D := formF (p.neg != q.neg) (p.m * q.m) (p.exp + q.exp)
def mulO : Option D → Option D → Option D
  | some p, some q => mulD p q
  | _, _ => none
theorem mulD_long {p q : D} (hp : p.Odd) (hq : q.Odd) (h : 8192 < (words (p.m * q.m)).length) : mulD p q = none := by
  have h0 : p.m * q.m ≠ 0 := by intro h0; rw [h0, words_zero] at h; simp at h
  have hp1 : p.m % 2 = 1 := by rcases hp with h1 | h1; · rw [h1, Nat.zero_mul] at h0; exact absurd rfl h0
                               · exact h1
  have hq1 : q.m % 2 = 1 := by rcases hq with h1 | h1; · rw [h1, Nat.mul_zero] at h0; exact absurd rfl h0
                               · exact h1
  have h2 : (p.m * q.m) % 2 = 1 := by rw [Nat.mul_mod, hp1, hq1]
  unfold mulD formF
  rw [if_neg h0, low_odd h2, Nat.pow_zero, Nat.div_one, if_pos (.inr (.inr h))]

set_option maxRecDepth 10000 in
set_option maxHeartbeats 2000000 in
theorem dmul_any (x y : Arg) (w : World) (hx : x.Ok w) (hy : y.Ok w) (hT : Tab w) :
    Calls Tryd.prog 32 #[x.v, y.v] w fun en w' => Came w w' (mulO x.F y.F) en := by
  have hF := fun W hw => both_any x y W (hx.grow hw) (hy.grow hw) (hT.grow hw)
  have hTab := fun W hw => hT.grow (w' := W) hw
  obtain ⟨o, ho⟩ : ∃ o, o = x.F := ⟨_, rfl⟩
  obtain ⟨o', ho'⟩ : ∃ o, o = y.F := ⟨_, rfl⟩
  have hok : ∀ p, o = some p → p.Ok := fun p h => formF_ok (by rw [← h, ho]; rfl)
  have hod : ∀ p, o = some p → p.Odd := fun p h => formF_odd (by rw [← h, ho]; rfl)
  have hok' : ∀ p, o' = some p → p.Ok := fun p h => formF_ok (by rw [← h, ho']; rfl)
  have hod' : ∀ p, o' = some p → p.Odd := fun p h => formF_odd (by rw [← h, ho']; rfl)
  rw [← ho, ← ho'] at hF ⊢
  have HF := Lib.hid hF; have HTab := Lib.hid hTab; have HOK := Lib.hid hok; have HOK' := Lib.hid hok'; have HOD := Lib.hid hod; have HOD' := Lib.hid hod'; clear hod hod' hF hx hy ho ho' hT hTab hok hok'
  obtain ⟨s, a, l, c, e⟩ := x
  obtain ⟨s', a', l', c', e'⟩ := y
  simp only [Arg.v] at HF ⊢
  go_enter Tryd.func32, Tryd.ntmps32
  go_wp2_with fail
  (obtain ⟨w1, h1⟩ : ∃ W, W = (w.alloc (.cells #[.bool s, .slice a l.length c, .int .i64 e] 27)) := ⟨_, rfl⟩; have pinEq := h1; (try simp only [wr3] at pinEq); rw [← pinEq]; clear pinEq)
  (obtain ⟨w2, h2⟩ : ∃ W, W = (w1.alloc (.cells #[.bool s', .slice a' l'.length c', .int .i64 e'] 27)) := ⟨_, rfl⟩; have pinEq := h2; (try simp only [wr3] at pinEq); rw [← pinEq]; clear pinEq)
  (obtain ⟨w3, h3⟩ : ∃ W, W = (w2.alloc (.cells #[.bool false, .slice none 0 0, .int .i64 0] 27)) := ⟨_, rfl⟩; have pinEq := h3; (try simp only [wr3] at pinEq); rw [← pinEq]; clear pinEq)
  obtain ⟨-, hB, s1⟩ := new_cel h1 rfl
  obtain ⟨k2, b2, s2⟩ := new_cel h2 s1
  replace hB := below_call b2 hB (by omega)
  obtain ⟨k3, b3, s3⟩ := new_cel h3 s2
  (replace k2 := cel_call b3 k2 (by omega); replace b2 := below_call b3 b2 (by omega); replace hB := below_call b3 hB (by omega))
  clear h1 h2 h3 b2 b3 k2
  refine (HF.out w3 hB).mono ?_; rintro en w4 ⟨v, v', rfl, ⟨a1, c1, rfl, ho1⟩, ⟨a2, c2, rfl, ho2⟩, hb⟩
  (replace k3 := cel_call hb k3 (by omega); replace hB := below_call hb hB (by omega))
  have s4 := hb.size
  clear hb
  simp only [dyV]
  obtain ⟨q78x0x0, q78x0x1, q78x0x2, q78x0x3, q78x0x4, q78x0x5⟩ := Cel.facts k3
  have kA := (k3.alloc (.cells #[.bool (outO o).neg, .slice a1 (words (outO o).m).length c1, .int .i64 (outO o).exp] 27)).alloc (.cells #[.bool (both2 o o').neg, .slice a2 (words (both2 o o').m).length c2, .int .i64 (both2 o o').exp] 27)
  have hBA := (hB.alloc hB.size (.cells #[.bool (outO o).neg, .slice a1 (words (outO o).m).length c1, .int .i64 (outO o).exp] 27)).alloc (by rw [World.size_alloc]; have := hB.size; omega) (.cells #[.bool (both2 o o').neg, .slice a2 (words (both2 o o').m).length c2, .int .i64 (both2 o o').exp] 27)
  have kX := (Cel.new w4 (.bool (outO o).neg) (.slice a1 (words (outO o).m).length c1) (.int .i64 (outO o).exp)).alloc (.cells #[.bool (both2 o o').neg, .slice a2 (words (both2 o o').m).length c2, .int .i64 (both2 o o').exp] 27)
  have kY := Cel.new (w4.alloc (.cells #[.bool (outO o).neg, .slice a1 (words (outO o).m).length c1, .int .i64 (outO o).exp] 27)) (.bool (both2 o o').neg) (.slice a2 (words (both2 o o').m).length c2) (.int .i64 (both2 o o').exp)
  have ho1' := (ho1.grow ((Below.refl _ _).alloc (Nat.le_refl _) (.cells #[.bool (outO o).neg, .slice a1 (words (outO o).m).length c1, .int .i64 (outO o).exp] 27))).grow ((Below.refl _ _).alloc (Nat.le_refl _) (.cells #[.bool (both2 o o').neg, .slice a2 (words (both2 o o').m).length c2, .int .i64 (both2 o o').exp] 27))
  have ho2' := (ho2.grow ((Below.refl _ _).alloc (Nat.le_refl _) (.cells #[.bool (outO o).neg, .slice a1 (words (outO o).m).length c1, .int .i64 (outO o).exp] 27))).grow ((Below.refl _ _).alloc (Nat.le_refl _) (.cells #[.bool (both2 o o').neg, .slice a2 (words (both2 o o').m).length c2, .int .i64 (both2 o o').exp] 27))
  rw [World.size_alloc] at kY
  clear ho1 ho2 k3 hB
  by_cases hno : o = none ∨ o' = none
  · have hE : bothE o o' = 2 := by rcases hno with h | h <;> rw [h] <;> simp [bothE]
    have hA : mulO o o' = none := by
      rcases hno with h | h
      · rw [h]; rfl
      · rw [h]; cases o <;> rfl
    rw [hE]
    have HA := Lib.hid hA; clear hno hA hE
    obtain ⟨c0, cc1, cc2, _, _, _⟩ := kA.facts
    go_wp2
    refine bodyPost_ret (v := .tuple #[dyV D.zero none 0, .int .i64 2]) (by simp [results, Tryd.results32, go_sem, dyV, D.zero, words_zero, c0, cc1, cc2]) rfl ?_
    rw [HA.out]
    refine ⟨dyV D.zero none 0, rfl, ⟨none, 0, rfl, ?_⟩, below_wr3 (g := w.heap.size + 1 + 1) hBA (by omega)⟩
    rw [show (outO none).m = 0 from rfl, words_zero]; exact Own.none _ _ _
  obtain ⟨p, rfl⟩ : ∃ p, o = some p := by cases o with | none => simp at hno | some p => exact ⟨p, rfl⟩
  obtain ⟨q, rfl⟩ : ∃ p, o' = some p := by cases o' with | none => simp at hno | some p => exact ⟨p, rfl⟩
  obtain ⟨p1, p2, p3⟩ := HOK.out p rfl
  obtain ⟨q1, q2, q3⟩ := HOK'.out q rfl
  have o1 := Lib.hid (HOD.out p rfl)
  have o2 := Lib.hid (HOD'.out q rfl)
  clear HOK HOK' HOD HOD' hno
  simp only [outO, both2, bothE, Option.getD, Option.isSome, Option.isNone, Bool.or_false, Bool.false_eq_true, if_false, if_true] at kA hBA kX kY ho1' ho2' ⊢
  obtain ⟨_, _, _, _, _, _⟩ := kA.facts
  obtain ⟨_, _, _, _, _, _⟩ := kX.facts
  obtain ⟨_, _, _, _, _, _⟩ := kY.facts
  go_wp2_with fail
  (obtain ⟨w6, h6⟩ : ∃ W, W = ((w4.alloc (.cells #[.bool p.neg, .slice a1 (words p.m).length c1, .int .i64 p.exp] 27)).alloc (.cells #[.bool q.neg, .slice a2 (words q.m).length c2, .int .i64 q.exp] 27)) := ⟨_, rfl⟩; have pinEq := h6; (try simp only [wr3] at pinEq); rw [← pinEq]; clear pinEq)
  have s6 : w6.heap.size = w4.heap.size + 1 + 1 := by rw [h6]; simp
  rw [← h6] at kA hBA kX kY ho1' ho2'
  clear h6
  by_cases hlong : 8192 < (words (p.m * q.m)).length
  · have hA : mulO (some p) (some q) = none := mulD_long o1.out o2.out hlong
    have HA := Lib.hid hA; clear hA
    have hM := wmul_long a1 a2 c1 c2 (words p.m) (words q.m) w6 (by omega) ho1'.cap (W32_words _) ho1'.rd (by omega) ho2'.cap (W32_words _) ho2'.rd (by rw [num_words]; exact p1) (by rw [num_words]; exact q1) (by rw [num_words, num_words]; exact hlong)
    refine hM.mono ?_
    clear hM
    rintro en w7 ⟨rfl, hb⟩
    (replace ho2' := own_call hb ho2'; replace ho1' := own_call hb ho1'; replace kY := cel_call hb kY (by omega); replace kX := cel_call hb kX (by omega); replace hBA := below_call hb hBA (by omega); replace kA := cel_call hb kA (by omega))
    have s7 := hb.size
    clear hb
    (clear q78x0x0 q78x0x1 q78x0x2 q78x0x3 q78x0x4 q78x0x5; obtain ⟨q127x0x0, q127x0x1, q127x0x2, q127x0x3, q127x0x4, q127x0x5⟩ := Cel.facts kY; obtain ⟨q127x1x0, q127x1x1, q127x1x2, q127x1x3, q127x1x4, q127x1x5⟩ := Cel.facts kX; obtain ⟨q127x2x0, q127x2x1, q127x2x2, q127x2x3, q127x2x4, q127x2x5⟩ := Cel.facts kA)
    obtain ⟨c0, cc1, cc2, _, _, _⟩ := kA.facts
    go_wp2
    refine bodyPost_ret (v := .tuple #[dyV D.zero none 0, .int .i64 2]) (by simp [results, Tryd.results32, go_sem, dyV, D.zero, words_zero, c0, cc1, cc2]) rfl ?_
    rw [HA.out]
    refine ⟨dyV D.zero none 0, rfl, ⟨none, 0, rfl, ?_⟩, below_wr3 (g := w.heap.size + 1 + 1) hBA (by omega)⟩
    rw [show (outO none).m = 0 from rfl, words_zero]; exact Own.none _ _ _
  · have hM := wmul_any a1 a2 c1 c2 (words p.m) (words q.m) w6 (by omega) ho1'.cap (W32_words _) ho1'.rd (by omega) ho2'.cap (W32_words _) ho2'.rd (by rw [num_words]; exact p1) (by rw [num_words]; exact q1) (by rw [num_words, num_words]; omega)
    rw [num_words, num_words] at hM
    refine hM.mono ?_
    clear hM
    rintro en w7 ⟨a6, rfl, ho6, hb⟩
    (replace ho2' := own_call hb ho2'; replace ho1' := own_call hb ho1'; replace kY := cel_call hb kY (by omega); replace kX := cel_call hb kX (by omega); replace hBA := below_call hb hBA (by omega); replace kA := cel_call hb kA (by omega))
    have s7 := hb.size
    clear hb
    (clear q78x0x0 q78x0x1 q78x0x2 q78x0x3 q78x0x4 q78x0x5; obtain ⟨q142x0x0, q142x0x1, q142x0x2, q142x0x3, q142x0x4, q142x0x5⟩ := Cel.facts kY; obtain ⟨q142x1x0, q142x1x1, q142x1x2, q142x1x3, q142x1x4, q142x1x5⟩ := Cel.facts kX; obtain ⟨q142x2x0, q142x2x1, q142x2x2, q142x2x3, q142x2x4, q142x2x5⟩ := Cel.facts kA)
    have hl : (words (p.m * q.m)).length ≤ 8192 := by omega
    have hFo : ∀ W a6 c6 base, Own W 64 base a6 c6 (words (p.m * q.m)) → Below w.heap.size w W → Calls Tryd.prog 48 #[.bool (p.neg != q.neg), .slice a6 (words (p.m * q.m)).length c6, .int .i64 (p.exp + q.exp)] W fun en w' => Came W w' (mulO (some p) (some q)) en := by
      intro W a6 c6 base r4 r5
      have := dform_any (p.neg != q.neg) a6 c6 (words (p.m * q.m)) (p.exp + q.exp) W (by omega) (W32_words _) r4.rd (by omega) (by omega) (HTab.out W r5)
      rw [num_words] at this
      exact this
    have HFo := Lib.hid hFo; clear hFo
    generalize p.m * q.m = R at *
    go_wp2_with fail
    refine (HFo.out _ _ _ _ ho6 hBA).mono ?_
    rintro en w8 ⟨v, rfl, ⟨a7, c7, rfl, ho7⟩, hb⟩
    (replace ho2' := own_call hb ho2'; replace ho1' := own_call hb ho1'; replace kY := cel_call hb kY (by omega); replace kX := cel_call hb kX (by omega); replace hBA := below_call hb hBA (by omega); replace kA := cel_call hb kA (by omega); replace ho6 := own_call hb ho6)
    have s8 := hb.size
    clear hb; (clear q142x0x0 q142x0x1 q142x0x2 q142x0x3 q142x0x4 q142x0x5 q142x1x0 q142x1x1 q142x1x2 q142x1x3 q142x1x4 q142x1x5 q142x2x0 q142x2x1 q142x2x2 q142x2x3 q142x2x4 q142x2x5; obtain ⟨q156x0x0, q156x0x1, q156x0x2, q156x0x3, q156x0x4, q156x0x5⟩ := Cel.facts kY; obtain ⟨q156x1x0, q156x1x1, q156x1x2, q156x1x3, q156x1x4, q156x1x5⟩ := Cel.facts kX; obtain ⟨q156x2x0, q156x2x1, q156x2x2, q156x2x3, q156x2x4, q156x2x5⟩ := Cel.facts kA)
    simp only [dyV]
    go_wp2
    obtain ⟨c0, cc1, cc2, _, _, _⟩ := kA.facts
    refine bodyPost_ret (v := .tuple #[dyV (outO (mulO (some p) (some q))) a7 c7, .int .i64 (errO (mulO (some p) (some q)))]) (by simp [results, Tryd.results32, go_sem, dyV, c0, cc1, cc2]) rfl ?_
    exact ⟨_, rfl, ⟨a7, c7, rfl, (own_wr3 (g := w.heap.size + 1 + 1) ho7 (by omega)).mono (by omega)⟩, below_wr3 (g := w.heap.size + 1 + 1) hBA (by omega)⟩

set_option maxRecDepth 10000 in
set_option maxHeartbeats 4000000 in
theorem rmul_any (x y : Arg) (w : World) (hx : x.Ok w) (hy : y.Ok w) :
    Calls Tryd.prog 33 #[x.v, y.v] w fun en w' => Came w w' (mulO x.F y.F) en := by
  have hF := fun W hw => made_any x W (hx.grow hw)
  have hF' := fun W hw => made_any y W (hy.grow hw)
  obtain ⟨o, ho⟩ : ∃ o, o = x.F := ⟨_, rfl⟩
  obtain ⟨o', ho'⟩ : ∃ o, o = y.F := ⟨_, rfl⟩
  have hok : ∀ p, o = some p → p.Ok := fun p h => formF_ok (by rw [← h, ho]; rfl)
  have hok' : ∀ p, o' = some p → p.Ok := fun p h => formF_ok (by rw [← h, ho']; rfl)
  rw [← ho] at hF
  rw [← ho'] at hF'
  rw [← ho, ← ho']
  have HF := Lib.hid hF; have HF' := Lib.hid hF'; have HOK := Lib.hid hok; have HOK' := Lib.hid hok'; clear hF hF' hx hy ho ho' hok hok'
  obtain ⟨s, a, l, c, e⟩ := x
  obtain ⟨s', a', l', c', e'⟩ := y
  simp only [Arg.v] at HF HF' ⊢
  go_enter Tryd.func33, Tryd.ntmps33
  go_wp2_with fail
  (obtain ⟨w1, h1⟩ : ∃ W, W = (w.alloc (.cells #[.bool s, .slice a l.length c, .int .i64 e] 27)) := ⟨_, rfl⟩; have pinEq := h1; (try simp only [wr3] at pinEq); rw [← pinEq]; clear pinEq)
  (obtain ⟨w2, h2⟩ : ∃ W, W = (w1.alloc (.cells #[.bool s', .slice a' l'.length c', .int .i64 e'] 27)) := ⟨_, rfl⟩; have pinEq := h2; (try simp only [wr3] at pinEq); rw [← pinEq]; clear pinEq)
  (obtain ⟨w3, h3⟩ : ∃ W, W = (w2.alloc (.cells #[.bool false, .slice none 0 0, .int .i64 0] 27)) := ⟨_, rfl⟩; have pinEq := h3; (try simp only [wr3] at pinEq); rw [← pinEq]; clear pinEq)
  obtain ⟨-, hB, s1⟩ := new_cel h1 rfl
  obtain ⟨k2, b2, s2⟩ := new_cel h2 s1
  replace hB := below_call b2 hB (by omega)
  obtain ⟨k3, b3, s3⟩ := new_cel h3 s2
  (replace k2 := cel_call b3 k2 (by omega); replace b2 := below_call b3 b2 (by omega); replace hB := below_call b3 hB (by omega))
  clear h1 h2 h3 b2 b3
  refine (HF.out w3 hB).mono ?_; rintro en w4 ⟨v, rfl, ⟨a1, c1, rfl, ho1⟩, hb⟩
  (replace k3 := cel_call hb k3 (by omega); replace k2 := cel_call hb k2 (by omega); replace hB := below_call hb hB (by omega))
  have s4 := hb.size
  clear hb
  simp only [dyV]
  have kt := k2.alloc (.cells #[.bool (outO o).neg, .slice a1 (words (outO o).m).length c1, .int .i64 (outO o).exp] 27)
  obtain ⟨_, _, _, _, _, _⟩ := kt.facts
  clear kt
  go_wp2_with fail
  (obtain ⟨w5, h5⟩ : ∃ W, W = (w4.alloc (.cells #[.bool (outO o).neg, .slice a1 (words (outO o).m).length c1, .int .i64 (outO o).exp] 27)) := ⟨_, rfl⟩; have pinEq := h5; (try simp only [wr3] at pinEq); rw [← pinEq]; clear pinEq)
  obtain ⟨kX, b5, s5⟩ := new_cel h5 rfl
  (replace ho1 := own_call b5 ho1; replace k3 := cel_call b5 k3 (by omega); replace k2 := cel_call b5 k2 (by omega); replace hB := below_call b5 hB (by omega))
  clear h5 b5
  refine (HF'.out w5 hB).mono ?_; rintro en w6 ⟨v, rfl, ⟨a2, c2, rfl, ho2⟩, hb⟩
  (replace kX := cel_call hb kX (by omega); replace ho1 := own_call hb ho1; replace k3 := cel_call hb k3 (by omega); replace k2 := cel_call hb k2 (by omega); replace hB := below_call hb hB (by omega))
  have s6 := hb.size
  clear hb k2
  simp only [dyV]
  have kA := k3.alloc (.cells #[.bool (outO o').neg, .slice a2 (words (outO o').m).length c2, .int .i64 (outO o').exp] 27)
  have hBA := hB.alloc hB.size (.cells #[.bool (outO o').neg, .slice a2 (words (outO o').m).length c2, .int .i64 (outO o').exp] 27)
  have kX' := kX.alloc (.cells #[.bool (outO o').neg, .slice a2 (words (outO o').m).length c2, .int .i64 (outO o').exp] 27)
  have kY := Cel.new w6 (.bool (outO o').neg) (.slice a2 (words (outO o').m).length c2) (.int .i64 (outO o').exp)
  have ho1' := ho1.grow ((Below.refl _ _).alloc (Nat.le_refl _) (.cells #[.bool (outO o').neg, .slice a2 (words (outO o').m).length c2, .int .i64 (outO o').exp] 27))
  have ho2' := ho2.grow ((Below.refl _ _).alloc (Nat.le_refl _) (.cells #[.bool (outO o').neg, .slice a2 (words (outO o').m).length c2, .int .i64 (outO o').exp] 27))
  clear ho1 ho2 k3 hB kX
  have hfin : ∀ W v o2 a c, o2 = mulO o o' → Below w.heap.size w W → Own W 64 (w.heap.size + 1 + 1 + 1) a c (words (outO o2).m) → v = dyV (outO o2) a c → Came w W (mulO o o') (.returned (.tuple #[v, .int .i64 (errO o2)])) := by
    rintro W v o a c rfl hW ho rfl
    exact ⟨_, rfl, ⟨a, c, rfl, ho.mono (by omega)⟩, hW⟩
  have HFIN := Lib.hid hfin; clear hfin
  rw [s3] at *
  by_cases hno : o = none ∨ o' = none
  · have hA : none = mulO o o' := by
      rcases hno with h | h
      · rw [h]; rfl
      · rw [h]; cases o <;> rfl
    have HA := Lib.hid hA; clear hA
    obtain ⟨c0, cc1, cc2, _, _, _⟩ := kA.facts
    have hNO := Lib.hid hno; clear hno
    have hd : o.isSome = false ∨ (o.isSome = true ∧ o'.isSome = false) := by
      rcases hNO.out with h | h
      · rw [h]; exact .inl rfl
      · rw [h]; cases o <;> simp
    rcases hd with h1 | ⟨h1, h2⟩
    · rw [h1]
      go_wp2
      refine bodyPost_ret (v := .tuple #[dyV D.zero none 0, .int .i64 2]) (by simp [results, Tryd.results33, go_sem, dyV, D.zero, words_zero, c0, cc1, cc2]) rfl ?_
      exact HFIN.out _ _ none none 0 HA.out (below_wr3 (g := w.heap.size + 1 + 1) hBA (by omega)) (by rw [show (outO none).m = 0 from rfl, words_zero]; exact Own.none _ _ _) rfl
    · rw [h1, h2]
      go_wp2
      refine bodyPost_ret (v := .tuple #[dyV D.zero none 0, .int .i64 2]) (by simp [results, Tryd.results33, go_sem, dyV, D.zero, words_zero, c0, cc1, cc2]) rfl ?_
      exact HFIN.out _ _ none none 0 HA.out (below_wr3 (g := w.heap.size + 1 + 1) hBA (by omega)) (by rw [show (outO none).m = 0 from rfl, words_zero]; exact Own.none _ _ _) rfl
  obtain ⟨p, rfl⟩ : ∃ p, o = some p := by cases o with | none => simp at hno | some p => exact ⟨p, rfl⟩
  obtain ⟨q, rfl⟩ : ∃ p, o' = some p := by cases o' with | none => simp at hno | some p => exact ⟨p, rfl⟩
  obtain ⟨p1, p2, p3⟩ := HOK.out p rfl
  obtain ⟨q1, q2, q3⟩ := HOK'.out q rfl
  clear HOK HOK' hno
  simp only [outO, Option.getD, Option.isSome] at kA hBA kX' kY ho1' ho2' ⊢
  have hl : (words (p.m * q.m)).length ≤ 16384 := words_mul_le p1 q1
  have hT : ∀ W base base', Own W 64 base a1 c1 (words p.m) → Own W 64 base' a2 c2 (words q.m) → Calls Tryd.prog 75 #[.slice a1 (words p.m).length c1, .slice a2 (words q.m).length c2] W fun e w' => ∃ a' c', e = .returned (.slice a' (words (p.m * q.m)).length c') ∧ Own w' 64 W.heap.size a' c' (words (p.m * q.m)) ∧ Below W.heap.size W w' := by
    intro W base base' r1 r2
    have := rtimes_any a1 a2 c1 c2 (words p.m) (words q.m) W (by omega) (W32_words _) r1.rd (W32_words _) r2.rd
    rw [num_words, num_words] at this
    exact this
  have hTo : ∀ W a6 c6 base, Own W 64 base a6 c6 (words (p.m * q.m)) → Calls Tryd.prog 52 #[.bool (p.neg != q.neg), .slice a6 (words (p.m * q.m)).length c6, .int .i64 (p.exp + q.exp)] W fun en w' => Came W w' (mulO (some p) (some q)) en := by
    intro W a6 c6 base r3
    have := told_any (p.neg != q.neg) a6 c6 (words (p.m * q.m)) (p.exp + q.exp) W ⟨r3.sl (W32_words _), by dsimp only; omega, by dsimp only; omega, by dsimp only; omega⟩
    rw [num_words] at this
    exact this
  have HT := Lib.hid hT; have HTo := Lib.hid hTo; clear hT hTo
  generalize p.m * q.m = R at *
  obtain ⟨_, _, _, _, _, _⟩ := kA.facts
  obtain ⟨_, _, _, _, _, _⟩ := kX'.facts
  obtain ⟨_, _, _, _, _, _⟩ := kY.facts
  have hw : IntKind.i64.wrap (p.exp + q.exp) = p.exp + q.exp := by rw [IntKind.wrap_i64]; omega
  go_wp2_with fail
  obtain ⟨w7, h7⟩ : ∃ W, W = (w6.alloc (.cells #[.bool q.neg, .slice a2 (words q.m).length c2, .int .i64 q.exp] 27)) := ⟨_, rfl⟩
  have s7 : w7.heap.size = w6.heap.size + 1 := by rw [h7]; simp
  rw [← h7] at kA hBA kX' kY ho1' ho2' ⊢
  clear h7
  (obtain ⟨q270x0x0, q270x0x1, q270x0x2, q270x0x3, q270x0x4, q270x0x5⟩ := Cel.facts kY; obtain ⟨q270x1x0, q270x1x1, q270x1x2, q270x1x3, q270x1x4, q270x1x5⟩ := Cel.facts kX'; obtain ⟨q270x2x0, q270x2x1, q270x2x2, q270x2x3, q270x2x4, q270x2x5⟩ := Cel.facts kA)
  have n1 : w.heap.size + 1 + 1 ≠ w4.heap.size := by omega
  have n2 : w.heap.size + 1 + 1 ≠ w6.heap.size := by omega
  go_region_held3 (fun W => W.cell? ⟨w4.heap.size, 0, none⟩ = some (.bool p.neg) ∧ W.cell? ⟨w4.heap.size, 1, none⟩ = some (.slice a1 (words p.m).length c1) ∧ W.cell? ⟨w4.heap.size, 2, none⟩ = some (.int .i64 p.exp) ∧ W.cell? ⟨w6.heap.size, 0, none⟩ = some (.bool q.neg) ∧ W.cell? ⟨w6.heap.size, 1, none⟩ = some (.slice a2 (words q.m).length c2) ∧ W.cell? ⟨w6.heap.size, 2, none⟩ = some (.int .i64 q.exp)) (go_keep) (first
    | (go_at_call 75; refine (HT.out _ _ _ (own_drew ho1') (own_drew ho2')).mono ?_; rintro en w10 ⟨a6, c6, rfl, ho6, hb9⟩; have kX9 := kX'.below (below_drewN (n := 1) hb9) (by have := kX'.lt; simpa using this); have kY9 := kY.below (below_drewN (n := 1) hb9) (by have := kY.lt; simpa using this); obtain ⟨_, _, _, _, _, _⟩ := kX9.facts; obtain ⟨_, _, _, _, _, _⟩ := kY9.facts)
    | (go_at_call 52; refine (HTo.out _ _ _ _ ho6).mono ?_; rintro en w11 ⟨v, rfl, ⟨a7, c7, rfl, ho7⟩, hb10⟩; have kX10 := kX9.below hb10 kX9.lt; have kY10 := kY9.below hb10 kY9.lt; obtain ⟨_, _, _, _, _, _⟩ := kX10.facts; obtain ⟨_, _, _, _, _, _⟩ := kY10.facts; have kA9 := kA.below (below_drewN (n := 1) hb9) (by have := kA.lt; simpa using this); have kA10 := kA9.below hb10 kA9.lt; obtain ⟨_, _, _, _, _, _⟩ := kA10.facts; simp only [dyV]))
  all_goals
    go_wp2
    have z9 := hb9.size
    have z10 := hb10.size
    simp only [World.size_drew] at z9 z10
    obtain ⟨c0, cc1, cc2, _, _, _⟩ := kA10.facts
    refine bodyPost_ret (v := .tuple #[dyV (outO (mulO (some p) (some q))) a7 c7, .int .i64 (errO (mulO (some p) (some q)))]) (by simp [results, Tryd.results33, go_sem, dyV, c0, cc1, cc2]) rfl ?_
    have hbz : Below w.heap.size w w11 := (hBA.trans ((below_drewN (n := 1) hb9).mono (by simp; omega))).trans (hb10.mono (by omega))
    exact HFIN.out _ _ _ a7 c7 rfl (below_wr3 (g := w.heap.size + 1 + 1) hbz (by omega)) (own_wr3 (g := w.heap.size + 1 + 1) (ho7.mono (by omega)) (by omega)) rfl
end Go.Proofs.YtmokomfneikipaaDoor
