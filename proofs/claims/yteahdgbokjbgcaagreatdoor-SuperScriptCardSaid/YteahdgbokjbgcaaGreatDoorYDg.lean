/- Contract of steelyardref03.Add. No statement of the seat is proved here. -/
import Derived.Test.YteahdgbokjbgcaaGreatDoorProg
import Derived.Test.YteahdgbokjbgcaaGreatDoorYDf
namespace Go.Proofs.YteahdgbokjbgcaaGreatDoor
open Go.RowKit
set_option linter.unusedVariables false
set_option linter.unusedSimpArgs false

theorem lt_pow_of_words {m k : Nat} (h : (words m).length ≤ k) : m < 4294967296 ^ k := by
  have e1 := num_lt (W32_words m); rw [num_words] at e1
  exact Nat.lt_of_lt_of_le e1 (Nat.pow_le_pow_right (by decide) h)
theorem words_add_le {m n k : Nat} (hm : (words m).length ≤ k) (hn : (words n).length ≤ k) : (words (m + n)).length ≤ k + 1 := by
  refine words_len_le ?_
  have e1 := lt_pow_of_words hm
  have e2 := lt_pow_of_words hn
  rw [Nat.pow_succ]
  generalize 4294967296 ^ k = Z at *
  omega
theorem words_mul_le {m n k j : Nat} (hm : (words m).length ≤ k) (hn : (words n).length ≤ j) : (words (m * n)).length ≤ k + j := by
  refine words_len_le ?_
  rw [Nat.pow_add]
  exact Nat.mul_lt_mul'' (lt_pow_of_words hm) (lt_pow_of_words hn)

set_option maxRecDepth 10000 in
set_option maxHeartbeats 4000000 in
theorem radd_any (x y : Arg) (w : World) (hx : x.Ok w) (hy : y.Ok w) :
    Calls Tryz.prog 71 #[x.v, y.v] w fun en w' => Came w w' (addO x.F y.F) en := by
  have hF := fun W hw => made_any x W (hx.grow hw)
  have hF' := fun W hw => made_any y W (hy.grow hw)
  obtain ⟨o, ho⟩ : ∃ o, o = x.F := ⟨_, rfl⟩
  obtain ⟨o', ho'⟩ : ∃ o, o = y.F := ⟨_, rfl⟩
  have hok : ∀ p, o = some p → p.Ok := fun p h => formF_ok (by rw [← h, ho]; rfl)
  have hok' : ∀ p, o' = some p → p.Ok := fun p h => formF_ok (by rw [← h, ho']; rfl)
  rw [← ho] at hF
  rw [← ho'] at hF'
  rw [← ho, ← ho']
  have HF := Lib.hid hF; have HF' := Lib.hid hF'; have HOK := Lib.hid hok; have HOK' := Lib.hid hok'; clear hF hF' hx hy ho ho' hok hok'
  obtain ⟨s, a, l, c, e⟩ := x
  obtain ⟨s', a', l', c', e'⟩ := y
  simp only [Arg.v] at HF HF' ⊢
  go_enter Tryz.func71, Tryz.ntmps71
  go_wp2_with fail
  (obtain ⟨w1, h1⟩ : ∃ W, W = (w.alloc (.cells #[.bool s, .slice a l.length c, .int .i64 e] 46)) := ⟨_, rfl⟩; have pinEq := h1; (try simp only [wr3] at pinEq); rw [← pinEq]; clear pinEq)
  (obtain ⟨w2, h2⟩ : ∃ W, W = (w1.alloc (.cells #[.bool s', .slice a' l'.length c', .int .i64 e'] 46)) := ⟨_, rfl⟩; have pinEq := h2; (try simp only [wr3] at pinEq); rw [← pinEq]; clear pinEq)
  (obtain ⟨w3, h3⟩ : ∃ W, W = (w2.alloc (.cells #[.bool false, .slice none 0 0, .int .i64 0] 46)) := ⟨_, rfl⟩; have pinEq := h3; (try simp only [wr3] at pinEq); rw [← pinEq]; clear pinEq)
  obtain ⟨-, hB, s1⟩ := new_cel h1 rfl
  obtain ⟨k2, b2, s2⟩ := new_cel h2 s1
  replace hB := below_call b2 hB (by omega)
  obtain ⟨k3, b3, s3⟩ := new_cel h3 s2
  (replace k2 := cel_call b3 k2 (by omega); replace b2 := below_call b3 b2 (by omega); replace hB := below_call b3 hB (by omega))
  clear h1 h2 h3 b2 b3
  refine (HF.out w3 hB).mono ?_; rintro en w4 ⟨v, rfl, ⟨a1, c1, rfl, ho1⟩, hb⟩
  (replace k3 := cel_call hb k3 (by omega); replace k2 := cel_call hb k2 (by omega); replace hB := below_call hb hB (by omega))
  have s4 := hb.size
  clear hb
  simp only [dyV]
  have kt := k2.alloc (.cells #[.bool (outO o).neg, .slice a1 (words (outO o).m).length c1, .int .i64 (outO o).exp] 46)
  obtain ⟨_, _, _, _, _, _⟩ := kt.facts
  clear kt
  go_wp2_with fail
  (obtain ⟨w5, h5⟩ : ∃ W, W = (w4.alloc (.cells #[.bool (outO o).neg, .slice a1 (words (outO o).m).length c1, .int .i64 (outO o).exp] 46)) := ⟨_, rfl⟩; have pinEq := h5; (try simp only [wr3] at pinEq); rw [← pinEq]; clear pinEq)
  obtain ⟨kX, b5, s5⟩ := new_cel h5 rfl
  (replace ho1 := own_call b5 ho1; replace k3 := cel_call b5 k3 (by omega); replace k2 := cel_call b5 k2 (by omega); replace hB := below_call b5 hB (by omega))
  clear h5 b5
  refine (HF'.out w5 hB).mono ?_; rintro en w6 ⟨v, rfl, ⟨a2, c2, rfl, ho2⟩, hb⟩
  (replace kX := cel_call hb kX (by omega); replace ho1 := own_call hb ho1; replace k3 := cel_call hb k3 (by omega); replace k2 := cel_call hb k2 (by omega); replace hB := below_call hb hB (by omega))
  have s6 := hb.size
  clear hb k2
  simp only [dyV]
  have kA := k3.alloc (.cells #[.bool (outO o').neg, .slice a2 (words (outO o').m).length c2, .int .i64 (outO o').exp] 46)
  have hBA := hB.alloc hB.size (.cells #[.bool (outO o').neg, .slice a2 (words (outO o').m).length c2, .int .i64 (outO o').exp] 46)
  have kX' := kX.alloc (.cells #[.bool (outO o').neg, .slice a2 (words (outO o').m).length c2, .int .i64 (outO o').exp] 46)
  have kY := Cel.new w6 (.bool (outO o').neg) (.slice a2 (words (outO o').m).length c2) (.int .i64 (outO o').exp)
  have ho1' := ho1.grow ((Below.refl _ _).alloc (Nat.le_refl _) (.cells #[.bool (outO o').neg, .slice a2 (words (outO o').m).length c2, .int .i64 (outO o').exp] 46))
  have ho2' := ho2.grow ((Below.refl _ _).alloc (Nat.le_refl _) (.cells #[.bool (outO o').neg, .slice a2 (words (outO o').m).length c2, .int .i64 (outO o').exp] 46))
  clear ho1 ho2 k3 hB kX
  have hfin : ∀ W v o2 a c, o2 = addO o o' → Below w.heap.size w W → Own W 118 (w.heap.size + 1 + 1 + 1) a c (words (outO o2).m) → v = dyV (outO o2) a c → Came w W (addO o o') (.returned (.tuple #[v, .int .i64 (errO o2)])) := by
    rintro W v o a c rfl hW ho rfl
    exact ⟨_, rfl, ⟨a, c, rfl, ho.mono (by omega)⟩, hW⟩
  have HFIN := Lib.hid hfin; clear hfin
  rw [s3] at *
  by_cases hno : o = none ∨ o' = none
  · have hA : none = addO o o' := by
      rcases hno with h | h
      · rw [h]; rfl
      · rw [h]; cases o <;> rfl
    have HA := Lib.hid hA; clear hA
    obtain ⟨c0, cc1, cc2, _, _, _⟩ := kA.facts
    have hNO := Lib.hid hno; clear hno
    have hd : o.isSome = false ∨ (o.isSome = true ∧ o'.isSome = false) := by
      rcases hNO.out with h | h
      · rw [h]; exact .inl rfl
      · rw [h]; cases o <;> simp
    rcases hd with h1 | ⟨h1, h2⟩
    · rw [h1]
      go_wp2
      refine bodyPost_ret (v := .tuple #[dyV D.zero none 0, .int .i64 2]) (by simp [results, Tryz.results71, go_sem, dyV, D.zero, words_zero, c0, cc1, cc2]) rfl ?_
      exact HFIN.out _ _ none none 0 HA.out (below_wr3 (g := w.heap.size + 1 + 1) hBA (by omega)) (by rw [show (outO none).m = 0 from rfl, words_zero]; exact Own.none _ _ _) rfl
    · rw [h1, h2]
      go_wp2
      refine bodyPost_ret (v := .tuple #[dyV D.zero none 0, .int .i64 2]) (by simp [results, Tryz.results71, go_sem, dyV, D.zero, words_zero, c0, cc1, cc2]) rfl ?_
      exact HFIN.out _ _ none none 0 HA.out (below_wr3 (g := w.heap.size + 1 + 1) hBA (by omega)) (by rw [show (outO none).m = 0 from rfl, words_zero]; exact Own.none _ _ _) rfl
  obtain ⟨p, rfl⟩ : ∃ p, o = some p := by cases o with | none => simp at hno | some p => exact ⟨p, rfl⟩
  obtain ⟨q, rfl⟩ : ∃ p, o' = some p := by cases o' with | none => simp at hno | some p => exact ⟨p, rfl⟩
  obtain ⟨p1, p2, p3⟩ := HOK.out p rfl
  obtain ⟨q1, q2, q3⟩ := HOK'.out q rfl
  clear HOK HOK' hno
  simp only [outO, Option.getD, Option.isSome] at kA hBA kX' kY ho1' ho2' ⊢
  by_cases hp0 : p.m = 0
  · have HA : Hid (some q = addO (some p) (some q)) := by show some q = addD p q; rw [addD, if_pos hp0]
    have hw0 : (((words p.m).length : Int) == 0) = true := by rw [hp0, words_zero]; rfl
    have Hp0 := Lib.hid hp0; clear hp0
    obtain ⟨c0, cc1, cc2, _, _, _⟩ := kA.facts
    obtain ⟨_, _, _, _, _, _⟩ := kX'.facts
    obtain ⟨_, _, _, _, _, _⟩ := kY.facts
    go_wp2
    refine bodyPost_ret (v := .tuple #[dyV q a2 c2, .int .i64 0]) (by simp [results, Tryz.results71, go_sem, dyV, D.zero, words_zero, c0, cc1, cc2]) rfl ?_
    exact HFIN.out _ _ (some q) a2 c2 HA.out (below_wr3 (g := w.heap.size + 1 + 1) hBA (by omega)) (own_wr3 (g := w.heap.size + 1 + 1) (ho2'.mono (by omega)) (by omega)) rfl
  by_cases hq0 : q.m = 0
  · have HA : Hid (some p = addO (some p) (some q)) := by show some p = addD p q; rw [addD, if_neg hp0, if_pos hq0]
    have hw0 : (((words q.m).length : Int) == 0) = true := by rw [hq0, words_zero]; rfl
    have Hq0 := Lib.hid hq0; clear hq0
    have hp1 : 0 < (words p.m).length := by have := @len_words_zero p.m; omega
    obtain ⟨c0, cc1, cc2, _, _, _⟩ := kA.facts
    obtain ⟨_, _, _, _, _, _⟩ := kX'.facts
    obtain ⟨_, _, _, _, _, _⟩ := kY.facts
    go_wp2
    refine bodyPost_ret (v := .tuple #[dyV p a1 c1, .int .i64 0]) (by simp [results, Tryz.results71, go_sem, dyV, D.zero, words_zero, c0, cc1, cc2]) rfl ?_
    exact HFIN.out _ _ (some p) a1 c1 HA.out (below_wr3 (g := w.heap.size + 1 + 1) hBA (by omega)) (own_wr3 (g := w.heap.size + 1 + 1) (ho1'.mono (by omega)) (by omega)) rfl
  have hp1 : 0 < (words p.m).length := by have := @len_words_zero p.m; omega
  have hq1 : 0 < (words q.m).length := by have := @len_words_zero q.m; omega
  obtain ⟨E, hE⟩ : ∃ E, E = min p.exp q.exp := ⟨_, rfl⟩
  obtain ⟨i, hi⟩ : ∃ i, i = (p.exp - E).toNat := ⟨_, rfl⟩
  obtain ⟨j, hj⟩ : ∃ j, j = (q.exp - E).toNat := ⟨_, rfl⟩
  have hi2 : p.exp - E = (i : Int) := by omega
  have hj2 : q.exp - E = (j : Int) := by omega
  have hA : addO (some p) (some q) = if 8192 < (words (p.m * 2 ^ i)).length ∨ 8192 < (words (q.m * 2 ^ j)).length then none
      else if p.neg = q.neg then formF p.neg (p.m * 2 ^ i + q.m * 2 ^ j) E
      else if p.m * 2 ^ i < q.m * 2 ^ j then formF q.neg (q.m * 2 ^ j - p.m * 2 ^ i) E
      else formF p.neg (p.m * 2 ^ i - q.m * 2 ^ j) E := by
    show addD p q = _
    rw [addD, if_neg hp0, if_neg hq0, ← hE, ← hi, ← hj]
  have hS1 : ∀ W z base, z = p.exp - E → Own W 118 base a1 c1 (words p.m) → Calls Tryz.prog 185 #[.slice a1 (words p.m).length c1, .int .i64 z] W fun e w' => ∃ a' c', e = .returned (.slice a' (words (p.m * 2 ^ i)).length c') ∧ Own w' 118 W.heap.size a' c' (words (p.m * 2 ^ i)) ∧ Below W.heap.size W w' := by
    intro W z base hz hr
    rw [hz, hi2]
    have := rmoved_up a1 c1 (words p.m) i W (by omega) (by omega) (hr.sl (W32_words _))
    rw [num_words] at this
    exact this
  have hS2 : ∀ W z base, z = q.exp - E → Own W 118 base a2 c2 (words q.m) → Calls Tryz.prog 185 #[.slice a2 (words q.m).length c2, .int .i64 z] W fun e w' => ∃ a' c', e = .returned (.slice a' (words (q.m * 2 ^ j)).length c') ∧ Own w' 118 W.heap.size a' c' (words (q.m * 2 ^ j)) ∧ Below W.heap.size W w' := by
    intro W z base hz hr
    rw [hz, hj2]
    have := rmoved_up a2 c2 (words q.m) j W (by omega) (by omega) (hr.sl (W32_words _))
    rw [num_words] at this
    exact this
  have HA := Lib.hid hA; have HS1 := Lib.hid hS1; have HS2 := Lib.hid hS2; clear hA hS1 hS2 hp0 hq0
  clear hi hj
  generalize p.m * 2 ^ i = M at *
  generalize q.m * 2 ^ j = N at *
  obtain ⟨_, _, _, _, _, _⟩ := kA.facts
  obtain ⟨_, _, _, _, _, _⟩ := kX'.facts
  obtain ⟨_, _, _, _, _, _⟩ := kY.facts
  rcases (show (p.exp ≤ q.exp ∧ E = p.exp) ∨ (q.exp < p.exp ∧ E = q.exp) by omega) with ⟨hle, hE2⟩ | ⟨hle, hE2⟩
  all_goals
    have HE := Lib.hid hE; have HE2 := Lib.hid hE2; clear hE hE2
    go_wp2_with fail
    obtain ⟨w7, h7⟩ : ∃ W, W = (w6.alloc (.cells #[.bool q.neg, .slice a2 (words q.m).length c2, .int .i64 q.exp] 46)) := ⟨_, rfl⟩
    have s7 : w7.heap.size = w6.heap.size + 1 := by rw [h7]; simp
    rw [← h7] at kA hBA kX' kY ho1' ho2' ⊢
    clear h7
    refine (HS1.out w7 _ _ (by have := HE2.out; omega) ho1').mono ?_
    rintro en w8 ⟨a3, c3, rfl, ho3, hb⟩
    (replace ho2' := own_call hb ho2'; replace ho1' := own_call hb ho1'; replace kY := cel_call hb kY (by omega); replace kX' := cel_call hb kX' (by omega); replace hBA := below_call hb hBA (by omega); replace kA := cel_call hb kA (by omega))
    have s8 := hb.size
    clear hb
    (obtain ⟨q176x0x0, q176x0x1, q176x0x2, q176x0x3, q176x0x4, q176x0x5⟩ := Cel.facts kY; obtain ⟨q176x1x0, q176x1x1, q176x1x2, q176x1x3, q176x1x4, q176x1x5⟩ := Cel.facts kX'; obtain ⟨q176x2x0, q176x2x1, q176x2x2, q176x2x3, q176x2x4, q176x2x5⟩ := Cel.facts kA)
    go_wp2_with fail
    refine (HS2.out w8 _ _ (by have := HE2.out; omega) ho2').mono ?_
    rintro en w9 ⟨a5, c5, rfl, ho5, hb⟩
    (replace ho3 := own_call hb ho3; replace ho2' := own_call hb ho2'; replace ho1' := own_call hb ho1'; replace kY := cel_call hb kY (by omega); replace kX' := cel_call hb kX' (by omega); replace hBA := below_call hb hBA (by omega); replace kA := cel_call hb kA (by omega))
    have s9 := hb.size
    clear hb
    (clear q176x0x0 q176x0x1 q176x0x2 q176x0x3 q176x0x4 q176x0x5 q176x1x0 q176x1x1 q176x1x2 q176x1x3 q176x1x4 q176x1x5 q176x2x0 q176x2x1 q176x2x2 q176x2x3 q176x2x4 q176x2x5; obtain ⟨q183x0x0, q183x0x1, q183x0x2, q183x0x3, q183x0x4, q183x0x5⟩ := Cel.facts kY; obtain ⟨q183x1x0, q183x1x1, q183x1x2, q183x1x3, q183x1x4, q183x1x5⟩ := Cel.facts kX'; obtain ⟨q183x2x0, q183x2x1, q183x2x2, q183x2x3, q183x2x4, q183x2x5⟩ := Cel.facts kA)
    by_cases hlong : 8192 < (words M).length ∨ 8192 < (words N).length
    · have HA2 : Hid (none = addO (some p) (some q)) := by show _ = _; rw [HA.out, if_pos hlong]
      obtain ⟨c0, cc1, cc2, _, _, _⟩ := kA.facts
      by_cases h1 : 8192 < (words M).length
      · clear hlong
        go_wp2
        refine bodyPost_ret (v := .tuple #[dyV D.zero none 0, .int .i64 2]) (by simp [results, Tryz.results71, go_sem, dyV, D.zero, words_zero, c0, cc1, cc2]) rfl ?_
        exact HFIN.out _ _ none none 0 HA2.out (below_wr3 (g := w.heap.size + 1 + 1) hBA (by omega)) (by rw [show (outO none).m = 0 from rfl, words_zero]; exact Own.none _ _ _) rfl
      · have h2 : 8192 < (words N).length := by omega
        clear hlong
        go_wp2
        refine bodyPost_ret (v := .tuple #[dyV D.zero none 0, .int .i64 2]) (by simp [results, Tryz.results71, go_sem, dyV, D.zero, words_zero, c0, cc1, cc2]) rfl ?_
        exact HFIN.out _ _ none none 0 HA2.out (below_wr3 (g := w.heap.size + 1 + 1) hBA (by omega)) (by rw [show (outO none).m = 0 from rfl, words_zero]; exact Own.none _ _ _) rfl
    have h1 : ¬ (8192 < (words M).length) := by omega
    have h2 : ¬ (8192 < (words N).length) := by omega
    have hA3 := HA.out
    rw [if_neg hlong] at hA3
    clear HA hlong
    have HA := Lib.hid hA3; clear hA3
    have hTo : ∀ W sg a6 c6 R z base, z = E → formF sg R E = addO (some p) (some q) → (words R).length ≤ 8193 → Own W 118 base a6 c6 (words R) → Calls Tryz.prog 183 #[.bool sg, .slice a6 (words R).length c6, .int .i64 z] W fun en w' => Came W w' (addO (some p) (some q)) en := by
      intro W sg a6 c6 R z base rz r1 r2 r3
      have := told_any sg a6 c6 (words R) z W ⟨r3.sl (W32_words _), by dsimp only; omega, by dsimp only; have := HE.out; omega, by dsimp only; have := HE.out; omega⟩
      rw [num_words, rz, r1] at this
      rw [rz]
      exact this
    have HTo := Lib.hid hTo; clear hTo
    by_cases hs : p.neg = q.neg
    · have hsb : (p.neg == q.neg) = true := by rw [hs]; simp
      rw [if_pos hs] at HA
      have Hs := Lib.hid hs; clear hs
      have hS : ∀ W, Below w9.heap.size w9 W → Calls Tryz.prog 186 #[.slice a3 (words M).length c3, .slice a5 (words N).length c5] W fun e w' => ∃ a' c', e = .returned (.slice a' (words (M + N)).length c') ∧ Own w' 118 W.heap.size a' c' (words (M + N)) ∧ Below W.heap.size W w' := by
        intro W hW
        have := rplus_any a3 a5 c3 c5 (words M) (words N) W (by omega) (by omega) (W32_words M) (ho3.rd.grow hW) (W32_words N) (ho5.rd.grow hW)
        rw [num_words, num_words] at this
        exact this
      have hl : (words (M + N)).length ≤ 8193 := words_add_le (by omega) (by omega)
      have HS := Lib.hid hS; clear hS
      go_wp2_with fail
      go_region_with (first
        | (go_at_call 186; refine (HS.out _ (Below.refl _ _).drew).mono ?_; rintro en w10 ⟨a6, c6, rfl, ho6, hb9⟩; have kX9 := kX'.below (below_drewN (n := 1) hb9) (by have := kX'.lt; simpa using this); obtain ⟨_, _, _, _, _, _⟩ := kX9.facts)
        | (go_at_call 183; refine (HTo.out _ _ _ _ _ _ _ HE2.out.symm HA.out.symm hl ho6).mono ?_; rintro en w11 ⟨v, rfl, ⟨a7, c7, rfl, ho7⟩, hb10⟩; have kA9 := kA.below (below_drewN (n := 1) hb9) (by have := kA.lt; simpa using this); have kA10 := kA9.below hb10 kA9.lt; obtain ⟨_, _, _, _, _, _⟩ := kA10.facts; simp only [dyV]))
      all_goals
        go_wp2
        have z9 := hb9.size
        have z10 := hb10.size
        simp only [World.size_drew] at z9 z10
        obtain ⟨c0, cc1, cc2, _, _, _⟩ := kA10.facts
        refine bodyPost_ret (v := .tuple #[dyV (outO (addO (some p) (some q))) a7 c7, .int .i64 (errO (addO (some p) (some q)))]) (by simp [results, Tryz.results71, go_sem, dyV, c0, cc1, cc2]) rfl ?_
        have hbz : Below w.heap.size w w11 := (hBA.trans ((below_drewN (n := 1) hb9).mono (by simp; omega))).trans (hb10.mono (by omega))
        exact HFIN.out _ _ _ a7 c7 rfl (below_wr3 (g := w.heap.size + 1 + 1) hbz (by omega)) (own_wr3 (g := w.heap.size + 1 + 1) (ho7.mono (by omega)) (by omega)) rfl
    have hsb : (p.neg == q.neg) = false := by simp [hs]
    rw [if_neg hs] at HA
    have Hs := Lib.hid hs; clear hs
    have hC := rcmp_any a3 a5 c3 c5 (words M) (words N) w9 (by omega) (W32_words M) ho3.rd (by omega) (W32_words N) ho5.rd
    rw [num_words, num_words] at hC
    have HC := Lib.hid hC; clear hC
    (clear q183x0x0 q183x0x1 q183x0x2 q183x0x3 q183x0x4 q183x0x5 q183x1x0 q183x1x1 q183x1x2 q183x1x3 q183x1x4 q183x1x5 q183x2x0 q183x2x1 q183x2x2 q183x2x3 q183x2x4 q183x2x5; obtain ⟨q240x0x0, q240x0x1, q240x0x2, q240x0x3, q240x0x4, q240x0x5⟩ := Cel.facts kY; obtain ⟨q240x1x0, q240x1x1, q240x1x2, q240x1x3, q240x1x4, q240x1x5⟩ := Cel.facts kX'; obtain ⟨q240x2x0, q240x2x1, q240x2x2, q240x2x3, q240x2x4, q240x2x5⟩ := Cel.facts kA)
    by_cases hlt : M < N
    · rw [if_pos hlt] at HA
      have hcm := cmpN_lt hlt
      rw [hcm] at HC
      clear hcm
      have hSub : ∀ W, Rd W a5 (words N) → Rd W a3 (words M) → Calls Tryz.prog 188 #[.slice a5 (words N).length c5, .slice a3 (words M).length c3] W fun e w' => ∃ a' c', e = .returned (.slice a' (words (N - M)).length c') ∧ Own w' 118 W.heap.size a' c' (words (N - M)) ∧ Below W.heap.size W w' := by
        intro W r1 r2
        have := rminus_any a5 a3 c5 c3 (words N) (words M) W (by omega) (by omega) (W32_words N) r1 (W32_words M) r2 (by rw [num_words, num_words]; omega)
        rw [num_words, num_words] at this
        exact this
      have hl : (words (N - M)).length ≤ 8193 := by have := words_len_of_le (show N - M ≤ N by omega); omega
      have HSub := Lib.hid hSub; clear hSub
      go_wp2_with fail
      refine HC.out.mono ?_
      rintro en w10 ⟨rfl, n9, hw9⟩
      have s10 : w10.heap.size = w9.heap.size := by rw [hw9]; rfl
      (replace ho5 := own_drewN_eq hw9 ho5; replace ho3 := own_drewN_eq hw9 ho3; replace ho2' := own_drewN_eq hw9 ho2'; replace ho1' := own_drewN_eq hw9 ho1'; replace kY := cel_drewN_eq hw9 kY; replace kX' := cel_drewN_eq hw9 kX'; replace hBA := below_drewN_eq hw9 hBA; replace kA := cel_drewN_eq hw9 kA); clear hw9; (clear q240x0x0 q240x0x1 q240x0x2 q240x0x3 q240x0x4 q240x0x5 q240x1x0 q240x1x1 q240x1x2 q240x1x3 q240x1x4 q240x1x5 q240x2x0 q240x2x1 q240x2x2 q240x2x3 q240x2x4 q240x2x5; obtain ⟨q257x0x0, q257x0x1, q257x0x2, q257x0x3, q257x0x4, q257x0x5⟩ := Cel.facts kY; obtain ⟨q257x1x0, q257x1x1, q257x1x2, q257x1x3, q257x1x4, q257x1x5⟩ := Cel.facts kX'; obtain ⟨q257x2x0, q257x2x1, q257x2x2, q257x2x3, q257x2x4, q257x2x5⟩ := Cel.facts kA)
      go_wp2_with fail
      go_region_with (first
        | (go_at_call 188; refine (HSub.out _ (own_drew ho5).rd (own_drew ho3).rd).mono ?_; rintro en w11 ⟨a6, c6, rfl, ho6, hb9⟩; have kX9 := kX'.below (below_drewN (n := 1) hb9) (by have := kX'.lt; simpa using this); have kY9 := kY.below (below_drewN (n := 1) hb9) (by have := kY.lt; simpa using this); obtain ⟨_, _, _, _, _, _⟩ := kX9.facts; obtain ⟨_, _, _, _, _, _⟩ := kY9.facts)
        | (go_at_call 183; refine (HTo.out _ _ _ _ _ _ _ HE2.out.symm HA.out.symm hl ho6).mono ?_; rintro en w12 ⟨v, rfl, ⟨a7, c7, rfl, ho7⟩, hb10⟩; have kA9 := kA.below (below_drewN (n := 1) hb9) (by have := kA.lt; simpa using this); have kA10 := kA9.below hb10 kA9.lt; obtain ⟨_, _, _, _, _, _⟩ := kA10.facts; simp only [dyV]))
      all_goals
        go_wp2
        have z9 := hb9.size
        have z10 := hb10.size
        simp only [World.size_drew] at z9 z10
        obtain ⟨c0, cc1, cc2, _, _, _⟩ := kA10.facts
        refine bodyPost_ret (v := .tuple #[dyV (outO (addO (some p) (some q))) a7 c7, .int .i64 (errO (addO (some p) (some q)))]) (by simp [results, Tryz.results71, go_sem, dyV, c0, cc1, cc2]) rfl ?_
        have hbz : Below w.heap.size w w12 := (hBA.trans ((below_drewN (n := 1) hb9).mono (by simp; omega))).trans (hb10.mono (by omega))
        exact HFIN.out _ _ _ a7 c7 rfl (below_wr3 (g := w.heap.size + 1 + 1) hbz (by omega)) (own_wr3 (g := w.heap.size + 1 + 1) (ho7.mono (by omega)) (by omega)) rfl
    · rw [if_neg hlt] at HA
      obtain ⟨z, hz⟩ : ∃ z, z = cmpN M N := ⟨_, rfl⟩
      have hz2 : ¬ z < 0 := by rw [hz, cmpN_neg]; exact hlt
      have hz3 : z ≤ 1 := by rw [hz]; exact cmpN_hi _ _
      rw [← hz] at HC
      clear hz
      have hSub : ∀ W, Rd W a3 (words M) → Rd W a5 (words N) → Calls Tryz.prog 188 #[.slice a3 (words M).length c3, .slice a5 (words N).length c5] W fun e w' => ∃ a' c', e = .returned (.slice a' (words (M - N)).length c') ∧ Own w' 118 W.heap.size a' c' (words (M - N)) ∧ Below W.heap.size W w' := by
        intro W r1 r2
        have := rminus_any a3 a5 c3 c5 (words M) (words N) W (by omega) (by omega) (W32_words M) r1 (W32_words N) r2 (by rw [num_words, num_words]; omega)
        rw [num_words, num_words] at this
        exact this
      have hl : (words (M - N)).length ≤ 8193 := by have := words_len_of_le (show M - N ≤ M by omega); omega
      have HSub := Lib.hid hSub; clear hSub
      go_wp2_with fail
      refine HC.out.mono ?_
      rintro en w10 ⟨rfl, n9, hw9⟩
      have s10 : w10.heap.size = w9.heap.size := by rw [hw9]; rfl
      (replace ho5 := own_drewN_eq hw9 ho5; replace ho3 := own_drewN_eq hw9 ho3; replace ho2' := own_drewN_eq hw9 ho2'; replace ho1' := own_drewN_eq hw9 ho1'; replace kY := cel_drewN_eq hw9 kY; replace kX' := cel_drewN_eq hw9 kX'; replace hBA := below_drewN_eq hw9 hBA; replace kA := cel_drewN_eq hw9 kA); clear hw9; (clear q240x0x0 q240x0x1 q240x0x2 q240x0x3 q240x0x4 q240x0x5 q240x1x0 q240x1x1 q240x1x2 q240x1x3 q240x1x4 q240x1x5 q240x2x0 q240x2x1 q240x2x2 q240x2x3 q240x2x4 q240x2x5; obtain ⟨q288x0x0, q288x0x1, q288x0x2, q288x0x3, q288x0x4, q288x0x5⟩ := Cel.facts kY; obtain ⟨q288x1x0, q288x1x1, q288x1x2, q288x1x3, q288x1x4, q288x1x5⟩ := Cel.facts kX'; obtain ⟨q288x2x0, q288x2x1, q288x2x2, q288x2x3, q288x2x4, q288x2x5⟩ := Cel.facts kA)
      go_wp2_with fail
      go_region_with (first
        | (go_at_call 188; refine (HSub.out _ (own_drew ho3).rd (own_drew ho5).rd).mono ?_; rintro en w11 ⟨a6, c6, rfl, ho6, hb9⟩; have kX9 := kX'.below (below_drewN (n := 1) hb9) (by have := kX'.lt; simpa using this); have kY9 := kY.below (below_drewN (n := 1) hb9) (by have := kY.lt; simpa using this); obtain ⟨_, _, _, _, _, _⟩ := kX9.facts; obtain ⟨_, _, _, _, _, _⟩ := kY9.facts)
        | (go_at_call 183; refine (HTo.out _ _ _ _ _ _ _ HE2.out.symm HA.out.symm hl ho6).mono ?_; rintro en w12 ⟨v, rfl, ⟨a7, c7, rfl, ho7⟩, hb10⟩; have kA9 := kA.below (below_drewN (n := 1) hb9) (by have := kA.lt; simpa using this); have kA10 := kA9.below hb10 kA9.lt; obtain ⟨_, _, _, _, _, _⟩ := kA10.facts; simp only [dyV]))
      all_goals
        go_wp2
        have z9 := hb9.size
        have z10 := hb10.size
        simp only [World.size_drew] at z9 z10
        obtain ⟨c0, cc1, cc2, _, _, _⟩ := kA10.facts
        refine bodyPost_ret (v := .tuple #[dyV (outO (addO (some p) (some q))) a7 c7, .int .i64 (errO (addO (some p) (some q)))]) (by simp [results, Tryz.results71, go_sem, dyV, c0, cc1, cc2]) rfl ?_
        have hbz : Below w.heap.size w w12 := (hBA.trans ((below_drewN (n := 1) hb9).mono (by simp; omega))).trans (hb10.mono (by omega))
        exact HFIN.out _ _ _ a7 c7 rfl (below_wr3 (g := w.heap.size + 1 + 1) hbz (by omega)) (own_wr3 (g := w.heap.size + 1 + 1) (ho7.mono (by omega)) (by omega)) rfl
end Go.Proofs.YteahdgbokjbgcaaGreatDoor
