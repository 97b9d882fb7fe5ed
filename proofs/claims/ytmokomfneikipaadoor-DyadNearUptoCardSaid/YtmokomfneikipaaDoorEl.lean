/- Contract of steelyardlaw03.awake. No statement of the seat is proved here. -/
import Derived.Test.YtmokomfneikipaaDoorProg
import Derived.Test.YtmokomfneikipaaDoorEk
namespace Go.Proofs.YtmokomfneikipaaDoor
open Go.RowKit
set_option linter.unusedVariables false
set_option linter.unusedSimpArgs false

theorem eq64a (W : World) : (binOp .eql 22 (.float .f64 4845873199050653697) (.float .f64 4845873199050653697)).run Tryd.prog W = .ok (.bool true) W := by kernel_rfl
theorem eq64b (W : World) : (binOp .eql 22 (.float .f64 4845873199050653696) (.float .f64 4845873199050653696)).run Tryd.prog W = .ok (.bool true) W := by kernel_rfl

set_option maxRecDepth 10000 in
set_option maxHeartbeats 4000000 in
theorem awake_any (w : World) (hT : Tab w) :
    Calls Tryd.prog 10 #[] w fun en w' => en = .returned (.bool true) ∧ Below w.heap.size w w' := by
  have hO1 := fun W (hw : Below w.heap.size w W) => dof_any 4604930618986332160 W (by decide) (hT.grow hw)
  rw [ofF_three4] at hO1
  have hI : ∀ W a1 c1 b1, Below w.heap.size w W → Own W 64 b1 a1 c1 (words 3) → Calls Tryd.prog 17 #[.int .i64 4] W fun en w' => ∃ a4 c4, en = .returned (.agg #[.bool false, .slice a4 (words 1).length c4, .int .i64 2]) ∧ Own w' 64 w.heap.size a4 c4 (words 1) ∧ Own w' 64 b1 a1 c1 (words 3) ∧ Below w.heap.size w w' ∧ Below W.heap.size W w' := by
    intro W a1 c1 b1 hw h1
    have := dint_any 4 W (by decide) (by decide) (hT.grow hw)
    rw [intF_four] at this
    refine this.mono ?_
    rintro en w' ⟨v, rfl, ⟨a4, c4, rfl, ho4⟩, hb4⟩
    exact ⟨a4, c4, rfl, ho4.mono hw.size, h1.grow hb4, hw.trans (hb4.mono hw.size), hb4⟩
  have hAd : ∀ W a1 c1 a2 c2 b1 b2, Below w.heap.size w W → Own W 64 b1 a1 c1 (words 3) → Own W 64 b2 a2 c2 (words 1) → Calls Tryd.prog 21 #[.agg #[.bool false, .slice a1 (words 3).length c1, .int .i64 (-2)], .agg #[.bool false, .slice a2 (words 1).length c2, .int .i64 2]] W fun en w' => ∃ a4 c4, en = .returned (.tuple #[.agg #[.bool false, .slice a4 1 c4, .int .i64 (-2)], .int .i64 0]) ∧ Own w' 64 W.heap.size a4 c4 [19] ∧ Below w.heap.size w w' ∧ Below W.heap.size W w' := by
    intro W a1 c1 a2 c2 b1 b2 hw h1 h2
    have h3 : (words 3).length ≤ 2 := words_len_le (by decide)
    have h16 : (words 1).length ≤ 2 := words_len_le (by decide)
    have := dadd_any ⟨false, a1, words 3, c1, -2⟩ ⟨false, a2, words 1, c2, 2⟩ W ⟨h1.sl (W32_words _), by dsimp only; omega, by dsimp only; omega, by dsimp only; omega⟩ ⟨h2.sl (W32_words _), by dsimp only; omega, by dsimp only; omega, by dsimp only; omega⟩ (hT.grow hw)
    have e1 : Arg.F ⟨false, a1, words 3, c1, -2⟩ = some ⟨false, 3, -2⟩ := by
      have h := @formF_at false 3 0 (-2) (by decide) (by decide) (by decide) (by decide)
      unfold Arg.F; dsimp only; rw [num_words]; exact h
    have e2 : Arg.F ⟨false, a2, words 1, c2, 2⟩ = some ⟨false, 1, 2⟩ := by
      have h := @formF_at false 1 0 2 (by decide) (by decide) (by decide) (by decide)
      unfold Arg.F; dsimp only; rw [num_words]; exact h
    rw [e1, e2, addF_nineteen] at this
    refine this.mono ?_
    rintro en w' ⟨v, rfl, ⟨a4, c4, rfl, ho4⟩, hb4⟩
    have w19 : words 19 = [19] := by rw [words_pos (by decide), show (19 / 4294967296 : Nat) = 0 from rfl, words_zero]
    have ho5 : Own w' 64 W.heap.size a4 c4 (words 19) := ho4
    rw [w19] at ho5
    refine ⟨a4, c4, ?_, ho5, hw.trans (hb4.mono hw.size), hb4⟩
    show _ = Ending.returned (.tuple #[.agg #[.bool false, .slice a4 ([19] : List Nat).length c4, .int .i64 (-2)], .int .i64 0])
    rw [← w19]; rfl
  have HAd := Lib.hid hAd; clear hAd
  have hO2 : ∀ W, Below w.heap.size w W → Calls Tryd.prog 11 #[.float .f64 9218868437227405312] W fun en w' => ∃ v0 a4 c4 v2, en = .returned (.tuple #[.agg #[.bool v0, .slice a4 0 c4, .int .i64 v2], .int .i64 30]) ∧ Below W.heap.size W w' := by
    intro W hw
    have := dof_any 9218868437227405312 W (by decide) (hT.grow hw)
    rw [ofF_inf] at this
    refine this.mono ?_
    rintro en w' ⟨v, rfl, ⟨a4, c4, rfl, ho4⟩, hb4⟩
    refine ⟨false, a4, c4, 0, ?_, hb4⟩
    show _ = Ending.returned (.tuple #[.agg #[.bool false, .slice a4 0 c4, .int .i64 0], .int .i64 30])
    unfold dyV
    rw [show (outO none).m = 0 from rfl, words_zero]; rfl
  have hRd : ∀ (mode : Int) (s : Bool) (l : List Nat) (e : Int) (d : D) (k r : Nat) W g, Below w.heap.size w W → Blk W 64 g l → W32 l → l.length ≤ 100 → -100000 ≤ e → e ≤ 100000 → formF s (num l) e = some d → 0 ≤ mode → mode ≤ 4 → (d.m = 0 ∨ d.m % 2 = 1) → onF 52 (-1074) 9218868437227405312 d mode = k → r = k + (if d.neg = true then 9223372036854775808 else 0) → Calls Tryd.prog 26 #[.agg #[.bool s, .slice (some ⟨g, 0, none⟩) l.length l.length, .int .i64 e], .int .i64 mode] W fun en w' => en = .returned (.tuple #[.float .f64 r, .int .i64 0]) ∧ Below W.heap.size W w' := by
    intro mode s l e d k r W g hw hk hl hlen he1 he2 hf hm0 hm4 hd hon hr
    have := dround_any ⟨s, some ⟨g, 0, none⟩, l, l.length, e⟩ mode W ⟨Sl.blk hk hl, by dsimp only; omega, by dsimp only; omega, by dsimp only; omega⟩ (hT.grow hw)
    rw [show Arg.F ⟨s, some ⟨g, 0, none⟩, l, l.length, e⟩ = some d from hf] at this
    refine this.mono ?_
    rintro en w' ⟨⟨r', er, rfl, h1⟩, hb⟩
    obtain ⟨rfl, rfl⟩ := rounds_to hd hm0 hm4 hon h1
    rw [hr]
    exact ⟨rfl, hb⟩
  have hR1 := fun W g hw hk => hRd 2 false [1, 2097152] 0 ⟨false, 9007199254740993, 0⟩ 4845873199050653697 4845873199050653697 W g hw hk (W32.cons (by decide) (W32.cons (by decide) W32.nil)) (by decide) (by decide) (by decide) form_two53 (by decide) (by decide) (by decide) on_two53_up rfl
  have hR2 := fun W g hw hk => hRd 0 false [1, 2097152] 0 ⟨false, 9007199254740993, 0⟩ 4845873199050653696 4845873199050653696 W g hw hk (W32.cons (by decide) (W32.cons (by decide) W32.nil)) (by decide) (by decide) (by decide) form_two53 (by decide) (by decide) (by decide) on_two53_even rfl
  have hR3 := fun W g hw hk => hRd 0 true [1] (-1075) ⟨true, 1, -1075⟩ 0 9223372036854775808 W g hw hk (W32.cons (by decide) W32.nil) (by decide) (by decide) (by decide) form_small (by decide) (by decide) (by decide) on_small rfl
  simp only [List.length_cons, List.length_nil, Nat.zero_add, Nat.reduceAdd] at hR1 hR2 hR3
  have HO2 := Lib.hid hO2; have HR1 := Lib.hid hR1; have HR2 := Lib.hid hR2; have HR3 := Lib.hid hR3; clear hO2 hRd hR1 hR2 hR3
  have HO1 := Lib.hid hO1; have HI := Lib.hid hI; have HT := Lib.hid hT; clear hO1 hI hT
  go_enter Tryd.func10, Tryd.ntmps10
  go_wp2_with fail
  refine (HO1.out w (Below.refl _ _)).mono ?_; rintro en w1 ⟨v, rfl, ⟨a1, c1, rfl, ho1⟩, hb1⟩
  have hA1 : Own w1 64 w.heap.size a1 c1 (words 3) := ho1
  clear ho1
  simp only [dyV, outO, Option.getD, errOf, Option.isNone]
  go_wp2_with fail
  obtain ⟨w2, h2⟩ : ∃ W, W = w1.alloc (.cells #[.bool false, .slice a1 (words 3).length c1, .int .i64 (-2)] 27) := ⟨_, rfl⟩
  rw [← h2]
  obtain ⟨k2, b2, s2⟩ := new_cel h2 rfl
  clear h2
  have hB2 : Below w.heap.size w w2 := hb1.trans (b2.mono hb1.size)
  have hA2 := hA1.grow b2
  have HA2 := Lib.hid hA2; have HB2 := Lib.hid hB2; clear hA2 hB2 hA1 b2
  obtain ⟨_, _, _, _, _, _⟩ := k2.facts
  have n2 : w2.heap.size ≠ w1.heap.size := by omega
  have HS2 := Lib.hid s2; clear s2
  go_region_held3 (fun W => W.cell? ⟨w1.heap.size, 0, none⟩ = some (.bool false) ∧ W.cell? ⟨w1.heap.size, 1, none⟩ = some (.slice a1 (words 3).length c1) ∧ W.cell? ⟨w1.heap.size, 2, none⟩ = some (.int .i64 (-2))) (go_keep) (first
      | (go_at_call 17; refine (HI.out _ _ _ _ HB2.out.drew (own_drew HA2.out)).mono ?_; rintro en w4 ⟨a4, c4, rfl, ho4, ho1, hB4, hb4⟩; have k4 := k2.below (below_drewN (n := 1) hb4) (by have := k2.lt; simpa using this); have n4 : w4.heap.size ≠ w1.heap.size := (by have := k4.lt; omega); obtain ⟨_, _, _, _, _, _⟩ := k4.facts)
      | (go_at_call 17; refine (HI.out _ _ _ _ (HB2.out.alloc HB2.out.size _).drew (own_drew (HA2.out.grow ((Below.refl _ _).alloc (Nat.le_refl _) _)))).mono ?_; rintro en w4 ⟨a4, c4, rfl, ho4, ho1, hB4, hb4⟩; have k4 := (k2.alloc (.cells #[.bool false, .slice none 0 0, .int .i64 0] 27)).below (below_drewN (n := 1) hb4) (by have := k2.lt; simp; omega); have j4 := (Cel.new w2 (.bool false) (.slice none 0 0) (.int .i64 0)).below (below_drewN (n := 1) hb4) (by simp); have n4 : w4.heap.size ≠ w1.heap.size := (by have := k4.lt; omega); obtain ⟨_, _, _, _, _, _⟩ := k4.facts; obtain ⟨_, _, _, _, _, _⟩ := j4.facts)
      | (go_at_call 21; refine (HAd.out _ _ _ _ _ _ _ hB4 ho1 ho4).mono ?_; rintro en w5 ⟨a5, c5, rfl, ho5, hB5, hb5⟩; have j5 := j4.below hb5 j4.lt; have k5 := k4.below hb5 k4.lt; have n5 : w5.heap.size ≠ w1.heap.size := (by have := k5.lt; omega); obtain ⟨_, _, _, _, _, _⟩ := k5.facts; obtain ⟨_, _, _, _, _, _⟩ := j5.facts)
      | (go_at_call 21; refine (HAd.out _ _ _ _ _ _ _ hB4 ho1 ho4).mono ?_; rintro en w5 ⟨a5, c5, rfl, ho5, hB5, hb5⟩; have k5 := k4.below hb5 k4.lt; have n5 : w5.heap.size ≠ w1.heap.size := (by have := k5.lt; omega); obtain ⟨_, _, _, _, _, _⟩ := k5.facts)
      | (go_at_call 21; refine (HAd.out _ _ _ _ _ _ _ (hB4.alloc hB4.size _) (ho1.grow ((Below.refl _ _).alloc (Nat.le_refl _) _)) (ho4.grow ((Below.refl _ _).alloc (Nat.le_refl _) _))).mono ?_; rintro en w5 ⟨a5, c5, rfl, ho5, hB5, hb5⟩; have k5 := (k4.alloc (.cells #[.bool false, .slice none 0 0, .int .i64 0] 27)).below hb5 (by have := k4.lt; simp; omega); have j5 := (Cel.new w4 (.bool false) (.slice none 0 0) (.int .i64 0)).below hb5 (by simp); have n5 : w5.heap.size ≠ w1.heap.size := (by have := k5.lt; omega); obtain ⟨_, _, _, _, _, _⟩ := k5.facts; obtain ⟨_, _, _, _, _, _⟩ := j5.facts))
  all_goals
    (first
      | ((obtain ⟨w6, h6⟩ : ∃ W, W = (((w5.setCell ⟨w4.heap.size, 0, none⟩ (.bool false)).setCell ⟨w4.heap.size, 1, none⟩ (.slice a5 1 c5)).setCell ⟨w4.heap.size, 2, none⟩ (.int .i64 (-2))) := ⟨_, rfl⟩; have pinEq := h6; (try simp only [wr3] at pinEq); rw [← pinEq]; clear pinEq); have K6 := cel_wr_same h6 j5; have HO6 := own_wr h6 (ho5.mono (b := w4.heap.size + 1) (by simp)) (by omega); have HB6 := below_wr h6 hB5 hB4.size)
      | ((obtain ⟨w6, h6⟩ : ∃ W, W = (((w5.setCell ⟨w2.heap.size, 0, none⟩ (.bool false)).setCell ⟨w2.heap.size, 1, none⟩ (.slice a5 1 c5)).setCell ⟨w2.heap.size, 2, none⟩ (.int .i64 (-2))) := ⟨_, rfl⟩; have pinEq := h6; (try simp only [wr3] at pinEq); rw [← pinEq]; clear pinEq); have K6 := cel_wr_same h6 j5; have HO6 := own_wr h6 (ho5.mono (b := w2.heap.size + 1) (by have := j4.lt; omega)) (by omega); have HB6 := below_wr h6 hB5 HB2.out.size)
      | ((obtain ⟨w6, h6⟩ : ∃ W, W = (w5.alloc (.cells #[.bool false, .slice a5 1 c5, .int .i64 (-2)] 27)) := ⟨_, rfl⟩; have pinEq := h6; (try simp only [wr3] at pinEq); rw [← pinEq]; clear pinEq); obtain ⟨K6, z6, _⟩ := new_cel h6 rfl; have HO6 := ho5.grow z6; have HB6 := hB5.trans (z6.mono hB5.size)))
    clear h6
    rcases HO6 with ⟨_, _, h19⟩ | ⟨g5, t5, rfl, hg5, hl5, hc5, hK5⟩
    · exact absurd h19 (by simp)
    clear hg5 hl5 hc5 ho5 hB5 hb5 k5 n5 k4 n4 hb4 hB4 ho1 ho4 n2 k2
    go_wp2_with fail
    refine (inf_any _).mono ?_; rintro en w7 ⟨rfl, rfl⟩
    go_wp2_with fail
    refine (HO2.out _ HB6).mono ?_; rintro en w7 ⟨v0, a7, c7, v2, rfl, hb7⟩
    have hB7 := HB6.trans (hb7.mono HB6.size)
    go_wp2_with fail
    (obtain ⟨w8, h8⟩ : ∃ W, W = (w7.alloc (.cells #[.bool v0, .slice a7 0 c7, .int .i64 v2] 27)) := ⟨_, rfl⟩; have pinEq := h8; (try simp only [wr3] at pinEq); rw [← pinEq]; clear pinEq)
    (obtain ⟨w9, h9⟩ : ∃ W, W = (w8.alloc (.cells #[.int .u32 1, .int .u32 2097152] 64)) := ⟨_, rfl⟩; have pinEq := h9; (try simp only [wr3] at pinEq); rw [← pinEq]; clear pinEq)
    (obtain ⟨w10, h10⟩ : ∃ W, W = (w9.alloc (.cells #[.bool false, .slice (some ⟨w7.heap.size + 1, 0, none⟩) 2 2, .int .i64 0] 27)) := ⟨_, rfl⟩; have pinEq := h10; (try simp only [wr3] at pinEq); rw [← pinEq]; clear pinEq)
    obtain ⟨_, b8, s8⟩ := new_cel h8 rfl
    obtain ⟨q9, b9, s9⟩ := new_of h9 s8
    obtain ⟨K10, b10, s10⟩ := new_cel h10 s9
    have hk9 : Blk w9 64 (w7.heap.size + 1) [1, 2097152] := q9
    have hk10 := hk9.below b10 (by omega)
    have bb10 : Below w7.heap.size w7 w10 := (b8.trans (b9.mono (by omega))).trans (b10.mono (by omega))
    have hB10 := hB7.trans (bb10.mono hB7.size)
    have HB10 := Lib.hid hB10; have HK10 := Lib.hid hk10; have HB7 := Lib.hid hb7; have HBB := Lib.hid bb10
    clear h8 h9 h10 b8 b9 b10 q9 hk9 hk10 hB10 bb10 hb7 hB7
    have Z6 := HB6.size
    have HS10 := Lib.hid s10; clear s8 s9 s10
    refine (HR1.out w10 _ HB10.out HK10.out).mono ?_; rintro en w11 ⟨rfl, hb11⟩
    have K11 := K10.below hb11 K10.lt
    obtain ⟨_, _, _, _, _, _⟩ := K11.facts
    have hB11 := HB10.out.trans (hb11.mono HB10.out.size)
    have hk11 := HK10.out.grow hb11
    have HB11 := Lib.hid hB11; have HK11 := Lib.hid hk11; have Hb11 := Lib.hid hb11; clear hB11 hk11 hb11
    go_wp2_with fail
    refine (HR2.out w11 _ HB11.out HK11.out).mono ?_; rintro en w12 ⟨rfl, hb12⟩
    have hB12 := HB11.out.trans (hb12.mono HB11.out.size)
    have HB12 := Lib.hid hB12; have Hb12 := Lib.hid hb12; clear hB12 hb12
    go_wp2_with fail
    (obtain ⟨w13, h13⟩ : ∃ W, W = (w12.alloc (.cells #[.int .u32 1] 64)) := ⟨_, rfl⟩; have pinEq := h13; (try simp only [wr3] at pinEq); rw [← pinEq]; clear pinEq)
    obtain ⟨q13, b13, s13⟩ := new_of h13 rfl
    have hk13 : Blk w13 64 w12.heap.size [1] := q13
    refine (HR3.out w13 _ (HB12.out.trans (b13.mono HB12.out.size)) hk13).mono ?_; rintro en w14 ⟨rfl, hb14⟩
    have hbb : Below w6.heap.size w6 w14 := by
      have z7 := HB7.out.size
      have z10 := HBB.out.size
      have z11 := Hb11.out.size
      have z12 := Hb12.out.size
      exact ((((HB7.out.trans (HBB.out.mono z7)).trans (Hb11.out.mono (by omega))).trans (Hb12.out.mono (by omega))).trans (b13.mono (by omega))).trans (hb14.mono (by omega))
    have hBE := HB6.trans (hbb.mono Z6)
    have KE := K6.below hbb K6.lt
    have cE := (hK5.grow hbb).cell (i := 0) (x := 19) (by simp)
    have HBE := Lib.hid hBE
    clear h13 q13 b13 s13 hk13 hb14 hBE hbb K6 hK5 K11 K10
    obtain ⟨_, _, _, _, _, _⟩ := KE.facts
    have hx := ext_bits64 9223372036854775808
    have hf1 := eq64a
    have hf2 := eq64b
    rw [show ((9223372036854775808 : Nat) : Int) = 9223372036854775808 from rfl] at hx
    go_wp2_with fail
    go_ret
    exact ⟨rfl, HBE.out⟩
end Go.Proofs.YtmokomfneikipaaDoor
