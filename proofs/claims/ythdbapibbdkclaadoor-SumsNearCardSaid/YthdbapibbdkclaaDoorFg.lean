/- Contracts: math.Ldexp at 1, 100; steelyardlaw10.live. No statement of the seat is proved here. -/
import Derived.Test.YthdbapibbdkclaaDoorProg
import Derived.Test.YthdbapibbdkclaaDoorFf
import Derived.Test.YthdbapibbdkclaaDoorMP
namespace Go.Proofs.YthdbapibbdkclaaDoor
open Go.RowKit
set_option linter.unusedVariables false
set_option linter.unusedSimpArgs false

set_option maxRecDepth 10000 in
set_option maxHeartbeats 4000000 in
theorem ldexp100 (W : World) : Calls Tryd.prog 115 #[.float .f64 4607182418800017408, .int .i64 100] W fun en w' => en = .returned (.float .f64 5057542381537067008) ∧ W = w' := by
  have q1 : ∀ W, (binOp .eql 36 (.float .f64 4607182418800017408) (.float .f64 0)).run Tryd.prog W = .ok (.bool false) W := fun _ => by kernel_rfl
  have q2 : ∀ W, (binOp .mul 36 (.float .f64 4607182418800017408) (.float .f64 5057542381537067008)).run Tryd.prog W = .ok (.float .f64 5057542381537067008) W := fun _ => by kernel_rfl
  have h1 := ext_bits64 4607182418800017408
  have h2 := ext_from64 5057542381537067008
  rw [show ((4607182418800017408 : Nat) : Int) = 4607182418800017408 from rfl] at h1
  rw [show ((5057542381537067008 : Nat) : Int) = 5057542381537067008 from rfl] at h2
  have b1 : bits .and .i64 1023 2047 = 1023 := by kernel_rfl
  have b2 : bits .andNot .u64 4607182418800017408 9218868437227405312 = 0 := by kernel_rfl
  have b3 : bits .or .u64 0 5057542381537067008 = 5057542381537067008 := by kernel_rfl
  go_enter Tryd.func115, Tryd.ntmps115
  go_wp2_with fail
  refine (fl_isinf _).mono ?_; rintro en w' ⟨rfl, rfl⟩
  go_wp2_with fail
  refine (fl_isnan _).mono ?_; rintro en w' ⟨rfl, rfl⟩
  go_wp2_with fail
  refine (fl_norm _).mono ?_; rintro en w' ⟨rfl, rfl⟩
  go_wp2_with fail
  go_ret
  exact ⟨rfl, rfl⟩
set_option maxRecDepth 10000 in
set_option maxHeartbeats 2000000 in
theorem Ldexp100 (W : World) : Calls Tryd.prog 57 #[.float .f64 4607182418800017408, .int .i64 100] W fun en w' => en = .returned (.float .f64 5057542381537067008) ∧ W = w' := by
  go_enter Tryd.func57, Tryd.ntmps57
  go_wp2_with fail
  refine (ldexp100 _).mono ?_; rintro en w' ⟨rfl, rfl⟩
  go_wp2_with fail
  go_ret
  exact ⟨rfl, rfl⟩

/-- numbers in a block -/
theorem fsl_of {w : World} {g c : Nat} {l : List Nat} {T : TypeId} (h : w.heap[g]? = some (.cells (l.map fun x => Value.float .f64 x).toArray T (0, 0))) (hw : W64L l) (hc : l.length ≤ c) : FSl w (some ⟨g, 0, none⟩) c l :=
  ⟨fun i x hx => ⟨g, 0, rfl, by rw [Nat.zero_add, cell_of_row w g i _ _ _ h]; simp [hx]⟩, hw, hc, fun h => by cases h⟩
theorem pt_b100 : ptOf 5057542381537067008 = ⟨false, 2, 48, 4503599627370496⟩ := by rfl
theorem pt_nb100 : ptOf 14280914418391842816 = ⟨true, 2, 48, 4503599627370496⟩ := by rfl
theorem numT_b100 : (numT 5057542381537067008).T + (numT 14280914418391842816).T = 0 := by
  unfold numT
  rw [pt_b100, pt_nb100]
  unfold mkT sgn
  simp only [Bool.false_eq_true, if_false, if_true, show ((2 : Int) = 4) = False by simp, show ((2 : Int) = 3) = False by simp, show ((2 : Int) = 0) = False by simp]
  generalize (4503599627370496 * 2 ^ ((48 : Int) + 2148).toNat : Nat) = M
  omega
theorem of_two : ofF 4611686018427387904 = formF false 4503599627370496 (-51) := by kernel_rfl
theorem exO_two : exO ((numT 4607182418800017408).T + (numT 4607182418800017408).T) = ofF 4611686018427387904 ∧ (numT 4607182418800017408).T + (numT 4607182418800017408).T ≠ 0 := by
  rw [of_two]
  unfold numT
  rw [pt_one]
  obtain ⟨k, hk⟩ : ∃ k, k = ((-52 : Int) + 2148).toNat := ⟨_, rfl⟩
  have hk2 : (k : Int) = 2096 := by omega
  have hp := Nat.two_pow_pos k
  unfold mkT sgn
  simp only [← hk, Bool.false_eq_true, if_false, show ((2 : Int) = 4) = False by simp, show ((2 : Int) = 3) = False by simp, show ((2 : Int) = 0) = False by simp]
  clear hk
  have e1 : ((4503599627370496 * 2 ^ k : Nat) : Int) + ((4503599627370496 * 2 ^ k : Nat) : Int) = ((2 ^ (k + 1) * 4503599627370496 : Nat) : Int) := by
    rw [Nat.pow_succ]; generalize 2 ^ k = P; omega
  rw [e1]
  constructor
  · unfold exO
    rw [decide_eq_false (by omega), Int.natAbs_natCast, formF_scale]
    congr 1; omega
  · have := Nat.two_pow_pos (k + 1)
    generalize 2 ^ (k + 1) = P at *
    omega
theorem run_two (l : List Nat) (hl : l = [4607182418800017408, 5057542381537067008, 4607182418800017408, 14280914418391842816]) {r : Nat} {er : Int} (h : ExR l 0 0 0 r er) : er = 0 ∧ ∀ W, (binOp .eql 36 (.float .f64 r) (.float .f64 4611686018427387904)).run Tryd.prog W = .ok (.bool true) W := by
  have hnb : ¬ badM 0 0 0 := by
    rintro (h | h | h)
    · omega
    · omega
    · revert h; decide
  have h2 : RoundR (sumL l) 0 0 0 r er := by
    rcases h with ⟨h1, _⟩ | ⟨_, h1, _⟩ | ⟨_, _, h1⟩
    · exact absurd h1 hnb
    · rw [hl] at h1; simp at h1
    · exact h1
  obtain ⟨c1, c2, c3, c4, c5⟩ := numT_counts (b := 5057542381537067008) (by rw [pt_b100])
  obtain ⟨f1, f2, f3, f4, f5⟩ := numT_counts (b := 4607182418800017408) (by rw [pt_one])
  obtain ⟨g1, g2, g3, g4, g5⟩ := numT_counts (b := 14280914418391842816) (by rw [pt_nb100])
  have hA : sumL l = (((Ac.zero.sum (numT 4607182418800017408)).sum (numT 5057542381537067008)).sum (numT 4607182418800017408)).sum (numT 14280914418391842816) := by rw [hl]; rfl
  obtain ⟨A, hA2⟩ : ∃ A, A = sumL l := ⟨_, rfl⟩
  rw [← hA2] at h2 hA
  have hT3 : A.T = (numT 4607182418800017408).T + (numT 4607182418800017408).T := by
    rw [hA]
    show 0 + _ + _ + _ + _ = _
    have := numT_b100
    omega
  have n3 : A.nan = 0 := by rw [hA]; show 0 + _ + _ + _ + _ = _; rw [c1, f1, g1]; rfl
  have u3 : A.up = 0 := by rw [hA]; show 0 + _ + _ + _ + _ = _; rw [c2, f2, g2]; rfl
  have d3 : A.down = 0 := by rw [hA]; show 0 + _ + _ + _ + _ = _; rw [c3, f3, g3]; rfl
  have hsp : specR A 0 0 0 = (0, false, 0) := by
    unfold specR verd
    rw [if_neg (by omega), if_neg (by omega), if_neg (by omega), if_pos rfl, if_neg (by omega), if_neg (by omega), if_neg (by omega)]
    exact if_neg (by rw [hT3]; exact exO_two.2)
  unfold RoundR at h2
  rw [hsp, hT3, exO_two.1] at h2
  rcases h2 with ⟨h1, _⟩ | ⟨_, _, h1⟩
  · rcases h1 with h1 | h1
    · cases h1
    · exact absurd rfl h1
  · obtain ⟨q, hq⟩ := formF_small (s := false) (f := 4503599627370496) (e := -51) (by decide) (by decide) (by decide)
    rw [← of_two] at hq
    rw [hq] at h1
    obtain ⟨h2, h3, h4, h5⟩ := r64_own (by decide) (by decide) (by decide) hq h1
    exact ⟨h2, fun W => run_eql64 W h4 (by decide) h5 (by decide) h3⟩
theorem runC_live : runC [4607182418800017408, 5057542381537067008, 4607182418800017408, 14280914418391842816] = 0 := by kernel_rfl
theorem neuC_live : neuC [4607182418800017408, 5057542381537067008, 4607182418800017408, 14280914418391842816] = 4611686018427387904 := by kernel_rfl
theorem runC_live2 : runC [4607182418800017408, 4611686018427387904] = 4613937818241073152 := by kernel_rfl
theorem w64_live : W64L [4607182418800017408, 5057542381537067008, 4607182418800017408, 14280914418391842816] := fun x hx => by
  simp only [List.mem_cons, List.not_mem_nil, or_false] at hx
  rcases hx with rfl | rfl | rfl | rfl <;> decide
theorem w64_live2 : W64L [4607182418800017408, 4611686018427387904] := fun x hx => by
  simp only [List.mem_cons, List.not_mem_nil, or_false] at hx
  rcases hx with rfl | rfl <;> decide

set_option maxRecDepth 10000 in
set_option maxHeartbeats 8000000 in
theorem live10_any (w : World) (hT : Tab w) : Calls Tryd.prog 39 #[] w fun en w' => en = .returned (.bool true) ∧ Below w.heap.size w w' := by
  obtain ⟨l, hl⟩ : ∃ l : List Nat, l = [4607182418800017408, 5057542381537067008, 4607182418800017408, 14280914418391842816] := ⟨_, rfl⟩
  have hlen : l.length = 4 := by rw [hl]; rfl
  have hw : W64L l := by rw [hl]; exact w64_live
  have hng : ∀ W, (Op.unary .neg (.float .f64 5057542381537067008)).run Tryd.prog W = .ok (.float .f64 14280914418391842816) W := fun W => run_neg64 (by decide) W
  obtain ⟨w1, e1⟩ : ∃ W, W = w.alloc (.cells #[.float .f64 4607182418800017408, .float .f64 5057542381537067008, .float .f64 4607182418800017408, .float .f64 14280914418391842816] 36) := ⟨_, rfl⟩
  obtain ⟨k1, b1, s1⟩ := new_of e1 rfl
  have hF : FSl w1 (some ⟨w.heap.size, 0, none⟩) 4 l := fsl_of (by rw [hl]; exact k1) hw (by omega)
  have H1 := Lib.hid (fun W (hb : Below w1.heap.size w1 W) => sexact_any (some ⟨w.heap.size, 0, none⟩) 4 l 0 0 0 W (hF.grow hb) (hT.grow (b1.trans (hb.mono b1.size))))
  have H2 := Lib.hid (fun W (hb : Below w1.heap.size w1 W) => running_any (some ⟨w.heap.size, 0, none⟩) 4 l W (hF.grow hb) (by omega))
  have H3 := Lib.hid (fun W (hb : Below w1.heap.size w1 W) => neumaier_any (some ⟨w.heap.size, 0, none⟩) 4 l W (hF.grow hb) (by omega))
  have HX := Lib.hid (fun r er (h : ExR l 0 0 0 r er) => run_two l hl h)
  rw [hlen] at H1 H2 H3
  rw [show runC l = 0 by rw [hl]; exact runC_live] at H2
  rw [show neuC l = 4611686018427387904 by rw [hl]; exact neuC_live] at H3
  have H4 : Hid (∀ W, Calls Tryd.prog 43 #[.slice (some ⟨W.heap.size, 0, none⟩) 2 2] (W.alloc (.cells #[.float .f64 4607182418800017408, .float .f64 4611686018427387904] 36)) fun en w' => en = .returned (.float .f64 4613937818241073152) ∧ Below W.heap.size W w') := by
    intro W
    obtain ⟨k2, b2, s2⟩ := new_of (w := W) (W := W.alloc (.cells #[.float .f64 4607182418800017408, .float .f64 4611686018427387904] 36)) rfl rfl
    have := running_any (some ⟨W.heap.size, 0, none⟩) 2 [4607182418800017408, 4611686018427387904] _ (fsl_of k2 w64_live2 (by decide)) (by decide)
    rw [runC_live2] at this
    refine this.mono ?_
    rintro en w' ⟨rfl, hb⟩
    exact ⟨rfl, b2.trans (hb.mono b2.size)⟩
  have q0 : ∀ W, (binOp .eql 36 (.float .f64 0) (.float .f64 0)).run Tryd.prog W = .ok (.bool true) W := fun _ => by kernel_rfl
  have q2 : ∀ W, (binOp .eql 36 (.float .f64 4611686018427387904) (.float .f64 4611686018427387904)).run Tryd.prog W = .ok (.bool true) W := fun _ => by kernel_rfl
  have q3 : ∀ W, (binOp .eql 36 (.float .f64 4613937818241073152) (.float .f64 4613937818241073152)).run Tryd.prog W = .ok (.bool true) W := fun _ => by kernel_rfl
  have HB1 := Lib.hid b1
  have E1 := Lib.hid e1
  unfold pol at H1
  clear hl hlen hw k1 b1 s1 hF e1 hT
  go_enter Tryd.func39, Tryd.ntmps39
  go_wp2_with fail
  refine (Ldexp100 _).mono ?_; rintro en w' ⟨rfl, rfl⟩
  go_wp2_with fail
  rw [← E1.out]
  refine (H1.out w1 (Below.refl _ _)).mono ?_; rintro en w2 ⟨r, er, rfl, hR, hb⟩
  obtain ⟨rfl, hq⟩ := HX.out r er hR
  have HB2 := Lib.hid hb
  clear hR hb
  go_wp2_with fail
  refine (H2.out w2 HB2.out).mono ?_; rintro en w3 ⟨rfl, hb⟩
  have HB3 := Lib.hid (HB2.out.trans (hb.mono HB2.out.size))
  clear hb
  go_wp2_with fail
  refine (H3.out w3 HB3.out).mono ?_; rintro en w4 ⟨rfl, hb⟩
  have HB4 := Lib.hid (HB3.out.trans (hb.mono HB3.out.size))
  clear hb
  go_wp2_with fail
  refine (H4.out w4).mono ?_; rintro en w5 ⟨rfl, hb⟩
  have HB5 := Lib.hid (HB1.out.trans ((HB4.out.trans (hb.mono HB4.out.size)).mono HB1.out.size))
  clear hb
  go_wp2_with fail
  go_ret
  exact ⟨rfl, HB5.out⟩
set_option maxRecDepth 10000 in
set_option maxHeartbeats 1000000 in
theorem exact10_law (a b : Nat) (w : World) :
    Calls Tryd.prog 42 #[.float .f64 a, .float .f64 b] w fun en w' => en = .returned (.bool (decide (a = b))) ∧ w = w' := by
  have h1 := ext_bits64 a
  have h2 := ext_bits64 b
  have h3 : ((a : Int) == (b : Int)) = decide (a = b) := by
    by_cases h : a = b
    · simp [h]
    · simp [h]; omega
  go_enter Tryd.func42, Tryd.ntmps42
  go_wp2
  go_ret
  exact ⟨rfl, rfl⟩
end Go.Proofs.YthdbapibbdkclaaDoor
