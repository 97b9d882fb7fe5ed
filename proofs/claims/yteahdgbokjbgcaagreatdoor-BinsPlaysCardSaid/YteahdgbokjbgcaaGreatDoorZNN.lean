/- Contracts of steelyardlaw09.awake, filled, told. Contract of steelyardlaw09.awake: the chapter's first example. No statement of the seat is proved here. -/
import Derived.Test.YteahdgbokjbgcaaGreatDoorProg
import Derived.Test.YteahdgbokjbgcaaGreatDoorZNL
import Derived.Test.YteahdgbokjbgcaaGreatDoorZMP
namespace Go.Proofs.YteahdgbokjbgcaaGreatDoor
open Go.RowKit
set_option maxRecDepth 10000
set_option linter.unusedVariables false
set_option linter.unusedSimpArgs false

end Go.Proofs.YteahdgbokjbgcaaGreatDoor
namespace Go.Proofs.YteahdgbokjbgcaaGreatDoor
open Go.RowKit
set_option maxRecDepth 10000
set_option linter.unusedVariables false
set_option linter.unusedSimpArgs false

theorem badd_ok {A : Bn} {g f b : Nat} (W : World) (hA : A.Ok) (hf : f ≤ 8) (hn : A.n < 1099511627776) (hb : b < 18446744073709551616) (hb2 : ¬ badB b) (hW : BinAt W g f A) :
    Calls Tryz.prog 78 #[.pointer (some ⟨g, 0, none⟩), .float .f64 b] W fun en w' => en = .returned (.int .i64 0) ∧ BinAt w' g f (A.sum (bn1 b)) ∧ W.grownBy w' (some g) := by
  refine (badd_any A g f b W hA hf hb hW).mono ?_
  rintro en w' ⟨h1, h2⟩
  rcases h1 with ⟨h3, _⟩ | ⟨_, h3, _⟩ | ⟨_, _, rfl, h4⟩
  · omega
  · exact absurd h3 hb2
  · exact ⟨rfl, h4, h2⟩
theorem aw_b3a : decide (mB 4751297606876921856 < 4294967296 ^ 36) = true := by kernel_rfl
theorem aw_b3b : decide (4294967296 ^ 35 ≤ mB 4751297606876921856) = true := by kernel_rfl
theorem aw_b1a : decide (mB 4607182418800017408 < 4294967296 ^ 35) = true := by kernel_rfl
theorem aw_b2a : decide (mB 4458563631096791040 < 4294967296 ^ 35) = true := by kernel_rfl
theorem aw_b3c : (bn1 4751297606876921856).K 35 = 1 := by kernel_rfl
theorem aw_z1 : fV 4751297606875873280 * ((2 ^ 14 : Nat) : Int) = ((4294967296 ^ 35 : Nat) : Int) := by kernel_rfl
theorem aw_z2 : fV 4758053006316929024 * ((2 ^ (300 + 34) : Nat) : Int) = ((3 * 4294967296 ^ 45 : Nat) : Int) := by kernel_rfl
/-- what the three numbers come to -/
structure AwA (A : Bn) : Prop where
  ok : A.Ok
  n : A.n = 3
  len : A.len = 36
  kS : A.kS 1 = ((4294967296 ^ 35 : Nat) : Int)
theorem aw_A : AwA (((Bn.zero.sum (bn1 4607182418800017408)).sum (bn1 4458563631096791040)).sum (bn1 4751297606876921856)) := by
  have hl3 : (words (mB 4751297606876921856)).length = 36 := by
    have h1 := words_len_le (of_decide_eq_true aw_b3a)
    have h2 := words_len_gt (of_decide_eq_true aw_b3b)
    omega
  have hl1 := words_len_le (of_decide_eq_true aw_b1a)
  have hl2 := words_len_le (of_decide_eq_true aw_b2a)
  have hlen : (((Bn.zero.sum (bn1 4607182418800017408)).sum (bn1 4458563631096791040)).sum (bn1 4751297606876921856)).len = 36 := by
    show max (max (max 0 (words (mB 4607182418800017408)).length) (words (mB 4458563631096791040)).length) (words (mB 4751297606876921856)).length = 36
    omega
  have hK : (((Bn.zero.sum (bn1 4607182418800017408)).sum (bn1 4458563631096791040)).sum (bn1 4751297606876921856)).K 35 = 1 := by
    show 0 + (bn1 4607182418800017408).K 35 + (bn1 4458563631096791040).K 35 + (bn1 4751297606876921856).K 35 = 1
    rw [(bn1_ok 4607182418800017408).hi 35 hl1, (bn1_ok 4458563631096791040).hi 35 hl2, aw_b3c]; rfl
  refine ⟨((Bn.zero_ok.sum (bn1_ok _) (by decide)).sum (bn1_ok _) (by decide)).sum (bn1_ok _) (by decide), rfl, hlen, ?_⟩
  show (0 : Int) + (if 0 < _ then _ else 0) = _
  rw [hlen, if_pos (by decide), show 36 - 1 - 0 = 35 from rfl, hK]
  omega
theorem aw_d : Dy (-1088) 68 ⟨false, 1, 32⟩ ((4294967296 ^ 35 : Nat) : Int) := by
  obtain ⟨j, hj⟩ : ∃ j, j = 35 := ⟨_, rfl⟩
  obtain ⟨i, hi⟩ : ∃ i, i = 68 := ⟨_, rfl⟩
  rw [← hj, ← hi]
  refine ⟨.inr rfl, ⟨by rw [show (⟨false, 1, 32⟩ : D).m = 1 from rfl]; exact Nat.le_trans (words_len_le (k := 1) (n := 1) (by decide)) (by decide), by decide, by decide⟩, by decide, ?_, ?_⟩
  · unfold D.z sgn
    rw [show ((⟨false, 1, 32⟩ : D).exp - -1088).toNat = 32 * j by show ((32 : Int) - -1088).toNat = _; omega, if_neg (by decide), w32_pow]
    show (1 : Int) * _ = _
    rw [Int.one_mul]
  · rw [Int.natAbs_natCast, w32_pow]
    exact Nat.pow_lt_pow_right (by decide) (by omega)
theorem aw_round {A : Bn} (hA : AwA A) {r : Nat} {er : Int} (h : RoundsTo 52 (-1074) 9218868437227405312 9223372036854775808 0 (zO (-1088) (A.kS 1)) r er) : er = 0 ∧ ∀ W, (binOp .eql 30 (.float .f64 r) (.float .f64 4751297606875873280)).run Tryz.prog W = .ok (.bool true) W := by
  obtain ⟨d, hd, hdy⟩ := kS_dy hA.ok 1
  rw [hd] at h
  rw [hA.kS] at hdy
  obtain ⟨j6, hj6⟩ : ∃ j, j = 66 := ⟨_, rfl⟩
  obtain ⟨q, hq, hqd⟩ := Dy.of (v := 4751297606875873280) (by decide) hj6
  have h2 := hqd.lower 14 (K := 67) (by omega)
  rw [aw_z1, show (-1074 : Int) - ((14 : Nat) : Int) = -1088 from rfl] at h2
  obtain rfl := h2.uniq hdy
  obtain ⟨h3, h4, h5, h6⟩ := r64_own (by decide) (by decide) (by decide) hq h
  exact ⟨h3, fun W => run_eql64 W h5 (by decide) h6 (by decide) h4⟩
theorem aw_bound {A : Bn} (hA : AwA A) {r : Nat} (h : BdR A 1 r) : ∀ W, (binOp .eql 30 (.float .f64 r) (.float .f64 4758053006316929024)).run Tryz.prog W = .ok (.bool true) W := by
  rcases h with ⟨h1, _⟩ | ⟨_, d, er, h1, h2⟩
  · have := hA.len; omega
  rw [hA.n, hA.len, show 36 + 10 - 1 = 45 from rfl] at h1
  obtain ⟨j6, hj6⟩ : ∃ j, j = 66 := ⟨_, rfl⟩
  obtain ⟨q, hq, hqd⟩ := Dy.of (v := 4758053006316929024) (by decide) hj6
  have h3 := hqd.lower (300 + 34) (K := 100) (by omega)
  rw [aw_z2, show (-1074 : Int) - ((300 + 34 : Nat) : Int) = -1408 from rfl] at h3
  obtain rfl := h3.uniq h1
  obtain ⟨h4, h5, h6, h7⟩ := r64_own (by decide) (by decide) (by decide) hq h2
  exact fun W => run_eql64 W h6 (by decide) h7 (by decide) h5
set_option maxHeartbeats 8000000 in
theorem awake09_any (w : World) (hT : Tab w) : Calls Tryz.prog 15 #[] w fun en w' => en = .returned (.bool true) ∧ Below w.heap.size w w' := by
  obtain ⟨A, hAe⟩ : ∃ A, A = ((Bn.zero.sum (bn1 4607182418800017408)).sum (bn1 4458563631096791040)).sum (bn1 4751297606876921856) := ⟨_, rfl⟩
  have HA : Hid (AwA A) := by rw [hAe]; exact aw_A
  obtain ⟨d, hd, hdy⟩ := kS_dy HA.out.ok 1
  have hde : d = ⟨false, 1, 32⟩ := by
    have h := hdy
    rw [HA.out.kS] at h
    exact h.uniq aw_d
  have HN := bnew_any 1 w (by decide) (by decide)
  rw [show ((1 : Nat) : Int) = 1 from rfl] at HN
  have HN := Lib.hid HN
  have HT := Lib.hid (fun W (hw : Below w.heap.size w W) => hT.grow hw)
  have H1 := Lib.hid (fun W g (h : BinAt W g 1 Bn.zero) => badd_ok (b := 4607182418800017408) W Bn.zero_ok (by decide) (by decide) (by decide) (by unfold badB; decide) h)
  have H2 := Lib.hid (fun W g (h : BinAt W g 1 (Bn.zero.sum (bn1 4607182418800017408))) => badd_ok (b := 4458563631096791040) W (Bn.zero_ok.sum (bn1_ok _) (by decide)) (by decide) (by decide) (by decide) (by unfold badB; decide) h)
  have H3 : Hid (∀ W g (h : BinAt W g 1 ((Bn.zero.sum (bn1 4607182418800017408)).sum (bn1 4458563631096791040))), Calls Tryz.prog 78 #[.pointer (some ⟨g, 0, none⟩), .float .f64 4751297606876921856] W fun en w' => en = .returned (.int .i64 0) ∧ BinAt w' g 1 A ∧ W.grownBy w' (some g)) := by
    intro W g h
    rw [hAe]
    exact badd_ok (b := 4751297606876921856) W ((Bn.zero_ok.sum (bn1_ok _) (by decide)).sum (bn1_ok _) (by decide)) (by decide) (by decide) (by decide) (by unfold badB; decide) h
  have HK := Lib.hid (fun W g (h : BinAt W g 1 A) (hw : Tab W) => bkept_any A g 1 W HA.out.ok (by decide) (by decide) h hw hd)
  have HRo := Lib.hid (fun W g (h : BinAt W g 1 A) (hw : Tab W) => bround_any A g 1 0 W HA.out.ok (by decide) (by decide) h hw)
  have HBo := Lib.hid (fun W g (h : BinAt W g 1 A) (hw : Tab W) => bbound_any A g 1 W HA.out.ok (by decide) h hw)
  have HCo : Hid (∀ W g (h : BinAt W g 1 A), Calls Tryz.prog 82 #[.pointer (some ⟨g, 0, none⟩)] W fun en w' => en = .returned (.int .i64 3) ∧ W = w') := by
    intro W g h
    have := bcount_any A g 1 W h
    rw [HA.out.n] at this
    exact this
  have HFo : Hid (∀ W g (h : BinAt W g 1 A), Calls Tryz.prog 83 #[.pointer (some ⟨g, 0, none⟩)] W fun en w' => en = .returned (.int .i64 1) ∧ W = w') := fun W g h => bfold_any A g 1 W h
  have hL : (words d.m).length = 1 := by rw [hde]; exact Nat.le_antisymm (words_len_le (by decide)) (words_len_gt (by decide))
  have hE : d.exp = 32 := by rw [hde]
  have HXr := Lib.hid (fun r er (h : RoundsTo 52 (-1074) 9218868437227405312 9223372036854775808 0 (zO (-1088) (A.kS 1)) r er) => aw_round HA.out h)
  have HXb := Lib.hid (fun r (h : BdR A 1 r) => aw_bound HA.out h)
  have HL := Lib.hid hL; have HE := Lib.hid hE
  clear hdy hd hde hT hAe hL hE
  go_enter Tryz.func15, Tryz.ntmps15
  go_wp2_with fail
  refine HN.out.mono ?_; rintro en w1 ⟨rfl, hA, hb⟩
  obtain ⟨g, hg⟩ : ∃ g, g = w.heap.size := ⟨_, rfl⟩
  rw [← hg] at hA ⊢
  have HU : Hid (AlU w w1 g 1 Bn.zero) := ⟨hA, hb⟩
  have HG : Hid (w.heap.size ≤ g) := by rw [hg]; exact Nat.le_refl _
  clear hA hb hg
  go_wp2_with fail
  refine (bnewN_any 9 w1 (.inr (by decide))).mono ?_; rintro en w2 ⟨rfl, rfl⟩
  go_wp2_with fail
  refine (H1.out w1 g HU.out.at').mono ?_; rintro en w2 ⟨rfl, hA, hg⟩
  have HU2 : Hid (AlU w w2 g 1 (Bn.zero.sum (bn1 4607182418800017408))) := ⟨hA, bel_grown HU.out.bel (Nat.le_refl _) hg HG.out⟩
  clear hA hg
  go_wp2_with fail
  refine (H2.out w2 g HU2.out.at').mono ?_; rintro en w3 ⟨rfl, hA, hg⟩
  have HU3 : Hid (AlU w w3 g 1 ((Bn.zero.sum (bn1 4607182418800017408)).sum (bn1 4458563631096791040))) := ⟨hA, bel_grown HU2.out.bel (Nat.le_refl _) hg HG.out⟩
  clear hA hg
  go_wp2_with fail
  refine (H3.out w3 g HU3.out.at').mono ?_; rintro en w4 ⟨rfl, hA, hg⟩
  have HU4 : Hid (AlU w w4 g 1 A) := ⟨hA, bel_grown HU3.out.bel (Nat.le_refl _) hg HG.out⟩
  clear hA hg
  go_wp2_with fail
  refine (HK.out w4 g HU4.out.at' (HT.out w4 HU4.out.bel)).mono ?_; rintro en w5 ⟨a, c, rfl, ho, hb⟩
  have HU5 : Hid (AlU w w5 g 1 A) := ⟨BinC.grow HU4.out.at' hb, HU4.out.bel.trans (hb.mono HU4.out.bel.size)⟩
  clear ho hb
  obtain ⟨w6, e6⟩ : ∃ W, W = w5.alloc (.cells #[.bool d.neg, .slice a (words d.m).length c, .int .i64 d.exp] 46) := ⟨_, rfl⟩
  obtain ⟨k6, c6, s6⟩ := new_cel e6 rfl
  have HU6 : Hid (AlU w w6 g 1 A) := ⟨BinC.grow HU5.out.at' c6, HU5.out.bel.trans (c6.mono HU5.out.bel.size)⟩
  have E6 := Lib.hid e6
  have K6 := Lib.hid k6
  clear e6 k6 c6 s6
  unfold DV
  go_upto_region 9 with fail
  rw [← E6.out]
  obtain ⟨p, hp⟩ : ∃ p, p = w5.heap.size := ⟨_, rfl⟩
  rw [← hp] at K6 ⊢
  clear hp E6
  go_wp2_with fail
  refine (HRo.out w6 g HU6.out.at' (HT.out w6 HU6.out.bel)).mono ?_; rintro en w7 ⟨r, er, rfl, hr, hb⟩
  obtain ⟨rfl, hxr⟩ := HXr.out r er hr
  have HU7 : Hid (AlU w w7 g 1 A) := ⟨BinC.grow HU6.out.at' hb, HU6.out.bel.trans (hb.mono HU6.out.bel.size)⟩
  obtain ⟨c0, c1, c2, _, _, _⟩ := (K6.out.below hb K6.out.lt).facts
  rw [HL.out] at c1
  rw [HE.out] at c2
  clear hr hb
  go_wp2_with fail
  refine (HBo.out w7 g HU7.out.at' (HT.out w7 HU7.out.bel)).mono ?_; rintro en w8 ⟨r2, rfl, hr2, hb⟩
  have hxb := HXb.out r2 hr2
  have HU8 : Hid (AlU w w8 g 1 A) := ⟨BinC.grow HU7.out.at' hb, HU7.out.bel.trans (hb.mono HU7.out.bel.size)⟩
  clear hr2 hb
  go_wp2_with fail
  refine (HCo.out w8 g HU8.out.at').mono ?_; rintro en w9 ⟨rfl, rfl⟩
  go_wp2_with fail
  refine (HFo.out w8 g HU8.out.at').mono ?_; rintro en w9 ⟨rfl, rfl⟩
  go_wp2_with fail
  go_ret
  exact ⟨rfl, HU8.out.bel⟩
end Go.Proofs.YteahdgbokjbgcaaGreatDoor
