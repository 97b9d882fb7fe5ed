/- Contract of dyad.Of. No statement of the seat is proved here. -/
import Derived.Test.YtmokomfneikipaaDoorProg
import Derived.Test.YtmokomfneikipaaDoorDr
namespace Go.Proofs.YtmokomfneikipaaDoor
open Go.RowKit
set_option linter.unusedVariables false
set_option linter.unusedSimpArgs false

theorem partsV_of (b : Nat) (hb : b < 18446744073709551616) : ∃ (s : Bool) (c e : Int) (f : Nat), partsV b = .agg #[.bool s, .int .i64 c, .int .i64 e, .int .u64 f] ∧ -1074 ≤ e ∧ e ≤ 2000 ∧ f < 9007199254740992 ∧
    ((c = 3 ∨ c = 4) ∧ ofF b = none ∨ (c = 0 ∧ f = 0) ∧ ofF b = some D.zero ∨ (c = 1 ∨ c = 2) ∧ ofF b = formF s f e) := by
  have hx1 : (b % 9223372036854775808) / 2 ^ 52 = b / 4503599627370496 % 2048 := by omega
  have hx2 : (b % 9223372036854775808) % 2 ^ 52 = b % 4503599627370496 := by omega
  have hsg : (b / 9223372036854775808 % 2 == 1) = decide (9223372036854775808 ≤ b) := by
    by_cases h : 9223372036854775808 ≤ b
    · have : b / 9223372036854775808 % 2 = 1 := by omega
      simp [h, this]
    · have : b / 9223372036854775808 % 2 = 0 := by omega
      simp [h, this]
  have hle : 9218868437227405312 ≤ b % 9223372036854775808 ↔ b / 4503599627370496 % 2048 = 2047 := by omega
  unfold partsV ofF bitsF numM numE
  rw [hx1, hx2, hsg]
  simp only [hle]
  clear hx1 hx2 hsg hle
  have h1 : b / 4503599627370496 % 2048 ≤ 2047 := by omega
  have h2 : b % 4503599627370496 < 4503599627370496 := by omega
  generalize b / 4503599627370496 % 2048 = ex at *
  generalize b % 4503599627370496 = fr at *
  generalize decide (9223372036854775808 ≤ b) = sg at *
  by_cases x1 : ex = 2047
  · rw [if_pos x1, if_pos x1]
    by_cases x2 : fr ≠ 0
    · rw [if_pos x2]; exact ⟨_, _, _, 0, rfl, by decide, by decide, by decide, .inl ⟨.inr rfl, rfl⟩⟩
    · rw [if_neg x2]; exact ⟨_, _, _, 0, rfl, by decide, by decide, by decide, .inl ⟨.inl rfl, rfl⟩⟩
  · rw [if_neg x1, if_neg x1]
    by_cases x2 : 0 < ex
    · rw [if_pos x2]
      refine ⟨_, _, _, _, rfl, by omega, by omega, by omega, .inr (.inr ⟨.inr rfl, ?_⟩)⟩
      rw [if_neg (by omega), show (2 : Nat) ^ 52 + fr = fr + 4503599627370496 by omega, show (-1074 : Int) + ((ex - 1 : Nat) : Int) = -1074 + (ex : Int) - 1 by omega]
    · rw [if_neg x2, if_pos (show ex = 0 by omega)]
      by_cases x3 : 0 < fr
      · rw [if_pos x3]
        refine ⟨_, _, _, _, rfl, by decide, by decide, by omega, .inr (.inr ⟨.inl rfl, ?_⟩)⟩
        rw [show ((ex - 1 : Nat) : Int) = 0 by omega]; rfl
      · rw [if_neg x3]
        refine ⟨_, _, _, 0, rfl, by decide, by decide, by decide, .inr (.inl ⟨⟨rfl, rfl⟩, ?_⟩)⟩
        rw [show fr = 0 by omega]; rfl

theorem formF_small {s : Bool} {f : Nat} {e : Int} (hf : f < 9007199254740992) (he1 : -1074 ≤ e) (he2 : e ≤ 2000) : ∃ d, formF s f e = some d := by
  unfold formF
  by_cases h0 : f = 0
  · rw [if_pos h0]; exact ⟨_, rfl⟩
  · rw [if_neg h0]
    have h1 := low_lt_bitLen h0
    have h2 : bitLen f ≤ 53 := bitLen_lt (show f < 2 ^ 53 by omega)
    have h3 : (words (f / 2 ^ low f)).length ≤ 2 := words_len_le (by
      have := Nat.div_le_self f (2 ^ low f)
      omega)
    rw [if_neg (by omega)]; exact ⟨_, rfl⟩

set_option maxRecDepth 10000 in
set_option maxHeartbeats 2000000 in
theorem dof_any (b : Nat) (w : World) (hb : b < 18446744073709551616) (hT : Tab w) :
    Calls Tryd.prog 11 #[.float .f64 b] w fun en w' => CameOf w w' (ofF b) en := by
  have hS := fun W => split_any b W hb
  obtain ⟨s, c, e, f, hv, he1, he2, hf, hc⟩ := partsV_of b hb
  rw [hv] at hS
  clear hv
  have HS := Lib.hid hS; clear hS
  have hW := fun W => wof_any f W (by omega)
  have hFm := fun W (hw : Below w.heap.size w W) a cc base (ho : Own W 64 base a cc (words f)) => dform_any s a cc (words f) e W (by have := words_len_le (n := f) (k := 2) (by omega); omega) (W32_words _) ho.rd (by omega) (by omega) (hT.grow hw)
  rw [num_words] at hFm
  generalize ofF b = o at *
  have HW := Lib.hid hW; have HFm := Lib.hid hFm; clear hW hFm hT
  have HC := Lib.hid hc; clear hc
  go_enter Tryd.func11, Tryd.ntmps11
  go_wp2_with fail
  (obtain ⟨w1, h1⟩ : ∃ W, W = (w.alloc (.cells #[.bool false, .slice none 0 0, .int .i64 0] 27)) := ⟨_, rfl⟩; have pinEq := h1; (try simp only [wr3] at pinEq); rw [← pinEq]; clear pinEq)
  obtain ⟨k1, hB, s1⟩ := new_cel h1 rfl
  clear h1
  refine (HS.out w1).mono ?_; rintro en w2 ⟨rfl, hb2⟩
  have s2 := hb2.size
  have b2' : Below w.heap.size w w2 := hB.trans (hb2.mono (by omega))
  have k2 := k1.below hb2 (by omega)
  have A1 := k2.alloc (.cells #[.bool s, .int .i64 c, .int .i64 e, .int .u64 f] 67)
  have A2 := A1.alloc (.cells #[.bool false, .int .i64 0, .int .i64 e, .int .u64 0] 67)
  have A3 := A2.alloc (.cells #[.bool true, .int .i64 0, .int .i64 e, .int .u64 0] 67)
  have B1 := (Below.refl w2.heap.size w2).alloc (Nat.le_refl _) (.cells #[.bool s, .int .i64 c, .int .i64 e, .int .u64 f] 67)
  have P1 := heap_alloc_new w2 (.cells #[.bool s, .int .i64 c, .int .i64 e, .int .u64 f] 67)
  have B2 := (Below.refl (w2.heap.size + 1) (w2.alloc (.cells #[.bool s, .int .i64 c, .int .i64 e, .int .u64 f] 67))).alloc (by rw [World.size_alloc]; omega) (.cells #[.bool false, .int .i64 0, .int .i64 e, .int .u64 0] 67)
  have B3 := B2.alloc (by rw [World.size_alloc, World.size_alloc]; omega) (.cells #[.bool true, .int .i64 0, .int .i64 e, .int .u64 0] 67)
  have P3 := (B3.block w2.heap.size (by omega)).trans P1
  have BW := (b2'.trans (B1.mono (by omega))).trans (B3.mono (by omega))
  have HP3 := Lib.hid P3; have HA3 := Lib.hid A3; have HBW := Lib.hid BW
  have s3 : (((w2.alloc (.cells #[.bool s, .int .i64 c, .int .i64 e, .int .u64 f] 67)).alloc (.cells #[.bool false, .int .i64 0, .int .i64 e, .int .u64 0] 67)).alloc (.cells #[.bool true, .int .i64 0, .int .i64 e, .int .u64 0] 67)).heap.size = w2.heap.size + 3 := by rw [World.size_alloc, World.size_alloc, World.size_alloc]
  have HS3 := Lib.hid s3
  obtain ⟨c0, cc1, c2, z0, z1, z2⟩ := A3.facts
  clear A1 A2 A3 B1 B2 B3 P1 P3 BW s3 hb2 b2' k1 k2
  rcases HC.out with ⟨hc, ho⟩ | ⟨hc, ho⟩ | ⟨hc, ho⟩
  · have HO := Lib.hid ho; clear ho HC
    rcases hc with rfl | rfl
    all_goals
      go_wp2_with fail
      refine bodyPost_ret (v := .tuple #[dyV D.zero none 0, .int .i64 30]) (by simp [results, Tryd.results11, go_sem, dyV, D.zero, words_zero, c0, cc1, c2]) rfl ?_
      rw [HO.out]
      exact ⟨_, rfl, ⟨none, 0, rfl, by rw [show (outO none).m = 0 from rfl, words_zero]; exact Own.none _ _ _⟩, below_wr3 (g := w.heap.size) HBW.out (Nat.le_refl _)⟩
  · have HO := Lib.hid ho; clear ho HC
    obtain ⟨rfl, hf0⟩ := hc
    have hf1 : ((f : Int) == 0) = true := by rw [hf0]; rfl
    clear hf0
    cases s
    all_goals
      go_wp2_with fail
      refine bodyPost_ret (v := .tuple #[dyV D.zero none 0, .int .i64 0]) (by simp [results, Tryd.results11, go_sem, dyV, D.zero, words_zero, c0, cc1, c2]) rfl ?_
      rw [HO.out]
      exact ⟨_, rfl, ⟨none, 0, rfl, by rw [show (outO (some D.zero)).m = 0 from rfl, words_zero]; exact Own.none _ _ _⟩, below_wr3 (g := w.heap.size) HBW.out (Nat.le_refl _)⟩
  · have HO := Lib.hid ho; clear ho HC
    have hc3 : (c == 3) = false := by simp; omega
    have hc4 : (c == 4) = false := by simp; omega
    have hc0 : (c == 0) = false := by simp; omega
    clear hc
    obtain ⟨d, hd⟩ := formF_small (s := s) hf he1 he2
    have hFm2 := HFm.out
    rw [hd] at hFm2
    have hod : o = some d := by rw [HO.out, hd]
    have HF2 := Lib.hid hFm2; clear hFm2 HFm hd HO
    subst hod
    go_wp2_with fail
    obtain ⟨w5, h5⟩ : ∃ W, W = ((w2.alloc (.cells #[.bool s, .int .i64 c, .int .i64 e, .int .u64 f] 67)).alloc (.cells #[.bool false, .int .i64 0, .int .i64 e, .int .u64 0] 67)).alloc (.cells #[.bool true, .int .i64 0, .int .i64 e, .int .u64 0] 67) := ⟨_, rfl⟩
    have k5 := HP3.out
    have a5 := HA3.out
    have bw5 := HBW.out
    have s5 := HS3.out
    clear HP3 HA3 HBW HS3
    rw [← h5] at k5 a5 bw5 s5 ⊢
    clear h5 c0 cc1 c2 z0 z1 z2
    obtain ⟨_, _, _, _, _, _⟩ := a5.facts
    obtain ⟨⟨_, _, _, _⟩, _, _, _, _⟩ := cells4 k5
    have n1 : w.heap.size ≠ w2.heap.size := by omega
    have HBW := Lib.hid bw5; have HS5 := Lib.hid s5; have HS2 := Lib.hid s2; clear bw5 s5 s2
    go_region_held3 (fun W => W.cell? ⟨w2.heap.size, 0, none⟩ = some (.bool s) ∧ W.cell? ⟨w2.heap.size, 2, none⟩ = some (.int .i64 e) ∧ W.cell? ⟨w2.heap.size, 3, none⟩ = some (.int .u64 f)) (go_keep) (first
      | (go_at_call 49; refine (HW.out _).mono ?_; rintro en w6 ⟨rfl, ho6, hb6⟩; have k6 := (hb6.block w2.heap.size (by have := HS5.out; simp; omega)).trans k5; have a6 := a5.below (below_drewN (n := 1) hb6) (by have := a5.lt; simpa using this); obtain ⟨⟨_, _, _, _⟩, _, _, _, _⟩ := cells4 k6; obtain ⟨_, _, _, _, _, _⟩ := a6.facts)
      | (go_at_call 48; refine (HF2.out _ (HBW.out.trans ((below_drewN (n := 1) hb6).mono (by have := HBW.out.size; simp; omega))) _ _ _ (Own.of ho6 (Nat.le_refl _))).mono ?_; rintro en w7 ⟨v, rfl, ⟨a7, c7, rfl, ho7⟩, hb7⟩; have k7 := (hb7.block w2.heap.size (by have := HS5.out; have := hb6.size; simp at this; omega)).trans k6; have a7' := a6.below hb7 a6.lt; obtain ⟨⟨_, _, _, _⟩, _, _, _, _⟩ := cells4 k7; obtain ⟨_, _, _, _, _, _⟩ := a7'.facts; simp only [dyV]))
    all_goals
      go_wp2
      obtain ⟨c0, cc1, c2, _, _, _⟩ := a7'.facts
      refine bodyPost_ret (v := .tuple #[dyV (outO (some d)) a7 c7, .int .i64 0]) (by simp [results, Tryd.results11, go_sem, dyV, errO, c0, cc1, c2]) rfl ?_
      have z5 := HBW.out.size
      have z6 := hb6.size
      simp only [World.size_drew] at z6
      exact ⟨_, rfl, ⟨a7, c7, rfl, (own_wr3 (g := w.heap.size) (ho7.mono (b := w6.heap.size) (by omega)) (by have := HS5.out; have := HS2.out; omega)).mono (by omega)⟩, below_wr3 (g := w.heap.size) ((HBW.out.trans ((below_drewN (n := 1) hb6).mono (by simp; omega))).trans (hb7.mono (by omega))) (Nat.le_refl _)⟩
end Go.Proofs.YtmokomfneikipaaDoor
