/- Contracts of steelyardref03's Form, told, Made, Make and of dyad's Make, both. No statement of the seat is proved here. -/
import Derived.Test.YtmokomfneikipaaDoorProg
import Derived.Test.YtmokomfneikipaaDoorDb
namespace Go.Proofs.YtmokomfneikipaaDoor
open Go.RowKit
set_option linter.unusedVariables false
set_option linter.unusedSimpArgs false

set_option maxRecDepth 10000 in
set_option maxHeartbeats 1000000 in
theorem rform_any (s : Bool) (a : Option Addr) (c : Nat) (l : List Nat) (e : Int) (w : World) (hlen : l.length ≤ 1073741824) (hs : Sl w a c l) (he1 : -9223372036854775808 ≤ e) (he2 : e ≤ 9223372036854775807) :
    Calls Tryd.prog 53 #[.bool s, .slice a l.length c, .int .i64 e] w fun en w' => CameB w w' (formF s (num l) e) en := by
  obtain ⟨n, hn⟩ : ∃ n, n = num l := ⟨_, rfl⟩
  obtain ⟨w0, hw0⟩ : ∃ w0, w0 = w.alloc (.cells #[.bool false, .slice none 0 0, .int .i64 0] 27) := ⟨_, rfl⟩
  have hb0 : Below w.heap.size w w0 := by rw [hw0]; exact (Below.refl _ _).alloc (Nat.le_refl _) _
  have hN := rnorm_any a c l w0 (by omega) (hs.grow hb0)
  have hwl : (words n).length ≤ l.length := by rw [hn]; exact words_num_len hs.w32
  rw [← hn] at hN ⊢
  rw [hw0] at hN
  have HN := Lib.hid hN; clear hN
  clear hn hs
  obtain ⟨o, ho⟩ : ∃ o, o = formF s n e := ⟨_, rfl⟩
  rw [← ho]
  have HO := Lib.hid ho; clear ho
  go_enter Tryd.func53, Tryd.ntmps53
  go_wp2_with fail
  refine HN.out.mono ?_; rintro en w1 ⟨a1, c1, rfl, ho1, hb1⟩
  rw [World.size_alloc] at hb1 ho1
  obtain ⟨c0, cc1, c2, z0, z1, z2⟩ := cells3 (cells3_kept hb1)
  by_cases h0 : n = 0
  · subst h0
    simp only [words_zero, List.length_nil]
    go_wp2_with fail
    refine bodyPost_ret (v := .tuple #[dyV D.zero none 0, .bool true]) (by simp [results, Tryd.results53, go_sem, dyV, D.zero, words_zero, c0, cc1, c2]) rfl ?_
    refine ⟨dyV D.zero none 0, by rw [HO.out]; rfl, ⟨none, 0, by rw [HO.out]; rfl, ?_⟩, below_wr3 (below_new hb1) (Nat.le_refl _)⟩
    rw [HO.out, show (outO (formF s 0 e)).m = 0 from rfl, words_zero]; exact Own.none _ _ _
  have hpos : 0 < (words n).length := by have := @len_words_zero n; omega
  have hlo := low_lt_words h0
  have hlen2 : (words n).length ≤ 1073741824 := by omega
  have hL := rlow_any a1 c1 (words n) w1 (by omega) (W32_words n) ho1.rd
  rw [num_words] at hL
  have hF : o = if 1048576 < e + low n ∨ e + low n < -1048576 ∨ 8192 < (words (n / 2 ^ low n)).length then none else some ⟨s, n / 2 ^ low n, e + low n⟩ := by rw [HO.out]; unfold formF; rw [if_neg h0]
  have hM : Calls Tryd.prog 63 #[.slice a1 (words n).length c1, .int .i64 (-(low n : Int))] w1 fun en w' => ∃ a2 c2, en = .returned (.slice a2 (words (n / 2 ^ low n)).length c2) ∧ Own w' 64 w1.heap.size a2 c2 (words (n / 2 ^ low n)) ∧ Below w1.heap.size w1 w' := by
    rcases Nat.eq_zero_or_pos (low n) with h | h
    · have := rmoved_up a1 c1 (words n) 0 w1 (by omega) (by omega) (ho1.sl (W32_words n))
      rw [num_words] at this
      rw [h, Nat.pow_zero, Nat.div_one]; rw [Nat.pow_zero, Nat.mul_one] at this
      exact this
    · have := rmoved_down a1 c1 (words n) (low n) w1 (by omega) h (by omega) (ho1.sl (W32_words n))
      rw [num_words] at this
      exact this
  have HL := Lib.hid hL; have HF := Lib.hid hF; have HM := Lib.hid hM; clear hL hF hM HO
  generalize low n = k at *
  obtain ⟨m, hm⟩ : ∃ m, m = n / 2 ^ k := ⟨_, rfl⟩
  rw [← hm] at HM HF
  clear hm
  go_wp2_with fail
  refine HL.out.mono ?_; rintro en w2 ⟨rfl, rfl⟩
  by_cases hA : 1048576 < e + k ∨ e + k < -1048576
  · have hno : o = none := by rw [HF.out, if_pos (by omega)]
    have HNO := Lib.hid hno; clear hno
    have hbb := below_new hb1
    have HBB := Lib.hid hbb; clear hbb
    have fin : ∀ W, W = wr3 w1 w.heap.size (.bool false) (.slice none 0 0) (.int .i64 0) → CameB w W o (.returned (.tuple #[dyV D.zero none 0, .bool false])) := by
      intro W hW
      rw [hW, HNO.out]
      exact ⟨dyV D.zero none 0, rfl, ⟨none, 0, rfl, by rw [show (outO none).m = 0 from rfl, words_zero]; exact Own.none _ _ _⟩, below_wr3 HBB.out (Nat.le_refl _)⟩
    have FIN := Lib.hid fin; clear fin
    by_cases hA0 : 1048576 < e
    · go_wp2
      refine bodyPost_ret (v := .tuple #[dyV D.zero none 0, .bool false]) (by simp [results, Tryd.results53, go_sem, dyV, D.zero, words_zero, c0, cc1, c2]) rfl (FIN.out _ rfl)
    · by_cases hA1 : 1048576 < e + k
      · go_wp2
        refine bodyPost_ret (v := .tuple #[dyV D.zero none 0, .bool false]) (by simp [results, Tryd.results53, go_sem, dyV, D.zero, words_zero, c0, cc1, c2]) rfl (FIN.out _ rfl)
      · have hA2 : e + k < -1048576 := by omega
        go_wp2
        refine bodyPost_ret (v := .tuple #[dyV D.zero none 0, .bool false]) (by simp [results, Tryd.results53, go_sem, dyV, D.zero, words_zero, c0, cc1, c2]) rfl (FIN.out _ rfl)
  have hA0 : ¬ (1048576 < e) := by omega
  have hA1 : ¬ (1048576 < e + k) := by omega
  have hA2 : ¬ (e + k < -1048576) := by omega
  go_wp2_with fail
  refine HM.out.mono ?_; rintro en w2 ⟨a2, cp, rfl, ho2, hb2⟩
  have hs1 := hb1.size
  simp only [World.size_alloc] at hs1
  have hblk : w2.heap[w.heap.size]? = some (.cells #[.bool false, .slice none 0 0, .int .i64 0] 27 (0, 0)) := by
    rw [hb2.block _ (by omega)]; exact cells3_kept hb1
  clear c0 cc1 c2 z0 z1 z2
  obtain ⟨c0, cc1, c2, z0, z1, z2⟩ := cells3 hblk
  have hbb : Below w.heap.size w w2 := (below_new hb1).trans (hb2.mono (by omega))
  have HBB := Lib.hid hbb; have HB2 := Lib.hid hb2; have HO2 := Lib.hid ho2; clear hbb ho2 hblk
  by_cases hA3 : 8192 < (words m).length
  · have hno : o = none := by rw [HF.out, if_pos (by omega)]
    have HNO := Lib.hid hno; clear hno
    go_wp2
    refine bodyPost_ret (v := .tuple #[dyV D.zero none 0, .bool false]) (by simp [results, Tryd.results53, go_sem, dyV, D.zero, words_zero, c0, cc1, c2]) rfl ?_
    rw [HNO.out]
    exact ⟨dyV D.zero none 0, rfl, ⟨none, 0, rfl, by rw [show (outO none).m = 0 from rfl, words_zero]; exact Own.none _ _ _⟩, below_wr3 HBB.out (Nat.le_refl _)⟩
  · have hso : o = some ⟨s, m, e + k⟩ := by rw [HF.out, if_neg (by omega)]
    have HSO := Lib.hid hso; clear hso
    go_wp2
    refine bodyPost_ret (v := .tuple #[dyV ⟨s, m, e + k⟩ a2 cp, .bool true]) (by simp [results, Tryd.results53, go_sem, dyV, c0, cc1, c2]) rfl ?_
    refine ⟨dyV ⟨s, m, e + k⟩ a2 cp, by rw [HSO.out]; rfl, ⟨a2, cp, by rw [HSO.out]; rfl, ?_⟩, below_wr3 HBB.out (Nat.le_refl _)⟩
    rw [HSO.out]
    exact (own_wr3 HO2.out (by omega)).mono (by omega)
end Go.Proofs.YtmokomfneikipaaDoor
