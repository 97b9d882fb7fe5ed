/- Contracts of steelyardref03's below, half. No statement of the seat is proved here. -/
import Derived.Test.YtmokomfneikipaaDoorProg
import Derived.Test.YtmokomfneikipaaDoorEe
namespace Go.Proofs.YtmokomfneikipaaDoor
open Go.RowKit
set_option linter.unusedVariables false
set_option linter.unusedSimpArgs false

theorem numM_len (h k : Nat) (hh : h ≤ 52) : (words (numM h k)).length ≤ 2 := by
  refine words_len_le ?_
  have hp := Nat.two_pow_pos h
  have hp52 : 2 ^ h ≤ 4503599627370496 := by have := Nat.pow_le_pow_right (show 0 < 2 by decide) hh; simpa using this
  unfold numM; have := Nat.mod_lt k hp; split <;> omega
theorem numE_bd {h k : Nat} (hk : k / 2 ^ h ≤ 1000000) : numE h k ≤ 1000000 := by unfold numE; omega

set_option maxRecDepth 10000 in
set_option maxHeartbeats 2000000 in
theorem below_any (h q : Nat) (L : Int) (E : Nat) (a : Option Addr) (c : Nat) (l : List Nat) (e : Int) (w : World) (hh : 1 ≤ h) (hh2 : h ≤ 52) (hL1 : -2000 ≤ L) (hL2 : L ≤ 0) (hE : E = q * 2 ^ h) (hq : 2 ≤ q) (hq2 : q ≤ 2047) (hs : Sl w a c l) (hlen : l.length ≤ 8192) (he1 : -2000000 ≤ e) (he2 : e ≤ 2000000) :
    Calls Tryd.prog 102 #[.agg #[.int .i64 (h + 1 : Nat), .int .i64 L, .int .u64 E], .slice a l.length c, .int .i64 e] w fun en w' => ∃ k : Nat, en = .returned (.int .u64 k) ∧ IsBelow h E (sc L e) (sx L (num l) e) k ∧ Below w.heap.size w w' := by
  have hp := Nat.two_pow_pos h
  have hp52 : 2 ^ h ≤ 4503599627370496 := by have := Nat.pow_le_pow_right (show 0 < 2 by decide) hh2; simpa using this
  have hE0 : 1 < E := by
    rw [hE]; have := Nat.mul_le_mul hq hp; omega
  have hE2 : E ≤ 9218868437227405312 := by
    have := Nat.mul_le_mul hq2 hp52
    rw [← hE] at this; omega
  have hdiv : ∀ k, k ≤ E → k / 2 ^ h ≤ 1000000 := fun k hk => by
    have h1 : k / 2 ^ h ≤ E / 2 ^ h := Nat.div_le_div_right hk
    rw [hE, Nat.mul_div_cancel _ hp] at h1; omega
  have hN : ∀ W (k : Nat) z, z = (k : Int) → k ≤ E → Calls Tryd.prog 85 #[.agg #[.int .i64 ((h : Int) + 1), .int .i64 L, .int .u64 E], .int .u64 z] W fun en w' => ∃ a c, en = .returned (.tuple #[.slice a (words (numM h k)).length c, .int .i64 (L + numE h k)]) ∧ Own w' 64 W.heap.size a c (words (numM h k)) ∧ Below W.heap.size W w' := by
    rintro W k z rfl hk
    exact number_any h k L E W hh2 (by omega) hh hL1 (by omega) (hdiv k hk)
  have hA : ∀ W (k : Nat) a1 c1 base, k ≤ E → Below w.heap.size w W → Own W 64 base a1 c1 (words (numM h k)) → Calls Tryd.prog 78 #[.slice a1 (words (numM h k)).length c1, .int .i64 (L + numE h k), .slice a l.length c, .int .i64 e] W fun en w' => en = .returned (.int .i64 (cmpN (numV h k * 2 ^ sc L e) (sx L (num l) e))) ∧ Below W.heap.size W w' := by
    intro W k a1 c1 base hk hw ho
    have h1 := numM_len h k hh2
    have h2 := numE_bd (hdiv k hk)
    have := against_any a1 a c1 c (words (numM h k)) l (L + numE h k) e W (by omega) (by omega) (ho.sl (W32_words _)) (hs.grow hw) (by omega) (by omega) (by omega) (by omega)
    rw [num_words, ag_num] at this
    exact this
  have hV0 : numV h 0 = 0 := by unfold numV numM; simp
  generalize sx L (num l) e = X at *
  generalize sc L e = C at *
  have HN := Lib.hid hN; have HA := Lib.hid hA; clear hN hA hdiv hs hE hp hp52
  rw [show ((h + 1 : Nat) : Int) = (h : Int) + 1 from by simp]
  go_enter Tryd.func102, Tryd.ntmps102
  go_wp2_with fail
  obtain ⟨w1, h1⟩ : ∃ W, W = w.alloc (.cells #[.int .i64 ((h : Int) + 1), .int .i64 L, .int .u64 (E : Int)] 71) := ⟨_, rfl⟩
  rw [← h1]
  obtain ⟨k1, hB, s1⟩ := new_of h1 rfl
  clear h1
  obtain ⟨_, _, _, _, _, _⟩ := cells3 k1
  go_wp2_with fail
  go_loopw [7, 8] (fun f t wr => ∃ (lo hi : Nat), f = .int .u64 lo ∧ t = .int .u64 hi ∧ lo < hi ∧ hi ≤ E ∧ Hid (numV h lo * 2 ^ C ≤ X ∧ (hi = E ∨ X < numV h hi * 2 ^ C)) ∧ Below w1.heap.size w1 wr) (fun f t _ => (intOf t).toNat - (intOf f).toNat)
  case atStart => exact ⟨0, E, rfl, rfl, by omega, Nat.le_refl _, ⟨by rw [hV0]; simp, .inl rfl⟩, Below.refl _ _⟩
  case round =>
    obtain ⟨lo, hi, rfl, rfl, hlh, hhi, HP, hbr⟩ := hrel
    have hsz := hbr.size
    have k1r := (hbr.block w.heap.size (by omega)).trans k1
    obtain ⟨_, _, _, _, _, _⟩ := cells3 k1r
    by_cases hgo : 1 < hi - lo
    · have HN2 := Lib.hid (HN.out wr ((lo + hi) / 2) (((lo : Int) + (hi : Int)) / 2) (by simp) (by omega))
      have hBr : Below w.heap.size w wr := hB.trans (hbr.mono (by omega))
      go_wp2_with fail
      refine HN2.out.mono ?_; rintro en w2 ⟨a2, c2, rfl, ho2, hb2⟩
      have hb3 : Below w.heap.size w w2 := hBr.trans (hb2.mono hBr.size)
      have HA2 := Lib.hid (HA.out w2 _ a2 c2 _ (by omega) hb3 ho2)
      have hb4 : Below w1.heap.size w1 w2 := hbr.trans (hb2.mono hsz)
      have HB4 := Lib.hid hb4; clear hb4 hb3 ho2 hb2
      go_wp2_with fail
      refine HA2.out.mono ?_; rintro en w3 ⟨rfl, hb3⟩
      have hb5 := HB4.out.trans (hb3.mono HB4.out.size)
      have HB5 := Lib.hid hb5; clear hb5 hb3
      by_cases hcmp : X < numV h ((lo + hi) / 2) * 2 ^ C
      · have hc : ¬ cmpN (numV h ((lo + hi) / 2) * 2 ^ C) X ≤ 0 := by rw [cmpN_gt hcmp]; decide
        have Hc := Lib.hid hcmp; clear hcmp
        go_wp2
        go_roundw
        case rel => exact ⟨lo, (lo + hi) / 2, rfl, by simp, by omega, by omega, ⟨HP.out.1, .inr Hc.out⟩, HB5.out⟩
        case measure => simp [intOf]; omega
      · have hc : cmpN (numV h ((lo + hi) / 2) * 2 ^ C) X ≤ 0 := cmpN_le.2 (by omega)
        have Hc := Lib.hid hcmp; clear hcmp
        go_wp2
        go_roundw
        case rel => exact ⟨(lo + hi) / 2, hi, by simp, rfl, by omega, by omega, ⟨by have := Hc.out; omega, HP.out.2⟩, HB5.out⟩
        case measure => simp [intOf]; omega
    · have h2 : hi = lo + 1 := by omega
      have hlt : lo < E := by omega
      have hr : IsBelow h E C X lo := ⟨hlt, HP.out.1, by rw [← h2]; exact HP.out.2⟩
      have HR := Lib.hid hr; clear hr h2
      have hBr : Below w.heap.size w wr := hB.trans (hbr.mono (by omega))
      have HBr := Lib.hid hBr; clear hBr
      go_wp2
      go_ret
      exact ⟨lo, rfl, HR.out, HBr.out⟩
end Go.Proofs.YtmokomfneikipaaDoor
