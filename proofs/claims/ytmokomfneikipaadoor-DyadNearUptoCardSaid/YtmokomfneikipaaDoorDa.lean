/- Contracts of package dyad: lower. No statement of the seat is proved here. -/
import Derived.Test.YtmokomfneikipaaDoorProg
import Derived.Test.YtmokomfneikipaaDoorWe
namespace Go.Proofs.YtmokomfneikipaaDoor
open Go.RowKit
set_option linter.unusedVariables false
set_option linter.unusedSimpArgs false

theorem lower_lem {x y by_ : Nat} (hb : by_ < 32) (hb0 : 0 < by_) (hx : x < 4294967296) (hy : y < 4294967296) :
    x / 2 ^ by_ ||| (y * 2 ^ (32 - by_) % 4294967296) = (x + 4294967296 * y) / 2 ^ by_ % 4294967296 ∧ x / 2 ^ by_ < 4294967296 ∧ (x + 4294967296 * 0) / 2 ^ by_ % 4294967296 = x / 2 ^ by_ := by
  obtain ⟨d, hd⟩ : ∃ d, d = 2 ^ (32 - by_) := ⟨_, rfl⟩
  have hP : 4294967296 = 2 ^ by_ * d := by rw [hd, ← Nat.pow_add, show by_ + (32 - by_) = 32 by omega]
  have hp := Nat.two_pow_pos by_
  have h1 : x / 2 ^ by_ < d := Nat.div_lt_of_lt_mul (by rw [← hP]; exact hx)
  have h2 : (y * d % 4294967296) % d = 0 := by
    rw [hP, Nat.mul_comm y d, Nat.mul_comm (2 ^ by_) d, Nat.mul_mod_mul_left]; exact Nat.mul_mod_right _ _
  have h3 : (x + 4294967296 * y) / 2 ^ by_ = x / 2 ^ by_ + d * y := by
    rw [hP, Nat.mul_assoc, Nat.add_mul_div_left _ _ hp]
  have h4 : x / 2 ^ by_ ≤ x := Nat.div_le_self _ _
  rw [← hd]
  refine ⟨?_, by omega, by rw [Nat.mul_zero, Nat.add_zero, Nat.mod_eq_of_lt (by omega)]⟩
  rw [hd] at h1 h2
  rw [hd, or_add h1 h2, h3, ← hd]
  have h5 : y * d % 4294967296 + d ≤ 4294967296 := by
    have e : y * d % 4294967296 = d * (y % 2 ^ by_) := by rw [hP, Nat.mul_comm y d, Nat.mul_comm (2 ^ by_) d, Nat.mul_mod_mul_left]
    rw [e]
    have : y % 2 ^ by_ + 1 ≤ 2 ^ by_ := Nat.mod_lt _ hp
    have := Nat.mul_le_mul_left d this
    rw [Nat.mul_add, Nat.mul_one, Nat.mul_comm d (2 ^ by_), ← hP] at this
    exact this
  rw [← hd] at h1
  rw [Nat.mul_comm d y]
  generalize y * d = z at *
  generalize x / 2 ^ by_ = u at *
  omega

set_option maxRecDepth 10000 in
set_option maxHeartbeats 400000 in
theorem lower_any (a : Option Addr) (c : Nat) (l : List Nat) (by_ : Nat) (w : World) (hlen : l.length ≤ 70368744177664) (hl0 : 0 < l.length) (hlast : words (num l) = l) (hb : by_ < 32) (hw : W32 l) (hr : Rd w a l) :
    Calls Tryd.prog 84 #[.slice a l.length c, .int .i64 (by_ : Int)] w fun e w' => ∃ a', e = .returned (.slice a' (words (num l / 2 ^ by_)).length (words (num l / 2 ^ by_)).length) ∧ Own w' 64 w.heap.size a' (words (num l / 2 ^ by_)).length (words (num l / 2 ^ by_)) ∧ Below w.heap.size w w' := by
  obtain ⟨i0, hi, hz0, hz1, hz2⟩ := info_parts infoW
  obtain ⟨L, hL⟩ : ∃ L, L = digs l.length (num l / 2 ^ by_) := ⟨_, rfl⟩
  have hLl : L.length = l.length := by rw [hL, digs_len]
  have hLw : W32 L := by rw [hL]; exact W32_digs _ _
  have hLn : num L = num l / 2 ^ by_ := by
    rw [hL, num_digs_lt (Nat.lt_of_le_of_lt (Nat.div_le_self _ _) (num_lt hw))]
  have hLL : words (num L) = L.take (words (num L)).length := words_num_prefix hLw
  rw [← hLn]
  have HL := Lib.hid hL; clear hL
  have HLl := Lib.hid hLl; clear hLl
  have HLw := Lib.hid hLw; clear hLw
  have HLn := Lib.hid hLn; clear hLn
  have HLL := Lib.hid hLL; clear hLL
  have Hlast := Lib.hid hlast; clear hlast
  go_enter Tryd.func84, Tryd.ntmps84
  go_wp2_with (first | (at_make; refine wpList_make_blk _ rfl _ _ 24 rfl 64 i0 Tryd.underlying24 hi hz0 hz1 hz2 _ _ _ _ l.length rfl rfl rfl rfl (by omega) ?_; intro w1 hk1 hb1 hs1))
  go_loopw [14] (fun s wr => ∃ k : Nat, k ≤ l.length ∧ s = .int .i64 k ∧ Blk wr 64 w.heap.size (fillTo L k) ∧ Below w.heap.size w wr) (fun s _ => l.length - (intOf s).toNat)
  case atStart => exact ⟨0, Nat.zero_le _, rfl, by rw [fillTo_zero, HLl.out]; exact hk1, hb1⟩
  case round =>
    obtain ⟨k, hk, rfl, hkr, hbr⟩ := hrel
    have HW := Lib.hid hw; clear hw
    by_cases hlt : k < l.length
    · obtain ⟨b, off, x, rfl, hcell, hx, HX⟩ := (hr.grow hbr).at HW.out hlt
      obtain ⟨y, hy, hy2, HY⟩ := hkr.at (W32_fillTo HLw.out k) (show k < _ by rw [fillTo_len _ _ (by rw [HLl.out]; exact hk), HLl.out]; exact hlt)
      have hf1 := hkr.frozen k
      have hkf : Blk (wr.setCell ⟨w.heap.size, k, none⟩ (.int .u32 ((x / 2 ^ by_ : Nat) : Int))) 64 w.heap.size ((fillTo L k).set k (x / 2 ^ by_)) := hkr.set k _
      by_cases hlt1 : k + 1 < l.length ∧ 0 < by_
      · obtain ⟨hlt1, hby⟩ := hlt1
        obtain ⟨b', off', x', hbb, hcell', hx', HX'⟩ := (hr.grow hbr).at HW.out hlt1
        simp only [Option.some.injEq, Addr.mk.injEq, and_true] at hbb
        obtain ⟨rfl, rfl⟩ := hbb
        have HR := Lib.hid hr; clear hr
        have hll := lower_lem hb hby hx hx'
        have hd : L[k]? = some (((x + 4294967296 * x') / 2 ^ by_ % 4294967296)) := by
          rw [HL.out, digs_get _ hlt, down_word (y := x') HW.out hb HX.out (by rw [List.getD_eq_getElem?_getD, HX'.out]; rfl)]
        have HD := Lib.hid hd; clear hd
        have HKF := Lib.hid hkf; clear hkf
        have HLEM := Lib.hid hll; clear hll
        have g1 : IntKind.i64.wrap ((k : Int) + 1) = ((k + 1 : Nat) : Int) := by rw [IntKind.wrap_i64]; omega
        have g2 : IntKind.i64.wrap (32 - (by_ : Int)) = ((32 - by_ : Nat) : Int) := by rw [IntKind.wrap_i64]; omega
        have g3 : (32 - (by_ : Int)).toNat = 32 - by_ := by omega
        have g4 : ((k : Int) + 1).toNat = k + 1 := by omega
        go_wp2
        go_region
        go_wp2
        go_roundw
        case rel =>
          refine ⟨k + 1, by omega, by go_num, ?_, ((hbr.setCell (Nat.le_refl _) _).setCell (Nat.le_refl _) _).drew⟩
          obtain ⟨m1, m2, m3⟩ := HLEM.out
          have e0 : ((x : Int) / 2 ^ by_) = ((x / 2 ^ by_ : Nat) : Int) := by simp
          have e1 : ((x' : Int) * 2 ^ (32 - by_) % 4294967296) = ((x' * 2 ^ (32 - by_) % 4294967296 : Nat) : Int) := by simp
          rw [e0, e1, bits_or_u32_nat _ _ m2 (Nat.mod_lt _ (by decide)), m1]
          have := HKF.out.set k ((x + 4294967296 * x') / 2 ^ by_ % 4294967296)
          rw [List.set_set, fillTo_set HD.out] at this
          exact this.drew
        case measure => simp [intOf]; omega
      · have HR := Lib.hid hr; clear hr
        have hd : L[k]? = some (x / 2 ^ by_) := by
          rcases Nat.eq_zero_or_pos by_ with h0 | h0
          · rw [HL.out, digs_get _ hlt, h0, Nat.pow_zero, Nat.div_one, Nat.div_one, num_get HW.out HX.out]
          · have h1 := lower_lem hb h0 hx hx
            rw [HL.out, digs_get _ hlt, down_word (y := 0) HW.out hb HX.out (by rw [List.getD_eq_getElem?_getD, List.getElem?_eq_none (by omega)]; rfl), h1.2.2]
        have HD := Lib.hid hd; clear hd
        have hno : (by_ = 0 ∧ k + 1 < l.length) ∨ (by_ = 0 ∧ ¬ (k + 1 < l.length)) ∨ (0 < by_ ∧ ¬ (k + 1 < l.length)) := by omega
        rcases hno with ⟨h, h2⟩ | ⟨h, h2⟩ | ⟨h, h2⟩
        all_goals
          go_wp2
          go_roundw
          case rel => exact ⟨k + 1, by omega, by go_num, hkr.fill rfl HD.out (by first | (simp; done) | (rw [h]; simp)), hbr.setCell (Nat.le_refl _) _⟩
          case measure => simp [intOf]; omega
    · obtain rfl : k = l.length := by omega
      obtain ⟨n1, hn1⟩ : ∃ n1, l.length = n1 + 1 := ⟨l.length - 1, by omega⟩
      have hkr2 : Blk wr 64 w.heap.size L := by rw [← HLl.out, fillTo_all] at hkr; exact hkr
      obtain ⟨y, hy, hy2, HY⟩ := hkr2.at HLw.out (show n1 < L.length by rw [HLl.out]; omega)
      have HK := Lib.hid hkr2; clear hkr2 hkr
      rw [hn1]
      have hge : 4294967296 ^ n1 ≤ num l := by
        rcases Nat.lt_or_ge (num l) (4294967296 ^ n1) with h | h
        · have := words_len_le h; rw [Hlast.out] at this; omega
        · exact h
      have hlen1 : n1 ≤ (words (num L)).length := by
        cases n1 with
        | zero => omega
        | succ j =>
          refine words_len_gt ?_
          rw [HLn.out, Nat.le_div_iff_mul_le (Nat.two_pow_pos _)]
          refine Nat.le_trans ?_ hge
          rw [Nat.pow_succ]
          have h2 : 2 ^ by_ ≤ 4294967296 := by
            have := Nat.pow_le_pow_right (show 0 < 2 by decide) (show by_ ≤ 32 by omega); simpa using this
          exact Nat.mul_le_mul_left _ h2
      have hlen2 : y = 0 → (words (num L)).length ≤ n1 := fun h => by
        refine words_len_le ?_
        have h3 := num_take_zero HY.out h
        rw [List.take_of_length_le (by rw [HLl.out]; omega)] at h3
        rw [h3]; exact num_take_lt HLw.out _
      have hlen3 : y ≠ 0 → words (num L) = L := fun h => by
        have h3 := words_take_pos HLw.out HY.out h
        rw [List.take_of_length_le (by rw [HLl.out]; omega)] at h3
        exact h3
      have H1 := Lib.hid hlen1; have H2 := Lib.hid hlen2; have H3 := Lib.hid hlen3; clear hlen1 hlen2 hlen3 hge
      by_cases hy0 : y = 0
      · subst hy0
        have e := Nat.le_antisymm (H2.out rfl) H1.out
        go_wp2
        go_ret
        have hO := (Own.of HK.out (Nat.le_refl w.heap.size)).cut (k := n1) (by rw [HLl.out]; omega)
        have hO2 := hO.shut
        rw [show L.take n1 = words (num L) from by rw [HLL.out, e]] at hO2
        rw [e] at hO2
        exact ⟨_, rfl, hO2, hbr⟩
      · have e := H3.out hy0
        go_wp2
        go_ret
        rw [e]
        have hO := Own.of HK.out (Nat.le_refl w.heap.size)
        rw [HLl.out, hn1] at hO ⊢
        exact ⟨_, rfl, hO, hbr⟩
end Go.Proofs.YtmokomfneikipaaDoor
