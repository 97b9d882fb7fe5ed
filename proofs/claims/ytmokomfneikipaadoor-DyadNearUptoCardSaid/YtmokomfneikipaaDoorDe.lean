/- Contracts of package dyad: sum. No statement of the seat is proved here. -/
import Derived.Test.YtmokomfneikipaaDoorProg
import Derived.Test.YtmokomfneikipaaDoorDd
import Derived.Test.YtmokomfneikipaaDoorRb
namespace Go.Proofs.YtmokomfneikipaaDoor
open Go.RowKit
set_option linter.unusedVariables false
set_option linter.unusedSimpArgs false

set_option maxHeartbeats 2000000 in
set_option maxRecDepth 10000 in
theorem sum_any (a b : Option Addr) (c d : Nat) (l m : List Nat) (w : World) (hlen : l.length ≤ 17592186044416) (hlen2 : m.length ≤ 17592186044416) (hw : W32 l) (hr : Rd w a l) (hw2 : W32 m) (hr2 : Rd w b m) :
    Calls Tryd.prog 59 #[.slice a l.length c, .slice b m.length d] w fun e w' => ∃ L, e = .returned (.slice (some ⟨w.heap.size, 0, none⟩) L.length L.length) ∧ Blk w' 64 w.heap.size L ∧ W32 L ∧ num L = num l + num m ∧ L.length ≤ max l.length m.length + 1 ∧ Below w.heap.size w w' := by
  obtain ⟨i0, hi, hz0, hz1, hz2⟩ := info_parts infoW
  have HR := Lib.hid hr; clear hr
  have HR2 := Lib.hid hr2; clear hr2
  have HW := Lib.hid hw; clear hw
  have HW2 := Lib.hid hw2; clear hw2
  go_enter Tryd.func59, Tryd.ntmps59
  by_cases hsw : l.length < m.length
  · have hle : l.length ≤ m.length := by omega
    have hnn : num l + num m = num m + num l := by omega
    go_wp2_with (first | (at_make; refine wpList_make_blk _ rfl _ _ 24 rfl 64 i0 Tryd.underlying24 hi hz0 hz1 hz2 _ _ _ _ (m.length + 1) rfl rfl (by simp) (by simp) (by omega) ?_; intro w1 hk1 hb1 hs1))
    go_loopw [6, 22] (fun o i wr => ∃ (k over : Nat) (p : List Nat), k ≤ m.length ∧ i = .int .i64 k ∧ o = .int .u32 over ∧ over ≤ 1 ∧ Hid (p.length = k ∧ W32 p ∧ num p + over * 4294967296 ^ k = num (m.take k) + num (l.take k)) ∧ Blk wr 64 w.heap.size (p ++ 0 :: List.replicate (m.length - k) 0) ∧ Below w.heap.size w wr) (fun _ i _ => m.length - (intOf i).toNat)
    case atStart => exact ⟨0, 0, [], Nat.zero_le _, rfl, rfl, by decide, ⟨rfl, W32.nil, by simp [num]⟩, by simpa [List.replicate_succ] using hk1, hb1⟩
    case round =>
      obtain ⟨k, over, p, hk, rfl, rfl, hov, HP, hkr, hbr⟩ := hrel
      have hcl := hkr.midCell HP.out.1.symm
      have hfr := hkr.frozen k
      by_cases hkl : k < m.length
      · obtain ⟨ba, offa, x, rfl, hcell, hx, HX⟩ := (HR2.out.grow hbr).at HW2.out hkl
        by_cases hks : k < l.length
        · obtain ⟨bb, offb, y, rfl, hcell2, hy, HY⟩ := (HR.out.grow hbr).at HW.out hks
          have A1 := Lib.hid (add32_any x y over hx hy (by omega) wr)
          go_wp2_with fail
          refine A1.out.mono ?_; rintro e w' ⟨rfl, rfl⟩
          go_wp2
          obtain ⟨h4, h5, h6⟩ := HP.out
          go_roundw
          case rel =>
            refine ⟨k + 1, (x + y + over) / 4294967296, p ++ [(x + y + over) % 4294967296], by omega, by go_num, rfl, by omega, ⟨by simp [h4], h5.append (W32.cons (Nat.mod_lt _ (by decide)) W32.nil), ?_⟩, ?_, hbr.setCell (Nat.le_refl _) _⟩
            · rw [num_take_succ HX.out, num_take_succ HY.out, plus_step h4 h6, Nat.mul_add]; omega
            · have := hkr.midPush h4.symm ((x + y + over) % 4294967296) rfl
              rw [show m.length - k = m.length - (k + 1) + 1 by omega, List.replicate_succ] at this
              exact this
          case measure => simp [intOf]; omega
        · have A1 := Lib.hid (add32_any x 0 over hx (by decide) (by omega) wr)
          go_wp2_with fail
          refine A1.out.mono ?_; rintro e w' ⟨rfl, rfl⟩
          go_wp2
          obtain ⟨h4, h5, h6⟩ := HP.out
          go_roundw
          case rel =>
            refine ⟨k + 1, (x + 0 + over) / 4294967296, p ++ [(x + 0 + over) % 4294967296], by omega, by go_num, rfl, by omega, ⟨by simp [h4], h5.append (W32.cons (Nat.mod_lt _ (by decide)) W32.nil), ?_⟩, ?_, hbr.setCell (Nat.le_refl _) _⟩
            · rw [List.take_of_length_le (show l.length ≤ k by omega)] at h6
              rw [num_take_succ HX.out, List.take_of_length_le (show l.length ≤ k + 1 by omega), plus_step h4 h6, Nat.mul_add]; omega
            · have := hkr.midPush h4.symm ((x + 0 + over) % 4294967296) rfl
              rw [show m.length - k = m.length - (k + 1) + 1 by omega, List.replicate_succ] at this
              exact this
          case measure => simp [intOf]; omega
      · have hke : k = m.length := by omega
        subst hke
        go_wp2
        go_ret
        obtain ⟨h4, h5, h6⟩ := HP.out
        have hset := hkr.midSet h4.symm over (v := (over : Int)) rfl
        rw [Nat.sub_self, List.replicate_zero] at hset
        refine ⟨p ++ [over], by simp [h4], hset, h5.append (W32.cons (by omega) W32.nil), ?_, by simp [h4]; omega, hbr.setCell (Nat.le_refl _) _⟩
        first | rw [num_append, h4, hnn] | rw [num_append, h4]
        simp only [num, Nat.mul_zero, Nat.add_zero]
        rw [List.take_of_length_le (Nat.le_refl _), List.take_of_length_le hle, Nat.mul_comm] at h6
        exact h6
  · have hle : m.length ≤ l.length := by omega
    have hnn : num l + num m = num l + num m := by omega
    go_wp2_with (first | (at_make; refine wpList_make_blk _ rfl _ _ 24 rfl 64 i0 Tryd.underlying24 hi hz0 hz1 hz2 _ _ _ _ (l.length + 1) rfl rfl (by simp) (by simp) (by omega) ?_; intro w1 hk1 hb1 hs1))
    go_loopw [6, 22] (fun o i wr => ∃ (k over : Nat) (p : List Nat), k ≤ l.length ∧ i = .int .i64 k ∧ o = .int .u32 over ∧ over ≤ 1 ∧ Hid (p.length = k ∧ W32 p ∧ num p + over * 4294967296 ^ k = num (l.take k) + num (m.take k)) ∧ Blk wr 64 w.heap.size (p ++ 0 :: List.replicate (l.length - k) 0) ∧ Below w.heap.size w wr) (fun _ i _ => l.length - (intOf i).toNat)
    case atStart => exact ⟨0, 0, [], Nat.zero_le _, rfl, rfl, by decide, ⟨rfl, W32.nil, by simp [num]⟩, by simpa [List.replicate_succ] using hk1, hb1⟩
    case round =>
      obtain ⟨k, over, p, hk, rfl, rfl, hov, HP, hkr, hbr⟩ := hrel
      have hcl := hkr.midCell HP.out.1.symm
      have hfr := hkr.frozen k
      by_cases hkl : k < l.length
      · obtain ⟨ba, offa, x, rfl, hcell, hx, HX⟩ := (HR.out.grow hbr).at HW.out hkl
        by_cases hks : k < m.length
        · obtain ⟨bb, offb, y, rfl, hcell2, hy, HY⟩ := (HR2.out.grow hbr).at HW2.out hks
          have A1 := Lib.hid (add32_any x y over hx hy (by omega) wr)
          go_wp2_with fail
          refine A1.out.mono ?_; rintro e w' ⟨rfl, rfl⟩
          go_wp2
          obtain ⟨h4, h5, h6⟩ := HP.out
          go_roundw
          case rel =>
            refine ⟨k + 1, (x + y + over) / 4294967296, p ++ [(x + y + over) % 4294967296], by omega, by go_num, rfl, by omega, ⟨by simp [h4], h5.append (W32.cons (Nat.mod_lt _ (by decide)) W32.nil), ?_⟩, ?_, hbr.setCell (Nat.le_refl _) _⟩
            · rw [num_take_succ HX.out, num_take_succ HY.out, plus_step h4 h6, Nat.mul_add]; omega
            · have := hkr.midPush h4.symm ((x + y + over) % 4294967296) rfl
              rw [show l.length - k = l.length - (k + 1) + 1 by omega, List.replicate_succ] at this
              exact this
          case measure => simp [intOf]; omega
        · have A1 := Lib.hid (add32_any x 0 over hx (by decide) (by omega) wr)
          go_wp2_with fail
          refine A1.out.mono ?_; rintro e w' ⟨rfl, rfl⟩
          go_wp2
          obtain ⟨h4, h5, h6⟩ := HP.out
          go_roundw
          case rel =>
            refine ⟨k + 1, (x + 0 + over) / 4294967296, p ++ [(x + 0 + over) % 4294967296], by omega, by go_num, rfl, by omega, ⟨by simp [h4], h5.append (W32.cons (Nat.mod_lt _ (by decide)) W32.nil), ?_⟩, ?_, hbr.setCell (Nat.le_refl _) _⟩
            · rw [List.take_of_length_le (show m.length ≤ k by omega)] at h6
              rw [num_take_succ HX.out, List.take_of_length_le (show m.length ≤ k + 1 by omega), plus_step h4 h6, Nat.mul_add]; omega
            · have := hkr.midPush h4.symm ((x + 0 + over) % 4294967296) rfl
              rw [show l.length - k = l.length - (k + 1) + 1 by omega, List.replicate_succ] at this
              exact this
          case measure => simp [intOf]; omega
      · have hke : k = l.length := by omega
        subst hke
        go_wp2
        go_ret
        obtain ⟨h4, h5, h6⟩ := HP.out
        have hset := hkr.midSet h4.symm over (v := (over : Int)) rfl
        rw [Nat.sub_self, List.replicate_zero] at hset
        refine ⟨p ++ [over], by simp [h4], hset, h5.append (W32.cons (by omega) W32.nil), ?_, by simp [h4]; omega, hbr.setCell (Nat.le_refl _) _⟩
        first | rw [num_append, h4, hnn] | rw [num_append, h4]
        simp only [num, Nat.mul_zero, Nat.add_zero]
        rw [List.take_of_length_le (Nat.le_refl _), List.take_of_length_le hle, Nat.mul_comm] at h6
        exact h6
end Go.Proofs.YtmokomfneikipaaDoor
