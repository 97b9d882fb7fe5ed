/- Contract of dyad.higher. No statement of the seat is proved here. -/
import Derived.Test.YtmokomfneikipaaDoorProg
import Derived.Test.YtmokomfneikipaaDoorDe
namespace Go.Proofs.YtmokomfneikipaaDoor
open Go.RowKit
set_option linter.unusedVariables false
set_option linter.unusedSimpArgs false

set_option maxRecDepth 10000 in
set_option maxHeartbeats 1000000 in
theorem higher_any (a : Option Addr) (c : Nat) (l : List Nat) (n : Nat) (w : World) (hlen : l.length ≤ 35184372088832) (hn : n ≤ 1099511627776) (hw : W32 l) (hr : Rd w a l) :
    Calls Tryd.prog 105 #[.slice a l.length c, .int .i64 (n : Int)] w fun e w' => ∃ L, e = .returned (.slice (some ⟨w.heap.size, 0, none⟩) L.length L.length) ∧ Blk w' 64 w.heap.size L ∧ W32 L ∧ num L = num l * 2 ^ n ∧ L.length ≤ l.length + n / 32 + 1 ∧ Below w.heap.size w w' := by
  obtain ⟨i0, hi, hz0, hz1, hz2⟩ := info_parts infoW
  have hb : n % 32 < 32 := Nat.mod_lt _ (by decide)
  go_enter Tryd.func105, Tryd.ntmps105
  go_wp2_with (first | (at_make; refine wpList_make_blk _ rfl _ _ 24 rfl 64 i0 Tryd.underlying24 hi hz0 hz1 hz2 _ _ _ _ (n / 32 + l.length + 1) rfl rfl (by simp) (by simp) (by omega) ?_; intro w1 hk1 hb1 hs1))
  go_loopw [18] (fun s wr => ∃ (k : Nat) (m : List Nat) (h : Nat), k ≤ l.length ∧ s = .int .i64 k ∧ m.length = k ∧ W32 m ∧ h < 2 ^ (n % 32) ∧ Hid (num m + 4294967296 ^ k * h = num (l.take k) * 2 ^ (n % 32)) ∧ Blk wr 64 w.heap.size ((List.replicate (n / 32) 0 ++ m) ++ h :: List.replicate (l.length - k) 0) ∧ Below w.heap.size w wr) (fun s _ => l.length - (intOf s).toNat)
  case atStart => exact ⟨0, [], 0, Nat.zero_le _, rfl, rfl, W32.nil, Nat.two_pow_pos _, by simp [Hid, num], by
    rw [show n / 32 + l.length + 1 = n / 32 + (l.length + 1) by omega, ← List.replicate_append_replicate, List.replicate_succ] at hk1
    simpa using hk1, hb1⟩
  case round =>
    obtain ⟨k, m, h, hk, rfl, hmk, hm, hh, HS, hkr, hbr⟩ := hrel
    have HW := Lib.hid hw; clear hw
    have Hm := Lib.hid hm; clear hm
    have Hmk := Lib.hid hmk; clear hmk
    have h32 : h < 4294967296 := Nat.lt_of_lt_of_le hh (by have := Nat.pow_le_pow_right (show 0 < 2 by decide) (show n % 32 ≤ 32 by omega); simpa using this)
    have hpl : n / 32 + k = (List.replicate (n / 32) 0 ++ m).length := by simp [Hmk.out]
    have Hpl := Lib.hid hpl; clear hpl
    by_cases hlt : k < l.length
    · obtain ⟨b, off, x, rfl, hcell, hx, HX⟩ := (hr.grow hbr).at HW.out hlt
      have HR := Lib.hid hr; clear hr
      rw [rep_succ hlt] at hkr
      have hc1 := hkr.midCell Hpl.out
      have hc2 : wr.cell? ⟨w.heap.size, n / 32 + k + 1, none⟩ = some (.int .u32 ((0 : Nat) : Int)) := by
        have := hkr; rw [show ∀ y z, y ++ h :: 0 :: z = (y ++ [h]) ++ 0 :: z from fun y z => by simp] at this
        exact this.midCell (by simp [Hmk.out]; omega)
      have hf1 := hkr.frozen (n / 32 + k)
      have hf2 := hkr.frozen (n / 32 + k + 1)
      have Hst := Lib.hid (up_step hb hx Hm.out Hmk.out hh HS.out)
      have Hhh := Lib.hid hh; clear hh
      go_wp2
      obtain ⟨s1, s2, s3, s4⟩ := Hst.out
      have hxb : x * 2 ^ (n % 32) < 18446744073709551616 := by
        have := Nat.mul_lt_mul_of_lt_of_le hx (Nat.pow_le_pow_right (show 0 < 2 by decide) (show n % 32 ≤ 32 by omega)) (by decide)
        simpa using this
      have e0 : IntKind.u64.wrap ((x : Int) * 2 ^ (n % 32)) = ((x * 2 ^ (n % 32) : Nat) : Int) := by
        rw [show ((x : Int) * 2 ^ (n % 32)) = ((x * 2 ^ (n % 32) : Nat) : Int) from by simp]; exact wrap_u64_nat _ hxb
      have e1 : bits BinOp.or IntKind.u32 (h : Int) (IntKind.u64.wrap ((x : Int) * 2 ^ (n % 32)) % 4294967296) = ((h + x * 2 ^ (n % 32) % 4294967296 : Nat) : Int) := by
        rw [e0, show ((x * 2 ^ (n % 32) : Nat) : Int) % 4294967296 = ((x * 2 ^ (n % 32) % 4294967296 : Nat) : Int) from by omega, bits_or_u32_nat _ _ h32 (by omega), s1]
      have hx2 := Nat.pow_le_pow_right (show 0 < 2 by decide) (show n % 32 ≤ 32 by omega)
      have e2 : IntKind.u64.wrap ((x : Int) * 2 ^ (n % 32)) / 4294967296 % 4294967296 = ((x * 2 ^ (n % 32) / 4294967296 : Nat) : Int) := by
        rw [e0]; omega
      have hk2 := (hkr.midPush Hpl.out _ e1)
      have hk3 := hk2.midSet (i := n / 32 + k + 1) (by simp [Hmk.out]; omega) _ e2
      go_roundw
      case rel => exact ⟨k + 1, m ++ [h + x * 2 ^ (n % 32) % 4294967296], x * 2 ^ (n % 32) / 4294967296, by omega, by go_num, by simp [Hmk.out], Hm.out.append (W32.cons s2 W32.nil), s3, by rw [num_take_succ HX.out]; exact s4, by rw [← List.append_assoc]; exact hk3, (hbr.setCell (Nat.le_refl _) _).setCell (Nat.le_refl _) _⟩
      case measure => simp [intOf]; omega
    · go_wp2
      go_ret
      obtain rfl : k = l.length := by omega
      rw [Nat.sub_self, List.replicate_zero] at hkr
      refine ⟨(List.replicate (n / 32) 0 ++ m) ++ [h], by simp [Hmk.out]; omega, hkr, ((W32.rep _).append Hm.out).append (W32.cons h32 W32.nil), ?_, by simp [Hmk.out]; omega, hbr⟩
      have e1 : num (m ++ [h]) = num l * 2 ^ (n % 32) := by rw [num_append, Hmk.out]; simp only [num]; have := HS.out; rw [List.take_length] at this; rw [← this]; simp
      rw [List.append_assoc, num_append, num_rep, e1, Nat.zero_add, List.length_replicate, pow32, Nat.mul_comm, Nat.mul_assoc, ← Nat.pow_add, Nat.mod_add_div]
end Go.Proofs.YtmokomfneikipaaDoor
