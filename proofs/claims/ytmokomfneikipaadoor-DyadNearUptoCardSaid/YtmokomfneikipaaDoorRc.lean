/- Contracts of package steelyardref02: Times. No statement of the seat is proved here. -/
import Derived.Test.YtmokomfneikipaaDoorProg
import Derived.Test.YtmokomfneikipaaDoorRa
namespace Go.Proofs.YtmokomfneikipaaDoor
open Go.RowKit
set_option linter.unusedVariables false
set_option linter.unusedSimpArgs false

set_option maxHeartbeats 2000000 in
set_option maxRecDepth 10000 in
theorem rtimes_any (a b : Option Addr) (c d : Nat) (l m : List Nat) (w : World) (hlen : l.length + m.length ≤ 35184372088832) (hw : W32 l) (hr : Rd w a l) (hw2 : W32 m) (hr2 : Rd w b m) :
    Calls Tryd.prog 75 #[.slice a l.length c, .slice b m.length d] w fun e w' => ∃ a' c', e = .returned (.slice a' (words (num l * num m)).length c') ∧ Own w' 64 w.heap.size a' c' (words (num l * num m)) ∧ Below w.heap.size w w' := by
  obtain ⟨i0, hi, hz0, hz1, hz2⟩ := info_parts infoW
  have HR := Lib.hid hr; clear hr
  have HR2 := Lib.hid hr2; clear hr2
  go_enter Tryd.func75, Tryd.ntmps75
  go_wp2_with (first | (at_make; refine wpList_make_blk _ rfl _ _ 24 rfl 64 i0 Tryd.underlying24 hi hz0 hz1 hz2 _ _ _ _ (l.length + m.length) rfl rfl (by simp) (by simp) (by omega) ?_; intro w1 hk1 hb1 hs1))
  go_loopw [6] (fun s wr => ∃ (i : Nat) (p : List Nat), i ≤ l.length ∧ s = .int .i64 i ∧ Hid (p.length = i + m.length ∧ W32 p ∧ num p = num (l.take i) * num m) ∧ Blk wr 64 w.heap.size (p ++ List.replicate (l.length - i) 0) ∧ Below w.heap.size w wr) (fun s _ => l.length - (intOf s).toNat)
  case atStart => exact ⟨0, List.replicate m.length 0, Nat.zero_le _, rfl, ⟨by simp, W32.rep _, by simp [num, num_rep]⟩, by simpa [List.replicate_append_replicate, Nat.add_comm] using hk1, hb1⟩
  case round =>
    obtain ⟨i, p, hi2, rfl, HP, hkr, hbr⟩ := hrel
    have HW := Lib.hid hw; clear hw
    have HW2 := Lib.hid hw2; clear hw2
    by_cases hlt : i < l.length
    · obtain ⟨ba, offa, x, ha, hcell, hx, HX⟩ := (HR.out.grow hbr).at HW.out hlt
      subst ha
      clear hcell
      rw [rep_succ hlt] at hkr
      go_wp2
      go_loopw [8, 7] (fun s o wr => ∃ (j over : Nat) (p1 q : List Nat), j ≤ m.length ∧ s = .int .i64 j ∧ o = .int .u64 over ∧ over < 4294967296 ∧ Hid (p1.length = i + j ∧ q.length = m.length - j ∧ W32 p1 ∧ W32 q ∧
          num p1 + over * 4294967296 ^ (i + j) + 4294967296 ^ (i + j) * num q = num (l.take i) * num m + x * 4294967296 ^ i * num (m.take j)) ∧ Blk wr 64 w.heap.size (p1 ++ q ++ 0 :: List.replicate (l.length - (i + 1)) 0) ∧ Below w.heap.size w wr) (fun s _ _ => m.length - (intOf s).toNat)
      case atStart =>
        refine ⟨0, 0, p.take i, p.drop i, Nat.zero_le _, rfl, rfl, by decide, ?_, by rw [List.take_append_drop]; exact hkr, hbr⟩
        obtain ⟨h1, h2, h3⟩ := HP.out
        refine ⟨by simp; omega, by simp; omega, h2.take _, h2.drop _, ?_⟩
        have := num_append (p.take i) (p.drop i)
        rw [List.take_append_drop, h3] at this
        have h4 : (p.take i).length = i := by simp; omega
        rw [h4] at this
        simp [num]; omega
      case round =>
        obtain ⟨j, over, p1, q, hj, rfl, rfl, hov, HQ, hkr2, hbr2⟩ := hrel
        by_cases hlt2 : j < m.length
        · obtain ⟨ba', offa', x', ha', hcell, hx', HX'⟩ := (HR.out.grow hbr2).at HW.out hlt
          simp only [Option.some.injEq, Addr.mk.injEq, and_true] at ha'
          obtain ⟨rfl, rfl⟩ := ha'
          have hxx : x' = x := by have h1 := HX'.out; rw [HX.out] at h1; exact (Option.some.inj h1).symm
          subst hxx
          obtain ⟨bb, offb, y, hb2', hcell2, hy, HY⟩ := (HR2.out.grow hbr2).at HW2.out hlt2
          subst hb2'
          obtain ⟨s, q', hq⟩ : ∃ s q', q = s :: q' := by
            cases q with
            | nil => have := HQ.out.2.1; simp at this; omega
            | cons s q' => exact ⟨s, q', rfl⟩
          subst hq
          have hs : s < 4294967296 := HQ.out.2.2.2.1.head
          have hkr3 : Blk wr 64 w.heap.size (p1 ++ s :: (q' ++ 0 :: List.replicate (l.length - (i + 1)) 0)) := by simpa using hkr2
          have hc3 := hkr3.midCell HQ.out.1.symm
          have hf3 := hkr3.frozen (i + j)
          have HM := Lib.hid (mul_wrap hx hy hs hov)
          have HM2 := Lib.hid (mul_w hx hy hs hov)
          go_wp2
          go_quiet (fail)
          go_wp2
          obtain ⟨q1, q2, q3, q4, q5⟩ := HQ.out
          obtain ⟨m1, m2, m3⟩ := HM2.out
          have hk4 := (show Blk (wr.drewN nq) 64 w.heap.size _ from hkr3).midPush q1.symm ((x' * y + s + over) % 4294967296) (v := IntKind.u64.wrap (IntKind.u64.wrap (IntKind.u64.wrap ((x' : Int) * (y : Int)) + (s : Int)) + (over : Int)) % 4294967296) (by rw [HM.out]; omega)
          go_roundw
          case rel => exact ⟨j + 1, (x' * y + s + over) / 4294967296, p1 ++ [(x' * y + s + over) % 4294967296], q', by omega, by go_num, by rw [HM.out]; simp, m2, ⟨by simp [q1]; omega, by simp at q2; omega, q3.append (W32.cons (Nat.mod_lt _ (by decide)) W32.nil), q4.tail, by rw [num_take_succ HY.out]; exact times_step q1 (by simpa [num] using q5)⟩, by simpa using hk4, (below_drewN' hbr2).setCell (Nat.le_refl _) _⟩
          case measure => simp [intOf]; omega
        · obtain rfl : j = m.length := by omega
          have hq : q = [] := by have := HQ.out.2.1; simpa using this
          subst hq
          rw [List.append_nil] at hkr2
          have hc3 := hkr2.midCell HQ.out.1.symm
          have hf3 := hkr2.frozen (i + m.length)
          go_wp2
          obtain ⟨q1, q2, q3, q4, q5⟩ := HQ.out
          have hk4 := hkr2.midPush q1.symm over (v := (over : Int)) rfl
          go_roundw
          case rel => exact ⟨i + 1, p1 ++ [over], by omega, by go_num, ⟨by simp [q1]; omega, q3.append (W32.cons hov W32.nil), by
            rw [List.take_length] at q5
            rw [num_take_succ HX.out, num_append, q1, Nat.add_mul]
            simp only [num] at q5 ⊢
            have e3 : 4294967296 ^ i * x * num m = x * 4294967296 ^ i * num m := by rw [Nat.mul_comm x]
            rw [e3, ← q5, Nat.mul_comm over, Nat.mul_zero, Nat.mul_zero, Nat.add_zero, Nat.add_zero]⟩, hk4, hbr2.setCell (Nat.le_refl _) _⟩
          case measure => simp [intOf]; omega
    · obtain rfl : i = l.length := by omega
      obtain ⟨h1, h2, h3⟩ := HP.out
      rw [Nat.sub_self, List.replicate_zero, List.append_nil] at hkr
      rw [List.take_length] at h3
      have N1 := rnorm_any (some ⟨w.heap.size, 0, none⟩) (l.length + m.length) p wr (by omega) ⟨hkr.rd, h2, by omega, by intro h; cases h⟩
      rw [h3, h1] at N1
      have HN := Lib.hid N1; clear N1 h1 h2 h3
      go_wp2_with fail
      refine HN.out.mono ?_; rintro e w1 ⟨a2, c2, rfl, ho2, hb2⟩
      go_wp2
      go_ret
      exact ⟨a2, c2, rfl, ho2.mono hbr.size, hbr.trans (hb2.mono hbr.size)⟩
end Go.Proofs.YtmokomfneikipaaDoor
