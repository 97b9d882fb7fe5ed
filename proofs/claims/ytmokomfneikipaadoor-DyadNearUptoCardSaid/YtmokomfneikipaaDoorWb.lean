/- Contracts of package wide's loops that make words: up, down, less, times. No statement of the seat is proved here. -/
import Derived.Test.YtmokomfneikipaaDoorProg
import Derived.Test.YtmokomfneikipaaDoorBit
namespace Go.Proofs.YtmokomfneikipaaDoor
open Go.RowKit
set_option linter.unusedVariables false
set_option linter.unusedSimpArgs false

theorem infoW : (Tryd.prog.info? 64).map (fun i => (i.zero, i.size, i.bytes)) = some (some (.int .u32 0), 1, 4) := by kernel_rfl

/-- a word of a number, and of the number shifted to the right -/
theorem down_word {l : List Nat} (hw : W32 l) {k x y by_ : Nat} (hb : by_ < 32) (hx : l[k]? = some x) (hy : l.getD (k + 1) 0 = y) :
    num l / 2 ^ by_ / 4294967296 ^ k % 4294967296 = (x + 4294967296 * y) / 2 ^ by_ % 4294967296 := by
  have hk := (List.getElem?_eq_some_iff.1 hx).1
  have e1 : num l / 4294967296 ^ k = x + 4294967296 * (y + 4294967296 * num (l.drop (k + 2))) := by
    rw [← num_drop hw]
    have h1 : l.drop k = x :: l.drop (k + 1) := by
      rw [List.drop_eq_getElem_cons hk]; congr 1; exact (List.getElem?_eq_some_iff.1 hx).2
    have h2 : num (l.drop (k + 1)) = y + 4294967296 * num (l.drop (k + 2)) := by
      by_cases hk1 : k + 1 < l.length
      · have hyy : l[k + 1]? = some y := by rw [List.getD_eq_getElem?_getD, List.getElem?_eq_getElem hk1] at hy; rw [List.getElem?_eq_getElem hk1]; simpa using hy
        have : l.drop (k + 1) = y :: l.drop (k + 2) := by
          rw [List.drop_eq_getElem_cons hk1]; congr 1; exact (List.getElem?_eq_some_iff.1 hyy).2
        rw [this]; rfl
      · have : y = 0 := by rw [← hy, List.getD_eq_getElem?_getD, List.getElem?_eq_none (by omega)]; rfl
        rw [List.drop_of_length_le (by omega), List.drop_of_length_le (by omega), this]; rfl
    rw [h1, num, h2]
  rw [Nat.div_div_eq_div_mul, Nat.mul_comm, ← Nat.div_div_eq_div_mul, e1]
  obtain ⟨d, hd⟩ : ∃ d, 4294967296 * 4294967296 = 2 ^ by_ * (4294967296 * d) := by
    refine ⟨2 ^ (32 - by_), ?_⟩
    rw [Nat.mul_comm 4294967296 (2 ^ _), ← Nat.mul_assoc, ← Nat.pow_add, show by_ + (32 - by_) = 32 by omega]
  have e2 : x + 4294967296 * (y + 4294967296 * num (l.drop (k + 2))) = (x + 4294967296 * y) + 2 ^ by_ * (4294967296 * (d * num (l.drop (k + 2)))) := by
    rw [← Nat.mul_assoc (4294967296 : Nat) d, ← Nat.mul_assoc, ← hd, Nat.mul_add]; rw [Nat.mul_assoc]; omega
  rw [e2, Nat.add_mul_div_left _ _ (Nat.two_pow_pos _), Nat.add_mul_mod_self_left]

set_option maxRecDepth 10000 in
set_option maxHeartbeats 400000 in
theorem down_any (a : Option Addr) (c : Nat) (l : List Nat) (by_ : Nat) (w : World) (hlen : l.length ≤ 70368744177664) (hb : by_ < 32) (hw : W32 l) (hr : Rd w a l) :
    Calls Tryd.prog 89 #[.slice a l.length c, .int .i64 (by_ : Int)] w fun e w' => e = .returned (.slice (some ⟨w.heap.size, 0, none⟩) l.length l.length) ∧ Blk w' 64 w.heap.size (digs l.length (num l / 2 ^ by_)) ∧ Below w.heap.size w w' := by
  obtain ⟨i0, hi, hz0, hz1, hz2⟩ := info_parts infoW
  obtain ⟨L, hL⟩ : ∃ L, L = digs l.length (num l / 2 ^ by_) := ⟨_, rfl⟩
  have hLl : L.length = l.length := by rw [hL, digs_len]
  have hLw : W32 L := by rw [hL]; exact W32_digs _ _
  rw [← hL]
  have HL := Lib.hid hL; clear hL
  have HLl := Lib.hid hLl; clear hLl
  have HLw := Lib.hid hLw; clear hLw
  go_enter Tryd.func89, Tryd.ntmps89
  go_wp2_with (first | (at_make; refine wpList_make_blk _ rfl _ _ 24 rfl 64 i0 Tryd.underlying24 hi hz0 hz1 hz2 _ _ _ _ l.length rfl rfl rfl rfl (by omega) ?_; intro w1 hk1 hb1 hs1))
  go_loopw [14] (fun s wr => ∃ k : Nat, k ≤ l.length ∧ s = .int .i64 k ∧ Blk wr 64 w.heap.size (fillTo L k) ∧ Below w.heap.size w wr) (fun s _ => l.length - (intOf s).toNat)
  case atStart => exact ⟨0, Nat.zero_le _, rfl, by rw [fillTo_zero, HLl.out]; exact hk1, hb1⟩
  case round =>
    obtain ⟨k, hk, rfl, hkr, hbr⟩ := hrel
    have HW := Lib.hid hw; clear hw
    by_cases hlt : k < l.length
    · obtain ⟨b, off, x, rfl, hcell, hx, HX⟩ := (hr.grow hbr).at HW.out hlt
      obtain ⟨y, hy, hy2, HY⟩ := hkr.at (W32_fillTo HLw.out k) (show k < _ by rw [fillTo_len _ _ (by rw [HLl.out]; exact hk), HLl.out]; exact hlt)
      have hf1 := hkr.frozen k
      by_cases hlt1 : k + 1 < l.length
      · obtain ⟨b', off', x', hbb, hcell', hx', HX'⟩ := (hr.grow hbr).at HW.out hlt1
        simp only [Option.some.injEq, Addr.mk.injEq, and_true] at hbb
        obtain ⟨rfl, rfl⟩ := hbb
        have HR := Lib.hid hr; clear hr
        have hd : L[k]? = some (((x + 4294967296 * x') / 2 ^ by_ % 4294967296)) := by
          rw [HL.out, digs_get _ hlt, down_word (y := x') HW.out hb HX.out (by rw [List.getD_eq_getElem?_getD, HX'.out]; rfl)]
        have HD := Lib.hid hd; clear hd
        go_wp2
        have e1 : bits BinOp.or IntKind.u64 (x : Int) (↑x' * 4294967296) = ((x + 4294967296 * x' : Nat) : Int) := by
          have := bits_or_u64_nat x (x' * 4294967296) (by omega) (by omega)
          rw [or_add (k := 32) (by omega) (by omega)] at this
          rw [show ((x' : Int) * 4294967296) = ((x' * 4294967296 : Nat) : Int) from by simp, this, Nat.mul_comm]
        go_roundw
        case rel => exact ⟨k + 1, by omega, by go_num, hkr.fill rfl HD.out (by rw [e1]; simp), hbr.setCell (Nat.le_refl _) _⟩
        case measure => simp [intOf]; omega
      · have HR := Lib.hid hr; clear hr
        have hd : L[k]? = some (((x + 4294967296 * 0) / 2 ^ by_ % 4294967296)) := by
          rw [HL.out, digs_get _ hlt, down_word (y := 0) HW.out hb HX.out (by rw [List.getD_eq_getElem?_getD, List.getElem?_eq_none (by omega)]; rfl)]
        have HD := Lib.hid hd; clear hd
        go_wp2
        go_roundw
        case rel => exact ⟨k + 1, by omega, by go_num, hkr.fill rfl HD.out (by simp), hbr.setCell (Nat.le_refl _) _⟩
        case measure => simp [intOf]; omega
    · go_wp2
      go_ret
      obtain rfl : k = l.length := by omega
      exact ⟨rfl, by rw [← HLl.out, fillTo_all] at hkr; exact hkr, hbr⟩

theorem rep_succ {n k : Nat} (h : k < n) : List.replicate (n - k) 0 = 0 :: List.replicate (n - (k + 1)) 0 := by
  obtain ⟨d, hd⟩ : ∃ d, n - k = d + 1 := ⟨n - k - 1, by omega⟩
  rw [hd, List.replicate_succ]; congr 2; omega

theorem up_step {m : List Nat} {h x by_ S k : Nat} (hb : by_ < 32) (hx : x < 4294967296) (hm : W32 m) (hk : m.length = k) (hh : h < 2 ^ by_) (hS : num m + 4294967296 ^ k * h = S * 2 ^ by_) :
    h ||| (x * 2 ^ by_ % 4294967296) = h + x * 2 ^ by_ % 4294967296 ∧ h + x * 2 ^ by_ % 4294967296 < 4294967296 ∧ x * 2 ^ by_ / 4294967296 < 2 ^ by_ ∧
      num (m ++ [h + x * 2 ^ by_ % 4294967296]) + 4294967296 ^ (k + 1) * (x * 2 ^ by_ / 4294967296) = (S + 4294967296 ^ k * x) * 2 ^ by_ := by
  obtain ⟨d, hd⟩ : ∃ d, 4294967296 = 2 ^ by_ * d := ⟨2 ^ (32 - by_), by rw [← Nat.pow_add, show by_ + (32 - by_) = 32 by omega]⟩
  have hp := Nat.two_pow_pos by_
  have e0 : x * 2 ^ by_ % 4294967296 = 2 ^ by_ * (x % d) := by rw [hd, Nat.mul_comm x, Nat.mul_mod_mul_left]
  have hdp : 0 < d := by rcases Nat.eq_zero_or_pos d with h0 | h0; · rw [h0] at hd; omega
                         · exact h0
  have hxd : x % d + 1 ≤ d := Nat.mod_lt _ hdp
  have hle := Nat.mul_le_mul_left (2 ^ by_) hxd
  rw [Nat.mul_add, ← hd, Nat.mul_one] at hle
  refine ⟨or_add hh (by rw [e0]; exact Nat.mul_mod_right _ _), by rw [e0]; omega, ?_, ?_⟩
  · apply Nat.div_lt_of_lt_mul
    exact Nat.mul_lt_mul_of_pos_right hx hp
  · rw [num_append, hk]
    have e1 := Nat.div_add_mod (x * 2 ^ by_) 4294967296
    generalize x * 2 ^ by_ % 4294967296 = r at *
    generalize x * 2 ^ by_ / 4294967296 = q at *
    rw [Nat.pow_succ, Nat.add_mul, ← hS]
    have e2 : 4294967296 ^ k * x * 2 ^ by_ = 4294967296 ^ k * (4294967296 * q + r) := by rw [e1, Nat.mul_assoc]
    rw [e2]
    simp only [num]
    generalize 4294967296 ^ k = P at *
    grind

set_option maxRecDepth 10000 in
set_option maxHeartbeats 400000 in
theorem up_any (a : Option Addr) (c : Nat) (l : List Nat) (by_ : Nat) (w : World) (hlen : l.length ≤ 35184372088832) (hb : by_ < 32) (hw : W32 l) (hr : Rd w a l) :
    Calls Tryd.prog 91 #[.slice a l.length c, .int .i64 (by_ : Int)] w fun e w' => e = .returned (.slice (some ⟨w.heap.size, 0, none⟩) (l.length + 1) (l.length + 1)) ∧ Blk w' 64 w.heap.size (digs (l.length + 1) (num l * 2 ^ by_)) ∧ Below w.heap.size w w' := by
  obtain ⟨i0, hi, hz0, hz1, hz2⟩ := info_parts infoW
  go_enter Tryd.func91, Tryd.ntmps91
  go_wp2_with (first | (at_make; refine wpList_make_blk _ rfl _ _ 24 rfl 64 i0 Tryd.underlying24 hi hz0 hz1 hz2 _ _ _ _ (l.length + 1) rfl rfl (by simp) (by simp) (by omega) ?_; intro w1 hk1 hb1 hs1))
  go_loopw [15] (fun s wr => ∃ (k : Nat) (m : List Nat) (h : Nat), k ≤ l.length ∧ s = .int .i64 k ∧ m.length = k ∧ W32 m ∧ h < 2 ^ by_ ∧ Hid (num m + 4294967296 ^ k * h = num (l.take k) * 2 ^ by_) ∧ Blk wr 64 w.heap.size (m ++ h :: List.replicate (l.length - k) 0) ∧ Below w.heap.size w wr) (fun s _ => l.length - (intOf s).toNat)
  case atStart => exact ⟨0, [], 0, Nat.zero_le _, rfl, rfl, W32.nil, Nat.two_pow_pos _, by simp [Hid, num], by simpa [List.replicate_succ] using hk1, hb1⟩
  case round =>
    obtain ⟨k, m, h, hk, rfl, hmk, hm, hh, HS, hkr, hbr⟩ := hrel
    have HW := Lib.hid hw; clear hw
    have Hm := Lib.hid hm; clear hm
    have Hmk := Lib.hid hmk; clear hmk
    have h32 : h < 4294967296 := Nat.lt_of_lt_of_le hh (by have := Nat.pow_le_pow_right (show 0 < 2 by decide) (show by_ ≤ 32 by omega); simpa using this)
    by_cases hlt : k < l.length
    · obtain ⟨b, off, x, rfl, hcell, hx, HX⟩ := (hr.grow hbr).at HW.out hlt
      have HR := Lib.hid hr; clear hr
      rw [rep_succ hlt] at hkr
      have hc1 := hkr.midCell Hmk.out.symm
      have hc2 : wr.cell? ⟨w.heap.size, k + 1, none⟩ = some (.int .u32 ((0 : Nat) : Int)) := by
        have := hkr; rw [show ∀ z, m ++ h :: 0 :: z = (m ++ [h]) ++ 0 :: z from fun z => by simp] at this
        exact this.midCell (by simp [Hmk.out])
      have hf1 := hkr.frozen k
      have hf2 := hkr.frozen (k + 1)
      have Hst := Lib.hid (up_step hb hx Hm.out Hmk.out hh HS.out)
      have Hhh := Lib.hid hh; clear hh
      go_wp2
      obtain ⟨s1, s2, s3, s4⟩ := Hst.out
      have hxb : x * 2 ^ by_ < 18446744073709551616 := by
        have := Nat.mul_lt_mul_of_lt_of_le hx (Nat.pow_le_pow_right (show 0 < 2 by decide) (show by_ ≤ 32 by omega)) (by decide)
        simpa using this
      have e0 : IntKind.u64.wrap ((x : Int) * 2 ^ by_) = ((x * 2 ^ by_ : Nat) : Int) := by
        rw [show ((x : Int) * 2 ^ by_) = ((x * 2 ^ by_ : Nat) : Int) from by simp]; exact wrap_u64_nat _ hxb
      have e1 : bits BinOp.or IntKind.u32 (h : Int) (IntKind.u64.wrap ((x : Int) * 2 ^ by_) % 4294967296) = ((h + x * 2 ^ by_ % 4294967296 : Nat) : Int) := by
        rw [e0, show ((x * 2 ^ by_ : Nat) : Int) % 4294967296 = ((x * 2 ^ by_ % 4294967296 : Nat) : Int) from by omega, bits_or_u32_nat _ _ h32 (by omega), s1]
      have hx2 := Nat.pow_le_pow_right (show 0 < 2 by decide) (show by_ ≤ 32 by omega)
      have e2 : IntKind.u64.wrap ((x : Int) * 2 ^ by_) / 4294967296 % 4294967296 = ((x * 2 ^ by_ / 4294967296 : Nat) : Int) := by
        rw [e0]; omega
      have hk2 := (hkr.midPush Hmk.out.symm _ e1)
      have hk3 := hk2.midSet (i := k + 1) (by simp [Hmk.out]) _ e2
      go_roundw
      case rel => exact ⟨k + 1, m ++ [h + x * 2 ^ by_ % 4294967296], x * 2 ^ by_ / 4294967296, by omega, by go_num, by simp [Hmk.out], Hm.out.append (W32.cons s2 W32.nil), s3, by rw [num_take_succ HX.out]; exact s4, hk3, (hbr.setCell (Nat.le_refl _) _).setCell (Nat.le_refl _) _⟩
      case measure => simp [intOf]; omega
    · go_wp2
      go_ret
      obtain rfl : k = l.length := by omega
      refine ⟨rfl, ?_, hbr⟩
      rw [Nat.sub_self] at hkr
      have hl2 := num_lt (Hm.out.append (W32.cons h32 W32.nil))
      have e1 : num (m ++ [h]) = num l * 2 ^ by_ := by rw [num_append, Hmk.out]; simp only [num]; have := HS.out; rw [List.take_length] at this; rw [← this]; simp
      have : m ++ [h] = digs (l.length + 1) (num l * 2 ^ by_) := digs_eq (Hm.out.append (W32.cons h32 W32.nil)) (by simp [Hmk.out]) (by rw [e1] at hl2 ⊢; rw [Nat.mod_eq_of_lt]; simpa [Hmk.out] using hl2)
      rw [← this]; exact hkr

theorem sub32_law (x y c : Nat) (hx : x < 4294967296) (hy : y < 4294967296) (hc : c ≤ 1) : sub32 x y c < 4294967296 ∧ sub32 x y c + y + c = x + borrow x y c * 4294967296 := by
  unfold sub32 borrow; split <;> omega

set_option maxRecDepth 10000 in
set_option maxHeartbeats 400000 in
theorem less_any (a b : Option Addr) (c d : Nat) (l m : List Nat) (w : World) (hlen : l.length ≤ 70368744177664) (hml : m.length ≤ l.length) (hw : W32 l) (hr : Rd w a l) (hw2 : W32 m) (hr2 : Rd w b m) (hle : num m ≤ num l) :
    Calls Tryd.prog 94 #[.slice a l.length c, .slice b m.length d] w fun e w' => e = .returned (.slice (some ⟨w.heap.size, 0, none⟩) l.length l.length) ∧ Blk w' 64 w.heap.size (digs l.length (num l - num m)) ∧ Below w.heap.size w w' := by
  obtain ⟨i0, hi, hz0, hz1, hz2⟩ := info_parts infoW
  have HL := Lib.hid hle; clear hle
  go_enter Tryd.func94, Tryd.ntmps94
  go_wp2_with (first | (at_make; refine wpList_make_blk _ rfl _ _ 24 rfl 64 i0 Tryd.underlying24 hi hz0 hz1 hz2 _ _ _ _ l.length rfl rfl rfl rfl (by omega) ?_; intro w1 hk1 hb1 hs1))
  go_loopw [14, 6] (fun s o wr => ∃ (k c : Nat) (p : List Nat), k ≤ l.length ∧ s = .int .i64 k ∧ o = .int .u32 c ∧ c ≤ 1 ∧ Hid (p.length = k ∧ W32 p ∧ num p + num (m.take k) = num (l.take k) + c * 4294967296 ^ k) ∧ Blk wr 64 w.heap.size (p ++ List.replicate (l.length - k) 0) ∧ Below w.heap.size w wr) (fun s _ _ => l.length - (intOf s).toNat)
  case atStart => exact ⟨0, 0, [], Nat.zero_le _, rfl, rfl, by decide, ⟨rfl, W32.nil, by simp [num]⟩, by simpa using hk1, hb1⟩
  case round =>
    obtain ⟨k, c, p, hk, rfl, rfl, hc, HS, hkr, hbr⟩ := hrel
    have HW := Lib.hid hw; clear hw
    have HW2 := Lib.hid hw2; clear hw2
    by_cases hlt : k < l.length
    · obtain ⟨ba, offa, x, rfl, hcell, hx, HX⟩ := (hr.grow hbr).at HW.out hlt
      have HR := Lib.hid hr; clear hr
      rw [rep_succ hlt] at hkr
      have hc1 := hkr.midCell HS.out.1.symm
      have hf1 := hkr.frozen k
      by_cases hlt2 : k < m.length
      · obtain ⟨bb, offb, y, rfl, hcell2, hy, HY⟩ := (hr2.grow hbr).at HW2.out hlt2
        have HR2 := Lib.hid hr2; clear hr2
        have Hst := Lib.hid (sub32_law x y c hx hy hc)
        have hbo := borrow_le x y c
        go_wp2_with (go_at_call 109; refine (sub32_any x y c hx hy hc _).mono ?_; rintro e w' ⟨rfl, rfl⟩)
        obtain ⟨s1, s2⟩ := Hst.out
        obtain ⟨q1, q2, q3⟩ := HS.out
        have hk2 := hkr.midPush q1.symm (sub32 x y c) rfl
        go_roundw
        case rel => exact ⟨k + 1, borrow x y c, p ++ [sub32 x y c], by omega, by go_num, rfl, hbo, ⟨by simp [q1], q2.append (W32.cons s1 W32.nil), by rw [num_append, q1, num_take_succ HX.out, num_take_succ HY.out, Nat.pow_succ]; simp only [num]; generalize 4294967296 ^ k = P at *; generalize borrow x y c = c' at *; grind⟩, hk2, hbr.setCell (Nat.le_refl _) _⟩
        case measure => simp [intOf]; omega
      · have HR2 := Lib.hid hr2; clear hr2
        have Hst := Lib.hid (sub32_law x 0 c hx (by decide) hc)
        have hbo := borrow_le x 0 c
        go_wp2_with (go_at_call 109; refine (sub32_any x 0 c hx (by decide) hc _).mono ?_; rintro e w' ⟨rfl, rfl⟩)
        obtain ⟨s1, s2⟩ := Hst.out
        obtain ⟨q1, q2, q3⟩ := HS.out
        have hk2 := hkr.midPush q1.symm (sub32 x 0 c) rfl
        go_roundw
        case rel => exact ⟨k + 1, borrow x 0 c, p ++ [sub32 x 0 c], by omega, by go_num, rfl, hbo, ⟨by simp [q1], q2.append (W32.cons s1 W32.nil), by rw [num_append, q1, num_take_succ HX.out, List.take_of_length_le (by omega), Nat.pow_succ]; rw [List.take_of_length_le (by omega)] at q3; simp only [num]; generalize 4294967296 ^ k = P at *; generalize borrow x 0 c = c' at *; grind⟩, hk2, hbr.setCell (Nat.le_refl _) _⟩
        case measure => simp [intOf]; omega
    · go_wp2
      go_ret
      obtain rfl : k = l.length := by omega
      obtain ⟨q1, q2, q3⟩ := HS.out
      refine ⟨rfl, ?_, hbr⟩
      rw [Nat.sub_self, List.replicate_zero, List.append_nil] at hkr
      rw [List.take_length, List.take_of_length_le hml] at q3
      have hl2 := num_lt q2
      rw [q1] at hl2
      have hle := HL.out
      have : p = digs l.length (num l - num m) := digs_eq q2 q1 (by
        rcases Nat.le_one_iff_eq_zero_or_eq_one.1 hc with rfl | rfl
        · rw [Nat.mod_eq_of_lt] <;> omega
        · omega)
      rw [← this]; exact hkr
end Go.Proofs.YtmokomfneikipaaDoor
