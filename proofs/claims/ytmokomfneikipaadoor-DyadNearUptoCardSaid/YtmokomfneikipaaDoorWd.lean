/- Contracts of package wide: Of, Small, both, fits, Sub, times, Mul, Shift. No statement of the seat is proved here. -/
import Derived.Test.YtmokomfneikipaaDoorProg
import Derived.Test.YtmokomfneikipaaDoorWc
namespace Go.Proofs.YtmokomfneikipaaDoor
open Go.RowKit
set_option linter.unusedVariables false
set_option linter.unusedSimpArgs false

theorem num_two (n : Nat) : num [n % 4294967296, n / 4294967296] = n := by simp only [num]; omega

set_option maxHeartbeats 1000000 in
set_option maxRecDepth 10000 in
theorem wof_any (n : Nat) (w : World) (hn : n < 18446744073709551616) :
    Calls Tryd.prog 49 #[.int .u64 (n : Int)] w fun e w' => e = .returned (.slice (some ⟨w.heap.size + 1, 0, none⟩) (words n).length (words n).length) ∧ Blk w' 64 (w.heap.size + 1) (words n) ∧ Below w.heap.size w w' := by
  obtain ⟨i0, hi, hz0, hz1, hz2⟩ := info_parts infoW
  go_enter Tryd.func49, Tryd.ntmps49
  go_wp2_with fail
  have hB : Blk (w.alloc (Obj.cells #[Value.int .u32 ((n : Int) % 4294967296), Value.int .u32 ((n : Int) / 4294967296)] 64)) 64 w.heap.size [n % 4294967296, n / 4294967296] := by
    unfold Blk; rw [heap_alloc_new]; simp
  have hn2 := num_two n
  have hN := norm_any (some ⟨w.heap.size, 0, none⟩) 2 [n % 4294967296, n / 4294967296] _ (by simp) (W32.cons (by omega) (W32.cons (by omega) W32.nil)) hB.rd
  rw [hn2] at hN
  refine hN.mono ?_
  rintro e w' ⟨rfl, hk, hb⟩
  rw [World.size_alloc] at hk hb ⊢
  clear hn2 hN hB
  go_wp2
  go_ret
  exact ⟨rfl, hk, ((Below.refl _ _).alloc (Nat.le_refl _) _).trans (hb.mono (by omega))⟩

set_option maxHeartbeats 1000000 in
set_option maxRecDepth 10000 in
theorem small_long (a : Option Addr) (c : Nat) (l : List Nat) (w : World) (hlen : l.length ≤ 70368744177664) (hc : l.length ≤ c) (hw : W32 l) (hr : Rd w a l) (hN : 2 < (words (num l)).length) :
    Calls Tryd.prog 99 #[.slice a l.length c] w fun e w' => e = .returned (.tuple #[.int .u64 0, .int .i64 2]) ∧ w = w' := by
  have C1 := Lib.hid (cut_any a c l w hlen hc hw hr)
  have hl1 := words_num_len hw
  clear hr hw
  go_enter Tryd.func99, Tryd.ntmps99
  go_wp2_with fail
  refine C1.out.mono ?_; rintro e w' ⟨rfl, rfl⟩
  go_wp2
  go_ret2
  exact ⟨rfl, rfl⟩

set_option maxHeartbeats 1000000 in
set_option maxRecDepth 10000 in
theorem small_any (a : Option Addr) (c : Nat) (l : List Nat) (w : World) (hlen : l.length ≤ 70368744177664) (hc : l.length ≤ c) (hw : W32 l) (hr : Rd w a l) (hN : num l < 18446744073709551616) :
    Calls Tryd.prog 99 #[.slice a l.length c] w fun e w' => e = .returned (.tuple #[.int .u64 (num l : Int), .int .i64 0]) ∧ w = w' := by
  have C1 := Lib.hid (cut_any a c l w hlen hc hw hr)
  have hl1 := words_num_len hw
  have hR1 := hr.words hw
  have hl2 : (words (num l)).length ≤ 2 := words_len_le (by simpa using hN)
  obtain ⟨N, hN⟩ : ∃ N, N = num l := ⟨_, rfl⟩
  rw [← hN] at C1 hl1 hR1 hl2 ⊢
  clear hN hr hw
  have hn := num_words N
  have hw := W32_words N
  generalize words N = W at *
  match W, hl2, hn, hw, C1, hl1, hR1 with
  | [], _, hn, _, C1, _, _ =>
    have HN := Lib.hid hn; clear hn
    go_enter Tryd.func99, Tryd.ntmps99
    go_wp2_with fail
    refine C1.out.mono ?_; rintro e w' ⟨rfl, rfl⟩
    go_wp2
    go_ret2
    refine ⟨ret2i ?_ rfl, rfl⟩
    rw [← HN.out]; rfl
  | [x], _, hn, hw, C1, _, hR1 =>
    have HN := Lib.hid hn; clear hn
    obtain ⟨b, off, x', rfl, hcell, hx, HX⟩ := hR1.at hw (show 0 < 1 by decide)
    have : x' = x := by have := HX.out; simpa using this.symm
    subst this
    rw [Nat.add_zero] at hcell
    have hor : bits BinOp.or IntKind.u64 0 (x' : Int) = (x' : Int) := by
      have := bits_or_u64_nat 0 x' (by decide) (by omega); rw [Nat.zero_or] at this; exact this
    clear hR1 hw
    go_enter Tryd.func99, Tryd.ntmps99
    go_wp2_with fail
    refine C1.out.mono ?_; rintro e w' ⟨rfl, rfl⟩
    go_wp2
    go_ret2
    refine ⟨ret2i ?_ rfl, rfl⟩
    rw [← HN.out]; simp [num]
  | [x, y], _, hn, hw, C1, _, hR1 =>
    have HN := Lib.hid hn; clear hn
    obtain ⟨b, off, x', rfl, hcell, hx, HX⟩ := hR1.at hw (show 0 < 2 by decide)
    obtain ⟨b', off', y', hbb, hcell', hy, HY⟩ := hR1.at hw (show 1 < 2 by decide)
    simp only [Option.some.injEq, Addr.mk.injEq, and_true] at hbb
    obtain ⟨rfl, rfl⟩ := hbb
    have : x' = x := by have := HX.out; simpa using this.symm
    subst this
    have : y' = y := by have := HY.out; simpa using this.symm
    subst this
    rw [Nat.add_zero] at hcell
    have hor : bits BinOp.or IntKind.u64 ((y' : Int) * 4294967296) (x' : Int) = ((x' + 4294967296 * y' : Nat) : Int) := by
      have := bits_or_u64_nat (y' * 4294967296) x' (by omega) (by omega)
      rw [or_add' (k := 32) (by omega) (by omega)] at this
      rw [show ((y' : Int) * 4294967296) = ((y' * 4294967296 : Nat) : Int) from by simp, this]; congr 1; omega
    have HOR := Lib.hid hor; clear hor
    clear hR1 hw
    go_enter Tryd.func99, Tryd.ntmps99
    go_wp2_with fail
    refine C1.out.mono ?_; rintro e w' ⟨rfl, rfl⟩
    go_wp2
    go_ret2
    refine ⟨ret2i ?_ rfl, rfl⟩
    rw [← HN.out, HOR.out]; simp [num]
  | _ :: _ :: _ :: _, h, _, _, _, _, _ => simp at h

set_option maxHeartbeats 1000000 in
set_option maxRecDepth 10000 in
theorem fits_any (a : Option Addr) (c : Nat) (l : List Nat) (w : World) (hlen : l.length ≤ 70368744177664) (hc : l.length ≤ c) (hw : W32 l) (hr : Rd w a l) (hN : (words (num l)).length ≤ 8192) :
    Calls Tryd.prog 90 #[.slice a l.length c] w fun e w' => e = .returned (.tuple #[.slice a (words (num l)).length (words (num l)).length, .int .i64 0]) ∧ w = w' := by
  have C1 := Lib.hid (cut_any a c l w hlen hc hw hr)
  have hl1 := words_num_len hw
  clear hr hw
  go_enter Tryd.func90, Tryd.ntmps90
  go_wp2_with fail
  refine C1.out.mono ?_; rintro e w' ⟨rfl, rfl⟩
  go_wp2
  go_ret2
  exact ⟨rfl, rfl⟩
set_option maxHeartbeats 1000000 in
set_option maxRecDepth 10000 in
theorem fits_long (a : Option Addr) (c : Nat) (l : List Nat) (w : World) (hlen : l.length ≤ 70368744177664) (hc : l.length ≤ c) (hw : W32 l) (hr : Rd w a l) (hN : 8192 < (words (num l)).length) :
    Calls Tryd.prog 90 #[.slice a l.length c] w fun e w' => e = .returned (.tuple #[.slice none 0 0, .int .i64 2]) ∧ w = w' := by
  have C1 := Lib.hid (cut_any a c l w hlen hc hw hr)
  have hl1 := words_num_len hw
  clear hr hw
  go_enter Tryd.func90, Tryd.ntmps90
  go_wp2_with fail
  refine C1.out.mono ?_; rintro e w' ⟨rfl, rfl⟩
  go_wp2
  go_ret2
  exact ⟨rfl, rfl⟩

set_option maxHeartbeats 1000000 in
set_option maxRecDepth 10000 in
theorem wboth_any (a b : Option Addr) (c d : Nat) (l m : List Nat) (w : World) (hlen : l.length ≤ 70368744177664) (hc : l.length ≤ c) (hw : W32 l) (hr : Rd w a l) (hlen2 : m.length ≤ 70368744177664) (hd : m.length ≤ d) (hw2 : W32 m) (hr2 : Rd w b m)
    (h1 : (words (num l)).length ≤ 8192) (h2 : (words (num m)).length ≤ 8192) :
    Calls Tryd.prog 93 #[.slice a l.length c, .slice b m.length d] w fun e w' => e = .returned (.tuple #[.slice a (words (num l)).length c, .slice b (words (num m)).length d, .int .i64 0]) ∧ w = w' := by
  have C1 := Lib.hid (cut_any a c l w hlen hc hw hr)
  have C2 := Lib.hid (cut_any b d m w hlen2 hd hw2 hr2)
  clear hr hw hr2 hw2
  go_enter Tryd.func93, Tryd.ntmps93
  go_wp2_with fail
  refine C1.out.mono ?_; rintro e w' ⟨rfl, rfl⟩
  go_wp2_with fail
  refine C2.out.mono ?_; rintro e w' ⟨rfl, rfl⟩
  go_wp2
  all_goals (go_ret3; exact ⟨rfl, rfl⟩)
set_option maxHeartbeats 1000000 in
set_option maxRecDepth 10000 in
theorem wboth_long (a b : Option Addr) (c d : Nat) (l m : List Nat) (w : World) (hlen : l.length ≤ 70368744177664) (hc : l.length ≤ c) (hw : W32 l) (hr : Rd w a l) (hlen2 : m.length ≤ 70368744177664) (hd : m.length ≤ d) (hw2 : W32 m) (hr2 : Rd w b m)
    (h1 : 8192 < (words (num l)).length ∨ 8192 < (words (num m)).length) :
    Calls Tryd.prog 93 #[.slice a l.length c, .slice b m.length d] w fun e w' => e = .returned (.tuple #[.slice none 0 0, .slice none 0 0, .int .i64 2]) ∧ w = w' := by
  have C1 := Lib.hid (cut_any a c l w hlen hc hw hr)
  have C2 := Lib.hid (cut_any b d m w hlen2 hd hw2 hr2)
  have hl1 := words_num_len hw
  have hl2 := words_num_len hw2
  clear hr hw hr2 hw2
  go_enter Tryd.func93, Tryd.ntmps93
  go_wp2_with fail
  refine C1.out.mono ?_; rintro e w' ⟨rfl, rfl⟩
  go_wp2_with fail
  refine C2.out.mono ?_; rintro e w' ⟨rfl, rfl⟩
  go_wp2
  all_goals (go_ret3; exact ⟨rfl, rfl⟩)

theorem times_step {p q : List Nat} {s S x y i j over A : Nat} (hp : p.length = i + j) (hA : num p + over * 4294967296 ^ (i + j) + 4294967296 ^ (i + j) * (s + 4294967296 * num q) = S + x * 4294967296 ^ i * A) :
    num (p ++ [(x * y + s + over) % 4294967296]) + (x * y + s + over) / 4294967296 * 4294967296 ^ (i + (j + 1)) + 4294967296 ^ (i + (j + 1)) * num q = S + x * 4294967296 ^ i * (A + 4294967296 ^ j * y) := by
  have e1 := Nat.div_add_mod (x * y + s + over) 4294967296
  rw [num_append, hp]
  simp only [num]
  generalize (x * y + s + over) % 4294967296 = r at *
  generalize (x * y + s + over) / 4294967296 = o at *
  have e2 : 4294967296 ^ (i + (j + 1)) = 4294967296 ^ (i + j) * 4294967296 := by rw [← Nat.add_assoc, Nat.pow_succ]
  have e3 : 4294967296 ^ i * 4294967296 ^ j = 4294967296 ^ (i + j) := (Nat.pow_add _ _ _).symm
  rw [e2]
  have e4 : x * 4294967296 ^ i * (A + 4294967296 ^ j * y) = x * 4294967296 ^ i * A + x * y * 4294967296 ^ (i + j) := by
    rw [← e3]; generalize 4294967296 ^ i = u; generalize 4294967296 ^ j = v; grind
  rw [e4, ← Nat.add_assoc, ← hA]
  generalize 4294967296 ^ (i + j) = P at *
  have e5 : P * (4294967296 * o + r) = P * (x * y + s + over) := by rw [e1]
  generalize x * y = xy at *
  grind

theorem mul_w {x y s o : Nat} (hx : x < 4294967296) (hy : y < 4294967296) (hs : s < 4294967296) (ho : o < 4294967296) : x * y + s + o < 18446744073709551616 ∧ (x * y + s + o) / 4294967296 < 4294967296 ∧ x * y < 18446744073709551616 := by
  have := Nat.mul_le_mul (show x ≤ 4294967295 by omega) (show y ≤ 4294967295 by omega)
  have h1 : x * y + s + o < 18446744073709551616 := by omega
  refine ⟨h1, Nat.div_lt_of_lt_mul (by simpa using h1), by omega⟩

theorem mul_wrap {x y s o : Nat} (hx : x < 4294967296) (hy : y < 4294967296) (hs : s < 4294967296) (ho : o < 4294967296) :
    IntKind.u64.wrap (IntKind.u64.wrap (IntKind.u64.wrap ((x : Int) * (y : Int)) + (s : Int)) + (o : Int)) = ((x * y + s + o : Nat) : Int) := by
  obtain ⟨h1, h2, h3⟩ := mul_w hx hy hs ho
  rw [show ((x : Int) * (y : Int)) = ((x * y : Nat) : Int) from by simp, wrap_u64_nat _ h3, show ((x * y : Nat) : Int) + (s : Int) = ((x * y + s : Nat) : Int) from by simp, wrap_u64_nat _ (by omega),
    show ((x * y + s : Nat) : Int) + (o : Int) = ((x * y + s + o : Nat) : Int) from by simp, wrap_u64_nat _ h1]

set_option maxHeartbeats 1000000 in
set_option maxRecDepth 10000 in
theorem times_any (a b : Option Addr) (c d : Nat) (l m : List Nat) (w : World) (hlen : l.length ≤ 17592186044416) (hlen2 : m.length ≤ 17592186044416) (hw : W32 l) (hr : Rd w a l) (hw2 : W32 m) (hr2 : Rd w b m) :
    Calls Tryd.prog 104 #[.slice a l.length c, .slice b m.length d] w fun e w' => e = .returned (.slice (some ⟨w.heap.size, 0, none⟩) (l.length + m.length) (l.length + m.length)) ∧ Blk w' 64 w.heap.size (digs (l.length + m.length) (num l * num m)) ∧ Below w.heap.size w w' := by
  obtain ⟨i0, hi, hz0, hz1, hz2⟩ := info_parts infoW
  go_enter Tryd.func104, Tryd.ntmps104
  go_wp2_with (first | (at_make; refine wpList_make_blk _ rfl _ _ 24 rfl 64 i0 Tryd.underlying24 hi hz0 hz1 hz2 _ _ _ _ (l.length + m.length) rfl rfl (by simp) (by simp) (by omega) ?_; intro w1 hk1 hb1 hs1))
  go_loopw [20] (fun s wr => ∃ (i : Nat) (p : List Nat), i ≤ l.length ∧ s = .int .i64 i ∧ Hid (p.length = i + m.length ∧ W32 p ∧ num p = num (l.take i) * num m) ∧ Blk wr 64 w.heap.size (p ++ List.replicate (l.length - i) 0) ∧ Below w.heap.size w wr) (fun s _ => l.length - (intOf s).toNat)
  case atStart => exact ⟨0, List.replicate m.length 0, Nat.zero_le _, rfl, ⟨by simp, W32.rep _, by simp [num, num_rep]⟩, by simpa [List.replicate_append_replicate, Nat.add_comm] using hk1, hb1⟩
  case round =>
    obtain ⟨i, p, hi2, rfl, HP, hkr, hbr⟩ := hrel
    have HW := Lib.hid hw; clear hw
    have HW2 := Lib.hid hw2; clear hw2
    by_cases hlt : i < l.length
    · obtain ⟨ba, offa, x, rfl, hcell, hx, HX⟩ := (hr.grow hbr).at HW.out hlt
      have HR := Lib.hid hr; clear hr
      rw [rep_succ hlt] at hkr
      have hbx : ba < w.heap.size := by
        have := HR.out.lt (ad := ⟨ba, offa, none⟩) rfl (by intro h; rw [h] at hlt; simp at hlt)
        exact this
      obtain ⟨wo, hwo⟩ : ∃ wo : World, wo = wr := ⟨_, rfl⟩
      go_wp2
      go_loopw [27, 8] (fun s o wr => ∃ (j over : Nat) (p1 q : List Nat), j ≤ m.length ∧ s = .int .i64 j ∧ o = .int .u64 over ∧ over < 4294967296 ∧ Hid (p1.length = i + j ∧ q.length = m.length - j ∧ W32 p1 ∧ W32 q ∧
          num p1 + over * 4294967296 ^ (i + j) + 4294967296 ^ (i + j) * num q = num (l.take i) * num m + x * 4294967296 ^ i * num (m.take j)) ∧ Blk wr 64 w.heap.size (p1 ++ q ++ 0 :: List.replicate (l.length - (i + 1)) 0) ∧ Below w.heap.size w wr) (fun s _ _ => m.length - (intOf s).toNat)
      case atStart =>
        refine ⟨0, 0, p.take i, p.drop i, Nat.zero_le _, rfl, rfl, by decide, ?_, by rw [List.take_append_drop]; exact hkr, hbr⟩
        obtain ⟨h1, h2, h3⟩ := HP.out
        refine ⟨by simp; omega, by simp; omega, h2.take _, h2.drop _, ?_⟩
        have := num_append (p.take i) (p.drop i)
        rw [List.take_append_drop, h3] at this
        have h4 : (p.take i).length = i := by simp; omega
        rw [h4] at this
        simp [num]; omega
      case round =>
        obtain ⟨j, over, p1, q, hj, rfl, rfl, hov, HQ, hkr2, hbr2⟩ := hrel
        by_cases hlt2 : j < m.length
        · obtain ⟨bb, offb, y, rfl, hcell2, hy, HY⟩ := (hr2.grow hbr2).at HW2.out hlt2
          have HR2 := Lib.hid hr2; clear hr2
          obtain ⟨s, q', hq⟩ : ∃ s q', q = s :: q' := by
            cases q with
            | nil => have := HQ.out.2.1; simp at this; omega
            | cons s q' => exact ⟨s, q', rfl⟩
          subst hq
          have hs : s < 4294967296 := HQ.out.2.2.2.1.head
          have hkr3 : Blk wr 64 w.heap.size (p1 ++ s :: (q' ++ 0 :: List.replicate (l.length - (i + 1)) 0)) := by simpa using hkr2
          have hc3 := hkr3.midCell HQ.out.1.symm
          have hf3 := hkr3.frozen (i + j)
          have HM := Lib.hid (mul_wrap hx hy hs hov)
          have HM2 := Lib.hid (mul_w hx hy hs hov)
          go_wp2
          obtain ⟨q1, q2, q3, q4, q5⟩ := HQ.out
          obtain ⟨m1, m2, m3⟩ := HM2.out
          have hk4 := hkr3.midPush q1.symm ((x * y + s + over) % 4294967296) (v := IntKind.u64.wrap (IntKind.u64.wrap (IntKind.u64.wrap ((x : Int) * (y : Int)) + (s : Int)) + (over : Int)) % 4294967296) (by rw [HM.out]; omega)
          go_roundw
          case rel => exact ⟨j + 1, (x * y + s + over) / 4294967296, p1 ++ [(x * y + s + over) % 4294967296], q', by omega, by go_num, by rw [HM.out]; simp, m2, ⟨by simp [q1]; omega, by simp at q2; omega, q3.append (W32.cons (Nat.mod_lt _ (by decide)) W32.nil), q4.tail, by rw [num_take_succ HY.out]; exact times_step q1 (by simpa [num] using q5)⟩, by simpa using hk4, hbr2.setCell (Nat.le_refl _) _⟩
          case measure => simp [intOf]; omega
        · obtain rfl : j = m.length := by omega
          have hq : q = [] := by have := HQ.out.2.1; simpa using this
          subst hq
          rw [List.append_nil] at hkr2
          have hc3 := hkr2.midCell HQ.out.1.symm
          have hf3 := hkr2.frozen (i + m.length)
          go_wp2
          obtain ⟨q1, q2, q3, q4, q5⟩ := HQ.out
          have hk4 := hkr2.midPush q1.symm over (v := (over : Int)) rfl
          go_roundw
          case rel => exact ⟨i + 1, p1 ++ [over], by omega, by go_num, ⟨by simp [q1]; omega, q3.append (W32.cons hov W32.nil), by
            rw [List.take_length] at q5
            rw [num_take_succ HX.out, num_append, q1, Nat.add_mul]
            simp only [num] at q5 ⊢
            have e3 : 4294967296 ^ i * x * num m = x * 4294967296 ^ i * num m := by rw [Nat.mul_comm x]
            rw [e3, ← q5, Nat.mul_comm over, Nat.mul_zero, Nat.mul_zero, Nat.add_zero, Nat.add_zero]⟩, hk4, hbr2.setCell (Nat.le_refl _) _⟩
          case measure => simp [intOf]; omega
    · go_wp2
      go_ret
      obtain rfl : i = l.length := by omega
      obtain ⟨h1, h2, h3⟩ := HP.out
      refine ⟨rfl, ?_, hbr⟩
      rw [Nat.sub_self, List.replicate_zero, List.append_nil] at hkr
      rw [List.take_length] at h3
      have hl2 := num_lt h2
      rw [h1, h3] at hl2
      rw [← digs_eq h2 h1 (by rw [h3, Nat.mod_eq_of_lt hl2])]
      exact hkr
end Go.Proofs.YtmokomfneikipaaDoor
