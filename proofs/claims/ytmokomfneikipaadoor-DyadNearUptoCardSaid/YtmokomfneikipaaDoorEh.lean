/- Contract of steelyardref03's Nearby. No statement of the seat is proved here. -/
import Derived.Test.YtmokomfneikipaaDoorProg
import Derived.Test.YtmokomfneikipaaDoorEg
namespace Go.Proofs.YtmokomfneikipaaDoor
open Go.RowKit
set_option linter.unusedVariables false
set_option linter.unusedSimpArgs false

set_option maxRecDepth 10000 in
set_option maxHeartbeats 4000000 in
theorem nearby_any (h q : Nat) (L : Int) (E : Nat) (neg : Bool) (a : Option Addr) (c : Nat) (l : List Nat) (e mode : Int) (w : World) (hh : 1 ≤ h) (hh2 : h ≤ 52) (hL1 : -2000 ≤ L) (hL2 : L ≤ 0) (hE : E = q * 2 ^ h) (hq : 2 ≤ q) (hq2 : q ≤ 2047) (hs : Sl w a c l) (hlen : l.length ≤ 8192) (he1 : -2000000 ≤ e) (he2 : e ≤ 2000000) :
    Calls Tryd.prog 71 #[.agg #[.int .i64 (h + 1 : Nat), .int .i64 L, .int .u64 E], .bool neg, .slice a l.length c, .int .i64 e, .int .i64 mode] w fun en w' => ∃ r : Nat, en = .returned (.int .u64 r) ∧ Rounds h L E ⟨neg, num l, e⟩ mode r ∧ Below w.heap.size w w' := by
  have hp := Nat.two_pow_pos h
  have hp52 : 2 ^ h ≤ 4503599627370496 := by have := Nat.pow_le_pow_right (show 0 < 2 by decide) hh2; simpa using this
  have hE2 : E ≤ 9218868437227405312 := by
    have := Nat.mul_le_mul hq2 hp52
    rw [← hE] at this; omega
  have hdiv : ∀ k, k ≤ E → k / 2 ^ h ≤ 1000000 := fun k hk => by
    have h1 : k / 2 ^ h ≤ E / 2 ^ h := Nat.div_le_div_right hk
    rw [hE, Nat.mul_div_cancel _ hp] at h1; omega
  have hBe := fun W (hw : Below w.heap.size w W) => below_any h q L E a c l e W hh hh2 hL1 hL2 hE hq hq2 (hs.grow hw) hlen he1 he2
  have hN : ∀ W (k : Nat), k < E → Calls Tryd.prog 85 #[.agg #[.int .i64 ((h : Int) + 1), .int .i64 L, .int .u64 E], .int .u64 k] W fun en w' => ∃ a c, en = .returned (.tuple #[.slice a (words (numM h k)).length c, .int .i64 (L + numE h k)]) ∧ Own w' 64 W.heap.size a c (words (numM h k)) ∧ Below W.heap.size W w' := by
    rintro W k hk
    exact number_any h k L E W hh2 (by omega) hh hL1 (by omega) (hdiv k (by omega))
  have hA : ∀ W (k : Nat) a1 c1 base, k < E → Below w.heap.size w W → Own W 64 base a1 c1 (words (numM h k)) → Calls Tryd.prog 78 #[.slice a1 (words (numM h k)).length c1, .int .i64 (L + numE h k), .slice a l.length c, .int .i64 e] W fun en w' => en = .returned (.int .i64 (cmpN (numV h k * 2 ^ sc L e) (sx L (num l) e))) ∧ Below W.heap.size W w' := by
    intro W k a1 c1 base hk hw ho
    have h1 := numM_len h k hh2
    have h2 := numE_bd (hdiv k (by omega))
    have := against_any a1 a c1 c (words (numM h k)) l (L + numE h k) e W (by omega) (by omega) (ho.sl (W32_words _)) (hs.grow hw) (by omega) (by omega) (by omega) (by omega)
    rw [num_words, ag_num] at this
    exact this
  have hH := fun W (k : Nat) (hk : k < E) (hw : Below w.heap.size w W) => half_any h q k L E a c l e W hh hh2 hL1 hL2 hE hq2 (by omega) (hs.grow hw) hlen he1 he2
  have hR : ∀ k r, IsBelow h E (sc L e) (sx L (num l) e) k → r = nearK h (sc L e) (sx L (num l) e) mode neg k → Rounds h L E ⟨neg, num l, e⟩ mode r := fun k r h1 h2 => ⟨k, h1, h2⟩
  generalize Rounds h L E ⟨neg, num l, e⟩ mode = PR at *
  generalize sx L (num l) e = X at *
  generalize sc L e = C at *
  rw [show ((h + 1 : Nat) : Int) = (h : Int) + 1 from by simp] at *
  have HBe := Lib.hid hBe; have HN := Lib.hid hN; have HA := Lib.hid hA; have HH := Lib.hid hH; have HR := Lib.hid hR
  clear hBe hN hA hH hR hE hp hp52 hdiv hs
  go_enter Tryd.func71, Tryd.ntmps71
  go_wp2_with fail
  obtain ⟨w1, h1⟩ : ∃ W, W = w.alloc (.cells #[.int .i64 ((h : Int) + 1), .int .i64 L, .int .u64 (E : Int)] 71) := ⟨_, rfl⟩
  rw [← h1]
  obtain ⟨k1, hB, s1⟩ := new_of h1 rfl
  clear h1
  refine (HBe.out w1 hB).mono ?_; rintro en w2 ⟨k, rfl, hIB, hb2⟩
  have k2 := (hb2.block w.heap.size (by omega)).trans k1
  have hB2 := hB.trans (hb2.mono (by omega))
  have s2 := hb2.size
  have hkE := hIB.lt
  have HIB := Lib.hid hIB; clear hIB hb2 hB k1
  obtain ⟨_, _, _, _, _, _⟩ := cells3 k2
  go_wp2_with fail
  refine (HN.out w2 k hkE).mono ?_; rintro en w3 ⟨a3, c3, rfl, ho3, hb3⟩
  have k3 := (hb3.block w.heap.size (by omega)).trans k2
  have hB3 := hB2.trans (hb3.mono (by omega))
  have s3 := hb3.size
  have HA3 := Lib.hid (HA.out w3 k a3 c3 _ hkE hB3 ho3)
  clear hb3 ho3 k2 hB2
  obtain ⟨_, _, _, _, _, _⟩ := cells3 k3
  go_wp2_with fail
  refine HA3.out.mono ?_; rintro en w4 ⟨rfl, hb4⟩
  have k4 := (hb4.block w.heap.size (by omega)).trans k3
  have hB4 := hB3.trans (hb4.mono (by omega))
  have s4 := hb4.size
  have HH4 := Lib.hid (HH.out w4 k hkE hB4)
  have HB4 := Lib.hid hB4
  clear hb4 hB3 k3 hB4
  obtain ⟨_, _, _, _, _, _⟩ := cells3 k4
  by_cases heq : numV h k * 2 ^ C = X
  · have e1 : (cmpN (numV h k * 2 ^ C) X == 0) = true := by rw [cmpN_eq heq]; rfl
    have hr : PR k := HR.out k k HIB.out (by unfold nearK; rw [if_pos heq])
    have HPR := Lib.hid hr; clear hr
    have Heq := Lib.hid heq; clear heq
    go_wp2_with fail
    go_ret
    exact ⟨k, rfl, HPR.out, HB4.out⟩
  have e1 : (cmpN (numV h k * 2 ^ C) X == 0) = false := by
    have : cmpN (numV h k * 2 ^ C) X ≠ 0 := fun h0 => heq (cmpN_zero.1 h0)
    simpa using this
  obtain ⟨g, hg⟩ : ∃ g, g = cmpN (2 * X) ((numV h k + numV h (k + 1)) * 2 ^ C) := ⟨_, rfl⟩
  rw [← hg] at HH4
  have hr : ∀ r, r = (if onK mode neg k g = true then k + 1 else k) → PR r := fun r h1 => HR.out k r HIB.out (by unfold nearK; rw [if_neg heq, ← hg]; exact h1)
  have HPR := Lib.hid hr; clear hr hg heq
  generalize numV h k * 2 ^ C = V at *
  have hk1 : IntKind.u64.wrap ((k : Int) + 1) = ((k + 1 : Nat) : Int) := by rw [IntKind.wrap_u64]; omega
  unfold onK at HPR
  go_wp2_with fail
  refine HH4.out.mono ?_; rintro en w5 ⟨rfl, hb5⟩
  have hB5 := HB4.out.trans (hb5.mono HB4.out.size)
  have HB5 := Lib.hid hB5; clear hb5 hB5
  rcases (show mode = 0 ∨ mode = 2 ∨ mode = 3 ∨ mode = 4 ∨ (mode ≠ 0 ∧ mode ≠ 2 ∧ mode ≠ 3 ∧ mode ≠ 4) by omega) with hm | hm | hm | hm | ⟨hm0, hm2, hm3, hm4⟩
  · subst hm
    rcases (show 0 < g ∨ g < 0 ∨ (g = 0 ∧ k % 2 = 1) ∨ (g = 0 ∧ k % 2 = 0) by omega) with hg | hg | ⟨hg, ho⟩ | ⟨hg, ho⟩
    · have hr : PR (k + 1) := HPR.out (k + 1) (by simp [hg])
      have HP := Lib.hid hr; clear hr
      go_wp2_with fail
      go_ret
      exact ⟨k + 1, rfl, HP.out, HB5.out⟩
    · have hr : PR k := HPR.out k (by simp; omega)
      have HP := Lib.hid hr; clear hr
      have e2 : (g == 0) = false := by simp; omega
      have e3 : ¬ 0 < g := by omega
      go_wp2_with fail
      go_ret
      exact ⟨k, rfl, HP.out, HB5.out⟩
    · subst hg
      have hr : PR (k + 1) := HPR.out (k + 1) (by simp [ho])
      have HP := Lib.hid hr; clear hr
      have e2 : ((k : Int) % 2 == 1) = true := by simp; omega
      have HO := Lib.hid ho; clear ho
      go_wp2_with fail
      go_ret
      exact ⟨k + 1, rfl, HP.out, HB5.out⟩
    · subst hg
      have hr : PR k := HPR.out k (by simp [ho])
      have HP := Lib.hid hr; clear hr
      have e2 : ((k : Int) % 2 == 1) = false := by simp; omega
      have HO := Lib.hid ho; clear ho
      go_wp2_with fail
      go_ret
      exact ⟨k, rfl, HP.out, HB5.out⟩
  · subst hm
    cases neg with
    | true =>
      have hr : PR k := HPR.out k (by simp)
      have HP := Lib.hid hr; clear hr
      go_wp2_with fail
      go_ret
      exact ⟨k, rfl, HP.out, HB5.out⟩
    | false =>
      have hr : PR (k + 1) := HPR.out (k + 1) (by simp)
      have HP := Lib.hid hr; clear hr
      go_wp2_with fail
      go_ret
      exact ⟨k + 1, rfl, HP.out, HB5.out⟩
  · subst hm
    cases neg with
    | true =>
      have hr : PR (k + 1) := HPR.out (k + 1) (by simp)
      have HP := Lib.hid hr; clear hr
      go_wp2_with fail
      go_ret
      exact ⟨k + 1, rfl, HP.out, HB5.out⟩
    | false =>
      have hr : PR k := HPR.out k (by simp)
      have HP := Lib.hid hr; clear hr
      go_wp2_with fail
      go_ret
      exact ⟨k, rfl, HP.out, HB5.out⟩
  · subst hm
    by_cases hg : 0 ≤ g
    · have hr : PR (k + 1) := HPR.out (k + 1) (by simp [hg])
      have HP := Lib.hid hr; clear hr
      go_wp2_with fail
      go_ret
      exact ⟨k + 1, rfl, HP.out, HB5.out⟩
    · have hr : PR k := HPR.out k (by simp [hg])
      have HP := Lib.hid hr; clear hr
      go_wp2_with fail
      go_ret
      exact ⟨k, rfl, HP.out, HB5.out⟩
  · have hr : PR k := HPR.out k (by rw [if_neg hm0, if_neg hm2, if_neg hm3, if_neg hm4]; simp)
    have HP := Lib.hid hr; clear hr
    have e2 : (mode == 0) = false := by simpa using hm0
    have e3 : (mode == 2) = false := by simpa using hm2
    have e4 : (mode == 3) = false := by simpa using hm3
    have e5 : (mode == 4) = false := by simpa using hm4
    clear hm0 hm2 hm3 hm4
    go_wp2_with fail
    go_ret
    exact ⟨k, rfl, HP.out, HB5.out⟩
end Go.Proofs.YtmokomfneikipaaDoor
