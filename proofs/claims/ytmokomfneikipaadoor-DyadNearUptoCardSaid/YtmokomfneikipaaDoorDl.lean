/- Comparing, in numbers; contracts of dyad.size, Cmp. No statement of the seat is proved here. -/
import Derived.Test.YtmokomfneikipaaDoorProg
import Derived.Test.YtmokomfneikipaaDoorDj
import Derived.Test.YtmokomfneikipaaDoorDh
namespace Go.Proofs.YtmokomfneikipaaDoor
open Go.RowKit
set_option linter.unusedVariables false
set_option linter.unusedSimpArgs false

/-- how m times two to the power e stands to n times two to the power f -/
def magCmp (m : Nat) (e : Int) (n : Nat) (f : Int) : Int :=
  if f ≤ e then cmpN (m * 2 ^ (e - f).toNat) n else cmpN m (n * 2 ^ (f - e).toNat)
theorem cmpN_swap (a b : Nat) : cmpN a b = - cmpN b a := by
  unfold cmpN; split <;> (try split) <;> (try split) <;> omega
theorem magCmp_swap (m : Nat) (e : Int) (n : Nat) (f : Int) : magCmp m e n f = - magCmp n f m e := by
  unfold magCmp
  split <;> split
  · obtain rfl : e = f := by omega
    simp only [Int.sub_self, Int.toNat_zero, Nat.pow_zero, Nat.mul_one]; exact cmpN_swap _ _
  · exact cmpN_swap _ _
  · exact cmpN_swap _ _
  · omega
theorem lt_of_bitLen {a b : Nat} (h : bitLen a < bitLen b) : a < b := by
  rcases Nat.lt_or_ge a b with h1 | h1
  · exact h1
  · have h2 := bitLen_spec a
    have h3 := bitLen_spec b
    have : b < 2 ^ bitLen a := by omega
    have := bitLen_lt this
    omega

set_option maxRecDepth 10000 in
set_option maxHeartbeats 8000000 in
theorem size_ge (x y : Arg) (w : World) (hx : x.Ok w) (hy : y.Ok w) (hm : num x.l ≠ 0) (hn : num y.l ≠ 0) (hge : y.e ≤ x.e) :
    Calls Tryd.prog 76 #[x.v, y.v] w fun en w' => en = .returned (.int .i64 (magCmp (num x.l) x.e (num y.l) y.e)) ∧ Below w.heap.size w w' := by
  obtain ⟨up, hup⟩ : ∃ up : Nat, (up : Int) = x.e - y.e := ⟨(x.e - y.e).toNat, by omega⟩
  have hres : magCmp (num x.l) x.e (num y.l) y.e = cmpN (num x.l * 2 ^ up) (num y.l) := by
    unfold magCmp; rw [if_pos hge, show (x.e - y.e).toNat = up by omega]
  obtain ⟨r, hr0⟩ : ∃ r, r = cmpN (num x.l * 2 ^ up) (num y.l) := ⟨_, rfl⟩
  rw [hres, ← hr0]
  have hL1 := fun W (hw : Below w.heap.size w W) => len_any x.a x.c x.l W (by have := hx.len; omega) hx.sl.cap hx.sl.w32 (hx.sl.rd.grow hw)
  have hL2 := fun W (hw : Below w.heap.size w W) => len_any y.a y.c y.l W (by have := hy.len; omega) hy.sl.cap hy.sl.w32 (hy.sl.rd.grow hw)
  have hN := fun W (hw : Below w.heap.size w W) => norm_any x.a x.c x.l W (by have := hx.len; omega) hx.sl.w32 (hx.sl.rd.grow hw)
  have hbl := words_bitLen (Nat.le_refl (words (num y.l)).length)
  have hwl := words_num_len hy.sl.w32
  have hbl1 := words_bitLen (Nat.le_refl (words (num x.l)).length)
  have hwl1 := words_num_len hx.sl.w32
  have hlx := hx.len
  have hly := hy.len
  have hC := fun W a c L (hw : Below w.heap.size w W) (h1 : L.length ≤ 70368744177664) (h2 : L.length ≤ c) (h3 : W32 L) (h4 : Rd W a L) => cmp_any a y.a c y.c L y.l W h1 h2 h3 h4 (by have := hy.len; omega) hy.sl.cap hy.sl.w32 (hy.sl.rd.grow hw)
  have xlo := hx.lo; have xhi := hx.hi; have ylo := hy.lo; have yhi := hy.hi
  obtain ⟨s, a, l, c, e⟩ := x
  obtain ⟨s', a', l', c', e'⟩ := y
  dsimp only at *
  have hwr : IntKind.u64.wrap (IntKind.u64.wrap e - IntKind.u64.wrap e') = (up : Int) := by
    rw [IntKind.wrap_u64, IntKind.wrap_u64, IntKind.wrap_u64]; omega
  generalize num l' = N at *
  obtain ⟨M, hM⟩ : ∃ M, M = num l := ⟨_, rfl⟩
  rw [← hM] at hm hL1 hN hbl1 hwl1 hr0
  have HR0 := Lib.hid hr0
  have HL1 := Lib.hid hL1; have HL2 := Lib.hid hL2; have HN := Lib.hid hN; have HC := Lib.hid hC; have HM := Lib.hid hM; clear hL1 hL2 hN hC hx hy hres hM hr0
  simp only [Arg.v]
  go_enter Tryd.func76, Tryd.ntmps76
  go_wp2_with fail
  (obtain ⟨w1, h1⟩ : ∃ W, W = (w.alloc (.cells #[.bool s, .slice a l.length c, .int .i64 e] 27)) := ⟨_, rfl⟩; have pinEq := h1; (try simp only [wr3] at pinEq); rw [← pinEq]; clear pinEq)
  (obtain ⟨w2, h2⟩ : ∃ W, W = (w1.alloc (.cells #[.bool s', .slice a' l'.length c', .int .i64 e'] 27)) := ⟨_, rfl⟩; have pinEq := h2; (try simp only [wr3] at pinEq); rw [← pinEq]; clear pinEq)
  obtain ⟨k1, hB, s1⟩ := new_cel h1 rfl
  obtain ⟨k2, b2, s2⟩ := new_cel h2 s1
  (replace k1 := cel_call b2 k1 (by omega); replace hB := below_call b2 hB (by omega))
  clear h1 h2 b2
  (obtain ⟨q72x0x0, q72x0x1, q72x0x2, q72x0x3, q72x0x4, q72x0x5⟩ := Cel.facts k2; obtain ⟨q72x1x0, q72x1x1, q72x1x2, q72x1x3, q72x1x4, q72x1x5⟩ := Cel.facts k1)
  have u1 : IntKind.u64.wrap (bitLen M : Int) = (bitLen M : Int) := by rw [IntKind.wrap_u64]; omega
  have u2 : IntKind.u64.wrap (bitLen N : Int) = (bitLen N : Int) := by rw [IntKind.wrap_u64]; omega
  have q1 : ∀ n, Calls Tryd.prog 77 #[.slice a l.length c] (w2.drewN n) fun e w'' => e = .returned (.int .i64 (bitLen M)) ∧ w'' = w2.drewN n := fun n => (HL1.out _ (below_drewN' hB)).mono (by rintro en w3 ⟨rfl, rfl⟩; exact ⟨rfl, rfl⟩)
  have q2 : ∀ n, Calls Tryd.prog 77 #[.slice a' l'.length c'] (w2.drewN n) fun e w'' => e = .returned (.int .i64 (bitLen N)) ∧ w'' = w2.drewN n := fun n => (HL2.out _ (below_drewN' hB)).mono (by rintro en w3 ⟨rfl, rfl⟩; exact ⟨rfl, rfl⟩)
  have Q1 := Lib.hid q1; have Q2 := Lib.hid q2; clear q1 q2
  go_quiet (first
    | (go_at_call 77; with_reducible exact Calls.quiet_of_same (Q1.out _))
    | (go_at_call 77; with_reducible exact Calls.quiet_of_same (Q2.out _)))
  have hBq : Below w.heap.size w (w2.drewN nq) := below_drewN' hB
  have HBQ := Lib.hid hBq; clear hBq
  have hmb := bitLen_mul up hm
  have hpos := bitLen_pos hm
  have HMB := Lib.hid hmb; clear hmb
  have HMZ := Lib.hid hm; have HNZ := Lib.hid hn; clear hm hn
  by_cases c1 : bitLen N < up
  · have hr : r = 1 := by rw [HR0.out]; exact cmpN_gt (lt_of_bitLen (by rw [HMB.out]; omega))
    have HR := Lib.hid hr; clear hr
    go_wp2
    go_ret
    exact ⟨by rw [HR.out]; rfl, HBQ.out⟩
  by_cases c2 : bitLen N < bitLen M + up
  · have hr : r = 1 := by rw [HR0.out]; exact cmpN_gt (lt_of_bitLen (by rw [HMB.out]; omega))
    have HR := Lib.hid hr; clear hr
    have e1 : IntKind.u64.wrap ((bitLen M : Int) + (e - e')) = (bitLen M : Int) + (e - e') := by rw [IntKind.wrap_u64]; omega
    go_wp2
    go_ret
    exact ⟨by rw [HR.out]; rfl, HBQ.out⟩
  by_cases c3 : bitLen M + up < bitLen N
  · have hr : r = -1 := by rw [HR0.out]; exact cmpN_lt (lt_of_bitLen (by rw [HMB.out]; omega))
    have HR := Lib.hid hr; clear hr
    have e1 : IntKind.u64.wrap ((bitLen M : Int) + (e - e')) = (bitLen M : Int) + (e - e') := by rw [IntKind.wrap_u64]; omega
    go_wp2
    go_ret
    exact ⟨by rw [HR.out]; rfl, HBQ.out⟩
  have e1 : IntKind.u64.wrap ((bitLen M : Int) + (e - e')) = (bitLen M : Int) + (e - e') := by rw [IntKind.wrap_u64]; omega
  have e2 : IntKind.i64.wrap (e - e') = e - e' := by rw [IntKind.wrap_i64]; omega
  have hH : ∀ W g, Blk W 64 g (words M) → Calls Tryd.prog 105 #[.slice (some ⟨g, 0, none⟩) (words M).length (words M).length, .int .i64 (e - e')] W fun en w' => ∃ L, en = .returned (.slice (some ⟨W.heap.size, 0, none⟩) L.length L.length) ∧ Blk w' 64 W.heap.size L ∧ W32 L ∧ num L = M * 2 ^ up ∧ L.length ≤ 70368744177664 ∧ Below W.heap.size W w' := by
    intro W g hg
    have := higher_any (some ⟨g, 0, none⟩) (words M).length (words M) up W (by omega) (by omega) (W32_words M) hg.rd
    rw [num_words, hup] at this
    refine this.mono ?_
    rintro en w' ⟨L, r1, r2, r3, r4, r5, r6⟩
    exact ⟨L, r1, r2, r3, r4, by omega, r6⟩
  have hK : ∀ W L g, W32 L → num L = M * 2 ^ up → L.length ≤ 70368744177664 → Blk W 64 g L → Below w.heap.size w W → Calls Tryd.prog 60 #[.slice (some ⟨g, 0, none⟩) L.length L.length, .slice a' l'.length c'] W fun en w' => en = .returned (.int .i64 r) ∧ Below W.heap.size W w' := by
    intro W L g r1 r2 r3 r4 r5
    have := HC.out W (some ⟨g, 0, none⟩) L.length L r5 r3 (Nat.le_refl _) r1 r4.rd
    rw [r2, ← HR0.out] at this
    refine this.mono ?_
    rintro en w' ⟨rfl, n, rfl⟩
    exact ⟨rfl, below_drewN' (Below.refl _ _)⟩
  have HH := Lib.hid hH; have HK := Lib.hid hK; clear hH hK
  have b0 : Below w.heap.size w (w2.drewN (nq + 1)) := below_drewN' hB
  have hN2 : Calls Tryd.prog 82 #[.slice a l.length c] (w2.drewN (nq + 1)) fun en w' => en = .returned (.slice (some ⟨w.heap.size + 1 + 1, 0, none⟩) (words M).length (words M).length) ∧ Blk w' 64 (w.heap.size + 1 + 1) (words M) ∧ Below (w.heap.size + 1 + 1) (w2.drewN (nq + 1)) w' := by
    have := HN.out _ b0
    rw [show (w2.drewN (nq + 1)).heap.size = w.heap.size + 1 + 1 from s2] at this
    exact this
  have HN2 := Lib.hid hN2; clear hN2
  have k1' : Cel (w2.drewN (nq + 1)) w.heap.size (.bool s) (.slice a l.length c) (.int .i64 e) := k1
  have k2' : Cel (w2.drewN (nq + 1)) (w.heap.size + 1) (.bool s') (.slice a' l'.length c') (.int .i64 e') := k2
  go_wp2_with fail
  (clear q72x0x0 q72x0x1 q72x0x2 q72x0x3 q72x0x4 q72x0x5 q72x1x0 q72x1x1 q72x1x2 q72x1x3 q72x1x4 q72x1x5; obtain ⟨q133x0x0, q133x0x1, q133x0x2, q133x0x3, q133x0x4, q133x0x5⟩ := Cel.facts k2; obtain ⟨q133x1x0, q133x1x1, q133x1x2, q133x1x3, q133x1x4, q133x1x5⟩ := Cel.facts k1; obtain ⟨q133x2x0, q133x2x1, q133x2x2, q133x2x3, q133x2x4, q133x2x5⟩ := Cel.facts k1'; obtain ⟨q133x3x0, q133x3x1, q133x3x2, q133x3x3, q133x3x4, q133x3x5⟩ := Cel.facts k2')
  go_region_held3 (fun W => W.cell? ⟨w.heap.size, 1, none⟩ = some (.slice a l.length c) ∧ W.cell? ⟨w.heap.size + 1, 1, none⟩ = some (.slice a' l'.length c')) (go_keep) (first
    | (go_at_call 82; refine HN2.out.mono ?_; rintro en w5 ⟨rfl, hbl, hb5⟩; have k15 := k1'.below hb5 (by omega); have k25 := k2'.below hb5 (by omega); have z5 := hb5.size; rw [show (w2.drewN (nq + 1)).heap.size = w.heap.size + 1 + 1 from s2] at z5; obtain ⟨_, _, _, _, _, _⟩ := k15.facts; obtain ⟨_, _, _, _, _, _⟩ := k25.facts)
    | (go_at_call 105; refine (HH.out _ _ hbl).mono ?_; rintro en w6 ⟨L, rfl, hbL, hWL, hNL, hlL, hb6⟩; have k16 := k15.below hb6 k15.lt; have k26 := k25.below hb6 k25.lt; obtain ⟨_, _, _, _, _, _⟩ := k16.facts; obtain ⟨_, _, _, _, _, _⟩ := k26.facts; have HWL := Lib.hid hWL; have HNL := Lib.hid hNL; clear hWL hNL; have b6 : Below w.heap.size w w6 := (b0.trans (hb5.mono (by omega))).trans (hb6.mono (by omega)))
    | (go_at_call 60; refine (HK.out _ _ _ HWL.out HNL.out hlL hbL b6).mono ?_; rintro en w7 ⟨rfl, hb7⟩; have k17 := k16.below hb7 k16.lt; have k27 := k26.below hb7 k26.lt; obtain ⟨_, _, _, _, _, _⟩ := k17.facts; obtain ⟨_, _, _, _, _, _⟩ := k27.facts))
  all_goals
    go_wp2
    go_ret
    exact ⟨rfl, b6.trans (hb7.mono b6.size)⟩

set_option maxRecDepth 10000 in
set_option maxHeartbeats 2000000 in
theorem size_any (x y : Arg) (w : World) (hx : x.Ok w) (hy : y.Ok w) (hm : num x.l ≠ 0) (hn : num y.l ≠ 0) :
    Calls Tryd.prog 76 #[x.v, y.v] w fun en w' => en = .returned (.int .i64 (magCmp (num x.l) x.e (num y.l) y.e)) ∧ Below w.heap.size w w' := by
  by_cases hge : y.e ≤ x.e
  · exact size_ge x y w hx hy hm hn hge
  have hS := fun W (hw : Below w.heap.size w W) => size_ge y x W (hy.grow hw) (hx.grow hw) hn hm (by omega)
  rw [magCmp_swap]
  have hlo : ∀ m e n f, -1 ≤ magCmp m e n f ∧ magCmp m e n f ≤ 1 := by
    intro m e n f; unfold magCmp; split
    · exact ⟨cmpN_lo _ _, cmpN_hi _ _⟩
    · exact ⟨cmpN_lo _ _, cmpN_hi _ _⟩
  obtain ⟨hl1, hl2⟩ := hlo (num y.l) y.e (num x.l) x.e
  obtain ⟨s, a, l, c, e⟩ := x
  obtain ⟨s', a', l', c', e'⟩ := y
  simp only [Arg.v] at hS ⊢
  dsimp only at hge hl1 hl2
  generalize magCmp (num l') e' (num l) e = r at *
  have HS := Lib.hid hS; clear hS hx hy hlo hm hn
  go_enter Tryd.func76, Tryd.ntmps76
  go_wp2_with fail
  (obtain ⟨w1, h1⟩ : ∃ W, W = (w.alloc (.cells #[.bool s, .slice a l.length c, .int .i64 e] 27)) := ⟨_, rfl⟩; have pinEq := h1; (try simp only [wr3] at pinEq); rw [← pinEq]; clear pinEq)
  (obtain ⟨w2, h2⟩ : ∃ W, W = (w1.alloc (.cells #[.bool s', .slice a' l'.length c', .int .i64 e'] 27)) := ⟨_, rfl⟩; have pinEq := h2; (try simp only [wr3] at pinEq); rw [← pinEq]; clear pinEq)
  obtain ⟨k1, hB, s1⟩ := new_cel h1 rfl
  obtain ⟨k2, b2, s2⟩ := new_cel h2 s1
  (replace k1 := cel_call b2 k1 (by omega); replace hB := below_call b2 hB (by omega))
  clear h1 h2 b2
  refine (HS.out w2 hB).mono ?_; rintro en w3 ⟨rfl, hb⟩
  (replace k2 := cel_call hb k2 (by omega); replace k1 := cel_call hb k1 (by omega); replace hB := below_call hb hB (by omega))
  go_wp2
  go_ret
  exact ⟨rfl, hB⟩

/-- how two Dyads stand -/
def cmpA (x y : Arg) : Int := if x.sign < y.sign then -1 else if y.sign < x.sign then 1 else if x.sign = 0 then 0 else x.sign * magCmp (num x.l) x.e (num y.l) y.e

set_option maxRecDepth 10000 in
set_option maxHeartbeats 2000000 in
theorem dcmp_any (x y : Arg) (w : World) (hx : x.Ok w) (hy : y.Ok w) :
    Calls Tryd.prog 35 #[x.v, y.v] w fun en w' => en = .returned (.int .i64 (cmpA x y)) ∧ Below w.heap.size w w' := by
  have hS1 := fun W (hw : Below w.heap.size w W) => dsign_any x W (hx.grow hw)
  have hS2 := fun W (hw : Below w.heap.size w W) => dsign_any y W (hy.grow hw)
  have hZ := fun W (hw : Below w.heap.size w W) (h1 : num x.l ≠ 0) (h2 : num y.l ≠ 0) => size_any x y W (hx.grow hw) (hy.grow hw) h1 h2
  obtain ⟨hl1, hl2⟩ : -1 ≤ magCmp (num x.l) x.e (num y.l) y.e ∧ magCmp (num x.l) x.e (num y.l) y.e ≤ 1 := by
    unfold magCmp; split
    · exact ⟨cmpN_lo _ _, cmpN_hi _ _⟩
    · exact ⟨cmpN_lo _ _, cmpN_hi _ _⟩
  have hsx : x.sign = 0 ∧ num x.l = 0 ∨ (x.sign = 1 ∨ x.sign = -1) ∧ num x.l ≠ 0 := by
    unfold Arg.sign; split
    · exact .inl ⟨rfl, by assumption⟩
    · split
      · exact .inr ⟨.inr rfl, by assumption⟩
      · exact .inr ⟨.inl rfl, by assumption⟩
  have hsy : y.sign = 0 ∧ num y.l = 0 ∨ (y.sign = 1 ∨ y.sign = -1) ∧ num y.l ≠ 0 := by
    unfold Arg.sign; split
    · exact .inl ⟨rfl, by assumption⟩
    · split
      · exact .inr ⟨.inr rfl, by assumption⟩
      · exact .inr ⟨.inl rfl, by assumption⟩
  obtain ⟨rr, hrr⟩ : ∃ rr, rr = cmpA x y := ⟨_, rfl⟩
  rw [← hrr]
  unfold cmpA at hrr
  generalize x.sign = i at *
  generalize y.sign = j at *
  obtain ⟨s, a, l, c, e⟩ := x
  obtain ⟨s', a', l', c', e'⟩ := y
  simp only [Arg.v] at hS1 hS2 hZ ⊢
  dsimp only at hl1 hl2 hrr hZ hsx hsy
  generalize magCmp (num l) e (num l') e' = r at *
  generalize num l = M at *
  generalize num l' = N at *
  have HS1 := Lib.hid hS1; have HS2 := Lib.hid hS2; have HZ := Lib.hid hZ; have HRR := Lib.hid hrr; have HSX := Lib.hid hsx; have HSY := Lib.hid hsy
  have hi1 : -1 ≤ i := by omega
  have hi2 : i ≤ 1 := by omega
  have hj1 : -1 ≤ j := by omega
  have hj2 : j ≤ 1 := by omega
  clear hS1 hS2 hZ hx hy hrr hsx hsy
  go_enter Tryd.func35, Tryd.ntmps35
  go_wp2_with fail
  (obtain ⟨w1, h1⟩ : ∃ W, W = (w.alloc (.cells #[.bool s, .slice a l.length c, .int .i64 e] 27)) := ⟨_, rfl⟩; have pinEq := h1; (try simp only [wr3] at pinEq); rw [← pinEq]; clear pinEq)
  (obtain ⟨w2, h2⟩ : ∃ W, W = (w1.alloc (.cells #[.bool s', .slice a' l'.length c', .int .i64 e'] 27)) := ⟨_, rfl⟩; have pinEq := h2; (try simp only [wr3] at pinEq); rw [← pinEq]; clear pinEq)
  obtain ⟨k1, hB, s1⟩ := new_cel h1 rfl
  obtain ⟨k2, b2, s2⟩ := new_cel h2 s1
  (replace k1 := cel_call b2 k1 (by omega); replace hB := below_call b2 hB (by omega))
  clear h1 h2 b2
  (obtain ⟨q228x0x0, q228x0x1, q228x0x2, q228x0x3, q228x0x4, q228x0x5⟩ := Cel.facts k2; obtain ⟨q228x1x0, q228x1x1, q228x1x2, q228x1x3, q228x1x4, q228x1x5⟩ := Cel.facts k1)
  have e1 : IntKind.i64.wrap (i * r) = i * r := by
    rw [IntKind.wrap_i64]
    rcases (show i = -1 ∨ i = 0 ∨ i = 1 by omega) with h | h | h <;> rw [h] <;> omega
  have b3 : Below w.heap.size w w2.drew := hB.drew
  have k1' : Cel w2.drew w.heap.size (.bool s) (.slice a l.length c) (.int .i64 e) := k1
  have k2' : Cel w2.drew (w.heap.size + 1) (.bool s') (.slice a' l'.length c') (.int .i64 e') := k2
  have z2 : w2.drew.heap.size = w.heap.size + 1 + 1 := s2
  go_region_held3 (fun W => W.cell? ⟨w.heap.size, 0, none⟩ = some (.bool s) ∧ W.cell? ⟨w.heap.size, 1, none⟩ = some (.slice a l.length c) ∧ W.cell? ⟨w.heap.size, 2, none⟩ = some (.int .i64 e) ∧ W.cell? ⟨w.heap.size + 1, 0, none⟩ = some (.bool s') ∧ W.cell? ⟨w.heap.size + 1, 1, none⟩ = some (.slice a' l'.length c') ∧ W.cell? ⟨w.heap.size + 1, 2, none⟩ = some (.int .i64 e')) (go_keep) (first
    | (go_at_call 36; with_reducible refine Calls.mono (HS1.out _ b3) ?_; rintro en w4 ⟨rfl, hb4⟩; have k14 := k1'.below hb4 k1'.lt; have k24 := k2'.below hb4 k2'.lt; obtain ⟨_, _, _, _, _, _⟩ := k14.facts; obtain ⟨_, _, _, _, _, _⟩ := k24.facts; have b4 : Below w.heap.size w w4 := b3.trans (hb4.mono (by omega)); have z4 := hb4.size; rw [z2] at z4)
    | (go_at_call 36; with_reducible refine Calls.mono (HS2.out _ b4) ?_; rintro en w5 ⟨rfl, hb5⟩; have k15 := k14.below hb5 k14.lt; have k25 := k24.below hb5 k24.lt; obtain ⟨_, _, _, _, _, _⟩ := k15.facts; obtain ⟨_, _, _, _, _, _⟩ := k25.facts; have b5 : Below w.heap.size w w5 := b4.trans (hb5.mono (by omega))))
  clear k1 k2 k14 k24 hB
  have HE1 := Lib.hid e1; clear e1
  by_cases c1 : i < j
  · have hr : rr = -1 := by rw [HRR.out, if_pos c1]
    have Hr := Lib.hid hr; clear hr
    go_wp2
    go_ret
    exact ⟨by rw [Hr.out]; rfl, b5⟩
  by_cases c2 : j < i
  · have hr : rr = 1 := by rw [HRR.out, if_neg c1, if_pos c2]
    have Hr := Lib.hid hr; clear hr
    go_wp2
    go_ret
    exact ⟨by rw [Hr.out]; rfl, b5⟩
  by_cases c3 : i = 0
  · have hr : rr = 0 := by rw [HRR.out, if_neg c1, if_neg c2, if_pos c3]
    have Hr := Lib.hid hr; clear hr
    have c4 : (i == 0) = true := by rw [c3]; rfl
    clear c3
    go_wp2
    go_ret
    exact ⟨by rw [Hr.out]; rfl, b5⟩
  · have hr : rr = i * r := by rw [HRR.out, if_neg c1, if_neg c2, if_neg c3]
    have Hr := Lib.hid hr; clear hr
    have c4 : (i == 0) = false := by simp [c3]
    have hm : M ≠ 0 := by have := HSX.out; omega
    have hn : N ≠ 0 := by have := HSY.out; omega
    have hz := HZ.out w5 b5 hm hn
    have Hz := Lib.hid hz; clear hz hm hn c3
    have z5 := hb5.size
    go_wp2_with fail
    refine Hz.out.mono ?_; rintro en w6 ⟨rfl, hb6⟩
    have e1 := HE1.out
    go_wp2
    go_ret
    exact ⟨by rw [Hr.out]; rfl, b5.trans (hb6.mono (by omega))⟩
end Go.Proofs.YtmokomfneikipaaDoor
