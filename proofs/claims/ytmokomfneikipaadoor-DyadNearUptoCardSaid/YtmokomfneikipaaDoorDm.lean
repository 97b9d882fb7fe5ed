/- Contracts of steelyardref03.Against, Cmp. No statement of the seat is proved here. -/
import Derived.Test.YtmokomfneikipaaDoorProg
import Derived.Test.YtmokomfneikipaaDoorDl
namespace Go.Proofs.YtmokomfneikipaaDoor
open Go.RowKit
set_option linter.unusedVariables false
set_option linter.unusedSimpArgs false

/-- how two stand, noughts too -/
def agN (m : Nat) (e : Int) (n : Nat) (f : Int) : Int := if m = 0 ∨ n = 0 then cmpN m n else magCmp m e n f
theorem agN_swap (m : Nat) (e : Int) (n : Nat) (f : Int) : agN m e n f = - agN n f m e := by
  unfold agN
  by_cases h : m = 0 ∨ n = 0
  · rw [if_pos h, if_pos (by omega), cmpN_swap]
  · rw [if_neg h, if_neg (by omega), magCmp_swap]
theorem agN_bd (m : Nat) (e : Int) (n : Nat) (f : Int) : -1 ≤ agN m e n f ∧ agN m e n f ≤ 1 := by
  unfold agN; split
  · exact ⟨cmpN_lo _ _, cmpN_hi _ _⟩
  · unfold magCmp; split
    · exact ⟨cmpN_lo _ _, cmpN_hi _ _⟩
    · exact ⟨cmpN_lo _ _, cmpN_hi _ _⟩

set_option maxRecDepth 10000 in
set_option maxHeartbeats 4000000 in
theorem against_ge (a b : Option Addr) (c d : Nat) (l l' : List Nat) (e e' : Int) (w : World) (hlen : l.length ≤ 1073741824) (hlen' : l'.length ≤ 1073741824) (hs : Sl w a c l) (hs' : Sl w b d l')
    (he1 : -9223372036854775808 ≤ e) (he2 : e ≤ 9223372036854775807) (hf1 : -9223372036854775808 ≤ e') (hf2 : e' ≤ 9223372036854775807) (hge : e' ≤ e ∨ num l = 0 ∨ num l' = 0) :
    Calls Tryd.prog 78 #[.slice a l.length c, .int .i64 e, .slice b l'.length d, .int .i64 e'] w fun en w' => en = .returned (.int .i64 (agN (num l) e (num l') e')) ∧ Below w.heap.size w w' := by
  have hL1 := rlen_any a c l w (by omega) hs.w32 hs.rd
  have hL2 := rlen_any b d l' w (by omega) hs'.w32 hs'.rd
  have hC := rcmp_any a b c d l l' w (by omega) hs.w32 hs.rd (by omega) hs'.w32 hs'.rd
  have hbl := words_bitLen (Nat.le_refl (words (num l)).length)
  have hwl := words_num_len hs.w32
  have hbl' := words_bitLen (Nat.le_refl (words (num l')).length)
  have hwl' := words_num_len hs'.w32
  have hMv := fun k (hk : k ≤ 140737488355328) => rmoved_up a c l k w (by omega) hk hs
  have hC2 := fun W a3 c3 L (hw : Below w.heap.size w W) (h1 : L.length ≤ 70368744177664) (h3 : W32 L) (h4 : Rd W a3 L) => rcmp_any a3 b c3 d L l' W h1 h3 h4 (by omega) hs'.w32 (hs'.rd.grow hw)
  obtain ⟨r, hr⟩ : ∃ r, r = agN (num l) e (num l') e' := ⟨_, rfl⟩
  rw [← hr]
  have hz1 : num l = 0 ∨ (num l ≠ 0 ∧ 0 < bitLen (num l)) := by
    rcases Nat.eq_zero_or_pos (num l) with h | h
    · exact .inl h
    · exact .inr ⟨by omega, bitLen_pos (by omega)⟩
  have hz2 : num l' = 0 ∨ (num l' ≠ 0 ∧ 0 < bitLen (num l')) := by
    rcases Nat.eq_zero_or_pos (num l') with h | h
    · exact .inl h
    · exact .inr ⟨by omega, bitLen_pos (by omega)⟩
  generalize num l = M at *
  generalize num l' = N at *
  have u1 : IntKind.u64.wrap (bitLen M : Int) = (bitLen M : Int) := by rw [IntKind.wrap_u64]; omega
  have u2 : IntKind.u64.wrap (bitLen N : Int) = (bitLen N : Int) := by rw [IntKind.wrap_u64]; omega
  have HL1 := Lib.hid hL1; have HL2 := Lib.hid hL2; have HC := Lib.hid hC; have HMv := Lib.hid hMv; have HC2 := Lib.hid hC2; have HR := Lib.hid hr
  clear hL1 hL2 hC hMv hC2 hs hs' hr
  go_enter Tryd.func78, Tryd.ntmps78
  go_wp2_with fail
  refine HL1.out.mono ?_; rintro en w1 ⟨rfl, rfl⟩
  go_wp2_with fail
  refine HL2.out.mono ?_; rintro en w1 ⟨rfl, rfl⟩
  by_cases h0 : M = 0 ∨ N = 0
  · have hr : r = cmpN M N := by rw [HR.out, agN, if_pos h0]
    rw [← hr] at HC
    rcases hz1 with h1 | ⟨h1, h2⟩
    · have e1 : ((bitLen M : Int) == 0) = true := by rw [h1]; rfl
      have H0 := Lib.hid h0; clear h0 hr
      have H1 := Lib.hid h1; clear h1 hz2 hge
      go_wp2_with fail
      refine HC.out.mono ?_; rintro en w1 ⟨rfl, n, rfl⟩
      go_wp2
      go_ret
      exact ⟨rfl, below_drewN' (Below.refl _ _)⟩
    · have h3 : N = 0 := by omega
      have e1 : ((bitLen M : Int) == 0) = false := by
        simp; omega
      have e2 : ((bitLen N : Int) == 0) = true := by rw [h3]; rfl
      clear h0 hr h3 h1 hz2 hge
      go_wp2_with fail
      refine HC.out.mono ?_; rintro en w1 ⟨rfl, n, rfl⟩
      go_wp2
      go_ret
      exact ⟨rfl, below_drewN' (Below.refl _ _)⟩
  have hm : M ≠ 0 := by omega
  have hn : N ≠ 0 := by omega
  have hge' : e' ≤ e := by omega
  have hp1 := bitLen_pos hm
  have hp2 := bitLen_pos hn
  obtain ⟨up, hup⟩ : ∃ up : Nat, (up : Int) = e - e' := ⟨(e - e').toNat, by omega⟩
  have hr : r = cmpN (M * 2 ^ up) N := by
    rw [HR.out, agN, if_neg h0]; unfold magCmp; rw [if_pos hge', show (e - e').toNat = up by omega]
  have hmb := bitLen_mul up hm
  have hwr : IntKind.u64.wrap (IntKind.u64.wrap e - IntKind.u64.wrap e') = e - e' := by
    rw [IntKind.wrap_u64, IntKind.wrap_u64, IntKind.wrap_u64]; omega
  have e1 : ((bitLen M : Int) == 0) = false := by
    simp; omega
  have e2 : ((bitLen N : Int) == 0) = false := by
    simp; omega
  have HR2 := Lib.hid hr; have HMB := Lib.hid hmb; have HM := Lib.hid hm; clear hr hmb h0 hm hn hge hz1 hz2 HR
  by_cases c1 : 1099511627776 < up
  · have hr : r = 1 := by rw [HR2.out]; exact cmpN_gt (lt_of_bitLen (by rw [HMB.out]; omega))
    have HR := Lib.hid hr; clear hr
    go_wp2
    go_ret
    exact ⟨by rw [HR.out]; rfl, Below.refl _ _⟩
  have e3 : IntKind.u64.wrap ((bitLen M : Int) + (e - e')) = (bitLen M : Int) + (e - e') := by rw [IntKind.wrap_u64]; omega
  by_cases c2 : bitLen N < bitLen M + up
  · have hr : r = 1 := by rw [HR2.out]; exact cmpN_gt (lt_of_bitLen (by rw [HMB.out]; omega))
    have HR := Lib.hid hr; clear hr
    go_wp2
    go_ret
    exact ⟨by rw [HR.out]; rfl, Below.refl _ _⟩
  by_cases c3 : bitLen M + up < bitLen N
  · have hr : r = -1 := by rw [HR2.out]; exact cmpN_lt (lt_of_bitLen (by rw [HMB.out]; omega))
    have HR := Lib.hid hr; clear hr
    go_wp2
    go_ret
    exact ⟨by rw [HR.out]; rfl, Below.refl _ _⟩
  have e4 : IntKind.i64.wrap (e - e') = e - e' := by rw [IntKind.wrap_i64]; omega
  have hMv := HMv.out up (by omega)
  rw [hup] at hMv
  have HMv2 := Lib.hid hMv; clear hMv HMv
  have hlw : (words (M * 2 ^ up)).length ≤ 70368744177664 := by
    refine Nat.le_trans (bitLen_words_le (k := 70368744177664) ?_) (Nat.le_refl _)
    rw [HMB.out]; omega
  have hK : ∀ W a3 c3, Own W 64 w.heap.size a3 c3 (words (M * 2 ^ up)) → Below w.heap.size w W → Calls Tryd.prog 65 #[.slice a3 (words (M * 2 ^ up)).length c3, .slice b l'.length d] W fun en w' => en = .returned (.int .i64 r) ∧ Below w.heap.size w w' := by
    intro W a3 c3 r1 r2
    have := HC2.out W a3 c3 (words (M * 2 ^ up)) r2 hlw (W32_words _) r1.rd
    rw [num_words, ← HR2.out] at this
    refine this.mono ?_
    rintro en w' ⟨rfl, n, rfl⟩
    exact ⟨rfl, below_drewN' r2⟩
  have HK := Lib.hid hK; clear hK
  go_wp2_with fail
  refine HMv2.out.mono ?_; rintro en w1 ⟨a3, c3, rfl, ho3, hb3⟩
  go_wp2_with fail
  refine (HK.out _ _ _ ho3 hb3).mono ?_; rintro en w2 ⟨rfl, hb4⟩
  go_wp2
  go_ret
  exact ⟨rfl, hb4⟩

set_option maxRecDepth 10000 in
set_option maxHeartbeats 4000000 in
theorem against_any (a b : Option Addr) (c d : Nat) (l l' : List Nat) (e e' : Int) (w : World) (hlen : l.length ≤ 1073741824) (hlen' : l'.length ≤ 1073741824) (hs : Sl w a c l) (hs' : Sl w b d l')
    (he1 : -9223372036854775808 ≤ e) (he2 : e ≤ 9223372036854775807) (hf1 : -9223372036854775808 ≤ e') (hf2 : e' ≤ 9223372036854775807) :
    Calls Tryd.prog 78 #[.slice a l.length c, .int .i64 e, .slice b l'.length d, .int .i64 e'] w fun en w' => en = .returned (.int .i64 (agN (num l) e (num l') e')) ∧ Below w.heap.size w w' := by
  by_cases hge : e' ≤ e ∨ num l = 0 ∨ num l' = 0
  · exact against_ge a b c d l l' e e' w hlen hlen' hs hs' he1 he2 hf1 hf2 hge
  have hG := against_ge b a d c l' l e' e w hlen' hlen hs' hs hf1 hf2 he1 he2 (.inl (by omega))
  have hL1 := rlen_any a c l w (by omega) hs.w32 hs.rd
  have hL2 := rlen_any b d l' w (by omega) hs'.w32 hs'.rd
  have hbl := words_bitLen (Nat.le_refl (words (num l)).length)
  have hwl := words_num_len hs.w32
  have hbl' := words_bitLen (Nat.le_refl (words (num l')).length)
  have hwl' := words_num_len hs'.w32
  rw [agN_swap]
  obtain ⟨hb1, hb2⟩ := agN_bd (num l') e' (num l) e
  generalize agN (num l') e' (num l) e = r at *
  have hp1 := bitLen_pos (n := num l) (by omega)
  have hp2 := bitLen_pos (n := num l') (by omega)
  have hlt : e < e' := by omega
  clear hge
  generalize num l = M at *
  generalize num l' = N at *
  have u1 : IntKind.u64.wrap (bitLen M : Int) = (bitLen M : Int) := by rw [IntKind.wrap_u64]; omega
  have u2 : IntKind.u64.wrap (bitLen N : Int) = (bitLen N : Int) := by rw [IntKind.wrap_u64]; omega
  have e1 : ((bitLen M : Int) == 0) = false := by
    simp; omega
  have e2 : ((bitLen N : Int) == 0) = false := by
    simp; omega
  have HL1 := Lib.hid hL1; have HL2 := Lib.hid hL2; have HG := Lib.hid hG; clear hL1 hL2 hG hs hs'
  go_enter Tryd.func78, Tryd.ntmps78
  go_wp2_with fail
  refine HL1.out.mono ?_; rintro en w1 ⟨rfl, rfl⟩
  go_wp2_with fail
  refine HL2.out.mono ?_; rintro en w1 ⟨rfl, rfl⟩
  go_wp2_with fail
  refine HG.out.mono ?_; rintro en w1 ⟨rfl, hb⟩
  go_wp2
  go_ret
  exact ⟨rfl, hb⟩

set_option maxRecDepth 10000 in
set_option maxHeartbeats 2000000 in
theorem rcmpd_any (x y : Arg) (w : World) (hx : x.Ok w) (hy : y.Ok w) :
    Calls Tryd.prog 37 #[x.v, y.v] w fun en w' => en = .returned (.int .i64 (cmpA x y)) ∧ Below w.heap.size w w' := by
  have hS1 := fun W (hw : Below w.heap.size w W) => rsign_any x W (hx.grow hw)
  have hS2 := fun W (hw : Below w.heap.size w W) => rsign_any y W (hy.grow hw)
  have hZ := fun W (hw : Below w.heap.size w W) => against_any x.a y.a x.c y.c x.l y.l x.e y.e W hx.len hy.len (hx.sl.grow hw) (hy.sl.grow hw) hx.lo hx.hi hy.lo hy.hi
  have hZ2 := fun W (hw : Below w.heap.size w W) => against_any y.a x.a y.c x.c y.l x.l y.e x.e W hy.len hx.len (hy.sl.grow hw) (hx.sl.grow hw) hy.lo hy.hi hx.lo hx.hi
  have hsx : x.sign = 0 ∧ num x.l = 0 ∨ (x.sign = 1 ∨ x.sign = -1) ∧ num x.l ≠ 0 := by
    unfold Arg.sign; split
    · exact .inl ⟨rfl, by assumption⟩
    · split
      · exact .inr ⟨.inr rfl, by assumption⟩
      · exact .inr ⟨.inl rfl, by assumption⟩
  have hsy : y.sign = 0 ∧ num y.l = 0 ∨ (y.sign = 1 ∨ y.sign = -1) ∧ num y.l ≠ 0 := by
    unfold Arg.sign; split
    · exact .inl ⟨rfl, by assumption⟩
    · split
      · exact .inr ⟨.inr rfl, by assumption⟩
      · exact .inr ⟨.inl rfl, by assumption⟩
  obtain ⟨rr, hrr⟩ : ∃ rr, rr = cmpA x y := ⟨_, rfl⟩
  rw [← hrr]
  have hsw := agN_swap (num y.l) y.e (num x.l) x.e
  have hag : agN (num x.l) x.e (num y.l) y.e = if x.sign = 0 ∨ y.sign = 0 then cmpN (num x.l) (num y.l) else magCmp (num x.l) x.e (num y.l) y.e := by
    unfold agN
    by_cases h : num x.l = 0 ∨ num y.l = 0
    · rw [if_pos h, if_pos (by omega)]
    · rw [if_neg h, if_neg (by omega)]
  have hc0 : x.sign = 0 → y.sign = 0 → cmpN (num x.l) (num y.l) = 0 := fun h1 h2 => by
    rw [show num x.l = 0 by omega, show num y.l = 0 by omega]; rfl
  unfold cmpA at hrr
  generalize x.sign = i at *
  generalize y.sign = j at *
  obtain ⟨s, a, l, c, e⟩ := x
  obtain ⟨s', a', l', c', e'⟩ := y
  simp only [Arg.v] at hS1 hS2 hZ hZ2 ⊢
  dsimp only at hrr hZ hZ2 hsx hsy hsw hag hc0
  generalize agN (num l) e (num l') e' = g at *
  generalize agN (num l') e' (num l) e = g' at *
  generalize magCmp (num l) e (num l') e' = r at *
  generalize num l = M at *
  generalize num l' = N at *
  have HS1 := Lib.hid hS1; have HS2 := Lib.hid hS2; have HZ := Lib.hid hZ; have HZ2 := Lib.hid hZ2; have HRR := Lib.hid hrr; have HAG := Lib.hid hag; have HC0 := Lib.hid hc0; have HSW := Lib.hid hsw
  have hi1 : -1 ≤ i := by omega
  have hi2 : i ≤ 1 := by omega
  have hj1 : -1 ≤ j := by omega
  have hj2 : j ≤ 1 := by omega
  clear hS1 hS2 hZ hZ2 hx hy hrr hsx hsy hag hc0 hsw
  go_enter Tryd.func37, Tryd.ntmps37
  go_wp2_with fail
  (obtain ⟨w1, h1⟩ : ∃ W, W = (w.alloc (.cells #[.bool s, .slice a l.length c, .int .i64 e] 27)) := ⟨_, rfl⟩; have pinEq := h1; (try simp only [wr3] at pinEq); rw [← pinEq]; clear pinEq)
  (obtain ⟨w2, h2⟩ : ∃ W, W = (w1.alloc (.cells #[.bool s', .slice a' l'.length c', .int .i64 e'] 27)) := ⟨_, rfl⟩; have pinEq := h2; (try simp only [wr3] at pinEq); rw [← pinEq]; clear pinEq)
  obtain ⟨k1, hB, s1⟩ := new_cel h1 rfl
  obtain ⟨k2, b2, s2⟩ := new_cel h2 s1
  (replace k1 := cel_call b2 k1 (by omega); replace hB := below_call b2 hB (by omega))
  clear h1 h2 b2
  refine (HS1.out w2 hB).mono ?_; rintro en w3 ⟨rfl, hb⟩
  (replace k2 := cel_call hb k2 (by omega); replace k1 := cel_call hb k1 (by omega); replace hB := below_call hb hB (by omega))
  have s3 := hb.size
  clear hb; (obtain ⟨q239x0x0, q239x0x1, q239x0x2, q239x0x3, q239x0x4, q239x0x5⟩ := Cel.facts k2; obtain ⟨q239x1x0, q239x1x1, q239x1x2, q239x1x3, q239x1x4, q239x1x5⟩ := Cel.facts k1)
  go_wp2_with fail
  refine (HS2.out w3 hB).mono ?_; rintro en w4 ⟨rfl, hb⟩
  (replace k2 := cel_call hb k2 (by omega); replace k1 := cel_call hb k1 (by omega); replace hB := below_call hb hB (by omega))
  have s4 := hb.size
  clear hb; (clear q239x0x0 q239x0x1 q239x0x2 q239x0x3 q239x0x4 q239x0x5 q239x1x0 q239x1x1 q239x1x2 q239x1x3 q239x1x4 q239x1x5; obtain ⟨q244x0x0, q244x0x1, q244x0x2, q244x0x3, q244x0x4, q244x0x5⟩ := Cel.facts k2; obtain ⟨q244x1x0, q244x1x1, q244x1x2, q244x1x3, q244x1x4, q244x1x5⟩ := Cel.facts k1)
  by_cases c1 : i < j
  · have hr : rr = -1 := by rw [HRR.out, if_pos c1]
    have Hr := Lib.hid hr; clear hr
    go_wp2
    go_ret
    exact ⟨by rw [Hr.out]; rfl, hB⟩
  by_cases c2 : j < i
  · have hr : rr = 1 := by rw [HRR.out, if_neg c1, if_pos c2]
    have Hr := Lib.hid hr; clear hr
    go_wp2
    go_ret
    exact ⟨by rw [Hr.out]; rfl, hB⟩
  by_cases c3 : i < 0
  · have hr : rr = g' := by
      rw [HRR.out, if_neg c1, if_neg c2, if_neg (by omega), HSW.out, HAG.out, if_neg (by omega), show i = -1 by omega]; omega
    rw [← hr] at HZ2
    clear hr
    go_wp2_with fail
    refine (HZ2.out w4 hB).mono ?_; rintro en w5 ⟨rfl, hb⟩
    (replace k2 := cel_call hb k2 (by omega); replace k1 := cel_call hb k1 (by omega); replace hB := below_call hb hB (by omega))
    go_wp2
    go_ret
    exact ⟨rfl, hB⟩
  · have hr : rr = g := by
      rw [HRR.out, if_neg c1, if_neg c2, HAG.out]
      by_cases h : i = 0
      · rw [if_pos h, if_pos (.inl h), HC0.out h (by omega)]
      · rw [if_neg h, if_neg (by omega), show i = 1 by omega]; omega
    rw [← hr] at HZ
    clear hr
    go_wp2_with fail
    refine (HZ.out w4 hB).mono ?_; rintro en w5 ⟨rfl, hb⟩
    (replace k2 := cel_call hb k2 (by omega); replace k1 := cel_call hb k1 (by omega); replace hB := below_call hb hB (by omega))
    go_wp2
    go_ret
    exact ⟨rfl, hB⟩
end Go.Proofs.YtmokomfneikipaaDoor
