/- Contracts of dyad.Sub, Neg, Sign and of steelyardref03's turned, Sub, Neg, Sign. Comparing, in numbers; contracts of dyad.size, Cmp. Contracts of steelyardref03.Against, Cmp. Contracts of package steelyardref02: Lent, AsLent. Contracts of dyad.Int and of steelyardref03's Int, Lent, AsLent, Same. Kinds of numbers; contracts of steelyardref03's Of64, Of32, Number. No statement of the seat is proved here. -/
import Derived.Test.YteahdgbokjbgcaaGreatDoorProg
import Derived.Test.YteahdgbokjbgcaaGreatDoorYDg
import Derived.Test.YteahdgbokjbgcaaGreatDoorYMD
import Derived.Test.YteahdgbokjbgcaaGreatDoorYMR
namespace Go.Proofs.YteahdgbokjbgcaaGreatDoor
open Go.RowKit
set_option linter.unusedVariables false
set_option linter.unusedSimpArgs false

def Arg.opp (x : Arg) : Arg := ⟨!x.s, x.a, x.l, x.c, x.e⟩
theorem Arg.Ok.opp {w : World} {x : Arg} (h : x.Ok w) : x.opp.Ok w := ⟨h.sl, h.len, h.lo, h.hi⟩

set_option maxRecDepth 10000 in
set_option maxHeartbeats 1000000 in
theorem turned_any (x : Arg) (w : World) :
    Calls Tryz.prog 244 #[x.v] w fun en w' => en = .returned x.opp.v ∧ Below w.heap.size w w' := by
  obtain ⟨s, a, l, c, e⟩ := x
  simp only [Arg.v, Arg.opp]
  go_enter Tryz.func244, Tryz.ntmps244
  go_wp2
  have hb1 := (Below.refl w.heap.size w).alloc (Nat.le_refl _) (.cells #[.bool s, .slice a l.length c, .int .i64 e] 46)
  have hb2 := hb1.alloc (by rw [World.size_alloc]; omega) (.cells #[.bool (!s), .slice a l.length c, .int .i64 e] 46)
  have k := Cel.new (w.alloc (.cells #[.bool s, .slice a l.length c, .int .i64 e] 46)) (.bool (!s)) (.slice a l.length c) (.int .i64 e)
  rw [World.size_alloc] at k
  obtain ⟨c0, cc1, cc2, _, _, _⟩ := k.facts
  refine bodyPost_ret (v := .agg #[.bool (!s), .slice a l.length c, .int .i64 e]) (by simp [results, Tryz.results244, go_sem, c0, cc1, cc2]) rfl ?_
  exact ⟨rfl, hb2⟩

set_option maxRecDepth 10000 in
set_option maxHeartbeats 1000000 in
theorem rsub_any (x y : Arg) (w : World) (hx : x.Ok w) (hy : y.Ok w) :
    Calls Tryz.prog 149 #[x.v, y.v] w fun en w' => Came w w' (addO x.F y.opp.F) en := by
  have hF := fun W hw => radd_any x y.opp W (hx.grow hw) (hy.grow hw).opp
  have hT := fun W => turned_any y W
  generalize addO x.F y.opp.F = o at *
  have HF := Lib.hid hF; have HT := Lib.hid hT; clear hF hx hy hT
  obtain ⟨s, a, l, c, e⟩ := x
  obtain ⟨s', a', l', c', e'⟩ := y
  simp only [Arg.v, Arg.opp] at HF HT ⊢
  go_enter Tryz.func149, Tryz.ntmps149
  go_wp2_with fail
  (obtain ⟨w1, h1⟩ : ∃ W, W = (w.alloc (.cells #[.bool s, .slice a l.length c, .int .i64 e] 46)) := ⟨_, rfl⟩; have pinEq := h1; (try simp only [wr3] at pinEq); rw [← pinEq]; clear pinEq)
  (obtain ⟨w2, h2⟩ : ∃ W, W = (w1.alloc (.cells #[.bool s', .slice a' l'.length c', .int .i64 e'] 46)) := ⟨_, rfl⟩; have pinEq := h2; (try simp only [wr3] at pinEq); rw [← pinEq]; clear pinEq)
  (obtain ⟨w3, h3⟩ : ∃ W, W = (w2.alloc (.cells #[.bool false, .slice none 0 0, .int .i64 0] 46)) := ⟨_, rfl⟩; have pinEq := h3; (try simp only [wr3] at pinEq); rw [← pinEq]; clear pinEq)
  obtain ⟨k1, hB, s1⟩ := new_cel h1 rfl
  obtain ⟨k2, b2, s2⟩ := new_cel h2 s1
  (replace k1 := cel_call b2 k1 (by omega); replace hB := below_call b2 hB (by omega))
  obtain ⟨k3, b3, s3⟩ := new_cel h3 s2
  (replace k2 := cel_call b3 k2 (by omega); replace b2 := below_call b3 b2 (by omega); replace k1 := cel_call b3 k1 (by omega); replace hB := below_call b3 hB (by omega))
  clear h1 h2 h3 b2 b3
  (obtain ⟨q83x0x0, q83x0x1, q83x0x2, q83x0x3, q83x0x4, q83x0x5⟩ := Cel.facts k3; obtain ⟨q83x1x0, q83x1x1, q83x1x2, q83x1x3, q83x1x4, q83x1x5⟩ := Cel.facts k2; obtain ⟨q83x2x0, q83x2x1, q83x2x2, q83x2x3, q83x2x4, q83x2x5⟩ := Cel.facts k1)
  go_region_with (first
    | (go_at_call 244; refine (HT.out _).mono ?_; rintro en w4 ⟨rfl, hb⟩; have q1 := k1.below (below_drewN (n := 1) hb) (by have := k1.lt; simpa using this); obtain ⟨_, _, _, _, _, _⟩ := q1.facts)
    | (go_at_call 71; refine (HF.out _ (hB.trans ((below_drewN (n := 1) hb).mono (by simp; omega)))).mono ?_; rintro en w5 ⟨v, rfl, ⟨a1, c1, rfl, ho1⟩, hb2⟩; have q3 := (k3.below (below_drewN (n := 1) hb) (by have := k3.lt; simpa using this)); have q4 := q3.below hb2 q3.lt; obtain ⟨_, _, _, _, _, _⟩ := q4.facts; simp only [dyV]))
  all_goals
    go_wp2
    have z1 := hb.size
    have z2 := hb2.size
    simp only [World.size_drew] at z1
    obtain ⟨c0, cc1, cc2, _, _, _⟩ := q4.facts
    refine bodyPost_ret (v := .tuple #[dyV (outO o) a1 c1, .int .i64 (errO o)]) (by simp [results, Tryz.results149, go_sem, dyV, c0, cc1, cc2]) rfl ?_
    exact ⟨_, rfl, ⟨a1, c1, rfl, (own_wr3 (g := w.heap.size + 1 + 1) ho1 (by omega)).mono (by omega)⟩, below_wr3 (g := w.heap.size + 1 + 1) ((hB.trans ((below_drewN (n := 1) hb).mono (by simp; omega))).trans (hb2.mono (by omega))) (by omega)⟩

/-- a Dyad comes out alone -/
def CameD (w w' : World) (d : D) (e : Ending) : Prop := ∃ v, e = .returned v ∧ DOwn w' w.heap.size d v ∧ Below w.heap.size w w'

end Go.Proofs.YteahdgbokjbgcaaGreatDoor
namespace Go.Proofs.YteahdgbokjbgcaaGreatDoor
open Go.RowKit
set_option linter.unusedVariables false
set_option linter.unusedSimpArgs false

/-- how m times two to the power e stands to n times two to the power f -/
def magCmp (m : Nat) (e : Int) (n : Nat) (f : Int) : Int :=
  if f ≤ e then cmpN (m * 2 ^ (e - f).toNat) n else cmpN m (n * 2 ^ (f - e).toNat)
theorem cmpN_swap (a b : Nat) : cmpN a b = - cmpN b a := by
  unfold cmpN; split <;> (try split) <;> (try split) <;> omega
theorem magCmp_swap (m : Nat) (e : Int) (n : Nat) (f : Int) : magCmp m e n f = - magCmp n f m e := by
  unfold magCmp
  split <;> split
  · obtain rfl : e = f := by omega
    simp only [Int.sub_self, Int.toNat_zero, Nat.pow_zero, Nat.mul_one]; exact cmpN_swap _ _
  · exact cmpN_swap _ _
  · exact cmpN_swap _ _
  · omega
theorem lt_of_bitLen {a b : Nat} (h : bitLen a < bitLen b) : a < b := by
  rcases Nat.lt_or_ge a b with h1 | h1
  · exact h1
  · have h2 := bitLen_spec a
    have h3 := bitLen_spec b
    have : b < 2 ^ bitLen a := by omega
    have := bitLen_lt this
    omega

end Go.Proofs.YteahdgbokjbgcaaGreatDoor
namespace Go.Proofs.YteahdgbokjbgcaaGreatDoor
open Go.RowKit
set_option linter.unusedVariables false
set_option linter.unusedSimpArgs false

/-- how two stand, noughts too -/
def agN (m : Nat) (e : Int) (n : Nat) (f : Int) : Int := if m = 0 ∨ n = 0 then cmpN m n else magCmp m e n f
theorem agN_swap (m : Nat) (e : Int) (n : Nat) (f : Int) : agN m e n f = - agN n f m e := by
  unfold agN
  by_cases h : m = 0 ∨ n = 0
  · rw [if_pos h, if_pos (by omega), cmpN_swap]
  · rw [if_neg h, if_neg (by omega), magCmp_swap]
theorem agN_bd (m : Nat) (e : Int) (n : Nat) (f : Int) : -1 ≤ agN m e n f ∧ agN m e n f ≤ 1 := by
  unfold agN; split
  · exact ⟨cmpN_lo _ _, cmpN_hi _ _⟩
  · unfold magCmp; split
    · exact ⟨cmpN_lo _ _, cmpN_hi _ _⟩
    · exact ⟨cmpN_lo _ _, cmpN_hi _ _⟩

set_option maxRecDepth 10000 in
set_option maxHeartbeats 4000000 in
theorem against_ge (a b : Option Addr) (c d : Nat) (l l' : List Nat) (e e' : Int) (w : World) (hlen : l.length ≤ 1073741824) (hlen' : l'.length ≤ 1073741824) (hs : Sl w a c l) (hs' : Sl w b d l')
    (he1 : -9223372036854775808 ≤ e) (he2 : e ≤ 9223372036854775807) (hf1 : -9223372036854775808 ≤ e') (hf2 : e' ≤ 9223372036854775807) (hge : e' ≤ e ∨ num l = 0 ∨ num l' = 0) :
    Calls Tryz.prog 190 #[.slice a l.length c, .int .i64 e, .slice b l'.length d, .int .i64 e'] w fun en w' => en = .returned (.int .i64 (agN (num l) e (num l') e')) ∧ Below w.heap.size w w' := by
  have hL1 := rlen_any a c l w (by omega) hs.w32 hs.rd
  have hL2 := rlen_any b d l' w (by omega) hs'.w32 hs'.rd
  have hC := rcmp_any a b c d l l' w (by omega) hs.w32 hs.rd (by omega) hs'.w32 hs'.rd
  have hbl := words_bitLen (Nat.le_refl (words (num l)).length)
  have hwl := words_num_len hs.w32
  have hbl' := words_bitLen (Nat.le_refl (words (num l')).length)
  have hwl' := words_num_len hs'.w32
  have hMv := fun k (hk : k ≤ 140737488355328) => rmoved_up a c l k w (by omega) hk hs
  have hC2 := fun W a3 c3 L (hw : Below w.heap.size w W) (h1 : L.length ≤ 70368744177664) (h3 : W32 L) (h4 : Rd W a3 L) => rcmp_any a3 b c3 d L l' W h1 h3 h4 (by omega) hs'.w32 (hs'.rd.grow hw)
  obtain ⟨r, hr⟩ : ∃ r, r = agN (num l) e (num l') e' := ⟨_, rfl⟩
  rw [← hr]
  have hz1 : num l = 0 ∨ (num l ≠ 0 ∧ 0 < bitLen (num l)) := by
    rcases Nat.eq_zero_or_pos (num l) with h | h
    · exact .inl h
    · exact .inr ⟨by omega, bitLen_pos (by omega)⟩
  have hz2 : num l' = 0 ∨ (num l' ≠ 0 ∧ 0 < bitLen (num l')) := by
    rcases Nat.eq_zero_or_pos (num l') with h | h
    · exact .inl h
    · exact .inr ⟨by omega, bitLen_pos (by omega)⟩
  generalize num l = M at *
  generalize num l' = N at *
  have u1 : IntKind.u64.wrap (bitLen M : Int) = (bitLen M : Int) := by rw [IntKind.wrap_u64]; omega
  have u2 : IntKind.u64.wrap (bitLen N : Int) = (bitLen N : Int) := by rw [IntKind.wrap_u64]; omega
  have HL1 := Lib.hid hL1; have HL2 := Lib.hid hL2; have HC := Lib.hid hC; have HMv := Lib.hid hMv; have HC2 := Lib.hid hC2; have HR := Lib.hid hr
  clear hL1 hL2 hC hMv hC2 hs hs' hr
  go_enter Tryz.func190, Tryz.ntmps190
  go_wp2_with fail
  refine HL1.out.mono ?_; rintro en w1 ⟨rfl, rfl⟩
  go_wp2_with fail
  refine HL2.out.mono ?_; rintro en w1 ⟨rfl, rfl⟩
  by_cases h0 : M = 0 ∨ N = 0
  · have hr : r = cmpN M N := by rw [HR.out, agN, if_pos h0]
    rw [← hr] at HC
    rcases hz1 with h1 | ⟨h1, h2⟩
    · have e1 : ((bitLen M : Int) == 0) = true := by rw [h1]; rfl
      have H0 := Lib.hid h0; clear h0 hr
      have H1 := Lib.hid h1; clear h1 hz2 hge
      go_wp2_with fail
      refine HC.out.mono ?_; rintro en w1 ⟨rfl, n, rfl⟩
      go_wp2
      go_ret
      exact ⟨rfl, below_drewN' (Below.refl _ _)⟩
    · have h3 : N = 0 := by omega
      have e1 : ((bitLen M : Int) == 0) = false := by
        simp; omega
      have e2 : ((bitLen N : Int) == 0) = true := by rw [h3]; rfl
      clear h0 hr h3 h1 hz2 hge
      go_wp2_with fail
      refine HC.out.mono ?_; rintro en w1 ⟨rfl, n, rfl⟩
      go_wp2
      go_ret
      exact ⟨rfl, below_drewN' (Below.refl _ _)⟩
  have hm : M ≠ 0 := by omega
  have hn : N ≠ 0 := by omega
  have hge' : e' ≤ e := by omega
  have hp1 := bitLen_pos hm
  have hp2 := bitLen_pos hn
  obtain ⟨up, hup⟩ : ∃ up : Nat, (up : Int) = e - e' := ⟨(e - e').toNat, by omega⟩
  have hr : r = cmpN (M * 2 ^ up) N := by
    rw [HR.out, agN, if_neg h0]; unfold magCmp; rw [if_pos hge', show (e - e').toNat = up by omega]
  have hmb := bitLen_mul up hm
  have hwr : IntKind.u64.wrap (IntKind.u64.wrap e - IntKind.u64.wrap e') = e - e' := by
    rw [IntKind.wrap_u64, IntKind.wrap_u64, IntKind.wrap_u64]; omega
  have e1 : ((bitLen M : Int) == 0) = false := by
    simp; omega
  have e2 : ((bitLen N : Int) == 0) = false := by
    simp; omega
  have HR2 := Lib.hid hr; have HMB := Lib.hid hmb; have HM := Lib.hid hm; clear hr hmb h0 hm hn hge hz1 hz2 HR
  by_cases c1 : 1099511627776 < up
  · have hr : r = 1 := by rw [HR2.out]; exact cmpN_gt (lt_of_bitLen (by rw [HMB.out]; omega))
    have HR := Lib.hid hr; clear hr
    go_wp2
    go_ret
    exact ⟨by rw [HR.out]; rfl, Below.refl _ _⟩
  have e3 : IntKind.u64.wrap ((bitLen M : Int) + (e - e')) = (bitLen M : Int) + (e - e') := by rw [IntKind.wrap_u64]; omega
  by_cases c2 : bitLen N < bitLen M + up
  · have hr : r = 1 := by rw [HR2.out]; exact cmpN_gt (lt_of_bitLen (by rw [HMB.out]; omega))
    have HR := Lib.hid hr; clear hr
    go_wp2
    go_ret
    exact ⟨by rw [HR.out]; rfl, Below.refl _ _⟩
  by_cases c3 : bitLen M + up < bitLen N
  · have hr : r = -1 := by rw [HR2.out]; exact cmpN_lt (lt_of_bitLen (by rw [HMB.out]; omega))
    have HR := Lib.hid hr; clear hr
    go_wp2
    go_ret
    exact ⟨by rw [HR.out]; rfl, Below.refl _ _⟩
  have e4 : IntKind.i64.wrap (e - e') = e - e' := by rw [IntKind.wrap_i64]; omega
  have hMv := HMv.out up (by omega)
  rw [hup] at hMv
  have HMv2 := Lib.hid hMv; clear hMv HMv
  have hlw : (words (M * 2 ^ up)).length ≤ 70368744177664 := by
    refine Nat.le_trans (bitLen_words_le (k := 70368744177664) ?_) (Nat.le_refl _)
    rw [HMB.out]; omega
  have hK : ∀ W a3 c3, Own W 118 w.heap.size a3 c3 (words (M * 2 ^ up)) → Below w.heap.size w W → Calls Tryz.prog 187 #[.slice a3 (words (M * 2 ^ up)).length c3, .slice b l'.length d] W fun en w' => en = .returned (.int .i64 r) ∧ Below w.heap.size w w' := by
    intro W a3 c3 r1 r2
    have := HC2.out W a3 c3 (words (M * 2 ^ up)) r2 hlw (W32_words _) r1.rd
    rw [num_words, ← HR2.out] at this
    refine this.mono ?_
    rintro en w' ⟨rfl, n, rfl⟩
    exact ⟨rfl, below_drewN' r2⟩
  have HK := Lib.hid hK; clear hK
  go_wp2_with fail
  refine HMv2.out.mono ?_; rintro en w1 ⟨a3, c3, rfl, ho3, hb3⟩
  go_wp2_with fail
  refine (HK.out _ _ _ ho3 hb3).mono ?_; rintro en w2 ⟨rfl, hb4⟩
  go_wp2
  go_ret
  exact ⟨rfl, hb4⟩

set_option maxRecDepth 10000 in
set_option maxHeartbeats 4000000 in
theorem against_any (a b : Option Addr) (c d : Nat) (l l' : List Nat) (e e' : Int) (w : World) (hlen : l.length ≤ 1073741824) (hlen' : l'.length ≤ 1073741824) (hs : Sl w a c l) (hs' : Sl w b d l')
    (he1 : -9223372036854775808 ≤ e) (he2 : e ≤ 9223372036854775807) (hf1 : -9223372036854775808 ≤ e') (hf2 : e' ≤ 9223372036854775807) :
    Calls Tryz.prog 190 #[.slice a l.length c, .int .i64 e, .slice b l'.length d, .int .i64 e'] w fun en w' => en = .returned (.int .i64 (agN (num l) e (num l') e')) ∧ Below w.heap.size w w' := by
  by_cases hge : e' ≤ e ∨ num l = 0 ∨ num l' = 0
  · exact against_ge a b c d l l' e e' w hlen hlen' hs hs' he1 he2 hf1 hf2 hge
  have hG := against_ge b a d c l' l e' e w hlen' hlen hs' hs hf1 hf2 he1 he2 (.inl (by omega))
  have hL1 := rlen_any a c l w (by omega) hs.w32 hs.rd
  have hL2 := rlen_any b d l' w (by omega) hs'.w32 hs'.rd
  have hbl := words_bitLen (Nat.le_refl (words (num l)).length)
  have hwl := words_num_len hs.w32
  have hbl' := words_bitLen (Nat.le_refl (words (num l')).length)
  have hwl' := words_num_len hs'.w32
  rw [agN_swap]
  obtain ⟨hb1, hb2⟩ := agN_bd (num l') e' (num l) e
  generalize agN (num l') e' (num l) e = r at *
  have hp1 := bitLen_pos (n := num l) (by omega)
  have hp2 := bitLen_pos (n := num l') (by omega)
  have hlt : e < e' := by omega
  clear hge
  generalize num l = M at *
  generalize num l' = N at *
  have u1 : IntKind.u64.wrap (bitLen M : Int) = (bitLen M : Int) := by rw [IntKind.wrap_u64]; omega
  have u2 : IntKind.u64.wrap (bitLen N : Int) = (bitLen N : Int) := by rw [IntKind.wrap_u64]; omega
  have e1 : ((bitLen M : Int) == 0) = false := by
    simp; omega
  have e2 : ((bitLen N : Int) == 0) = false := by
    simp; omega
  have HL1 := Lib.hid hL1; have HL2 := Lib.hid hL2; have HG := Lib.hid hG; clear hL1 hL2 hG hs hs'
  go_enter Tryz.func190, Tryz.ntmps190
  go_wp2_with fail
  refine HL1.out.mono ?_; rintro en w1 ⟨rfl, rfl⟩
  go_wp2_with fail
  refine HL2.out.mono ?_; rintro en w1 ⟨rfl, rfl⟩
  go_wp2_with fail
  refine HG.out.mono ?_; rintro en w1 ⟨rfl, hb⟩
  go_wp2
  go_ret
  exact ⟨rfl, hb⟩

end Go.Proofs.YteahdgbokjbgcaaGreatDoor
namespace Go.Proofs.YteahdgbokjbgcaaGreatDoor
open Go.RowKit
set_option linter.unusedVariables false
set_option linter.unusedSimpArgs false

end Go.Proofs.YteahdgbokjbgcaaGreatDoor
namespace Go.Proofs.YteahdgbokjbgcaaGreatDoor
open Go.RowKit
set_option linter.unusedVariables false
set_option linter.unusedSimpArgs false

/-- a whole number's form -/
def intF (n : Int) : Option D := formF (decide (n < 0)) n.natAbs 0

set_option maxRecDepth 10000 in
set_option maxHeartbeats 2000000 in
theorem same_any (x y : Arg) (w : World) (hx : x.Ok w) (hy : y.Ok w) (h : x.s = y.s ∧ x.e = y.e ∧ x.l = y.l) :
    Calls Tryz.prog 18 #[x.v, y.v] w fun en w' => en = .returned (.bool true) ∧ Below w.heap.size w w' := by
  have hr1 := fun W (hw : Below w.heap.size w W) => (hx.sl.rd.grow hw)
  have hr2 := fun W (hw : Below w.heap.size w W) => (hy.sl.rd.grow hw)
  have hw32 := hx.sl.w32
  have hlen := hx.len
  obtain ⟨s, a, l, c, e⟩ := x
  obtain ⟨s', a', l', c', e'⟩ := y
  obtain ⟨rfl, rfl, rfl⟩ := h
  simp only [Arg.v] at *
  have HR1 := Lib.hid hr1; have HR2 := Lib.hid hr2; have HW := Lib.hid hw32; clear hr1 hr2 hw32 hx hy
  go_enter Tryz.func18, Tryz.ntmps18
  have e1 : (s != s) = false := by simp
  have e2 : (e != e) = false := by simp
  have e3 : ((l.length : Int) != (l.length : Int)) = false := by simp
  go_wp2_with fail
  (obtain ⟨w1, h1⟩ : ∃ W, W = (w.alloc (.cells #[.bool s, .slice a l.length c, .int .i64 e] 46)) := ⟨_, rfl⟩; have pinEq := h1; (try simp only [wr3] at pinEq); rw [← pinEq]; clear pinEq)
  (obtain ⟨w2, h2⟩ : ∃ W, W = (w1.alloc (.cells #[.bool s, .slice a' l.length c', .int .i64 e] 46)) := ⟨_, rfl⟩; have pinEq := h2; (try simp only [wr3] at pinEq); rw [← pinEq]; clear pinEq)
  obtain ⟨k1, hB, s1⟩ := new_cel h1 rfl
  obtain ⟨k2, b2, s2⟩ := new_cel h2 s1
  (replace k1 := cel_call b2 k1 (by omega); replace hB := below_call b2 hB (by omega))
  clear h1 h2 b2
  go_loopw [5] (fun i wr => ∃ (k q : Nat), k ≤ l.length ∧ i = .int .i64 k ∧ wr = w2.drewN q) (fun i _ => l.length - (intOf i).toNat)
  case atStart => exact ⟨0, 0, Nat.zero_le _, rfl, rfl⟩
  case round =>
    obtain ⟨k, q, hk, rfl, rfl⟩ := hrel
    have k1q : Cel (w2.drewN q) w.heap.size (.bool s) (.slice a l.length c) (.int .i64 e) := k1
    have k2q : Cel (w2.drewN q) (w.heap.size + 1) (.bool s) (.slice a' l.length c') (.int .i64 e) := k2
    obtain ⟨_, _, _, _, _, _⟩ := k1.facts
    obtain ⟨_, _, _, _, _, _⟩ := k2.facts
    by_cases hkl : k < l.length
    · obtain ⟨b1, off1, x, rfl, hc1, hx, HX⟩ := (HR1.out _ hB).at HW.out hkl
      obtain ⟨b2, off2, y, rfl, hc2, hy, HY⟩ := (HR2.out _ hB).at HW.out hkl
      obtain rfl : x = y := by have h1 := HX.out; rw [HY.out] at h1; exact (Option.some.inj h1).symm
      have e4 : ((x : Int) != (x : Int)) = false := by simp
      go_wp2
      go_quiet (fail)
      go_wp2
      go_roundw
      case rel => exact ⟨k + 1, q + nq, by omega, by go_num, rfl⟩
      case measure => simp [intOf]; omega
    · go_wp2
      go_ret
      exact ⟨rfl, below_drewN' hB⟩

end Go.Proofs.YteahdgbokjbgcaaGreatDoor
namespace Go.Proofs.YteahdgbokjbgcaaGreatDoor
open Go.RowKit
set_option linter.unusedVariables false
set_option linter.unusedSimpArgs false

/-- the k-th number of a kind of h + 1 binary digits: a whole number, and its power above the least -/
def numM (h k : Nat) : Nat := if k / 2 ^ h = 0 then k % 2 ^ h else 2 ^ h + k % 2 ^ h
def numE (h k : Nat) : Nat := k / 2 ^ h - 1

set_option maxRecDepth 10000 in
set_option maxHeartbeats 2000000 in
theorem number_any (h k : Nat) (L : Int) (E : Nat) (w : World) (hh : h ≤ 52) (hk : k < 18446744073709551616) (hh2 : 1 ≤ h) (hL1 : -2000 ≤ L) (hL2 : L ≤ 2000) (hq : k / 2 ^ h ≤ 1000000) :
    Calls Tryz.prog 258 #[.agg #[.int .i64 (h + 1 : Nat), .int .i64 L, .int .u64 E], .int .u64 k] w fun en w' => ∃ a c, en = .returned (.tuple #[.slice a (words (numM h k)).length c, .int .i64 (L + numE h k)]) ∧ Own w' 118 w.heap.size a c (words (numM h k)) ∧ Below w.heap.size w w' := by
  have hp := Nat.two_pow_pos h
  have hp52 : 2 ^ h ≤ 4503599627370496 := by have := Nat.pow_le_pow_right (show 0 < 2 by decide) hh; simpa using this
  have hp2 : 2 ≤ 2 ^ h := by have := Nat.pow_le_pow_right (show 0 < 2 by decide) hh2; simpa using this
  obtain ⟨H, hH⟩ : ∃ H, H = 2 ^ h := ⟨_, rfl⟩
  obtain ⟨q, hqe⟩ : ∃ q, q = k / H := ⟨_, rfl⟩
  obtain ⟨r, hre⟩ : ∃ r, r = k % H := ⟨_, rfl⟩
  have hM : numM h k = if q = 0 then r else H + r := by unfold numM; rw [← hH, ← hqe, ← hre]
  have hE : numE h k = q - 1 := by unfold numE; rw [← hH, ← hqe]
  rw [hM, hE]
  rw [← hH] at hp hp52 hp2 hq
  rw [← hqe] at hq
  have f1 : IntKind.u64.wrap ((2 : Int) ^ h) = (H : Int) := by
    rw [show ((2 : Int) ^ h) = ((2 ^ h : Nat) : Int) from by simp, ← hH]; exact wrap_u64_nat _ (by omega)
  have f2 : IntKind.u64.wrap ((k : Int) / (H : Int)) = (q : Int) := by
    rw [show ((k : Int) / (H : Int)) = ((k / H : Nat) : Int) from by simp, ← hqe]; exact wrap_u64_nat _ (by omega)
  have f3 : (k : Int) % (H : Int) = (r : Int) := by
    rw [show ((k : Int) % (H : Int)) = ((k % H : Nat) : Int) from by simp, ← hre]
  have hr : r < H := by rw [hre]; exact Nat.mod_lt _ hp
  clear hH hqe hre hM hE
  have hOf := fun W n (hn : n < 18446744073709551616) => rof_any n W hn
  have HOf := Lib.hid hOf; clear hOf
  obtain ⟨n, hn⟩ : ∃ n, n = (if q = 0 then r else H + r) := ⟨_, rfl⟩
  rw [← hn]
  have hn2 : n < 18446744073709551616 := by rw [hn]; split <;> omega
  have hO2 := fun W => HOf.out W n hn2
  clear HOf
  have g1 : IntKind.u64.wrap ((H : Int) + (r : Int)) = (H : Int) + (r : Int) := by rw [IntKind.wrap_u64]; omega
  have g2 : IntKind.i64.wrap (q : Int) = (q : Int) := by rw [IntKind.wrap_i64]; omega
  have g3 : IntKind.i64.wrap (L + (q : Int)) = L + (q : Int) := by rw [IntKind.wrap_i64]; omega
  have g4 : IntKind.i64.wrap (L + (q : Int) - 1) = L + (q : Int) - 1 := by rw [IntKind.wrap_i64]; omega
  have hqz : q = 0 ∧ n = r ∨ q ≠ 0 ∧ n = H + r := by
    by_cases h : q = 0
    · exact .inl ⟨h, by rw [hn, if_pos h]⟩
    · exact .inr ⟨h, by rw [hn, if_neg h]⟩
  have hO3 : ∀ W z, z = (n : Int) → Calls Tryz.prog 126 #[.int .u64 z] W fun e w' => ∃ a' c', e = .returned (.slice a' (words n).length c') ∧ Own w' 118 W.heap.size a' c' (words n) ∧ Below W.heap.size W w' := by
    rintro W z rfl; exact hO2 W
  have HO := Lib.hid hO3; clear hO2 hO3 hn
  go_enter Tryz.func258, Tryz.ntmps258
  rcases hqz with ⟨h0, h1⟩ | ⟨h0, h1⟩
  · have e1 : ((q : Int) == 0) = true := by rw [h0]; rfl
    have H0 := Lib.hid h0; have H1 := Lib.hid h1; clear h0 h1
    go_wp2_with fail
    obtain ⟨w1, h1⟩ : ∃ W, W = w.alloc (.cells #[.int .i64 ((h : Int) + 1), .int .i64 L, .int .u64 (E : Int)] 179) := ⟨_, rfl⟩
    rw [← h1]
    obtain ⟨k1, hB, s1⟩ := new_of h1 rfl
    clear h1
    obtain ⟨_, _, _, _, _, _⟩ := cells3 k1
    have b1 : Below w.heap.size w w1.drew := hB.drew
    have HS := Lib.hid s1; clear s1
    go_region_held3 (fun W => W.cell? ⟨w.heap.size, 1, none⟩ = some (.int .i64 L)) (go_keep) (first
      | (go_at_call 126; refine (HO.out _ _ (by have := H1.out; omega)).mono ?_; rintro en w4 ⟨a4, c4, rfl, ho4, hb4⟩; have k14 := (hb4.block w.heap.size (by have := HS.out; simp; omega)).trans k1; obtain ⟨_, _, _, _, _, _⟩ := cells3 k14))
    all_goals
      go_wp2
      have hs := HS.out
      refine bodyPost_ret (v := .tuple #[.slice a4 (words n).length c4, .int .i64 L]) (by simp [results, Tryz.results258, go_sem]) rfl ?_
      refine ⟨a4, c4, by rw [show q = 0 from H0.out]; simp, ho4.mono (by simp; omega), b1.trans (hb4.mono (by simp; omega))⟩
  · have e1 : ((q : Int) == 0) = false := by simp; omega
    have H0 := Lib.hid h0; have H1 := Lib.hid h1; clear h0 h1
    go_wp2_with fail
    obtain ⟨w1, h1⟩ : ∃ W, W = w.alloc (.cells #[.int .i64 ((h : Int) + 1), .int .i64 L, .int .u64 (E : Int)] 179) := ⟨_, rfl⟩
    rw [← h1]
    obtain ⟨k1, hB, s1⟩ := new_of h1 rfl
    clear h1
    obtain ⟨_, _, _, _, _, _⟩ := cells3 k1
    have b1 : Below w.heap.size w w1.drew := hB.drew
    have HS := Lib.hid s1; clear s1
    go_region_held3 (fun W => W.cell? ⟨w.heap.size, 1, none⟩ = some (.int .i64 L)) (go_keep) (first
      | (go_at_call 126; refine (HO.out _ _ (by have := H1.out; omega)).mono ?_; rintro en w4 ⟨a4, c4, rfl, ho4, hb4⟩; have k14 := (hb4.block w.heap.size (by have := HS.out; simp; omega)).trans k1; obtain ⟨_, _, _, _, _, _⟩ := cells3 k14))
    all_goals
      go_wp2
      have hs := HS.out
      refine bodyPost_ret (v := .tuple #[.slice a4 (words n).length c4, .int .i64 (L + (q : Int) - 1)]) (by simp [results, Tryz.results258, go_sem]) rfl ?_
      refine ⟨a4, c4, by rw [show L + (q : Int) - 1 = L + ((q - 1 : Nat) : Int) from by have := H0.out; omega], ho4.mono (by simp; omega), b1.trans (hb4.mono (by simp; omega))⟩
end Go.Proofs.YteahdgbokjbgcaaGreatDoor
