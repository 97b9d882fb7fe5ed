/- Contract of dyad's grid.on. No statement of the seat is proved here. -/
import Derived.Test.YtmokomfneikipaaDoorProg
import Derived.Test.YtmokomfneikipaaDoorEc
namespace Go.Proofs.YtmokomfneikipaaDoor
open Go.RowKit
set_option linter.unusedVariables false
set_option linter.unusedSimpArgs false

set_option maxHeartbeats 1000000 in
set_option maxRecDepth 10000 in
theorem shift_dn (a : Option Addr) (c : Nat) (l : List Nat) (k : Nat) (w : World) (hlen : l.length ≤ 17592186044416) (hc : l.length ≤ c) (hw : W32 l) (hr : Rd w a l) (h8 : (words (num l)).length ≤ 8192) (hk0 : 0 < k)
    (hk : k < bitLen (num l)) :
    Calls Tryd.prog 58 #[.slice a l.length c, .int .i64 (-(k : Int))] w fun e w' => ∃ a', e = .returned (.tuple #[.slice a' (words (num l / 2 ^ k)).length (words (num l / 2 ^ k)).length, .int .i64 0]) ∧ Own w' 64 w.heap.size a' (words (num l / 2 ^ k)).length (words (num l / 2 ^ k)) ∧ Below w.heap.size w w' := by
  have C1 := Lib.hid (cut_any a c l w (by omega) hc hw hr)
  have hl1 := words_num_len hw
  have hR1 := hr.words hw
  obtain ⟨N, hN⟩ : ∃ N, N = num l := ⟨_, rfl⟩
  rw [← hN] at C1 hl1 hR1 hk h8 ⊢
  clear hN hr hw
  have h3 := words_bitLen h8
  have h4 := words_bitLen (Nat.le_refl (words N).length)
  have h0 : 0 < (words N).length := by omega
  have hkw : k / 32 < (words N).length := by omega
  obtain ⟨b, off, rfl, hR2⟩ := hR1.dropAt hkw
  have L1 := Lib.hid (len_any (some ⟨b, off, none⟩) c (words N) w (by omega) (by omega) (W32_words N) hR1)
  rw [num_words] at L1
  have D1 := down_any (some ⟨b, off + k / 32, none⟩) (c - k / 32) ((words N).drop (k / 32)) (k % 32) w (by simp; omega) (by omega) ((W32_words N).drop _) hR2
  have e1 : num ((words N).drop (k / 32)) / 2 ^ (k % 32) = N / 2 ^ k := by
    rw [drop_words, pow32, Nat.div_div_eq_div_mul, ← Nat.pow_add, show 32 * (k / 32) + k % 32 = k by omega]
  have e2 : ((words N).drop (k / 32)).length = (words N).length - k / 32 := by simp
  rw [e1, e2] at D1
  have hlt : N / 2 ^ k < 4294967296 ^ ((words N).length - k / 32) := by
    have := num_lt ((W32_words N).drop (k / 32))
    rw [e2] at this
    rw [← e1]
    exact Nat.lt_of_le_of_lt (Nat.div_le_self _ _) this
  have D2 := Lib.hid D1; clear D1 e1 e2
  have hb0 : (((words N).length : Int) == 0) = false := by simp; exact fun h => by rw [h] at h0; simp at h0
  have HLT := Lib.hid hlt; clear hlt
  have hk1 : k ≤ 262144 := by omega
  go_enter Tryd.func58, Tryd.ntmps58
  go_wp2_with fail
  refine C1.out.mono ?_; rintro e w' ⟨rfl, rfl⟩
  go_wp2_with fail
  refine L1.out.mono ?_; rintro e w' ⟨rfl, rfl⟩
  go_wp2_with fail
  refine D2.out.mono ?_; rintro e w1 ⟨rfl, hk2, hb⟩
  have N1 := norm_any (some ⟨w.heap.size, 0, none⟩) ((words N).length - k / 32) (digs ((words N).length - k / 32) (N / 2 ^ k)) w1 (by rw [digs_len]; omega) (W32_digs _ _) hk2.rd
  rw [digs_words HLT.out, digs_len] at N1
  have N2 := Lib.hid N1; clear N1
  go_wp2_with fail
  refine N2.out.mono ?_; rintro e w2 ⟨rfl, hk3, hb3⟩
  go_wp2
  go_ret2
  exact ⟨some ⟨w1.heap.size, 0, none⟩, rfl, Own.of hk3 hb.size, hb.trans (hb3.mono hb.size)⟩


theorem shift_cut (a : Option Addr) (c M k : Nat) (w : World) (hc : (words M).length ≤ c) (hr : Rd w a (words M)) (h8 : (words M).length ≤ 8192) (hk0 : 0 < k) (hk1 : k ≤ 9223372036854775807) :
    Calls Tryd.prog 58 #[.slice a (words M).length c, .int .i64 (-(k : Int))] w fun e w' => ∃ a' c', e = .returned (.tuple #[.slice a' (words (M / 2 ^ k)).length c', .int .i64 0]) ∧ Own w' 64 w.heap.size a' c' (words (M / 2 ^ k)) ∧ Below w.heap.size w w' := by
  by_cases h : k < bitLen M
  · have := shift_dn a c (words M) k w (by omega) hc (W32_words M) hr (by rw [num_words]; exact h8) hk0 (by rw [num_words]; exact h)
    rw [num_words] at this
    refine this.mono ?_
    rintro e w' ⟨a', h1, h2, h3⟩
    exact ⟨a', _, h1, h2, h3⟩
  · have := shift_nil a c (words M) (-(k : Int)) w (by omega) hc (W32_words M) hr (by rw [num_words]; exact h8) (by rw [num_words]; right; omega) (by omega)
    refine this.mono ?_
    rintro e w' ⟨h1, rfl⟩
    have h0 : M / 2 ^ k = 0 := Nat.div_eq_of_lt (Nat.lt_of_lt_of_le (bitLen_spec M).1 (Nat.pow_le_pow_right (by decide) (by omega)))
    rw [h0, words_zero]
    exact ⟨none, 0, h1, Own.none _ _ _, Below.refl _ _⟩

set_option maxRecDepth 10000 in
set_option maxHeartbeats 4000000 in
theorem on_any (h q : Nat) (L : Int) (E : Nat) (d : D) (mode : Int) (a : Option Addr) (c base : Nat) (w : World) (hh : 1 ≤ h) (hh2 : h ≤ 52) (hL1 : -2000 ≤ L) (hL2 : L ≤ 0) (hE : E = q * 2 ^ h) (hq : 2 ≤ q) (hq2 : q ≤ 2047) (hd : d.Ok) (ho : Own w 64 base a c (words d.m)) :
    Calls Tryd.prog 69 #[.agg #[.int .i64 (h + 1 : Nat), .int .i64 L, .int .u64 E], dyV d a c, .int .i64 mode] w fun en w' => en = .returned (.int .u64 (onF h L E d mode : Nat)) ∧ Below w.heap.size w w' := by
  obtain ⟨neg, m, e⟩ := d
  have hp := Nat.two_pow_pos h
  have hp52 : 2 ^ h ≤ 4503599627370496 := by have := Nat.pow_le_pow_right (show 0 < 2 by decide) hh2; simpa using this
  have hEq : E / 2 ^ h = q := by rw [hE, Nat.mul_div_cancel _ hp]
  have hE0 : 0 < E := by rw [hE]; exact Nat.mul_pos (by omega) hp
  have hE2 : E < 18446744073709551616 := by
    have := Nat.mul_le_mul hq2 hp52
    rw [← hE] at this; omega
  obtain ⟨hd1, hd2, hd3⟩ := hd
  simp only at hd1 hd2 hd3 ho
  have hLen := fun W (hw : Below w.heap.size w W) => len_any a c (words m) W (by omega) ho.cap (W32_words m) (ho.rd.grow hw)
  have hSm := fun W (hw : Below w.heap.size w W) (hm : m < 18446744073709551616) => small_any a c (words m) W (by omega) ho.cap (W32_words m) (ho.rd.grow hw) (by rw [num_words]; exact hm)
  have hSh := fun k W (hw : Below w.heap.size w W) (h0 : 0 < k) (h1 : k ≤ 9223372036854775807) => shift_cut a c m k W ho.cap (ho.rd.grow hw) hd1 h0 h1
  have hBt := fun j W (hw : Below w.heap.size w W) (hj : j ≤ 9223372036854775807) => bit_any a c (words m) j W (by omega) hj (W32_words m) (ho.rd.grow hw)
  have hBy := fun W => beyond_any (h + 1 : Nat) L E neg mode W hE0 hE2
  have hAw := fun n half only W hn => away_any mode neg n half only W hn
  have hbl := words_bitLen (Nat.le_refl (words m).length)
  simp only [num_words] at hLen hSm hBt
  obtain ⟨R, hR⟩ : ∃ R, R = onF h L E ⟨neg, m, e⟩ mode := ⟨_, rfl⟩
  rw [← hR]
  unfold onF at hR
  simp only [hEq] at hR
  have f1 : (E : Int) / ((2 : Int) ^ h) = (q : Int) := by
    rw [show ((2 : Int) ^ h) = ((2 ^ h : Nat) : Int) from by simp, ← Int.natCast_ediv, hEq]
  have HR := Lib.hid hR; have HLen := Lib.hid hLen; have HSm := Lib.hid hSm; have HSh := Lib.hid hSh; have HBt := Lib.hid hBt; have HBy := Lib.hid hBy; have HAw := Lib.hid hAw
  have HE := Lib.hid hE
  have HEq := Lib.hid hEq
  have HOc := Lib.hid ho.cap
  clear hR hLen hSm hSh hBt hBy hAw ho hE hEq
  simp only [dyV]
  have hz1 : m = 0 ∨ (m ≠ 0 ∧ 0 < bitLen m) := by
    rcases Nat.eq_zero_or_pos m with h | h
    · exact .inl h
    · exact .inr ⟨by omega, bitLen_pos (by omega)⟩
  have HZ := Lib.hid hz1; clear hz1
  go_enter Tryd.func69, Tryd.ntmps69
  go_wp2_with fail
  obtain ⟨w1, h1⟩ : ∃ W, W = w.alloc (.cells #[.int .i64 ((h : Int) + 1), .int .i64 L, .int .u64 (E : Int)] 92) := ⟨_, rfl⟩
  rw [← h1]
  obtain ⟨k1, hB, s1⟩ := new_of h1 rfl
  clear h1
  (obtain ⟨w2, h2⟩ : ∃ W, W = (w1.alloc (.cells #[.bool neg, .slice a (words m).length c, .int .i64 e] 27)) := ⟨_, rfl⟩; have pinEq := h2; (try simp only [wr3] at pinEq); rw [← pinEq]; clear pinEq)
  obtain ⟨k2, b2, s2⟩ := new_cel h2 s1
  have k1' : w2.heap[w.heap.size]? = _ := (b2.block _ (by omega)).trans k1
  replace hB := below_call b2 hB (by omega)
  clear h2 b2 k1
  obtain ⟨q124x0x0, q124x0x1, q124x0x2, q124x0x3, q124x0x4, q124x0x5⟩ := Cel.facts k2
  obtain ⟨_, _, _, _, _, _⟩ := cells3 k1'
  refine (HLen.out w2 hB).mono ?_; rintro en w3 ⟨rfl, rfl⟩
  rcases HZ.out with h0 | ⟨h0, hbp⟩
  · have e1 : ((bitLen m : Int) == 0) = true := by rw [h0]; rfl
    have H0 := Lib.hid h0; clear h0
    go_wp2
    go_ret
    refine ⟨?_, hB⟩
    rw [HR.out, if_pos H0.out]; rfl
  have e1 : ((bitLen m : Int) == 0) = false := by simp; omega
  have H0 := Lib.hid h0; clear h0
  have g0 : IntKind.i64.wrap (h : Int) = (h : Int) := by rw [IntKind.wrap_i64]; omega
  have g0' : IntKind.i64.wrap ((h : Int) + 1 - 1) = (h : Int) := by rw [IntKind.wrap_i64]; omega
  have g1 : IntKind.i64.wrap (q : Int) = (q : Int) := by rw [IntKind.wrap_i64]; omega
  have g2 : IntKind.i64.wrap (L + (q : Int)) = L + (q : Int) := by rw [IntKind.wrap_i64]; omega
  have g3 : IntKind.i64.wrap (L + (q : Int) - 1) = L + (q : Int) - 1 := by rw [IntKind.wrap_i64]; omega
  have g4 : IntKind.i64.wrap (L + (q : Int) - 1 + ((h : Int) + 1)) = L + (q : Int) - 1 + ((h : Int) + 1) := by rw [IntKind.wrap_i64]; omega
  have g5 : IntKind.i64.wrap (L + (q : Int) - 1 + ((h : Int) + 1) - 1) = L + (q : Int) - 1 + ((h : Int) + 1) - 1 := by rw [IntKind.wrap_i64]; omega
  go_wp2_with fail
  go_quiet (fail)
  have k2q : Cel (w2.drewN nq) (w.heap.size + 1) (.bool neg) (.slice a (words m).length c) (.int .i64 e) := k2
  have k1q : (w2.drewN nq).heap[w.heap.size]? = _ := k1'
  have hBq : Below w.heap.size w (w2.drewN nq) := below_drewN' hB
  obtain ⟨w3, hw3⟩ : ∃ w3, w3 = w2.drewN nq := ⟨_, rfl⟩
  rw [← hw3] at k2q k1q hBq ⊢
  have s3 : w3.heap.size = w.heap.size + 1 + 1 := by rw [hw3]; exact s2
  clear hw3 k2 k1' hB
  obtain ⟨_, _, _, _, _, _⟩ := k2q.facts
  obtain ⟨_, _, _, _, _, _⟩ := cells3 k1q
  have hbs := bitLen_spec m
  have hm64 : bitLen m ≤ 53 → m < 18446744073709551616 := fun hb => Nat.lt_of_lt_of_le hbs.1 (by
    have := Nat.pow_le_pow_right (show 0 < 2 by decide) hb
    omega)
  have HBS := Lib.hid hbs; clear hbs
  have HM64 := Lib.hid hm64; clear hm64
  obtain ⟨x, hx⟩ : ∃ x, x = expN h L m e := ⟨_, rfl⟩
  rw [← hx] at HR
  unfold expN at hx
  generalize bitLen m = bl at *
  have hmax : (if (bl : Int) + e - ((h : Int) + 1) < L then L else (bl : Int) + e - ((h : Int) + 1)) = x := by split <;> omega
  have hx1 : L ≤ x := by omega
  have hx2 : (bl : Int) + e - ((h : Int) + 1) ≤ x := by omega
  have hx3 : x ≤ 3000000000000 := by omega
  clear hx
  by_cases hbig : L + (q : Int) - 1 + ((h : Int) + 1) - 1 < bl + e
  · have hRb : R = beyondN E neg mode := by rw [HR.out, if_neg H0.out, if_pos (by omega)]
    have HRb := Lib.hid hRb; clear hRb
    go_wp2_with fail
    refine (HBy.out w3).mono ?_; rintro en w4 ⟨rfl, hb⟩
    have hb2 := hBq.trans (hb.mono hBq.size)
    go_wp2
    go_ret
    exact ⟨by rw [HRb.out]; rfl, hb2⟩
  have hRs : R = stepN mode neg m (x - e) + (x - L).toNat * 2 ^ h := by rw [HR.out, if_neg H0.out, if_neg (by omega)]
  have HRs := Lib.hid hRs; clear hRs HR
  obtain ⟨j, hj⟩ : ∃ j : Nat, (j : Int) = x - L := ⟨(x - L).toNat, by omega⟩
  have hjq : j ≤ q := by omega
  obtain ⟨J, hJ⟩ : ∃ J, J = j * 2 ^ h := ⟨_, rfl⟩
  have hJE : J ≤ E := by rw [hJ, HE.out]; exact Nat.mul_le_mul_right _ hjq
  have hEb : E ≤ 2047 * 4503599627370496 := by rw [HE.out]; exact Nat.mul_le_mul hq2 hp52
  have f7 : IntKind.u64.wrap ((x - L) * (2 : Int) ^ h) = (J : Int) := by
    have : (x - L) * (2 : Int) ^ h = (J : Int) := by rw [← hj, hJ]; simp
    rw [this]; exact wrap_u64_nat _ (by omega)
  have f9 : IntKind.u64.wrap (x - L) = x - L := by rw [IntKind.wrap_u64]; omega
  have hRJ : R = stepN mode neg m (x - e) + J := by rw [HRs.out, hJ, show (x - L).toNat = j by omega]
  have HRJ := Lib.hid hRJ; clear hRJ HRs
  have HJ := Lib.hid hj; clear hj hJ
  have hn53 : (2 : Nat) ^ (h + 1) ≤ 9007199254740992 := by have := Nat.pow_le_pow_right (show 0 < 2 by decide) (show h + 1 ≤ 53 by omega); simpa using this
  by_cases hcut : x - e ≤ 0
  · obtain ⟨k, hk⟩ : ∃ k : Nat, (k : Int) = e - x := ⟨(e - x).toNat, by omega⟩
    have hcut2 : ¬ 0 < x - e := by omega
    have hcut3 : decide (0 < x - e) = false := by simp; omega
    obtain ⟨N, hN⟩ : ∃ N, N = m * 2 ^ k := ⟨_, rfl⟩
    have hNlt : N < 9007199254740992 := by
      rw [hN]
      refine Nat.lt_of_lt_of_le ((Nat.mul_lt_mul_right (Nat.two_pow_pos _)).2 HBS.out.1) (Nat.le_trans ?_ hn53)
      rw [← Nat.pow_add]; exact Nat.pow_le_pow_right (by decide) (by omega)
    have gS : IntKind.u64.wrap ((m : Int) * (2 : Int) ^ (-(x - e)).toNat) = (N : Int) := by
      rw [show (-(x - e)).toNat = k by omega, show (m : Int) * (2 : Int) ^ k = (N : Int) by rw [hN]; simp]
      exact wrap_u64_nat _ (by omega)
    have hRN : R = N + J := by
      rw [HRJ.out]; unfold stepN digN; rw [if_neg (by omega), if_pos hcut, show (-(x - e)).toNat = k by omega, ← hN]
    have f8 : IntKind.u64.wrap ((N : Int) + (J : Int)) = (R : Int) := by rw [IntKind.wrap_u64, hRN]; omega
    have HK := Lib.hid hk; have HN := Lib.hid hN; have HRN := Lib.hid hRN; clear hk hN hRN
    go_wp2_with fail
    refine (HSm.out w3 hBq (HM64.out (by have := HK.out; omega))).mono ?_; rintro en w4 ⟨rfl, rfl⟩
    go_wp2_with fail
    have hcut4 : decide (e < x) = false := decide_eq_false (by omega)
    go_big_quiet (fail)
    have k2r : Cel (w3.drewN nq) (w.heap.size + 1) (.bool neg) (.slice a (words m).length c) (.int .i64 e) := k2q
    have k1r : (w3.drewN nq).heap[w.heap.size]? = _ := k1q
    have hBr : Below w.heap.size w (w3.drewN nq) := below_drewN' hBq
    have HBR := Lib.hid hBr; clear hBr
    obtain ⟨_, _, _, _, _, _⟩ := k2r.facts
    obtain ⟨_, _, _, _, _, _⟩ := cells3 k1r
    go_wp2_with fail
    go_ret
    exact ⟨rfl, HBR.out⟩
  · obtain ⟨k, hk⟩ : ∃ k : Nat, ((k + 1 : Nat) : Int) = x - e := ⟨(x - e).toNat - 1, by omega⟩
    have hcut2 : 0 < x - e := by omega
    have hcut3 : decide (0 < x - e) = true := by simp; omega
    have hSh := HSh.out (k + 1) w3 hBq (by omega) (by omega)
    rw [hk] at hSh
    obtain ⟨N, hN⟩ : ∃ N, N = m / 2 ^ (k + 1) := ⟨_, rfl⟩
    rw [← hN] at hSh
    have hNlt : N < 9007199254740992 := by
      rw [hN]
      refine Nat.lt_of_lt_of_le (?_ : m / 2 ^ (k + 1) < 2 ^ (h + 1)) hn53
      refine Nat.div_lt_of_lt_mul ?_
      rw [← Nat.pow_add]
      exact Nat.lt_of_lt_of_le HBS.out.1 (Nat.pow_le_pow_right (by decide) (by omega))
    have hNl := words_len_le (n := N) (k := 2) (by omega)
    have hSm4 := fun W a4 c4 base (ho : Own W 64 base a4 c4 (words N)) => small_any a4 c4 (words N) W (by omega) ho.cap (W32_words N) ho.rd (by rw [num_words]; omega)
    simp only [num_words] at hSm4
    have HSm4 := Lib.hid hSm4; clear hSm4
    have hc1 : ((x - e) == 1) = decide (k = 0) := by
      by_cases h : k = 0
      · rw [decide_eq_true h]; simp; omega
      · rw [decide_eq_false h]; simp; omega
    obtain ⟨hf, hhf⟩ : ∃ hf, hf = m.testBit k := ⟨_, rfl⟩
    obtain ⟨ol, hol⟩ : ∃ ol, ol = decide (k = 0) := ⟨_, rfl⟩
    rw [← hol] at hc1
    obtain ⟨on, hon⟩ : ∃ on, on = awayN mode neg N hf ol := ⟨_, rfl⟩
    have hRN : R = (if on = true then N + 1 else N) + J := by
      rw [HRJ.out]; unfold stepN digN
      rw [if_neg hcut, show (x - e).toNat = k + 1 by omega, ← hN, show (x - e - 1).toNat = k by omega, ← hhf, show decide (x - e = 1) = ol by rw [hol]; rw [decide_eq_decide]; omega, ← hon]
      cases on <;> simp
      omega
    have hAw := fun W => HAw.out N hf ol W (by omega)
    rw [← hon] at hAw
    have hBt := fun W (hw : Below w.heap.size w W) => HBt.out k W hw (by omega)
    rw [← hhf, show (k : Int) = x - e - 1 by omega] at hBt
    have HSh2 := Lib.hid hSh; have HK := Lib.hid hk; have HN := Lib.hid hN; have HRN := Lib.hid hRN; have HAw2 := Lib.hid hAw; have HBt2 := Lib.hid hBt; clear hSh hk hN hRN hAw hBt hon hhf hol
    go_wp2_with fail
    refine HSh2.out.mono ?_; rintro en w4 ⟨a4, c4, rfl, ho4, hb4⟩
    have k2s := k2q.below hb4 k2q.lt
    have k1s := (hb4.block w.heap.size (by omega)).trans k1q
    obtain ⟨_, _, _, _, _, _⟩ := k2s.facts
    obtain ⟨_, _, _, _, _, _⟩ := cells3 k1s
    have hBs := hBq.trans (hb4.mono hBq.size)
    have HBS4 := Lib.hid hBs; clear hBs
    go_wp2_with fail
    refine (HSm4.out _ _ _ _ ho4).mono ?_; rintro en w5 ⟨rfl, rfl⟩
    go_wp2_with fail
    have Q1 := Lib.hid (show ∀ n, Calls Tryd.prog 101 #[.slice a (words m).length c, .int .i64 (x - e - 1)] (w4.drewN n) fun e w'' => e = .returned (.bool hf) ∧ w'' = w4.drewN n from fun n => (HBt2.out _ (below_drewN' HBS4.out)).mono (by rintro en w3 ⟨rfl, rfl⟩; exact ⟨rfl, rfl⟩))
    have Q2 := Lib.hid (show ∀ n, Calls Tryd.prog 100 #[.int .i64 mode, .bool neg, .int .u64 N, .bool hf, .bool ol] (w4.drewN n) fun e w'' => e = .returned (.bool on) ∧ w'' = w4.drewN n from fun n => (HAw2.out _).mono (by rintro en w3 ⟨rfl, rfl⟩; exact ⟨rfl, rfl⟩))
    have hcut4 : decide (e < x) = true := decide_eq_true (by omega)
    go_big_quiet (first
      | (go_at_call 101; with_reducible exact Calls.quiet_of_same (Q1.out _))
      | (go_at_call 100; with_reducible exact Calls.quiet_of_same (Q2.out _)))
    have k1r : (w4.drewN nq).heap[w.heap.size]? = _ := k1s
    have hBr : Below w.heap.size w (w4.drewN nq) := below_drewN' HBS4.out
    have HBR := Lib.hid hBr; clear hBr
    obtain ⟨_, _, _, _, _, _⟩ := cells3 k1r
    cases on with
    | true =>
      have hRN := HRN.out
      rw [if_pos rfl] at hRN
      have f8 : IntKind.u64.wrap ((N : Int) + 1 + (J : Int)) = (R : Int) := by rw [IntKind.wrap_u64, hRN]; omega
      clear hRN
      go_wp2_with fail
      go_ret
      exact ⟨rfl, HBR.out⟩
    | false =>
      have hRN := HRN.out
      rw [if_neg (by simp)] at hRN
      have f8 : IntKind.u64.wrap ((N : Int) + (J : Int)) = (R : Int) := by rw [IntKind.wrap_u64, hRN]; omega
      clear hRN
      go_wp2_with fail
      go_ret
      exact ⟨rfl, HBR.out⟩
end Go.Proofs.YtmokomfneikipaaDoor
