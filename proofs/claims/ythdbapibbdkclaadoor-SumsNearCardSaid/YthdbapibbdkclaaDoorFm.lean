/- Contract of steelyardlaw10.off. No statement of the seat is proved here. -/
import Derived.Test.YthdbapibbdkclaaDoorProg
import Derived.Test.YthdbapibbdkclaaDoorFl
namespace Go.Proofs.YthdbapibbdkclaaDoor
open Go.RowKit
set_option linter.unusedVariables false
set_option linter.unusedSimpArgs false

set_option maxRecDepth 10000 in
set_option maxHeartbeats 8000000 in
theorem off_any {v n j : Nat} {S A : D} {s : Int} {av : Nat} (hv : v < 18446744073709551616) (hn : n ≤ 1000) (hS : Dz S s) (hA : Dz A (av : Int)) (bs : s.natAbs < 2 ^ (32 * j)) (ba : av < 2 ^ (32 * j)) (hj0 : 66 ≤ j) (hj : j ≤ 90)
    (sa aa : Option Addr) (sc ac : Nat) (w : World) (h1 : (argOf S sa sc).Ok w) (h2 : (argOf A aa ac).Ok w) (hT : Tab w) :
    Calls Tryd.prog 56 #[.float .f64 v, DV S sa sc, .int .i64 (n : Int), DV A aa ac] w fun en w' => ∃ b, en = .returned (.bool b) ∧ ((v % 9223372036854775808 < 9218868437227405312 → 9007199254740992 * (fV v - s).natAbs ≤ n * av) → b = true) ∧ Below w.heap.size w w' := by
  obtain ⟨w1, e1⟩ : ∃ W, W = w.alloc (.cells #[.bool S.neg, .slice sa (words S.m).length sc, .int .i64 S.exp] 28) := ⟨_, rfl⟩
  obtain ⟨w2, e2⟩ : ∃ W, W = w1.alloc (.cells #[.bool A.neg, .slice aa (words A.m).length ac, .int .i64 A.exp] 28) := ⟨_, rfl⟩
  obtain ⟨k1, b1, s1⟩ := new_cel e1 rfl
  obtain ⟨k2, b2, s2⟩ := new_cel e2 s1
  have k1' := k1.below b2 (by omega)
  have hB2 : Below w.heap.size w w2 := b1.trans (b2.mono (by omega))
  have HT := Lib.hid (fun W (hw : Below w.heap.size w W) => hT.grow hw)
  have H1 := Lib.hid (fun W (hw : Below w.heap.size w W) => h1.grow hw)
  have H2 := Lib.hid (fun W (hw : Below w.heap.size w W) => h2.grow hw)
  have HB2 := Lib.hid hB2; have E1 := Lib.hid e1; have E2 := Lib.hid e2
  clear hT h1 h2 hB2 b1 b2 e1 e2 k1
  by_cases hf : v % 9223372036854775808 < 9218868437227405312
  case neg =>
    have hN : ofF v = none := by unfold ofF bitsF; rw [if_pos (by omega)]
    have HOf := Lib.hid (fun W (hw : Below w.heap.size w W) => cOfN hv hN W (HT.out W hw))
    clear hf hN hv hS hA bs ba
    unfold DV at *
    go_enter Tryd.func56, Tryd.ntmps56
    go_wp2_with fail
    rw [← E1.out, ← E2.out]
    refine (HOf.out w2 HB2.out).mono ?_; rintro en w3 ⟨a1, c1, rfl, hb⟩
    have HB3 : Hid (Below w.heap.size w w3) := HB2.out.trans (hb.mono HB2.out.size)
    clear hb
    obtain ⟨w4, e4⟩ : ∃ W, W = w3.alloc (.cells #[.bool D.zero.neg, .slice a1 (words D.zero.m).length c1, .int .i64 D.zero.exp] 28) := ⟨_, rfl⟩
    have HB4 : Hid (Below w.heap.size w w4) := by rw [e4]; exact HB3.out.alloc HB3.out.size _
    have E4 := Lib.hid e4
    clear e4
    go_wp2_with fail
    go_ret
    refine ⟨true, rfl, fun _ => rfl, ?_⟩
    rw [← E4.out]; exact HB4.out
  obtain ⟨p, hp, dp⟩ := Dz.of hf
  obtain ⟨S', hS', dS'⟩ := hS.neg
  obtain ⟨k66, hk66⟩ : ∃ k, k = 66 := ⟨_, rfl⟩
  obtain ⟨g, hg, dg⟩ := dp.add (j := j) dS' (Nat.lt_of_lt_of_le (fV_abs hf hk66) (Nat.pow_le_pow_right (by decide) (by omega))) (by rw [Int.natAbs_neg]; exact bs) (by omega)
  rw [← Int.sub_eq_add_neg] at dg
  obtain ⟨x, hx⟩ : ∃ x, x = fV v - s := ⟨_, rfl⟩
  rw [← hx] at dg
  have HOf := Lib.hid (fun W (hw : Below w.heap.size w W) => cOf hv hp dp.ok W (HT.out W hw))
  have HSub := Lib.hid (fun W a c (hw : Below w.heap.size w W) (h3 : (argOf p a c).Ok W) => cSub dp hS hS' hg dg a sa c sc W h3 (H1.out W hw) (HT.out W hw))
  have HSg := Lib.hid (fun W a c (h3 : (argOf g a c).Ok W) => cSign dg a c W h3)
  have hneg : ∃ G, Dz G ((x.natAbs : Nat) : Int) ∧ (x < 0 → formF (!g.neg) g.m g.exp = some G) ∧ (¬ x < 0 → G = g) := by
    by_cases q : x < 0
    · obtain ⟨G, h3, h4⟩ := dg.neg
      exact ⟨G, by rw [show ((x.natAbs : Nat) : Int) = -x by omega]; exact h4, fun _ => h3, fun h => absurd q h⟩
    · exact ⟨g, by rw [show ((x.natAbs : Nat) : Int) = x by omega]; exact dg, fun h => absurd h q, fun _ => rfl⟩
  obtain ⟨G, dG, hG1, hG2⟩ := hneg
  have HNg := Lib.hid (fun W a c (hw : Below w.heap.size w W) (q : x < 0) (h3 : (argOf g a c).Ok W) => cNeg dg (hG1 q) a c W h3 (HT.out W hw))
  obtain ⟨st, mo, hs, s1', s2', hm, m1, m2, hcmp⟩ := most_le (G := G) (gv := x.natAbs) hn hA dG ba (by omega)
  have HMk := Lib.hid (fun W a c (hw : Below w.heap.size w W) (h3 : Sl W a c [n]) => cMake hn hs a c W h3 (HT.out W hw))
  have HMu := Lib.hid (fun W a c (hw : Below w.heap.size w W) (h3 : (argOf st a c).Ok W) => cMul s1' s2' hA.is hA.ok hm m2 a aa c ac W h3 (H2.out W hw) (HT.out W hw))
  have HCm := Lib.hid (fun W a a' c c' (h3 : (argOf G a c).Ok W) (h4 : (argOf mo a' c').Ok W) => And.intro (fun h => hcmp h a a' c c') (dcmp_any (argOf G a c) (argOf mo a' c') W h3 h4))
  have HG2 := Lib.hid hG2
  have HOk : Hid (p.Ok ∧ g.Ok ∧ G.Ok ∧ st.Ok ∧ mo.Ok) := ⟨dp.ok, dg.ok, dG.ok, s2', m2⟩
  obtain ⟨f10, f11, f12, _, _, _⟩ := k1'.facts
  have nb : n < 4294967296 := by omega
  have HF := Lib.hid hf; have HX := Lib.hid hx
  clear hv hf hp hS hA bs ba hS' dS' hg dg dp hk66 hG1 hG2 dG hs s1' s2' hm m1 m2 hcmp hx
  unfold DV at *
  go_enter Tryd.func56, Tryd.ntmps56
  go_wp2_with fail
  rw [← E1.out, ← E2.out]
  refine (HOf.out w2 HB2.out).mono ?_; rintro en w3 ⟨a1, c1, rfl, ho1, hb⟩
  have k13 := k1'.below hb (by omega)
  have k23 := k2.below hb (by omega)
  have HB3 : Hid (Below w.heap.size w w3) := HB2.out.trans (hb.mono HB2.out.size)
  have z3 := hb.size
  clear hb k1' k2 f10 f11 f12
  simp only [DV]
  obtain ⟨w4, e4⟩ : ∃ W, W = w3.alloc (.cells #[.bool p.neg, .slice a1 (words p.m).length c1, .int .i64 p.exp] 28) := ⟨_, rfl⟩
  obtain ⟨k4, b4, s4⟩ := new_cel e4 rfl
  have k14 := k13.below b4 (by omega)
  have k24 := k23.below b4 (by omega)
  have HB4 : Hid (Below w.heap.size w w4) := HB3.out.trans (b4.mono HB3.out.size)
  have HO4 := Lib.hid ((ho1.grow (b4.mono (Nat.le_refl _))).arg HOk.out.1)
  have E4 := Lib.hid e4
  have q4 := (k13.alloc (.cells #[.bool p.neg, .slice a1 (words p.m).length c1, .int .i64 p.exp] 28)).facts
  obtain ⟨_, _, _, _, _, _⟩ := q4
  clear e4 b4 ho1 k13 k23
  go_wp2_with fail
  rw [← E4.out]
  refine (HSub.out w4 a1 c1 HB4.out HO4.out).mono ?_; rintro en w5 ⟨a2, c2, rfl, ho2, hb⟩
  have k15 := k14.below hb (by omega)
  have k25 := k24.below hb (by omega)
  have HB5 : Hid (Below w.heap.size w w5) := HB4.out.trans (hb.mono HB4.out.size)
  have z5 := hb.size
  clear hb k14 k24 k4
  simp only [DV]
  obtain ⟨gb, hgb⟩ : ∃ n, n = w5.heap.size := ⟨_, rfl⟩
  obtain ⟨w6, e6⟩ : ∃ W, W = w5.alloc (.cells #[.bool g.neg, .slice a2 (words g.m).length c2, .int .i64 g.exp] 28) := ⟨_, rfl⟩
  obtain ⟨k6, b6, s6⟩ := new_cel e6 hgb.symm
  have k26 := k25.below b6 (by omega)
  have HB6 : Hid (Below w.heap.size w w6) := HB5.out.trans (b6.mono (by omega))
  have HO6 := Lib.hid (ho2.grow (b6.mono (by omega)))
  have E6 := Lib.hid e6
  have l6 : w.heap.size + 1 < gb := by omega
  have HGB := Lib.hid hgb
  clear e6 b6 ho2 k15 k25 hgb
  go_wp2_with fail
  rw [← E6.out, ← HGB.out]
  refine (HSg.out w6 a2 c2 (HO6.out.arg HOk.out.2.1)).mono ?_; rintro en w7 ⟨rfl, hb⟩
  have k7 := k6.below hb (by omega)
  have k27 := k26.below hb (by omega)
  have HB7 : Hid (Below w.heap.size w w7) := HB6.out.trans (hb.mono HB6.out.size)
  have HO7 := Lib.hid (HO6.out.grow hb)
  clear hb k6 k26
  obtain ⟨_, _, _, _, _, _⟩ := k7.facts
  have hsg : (x < 0 → sgnZ x = -1) ∧ (¬ x < 0 → 0 ≤ sgnZ x) := by
    unfold sgnZ
    constructor
    · intro h; rw [if_pos h]
    · intro h; rw [if_neg h]; split <;> decide
  obtain ⟨sg, hsg2⟩ : ∃ z, z = sgnZ x := ⟨_, rfl⟩
  rw [← hsg2] at hsg ⊢
  clear hsg2
  by_cases hx : x < 0
  · have hs1 := hsg.1 hx
    subst hs1
    clear hsg
    have HXx := Lib.hid hx
    clear hx
    go_wp2_with fail
    refine (HNg.out w7 a2 c2 HB7.out HXx.out (HO7.out.arg HOk.out.2.1)).mono ?_; rintro en w8 ⟨a3, c3, rfl, ho3, hb⟩
    have k8 := k7.below hb k7.lt
    have k7l := k7.lt
    have k28 := k27.below hb k27.lt
    have HB8 : Hid (Below w.heap.size w w8) := HB7.out.trans (hb.mono HB7.out.size)
    clear hb k7 k27
    obtain ⟨_, _, _, _, _, _⟩ := k8.facts
    simp only [DV]
    have ka := k8.wr (.bool G.neg) (.slice a3 (words G.m).length c3) (.int .i64 G.exp)
    have kb := k28.wrOther (g' := gb) (by omega) (.bool G.neg) (.slice a3 (words G.m).length c3) (.int .i64 G.exp)
    have hE := below_wr3 (g := gb) (v0 := .bool G.neg) (v1 := .slice a3 (words G.m).length c3) (v2 := .int .i64 G.exp) HB8.out (by omega)
    have hO := own_wr3 (g := gb) ho3 k7l (v0 := .bool G.neg) (v1 := .slice a3 (words G.m).length c3) (v2 := .int .i64 G.exp)
    unfold wr3 at ka kb hE hO
    obtain ⟨wa, hwa⟩ : ∃ W, W = ((w8.setCell ⟨gb, 0, none⟩ (.bool G.neg)).setCell ⟨gb, 1, none⟩ (.slice a3 (words G.m).length c3)).setCell ⟨gb, 2, none⟩ (.int .i64 G.exp) := ⟨_, rfl⟩
    rw [← hwa] at ka kb hE hO
    have HWA := Lib.hid hwa; have HBa := Lib.hid hE; have HOa := Lib.hid hO
    clear hwa hE hO ho3 k8 k28 k7l
    go_upto_region 7 with fail
    rw [← HWA.out]
    have za := HBa.out.size
    have hblk := blk_alloc wa 82 #[.int .u32 (n : Int)] [n] rfl
    have HSl : Hid (Sl (wa.alloc (.cells #[.int .u32 (n : Int)] 82)) (some ⟨wa.heap.size, 0, none⟩) 1 [n]) := Sl.blk hblk (W32.cons nb W32.nil)
    have HBn : Hid (Below w.heap.size w (wa.alloc (.cells #[.int .u32 (n : Int)] 82))) := HBa.out.alloc za _
    have k9 := ka.alloc (.cells #[.int .u32 (n : Int)] 82)
    have k29 := kb.alloc (.cells #[.int .u32 (n : Int)] 82)
    have HO9 := Lib.hid (HOa.out.grow ((Below.refl _ _).alloc (Nat.le_refl _) (.cells #[.int .u32 (n : Int)] 82)))
    obtain ⟨w9, hw9⟩ : ∃ W, W = wa.alloc (.cells #[.int .u32 (n : Int)] 82) := ⟨_, rfl⟩
    rw [← hw9] at HSl HBn k9 k29 HO9
    have z9 : w9.heap.size = wa.heap.size + 1 := by rw [hw9]; simp
    have HW9 := Lib.hid hw9
    have HZ := Lib.hid z9
    have lka := ka.lt
    have lkb := kb.lt
    clear hblk ka kb hw9 HOa z9
    go_wp2_with fail
    rw [← HW9.out]
    refine (HMk.out w9 (some ⟨wa.heap.size, 0, none⟩) 1 HBn.out HSl.out).mono ?_; rintro en w10 ⟨a4, c4, rfl, ho4, hb⟩
    have k10 := k9.below hb k9.lt
    have k210 := k29.below hb k29.lt
    have HB10 : Hid (Below w.heap.size w w10) := HBn.out.trans (hb.mono HBn.out.size)
    have HO10 := Lib.hid (HO9.out.grow hb)
    clear hb k9 k29 HO9 HSl HBn
    simp only [DV]
    obtain ⟨sb, hsb⟩ : ∃ n, n = w10.heap.size := ⟨_, rfl⟩
    obtain ⟨w11, e11⟩ : ∃ W, W = w10.alloc (.cells #[.bool st.neg, .slice a4 (words st.m).length c4, .int .i64 st.exp] 28) := ⟨_, rfl⟩
    obtain ⟨k11, b11, s11⟩ := new_cel e11 hsb.symm
    have k111 := k10.below b11 (by rw [hsb]; exact k10.lt)
    have k211 := k210.below b11 (by rw [hsb]; exact k210.lt)
    have HB11 : Hid (Below w.heap.size w w11) := HB10.out.trans (b11.mono (by rw [hsb]; exact HB10.out.size))
    have HO11 := Lib.hid (HO10.out.grow (b11.mono (by omega)))
    have HP11 := Lib.hid (ho4.grow (b11.mono (by omega)))
    have E11 := Lib.hid e11; have HSB := Lib.hid hsb
    obtain ⟨_, _, _, _, _, _⟩ := (k210.alloc (.cells #[.bool st.neg, .slice a4 (words st.m).length c4, .int .i64 st.exp] 28)).facts
    clear e11 b11 s11 ho4 hsb k10 k210 HO10
    go_wp2_with fail
    rw [← E11.out, ← HSB.out]
    refine (HMu.out w11 a4 c4 HB11.out (HP11.out.arg HOk.out.2.2.2.1)).mono ?_; rintro en w12 ⟨a5, c5, rfl, ho5, hb⟩
    have k12 := k111.below hb k111.lt
    have HB12 : Hid (Below w.heap.size w w12) := HB11.out.trans (hb.mono HB11.out.size)
    have HO12 := Lib.hid (HO11.out.grow hb)
    clear hb k111 k211 k11 HO11 HP11
    simp only [DV]
    obtain ⟨mb, hmb⟩ : ∃ n, n = w12.heap.size := ⟨_, rfl⟩
    obtain ⟨w13, e13⟩ : ∃ W, W = w12.alloc (.cells #[.bool mo.neg, .slice a5 (words mo.m).length c5, .int .i64 mo.exp] 28) := ⟨_, rfl⟩
    obtain ⟨k13, b13, s13⟩ := new_cel e13 hmb.symm
    have k113 := k12.below b13 (by rw [hmb]; exact k12.lt)
    have HB13 : Hid (Below w.heap.size w w13) := HB12.out.trans (b13.mono (by rw [hmb]; exact HB12.out.size))
    have HO13 := Lib.hid (HO12.out.grow (b13.mono (by omega)))
    have HP13 := Lib.hid (ho5.grow (b13.mono (by omega)))
    have E13 := Lib.hid e13; have HMB := Lib.hid hmb
    obtain ⟨_, _, _, _, _, _⟩ := (k12.alloc (.cells #[.bool mo.neg, .slice a5 (words mo.m).length c5, .int .i64 mo.exp] 28)).facts
    clear e13 b13 s13 ho5 hmb k12 HO12
    obtain ⟨hz, hC⟩ := HCm.out w13 a3 a5 c3 c5 (HO13.out.arg HOk.out.2.2.1) (HP13.out.arg HOk.out.2.2.2.2)
    obtain ⟨zc, hzc⟩ : ∃ z, z = cmpA (argOf G a3 c3) (argOf mo a5 c5) := ⟨_, rfl⟩
    rw [← hzc] at hz hC
    have HC := Lib.hid hC; have HZc := Lib.hid hz
    clear hzc hC hz
    go_wp2_with fail
    rw [← E13.out, ← HMB.out]
    refine HC.out.mono ?_; rintro en w14 ⟨rfl, hb⟩
    have HB14 : Hid (Below w.heap.size w w14) := HB13.out.trans (hb.mono HB13.out.size)
    clear hb
    go_wp2_with fail
    go_ret
    refine ⟨decide (zc ≤ 0), rfl, fun h => decide_eq_true (HZc.out ?_), HB14.out⟩
    have := h HF.out
    rw [← HX.out] at this
    exact this
  · have hs1 := hsg.2 hx
    obtain rfl := HG2.out (by omega)
    clear hsg hx
    have HBa := HB7
    obtain ⟨wa, hwa⟩ : ∃ W, W = w7 := ⟨_, rfl⟩
    rw [← hwa] at k7 k27 HBa HO7 ⊢
    have ka := k7
    have kb := k27
    have HOa := HO7
    obtain ⟨a3, ha3⟩ : ∃ a, a = a2 := ⟨_, rfl⟩
    obtain ⟨c3, hc3⟩ : ∃ c, c = c2 := ⟨_, rfl⟩
    subst ha3 hc3
    have HWA := Lib.hid hwa
    clear hwa k7 k27
    go_upto_region 7 with fail
    have za := HBa.out.size
    have hblk := blk_alloc wa 82 #[.int .u32 (n : Int)] [n] rfl
    have HSl : Hid (Sl (wa.alloc (.cells #[.int .u32 (n : Int)] 82)) (some ⟨wa.heap.size, 0, none⟩) 1 [n]) := Sl.blk hblk (W32.cons nb W32.nil)
    have HBn : Hid (Below w.heap.size w (wa.alloc (.cells #[.int .u32 (n : Int)] 82))) := HBa.out.alloc za _
    have k9 := ka.alloc (.cells #[.int .u32 (n : Int)] 82)
    have k29 := kb.alloc (.cells #[.int .u32 (n : Int)] 82)
    have HO9 := Lib.hid (HOa.out.grow ((Below.refl _ _).alloc (Nat.le_refl _) (.cells #[.int .u32 (n : Int)] 82)))
    obtain ⟨w9, hw9⟩ : ∃ W, W = wa.alloc (.cells #[.int .u32 (n : Int)] 82) := ⟨_, rfl⟩
    rw [← hw9] at HSl HBn k9 k29 HO9
    have z9 : w9.heap.size = wa.heap.size + 1 := by rw [hw9]; simp
    have HW9 := Lib.hid hw9
    have HZ := Lib.hid z9
    have lka := ka.lt
    have lkb := kb.lt
    clear hblk ka kb hw9 HOa z9
    go_wp2_with fail
    rw [← HW9.out]
    refine (HMk.out w9 (some ⟨wa.heap.size, 0, none⟩) 1 HBn.out HSl.out).mono ?_; rintro en w10 ⟨a4, c4, rfl, ho4, hb⟩
    have k10 := k9.below hb k9.lt
    have k210 := k29.below hb k29.lt
    have HB10 : Hid (Below w.heap.size w w10) := HBn.out.trans (hb.mono HBn.out.size)
    have HO10 := Lib.hid (HO9.out.grow hb)
    clear hb k9 k29 HO9 HSl HBn
    simp only [DV]
    obtain ⟨sb, hsb⟩ : ∃ n, n = w10.heap.size := ⟨_, rfl⟩
    obtain ⟨w11, e11⟩ : ∃ W, W = w10.alloc (.cells #[.bool st.neg, .slice a4 (words st.m).length c4, .int .i64 st.exp] 28) := ⟨_, rfl⟩
    obtain ⟨k11, b11, s11⟩ := new_cel e11 hsb.symm
    have k111 := k10.below b11 (by rw [hsb]; exact k10.lt)
    have k211 := k210.below b11 (by rw [hsb]; exact k210.lt)
    have HB11 : Hid (Below w.heap.size w w11) := HB10.out.trans (b11.mono (by rw [hsb]; exact HB10.out.size))
    have HO11 := Lib.hid (HO10.out.grow (b11.mono (by omega)))
    have HP11 := Lib.hid (ho4.grow (b11.mono (by omega)))
    have E11 := Lib.hid e11; have HSB := Lib.hid hsb
    obtain ⟨_, _, _, _, _, _⟩ := (k210.alloc (.cells #[.bool st.neg, .slice a4 (words st.m).length c4, .int .i64 st.exp] 28)).facts
    clear e11 b11 s11 ho4 hsb k10 k210 HO10
    go_wp2_with fail
    rw [← E11.out, ← HSB.out]
    refine (HMu.out w11 a4 c4 HB11.out (HP11.out.arg HOk.out.2.2.2.1)).mono ?_; rintro en w12 ⟨a5, c5, rfl, ho5, hb⟩
    have k12 := k111.below hb k111.lt
    have HB12 : Hid (Below w.heap.size w w12) := HB11.out.trans (hb.mono HB11.out.size)
    have HO12 := Lib.hid (HO11.out.grow hb)
    clear hb k111 k211 k11 HO11 HP11
    simp only [DV]
    obtain ⟨mb, hmb⟩ : ∃ n, n = w12.heap.size := ⟨_, rfl⟩
    obtain ⟨w13, e13⟩ : ∃ W, W = w12.alloc (.cells #[.bool mo.neg, .slice a5 (words mo.m).length c5, .int .i64 mo.exp] 28) := ⟨_, rfl⟩
    obtain ⟨k13, b13, s13⟩ := new_cel e13 hmb.symm
    have k113 := k12.below b13 (by rw [hmb]; exact k12.lt)
    have HB13 : Hid (Below w.heap.size w w13) := HB12.out.trans (b13.mono (by rw [hmb]; exact HB12.out.size))
    have HO13 := Lib.hid (HO12.out.grow (b13.mono (by omega)))
    have HP13 := Lib.hid (ho5.grow (b13.mono (by omega)))
    have E13 := Lib.hid e13; have HMB := Lib.hid hmb
    obtain ⟨_, _, _, _, _, _⟩ := (k12.alloc (.cells #[.bool mo.neg, .slice a5 (words mo.m).length c5, .int .i64 mo.exp] 28)).facts
    clear e13 b13 s13 ho5 hmb k12 HO12
    obtain ⟨hz, hC⟩ := HCm.out w13 a3 a5 c3 c5 (HO13.out.arg HOk.out.2.2.1) (HP13.out.arg HOk.out.2.2.2.2)
    obtain ⟨zc, hzc⟩ : ∃ z, z = cmpA (argOf G a3 c3) (argOf mo a5 c5) := ⟨_, rfl⟩
    rw [← hzc] at hz hC
    have HC := Lib.hid hC; have HZc := Lib.hid hz
    clear hzc hC hz
    go_wp2_with fail
    rw [← E13.out, ← HMB.out]
    refine HC.out.mono ?_; rintro en w14 ⟨rfl, hb⟩
    have HB14 : Hid (Below w.heap.size w w14) := HB13.out.trans (hb.mono HB13.out.size)
    clear hb
    go_wp2_with fail
    go_ret
    refine ⟨decide (zc ≤ 0), rfl, fun h => decide_eq_true (HZc.out ?_), HB14.out⟩
    have := h HF.out
    rw [← HX.out] at this
    exact this
end Go.Proofs.YthdbapibbdkclaaDoor
