/- Contracts: super's Round32, the document's Narrow of what is no finite number, and its Round32. No statement of the seat is proved here. -/
import Derived.Test.YteahdgbokjbgcaaGreatDoorProg
import Derived.Test.YteahdgbokjbgcaaGreatDoorYD
import Derived.Test.YteahdgbokjbgcaaGreatDoorYNQ
namespace Go.Proofs.YteahdgbokjbgcaaGreatDoor
open Go.RowKit
set_option maxRecDepth 10000
set_option linter.unusedVariables false
set_option linter.unusedSimpArgs false

theorem cv32_inf (W : World) : (convert 30 134 (.float .f64 9218868437227405312)).run Tryz.prog W = .ok (.float .f32 2139095040) W := by kernel_rfl
theorem cv32_ninf (W : World) : (convert 30 134 (.float .f64 18442240474082181120)).run Tryz.prog W = .ok (.float .f32 4286578688) W := by kernel_rfl
theorem cv32_zero (W : World) : (convert 30 134 (.float .f64 0)).run Tryz.prog W = .ok (.float .f32 0) W := by kernel_rfl
theorem cv32_nzero (W : World) : (convert 30 134 (.float .f64 9223372036854775808)).run Tryz.prog W = .ok (.float .f32 2147483648) W := by kernel_rfl
theorem ne64_nan (W : World) : (binOp .neq 30 (.float .f64 9221120237041090560) (.float .f64 9221120237041090560)).run Tryz.prog W = .ok (.bool true) W := by kernel_rfl
theorem ne64_inf (W : World) : (binOp .neq 30 (.float .f64 9218868437227405312) (.float .f64 9218868437227405312)).run Tryz.prog W = .ok (.bool false) W := by kernel_rfl
theorem ne64_ninf (W : World) : (binOp .neq 30 (.float .f64 18442240474082181120) (.float .f64 18442240474082181120)).run Tryz.prog W = .ok (.bool false) W := by kernel_rfl
theorem ne64_zero (W : World) : (binOp .neq 30 (.float .f64 0) (.float .f64 0)).run Tryz.prog W = .ok (.bool false) W := by kernel_rfl
theorem ne64_nzero (W : World) : (binOp .neq 30 (.float .f64 9223372036854775808) (.float .f64 9223372036854775808)).run Tryz.prog W = .ok (.bool false) W := by kernel_rfl
/-- what both tell: the same -/
def Rnd32 (A : Ac) (mode pn pi : Int) (w : World) (en : Ending) (w' : World) : Prop := ∃ (S : Nat × Bool × Int) (r : Nat) (er : Int), SpcS A mode pn pi S ∧ en = .returned (.tuple #[.float .f32 r, .int .i64 er]) ∧ RoundS A mode S r er ∧ Below w.heap.size w w'
set_option maxHeartbeats 16000000 in
theorem accround32_all (A : Ac) (mode pn pi : Int) (g : Nat) (w : World) (hA : A.Ok) (h : AccAt w g A) (hT : Tab w) :
    Calls Tryz.prog 109 #[.pointer (some ⟨g, 0, none⟩), .int .i64 mode, pol pn pi] w (Rnd32 A mode pn pi w) := by
  have gl := Tot.lt h
  obtain ⟨⟨x, ok, e⟩, hSp, hS⟩ := special_all A mode pn pi g hA
  obtain ⟨d, hd⟩ := exO_some hA.v
  have hX : ∀ W, Below w.heap.size w W → AccAt W g A → Calls Tryz.prog 106 #[.pointer (some ⟨g, 0, none⟩)] W fun en w' => ∃ a c, en = .returned (.agg #[.bool d.neg, .slice a (words d.m).length c, .int .i64 d.exp]) ∧ Own w' 118 W.heap.size a c (words d.m) ∧ Below W.heap.size W w' := by
    intro W hw hW
    refine (exact_any A g W hW hA.v (hT.grow hw)).mono ?_
    rintro en w' ⟨v, rfl, ⟨a, c, rfl, ho⟩, hb⟩
    rw [hd] at ho ⊢
    exact ⟨a, c, rfl, ho, hb⟩
  have hR : ∀ W a c base, Below w.heap.size w W → Own W 118 base a c (words d.m) → Calls Tryz.prog 224 #[.agg #[.bool d.neg, .slice a (words d.m).length c, .int .i64 d.exp], .int .i64 mode] W fun en w' => (∃ (r : Nat) (er : Int), en = .returned (.tuple #[.float .f32 r, .int .i64 er]) ∧ RoundsTo 23 (-149) 2139095040 2147483648 mode (exO A.T) r er) ∧ Below W.heap.size W w' := by
    intro W a c base hw ho
    have := dround32_any (argOf d a c) mode W (ho.arg (exO_both hd).2) (hT.grow hw)
    rw [show Arg.F (argOf d a c) = exO A.T by rw [hd]; unfold Arg.F argOf; dsimp only; rw [num_words]; exact form_self (exO_both hd).1 (exO_both hd).2] at this
    exact this
  have hvals : ok = true → e = 0 ∧ (x = nan64 ∨ x = inf64 ∨ x = ninf64 ∨ x = 0 ∨ x = nzero64) := by
    intro hk
    rcases hSp with ⟨_, h2⟩ | ⟨_, h2⟩
    · rw [Prod.mk.injEq, Prod.mk.injEq] at h2
      rw [h2.2.1] at hk; cases hk
    · rcases specR_vals A mode pn pi with ⟨h3, h4, h5⟩ | ⟨h3, h4⟩
      · rw [← h2] at h4 h5; exact ⟨h4, h5⟩
      · rw [← h2] at h3
        have h3' : ok = false := h3
        rw [hk] at h3'; cases h3'
  dsimp only at hS
  unfold pol at *
  have HS := Lib.hid hS; have HX := Lib.hid hX; have HR := Lib.hid hR; have HA := Lib.hid h; have HV := Lib.hid hvals
  have HQ : Hid (∀ r er (w' : World), RoundS A mode (x, ok, e) r er → Below w.heap.size w w' → Rnd32 A mode pn pi w (.returned (.tuple #[.float .f32 r, .int .i64 er])) w') := fun r er w' h1 h2 => ⟨_, r, er, hSp, rfl, h1, h2⟩
  obtain ⟨w1, e1⟩ : ∃ W, W = w.alloc (.cells #[.int .i64 pn, .int .i64 pi] 61) := ⟨_, rfl⟩
  obtain ⟨b1, hB1, s1⟩ := new_of e1 rfl
  have HA1 := Lib.hid (acc_below h hB1 gl)
  have HB1 := Lib.hid hB1
  have E1 := Lib.hid e1
  have HS1 : Hid (g < w1.heap.size) := by show _ < _; omega
  clear hS hX hR hSp h hA hT hd hvals e1 b1 hB1 s1
  go_enter Tryz.func109, Tryz.ntmps109
  go_wp2_with fail
  rw [← E1.out]
  refine (HS.out w1 HA1.out).mono ?_; rintro en w2 ⟨rfl, hb⟩
  have HA2 := Lib.hid (acc_below HA1.out hb HS1.out)
  have HB2 := Lib.hid (HB1.out.trans (hb.mono HB1.out.size))
  clear hb
  by_cases he : e = 0
  case neg =>
    have t1 : (e != 0) = true := by simpa using he
    have HE := Lib.hid he
    clear he
    go_wp2_with fail
    go_ret2
    exact HQ.out _ _ _ (.inl ⟨HE.out, rfl, rfl⟩) HB2.out
  subst he
  cases ok
  · go_wp2_with fail
    refine (HX.out w2 HB2.out HA2.out).mono ?_; rintro en w3 ⟨a, c, rfl, ho, hb⟩
    have HO := Lib.hid ho; have HB3 := Lib.hid (HB2.out.trans (hb.mono HB2.out.size))
    clear ho hb
    go_wp2_with fail
    refine (HR.out w3 a c _ HB3.out HO.out).mono ?_; rintro en w4 ⟨⟨r, er, rfl, hr⟩, hb⟩
    have HRR := Lib.hid hr; have HB4 := Lib.hid (HB3.out.trans (hb.mono HB3.out.size))
    clear hr hb
    go_wp2_with fail
    go_ret2
    exact HQ.out _ _ _ (.inr (.inr ⟨rfl, rfl, HRR.out⟩)) HB4.out
  · have hx := (HV.out rfl).2
    have hn := ext_from32 2143289344
    rw [show ((2143289344 : Nat) : Int) = 2143289344 from rfl] at hn
    unfold nan64 inf64 ninf64 nzero64 at hx
    rcases hx with rfl | rfl | rfl | rfl | rfl
    · have h1 := ne64_nan
      go_wp2_with fail
      go_ret2
      exact HQ.out _ _ _ (.inr (.inl ⟨rfl, rfl, by decide, rfl⟩)) HB2.out
    · have h1 := ne64_inf; have h2 := cv32_inf
      go_wp2_with fail
      go_ret2
      exact HQ.out _ _ _ (.inr (.inl ⟨rfl, rfl, by decide, rfl⟩)) HB2.out
    · have h1 := ne64_ninf; have h2 := cv32_ninf
      go_wp2_with fail
      go_ret2
      exact HQ.out _ _ _ (.inr (.inl ⟨rfl, rfl, by decide, rfl⟩)) HB2.out
    · have h1 := ne64_zero; have h2 := cv32_zero
      go_wp2_with fail
      go_ret2
      exact HQ.out _ _ _ (.inr (.inl ⟨rfl, rfl, by decide, rfl⟩)) HB2.out
    · have h1 := ne64_nzero; have h2 := cv32_nzero
      go_wp2_with fail
      go_ret2
      exact HQ.out _ _ _ (.inr (.inl ⟨rfl, rfl, by decide, rfl⟩)) HB2.out

theorem of32r_any (b : Nat) (w : World) : Calls Tryz.prog 225 #[.int .u32 b] w fun en w' => en = .returned (.float .f32 b) ∧ w = w' := by
  have h1 := ext_from32 b
  go_enter Tryz.func225, Tryz.ntmps225
  go_wp2_with fail
  go_ret
  exact ⟨rfl, rfl⟩
/-- what Split tells of a sign, a class -/
def SkOf (e f : Nat) (g s : Bool) (k : Int) : Prop := (e = 2047 ∧ f ≠ 0 → s = false ∧ k = 4) ∧ (e = 2047 ∧ f = 0 → s = g ∧ k = 3) ∧ (e = 0 ∧ f = 0 → s = g ∧ k = 0)
def SkB (b : Nat) (s : Bool) (k : Int) : Prop := SkOf (b / 4503599627370496 % 2048) (b % 4503599627370496) (b / 9223372036854775808 % 2 == 1) s k
def PtK (b : Nat) (w : World) (en : Ending) (w' : World) : Prop := ∃ (s : Bool) (k x y : Int), en = .returned (.agg #[.bool s, .int .i64 k, .int .i64 x, .int .u64 y]) ∧ SkB b s k ∧ Below w.heap.size w w'
set_option maxHeartbeats 4000000 in
theorem rpartsk_any (b e : Nat) (he : e = b / 4503599627370496 % 2048) (w : World) (hb : b < 18446744073709551616) :
    Calls Tryz.prog 312 #[.int .u64 b, .int .i64 11, .int .i64 52] w (PtK b w) := by
  obtain ⟨f, hf⟩ : ∃ f : Nat, f = b % 4503599627370496 := ⟨_, rfl⟩
  have e1 : (b : Int) / 4503599627370496 % 2048 = (e : Int) := by omega
  have f1 : (b : Int) % 4503599627370496 = (f : Int) := by omega
  have HB := Lib.hid hb; have HE := Lib.hid he; have HF := Lib.hid hf; have HE1 := Lib.hid e1; have HF1 := Lib.hid f1
  clear hb he hf e1 f1
  go_enter Tryz.func312, Tryz.ntmps312
  go_upto_region 2 with fail
  rw [HE1.out]
  obtain ⟨w1, h1⟩ : ∃ W, W = w.alloc (.cells #[.bool false, .int .i64 0, .int .i64 0, .int .u64 0] 194) := ⟨_, rfl⟩
  rw [← h1]
  obtain ⟨k1, hB1, s1⟩ := new_of h1 rfl
  clear h1
  go_upto_region 3 with fail
  rw [HF1.out]
  obtain ⟨sg, hsg⟩ : ∃ sg, sg = (b / 9223372036854775808 % 2 == 1) := ⟨_, rfl⟩
  have HSG := Lib.hid hsg
  obtain ⟨q, hq⟩ : ∃ q : Int, q = (b : Int) / 9223372036854775808 % 2 := ⟨_, rfl⟩
  have hq2 : (q == 1) = sg := by
    rw [hsg, hq]
    rcases (show b / 9223372036854775808 % 2 = 0 ∨ b / 9223372036854775808 % 2 = 1 by omega) with h | h
    · rw [h, show (b : Int) / 9223372036854775808 % 2 = 0 by omega]; rfl
    · rw [h, show (b : Int) / 9223372036854775808 % 2 = 1 by omega]; rfl
  have HQ : Hid ((b : Int) / 9223372036854775808 % 2 = q) := hq.symm
  clear hq hsg s1
  go_upto_region 4 with fail
  rw [HQ.out, hq2]
  obtain ⟨w2, h2⟩ : ∃ W, W = w1.alloc (.cells #[.bool sg, .int .i64 0, .int .i64 0, .int .u64 0] 194) := ⟨_, rfl⟩
  rw [← h2]
  obtain ⟨k2, hB2, s2⟩ := new_of h2 rfl
  obtain ⟨p2, hp2⟩ : ∃ p, p = w1.heap.size := ⟨_, rfl⟩
  rw [← hp2] at k2 ⊢
  have k1' : w2.heap[w.heap.size]? = _ := (hB2.block _ (Array.getElem?_eq_some_iff.1 k1).1).trans k1
  have hne : p2 ≠ w.heap.size := by have := (Array.getElem?_eq_some_iff.1 k1).1; omega
  have hgt : w.heap.size ≤ p2 := by have := (Array.getElem?_eq_some_iff.1 k1).1; omega
  have hBw : Hid (Below w.heap.size w w2) := hB1.trans (hB2.mono hB1.size)
  have hex2 : e ≤ 2047 := by have := HE.out; omega
  have hfr2 : f ≤ 4503599627370495 := by have := HF.out; omega
  have HSk : Hid (∀ s k, SkOf e f sg s k → SkB b s k) := fun s k h => by unfold SkB; rw [← HE.out, ← HF.out, ← HSG.out]; exact h
  clear HE HF HSG HE1 HF1 HQ hq2 h2 hp2 s2 k1 hB1 hB2 HB
  obtain ⟨⟨d0, d1, d2, d3⟩, _, _, _, _⟩ := cells4 k1'
  obtain ⟨⟨c0, cc1, c2, c3⟩, _, _, _, _⟩ := cells4 k2
  rcases (show (e = 2047 ∧ f ≠ 0) ∨ (e = 2047 ∧ f = 0) ∨ (e ≠ 2047 ∧ 0 < e) ∨ (e = 0 ∧ 0 < f) ∨ (e = 0 ∧ f = 0) by omega) with ⟨x1, x2⟩ | ⟨x1, x2⟩ | ⟨x1, x2⟩ | ⟨x1, x2⟩ | ⟨x1, x2⟩
  · subst x1
    have e2 : (0 : Int) < (f : Int) := by omega
    have X2 := Lib.hid x2
    clear x2
    go_wp2_with fail
    refine bodyPost_ret (v := .agg #[.bool false, .int .i64 4, .int .i64 0, .int .u64 0]) (by simp [results, Tryz.results312, go_sem, c0, cc1, c2, c3, d0, d1, d2, d3, hne]) rfl ?_
    exact ⟨false, 4, 0, 0, rfl, HSk.out _ _ ⟨fun _ => ⟨rfl, rfl⟩, fun h => absurd h.2 X2.out, fun h => absurd h.2 X2.out⟩, by repeat (first | exact hBw.out | refine Below.setCell ?_ (by first | exact Nat.le_refl _ | exact hgt) _)⟩
  · subst x1 x2
    go_wp2_with fail
    refine bodyPost_ret (v := .agg #[.bool sg, .int .i64 3, .int .i64 0, .int .u64 0]) (by simp [results, Tryz.results312, go_sem, c0, cc1, c2, c3, d0, d1, d2, d3, hne]) rfl ?_
    exact ⟨sg, 3, 0, 0, rfl, HSk.out _ _ ⟨fun h => absurd rfl h.2, fun _ => ⟨rfl, rfl⟩, fun h => by have := h.1; omega⟩, by repeat (first | exact hBw.out | refine Below.setCell ?_ (by first | exact Nat.le_refl _ | exact hgt) _)⟩
  · have e1 : ((e : Int) == 2047) = false := by simp; omega
    have e2 : (0 : Int) < (e : Int) := by omega
    have g4 : IntKind.i64.wrap (-1074 + (e : Int)) = -1074 + (e : Int) := by rw [IntKind.wrap_i64]; omega
    have g5 : IntKind.i64.wrap (-1074 + (e : Int) - 1) = -1074 + (e : Int) - 1 := by rw [IntKind.wrap_i64]; omega
    have g6 : IntKind.u64.wrap ((f : Int) + 4503599627370496) = (f : Int) + 4503599627370496 := by rw [IntKind.wrap_u64]; omega
    have X1 := Lib.hid x1
    clear x1
    go_upto_region 19 with fail
    obtain ⟨w3, e3⟩ : ∃ W, W = (((((w2.setCell ⟨p2, 3, none⟩ (.int .u64 f)).setCell ⟨p2, 2, none⟩ (.int .i64 (-1074))).setCell ⟨p2, 1, none⟩ (.int .i64 2)).setCell ⟨p2, 3, none⟩ (.int .u64 ((f : Int) + 4503599627370496))).setCell ⟨p2, 2, none⟩ (.int .i64 (-1074 + (e : Int) - 1))) := ⟨_, rfl⟩
    rw [← e3]
    have k3 : w3.heap[p2]? = some (.cells ([.bool sg, .int .i64 2, .int .i64 (-1074 + (e : Int) - 1), .int .u64 ((f : Int) + 4503599627370496)] : List Value).toArray 194 (0, 0)) := by rw [e3]; exact row_setA (row_setA (row_setA (row_setA (row_setA (k2) 3 _) 2 _) 1 _) 3 _) 2 _
    have hB3 : Below w.heap.size w w3 := by rw [e3]; exact (((((hBw.out).setCell (p := ⟨p2, 3, none⟩) hgt _).setCell (p := ⟨p2, 2, none⟩) hgt _).setCell (p := ⟨p2, 1, none⟩) hgt _).setCell (p := ⟨p2, 3, none⟩) hgt _).setCell (p := ⟨p2, 2, none⟩) hgt _
    have k4 : w3.heap[w.heap.size]? = some (.cells #[.bool false, .int .i64 0, .int .i64 0, .int .u64 0] 194 (0, 0)) := by
      rw [e3]
      repeat rw [heap_setCell_other _ _ _ _ (by show w.heap.size ≠ p2; exact fun h => hne h.symm)]
      exact k1'
    have HB3 := Lib.hid hB3
    clear e3 hB3 hBw c0 cc1 c2 c3 d0 d1 d2 d3 k1' k2
    obtain ⟨⟨c0, cc1, c2, c3⟩, _, _, _, _⟩ := cells4 k3
    obtain ⟨⟨d0, d1, d2, d3⟩, _, _, _, _⟩ := cells4 k4
    clear k3 k4
    go_wp2_with fail
    refine bodyPost_ret (v := .agg #[.bool sg, .int .i64 2, .int .i64 (-1074 + (e : Int) - 1), .int .u64 ((f : Int) + 4503599627370496)]) (by simp [results, Tryz.results312, go_sem, c0, cc1, c2, c3, d0, d1, d2, d3, hne]) rfl ?_
    exact ⟨sg, 2, -1074 + (e : Int) - 1, (f : Int) + 4503599627370496, rfl, HSk.out _ _ ⟨fun h => absurd h.1 X1.out, fun h => absurd h.1 X1.out, fun h => by have := h.1; omega⟩, by repeat (first | exact HB3.out | refine Below.setCell ?_ (by first | exact Nat.le_refl _ | exact hgt) _)⟩
  · subst x1
    have e2 : (0 : Int) < (f : Int) := by omega
    have X2 := Lib.hid x2
    clear x2
    go_upto_region 19 with fail
    obtain ⟨w3, e3⟩ : ∃ W, W = (((w2.setCell ⟨p2, 3, none⟩ (.int .u64 f)).setCell ⟨p2, 2, none⟩ (.int .i64 (-1074))).setCell ⟨p2, 1, none⟩ (.int .i64 1)) := ⟨_, rfl⟩
    rw [← e3]
    have k3 : w3.heap[p2]? = some (.cells ([.bool sg, .int .i64 1, .int .i64 (-1074), .int .u64 f] : List Value).toArray 194 (0, 0)) := by rw [e3]; exact row_setA (row_setA (row_setA (k2) 3 _) 2 _) 1 _
    have hB3 : Below w.heap.size w w3 := by rw [e3]; exact (((hBw.out).setCell (p := ⟨p2, 3, none⟩) hgt _).setCell (p := ⟨p2, 2, none⟩) hgt _).setCell (p := ⟨p2, 1, none⟩) hgt _
    have k4 : w3.heap[w.heap.size]? = some (.cells #[.bool false, .int .i64 0, .int .i64 0, .int .u64 0] 194 (0, 0)) := by
      rw [e3]
      repeat rw [heap_setCell_other _ _ _ _ (by show w.heap.size ≠ p2; exact fun h => hne h.symm)]
      exact k1'
    have HB3 := Lib.hid hB3
    clear e3 hB3 hBw c0 cc1 c2 c3 d0 d1 d2 d3 k1' k2
    obtain ⟨⟨c0, cc1, c2, c3⟩, _, _, _, _⟩ := cells4 k3
    obtain ⟨⟨d0, d1, d2, d3⟩, _, _, _, _⟩ := cells4 k4
    clear k3 k4
    go_wp2_with fail
    refine bodyPost_ret (v := .agg #[.bool sg, .int .i64 1, .int .i64 (-1074), .int .u64 (f : Nat)]) (by simp [results, Tryz.results312, go_sem, c0, cc1, c2, c3, d0, d1, d2, d3, hne]) rfl ?_
    exact ⟨sg, 1, -1074, (f : Int), rfl, HSk.out _ _ ⟨fun h => by have := h.1; omega, fun h => by have := h.1; omega, fun h => by have := h.2; have := X2.out; omega⟩, by repeat (first | exact HB3.out | refine Below.setCell ?_ (by first | exact Nat.le_refl _ | exact hgt) _)⟩
  · subst x1 x2
    go_upto_region 19 with fail
    obtain ⟨w3, e3⟩ : ∃ W, W = (((w2.setCell ⟨p2, 3, none⟩ (.int .u64 0)).setCell ⟨p2, 2, none⟩ (.int .i64 (-1074))).setCell ⟨p2, 1, none⟩ (.int .i64 0)) := ⟨_, rfl⟩
    rw [← e3]
    have k3 : w3.heap[p2]? = some (.cells ([.bool sg, .int .i64 0, .int .i64 (-1074), .int .u64 0] : List Value).toArray 194 (0, 0)) := by rw [e3]; exact row_setA (row_setA (row_setA (k2) 3 _) 2 _) 1 _
    have hB3 : Below w.heap.size w w3 := by rw [e3]; exact (((hBw.out).setCell (p := ⟨p2, 3, none⟩) hgt _).setCell (p := ⟨p2, 2, none⟩) hgt _).setCell (p := ⟨p2, 1, none⟩) hgt _
    have k4 : w3.heap[w.heap.size]? = some (.cells #[.bool false, .int .i64 0, .int .i64 0, .int .u64 0] 194 (0, 0)) := by
      rw [e3]
      repeat rw [heap_setCell_other _ _ _ _ (by show w.heap.size ≠ p2; exact fun h => hne h.symm)]
      exact k1'
    have HB3 := Lib.hid hB3
    clear e3 hB3 hBw c0 cc1 c2 c3 d0 d1 d2 d3 k1' k2
    obtain ⟨⟨c0, cc1, c2, c3⟩, _, _, _, _⟩ := cells4 k3
    obtain ⟨⟨d0, d1, d2, d3⟩, _, _, _, _⟩ := cells4 k4
    clear k3 k4
    go_wp2_with fail
    refine bodyPost_ret (v := .agg #[.bool sg, .int .i64 0, .int .i64 (-1074), .int .u64 0]) (by simp [results, Tryz.results312, go_sem, c0, cc1, c2, c3, d0, d1, d2, d3, hne]) rfl ?_
    exact ⟨sg, 0, -1074, 0, rfl, HSk.out _ _ ⟨fun h => by have := h.1; omega, fun h => by have := h.1; omega, fun _ => ⟨rfl, rfl⟩⟩, by repeat (first | exact HB3.out | refine Below.setCell ?_ (by first | exact Nat.le_refl _ | exact hgt) _)⟩
set_option maxHeartbeats 2000000 in
theorem rsplitk_any (b : Nat) (w : World) (hb : b < 18446744073709551616) (hc : canon b = b) : Calls Tryz.prog 278 #[.float .f64 b] w (PtK b w) := by
  have HBb := Lib.hid (fun W => bbits_any b W)
  rw [hc] at HBb
  have HP := Lib.hid (fun W => rpartsk_any b _ rfl W hb)
  clear hb hc
  go_enter Tryz.func278, Tryz.ntmps278
  go_wp2_with fail
  obtain ⟨w1, e1⟩ : ∃ W, W = w.alloc (.cells #[.bool false, .int .i64 0, .int .i64 0, .int .u64 0] 194) := ⟨_, rfl⟩
  rw [← e1]
  obtain ⟨k1, hB1, s1⟩ := new_of e1 rfl
  have HB1 := Lib.hid hB1
  have HK1 := Lib.hid k1
  have HS1 : Hid (w.heap.size < w1.heap.size) := by show _ < _; omega
  clear e1 hB1 k1 s1
  refine (HBb.out w1).mono ?_; rintro en w2 ⟨rfl, rfl⟩
  go_wp2_with fail
  refine (HP.out w1).mono ?_; rintro en w2 ⟨s, k, x, y, rfl, hk, hb⟩
  have k2 := blk_below HK1.out hb HS1.out
  have HB2 := Lib.hid (HB1.out.trans (hb.mono HB1.out.size))
  have HK := Lib.hid hk
  obtain ⟨⟨d0, d1, d2, d3⟩, _, _, _, _⟩ := cells4 k2
  clear hb k2 hk HP HBb
  go_wp2_with fail
  refine bodyPost_ret (v := .agg #[.bool s, .int .i64 k, .int .i64 x, .int .u64 y]) (by simp [results, Tryz.results278, go_sem, d0, d1, d2, d3]) rfl ?_
  exact ⟨s, k, x, y, rfl, HK.out, by repeat (first | exact HB2.out | refine Below.setCell ?_ (by exact Nat.le_refl _) _)⟩
theorem sp_cls {x : Nat} (h : x = nan64 ∨ x = inf64 ∨ x = ninf64 ∨ x = 0 ∨ x = nzero64) {s : Bool} {k : Int} (hk : SkB x s k) : x < 18446744073709551616 ∧ canon x = x ∧ ((k = 4 ∧ s = false ∧ narS x = 2143289344) ∨ (k = 3 ∧ narS x = (if s = true then 2147483648 else 0) + 2139095040) ∨ (k = 0 ∧ narS x = if s = true then 2147483648 else 0)) := by
  obtain ⟨h1, h2, h3⟩ := hk
  rcases h with rfl | rfl | rfl | rfl | rfl
  · obtain ⟨rfl, rfl⟩ := h1 (by decide)
    exact ⟨by decide, by decide, .inl ⟨rfl, rfl, by decide⟩⟩
  · obtain ⟨rfl, rfl⟩ := h2 (by decide)
    exact ⟨by decide, by decide, .inr (.inl ⟨rfl, by decide⟩)⟩
  · obtain ⟨rfl, rfl⟩ := h2 (by decide)
    exact ⟨by decide, by decide, .inr (.inl ⟨rfl, by decide⟩)⟩
  · obtain ⟨rfl, rfl⟩ := h3 (by decide)
    exact ⟨by decide, by decide, .inr (.inr ⟨rfl, by decide⟩)⟩
  · obtain ⟨rfl, rfl⟩ := h3 (by decide)
    exact ⟨by decide, by decide, .inr (.inr ⟨rfl, by decide⟩)⟩
theorem sp_canon {x : Nat} (h : x = nan64 ∨ x = inf64 ∨ x = ninf64 ∨ x = 0 ∨ x = nzero64) : x < 18446744073709551616 ∧ canon x = x := by
  rcases h with rfl | rfl | rfl | rfl | rfl <;> exact ⟨by decide, by decide⟩
set_option maxHeartbeats 8000000 in
theorem narrow_sp (x : Nat) (w : World) (h : x = nan64 ∨ x = inf64 ∨ x = ninf64 ∨ x = 0 ∨ x = nzero64) : Calls Tryz.prog 226 #[.float .f64 x, .int .i64 0] w fun en w' => en = .returned (.tuple #[.float .f32 (narS x), .int .i64 0]) ∧ Below w.heap.size w w' := by
  obtain ⟨c1, c2⟩ := sp_canon h
  have HSp := Lib.hid (rsplitk_any x w c1 c2)
  have HC := Lib.hid (fun s k (hk : SkB x s k) => (sp_cls h hk).2.2)
  clear h c1 c2
  go_enter Tryz.func226, Tryz.ntmps226
  go_wp2_with fail
  refine HSp.out.mono ?_; rintro en w1 ⟨s, k, y, z, rfl, hk, hb⟩
  have HK := Lib.hid (HC.out s k hk)
  have HB := Lib.hid hb
  clear hk hb HSp HC
  go_upto_region 4 with fail
  obtain ⟨w2, e2⟩ : ∃ W, W = w1.alloc (.cells #[.bool s, .int .i64 k, .int .i64 y, .int .u64 z] 194) := ⟨_, rfl⟩
  rw [← e2]
  obtain ⟨k2, b2, s2⟩ := new_of e2 rfl
  obtain ⟨⟨d0, d1, d2, d3⟩, _, _, _, _⟩ := cells4 k2
  have HB2 := Lib.hid (HB.out.trans (b2.mono HB.out.size))
  clear e2 k2 b2 s2 HB
  rcases HK.out with ⟨rfl, rfl, hn⟩ | ⟨rfl, hn⟩ | ⟨rfl, hn⟩
  · have HN := Lib.hid hn
    clear HK hn
    have o1 := Lib.hid (of32r_any 2143289344)
    go_wp2_with fail
    refine (o1.out _).mono ?_; rintro en w3 ⟨rfl, rfl⟩
    go_wp2_with fail
    go_ret2
    rw [HN.out]
    exact ⟨rfl, HB2.out⟩
  · have HN := Lib.hid hn
    clear HK hn
    cases s
    · have o1 := Lib.hid (of32r_any 2139095040)
      go_wp2_with fail
      refine (o1.out _).mono ?_; rintro en w3 ⟨rfl, rfl⟩
      go_wp2_with fail
      go_ret2
      rw [HN.out]
      exact ⟨rfl, HB2.out⟩
    · have o1 := Lib.hid (of32r_any 4286578688)
      go_wp2_with fail
      refine (o1.out _).mono ?_; rintro en w3 ⟨rfl, rfl⟩
      go_wp2_with fail
      go_ret2
      rw [HN.out]
      exact ⟨rfl, HB2.out⟩
  · have HN := Lib.hid hn
    clear HK hn
    cases s
    · have o1 := Lib.hid (of32r_any 0)
      go_wp2_with fail
      refine (o1.out _).mono ?_; rintro en w3 ⟨rfl, rfl⟩
      go_wp2_with fail
      go_ret2
      rw [HN.out]
      exact ⟨rfl, HB2.out⟩
    · have o1 := Lib.hid (of32r_any 2147483648)
      go_wp2_with fail
      refine (o1.out _).mono ?_; rintro en w3 ⟨rfl, rfl⟩
      go_wp2_with fail
      go_ret2
      rw [HN.out]
      exact ⟨rfl, HB2.out⟩
end Go.Proofs.YteahdgbokjbgcaaGreatDoor
