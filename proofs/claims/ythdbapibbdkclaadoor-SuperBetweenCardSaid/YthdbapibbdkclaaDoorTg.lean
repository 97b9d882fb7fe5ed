/- The walk of steelyardlaw07.SuperBetween: true of all lists, in every world whose table of math/bits is laid. -/
import Derived.Test.YthdbapibbdkclaaDoorProg
import Derived.Test.YthdbapibbdkclaaDoorTf
namespace Go.Proofs.YthdbapibbdkclaaDoor
open Go.RowKit
set_option linter.unusedVariables false
set_option linter.unusedSimpArgs false

theorem outO_okF (b : Nat) : (outO (ofF b)).Ok := by
  cases h : ofF b with
  | none => exact (exO_both exO_zero).2
  | some q =>
    have hb : b % 9223372036854775808 < 9218868437227405312 := by
      rcases Nat.lt_or_ge (b % 9223372036854775808) 9218868437227405312 with h1 | h1
      · exact h1
      · unfold ofF bitsF at h; rw [if_pos h1] at h; cases h
    unfold ofF bitsF at h
    rw [if_neg (by omega)] at h
    exact formF_ok h

set_option maxRecDepth 10000 in
set_option maxHeartbeats 8000000 in
theorem superbetween_any (a1 a2 : Option Addr) (c1 c2 : Nat) (l xs : List Nat) (w : World) (hT : Tab w) (hl : FSl w a1 c1 l) (hx : FSl w a2 c2 xs) :
    Calls Tryd.prog 9 #[.slice a1 l.length c1, .slice a2 xs.length c2] w fun en w' => en = .returned (.bool true) ∧ Below w.heap.size w w' := by
  have H1 := Lib.hid (live7_any w hT)
  have HLf := Lib.hid (w64_getD hl.wf); have HXf := Lib.hid (w64_getD hx.wf)
  have HL := Lib.hid (fun W (hw : Below w.heap.size w W) => hl.rd.grow hw)
  have HX := Lib.hid (fun W (hw : Below w.heap.size w W) => hx.rd.grow hw)
  have HT := Lib.hid hT
  clear hl hx hT
  go_enter Tryd.func9, Tryd.ntmps9
  go_wp2_with fail
  refine H1.out.mono ?_; rintro en w1 ⟨rfl, hb⟩
  have HB := Lib.hid hb
  have y1 := hb.size
  clear hb
  go_wp2_with fail
  refine (new_any w1).mono ?_; rintro en w2 ⟨rfl, hA, hb⟩
  obtain ⟨g, hg⟩ : ∃ g, g = w1.heap.size := ⟨_, rfl⟩
  rw [← hg] at hA ⊢
  have HU : Hid (Un w w2 g Ac.zero) := ⟨hA, HB.out.trans (hb.mono y1)⟩
  have HG : Hid (w.heap.size ≤ g) := by rw [hg]; exact y1
  clear hA hb hg HB y1
  go_wp2_with fail
  go_loopw [7] (fun i wr => ∃ (k : Nat) (A : Ac), k ≤ l.length ∧ k ≤ 200 ∧ i = .int .i64 k ∧ Hid (Fit k A ∧ Un w wr g A)) (fun i _ => 200 - (intOf i).toNat)
  case atStart => exact ⟨0, Ac.zero, Nat.zero_le _, Nat.zero_le _, rfl, fit_zero, HU.out⟩
  case round =>
    obtain ⟨k, A, hk1, hk2, rfl, hH⟩ := hrel
    obtain ⟨c, hc⟩ : ∃ c, c = decide (k < l.length ∧ k < 200) := ⟨_, rfl⟩
    go_upto_region 6 with fail
    go_cut [30] from 23 to 30 (fun cc wx => cc = .bool c ∧ wx = wr)
    case first =>
      by_cases q1 : k < l.length
      · by_cases q2 : k < 200
        · have hc' : c = true := by rw [hc]; exact decide_eq_true ⟨q1, q2⟩
          clear hc
          go_wp2_with fail
          go_meet
          case rel => exact ⟨by subst hc'; simp <;> omega, rfl⟩
        · have hc' : c = false := by rw [hc]; exact decide_eq_false (fun h => q2 h.2)
          clear hc
          go_wp2_with fail
          go_meet
          case rel => exact ⟨by subst hc'; simp <;> omega, rfl⟩
      · have hc' : c = false := by rw [hc]; exact decide_eq_false (fun h => q1 h.1)
        clear hc
        go_wp2_with fail
        go_meet
        case rel => exact ⟨by subst hc'; simp <;> omega, rfl⟩
    obtain ⟨rfl, rfl⟩ := hcut
    by_cases hq : k < l.length ∧ k < 200
    · obtain rfl : c = true := by rw [hc]; exact decide_eq_true hq
      clear hc
      obtain ⟨q1, q2⟩ := hq
      obtain ⟨b, off, rfl, hcell⟩ := (HL.out wc hH.out.2.bel).at q1
      have hbd := HLf.out k
      have HF := Lib.hid (add_few (l.getD k 0) g wc hH.out.1 (by omega) hbd hH.out.2.acc)
      have HFit := Lib.hid (fit_add hH.out.1 (numT_thing (l.getD k 0)) (by omega))
      have HUn := Lib.hid hH.out.2
      obtain ⟨x, hx⟩ : ∃ x, x = l.getD k 0 := ⟨_, rfl⟩
      rw [← hx] at hcell hbd HF HFit
      clear hx hH
      go_wp2_with fail
      refine HF.out.mono ?_; rintro en w3 ⟨rfl, hA, hG⟩
      have HU3 := Lib.hid (un_next HUn.out HG.out hA hG)
      clear hA hG HF HUn
      go_wp2_with fail
      go_roundw
      case rel => exact ⟨k + 1, _, by omega, by omega, by go_num, HFit.out, HU3.out⟩
      case measure => simp [intOf]; omega
    · obtain rfl : c = false := by rw [hc]; exact decide_eq_false hq
      clear hc
      have HFit : Hid (Fit k A) := Lib.hid hH.out.1
      have HUn := Lib.hid hH.out.2
      have HK : Hid (k ≤ 200) := hk2
      clear hH hq
      go_wp2_with fail
      go_loopw [8] (fun i wr => ∃ (j : Nat) (C : Ac), 2 * j ≤ 200 ∧ i = .int .i64 ((2 * j : Nat) : Int) ∧ Hid (Fit (k + j) C ∧ Un w wr g C)) (fun i _ => 202 - (intOf i).toNat)
      case atStart => exact ⟨0, A, by omega, rfl, HFit.out, HUn.out⟩
      case round =>
        obtain ⟨j, C, hj, rfl, hH⟩ := hrel
        obtain ⟨m, hm⟩ : ∃ m, m = 2 * j := ⟨_, rfl⟩
        rw [← hm] at hj ⊢
        obtain ⟨c, hc⟩ : ∃ c, c = decide (m + 1 < xs.length ∧ m < 200) := ⟨_, rfl⟩
        go_upto_region 10 with fail
        go_cut [47] from 39 to 47 (fun cc wx => cc = .bool c ∧ wx = wr)
        case first =>
          clear hm
          by_cases q1 : m + 1 < xs.length
          · by_cases q2 : m < 200
            · have hc' : c = true := by rw [hc]; exact decide_eq_true ⟨q1, q2⟩
              clear hc
              go_wp2_with fail
              go_meet
              case rel => exact ⟨by subst hc'; simp <;> omega, rfl⟩
            · have hc' : c = false := by rw [hc]; exact decide_eq_false (fun h => q2 h.2)
              clear hc
              go_wp2_with fail
              go_meet
              case rel => exact ⟨by subst hc'; simp <;> omega, rfl⟩
          · have hc' : c = false := by rw [hc]; exact decide_eq_false (fun h => q1 h.1)
            clear hc
            go_wp2_with fail
            go_meet
            case rel => exact ⟨by subst hc'; simp <;> omega, rfl⟩
        obtain ⟨rfl, rfl⟩ := hcut
        by_cases hq : m + 1 < xs.length ∧ m < 200
        · obtain rfl : c = true := by rw [hc]; exact decide_eq_true hq
          clear hc
          obtain ⟨q1, q2⟩ := hq
          have q3 : m < xs.length := by omega
          obtain ⟨m1, hm1⟩ : ∃ m1, m1 = m + 1 := ⟨_, rfl⟩
          rw [← hm1] at q1
          obtain ⟨bx, ox, rfl, hcx⟩ := (HX.out wc hH.out.2.bel).at q3
          have hcy := (HX.out wc hH.out.2.bel).cells q1
          have hbx := HXf.out m
          have hby := HXf.out m1
          have hk200 := HK.out
          have HF := Lib.hid (fun W (h : AccAt W g C) => addp_few (xs.getD m 0) (xs.getD m1 0) g W hH.out.1 (by omega) hbx hby h)
          have HFit := Lib.hid (fit_add hH.out.1 (prT_thing (xs.getD m 0) (xs.getD m1 0)) (by omega))
          have HUn := Lib.hid hH.out.2
          have HCx := Lib.hid (fun W (hw : Below w.heap.size w W) => (HX.out W hw).cells q3)
          have HCy := Lib.hid (fun W (hw : Below w.heap.size w W) => (HX.out W hw).cells q1)
          obtain ⟨x, hx⟩ : ∃ x, x = xs.getD m 0 := ⟨_, rfl⟩
          obtain ⟨y, hy⟩ : ∃ y, y = xs.getD m1 0 := ⟨_, rfl⟩
          rw [← hx] at hcx hbx HF HFit HCx
          rw [← hy] at hcy hby HF HFit HCy
          have HM := Lib.hid hm
          have HM1 := Lib.hid hm1
          have hs : IntKind.i64.wrap ((m : Int) + 1) = (m1 : Int) := by rw [IntKind.wrap_i64]; omega
          clear hx hy hH hm hm1
          go_wp2_with fail
          go_region_held3 (fun W => W.cell? ⟨bx, ox + m, none⟩ = some (.float .f64 x) ∧ W.cell? ⟨bx, ox + m1, none⟩ = some (.float .f64 y)) (go_keep) (first
            | (go_at_call 30; refine (HF.out wc.drew HUn.out.acc).mono ?_; rintro en w4 ⟨rfl, hA, hG⟩; have HU4 := Lib.hid (un_next (W := wc.drew) ⟨HUn.out.acc, HUn.out.bel.drew⟩ HG.out hA hG); have hcx4 := HCx.out w4 HU4.out.bel; have hcy4 := HCy.out w4 HU4.out.bel; clear hA hG))
          go_wp2_with fail
          go_roundw
          case rel => exact ⟨j + 1, _, by have := HM.out; omega, by have := HM.out; go_num, by rw [← Nat.add_assoc]; exact HFit.out, HU4.out⟩
          case measure => simp [intOf]; omega
        · obtain rfl : c = false := by rw [hc]; exact decide_eq_false hq
          clear hc hm hq
          have hok := hH.out.1.ok
          obtain ⟨d, hd⟩ := exO_some hok.v
          have hR3 : ∀ W, AccAt W g C → Below w.heap.size w W → Calls Tryd.prog 33 #[.pointer (some ⟨g, 0, none⟩), .int .i64 3, .agg #[.int .i64 1, .int .i64 1]] W (RoundQ C 3 1 1 W) := fun W hW hb => accround_any C 3 1 1 g W hok hW (HT.out.grow hb) (by decide) (by decide) (by decide) (by decide) (by decide) (by decide)
          have hR2 : ∀ W, AccAt W g C → Below w.heap.size w W → Calls Tryd.prog 33 #[.pointer (some ⟨g, 0, none⟩), .int .i64 2, .agg #[.int .i64 1, .int .i64 1]] W (RoundQ C 2 1 1 W) := fun W hW hb => accround_any C 2 1 1 g W hok hW (HT.out.grow hb) (by decide) (by decide) (by decide) (by decide) (by decide) (by decide)
          have hE : ∀ W, AccAt W g C → Below w.heap.size w W → Calls Tryd.prog 15 #[.pointer (some ⟨g, 0, none⟩)] W fun en w' => ∃ a c, en = .returned (dyV d a c) ∧ (argOf d a c).Ok w' ∧ Below W.heap.size W w' := by
            intro W hW hb
            refine (exact_any C g W hW hok.v (HT.out.grow hb)).mono ?_
            rintro en w' ⟨v, rfl, ⟨a, c, rfl, ho⟩, hbb⟩
            rw [hd] at ho ⊢
            exact ⟨a, c, rfl, ho.arg (exO_both hd).2, hbb⟩
          have hBt : ∀ x y ex ey, RoundR C 3 1 1 x ex → RoundR C 2 1 1 y ey → ex = 0 ∧ ey = 0 ∧ Btw d x y := fun x y ex ey h3 h2 => btw_round hd h3 h2
          have HR3 := Lib.hid hR3; have HR2 := Lib.hid hR2; have HE := Lib.hid hE; have HBt := Lib.hid hBt
          have HU2 := Lib.hid hH.out.2
          clear hR3 hR2 hE hBt hd hok hH
          go_wp2_with fail
          obtain ⟨pb, hpb⟩ : ∃ n, n = wc.heap.size := ⟨_, rfl⟩
          obtain ⟨w5, h5⟩ : ∃ W, W = wc.alloc (.cells #[.int .i64 1, .int .i64 1] 59) := ⟨_, rfl⟩
          rw [← h5, ← hpb]
          obtain ⟨k5, b5, s5⟩ := new_of h5 rfl
          have HU5 : Hid (Un w w5 g C) := ⟨acc_below HU2.out.acc b5 (Tot.lt HU2.out.acc), HU2.out.bel.trans (b5.mono HU2.out.bel.size)⟩
          rw [← hpb] at k5 s5
          have l5 : pb < w5.heap.size := by omega
          clear h5 b5 s5 hpb HU2
          refine (HR3.out w5 HU5.out.acc HU5.out.bel).mono ?_; rintro en w6 ⟨x, ex, rfl, hRx, hb⟩
          have HU6 : Hid (Un w w6 g C) := ⟨acc_below HU5.out.acc hb (Tot.lt HU5.out.acc), HU5.out.bel.trans (hb.mono HU5.out.bel.size)⟩
          have k6 := blk_below k5 hb l5
          have HRx := Lib.hid hRx
          clear hb hRx k5 l5
          obtain ⟨p0, p1⟩ := pol_cells k6
          go_wp2_with fail
          refine (HR2.out w6 HU6.out.acc HU6.out.bel).mono ?_; rintro en w7 ⟨y, ey, rfl, hRy, hb⟩
          have HU7 : Hid (Un w w7 g C) := ⟨acc_below HU6.out.acc hb (Tot.lt HU6.out.acc), HU6.out.bel.trans (hb.mono HU6.out.bel.size)⟩
          obtain ⟨rfl, rfl, hB⟩ := HBt.out x y ex ey HRx.out hRy
          have HBw := Lib.hid hB
          clear hB hb hRy k6 p0 p1 HRx HBt
          go_wp2_with fail
          refine (HE.out w7 HU7.out.acc HU7.out.bel).mono ?_; rintro en w8 ⟨ra, rc, rfl, hA1, hb⟩
          have HU8 : Hid (Un w w8 g C) := ⟨acc_below HU7.out.acc hb (Tot.lt HU7.out.acc), HU7.out.bel.trans (hb.mono HU7.out.bel.size)⟩
          have HA1 := Lib.hid hA1
          clear hb hA1
          simp only [dyV]
          have eq1 : ∀ W, (binOp .neq 36 (.float .f64 x) (.float .f64 x)).run Tryd.prog W = .ok (.bool false) W := fun W => run_neq64 W HBw.out.xl HBw.out.xl HBw.out.xm HBw.out.xm rfl
          have eq2 : ∀ W, (binOp .neq 36 (.float .f64 y) (.float .f64 y)).run Tryd.prog W = .ok (.bool false) W := fun W => run_neq64 W HBw.out.yl HBw.out.yl HBw.out.ym HBw.out.ym rfl
          have eq3 : ∀ W, (binOp .gtr 36 (.float .f64 x) (.float .f64 y)).run Tryd.prog W = .ok (.bool false) W := fun W => run_gtr64 W HBw.out.xl HBw.out.yl HBw.out.xm HBw.out.ym HBw.out.le
          go_wp2_with fail
          obtain ⟨vb, hvb⟩ : ∃ n, n = w8.heap.size := ⟨_, rfl⟩
          obtain ⟨w9, h9⟩ : ∃ W, W = w8.alloc (.cells #[.bool d.neg, .slice ra (words d.m).length rc, .int .i64 d.exp] 28) := ⟨_, rfl⟩
          rw [← h9, ← hvb]
          obtain ⟨k9, b9, s9⟩ := new_cel h9 rfl
          rw [← hvb] at k9
          have B9 : Hid (Below w.heap.size w w9) := HU8.out.bel.trans (b9.mono HU8.out.bel.size)
          have A9 : Hid ((argOf d ra rc).Ok w9) := HA1.out.grow b9
          clear h9 b9 s9 hvb HU8 HA1
          obtain ⟨qx, hqx⟩ : ∃ q, q = outO (ofF x) := ⟨_, rfl⟩
          obtain ⟨qy, hqy⟩ : ∃ q, q = outO (ofF y) := ⟨_, rfl⟩
          obtain ⟨fx, hfx⟩ : ∃ q, q = errOf (ofF x) := ⟨_, rfl⟩
          obtain ⟨fy, hfy⟩ : ∃ q, q = errOf (ofF y) := ⟨_, rfl⟩
          have HOx := Lib.hid (fun W (hb : Below w.heap.size w W) => dof_any x W HBw.out.xl (HT.out.grow hb))
          have HOy := Lib.hid (fun W (hb : Below w.heap.size w W) => dof_any y W HBw.out.yl (HT.out.grow hb))
          unfold CameOf DOwn at HOx HOy
          rw [← hqx, ← hfx] at HOx
          rw [← hqy, ← hfy] at HOy
          have HQ := Lib.hid (And.intro (And.intro hqx hqy) (And.intro hfx hfy))
          clear hqx hqy hfx hfy
          refine (HOx.out w9 B9.out).mono ?_; rintro en w10 ⟨v, rfl, ⟨xa, xc, rfl, ho⟩, hb⟩
          have B10 : Hid (Below w.heap.size w w10) := B9.out.trans (hb.mono B9.out.size)
          have k10 := k9.below hb k9.lt
          have A10 : Hid ((argOf d ra rc).Ok w10) := A9.out.grow hb
          have HQok : Hid (qx.Ok ∧ qy.Ok) := by
            obtain ⟨⟨e1, e2⟩, _⟩ := HQ.out
            refine ⟨?_, ?_⟩
            · rw [e1]; exact outO_okF x
            · rw [e2]; exact outO_okF y
          have X10 : Hid ((argOf qx xa xc).Ok w10) := ho.arg HQok.out.1
          clear hb ho k9 B9 A9
          simp only [dyV]
          go_wp2_with fail
          obtain ⟨xb, hxb⟩ : ∃ n, n = w10.heap.size := ⟨_, rfl⟩
          obtain ⟨w11, h11⟩ : ∃ W, W = w10.alloc (.cells #[.bool qx.neg, .slice xa (words qx.m).length xc, .int .i64 qx.exp] 28) := ⟨_, rfl⟩
          rw [← h11, ← hxb]
          obtain ⟨x11, b11, s11⟩ := new_cel h11 rfl
          rw [← hxb] at x11
          have B11 : Hid (Below w.heap.size w w11) := B10.out.trans (b11.mono B10.out.size)
          have k11 := k10.below b11 k10.lt
          have A11 : Hid ((argOf d ra rc).Ok w11) := A10.out.grow b11
          have X11 : Hid ((argOf qx xa xc).Ok w11) := X10.out.grow b11
          clear h11 b11 s11 hxb k10 B10 A10 X10
          refine (HOy.out w11 B11.out).mono ?_; rintro en w12 ⟨v, rfl, ⟨ya, yc, rfl, ho⟩, hb⟩
          have B12 : Hid (Below w.heap.size w w12) := B11.out.trans (hb.mono B11.out.size)
          have k12 := k11.below hb k11.lt
          have x12 := x11.below hb x11.lt
          have A12 : Hid ((argOf d ra rc).Ok w12) := A11.out.grow hb
          have X12 : Hid ((argOf qx xa xc).Ok w12) := X11.out.grow hb
          have Y12 : Hid ((argOf qy ya yc).Ok w12) := ho.arg HQok.out.2
          clear hb ho k11 x11 B11 A11 X11
          simp only [dyV]
          go_upto_region 21 with fail
          obtain ⟨yb, hyb⟩ : ∃ n, n = w12.heap.size := ⟨_, rfl⟩
          obtain ⟨w13, h13⟩ : ∃ W, W = w12.alloc (.cells #[.bool qy.neg, .slice ya (words qy.m).length yc, .int .i64 qy.exp] 28) := ⟨_, rfl⟩
          rw [← h13, ← hyb]
          obtain ⟨y13, b13, s13⟩ := new_cel h13 rfl
          rw [← hyb] at y13
          have B13 : Hid (Below w.heap.size w w13) := B12.out.trans (b13.mono B12.out.size)
          have k13 := k12.below b13 k12.lt
          have x13 := x12.below b13 x12.lt
          have A13 : Hid ((argOf d ra rc).Ok w13) := A12.out.grow b13
          have X13 : Hid ((argOf qx xa xc).Ok w13) := X12.out.grow b13
          have Y13 : Hid ((argOf qy ya yc).Ok w13) := Y12.out.grow b13
          clear h13 b13 s13 hyb k12 x12 B12 A12 X12 Y12
          have hDn : Hid (fx = 0 → cmpA (argOf qx xa xc) (argOf d ra rc) ≤ 0) := by
            intro h0
            obtain ⟨⟨e1, _⟩, e3, _⟩ := HQ.out
            rw [h0] at e3
            cases hx : ofF x with
            | none => rw [hx] at e3; cases e3
            | some q => rw [hx] at e1; rw [e1]; exact HBw.out.dn q _ _ _ _ hx
          have hUp : Hid (fy = 0 → cmpA (argOf d ra rc) (argOf qy ya yc) ≤ 0) := by
            intro h0
            obtain ⟨⟨_, e1⟩, _, e3⟩ := HQ.out
            rw [h0] at e3
            cases hx : ofF y with
            | none => rw [hx] at e3; cases e3
            | some q => rw [hx] at e1; rw [e1]; exact HBw.out.up q _ _ _ _ hx
          have HC1 := Lib.hid (fun W (hw : Below w13.heap.size w13 W) => dcmp_any (argOf qx xa xc) (argOf d ra rc) W (X13.out.grow hw) (A13.out.grow hw))
          have HC2 := Lib.hid (fun W (hw : Below w13.heap.size w13 W) => dcmp_any (argOf d ra rc) (argOf qy ya yc) W (A13.out.grow hw) (Y13.out.grow hw))
          obtain ⟨C1, hC1⟩ : ∃ z, z = cmpA (argOf qx xa xc) (argOf d ra rc) := ⟨_, rfl⟩
          obtain ⟨C2, hC2⟩ : ∃ z, z = cmpA (argOf d ra rc) (argOf qy ya yc) := ⟨_, rfl⟩
          rw [← hC1] at hDn HC1
          rw [← hC2] at hUp HC2
          have HCQ := Lib.hid (And.intro hC1 hC2)
          clear hC1 hC2
          go_cut [124] from 107 to 124 (fun sl wx => sl = .bool false ∧ Below w13.heap.size w13 wx)
          case first =>
            by_cases t1 : fx = 0
            · have tx : (fx == 0) = true := by rw [t1]; rfl
              have hle1 := hDn.out t1
              obtain ⟨_, _, _, _, _, _⟩ := k13.facts
              obtain ⟨_, _, _, _, _, _⟩ := x13.facts
              clear t1
              go_wp2_with fail
              refine (HC1.out w13 (Below.refl _ _)).mono ?_; rintro en w14 ⟨rfl, hb14⟩
              have k14 := k13.below hb14 k13.lt
              have y14 := y13.below hb14 y13.lt
              have H14 := Lib.hid hb14
              clear hb14
              by_cases t2 : fy = 0
              · have ty : (fy == 0) = true := by rw [t2]; rfl
                have hle2 := hUp.out t2
                have T2 : decide (0 < C2) = false := decide_eq_false (by omega)
                obtain ⟨_, _, _, _, _, _⟩ := k14.facts
                obtain ⟨_, _, _, _, _, _⟩ := y14.facts
                clear t2
                go_wp2_with fail
                refine (HC2.out w14 H14.out).mono ?_; rintro en w15 ⟨rfl, hb⟩
                have HB15 : Hid (Below w13.heap.size w13 w15) := H14.out.trans (hb.mono H14.out.size)
                clear hb
                go_wp2_with fail
                go_meet
                case rel => exact ⟨by simp <;> omega, HB15.out⟩
              · have ty : (fy == 0) = false := by simpa using t2
                clear t2
                go_wp2_with fail
                go_meet
                case rel => exact ⟨by simp <;> omega, H14.out⟩
            · have tx : (fx == 0) = false := by simpa using t1
              clear t1
              by_cases t2 : fy = 0
              · have ty : (fy == 0) = true := by rw [t2]; rfl
                have hle2 := hUp.out t2
                have T2 : decide (0 < C2) = false := decide_eq_false (by omega)
                obtain ⟨_, _, _, _, _, _⟩ := k13.facts
                obtain ⟨_, _, _, _, _, _⟩ := y13.facts
                clear t2
                go_wp2_with fail
                refine (HC2.out w13 (Below.refl _ _)).mono ?_; rintro en w15 ⟨rfl, hb⟩
                have HB15 : Hid (Below w13.heap.size w13 w15) := hb
                clear hb
                go_wp2_with fail
                go_meet
                case rel => exact ⟨by simp <;> omega, HB15.out⟩
              · have ty : (fy == 0) = false := by simpa using t2
                clear t2
                go_wp2_with fail
                go_meet
                case rel => exact ⟨by simp <;> omega, Below.refl _ _⟩
          obtain ⟨rfl, hbc⟩ := hcut
          have kc := k13.below hbc k13.lt
          have xcc := x13.below hbc x13.lt
          have HBc : Hid (Below w.heap.size w wc) := B13.out.trans (hbc.mono B13.out.size)
          have HB13 := Lib.hid hbc
          clear hbc k13 x13 y13
          by_cases hv : fV x = fV y
          · obtain ⟨q, hq, hz⟩ := HBw.out.eq hv
            have hf : fx = 0 ∧ C1 = 0 := by
              obtain ⟨⟨e1, _⟩, e3, _⟩ := HQ.out
              rw [hq] at e1 e3
              exact ⟨e3, by rw [HCQ.out.1, e1]; exact hz _ _ _ _⟩
            have tx : (fx == 0) = true := by rw [hf.1]; rfl
            have tc : (C1 == 0) = true := by rw [hf.2]; rfl
            have eq4 : ∀ W, (binOp .eql 36 (.float .f64 x) (.float .f64 y)).run Tryd.prog W = .ok (.bool true) W := fun W => run_eql64 W HBw.out.xl HBw.out.yl HBw.out.xm HBw.out.ym hv
            obtain ⟨_, _, _, _, _, _⟩ := kc.facts
            obtain ⟨_, _, _, _, _, _⟩ := xcc.facts
            clear hf hz hq hv
            go_wp2_with fail
            refine (HC1.out wc HB13.out).mono ?_; rintro en w20 ⟨rfl, hb⟩
            have HB20 := Lib.hid (HBc.out.trans (hb.mono HBc.out.size))
            clear hb
            go_wp2_with fail
            go_ret
            exact ⟨rfl, HB20.out⟩
          · obtain ⟨hi, hn⟩ := HBw.out.ne hv
            have eq4 : ∀ W, (binOp .eql 36 (.float .f64 x) (.float .f64 y)).run Tryd.prog W = .ok (.bool false) W := fun W => run_eqlF W HBw.out.xl HBw.out.yl HBw.out.xm HBw.out.ym hv
            have eq5 : ∀ W, (binOp .eql 36 (.float .f64 y) (.float .f64 y)).run Tryd.prog W = .ok (.bool true) W := fun W => run_eql64 W HBw.out.yl HBw.out.yl HBw.out.ym HBw.out.ym rfl
            have HN := Lib.hid (next_any x wc HBw.out.xl HBw.out.xm hi)
            rw [hn] at HN
            clear hi hn hv
            go_wp2_with fail
            refine HN.out.mono ?_; rintro en w20 ⟨rfl, rfl⟩
            go_wp2_with fail
            go_ret
            exact ⟨rfl, HBc.out⟩
end Go.Proofs.YthdbapibbdkclaaDoor
