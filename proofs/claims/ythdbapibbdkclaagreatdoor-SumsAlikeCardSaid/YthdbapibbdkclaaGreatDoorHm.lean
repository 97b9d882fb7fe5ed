/- Contract of steelyardref09.Bins.Kept. No statement of the seat is proved here. -/
import Derived.Test.YthdbapibbdkclaaGreatDoorProg
import Derived.Test.YthdbapibbdkclaaGreatDoorMY
namespace Go.Proofs.YthdbapibbdkclaaGreatDoor
open Go.RowKit
set_option maxRecDepth 10000
set_option linter.unusedVariables false
set_option linter.unusedSimpArgs false

theorem kS_none {A : Bn} (h : ¬ 0 < A.len) (k : Nat) : A.kS k = 0 := by
  have h0 : A.len = 0 := by omega
  rw [kS_more (k := k) (by omega), h0]; rfl
set_option maxHeartbeats 32000000 in
theorem rbkept_any (g n f : Nat) (a : Option Addr) (c : Nat) (l : List (Nat × Nat)) (w : World) (ho : OfOk l) (hn : (bnO l).n ≤ 1099511627776) (hl : l.length < 1099511627776) (f1 : 1 ≤ f) (f2 : f ≤ 8) (h : RB w g f n a c l) {d : D} (hd : zO (-1088) ((bnO l).kS f) = some d) :
    Calls Tryz.prog 60 #[.pointer (some ⟨g, 0, none⟩)] w (OutD d w) := by
  obtain ⟨A, hA⟩ : ∃ A, A = bnO l := ⟨_, rfl⟩
  have hAo : A.Ok := by rw [hA]; exact bnO_ok hn
  have hL66 := hAo.len
  have HR := Lib.hid (fun W (hw : Below w.heap.size w W) => h.grow hw)
  have HOK := Lib.hid ho
  have HS : Hid (∀ k, ∃ d, zO (-1088) (A.kS k) = some d ∧ Dy (-1088) 68 d (A.kS k)) := fun k => kS_dy hAo k
  have HI : Hid (∀ k i, (innK l k i).natAbs < 2 ^ (32 * 68)) := fun k i => by
    obtain ⟨j, hj⟩ : ∃ j, j = 68 := ⟨_, rfl⟩
    have h9 := innK_bd hn k i hj
    rw [hj] at h9
    exact h9
  have HP : Hid (∀ p ∈ l, p.2 ≤ 1099511627776 ∧ ∀ k : Nat, ∃ d, formF (ptOf p.1).s (slB p.1 ((A.len : Int) - 35 - k) * p.2) (32 * ((A.len : Int) - 35 - k)) = some d ∧ Dy (-1088) 68 d (addK l k p)) := fun p hp => by
    have h1 := Nat.le_trans (times_le hp) hn
    refine ⟨h1, fun k => ?_⟩
    have := addK_dy (l := l) (by rw [← hA]; exact hL66) h1 k
    rw [← hA] at this; exact this
  have HZ : Hid (∀ k, innK l k 0 = A.kS k ∧ innK l k l.length = A.kS (k + 1)) := fun k => by rw [hA]; exact ⟨innK_zero l k, innK_end l k⟩
  rw [← hA] at hd
  have HD := Lib.hid hd
  have hlt := h.lt
  have HTop : Hid (∀ W, Below w.heap.size w W → Calls Tryz.prog 124 #[.pointer (some ⟨g, 0, none⟩)] W fun en w' => en = .returned (.tuple #[.int .i64 ((A.len : Int) - 35), .bool (decide (0 < A.len))]) ∧ Below W.heap.size W w') := fun W hW => by
    rw [hA]; exact rbtop_any g n f a c l W ho hl (h.grow hW)
  obtain ⟨w1, e1⟩ : ∃ W, W = w.alloc (.cells #[.bool false, .slice none 0 0, .int .i64 0] 46) := ⟨_, rfl⟩
  obtain ⟨k1, c1, s1⟩ := new_cel e1 rfl
  obtain ⟨w2, e2⟩ : ∃ W, W = w1.alloc (.cells #[.bool false, .slice none 0 0, .int .i64 0] 46) := ⟨_, rfl⟩
  obtain ⟨k2, c2, s2⟩ := new_cel e2 s1
  have HK0 : Hid (KeptS w w2 g f A D.zero none 0) := ⟨c1.trans (c2.mono (by omega)), by omega, k1.below c2 (by omega), by show Cel _ _ (.bool false) (.slice none (words 0).length 0) (.int .i64 0); rw [words_zero]; exact k2, by show Own _ _ _ none 0 (words 0); rw [words_zero]; exact Own.none _ _ _⟩
  have E1 := Lib.hid e1; have E2 := Lib.hid e2
  obtain ⟨L, hL⟩ : ∃ L, L = A.len := ⟨_, rfl⟩
  have HL : Hid (L = A.len) := hL
  rw [← hL] at HTop HP hL66
  clear h ho hd e1 e2 k1 k2 c1 c2 s1 s2 hA hAo hn hL
  go_enter Tryz.func60, Tryz.ntmps60
  go_upto_region 2 with fail
  rw [← E1.out, ← E2.out]
  go_wp2_with fail
  refine (HTop.out w2 HK0.out.bel).mono ?_; rintro en w3 ⟨rfl, hb3⟩
  have HK3 := Lib.hid (HK0.out.below hb3)
  obtain ⟨bv, hbv⟩ : ∃ b, b = decide (0 < L) := ⟨_, rfl⟩
  rw [← hbv]
  have HBv := Lib.hid hbv
  clear hb3 HK0 hbv
  go_wp2_with fail
  go_loopw [6, 7, 8, 9, 10, 11] (fun z6 z7 z8 z9 z10 z11 wr => ∃ (k : Nat) (dS : D) (aS : Option Addr) (cS : Nat), k ≤ f ∧ z6 = .int .i64 ((L : Int) - 35 - k) ∧ Hid (Dy (-1088) 68 dS (A.kS k) ∧ KeptS w wr g f A dS aS cS)) (fun z6 _ _ _ _ _ _ => (intOf z6 - ((L : Int) - 35 - f)).toNat)
  case atStart => exact ⟨0, D.zero, none, 0, Nat.zero_le _, by simp, Dy.zero (by decide), HK3.out⟩
  case round =>
    obtain ⟨k, dS, aS, cS, hk, rfl, hH⟩ := hrel
    obtain ⟨x0, x1, x2, x3, x4⟩ := (HR.out wr hH.out.2.bel).cells
    cases bv
    case true =>
      by_cases hq : k < f
      · have hq' : (L : Int) - 35 - f < (L : Int) - 35 - k := by omega
        have HH := Lib.hid hH.out
        clear hH
        go_wp2_with fail
        go_loopw [7, 8, 9, 10, 11] (fun z7 z8 z9 z10 z11 wx => ∃ (i : Nat) (dI : D) (aI : Option Addr) (cI : Nat), i ≤ l.length ∧ z7 = .int .i64 i ∧ Hid (Dy (-1088) 68 dI (innK l k i) ∧ KeptS w wx g f A dI aI cI)) (fun z7 _ _ _ _ _ => l.length - (intOf z7).toNat)
        case atStart => exact ⟨0, dS, aS, cS, Nat.zero_le _, rfl, by rw [(HZ.out k).1]; exact HH.out.1, HH.out.2⟩
        case round =>
          obtain ⟨i, dI, aI, cI, hi, rfl, hI⟩ := hrel
          clear x0 x1 x2 x3 x4
          obtain ⟨x0, x1, x2, x3, x4⟩ := (HR.out wr hI.out.2.bel).cells
          by_cases hm : i < l.length
          · obtain ⟨p, hpp⟩ : ∃ p, l[i]? = some p := ⟨l[i], List.getElem?_eq_getElem hm⟩
            obtain ⟨bx, ox, rfl, y0, y1⟩ := (HR.out wr hI.out.2.bel).at hpp
            have hmem := List.mem_of_getElem? hpp
            obtain ⟨p1, p2⟩ := HOK.out p hmem
            obtain ⟨hpt, hpd⟩ := HP.out p hmem
            obtain ⟨dp, hdp, hdy⟩ := hpd k
            have hst := innK_step l k hpp
            obtain ⟨s, hs⟩ : ∃ s, s = slB p.1 ((L : Int) - 35 - k) := ⟨_, rfl⟩
            have hs32 : s < 4294967296 := by rw [hs]; exact slB_lt _ _
            rw [← hs] at hdp
            have hSl := fun W => rslice_any p.1 ((L : Int) - 35 - k) W p1 p2 (by omega) (by omega)
            rw [← hs] at hSl
            have HSl := Lib.hid hSl
            have HO1 := Lib.hid (fun W => rof_any s W (by omega))
            have HO2 := Lib.hid (fun W => rof_any p.2 W (by omega))
            have qs : IntKind.u64.wrap (s : Int) = (s : Int) := by rw [IntKind.wrap_u64]; omega
            have qt : IntKind.u64.wrap (p.2 : Int) = (p.2 : Int) := by rw [IntKind.wrap_u64]; omega
            have hneg := pt_neg p1 p2
            obtain ⟨sg, hsg⟩ : ∃ sg, sg = (ptOf p.1).s := ⟨_, rfl⟩
            rw [← hsg] at hneg hdp
            have hsgq : (p.1 : Int) / 9223372036854775808 = if sg then 1 else 0 := by
              rw [hneg]
              by_cases h9 : 9223372036854775808 ≤ p.1
              · rw [decide_eq_true h9]; simp; omega
              · rw [decide_eq_false h9]; simp; omega
            have HC : Hid (∀ W, Below wr.heap.size wr W → W.cell? ⟨g, 1, none⟩ = some (.slice (some ⟨bx, ox, none⟩) l.length c) ∧ W.cell? ⟨bx, ox + i * 2, none⟩ = some (.int .u64 (p.1 : Nat)) ∧ W.cell? ⟨bx, ox + i * 2 + 1, none⟩ = some (.int .i64 (p.2 : Nat))) := fun W hW => by
              have h1 := HR.out W (hI.out.2.bel.trans (hW.mono hI.out.2.bel.size))
              obtain ⟨b', o', e1, e2, e3⟩ := h1.at hpp
              cases e1
              exact ⟨h1.cells.2.1, e2, e3⟩
            have HH2 := Lib.hid (And.intro hI.out (And.intro hdp (And.intro hdy hst)))
            have HNum : Hid (formF sg (num (words (s * p.2))) (32 * ((L : Int) - 35 - k)) = some dp) := by show _ = _; rw [num_words]; exact hdp
            have HW1 : Hid ((words s).length ≤ 2 ∧ (words p.2).length ≤ 2 ∧ (words (s * p.2)).length ≤ 4) := by
              refine ⟨words_len_le (by rw [show (4294967296 : Nat) ^ 2 = 18446744073709551616 from rfl]; omega), words_len_le (by rw [show (4294967296 : Nat) ^ 2 = 18446744073709551616 from rfl]; omega), words_len_le ?_⟩
              rw [show (4294967296 : Nat) ^ 4 = 340282366920938463463374607431768211456 from rfl]
              have := Nat.mul_le_mul (Nat.le_of_lt hs32) hpt
              omega
            clear hst hdp hdy hpd hmem hpp hneg hsg hSl hs x0 x2 x3 x4 hI p1 p2
            go_wp2_with fail
            refine (HSl.out wr).mono ?_; rintro en w9 ⟨rfl, hb9⟩
            have HB9 := Lib.hid hb9
            clear hb9 x1 y0 y1
            obtain ⟨x1, y0, y1⟩ := HC.out w9 HB9.out
            go_upto_region 10 with fail
            go_region_held3 (fun W => W.cell? ⟨g, 1, none⟩ = some (.slice (some ⟨bx, ox, none⟩) l.length c) ∧ W.cell? ⟨bx, ox + i * 2 + 1, none⟩ = some (.int .i64 (p.2 : Nat))) (go_keep) (first
              | (go_at_call 127; refine (HO1.out w9.drew).mono ?_; rintro en w10 ⟨a10, c10, rfl, ho10, hb10⟩; have HB10 : Hid (Below wr.heap.size wr w10) := HB9.out.trans ((below_drewN (n := 1) hb10).mono HB9.out.size); obtain ⟨u1, u0, u2⟩ := HC.out w10 HB10.out)
              | (go_at_call 127; refine (HO2.out w10).mono ?_; rintro en w11 ⟨a11, c11, rfl, ho11, hb11⟩; have HB11 : Hid (Below wr.heap.size wr w11) := HB10.out.trans (hb11.mono HB10.out.size); obtain ⟨v1, v0, v2⟩ := HC.out w11 HB11.out)
              | (go_at_call 126; refine (rtimes_any a10 a11 c10 c11 (words s) (words p.2) w11 (by have := HW1.out; omega) (W32_words _) (ho10.grow hb11).rd (W32_words _) ho11.rd).mono ?_; rintro en w12 ⟨a12, c12, rfl, ho12, hb12⟩; rw [num_words, num_words] at ho12 ⊢; have HB12 : Hid (Below wr.heap.size wr w12) := HB11.out.trans (hb12.mono HB11.out.size); obtain ⟨r1, r0, r2⟩ := HC.out w12 HB12.out))
            all_goals
              clear v0 v1 v2 u0 u1 u2 x1 y0 y1 HSl HO1 HO2 qs qt r2
              have HK12 := Lib.hid (HH2.out.1.2.below HB12.out)
              have HMk := Lib.hid (qMake HNum.out a12 c12 w12 (ho12.sl (W32_words _)) (by have := HW1.out; omega) (by omega) (by omega))
              clear ho10 ho11 ho12 hb10 hb11 hb12 HB9 HB10 HB11
              cases sg
              all_goals
                simp only [if_true, if_false, Bool.false_eq_true] at hsgq
                go_wp2_with fail
                refine HMk.out.mono ?_; rintro en w13 ⟨a13, c13, rfl, ho13, hb13⟩
                have HK13 := Lib.hid (HK12.out.below hb13)
                have HO13 := Lib.hid ho13
                clear ho13 hb13 r0 r1 hsgq
                unfold DV
                go_upto_region 12 with fail
                obtain ⟨w14, e14⟩ : ∃ W, W = w13.alloc (.cells #[.bool dp.neg, .slice a13 (words dp.m).length c13, .int .i64 dp.exp] 46) := ⟨_, rfl⟩
                rw [← e14]
                obtain ⟨k14, c14, s14⟩ := new_cel e14 rfl
                have HK14 := Lib.hid (HK13.out.below c14)
                have HO14 := Lib.hid (HO13.out.grow c14)
                clear e14 s14 c14
                obtain ⟨_, _, _, _, _, _⟩ := HK14.out.sum.facts
                obtain ⟨_, _, _, _, _, _⟩ := k14.facts
                obtain ⟨dn, hadd, hdn⟩ := HH2.out.1.1.addZ (K := 68) HH2.out.2.2.1 ⟨by decide, by decide, by decide⟩ (by rw [← HH2.out.2.2.2]; exact HI.out k (i + 1))
                rw [← HH2.out.2.2.2] at hdn
                have HAd := Lib.hid (qAdd HH2.out.1.1.is HH2.out.1.1.ok HH2.out.2.2.1.is HH2.out.2.2.1.ok hadd aI a13 cI c13 w14 (HK14.out.own.arg HH2.out.1.1.ok) (HO14.out.arg HH2.out.2.2.1.ok))
                have HDn := Lib.hid hdn
                unfold DV at HAd
                clear hdn hadd
                go_wp2_with fail
                refine HAd.out.mono ?_; rintro en w15 ⟨a15, c15, rfl, ho15, hb15⟩
                have HK15 := Lib.hid (HK14.out.below hb15)
                have HKn := Lib.hid (HK15.out.put (ho15.mono (b := w.heap.size + 2) HK14.out.siz))
                unfold wr3 at HKn
                clear ho15 hb15
                obtain ⟨_, _, _, _, _, _⟩ := HK15.out.sum.facts
                unfold DV
                go_wp2_with fail
                go_roundw
                case rel => exact ⟨i + 1, dn, a15, c15, by omega, by go_num, HDn.out, HKn.out⟩
                case measure => simp [intOf]; omega
          · have hil : i = l.length := by omega
            have hdy : Dy (-1088) 68 dI (A.kS (k + 1)) := by have := hI.out.1; rw [hil, (HZ.out k).2] at this; exact this
            have HDy := Lib.hid hdy
            have HKi := Lib.hid hI.out.2
            clear hdy hI
            go_wp2_with fail
            go_roundw
            case rel => exact ⟨k + 1, dI, aI, cI, by omega, by go_num, HDy.out, HKi.out⟩
            case measure => simp [intOf]; omega
      · obtain rfl : k = f := by omega
        obtain ⟨d', h1', h2'⟩ := HS.out k
        obtain rfl : d = d' := by have := HD.out; rw [h1'] at this; exact (Option.some.inj this).symm
        obtain rfl : dS = d := hH.out.1.uniq h2'
        have HKf := Lib.hid hH.out.2
        clear hH h1' h2'
        obtain ⟨c0, cc1, cc2, _, _, _⟩ := HKf.out.sum.facts
        obtain ⟨r0, r1, r2, _, _, _⟩ := HKf.out.res.facts
        go_wp2_with fail
        refine bodyPost_ret (v := DV dS aS cS) (by simp [results, Tryz.results60, go_sem, DV, c0, cc1, cc2, r0, r1, r2]) rfl ?_
        exact ⟨aS, cS, rfl, (own_wr3 HKf.out.own (by omega)).mono (by omega), below_wr3 HKf.out.bel (Nat.le_refl _)⟩
    case false =>
      have hp : ¬ 0 < L := of_decide_eq_false HBv.out.symm
      obtain ⟨d', h1', h2'⟩ := HS.out f
      obtain rfl : d = d' := by have := HD.out; rw [h1'] at this; exact (Option.some.inj this).symm
      have hz : A.kS k = A.kS f := by rw [kS_none (by rw [← HL.out]; exact hp), kS_none (by rw [← HL.out]; exact hp)]
      obtain rfl : dS = d := by have := hH.out.1; rw [hz] at this; exact this.uniq h2'
      have HKf := Lib.hid hH.out.2
      clear hH h1' h2' hz hp
      obtain ⟨c0, cc1, cc2, _, _, _⟩ := HKf.out.sum.facts
      obtain ⟨r0, r1, r2, _, _, _⟩ := HKf.out.res.facts
      go_wp2_with fail
      refine bodyPost_ret (v := DV dS aS cS) (by simp [results, Tryz.results60, go_sem, DV, c0, cc1, cc2, r0, r1, r2]) rfl ?_
      exact ⟨aS, cS, rfl, (own_wr3 HKf.out.own (by omega)).mono (by omega), below_wr3 HKf.out.bel (Nat.le_refl _)⟩
end Go.Proofs.YthdbapibbdkclaaGreatDoor
