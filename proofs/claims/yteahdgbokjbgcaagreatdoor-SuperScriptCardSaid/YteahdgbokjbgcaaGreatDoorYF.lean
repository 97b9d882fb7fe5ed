/- Contract of steelyardref07.Acc.Round32. Contracts of steelyardlaw07.Side.alike, rounds. No statement of the seat is proved here. -/
import Derived.Test.YteahdgbokjbgcaaGreatDoorProg
import Derived.Test.YteahdgbokjbgcaaGreatDoorYKj
import Derived.Test.YteahdgbokjbgcaaGreatDoorYKm
import Derived.Test.YteahdgbokjbgcaaGreatDoorYTi
namespace Go.Proofs.YteahdgbokjbgcaaGreatDoor
open Go.RowKit
set_option maxRecDepth 10000
set_option linter.unusedVariables false
set_option linter.unusedSimpArgs false

set_option maxHeartbeats 16000000 in
theorem rround327_any (A : Ac) (mode pn pi : Int) (g : Nat) (w : World) (hA : A.Ok) (hR : RAc w g A) :
    Calls Tryz.prog 110 #[.pointer (some ⟨g, 0, none⟩), .int .i64 mode, pol pn pi] w (Rnd32 A mode pn pi w) := by
  have hlt := hR.lt
  obtain ⟨w1, e1⟩ : ∃ W, W = w.alloc (.cells #[.int .i64 pn, .int .i64 pi] 61) := ⟨_, rfl⟩
  obtain ⟨k1, b1, s1⟩ := new_of e1 rfl
  have hR1 := hR.grow b1
  obtain ⟨d, a, c, hrow, hown, hdt⟩ := hR1
  have HK := Lib.hid (fun W (hW : Below w1.heap.size w1 W) => pol_cells (blk_below k1 hW (by omega)))
  have HC := Lib.hid (fun W (hW : Below w1.heap.size w1 W) => rac_cells (blk_below hrow hW (by omega)))
  have HF := Lib.hid (fun W (hW : Below w1.heap.size w1 W) => refused7_any A mode pn pi g W hA (RAc.grow ⟨d, a, c, hrow, hown, hdt⟩ hW))
  have HVd := Lib.hid (fun W (hp : okP pn pi = true) => verdict6_any A pn pi W hA hp)
  have HNo := Lib.hid (fun W => nought6_any A mode W hA)
  have hex := exO_dt hA.v hdt
  have HRo : Hid (∀ W, Below w1.heap.size w1 W → Calls Tryz.prog 227 #[DV d a c, .int .i64 mode] W fun en w' => (∃ (r : Nat) (er : Int), en = .returned (.tuple #[.float .f32 r, .int .i64 er]) ∧ RoundsTo 23 (-149) 2139095040 2147483648 mode (exO A.T) r er) ∧ Below W.heap.size W w') := by
    intro W hW
    have := rround32_any (argOf d a c) mode W ((hown.grow hW).arg hdt.ok)
    rw [argF hdt.is hdt.ok, ← hex] at this
    exact this
  have HB1 := Lib.hid b1
  have E1 := Lib.hid e1
  have hz : (words d.m).length = 0 ↔ A.T = 0 := by rw [len_words_zero]; exact hdt.zeroV
  have HZ := Lib.hid hz
  obtain ⟨y0, y1⟩ := pol_cells k1
  have HBd : Hid (badM mode pn pi ↔ (mode < 0 ∨ 4 < mode ∨ okP pn pi = false)) := Iff.rfl
  obtain ⟨V, hV⟩ : ∃ V, V = rfs A mode pn pi := ⟨_, rfl⟩
  rw [← hV] at HF
  have HV := Lib.hid hV
  obtain ⟨vd, hvd⟩ : ∃ v, v = verd A pn pi := ⟨_, rfl⟩
  rw [← hvd] at HVd
  have HVe := Lib.hid hvd
  obtain ⟨nb, hnb⟩ : ∃ v, v = noughtB A mode := ⟨_, rfl⟩
  rw [← hnb] at HNo
  have HNe := Lib.hid hnb
  unfold pol spcV DV at *
  clear hvd hnb hV e1 k1 b1 s1 hrow hR hA hown hdt hex hz
  go_enter Tryz.func110, Tryz.ntmps110
  go_upto_region 1 with fail
  rw [← E1.out]
  go_wp2_with fail
  refine (HF.out w1 (Below.refl _ _)).mono ?_; rintro en w2 ⟨rfl, hb⟩
  have HB2 := Lib.hid hb
  clear hb y0 y1
  by_cases hV0 : V = 0
  case neg =>
    have hq : (V == 0) = false := by simpa using hV0
    have HW : Hid (SpcS A mode pn pi (0, false, V) ∧ V ≠ 0) := by
      refine ⟨?_, hV0⟩
      by_cases hbad : badM mode pn pi
      · have := HV.out
        unfold rfs at this
        rw [if_pos (HBd.out.1 hbad)] at this
        exact .inl ⟨hbad, by rw [this]⟩
      · have := HV.out
        unfold rfs at this
        rw [if_neg (fun h => hbad (HBd.out.2 h))] at this
        rw [refB_eq] at this
        refine .inr ⟨hbad, ?_⟩
        unfold specR
        split at this
        · rename_i h1
          rw [if_pos h1, this]
        · rename_i h1
          rw [if_neg h1]
          split at this
          · rename_i h2
            rw [if_pos h2, this]
          · exact absurd this hV0
    have o1 := Lib.hid (of32r_any 0)
    clear hV0
    go_wp2_with fail
    refine (o1.out _).mono ?_; rintro en w3 ⟨rfl, rfl⟩
    go_wp2_with fail
    go_ret2
    exact ⟨(0, false, V), 0, V, HW.out.1, rfl, .inl ⟨HW.out.2, rfl, rfl⟩, HB1.out.trans (HB2.out.mono HB1.out.size)⟩
  case pos =>
  have hbad : ¬ badM mode pn pi := by
    intro hbad
    have := HV.out
    unfold rfs at this
    rw [if_pos (HBd.out.1 hbad), hV0] at this
    cases this
  have href : refB (decide (0 < A.nan)) (pn == 2) (decide (0 < A.up + A.down)) (pi == 2) = 0 := by
    have := HV.out
    unfold rfs at this
    rw [if_neg (fun h => hbad (HBd.out.2 h)), hV0] at this
    exact this.symm
  have hok : okP pn pi = true := by
    cases h : okP pn pi
    · exact absurd (HBd.out.2 (.inr (.inr h))) hbad
    · rfl
  have hsr := specR_not (mode := mode) href
  have HBad := Lib.hid hbad; have HSr := Lib.hid hsr; have HOk := Lib.hid hok
  have HNw := Lib.hid (fun x W h => narrow_sp x W h)
  subst hV0
  clear hbad href hok hsr
  obtain ⟨q0, q1, q2, q3, q4, q5, q6, q7, q8⟩ := HC.out w2 HB2.out
  obtain ⟨y0, y1⟩ := HK.out w2 HB2.out
  go_upto_region 4 with fail
  go_region_with (first
    | (go_at_call 221; refine (HVd.out _ HOk.out).mono ?_; rintro en w9 ⟨rfl, hb9⟩))
  all_goals
    have HB9 : Hid (Below w1.heap.size w1 w9) := HB2.out.trans ((below_drewN (n := 1) hb9).mono HB2.out.size)
    clear hb9 q0 q1 q2 q3 q4 q5 q6 q7 q8 y0 y1
    obtain ⟨q0, q1, q2, q3, q4, q5, q6, q7, q8⟩ := HC.out w9 HB9.out
    cases vd
    case some x =>
      have HX : Hid (specR A mode pn pi = (x, true, 0) ∧ (x = nan64 ∨ x = inf64 ∨ x = ninf64 ∨ x = 0 ∨ x = nzero64)) := by
        refine ⟨by have := HSr.out; rw [← HVe.out] at this; exact this, ?_⟩
        rcases verd_vals HVe.out.symm with h | h | h
        · exact .inl h
        · exact .inr (.inl h)
        · exact .inr (.inr (.inl h))
      simp only [Option.getD_some, Option.isSome_some]
      go_wp2_with fail
      refine (HNw.out x _ HX.out.2).mono ?_; rintro en w10 ⟨rfl, hb⟩
      have HB10 := Lib.hid (HB9.out.trans (hb.mono HB9.out.size))
      clear hb
      go_wp2_with fail
      go_ret2
      exact ⟨(x, true, 0), narS x, 0, .inr ⟨HBad.out, HX.out.1.symm⟩, rfl, .inr (.inl ⟨rfl, rfl, rfl, rfl⟩), HB1.out.trans (HB10.out.mono HB1.out.size)⟩
    case none =>
      simp only [Option.getD_none, Option.isSome_none]
      by_cases hT : A.T = 0
      · have hl := HZ.out.2 hT
        have e0 : (((words d.m).length : Int) == 0) = true := by rw [hl]; rfl
        have HX : Hid (specR A mode pn pi = (nb, true, 0) ∧ (nb = nan64 ∨ nb = inf64 ∨ nb = ninf64 ∨ nb = 0 ∨ nb = nzero64)) := by
          refine ⟨by have := HSr.out; rw [← HVe.out] at this; dsimp only at this; rw [if_pos hT, ← HNe.out] at this; exact this, ?_⟩
          rcases nought_vals A mode with h | h
          · exact .inr (.inr (.inr (.inl (HNe.out.trans h))))
          · exact .inr (.inr (.inr (.inr (HNe.out.trans h))))
        clear hT hl
        go_wp2_with fail
        refine (HNo.out _).mono ?_; rintro en w10 ⟨rfl, hb⟩
        have HB10 := Lib.hid (HB9.out.trans (hb.mono HB9.out.size))
        clear hb
        go_wp2_with fail
        refine (HNw.out nb _ HX.out.2).mono ?_; rintro en w11 ⟨rfl, hb⟩
        have HB11 := Lib.hid (HB10.out.trans (hb.mono HB10.out.size))
        clear hb
        go_wp2_with fail
        go_ret2
        exact ⟨(nb, true, 0), narS nb, 0, .inr ⟨HBad.out, HX.out.1.symm⟩, rfl, .inr (.inl ⟨rfl, rfl, rfl, rfl⟩), HB1.out.trans (HB11.out.mono HB1.out.size)⟩
      · have hl := fun h => hT (HZ.out.1 h)
        have e0 : (((words d.m).length : Int) == 0) = false := by rw [beq_eq_false_iff_ne]; intro h; exact hl (by omega)
        have HX : Hid (specR A mode pn pi = (0, false, 0)) := by have := HSr.out; rw [← HVe.out] at this; dsimp only at this; rw [if_neg hT] at this; exact this
        clear hT hl
        go_wp2_with fail
        refine (HRo.out _ HB9.out).mono ?_; rintro en w10 ⟨⟨r, er, rfl, hr⟩, hb⟩
        have HB10 := Lib.hid (HB9.out.trans (hb.mono HB9.out.size))
        have HRr := Lib.hid hr
        clear hb hr
        go_wp2_with fail
        go_ret2
        exact ⟨(0, false, 0), r, er, .inr ⟨HBad.out, HX.out.symm⟩, rfl, .inr (.inr ⟨rfl, rfl, HRr.out⟩), HB1.out.trans (HB10.out.mono HB1.out.size)⟩
end Go.Proofs.YteahdgbokjbgcaaGreatDoor
namespace Go.Proofs.YteahdgbokjbgcaaGreatDoor
open Go.RowKit
set_option maxRecDepth 10000
set_option linter.unusedVariables false
set_option linter.unusedSimpArgs false

def sdV (e : Sd) : Value := .agg #[.pointer (some ⟨e.g, 0, none⟩), .pointer (some ⟨e.h, 0, none⟩)]
/-- a side as a block -/
structure SdB (W : World) (k g h : Nat) : Prop where
  row : W.heap[k]? = some (.cells #[.pointer (some ⟨g, 0, none⟩), .pointer (some ⟨h, 0, none⟩)] 53 (0, 0))
theorem SdB.cells {W : World} {k g h : Nat} (b : SdB W k g h) : W.cell? ⟨k, 0, none⟩ = some (.pointer (some ⟨g, 0, none⟩)) ∧ W.cell? ⟨k, 1, none⟩ = some (.pointer (some ⟨h, 0, none⟩)) :=
  ⟨by rw [cell_of_row W k 0 _ _ _ b.row]; rfl, by rw [cell_of_row W k 1 _ _ _ b.row]; rfl⟩
theorem SdB.below {W W' : World} {k g h B : Nat} (b : SdB W k g h) (hb : Below B W W') (hk : k < B) : SdB W' k g h := ⟨blk_below b.row hb hk⟩
theorem eql_spc7 (A : Ac) (W : World) : (binOp .eql 57 (spcV A) (spcV A)).run Tryz.prog W = .ok (.bool true) W := by
  unfold spcV
  simp [go_sem]
set_option maxHeartbeats 16000000 in
theorem alike7_any (e : Sd) (w : World) (hT : Tab w) (h : SdAt w e) :
    Calls Tryz.prog 26 #[sdV e] w fun en w' => en = .returned (.bool true) ∧ Below w.heap.size w w' := by
  obtain ⟨g, hh, A⟩ := e
  have hA := h.ok
  dsimp only at hA
  obtain ⟨w1, e1⟩ : ∃ W, W = w.alloc (.cells #[.pointer (some ⟨g, 0, none⟩), .pointer (some ⟨hh, 0, none⟩)] 53) := ⟨_, rfl⟩
  obtain ⟨k1, b1, s1⟩ := new_of e1 rfl
  obtain ⟨k0, hk0⟩ : ∃ k, k = w.heap.size := ⟨_, rfl⟩
  rw [← hk0] at k1
  have hs1 := h.grow b1
  have HS := Lib.hid (fun W (hW : Below w1.heap.size w1 W) => hs1.grow hW)
  have HK : Hid (∀ W, Below w1.heap.size w1 W → SdB W k0 g hh) := fun W hW => ⟨blk_below k1 hW (by omega)⟩
  have HT := Lib.hid (fun W (hW : Below w1.heap.size w1 W) => hT.grow (b1.trans (hW.mono b1.size)))
  obtain ⟨d, hd⟩ := exO_some hA.v
  obtain ⟨dr, ar, cr, hrow, hown, hdt⟩ := hs1.b
  dsimp only at hrow hdt
  have hdr : dr = d := by
    have := exO_dt hA.v hdt
    rw [hd] at this; cases this; rfl
  subst hdr
  have hok := (exO_both hd).2
  have HX : Hid (∀ W, Below w1.heap.size w1 W → Calls Tryz.prog 106 #[.pointer (some ⟨g, 0, none⟩)] W fun en w' => ∃ a c, en = .returned (.agg #[.bool dr.neg, .slice a (words dr.m).length c, .int .i64 dr.exp]) ∧ Own w' 118 W.heap.size a c (words dr.m) ∧ Below W.heap.size W w') := by
    intro W hW
    refine (exact_any A g W (HS.out W hW).a hA.v (HT.out W hW)).mono ?_
    rintro en w' ⟨v, rfl, ⟨a, c, rfl, ho⟩, hb⟩
    rw [hd] at ho ⊢
    exact ⟨a, c, rfl, ho, hb⟩
  have HR := Lib.hid (fun W (hW : Below w1.heap.size w1 W) => rac_cells (blk_below hrow hW (Array.getElem?_eq_some_iff.1 hrow).1))
  have HSm : Hid (∀ W a c b, Below w1.heap.size w1 W → Own W 118 b a c (words dr.m) → Calls Tryz.prog 18 #[.agg #[.bool dr.neg, .slice a (words dr.m).length c, .int .i64 dr.exp], .agg #[.bool dr.neg, .slice ar (words dr.m).length cr, .int .i64 dr.exp]] W fun en w' => en = .returned (.bool true) ∧ Below W.heap.size W w') :=
    fun W a c b hW ho => same_any (argOf dr a c) (argOf dr ar cr) W (ho.arg hok) ((hown.grow hW).arg hok) ⟨rfl, rfl, rfl⟩
  have HSp : Hid (∀ W, Below w1.heap.size w1 W → Calls Tryz.prog 107 #[.pointer (some ⟨g, 0, none⟩)] W fun en w' => en = .returned (spcV A) ∧ Below W.heap.size W w') := fun W hW => specials_any A g W (HS.out W hW).a
  have hEq := eql_spc7 A
  have HB1 := Lib.hid b1
  have E1 := Lib.hid e1
  have HK0 : Hid (k0 = w.heap.size ∧ w1.heap.size = k0 + 1) := ⟨hk0, by omega⟩
  have hb1 := (Array.getElem?_eq_some_iff.1 hrow).1
  have HBr : Hid (hh < w1.heap.size) := hb1
  unfold spcV at HSp hEq
  have HEq := Lib.hid hEq
  clear hEq h hs1 hT hA hd hrow hown hdt hok e1 k1 b1 s1 hk0 hb1
  unfold sdV
  go_enter Tryz.func26, Tryz.ntmps26
  go_upto_region 1 with fail
  rw [← E1.out, ← HK0.out.1]
  obtain ⟨y0, y1⟩ := (HK.out w1 (Below.refl _ _)).cells
  go_wp2_with fail
  refine (HX.out w1 (Below.refl _ _)).mono ?_; rintro en w2 ⟨a, c, rfl, ho, hb⟩
  have HB2 := Lib.hid hb
  have HO2 := Lib.hid ho
  clear ho hb y0 y1
  go_upto_region 2 with fail
  obtain ⟨w3, e3⟩ : ∃ W, W = w2.alloc (.cells #[.bool dr.neg, .slice a (words dr.m).length c, .int .i64 dr.exp] 46) := ⟨_, rfl⟩
  obtain ⟨p3, hp3⟩ : ∃ p, p = w2.heap.size := ⟨_, rfl⟩
  rw [← e3, ← hp3]
  obtain ⟨K3, b3, s3⟩ := new_cel e3 rfl
  rw [← hp3] at K3
  have HB3 := Lib.hid (HB2.out.trans (b3.mono HB2.out.size))
  have HO3 := Lib.hid (HO2.out.grow b3)
  have hp3b : w1.heap.size ≤ p3 := by rw [hp3]; exact HB2.out.size
  obtain ⟨z0, z1, z2, _, _, _⟩ := K3.facts
  obtain ⟨y0, y1⟩ := (HK.out w3 HB3.out).cells
  obtain ⟨q0, q1, q2, _, _, _, _, _, _⟩ := HR.out w3 HB3.out
  have HSm3 := Lib.hid (HSm.out w3.drew a c _ HB3.out.drew HO3.out)
  have HK3 := Lib.hid K3
  have hlt3 : p3 < w3.heap.size := K3.lt
  clear e3 b3 s3 hp3 K3
  go_region_held3 (fun V => V.cell? ⟨p3, 0, none⟩ = some (.bool dr.neg) ∧ V.cell? ⟨p3, 1, none⟩ = some (.slice a (words dr.m).length c) ∧ V.cell? ⟨p3, 2, none⟩ = some (.int .i64 dr.exp) ∧ V.cell? ⟨k0, 1, none⟩ = some (.pointer (some ⟨hh, 0, none⟩)) ∧ V.cell? ⟨hh, 0, none⟩ = some (.bool dr.neg) ∧ V.cell? ⟨hh, 1, none⟩ = some (.slice ar (words dr.m).length cr) ∧ V.cell? ⟨hh, 2, none⟩ = some (.int .i64 dr.exp)) (go_keep) (first
    | (go_at_call 18; refine HSm3.out.mono ?_; rintro en w4 ⟨rfl, hb⟩; have hb4 : Below w3.heap.size w3 w4 := below_drewN (n := 1) hb; have HB4 := Lib.hid (HB3.out.trans (hb4.mono HB3.out.size)); obtain ⟨z0, z1, z2, _, _, _⟩ := (HK3.out.below hb4 hlt3).facts; obtain ⟨y0, y1⟩ := (HK.out w4 HB4.out).cells; obtain ⟨q0, q1, q2, q3, q4, q5, q6, q7, q8⟩ := HR.out w4 HB4.out; clear hb hb4))
  clear z0 z1 z2 q0 q1 q2
  have hEq := HEq.out
  have HSp4 := Lib.hid (HSp.out w4.drew HB4.out.drew)
  go_wp2_with fail
  go_region_held3 (fun V => V.cell? ⟨k0, 0, none⟩ = some (.pointer (some ⟨g, 0, none⟩)) ∧ V.cell? ⟨k0, 1, none⟩ = some (.pointer (some ⟨hh, 0, none⟩)) ∧ V.cell? ⟨hh, 3, none⟩ = some (.int .i64 A.nan) ∧ V.cell? ⟨hh, 4, none⟩ = some (.int .i64 A.up) ∧ V.cell? ⟨hh, 5, none⟩ = some (.int .i64 A.down) ∧ V.cell? ⟨hh, 6, none⟩ = some (.int .i64 A.minus) ∧ V.cell? ⟨hh, 7, none⟩ = some (.int .i64 A.plus) ∧ V.cell? ⟨hh, 8, none⟩ = some (.int .i64 A.all)) (go_keep) (first
    | (go_at_call 107; refine HSp4.out.mono ?_; rintro en w5 ⟨rfl, hb⟩; have hb5 : Below w4.heap.size w4 w5 := below_drewN (n := 1) hb; have HB5 := Lib.hid (HB4.out.trans (hb5.mono HB4.out.size)); obtain ⟨y0, y1⟩ := (HK.out w5 HB5.out).cells; obtain ⟨_, _, _, q3, q4, q5, q6, q7, q8⟩ := HR.out w5 HB5.out; clear hb hb5))
  all_goals
    go_wp2_with fail
    go_ret
    exact ⟨rfl, HB1.out.trans (HB5.out.mono HB1.out.size)⟩
set_option maxHeartbeats 16000000 in
theorem rounds7_any (e : Sd) (mode pn pi : Int) (w : World) (hT : Tab w) (h : SdAt w e) :
    Calls Tryz.prog 27 #[sdV e, .int .i64 mode, pol pn pi] w fun en w' => en = .returned (.bool true) ∧ Below w.heap.size w w' := by
  obtain ⟨g, hh, A⟩ := e
  have hA := h.ok
  dsimp only at hA
  obtain ⟨w1, e1⟩ : ∃ W, W = w.alloc (.cells #[.pointer (some ⟨g, 0, none⟩), .pointer (some ⟨hh, 0, none⟩)] 53) := ⟨_, rfl⟩
  obtain ⟨k1, b1, s1⟩ := new_of e1 rfl
  obtain ⟨k0, hk0⟩ : ∃ k, k = w.heap.size := ⟨_, rfl⟩
  rw [← hk0] at k1
  obtain ⟨w2, e2⟩ : ∃ W, W = w1.alloc (.cells #[.int .i64 pn, .int .i64 pi] 61) := ⟨_, rfl⟩
  obtain ⟨k2, b2, s2⟩ := new_of e2 s1
  have hs2 := (h.grow b1).grow (b2.mono (by omega))
  have HS := Lib.hid (fun W (hW : Below w2.heap.size w2 W) => hs2.grow hW)
  have HK : Hid (∀ W, Below w2.heap.size w2 W → SdB W k0 g hh) := fun W hW => ⟨blk_below (blk_below k1 b2 (by omega)) hW (by omega)⟩
  have HP := Lib.hid (fun W (hW : Below w2.heap.size w2 W) => pol_cells (blk_below k2 hW (by omega)))
  have hB2 := b1.trans (b2.mono (by omega))
  have HT := Lib.hid (fun W (hW : Below w2.heap.size w2 W) => hT.grow (hB2.trans (hW.mono hB2.size)))
  have H1 := Lib.hid (fun W (hW : Below w2.heap.size w2 W) => accround_all A mode pn pi g W hA (HS.out W hW).a (HT.out W hW))
  have H2 := Lib.hid (fun W (hW : Below w2.heap.size w2 W) => rround7_any A mode pn pi hh W hA (HS.out W hW).b)
  have H3 := Lib.hid (fun W (hW : Below w2.heap.size w2 W) => accround32_all A mode pn pi g W hA (HS.out W hW).a (HT.out W hW))
  have H4 := Lib.hid (fun W (hW : Below w2.heap.size w2 W) => rround327_any A mode pn pi hh W hA (HS.out W hW).b)
  have HB2 := Lib.hid hB2
  have E1 := Lib.hid e1; have E2 := Lib.hid e2
  have HS1 : Hid (w1.heap.size = w.heap.size + 1) := s1
  have HK0 : Hid (k0 = w.heap.size) := hk0
  obtain ⟨p1, hp1⟩ : ∃ p, p = w.heap.size + 1 := ⟨_, rfl⟩
  rw [← hp1] at HP
  have HP1 : Hid (p1 = k0 + 1) := by show p1 = k0 + 1; rw [hp1, hk0]
  clear h hs2 hT hA e1 e2 k1 k2 b1 b2 s1 s2 hk0 hB2 hp1
  unfold sdV pol at *
  go_enter Tryz.func27, Tryz.ntmps27
  go_upto_region 1 with fail
  rw [← E1.out, ← E2.out, ← HK0.out]
  rw [← HP1.out]
  obtain ⟨y0, y1⟩ := (HK.out w2 (Below.refl _ _)).cells
  obtain ⟨x0, x1⟩ := HP.out w2 (Below.refl _ _)
  go_wp2_with fail
  refine (H1.out w2 (Below.refl _ _)).mono ?_; rintro en w3 ⟨r1, f1, rfl, hr1, hb⟩
  have HB3 := Lib.hid hb
  have HR1 := Lib.hid hr1
  clear hb hr1 y0 y1 x0 x1
  obtain ⟨y0, y1⟩ := (HK.out w3 HB3.out).cells
  obtain ⟨x0, x1⟩ := HP.out w3 HB3.out
  go_wp2_with fail
  refine (H2.out w3 HB3.out).mono ?_; rintro en w4 ⟨r2, f2, rfl, hr2, hb⟩
  have HB4 := Lib.hid (HB3.out.trans (hb.mono HB3.out.size))
  obtain ⟨rfl, rfl⟩ : r2 = r1 ∧ f2 = f1 := by
    rcases HR1.out with ⟨a1, a2, a3⟩ | ⟨a1, a2⟩ <;> rcases hr2 with ⟨b1, b2, b3⟩ | ⟨b1, b2⟩
    · exact ⟨b2.trans a2.symm, b3.trans a3.symm⟩
    · exact absurd a1 b1
    · exact absurd b1 a1
    · exact b2.uniq a2
  clear hb hr2 HR1 y0 y1 x0 x1
  obtain ⟨y0, y1⟩ := (HK.out w4 HB4.out).cells
  obtain ⟨x0, x1⟩ := HP.out w4 HB4.out
  go_wp2_with fail
  refine (H3.out w4 HB4.out).mono ?_; rintro en w5 ⟨S, r3, f3, hS, rfl, hr3, hb⟩
  have HB5 := Lib.hid (HB4.out.trans (hb.mono HB4.out.size))
  have HS3 := Lib.hid hS
  have HR3 := Lib.hid hr3
  clear hb hr3 hS y0 y1 x0 x1
  obtain ⟨y0, y1⟩ := (HK.out w5 HB5.out).cells
  obtain ⟨x0, x1⟩ := HP.out w5 HB5.out
  go_wp2_with fail
  refine (H4.out w5 HB5.out).mono ?_; rintro en w6 ⟨S', r4, f4, hS', rfl, hr4, hb⟩
  have HB6 := Lib.hid (HB5.out.trans (hb.mono HB5.out.size))
  obtain rfl := hS'.uniq HS3.out
  obtain ⟨rfl, rfl⟩ := hr4.uniq HR3.out
  have HX := Lib.hid (exact_law r2 r2)
  have g1 := ext_bits32 r4
  clear hb hr4 hS' HS3 HR3 y0 y1 x0 x1
  go_wp2_with (go_at_call 111; refine (HX.out _).mono ?_; rintro en w' ⟨rfl, rfl⟩)
  go_ret
  exact ⟨by simp, HB2.out.trans (HB6.out.mono HB2.out.size)⟩
end Go.Proofs.YteahdgbokjbgcaaGreatDoor
