/- Contracts of steelyardref07.Acc.refused, Round, steelyardref10.Exact. No statement of the seat is proved here. -/
import Derived.Test.YthdbapibbdkclaaGreatDoorProg
import Derived.Test.YthdbapibbdkclaaGreatDoorGj
namespace Go.Proofs.YthdbapibbdkclaaGreatDoor
open Go.RowKit
set_option maxRecDepth 10000
set_option linter.unusedVariables false
set_option linter.unusedSimpArgs false

/-- what is refused -/
def rfs (A : Ac) (mode pn pi : Int) : Int := if mode < 0 ∨ 4 < mode ∨ okP pn pi = false then 1 else refB (decide (0 < A.nan)) (pn == 2) (decide (0 < A.up + A.down)) (pi == 2)
set_option maxHeartbeats 8000000 in
theorem refused7_any (A : Ac) (mode pn pi : Int) (g : Nat) (w : World) (hA : A.Ok) (hR : RAc w g A) :
    Calls Tryz.prog 137 #[.pointer (some ⟨g, 0, none⟩), .int .i64 mode, pol pn pi] w fun en w' => en = .returned (.int .i64 (rfs A mode pn pi)) ∧ Below w.heap.size w w' := by
  have hlt := hR.lt
  obtain ⟨V, hV⟩ : ∃ V, V = rfs A mode pn pi := ⟨_, rfl⟩
  rw [← hV]
  obtain ⟨w1, e1⟩ : ∃ W, W = w.alloc (.cells #[.int .i64 pn, .int .i64 pi] 51) := ⟨_, rfl⟩
  obtain ⟨k1, b1, s1⟩ := new_of e1 rfl
  obtain ⟨d, a, c, hrow, _, _⟩ := hR.grow b1
  have HK := Lib.hid (fun W (hW : Below w1.heap.size w1 W) => pol_cells (blk_below k1 hW (by omega)))
  have HC := Lib.hid (fun W (hW : Below w1.heap.size w1 W) => (rac_cells (blk_below hrow hW (by omega))).2.2.2)
  have HM := Lib.hid (fun W => may6_any pn pi W)
  have HF := Lib.hid (fun W => refused6_any A pn pi W hA)
  have HB1 := Lib.hid b1
  have E1 := Lib.hid e1
  have HV := Lib.hid hV
  obtain ⟨y0, y1⟩ := pol_cells k1
  unfold pol spcV at *
  clear hV e1 k1 b1 s1 hrow hR hA
  go_enter Tryz.func137, Tryz.ntmps137
  go_upto_region 1 with fail
  rw [← E1.out]
  go_wp2_with fail
  refine (HM.out w1).mono ?_; rintro en w2 ⟨rfl, hb⟩
  have HB2 := Lib.hid hb
  clear hb y0 y1
  obtain ⟨OK, hOK⟩ : ∃ b, b = okP pn pi := ⟨_, rfl⟩
  rw [← hOK]
  have HOK := Lib.hid hOK
  clear hOK
  have hcs : mode < 0 ∨ (¬ mode < 0 ∧ 4 < mode) ∨ (¬ mode < 0 ∧ ¬ 4 < mode ∧ OK = false) ∨ (0 ≤ mode ∧ mode ≤ 4 ∧ OK = true) := by
    cases OK <;> simp <;> omega
  rcases hcs with h1 | ⟨h1, h2⟩ | ⟨h1, h2, rfl⟩ | ⟨h1, h2, rfl⟩
  · have HW : Hid (V = 1) := by have := HV.out; unfold rfs at this; rw [if_pos (.inl h1)] at this; exact this
    go_wp2_with fail
    go_ret
    rw [HW.out]
    exact ⟨rfl, HB1.out.trans (HB2.out.mono HB1.out.size)⟩
  · have HW : Hid (V = 1) := by have := HV.out; unfold rfs at this; rw [if_pos (.inr (.inl h2))] at this; exact this
    go_wp2_with fail
    go_ret
    rw [HW.out]
    exact ⟨rfl, HB1.out.trans (HB2.out.mono HB1.out.size)⟩
  · have HW : Hid (V = 1) := by have := HV.out; unfold rfs at this; rw [if_pos (.inr (.inr HOK.out.symm))] at this; exact this
    go_wp2_with fail
    go_ret
    rw [HW.out]
    exact ⟨rfl, HB1.out.trans (HB2.out.mono HB1.out.size)⟩
  · have HW : Hid (V = refB (decide (0 < A.nan)) (pn == 2) (decide (0 < A.up + A.down)) (pi == 2)) := by
      have := HV.out
      unfold rfs at this
      rw [if_neg (by rintro (h | h | h); omega; omega; rw [← HOK.out] at h; cases h)] at this
      exact this
    obtain ⟨q3, q4, q5, q6, q7, q8⟩ := HC.out w2 HB2.out
    obtain ⟨y0, y1⟩ := HK.out w2 HB2.out
    go_upto_region 4 with fail
    go_region_with (first
      | (go_at_call 209; refine (HF.out _).mono ?_; rintro en w9 ⟨rfl, hb9⟩))
    all_goals
      go_wp2_with fail
      go_ret
      rw [HW.out]
      exact ⟨rfl, HB1.out.trans ((HB2.out.trans ((below_drewN (n := 1) hb9).mono HB2.out.size)).mono HB1.out.size)⟩
theorem refB_zero {A : Ac} {pn pi : Int} (h : refB (decide (0 < A.nan)) (pn == 2) (decide (0 < A.up + A.down)) (pi == 2) = 0) : ¬ (0 < A.nan ∧ pn = 2) ∧ ¬ (0 < A.up + A.down ∧ pi = 2) := by
  rw [refB_eq] at h
  split at h
  · cases h
  · split at h
    · cases h
    · exact ⟨by assumption, by assumption⟩
theorem roundR_ref {A : Ac} {mode pn pi e : Int} (h : refB (decide (0 < A.nan)) (pn == 2) (decide (0 < A.up + A.down)) (pi == 2) = e) (he : e ≠ 0) : RoundR A mode pn pi 0 e := by
  rw [refB_eq] at h
  have hs : specR A mode pn pi = (0, false, e) := by
    unfold specR
    split at h
    · rename_i h1
      rw [if_pos h1, h]
    · rename_i h1
      rw [if_neg h1]
      split at h
      · rename_i h2
        rw [if_pos h2, h]
      · exact absurd h.symm he
  left
  rw [hs]
  exact ⟨.inr he, rfl, rfl⟩
theorem specR_not {A : Ac} {mode pn pi : Int} (h : refB (decide (0 < A.nan)) (pn == 2) (decide (0 < A.up + A.down)) (pi == 2) = 0) : specR A mode pn pi = match verd A pn pi with
  | some x => (x, true, 0)
  | none => if A.T = 0 then (noughtB A mode, true, 0) else (0, false, 0) := by
  obtain ⟨h1, h2⟩ := refB_zero h
  unfold specR
  rw [if_neg h1, if_neg h2]
  cases verd A pn pi <;> rfl
theorem roundR_verd {A : Ac} {mode pn pi : Int} {x : Nat} (h : refB (decide (0 < A.nan)) (pn == 2) (decide (0 < A.up + A.down)) (pi == 2) = 0) (hv : verd A pn pi = some x) : RoundR A mode pn pi x 0 := by
  have hs := specR_not (mode := mode) h
  rw [hv] at hs
  left
  rw [hs]
  exact ⟨.inl rfl, rfl, rfl⟩
theorem roundR_nought {A : Ac} {mode pn pi : Int} (h : refB (decide (0 < A.nan)) (pn == 2) (decide (0 < A.up + A.down)) (pi == 2) = 0) (hv : verd A pn pi = none) (hT : A.T = 0) : RoundR A mode pn pi (noughtB A mode) 0 := by
  have hs := specR_not (mode := mode) h
  rw [hv] at hs
  dsimp only at hs
  rw [if_pos hT] at hs
  left
  rw [hs]
  exact ⟨.inl rfl, rfl, rfl⟩
theorem roundR_val {A : Ac} {mode pn pi : Int} {r : Nat} {er : Int} (h : refB (decide (0 < A.nan)) (pn == 2) (decide (0 < A.up + A.down)) (pi == 2) = 0) (hv : verd A pn pi = none) (hT : A.T ≠ 0) (hr : RoundsTo 52 (-1074) 9218868437227405312 9223372036854775808 mode (exO A.T) r er) : RoundR A mode pn pi r er := by
  have hs := specR_not (mode := mode) h
  rw [hv] at hs
  dsimp only at hs
  rw [if_neg hT] at hs
  right
  rw [hs]
  exact ⟨rfl, rfl, hr⟩
theorem exO_dt {T : Int} {d : D} (hk : ¬ Gt T) (h : DT d T) : exO T = some d := by
  obtain ⟨d', h1, h2⟩ := zO_dy rg_dt (gt_dt hk)
  rw [h2.uniq h] at h1
  exact h1
def RRound7 (A : Ac) (mode pn pi : Int) (w : World) (en : Ending) (w' : World) : Prop := ∃ (r : Nat) (er : Int), en = .returned (.tuple #[.float .f64 r, .int .i64 er]) ∧ (badM mode pn pi ∧ r = 0 ∧ er = 1 ∨ ¬ badM mode pn pi ∧ RoundR A mode pn pi r er) ∧ Below w.heap.size w w'
set_option maxHeartbeats 16000000 in
theorem rround7_any (A : Ac) (mode pn pi : Int) (g : Nat) (w : World) (hA : A.Ok) (hR : RAc w g A) :
    Calls Tryz.prog 72 #[.pointer (some ⟨g, 0, none⟩), .int .i64 mode, pol pn pi] w (RRound7 A mode pn pi w) := by
  have hlt := hR.lt
  obtain ⟨w1, e1⟩ : ∃ W, W = w.alloc (.cells #[.int .i64 pn, .int .i64 pi] 51) := ⟨_, rfl⟩
  obtain ⟨k1, b1, s1⟩ := new_of e1 rfl
  have hR1 := hR.grow b1
  obtain ⟨d, a, c, hrow, hown, hdt⟩ := hR1
  have HK := Lib.hid (fun W (hW : Below w1.heap.size w1 W) => pol_cells (blk_below k1 hW (by omega)))
  have HC := Lib.hid (fun W (hW : Below w1.heap.size w1 W) => rac_cells (blk_below hrow hW (by omega)))
  have HF := Lib.hid (fun W (hW : Below w1.heap.size w1 W) => refused7_any A mode pn pi g W hA (RAc.grow ⟨d, a, c, hrow, hown, hdt⟩ hW))
  have HVd := Lib.hid (fun W (hp : okP pn pi = true) => verdict6_any A pn pi W hA hp)
  have HNo := Lib.hid (fun W => nought6_any A mode W hA)
  have hex := exO_dt hA.v hdt
  have HRo : Hid (∀ W, Below w1.heap.size w1 W → Calls Tryz.prog 123 #[DV d a c, .int .i64 mode] W fun en w' => (∃ (r : Nat) (er : Int), en = .returned (.tuple #[.float .f64 r, .int .i64 er]) ∧ RoundsTo 52 (-1074) 9218868437227405312 9223372036854775808 mode (exO A.T) r er) ∧ Below W.heap.size W w') := by
    intro W hW
    have := rround_any (argOf d a c) mode W ((hown.grow hW).arg hdt.ok)
    rw [argF hdt.is hdt.ok, ← hex] at this
    exact this
  have HB1 := Lib.hid b1
  have E1 := Lib.hid e1
  have hz : (words d.m).length = 0 ↔ A.T = 0 := by rw [len_words_zero]; exact hdt.zeroV
  have HZ := Lib.hid hz
  obtain ⟨y0, y1⟩ := pol_cells k1
  have HBd : Hid (badM mode pn pi ↔ (mode < 0 ∨ 4 < mode ∨ okP pn pi = false)) := Iff.rfl
  obtain ⟨V, hV⟩ : ∃ V, V = rfs A mode pn pi := ⟨_, rfl⟩
  rw [← hV] at HF
  have HV := Lib.hid hV
  obtain ⟨vd, hvd⟩ : ∃ v, v = verd A pn pi := ⟨_, rfl⟩
  rw [← hvd] at HVd
  have HVe := Lib.hid hvd
  obtain ⟨nb, hnb⟩ : ∃ v, v = noughtB A mode := ⟨_, rfl⟩
  rw [← hnb] at HNo
  have HNe := Lib.hid hnb
  unfold pol spcV DV at *
  clear hvd hnb hV e1 k1 b1 s1 hrow hR hA hown hdt hex hz
  go_enter Tryz.func72, Tryz.ntmps72
  go_upto_region 1 with fail
  rw [← E1.out]
  go_wp2_with fail
  refine (HF.out w1 (Below.refl _ _)).mono ?_; rintro en w2 ⟨rfl, hb⟩
  have HB2 := Lib.hid hb
  clear hb y0 y1
  by_cases hV0 : V = 0
  case neg =>
    have hq : (V == 0) = false := by simpa using hV0
    have HW : Hid (badM mode pn pi ∧ (0 : Nat) = 0 ∧ V = 1 ∨ ¬ badM mode pn pi ∧ RoundR A mode pn pi 0 V) := by
      by_cases hbad : badM mode pn pi
      · have := HV.out
        unfold rfs at this
        rw [if_pos (HBd.out.1 hbad)] at this
        exact .inl ⟨hbad, rfl, this⟩
      · have := HV.out
        unfold rfs at this
        rw [if_neg (fun h => hbad (HBd.out.2 h))] at this
        exact .inr ⟨hbad, roundR_ref this.symm hV0⟩
    clear hV0
    go_wp2_with fail
    refine (bofz_any _).mono ?_; rintro en w3 ⟨rfl, rfl⟩
    go_wp2_with fail
    go_ret2
    exact ⟨0, V, rfl, by rcases HW.out with ⟨h1, _, h3⟩ | h1; exact .inl ⟨h1, rfl, h3⟩; exact .inr h1, HB1.out.trans (HB2.out.mono HB1.out.size)⟩
  case pos =>
  have hbad : ¬ badM mode pn pi := by
    intro hbad
    have := HV.out
    unfold rfs at this
    rw [if_pos (HBd.out.1 hbad), hV0] at this
    cases this
  have href : refB (decide (0 < A.nan)) (pn == 2) (decide (0 < A.up + A.down)) (pi == 2) = 0 := by
    have := HV.out
    unfold rfs at this
    rw [if_neg (fun h => hbad (HBd.out.2 h)), hV0] at this
    exact this.symm
  have hok : okP pn pi = true := by
    cases h : okP pn pi
    · exact absurd (HBd.out.2 (.inr (.inr h))) hbad
    · rfl
  have HBad := Lib.hid hbad; have HRef := Lib.hid href; have HOk := Lib.hid hok
  subst hV0
  clear hbad href hok
  obtain ⟨q0, q1, q2, q3, q4, q5, q6, q7, q8⟩ := HC.out w2 HB2.out
  obtain ⟨y0, y1⟩ := HK.out w2 HB2.out
  go_upto_region 4 with fail
  go_region_with (first
    | (go_at_call 138; refine (HVd.out _ HOk.out).mono ?_; rintro en w9 ⟨rfl, hb9⟩))
  all_goals
    have HB9 : Hid (Below w1.heap.size w1 w9) := HB2.out.trans ((below_drewN (n := 1) hb9).mono HB2.out.size)
    clear hb9 q0 q1 q2 q3 q4 q5 q6 q7 q8 y0 y1
    obtain ⟨q0, q1, q2, q3, q4, q5, q6, q7, q8⟩ := HC.out w9 HB9.out
    cases vd
    case some x =>
      go_wp2_with fail
      go_ret2
      exact ⟨x, 0, rfl, .inr ⟨HBad.out, roundR_verd HRef.out HVe.out.symm⟩, HB1.out.trans (HB9.out.mono HB1.out.size)⟩
    case none =>
      by_cases hT : A.T = 0
      · have hl := HZ.out.2 hT
        have e0 : (((words d.m).length : Int) == 0) = true := by rw [hl]; rfl
        have HT0 := Lib.hid hT
        clear hT hl
        go_wp2_with fail
        refine (HNo.out _).mono ?_; rintro en w10 ⟨rfl, hb⟩
        have HB10 := Lib.hid (HB9.out.trans (hb.mono HB9.out.size))
        clear hb
        go_wp2_with fail
        go_ret2
        exact ⟨nb, 0, rfl, .inr ⟨HBad.out, by rw [HNe.out]; exact roundR_nought HRef.out HVe.out.symm HT0.out⟩, HB1.out.trans (HB10.out.mono HB1.out.size)⟩
      · have hl := fun h => hT (HZ.out.1 h)
        have e0 : (((words d.m).length : Int) == 0) = false := by rw [beq_eq_false_iff_ne]; intro h; exact hl (by omega)
        have HT0 := Lib.hid hT
        clear hT hl
        go_wp2_with fail
        refine (HRo.out _ HB9.out).mono ?_; rintro en w10 ⟨⟨r, er, rfl, hr⟩, hb⟩
        have HB10 := Lib.hid (HB9.out.trans (hb.mono HB9.out.size))
        have HRr := Lib.hid hr
        clear hb hr
        go_wp2_with fail
        go_ret2
        exact ⟨r, er, rfl, .inr ⟨HBad.out, roundR_val HRef.out HVe.out.symm HT0.out HRr.out⟩, HB1.out.trans (HB10.out.mono HB1.out.size)⟩

theorem sumL_okE {l : List Nat} (h : l.length ≤ 1099511627776) : (sumL l).Ok := by
  suffices h : ∀ k, k ≤ l.length → Fit k (sumL (l.take k)) by
    have := h l.length (Nat.le_refl _)
    rw [List.take_length] at this
    exact this.ok
  intro k
  induction k with
  | zero => intro _; rw [List.take_zero]; exact fit_zero
  | succ k ih =>
    intro hk
    rw [sumL_snoc l (by omega)]
    exact fit_add (ih (by omega)) (numT_thing _) (by omega)
set_option maxHeartbeats 8000000 in
theorem rexact10_any (a : Option Addr) (c : Nat) (l : List Nat) (mode pn pi : Int) (w : World) (hl : FSl w a c l) :
    Calls Tryz.prog 20 #[.slice a l.length c, .int .i64 mode, pol pn pi] w (ExQ l mode pn pi w) := by
  obtain ⟨w1, e1⟩ : ∃ W, W = w.alloc (.cells #[.int .i64 pn, .int .i64 pi] 51) := ⟨_, rfl⟩
  obtain ⟨k1, b1, s1⟩ := new_of e1 rfl
  have HK := Lib.hid (fun W (hW : Below w1.heap.size w1 W) => pol_cells (blk_below k1 hW (by omega)))
  have HM := Lib.hid (fun W => may6_any pn pi W)
  have HL := Lib.hid (fun W (hW : Below w1.heap.size w1 W) => (hl.grow b1).grow hW)
  have HB1 := Lib.hid b1
  have E1 := Lib.hid e1
  obtain ⟨y0, y1⟩ := pol_cells k1
  have HBd : Hid (badM mode pn pi ↔ (mode < 0 ∨ 4 < mode ∨ okP pn pi = false)) := Iff.rfl
  unfold pol at *
  clear e1 k1 b1 s1 hl
  go_enter Tryz.func20, Tryz.ntmps20
  go_upto_region 1 with fail
  rw [← E1.out]
  go_wp2_with fail
  refine (HM.out w1).mono ?_; rintro en w2 ⟨rfl, hb⟩
  have HB2 := Lib.hid hb
  clear hb y0 y1
  obtain ⟨OK, hOK⟩ : ∃ b, b = okP pn pi := ⟨_, rfl⟩
  rw [← hOK]
  have HOK := Lib.hid hOK
  clear hOK
  have hcs : mode < 0 ∨ (¬ mode < 0 ∧ 4 < mode) ∨ (¬ mode < 0 ∧ ¬ 4 < mode ∧ OK = false) ∨ (0 ≤ mode ∧ mode ≤ 4 ∧ OK = true) := by
    cases OK <;> simp <;> omega
  have HQ1 : Hid (badM mode pn pi → ∀ W, Below w1.heap.size w1 W → ExQ l mode pn pi w (.returned (.tuple #[.float .f64 0, .int .i64 1])) W) := fun h W hW => ⟨0, 1, rfl, .inl ⟨h, rfl, rfl⟩, HB1.out.trans (hW.mono HB1.out.size)⟩
  rcases hcs with h1 | ⟨h1, h2⟩ | ⟨h1, h2, rfl⟩ | ⟨h1, h2, rfl⟩
  · go_wp2_with fail
    refine (bofz_any _).mono ?_; rintro en w3 ⟨rfl, rfl⟩
    go_wp2_with fail
    go_ret2
    exact HQ1.out (HBd.out.2 (.inl h1)) w2 HB2.out
  · go_wp2_with fail
    refine (bofz_any _).mono ?_; rintro en w3 ⟨rfl, rfl⟩
    go_wp2_with fail
    go_ret2
    exact HQ1.out (HBd.out.2 (.inr (.inl h2))) w2 HB2.out
  · go_wp2_with fail
    refine (bofz_any _).mono ?_; rintro en w3 ⟨rfl, rfl⟩
    go_wp2_with fail
    go_ret2
    exact HQ1.out (HBd.out.2 (.inr (.inr HOK.out.symm))) w2 HB2.out
  have HNb : Hid (¬ badM mode pn pi) := by
    intro h
    rcases HBd.out.1 h with h | h | h
    · omega
    · omega
    · rw [← HOK.out] at h; cases h
  by_cases hlen : 65536 < l.length
  · go_wp2_with fail
    refine (bofz_any _).mono ?_; rintro en w3 ⟨rfl, rfl⟩
    go_wp2_with fail
    go_ret2
    exact ⟨0, 2, rfl, .inr (.inl ⟨HNb.out, hlen, rfl, rfl⟩), HB1.out.trans (HB2.out.mono HB1.out.size)⟩
  have HWh := Lib.hid (whole7_any a c l w2 (HL.out w2 HB2.out) (by omega))
  go_wp2_with fail
  refine HWh.out.mono ?_; rintro en w3 ⟨v, rfl, ⟨d, a3, c3, rfl, ho, hdt⟩, hb⟩
  have HB3 := Lib.hid (HB2.out.trans (hb.mono HB2.out.size))
  have HO := Lib.hid ho; have HD := Lib.hid hdt
  clear ho hdt hb
  unfold rac
  go_upto_region 7 with fail
  obtain ⟨w4, e4⟩ : ∃ W, W = w3.alloc (.cells (rac d a3 c3 (sumL l)) 73) := ⟨_, rfl⟩
  obtain ⟨k4, b4, s4⟩ := new_of e4 rfl
  have HR4 : Hid (RAc w4 w3.heap.size (sumL l)) := ⟨d, a3, c3, k4, HO.out.grow b4, HD.out⟩
  have HB4 := Lib.hid (HB3.out.trans (b4.mono HB3.out.size))
  have E4 := Lib.hid e4
  unfold rac at E4
  clear e4 k4 b4 s4
  rw [← E4.out]
  obtain ⟨y0, y1⟩ := HK.out w4 HB4.out
  have HRd := Lib.hid (rround7_any (sumL l) mode pn pi w3.heap.size w4 (sumL_okE (by omega)) HR4.out)
  unfold pol at HRd
  go_wp2_with fail
  refine HRd.out.mono ?_; rintro en w5 ⟨r, er, rfl, hr, hb⟩
  have HX := Lib.hid hr
  have HB5 := Lib.hid (HB1.out.trans ((HB4.out.trans (hb.mono HB4.out.size)).mono HB1.out.size))
  clear hr hb y0 y1
  go_wp2_with fail
  go_ret2
  refine ⟨r, er, rfl, .inr (.inr ⟨HNb.out, by omega, ?_⟩), HB5.out⟩
  rcases HX.out with ⟨h, _⟩ | ⟨_, h⟩
  · exact absurd h HNb.out
  · exact h
end Go.Proofs.YthdbapibbdkclaaGreatDoor
