/- The walk of SumsLong. No statement of the seat is proved here. -/
import Derived.Test.YthdbapibbdkclaaDoorProg
import Derived.Test.YthdbapibbdkclaaDoorHh
namespace Go.Proofs.YthdbapibbdkclaaDoor
open Go.RowKit
set_option maxRecDepth 10000
set_option linter.unusedVariables false
set_option linter.unusedSimpArgs false

theorem read_fin {x : Nat} (h : x % 9223372036854775808 < 9218868437227405312) : ∃ s m e, Ieee.double.read x = .number s m e := by
  unfold Ieee.Format.read
  dsimp only
  rw [show Ieee.double.signWeight = 9223372036854775808 from rfl, show Ieee.double.infRung = 9218868437227405312 from rfl]
  split
  · exact ⟨_, _, _, rfl⟩
  · exact ⟨_, _, _, rfl⟩
theorem read_bad {x : Nat} (h : 9218868437227405312 ≤ x % 9223372036854775808) : (∃ s, Ieee.double.read x = .infinity s) ∨ ∃ s f, Ieee.double.read x = .nan s f := by
  unfold Ieee.Format.read
  dsimp only
  rw [show Ieee.double.signWeight = 9223372036854775808 from rfl, show Ieee.double.infRung = 9218868437227405312 from rfl]
  have hb : Ieee.double.binade = 4503599627370496 := rfl
  rw [if_neg (show ¬ x % 9223372036854775808 < Ieee.double.binade by rw [hb]; omega), if_neg (show ¬ x % 9223372036854775808 < 9218868437227405312 by omega)]
  split
  · exact .inl ⟨_, rfl⟩
  · exact .inr ⟨_, _, rfl⟩
theorem sub_fin {x : Nat} (h : x % 9223372036854775808 < 9218868437227405312) : Ieee.double.sub x x = some 0 := by
  obtain ⟨s, m, e, hr⟩ := read_fin h
  unfold Ieee.Format.sub
  rw [hr]
  show (Ieee.Datum.sum (.number s m e) (.number (!s) m e)).map Ieee.double.write = _
  unfold Ieee.Datum.sum
  dsimp only
  have ht : Ieee.signed s m (e - min e e).toNat + Ieee.signed (!s) m (e - min e e).toNat = 0 := by
    unfold Ieee.signed
    cases s <;> simp <;> omega
  rw [ht]
  cases s <;> rfl
theorem sub_bad {x : Nat} (h : 9218868437227405312 ≤ x % 9223372036854775808) : Ieee.double.sub x x = none := by
  unfold Ieee.Format.sub
  rcases read_bad h with ⟨s, hr⟩ | ⟨s, f, hr⟩
  · rw [hr]; cases s <;> rfl
  · rw [hr]; rfl
/-- x - x is a number where x is one -/
theorem self_fin {x : Nat} (h : x % 9223372036854775808 < 9218868437227405312) (W : World) : (binOp .sub 36 (.float .f64 x) (.float .f64 x)).run Tryd.prog W = .ok (.float .f64 0) W := run_arith (op := .sub) W (sub_fin h)
theorem self_bad {x : Nat} (h : 9218868437227405312 ≤ x % 9223372036854775808) (W : World) : ∃ r, (binOp .sub 36 (.float .f64 x) (.float .f64 x)).run Tryd.prog W = .ok (.float .f64 r) W.drew ∧ 9218868437227405312 < r % 9223372036854775808 := by
  have hh : FloatKind.f64.format.sub x x = none := sub_bad h
  obtain ⟨n1, n2⟩ := nan_bits W x x
  exact ⟨_, by simp [binOp, Op.floatArith, hh, Question.forced], n1⟩

def fillX (N k x : Nat) : List Nat := List.replicate k x ++ List.replicate (N - k) 0
theorem fillX_zero (N x : Nat) : fillX N 0 x = List.replicate N 0 := by simp [fillX]
theorem fillX_all (N x : Nat) : fillX N N x = List.replicate N x := by simp [fillX]
theorem fillX_get {N k x : Nat} (h : k < N) : (fillX N k x)[k]? = some 0 := by
  unfold fillX
  rw [List.getElem?_append_right (by simp), List.length_replicate, Nat.sub_self, List.getElem?_replicate, if_pos (by omega)]
theorem fillX_set {N k x : Nat} (h : k < N) : (fillX N k x).set k x = fillX N (k + 1) x := by
  unfold fillX
  rw [List.set_append_right _ _ (by simp), List.length_replicate, Nat.sub_self, List.replicate_succ', List.append_assoc]
  congr 1
  obtain ⟨d, hd⟩ : ∃ d, N - k = d + 1 := ⟨N - k - 1, by omega⟩
  rw [hd, show N - (k + 1) = d by omega, List.replicate_succ]
  rfl
theorem exr_pass {l : List Nat} {r : Nat} {er : Int} (h : ExR l 0 1 1 r er) (hok : l.length ≤ 65536 → (sumL l).Ok) : er = if 65536 < l.length then 2 else 0 := by
  have hg : ¬ badM 0 1 1 := by unfold badM; decide
  rcases h with ⟨h1, _⟩ | ⟨_, h1, _, rfl⟩ | ⟨_, h1, h2⟩
  · exact absurd h1 hg
  · rw [if_pos h1]
  · rw [if_neg (by omega)]
    obtain ⟨d, hd⟩ := exO_some (hok h1).v
    have hv : verd (sumL l) 1 1 = none := by unfold verd; simp
    have hs : (specR (sumL l) 0 1 1).2.2 = 0 := by
      unfold specR
      rw [if_neg (by simp), if_neg (by simp), hv]
      dsimp only
      split <;> rfl
    unfold RoundR at h2
    rcases h2 with ⟨_, _, h3⟩ | ⟨_, _, h3⟩
    · rw [h3, hs]
    · rcases h3 with ⟨h4, _⟩ | ⟨_, ⟨h4, _⟩ | ⟨_, _, _, _, _, h4⟩⟩
      · omega
      · rw [hd] at h4; cases h4
      · exact h4
theorem blr_long {l : List Nat} {r : Nat} {er : Int} (h : BlR l 65536 r er) : er = if 65536 < l.length then 2 else 0 := by
  rcases h with ⟨h1, _⟩ | ⟨_, h1, _, rfl⟩ | ⟨_, h1, _, rfl⟩
  · omega
  · rw [if_pos h1]
  · rw [if_neg (by omega)]
theorem alr_long {N x r : Nat} {er : Int} (hN : 0 < N) (hN2 : N ≤ 70000) (h : AlR (List.replicate N x) 8 r er) : er = if 65536 < N then 2 else if x % 9223372036854775808 < 9218868437227405312 then 0 else 30 := by
  rcases h with ⟨h1, _⟩ | ⟨_, h1, _, rfl⟩ | ⟨_, h1, ⟨y, hy, hy2⟩, _, rfl⟩ | ⟨_, h1, h2, h3⟩
  · omega
  · rw [List.length_replicate] at h1
    rw [if_pos h1]
  · rw [List.length_replicate] at h1
    obtain rfl := List.eq_of_mem_replicate hy
    rw [if_neg (by omega), if_neg (show ¬ y % 9223372036854775808 < 9218868437227405312 from hy2)]
  · have hl : (List.replicate N x).length = N := List.length_replicate
    rw [hl] at h1
    rw [if_neg (by omega), if_pos (show x % 9223372036854775808 < 9218868437227405312 from h2 x (by rw [List.mem_replicate]; exact ⟨by omega, rfl⟩))]
    obtain ⟨d, hd, _⟩ := kS_dy (bnL_ok (l := List.replicate N x) (by rw [hl]; omega)) (8 : Int).toNat
    rcases h3 with ⟨h4, _⟩ | ⟨_, ⟨h4, _⟩ | ⟨_, _, _, _, _, h4⟩⟩
    · omega
    · rw [hd] at h4; cases h4
    · exact h4
theorem sumL_ok {l : List Nat} (h : l.length ≤ 1099511627776) : (sumL l).Ok := by
  suffices h : ∀ k, k ≤ l.length → Fit k (sumL (l.take k)) by
    have := h l.length (Nat.le_refl _)
    rw [List.take_length] at this
    exact this.ok
  intro k
  induction k with
  | zero => intro _; rw [List.take_zero]; exact fit_zero
  | succ k ih =>
    intro hk
    rw [sumL_snoc l (by omega)]
    exact fit_add (ih (by omega)) (numT_thing _) (by omega)

set_option maxHeartbeats 8000000 in
theorem sumslong_any (n : Int) (x : Nat) (w : World) (hT : Tab w) (hx : x < 18446744073709551616) :
    Calls Tryd.prog 11 #[.int .i64 n, .float .f64 x] w fun en w' => en = .returned (.bool true) ∧ Below w.heap.size w w' := by
  have H1 := Lib.hid (live10_any w hT)
  have HT := Lib.hid (fun W (hw : Below w.heap.size w W) => hT.grow hw)
  clear hT
  have hn : n < 65535 ∨ (¬ n < 65535 ∧ 65538 < n) ∨ (65535 ≤ n ∧ n ≤ 65538) := by omega
  rcases hn with hn | ⟨hn0, hn⟩ | ⟨hn1, hn2⟩
  · go_enter Tryd.func11, Tryd.ntmps11
    go_wp2_with fail
    refine H1.out.mono ?_; rintro en w1 ⟨rfl, hb⟩
    have HB := Lib.hid hb
    clear hb
    go_wp2_with fail
    go_ret
    exact ⟨rfl, HB.out⟩
  · go_enter Tryd.func11, Tryd.ntmps11
    go_wp2_with fail
    refine H1.out.mono ?_; rintro en w1 ⟨rfl, hb⟩
    have HB := Lib.hid hb
    clear hb
    go_wp2_with fail
    go_ret
    exact ⟨rfl, HB.out⟩
  obtain ⟨N, rfl⟩ : ∃ N : Nat, n = (N : Int) := ⟨n.toNat, by omega⟩
  have hN1 : 65535 ≤ N := by omega
  have hN2 : N ≤ 65538 := by omega
  obtain ⟨i0, hi, hz0, hz1, hz2⟩ := info_f64
  go_enter Tryd.func11, Tryd.ntmps11
  go_wp2_with fail
  refine H1.out.mono ?_; rintro en w1 ⟨rfl, hb⟩
  have HB1 := Lib.hid hb
  clear hb
  go_wp2_with (first | (at_make; refine wpList_make_vals _ rfl _ _ 33 rfl 36 i0 (.float .f64 0) Tryd.underlying33 hi hz0 rfl hz1 hz2 _ _ _ _ N rfl rfl rfl rfl (by omega) ?_; intro w2 hk1 hb1 hsz1))
  obtain ⟨g, hg⟩ : ∃ g, g = w1.heap.size := ⟨_, rfl⟩
  rw [← hg] at hk1 hb1 ⊢
  have HK1 : Hid (VBlk w2 36 g ((fillX N 0 x).map fv)) := by
    rw [fillX_zero, List.map_replicate]; exact hk1
  have HB2 : Hid (Below w.heap.size w w2) := HB1.out.trans (hb1.mono (by rw [hg]; exact HB1.out.size))
  have HG : Hid (w.heap.size ≤ g) := by rw [hg]; exact HB1.out.size
  clear hk1 hb1 hsz1 hg
  go_loopw [7] (fun i wr => ∃ k : Nat, k ≤ N ∧ i = .int .i64 k ∧ Hid (VBlk wr 36 g ((fillX N k x).map fv) ∧ Below w.heap.size w wr)) (fun i _ => N - (intOf i).toNat)
  case atStart => exact ⟨0, Nat.zero_le _, rfl, HK1.out, HB2.out⟩
  case round =>
    obtain ⟨k, hk, rfl, hH⟩ := hrel
    by_cases hq : k < N
    · have hst := run_storeF x
      have hcell := hH.out.1.cell (i := k) (x := fv 0) (by rw [List.getElem?_map, fillX_get hq]; rfl)
      have hfr := hH.out.1.frozen k
      have HS := Lib.hid (fillX_set (x := x) hq)
      have HH := Lib.hid hH.out
      unfold fv at hcell
      clear hH
      go_wp2_with fail
      go_roundw
      case rel =>
        refine ⟨k + 1, by omega, by go_num, ?_, HH.out.2.setCell HG.out _⟩
        have := HH.out.1.set k (fv x)
        rw [← List.map_set, HS.out] at this
        exact this
      case measure => simp [intOf]; omega
    · obtain rfl : N = k := by omega
      have hl : (List.replicate N x).length = N := List.length_replicate
      have hwl : W64L (List.replicate N x) := by
        intro y hy
        obtain rfl := List.eq_of_mem_replicate hy
        exact hx
      have hvb := hH.out.1
      rw [fillX_all] at hvb
      have hfs := hvb.fsl hwl
      rw [hl] at hfs
      have HF := Lib.hid (fun W (hw : Below wr.heap.size wr W) => hfs.grow hw)
      have HBr := Lib.hid hH.out.2
      have HE := Lib.hid (fun W (hw : Below wr.heap.size wr W) => sexact_any (some ⟨g, 0, none⟩) N (List.replicate N x) 0 1 1 W (HF.out W hw) (HT.out W (HBr.out.trans (hw.mono HBr.out.size))))
      have HBk := Lib.hid (fun W (hw : Below wr.heap.size wr W) => blocked_any (some ⟨g, 0, none⟩) N (List.replicate N x) 65536 W (HF.out W hw))
      have HAl := Lib.hid (fun W (hw : Below wr.heap.size wr W) => salike_any (some ⟨g, 0, none⟩) N (List.replicate N x) 8 W (HF.out W hw) (HT.out W (HBr.out.trans (hw.mono HBr.out.size))))
      rw [hl] at HE HBk HAl
      unfold pol at HE
      have HX1 : Hid (∀ r er, ExR (List.replicate N x) 0 1 1 r er → er = if 65536 < N then 2 else 0) := fun r er h => by
        have := exr_pass h (fun _ => sumL_ok (by rw [hl]; omega))
        rw [hl] at this; exact this
      have HX2 : Hid (∀ r er, BlR (List.replicate N x) 65536 r er → er = if 65536 < N then 2 else 0) := fun r er h => by
        have := blr_long h
        rw [hl] at this; exact this
      have HX3 : Hid (∀ r er, AlR (List.replicate N x) 8 r er → er = if 65536 < N then 2 else if x % 9223372036854775808 < 9218868437227405312 then 0 else 30) := fun r er h => alr_long (by omega) (by omega) h
      obtain ⟨wa, ea⟩ : ∃ W, W = wr.alloc (.cells #[.int .i64 1, .int .i64 1] 59) := ⟨_, rfl⟩
      obtain ⟨ka, ba, _⟩ := new_of ea rfl
      have HBa := Lib.hid ba
      have EA := Lib.hid ea
      obtain ⟨_, _⟩ := pol_cells ka
      clear ea ka ba hfs hvb hwl hl hH hk hq
      by_cases hlong : 65536 < N
      · rw [if_pos hlong] at HX1 HX2 HX3
        go_upto_region 13 with fail
        rw [← EA.out]
        go_wp2_with fail
        refine (HE.out wa HBa.out).mono ?_; rintro en w3 ⟨r1, e1, rfl, hr, hb⟩
        obtain rfl := HX1.out _ _ hr
        have HB3 := Lib.hid (HBa.out.trans (hb.mono HBa.out.size))
        clear hr hb
        go_wp2_with fail
        refine (HBk.out w3 HB3.out).mono ?_; rintro en w4 ⟨r2, e2, rfl, hr, hb⟩
        obtain rfl := HX2.out _ _ hr
        have HB4 := Lib.hid (HB3.out.trans (hb.mono HB3.out.size))
        clear hr hb
        go_wp2_with fail
        refine (HAl.out w4 HB4.out).mono ?_; rintro en w5 ⟨r3, e3, rfl, hr, hb⟩
        obtain rfl := HX3.out _ _ hr
        have HB5 := Lib.hid (HBr.out.trans ((HB4.out.trans (hb.mono HB4.out.size)).mono HBr.out.size))
        clear hr hb
        by_cases hfin : x % 9223372036854775808 < 9218868437227405312
        · have q1 := fun W => self_fin hfin W
          have q2 : ∀ W, (binOp .neq 36 (.float .f64 0) (.float .f64 0)).run Tryd.prog W = .ok (.bool false) W := fun W => by kernel_rfl
          clear hfin
          go_wp2_with fail
          go_ret
          exact ⟨rfl, HB5.out⟩
        · obtain ⟨r, q1, q2⟩ := self_bad (x := x) (by omega) w5
          have q3 := run_neqN (y := 0) w5.drew q2
          clear q2 hfin
          go_wp2_with fail
          go_ret
          exact ⟨rfl, HB5.out.drew⟩
      · rw [if_neg hlong] at HX1 HX2 HX3
        go_upto_region 13 with fail
        rw [← EA.out]
        go_wp2_with fail
        refine (HE.out wa HBa.out).mono ?_; rintro en w3 ⟨r1, e1, rfl, hr, hb⟩
        obtain rfl := HX1.out _ _ hr
        have HB3 := Lib.hid (HBa.out.trans (hb.mono HBa.out.size))
        clear hr hb
        go_wp2_with fail
        refine (HBk.out w3 HB3.out).mono ?_; rintro en w4 ⟨r2, e2, rfl, hr, hb⟩
        obtain rfl := HX2.out _ _ hr
        have HB4 := Lib.hid (HB3.out.trans (hb.mono HB3.out.size))
        clear hr hb
        by_cases hfin : x % 9223372036854775808 < 9218868437227405312
        · rw [if_pos hfin] at HX3
          have q1 := fun W => self_fin hfin W
          have q2 : ∀ W, (binOp .neq 36 (.float .f64 0) (.float .f64 0)).run Tryd.prog W = .ok (.bool false) W := fun W => by kernel_rfl
          clear hfin
          go_wp2_with fail
          refine (HAl.out w4 HB4.out).mono ?_; rintro en w5 ⟨r3, e3, rfl, hr, hb⟩
          obtain rfl := HX3.out _ _ hr
          have HB5 := Lib.hid (HBr.out.trans ((HB4.out.trans (hb.mono HB4.out.size)).mono HBr.out.size))
          clear hr hb
          go_wp2_with fail
          go_ret
          exact ⟨rfl, HB5.out⟩
        · rw [if_neg hfin] at HX3
          go_wp2_with fail
          refine (HAl.out w4 HB4.out).mono ?_; rintro en w5 ⟨r3, e3, rfl, hr, hb⟩
          obtain rfl := HX3.out _ _ hr
          have HB5 := Lib.hid (HBr.out.trans ((HB4.out.trans (hb.mono HB4.out.size)).mono HBr.out.size))
          clear hr hb
          obtain ⟨r, q1, q2⟩ := self_bad (x := x) (by omega) w5
          have q3 := run_neqN (y := 0) w5.drew q2
          clear q2 hfin
          go_wp2_with fail
          go_ret
          exact ⟨rfl, HB5.out.drew⟩
end Go.Proofs.YthdbapibbdkclaaDoor
