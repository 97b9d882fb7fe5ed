/- Contract of steelyardref07.Acc.Merge. No statement of the seat is proved here. -/
import Derived.Test.YteahdgbokjbgcaaGreatDoorProg
import Derived.Test.YteahdgbokjbgcaaGreatDoorYKl
import Derived.Test.YteahdgbokjbgcaaGreatDoorYTh
import Derived.StillTailTactics
namespace Go.Proofs.YteahdgbokjbgcaaGreatDoor
open Go.RowKit
set_option maxRecDepth 10000
set_option linter.unusedVariables false
set_option linter.unusedSimpArgs false

theorem sum_lt2 {T U : Int} (h : ¬ Gt T) (h' : ¬ Gt U) : (T + U).natAbs < 2 ^ (32 * 133) := by
  obtain ⟨k, hk⟩ : ∃ k, k = 4238 := ⟨_, rfl⟩
  obtain ⟨j, hj⟩ : ∃ j, j = 32 * 133 := ⟨_, rfl⟩
  rw [← hj]
  have h3 := gt_nat h (k := k) (by omega)
  have h4 := gt_nat h' (k := k) (by omega)
  have h6 : 2 ^ (k + 1) ≤ 2 ^ j := Nat.pow_le_pow_right (by decide) (by omega)
  rw [Nat.pow_succ] at h6
  omega
set_option maxHeartbeats 32000000 in
theorem rmerge7_any (A B : Ac) (db : D) (a' : Option Addr) (c' g b' : Nat) (w : World) (hA : A.Ok) (hB : B.Ok) (hdb : DT db B.T) (ho : Own w 118 b' a' c' (words db.m)) (hR : RAc w g A) :
    Calls Tryz.prog 105 #[.pointer (some ⟨g, 0, none⟩), .agg (rac db a' c' B)] w (RAccR (mergeR A B) w g) := by
  have hlt := hR.lt
  obtain ⟨d, a, c, hg, hown, hdt⟩ := hR
  obtain ⟨R, hRR⟩ : ∃ R, R = mergeR A B := ⟨_, rfl⟩
  rw [← hRR]
  have hR1 : 1099511627776 < A.all + B.all → R = (2, A) := fun h => by rw [hRR]; unfold mergeR; rw [if_pos (.inl h)]
  have hR2 : Gt (A.T + B.T) → R = (2, A) := fun h => by rw [hRR]; unfold mergeR; rw [if_pos (.inr h)]
  have hR3 : ¬ 1099511627776 < A.all + B.all → ¬ Gt (A.T + B.T) → R = (0, A.sum B) := fun h h' => by rw [hRR]; unfold mergeR; rw [if_neg (by rintro (h2 | h2); exact h h2; exact h' h2)]
  have HR1 := Lib.hid hR1; have HR2 := Lib.hid hR2; have HR3 := Lib.hid hR3
  obtain ⟨w1, e1⟩ : ∃ W, W = w.alloc (.cells (rac db a' c' B) 59) := ⟨_, rfl⟩
  obtain ⟨k1, b1, s1⟩ := new_of e1 rfl
  have hg1 := blk_below hg b1 hlt
  have hown1 := hown.grow b1
  have ho1 := ho.grow b1
  have hG1 : w.grownBy w1 (some g) := ⟨b1.os, b1.tape, b1.output, b1.size, fun j hj _ => b1.block j hj⟩
  obtain ⟨dn, hdn, hdn2⟩ := hdt.addZ hdb rg_dt (sum_lt2 hA.v hB.v)
  have HAd : Hid (∀ W, Below w1.heap.size w1 W → Calls Tryz.prog 71 #[DV d a c, DV db a' c'] W (OutDE dn W)) := fun W hW => qAdd hdt.is hdt.ok hdb.is hdb.ok hdn a a' c c' W ((hown1.grow hW).arg hdt.ok) ((ho1.grow hW).arg hdb.ok)
  have HGr : Hid (∀ W a5 c5 b5, Own W 118 b5 a5 c5 (words dn.m) → Calls Tryz.prog 207 #[DV dn a5 c5] W fun en w' => en = .returned (.bool (decide (Gt (A.T + B.T)))) ∧ Below W.heap.size W w') := fun W a5 c5 b5 ho => great7_any hdn2 a5 c5 W (ho.arg hdn2.ok)
  have HDn := Lib.hid hdn2
  have HDt := Lib.hid hdt
  have HK : Hid (∀ W, Below w1.heap.size w1 W → W.heap[g]? = some (.cells (rac d a c A) 59 (0, 0)) ∧ W.heap[w.heap.size]? = some (.cells (rac db a' c' B) 59 (0, 0))) := fun W hW => ⟨blk_below hg1 hW (by omega), blk_below k1 hW (by omega)⟩
  have HGw := Lib.hid hG1
  have hlt1 : g < w1.heap.size := by omega
  have HOwn : Hid (∀ W, Below w1.heap.size w1 W → Own W 118 0 a c (words d.m)) := fun W hW => hown1.grow hW
  have HS1 : Hid (w.heap.size < w1.heap.size ∧ w.heap.size ≠ g) := ⟨by omega, by omega⟩
  have E1 := Lib.hid e1
  obtain ⟨_, p2, p3, p4, p5, p6, p7, p8⟩ := hA
  obtain ⟨_, q2', q3', q4', q5', q6', q7', q8'⟩ := hB
  obtain ⟨k0, hk0⟩ : ∃ k, k = w.heap.size := ⟨_, rfl⟩
  rw [← hk0] at HK HS1
  have HK0 := Lib.hid hk0
  clear hRR hR1 hR2 hR3 e1 k1 b1 s1 hg hown hdt ho hg1 hown1 ho1 hG1 hdn hdn2 hdb hk0
  unfold rac at E1
  unfold DV at HAd
  unfold rac
  go_enter Tryz.func105, Tryz.ntmps105
  go_upto_region 1 with fail
  rw [← E1.out, ← HK0.out]
  obtain ⟨q0, q1, q2, _, _, _, _, _, _⟩ := rac_cells (HK.out w1 (Below.refl _ _)).1
  obtain ⟨r0, r1, r2, _, _, _, _, _, _⟩ := rac_cells (HK.out w1 (Below.refl _ _)).2
  have m5 : w1.heap.size ≠ g := by omega
  have m6 : w1.heap.size ≠ k0 := by have := HS1.out.1; omega
  go_region_held3 (fun W => W.cell? ⟨g, 0, none⟩ = some (.bool d.neg) ∧ W.cell? ⟨g, 1, none⟩ = some (.slice a (words d.m).length c) ∧ W.cell? ⟨g, 2, none⟩ = some (.int .i64 d.exp) ∧ W.cell? ⟨k0, 0, none⟩ = some (.bool db.neg) ∧ W.cell? ⟨k0, 1, none⟩ = some (.slice a' (words db.m).length c') ∧ W.cell? ⟨k0, 2, none⟩ = some (.int .i64 db.exp)) (go_keep) (first
      | (go_at_call 71; refine (HAd.out w1.drew (Below.refl _ _).drew).mono ?_; rintro en w5 ⟨a5, c5, rfl, ho5, hb5⟩; simp only [DV]; have HB5 : Hid (Below w1.heap.size w1 w5) := below_drewN (n := 1) hb5; have n5 : w5.heap.size ≠ g := (by have := HB5.out.size; omega); have n6 : w5.heap.size ≠ k0 := (by have := HB5.out.size; have := HS1.out.1; omega); obtain ⟨q0, q1, q2, _, _, _, _, _, _⟩ := rac_cells (HK.out w5 HB5.out).1; obtain ⟨r0, r1, r2, _, _, _, _, _, _⟩ := rac_cells (HK.out w5 HB5.out).2)
      | (go_at_call 71; refine (HAd.out (w1.alloc (.cells #[.bool false, .slice none 0 0, .int .i64 0] 46)).drew ((Below.refl _ _).alloc (Nat.le_refl _) _).drew).mono ?_; rintro en w5 ⟨a5, c5, rfl, ho5, hb5⟩; simp only [DV]; have HB5 : Hid (Below w1.heap.size w1 w5) := ((Below.refl _ _).alloc (Nat.le_refl _) _).drew.trans (hb5.mono (by simp)); have j5 := (Cel.new w1 (.bool false) (.slice none 0 0) (.int .i64 0)).below (below_drewN (n := 1) hb5) (by simp); obtain ⟨q0, q1, q2, _, _, _, _, _, _⟩ := rac_cells (HK.out w5 HB5.out).1; obtain ⟨r0, r1, r2, _, _, _, _, _, _⟩ := rac_cells (HK.out w5 HB5.out).2; obtain ⟨_, _, _, _, _, _⟩ := j5.facts))
  all_goals
    (first
      | (obtain ⟨w6, e6⟩ : ∃ W, W = w5.alloc (.cells #[.bool dn.neg, .slice a5 (words dn.m).length c5, .int .i64 dn.exp] 46) := ⟨_, rfl⟩
         rw [← e6]
         obtain ⟨K6, z6, _⟩ := new_cel e6 rfl
         have HO6 : Own w6 118 0 a5 c5 (words dn.m) := (ho5.grow z6).mono (Nat.zero_le _)
         have HB6 := Lib.hid (HB5.out.trans (z6.mono HB5.out.size))
         have hp6 : w1.heap.size ≤ w5.heap.size := HB5.out.size
         obtain ⟨p6', e7⟩ : ∃ p, p = w5.heap.size := ⟨_, rfl⟩
         rw [← e7] at K6 hp6 ⊢
         clear e7 e6 z6)
      | (obtain ⟨w6, e6⟩ : ∃ W, W = wr3 w5 w1.heap.size (.bool dn.neg) (.slice a5 (words dn.m).length c5) (.int .i64 dn.exp) := ⟨_, rfl⟩
         have e8 := e6
         unfold wr3 at e8
         rw [← e8]
         have K6 := cel_wr_same e6 j5
         have HO6 : Own w6 118 0 a5 c5 (words dn.m) := (own_wr e6 (ho5.mono (b := w1.heap.size + 1) (by simp)) (by omega)).mono (Nat.zero_le _)
         have HB6 := Lib.hid (below_wr e6 HB5.out (Nat.le_refl _))
         obtain ⟨p6', e7⟩ : ∃ p, p = w1.heap.size := ⟨_, rfl⟩
         have hp6 : w1.heap.size ≤ p6' := by omega
         rw [← e7] at K6 ⊢
         clear e8 e7 e6 j5))
    clear ho5 hb5
    try clear n5 n6
    have HO := Lib.hid HO6
    have hp7 : p6' < w6.heap.size := K6.lt
    have HK6 := Lib.hid K6
    clear HO6 K6 q0 q1 q2 r0 r1 r2
    obtain ⟨z0, z1, z2, _, _, _⟩ := HK6.out.facts
    have HGr6 := Lib.hid (fun n => HGr.out (w6.drewN n) a5 c5 _ HO.out)
    unfold DV at HGr6
    obtain ⟨_, _, _, _, _, _, _, _, u8⟩ := rac_cells (HK.out w6 HB6.out).1
    obtain ⟨_, _, _, _, _, _, _, _, v8⟩ := rac_cells (HK.out w6 HB6.out).2
    have x4 : IntKind.i64.wrap (A.all + B.all) = A.all + B.all := by rw [IntKind.wrap_i64]; omega
    by_cases hall : 1099511627776 < A.all + B.all
    · have e9 : decide (1099511627776 < A.all + B.all) = true := decide_eq_true hall
      have HR := Lib.hid (HR1.out hall)
      clear hall
      go_wp2_with fail
      go_quiet (fail)
      go_wp2_with fail
      go_ret
      rw [HR.out]
      exact ⟨rfl, ⟨d, a, c, (HK.out w6 HB6.out).1, HOwn.out w6 HB6.out, HDt.out⟩, gr_trans HGw.out (gr_below' (below_drewN' HB6.out) hlt1)⟩
    have e9 : decide (1099511627776 < A.all + B.all) = false := decide_eq_false hall
    have HALL := Lib.hid hall
    clear hall
    obtain ⟨G, hG⟩ : ∃ G, G = decide (Gt (A.T + B.T)) := ⟨_, rfl⟩
    rw [← hG] at HGr6
    have HGg := Lib.hid hG
    clear hG
    go_wp2_with fail
    go_region_held3 (fun W => W.cell? ⟨g, 8, none⟩ = some (.int .i64 A.all) ∧ W.cell? ⟨k0, 8, none⟩ = some (.int .i64 B.all) ∧ W.cell? ⟨p6', 0, none⟩ = some (.bool dn.neg) ∧ W.cell? ⟨p6', 1, none⟩ = some (.slice a5 (words dn.m).length c5) ∧ W.cell? ⟨p6', 2, none⟩ = some (.int .i64 dn.exp)) (go_keep) (first
      | (go_at_call 207; refine (HGr6.out 1).mono ?_; rintro en w7 ⟨rfl, hb7'⟩; have hb7 : Below w6.heap.size w6 w7 := below_drewN (n := 1) hb7'; have HB7 := Lib.hid (HB6.out.trans (hb7.mono HB6.out.size)); have HO7 := Lib.hid (HO.out.grow hb7); have HK7 := Lib.hid (HK6.out.below hb7 hp7); obtain ⟨_, _, _, _, _, _, _, _, _⟩ := rac_cells (HK.out w7 HB7.out).1; obtain ⟨_, _, _, _, _, _, _, _, _⟩ := rac_cells (HK.out w7 HB7.out).2; obtain ⟨_, _, _, _, _, _⟩ := HK7.out.facts; clear hb7' hb7))
    cases G
    case true =>
      have HR := Lib.hid (HR2.out (of_decide_eq_true HGg.out.symm))
      go_wp2_with fail
      go_ret
      rw [HR.out]
      exact ⟨rfl, ⟨d, a, c, (HK.out w7 HB7.out).1, HOwn.out w7 HB7.out, HDt.out⟩, gr_trans HGw.out (gr_below' HB7.out hlt1)⟩
    case false =>
      have HR := Lib.hid (HR3.out HALL.out (of_decide_eq_false HGg.out.symm))
      have hrow := (HK.out w7 HB7.out).1
      have f0 := frozen_of_row w7 g 0 _ _ hrow
      have f1 := frozen_of_row w7 g 1 _ _ hrow
      have f2 := frozen_of_row w7 g 2 _ _ hrow
      have HRow := Lib.hid hrow
      have hpg : p6' ≠ g := by omega
      have hkg : k0 ≠ g := HS1.out.2
      clear hrow
      go_upto_region 5 with fail
      obtain ⟨w8, e8⟩ : ∃ W, W = (((w7.setCell ⟨g, 0, none⟩ (.bool dn.neg)).setCell ⟨g, 1, none⟩ (.slice a5 (words dn.m).length c5)).setCell ⟨g, 2, none⟩ (.int .i64 dn.exp)) := ⟨_, rfl⟩
      rw [← e8]
      have R8 : Hid (w8.heap[g]? = some (.cells (rac dn a5 c5 A) 59 (0, 0))) := by
        rw [e8]
        exact row_setA (row_setA (row_setA (l := (rac d a c A).toList) HRow.out 0 (.bool dn.neg)) 1 (.slice a5 (words dn.m).length c5)) 2 (.int .i64 dn.exp)
      have G8 : Hid (w.grownBy w8 (some g)) := by rw [e8]; exact grown_set' (grown_set' (grown_set' (gr_trans HGw.out (gr_below' HB7.out hlt1)) _ _) _ _) _ _
      have O8 : Hid (Own w8 118 0 a5 c5 (words dn.m)) := own_grown HO7.out (by rw [e8]; exact grown_set' (grown_set' (grown_set' (grown_refl _ _) _ _) _ _) _ _) (own_ne HO7.out HRow.out (by decide))
      have B8 : Hid (w8.heap[k0]? = some (.cells (rac db a' c' B) 59 (0, 0))) := by
        rw [e8]
        exact blk_grown' (HK.out w7 HB7.out).2 (grown_set' (grown_set' (grown_set' (grown_refl w7 (some g)) 0 (.bool dn.neg)) 1 (.slice a5 (words dn.m).length c5)) 2 (.int .i64 dn.exp)) hkg
      clear e8 HRow HK HOwn HGr HGr6 HB6 HB7 HO HO7 HK6 HK7 HGw HAd f0 f1 f2 E1 HK0
      obtain ⟨_, _, _, y0, y1, y2, y3, y4, y5⟩ := rac_cells R8.out
      obtain ⟨_, _, _, v0, v1, v2, v3, v4, v5⟩ := rac_cells B8.out
      clear y1 y2 y3 y4 y5 v1 v2 v3 v4 v5
      try dsimp only at y0
      have x3 := frozen_of_row w8 g 3 _ _ R8.out
      have x5 : IntKind.i64.wrap (A.nan + B.nan) = A.nan + B.nan := by have := HALL.out; rw [IntKind.wrap_i64]; omega
      go_wp2_with fail
      go_still_tail 12, (by kernel_rfl)
      go_wp2_with fail
      obtain ⟨w9, e9⟩ : ∃ W, W = (w8.setCell ⟨g, 3, none⟩ (.int .i64 (A.nan + B.nan))).drew := ⟨_, rfl⟩
      rw [← e9]
      have R9 : Hid (w9.heap[g]? = some (.cells (rac dn a5 c5 { A with nan := A.nan + B.nan }) 59 (0, 0))) := by rw [e9]; exact row_setA (l := (rac dn a5 c5 A).toList) R8.out 3 (.int .i64 (A.nan + B.nan))
      have G9 : Hid (w.grownBy w9 (some g)) := by rw [e9]; exact gr_drew (grown_set' G8.out _ _)
      have O9 : Hid (Own w9 118 0 a5 c5 (words dn.m)) := own_grown O8.out (by rw [e9]; exact gr_drew (grown_set' (grown_refl _ _) _ _)) (own_ne O8.out R8.out (by decide))
      have B9 : Hid (w9.heap[k0]? = some (.cells (rac db a' c' B) 59 (0, 0))) := by rw [e9]; exact blk_grown' B8.out (gr_drew (grown_set' (grown_refl w8 (some g)) 3 (.int .i64 (A.nan + B.nan)))) hkg
      clear e9 R8 G8 O8 B8 y0 v0 x3 x5
      obtain ⟨_, _, _, y0, y1, y2, y3, y4, y5⟩ := rac_cells R9.out
      obtain ⟨_, _, _, v0, v1, v2, v3, v4, v5⟩ := rac_cells B9.out
      clear y0 y2 y3 y4 y5 v0 v2 v3 v4 v5
      try dsimp only at y1
      have x3 := frozen_of_row w9 g 4 _ _ R9.out
      have x5 : IntKind.i64.wrap (A.up + B.up) = A.up + B.up := by have := HALL.out; rw [IntKind.wrap_i64]; omega
      go_wp2_with fail
      go_still_tail 12, (by kernel_rfl)
      go_wp2_with fail
      obtain ⟨w10, e10⟩ : ∃ W, W = (w9.setCell ⟨g, 4, none⟩ (.int .i64 (A.up + B.up))).drew := ⟨_, rfl⟩
      rw [← e10]
      have R10 : Hid (w10.heap[g]? = some (.cells (rac dn a5 c5 { A with nan := A.nan + B.nan, up := A.up + B.up }) 59 (0, 0))) := by rw [e10]; exact row_setA (l := (rac dn a5 c5 { A with nan := A.nan + B.nan }).toList) R9.out 4 (.int .i64 (A.up + B.up))
      have G10 : Hid (w.grownBy w10 (some g)) := by rw [e10]; exact gr_drew (grown_set' G9.out _ _)
      have O10 : Hid (Own w10 118 0 a5 c5 (words dn.m)) := own_grown O9.out (by rw [e10]; exact gr_drew (grown_set' (grown_refl _ _) _ _)) (own_ne O9.out R9.out (by decide))
      have B10 : Hid (w10.heap[k0]? = some (.cells (rac db a' c' B) 59 (0, 0))) := by rw [e10]; exact blk_grown' B9.out (gr_drew (grown_set' (grown_refl w9 (some g)) 4 (.int .i64 (A.up + B.up)))) hkg
      clear e10 R9 G9 O9 B9 y1 v1 x3 x5
      obtain ⟨_, _, _, y0, y1, y2, y3, y4, y5⟩ := rac_cells R10.out
      obtain ⟨_, _, _, v0, v1, v2, v3, v4, v5⟩ := rac_cells B10.out
      clear y0 y1 y3 y4 y5 v0 v1 v3 v4 v5
      try dsimp only at y2
      have x3 := frozen_of_row w10 g 5 _ _ R10.out
      have x5 : IntKind.i64.wrap (A.down + B.down) = A.down + B.down := by have := HALL.out; rw [IntKind.wrap_i64]; omega
      go_wp2_with fail
      go_still_tail 12, (by kernel_rfl)
      go_wp2_with fail
      obtain ⟨w11, e11⟩ : ∃ W, W = (w10.setCell ⟨g, 5, none⟩ (.int .i64 (A.down + B.down))).drew := ⟨_, rfl⟩
      rw [← e11]
      have R11 : Hid (w11.heap[g]? = some (.cells (rac dn a5 c5 { A with nan := A.nan + B.nan, up := A.up + B.up, down := A.down + B.down }) 59 (0, 0))) := by rw [e11]; exact row_setA (l := (rac dn a5 c5 { A with nan := A.nan + B.nan, up := A.up + B.up }).toList) R10.out 5 (.int .i64 (A.down + B.down))
      have G11 : Hid (w.grownBy w11 (some g)) := by rw [e11]; exact gr_drew (grown_set' G10.out _ _)
      have O11 : Hid (Own w11 118 0 a5 c5 (words dn.m)) := own_grown O10.out (by rw [e11]; exact gr_drew (grown_set' (grown_refl _ _) _ _)) (own_ne O10.out R10.out (by decide))
      have B11 : Hid (w11.heap[k0]? = some (.cells (rac db a' c' B) 59 (0, 0))) := by rw [e11]; exact blk_grown' B10.out (gr_drew (grown_set' (grown_refl w10 (some g)) 5 (.int .i64 (A.down + B.down)))) hkg
      clear e11 R10 G10 O10 B10 y2 v2 x3 x5
      obtain ⟨_, _, _, y0, y1, y2, y3, y4, y5⟩ := rac_cells R11.out
      obtain ⟨_, _, _, v0, v1, v2, v3, v4, v5⟩ := rac_cells B11.out
      clear y0 y1 y2 y4 y5 v0 v1 v2 v4 v5
      try dsimp only at y3
      have x3 := frozen_of_row w11 g 6 _ _ R11.out
      have x5 : IntKind.i64.wrap (A.minus + B.minus) = A.minus + B.minus := by have := HALL.out; rw [IntKind.wrap_i64]; omega
      go_wp2_with fail
      go_still_tail 12, (by kernel_rfl)
      go_wp2_with fail
      obtain ⟨w12, e12⟩ : ∃ W, W = (w11.setCell ⟨g, 6, none⟩ (.int .i64 (A.minus + B.minus))).drew := ⟨_, rfl⟩
      rw [← e12]
      have R12 : Hid (w12.heap[g]? = some (.cells (rac dn a5 c5 { A with nan := A.nan + B.nan, up := A.up + B.up, down := A.down + B.down, minus := A.minus + B.minus }) 59 (0, 0))) := by rw [e12]; exact row_setA (l := (rac dn a5 c5 { A with nan := A.nan + B.nan, up := A.up + B.up, down := A.down + B.down }).toList) R11.out 6 (.int .i64 (A.minus + B.minus))
      have G12 : Hid (w.grownBy w12 (some g)) := by rw [e12]; exact gr_drew (grown_set' G11.out _ _)
      have O12 : Hid (Own w12 118 0 a5 c5 (words dn.m)) := own_grown O11.out (by rw [e12]; exact gr_drew (grown_set' (grown_refl _ _) _ _)) (own_ne O11.out R11.out (by decide))
      have B12 : Hid (w12.heap[k0]? = some (.cells (rac db a' c' B) 59 (0, 0))) := by rw [e12]; exact blk_grown' B11.out (gr_drew (grown_set' (grown_refl w11 (some g)) 6 (.int .i64 (A.minus + B.minus)))) hkg
      clear e12 R11 G11 O11 B11 y3 v3 x3 x5
      obtain ⟨_, _, _, y0, y1, y2, y3, y4, y5⟩ := rac_cells R12.out
      obtain ⟨_, _, _, v0, v1, v2, v3, v4, v5⟩ := rac_cells B12.out
      clear y0 y1 y2 y3 y5 v0 v1 v2 v3 v5
      try dsimp only at y4
      have x3 := frozen_of_row w12 g 7 _ _ R12.out
      have x5 : IntKind.i64.wrap (A.plus + B.plus) = A.plus + B.plus := by have := HALL.out; rw [IntKind.wrap_i64]; omega
      go_wp2_with fail
      go_still_tail 12, (by kernel_rfl)
      go_wp2_with fail
      obtain ⟨w13, e13⟩ : ∃ W, W = (w12.setCell ⟨g, 7, none⟩ (.int .i64 (A.plus + B.plus))).drew := ⟨_, rfl⟩
      rw [← e13]
      have R13 : Hid (w13.heap[g]? = some (.cells (rac dn a5 c5 { A with nan := A.nan + B.nan, up := A.up + B.up, down := A.down + B.down, minus := A.minus + B.minus, plus := A.plus + B.plus }) 59 (0, 0))) := by rw [e13]; exact row_setA (l := (rac dn a5 c5 { A with nan := A.nan + B.nan, up := A.up + B.up, down := A.down + B.down, minus := A.minus + B.minus }).toList) R12.out 7 (.int .i64 (A.plus + B.plus))
      have G13 : Hid (w.grownBy w13 (some g)) := by rw [e13]; exact gr_drew (grown_set' G12.out _ _)
      have O13 : Hid (Own w13 118 0 a5 c5 (words dn.m)) := own_grown O12.out (by rw [e13]; exact gr_drew (grown_set' (grown_refl _ _) _ _)) (own_ne O12.out R12.out (by decide))
      have B13 : Hid (w13.heap[k0]? = some (.cells (rac db a' c' B) 59 (0, 0))) := by rw [e13]; exact blk_grown' B12.out (gr_drew (grown_set' (grown_refl w12 (some g)) 7 (.int .i64 (A.plus + B.plus)))) hkg
      clear e13 R12 G12 O12 B12 y4 v4 x3 x5
      obtain ⟨_, _, _, y0, y1, y2, y3, y4, y5⟩ := rac_cells R13.out
      obtain ⟨_, _, _, v0, v1, v2, v3, v4, v5⟩ := rac_cells B13.out
      clear y0 y1 y2 y3 y4 v0 v1 v2 v3 v4
      try dsimp only at y5
      have x3 := frozen_of_row w13 g 8 _ _ R13.out
      have x5 : IntKind.i64.wrap (A.all + B.all) = A.all + B.all := by have := HALL.out; rw [IntKind.wrap_i64]; omega
      go_wp2_with fail
      go_still_tail 12, (by kernel_rfl)
      go_wp2_with fail
      obtain ⟨w14, e14⟩ : ∃ W, W = (w13.setCell ⟨g, 8, none⟩ (.int .i64 (A.all + B.all))).drew := ⟨_, rfl⟩
      rw [← e14]
      have R14 : Hid (w14.heap[g]? = some (.cells (rac dn a5 c5 { A with nan := A.nan + B.nan, up := A.up + B.up, down := A.down + B.down, minus := A.minus + B.minus, plus := A.plus + B.plus, all := A.all + B.all }) 59 (0, 0))) := by rw [e14]; exact row_setA (l := (rac dn a5 c5 { A with nan := A.nan + B.nan, up := A.up + B.up, down := A.down + B.down, minus := A.minus + B.minus, plus := A.plus + B.plus }).toList) R13.out 8 (.int .i64 (A.all + B.all))
      have G14 : Hid (w.grownBy w14 (some g)) := by rw [e14]; exact gr_drew (grown_set' G13.out _ _)
      have O14 : Hid (Own w14 118 0 a5 c5 (words dn.m)) := own_grown O13.out (by rw [e14]; exact gr_drew (grown_set' (grown_refl _ _) _ _)) (own_ne O13.out R13.out (by decide))
      have B14 : Hid (w14.heap[k0]? = some (.cells (rac db a' c' B) 59 (0, 0))) := by rw [e14]; exact blk_grown' B13.out (gr_drew (grown_set' (grown_refl w13 (some g)) 8 (.int .i64 (A.all + B.all)))) hkg
      clear e14 R13 G13 O13 B13 y5 v5 x3 x5
      go_wp2_with fail
      go_ret
      rw [HR.out]
      exact ⟨rfl, ⟨dn, a5, c5, R14.out, O14.out, HDn.out⟩, G14.out⟩
end Go.Proofs.YteahdgbokjbgcaaGreatDoor
