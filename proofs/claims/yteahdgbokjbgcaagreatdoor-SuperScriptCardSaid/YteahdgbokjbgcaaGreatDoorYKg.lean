/- The document's accumulators: contracts of steelyardref07.Has, Acc.Take. No statement of the seat is proved here. -/
import Derived.Test.YteahdgbokjbgcaaGreatDoorProg
import Derived.Test.YteahdgbokjbgcaaGreatDoorYNQ
namespace Go.Proofs.YteahdgbokjbgcaaGreatDoor
open Go.RowKit
set_option maxRecDepth 10000
set_option linter.unusedVariables false
set_option linter.unusedSimpArgs false

def has7 (A : Ac) (k : Int) : Int := if k = 5 then A.nan else if k = 3 then A.up else if k = 4 then A.down else if k = 1 then A.minus else if k = 2 then A.plus else A.all - A.nan - A.up - A.down - A.minus - A.plus
set_option maxHeartbeats 2000000 in
theorem has7_any (A : Ac) (k : Int) (w : World) (hA : A.Ok) (hk0 : 0 ≤ k) (hk5 : k ≤ 5) : Calls Tryz.prog 210 #[spcV A, .int .i64 k] w fun en w' => en = .returned (.int .i64 (has7 A k)) ∧ Below w.heap.size w w' := by
  obtain ⟨_, k2, k3, k4, k5, k6, k7, k8⟩ := hA
  have w1 : IntKind.i64.wrap (A.all - A.nan) = A.all - A.nan := by rw [IntKind.wrap_i64]; omega
  have w2 : IntKind.i64.wrap (A.all - A.nan - A.up) = A.all - A.nan - A.up := by rw [IntKind.wrap_i64]; omega
  have w3 : IntKind.i64.wrap (A.all - A.nan - A.up - A.down) = A.all - A.nan - A.up - A.down := by rw [IntKind.wrap_i64]; omega
  have w4 : IntKind.i64.wrap (A.all - A.nan - A.up - A.down - A.minus) = A.all - A.nan - A.up - A.down - A.minus := by rw [IntKind.wrap_i64]; omega
  have w5 : IntKind.i64.wrap (A.all - A.nan - A.up - A.down - A.minus - A.plus) = A.all - A.nan - A.up - A.down - A.minus - A.plus := by rw [IntKind.wrap_i64]; omega
  unfold spcV
  have hcs : k = 5 ∨ k = 3 ∨ k = 4 ∨ k = 1 ∨ k = 2 ∨ k = 0 := by omega
  clear hk0 hk5 k2 k3 k4 k5 k6 k7 k8
  rcases hcs with rfl | rfl | rfl | rfl | rfl | rfl
  all_goals
    go_enter Tryz.func210, Tryz.ntmps210
    go_wp2_with fail
    go_ret
    exact ⟨rfl, (Below.refl _ _).alloc (Nat.le_refl _) _⟩
theorem kT_cntL (A t : Ac) {k : Int} (h : t = kT k t.T) : cnt7 A k (-1) = { A.less t with T := A.T } := by
  rw [h]
  unfold cnt7 kT Ac.less
  split
  · simp; omega
  · split
    · simp; omega
    · split
      · simp; omega
      · split
        · simp; omega
        · split
          · simp; omega
          · simp; omega
theorem take_has {A t : Ac} {k : Int} {d : D} (hA : A.Ok) (ht : ThOk t k d) (hk0 : 0 ≤ k) (hk5 : k ≤ 5) : takeR A t = if has7 A k = 0 then (3, A) else if Gt (A.T - t.T) then (2, A) else (0, A.less t) := by
  obtain ⟨_, k2, k3, k4, k5, k6, k7, k8⟩ := hA
  have hh : A.Has t ↔ has7 A k ≠ 0 := by
    rw [ht.eq]
    unfold Ac.Has has7 kT
    have hcs : k = 5 ∨ k = 3 ∨ k = 4 ∨ k = 1 ∨ k = 2 ∨ k = 0 := by omega
    rcases hcs with rfl | rfl | rfl | rfl | rfl | rfl <;> simp <;> omega
  unfold takeR
  by_cases h : has7 A k = 0
  · rw [if_pos h, if_neg (fun h' => hh.1 h' h)]
  · rw [if_neg h, if_pos (hh.2 h)]
set_option maxHeartbeats 16000000 in
theorem rtake7_any (A t : Ac) (k : Int) (dt : D) (a' : Option Addr) (c' g b' : Nat) (w : World) (hA : A.Ok) (hk0 : 0 ≤ k) (hk5 : k ≤ 5) (ht : ThOk t k dt) (hM1 : -Mx ≤ t.T) (hM2 : t.T ≤ Mx) (ho : Own w 118 b' a' c' (words dt.m)) (hR : RAc w g A) :
    Calls Tryz.prog 100 #[.pointer (some ⟨g, 0, none⟩), thV k dt a' c'] w (RAccR (takeR A t) w g) := by
  have hlt := hR.lt
  obtain ⟨d, a, c, hg, hown, hdt⟩ := hR
  obtain ⟨x0, x1, x2, x3, x4, x5, x6, x7, x8⟩ := rac_cells hg
  obtain ⟨R, hRR⟩ : ∃ R, R = takeR A t := ⟨_, rfl⟩
  rw [← hRR]
  obtain ⟨hs, hhs⟩ : ∃ h, h = has7 A k := ⟨_, rfl⟩
  have hH := fun W => has7_any A k W hA hk0 hk5
  rw [← hhs] at hH
  have HHs := Lib.hid hH
  clear hH
  obtain ⟨w1, e1⟩ : ∃ W, W = w.alloc (.cells #[.int .i64 k, .bool dt.neg, .slice a' (words dt.m).length c', .int .i64 dt.exp] 127) := ⟨_, rfl⟩
  obtain ⟨k1, b1, s1⟩ := new_of e1 rfl
  have E1 := Lib.hid e1
  by_cases hall : hs = 0
  · have hq : (hs == 0) = true := by rw [hall]; rfl
    have HF : Hid (∀ W, Below w1.heap.size w1 W → RAc W g A ∧ w.grownBy W (some g)) := fun W hW => by
      have h1 := b1.trans (hW.mono b1.size)
      exact ⟨⟨d, a, c, blk_below hg h1 hlt, hown.grow h1, hdt⟩, ⟨h1.os, h1.tape, h1.output, h1.size, fun j hj _ => h1.block j hj⟩⟩
    have HR2 : Hid (R = (3, A)) := by show R = _; rw [hRR, take_has hA ht hk0 hk5, if_pos (by rw [← hhs]; exact hall)]
    have HCs : Hid (∀ W, Below w1.heap.size w1 W → W.heap[g]? = some (.cells (rac d a c A) 59 (0, 0)) ∧ W.cell? ⟨w.heap.size, 0, none⟩ = some (.int .i64 k)) := fun W hW => ⟨blk_below hg (b1.trans (hW.mono b1.size)) hlt, (th4_cells (blk_below k1 hW (by omega))).1⟩
    have hlt1 : g < w1.heap.size := by omega
    unfold thV spcV at *
    clear hhs hk0 hk5 hRR e1 k1 b1 s1 hg hown hdt ho ht x0 x1 x2 x3 x4 x5 x6 x7 x8 hA hall
    go_enter Tryz.func100, Tryz.ntmps100
    go_upto_region 1 with fail
    rw [← E1.out]
    obtain ⟨_, _, _, _, _, _, _, _, _⟩ := rac_cells (HCs.out w1 (Below.refl _ _)).1
    have kc := (HCs.out w1 (Below.refl _ _)).2
    go_region_held3 (fun V => V.cell? ⟨g, 3, none⟩ = some (.int .i64 A.nan) ∧ V.cell? ⟨g, 4, none⟩ = some (.int .i64 A.up) ∧ V.cell? ⟨g, 5, none⟩ = some (.int .i64 A.down) ∧ V.cell? ⟨g, 6, none⟩ = some (.int .i64 A.minus) ∧ V.cell? ⟨g, 7, none⟩ = some (.int .i64 A.plus) ∧ V.cell? ⟨g, 8, none⟩ = some (.int .i64 A.all) ∧ V.cell? ⟨w.heap.size, 0, none⟩ = some (.int .i64 k)) (go_keep) (first
      | (go_at_call 210; (with_reducible refine (HHs.out w1.drew).mono ?_); rintro en wH ⟨rfl, hbH'⟩; have hbH : Below w1.heap.size w1 wH := below_drewN (n := 1) hbH'; obtain ⟨_, _, _, _, _, _, _, _, _⟩ := rac_cells (HCs.out wH hbH).1; have kcH := (HCs.out wH hbH).2; have HbH := Lib.hid hbH; clear hbH' hbH))
    all_goals
      go_wp2_with fail
      go_ret
      rw [HR2.out]
      exact ⟨rfl, HF.out wH HbH.out⟩
  have hq : ((hs : Int) == 0) = false := by rw [beq_eq_false_iff_ne]; exact hall
  have hg1 := blk_below hg b1 hlt
  have hown1 := hown.grow b1
  have ho1 := ho.grow b1
  have hG1 : w.grownBy w1 (some g) := ⟨b1.os, b1.tape, b1.output, b1.size, fun j hj _ => b1.block j hj⟩
  obtain ⟨dq, hdq, hdq2⟩ := ht.dt.neg (by decide)
  obtain ⟨dn, hdn, hdn2⟩ := hdt.addZ hdq2 rg_dt (sum_lt hA.v (by omega) (by omega))
  rw [← Int.sub_eq_add_neg] at hdn2
  have HAd : Hid (∀ W, Below w1.heap.size w1 W → Calls Tryz.prog 149 #[DV d a c, DV dt a' c'] W (OutDE dn W)) := fun W hW => qSub hdt.is hdt.ok hdq hdn a a' c c' W ((hown1.grow hW).arg hdt.ok) ((ho1.grow hW).arg ht.dt.ok)
  have HGr : Hid (∀ W a5 c5 b5, Own W 118 b5 a5 c5 (words dn.m) → Calls Tryz.prog 207 #[DV dn a5 c5] W fun en w' => en = .returned (.bool (decide (Gt (A.T - t.T)))) ∧ Below W.heap.size W w') := fun W a5 c5 b5 ho => great7_any hdn2 a5 c5 W (ho.arg hdn2.ok)
  have HCt : Hid (∀ W, Calls Tryz.prog 208 #[spcV A, .int .i64 k, .int .i64 (-1)] W fun en w' => en = .returned (spcV (cnt7 A k (-1))) ∧ Below W.heap.size W w') := fun W => counted7_any A k (-1) W hA (.inr rfl)
  have HCe := Lib.hid (kT_cntL A t ht.eq)
  have HRa : Hid (R = if Gt (A.T - t.T) then (2, A) else (0, A.less t)) := by show R = _; rw [hRR, take_has hA ht hk0 hk5]; rw [if_neg (by rw [← hhs]; exact hall)]
  have HDn := Lib.hid hdn2
  have HC1 : Hid (∀ W, Below w1.heap.size w1 W → W.cell? ⟨g, 0, none⟩ = some (.bool d.neg) ∧ W.cell? ⟨g, 1, none⟩ = some (.slice a (words d.m).length c) ∧ W.cell? ⟨g, 2, none⟩ = some (.int .i64 d.exp) ∧ W.cell? ⟨w.heap.size, 1, none⟩ = some (.bool dt.neg) ∧ W.cell? ⟨w.heap.size, 2, none⟩ = some (.slice a' (words dt.m).length c') ∧ W.cell? ⟨w.heap.size, 3, none⟩ = some (.int .i64 dt.exp)) := by
    intro W hW
    have r := rac_cells (blk_below hg1 hW (by omega))
    have s := th4_cells (blk_below k1 hW (by omega))
    exact ⟨r.1, r.2.1, r.2.2.1, s.2.1, s.2.2.1, s.2.2.2⟩
  have HK : Hid (∀ W, Below w1.heap.size w1 W → W.heap[g]? = some (.cells (rac d a c A) 59 (0, 0)) ∧ W.cell? ⟨w.heap.size, 0, none⟩ = some (.int .i64 k)) := fun W hW => ⟨blk_below hg1 hW (by omega), (th4_cells (blk_below k1 hW (by omega))).1⟩
  have HGw := Lib.hid hG1
  have hlt1 : g < w1.heap.size := by omega
  have HOwn : Hid (∀ W, Below w1.heap.size w1 W → Own W 118 0 a c (words d.m)) := fun W hW => hown1.grow hW
  have HDt := Lib.hid hdt
  have x8' : w1.cell? ⟨g, 8, none⟩ = some (.int .i64 A.all) := (rac_cells hg1).2.2.2.2.2.2.2.2
  have HS1 := Lib.hid s1
  unfold thV spcV at *
  clear hhs hk0 hk5 hdq hdq2 hRR e1 k1 b1 s1 hall hg hown hdt ho ht x0 x1 x2 x3 x4 x5 x6 x7 x8 hA hg1 hown1 ho1 hG1 hdn hdn2 hM1 hM2
  unfold DV at HAd
  go_enter Tryz.func100, Tryz.ntmps100
  go_upto_region 1 with fail
  rw [← E1.out]
  obtain ⟨q0, q1, q2, q3, q4, q5⟩ := HC1.out w1 (Below.refl _ _)
  have kc := (HK.out w1 (Below.refl _ _)).2
  obtain ⟨_, _, _, _, _, _, _, _, _⟩ := rac_cells (HK.out w1 (Below.refl _ _)).1
  go_region_held3 (fun V => V.cell? ⟨g, 3, none⟩ = some (.int .i64 A.nan) ∧ V.cell? ⟨g, 4, none⟩ = some (.int .i64 A.up) ∧ V.cell? ⟨g, 5, none⟩ = some (.int .i64 A.down) ∧ V.cell? ⟨g, 6, none⟩ = some (.int .i64 A.minus) ∧ V.cell? ⟨g, 7, none⟩ = some (.int .i64 A.plus) ∧ V.cell? ⟨g, 8, none⟩ = some (.int .i64 A.all) ∧ V.cell? ⟨w.heap.size, 0, none⟩ = some (.int .i64 k)) (go_keep) (first
    | (go_at_call 210; (with_reducible refine (HHs.out w1.drew).mono ?_); rintro en wH ⟨rfl, hbH'⟩; have hbH : Below w1.heap.size w1 wH := below_drewN (n := 1) hbH'; obtain ⟨_, _, _, _, _, _, _, _, _⟩ := rac_cells (HK.out wH hbH).1; have kcH := (HK.out wH hbH).2; clear hbH'))
  have HC1 := Lib.hid (fun W (hW : Below wH.heap.size wH W) => HC1.out W (hbH.trans (hW.mono hbH.size)))
  have HAd := Lib.hid (fun W (hW : Below wH.heap.size wH W) => HAd.out W (hbH.trans (hW.mono hbH.size)))
  have HK := Lib.hid (fun W (hW : Below wH.heap.size wH W) => HK.out W (hbH.trans (hW.mono hbH.size)))
  have HOwn := Lib.hid (fun W (hW : Below wH.heap.size wH W) => HOwn.out W (hbH.trans (hW.mono hbH.size)))
  have HGw : Hid (w.grownBy wH (some g)) := gr_trans HGw.out (gr_below' hbH hlt1)
  have hlt1 : g < wH.heap.size := Nat.lt_of_lt_of_le hlt1 hbH.size
  have HS1 : Hid (w.heap.size < wH.heap.size) := by have := HS1.out; have := hbH.size; show _ < _; omega
  clear q0 q1 q2 q3 q4 q5 hbH kc x8'
  obtain ⟨w1, rfl⟩ : ∃ V, V = wH := ⟨_, rfl⟩
  go_wp2_with fail
  obtain ⟨q0, q1, q2, q3, q4, q5⟩ := HC1.out w1 (Below.refl _ _)
  have m5 : w1.heap.size ≠ g := by omega
  have m6 : w1.heap.size ≠ w.heap.size := by have := HS1.out; omega
  go_region_held3 (fun W => W.cell? ⟨g, 0, none⟩ = some (.bool d.neg) ∧ W.cell? ⟨g, 1, none⟩ = some (.slice a (words d.m).length c) ∧ W.cell? ⟨g, 2, none⟩ = some (.int .i64 d.exp) ∧ W.cell? ⟨w.heap.size, 1, none⟩ = some (.bool dt.neg) ∧ W.cell? ⟨w.heap.size, 2, none⟩ = some (.slice a' (words dt.m).length c') ∧ W.cell? ⟨w.heap.size, 3, none⟩ = some (.int .i64 dt.exp)) (go_keep) (first
      | (go_at_call 149; refine (HAd.out w1.drew (Below.refl _ _).drew).mono ?_; rintro en w5 ⟨a5, c5, rfl, ho5, hb5⟩; simp only [DV]; have HB5 : Hid (Below w1.heap.size w1 w5) := below_drewN (n := 1) hb5; have n5 : w5.heap.size ≠ g := (by have := HB5.out.size; omega); have n6 : w5.heap.size ≠ w.heap.size := (by have := HB5.out.size; have := HS1.out; omega); obtain ⟨q0, q1, q2, q3, q4, q5⟩ := HC1.out w5 HB5.out)
      | (go_at_call 149; refine (HAd.out (w1.alloc (.cells #[.bool false, .slice none 0 0, .int .i64 0] 46)).drew ((Below.refl _ _).alloc (Nat.le_refl _) _).drew).mono ?_; rintro en w5 ⟨a5, c5, rfl, ho5, hb5⟩; simp only [DV]; have HB5 : Hid (Below w1.heap.size w1 w5) := ((Below.refl _ _).alloc (Nat.le_refl _) _).drew.trans (hb5.mono (by simp)); have j5 := (Cel.new w1 (.bool false) (.slice none 0 0) (.int .i64 0)).below (below_drewN (n := 1) hb5) (by simp); obtain ⟨q0, q1, q2, q3, q4, q5⟩ := HC1.out w5 HB5.out; obtain ⟨_, _, _, _, _, _⟩ := j5.facts))
  all_goals
    (first
      | (obtain ⟨w6, e6⟩ : ∃ W, W = w5.alloc (.cells #[.bool dn.neg, .slice a5 (words dn.m).length c5, .int .i64 dn.exp] 46) := ⟨_, rfl⟩
         rw [← e6]
         obtain ⟨K6, z6, _⟩ := new_cel e6 rfl
         have HO6 : Own w6 118 0 a5 c5 (words dn.m) := (ho5.grow z6).mono (Nat.zero_le _)
         have HB6 := Lib.hid (HB5.out.trans (z6.mono HB5.out.size))
         have hp6 : w1.heap.size ≤ w5.heap.size := HB5.out.size
         obtain ⟨p6, e7⟩ : ∃ p, p = w5.heap.size := ⟨_, rfl⟩
         rw [← e7] at K6 hp6 ⊢
         clear e7 e6 z6)
      | (obtain ⟨w6, e6⟩ : ∃ W, W = wr3 w5 w1.heap.size (.bool dn.neg) (.slice a5 (words dn.m).length c5) (.int .i64 dn.exp) := ⟨_, rfl⟩
         have e8 := e6
         unfold wr3 at e8
         rw [← e8]
         have K6 := cel_wr_same e6 j5
         have HO6 : Own w6 118 0 a5 c5 (words dn.m) := (own_wr e6 (ho5.mono (b := w1.heap.size + 1) (by simp)) (by omega)).mono (Nat.zero_le _)
         have HB6 := Lib.hid (below_wr e6 HB5.out (Nat.le_refl _))
         have hp6 : w1.heap.size ≤ w1.heap.size := Nat.le_refl _
         obtain ⟨p6, e7⟩ : ∃ p, p = w1.heap.size := ⟨_, rfl⟩
         have hp6 : w1.heap.size ≤ p6 := by omega
         rw [← e7] at K6 ⊢
         clear e8 e7 e6 j5))
    clear ho5 hb5
    try clear n5 n6
    have HO := Lib.hid HO6
    have hp7 : p6 < w6.heap.size := K6.lt
    have HK6 := Lib.hid K6
    clear HO6 K6 q0 q1 q2 q3 q4 q5
    obtain ⟨_, _, _, _, _, _⟩ := HK6.out.facts
    have HGr6 := Lib.hid (HGr.out w6 a5 c5 _ HO.out)
    unfold DV at HGr6
    go_wp2_with fail
    refine HGr6.out.mono ?_; rintro en w7 ⟨rfl, hb7⟩
    have HB7 := Lib.hid (HB6.out.trans (hb7.mono HB6.out.size))
    have HO7 := Lib.hid (HO.out.grow hb7)
    have HK7 := Lib.hid (HK6.out.below hb7 hp7)
    clear hb7 HGr6
    obtain ⟨G, hG⟩ : ∃ G, G = decide (Gt (A.T - t.T)) := ⟨_, rfl⟩
    rw [← hG]
    have HGg := Lib.hid hG
    clear hG
    cases G
    case true =>
      have HR2 : Hid (R = (2, A)) := by have := HRa.out; rw [if_pos (of_decide_eq_true HGg.out.symm)] at this; exact this
      go_wp2_with fail
      go_ret
      rw [HR2.out]
      exact ⟨rfl, ⟨d, a, c, (HK.out w7 HB7.out).1, HOwn.out w7 HB7.out, HDt.out⟩, gr_trans HGw.out (gr_below' HB7.out hlt1)⟩
    case false =>
      have HR2 : Hid (R = (0, A.less t)) := by have := HRa.out; rw [if_neg (of_decide_eq_false HGg.out.symm)] at this; exact this
      have hrow := (HK.out w7 HB7.out).1
      obtain ⟨u0, u1, u2, _, _, _, _, _, _⟩ := rac_cells hrow
      have f0 := frozen_of_row w7 g 0 _ _ hrow
      have f1 := frozen_of_row w7 g 1 _ _ hrow
      have f2 := frozen_of_row w7 g 2 _ _ hrow
      have HRow := Lib.hid hrow
      obtain ⟨_, _, _, _, _, _⟩ := HK7.out.facts
      have hpg : p6 ≠ g := by omega
      clear hrow
      go_upto_region 7 with fail
      obtain ⟨w8, e8⟩ : ∃ W, W = (((w7.setCell ⟨g, 0, none⟩ (.bool dn.neg)).setCell ⟨g, 1, none⟩ (.slice a5 (words dn.m).length c5)).setCell ⟨g, 2, none⟩ (.int .i64 dn.exp)) := ⟨_, rfl⟩
      rw [← e8]
      have hrow8 : w8.heap[g]? = some (.cells (rac dn a5 c5 A) 59 (0, 0)) := by
        rw [e8]
        have := row_setA (row_setA (row_setA (l := (rac d a c A).toList) HRow.out 0 (.bool dn.neg)) 1 (.slice a5 (words dn.m).length c5)) 2 (.int .i64 dn.exp)
        exact this
      have HG8 : Hid (w.grownBy w8 (some g)) := by rw [e8]; exact grown_set' (grown_set' (grown_set' (gr_trans HGw.out (gr_below' HB7.out hlt1)) _ _) _ _) _ _
      have HO8 : Hid (Own w8 118 0 a5 c5 (words dn.m)) := own_grown HO7.out (by rw [e8]; exact grown_set' (grown_set' (grown_set' (grown_refl _ _) _ _) _ _) _ _) (own_ne HO7.out HRow.out (by decide))
      have hk8 : w8.cell? ⟨w.heap.size, 0, none⟩ = some (.int .i64 k) := by
        have h1 := (HK.out w7 HB7.out).2
        have hne : w.heap.size ≠ g := by omega
        rw [e8, World.cell?_setCell_other _ _ _ _ (by simp [hne]), World.cell?_setCell_other _ _ _ _ (by simp [hne]), World.cell?_setCell_other _ _ _ _ (by simp [hne])]
        exact h1
      have hs8 : g < w8.heap.size := by rw [e8]; simp; have := HB7.out.size; omega
      have HRow8 := Lib.hid hrow8
      clear e8 HRow
      obtain ⟨_, _, _, v3, v4, v5, v6, v7, v8⟩ := rac_cells hrow8
      clear hrow8
      obtain ⟨C, hC⟩ : ∃ C, C = cnt7 A k (-1) := ⟨_, rfl⟩
      rw [← hC] at HCt HCe
      clear hC
      go_region_with (first
        | (go_at_call 208; refine (HCt.out _).mono ?_; rintro en w9 ⟨rfl, hb9⟩; simp only [spcV]; have hrow9 := blk_below HRow8.out (below_drewN (n := 1) hb9) (by simpa using hs8); obtain ⟨_, _, _, z3, z4, z5, z6, z7, z8⟩ := rac_cells hrow9; have g3 := frozen_of_row w9 g 3 _ _ hrow9; have g4 := frozen_of_row w9 g 4 _ _ hrow9; have g5 := frozen_of_row w9 g 5 _ _ hrow9; have g6 := frozen_of_row w9 g 6 _ _ hrow9; have g7 := frozen_of_row w9 g 7 _ _ hrow9; have g8 := frozen_of_row w9 g 8 _ _ hrow9))
      all_goals
        go_wp2_with fail
        go_ret
        rw [HR2.out]
        have hG9 := gr_trans HG8.out (gr_below' (below_drewN (n := 1) hb9) (by simpa using hs8))
        have hO9 := HO8.out.grow (below_drewN (n := 1) hb9)
        obtain rfl : C = { A.less t with T := A.T } := HCe.out
        refine ⟨rfl, ⟨dn, a5, c5, ?_, ?_, HDn.out⟩, ?_⟩
        · have := row_setA (row_setA (row_setA (row_setA (row_setA (row_setA (l := (rac dn a5 c5 A).toList) hrow9 3 (.int .i64 (A.less t).nan)) 4 (.int .i64 (A.less t).up)) 5 (.int .i64 (A.less t).down)) 6 (.int .i64 (A.less t).minus)) 7 (.int .i64 (A.less t).plus)) 8 (.int .i64 (A.less t).all)
          exact this
        · exact own_grown hO9 (grown_set' (grown_set' (grown_set' (grown_set' (grown_set' (grown_set' (grown_refl _ _) _ _) _ _) _ _) _ _) _ _) _ _) (own_ne hO9 hrow9 (by decide))
        · exact grown_set' (grown_set' (grown_set' (grown_set' (grown_set' (grown_set' hG9 _ _) _ _) _ _) _ _) _ _) _ _

end Go.Proofs.YteahdgbokjbgcaaGreatDoor
