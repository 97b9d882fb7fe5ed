/- Contracts of steelyardref07.Of, Acc.Add, Whole. No statement of the seat is proved here. -/
import Derived.Test.YthdbapibbdkclaaGreatDoorProg
import Derived.Test.YthdbapibbdkclaaGreatDoorGi
namespace Go.Proofs.YthdbapibbdkclaaGreatDoor
open Go.RowKit
set_option maxRecDepth 10000
set_option linter.unusedVariables false
set_option linter.unusedSimpArgs false

/-- the document's accumulator, as cells -/
def rac (d : D) (a : Option Addr) (c : Nat) (A : Ac) : Array Value := #[.bool d.neg, .slice a (words d.m).length c, .int .i64 d.exp, .int .i64 A.nan, .int .i64 A.up, .int .i64 A.down, .int .i64 A.minus, .int .i64 A.plus, .int .i64 A.all]
/-- .. in a block of its own -/
def RAc (w : World) (g : Nat) (A : Ac) : Prop := ∃ d a c, w.heap[g]? = some (.cells (rac d a c A) 73 (0, 0)) ∧ Own w 95 0 a c (words d.m) ∧ DT d A.T
theorem RAc.lt {w : World} {g : Nat} {A : Ac} (h : RAc w g A) : g < w.heap.size := by
  obtain ⟨d, a, c, h1, _⟩ := h
  exact (Array.getElem?_eq_some_iff.1 h1).1
theorem RAc.grow {w w' : World} {g : Nat} {A : Ac} (h : RAc w g A) (hb : Below w.heap.size w w') : RAc w' g A := by
  have hl := h.lt
  obtain ⟨d, a, c, h1, h2, h3⟩ := h
  exact ⟨d, a, c, blk_below h1 hb hl, h2.grow hb, h3⟩
theorem rac_cells {w : World} {g : Nat} {d : D} {a : Option Addr} {c : Nat} {A : Ac} {T : TypeId} (h : w.heap[g]? = some (.cells (rac d a c A) T (0, 0))) :
    w.cell? ⟨g, 0, none⟩ = some (.bool d.neg) ∧ w.cell? ⟨g, 1, none⟩ = some (.slice a (words d.m).length c) ∧ w.cell? ⟨g, 2, none⟩ = some (.int .i64 d.exp) ∧ w.cell? ⟨g, 3, none⟩ = some (.int .i64 A.nan) ∧ w.cell? ⟨g, 4, none⟩ = some (.int .i64 A.up) ∧ w.cell? ⟨g, 5, none⟩ = some (.int .i64 A.down) ∧ w.cell? ⟨g, 6, none⟩ = some (.int .i64 A.minus) ∧ w.cell? ⟨g, 7, none⟩ = some (.int .i64 A.plus) ∧ w.cell? ⟨g, 8, none⟩ = some (.int .i64 A.all) :=
  ⟨by rw [cell_of_row w g 0 _ _ _ h]; rfl, by rw [cell_of_row w g 1 _ _ _ h]; rfl, by rw [cell_of_row w g 2 _ _ _ h]; rfl, by rw [cell_of_row w g 3 _ _ _ h]; rfl, by rw [cell_of_row w g 4 _ _ _ h]; rfl, by rw [cell_of_row w g 5 _ _ _ h]; rfl, by rw [cell_of_row w g 6 _ _ _ h]; rfl, by rw [cell_of_row w g 7 _ _ _ h]; rfl, by rw [cell_of_row w g 8 _ _ _ h]; rfl⟩
/-- a thing as it is handed in -/
def thV (k : Int) (d : D) (a : Option Addr) (c : Nat) : Value := .agg #[.int .i64 k, .bool d.neg, .slice a (words d.m).length c, .int .i64 d.exp]
theorem th4_cells {w : World} {g : Nat} {v0 v1 v2 v3 : Value} {T : TypeId} (h : w.heap[g]? = some (.cells #[v0, v1, v2, v3] T (0, 0))) :
    w.cell? ⟨g, 0, none⟩ = some v0 ∧ w.cell? ⟨g, 1, none⟩ = some v1 ∧ w.cell? ⟨g, 2, none⟩ = some v2 ∧ w.cell? ⟨g, 3, none⟩ = some v3 :=
  ⟨by rw [cell_of_row w g 0 _ _ _ h]; rfl, by rw [cell_of_row w g 1 _ _ _ h]; rfl, by rw [cell_of_row w g 2 _ _ _ h]; rfl, by rw [cell_of_row w g 3 _ _ _ h]; rfl⟩
structure ThOk (t : Ac) (k : Int) (d : D) : Prop where
  eq : t = kT k t.T
  no : k ≠ 0 → t.T = 0
  dt : DT d t.T
theorem kT_cnt (A t : Ac) {k : Int} (h : t = kT k t.T) : cnt7 A k 1 = { A.sum t with T := A.T } := by
  rw [h]
  unfold cnt7 kT Ac.sum
  split
  · simp
  · split
    · simp
    · split
      · simp
      · split
        · simp
        · split
          · simp
          · simp
set_option maxHeartbeats 4000000 in
theorem of7_any (b : Nat) (w : World) (hb : b < 18446744073709551616) : Calls Tryz.prog 86 #[.float .f64 b] w fun en w' => ∃ d a c, en = .returned (thV (kindN b) d a c) ∧ Own w' 95 w.heap.size a c (words d.m) ∧ ThOk (numT b) (kindN b) d ∧ Below w.heap.size w w' := by
  obtain ⟨h1, h2, h3⟩ := numT_kT b hb
  have hk := fun W => kind6_any b W hb
  obtain ⟨k, hkk⟩ : ∃ k, k = kindN b := ⟨_, rfl⟩
  rw [← hkk] at hk h1 h2 ⊢
  have HK := Lib.hid hk
  clear hk
  by_cases h0 : k = 0
  · obtain ⟨d, hd, hdt⟩ := dt_num hb (by rw [← hkk]; exact h0)
    have hOf := fun W => rOf (W := W) hb hd hdt.ok
    have HO := Lib.hid hOf
    have HF : Hid (ThOk (numT b) k d) := ⟨h1, h2, hdt⟩
    subst h0
    clear h1 h2 h3 hOf hd hdt hkk
    go_enter Tryz.func86, Tryz.ntmps86
    go_wp2_with fail
    refine (HK.out _).mono ?_; rintro en w2 ⟨rfl, rfl⟩
    go_upto_region 3 with fail
    obtain ⟨w1, e1⟩ : ∃ W, W = w.alloc (.cells #[.int .i64 0, .bool false, .slice none 0 0, .int .i64 0] 114) := ⟨_, rfl⟩
    obtain ⟨w2, e2⟩ : ∃ W, W = w1.alloc (.cells #[.int .i64 0, .bool false, .slice none 0 0, .int .i64 0] 114) := ⟨_, rfl⟩
    rw [← e1, ← e2]
    obtain ⟨k1, b1, s1⟩ := new_of e1 rfl
    obtain ⟨k2, b2, s2⟩ := new_of e2 s1
    have K1 := Lib.hid (fun W (hW : Below w2.heap.size w2 W) => th4_cells (blk_below (blk_below k1 b2 (show w.heap.size < w.heap.size + 1 by omega)) hW (show w.heap.size < w2.heap.size by omega)))
    have K2 := Lib.hid (fun W (hW : Below w2.heap.size w2 W) => th4_cells (blk_below k2 hW (show w.heap.size + 1 < w2.heap.size by omega)))
    have K1f := Lib.hid (fun W (hW : Below w2.heap.size w2 W) i => frozen_of_row W w.heap.size i _ _ (blk_below (blk_below k1 b2 (show w.heap.size < w.heap.size + 1 by omega)) hW (show w.heap.size < w2.heap.size by omega)))
    have K2f := Lib.hid (fun W (hW : Below w2.heap.size w2 W) i => frozen_of_row W (w.heap.size + 1) i _ _ (blk_below k2 hW (show w.heap.size + 1 < w2.heap.size by omega)))
    have HB2 := Lib.hid (b1.trans (b2.mono (by omega)))
    have hs2 : w2.heap.size = w.heap.size + 2 := by omega
    have HS2 := Lib.hid hs2
    clear e1 e2 k1 k2 b1 b2 s1 s2 hs2
    go_wp2_with fail
    refine (HO.out w2).mono ?_; rintro en w5 ⟨a, c, rfl, ho, hb⟩
    have HO5 := Lib.hid ho; have HBb := Lib.hid hb
    obtain ⟨q0, q1, q2, q3⟩ := K1.out w5 hb
    obtain ⟨r0, r1, r2, r3⟩ := K2.out w5 hb
    have f0 := K1f.out w5 hb 0; have f1 := K1f.out w5 hb 1; have f2 := K1f.out w5 hb 2; have f3 := K1f.out w5 hb 3
    have g1 := K2f.out w5 hb 1; have g2 := K2f.out w5 hb 2; have g3 := K2f.out w5 hb 3
    unfold DV
    clear ho hb
    go_wp2_with fail
    refine bodyPost_ret (v := thV 0 d a c) (by simp [results, Tryz.results86, go_sem, thV, q0, q1, q2, q3]) rfl ?_
    have l0 : w.heap.size < w2.heap.size := by have := HS2.out; omega
    have l1 : w.heap.size + 1 < w2.heap.size := by have := HS2.out; omega
    have hw0 : w.heap.size ≤ w.heap.size + 1 := by omega
    refine ⟨d, a, c, rfl, ?_, HF.out, ?_⟩
    · exact (((((((HO5.out.set ⟨_, 1, none⟩ _ l1).set ⟨_, 2, none⟩ _ l1).set ⟨_, 3, none⟩ _ l1).set ⟨_, 0, none⟩ _ l0).set ⟨_, 1, none⟩ _ l0).set ⟨_, 2, none⟩ _ l0).set ⟨_, 3, none⟩ _ l0).mono (Nat.le_of_lt l0)
    · exact ((((((((HB2.out.trans (HBb.out.mono (Nat.le_of_lt l0))).setCell (p := ⟨_, 1, none⟩) hw0 _).setCell (p := ⟨_, 2, none⟩) hw0 _).setCell (p := ⟨_, 3, none⟩) hw0 _).setCell (p := ⟨_, 0, none⟩) (Nat.le_refl _) _).setCell (p := ⟨_, 1, none⟩) (Nat.le_refl _) _).setCell (p := ⟨_, 2, none⟩) (Nat.le_refl _) _).setCell (p := ⟨_, 3, none⟩) (Nat.le_refl _) _)
  · have hk0 : (k == 0) = false := by simpa using h0
    have HF : Hid (ThOk (numT b) k D.zero) := ⟨h1, h2, by rw [h2 h0]; exact Dy.zero (by decide)⟩
    clear h1 h2 h3 h0 hkk
    go_enter Tryz.func86, Tryz.ntmps86
    go_wp2_with fail
    refine (HK.out _).mono ?_; rintro en w2 ⟨rfl, rfl⟩
    go_wp2_with fail
    refine bodyPost_ret (v := .agg #[.int .i64 k, .bool false, .slice none 0 0, .int .i64 0]) (by simp [results, Tryz.results86, go_sem]) rfl ?_
    refine ⟨D.zero, none, 0, ?_, ?_, HF.out, ((Below.refl _ _).alloc (Nat.le_refl _) _).alloc (by simp) _⟩
    · show _ = Ending.returned (.agg #[.int .i64 k, .bool false, .slice none (words 0).length 0, .int .i64 0])
      rw [words_zero]; rfl
    · show Own _ _ _ none 0 (words 0)
      rw [words_zero]; exact Own.none _ _ _

theorem own_ne {w : World} {a : Option Addr} {c g : Nat} {l : List Nat} {cs : Array Value} {T : TypeId} (h : Own w 95 0 a c l) (hg : w.heap[g]? = some (.cells cs T (0, 0))) (hT : T ≠ 95) : ∀ ad, a = some ad → ad.block ≠ g := by
  rintro ad rfl rfl
  rcases h with ⟨h, _⟩ | ⟨g', t, h0, _, _, _, h4⟩
  · cases h
  · cases h0
    unfold Blk at h4
    rw [hg] at h4
    cases h4
    exact hT rfl
theorem cells9 {w : World} {g : Nat} {v0 v1 v2 v3 v4 v5 v6 v7 v8 : Value} {T : TypeId} (h : w.heap[g]? = some (.cells #[v0, v1, v2, v3, v4, v5, v6, v7, v8] T (0, 0))) :
    w.cell? ⟨g, 0, none⟩ = some v0 ∧ w.cell? ⟨g, 1, none⟩ = some v1 ∧ w.cell? ⟨g, 2, none⟩ = some v2 ∧ w.cell? ⟨g, 3, none⟩ = some v3 ∧ w.cell? ⟨g, 4, none⟩ = some v4 ∧ w.cell? ⟨g, 5, none⟩ = some v5 ∧ w.cell? ⟨g, 6, none⟩ = some v6 ∧ w.cell? ⟨g, 7, none⟩ = some v7 ∧ w.cell? ⟨g, 8, none⟩ = some v8 :=
  ⟨by rw [cell_of_row w g 0 _ _ _ h]; rfl, by rw [cell_of_row w g 1 _ _ _ h]; rfl, by rw [cell_of_row w g 2 _ _ _ h]; rfl, by rw [cell_of_row w g 3 _ _ _ h]; rfl, by rw [cell_of_row w g 4 _ _ _ h]; rfl, by rw [cell_of_row w g 5 _ _ _ h]; rfl, by rw [cell_of_row w g 6 _ _ _ h]; rfl, by rw [cell_of_row w g 7 _ _ _ h]; rfl, by rw [cell_of_row w g 8 _ _ _ h]; rfl⟩
theorem row_setA {w : World} {g : Nat} {l : List Value} {t : TypeId} (h : w.heap[g]? = some (.cells l.toArray t (0, 0))) (i : Nat) (v : Value) : (w.setCell ⟨g, i, none⟩ v).heap[g]? = some (.cells (l.set i v).toArray t (0, 0)) := by
  rw [heap_setCell_same w g i _ t _ h, List.setIfInBounds_toArray]
theorem sum_lt {T U : Int} (h : ¬ Gt T) (h1 : -Mx ≤ U) (h2 : U ≤ Mx) : (T + U).natAbs < 2 ^ (32 * 133) := by
  obtain ⟨k, hk⟩ : ∃ k, k = 4238 := ⟨_, rfl⟩
  obtain ⟨j, hj⟩ : ∃ j, j = 32 * 133 := ⟨_, rfl⟩
  rw [← hj]
  have h3 := gt_nat h (k := k) (by omega)
  have h4 : mxE ≤ k := by unfold mxE; omega
  have h5 : 2 ^ mxE ≤ 2 ^ k := Nat.pow_le_pow_right (by decide) h4
  have h6 : 2 ^ (k + 1) ≤ 2 ^ j := Nat.pow_le_pow_right (by decide) (by omega)
  rw [mx_eq] at h1 h2
  rw [Nat.pow_succ] at h6
  omega
theorem gr_below' {w w' : World} {g : Nat} (h : Below w.heap.size w w') (hg : g < w.heap.size) : w.grownBy w' (some g) := ⟨h.os, h.tape, h.output, h.size, fun j hj _ => h.block j hj⟩
def RAccR (r : Int × Ac) (w : World) (g : Nat) (en : Ending) (w' : World) : Prop := en = .returned (.int .i64 r.1) ∧ RAc w' g r.2 ∧ w.grownBy w' (some g)
set_option maxHeartbeats 16000000 in
theorem radd7_any (A t : Ac) (k : Int) (dt : D) (a' : Option Addr) (c' g b' : Nat) (w : World) (hA : A.Ok) (ht : ThOk t k dt) (hM1 : -Mx ≤ t.T) (hM2 : t.T ≤ Mx) (ho : Own w 95 b' a' c' (words dt.m)) (hR : RAc w g A) :
    Calls Tryz.prog 85 #[.pointer (some ⟨g, 0, none⟩), thV k dt a' c'] w (RAccR (addR A t) w g) := by
  have hlt := hR.lt
  obtain ⟨d, a, c, hg, hown, hdt⟩ := hR
  obtain ⟨x0, x1, x2, x3, x4, x5, x6, x7, x8⟩ := rac_cells hg
  obtain ⟨R, hRR⟩ : ∃ R, R = addR A t := ⟨_, rfl⟩
  rw [← hRR]
  obtain ⟨w1, e1⟩ : ∃ W, W = w.alloc (.cells #[.int .i64 k, .bool dt.neg, .slice a' (words dt.m).length c', .int .i64 dt.exp] 114) := ⟨_, rfl⟩
  obtain ⟨k1, b1, s1⟩ := new_of e1 rfl
  have E1 := Lib.hid e1
  by_cases hall : A.all = 1099511627776
  · have hq : (A.all == 1099511627776) = true := by rw [hall]; rfl
    have HF : Hid (RAc w1 g A ∧ w.grownBy w1 (some g)) := ⟨⟨d, a, c, blk_below hg b1 hlt, hown.grow b1, hdt⟩, ⟨b1.os, b1.tape, b1.output, b1.size, fun j hj _ => b1.block j hj⟩⟩
    have HR2 : Hid (R = (2, A)) := by show R = _; rw [hRR]; unfold addR; rw [if_pos hall]
    have x8' : w1.cell? ⟨g, 8, none⟩ = some (.int .i64 A.all) := (rac_cells (blk_below hg b1 hlt)).2.2.2.2.2.2.2.2
    unfold thV
    clear hRR e1 k1 b1 s1 hall hg hown hdt ho ht x0 x1 x2 x3 x4 x5 x6 x7 x8 hA
    go_enter Tryz.func85, Tryz.ntmps85
    go_upto_region 1 with fail
    rw [← E1.out]
    go_wp2_with fail
    go_ret
    rw [HR2.out]
    exact ⟨rfl, HF.out⟩
  have hq : (A.all == 1099511627776) = false := by simpa using hall
  have hg1 := blk_below hg b1 hlt
  have hown1 := hown.grow b1
  have ho1 := ho.grow b1
  have hG1 : w.grownBy w1 (some g) := ⟨b1.os, b1.tape, b1.output, b1.size, fun j hj _ => b1.block j hj⟩
  obtain ⟨dn, hdn, hdn2⟩ := hdt.addZ ht.dt rg_dt (sum_lt hA.v hM1 hM2)
  have HAd : Hid (∀ W, Below w1.heap.size w1 W → Calls Tryz.prog 129 #[DV d a c, DV dt a' c'] W (OutDE dn W)) := fun W hW => qAdd hdt.is hdt.ok ht.dt.is ht.dt.ok hdn a a' c c' W ((hown1.grow hW).arg hdt.ok) ((ho1.grow hW).arg ht.dt.ok)
  have HGr : Hid (∀ W a5 c5 b5, Own W 95 b5 a5 c5 (words dn.m) → Calls Tryz.prog 149 #[DV dn a5 c5] W fun en w' => en = .returned (.bool (decide (Gt (A.T + t.T)))) ∧ Below W.heap.size W w') := fun W a5 c5 b5 ho => great7_any hdn2 a5 c5 W (ho.arg hdn2.ok)
  have HCt : Hid (∀ W, Calls Tryz.prog 150 #[spcV A, .int .i64 k, .int .i64 1] W fun en w' => en = .returned (spcV (cnt7 A k 1)) ∧ Below W.heap.size W w') := fun W => counted7_any A k 1 W hA (.inl rfl)
  have HCe := Lib.hid (kT_cnt A t ht.eq)
  have HRa : Hid (R = if Gt (A.T + t.T) then (2, A) else (0, A.sum t)) := by show R = _; rw [hRR]; unfold addR; rw [if_neg hall]
  have HDn := Lib.hid hdn2
  have HC1 : Hid (∀ W, Below w1.heap.size w1 W → W.cell? ⟨g, 0, none⟩ = some (.bool d.neg) ∧ W.cell? ⟨g, 1, none⟩ = some (.slice a (words d.m).length c) ∧ W.cell? ⟨g, 2, none⟩ = some (.int .i64 d.exp) ∧ W.cell? ⟨w.heap.size, 1, none⟩ = some (.bool dt.neg) ∧ W.cell? ⟨w.heap.size, 2, none⟩ = some (.slice a' (words dt.m).length c') ∧ W.cell? ⟨w.heap.size, 3, none⟩ = some (.int .i64 dt.exp)) := by
    intro W hW
    have r := rac_cells (blk_below hg1 hW (by omega))
    have s := th4_cells (blk_below k1 hW (by omega))
    exact ⟨r.1, r.2.1, r.2.2.1, s.2.1, s.2.2.1, s.2.2.2⟩
  have HK : Hid (∀ W, Below w1.heap.size w1 W → W.heap[g]? = some (.cells (rac d a c A) 73 (0, 0)) ∧ W.cell? ⟨w.heap.size, 0, none⟩ = some (.int .i64 k)) := fun W hW => ⟨blk_below hg1 hW (by omega), (th4_cells (blk_below k1 hW (by omega))).1⟩
  have HGw := Lib.hid hG1
  have hlt1 : g < w1.heap.size := by omega
  have HOwn : Hid (∀ W, Below w1.heap.size w1 W → Own W 95 0 a c (words d.m)) := fun W hW => hown1.grow hW
  have HDt := Lib.hid hdt
  have x8' : w1.cell? ⟨g, 8, none⟩ = some (.int .i64 A.all) := (rac_cells hg1).2.2.2.2.2.2.2.2
  have HS1 := Lib.hid s1
  unfold thV spcV at *
  clear hRR e1 k1 b1 s1 hall hg hown hdt ho ht x0 x1 x2 x3 x4 x5 x6 x7 x8 hA hg1 hown1 ho1 hG1 hdn hdn2 hM1 hM2
  unfold DV at HAd
  go_enter Tryz.func85, Tryz.ntmps85
  go_upto_region 1 with fail
  rw [← E1.out]
  go_upto_region 3 with fail
  obtain ⟨q0, q1, q2, q3, q4, q5⟩ := HC1.out w1 (Below.refl _ _)
  have m5 : w1.heap.size ≠ g := by omega
  have m6 : w1.heap.size ≠ w.heap.size := by have := HS1.out; omega
  go_region_held3 (fun W => W.cell? ⟨g, 0, none⟩ = some (.bool d.neg) ∧ W.cell? ⟨g, 1, none⟩ = some (.slice a (words d.m).length c) ∧ W.cell? ⟨g, 2, none⟩ = some (.int .i64 d.exp) ∧ W.cell? ⟨w.heap.size, 1, none⟩ = some (.bool dt.neg) ∧ W.cell? ⟨w.heap.size, 2, none⟩ = some (.slice a' (words dt.m).length c') ∧ W.cell? ⟨w.heap.size, 3, none⟩ = some (.int .i64 dt.exp)) (go_keep) (first
      | (go_at_call 129; refine (HAd.out w1.drew (Below.refl _ _).drew).mono ?_; rintro en w5 ⟨a5, c5, rfl, ho5, hb5⟩; simp only [DV]; have HB5 : Hid (Below w1.heap.size w1 w5) := below_drewN (n := 1) hb5; have n5 : w5.heap.size ≠ g := (by have := HB5.out.size; omega); have n6 : w5.heap.size ≠ w.heap.size := (by have := HB5.out.size; have := HS1.out; omega); obtain ⟨q0, q1, q2, q3, q4, q5⟩ := HC1.out w5 HB5.out)
      | (go_at_call 129; refine (HAd.out (w1.alloc (.cells #[.bool false, .slice none 0 0, .int .i64 0] 46)).drew ((Below.refl _ _).alloc (Nat.le_refl _) _).drew).mono ?_; rintro en w5 ⟨a5, c5, rfl, ho5, hb5⟩; simp only [DV]; have HB5 : Hid (Below w1.heap.size w1 w5) := ((Below.refl _ _).alloc (Nat.le_refl _) _).drew.trans (hb5.mono (by simp)); have j5 := (Cel.new w1 (.bool false) (.slice none 0 0) (.int .i64 0)).below (below_drewN (n := 1) hb5) (by simp); obtain ⟨q0, q1, q2, q3, q4, q5⟩ := HC1.out w5 HB5.out; obtain ⟨_, _, _, _, _, _⟩ := j5.facts))
  all_goals
    (first
      | (obtain ⟨w6, e6⟩ : ∃ W, W = w5.alloc (.cells #[.bool dn.neg, .slice a5 (words dn.m).length c5, .int .i64 dn.exp] 46) := ⟨_, rfl⟩
         rw [← e6]
         obtain ⟨K6, z6, _⟩ := new_cel e6 rfl
         have HO6 : Own w6 95 0 a5 c5 (words dn.m) := (ho5.grow z6).mono (Nat.zero_le _)
         have HB6 := Lib.hid (HB5.out.trans (z6.mono HB5.out.size))
         have hp6 : w1.heap.size ≤ w5.heap.size := HB5.out.size
         obtain ⟨p6, e7⟩ : ∃ p, p = w5.heap.size := ⟨_, rfl⟩
         rw [← e7] at K6 hp6 ⊢
         clear e7 e6 z6)
      | (obtain ⟨w6, e6⟩ : ∃ W, W = wr3 w5 w1.heap.size (.bool dn.neg) (.slice a5 (words dn.m).length c5) (.int .i64 dn.exp) := ⟨_, rfl⟩
         have e8 := e6
         unfold wr3 at e8
         rw [← e8]
         have K6 := cel_wr_same e6 j5
         have HO6 : Own w6 95 0 a5 c5 (words dn.m) := (own_wr e6 (ho5.mono (b := w1.heap.size + 1) (by simp)) (by omega)).mono (Nat.zero_le _)
         have HB6 := Lib.hid (below_wr e6 HB5.out (Nat.le_refl _))
         have hp6 : w1.heap.size ≤ w1.heap.size := Nat.le_refl _
         obtain ⟨p6, e7⟩ : ∃ p, p = w1.heap.size := ⟨_, rfl⟩
         have hp6 : w1.heap.size ≤ p6 := by omega
         rw [← e7] at K6 ⊢
         clear e8 e7 e6 j5))
    clear ho5 hb5
    try clear n5 n6
    have HO := Lib.hid HO6
    have hp7 : p6 < w6.heap.size := K6.lt
    have HK6 := Lib.hid K6
    clear HO6 K6 q0 q1 q2 q3 q4 q5
    obtain ⟨_, _, _, _, _, _⟩ := HK6.out.facts
    have HGr6 := Lib.hid (HGr.out w6 a5 c5 _ HO.out)
    unfold DV at HGr6
    go_wp2_with fail
    refine HGr6.out.mono ?_; rintro en w7 ⟨rfl, hb7⟩
    have HB7 := Lib.hid (HB6.out.trans (hb7.mono HB6.out.size))
    have HO7 := Lib.hid (HO.out.grow hb7)
    have HK7 := Lib.hid (HK6.out.below hb7 hp7)
    clear hb7 HGr6
    obtain ⟨G, hG⟩ : ∃ G, G = decide (Gt (A.T + t.T)) := ⟨_, rfl⟩
    rw [← hG]
    have HGg := Lib.hid hG
    clear hG
    cases G
    case true =>
      have HR2 : Hid (R = (2, A)) := by have := HRa.out; rw [if_pos (of_decide_eq_true HGg.out.symm)] at this; exact this
      go_wp2_with fail
      go_ret
      rw [HR2.out]
      exact ⟨rfl, ⟨d, a, c, (HK.out w7 HB7.out).1, HOwn.out w7 HB7.out, HDt.out⟩, gr_trans HGw.out (gr_below' HB7.out hlt1)⟩
    case false =>
      have HR2 : Hid (R = (0, A.sum t)) := by have := HRa.out; rw [if_neg (of_decide_eq_false HGg.out.symm)] at this; exact this
      have hrow := (HK.out w7 HB7.out).1
      obtain ⟨u0, u1, u2, _, _, _, _, _, _⟩ := rac_cells hrow
      have f0 := frozen_of_row w7 g 0 _ _ hrow
      have f1 := frozen_of_row w7 g 1 _ _ hrow
      have f2 := frozen_of_row w7 g 2 _ _ hrow
      have HRow := Lib.hid hrow
      obtain ⟨_, _, _, _, _, _⟩ := HK7.out.facts
      have hpg : p6 ≠ g := by omega
      clear hrow
      go_upto_region 7 with fail
      obtain ⟨w8, e8⟩ : ∃ W, W = (((w7.setCell ⟨g, 0, none⟩ (.bool dn.neg)).setCell ⟨g, 1, none⟩ (.slice a5 (words dn.m).length c5)).setCell ⟨g, 2, none⟩ (.int .i64 dn.exp)) := ⟨_, rfl⟩
      rw [← e8]
      have hrow8 : w8.heap[g]? = some (.cells (rac dn a5 c5 A) 73 (0, 0)) := by
        rw [e8]
        have := row_setA (row_setA (row_setA (l := (rac d a c A).toList) HRow.out 0 (.bool dn.neg)) 1 (.slice a5 (words dn.m).length c5)) 2 (.int .i64 dn.exp)
        exact this
      have HG8 : Hid (w.grownBy w8 (some g)) := by rw [e8]; exact grown_set' (grown_set' (grown_set' (gr_trans HGw.out (gr_below' HB7.out hlt1)) _ _) _ _) _ _
      have HO8 : Hid (Own w8 95 0 a5 c5 (words dn.m)) := own_grown HO7.out (by rw [e8]; exact grown_set' (grown_set' (grown_set' (grown_refl _ _) _ _) _ _) _ _) (own_ne HO7.out HRow.out (by decide))
      have hk8 : w8.cell? ⟨w.heap.size, 0, none⟩ = some (.int .i64 k) := by
        have h1 := (HK.out w7 HB7.out).2
        have hne : w.heap.size ≠ g := by omega
        rw [e8, World.cell?_setCell_other _ _ _ _ (by simp [hne]), World.cell?_setCell_other _ _ _ _ (by simp [hne]), World.cell?_setCell_other _ _ _ _ (by simp [hne])]
        exact h1
      have hs8 : g < w8.heap.size := by rw [e8]; simp; have := HB7.out.size; omega
      have HRow8 := Lib.hid hrow8
      clear e8 HRow
      obtain ⟨_, _, _, v3, v4, v5, v6, v7, v8⟩ := rac_cells hrow8
      clear hrow8
      obtain ⟨C, hC⟩ : ∃ C, C = cnt7 A k 1 := ⟨_, rfl⟩
      rw [← hC] at HCt HCe
      clear hC
      go_region_with (first
        | (go_at_call 150; refine (HCt.out _).mono ?_; rintro en w9 ⟨rfl, hb9⟩; simp only [spcV]; have hrow9 := blk_below HRow8.out (below_drewN (n := 1) hb9) (by simpa using hs8); obtain ⟨_, _, _, z3, z4, z5, z6, z7, z8⟩ := rac_cells hrow9; have g3 := frozen_of_row w9 g 3 _ _ hrow9; have g4 := frozen_of_row w9 g 4 _ _ hrow9; have g5 := frozen_of_row w9 g 5 _ _ hrow9; have g6 := frozen_of_row w9 g 6 _ _ hrow9; have g7 := frozen_of_row w9 g 7 _ _ hrow9; have g8 := frozen_of_row w9 g 8 _ _ hrow9))
      all_goals
        go_wp2_with fail
        go_ret
        rw [HR2.out]
        have hG9 := gr_trans HG8.out (gr_below' (below_drewN (n := 1) hb9) (by simpa using hs8))
        have hO9 := HO8.out.grow (below_drewN (n := 1) hb9)
        obtain rfl : C = { A.sum t with T := A.T } := HCe.out
        refine ⟨rfl, ⟨dn, a5, c5, ?_, ?_, HDn.out⟩, ?_⟩
        · have := row_setA (row_setA (row_setA (row_setA (row_setA (row_setA (l := (rac dn a5 c5 A).toList) hrow9 3 (.int .i64 (A.sum t).nan)) 4 (.int .i64 (A.sum t).up)) 5 (.int .i64 (A.sum t).down)) 6 (.int .i64 (A.sum t).minus)) 7 (.int .i64 (A.sum t).plus)) 8 (.int .i64 (A.sum t).all)
          exact this
        · exact own_grown hO9 (grown_set' (grown_set' (grown_set' (grown_set' (grown_set' (grown_set' (grown_refl _ _) _ _) _ _) _ _) _ _) _ _) _ _) (own_ne hO9 hrow9 (by decide))
        · exact grown_set' (grown_set' (grown_set' (grown_set' (grown_set' (grown_set' hG9 _ _) _ _) _ _) _ _) _ _) _ _

theorem rac_zero {w : World} {g : Nat} (h : w.heap[g]? = some (.cells #[.bool false, .slice none 0 0, .int .i64 0, .int .i64 0, .int .i64 0, .int .i64 0, .int .i64 0, .int .i64 0, .int .i64 0] 73 (0, 0))) : RAc w g Ac.zero := by
  refine ⟨D.zero, none, 0, ?_, ?_, Dy.zero (by decide)⟩
  · rw [h]
    show _ = some (Obj.cells #[.bool false, .slice none (words 0).length 0, .int .i64 0, .int .i64 0, .int .i64 0, .int .i64 0, .int .i64 0, .int .i64 0, .int .i64 0] _ _)
    rw [words_zero]; rfl
  · show Own _ _ _ none 0 (words 0)
    rw [words_zero]; exact Own.none _ _ _
/-- the document's accumulator as a value -/
def RAcV (A : Ac) (w : World) (v : Value) : Prop := ∃ d a c, v = .agg (rac d a c A) ∧ Own w 95 0 a c (words d.m) ∧ DT d A.T
set_option maxHeartbeats 8000000 in
theorem whole7_any (a : Option Addr) (c : Nat) (l : List Nat) (w : World) (hl : FSl w a c l) (hlen : l.length ≤ 65536) :
    Calls Tryz.prog 71 #[.slice a l.length c] w fun en w' => ∃ v, en = .returned v ∧ RAcV (sumL l) w' v ∧ Below w.heap.size w w' := by
  have HWf := Lib.hid (w64_getD hl.wf)
  have HL := Lib.hid (fun W (hw : Below w.heap.size w W) => hl.rd.grow hw)
  obtain ⟨w1, e1⟩ : ∃ W, W = w.alloc (.cells #[.bool false, .slice none 0 0, .int .i64 0, .int .i64 0, .int .i64 0, .int .i64 0, .int .i64 0, .int .i64 0, .int .i64 0] 73) := ⟨_, rfl⟩
  obtain ⟨w2, e2⟩ : ∃ W, W = w1.alloc (.cells #[.bool false, .slice none 0 0, .int .i64 0, .int .i64 0, .int .i64 0, .int .i64 0, .int .i64 0, .int .i64 0, .int .i64 0] 73) := ⟨_, rfl⟩
  obtain ⟨k1, b1, s1⟩ := new_of e1 rfl
  obtain ⟨k2, b2, s2⟩ := new_of e2 s1
  obtain ⟨g, hg⟩ : ∃ g, g = w.heap.size + 1 := ⟨_, rfl⟩
  rw [← hg] at k2 b2 s2
  have HR0 : Hid (RAc w2 g Ac.zero) := rac_zero k2
  have HB0 : Hid (Below w.heap.size w w2) := b1.trans (b2.mono (by omega))
  have HZ : Hid (w2.heap[w.heap.size]? = some (.cells #[.bool false, .slice none 0 0, .int .i64 0, .int .i64 0, .int .i64 0, .int .i64 0, .int .i64 0, .int .i64 0, .int .i64 0] 73 (0, 0))) := blk_below k1 b2 (by omega)
  have HG : Hid (g = w.heap.size + 1 ∧ w2.heap.size = g + 1) := ⟨hg, s2⟩
  have E1 := Lib.hid e1; have E2 := Lib.hid e2
  have HG0 := Lib.hid hg
  clear hl k1 k2 b1 b2 s1 s2 e1 e2 hg
  go_enter Tryz.func71, Tryz.ntmps71
  go_upto_region 2 with fail
  rw [← E1.out, ← E2.out, ← HG0.out]
  go_wp2_with fail
  go_loopw [4] (fun i wr => ∃ k : Nat, k ≤ l.length ∧ i = .int .i64 k ∧ Hid (Fit k (sumL (l.take k)) ∧ RAc wr g (sumL (l.take k)) ∧ w2.grownBy wr (some g))) (fun i _ => l.length - (intOf i).toNat)
  case atStart => exact ⟨0, Nat.zero_le _, rfl, fit_zero, HR0.out, grown_refl _ _⟩
  case round =>
    obtain ⟨k, hk, rfl, hH⟩ := hrel
    have hbw : Below w.heap.size w wr := bel_grown HB0.out (Nat.le_refl _) hH.out.2.2 (by have := HG.out.1; omega)
    by_cases hq : k < l.length
    · obtain ⟨bx, ox, rfl, hcx⟩ := (HL.out wr hbw).at hq
      have hbx := HWf.out k
      have hs := sumL_snoc l hq
      obtain ⟨x, hx⟩ : ∃ x, x = l.getD k 0 := ⟨_, rfl⟩
      rw [← hx] at hcx hbx hs
      have hF2 := fit_add hH.out.1 (numT_thing x) (by omega)
      have hadd := fit_addR hH.out.1 (numT_thing x) (by omega)
      rw [← hs] at hF2 hadd
      have HOf := Lib.hid (of7_any x wr hbx)
      have HF2 := Lib.hid hF2
      have HAdd := Lib.hid hadd
      have HH := Lib.hid hH.out
      clear hx hs hF2 hadd hbx hH
      go_wp2_with fail
      refine HOf.out.mono ?_; rintro en w3 ⟨d, a3, c3, rfl, ho, hth, hb⟩
      have hRa := HH.out.2.1.grow hb
      have HAd := Lib.hid (radd7_any (sumL (l.take k)) (numT x) (kindN x) d a3 c3 g _ w3 HH.out.1.ok hth (numT_bd x).1 (numT_bd x).2 ho hRa)
      have HG3 := Lib.hid (gr_trans HH.out.2.2 (gr_below' hb HH.out.2.1.lt))
      rw [HAdd.out] at HAd
      unfold thV at HAd ⊢
      clear hRa ho hth hb
      go_wp2_with fail
      refine HAd.out.mono ?_; rintro en w4 ⟨rfl, hR4, hG4⟩
      have HX : Hid (RAc w4 g (sumL (l.take (k + 1))) ∧ w2.grownBy w4 (some g)) := ⟨hR4, gr_trans HG3.out hG4⟩
      clear hR4 hG4 HAd
      go_wp2_with fail
      go_roundw
      case rel => exact ⟨k + 1, by omega, by go_num, HF2.out, HX.out.1, HX.out.2⟩
      case measure => simp [intOf]; omega
    · obtain rfl : l.length = k := by omega
      have hh := hH.out
      rw [List.take_length] at hh
      obtain ⟨hF, ⟨d, a3, c3, hrow, hown, hdt⟩, hgr⟩ := hh
      have hz := (hgr.block w.heap.size (by have := HG.out; omega) (by simp; have := HG.out.1; omega)).trans HZ.out
      obtain ⟨u0, u1, u2, u3, u4, u5, u6, u7, u8⟩ := rac_cells hrow
      obtain ⟨t0, t1, t2, t3, t4, t5, t6, t7, t8⟩ := cells9 hz
      have f0 := frozen_of_row wr w.heap.size 0 _ _ hz
      have f1 := frozen_of_row wr w.heap.size 1 _ _ hz
      have f2 := frozen_of_row wr w.heap.size 2 _ _ hz
      have f3 := frozen_of_row wr w.heap.size 3 _ _ hz
      have f4 := frozen_of_row wr w.heap.size 4 _ _ hz
      have f5 := frozen_of_row wr w.heap.size 5 _ _ hz
      have f6 := frozen_of_row wr w.heap.size 6 _ _ hz
      have f7 := frozen_of_row wr w.heap.size 7 _ _ hz
      have f8 := frozen_of_row wr w.heap.size 8 _ _ hz
      have HO := Lib.hid hown; have HD := Lib.hid hdt; have HBw := Lib.hid hbw
      have HNe := Lib.hid (own_ne hown hz (by decide))
      clear hH hF hown hdt hrow hz hgr hbw
      go_wp2_with fail
      refine bodyPost_ret (v := .agg (rac d a3 c3 (sumL l))) (by simp [results, Tryz.results71, go_sem, rac, t0, t1, t2, t3, t4, t5, t6, t7, t8]) rfl ?_
      have hg9 := grown_set' (grown_set' (grown_set' (grown_set' (grown_set' (grown_set' (grown_set' (grown_set' (grown_set' (grown_refl wr (some w.heap.size)) 0 (.bool d.neg)) 1 (.slice a3 (words d.m).length c3)) 2 (.int .i64 d.exp)) 3 (.int .i64 (sumL l).nan)) 4 (.int .i64 (sumL l).up)) 5 (.int .i64 (sumL l).down)) 6 (.int .i64 (sumL l).minus)) 7 (.int .i64 (sumL l).plus)) 8 (.int .i64 (sumL l).all)
      exact ⟨_, rfl, ⟨d, a3, c3, rfl, own_grown HO.out hg9 HNe.out, HD.out⟩, bel_grown HBw.out (Nat.le_refl _) hg9 (Nat.le_refl _)⟩
end Go.Proofs.YthdbapibbdkclaaGreatDoor
