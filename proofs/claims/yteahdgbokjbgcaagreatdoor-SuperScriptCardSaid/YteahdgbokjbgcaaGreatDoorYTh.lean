/- Contract of super's Merge. No statement of the seat is proved here. -/
import Derived.Test.YteahdgbokjbgcaaGreatDoorProg
import Derived.Test.YteahdgbokjbgcaaGreatDoorYMQ
import Derived.StillTailTactics
namespace Go.Proofs.YteahdgbokjbgcaaGreatDoor
open Go.RowKit
set_option linter.unusedVariables false
set_option linter.unusedSimpArgs false

def mergeR (A B : Ac) : Int × Ac := if 1099511627776 < A.all + B.all ∨ Gt (A.T + B.T) then (2, A) else (0, A.sum B)
theorem Tot.tailv {w : World} {g : Nat} {t : TypeId} {f : Nat → Int} {rest : List Value} (h : Tot w g t f rest) (j : Nat) {v : Value} (hv : rest[j]? = some v) : w.cell? ⟨g, 67 + j, none⟩ = some v := by rw [h.tail, hv]

set_option maxRecDepth 10000 in
set_option maxHeartbeats 16000000 in
theorem accmerge_any (A B : Ac) (g k : Nat) (w : World) (hA : A.Ok) (hB : B.Ok) (h : AccAt w g A) (hk : AccAt w k B) :
    Calls Tryz.prog 104 #[.pointer (some ⟨g, 0, none⟩), .pointer (some ⟨k, 0, none⟩)] w (AccR (mergeR A B) w g) := by
  obtain ⟨R, hR⟩ : ∃ R, R = mergeR A B := ⟨_, rfl⟩
  rw [← hR]
  have hfit := (fits_sum hA.v hB.v).1
  have hgl := Tot.lt h
  have hkl := Tot.lt hk
  have hR1 : 1099511627776 < A.all + B.all → R = (2, A) := fun h => by rw [hR]; unfold mergeR; rw [if_pos (.inl h)]
  have hR2 : Gt (A.T + B.T) → R = (2, A) := fun h => by rw [hR]; unfold mergeR; rw [if_pos (.inr h)]
  have hR3 : ¬ 1099511627776 < A.all + B.all → ¬ Gt (A.T + B.T) → R = (0, A.sum B) := fun h h' => by rw [hR]; unfold mergeR; rw [if_neg (by rintro (h2 | h2); exact h h2; exact h' h2)]
  have HR1 := Lib.hid hR1; have HR2 := Lib.hid hR2; have HR3 := Lib.hid hR3
  clear hR hR1 hR2 hR3
  obtain ⟨_, p2, p3, p4, p5, p6, p7, p8⟩ := hA
  obtain ⟨_, q2, q3, q4, q5, q6, q7, q8⟩ := hB
  obtain ⟨U, hU⟩ : ∃ U, U = A.T + B.T := ⟨_, rfl⟩
  rw [← hU] at hfit HR2 HR3
  -- the copy of b
  obtain ⟨w1, h1⟩ : ∃ W, W = w.alloc (.cells Tryz.zeroCells124 124) := ⟨_, rfl⟩
  have k1 : AccAt w1 w.heap.size Ac.zero := by rw [h1]; exact acc_zero_alloc w
  have b1 : Below w.heap.size w w1 := by rw [h1]; exact (Below.refl _ _).alloc (Nat.le_refl _) _
  obtain ⟨w2, h2⟩ : ∃ W, W = w1.setRow w.heap.size (accL B).toArray := ⟨_, rfl⟩
  have k2 : AccAt w2 w.heap.size B := by rw [h2]; exact k1.whole
  have b2 : Below w.heap.size w w2 := by rw [h2]; exact bel_grown b1 (Nat.le_refl _) (grown_row _ _ _) (by omega)
  have a2 : AccAt w2 g A := Tot.below h b2 hgl
  have s2 : w2.heap.size = w.heap.size + 1 := by rw [h2]; simp [h1]
  -- the sum
  obtain ⟨w3, h3⟩ : ∃ W, W = w2.alloc (.cells Tryz.zeroCells122 122) := ⟨_, rfl⟩
  have k3 : Tot w3 (w.heap.size + 1) 122 (dz 0) [] := by rw [h3, zero_total, ← s2]; exact tot_new _ _ _ _
  have b3 : Below w2.heap.size w2 w3 := by rw [h3]; exact (Below.refl _ _).alloc (Nat.le_refl _) _
  obtain ⟨w4, h4⟩ : ∃ W, W = w3.setRow (w.heap.size + 1) (rowOf (dz A.T)).toArray := ⟨_, rfl⟩
  have k4 : Tot w4 (w.heap.size + 1) 122 (dz A.T) [] := by rw [h4]; exact k3.whole (h := dz A.T)
  have b4 : Below w2.heap.size w2 w4 := by rw [h4]; exact bel_grown b3 (Nat.le_refl _) (grown_row _ _ _) (by omega)
  have HA := Lib.hid h; have HK := Lib.hid hk
  have H1 := Lib.hid h1; have K1 := Lib.hid k1; have H2 := Lib.hid h2
  have K2 := Lib.hid k2; have B2 := Lib.hid b2; have A2 := Lib.hid a2
  have H3 := Lib.hid h3; have K3 := Lib.hid k3; have H4 := Lib.hid h4; have K4 := Lib.hid k4; have B4 := Lib.hid b4
  have HU := Lib.hid hU
  clear h hk h1 k1 b1 h2 k2 b2 a2 h3 k3 b3 h4 k4 b4 hU
  go_enter Tryz.func104, Tryz.ntmps104
  go_wp2_with (first
    | (refine wpList_load_cells rfl 124 _ rfl k 0 rfl (accL B) _ HK.out.row Tryz.underlying124 rfl (by rw [accL_len]; exact info_acc) ?_)
    | (rw [← H1.out]; refine wpList_store_row rfl 124 _ _ rfl w.heap.size (accL B).toArray rfl rfl 124 (accL Ac.zero).toArray K1.out.heap' (by rw [List.size_toArray, accL_len]; exact info_acc) (by rw [List.size_toArray, List.size_toArray, accL_len, accL_len]) (accL_all _) ?_)
    | (rw [← H2.out]; refine wpList_load_cells rfl 122 _ rfl g 0 rfl (rowOf (dz A.T)) _ (Tot.row A2.out) Tryz.underlying122 rfl (by rw [rowOf_len]; exact info_total) ?_)
    | (rw [← H3.out]; refine wpList_store_row rfl 122 _ _ rfl (w.heap.size + 1) (rowOf (dz A.T)).toArray rfl rfl 122 (rowOf (dz 0)).toArray K3.out.heap' (by rw [List.size_toArray, rowOf_len]; exact info_total) (by rw [List.size_toArray, List.size_toArray, rowOf_len, rowOf_len]) (rowOf_all _) ?_))
  rw [← H4.out]
  have A4 : Hid (AccAt w4 g A) := Tot.below A2.out B4.out (by omega)
  have O4 : Hid (AccAt w4 w.heap.size B) := Tot.below K2.out B4.out (by omega)
  refine (tadd_any A.T B.T (w.heap.size + 1) w.heap.size _ _ _ _ w4 (by omega) K4.out O4.out).mono ?_; rintro en w5 ⟨rfl, hT5, hG5⟩
  rw [← HU.out] at hT5
  have A5 : Hid (AccAt w5 g A) := Tot.grown A4.out hG5 (by omega)
  have O5 : Hid (AccAt w5 w.heap.size B) := Tot.grown O4.out hG5 (by omega)
  have B5 : Hid (Below w.heap.size w w5) := bel_grown (B2.out.trans (B4.out.mono (by omega))) (Nat.le_refl _) hG5 (by omega)
  have T5 := Lib.hid hT5
  have HGr := Lib.hid (fun W (hW : Tot W (w.heap.size + 1) 122 (dz U) []) => tgreat_any U (w.heap.size + 1) _ _ W hfit hW)
  have x1 := A5.out.tailv 5 rfl
  have x2 := O5.out.tailv 5 rfl
  clear hT5 hG5 H1 K1 H2 K2 A2 H3 K3 H4 K4 A4 O4 hfit HA HK
  by_cases hall : 1099511627776 < A.all + B.all
  · have e9 : decide (1099511627776 < A.all + B.all) = true := decide_eq_true hall
    have HR := Lib.hid (HR1.out hall)
    clear hall
    go_wp2_with fail
    go_quiet (fail)
    go_wp2_with fail
    go_ret
    rw [HR.out]
    exact ⟨rfl, A5.out.drew, gr_below (below_drewN' B5.out)⟩
  have e9 : decide (1099511627776 < A.all + B.all) = false := decide_eq_false hall
  have hng : ∃ b, (b = true ↔ Gt U) ∧ ∀ n, Calls Tryz.prog 216 #[.pointer (some ⟨w.heap.size + 1, 0, none⟩)] (w5.drewN n) fun en w' => en = .returned (.bool b) ∧ w' = w5.drewN n := by
    refine ⟨decide (Gt U), by simp, fun n => ?_⟩
    refine (HGr.out (w5.drewN n) T5.out).mono ?_
    rintro en w' ⟨b, rfl, hb, rfl⟩
    refine ⟨?_, rfl⟩
    congr 2
    cases b
    · simp at hb; simp [hb]
    · simp at hb; simp [hb]
  obtain ⟨b, hbi, hGt⟩ := hng
  have HGt := Lib.hid hGt; have HBI := Lib.hid hbi
  have HALL := Lib.hid hall
  clear hGt HGr hbi hall
  go_wp2_with fail
  go_quiet (first | (go_at_call 216; with_reducible exact Calls.quiet_of_same (HGt.out _)))
  obtain ⟨w6, h6⟩ : ∃ W, W = w5.drewN nq := ⟨_, rfl⟩
  rw [← h6]
  have A6 : Hid (AccAt w6 g A) := by rw [h6]; exact A5.out
  have O6 : Hid (AccAt w6 w.heap.size B) := by rw [h6]; exact O5.out
  have B6 : Hid (Below w.heap.size w w6) := by rw [h6]; exact below_drewN' B5.out
  have T6 : Hid (Tot w6 (w.heap.size + 1) 122 (dz U) []) := by rw [h6]; exact T5.out
  clear h6 A5 O5 B5 T5 x1 x2 HGt
  cases b
  case true =>
    have HR := Lib.hid (HR2.out (HBI.out.1 rfl))
    go_wp2_with fail
    go_ret
    rw [HR.out]
    exact ⟨rfl, A6.out, gr_below B6.out⟩
  have hng : ¬ Gt U := fun h => by have := HBI.out.2 h; cases this
  have HR := Lib.hid (HR3.out HALL.out hng)
  obtain ⟨w7, h7⟩ : ∃ W, W = w6.setRow g ((rowOf (dz A.T) ++ spc A).take 0 ++ rowOf (dz U) ++ (rowOf (dz A.T) ++ spc A).drop (0 + (rowOf (dz U)).length)).toArray := ⟨_, rfl⟩
  have A7 : Hid (Tot w7 g 124 (dz U) (spc A)) := by rw [h7]; exact Tot.laid A6.out
  have G7 : Hid (w.grownBy w7 (some g)) := by rw [h7]; exact gr_trans (gr_below B6.out) (grown_row _ _ _)
  have O7 : Hid (AccAt w7 w.heap.size B) := by rw [h7]; exact Tot.grown O6.out (grown_row _ _ _) (by omega)
  have H7 := Lib.hid h7
  clear h7 hng HBI HR1 HR2 HR3
  go_wp2_with (first
    | (refine wpList_load_cells rfl 122 _ rfl (w.heap.size + 1) 0 rfl (rowOf (dz U)) _ (Tot.row T6.out) Tryz.underlying122 rfl (by rw [rowOf_len]; exact info_total) ?_)
    | (refine wpList_store_cells rfl 122 _ _ rfl g 0 (rowOf (dz U)) rfl rfl 124 (rowOf (dz A.T) ++ spc A) A6.out.heap' (by rw [rowOf_len]; exact info_total) (by simp only [List.length_append, rowOf_len]; omega) (rowOf_one _) ?_; rw [← H7.out]))
  clear H7 A6 O6 B6 T6
  have A7 : Hid (Tot w7 g 124 (dz U) [.int .i64 A.nan, .int .i64 A.up, .int .i64 A.down, .int .i64 A.minus, .int .i64 A.plus, .int .i64 A.all]) := A7.out
  have O7 : Hid (Tot w7 w.heap.size 124 (dz B.T) [.int .i64 B.nan, .int .i64 B.up, .int .i64 B.down, .int .i64 B.minus, .int .i64 B.plus, .int .i64 B.all]) := O7.out
  have x1 := A7.out.tailv 0 rfl
  have x2 := O7.out.tailv 0 rfl
  have x3 := A7.out.frozen 67
  have x4 : IntKind.i64.wrap (A.nan + B.nan) = A.nan + B.nan := by have := HALL.out; rw [IntKind.wrap_i64]; omega
  go_wp2_with fail
  go_still_tail 12, (by kernel_rfl)
  go_wp2_with fail
  obtain ⟨w8, h8⟩ : ∃ W, W = (w7.setCell ⟨g, 67, none⟩ (.int .i64 (A.nan + B.nan))).drew := ⟨_, rfl⟩
  rw [← h8]
  have A8 : Hid (Tot w8 g 124 (dz U) [.int .i64 (A.nan + B.nan), .int .i64 A.up, .int .i64 A.down, .int .i64 A.minus, .int .i64 A.plus, .int .i64 A.all]) := by rw [h8]; exact (A7.out.setTail 0 _).drew
  have G8 : Hid (w.grownBy w8 (some g)) := by rw [h8]; exact gr_drew (grown_set' G7.out _ _)
  have O8 : Hid (Tot w8 w.heap.size 124 (dz B.T) [.int .i64 B.nan, .int .i64 B.up, .int .i64 B.down, .int .i64 B.minus, .int .i64 B.plus, .int .i64 B.all]) := by rw [h8]; exact (Tot.other O7.out (a := ⟨g, 67, none⟩) (by show g ≠ w.heap.size; omega) _).drew
  clear h8 A7 G7 O7 x1 x2 x3 x4
  have x1 := A8.out.tailv 1 rfl
  have x2 := O8.out.tailv 1 rfl
  have x3 := A8.out.frozen 68
  have x4 : IntKind.i64.wrap (A.up + B.up) = A.up + B.up := by have := HALL.out; rw [IntKind.wrap_i64]; omega
  go_wp2_with fail
  go_still_tail 12, (by kernel_rfl)
  go_wp2_with fail
  obtain ⟨w9, h9⟩ : ∃ W, W = (w8.setCell ⟨g, 68, none⟩ (.int .i64 (A.up + B.up))).drew := ⟨_, rfl⟩
  rw [← h9]
  have A9 : Hid (Tot w9 g 124 (dz U) [.int .i64 (A.nan + B.nan), .int .i64 (A.up + B.up), .int .i64 A.down, .int .i64 A.minus, .int .i64 A.plus, .int .i64 A.all]) := by rw [h9]; exact (A8.out.setTail 1 _).drew
  have G9 : Hid (w.grownBy w9 (some g)) := by rw [h9]; exact gr_drew (grown_set' G8.out _ _)
  have O9 : Hid (Tot w9 w.heap.size 124 (dz B.T) [.int .i64 B.nan, .int .i64 B.up, .int .i64 B.down, .int .i64 B.minus, .int .i64 B.plus, .int .i64 B.all]) := by rw [h9]; exact (Tot.other O8.out (a := ⟨g, 68, none⟩) (by show g ≠ w.heap.size; omega) _).drew
  clear h9 A8 G8 O8 x1 x2 x3 x4
  have x1 := A9.out.tailv 2 rfl
  have x2 := O9.out.tailv 2 rfl
  have x3 := A9.out.frozen 69
  have x4 : IntKind.i64.wrap (A.down + B.down) = A.down + B.down := by have := HALL.out; rw [IntKind.wrap_i64]; omega
  go_wp2_with fail
  go_still_tail 12, (by kernel_rfl)
  go_wp2_with fail
  obtain ⟨w10, h10⟩ : ∃ W, W = (w9.setCell ⟨g, 69, none⟩ (.int .i64 (A.down + B.down))).drew := ⟨_, rfl⟩
  rw [← h10]
  have A10 : Hid (Tot w10 g 124 (dz U) [.int .i64 (A.nan + B.nan), .int .i64 (A.up + B.up), .int .i64 (A.down + B.down), .int .i64 A.minus, .int .i64 A.plus, .int .i64 A.all]) := by rw [h10]; exact (A9.out.setTail 2 _).drew
  have G10 : Hid (w.grownBy w10 (some g)) := by rw [h10]; exact gr_drew (grown_set' G9.out _ _)
  have O10 : Hid (Tot w10 w.heap.size 124 (dz B.T) [.int .i64 B.nan, .int .i64 B.up, .int .i64 B.down, .int .i64 B.minus, .int .i64 B.plus, .int .i64 B.all]) := by rw [h10]; exact (Tot.other O9.out (a := ⟨g, 69, none⟩) (by show g ≠ w.heap.size; omega) _).drew
  clear h10 A9 G9 O9 x1 x2 x3 x4
  have x1 := A10.out.tailv 3 rfl
  have x2 := O10.out.tailv 3 rfl
  have x3 := A10.out.frozen 70
  have x4 : IntKind.i64.wrap (A.minus + B.minus) = A.minus + B.minus := by have := HALL.out; rw [IntKind.wrap_i64]; omega
  go_wp2_with fail
  go_still_tail 12, (by kernel_rfl)
  go_wp2_with fail
  obtain ⟨w11, h11⟩ : ∃ W, W = (w10.setCell ⟨g, 70, none⟩ (.int .i64 (A.minus + B.minus))).drew := ⟨_, rfl⟩
  rw [← h11]
  have A11 : Hid (Tot w11 g 124 (dz U) [.int .i64 (A.nan + B.nan), .int .i64 (A.up + B.up), .int .i64 (A.down + B.down), .int .i64 (A.minus + B.minus), .int .i64 A.plus, .int .i64 A.all]) := by rw [h11]; exact (A10.out.setTail 3 _).drew
  have G11 : Hid (w.grownBy w11 (some g)) := by rw [h11]; exact gr_drew (grown_set' G10.out _ _)
  have O11 : Hid (Tot w11 w.heap.size 124 (dz B.T) [.int .i64 B.nan, .int .i64 B.up, .int .i64 B.down, .int .i64 B.minus, .int .i64 B.plus, .int .i64 B.all]) := by rw [h11]; exact (Tot.other O10.out (a := ⟨g, 70, none⟩) (by show g ≠ w.heap.size; omega) _).drew
  clear h11 A10 G10 O10 x1 x2 x3 x4
  have x1 := A11.out.tailv 4 rfl
  have x2 := O11.out.tailv 4 rfl
  have x3 := A11.out.frozen 71
  have x4 : IntKind.i64.wrap (A.plus + B.plus) = A.plus + B.plus := by have := HALL.out; rw [IntKind.wrap_i64]; omega
  go_wp2_with fail
  go_still_tail 12, (by kernel_rfl)
  go_wp2_with fail
  obtain ⟨w12, h12⟩ : ∃ W, W = (w11.setCell ⟨g, 71, none⟩ (.int .i64 (A.plus + B.plus))).drew := ⟨_, rfl⟩
  rw [← h12]
  have A12 : Hid (Tot w12 g 124 (dz U) [.int .i64 (A.nan + B.nan), .int .i64 (A.up + B.up), .int .i64 (A.down + B.down), .int .i64 (A.minus + B.minus), .int .i64 (A.plus + B.plus), .int .i64 A.all]) := by rw [h12]; exact (A11.out.setTail 4 _).drew
  have G12 : Hid (w.grownBy w12 (some g)) := by rw [h12]; exact gr_drew (grown_set' G11.out _ _)
  have O12 : Hid (Tot w12 w.heap.size 124 (dz B.T) [.int .i64 B.nan, .int .i64 B.up, .int .i64 B.down, .int .i64 B.minus, .int .i64 B.plus, .int .i64 B.all]) := by rw [h12]; exact (Tot.other O11.out (a := ⟨g, 71, none⟩) (by show g ≠ w.heap.size; omega) _).drew
  clear h12 A11 G11 O11 x1 x2 x3 x4
  have x1 := A12.out.tailv 5 rfl
  have x2 := O12.out.tailv 5 rfl
  have x3 := A12.out.frozen 72
  have x4 : IntKind.i64.wrap (A.all + B.all) = A.all + B.all := by have := HALL.out; rw [IntKind.wrap_i64]; omega
  go_wp2_with fail
  go_still_tail 12, (by kernel_rfl)
  go_wp2_with fail
  obtain ⟨w13, h13⟩ : ∃ W, W = (w12.setCell ⟨g, 72, none⟩ (.int .i64 (A.all + B.all))).drew := ⟨_, rfl⟩
  rw [← h13]
  have A13 : Hid (Tot w13 g 124 (dz U) [.int .i64 (A.nan + B.nan), .int .i64 (A.up + B.up), .int .i64 (A.down + B.down), .int .i64 (A.minus + B.minus), .int .i64 (A.plus + B.plus), .int .i64 (A.all + B.all)]) := by rw [h13]; exact (A12.out.setTail 5 _).drew
  have G13 : Hid (w.grownBy w13 (some g)) := by rw [h13]; exact gr_drew (grown_set' G12.out _ _)
  have O13 : Hid (Tot w13 w.heap.size 124 (dz B.T) [.int .i64 B.nan, .int .i64 B.up, .int .i64 B.down, .int .i64 B.minus, .int .i64 B.plus, .int .i64 B.all]) := by rw [h13]; exact (Tot.other O12.out (a := ⟨g, 72, none⟩) (by show g ≠ w.heap.size; omega) _).drew
  clear h13 A12 G12 O12 x1 x2 x3 x4
  go_wp2_with fail
  go_ret
  rw [HR.out]
  refine ⟨rfl, ?_, G13.out⟩
  have := A13.out
  rw [HU.out] at this
  exact this
end Go.Proofs.YteahdgbokjbgcaaGreatDoor
