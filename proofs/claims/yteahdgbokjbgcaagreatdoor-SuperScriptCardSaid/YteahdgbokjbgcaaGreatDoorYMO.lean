/- Contracts of super: Add, Take, AddProduct, TakeProduct, Copy. Contracts of policy: choice, May, mayBe, Verdict, Nought, for the counts of an accumulator. Contracts of policy.Verdict, Nought, for the counts of an accumulator. No statement of the seat is proved here. -/
import Derived.Test.YteahdgbokjbgcaaGreatDoorProg
import Derived.Test.YteahdgbokjbgcaaGreatDoorYMN
namespace Go.Proofs.YteahdgbokjbgcaaGreatDoor
open Go.RowKit
set_option linter.unusedVariables false
set_option linter.unusedSimpArgs false

/-- a thing more -/
def addR (A d : Ac) : Int × Ac := if A.all = 1099511627776 then (2, A) else if Gt (A.T + d.T) then (2, A) else (0, A.sum d)
/-- may it be taken? -/
def Ac.Has (A d : Ac) : Prop := d.nan ≤ A.nan ∧ d.up ≤ A.up ∧ d.down ≤ A.down ∧ d.minus ≤ A.minus ∧ d.plus ≤ A.plus ∧ (A.nan - d.nan) + (A.up - d.up) + (A.down - d.down) + (A.minus - d.minus) + (A.plus - d.plus) ≤ A.all - d.all
instance (A d : Ac) : Decidable (A.Has d) := by unfold Ac.Has; infer_instance
def takeR (A d : Ac) : Int × Ac := if A.Has d then (if Gt (A.T - d.T) then (2, A) else (0, A.less d)) else (3, A)
theorem moreR_eq (A : Ac) (t : Th) (h : A.Ok) : moreR A t = addR A t.ac := by
  unfold moreR addR
  by_cases h1 : A.all = 1099511627776
  · rw [if_pos h1, if_pos h1]
  · rw [if_neg h1, if_neg h1]
    rcases cntO_cases t.c t.neg with hc | ⟨o, hc, _⟩
    · rw [hc, ac_of_none hc]
      by_cases h2 : Gt (A.T + t.v)
      · rw [if_pos ⟨rfl, h2⟩, if_pos h2]
      · rw [if_neg (fun h => h2 h.2), if_neg h2]
    · rw [hc, if_neg (fun h => by cases h.1), ac_of_some hc]
      dsimp only
      rw [Int.add_zero, if_neg h.v]
theorem lessR_eq (A : Ac) (t : Th) (h : A.Ok) : lessR A t = takeR A t.ac := by
  obtain ⟨k1, k2, k3, k4, k5, k6, k7, k8⟩ := h
  unfold lessR takeR
  rcases cntO_cases t.c t.neg with hc | ⟨o, hc, o1, o2⟩
  · rw [hc, ac_of_none hc]
    dsimp only
    by_cases h1 : A.all = A.nan + A.up + A.down + A.minus + A.plus
    · rw [if_pos h1, if_neg (by unfold Ac.Has; dsimp only; omega)]
    · rw [if_neg h1, if_pos (show A.Has ⟨t.v, 0, 0, 0, 0, 0, 1⟩ by unfold Ac.Has; dsimp only; omega)]
  · rw [hc, ac_of_some hc]
    dsimp only
    rw [Int.sub_zero, if_neg k1]
    rcases (show o = 67 ∨ o = 68 ∨ o = 69 ∨ o = 70 ∨ o = 71 by omega) with rfl | rfl | rfl | rfl | rfl <;>
    · unfold cntA Ac.Has
      simp only [show ((67 : Nat) = 68) = False by simp, show ((67 : Nat) = 69) = False by simp, show ((67 : Nat) = 70) = False by simp, show ((67 : Nat) = 71) = False by simp, if_true, if_false, Nat.reduceEqDiff]
      split
      · next h1 => rw [if_neg (by omega)]
      · next h1 => rw [if_pos (by omega)]
theorem addR_ok {A d : Ac} (h : A.Ok) (k : d.One) : (addR A d).2.Ok := by
  unfold addR
  split
  · exact h
  · split
    · exact h
    · next h1 h2 =>
      obtain ⟨k1, k2, k3, k4, k5, k6, k7, k8⟩ := h
      obtain ⟨j1, j2, j3, j4, j5, j6, j7, j8⟩ := k
      exact ⟨h2, by show 0 ≤ A.nan + d.nan; omega, by show 0 ≤ A.up + d.up; omega, by show 0 ≤ A.down + d.down; omega, by show 0 ≤ A.minus + d.minus; omega, by show 0 ≤ A.plus + d.plus; omega, by show A.nan + d.nan + (A.up + d.up) + (A.down + d.down) + (A.minus + d.minus) + (A.plus + d.plus) ≤ A.all + d.all; omega, by show A.all + d.all ≤ _; omega⟩
theorem takeR_ok {A d : Ac} (h : A.Ok) (k : d.One) : (takeR A d).2.Ok := by
  unfold takeR
  split
  · next h0 =>
    split
    · exact h
    · next h2 =>
      obtain ⟨k1, k2, k3, k4, k5, k6, k7, k8⟩ := h
      obtain ⟨j1, j2, j3, j4, j5, j6, j7, j8⟩ := k
      obtain ⟨q1, q2, q3, q4, q5, q6⟩ := h0
      exact ⟨h2, by show 0 ≤ A.nan - d.nan; omega, by show 0 ≤ A.up - d.up; omega, by show 0 ≤ A.down - d.down; omega, by show 0 ≤ A.minus - d.minus; omega, by show 0 ≤ A.plus - d.plus; omega, q6, by show A.all - d.all ≤ _; omega⟩
  · exact h

set_option maxRecDepth 10000 in
set_option maxHeartbeats 2000000 in
theorem accadd_any (A : Ac) (b g : Nat) (w : World) (hA : A.Ok) (hb : b < 18446744073709551616) (h : AccAt w g A) :
    Calls Tryz.prog 94 #[.pointer (some ⟨g, 0, none⟩), .float .f64 b] w (AccR (addR A (numT b)) w g) := by
  obtain ⟨R, hR⟩ : ∃ R, R = addR A (numT b) := ⟨_, rfl⟩
  rw [← hR]
  have HO := Lib.hid (one_any b w hb)
  have hM : ∀ (W : World) (t : Th), Below w.heap.size w W → t.Ok → t.ac = numT b → Calls Tryz.prog 202 #[.pointer (some ⟨g, 0, none⟩), t.val] W (AccR R W g) := by
    intro W t hw ht hac
    have := accmore_any A t g W hA ht (acc_below h hw (Tot.lt h))
    rw [moreR_eq A t hA, hac, ← hR] at this
    exact this
  have HM := Lib.hid hM
  clear hM hR hb h hA
  go_enter Tryz.func94, Tryz.ntmps94
  go_wp2_with fail
  refine HO.out.mono ?_; rintro en w1 ⟨t, rfl, ht, hac, hb1⟩
  have HT := Lib.hid ht; have HAC := Lib.hid hac; have HB := Lib.hid hb1
  clear ht hac hb1
  go_wp2_with fail
  refine (HM.out w1 t HB.out HT.out HAC.out).mono ?_; rintro en w2 ⟨rfl, h2, h3⟩
  have H2 := Lib.hid h2; have H3 := Lib.hid h3
  clear h2 h3
  go_wp2_with fail
  go_ret
  exact ⟨rfl, H2.out, gr_trans (gr_below HB.out) H3.out⟩

set_option maxRecDepth 10000 in
set_option maxHeartbeats 2000000 in
theorem acctake_any (A : Ac) (b g : Nat) (w : World) (hA : A.Ok) (hb : b < 18446744073709551616) (h : AccAt w g A) :
    Calls Tryz.prog 99 #[.pointer (some ⟨g, 0, none⟩), .float .f64 b] w (AccR (takeR A (numT b)) w g) := by
  obtain ⟨R, hR⟩ : ∃ R, R = takeR A (numT b) := ⟨_, rfl⟩
  rw [← hR]
  have HO := Lib.hid (one_any b w hb)
  have hM : ∀ (W : World) (t : Th), Below w.heap.size w W → t.Ok → t.ac = numT b → Calls Tryz.prog 209 #[.pointer (some ⟨g, 0, none⟩), t.val] W (AccR R W g) := by
    intro W t hw ht hac
    have := accless_any A t g W hA ht (acc_below h hw (Tot.lt h))
    rw [lessR_eq A t hA, hac, ← hR] at this
    exact this
  have HM := Lib.hid hM
  clear hM hR hb h hA
  go_enter Tryz.func99, Tryz.ntmps99
  go_wp2_with fail
  refine HO.out.mono ?_; rintro en w1 ⟨t, rfl, ht, hac, hb1⟩
  have HT := Lib.hid ht; have HAC := Lib.hid hac; have HB := Lib.hid hb1
  clear ht hac hb1
  go_wp2_with fail
  refine (HM.out w1 t HB.out HT.out HAC.out).mono ?_; rintro en w2 ⟨rfl, h2, h3⟩
  have H2 := Lib.hid h2; have H3 := Lib.hid h3
  clear h2 h3
  go_wp2_with fail
  go_ret
  exact ⟨rfl, H2.out, gr_trans (gr_below HB.out) H3.out⟩

set_option maxRecDepth 10000 in
set_option maxHeartbeats 2000000 in
theorem accaddp_any (A : Ac) (b c g : Nat) (w : World) (hA : A.Ok) (hb : b < 18446744073709551616) (hc : c < 18446744073709551616) (h : AccAt w g A) :
    Calls Tryz.prog 101 #[.pointer (some ⟨g, 0, none⟩), .float .f64 b, .float .f64 c] w (AccR (addR A (prT b c)) w g) := by
  obtain ⟨R, hR⟩ : ∃ R, R = addR A (prT b c) := ⟨_, rfl⟩
  rw [← hR]
  have HO := Lib.hid (product_any b c w hb hc)
  have hM : ∀ (W : World) (t : Th), Below w.heap.size w W → t.Ok → t.ac = prT b c → Calls Tryz.prog 202 #[.pointer (some ⟨g, 0, none⟩), t.val] W (AccR R W g) := by
    intro W t hw ht hac
    have := accmore_any A t g W hA ht (acc_below h hw (Tot.lt h))
    rw [moreR_eq A t hA, hac, ← hR] at this
    exact this
  have HM := Lib.hid hM
  clear hM hR hb h hA hc
  go_enter Tryz.func101, Tryz.ntmps101
  go_wp2_with fail
  refine HO.out.mono ?_; rintro en w1 ⟨t, rfl, ht, hac, hb1⟩
  have HT := Lib.hid ht; have HAC := Lib.hid hac; have HB := Lib.hid hb1
  clear ht hac hb1
  go_wp2_with fail
  refine (HM.out w1 t HB.out HT.out HAC.out).mono ?_; rintro en w2 ⟨rfl, h2, h3⟩
  have H2 := Lib.hid h2; have H3 := Lib.hid h3
  clear h2 h3
  go_wp2_with fail
  go_ret
  exact ⟨rfl, H2.out, gr_trans (gr_below HB.out) H3.out⟩

set_option maxRecDepth 10000 in
set_option maxHeartbeats 2000000 in
theorem acctakep_any (A : Ac) (b c g : Nat) (w : World) (hA : A.Ok) (hb : b < 18446744073709551616) (hc : c < 18446744073709551616) (h : AccAt w g A) :
    Calls Tryz.prog 103 #[.pointer (some ⟨g, 0, none⟩), .float .f64 b, .float .f64 c] w (AccR (takeR A (prT b c)) w g) := by
  obtain ⟨R, hR⟩ : ∃ R, R = takeR A (prT b c) := ⟨_, rfl⟩
  rw [← hR]
  have HO := Lib.hid (product_any b c w hb hc)
  have hM : ∀ (W : World) (t : Th), Below w.heap.size w W → t.Ok → t.ac = prT b c → Calls Tryz.prog 209 #[.pointer (some ⟨g, 0, none⟩), t.val] W (AccR R W g) := by
    intro W t hw ht hac
    have := accless_any A t g W hA ht (acc_below h hw (Tot.lt h))
    rw [lessR_eq A t hA, hac, ← hR] at this
    exact this
  have HM := Lib.hid hM
  clear hM hR hb h hA hc
  go_enter Tryz.func103, Tryz.ntmps103
  go_wp2_with fail
  refine HO.out.mono ?_; rintro en w1 ⟨t, rfl, ht, hac, hb1⟩
  have HT := Lib.hid ht; have HAC := Lib.hid hac; have HB := Lib.hid hb1
  clear ht hac hb1
  go_wp2_with fail
  refine (HM.out w1 t HB.out HT.out HAC.out).mono ?_; rintro en w2 ⟨rfl, h2, h3⟩
  have H2 := Lib.hid h2; have H3 := Lib.hid h3
  clear h2 h3
  go_wp2_with fail
  go_ret
  exact ⟨rfl, H2.out, gr_trans (gr_below HB.out) H3.out⟩

def accL (A : Ac) : List Value := rowOf (dz A.T) ++ spc A
theorem accL_len (A : Ac) : (accL A).length = 73 := by unfold accL; rw [List.length_append, rowOf_len]; rfl
theorem accL_one (A : Ac) : ∀ v ∈ accL A, v.oneCell' = true := by
  intro v hv
  unfold accL at hv
  rcases List.mem_append.1 hv with h | h
  · exact rowOf_one _ v h
  · unfold spc at h
    simp only [List.mem_cons, List.not_mem_nil, or_false] at h
    rcases h with rfl | rfl | rfl | rfl | rfl | rfl <;> rfl
theorem accL_all (A : Ac) : (accL A).toArray.all (·.oneCell') = true := by
  rw [Array.all_eq_true_iff_forall_mem]
  intro v hv
  exact accL_one A v (by simpa using hv)
theorem AccAt.heap' {w : World} {g : Nat} {A : Ac} (h : AccAt w g A) : w.heap[g]? = some (.cells (accL A).toArray 124 (0, 0)) := h
theorem AccAt.row {w : World} {g : Nat} {A : Ac} (h : AccAt w g A) : ∀ j v, (accL A)[j]? = some v → w.cell? ⟨g, 0 + j, none⟩ = some v := by
  intro j v hv
  rw [Nat.zero_add, cell_of_row w g j _ _ (0, 0) h.heap', List.getElem?_toArray]
  exact hv
theorem AccAt.whole {w : World} {g : Nat} {A B : Ac} (h : AccAt w g A) : AccAt (w.setRow g (accL B).toArray) g B := by
  have h' := h.heap'
  show (w.setRow g (accL B).toArray).heap[g]? = _
  rw [heap_setRow, if_pos rfl, h']; rfl
theorem acc_zero_alloc (w : World) : AccAt (w.alloc (.cells Tryz.zeroCells124 124)) w.heap.size Ac.zero := by rw [zero_acc]; exact tot_new _ _ _ _

set_option maxRecDepth 10000 in
set_option maxHeartbeats 2000000 in
theorem acccopy_any (A : Ac) (g : Nat) (w : World) (h : AccAt w g A) :
    Calls Tryz.prog 24 #[.pointer (some ⟨g, 0, none⟩)] w fun en w' => en = .returned (.pointer (some ⟨w.heap.size, 0, none⟩)) ∧ AccAt w' w.heap.size A ∧ Below w.heap.size w w' := by
  have HA := Lib.hid h
  obtain ⟨w1, h1⟩ : ∃ W, W = w.alloc (.cells Tryz.zeroCells124 124) := ⟨_, rfl⟩
  have hk : AccAt w1 w.heap.size Ac.zero := by rw [h1]; exact acc_zero_alloc w
  have hb : Below w.heap.size w w1 := by rw [h1]; exact (Below.refl _ _).alloc (Nat.le_refl _) _
  have H1 := Lib.hid h1; have HK := Lib.hid hk; have HB := Lib.hid hb
  clear h h1 hk hb
  go_enter Tryz.func24, Tryz.ntmps24
  go_wp2_with (first
    | (refine wpList_load_cells rfl 124 _ rfl g 0 rfl (accL A) _ HA.out.row Tryz.underlying124 rfl (by rw [accL_len]; exact info_acc) ?_)
    | (rw [← H1.out]; refine wpList_store_row rfl 124 _ _ rfl w.heap.size (accL A).toArray rfl rfl 124 (accL Ac.zero).toArray HK.out.heap' (by rw [List.size_toArray, accL_len]; exact info_acc) (by rw [List.size_toArray, List.size_toArray, accL_len, accL_len]) (accL_all _) ?_))
  go_ret
  exact ⟨rfl, HK.out.whole, bel_grown HB.out (Nat.le_refl _) (grown_row _ _ _) (Nat.le_refl _)⟩
end Go.Proofs.YteahdgbokjbgcaaGreatDoor
namespace Go.Proofs.YteahdgbokjbgcaaGreatDoor
open Go.RowKit
set_option linter.unusedVariables false
set_option linter.unusedSimpArgs false

def spcV (A : Ac) : Value := .agg #[.int .i64 A.nan, .int .i64 A.up, .int .i64 A.down, .int .i64 A.minus, .int .i64 A.plus, .int .i64 A.all]
def pol (pn pi : Int) : Value := .agg #[.int .i64 pn, .int .i64 pi]

set_option maxRecDepth 10000 in
set_option maxHeartbeats 2000000 in
theorem choice_any (n : Int) (w : World) (h1 : 0 ≤ n) (h2 : n ≤ 2) : Calls Tryz.prog 249 #[.int .i64 n] w fun en w' => en = .returned (.bool true) ∧ w = w' := by
  go_enter Tryz.func249, Tryz.ntmps249
  go_wp2_with fail
  go_ret
  exact ⟨rfl, rfl⟩
set_option maxRecDepth 10000 in
set_option maxHeartbeats 2000000 in
theorem may_any (pn pi : Int) (w : World) (h1 : 0 ≤ pn) (h2 : pn ≤ 2) (h3 : 0 ≤ pi) (h4 : pi ≤ 2) : Calls Tryz.prog 157 #[pol pn pi] w fun en w' => en = .returned (.bool true) ∧ Below w.heap.size w w' := by
  have HB : Hid (Below w.heap.size w (w.alloc (.cells #[.int .i64 pn, .int .i64 pi] 61))) := (Below.refl _ _).alloc (Nat.le_refl _) _
  unfold pol
  go_enter Tryz.func157, Tryz.ntmps157
  go_wp2_with (first
    | (go_at_call 249; refine (choice_any pn _ h1 h2).mono ?_; rintro e w' ⟨rfl, rfl⟩)
    | (go_at_call 249; refine (choice_any pi _ h3 h4).mono ?_; rintro e w' ⟨rfl, rfl⟩))
  go_ret
  exact ⟨rfl, HB.out⟩

set_option maxRecDepth 10000 in
set_option maxHeartbeats 4000000 in
theorem mayBe_any (A : Ac) (w : World) (hA : A.Ok) : Calls Tryz.prog 310 #[spcV A] w fun en w' => en = .returned (.bool true) ∧ Below w.heap.size w w' := by
  obtain ⟨_, k2, k3, k4, k5, k6, k7, k8⟩ := hA
  have HB : Hid (Below w.heap.size w (w.alloc (.cells #[.int .i64 A.nan, .int .i64 A.up, .int .i64 A.down, .int .i64 A.minus, .int .i64 A.plus, .int .i64 A.all] 57))) := (Below.refl _ _).alloc (Nat.le_refl _) _
  unfold spcV
  have i0 : ∀ W, (Instr.index 309 (.agg #[.int .i64 A.nan, .int .i64 A.up, .int .i64 A.down, .int .i64 A.minus, .int .i64 A.plus]) (.int .i64 0)).run Tryz.prog W = .ok (.int .i64 A.nan) W := fun _ => by kernel_rfl
  have i1 : ∀ W, (Instr.index 309 (.agg #[.int .i64 A.nan, .int .i64 A.up, .int .i64 A.down, .int .i64 A.minus, .int .i64 A.plus]) (.int .i64 1)).run Tryz.prog W = .ok (.int .i64 A.up) W := fun _ => by kernel_rfl
  have i2 : ∀ W, (Instr.index 309 (.agg #[.int .i64 A.nan, .int .i64 A.up, .int .i64 A.down, .int .i64 A.minus, .int .i64 A.plus]) (.int .i64 2)).run Tryz.prog W = .ok (.int .i64 A.down) W := fun _ => by kernel_rfl
  have i3 : ∀ W, (Instr.index 309 (.agg #[.int .i64 A.nan, .int .i64 A.up, .int .i64 A.down, .int .i64 A.minus, .int .i64 A.plus]) (.int .i64 3)).run Tryz.prog W = .ok (.int .i64 A.minus) W := fun _ => by kernel_rfl
  have i4 : ∀ W, (Instr.index 309 (.agg #[.int .i64 A.nan, .int .i64 A.up, .int .i64 A.down, .int .i64 A.minus, .int .i64 A.plus]) (.int .i64 4)).run Tryz.prog W = .ok (.int .i64 A.plus) W := fun _ => by kernel_rfl
  go_enter Tryz.func310, Tryz.ntmps310
  go_wp2_with fail
  go_loop [3, 17] (fun s i => (i = .int .i64 0 ∧ s = .int .i64 (0)) ∨ (i = .int .i64 1 ∧ s = .int .i64 (A.nan)) ∨ (i = .int .i64 2 ∧ s = .int .i64 (A.nan + A.up)) ∨ (i = .int .i64 3 ∧ s = .int .i64 (A.nan + A.up + A.down)) ∨ (i = .int .i64 4 ∧ s = .int .i64 (A.nan + A.up + A.down + A.minus)) ∨ (i = .int .i64 5 ∧ s = .int .i64 (A.nan + A.up + A.down + A.minus + A.plus))) (fun _ i => 5 - (intOf i).toNat)
  case atStart => exact .inl ⟨rfl, rfl⟩
  case round =>
    rcases hrel with ⟨rfl, rfl⟩ | ⟨rfl, rfl⟩ | ⟨rfl, rfl⟩ | ⟨rfl, rfl⟩ | ⟨rfl, rfl⟩ | ⟨rfl, rfl⟩
    · have u1 : A.nan ≤ 1099511627776 := by omega
      go_wp2_with fail
      go_round
      case rel => exact .inr (.inl ⟨by go_num, by go_num⟩)
      case measure => simp [intOf]
    · have u1 : A.up ≤ 1099511627776 := by omega
      go_wp2_with fail
      go_round
      case rel => exact .inr (.inr (.inl ⟨by go_num, by go_num⟩))
      case measure => simp [intOf]
    · have u1 : A.down ≤ 1099511627776 := by omega
      go_wp2_with fail
      go_round
      case rel => exact .inr (.inr (.inr (.inl ⟨by go_num, by go_num⟩)))
      case measure => simp [intOf]
    · have u1 : A.minus ≤ 1099511627776 := by omega
      go_wp2_with fail
      go_round
      case rel => exact .inr (.inr (.inr (.inr (.inl ⟨by go_num, by go_num⟩))))
      case measure => simp [intOf]
    · have u1 : A.plus ≤ 1099511627776 := by omega
      go_wp2_with fail
      go_round
      case rel => exact .inr (.inr (.inr (.inr (.inr (⟨by go_num, by go_num⟩)))))
      case measure => simp [intOf]
    · go_wp2_with fail
      go_ret
      exact ⟨rfl, HB.out⟩

def inf64 : Nat := 9218868437227405312
def ninf64 : Nat := 18442240474082181120
def nan64 : Nat := 9221120237041090560
def nzero64 : Nat := 9223372036854775808
set_option maxRecDepth 10000 in
set_option maxHeartbeats 2000000 in
theorem pnan_any (w : World) : Calls Tryz.prog 164 #[] w fun en w' => en = .returned (.float .f64 nan64) ∧ w = w' := by
  have hx := ext_from64 nan64
  unfold nan64 at hx ⊢
  rw [show ((9221120237041090560 : Nat) : Int) = 9221120237041090560 from rfl] at hx
  go_enter Tryz.func164, Tryz.ntmps164
  go_wp2_with fail
  go_ret
  exact ⟨rfl, rfl⟩
set_option maxRecDepth 10000 in
set_option maxHeartbeats 2000000 in
theorem pinf_any (w : World) : Calls Tryz.prog 165 #[.int .i64 1] w fun en w' => en = .returned (.float .f64 inf64) ∧ w = w' := by
  have hx := ext_from64 inf64
  unfold inf64 at hx ⊢
  rw [show ((9218868437227405312 : Nat) : Int) = 9218868437227405312 from rfl] at hx
  go_enter Tryz.func165, Tryz.ntmps165
  go_wp2_with fail
  go_ret
  exact ⟨rfl, rfl⟩
set_option maxRecDepth 10000 in
set_option maxHeartbeats 2000000 in
theorem pninf_any (w : World) : Calls Tryz.prog 165 #[.int .i64 (-1)] w fun en w' => en = .returned (.float .f64 ninf64) ∧ w = w' := by
  have hx := ext_from64 ninf64
  unfold ninf64 at hx ⊢
  rw [show ((18442240474082181120 : Nat) : Int) = 18442240474082181120 from rfl] at hx
  go_enter Tryz.func165, Tryz.ntmps165
  go_wp2_with fail
  go_ret
  exact ⟨rfl, rfl⟩
set_option maxRecDepth 10000 in
set_option maxHeartbeats 2000000 in
theorem pnz_any (w : World) : Calls Tryz.prog 270 #[.float .f64 0, .float .f64 13830554455654793216] w fun en w' => en = .returned (.float .f64 nzero64) ∧ w = w' := by
  have hx := ext_from64 nzero64
  have h1 := ext_bits64 0
  have h2 := ext_bits64 13830554455654793216
  unfold nzero64 at hx ⊢
  rw [show ((9223372036854775808 : Nat) : Int) = 9223372036854775808 from rfl] at hx
  rw [show ((13830554455654793216 : Nat) : Int) = 13830554455654793216 from rfl] at h2
  rw [show ((0 : Nat) : Int) = 0 from rfl] at h1
  have b1 : bits .andNot .u64 0 9223372036854775808 = 0 := by kernel_rfl
  have b2 : bits .and .u64 13830554455654793216 9223372036854775808 = 9223372036854775808 := by kernel_rfl
  have b3 : bits .or .u64 0 9223372036854775808 = 9223372036854775808 := by kernel_rfl
  go_enter Tryz.func270, Tryz.ntmps270
  go_wp2_with fail
  go_ret
  exact ⟨rfl, rfl⟩
end Go.Proofs.YteahdgbokjbgcaaGreatDoor
namespace Go.Proofs.YteahdgbokjbgcaaGreatDoor
open Go.RowKit
set_option linter.unusedVariables false
set_option linter.unusedSimpArgs false

def verd (A : Ac) (pn pi : Int) : Option Nat :=
  if 0 < A.nan ∧ pn = 0 then some nan64
  else if pi = 0 then (if 0 < A.up ∧ 0 < A.down then some nan64 else if 0 < A.up then some inf64 else if 0 < A.down then some ninf64 else none)
  else none
def noughtB (A : Ac) (mode : Int) : Nat :=
  if 0 < A.all - A.nan - A.up - A.down ∧ (A.minus = A.all - A.nan - A.up - A.down ∨ A.plus < A.all - A.nan - A.up - A.down ∧ mode = 3) then nzero64 else 0
theorem spc_cells {w : World} {g : Nat} {A : Ac} {T : TypeId} (h : w.heap[g]? = some (.cells #[.int .i64 A.nan, .int .i64 A.up, .int .i64 A.down, .int .i64 A.minus, .int .i64 A.plus, .int .i64 A.all] T (0, 0))) :
    w.cell? ⟨g, 0, none⟩ = some (.int .i64 A.nan) ∧ w.cell? ⟨g, 1, none⟩ = some (.int .i64 A.up) ∧ w.cell? ⟨g, 2, none⟩ = some (.int .i64 A.down) ∧ w.cell? ⟨g, 3, none⟩ = some (.int .i64 A.minus) ∧ w.cell? ⟨g, 4, none⟩ = some (.int .i64 A.plus) ∧ w.cell? ⟨g, 5, none⟩ = some (.int .i64 A.all) :=
  ⟨by rw [cell_of_row w g 0 _ _ _ h]; rfl, by rw [cell_of_row w g 1 _ _ _ h]; rfl, by rw [cell_of_row w g 2 _ _ _ h]; rfl, by rw [cell_of_row w g 3 _ _ _ h]; rfl, by rw [cell_of_row w g 4 _ _ _ h]; rfl, by rw [cell_of_row w g 5 _ _ _ h]; rfl⟩
theorem pol_cells {w : World} {g : Nat} {x y : Value} {T : TypeId} (h : w.heap[g]? = some (.cells #[x, y] T (0, 0))) : w.cell? ⟨g, 0, none⟩ = some x ∧ w.cell? ⟨g, 1, none⟩ = some y :=
  ⟨by rw [cell_of_row w g 0 _ _ _ h]; rfl, by rw [cell_of_row w g 1 _ _ _ h]; rfl⟩

set_option maxRecDepth 10000 in
set_option maxHeartbeats 32000000 in
theorem verdict_any (A : Ac) (pn pi : Int) (w : World) (hA : A.Ok) (p1 : 0 ≤ pn) (p2 : pn ≤ 2) (p3 : 0 ≤ pi) (p4 : pi ≤ 2) :
    Calls Tryz.prog 271 #[spcV A, pol pn pi] w fun en w' => en = .returned (.tuple #[.float .f64 ((verd A pn pi).getD 0), .bool (verd A pn pi).isSome]) ∧ Below w.heap.size w w' := by
  have hMB := fun W => mayBe_any A W hA
  have hMy := fun W => may_any pn pi W p1 p2 p3 p4
  obtain ⟨_, k2, k3, k4, k5, k6, k7, k8⟩ := hA
  obtain ⟨V, hV⟩ : ∃ V, V = verd A pn pi := ⟨_, rfl⟩
  rw [← hV]
  have HV := Lib.hid hV
  unfold spcV pol at *
  have HMB := Lib.hid hMB; have HMy := Lib.hid hMy
  clear hMB hMy hV
  go_enter Tryz.func271, Tryz.ntmps271
  go_wp2_with fail
  obtain ⟨w1, e1⟩ : ∃ W, W = w.alloc (.cells #[.int .i64 A.nan, .int .i64 A.up, .int .i64 A.down, .int .i64 A.minus, .int .i64 A.plus, .int .i64 A.all] 57) := ⟨_, rfl⟩
  rw [← e1]
  obtain ⟨b1, hB1, s1⟩ := new_of e1 rfl
  clear e1
  obtain ⟨w2, e2⟩ : ∃ W, W = w1.alloc (.cells #[.int .i64 pn, .int .i64 pi] 61) := ⟨_, rfl⟩
  rw [← e2]
  obtain ⟨b2, hB2, s2⟩ := new_of e2 s1
  clear e2
  replace b1 := blk_below b1 hB2 (by omega)
  replace hB1 := hB1.trans (hB2.mono (by omega))
  clear hB2
  refine (HMB.out w2).mono ?_; rintro en w3 ⟨rfl, hb⟩
  replace b1 := blk_below b1 hb (by omega)
  replace b2 := blk_below b2 hb (by omega)
  replace hB1 := hB1.trans (hb.mono (by omega))
  have z3 := hb.size
  clear hb
  obtain ⟨_, _⟩ := pol_cells b2
  go_wp2_with fail
  refine (HMy.out w3).mono ?_; rintro en w4 ⟨rfl, hb⟩
  replace b1 := blk_below b1 hb (by omega)
  replace b2 := blk_below b2 hb (by omega)
  replace hB1 := hB1.trans (hb.mono (by omega))
  clear hb
  obtain ⟨x0, x1, x2, x3, x4, x5⟩ := spc_cells b1
  obtain ⟨y0, y1⟩ := pol_cells b2
  have HB1 := Lib.hid hB1
  clear b1 b2 hB1 s1 s2 z3
  go_wp2_with fail
  have hn : (A.nan = 0) ∨ (0 < A.nan ∧ pn ≠ 0) ∨ (0 < A.nan ∧ pn = 0) := by omega
  have hu : A.up = 0 ∨ 0 < A.up := by omega
  have hd : A.down = 0 ∨ 0 < A.down := by omega
  have hp : pi = 0 ∨ pi ≠ 0 := by omega
  rcases hn with hn | hn | hn <;> rcases hu with hu | hu <;> rcases hd with hd | hd <;> rcases hp with hp | hp
  · have HV2 : Hid (V = none) := by
      have := HV.out
      rw [this]
      show verd A pn pi = none
      unfold verd
      rw [if_neg (by omega), if_pos (by omega), if_neg (by omega), if_neg (by omega), if_neg (by omega)]
    have u1 : decide (0 < A.up) = false := by simp; omega
    have u2 : decide (0 < A.down) = false := by simp; omega
    have u3 : (pi == 0) = true := by simp; omega
    have u4 : decide (0 < A.nan) = false := by simp; omega
    clear hn hu hd hp
    go_quiet (fail)
    go_wp2_with fail
    go_ret2
    rw [HV2.out]
    exact ⟨rfl, below_drewN' HB1.out⟩
  · have HV2 : Hid (V = none) := by
      have := HV.out
      rw [this]
      show verd A pn pi = none
      unfold verd
      rw [if_neg (by omega), if_neg (by omega)]
    have u1 : decide (0 < A.up) = false := by simp; omega
    have u2 : decide (0 < A.down) = false := by simp; omega
    have u3 : (pi == 0) = false := by simp; omega
    have u4 : decide (0 < A.nan) = false := by simp; omega
    clear hn hu hd hp
    go_quiet (fail)
    go_wp2_with fail
    go_ret2
    rw [HV2.out]
    exact ⟨rfl, below_drewN' HB1.out⟩
  · have HV2 : Hid (V = some ninf64) := by
      have := HV.out
      rw [this]
      show verd A pn pi = some ninf64
      unfold verd
      rw [if_neg (by omega), if_pos (by omega), if_neg (by omega), if_neg (by omega), if_pos (by omega)]
    have u1 : decide (0 < A.up) = false := by simp; omega
    have u2 : decide (0 < A.down) = true := by simp; omega
    have u3 : (pi == 0) = true := by simp; omega
    have u4 : decide (0 < A.nan) = false := by simp; omega
    clear hn hu hd hp
    go_quiet (fail)
    go_wp2_with fail
    refine (pninf_any _).mono ?_; rintro en w' ⟨rfl, rfl⟩
    go_wp2_with fail
    go_ret2
    rw [HV2.out]
    exact ⟨rfl, below_drewN' HB1.out⟩
  · have HV2 : Hid (V = none) := by
      have := HV.out
      rw [this]
      show verd A pn pi = none
      unfold verd
      rw [if_neg (by omega), if_neg (by omega)]
    have u1 : decide (0 < A.up) = false := by simp; omega
    have u2 : decide (0 < A.down) = true := by simp; omega
    have u3 : (pi == 0) = false := by simp; omega
    have u4 : decide (0 < A.nan) = false := by simp; omega
    clear hn hu hd hp
    go_quiet (fail)
    go_wp2_with fail
    go_ret2
    rw [HV2.out]
    exact ⟨rfl, below_drewN' HB1.out⟩
  · have HV2 : Hid (V = some inf64) := by
      have := HV.out
      rw [this]
      show verd A pn pi = some inf64
      unfold verd
      rw [if_neg (by omega), if_pos (by omega), if_neg (by omega), if_pos (by omega)]
    have u1 : decide (0 < A.up) = true := by simp; omega
    have u2 : decide (0 < A.down) = false := by simp; omega
    have u3 : (pi == 0) = true := by simp; omega
    have u4 : decide (0 < A.nan) = false := by simp; omega
    clear hn hu hd hp
    go_quiet (fail)
    go_wp2_with fail
    refine (pinf_any _).mono ?_; rintro en w' ⟨rfl, rfl⟩
    go_wp2_with fail
    go_ret2
    rw [HV2.out]
    exact ⟨rfl, below_drewN' HB1.out⟩
  · have HV2 : Hid (V = none) := by
      have := HV.out
      rw [this]
      show verd A pn pi = none
      unfold verd
      rw [if_neg (by omega), if_neg (by omega)]
    have u1 : decide (0 < A.up) = true := by simp; omega
    have u2 : decide (0 < A.down) = false := by simp; omega
    have u3 : (pi == 0) = false := by simp; omega
    have u4 : decide (0 < A.nan) = false := by simp; omega
    clear hn hu hd hp
    go_quiet (fail)
    go_wp2_with fail
    go_ret2
    rw [HV2.out]
    exact ⟨rfl, below_drewN' HB1.out⟩
  · have HV2 : Hid (V = some nan64) := by
      have := HV.out
      rw [this]
      show verd A pn pi = some nan64
      unfold verd
      rw [if_neg (by omega), if_pos (by omega), if_pos (by omega)]
    have u1 : decide (0 < A.up) = true := by simp; omega
    have u2 : decide (0 < A.down) = true := by simp; omega
    have u3 : (pi == 0) = true := by simp; omega
    have u4 : decide (0 < A.nan) = false := by simp; omega
    clear hn hu hd hp
    go_quiet (fail)
    go_wp2_with fail
    refine (pnan_any _).mono ?_; rintro en w' ⟨rfl, rfl⟩
    go_wp2_with fail
    go_ret2
    rw [HV2.out]
    exact ⟨rfl, below_drewN' HB1.out⟩
  · have HV2 : Hid (V = none) := by
      have := HV.out
      rw [this]
      show verd A pn pi = none
      unfold verd
      rw [if_neg (by omega), if_neg (by omega)]
    have u1 : decide (0 < A.up) = true := by simp; omega
    have u2 : decide (0 < A.down) = true := by simp; omega
    have u3 : (pi == 0) = false := by simp; omega
    have u4 : decide (0 < A.nan) = false := by simp; omega
    clear hn hu hd hp
    go_quiet (fail)
    go_wp2_with fail
    go_ret2
    rw [HV2.out]
    exact ⟨rfl, below_drewN' HB1.out⟩
  · have HV2 : Hid (V = none) := by
      have := HV.out
      rw [this]
      show verd A pn pi = none
      unfold verd
      rw [if_neg (by omega), if_pos (by omega), if_neg (by omega), if_neg (by omega), if_neg (by omega)]
    have u1 : decide (0 < A.up) = false := by simp; omega
    have u2 : decide (0 < A.down) = false := by simp; omega
    have u3 : (pi == 0) = true := by simp; omega
    have u4 : decide (0 < A.nan) = true := by simp; omega
    have u5 : (pn == 0) = false := by simp; omega
    clear hn hu hd hp
    go_quiet (fail)
    go_wp2_with fail
    go_ret2
    rw [HV2.out]
    exact ⟨rfl, below_drewN' HB1.out⟩
  · have HV2 : Hid (V = none) := by
      have := HV.out
      rw [this]
      show verd A pn pi = none
      unfold verd
      rw [if_neg (by omega), if_neg (by omega)]
    have u1 : decide (0 < A.up) = false := by simp; omega
    have u2 : decide (0 < A.down) = false := by simp; omega
    have u3 : (pi == 0) = false := by simp; omega
    have u4 : decide (0 < A.nan) = true := by simp; omega
    have u5 : (pn == 0) = false := by simp; omega
    clear hn hu hd hp
    go_quiet (fail)
    go_wp2_with fail
    go_ret2
    rw [HV2.out]
    exact ⟨rfl, below_drewN' HB1.out⟩
  · have HV2 : Hid (V = some ninf64) := by
      have := HV.out
      rw [this]
      show verd A pn pi = some ninf64
      unfold verd
      rw [if_neg (by omega), if_pos (by omega), if_neg (by omega), if_neg (by omega), if_pos (by omega)]
    have u1 : decide (0 < A.up) = false := by simp; omega
    have u2 : decide (0 < A.down) = true := by simp; omega
    have u3 : (pi == 0) = true := by simp; omega
    have u4 : decide (0 < A.nan) = true := by simp; omega
    have u5 : (pn == 0) = false := by simp; omega
    clear hn hu hd hp
    go_quiet (fail)
    go_wp2_with fail
    refine (pninf_any _).mono ?_; rintro en w' ⟨rfl, rfl⟩
    go_wp2_with fail
    go_ret2
    rw [HV2.out]
    exact ⟨rfl, below_drewN' HB1.out⟩
  · have HV2 : Hid (V = none) := by
      have := HV.out
      rw [this]
      show verd A pn pi = none
      unfold verd
      rw [if_neg (by omega), if_neg (by omega)]
    have u1 : decide (0 < A.up) = false := by simp; omega
    have u2 : decide (0 < A.down) = true := by simp; omega
    have u3 : (pi == 0) = false := by simp; omega
    have u4 : decide (0 < A.nan) = true := by simp; omega
    have u5 : (pn == 0) = false := by simp; omega
    clear hn hu hd hp
    go_quiet (fail)
    go_wp2_with fail
    go_ret2
    rw [HV2.out]
    exact ⟨rfl, below_drewN' HB1.out⟩
  · have HV2 : Hid (V = some inf64) := by
      have := HV.out
      rw [this]
      show verd A pn pi = some inf64
      unfold verd
      rw [if_neg (by omega), if_pos (by omega), if_neg (by omega), if_pos (by omega)]
    have u1 : decide (0 < A.up) = true := by simp; omega
    have u2 : decide (0 < A.down) = false := by simp; omega
    have u3 : (pi == 0) = true := by simp; omega
    have u4 : decide (0 < A.nan) = true := by simp; omega
    have u5 : (pn == 0) = false := by simp; omega
    clear hn hu hd hp
    go_quiet (fail)
    go_wp2_with fail
    refine (pinf_any _).mono ?_; rintro en w' ⟨rfl, rfl⟩
    go_wp2_with fail
    go_ret2
    rw [HV2.out]
    exact ⟨rfl, below_drewN' HB1.out⟩
  · have HV2 : Hid (V = none) := by
      have := HV.out
      rw [this]
      show verd A pn pi = none
      unfold verd
      rw [if_neg (by omega), if_neg (by omega)]
    have u1 : decide (0 < A.up) = true := by simp; omega
    have u2 : decide (0 < A.down) = false := by simp; omega
    have u3 : (pi == 0) = false := by simp; omega
    have u4 : decide (0 < A.nan) = true := by simp; omega
    have u5 : (pn == 0) = false := by simp; omega
    clear hn hu hd hp
    go_quiet (fail)
    go_wp2_with fail
    go_ret2
    rw [HV2.out]
    exact ⟨rfl, below_drewN' HB1.out⟩
  · have HV2 : Hid (V = some nan64) := by
      have := HV.out
      rw [this]
      show verd A pn pi = some nan64
      unfold verd
      rw [if_neg (by omega), if_pos (by omega), if_pos (by omega)]
    have u1 : decide (0 < A.up) = true := by simp; omega
    have u2 : decide (0 < A.down) = true := by simp; omega
    have u3 : (pi == 0) = true := by simp; omega
    have u4 : decide (0 < A.nan) = true := by simp; omega
    have u5 : (pn == 0) = false := by simp; omega
    clear hn hu hd hp
    go_quiet (fail)
    go_wp2_with fail
    refine (pnan_any _).mono ?_; rintro en w' ⟨rfl, rfl⟩
    go_wp2_with fail
    go_ret2
    rw [HV2.out]
    exact ⟨rfl, below_drewN' HB1.out⟩
  · have HV2 : Hid (V = none) := by
      have := HV.out
      rw [this]
      show verd A pn pi = none
      unfold verd
      rw [if_neg (by omega), if_neg (by omega)]
    have u1 : decide (0 < A.up) = true := by simp; omega
    have u2 : decide (0 < A.down) = true := by simp; omega
    have u3 : (pi == 0) = false := by simp; omega
    have u4 : decide (0 < A.nan) = true := by simp; omega
    have u5 : (pn == 0) = false := by simp; omega
    clear hn hu hd hp
    go_quiet (fail)
    go_wp2_with fail
    go_ret2
    rw [HV2.out]
    exact ⟨rfl, below_drewN' HB1.out⟩
  · have HV2 : Hid (V = some nan64) := by
      have := HV.out
      rw [this]
      show verd A pn pi = some nan64
      unfold verd
      rw [if_pos (by omega)]
    have u1 : decide (0 < A.up) = false := by simp; omega
    have u2 : decide (0 < A.down) = false := by simp; omega
    have u3 : (pi == 0) = true := by simp; omega
    have u4 : decide (0 < A.nan) = true := by simp; omega
    have u5 : (pn == 0) = true := by simp; omega
    clear hn hu hd hp
    go_quiet (fail)
    go_wp2_with fail
    refine (pnan_any _).mono ?_; rintro en w' ⟨rfl, rfl⟩
    go_wp2_with fail
    go_ret2
    rw [HV2.out]
    exact ⟨rfl, below_drewN' HB1.out⟩
  · have HV2 : Hid (V = some nan64) := by
      have := HV.out
      rw [this]
      show verd A pn pi = some nan64
      unfold verd
      rw [if_pos (by omega)]
    have u1 : decide (0 < A.up) = false := by simp; omega
    have u2 : decide (0 < A.down) = false := by simp; omega
    have u3 : (pi == 0) = false := by simp; omega
    have u4 : decide (0 < A.nan) = true := by simp; omega
    have u5 : (pn == 0) = true := by simp; omega
    clear hn hu hd hp
    go_quiet (fail)
    go_wp2_with fail
    refine (pnan_any _).mono ?_; rintro en w' ⟨rfl, rfl⟩
    go_wp2_with fail
    go_ret2
    rw [HV2.out]
    exact ⟨rfl, below_drewN' HB1.out⟩
  · have HV2 : Hid (V = some nan64) := by
      have := HV.out
      rw [this]
      show verd A pn pi = some nan64
      unfold verd
      rw [if_pos (by omega)]
    have u1 : decide (0 < A.up) = false := by simp; omega
    have u2 : decide (0 < A.down) = true := by simp; omega
    have u3 : (pi == 0) = true := by simp; omega
    have u4 : decide (0 < A.nan) = true := by simp; omega
    have u5 : (pn == 0) = true := by simp; omega
    clear hn hu hd hp
    go_quiet (fail)
    go_wp2_with fail
    refine (pnan_any _).mono ?_; rintro en w' ⟨rfl, rfl⟩
    go_wp2_with fail
    go_ret2
    rw [HV2.out]
    exact ⟨rfl, below_drewN' HB1.out⟩
  · have HV2 : Hid (V = some nan64) := by
      have := HV.out
      rw [this]
      show verd A pn pi = some nan64
      unfold verd
      rw [if_pos (by omega)]
    have u1 : decide (0 < A.up) = false := by simp; omega
    have u2 : decide (0 < A.down) = true := by simp; omega
    have u3 : (pi == 0) = false := by simp; omega
    have u4 : decide (0 < A.nan) = true := by simp; omega
    have u5 : (pn == 0) = true := by simp; omega
    clear hn hu hd hp
    go_quiet (fail)
    go_wp2_with fail
    refine (pnan_any _).mono ?_; rintro en w' ⟨rfl, rfl⟩
    go_wp2_with fail
    go_ret2
    rw [HV2.out]
    exact ⟨rfl, below_drewN' HB1.out⟩
  · have HV2 : Hid (V = some nan64) := by
      have := HV.out
      rw [this]
      show verd A pn pi = some nan64
      unfold verd
      rw [if_pos (by omega)]
    have u1 : decide (0 < A.up) = true := by simp; omega
    have u2 : decide (0 < A.down) = false := by simp; omega
    have u3 : (pi == 0) = true := by simp; omega
    have u4 : decide (0 < A.nan) = true := by simp; omega
    have u5 : (pn == 0) = true := by simp; omega
    clear hn hu hd hp
    go_quiet (fail)
    go_wp2_with fail
    refine (pnan_any _).mono ?_; rintro en w' ⟨rfl, rfl⟩
    go_wp2_with fail
    go_ret2
    rw [HV2.out]
    exact ⟨rfl, below_drewN' HB1.out⟩
  · have HV2 : Hid (V = some nan64) := by
      have := HV.out
      rw [this]
      show verd A pn pi = some nan64
      unfold verd
      rw [if_pos (by omega)]
    have u1 : decide (0 < A.up) = true := by simp; omega
    have u2 : decide (0 < A.down) = false := by simp; omega
    have u3 : (pi == 0) = false := by simp; omega
    have u4 : decide (0 < A.nan) = true := by simp; omega
    have u5 : (pn == 0) = true := by simp; omega
    clear hn hu hd hp
    go_quiet (fail)
    go_wp2_with fail
    refine (pnan_any _).mono ?_; rintro en w' ⟨rfl, rfl⟩
    go_wp2_with fail
    go_ret2
    rw [HV2.out]
    exact ⟨rfl, below_drewN' HB1.out⟩
  · have HV2 : Hid (V = some nan64) := by
      have := HV.out
      rw [this]
      show verd A pn pi = some nan64
      unfold verd
      rw [if_pos (by omega)]
    have u1 : decide (0 < A.up) = true := by simp; omega
    have u2 : decide (0 < A.down) = true := by simp; omega
    have u3 : (pi == 0) = true := by simp; omega
    have u4 : decide (0 < A.nan) = true := by simp; omega
    have u5 : (pn == 0) = true := by simp; omega
    clear hn hu hd hp
    go_quiet (fail)
    go_wp2_with fail
    refine (pnan_any _).mono ?_; rintro en w' ⟨rfl, rfl⟩
    go_wp2_with fail
    go_ret2
    rw [HV2.out]
    exact ⟨rfl, below_drewN' HB1.out⟩
  · have HV2 : Hid (V = some nan64) := by
      have := HV.out
      rw [this]
      show verd A pn pi = some nan64
      unfold verd
      rw [if_pos (by omega)]
    have u1 : decide (0 < A.up) = true := by simp; omega
    have u2 : decide (0 < A.down) = true := by simp; omega
    have u3 : (pi == 0) = false := by simp; omega
    have u4 : decide (0 < A.nan) = true := by simp; omega
    have u5 : (pn == 0) = true := by simp; omega
    clear hn hu hd hp
    go_quiet (fail)
    go_wp2_with fail
    refine (pnan_any _).mono ?_; rintro en w' ⟨rfl, rfl⟩
    go_wp2_with fail
    go_ret2
    rw [HV2.out]
    exact ⟨rfl, below_drewN' HB1.out⟩

set_option maxRecDepth 10000 in
set_option maxHeartbeats 8000000 in
theorem nought_any (A : Ac) (mode : Int) (w : World) (hA : A.Ok) :
    Calls Tryz.prog 272 #[spcV A, .int .i64 mode] w fun en w' => en = .returned (.float .f64 (noughtB A mode)) ∧ Below w.heap.size w w' := by
  have hMB := fun W => mayBe_any A W hA
  obtain ⟨_, k2, k3, k4, k5, k6, k7, k8⟩ := hA
  obtain ⟨V, hV⟩ : ∃ V, V = noughtB A mode := ⟨_, rfl⟩
  rw [← hV]
  have HV := Lib.hid hV
  unfold spcV at *
  have HMB := Lib.hid hMB
  clear hMB hV
  go_enter Tryz.func272, Tryz.ntmps272
  go_wp2_with fail
  obtain ⟨w1, e1⟩ : ∃ W, W = w.alloc (.cells #[.int .i64 A.nan, .int .i64 A.up, .int .i64 A.down, .int .i64 A.minus, .int .i64 A.plus, .int .i64 A.all] 57) := ⟨_, rfl⟩
  rw [← e1]
  obtain ⟨b1, hB1, s1⟩ := new_of e1 rfl
  clear e1
  refine (HMB.out w1).mono ?_; rintro en w3 ⟨rfl, hb⟩
  replace b1 := blk_below b1 hb (by omega)
  replace hB1 := hB1.trans (hb.mono (by omega))
  clear hb
  obtain ⟨x0, x1, x2, x3, x4, x5⟩ := spc_cells b1
  have HB1 := Lib.hid hB1
  obtain ⟨F, hF⟩ : ∃ F, F = A.all - A.nan - A.up - A.down := ⟨_, rfl⟩
  rw [← hF]
  have hV : V = if 0 < F ∧ (A.minus = F ∨ A.plus < F ∧ mode = 3) then nzero64 else 0 := by rw [HV.out, hF]; rfl
  have HV2 := Lib.hid hV
  clear b1 hB1 s1 hV hF
  have hcs : (0 < F ∧ A.minus = F) ∨ (0 < F ∧ A.minus ≠ F ∧ A.plus < F ∧ mode = 3) ∨ (0 < F ∧ A.minus ≠ F ∧ A.plus < F ∧ mode ≠ 3) ∨ (0 < F ∧ A.minus ≠ F ∧ ¬ A.plus < F) ∨ ¬ 0 < F := by omega
  rcases hcs with ⟨c1, c2⟩ | ⟨c1, c2, c3, c4⟩ | ⟨c1, c2, c3, c4⟩ | ⟨c1, c2, c3⟩ | c1
  · have H : Hid (V = nzero64) := by have := HV2.out; rw [this]; exact if_pos ⟨c1, .inl c2⟩
    have u2 : (A.minus == F) = true := by simpa using c2
    clear c2
    go_wp2_with fail
    refine (pnz_any _).mono ?_; rintro en w' ⟨rfl, rfl⟩
    go_wp2_with fail
    go_ret
    rw [H.out]
    exact ⟨rfl, HB1.out⟩
  · have H : Hid (V = nzero64) := by have := HV2.out; rw [this]; exact if_pos ⟨c1, .inr ⟨c3, c4⟩⟩
    have u2 : (A.minus == F) = false := by simpa using c2
    have u4 : (mode == 3) = true := by simpa using c4
    clear c2 c4
    go_wp2_with fail
    refine (pnz_any _).mono ?_; rintro en w' ⟨rfl, rfl⟩
    go_wp2_with fail
    go_ret
    rw [H.out]
    exact ⟨rfl, HB1.out⟩
  · have H : Hid (V = 0) := by have := HV2.out; rw [this]; exact if_neg (by omega)
    have u2 : (A.minus == F) = false := by simpa using c2
    have u4 : (mode == 3) = false := by simpa using c4
    clear c2 c4
    go_wp2_with fail
    go_ret
    rw [H.out]
    exact ⟨rfl, HB1.out⟩
  · have H : Hid (V = 0) := by have := HV2.out; rw [this]; exact if_neg (by omega)
    have u2 : (A.minus == F) = false := by simpa using c2
    clear c2
    go_wp2_with fail
    go_ret
    rw [H.out]
    exact ⟨rfl, HB1.out⟩
  · have H : Hid (V = 0) := by have := HV2.out; rw [this]; exact if_neg (by omega)
    go_wp2_with fail
    go_ret
    rw [H.out]
    exact ⟨rfl, HB1.out⟩
end Go.Proofs.YteahdgbokjbgcaaGreatDoor
