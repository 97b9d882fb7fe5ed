/- Contracts of super: more, less. No statement of the seat is proved here. -/
import Derived.Test.YteahdgbokjbgcaaGreatDoorProg
import Derived.Test.YteahdgbokjbgcaaGreatDoorYMM
import Derived.Deep.QuietTactic
import Derived.BigQuiet
import Derived.IntWalk
namespace Go.Proofs.YteahdgbokjbgcaaGreatDoor
open Go.RowKit
set_option linter.unusedVariables false
set_option linter.unusedSimpArgs false

def moreR (A : Ac) (t : Th) : Int × Ac := if A.all = 1099511627776 then (2, A) else if cntO t.c t.neg = none ∧ Gt (A.T + t.v) then (2, A) else (0, A.sum t.ac)
/-- how many there are of a thing's sort -/
def cntA (A : Ac) (o : Nat) : Int := if o = 67 then A.nan else if o = 68 then A.up else if o = 69 then A.down else if o = 70 then A.minus else A.plus
def lessR (A : Ac) (t : Th) : Int × Ac :=
  match cntO t.c t.neg with
  | some o => if cntA A o = 0 then (3, A) else (0, A.less t.ac)
  | none => if A.all = A.nan + A.up + A.down + A.minus + A.plus then (3, A) else if Gt (A.T - t.v) then (2, A) else (0, A.less t.ac)
def AccR (r : Int × Ac) (w : World) (g : Nat) (en : Ending) (w' : World) : Prop := en = .returned (.int .i64 r.1) ∧ AccAt w' g r.2 ∧ w.grownBy w' (some g)
theorem cntO_cases (c : Int) (neg : Bool) : cntO c neg = none ∨ ∃ o, cntO c neg = some o ∧ 67 ≤ o ∧ o ≤ 71 := by
  unfold cntO
  split
  · exact .inr ⟨67, rfl, by decide, by decide⟩
  · split
    · split
      · exact .inr ⟨69, rfl, by decide, by decide⟩
      · exact .inr ⟨68, rfl, by decide, by decide⟩
    · split
      · split
        · exact .inr ⟨70, rfl, by decide, by decide⟩
        · exact .inr ⟨71, rfl, by decide, by decide⟩
      · exact .inl rfl
theorem ac_of_none {t : Th} (h : cntO t.c t.neg = none) : t.ac = ⟨t.v, 0, 0, 0, 0, 0, 1⟩ := by
  unfold cntO at h
  unfold Th.ac mkT
  by_cases h1 : t.c = 4
  · rw [if_pos h1] at h; cases h
  · by_cases h2 : t.c = 3
    · rw [if_neg h1, if_pos h2] at h; split at h <;> cases h
    · by_cases h3 : t.c = 0
      · rw [if_neg h1, if_neg h2, if_pos h3] at h; split at h <;> cases h
      · rw [if_neg h1, if_neg h2, if_neg h3]
theorem ac_of_some {t : Th} {o : Nat} (h : cntO t.c t.neg = some o) : t.ac = ⟨0, if o = 67 then 1 else 0, if o = 68 then 1 else 0, if o = 69 then 1 else 0, if o = 70 then 1 else 0, if o = 71 then 1 else 0, 1⟩ := by
  unfold cntO at h
  unfold Th.ac mkT
  by_cases h1 : t.c = 4
  · rw [if_pos h1] at h ⊢; cases h; rfl
  · by_cases h2 : t.c = 3
    · rw [if_neg h1, if_pos h2] at h ⊢; split at h <;> (cases h; simp_all)
    · by_cases h3 : t.c = 0
      · rw [if_neg h1, if_neg h2, if_pos h3] at h ⊢; split at h <;> (cases h; simp_all)
      · rw [if_neg h1, if_neg h2, if_neg h3] at h; cases h
theorem acc_below {w w' : World} {g B : Nat} {A : Ac} (h : AccAt w g A) (hb : Below B w w') (hg : g < B) : AccAt w' g A := Tot.below h hb hg
theorem th_cells {w : World} {g : Nat} {v0 v1 v2 v3 v4 v5 v6 : Value} {T : TypeId} (h : w.heap[g]? = some (.cells #[v0, v1, v2, v3, v4, v5, v6] T (0, 0))) :
    w.cell? ⟨g, 0, none⟩ = some v0 ∧ w.cell? ⟨g, 1, none⟩ = some v1 ∧ w.cell? ⟨g, 2, none⟩ = some v2 ∧ w.cell? ⟨g, 3, none⟩ = some v3 ∧ w.cell? ⟨g, 4, none⟩ = some v4 ∧ w.cell? ⟨g, 5, none⟩ = some v5 ∧ w.cell? ⟨g, 6, none⟩ = some v6 :=
  ⟨by rw [cell_of_row w g 0 _ _ _ h]; rfl, by rw [cell_of_row w g 1 _ _ _ h]; rfl, by rw [cell_of_row w g 2 _ _ _ h]; rfl, by rw [cell_of_row w g 3 _ _ _ h]; rfl, by rw [cell_of_row w g 4 _ _ _ h]; rfl, by rw [cell_of_row w g 5 _ _ _ h]; rfl, by rw [cell_of_row w g 6 _ _ _ h]; rfl⟩
theorem blk_below {w w' : World} {g B : Nat} {o : Obj} (h : w.heap[g]? = some o) (hb : Below B w w') (hg : g < B) : w'.heap[g]? = some o := by rw [hb.block _ hg]; exact h
theorem blk_grown' {w w' : World} {g r : Nat} {o : Obj} (h : w.heap[g]? = some o) (hk : w.grownBy w' (some r)) (hne : g ≠ r) : w'.heap[g]? = some o := (hk.block g (Array.getElem?_eq_some_iff.1 h).1 (by simpa using hne)).trans h

set_option maxRecDepth 10000 in
set_option maxHeartbeats 16000000 in
theorem accmore_any (A : Ac) (t : Th) (g : Nat) (w : World) (hA : A.Ok) (ht : t.Ok) (h : AccAt w g A) :
    Calls Tryz.prog 202 #[.pointer (some ⟨g, 0, none⟩), t.val] w (AccR (moreR A t) w g) := by
  obtain ⟨R, hR⟩ : ∃ R, R = moreR A t := ⟨_, rfl⟩
  rw [← hR]
  simp only [Th.val]
  obtain ⟨ok1, ok2, ok3, ok4, ok5, ok6, ok7, ok8⟩ := hA
  have gl := Tot.lt h
  have hC := fun W (hg : g < W.heap.size) => count_any t g W hg
  have hP := fun W (hW : AccAt W g A) => put_any A.T t.V t.p g _ (spc A) t.vneg false W ht.V0 ht.V1 ht.p ok1 hW
  simp only [Th.val] at hC
  have hf := AccAt.tails (w := w.alloc (.cells #[.int .i64 t.c, .bool t.neg, .bool t.vneg, .int .i64 (t.p : Int), .int .u64 (dz t.V 0), .int .u64 (dz t.V 1), .int .u64 (dz t.V 2)] 217)) (Tot.alloc h _)
  have HF := Lib.hid hf
  obtain ⟨w1, e1⟩ : ∃ W, W = w.alloc (.cells #[.int .i64 t.c, .bool t.neg, .bool t.vneg, .int .i64 (t.p : Int), .int .u64 (dz t.V 0), .int .u64 (dz t.V 1), .int .u64 (dz t.V 2)] 217) := ⟨_, rfl⟩
  have E1 := Lib.hid e1
  obtain ⟨hTh, hb, s1⟩ := new_of e1 rfl
  have HA1 := Lib.hid (acc_below h hb gl)
  have HG1 : Hid (w.grownBy w1 (some g)) := gr_below hb
  have HTh := Lib.hid hTh
  have y1 : g < w1.heap.size := by omega
  have y0 : w.heap.size < w1.heap.size := by omega
  have hv : mvT A.T t.V t.p (t.vneg != false) = A.T + t.v := by unfold mvT Th.v; cases t.vneg <;> simp <;> omega
  rw [hv] at hP
  clear e1 hb h hf hTh s1 hv
  by_cases hall : A.all = 1099511627776
  · have hr : R = (2, A) := by rw [hR]; unfold moreR; rw [if_pos hall]
    have HR := Lib.hid hr
    obtain ⟨_, _, _, _, _, s5⟩ := HF.out
    have e9 : (A.all == 1099511627776) = true := by simp [hall]
    clear hr hR hall hC hP ht ok1 ok2 ok3 ok4 ok5 ok6 ok7 ok8
    go_enter Tryz.func202, Tryz.ntmps202
    go_wp2_with fail
    go_ret
    rw [HR.out]
    exact ⟨rfl, by rw [← E1.out]; exact HA1.out, by rw [← E1.out]; exact HG1.out⟩
  have e9 : (A.all == 1099511627776) = false := by simpa using hall
  have hr : R = if cntO t.c t.neg = none ∧ Gt (A.T + t.v) then (2, A) else (0, A.sum t.ac) := by rw [hR]; unfold moreR; rw [if_neg hall]
  have hall2 : A.all + 1 ≤ 1099511627776 := by omega
  clear hall
  clear hR
  rcases cntO_cases t.c t.neg with hc | ⟨o, hc, ho1, ho2⟩
  · have hac := ac_of_none hc
    rw [hc] at hr hC
    have hr1 : Gt (A.T + t.v) → R = (2, A) := fun hg => by rw [hr, if_pos ⟨rfl, hg⟩]
    have hr2 : ¬ Gt (A.T + t.v) → R = (0, A.sum t.ac) := fun hg => by rw [hr, if_neg (fun hh => hg hh.2)]
    have HR1 := Lib.hid hr1; have HR2 := Lib.hid hr2; have HP := Lib.hid hP; have HC := Lib.hid hC; have HAC := Lib.hid hac
    clear hr hr1 hr2 hP hC hac hc ht ok1
    obtain ⟨_, _, _, _, _, s5⟩ := HF.out
    go_enter Tryz.func202, Tryz.ntmps202
    go_wp2_with fail
    rw [← E1.out]
    clear s5
    refine (HC.out w1 y1).mono ?_; rintro en w2 ⟨rfl, hb⟩
    simp only [Option.map_none]
    have HA2 := Lib.hid (acc_below HA1.out hb y1)
    have HG2 : Hid (w.grownBy w2 (some g)) := gr_trans HG1.out (gr_below hb)
    have hTh2 := blk_below HTh.out hb y0
    have HTh2 := Lib.hid hTh2
    have y2 := hb.size
    obtain ⟨k0, k1, k2, k3, k4, k5, k6⟩ := th_cells hTh2
    clear hb hTh2
    go_wp2_with fail
    refine (HP.out w2 HA2.out).mono ?_; rintro en w3 ⟨b, rfl, hbi, hT3, hG3⟩
    have HBI := Lib.hid hbi
    have HG3 : Hid (w.grownBy w3 (some g)) := gr_trans HG2.out hG3
    cases b
    · have HT3 : Hid (AccAt w3 g A) := hT3
      clear hbi hT3 hG3 k0 k1 k2 k3 k4 k5 k6
      go_wp2_with fail
      go_ret
      have hg : Gt (A.T + t.v) := Decidable.byContradiction fun hn => by have := HBI.out.2 hn; simp at this
      rw [HR1.out hg]
      exact ⟨rfl, HT3.out, HG3.out⟩
    · have hT3' : Tot w3 g 124 (dz (A.T + t.v)) (spc A) := hT3
      have s5 := Tot.tail hT3' 5
      have f5 := hT3'.frozen 72
      have HT3 := Lib.hid hT3'
      simp only [spc] at s5
      clear hbi hT3 hG3 hT3' k0 k1 k2 k3 k4 k5 k6
      go_wp2_with fail
      go_ret
      have hg : ¬ Gt (A.T + t.v) := HBI.out.1 (by trivial)
      rw [HR2.out hg]
      refine ⟨rfl, ?_, grown_set' HG3.out _ _⟩
      have := HT3.out.setTail 5 (.int .i64 (A.all + 1))
      rw [HAC.out]
      unfold AccAt spc Ac.sum
      simpa [spc] using this
  · rcases (show o = 67 ∨ o = 68 ∨ o = 69 ∨ o = 70 ∨ o = 71 by omega) with rfl | rfl | rfl | rfl | rfl
    · have hac := ac_of_some hc
      rw [hc] at hr hC
      have HAC := Lib.hid hac; have HC := Lib.hid hC
      have hr2 : R = (0, A.sum t.ac) := by rw [hr, if_neg (fun hh => by cases hh.1)]
      have HR := Lib.hid hr2
      clear hr hr2 hP hC hac hc ht ok1
      obtain ⟨_, _, _, _, _, s5⟩ := HF.out
      go_enter Tryz.func202, Tryz.ntmps202
      go_wp2_with fail
      rw [← E1.out]
      clear s5
      refine (HC.out w1 y1).mono ?_; rintro en w2 ⟨rfl, hb⟩
      simp only [Option.map_some]
      have hA2 := acc_below HA1.out hb y1
      have HA2 := Lib.hid hA2
      have HG2 : Hid (w.grownBy w2 (some g)) := gr_trans HG1.out (gr_below hb)
      have f1 := Tot.frozen hA2 67
      have f2 := Tot.frozen hA2 72
      obtain ⟨s0, s1, s2, s3, s4, s5⟩ := hA2.tails
      clear hb hA2
      go_wp2_with fail
      go_ret
      rw [HR.out]
      refine ⟨rfl, ?_, grown_set' (grown_set' HG2.out _ _) _ _⟩
      have := (Tot.setTail HA2.out 0 (.int .i64 (A.nan + 1))).setTail 5 (.int .i64 (A.all + 1))
      rw [HAC.out]
      unfold AccAt spc Ac.sum
      simpa [spc] using this
    · have hac := ac_of_some hc
      rw [hc] at hr hC
      have HAC := Lib.hid hac; have HC := Lib.hid hC
      have hr2 : R = (0, A.sum t.ac) := by rw [hr, if_neg (fun hh => by cases hh.1)]
      have HR := Lib.hid hr2
      clear hr hr2 hP hC hac hc ht ok1
      obtain ⟨_, _, _, _, _, s5⟩ := HF.out
      go_enter Tryz.func202, Tryz.ntmps202
      go_wp2_with fail
      rw [← E1.out]
      clear s5
      refine (HC.out w1 y1).mono ?_; rintro en w2 ⟨rfl, hb⟩
      simp only [Option.map_some]
      have hA2 := acc_below HA1.out hb y1
      have HA2 := Lib.hid hA2
      have HG2 : Hid (w.grownBy w2 (some g)) := gr_trans HG1.out (gr_below hb)
      have f1 := Tot.frozen hA2 68
      have f2 := Tot.frozen hA2 72
      obtain ⟨s0, s1, s2, s3, s4, s5⟩ := hA2.tails
      clear hb hA2
      go_wp2_with fail
      go_ret
      rw [HR.out]
      refine ⟨rfl, ?_, grown_set' (grown_set' HG2.out _ _) _ _⟩
      have := (Tot.setTail HA2.out 1 (.int .i64 (A.up + 1))).setTail 5 (.int .i64 (A.all + 1))
      rw [HAC.out]
      unfold AccAt spc Ac.sum
      simpa [spc] using this
    · have hac := ac_of_some hc
      rw [hc] at hr hC
      have HAC := Lib.hid hac; have HC := Lib.hid hC
      have hr2 : R = (0, A.sum t.ac) := by rw [hr, if_neg (fun hh => by cases hh.1)]
      have HR := Lib.hid hr2
      clear hr hr2 hP hC hac hc ht ok1
      obtain ⟨_, _, _, _, _, s5⟩ := HF.out
      go_enter Tryz.func202, Tryz.ntmps202
      go_wp2_with fail
      rw [← E1.out]
      clear s5
      refine (HC.out w1 y1).mono ?_; rintro en w2 ⟨rfl, hb⟩
      simp only [Option.map_some]
      have hA2 := acc_below HA1.out hb y1
      have HA2 := Lib.hid hA2
      have HG2 : Hid (w.grownBy w2 (some g)) := gr_trans HG1.out (gr_below hb)
      have f1 := Tot.frozen hA2 69
      have f2 := Tot.frozen hA2 72
      obtain ⟨s0, s1, s2, s3, s4, s5⟩ := hA2.tails
      clear hb hA2
      go_wp2_with fail
      go_ret
      rw [HR.out]
      refine ⟨rfl, ?_, grown_set' (grown_set' HG2.out _ _) _ _⟩
      have := (Tot.setTail HA2.out 2 (.int .i64 (A.down + 1))).setTail 5 (.int .i64 (A.all + 1))
      rw [HAC.out]
      unfold AccAt spc Ac.sum
      simpa [spc] using this
    · have hac := ac_of_some hc
      rw [hc] at hr hC
      have HAC := Lib.hid hac; have HC := Lib.hid hC
      have hr2 : R = (0, A.sum t.ac) := by rw [hr, if_neg (fun hh => by cases hh.1)]
      have HR := Lib.hid hr2
      clear hr hr2 hP hC hac hc ht ok1
      obtain ⟨_, _, _, _, _, s5⟩ := HF.out
      go_enter Tryz.func202, Tryz.ntmps202
      go_wp2_with fail
      rw [← E1.out]
      clear s5
      refine (HC.out w1 y1).mono ?_; rintro en w2 ⟨rfl, hb⟩
      simp only [Option.map_some]
      have hA2 := acc_below HA1.out hb y1
      have HA2 := Lib.hid hA2
      have HG2 : Hid (w.grownBy w2 (some g)) := gr_trans HG1.out (gr_below hb)
      have f1 := Tot.frozen hA2 70
      have f2 := Tot.frozen hA2 72
      obtain ⟨s0, s1, s2, s3, s4, s5⟩ := hA2.tails
      clear hb hA2
      go_wp2_with fail
      go_ret
      rw [HR.out]
      refine ⟨rfl, ?_, grown_set' (grown_set' HG2.out _ _) _ _⟩
      have := (Tot.setTail HA2.out 3 (.int .i64 (A.minus + 1))).setTail 5 (.int .i64 (A.all + 1))
      rw [HAC.out]
      unfold AccAt spc Ac.sum
      simpa [spc] using this
    · have hac := ac_of_some hc
      rw [hc] at hr hC
      have HAC := Lib.hid hac; have HC := Lib.hid hC
      have hr2 : R = (0, A.sum t.ac) := by rw [hr, if_neg (fun hh => by cases hh.1)]
      have HR := Lib.hid hr2
      clear hr hr2 hP hC hac hc ht ok1
      obtain ⟨_, _, _, _, _, s5⟩ := HF.out
      go_enter Tryz.func202, Tryz.ntmps202
      go_wp2_with fail
      rw [← E1.out]
      clear s5
      refine (HC.out w1 y1).mono ?_; rintro en w2 ⟨rfl, hb⟩
      simp only [Option.map_some]
      have hA2 := acc_below HA1.out hb y1
      have HA2 := Lib.hid hA2
      have HG2 : Hid (w.grownBy w2 (some g)) := gr_trans HG1.out (gr_below hb)
      have f1 := Tot.frozen hA2 71
      have f2 := Tot.frozen hA2 72
      obtain ⟨s0, s1, s2, s3, s4, s5⟩ := hA2.tails
      clear hb hA2
      go_wp2_with fail
      go_ret
      rw [HR.out]
      refine ⟨rfl, ?_, grown_set' (grown_set' HG2.out _ _) _ _⟩
      have := (Tot.setTail HA2.out 4 (.int .i64 (A.plus + 1))).setTail 5 (.int .i64 (A.all + 1))
      rw [HAC.out]
      unfold AccAt spc Ac.sum
      simpa [spc] using this

set_option maxRecDepth 10000 in
set_option maxHeartbeats 16000000 in
theorem accless_any (A : Ac) (t : Th) (g : Nat) (w : World) (hA : A.Ok) (ht : t.Ok) (h : AccAt w g A) :
    Calls Tryz.prog 209 #[.pointer (some ⟨g, 0, none⟩), t.val] w (AccR (lessR A t) w g) := by
  obtain ⟨R, hR⟩ : ∃ R, R = lessR A t := ⟨_, rfl⟩
  rw [← hR]
  simp only [Th.val]
  obtain ⟨ok1, ok2, ok3, ok4, ok5, ok6, ok7, ok8⟩ := hA
  have gl := Tot.lt h
  have hC := fun W (hg : g < W.heap.size) => count_any t g W hg
  have hP := fun W (hW : AccAt W g A) => put_any A.T t.V t.p g _ (spc A) t.vneg true W ht.V0 ht.V1 ht.p ok1 hW
  simp only [Th.val] at hC
  have hf := AccAt.tails (w := w.alloc (.cells #[.int .i64 t.c, .bool t.neg, .bool t.vneg, .int .i64 (t.p : Int), .int .u64 (dz t.V 0), .int .u64 (dz t.V 1), .int .u64 (dz t.V 2)] 217)) (Tot.alloc h _)
  have HF := Lib.hid hf
  obtain ⟨w1, e1⟩ : ∃ W, W = w.alloc (.cells #[.int .i64 t.c, .bool t.neg, .bool t.vneg, .int .i64 (t.p : Int), .int .u64 (dz t.V 0), .int .u64 (dz t.V 1), .int .u64 (dz t.V 2)] 217) := ⟨_, rfl⟩
  have E1 := Lib.hid e1
  obtain ⟨hTh, hb, s1⟩ := new_of e1 rfl
  have HA1 := Lib.hid (acc_below h hb gl)
  have HG1 : Hid (w.grownBy w1 (some g)) := gr_below hb
  have HTh := Lib.hid hTh
  have y1 : g < w1.heap.size := by omega
  have y0 : w.heap.size < w1.heap.size := by omega
  have hv : mvT A.T t.V t.p (t.vneg != true) = A.T - t.v := by unfold mvT Th.v; cases t.vneg <;> simp <;> omega
  rw [hv] at hP
  clear e1 hb h hf hTh s1 hv
  have hr := hR
  unfold lessR at hr
  clear hR
  rcases cntO_cases t.c t.neg with hc | ⟨o, hc, ho1, ho2⟩
  · have hac := ac_of_none hc
    rw [hc] at hr hC
    simp only [] at hr
    have hr0 : A.all = A.nan + A.up + A.down + A.minus + A.plus → R = (3, A) := fun hh => by rw [hr, if_pos hh]
    have hr1 : ¬ A.all = A.nan + A.up + A.down + A.minus + A.plus → Gt (A.T - t.v) → R = (2, A) := fun hh hg => by rw [hr, if_neg hh, if_pos hg]
    have hr2 : ¬ A.all = A.nan + A.up + A.down + A.minus + A.plus → ¬ Gt (A.T - t.v) → R = (0, A.less t.ac) := fun hh hg => by rw [hr, if_neg hh, if_neg hg]
    have HR0 := Lib.hid hr0; have HR1 := Lib.hid hr1; have HR2 := Lib.hid hr2; have HP := Lib.hid hP; have HC := Lib.hid hC; have HAC := Lib.hid hac
    clear hr hr0 hr1 hr2 hP hC hac hc ht ok1
    go_enter Tryz.func209, Tryz.ntmps209
    go_wp2_with fail
    rw [← E1.out]
    refine (HC.out w1 y1).mono ?_; rintro en w2 ⟨rfl, hb⟩
    simp only [Option.map_none]
    have HA2 := Lib.hid (acc_below HA1.out hb y1)
    have HG2 : Hid (w.grownBy w2 (some g)) := gr_trans HG1.out (gr_below hb)
    have hTh2 := blk_below HTh.out hb y0
    have HTh2 := Lib.hid hTh2
    have y2 := hb.size
    obtain ⟨k0, k1, k2, k3, k4, k5, k6⟩ := th_cells hTh2
    clear hb hTh2
    obtain ⟨s0, s1, s2, s3, s4, s5⟩ := HA2.out.tails
    go_wp2_with fail
    by_cases hall : A.all = A.nan + A.up + A.down + A.minus + A.plus
    · have e9 : (A.all == A.nan + A.up + A.down + A.minus + A.plus) = true := by simpa using hall
      have HALL := Lib.hid hall
      clear hall
      go_quiet (fail)
      go_wp2_with fail
      go_ret
      rw [HR0.out HALL.out]
      exact ⟨rfl, HA2.out, ⟨HG2.out.os, HG2.out.tape, HG2.out.output, HG2.out.size, HG2.out.block⟩⟩
    have e9 : (A.all == A.nan + A.up + A.down + A.minus + A.plus) = false := by simpa using hall
    have HALL := Lib.hid hall
    clear hall
    go_quiet (fail)
    obtain ⟨w2', hw2⟩ : ∃ W, W = w2.drewN nq := ⟨_, rfl⟩
    rw [← hw2]
    have HA2' : Hid (AccAt w2' g A) := by rw [hw2]; exact HA2.out
    have HG2' : Hid (w.grownBy w2' (some g)) := by rw [hw2]; exact ⟨HG2.out.os, HG2.out.tape, HG2.out.output, HG2.out.size, HG2.out.block⟩
    obtain ⟨k0, k1, k2, k3, k4, k5, k6⟩ := th_cells (w := w2') (show w2'.heap[w.heap.size]? = _ by rw [hw2]; exact HTh2.out)
    clear hw2 HA2 HG2 s0 s1 s2 s3 s4 s5
    obtain ⟨w2, rfl⟩ : ∃ W, W = w2' := ⟨_, rfl⟩
    have HA2 := HA2'
    have HG2 := HG2'
    go_wp2_with fail
    refine (HP.out w2 HA2.out).mono ?_; rintro en w3 ⟨b, rfl, hbi, hT3, hG3⟩
    have HBI := Lib.hid hbi
    have HG3 : Hid (w.grownBy w3 (some g)) := gr_trans HG2.out hG3
    cases b
    · have HT3 : Hid (AccAt w3 g A) := hT3
      clear hbi hT3 hG3 k0 k1 k2 k3 k4 k5 k6
      go_wp2_with fail
      go_ret
      have hg : Gt (A.T - t.v) := Decidable.byContradiction fun hn => by have := HBI.out.2 hn; simp at this
      rw [HR1.out HALL.out hg]
      exact ⟨rfl, HT3.out, HG3.out⟩
    · have hT3' : Tot w3 g 124 (dz (A.T - t.v)) (spc A) := hT3
      have s5 := Tot.tail hT3' 5
      have f5 := hT3'.frozen 72
      have HT3 := Lib.hid hT3'
      simp only [spc] at s5
      clear hbi hT3 hG3 hT3' k0 k1 k2 k3 k4 k5 k6
      go_wp2_with fail
      go_ret
      have hg : ¬ Gt (A.T - t.v) := HBI.out.1 (by trivial)
      rw [HR2.out HALL.out hg]
      refine ⟨rfl, ?_, grown_set' HG3.out _ _⟩
      have := HT3.out.setTail 5 (.int .i64 (A.all - 1))
      rw [HAC.out]
      unfold AccAt spc Ac.less
      simpa [spc] using this
  · rcases (show o = 67 ∨ o = 68 ∨ o = 69 ∨ o = 70 ∨ o = 71 by omega) with rfl | rfl | rfl | rfl | rfl
    · have hac := ac_of_some hc
      rw [hc] at hr hC
      have HAC := Lib.hid hac; have HC := Lib.hid hC
      have hr1 : A.nan = 0 → R = (3, A) := fun hh => by rw [hr]; exact if_pos hh
      have hr2 : ¬ A.nan = 0 → R = (0, A.less t.ac) := fun hh => by rw [hr]; exact if_neg hh
      have HR1 := Lib.hid hr1; have HR2 := Lib.hid hr2
      clear hr hr1 hr2 hP hC hac hc ht ok1
      go_enter Tryz.func209, Tryz.ntmps209
      go_wp2_with fail
      rw [← E1.out]
      skip
      refine (HC.out w1 y1).mono ?_; rintro en w2 ⟨rfl, hb⟩
      simp only [Option.map_some]
      have hA2 := acc_below HA1.out hb y1
      have HA2 := Lib.hid hA2
      have HG2 : Hid (w.grownBy w2 (some g)) := gr_trans HG1.out (gr_below hb)
      have f1 := Tot.frozen hA2 67
      have f2 := Tot.frozen hA2 72
      obtain ⟨s0, s1, s2, s3, s4, s5⟩ := hA2.tails
      clear hb hA2
      by_cases h0 : A.nan = 0
      · have e8 : (A.nan == 0) = true := by simpa using h0
        have H0 := Lib.hid h0
        clear h0
        go_wp2_with fail
        go_ret
        rw [HR1.out H0.out]
        exact ⟨rfl, HA2.out, HG2.out⟩
      have e8 : (A.nan == 0) = false := by simpa using h0
      have h1 : 1 ≤ A.nan := by omega
      have H0 := Lib.hid h0
      clear h0
      go_wp2_with fail
      go_ret
      rw [HR2.out H0.out]
      refine ⟨rfl, ?_, grown_set' (grown_set' HG2.out _ _) _ _⟩
      have := (Tot.setTail HA2.out 0 (.int .i64 (A.nan - 1))).setTail 5 (.int .i64 (A.all - 1))
      rw [HAC.out]
      unfold AccAt spc Ac.less
      simpa [spc] using this
    · have hac := ac_of_some hc
      rw [hc] at hr hC
      have HAC := Lib.hid hac; have HC := Lib.hid hC
      have hr1 : A.up = 0 → R = (3, A) := fun hh => by rw [hr]; exact if_pos hh
      have hr2 : ¬ A.up = 0 → R = (0, A.less t.ac) := fun hh => by rw [hr]; exact if_neg hh
      have HR1 := Lib.hid hr1; have HR2 := Lib.hid hr2
      clear hr hr1 hr2 hP hC hac hc ht ok1
      go_enter Tryz.func209, Tryz.ntmps209
      go_wp2_with fail
      rw [← E1.out]
      skip
      refine (HC.out w1 y1).mono ?_; rintro en w2 ⟨rfl, hb⟩
      simp only [Option.map_some]
      have hA2 := acc_below HA1.out hb y1
      have HA2 := Lib.hid hA2
      have HG2 : Hid (w.grownBy w2 (some g)) := gr_trans HG1.out (gr_below hb)
      have f1 := Tot.frozen hA2 68
      have f2 := Tot.frozen hA2 72
      obtain ⟨s0, s1, s2, s3, s4, s5⟩ := hA2.tails
      clear hb hA2
      by_cases h0 : A.up = 0
      · have e8 : (A.up == 0) = true := by simpa using h0
        have H0 := Lib.hid h0
        clear h0
        go_wp2_with fail
        go_ret
        rw [HR1.out H0.out]
        exact ⟨rfl, HA2.out, HG2.out⟩
      have e8 : (A.up == 0) = false := by simpa using h0
      have h1 : 1 ≤ A.up := by omega
      have H0 := Lib.hid h0
      clear h0
      go_wp2_with fail
      go_ret
      rw [HR2.out H0.out]
      refine ⟨rfl, ?_, grown_set' (grown_set' HG2.out _ _) _ _⟩
      have := (Tot.setTail HA2.out 1 (.int .i64 (A.up - 1))).setTail 5 (.int .i64 (A.all - 1))
      rw [HAC.out]
      unfold AccAt spc Ac.less
      simpa [spc] using this
    · have hac := ac_of_some hc
      rw [hc] at hr hC
      have HAC := Lib.hid hac; have HC := Lib.hid hC
      have hr1 : A.down = 0 → R = (3, A) := fun hh => by rw [hr]; exact if_pos hh
      have hr2 : ¬ A.down = 0 → R = (0, A.less t.ac) := fun hh => by rw [hr]; exact if_neg hh
      have HR1 := Lib.hid hr1; have HR2 := Lib.hid hr2
      clear hr hr1 hr2 hP hC hac hc ht ok1
      go_enter Tryz.func209, Tryz.ntmps209
      go_wp2_with fail
      rw [← E1.out]
      skip
      refine (HC.out w1 y1).mono ?_; rintro en w2 ⟨rfl, hb⟩
      simp only [Option.map_some]
      have hA2 := acc_below HA1.out hb y1
      have HA2 := Lib.hid hA2
      have HG2 : Hid (w.grownBy w2 (some g)) := gr_trans HG1.out (gr_below hb)
      have f1 := Tot.frozen hA2 69
      have f2 := Tot.frozen hA2 72
      obtain ⟨s0, s1, s2, s3, s4, s5⟩ := hA2.tails
      clear hb hA2
      by_cases h0 : A.down = 0
      · have e8 : (A.down == 0) = true := by simpa using h0
        have H0 := Lib.hid h0
        clear h0
        go_wp2_with fail
        go_ret
        rw [HR1.out H0.out]
        exact ⟨rfl, HA2.out, HG2.out⟩
      have e8 : (A.down == 0) = false := by simpa using h0
      have h1 : 1 ≤ A.down := by omega
      have H0 := Lib.hid h0
      clear h0
      go_wp2_with fail
      go_ret
      rw [HR2.out H0.out]
      refine ⟨rfl, ?_, grown_set' (grown_set' HG2.out _ _) _ _⟩
      have := (Tot.setTail HA2.out 2 (.int .i64 (A.down - 1))).setTail 5 (.int .i64 (A.all - 1))
      rw [HAC.out]
      unfold AccAt spc Ac.less
      simpa [spc] using this
    · have hac := ac_of_some hc
      rw [hc] at hr hC
      have HAC := Lib.hid hac; have HC := Lib.hid hC
      have hr1 : A.minus = 0 → R = (3, A) := fun hh => by rw [hr]; exact if_pos hh
      have hr2 : ¬ A.minus = 0 → R = (0, A.less t.ac) := fun hh => by rw [hr]; exact if_neg hh
      have HR1 := Lib.hid hr1; have HR2 := Lib.hid hr2
      clear hr hr1 hr2 hP hC hac hc ht ok1
      go_enter Tryz.func209, Tryz.ntmps209
      go_wp2_with fail
      rw [← E1.out]
      skip
      refine (HC.out w1 y1).mono ?_; rintro en w2 ⟨rfl, hb⟩
      simp only [Option.map_some]
      have hA2 := acc_below HA1.out hb y1
      have HA2 := Lib.hid hA2
      have HG2 : Hid (w.grownBy w2 (some g)) := gr_trans HG1.out (gr_below hb)
      have f1 := Tot.frozen hA2 70
      have f2 := Tot.frozen hA2 72
      obtain ⟨s0, s1, s2, s3, s4, s5⟩ := hA2.tails
      clear hb hA2
      by_cases h0 : A.minus = 0
      · have e8 : (A.minus == 0) = true := by simpa using h0
        have H0 := Lib.hid h0
        clear h0
        go_wp2_with fail
        go_ret
        rw [HR1.out H0.out]
        exact ⟨rfl, HA2.out, HG2.out⟩
      have e8 : (A.minus == 0) = false := by simpa using h0
      have h1 : 1 ≤ A.minus := by omega
      have H0 := Lib.hid h0
      clear h0
      go_wp2_with fail
      go_ret
      rw [HR2.out H0.out]
      refine ⟨rfl, ?_, grown_set' (grown_set' HG2.out _ _) _ _⟩
      have := (Tot.setTail HA2.out 3 (.int .i64 (A.minus - 1))).setTail 5 (.int .i64 (A.all - 1))
      rw [HAC.out]
      unfold AccAt spc Ac.less
      simpa [spc] using this
    · have hac := ac_of_some hc
      rw [hc] at hr hC
      have HAC := Lib.hid hac; have HC := Lib.hid hC
      have hr1 : A.plus = 0 → R = (3, A) := fun hh => by rw [hr]; exact if_pos hh
      have hr2 : ¬ A.plus = 0 → R = (0, A.less t.ac) := fun hh => by rw [hr]; exact if_neg hh
      have HR1 := Lib.hid hr1; have HR2 := Lib.hid hr2
      clear hr hr1 hr2 hP hC hac hc ht ok1
      go_enter Tryz.func209, Tryz.ntmps209
      go_wp2_with fail
      rw [← E1.out]
      skip
      refine (HC.out w1 y1).mono ?_; rintro en w2 ⟨rfl, hb⟩
      simp only [Option.map_some]
      have hA2 := acc_below HA1.out hb y1
      have HA2 := Lib.hid hA2
      have HG2 : Hid (w.grownBy w2 (some g)) := gr_trans HG1.out (gr_below hb)
      have f1 := Tot.frozen hA2 71
      have f2 := Tot.frozen hA2 72
      obtain ⟨s0, s1, s2, s3, s4, s5⟩ := hA2.tails
      clear hb hA2
      by_cases h0 : A.plus = 0
      · have e8 : (A.plus == 0) = true := by simpa using h0
        have H0 := Lib.hid h0
        clear h0
        go_wp2_with fail
        go_ret
        rw [HR1.out H0.out]
        exact ⟨rfl, HA2.out, HG2.out⟩
      have e8 : (A.plus == 0) = false := by simpa using h0
      have h1 : 1 ≤ A.plus := by omega
      have H0 := Lib.hid h0
      clear h0
      go_wp2_with fail
      go_ret
      rw [HR2.out H0.out]
      refine ⟨rfl, ?_, grown_set' (grown_set' HG2.out _ _) _ _⟩
      have := (Tot.setTail HA2.out 4 (.int .i64 (A.plus - 1))).setTail 5 (.int .i64 (A.all - 1))
      rw [HAC.out]
      unfold AccAt spc Ac.less
      simpa [spc] using this
end Go.Proofs.YteahdgbokjbgcaaGreatDoor
