/- Contracts of steelyardref10.Running, Halving, Kahan, Neumaier. No statement of the seat is proved here. -/
import Derived.Test.YthdbapibbdkclaaGreatDoorProg
import Derived.Test.YthdbapibbdkclaaGreatDoorGd
namespace Go.Proofs.YthdbapibbdkclaaGreatDoor
open Go.RowKit
set_option maxRecDepth 10000
set_option linter.unusedVariables false
set_option linter.unusedSimpArgs false

theorem fold_lt (l : List Nat) {x : Nat} (h : x < 18446744073709551616) : l.foldl addC x < 18446744073709551616 := by
  rcases List.eq_nil_or_concat l with rfl | ⟨l', y, rfl⟩
  · exact h
  · rw [List.concat_eq_append, List.foldl_append]; exact addC_lt _ _

set_option maxRecDepth 10000 in
set_option maxHeartbeats 4000000 in
theorem rrunning_any (a : Option Addr) (c : Nat) (l : List Nat) (w : World) (hl : FSl w a c l) (hlen : l.length ≤ 17592186044416) :
    Calls Tryz.prog 28 #[.slice a l.length c] w fun en w' => en = .returned (.float .f64 (runC l)) ∧ Below w.heap.size w w' := by
  cases l with
  | nil =>
    go_enter Tryz.func28, Tryz.ntmps28
    go_wp2_with fail
    refine (bofz_any _).mono ?_; rintro en w1 ⟨rfl, rfl⟩
    go_wp2_with fail
    go_ret
    exact ⟨rfl, Below.refl _ _⟩
  | cons x l =>
    have HWf := Lib.hid (w64_getD hl.wf)
    have HL := Lib.hid (fun W (hw : Below w.heap.size w W) => hl.rd.grow hw)
    obtain ⟨b, off, rfl, hc0⟩ := hl.rd.at (i := 0) (by simp)
    have hx : x < 18446744073709551616 := by have := HWf.out 0; simpa using this
    simp only [List.getD_cons_zero, Nat.add_zero] at hc0
    simp only [List.length_cons] at hlen ⊢
    have HX := Lib.hid hx
    clear hl hx
    go_enter Tryz.func28, Tryz.ntmps28
    go_wp2_with fail
    refine (one10_any x w).mono ?_; rintro en w1 ⟨rfl, rfl⟩
    obtain ⟨x0, hx0⟩ : ∃ y, y = canon x := ⟨_, rfl⟩
    have HX0 := Lib.hid hx0
    rw [← hx0]
    clear hx0
    go_wp2_with fail
    go_loopw [3, 4] (fun s i wr => ∃ (k m r : Nat), k ≤ l.length ∧ m = k + 1 ∧ i = .int .i64 (m : Int) ∧ s = .float .f64 r ∧ Hid (r = (l.take k).foldl addC (canon x) ∧ r < 18446744073709551616 ∧ Below w.heap.size w wr)) (fun _ i _ => l.length + 1 - (intOf i).toNat)
    case atStart => exact ⟨0, 1, x0, Nat.zero_le _, rfl, rfl, rfl, by simp [HX0.out], by rw [HX0.out]; exact canon_lt HX.out, Below.refl _ _⟩
    case round =>
      obtain ⟨k, m, r, hk, hm, rfl, rfl, hH⟩ := hrel
      by_cases hq : k < l.length
      · have hcell := (HL.out wr hH.out.2.2).cells (i := k + 1) (by simp; omega)
        rw [List.getD_cons_succ] at hcell
        have hbd := HWf.out (k + 1)
        rw [List.getD_cons_succ] at hbd
        have hs := fold_snoc addC (canon x) l hq
        obtain ⟨y, hy⟩ : ∃ y, y = l.getD k 0 := ⟨_, rfl⟩
        rw [← hy] at hcell hbd hs
        rw [← hm] at hcell hs
        have HP := Lib.hid (fun W => plus_any hH.out.2.1 hbd W)
        rw [hH.out.1, ← hs, ← hH.out.1] at HP
        have hml : m < l.length + 1 := by omega
        have HB := Lib.hid hH.out.2.2
        have HM := Lib.hid hm
        clear hs hy hbd hm hH
        go_wp2_with fail
        refine (HP.out _).mono ?_; rintro en w3 ⟨rfl, hb⟩
        have HB3 := Lib.hid (HB.out.trans (hb.mono HB.out.size))
        clear hb
        go_wp2_with fail
        go_roundw
        case rel => exact ⟨m, m + 1, _, by omega, rfl, by go_num, rfl, rfl, fold_lt _ (canon_lt HX.out), HB3.out⟩
        case measure => have := HM.out; simp [intOf]; omega
      · obtain rfl : l.length = k := by omega
        have hv := hH.out.1
        rw [List.take_length] at hv
        have HV := Lib.hid hv
        have HB := Lib.hid hH.out.2.2
        have hm' : l.length < m := by omega
        clear hv hH hm hq
        go_wp2_with fail
        go_ret
        rw [HV.out]
        exact ⟨rfl, HB.out⟩

set_option maxRecDepth 10000 in
set_option maxHeartbeats 2000000 in
theorem rhalving_all (n : Nat) : ∀ (a : Option Addr) (c : Nat) (l : List Nat) (w : World), l.length ≤ n → FSl w a c l → l.length ≤ 17592186044416 → Calls Tryz.prog 29 #[.slice a l.length c] w (HalQ l w) := by
  induction n with
  | zero =>
    intro a c l w hn hl _
    obtain rfl : l = [] := List.eq_nil_of_length_eq_zero (by omega)
    go_enter Tryz.func29, Tryz.ntmps29
    go_wp2_with fail
    refine (bofz_any _).mono ?_; rintro en w1 ⟨rfl, rfl⟩
    go_wp2_with fail
    go_ret
    exact ⟨0, rfl, Hal.nil, Below.refl _ _⟩
  | succ n ih =>
    intro a c l w hn hl hlen
    match l, hn, hl, hlen with
    | [], hn, hl, hlen =>
      go_enter Tryz.func29, Tryz.ntmps29
      go_wp2_with fail
      refine (bofz_any _).mono ?_; rintro en w1 ⟨rfl, rfl⟩
      go_wp2_with fail
      go_ret
      exact ⟨0, rfl, Hal.nil, Below.refl _ _⟩
    | [x], hn, hl, hlen =>
      obtain ⟨b, off, rfl, hc0⟩ := hl.rd.at (i := 0) (by simp)
      simp only [List.getD_cons_zero, Nat.add_zero] at hc0
      clear hl ih
      go_enter Tryz.func29, Tryz.ntmps29
      go_wp2_with fail
      refine (one10_any x w).mono ?_; rintro en w1 ⟨rfl, rfl⟩
      go_wp2_with fail
      go_ret
      exact ⟨_, rfl, Hal.one x, Below.refl _ _⟩
    | x :: y :: l', hn, hl, hlen =>
      obtain ⟨l, hll⟩ : ∃ l, l = x :: y :: l' := ⟨_, rfl⟩
      rw [← hll] at hn hl hlen ⊢
      have h2 : 2 ≤ l.length := by rw [hll]; simp
      have e0 : ((l.length : Int) == 0) = false := by rw [beq_eq_false_iff_ne]; omega
      have e1 : ((l.length : Int) == 1) = false := by rw [beq_eq_false_iff_ne]; omega
      obtain ⟨b, off, rfl, hc0⟩ := hl.rd.at (i := 0) (by omega)
      have hcap := hl.cap
      have HSl := Lib.hid hl
      have HIH := Lib.hid ih
      clear hll hc0 hl ih
      go_enter Tryz.func29, Tryz.ntmps29
      go_wp2_with fail
      go_loopw [3] (fun kk wr => ∃ k : Nat, kk = .int .i64 k ∧ k < l.length ∧ Hid ((∃ j, k = 2 ^ j) ∧ wr = w)) (fun kk _ => l.length - (intOf kk).toNat)
      case atStart => exact ⟨1, rfl, by omega, ⟨0, rfl⟩, rfl⟩
      case round =>
        obtain ⟨k, rfl, hk, hH⟩ := hrel
        have hk1 : 0 < k := by obtain ⟨j, rfl⟩ := hH.out.1; exact Nat.two_pow_pos j
        by_cases hq : 2 * k < l.length
        · go_wp2_with fail
          go_roundw
          case rel =>
            obtain ⟨j, hj⟩ := hH.out.1
            exact ⟨2 * k, by go_num, hq, ⟨j + 1, by rw [hj, Nat.pow_succ, Nat.mul_comm]⟩, hH.out.2⟩
          case measure => simp [intOf]; omega
        · obtain ⟨⟨j, hj⟩, rfl⟩ := hH.out
          have j1 : k ≤ c := by omega
          have j2 : k ≤ l.length := by omega
          obtain ⟨A, hA, hS2⟩ := HSl.out.skip j2
          rw [if_neg (by omega)] at hA
          cases hA
          have hS1 := HSl.out.take k
          have l1 : (l.take k).length = k := by rw [List.length_take]; omega
          have l2 : (l.drop k).length = l.length - k := List.length_drop
          have H1 := Lib.hid (fun W (hw : Below wr.heap.size wr W) => HIH.out (some ⟨b, off, none⟩) c (l.take k) W (by omega) (hS1.grow hw) (by omega))
          have H2 := Lib.hid (fun W (hw : Below wr.heap.size wr W) => HIH.out (some ⟨b, off + k, none⟩) (c - k) (l.drop k) W (by omega) (hS2.grow hw) (by omega))
          rw [l1] at H1
          rw [l2] at H2
          have HJ : Hid (k = 2 ^ j ∧ l.length ≤ 2 ^ (j + 1)) := ⟨hj, by rw [Nat.pow_succ, ← hj]; omega⟩
          have HW1 := Lib.hid hS1.wf; have HW2 := Lib.hid hS2.wf
          clear hj hH hS1 hS2 l1 l2
          go_wp2_with fail
          have hq1 := H1.out wr (Below.refl _ _)
          with_reducible refine hq1.mono ?_
          clear hq1
          rintro en w1 ⟨v1, rfl, hv1, hb1⟩
          have HB1 := Lib.hid hb1
          have HV1 := Lib.hid hv1
          clear hv1 hb1
          go_wp2_with fail
          have hq1 := H2.out w1 HB1.out
          with_reducible refine hq1.mono ?_
          clear hq1
          rintro en w2 ⟨v2, rfl, hv2, hb2⟩
          have HB2 := Lib.hid (HB1.out.trans (hb2.mono HB1.out.size))
          have HV2 := Lib.hid hv2
          have HP := Lib.hid (plus_any (HV1.out.lt HW1.out) (HV2.out.lt HW2.out) w2)
          clear hv2 hb2
          go_wp2_with fail
          with_reducible refine HP.out.mono ?_
          rintro en w3 ⟨rfl, hb3⟩
          have HB3 := Lib.hid (HB2.out.trans (hb3.mono HB2.out.size))
          clear hb3
          go_wp2_with fail
          go_ret
          exact ⟨addC v1 v2, rfl, Hal.two h2 (by rw [← HJ.out.1]; omega) HJ.out.2 (by rw [← HJ.out.1]; exact HV1.out) (by rw [← HJ.out.1]; exact HV2.out), HB3.out⟩
theorem rhalving_any (a : Option Addr) (c : Nat) (l : List Nat) (w : World) (hl : FSl w a c l) (hlen : l.length ≤ 17592186044416) : Calls Tryz.prog 29 #[.slice a l.length c] w (HalQ l w) :=
  rhalving_all l.length a c l w (Nat.le_refl _) hl hlen

/-- what both ways hold ahead of a step -/
structure WayI (f : Nat → Nat → Nat → Nat × Nat) (l : List Nat) (k s c : Nat) : Prop where
  es : s = (wayC f (l.take k)).1
  ec : c = (wayC f (l.take k)).2
  ls : s < 18446744073709551616
  lc : c < 18446744073709551616
  cs : canon s = s
  cc : canon c = c
theorem WayI.zero (f : Nat → Nat → Nat → Nat × Nat) (l : List Nat) : WayI f l 0 0 0 := ⟨by simp [wayC], by simp [wayC], by decide, by decide, by decide, by decide⟩
theorem WayI.step {f : Nat → Nat → Nat → Nat × Nat} {l : List Nat} {k s c p q : Nat} (h : WayI f l k s c) (hk : k < l.length) (hp : (p, q) = f s c (canon (l.getD k 0))) (lp : p < 18446744073709551616) (lq : q < 18446744073709551616) (cp : canon p = p) (cq : canon q = q) : WayI f l (k + 1) p q := by
  have e := way_snoc f l hk
  rw [← h.es, ← h.ec, ← hp] at e
  exact ⟨by rw [e], by rw [e], lp, lq, cp, cq⟩
theorem kstep_raw {s c x : Nat} (hc : canon c = c) (lc : c < 18446744073709551616) : kStep s c (canon x) = kStep s c x := by
  have e : subC (canon x) c = subC x c := by
    have := subC_canon (x := x) lc
    rw [hc] at this; exact this
  unfold kStep; rw [e]
theorem geA_rawr (s x : Nat) : geA s (canon x) = geA s x := by
  by_cases h : 9218868437227405312 < x % 9223372036854775808
  · rw [canon_nan h]
    unfold geA
    rw [decide_eq_false (show ¬ x % 9223372036854775808 ≤ 9218868437227405312 by omega), decide_eq_false (show ¬ nan64 % 9223372036854775808 ≤ 9218868437227405312 by decide)]
    simp
  · rw [canon_num (by omega)]
theorem addC_rawl (x y : Nat) : addC (canon x) y = addC x y := by rw [← addC_canon (canon x) y, canon_canon, addC_canon]
theorem addC_rawr (x y : Nat) : addC x (canon y) = addC x y := by rw [← addC_canon x (canon y), canon_canon, addC_canon]
theorem nstep_raw (s c x : Nat) : nStep s c (canon x) = nStep s c x := by
  have e : ∀ t, subC (canon x) t = subC x t := fun t => addC_rawl x (turnB t)
  unfold nStep; rw [geA_rawr, addC_rawr, addC_rawr, e]

set_option maxRecDepth 10000 in
set_option maxHeartbeats 4000000 in
theorem rkahan_any (a : Option Addr) (c : Nat) (l : List Nat) (w : World) (hl : FSl w a c l) (hlen : l.length ≤ 17592186044416) :
    Calls Tryz.prog 30 #[.slice a l.length c] w fun en w' => en = .returned (.float .f64 (kahC l)) ∧ Below w.heap.size w w' := by
  have HWf := Lib.hid (w64_getD hl.wf)
  have HL := Lib.hid (fun W (hw : Below w.heap.size w W) => hl.rd.grow hw)
  clear hl
  go_enter Tryz.func30, Tryz.ntmps30
  go_wp2_with fail
  refine (bofz_any _).mono ?_; rintro en w1 ⟨rfl, rfl⟩
  go_wp2_with fail
  refine (bofz_any _).mono ?_; rintro en w1 ⟨rfl, rfl⟩
  go_wp2_with fail
  go_loopw [3, 4, 5, 6, 7, 8] (fun s cc i yy tt uu wr => ∃ (k r1 r2 : Nat), k ≤ l.length ∧ i = .int .i64 k ∧ s = .float .f64 r1 ∧ cc = .float .f64 r2 ∧ Hid (WayI kStep l k r1 r2 ∧ Below w.heap.size w wr)) (fun _ _ i _ _ _ _ => l.length - (intOf i).toNat)
  case atStart => exact ⟨0, 0, 0, Nat.zero_le _, rfl, rfl, rfl, WayI.zero _ _, Below.refl _ _⟩
  case round =>
    obtain ⟨k, r1, r2, hk, rfl, rfl, rfl, hH⟩ := hrel
    obtain ⟨hI, hB⟩ := hH.out
    by_cases hq : k < l.length
    · obtain ⟨bx, ox, rfl, hcx⟩ := (HL.out wr hB).at hq
      have hbx := HWf.out k
      obtain ⟨x, hx⟩ : ∃ x, x = l.getD k 0 := ⟨_, rfl⟩
      rw [← hx] at hcx hbx
      obtain ⟨y, hy⟩ : ∃ y, y = subC x r2 := ⟨_, rfl⟩
      obtain ⟨t, ht⟩ : ∃ t, t = addC r1 y := ⟨_, rfl⟩
      obtain ⟨u, hu⟩ : ∃ u, u = subC t r1 := ⟨_, rfl⟩
      obtain ⟨v, hv⟩ : ∃ v, v = subC u y := ⟨_, rfl⟩
      have ly : y < 18446744073709551616 := by rw [hy]; exact addC_lt _ _
      have lt : t < 18446744073709551616 := by rw [ht]; exact addC_lt _ _
      have lu : u < 18446744073709551616 := by rw [hu]; exact addC_lt _ _
      have P1 := Lib.hid (fun W => minus_any hbx hI.lc W)
      have P2 := Lib.hid (fun W => plus_any hI.ls ly W)
      have P3 := Lib.hid (fun W => minus_any lt hI.ls W)
      have P4 := Lib.hid (fun W => minus_any lu ly W)
      rw [← hy] at P1
      rw [← ht] at P2
      rw [← hu] at P3
      rw [← hv] at P4
      have HN : Hid (WayI kStep l (k + 1) t v) := by
        refine hI.step hq ?_ lt (by rw [hv]; exact addC_lt _ _) (by rw [ht]; exact canon_addC _ _) (by rw [hv]; exact canon_subC _ _)
        rw [kstep_raw hI.cc hI.lc, ← hx]
        unfold kStep
        rw [← hy, ← ht, ← hu, ← hv]
      have HB := Lib.hid hB
      clear hx hy ht hu hv ly lt lu hbx hI hB hH
      go_wp2_with fail
      refine (P1.out _).mono ?_; rintro en w1 ⟨rfl, hb⟩
      have HB1 := Lib.hid (HB.out.trans (hb.mono HB.out.size))
      clear hb
      go_wp2_with fail
      refine (P2.out _).mono ?_; rintro en w2 ⟨rfl, hb⟩
      have HB2 := Lib.hid (HB1.out.trans (hb.mono HB1.out.size))
      clear hb
      go_wp2_with fail
      refine (P3.out _).mono ?_; rintro en w3 ⟨rfl, hb⟩
      have HB3 := Lib.hid (HB2.out.trans (hb.mono HB2.out.size))
      clear hb
      go_wp2_with fail
      refine (P4.out _).mono ?_; rintro en w4 ⟨rfl, hb⟩
      have HB4 := Lib.hid (HB3.out.trans (hb.mono HB3.out.size))
      clear hb
      go_wp2_with fail
      go_roundw
      case rel => exact ⟨k + 1, t, v, by omega, by go_num, rfl, rfl, HN.out, HB4.out⟩
      case measure => simp [intOf]; omega
    · obtain rfl : l.length = k := by omega
      have e1 : r1 = kahC l := by have := hI.es; rw [List.take_length] at this; exact this
      have HO := Lib.hid (fun W => one10_any r1 W)
      rw [hI.cs] at HO
      have HE := Lib.hid e1
      have HB := Lib.hid hB
      clear e1 hI hB hH hq hk
      go_wp2_with fail
      refine (HO.out _).mono ?_; rintro en w1 ⟨rfl, rfl⟩
      go_wp2_with fail
      go_ret
      rw [HE.out]
      exact ⟨rfl, HB.out⟩

set_option maxRecDepth 10000 in
set_option maxHeartbeats 4000000 in
theorem rneumaier_any (a : Option Addr) (c : Nat) (l : List Nat) (w : World) (hl : FSl w a c l) (hlen : l.length ≤ 17592186044416) :
    Calls Tryz.prog 31 #[.slice a l.length c] w fun en w' => en = .returned (.float .f64 (neuC l)) ∧ Below w.heap.size w w' := by
  have HWf := Lib.hid (w64_getD hl.wf)
  have HL := Lib.hid (fun W (hw : Below w.heap.size w W) => hl.rd.grow hw)
  clear hl
  go_enter Tryz.func31, Tryz.ntmps31
  go_wp2_with fail
  refine (bofz_any _).mono ?_; rintro en w1 ⟨rfl, rfl⟩
  go_wp2_with fail
  refine (bofz_any _).mono ?_; rintro en w1 ⟨rfl, rfl⟩
  go_wp2_with fail
  go_loopw [3, 4, 5, 6, 7, 8, 9, 10, 11] (fun s cc i xx tt vv fi uu u2 wr => ∃ (k r1 r2 : Nat), k ≤ l.length ∧ i = .int .i64 k ∧ s = .float .f64 r1 ∧ cc = .float .f64 r2 ∧ Hid (WayI nStep l k r1 r2 ∧ Below w.heap.size w wr)) (fun _ _ i _ _ _ _ _ _ _ => l.length - (intOf i).toNat)
  case atStart => exact ⟨0, 0, 0, Nat.zero_le _, rfl, rfl, rfl, WayI.zero _ _, Below.refl _ _⟩
  case round =>
    obtain ⟨k, r1, r2, hk, rfl, rfl, rfl, hH⟩ := hrel
    obtain ⟨hI, hB⟩ := hH.out
    by_cases hq : k < l.length
    · obtain ⟨bx, ox, rfl, hcx⟩ := (HL.out wr hB).at hq
      have hbx := HWf.out k
      obtain ⟨x, hx⟩ : ∃ x, x = l.getD k 0 := ⟨_, rfl⟩
      rw [← hx] at hcx hbx
      obtain ⟨t, ht⟩ : ∃ t, t = addC r1 x := ⟨_, rfl⟩
      obtain ⟨ge, hge⟩ : ∃ b, b = geA r1 x := ⟨_, rfl⟩
      obtain ⟨u, hu⟩ : ∃ u, u = if ge = true then subC r1 t else subC x t := ⟨_, rfl⟩
      obtain ⟨v, hv⟩ : ∃ v, v = if ge = true then addC u x else addC u r1 := ⟨_, rfl⟩
      obtain ⟨z, hz⟩ : ∃ z, z = addC r2 v := ⟨_, rfl⟩
      have lt : t < 18446744073709551616 := by rw [ht]; exact addC_lt _ _
      have lu : u < 18446744073709551616 := by rw [hu]; split <;> exact addC_lt _ _
      have lv : v < 18446744073709551616 := by rw [hv]; split <;> exact addC_lt _ _
      have P1 := Lib.hid (fun W => plus_any hI.ls hbx W)
      have P2 := Lib.hid (fun W => notbelow_any r1 x W)
      have P3 := Lib.hid (fun W => minus_any hI.ls lt W)
      have P3' := Lib.hid (fun W => minus_any hbx lt W)
      have P4 := Lib.hid (fun W => plus_any lu hbx W)
      have P4' := Lib.hid (fun W => plus_any lu hI.ls W)
      have P5 := Lib.hid (fun W => plus_any hI.lc lv W)
      rw [← ht] at P1
      rw [← hge] at P2
      rw [← hz] at P5
      have HN : Hid (WayI nStep l (k + 1) t z) := by
        refine hI.step hq ?_ lt (by rw [hz]; exact addC_lt _ _) (by rw [ht]; exact canon_addC _ _) (by rw [hz]; exact canon_addC _ _)
        rw [nstep_raw, ← hx]
        unfold nStep
        rw [← ht, ← hge]
        cases ge
        · rw [if_neg (by decide)] at hu hv
          rw [if_neg (by decide), ← hu, ← hv, ← hz]
        · rw [if_pos rfl] at hu hv
          rw [if_pos rfl, ← hu, ← hv, ← hz]
      have HB := Lib.hid hB
      cases ge
      · rw [if_neg (by decide)] at hu hv
        rw [← hu] at P3'
        rw [← hv] at P4'
        clear hx ht hge hu hv hz lt lu lv hbx hI hB hH P3 P4
        go_wp2_with fail
        refine (P1.out _).mono ?_; rintro en w1 ⟨rfl, hb⟩
        have HB1 := Lib.hid (HB.out.trans (hb.mono HB.out.size))
        clear hb
        go_wp2_with fail
        refine (bofz_any _).mono ?_; rintro en w2 ⟨rfl, rfl⟩
        go_wp2_with fail
        refine (P2.out _).mono ?_; rintro en w2 ⟨rfl, rfl⟩
        go_wp2_with fail
        refine (P3'.out _).mono ?_; rintro en w2 ⟨rfl, hb⟩
        have HB2 := Lib.hid (HB1.out.trans (hb.mono HB1.out.size))
        clear hb
        go_wp2_with fail
        refine (P4'.out _).mono ?_; rintro en w3 ⟨rfl, hb⟩
        have HB3 := Lib.hid (HB2.out.trans (hb.mono HB2.out.size))
        clear hb
        go_wp2_with fail
        refine (P5.out _).mono ?_; rintro en w4 ⟨rfl, hb⟩
        have HB4 := Lib.hid (HB3.out.trans (hb.mono HB3.out.size))
        clear hb
        go_wp2_with fail
        go_roundw
        case rel => exact ⟨k + 1, t, z, by omega, by go_num, rfl, rfl, HN.out, HB4.out⟩
        case measure => simp [intOf]; omega
      · rw [if_pos rfl] at hu hv
        rw [← hu] at P3
        rw [← hv] at P4
        clear hx ht hge hu hv hz lt lu lv hbx hI hB hH P3' P4'
        go_wp2_with fail
        refine (P1.out _).mono ?_; rintro en w1 ⟨rfl, hb⟩
        have HB1 := Lib.hid (HB.out.trans (hb.mono HB.out.size))
        clear hb
        go_wp2_with fail
        refine (bofz_any _).mono ?_; rintro en w2 ⟨rfl, rfl⟩
        go_wp2_with fail
        refine (P2.out _).mono ?_; rintro en w2 ⟨rfl, rfl⟩
        go_wp2_with fail
        refine (P3.out _).mono ?_; rintro en w2 ⟨rfl, hb⟩
        have HB2 := Lib.hid (HB1.out.trans (hb.mono HB1.out.size))
        clear hb
        go_wp2_with fail
        refine (P4.out _).mono ?_; rintro en w3 ⟨rfl, hb⟩
        have HB3 := Lib.hid (HB2.out.trans (hb.mono HB2.out.size))
        clear hb
        go_wp2_with fail
        refine (P5.out _).mono ?_; rintro en w4 ⟨rfl, hb⟩
        have HB4 := Lib.hid (HB3.out.trans (hb.mono HB3.out.size))
        clear hb
        go_wp2_with fail
        go_roundw
        case rel => exact ⟨k + 1, t, z, by omega, by go_num, rfl, rfl, HN.out, HB4.out⟩
        case measure => simp [intOf]; omega
    · obtain rfl : l.length = k := by omega
      have e1 : addC r1 r2 = neuC l := by
        have h1 := hI.es; have h2 := hI.ec
        rw [List.take_length] at h1 h2
        rw [h1, h2]; rfl
      have HP := Lib.hid (fun W => plus_any hI.ls hI.lc W)
      rw [e1] at HP
      have HB := Lib.hid hB
      clear e1 hI hB hH hq hk
      go_wp2_with fail
      refine (HP.out _).mono ?_; rintro en w1 ⟨rfl, hb⟩
      have HB1 := Lib.hid (HB.out.trans (hb.mono HB.out.size))
      clear hb
      go_wp2_with fail
      go_ret
      exact ⟨rfl, HB1.out⟩
end Go.Proofs.YthdbapibbdkclaaGreatDoor
