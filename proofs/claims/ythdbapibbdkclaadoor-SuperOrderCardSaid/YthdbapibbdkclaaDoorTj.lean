/- The walk of steelyardlaw07.SuperOrder: true of all lists, in every world whose table of math/bits is laid. -/
import Derived.Test.YthdbapibbdkclaaDoorProg
import Derived.Test.YthdbapibbdkclaaDoorTi
import Derived.Deep.DeepCutAuto
namespace Go.Proofs.YthdbapibbdkclaaDoor
open Go.RowKit
set_option linter.unusedVariables false
set_option linter.unusedSimpArgs false

theorem info_intW : (Tryd.prog.info? 3).map (fun i => (i.zero, i.size, i.bytes)) = some (some (.int .i64 0), 1, 8) := by kernel_rfl
theorem info_int : ∃ i, Tryd.prog.info? 3 = some i ∧ i.zero = some (.int .i64 0) ∧ i.size = 1 ∧ i.bytes ≤ 64 := by
  have h := info_intW
  cases hi : Tryd.prog.info? 3 with
  | none => rw [hi] at h; cases h
  | some i =>
    rw [hi] at h
    simp only [Option.map_some, Option.some.injEq, Prod.mk.injEq] at h
    exact ⟨i, rfl, h.1, h.2.1, by omega⟩

set_option maxRecDepth 10000 in
set_option maxHeartbeats 8000000 in
theorem superorder_any (a1 a2 a3 : Option Addr) (c1 c2 c3 : Nat) (xs ys : List Nat) (os : List Int) (cut : Int) (w : World) (hT : Tab w) (hx : FSl w a1 c1 xs) (hy : FSl w a2 c2 ys)
    (hos : VRd w a3 (os.map fun n => .int .i64 n)) (hob : ∀ n ∈ os, -9223372036854775808 ≤ n ∧ n ≤ 9223372036854775807) (hc1 : -9223372036854775808 ≤ cut) (hc2 : cut ≤ 9223372036854775807) :
    Calls Tryd.prog 5 #[.slice a1 xs.length c1, .slice a2 ys.length c2, .slice a3 os.length c3, .int .i64 cut] w fun en w' => en = .returned (.bool true) ∧ Below w.heap.size w w' := by
  have H1 := Lib.hid (live7_any w hT)
  have HXf := Lib.hid (w64_getD hx.wf); have HYf := Lib.hid (w64_getD hy.wf)
  have HX := Lib.hid (fun W (hw : Below w.heap.size w W) => hx.rd.grow hw)
  have HY := Lib.hid (fun W (hw : Below w.heap.size w W) => hy.rd.grow hw)
  have HO := Lib.hid (fun W (hw : Below w.heap.size w W) => hos.grow hw)
  have HOb := Lib.hid hob
  have HT := Lib.hid hT
  obtain ⟨n, hn⟩ : ∃ n, n = min (min xs.length ys.length) 200 := ⟨_, rfl⟩
  obtain ⟨i0, hi0, hz0, hs0, hb0⟩ := info_int
  have HI := Lib.hid (And.intro hi0 (And.intro hz0 (And.intro hs0 hb0)))
  clear hx hy hT hos hob hi0 hz0 hs0 hb0
  have hmn : ∀ ts tt W, (Builtin.min_ ts tt #[.int .i64 xs.length, .int .i64 ys.length, .int .i64 200]).run Tryd.prog W = .ok (.int .i64 n) W := by
    intro ts tt W
    rw [hn, ← min3_nat]
    simp [Builtin.min_, Builtin.min2]
  have hn1 : n ≤ xs.length := by omega
  have hn2 : n ≤ ys.length := by omega
  have hn3 : n ≤ 200 := by omega
  clear hn
  obtain ⟨P, hP⟩ : ∃ f : Nat → Ac, f = fun j => prT (xs.getD j 0) (ys.getD j 0) := ⟨_, rfl⟩
  have HP : Hid (∀ j, P j = prT (xs.getD j 0) (ys.getD j 0)) := fun j => by rw [hP]
  have TP : Hid (∀ j, Thing (P j)) := fun j => by rw [hP]; exact prT_thing _ _
  clear hP
  go_enter Tryd.func5, Tryd.ntmps5
  go_wp2_with fail
  refine H1.out.mono ?_; rintro en w1 ⟨rfl, hb⟩
  have HB := Lib.hid hb
  have y1 := hb.size
  clear hb
  go_wp2_with fail
  refine (new_any w1).mono ?_; rintro en w2 ⟨rfl, hA1, hb1⟩
  obtain ⟨g1, hg1⟩ : ∃ g, g = w1.heap.size := ⟨_, rfl⟩
  have l1 := Tot.lt hA1
  rw [← hg1] at hA1 l1 ⊢
  have z1 : w.heap.size ≤ g1 := by omega
  have HB2 := Lib.hid (HB.out.trans (hb1.mono y1))
  have HA1 := Lib.hid hA1
  clear hA1 hb1 hg1 y1 HB
  go_wp2_with fail
  refine (new_any w2).mono ?_; rintro en w3 ⟨rfl, hA2, hb2⟩
  obtain ⟨g2, hg2⟩ : ∃ g, g = w2.heap.size := ⟨_, rfl⟩
  have l2 := Tot.lt hA2
  rw [← hg2] at hA2 l2 ⊢
  have z2 : g1 < g2 := by omega
  have HA1' := Lib.hid (Tot.below HA1.out hb2 l1)
  have HB3 := Lib.hid (HB2.out.trans (hb2.mono HB2.out.size))
  have HA2 := Lib.hid hA2
  clear hA2 hb2 HA1 hg2 HB2 l1
  go_wp2_with fail
  refine (new_any w3).mono ?_; rintro en w4 ⟨rfl, hA3, hb3⟩
  obtain ⟨g3, hg3⟩ : ∃ g, g = w3.heap.size := ⟨_, rfl⟩
  have l3 := Tot.lt hA3
  rw [← hg3] at hA3 l3 ⊢
  have z3 : g2 < g3 := by omega
  obtain ⟨B, hB⟩ : ∃ B, B = w4.heap.size := ⟨_, rfl⟩
  have HN : Hid (OrN w B g1 g2 g3) := ⟨by omega, by omega, by omega, by omega⟩
  have HU : Hid (Or w w4 B g1 g2 g3 Ac.zero Ac.zero Ac.zero none 0 []) := ⟨Tot.below HA1'.out hb3 (by omega), Tot.below HA2.out hb3 l2, hA3, VOwn.none _ _ _ _, HB3.out.trans (hb3.mono HB3.out.size), by omega⟩
  clear hA3 hb3 HA1' HA2 HB3 hg3 l2 l3 hB z1 z2 z3
  go_wp2_with fail
  go_loopw [14, 15] (fun s i wr => ∃ (k : Nat) (a : Option Addr) (c : Nat), k ≤ n ∧ i = .int .i64 k ∧ s = .slice a k c ∧ Hid (Fit k (sumR P (List.range k)) ∧ Or w wr B g1 g2 g3 (sumR P (List.range k)) Ac.zero Ac.zero a c (List.range k))) (fun _ i _ => n - (intOf i).toNat)
  case atStart => exact ⟨0, none, 0, Nat.zero_le _, rfl, rfl, fit_zero, HU.out⟩
  case round =>
    obtain ⟨k, a, c, hk, rfl, rfl, hH⟩ := hrel
    by_cases hq : k < n
    · obtain ⟨bx, ox, rfl, hcx⟩ := (HX.out wr hH.out.2.bel).at (show k < xs.length by omega)
      obtain ⟨by', oy, rfl, hcy⟩ := (HY.out wr hH.out.2.bel).at (show k < ys.length by omega)
      have hbx := HXf.out k
      have hby := HYf.out k
      have HCx := Lib.hid (fun W (hw : Below w.heap.size w W) => (HX.out W hw).cells (show k < xs.length by omega))
      have HCy := Lib.hid (fun W (hw : Below w.heap.size w W) => (HY.out W hw).cells (show k < ys.length by omega))
      have e1 := HP.out k
      have hS : sumR P (List.range (k + 1)) = (sumR P (List.range k)).sum (P k) := by rw [List.range_succ, sumR_snoc]
      have hF := hH.out.1
      have hF2 := fit_add hF (TP.out k) (by omega)
      rw [← hS] at hF2
      obtain ⟨x, hx⟩ : ∃ x, x = xs.getD k 0 := ⟨_, rfl⟩
      obtain ⟨y, hy⟩ : ∃ y, y = ys.getD k 0 := ⟨_, rfl⟩
      rw [← hx] at hcx hbx HCx e1
      rw [← hy] at hcy hby HCy e1
      rw [e1] at hS
      have HPr := Lib.hid (fun W (h : AccAt W g1 (sumR P (List.range k))) => addp_few x y g1 W hF (by omega) hbx hby h)
      rw [← hS] at HPr
      have hjx : k < xs.length := by omega
      have hjy : k < ys.length := by omega
      have HF2 := Lib.hid hF2
      clear hx hy e1 hF hF2 hS hcx hcy
      have HBk := Lib.hid (vblk_alloc wr 3 #[.int .i64 (k : Int)])
      go_wp2_with (first | (at_builtin; refine wpList_append_vals rfl _ _ 52 52 rfl 3 3 i0 (.int .i64 0) 1 Tryd.underlying52 Tryd.underlying52 HI.out.1 HI.out.2.1 HI.out.2.2.1 rfl (by decide) HI.out.2.2.2 B a (some ⟨wr.heap.size, 0, none⟩) k c 1 1 ((List.range k).map iv) [iv k] rfl rfl (by simp) rfl (iv_one [k]) (hH.out.2.own.grow ((Below.refl _ _).alloc (Nat.le_refl _) _)) HBk.out.rd (by omega) (by have := hH.out.2.siz; rw [World.size_alloc]; omega) ?_; intro a5 c5 w5 ho5 hg5 hn5))
      have HU5 : Hid (Or w w5 B g1 g2 g3 (sumR P (List.range k)) Ac.zero Ac.zero a5 c5 (List.range (k + 1))) := by
        refine (hH.out.2.below HN.out ((Below.refl _ _).alloc (Nat.le_refl _) _)).app HN.out (b := a.map (·.block)) ?_ hg5 hH.out.2.own.row
        rw [List.range_succ, List.map_append]; exact ho5
      clear ho5 hg5 hn5 HBk hH
      have hcx := HCx.out w5 HU5.out.bel
      have hcy := HCy.out w5 HU5.out.bel
      go_region_held3 (fun W => W.cell? ⟨bx, ox + k, none⟩ = some (.float .f64 x) ∧ W.cell? ⟨by', oy + k, none⟩ = some (.float .f64 y)) (go_keep) (first
        | (go_at_call 30; refine (HPr.out w5.drew (HU5.out.drew 1).a1).mono ?_; rintro en w6 ⟨rfl, hA, hG⟩; have HU6 := Lib.hid ((HU5.out.drew 1).set1 HN.out hA hG); have hcx6 := HCx.out w6 HU6.out.bel; have hcy6 := HCy.out w6 HU6.out.bel; clear hA hG))
      go_wp2_with fail
      go_roundw
      case rel => exact ⟨k + 1, a5, c5, by omega, by go_num, rfl, HF2.out, HU6.out⟩
      case measure => simp [intOf]; omega
    · obtain rfl : n = k := by omega
      have HF0 := Lib.hid hH.out.1
      have HU0 := Lib.hid hH.out.2
      obtain ⟨W0, hW0⟩ : ∃ A, A = sumR P (List.range n) := ⟨_, rfl⟩
      rw [← hW0] at HF0 HU0
      have HW0 := Lib.hid hW0
      have HR0 : Hid (∀ j ∈ List.range n, j < n) := fun j hj => List.mem_range.1 hj
      have HL0 : Hid ((List.range n).length = n) := List.length_range
      obtain ⟨r0, hr0⟩ : ∃ r, r = List.range n := ⟨_, rfl⟩
      rw [← hr0] at HU0 HR0 HL0 HW0
      clear hr0 hW0 hH hq hk
      go_wp2_with fail
      go_loopw [14, 16, 17, 18] (fun s kk at' ii wr => ∃ (m p q : Nat) (r : List Nat) (L R : Ac) (a : Option Addr) (c : Nat), m + r.length = n ∧ kk = .int .i64 m ∧ s = .slice a r.length c ∧ p + q = m ∧ Hid ((L.sum R).sum (sumR P r) = W0 ∧ (∀ j ∈ r, j < n) ∧ Fit p L ∧ Fit q R ∧ Or w wr B g1 g2 g3 W0 L R a c r)) (fun _ kk _ _ _ => n - (intOf kk).toNat)
      case atStart => exact ⟨0, 0, 0, r0, Ac.zero, Ac.zero, a, c, by rw [HL0.out]; omega, rfl, by rw [HL0.out], rfl, by rw [Ac.zero_sum, Ac.zero_sum]; exact HW0.out.symm, HR0.out, fit_zero, fit_zero, HU0.out⟩
      case round =>
      obtain ⟨m, p, q, r, L, R, a, c, hm, rfl, rfl, hpq, hH⟩ := hrel
      by_cases hr : 0 < r.length
      · have hmn : m < n := by omega
        go_upto_if 71 with fail
        go_cut [17] (fun at' wx => ∃ j : Nat, at' = .int .i64 j ∧ j < r.length ∧ wx = wr)
        case first =>
          by_cases ho : m < os.length
          · obtain ⟨z, hz⟩ : ∃ z, os[m]? = some z := ⟨os[m], List.getElem?_eq_getElem ho⟩
            obtain ⟨zb, zo, rfl, hzc⟩ := HO.out wr hH.out.2.2.2.2.bel m (.int .i64 z) (by rw [List.getElem?_map, hz]; rfl)
            obtain ⟨z1, z2⟩ := HOb.out z (List.mem_of_getElem? hz)
            have HPk := Lib.hid (pick_any z r.length wr z1 z2 hr (by omega))
            clear hz
            go_wp2_with fail
            refine HPk.out.mono ?_; rintro en w8 ⟨j, hj, rfl, rfl⟩
            go_wp2_with fail
            go_meet
            case rel => exact ⟨j, rfl, hj, rfl⟩
          · go_wp2_with fail
            go_meet
            case rel => exact ⟨0, rfl, hr, rfl⟩
        obtain ⟨j, rfl, hj, rfl⟩ := hcut
        obtain ⟨i, hi⟩ : ∃ i, r[j]? = some i := ⟨r[j], List.getElem?_eq_getElem hj⟩
        obtain ⟨b0, o0, rfl, hcr⟩ := hH.out.2.2.2.2.own.rd j (iv i) (by rw [List.getElem?_map, hi]; rfl)
        have hin : i < n := hH.out.2.1 i (List.mem_of_getElem? hi)
        have hcap := hH.out.2.2.2.2.own.cap
        rw [List.length_map, Nat.mul_one] at hcap
        unfold iv at hcr
        have HI2 := Lib.hid hi
        have HH := Lib.hid hH.out
        have j1 : j ≤ c := by omega
        obtain ⟨J, hJ⟩ : ∃ J, J = j + 1 := ⟨_, rfl⟩
        have e1 : IntKind.i64.wrap ((j : Int) + 1) = (J : Int) := by rw [IntKind.wrap_i64]; omega
        have j2 : J ≤ r.length := by omega
        have j3 : J ≤ c := by omega
        have HJ := Lib.hid hJ
        obtain ⟨A, hA, hAr⟩ : ∃ A, (if c = J then (some ⟨b0, o0, none⟩ : Option Addr) else some ⟨b0, o0 + J, none⟩) = some A ∧ ∀ W, VOwn W 3 1 B (some ⟨b0, o0, none⟩) c (r.map iv) → VRd W (some A) ((r.drop J).map iv) := by
          by_cases hcj : c = J
          · refine ⟨_, if_pos hcj, fun W hW => ?_⟩
            have := hW.cap
            rw [List.length_map, Nat.mul_one] at this
            rw [List.drop_of_length_le (by omega)]
            exact VRd.nil _ _
          · refine ⟨_, if_neg hcj, fun W hW => ?_⟩
            have := hW.rd.drop J
            rw [← List.map_drop] at this
            exact this
        obtain ⟨W1, hW1⟩ : ∃ W, W = wc.alloc (.cells #[] 3) := ⟨_, rfl⟩
        have O1 : Hid (Or w W1 B g1 g2 g3 W0 L R (some ⟨b0, o0, none⟩) c r) := by rw [hW1]; exact HH.out.2.2.2.2.below HN.out ((Below.refl _ _).alloc (Nat.le_refl _) _)
        have hsz := HH.out.2.2.2.2.siz
        have Hs0 : Hid (B ≤ wc.heap.size) := hsz
        have hb0 : b0 < wc.heap.size := HH.out.2.2.2.2.own.lt _ rfl
        have N1 : Hid (VOwn W1.drew 3 1 B (some ⟨wc.heap.size, 0, none⟩) 0 []) := by
          rw [hW1]
          exact (VOwn.of (n := 0) (vblk_alloc wc 3 #[]) hsz (by simp)).drew
        have HW1 := Lib.hid hW1; have HAr := Lib.hid hAr
        have Hb0 := Lib.hid hb0
        have Hs1 : Hid (B ≤ W1.heap.size) := O1.out.siz
        clear hJ hi hH hW1 hAr hsz hb0
        go_upto_region 21 with fail
        obtain ⟨r', hr'⟩ : ∃ l, l = r.take j ++ r.drop (j + 1) := ⟨_, rfl⟩
        have hrl : r'.length + 1 = r.length := by rw [hr']; simp; omega
        have hrm : ∀ j ∈ r', j < n := by
          intro k hk
          rw [hr'] at hk
          rcases List.mem_append.1 hk with hk | hk
          · exact HH.out.2.1 k (List.mem_of_mem_take hk)
          · exact HH.out.2.1 k (List.mem_of_mem_drop hk)
        have hrs : sumR P r = (P i).sum (sumR P r') := by rw [hr']; exact sumR_pick P HI2.out
        have HRM := Lib.hid (And.intro hrm hrs)
        have HR' := Lib.hid hr'
        clear hr' hrm hrs
        go_cut [14] (fun s wx => ∃ a' c', s = .slice a' r'.length c' ∧ Or w wx B g1 g2 g3 W0 L R a' c' r')
        case first =>
          go_region_law (first
            | (rw [← HW1.out]; refine step_append_vals rfl (.tmp 83) (.tmp 86) 52 52 rfl 3 3 i0 (.int .i64 0) 1 Tryd.underlying52 Tryd.underlying52 HI.out.1 HI.out.2.1 HI.out.2.2.1 rfl (by decide) HI.out.2.2.2 B (some ⟨wc.heap.size, 0, none⟩) (some ⟨b0, o0, none⟩) 0 0 j c [] ((r.take j).map iv) (by simp [Act.eval, Act.put]) (by simp [Act.eval, Act.put]) rfl (by simp; omega) (iv_one _) N1.out (by have := O1.out.own.rd.take j; rw [← List.map_take] at this; exact this) (by omega) Hs1.out ?_; intro a5 c5 w5 ho5 hg5 hn5)
            | (refine step_append_vals rfl (.tmp 87) (.tmp 91) 52 52 rfl 3 3 i0 (.int .i64 0) 1 Tryd.underlying52 Tryd.underlying52 HI.out.1 HI.out.2.1 HI.out.2.2.1 rfl (by decide) HI.out.2.2.2 B a5 (some A) j c5 (r.length - J) (c - J) ((r.take j).map iv) ((r.drop J).map iv) (by simp [Act.eval, Act.put]) (by simp [Act.eval, Act.put]) (by simp; omega) (by simp) (iv_one _) ho5 (HAr.out w5 ((O1.out.own.drew).grownO hg5 (by intro ad had; cases had; simp; have := Hb0.out; omega))) (by omega) (by have := Hs1.out; have := hg5.size; simp at this; omega) ?_; intro a6 c6 w6 ho6 hg6 hn6))
          all_goals (
            go_wp2_with fail
            go_meet
            case rel =>
              refine ⟨a6, c6, ?_, ?_⟩
              · have := HJ.out; congr 1; omega
              · refine ((O1.out.drew 1).app HN.out (a' := a5) (c' := c5) (r' := r.take j) (b := some wc.heap.size) ho5 hg5 (by intro g hg; cases hg; exact Hs0.out)).app HN.out (b := a5.map (·.block)) ?_ hg6 ho5.row
                rw [HR'.out, List.map_append, ← HJ.out]; exact ho6)
        obtain ⟨a', c', rfl, hU⟩ := hcut
        have HU6 := Lib.hid hU
        clear hU O1 N1 HW1 HAr Hb0 Hs1 hA j1 j2 j3 e1 hcr hcap Hs0
        have hix : i < xs.length := by omega
        have hiy : i < ys.length := by omega
        have e1 := HP.out i
        have hbx := HXf.out i
        have hby := HYf.out i
        obtain ⟨bx, ox, rfl, hcx⟩ := (HX.out wc HU6.out.bel).at hix
        obtain ⟨by', oy, rfl, hcy⟩ := (HY.out wc HU6.out.bel).at hiy
        have HCx := Lib.hid (fun W (hw : Below w.heap.size w W) => (HX.out W hw).cells hix)
        have HCy := Lib.hid (fun W (hw : Below w.heap.size w W) => (HY.out W hw).cells hiy)
        obtain ⟨x, hx⟩ : ∃ x, x = xs.getD i 0 := ⟨_, rfl⟩
        obtain ⟨y, hy⟩ : ∃ y, y = ys.getD i 0 := ⟨_, rfl⟩
        rw [← hx] at hcx hbx HCx e1
        rw [← hy] at hcy hby HCy e1
        obtain ⟨hW, _, hL, hR, _⟩ := HH.out
        have hL2 := fit_add hL (TP.out i) (by omega)
        have hR2 := fit_add hR (TP.out i) (by omega)
        have hS1 : ((L.sum (P i)).sum R).sum (sumR P r') = W0 := by rw [sum_left, ← HRM.out.2]; exact hW
        have hS2 : (L.sum (R.sum (P i))).sum (sumR P r') = W0 := by rw [sum_right, ← HRM.out.2]; exact hW
        have HPl := Lib.hid (fun W (h : AccAt W g2 L) => addp_few y x g2 W hL (by omega) hby hbx h)
        have HPr := Lib.hid (fun W (h : AccAt W g3 R) => addp_few x y g3 W hR (by omega) hbx hby h)
        rw [prT_comm, ← e1] at HPl
        rw [← e1] at HPr
        have HF1 := Lib.hid (And.intro hL hL2); have HF2 := Lib.hid (And.intro hR hR2)
        have HS1 := Lib.hid hS1; have HS2 := Lib.hid hS2
        have HPk := Lib.hid (fun W => pick_any cut (n + 1) W hc1 hc2 (by omega) (by omega))
        rw [show (((n + 1 : Nat) : Int)) = (n : Int) + 1 from by omega] at HPk
        clear hx hy e1 hW hL hR hL2 hR2 hS1 hS2 HH hcx hcy
        go_wp2_with fail
        refine (HPk.out wc).mono ?_; rintro en w8 ⟨s, hs, rfl, rfl⟩
        by_cases hms : m < s
        · go_upto_region 23 with fail
          have hcx := HCx.out wc HU6.out.bel
          have hcy := HCy.out wc HU6.out.bel
          go_region_held3 (fun W => W.cell? ⟨bx, ox + i, none⟩ = some (.float .f64 x) ∧ W.cell? ⟨by', oy + i, none⟩ = some (.float .f64 y)) (go_keep) (first
            | (go_at_call 30; refine (HPl.out wc.drew (HU6.out.drew 1).a2).mono ?_; rintro en w9 ⟨rfl, hA, hG⟩; have HU9 := Lib.hid ((HU6.out.drew 1).set2 HN.out hA hG); have hcx9 := HCx.out w9 HU9.out.bel; have hcy9 := HCy.out w9 HU9.out.bel; clear hA hG))
          go_wp2_with fail
          go_roundw
          case rel => exact ⟨m + 1, p + 1, q, r', _, _, a', c', by omega, by go_num, rfl, by omega, HS1.out, HRM.out.1, HF1.out.2, HF2.out.1, HU9.out⟩
          case measure => simp [intOf]; omega
        · go_upto_region 24 with fail
          have hcx := HCx.out wc HU6.out.bel
          have hcy := HCy.out wc HU6.out.bel
          go_region_held3 (fun W => W.cell? ⟨bx, ox + i, none⟩ = some (.float .f64 x) ∧ W.cell? ⟨by', oy + i, none⟩ = some (.float .f64 y)) (go_keep) (first
            | (go_at_call 30; refine (HPr.out wc.drew (HU6.out.drew 1).a3).mono ?_; rintro en w9 ⟨rfl, hA, hG⟩; have HU9 := Lib.hid ((HU6.out.drew 1).set3 HN.out hA hG); have hcx9 := HCx.out w9 HU9.out.bel; have hcy9 := HCy.out w9 HU9.out.bel; clear hA hG))
          go_wp2_with fail
          go_roundw
          case rel => exact ⟨m + 1, p, q + 1, r', _, _, a', c', by omega, by go_num, rfl, by omega, HS2.out, HRM.out.1, HF1.out.1, HF2.out.2, HU9.out⟩
          case measure => simp [intOf]; omega
      · obtain rfl : r = [] := List.eq_nil_of_length_eq_zero (by omega)
        obtain ⟨hW, _, hL, hR, hU⟩ := hH.out
        have hmn : m = n := by simpa using hm
        rw [sumR, Ac.sum_zero, Ac.sum_comm] at hW
        have hok := HF0.out.ok
        rw [← hW] at hok
        have hMr := fun W (h1 : AccAt W g3 R) (h2 : AccAt W g2 L) => accmerge_any R L g3 g2 W hR.ok hL.ok h1 h2
        rw [fit_sum hR hL hok, hW] at hMr
        have HMr := Lib.hid hMr
        have HU := Lib.hid hU
        rw [hW] at hok
        obtain ⟨d, hd⟩ := exO_some hok.v
        have hE : ∀ W k, AccAt W k W0 → Below w.heap.size w W → Calls Tryd.prog 15 #[.pointer (some ⟨k, 0, none⟩)] W fun en w' => ∃ a c, en = .returned (dyV d a c) ∧ (argOf d a c).Ok w' ∧ Below W.heap.size W w' := by
          intro W k hW hb
          refine (exact_any W0 k W hW hok.v (HT.out.grow hb)).mono ?_
          rintro en w' ⟨v, rfl, ⟨a, c, rfl, ho⟩, hbb⟩
          rw [hd] at ho ⊢
          exact ⟨a, c, rfl, ho.arg (exO_both hd).2, hbb⟩
        have HE := Lib.hid hE
        have hSp : ∀ W k, AccAt W k W0 → Calls Tryd.prog 16 #[.pointer (some ⟨k, 0, none⟩)] W fun en w' => en = .returned (spcV W0) ∧ Below W.heap.size W w' := by
          intro W k hW
          exact specials_any W0 k W hW
        have hEq := eql_spc W0
        unfold spcV at hSp hEq
        have HSp := Lib.hid hSp
        have hRd : ∀ W k, AccAt W k W0 → Below w.heap.size w W → Calls Tryd.prog 33 #[.pointer (some ⟨k, 0, none⟩), .int .i64 0, .agg #[.int .i64 0, .int .i64 0]] W (RoundQ W0 0 0 0 W) := fun W k hW hb => accround_any W0 0 0 0 k W hok hW (HT.out.grow hb) (by decide) (by decide) (by decide) (by decide) (by decide) (by decide)
        have HRd := Lib.hid hRd
        clear hMr hU hW hL hR hE hSp hRd hd hok hH hr hm
        go_wp2_with fail
        refine (HMr.out wr HU.out.a3 HU.out.a2).mono ?_; rintro en w5 ⟨rfl, hA, hG⟩
        have HU5 := Lib.hid (HU.out.set3 HN.out hA hG)
        clear hA hG HU HMr
        go_wp2_with fail
        refine (HE.out w5 g1 HU5.out.a1 HU5.out.bel).mono ?_; rintro en w6 ⟨ra, rc, rfl, hA1, hb⟩
        have HU6 := Lib.hid (HU5.out.below HN.out hb)
        have HA1 := Lib.hid hA1
        clear hb hA1
        go_wp2_with fail
        refine (HE.out w6 g3 HU6.out.a3 HU6.out.bel).mono ?_; rintro en w7 ⟨ra', rc', rfl, hA2, hb⟩
        have HU7 := Lib.hid (HU6.out.below HN.out hb)
        have HS := Lib.hid (same_any (argOf d ra rc) (argOf d ra' rc') w7 (HA1.out.grow hb) hA2 ⟨rfl, rfl, rfl⟩)
        clear hb hA2
        go_wp2_with fail
        refine HS.out.mono ?_; rintro en w8 ⟨rfl, hb⟩
        have HU8 := Lib.hid (HU7.out.below HN.out hb)
        clear hb
        go_wp2_with fail
        refine (HRd.out w8 g1 HU8.out.a1 HU8.out.bel).mono ?_; rintro en w9 ⟨x, ex, rfl, hRx, hb⟩
        have HU9 := Lib.hid (HU8.out.below HN.out hb)
        have HRx := Lib.hid hRx
        clear hb hRx
        go_wp2_with fail
        refine (HRd.out w9 g3 HU9.out.a3 HU9.out.bel).mono ?_; rintro en w10 ⟨y, ey, rfl, hRy, hb⟩
        obtain ⟨rfl, rfl⟩ := HRx.out.uniq hRy
        have HU10 := Lib.hid (HU9.out.below HN.out hb)
        clear hb hRy
        go_wp2_with fail
        refine (HSp.out w10 g1 HU10.out.a1).mono ?_; rintro en w11 ⟨rfl, hb⟩
        have HU11 := Lib.hid (HU10.out.below HN.out hb)
        clear hb
        go_wp2_with fail
        refine (HSp.out w11 g3 HU11.out.a3).mono ?_; rintro en w12 ⟨rfl, hb⟩
        have HU12 := Lib.hid (HU11.out.below HN.out hb)
        clear hb
        go_wp2_with fail
        refine (exact_law x x w12).mono ?_; rintro en w13 ⟨rfl, rfl⟩
        go_wp2_with fail
        go_ret
        exact ⟨by simp, HU12.out.bel⟩
end Go.Proofs.YthdbapibbdkclaaDoor
