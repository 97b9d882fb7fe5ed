/- Contracts of steelyardlaw10.pick, turned: a list in another order. No statement of the seat is proved here. -/
import Derived.Test.YthdbapibbdkclaaDoorProg
import Derived.Test.YthdbapibbdkclaaDoorHh
import Derived.Deep.DeepCutAuto
namespace Go.Proofs.YthdbapibbdkclaaDoor
open Go.RowKit
set_option maxRecDepth 10000
set_option linter.unusedVariables false
set_option linter.unusedSimpArgs false

theorem fvs_one (l : List Nat) : ∀ u ∈ l.map fv, u.oneCell' = true := fun u hu => by
  obtain ⟨x, _, rfl⟩ := List.mem_map.1 hu
  rfl
theorem frd_vals {w : World} {a : Option Addr} {l : List Nat} (h : FRd w a l) : VRd w a (l.map fv) := fun i v hv => by
  rw [List.getElem?_map] at hv
  obtain ⟨x, hx, rfl⟩ := Option.map_eq_some_iff.1 hv
  exact h i x hx
theorem vals_frd {w : World} {a : Option Addr} {l : List Nat} (h : VRd w a (l.map fv)) : FRd w a l := fun i x hx => h i (fv x) (by rw [List.getElem?_map, hx]; rfl)
theorem vown_fsl {w : World} {e : TypeId} {base c : Nat} {a : Option Addr} {l : List Nat} (h : VOwn w e 1 base a c (l.map fv)) (hw : W64L l) : FSl w a c l :=
  ⟨vals_frd h.rd, hw, by have := h.cap; simpa using this, h.nocap⟩
theorem info_fl64 : ∃ i, Tryd.prog.info? 36 = some i ∧ i.zero = some (.float .f64 0) ∧ i.size = 1 ∧ i.bytes ≤ 64 := by
  obtain ⟨i0, hi0, hz0, hs0, hb0⟩ := info_f64
  exact ⟨i0, hi0, hz0, hs0, by omega⟩
set_option maxHeartbeats 2000000 in
theorem pick10_any (c : Int) (n : Nat) (w : World) (h1 : -9223372036854775808 ≤ c) (h2 : c ≤ 9223372036854775807) (hn : 0 < n) (hn2 : n ≤ 1099511627776) :
    Calls Tryd.prog 105 #[.int .i64 c, .int .i64 (n : Int)] w (PickR n w) := by
  by_cases hc : c < 0
  · obtain ⟨k, hk⟩ : ∃ k : Nat, -(c + 1) = (k : Int) := ⟨(-(c + 1)).toNat, by omega⟩
    have hl := Nat.mod_lt k hn
    have HL := Lib.hid hl
    have n0 : n ≠ 0 := by omega
    clear hl
    go_enter Tryd.func105, Tryd.ntmps105
    go_wp2_with fail
    go_ret
    exact ⟨k % n, HL.out, rfl, rfl⟩
  · obtain ⟨k, rfl⟩ : ∃ k : Nat, c = (k : Int) := ⟨c.toNat, by omega⟩
    have hl := Nat.mod_lt k hn
    have HL := Lib.hid hl
    have n0 : n ≠ 0 := by omega
    clear hl
    go_enter Tryd.func105, Tryd.ntmps105
    go_wp2_with fail
    go_ret
    exact ⟨k % n, HL.out, rfl, rfl⟩
/-- while the list is turned: what is left, what came out -/
structure TuS (w W : World) (aR : Option Addr) (cR : Nat) (r : List Nat) (aO : Option Addr) (cO : Nat) (o : List Nat) : Prop where
  rest : VOwn W 36 1 w.heap.size aR cR (r.map fv)
  out : VOwn W 36 1 w.heap.size aO cO (o.map fv)
  ne : ∀ x y, aR = some x → aO = some y → x.block ≠ y.block
  bel : Below w.heap.size w W
theorem TuS.push {w W W1 W5 : World} {aR aO a5 : Option Addr} {cR cO c5 x : Nat} {r o : List Nat} (h : TuS w W aR cR r aO cO o) (hb : Below W.heap.size W W1) (ho : VOwn W5 36 1 w.heap.size a5 c5 (o.map fv ++ [fv x])) (hg : W1.grownBy W5 (aO.map (·.block))) (hn : a5 = aO ∨ (W1.grownBy W5 none ∧ ∃ g, a5 = some ⟨g, 0, none⟩ ∧ W1.heap.size ≤ g)) :
    TuS w W5 aR cR r a5 c5 (o ++ [x]) := by
  refine ⟨(h.rest.grow hb).grownO hg ?_, by rw [List.map_append]; exact ho, ?_, Rgrown (h.bel.trans (hb.mono h.bel.size)) (Nat.le_refl _) hg h.out.row⟩
  · intro ad had he
    cases aO with
    | none => cases he
    | some y =>
      have := h.ne ad y had rfl
      have he' : y.block = ad.block := Option.some.inj he
      exact this he'.symm
  · intro u v hu hv
    rcases hn with rfl | ⟨_, g, rfl, hgl⟩
    · exact h.ne u v hu hv
    · cases hv
      have := h.rest.lt u hu
      have := hb.size
      show u.block ≠ g
      omega
theorem TuS.cut {w W W1 W5 W6 : World} {aR aO a5 a6 : Option Addr} {cR cO c5 c6 : Nat} {r o r' : List Nat} {p q : List Value} (h : TuS w W aR cR r aO cO o) (hb : Below W.heap.size W W1)
    (h5 : VOwn W5 36 1 W.heap.size a5 c5 p) (g5 : W1.grownBy W5 (some W.heap.size)) (h6 : VOwn W6 36 1 W.heap.size a6 c6 q) (g6 : W5.grownBy W6 (a5.map (·.block))) (hq : q = r'.map fv) :
    TuS w W6 a6 c6 r' aO cO o := by
  have hlt : ∀ ad, aO = some ad → ad.block < W.heap.size := fun ad had => h.out.lt ad had
  have e5 : ∀ g, a5.map (·.block) = some g → W.heap.size ≤ g := h5.row
  refine ⟨by rw [← hq]; exact h6.mono h.bel.size, ((h.out.grow hb).grownO g5 ?_).grownO g6 ?_, ?_, Rgrown (Rgrown (h.bel.trans (hb.mono h.bel.size)) (Nat.le_refl _) g5 (by intro g hg; cases hg; exact h.bel.size)) (Nat.le_refl _) g6 (fun g hg => Nat.le_trans h.bel.size (e5 g hg))⟩
  · intro ad had he
    have := hlt ad had
    have he' : W.heap.size = ad.block := Option.some.inj he
    omega
  · intro ad had he
    have := hlt ad had
    have := e5 _ he
    omega
  · intro x y hx hy
    have := h6.ge x hx
    have := hlt y hy
    omega
def TurnQ (l : List Nat) (w : World) (en : Ending) (w' : World) : Prop := ∃ a c t, en = .returned (.slice a t.length c) ∧ List.Perm t l ∧ FSl w' a c t ∧ Below w.heap.size w w'
set_option maxHeartbeats 16000000 in
theorem turned10_any (a a3 : Option Addr) (c c3 : Nat) (l : List Nat) (os : List Int) (w : World) (hl : FSl w a c l) (hlen : l.length ≤ 1000000) (hos : VRd w a3 (os.map fun n => .int .i64 n)) (hob : ∀ n ∈ os, -9223372036854775808 ≤ n ∧ n ≤ 9223372036854775807) :
    Calls Tryd.prog 51 #[.slice a l.length c, .slice a3 os.length c3] w (TurnQ l w) := by
  obtain ⟨i0, hi0, hz0, hs0, hb0⟩ := info_fl64
  have HI := Lib.hid (And.intro hi0 (And.intro hz0 (And.intro hs0 hb0)))
  have HX := Lib.hid (fun W (hw : Below w.heap.size w W) => frd_vals (hl.rd.grow hw))
  have HO := Lib.hid (fun W (hw : Below w.heap.size w W) => hos.grow hw)
  have HOb := Lib.hid hob
  have HWf := Lib.hid hl.wf
  clear hl hos hob hi0 hz0 hs0 hb0
  have N1 : Hid (VOwn (w.alloc (.cells #[] 36)) 36 1 w.heap.size (some ⟨w.heap.size, 0, none⟩) 0 []) := VOwn.of (n := 0) (vblk_alloc w 36 #[]) (Nat.le_refl _) (by simp)
  have HB1 : Hid (Below w.heap.size w (w.alloc (.cells #[] 36))) := (Below.refl _ _).alloc (Nat.le_refl _) _
  go_enter Tryd.func51, Tryd.ntmps51
  go_wp2_with (first | (at_builtin; refine wpList_append_vals rfl _ _ 33 33 rfl 36 36 i0 (.float .f64 0) 1 Tryd.underlying33 Tryd.underlying33 HI.out.1 HI.out.2.1 HI.out.2.2.1 rfl (by decide) HI.out.2.2.2 w.heap.size (some ⟨w.heap.size, 0, none⟩) a 0 0 l.length c [] (l.map fv) rfl rfl rfl (by simp) (fvs_one _) N1.out (HX.out _ HB1.out) (by omega) (by simp) ?_; intro a5 c5 w5 ho5 hg5 hn5))
  have HU : Hid (TuS w w5 a5 c5 l none 0 []) := ⟨by simpa using ho5, VOwn.none _ _ _ _, fun _ _ _ h => (by cases h), Rgrown HB1.out (Nat.le_refl _) hg5 (by intro g hg; cases hg; exact Nat.le_refl _)⟩
  clear ho5 hg5 hn5 N1
  go_loopw [5, 6, 7, 8] (fun rs ou kk at' wr => ∃ (m : Nat) (r o : List Nat) (aR aO : Option Addr) (cR cO : Nat), kk = .int .i64 m ∧ rs = .slice aR r.length cR ∧ ou = .slice aO o.length cO ∧ m + r.length = l.length ∧ Hid (List.Perm (o ++ r) l ∧ o.length = m ∧ TuS w wr aR cR r aO cO o)) (fun _ _ kk _ _ => l.length - (intOf kk).toNat)
  case atStart => exact ⟨0, l, [], a5, none, c5, 0, rfl, rfl, rfl, by simp, List.Perm.refl _, rfl, HU.out⟩
  case round =>
    obtain ⟨m, r, o, aR, aO, cR, cO, rfl, rfl, rfl, hm, hH⟩ := hrel
    by_cases hr : 0 < r.length
    · have hmn : m < l.length := by omega
      go_upto_if 20 with fail
      go_cut [8] (fun at' wx => ∃ j : Nat, at' = .int .i64 j ∧ j < r.length ∧ wx = wr)
      case first =>
        by_cases ho : m < os.length
        · obtain ⟨z, hz⟩ : ∃ z, os[m]? = some z := ⟨os[m], List.getElem?_eq_getElem ho⟩
          obtain ⟨zb, zo, rfl, hzc⟩ := HO.out wr hH.out.2.2.bel m (.int .i64 z) (by rw [List.getElem?_map, hz]; rfl)
          obtain ⟨z1, z2⟩ := HOb.out z (List.mem_of_getElem? hz)
          have HPk := Lib.hid (pick10_any z r.length wr z1 z2 hr (by omega))
          clear hz
          go_wp2_with fail
          refine HPk.out.mono ?_; rintro en w8 ⟨j, hj, rfl, rfl⟩
          go_wp2_with fail
          go_meet
          case rel => exact ⟨j, rfl, hj, rfl⟩
        · go_wp2_with fail
          go_meet
          case rel => exact ⟨0, rfl, hr, rfl⟩
      obtain ⟨j, rfl, hj, rfl⟩ := hcut
      obtain ⟨x, hx⟩ : ∃ x, r[j]? = some x := ⟨r[j], List.getElem?_eq_getElem hj⟩
      obtain ⟨b0, o0, rfl, hcr⟩ := hH.out.2.2.rest.rd j (fv x) (by rw [List.getElem?_map, hx]; rfl)
      have hcap := hH.out.2.2.rest.cap
      rw [List.length_map, Nat.mul_one] at hcap
      unfold fv at hcr
      have HX2 := Lib.hid hx
      have HH := Lib.hid hH.out
      have j1 : j ≤ cR := by omega
      obtain ⟨J, hJ⟩ : ∃ J, J = j + 1 := ⟨_, rfl⟩
      have e1 : IntKind.i64.wrap ((j : Int) + 1) = (J : Int) := by rw [IntKind.wrap_i64]; omega
      have j2 : J ≤ r.length := by omega
      have j3 : J ≤ cR := by omega
      have HJ := Lib.hid hJ
      have hol : o.length ≤ 1000000 := by have := hH.out.2.1; omega
      have hrl0 : r.length ≤ 1000000 := by omega
      obtain ⟨A, hA, hAr⟩ : ∃ A, (if cR = J then (some ⟨b0, o0, none⟩ : Option Addr) else some ⟨b0, o0 + J, none⟩) = some A ∧ ∀ W, VOwn W 36 1 w.heap.size (some ⟨b0, o0, none⟩) cR (r.map fv) → VRd W (some A) ((r.drop J).map fv) := by
        by_cases hcj : cR = J
        · refine ⟨_, if_pos hcj, fun W hW => ?_⟩
          have := hW.cap
          rw [List.length_map, Nat.mul_one] at this
          rw [List.drop_of_length_le (by omega)]
          exact VRd.nil _ _
        · refine ⟨_, if_neg hcj, fun W hW => ?_⟩
          have := hW.rd.drop J
          rw [← List.map_drop] at this
          exact this
      have HAr := Lib.hid hAr
      have HBk := Lib.hid (vblk_alloc wc 36 #[.float .f64 x])
      have HBa : Hid (Below wc.heap.size wc (wc.alloc (.cells #[.float .f64 x] 36))) := (Below.refl _ _).alloc (Nat.le_refl _) _
      clear hJ hx hH hAr
      go_upto_region 10 with (first | (at_builtin; refine wpList_append_vals rfl _ _ 33 33 rfl 36 36 i0 (.float .f64 0) 1 Tryd.underlying33 Tryd.underlying33 HI.out.1 HI.out.2.1 HI.out.2.2.1 rfl (by decide) HI.out.2.2.2 w.heap.size aO (some ⟨wc.heap.size, 0, none⟩) o.length cO 1 1 (o.map fv) [fv x] rfl rfl (by simp) rfl (fvs_one [x]) (HH.out.2.2.out.grow HBa.out) HBk.out.rd (by omega) (by have := HBa.out.size; have := HH.out.2.2.bel.size; omega) ?_; intro a5 c5 w5 ho5 hg5 hn5))
      have HT5 : Hid (TuS w w5 (some ⟨b0, o0, none⟩) cR r a5 c5 (o ++ [x])) := HH.out.2.2.push HBa.out ho5 hg5 hn5
      clear ho5 hg5 hn5 HBk HBa hcr
      obtain ⟨W1, hW1⟩ : ∃ W, W = w5.alloc (.cells #[] 36) := ⟨_, rfl⟩
      have HB5 : Hid (Below w5.heap.size w5 W1.drew) := by rw [hW1]; exact ((Below.refl _ _).alloc (Nat.le_refl _) _).drew
      have N1 : Hid (VOwn W1.drew 36 1 w5.heap.size (some ⟨w5.heap.size, 0, none⟩) 0 []) := by
        rw [hW1]
        exact (VOwn.of (n := 0) (vblk_alloc w5 36 #[]) (Nat.le_refl _) (by simp)).drew
      have HR1 : Hid (VOwn W1.drew 36 1 w.heap.size (some ⟨b0, o0, none⟩) cR (r.map fv)) := HT5.out.rest.grow HB5.out
      have hb0 : b0 < w5.heap.size := HT5.out.rest.lt _ rfl
      have HW1 := Lib.hid hW1
      have Hb0 := Lib.hid hb0
      have hs1 : w5.heap.size ≤ W1.heap.size := HB5.out.size
      clear hW1 hb0
      obtain ⟨r', hr'⟩ : ∃ l, l = r.take j ++ r.drop (j + 1) := ⟨_, rfl⟩
      have hrl : r'.length + 1 = r.length := by rw [hr']; simp; omega
      have hperm : List.Perm (o ++ [x] ++ r') l := by
        refine List.Perm.trans ?_ HH.out.1
        have h1 : r = r.take j ++ x :: r.drop (j + 1) := by
          have hjl := (List.getElem?_eq_some_iff.1 HX2.out).1
          conv => lhs; rw [← List.take_append_drop j r]
          rw [List.drop_eq_getElem_cons hjl, (List.getElem?_eq_some_iff.1 HX2.out).2]
        conv => rhs; rw [h1]
        rw [hr', List.append_assoc]
        refine List.Perm.append_left o ?_
        show List.Perm (x :: (r.take j ++ r.drop (j + 1))) _
        exact List.perm_middle.symm
      have HP' := Lib.hid hperm
      have HR' := Lib.hid hr'
      have HM : Hid ((o ++ [x]).length = m + 1) := by show (o ++ [x]).length = m + 1; rw [List.length_append]; have := HH.out.2.1; simp; omega
      clear hr' hperm
      go_region_law (first
        | (rw [← HW1.out]; refine step_append_vals rfl (.tmp 35) (.tmp 38) 33 33 rfl 36 36 i0 (.float .f64 0) 1 Tryd.underlying33 Tryd.underlying33 HI.out.1 HI.out.2.1 HI.out.2.2.1 rfl (by decide) HI.out.2.2.2 w5.heap.size (some ⟨w5.heap.size, 0, none⟩) (some ⟨b0, o0, none⟩) 0 0 j cR [] ((r.take j).map fv) (by simp [Act.eval, Act.put]) (by simp [Act.eval, Act.put]) rfl (by simp; omega) (fvs_one _) N1.out (by have := HR1.out.rd.take j; rw [← List.map_take] at this; exact this) (by omega) hs1 ?_; intro a6 c6 w6 ho6 hg6 hn6)
        | (refine step_append_vals rfl (.tmp 39) (.tmp 43) 33 33 rfl 36 36 i0 (.float .f64 0) 1 Tryd.underlying33 Tryd.underlying33 HI.out.1 HI.out.2.1 HI.out.2.2.1 rfl (by decide) HI.out.2.2.2 w5.heap.size a6 (some A) j c6 (r.length - J) (cR - J) ((r.take j).map fv) ((r.drop J).map fv) (by simp [Act.eval, Act.put]) (by simp [Act.eval, Act.put]) (by simp; omega) (by simp) (fvs_one _) ho6 (HAr.out w6 (HR1.out.grownO hg6 (by intro ad had he; cases had; have he' := Option.some.inj he; have := Hb0.out; simp at he'; omega))) (by omega) (by have := hg6.size; simp at this; omega) ?_; intro a7 c7 w7 ho7 hg7 hn7))
      all_goals
        have HU6 : Hid (TuS w w7 a7 c7 r' a5 c5 (o ++ [x])) := HT5.out.cut HB5.out ho6 hg6 ho7 hg7 (by rw [HR'.out, List.map_append, ← HJ.out])
        clear ho6 hg6 hn6 ho7 hg7 hn7
        go_wp2_with fail
        go_roundw
        case rel => exact ⟨m + 1, r', o ++ [x], a7, a5, c7, c5, by go_num, by congr 1; have := HJ.out; omega, by congr 1; have := HM.out; have := HH.out.2.1; simp, by omega, HP'.out, HM.out, HU6.out⟩
        case measure => simp [intOf]; omega
    · obtain rfl : r = [] := List.eq_nil_of_length_eq_zero (by omega)
      have HP := Lib.hid hH.out.1
      rw [List.append_nil] at HP
      have HU0 := Lib.hid hH.out.2.2
      have hwl : W64L o := fun y hy => HWf.out y (HP.out.mem_iff.1 hy)
      have HWl := Lib.hid hwl
      clear hH hwl
      go_wp2_with fail
      go_ret
      exact ⟨aO, cO, o, rfl, HP.out, vown_fsl HU0.out.out HWl.out, HU0.out.bel⟩
end Go.Proofs.YthdbapibbdkclaaDoor
