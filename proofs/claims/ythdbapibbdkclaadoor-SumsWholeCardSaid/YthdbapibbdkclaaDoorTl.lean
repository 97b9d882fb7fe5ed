/- The walk of steelyardlaw10.SumsWhole: true of all lists and sizes, in every world whose table of math/bits is laid. -/
import Derived.Test.YthdbapibbdkclaaDoorProg
import Derived.Test.YthdbapibbdkclaaDoorFj
import Derived.Test.YthdbapibbdkclaaDoorTk
import Derived.Test.YthdbapibbdkclaaDoorTi
namespace Go.Proofs.YthdbapibbdkclaaDoor
open Go.RowKit
set_option linter.unusedVariables false
set_option linter.unusedSimpArgs false

theorem run_convI (n : Int) (W : World) : (convert 3 36 (.int .i64 n)).run Tryd.prog W = .ok (.float .f64 (fI n)) W := by
  have h1 := run_underlying (P := Tryd.prog) Tryd.underlying3 W
  have h2 := run_underlying (P := Tryd.prog) Tryd.underlying36 W
  simp [convert, h1, h2, Conv.intToFloat]
  rfl
def rem36 (z : Int) : Int := z.tmod 68719476736
theorem rem36_abs (z : Int) : (rem36 z).natAbs < 68719476736 := by
  unfold rem36
  have := Int.natAbs_tmod z 68719476736
  rw [this]
  exact Nat.mod_lt _ (by decide)
theorem absI_rem (l : List Int) : absI (l.map rem36) ≤ l.length * 68719476736 := by
  induction l with
  | nil => simp [absI]
  | cons x l ih =>
    rw [List.map_cons, absI_cons, List.length_cons, Nat.succ_mul]
    have := rem36_abs x
    omega
theorem VOwn.fsl {w : World} {e : TypeId} {base c : Nat} {a : Option Addr} {l : List Nat} (h : VOwn w e 1 base a c (l.map fv)) (hw : W64L l) : FSl w a c l :=
  ⟨fun i x hx => h.rd i (fv x) (by rw [List.getElem?_map, hx]; rfl), hw, by have := h.cap; simpa using this, h.nocap⟩
theorem fI_w64 {l : List Int} (h : absI l < 9007199254740992) : W64L (l.map fI) := by
  intro x hx
  obtain ⟨n, hn, rfl⟩ := List.mem_map.1 hx
  refine (fI_is ?_).lt
  induction l with
  | nil => cases hn
  | cons y l ih =>
    rw [absI_cons] at h
    rcases List.mem_cons.1 hn with rfl | hn
    · omega
    · exact ih (by omega) hn (List.mem_map.2 ⟨n, hn, rfl⟩)
theorem fv_one (l : List Nat) : ∀ u ∈ l.map fv, u.oneCell' = true := fun u hu => by
  obtain ⟨x, _, rfl⟩ := List.mem_map.1 hu; rfl

set_option maxRecDepth 10000 in
set_option maxHeartbeats 8000000 in
theorem sumswhole_any (a1 : Option Addr) (c1 : Nat) (l : List Int) (size : Int) (w : World) (hT : Tab w)
    (hl : VRd w a1 (l.map fun n => .int .i64 n)) (hlb : ∀ n ∈ l, -9223372036854775808 ≤ n ∧ n ≤ 9223372036854775807) :
    Calls Tryd.prog 8 #[.slice a1 l.length c1, .int .i64 size] w fun en w' => en = .returned (.bool true) ∧ Below w.heap.size w w' := by
  have H1 := Lib.hid (live10_any w hT)
  have HL := Lib.hid (fun W (hw : Below w.heap.size w W) => hl.grow hw)
  have HLb := Lib.hid hlb
  have HT := Lib.hid hT
  obtain ⟨i0, hi0, hz0, hs0, hb0⟩ := info_f64
  have HI := Lib.hid (And.intro hi0 (And.intro hz0 (And.intro hs0 hb0)))
  clear hl hT hlb hi0 hz0 hs0 hb0
  go_enter Tryd.func8, Tryd.ntmps8
  go_wp2_with fail
  refine H1.out.mono ?_; rintro en w1 ⟨rfl, hb⟩
  have HB1 := Lib.hid hb
  clear hb
  go_wp2_with fail
  go_loopw [6, 7, 8, 9] (fun want xx i nn wr => ∃ (k : Nat) (S : Int) (a : Option Addr) (c : Nat), k ≤ l.length ∧ k ≤ 65536 ∧ i = .int .i64 k ∧ want = .int .i64 S ∧ xx = .slice a k c ∧ Hid (S = sumI ((l.take k).map rem36) ∧ VOwn wr 36 1 w.heap.size a c ((((l.take k).map rem36).map fI).map fv) ∧ Below w.heap.size w wr)) (fun _ _ i _ _ => 65536 - (intOf i).toNat)
  case atStart => exact ⟨0, 0, none, 0, Nat.zero_le _, Nat.zero_le _, rfl, rfl, rfl, rfl, VOwn.none _ _ _ _, HB1.out⟩
  case round =>
    obtain ⟨k, S, a, c, hk1, hk2, rfl, rfl, rfl, hH⟩ := hrel
    obtain ⟨q, hc⟩ : ∃ c, c = decide (k < l.length ∧ k < 65536) := ⟨_, rfl⟩
    go_upto_region 5 with fail
    go_cut [23] from 16 to 23 (fun cc wx => cc = .bool q ∧ wx = wr)
    case first =>
      by_cases q1 : k < l.length
      · by_cases q2 : k < 65536
        · have hc' : q = true := by rw [hc]; exact decide_eq_true ⟨q1, q2⟩
          clear hc
          go_wp2_with fail
          go_meet
          case rel => exact ⟨by subst hc'; simp <;> omega, rfl⟩
        · have hc' : q = false := by rw [hc]; exact decide_eq_false (fun h => q2 h.2)
          clear hc
          go_wp2_with fail
          go_meet
          case rel => exact ⟨by subst hc'; simp <;> omega, rfl⟩
      · have hc' : q = false := by rw [hc]; exact decide_eq_false (fun h => q1 h.1)
        clear hc
        go_wp2_with fail
        go_meet
        case rel => exact ⟨by subst hc'; simp <;> omega, rfl⟩
    obtain ⟨rfl, rfl⟩ := hcut
    by_cases hq : k < l.length ∧ k < 65536
    · obtain rfl : q = true := by rw [hc]; exact decide_eq_true hq
      clear hc
      obtain ⟨q1, q2⟩ := hq
      obtain ⟨hS, hO, hBw⟩ := hH.out
      obtain ⟨z, hz⟩ : ∃ z, l[k]? = some z := ⟨l[k], List.getElem?_eq_getElem q1⟩
      obtain ⟨zb, zo, rfl, hzc⟩ := HL.out wc hBw k (.int .i64 z) (by rw [List.getElem?_map, hz]; rfl)
      obtain ⟨y, hy⟩ : ∃ y, y = rem36 z := ⟨_, rfl⟩
      have hyb := rem36_abs z
      rw [← hy] at hyb
      have hy1 : -68719476736 < y := by omega
      have hy2 : y < 68719476736 := by omega
      have hm : (l.take (k + 1)).map rem36 = (l.take k).map rem36 ++ [y] := by rw [take_succ_get hz, List.map_append, hy]; rfl
      have hab := absI_rem (l.take k)
      have hsa := sumI_abs ((l.take k).map rem36)
      rw [List.length_take, Nat.min_eq_left hk1] at hab
      have hsb : S.natAbs ≤ 65536 * 68719476736 := by rw [hS]; omega
      have hS1 : -4503599627370496 ≤ S := by omega
      have hS2 : S ≤ 4503599627370496 := by omega
      have hnext : S + y = sumI ((l.take (k + 1)).map rem36) := by rw [hm, sumI_append, ← hS]; simp [sumI]
      have hy' : z.tmod 68719476736 = y := by rw [hy]; rfl
      have hcv := run_convI y
      have HM := Lib.hid (And.intro hm hnext)
      have HO := Lib.hid hO; have HBw := Lib.hid hBw
      have HLen : Hid (((((l.take k).map rem36).map fI).map fv).length = k * 1) := by simp [Hid]; omega
      have HBk := Lib.hid (vblk_alloc wc 36 #[.float .f64 (fI y)])
      clear hS hO hBw hz hy hyb hm hab hsa hsb hnext hH
      go_wp2_with (first | (at_builtin; refine wpList_append_vals rfl _ _ 33 33 rfl 36 36 i0 (.float .f64 0) 1 Tryd.underlying33 Tryd.underlying33 HI.out.1 HI.out.2.1 HI.out.2.2.1 rfl (by decide) (by have := HI.out.2.2.2; omega) w.heap.size a (some ⟨wc.heap.size, 0, none⟩) k c 1 1 ((((l.take k).map rem36).map fI).map fv) [fv (fI y)] rfl rfl HLen.out rfl (fv_one [fI y]) (HO.out.grow ((Below.refl _ _).alloc (Nat.le_refl _) _)) HBk.out.rd (by omega) (by have := HBw.out.size; rw [World.size_alloc]; omega) ?_; intro a5 c5 w5 ho5 hg5 hn5))
      have HB5 : Hid (Below w.heap.size w w5) := Rgrown (HBw.out.trans (((Below.refl _ _).alloc (Nat.le_refl _) _).mono HBw.out.size)) (Nat.le_refl _) hg5 HO.out.row
      have HO5 : Hid (VOwn w5 36 1 w.heap.size a5 c5 ((((l.take (k + 1)).map rem36).map fI).map fv)) := by
        rw [HM.out.1, List.map_append, List.map_append]; exact ho5
      clear ho5 hg5 hn5 HBk HLen
      go_roundw
      case rel => exact ⟨k + 1, S + y, a5, c5, by omega, by omega, by go_num, rfl, rfl, HM.out.2, HO5.out, HB5.out⟩
      case measure => simp [intOf]; omega
    · obtain rfl : q = false := by rw [hc]; exact decide_eq_false hq
      clear hc
      obtain ⟨hS, hO, hBw⟩ := hH.out
      have hab := absI_rem (l.take k)
      rw [List.length_take, Nat.min_eq_left hk1] at hab
      obtain ⟨m, hm⟩ : ∃ m, m = (l.take k).map rem36 := ⟨_, rfl⟩
      rw [← hm] at hS hO hab
      have hml : m.length = k := by rw [hm]; simp; omega
      have hA : absI m < 9007199254740992 := by omega
      have hF : FSl wc a c (m.map fI) := hO.fsl (fI_w64 hA)
      have hmf : (m.map fI).length = k := by rw [List.length_map, hml]
      have hE := fun W (hw : Below wc.heap.size wc W) => sexact_any a c (m.map fI) 1 0 0 W (hF.grow hw) (HT.out.grow (hBw.trans (hw.mono hBw.size)))
      have hBl := fun W (hw : Below wc.heap.size wc W) => blocked_any a c (m.map fI) size W (hF.grow hw)
      have hR := fun W (hw : Below wc.heap.size wc W) => running_any a c (m.map fI) W (hF.grow hw) (by omega)
      have hHv := fun W (hw : Below wc.heap.size wc W) => halving_any a c (m.map fI) W (hF.grow hw) (by omega)
      have hK := fun W (hw : Below wc.heap.size wc W) => kahan_any a c (m.map fI) W (hF.grow hw) (by omega)
      have hN := fun W (hw : Below wc.heap.size wc W) => neumaier_any a c (m.map fI) W (hF.grow hw) (by omega)
      rw [hmf] at hE hBl hR hHv hK hN
      rw [runC_I hA, ← hS] at hR
      rw [kahC_I hA, ← hS] at hK
      rw [neuC_I hA, ← hS] at hN
      have hi := fI_is (n := S) (by have := sumI_abs m; omega)
      have HXr : Hid (∀ r er, ExR (m.map fI) 1 0 0 r er → er = 0 ∧ ∀ W, (binOp .neq 36 (.float .f64 r) (.float .f64 (fI S))).run Tryd.prog W = .ok (.bool false) W) := by
        intro r er h
        obtain ⟨x1, x2, x3, x4⟩ := exr_I hA (by omega) h
        exact ⟨x1, fun W => run_neq64 W x2 hi.lt x3 (Nat.le_of_lt hi.fin) (by rw [x4, hS])⟩
      have HBr : Hid (∀ r er, BlR (m.map fI) size r er → ((1 ≤ size ∧ size ≤ 65536) ∧ er = 0 ∧ r = fI S) ∨ (¬ (1 ≤ size ∧ size ≤ 65536) ∧ er = 1)) := by
        intro r er h
        rw [hS]; exact blr_I hA (by omega) h
      have HHr : Hid (∀ v, Hal (m.map fI) v → v = fI S) := fun v h => by rw [hS]; exact hal_I h rfl hA
      have eq1 : ∀ W, (binOp .eql 36 (.float .f64 (fI S)) (.float .f64 (fI S))).run Tryd.prog W = .ok (.bool true) W := fun W => run_eql64 W hi.lt hi.lt (Nat.le_of_lt hi.fin) (Nat.le_of_lt hi.fin) rfl
      have eq2 : ∀ W, (binOp .neq 36 (.float .f64 (fI S)) (.float .f64 (fI S))).run Tryd.prog W = .ok (.bool false) W := fun W => run_neq64 W hi.lt hi.lt (Nat.le_of_lt hi.fin) (Nat.le_of_lt hi.fin) rfl
      have hcv := run_convI S
      have HBw := Lib.hid hBw
      have HE := Lib.hid hE; have HBl := Lib.hid hBl; have HR := Lib.hid hR; have HHv := Lib.hid hHv; have HK := Lib.hid hK; have HNm := Lib.hid hN
      unfold pol at HE
      clear hS hO hab hm hml hA hF hmf hE hBl hR hHv hK hN hi hH hq hBw
      generalize fI S = v at *
      go_wp2_with fail
      refine (HE.out wc (Below.refl _ _)).mono ?_; rintro en w2 ⟨r, er, rfl, hRr, hb⟩
      obtain ⟨rfl, hne⟩ := HXr.out r er hRr
      have HB2 : Hid (Below wc.heap.size wc w2) := hb
      clear hb hRr
      go_wp2_with fail
      refine (HBl.out w2 HB2.out).mono ?_; rintro en w3 ⟨rb, eb, rfl, hRb, hb⟩
      have HB3 : Hid (Below wc.heap.size wc w3) := HB2.out.trans (hb.mono HB2.out.size)
      have hcase := HBr.out rb eb hRb
      clear hb hRb
      rcases hcase with ⟨⟨s1, s2⟩, rfl, rfl⟩ | ⟨s1, rfl⟩
      · go_wp2_with fail
        refine (HR.out w3 HB3.out).mono ?_; rintro en w4 ⟨rfl, hb⟩
        have HB4 : Hid (Below wc.heap.size wc w4) := HB3.out.trans (hb.mono HB3.out.size)
        clear hb
        go_wp2_with fail
        refine (HHv.out w4 HB4.out).mono ?_; rintro en w5 ⟨u, rfl, hu, hb⟩
        obtain rfl := HHr.out u hu
        have HB5 : Hid (Below wc.heap.size wc w5) := HB4.out.trans (hb.mono HB4.out.size)
        clear hb hu
        go_wp2_with fail
        refine (HK.out w5 HB5.out).mono ?_; rintro en w6 ⟨rfl, hb⟩
        have HB6 : Hid (Below wc.heap.size wc w6) := HB5.out.trans (hb.mono HB5.out.size)
        clear hb
        go_wp2_with fail
        refine (HNm.out w6 HB6.out).mono ?_; rintro en w7 ⟨rfl, hb⟩
        have HB7 : Hid (Below wc.heap.size wc w7) := HB6.out.trans (hb.mono HB6.out.size)
        clear hb
        go_wp2_with fail
        go_ret
        exact ⟨rfl, HBw.out.trans (HB7.out.mono HBw.out.size)⟩
      · by_cases s3 : 1 ≤ size
        · have s4 : ¬ size ≤ 65536 := fun h => s1 ⟨s3, h⟩
          clear s1
          go_wp2_with fail
          refine (HR.out w3 HB3.out).mono ?_; rintro en w4 ⟨rfl, hb⟩
          have HB4 : Hid (Below wc.heap.size wc w4) := HB3.out.trans (hb.mono HB3.out.size)
          clear hb
          go_wp2_with fail
          refine (HHv.out w4 HB4.out).mono ?_; rintro en w5 ⟨u, rfl, hu, hb⟩
          obtain rfl := HHr.out u hu
          have HB5 : Hid (Below wc.heap.size wc w5) := HB4.out.trans (hb.mono HB4.out.size)
          clear hb hu
          go_wp2_with fail
          refine (HK.out w5 HB5.out).mono ?_; rintro en w6 ⟨rfl, hb⟩
          have HB6 : Hid (Below wc.heap.size wc w6) := HB5.out.trans (hb.mono HB5.out.size)
          clear hb
          go_wp2_with fail
          refine (HNm.out w6 HB6.out).mono ?_; rintro en w7 ⟨rfl, hb⟩
          have HB7 : Hid (Below wc.heap.size wc w7) := HB6.out.trans (hb.mono HB6.out.size)
          clear hb
          go_wp2_with fail
          go_ret
          exact ⟨rfl, HBw.out.trans (HB7.out.mono HBw.out.size)⟩
        · clear s1
          go_wp2_with fail
          refine (HR.out w3 HB3.out).mono ?_; rintro en w4 ⟨rfl, hb⟩
          have HB4 : Hid (Below wc.heap.size wc w4) := HB3.out.trans (hb.mono HB3.out.size)
          clear hb
          go_wp2_with fail
          refine (HHv.out w4 HB4.out).mono ?_; rintro en w5 ⟨u, rfl, hu, hb⟩
          obtain rfl := HHr.out u hu
          have HB5 : Hid (Below wc.heap.size wc w5) := HB4.out.trans (hb.mono HB4.out.size)
          clear hb hu
          go_wp2_with fail
          refine (HK.out w5 HB5.out).mono ?_; rintro en w6 ⟨rfl, hb⟩
          have HB6 : Hid (Below wc.heap.size wc w6) := HB5.out.trans (hb.mono HB5.out.size)
          clear hb
          go_wp2_with fail
          refine (HNm.out w6 HB6.out).mono ?_; rintro en w7 ⟨rfl, hb⟩
          have HB7 : Hid (Below wc.heap.size wc w7) := HB6.out.trans (hb.mono HB6.out.size)
          clear hb
          go_wp2_with fail
          go_ret
          exact ⟨rfl, HBw.out.trans (HB7.out.mono HBw.out.size)⟩
end Go.Proofs.YthdbapibbdkclaaDoor
