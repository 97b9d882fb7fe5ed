/- Contracts of steelyardlaw09.awake, filled, told. No statement of the seat is proved here. -/
import Derived.Test.YthdbapibbdkclaaDoorProg
import Derived.Test.YthdbapibbdkclaaDoorHs
import Derived.Test.YthdbapibbdkclaaDoorHv
namespace Go.Proofs.YthdbapibbdkclaaDoor
open Go.RowKit
set_option maxRecDepth 10000
set_option linter.unusedVariables false
set_option linter.unusedSimpArgs false

theorem badd_x {A : Bn} {g f b : Nat} {w w' : World} {en : Ending} (hn : A.n < 1099511627776) (h : BAddQ A g f b w en w') : ∃ er : Int, en = .returned (.int .i64 er) ∧ BinAt w' g f (A.sum (bnX b)) ∧ w.grownBy w' (some g) := by
  obtain ⟨h1, h2⟩ := h
  rcases h1 with ⟨h3, _⟩ | ⟨_, h3, rfl, h4⟩ | ⟨_, h3, rfl, h4⟩
  · omega
  · refine ⟨30, rfl, ?_, h2⟩
    unfold badB at h3
    unfold bnX
    rw [if_pos h3, Bn.sum_zero]; exact h4
  · refine ⟨0, rfl, ?_, h2⟩
    unfold badB at h3
    unfold bnX
    rw [if_neg h3]; exact h4
def FillQ (l : List Nat) (f from' s : Nat) (w : World) (en : Ending) (w' : World) : Prop :=
  en = .returned (.pointer (some ⟨w.heap.size, 0, none⟩)) ∧ BinAt w' w.heap.size f (sumB (stepB (fun i => bnX (l.getD i 0)) l.length from' s) l.length) ∧ Below w.heap.size w w'
set_option maxHeartbeats 8000000 in
theorem filled09_any (a : Option Addr) (c f from' s : Nat) (l : List Nat) (w : World) (hl : FSl w a c l) (hlen : l.length ≤ 4000) (f1 : 1 ≤ f) (f2 : f ≤ 8) (hs : 1 ≤ s) (hs2 : s ≤ 64) (hfr : from' ≤ 64) :
    Calls Tryd.prog 19 #[.int .i64 f, .slice a l.length c, .int .i64 from', .int .i64 s] w (FillQ l f from' s w) := by
  have HWf := Lib.hid (w64_getD hl.wf)
  have HL := Lib.hid (fun W (hw : Below w.heap.size w W) => hl.rd.grow hw)
  clear hl
  go_enter Tryd.func19, Tryd.ntmps19
  go_wp2_with fail
  refine (bnew_any f w f1 f2).mono ?_; rintro en w1 ⟨rfl, hA, hb⟩
  obtain ⟨g, hg⟩ : ∃ g, g = w.heap.size := ⟨_, rfl⟩
  rw [← hg] at hA ⊢
  have HU : Hid (AlU w w1 g f Bn.zero) := ⟨hA, hb⟩
  have HG : Hid (g = w.heap.size) := hg
  obtain ⟨v, hv⟩ : ∃ v : Nat → Bn, v = fun i => bnX (l.getD i 0) := ⟨_, rfl⟩
  have HV : Hid (∀ i, v i = bnX (l.getD i 0)) := fun i => by rw [hv]
  have HF : Hid (∀ i, (stepB v l.length from' s i).Few 1) := fun i => by rw [hv]; exact stepB_few i
  have HVe := Lib.hid hv
  clear hA hb hg hv
  go_wp2_with fail
  go_loopw [10] (fun ii wr => ∃ i : Nat, ii = .int .i64 i ∧ from' ≤ i ∧ i ≤ 4200 ∧ Hid ((i - from') % s = 0 ∧ AlU w wr g f (sumB (stepB v l.length from' s) i))) (fun ii _ => l.length - (intOf ii).toNat)
  case atStart => exact ⟨from', rfl, Nat.le_refl _, by omega, by rw [Nat.sub_self]; exact Nat.zero_mod _, by rw [stepB_start]; exact HU.out⟩
  case round =>
    obtain ⟨i, rfl, hfi, hi42, hH⟩ := hrel
    by_cases hq : i < l.length
    · obtain ⟨bx, ox, rfl, hcx⟩ := (HL.out wr hH.out.2.bel).at hq
      have hbx := HWf.out i
      have hnx := stepB_next (v := v) (by omega) hfi hH.out.1 hq
      rw [HV.out i] at hnx
      have hfew := sumB_few (n := i) (fun j _ => HF.out j) (by omega)
      obtain ⟨x, hx⟩ : ∃ x, x = l.getD i 0 := ⟨_, rfl⟩
      rw [← hx] at hcx hbx hnx
      have HA := Lib.hid (badd_any (sumB (stepB v l.length from' s) i) g f x wr hfew.ok f2 hbx hH.out.2.at')
      have HN : Hid ((sumB (stepB v l.length from' s) i).n < 1099511627776) := by have := hfew.le; show _ < _; omega
      have HX := Lib.hid hnx
      have HBl := Lib.hid hH.out.2.bel
      clear hx hnx hfew hH hbx
      go_wp2_with fail
      refine HA.out.mono ?_; rintro en w2 hr
      obtain ⟨er, rfl, hA2, hg⟩ := badd_x HN.out hr
      have HU2 : Hid (AlU w w2 g f (sumB (stepB v l.length from' s) (i + s))) := ⟨by rw [HX.out.1]; exact hA2, bel_grown HBl.out (Nat.le_refl _) hg (by rw [HG.out]; exact Nat.le_refl _)⟩
      clear hr hA2 hg
      go_wp2_with fail
      go_roundw
      case rel => exact ⟨i + s, by go_num, by omega, by omega, HX.out.2, HU2.out⟩
      case measure => simp [intOf]; omega
    · have HR : Hid (BinAt wr g f (sumB (stepB v l.length from' s) l.length)) := by
        show BinAt _ _ _ _
        rw [← stepB_end (i := i) (by omega)]; exact hH.out.2.at'
      have HBl := Lib.hid hH.out.2.bel
      clear hH
      go_wp2_with fail
      go_ret
      refine ⟨by rw [← HG.out]; rfl, ?_, HBl.out⟩
      rw [← HG.out, ← HVe.out]; exact HR.out
def ToldQ (A : Bn) (f : Nat) (d : D) (w : World) (en : Ending) (w' : World) : Prop :=
  ∃ a c r, en = .returned (.tuple #[DV d a c, .float .f64 r, .int .i64 A.n]) ∧ Own w' 82 w.heap.size a c (words d.m) ∧ BdR A f r ∧ Below w.heap.size w w'
set_option maxHeartbeats 4000000 in
theorem told09_any (A : Bn) (g f : Nat) (w : World) (hA : A.Ok) (f1 : 1 ≤ f) (f2 : f ≤ 8) (hB : BinAt w g f A) (hT : Tab w) {d : D} (hd : zO (-1088) (A.kS f) = some d) :
    Calls Tryd.prog 21 #[.pointer (some ⟨g, 0, none⟩)] w (ToldQ A f d w) := by
  obtain ⟨w1, e1⟩ : ∃ W, W = w.alloc (.cells #[.bool false, .slice none 0 0, .int .i64 0] 28) := ⟨_, rfl⟩
  obtain ⟨k1, c1, s1⟩ := new_cel e1 rfl
  have HBt := Lib.hid (fun W (hw : Below w.heap.size w W) => BinC.grow hB hw)
  have HK := Lib.hid (fun W (hw : Below w.heap.size w W) => bkept_any A g f W hA f1 f2 (BinC.grow hB hw) (hT.grow hw) hd)
  have HBd := Lib.hid (fun W (hw : Below w.heap.size w W) => bbound_any A g f W hA f2 (BinC.grow hB hw) (hT.grow hw))
  have HCn := Lib.hid (fun W (hw : Below w.heap.size w W) => bcount_any A g f W (BinC.grow hB hw))
  have E1 := Lib.hid e1; have C1 := Lib.hid c1; have K1 := Lib.hid k1; have S1 := Lib.hid s1
  clear hA hB hT hd e1 k1 c1 s1
  go_enter Tryd.func21, Tryd.ntmps21
  go_wp2_with fail
  rw [← E1.out]
  refine (HK.out w1 C1.out).mono ?_; rintro en w2 ⟨a, c, rfl, ho, hb⟩
  have HB2 := Lib.hid (C1.out.trans (hb.mono C1.out.size))
  have K2 := Lib.hid (K1.out.below hb K1.out.lt)
  have HO2 := Lib.hid (ho.mono (b := w.heap.size + 1) (by have := S1.out; omega))
  clear ho hb
  unfold DV
  go_wp2_with fail
  refine (HBd.out w2 HB2.out).mono ?_; rintro en w3 ⟨r, rfl, hr, hb⟩
  have HB3 := Lib.hid (HB2.out.trans (hb.mono HB2.out.size))
  have K3 := Lib.hid (K2.out.below hb K2.out.lt)
  have HO3 := Lib.hid (HO2.out.grow hb)
  have HR := Lib.hid hr
  clear hr hb
  go_wp2_with fail
  refine (HCn.out w3 HB3.out).mono ?_; rintro en w4 ⟨rfl, rfl⟩
  obtain ⟨_, _, _, _, _, _⟩ := K3.out.facts
  have K4 := K3.out.wr (.bool d.neg) (.slice a (words d.m).length c) (.int .i64 d.exp)
  have HB4 := Lib.hid (below_wr3 (v0 := .bool d.neg) (v1 := .slice a (words d.m).length c) (v2 := .int .i64 d.exp) HB3.out (Nat.le_refl w.heap.size))
  have HO4 := Lib.hid (own_wr3 (g := w.heap.size) (v0 := .bool d.neg) (v1 := .slice a (words d.m).length c) (v2 := .int .i64 d.exp) HO3.out (by omega))
  unfold wr3 at K4 HB4 HO4
  obtain ⟨c0, cc1, cc2, _, _, _⟩ := K4.facts
  clear K4
  go_wp2_with fail
  refine bodyPost_ret (v := .tuple #[DV d a c, .float .f64 r, .int .i64 A.n]) (by simp [results, Tryd.results21, go_sem, DV, c0, cc1, cc2]) rfl ?_
  exact ⟨a, c, r, rfl, HO4.out.mono (by omega), HR.out, HB4.out⟩
end Go.Proofs.YthdbapibbdkclaaDoor
