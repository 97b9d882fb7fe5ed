/- The walk of steelyardlaw10.SumsNumbers: true, in every world whose table of math/bits is laid. -/
import Derived.Test.YthdbapibbdkclaaDoorProg
import Derived.Test.YthdbapibbdkclaaDoorFg
namespace Go.Proofs.YthdbapibbdkclaaDoor
open Go.RowKit
set_option linter.unusedVariables false
set_option linter.unusedSimpArgs false

theorem fsl_nil (w : World) : FSl w none 0 [] := ⟨FRd.nil _ _, W64L.nil, Nat.le_refl _, fun _ => rfl⟩
theorem exr_none {r : Nat} {er : Int} (h : ExR [] 3 0 0 r er) : r = 0 ∧ er = 0 := by
  have hnb : ¬ badM 3 0 0 := by
    rintro (h | h | h)
    · omega
    · omega
    · revert h; decide
  rcases h with ⟨h1, _⟩ | ⟨_, h1, _⟩ | ⟨_, _, h1⟩
  · exact absurd h1 hnb
  · simp at h1
  · have hs : specR (sumL []) 3 0 0 = (0, true, 0) := by decide
    unfold RoundR at h1
    rw [hs] at h1
    rcases h1 with ⟨_, h2, h3⟩ | ⟨h2, _⟩
    · exact ⟨h2, h3⟩
    · cases h2
theorem runC_nz : runC [nzero64] = nzero64 := by kernel_rfl
theorem kahC_nz : kahC [nzero64] = 0 := by kernel_rfl
theorem neuC_nz : neuC [nzero64] = 0 := by kernel_rfl
theorem canon_nz : canon nzero64 = nzero64 := by kernel_rfl

set_option maxRecDepth 10000 in
set_option maxHeartbeats 8000000 in
theorem sumsnumbers_any (w : World) (hT : Tab w) : Calls Tryd.prog 7 #[] w fun en w' => en = .returned (.bool true) ∧ Below w.heap.size w w' := by
  have H1 := Lib.hid (live10_any w hT)
  have HE := Lib.hid (fun W (hb : Below w.heap.size w W) => sexact_any none 0 [] 3 0 0 W (fsl_nil W) (hT.grow hb))
  have HR := Lib.hid (fun W => running_any none 0 [] W (fsl_nil W) (by simp))
  have HH := Lib.hid (fun W => halving_any none 0 [] W (fsl_nil W) (by simp))
  have HK := Lib.hid (fun W => kahan_any none 0 [] W (fsl_nil W) (by simp))
  have HN := Lib.hid (fun W => neumaier_any none 0 [] W (fsl_nil W) (by simp))
  unfold pol at HE
  rw [show runC [] = 0 from rfl] at HR
  rw [show kahC [] = 0 from rfl] at HK
  rw [show neuC [] = 0 by kernel_rfl] at HN
  simp only [List.length_nil] at HE HR HH HK HN
  clear hT
  go_enter Tryd.func7, Tryd.ntmps7
  go_wp2_with fail
  refine H1.out.mono ?_; rintro en w1 ⟨rfl, hb⟩
  have HB1 := Lib.hid hb
  clear hb
  go_wp2_with fail
  refine (pnz_any w1).mono ?_; rintro en w' ⟨rfl, rfl⟩
  obtain ⟨m, hm⟩ : ∃ m, m = nzero64 := ⟨_, rfl⟩
  rw [← hm]
  obtain ⟨w2, e2⟩ : ∃ W, W = w1.alloc (.cells #[.float .f64 m] 36) := ⟨_, rfl⟩
  obtain ⟨k2, b2, s2⟩ := new_of e2 rfl
  have hF : FSl w2 (some ⟨w1.heap.size, 0, none⟩) 1 [m] := fsl_of k2 (by intro x hx; simp at hx; rw [hx, hm]; decide) (by simp)
  have HR1 := Lib.hid (fun W (hb : Below w2.heap.size w2 W) => running_any (some ⟨w1.heap.size, 0, none⟩) 1 [m] W (hF.grow hb) (by simp))
  have HH1 := Lib.hid (fun W (hb : Below w2.heap.size w2 W) => halving_any (some ⟨w1.heap.size, 0, none⟩) 1 [m] W (hF.grow hb) (by simp))
  have HK1 := Lib.hid (fun W (hb : Below w2.heap.size w2 W) => kahan_any (some ⟨w1.heap.size, 0, none⟩) 1 [m] W (hF.grow hb) (by simp))
  have HN1 := Lib.hid (fun W (hb : Below w2.heap.size w2 W) => neumaier_any (some ⟨w1.heap.size, 0, none⟩) 1 [m] W (hF.grow hb) (by simp))
  have HC1 : Hid (∀ W, Below w2.heap.size w2 W → W.cell? ⟨w1.heap.size, 0, none⟩ = some (.float .f64 m)) := by
    intro W hb
    have := (hF.grow hb).rd.cells (i := 0) (by simp)
    simpa using this
  rw [show runC [m] = m by rw [hm]; exact runC_nz] at HR1
  rw [show kahC [m] = 0 by rw [hm]; exact kahC_nz] at HK1
  rw [show neuC [m] = 0 by rw [hm]; exact neuC_nz] at HN1
  simp only [List.length_singleton] at HR1 HH1 HK1 HN1
  have HV : Hid (∀ v, Hal [m] v → v = m) := by
    intro v hv
    have := hv.uniq (Hal.one m)
    rw [this, hm, canon_nz]
  have HB2 := Lib.hid (HB1.out.trans (b2.mono HB1.out.size))
  have E2 := Lib.hid e2
  clear k2 b2 s2 hF e2 hm
  go_wp2_with fail
  rw [← E2.out]
  refine (HE.out w2 HB2.out).mono ?_; rintro en w3 ⟨r, er, rfl, hR, hb⟩
  obtain ⟨rfl, rfl⟩ := exr_none hR
  have HB3 := Lib.hid hb
  clear hR hb
  go_wp2_with fail
  refine (HR.out w3).mono ?_; rintro en w4 ⟨rfl, hb⟩
  have HB4 := Lib.hid (HB3.out.trans (hb.mono HB3.out.size))
  clear hb
  go_wp2_with fail
  refine (exact10_law 0 0 w4).mono ?_; rintro en w' ⟨rfl, rfl⟩
  go_wp2_with fail
  refine (HH.out w4).mono ?_; rintro en w5 ⟨v, rfl, hv, hb⟩
  obtain rfl := hv.uniq Hal.nil
  have HB5 := Lib.hid (HB4.out.trans (hb.mono HB4.out.size))
  clear hb hv
  go_wp2_with fail
  refine (exact10_law 0 0 w5).mono ?_; rintro en w' ⟨rfl, rfl⟩
  go_wp2_with fail
  refine (HK.out w5).mono ?_; rintro en w6 ⟨rfl, hb⟩
  have HB6 := Lib.hid (HB5.out.trans (hb.mono HB5.out.size))
  clear hb
  go_wp2_with fail
  refine (exact10_law 0 0 w6).mono ?_; rintro en w' ⟨rfl, rfl⟩
  go_wp2_with fail
  refine (HN.out w6).mono ?_; rintro en w7 ⟨rfl, hb⟩
  have HB7 := Lib.hid (HB6.out.trans (hb.mono HB6.out.size))
  clear hb
  go_wp2_with fail
  refine (exact10_law 0 0 w7).mono ?_; rintro en w' ⟨rfl, rfl⟩
  go_wp2_with fail
  refine (exact10_law 0 0 w7).mono ?_; rintro en w' ⟨rfl, rfl⟩
  go_wp2_with fail
  have hbel : Below w2.heap.size w2 w7.drew := HB7.out.drew
  have hcm := HC1.out w7 HB7.out
  go_region_held3 (fun W => W.cell? ⟨w1.heap.size, 0, none⟩ = some (.float .f64 m)) (go_keep) (first
    | (go_at_call 43; refine (HR1.out _ hbel).mono ?_; rintro en wa ⟨rfl, hba⟩; have hbel := hbel.trans (hba.mono hbel.size); have hcm := HC1.out wa hbel)
    | (go_at_call 42; refine (exact10_law _ _ _).mono ?_; rintro en wa ⟨rfl, rfl⟩)
    | (go_at_call 44; refine (HH1.out _ hbel).mono ?_; rintro en wa ⟨v, rfl, hv, hba⟩; obtain rfl := HV.out v hv; have hbel := hbel.trans (hba.mono hbel.size); have hcm := HC1.out wa hbel)
    | (go_at_call 45; refine (HK1.out _ hbel).mono ?_; rintro en wa ⟨rfl, hba⟩; have hbel := hbel.trans (hba.mono hbel.size); have hcm := HC1.out wa hbel)
    | (go_at_call 46; refine (HN1.out _ hbel).mono ?_; rintro en wa ⟨rfl, hba⟩; have hbel := hbel.trans (hba.mono hbel.size); have hcm := HC1.out wa hbel))
  go_wp2_with fail
  go_ret
  exact ⟨by simp, HB2.out.trans (hbel.mono HB2.out.size)⟩
end Go.Proofs.YthdbapibbdkclaaDoor
