/- The walk of SumsUsual. The walk of SumsBlocks. No statement of the seat is proved here. -/
import Derived.Test.YthdbapibbdkclaaGreatDoorProg
import Derived.Test.YthdbapibbdkclaaGreatDoorGf
namespace Go.Proofs.YthdbapibbdkclaaGreatDoor
open Go.RowKit
set_option linter.unusedVariables false
set_option linter.unusedSimpArgs false

theorem exact10_same (a : Nat) (w : World) : Calls Tryz.prog 21 #[.float .f64 a, .float .f64 a] w fun en w' => en = .returned (.bool true) ∧ w = w' := by
  have h := exact10_law a a w
  rw [decide_eq_true rfl] at h; exact h

set_option maxRecDepth 10000 in
set_option maxHeartbeats 8000000 in
theorem sumsusual_any (a : Option Addr) (c : Nat) (l : List Nat) (w : World) (hT : Tab w) (hl : FSl w a c l) (hlen : l.length ≤ 17592186044416) :
    Calls Tryz.prog 6 #[.slice a l.length c] w fun en w' => en = .returned (.bool true) ∧ Below w.heap.size w w' := by
  have H1 := Lib.hid (live10_any w hT)
  have HL := Lib.hid (fun W (hw : Below w.heap.size w W) => hl.grow hw)
  have HWf := Lib.hid hl.wf
  clear hl hT
  go_enter Tryz.func6, Tryz.ntmps6
  go_wp2_with fail
  refine H1.out.mono ?_; rintro en w1 ⟨rfl, hb⟩
  have HB1 := Lib.hid hb
  clear hb
  go_wp2_with fail
  refine (lent01_any a c l w1 (HL.out w1 HB1.out) hlen).mono ?_; rintro en w2 ⟨rfl, hN, hb⟩
  have HB2 := Lib.hid (HB1.out.trans (hb.mono HB1.out.size))
  have HN := Lib.hid (fun W (hw : Below w2.heap.size w2 W) => hN.grow hw)
  obtain ⟨g, hg⟩ : ∃ g, g = w1.heap.size := ⟨_, rfl⟩
  rw [← hg] at HN ⊢
  clear hb hN hg
  go_wp2_with fail
  refine (running_any (some ⟨g, 0, none⟩) (l.length + 8) l w2 ((HN.out w2 (Below.refl _ _)).fsl HWf.out) hlen).mono ?_; rintro en w3 ⟨rfl, hb⟩
  have HC3 := Lib.hid hb
  clear hb
  obtain ⟨r1, hr1⟩ : ∃ r, r = runC l := ⟨_, rfl⟩
  have R1 := Lib.hid hr1
  rw [← hr1]
  clear hr1
  go_wp2_with fail
  refine (halving_any (some ⟨g, 0, none⟩) (l.length + 8) l w3 ((HN.out w3 HC3.out).fsl HWf.out) hlen).mono ?_; rintro en w4 ⟨r2, rfl, hr2, hb⟩
  have HC4 := Lib.hid (HC3.out.trans (hb.mono HC3.out.size))
  have R2 := Lib.hid hr2
  clear hb hr2
  go_wp2_with fail
  refine (kahan_any (some ⟨g, 0, none⟩) (l.length + 8) l w4 ((HN.out w4 HC4.out).fsl HWf.out) hlen).mono ?_; rintro en w5 ⟨rfl, hb⟩
  have HC5 := Lib.hid (HC4.out.trans (hb.mono HC4.out.size))
  obtain ⟨r3, hr3⟩ : ∃ r, r = kahC l := ⟨_, rfl⟩
  have R3 := Lib.hid hr3
  rw [← hr3]
  clear hr3 hb
  go_wp2_with fail
  refine (neumaier_any (some ⟨g, 0, none⟩) (l.length + 8) l w5 ((HN.out w5 HC5.out).fsl HWf.out) hlen).mono ?_; rintro en w6 ⟨rfl, hb⟩
  have HC6 := Lib.hid (HC5.out.trans (hb.mono HC5.out.size))
  obtain ⟨r4, hr4⟩ : ∃ r, r = neuC l := ⟨_, rfl⟩
  have R4 := Lib.hid hr4
  rw [← hr4]
  clear hr4 hb
  have HD := Lib.hid (fun W (hw : Below w2.heap.size w2 W) => HL.out W (HB2.out.trans (hw.mono HB2.out.size)))
  go_wp2_with fail
  refine (aslent01_any g a c l w6 (HN.out w6 HC6.out) (HD.out w6 HC6.out) hlen).mono ?_; rintro en w7 ⟨rfl, hb⟩
  have HC7 := Lib.hid (HC6.out.trans (hb.mono HC6.out.size))
  clear hb
  go_wp2_with fail
  refine (rrunning_any a c l w7 (HD.out w7 HC7.out) hlen).mono ?_; rintro en w8 ⟨rfl, hb⟩
  have HC8 := Lib.hid (HC7.out.trans (hb.mono HC7.out.size))
  rw [← R1.out]
  clear hb
  go_wp2_with fail
  refine (exact10_same r1 w8).mono ?_; rintro en w9 ⟨rfl, rfl⟩
  go_wp2_with fail
  refine (rhalving_any a c l w8 (HD.out w8 HC8.out) hlen).mono ?_; rintro en w9 ⟨r2', rfl, hr2, hb⟩
  have HC9 := Lib.hid (HC8.out.trans (hb.mono HC8.out.size))
  obtain rfl := R2.out.uniq hr2
  clear hb hr2
  go_wp2_with fail
  refine (exact10_same r2 w9).mono ?_; rintro en w10 ⟨rfl, rfl⟩
  go_wp2_with fail
  refine (rkahan_any a c l w9 (HD.out w9 HC9.out) hlen).mono ?_; rintro en w10 ⟨rfl, hb⟩
  have HC10 := Lib.hid (HC9.out.trans (hb.mono HC9.out.size))
  rw [← R3.out]
  clear hb
  go_wp2_with fail
  refine (exact10_same r3 w10).mono ?_; rintro en w11 ⟨rfl, rfl⟩
  go_wp2_with fail
  refine (rneumaier_any a c l w10 (HD.out w10 HC10.out) hlen).mono ?_; rintro en w11 ⟨rfl, hb⟩
  have HC11 := Lib.hid (HC10.out.trans (hb.mono HC10.out.size))
  rw [← R4.out]
  clear hb
  go_wp2_with fail
  refine (exact10_same r4 w11).mono ?_; rintro en w12 ⟨rfl, rfl⟩
  go_wp2_with fail
  go_ret
  exact ⟨rfl, HB2.out.trans (HC11.out.mono HB2.out.size)⟩
end Go.Proofs.YthdbapibbdkclaaGreatDoor
namespace Go.Proofs.YthdbapibbdkclaaGreatDoor
open Go.RowKit
set_option linter.unusedVariables false
set_option linter.unusedSimpArgs false

theorem BlR.uniq {l : List Nat} {size : Int} {r r' : Nat} {e e' : Int} (h : BlR l size r e) (h' : BlR l size r' e') : r = r' ∧ e = e' := by
  rcases h with ⟨a, rfl, rfl⟩ | ⟨a, b, rfl, rfl⟩ | ⟨a, b, rfl, rfl⟩ <;> rcases h' with ⟨a', rfl, rfl⟩ | ⟨a', b', rfl, rfl⟩ | ⟨a', b', rfl, rfl⟩
  all_goals first | exact ⟨rfl, rfl⟩ | (exfalso; omega)

set_option maxRecDepth 10000 in
set_option maxHeartbeats 8000000 in
theorem sumsblocks_any (a : Option Addr) (c : Nat) (l : List Nat) (size : Int) (w : World) (hT : Tab w) (hl : FSl w a c l) (hlen : l.length ≤ 17592186044416) :
    Calls Tryz.prog 5 #[.slice a l.length c, .int .i64 size] w fun en w' => en = .returned (.bool true) ∧ Below w.heap.size w w' := by
  have H1 := Lib.hid (live10_any w hT)
  have HL := Lib.hid (fun W (hw : Below w.heap.size w W) => hl.grow hw)
  have HWf := Lib.hid hl.wf
  clear hl hT
  go_enter Tryz.func5, Tryz.ntmps5
  go_wp2_with fail
  refine H1.out.mono ?_; rintro en w1 ⟨rfl, hb⟩
  have HB1 := Lib.hid hb
  clear hb
  go_wp2_with fail
  refine (lent01_any a c l w1 (HL.out w1 HB1.out) hlen).mono ?_; rintro en w2 ⟨rfl, hN, hb⟩
  have HB2 := Lib.hid (HB1.out.trans (hb.mono HB1.out.size))
  have HN := Lib.hid (fun W (hw : Below w2.heap.size w2 W) => hN.grow hw)
  obtain ⟨g, hg⟩ : ∃ g, g = w1.heap.size := ⟨_, rfl⟩
  rw [← hg] at HN ⊢
  clear hb hN hg
  go_wp2_with fail
  refine (blocked_any (some ⟨g, 0, none⟩) (l.length + 8) l size w2 ((HN.out w2 (Below.refl _ _)).fsl HWf.out)).mono ?_; rintro en w3 ⟨r1, e1, rfl, hr, hb⟩
  have HC3 := Lib.hid hb
  have R1 := Lib.hid hr
  clear hb hr
  have HD := Lib.hid (fun W (hw : Below w2.heap.size w2 W) => HL.out W (HB2.out.trans (hw.mono HB2.out.size)))
  go_wp2_with fail
  refine (aslent01_any g a c l w3 (HN.out w3 HC3.out) (HD.out w3 HC3.out) hlen).mono ?_; rintro en w7 ⟨rfl, hb⟩
  have HC7 := Lib.hid (HC3.out.trans (hb.mono HC3.out.size))
  clear hb
  go_wp2_with fail
  refine (rblocked_any a c l size w7 (HD.out w7 HC7.out)).mono ?_; rintro en w8 ⟨r2, e2, rfl, hr, hb⟩
  have HC8 := Lib.hid (HC7.out.trans (hb.mono HC7.out.size))
  obtain ⟨rfl, rfl⟩ := R1.out.uniq hr
  clear hb hr
  go_wp2_with fail
  refine (exact10_same r1 w8).mono ?_; rintro en w9 ⟨rfl, rfl⟩
  go_wp2_with fail
  go_ret
  exact ⟨rfl, HB2.out.trans (HC8.out.mono HB2.out.size)⟩
end Go.Proofs.YthdbapibbdkclaaGreatDoor
