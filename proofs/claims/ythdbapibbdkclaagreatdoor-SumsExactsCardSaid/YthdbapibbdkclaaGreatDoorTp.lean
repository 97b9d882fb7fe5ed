/- The walk of SumsExacts. No statement of the seat is proved here. -/
import Derived.Test.YthdbapibbdkclaaGreatDoorProg
import Derived.Test.YthdbapibbdkclaaGreatDoorTo
import Derived.Test.YthdbapibbdkclaaGreatDoorGk
import Derived.Test.YthdbapibbdkclaaGreatDoorTi
namespace Go.Proofs.YthdbapibbdkclaaGreatDoor
open Go.RowKit
set_option linter.unusedVariables false
set_option linter.unusedSimpArgs false

theorem ExR.uniq {l : List Nat} {mode pn pi : Int} {r r' : Nat} {e e' : Int} (h : ExR l mode pn pi r e) (h' : ExR l mode pn pi r' e') : r = r' ∧ e = e' := by
  rcases h with ⟨a, rfl, rfl⟩ | ⟨a, b, rfl, rfl⟩ | ⟨a, b, c⟩ <;> rcases h' with ⟨a', rfl, rfl⟩ | ⟨a', b', rfl, rfl⟩ | ⟨a', b', c'⟩
  all_goals first
    | exact ⟨rfl, rfl⟩
    | exact absurd a a'
    | exact absurd a' a
    | exact c.uniq c'
    | (exfalso; omega)

set_option maxRecDepth 10000 in
set_option maxHeartbeats 8000000 in
theorem sumsexacts_any (a : Option Addr) (c : Nat) (l : List Nat) (mode pn pi : Int) (w : World) (hT : Tab w) (hl : FSl w a c l) (hlen : l.length ≤ 17592186044416) :
    Calls Tryz.prog 4 #[.slice a l.length c, .int .i64 mode, pol pn pi] w fun en w' => en = .returned (.bool true) ∧ Below w.heap.size w w' := by
  obtain ⟨w0, e0⟩ : ∃ W, W = w.alloc (.cells #[.int .i64 pn, .int .i64 pi] 51) := ⟨_, rfl⟩
  obtain ⟨k0, b0, s0⟩ := new_of e0 rfl
  have HK := Lib.hid (fun W (hw : Below w0.heap.size w0 W) => pol_cells (blk_below k0 hw (by omega)))
  have HL := Lib.hid (fun W (hw : Below w0.heap.size w0 W) => (hl.grow b0).grow hw)
  have HT := Lib.hid (fun W (hw : Below w0.heap.size w0 W) => (hT.grow b0).grow hw)
  have H1 := Lib.hid (live10_any w0 (hT.grow b0))
  have HWf := Lib.hid hl.wf
  have E0 := Lib.hid e0
  have HB0 := Lib.hid b0
  unfold pol
  clear hl hT e0 k0 b0 s0
  go_enter Tryz.func4, Tryz.ntmps4
  go_wp2_with fail
  rw [← E0.out]
  refine H1.out.mono ?_; rintro en w1 ⟨rfl, hb⟩
  have HB1 := Lib.hid hb
  clear hb
  go_wp2_with fail
  refine (lent01_any a c l w1 (HL.out w1 HB1.out) hlen).mono ?_; rintro en w2 ⟨rfl, hN, hb⟩
  have HB2 := Lib.hid (HB1.out.trans (hb.mono HB1.out.size))
  have HN := Lib.hid (fun W (hw : Below w2.heap.size w2 W) => hN.grow hw)
  obtain ⟨g, hg⟩ : ∃ g, g = w1.heap.size := ⟨_, rfl⟩
  rw [← hg] at HN ⊢
  clear hb hN hg
  obtain ⟨p0, p1⟩ := HK.out w2 HB2.out
  have hSE := sexact_any (some ⟨g, 0, none⟩) (l.length + 8) l mode pn pi w2 ((HN.out w2 (Below.refl _ _)).fsl HWf.out) (HT.out w2 HB2.out)
  unfold pol at hSE
  have HSE := Lib.hid hSE
  clear hSE
  go_wp2_with fail
  refine HSE.out.mono ?_; rintro en w3 ⟨r1, e1, rfl, hr, hb⟩
  have HC3 := Lib.hid hb
  have R1 := Lib.hid hr
  clear hb hr p0 p1
  have HD := Lib.hid (fun W (hw : Below w2.heap.size w2 W) => HL.out W (HB2.out.trans (hw.mono HB2.out.size)))
  go_wp2_with fail
  refine (aslent01_any g a c l w3 (HN.out w3 HC3.out) (HD.out w3 HC3.out) hlen).mono ?_; rintro en w7 ⟨rfl, hb⟩
  have HC7 := Lib.hid (HC3.out.trans (hb.mono HC3.out.size))
  clear hb
  obtain ⟨p0, p1⟩ := HK.out w7 (HB2.out.trans (HC7.out.mono HB2.out.size))
  have hRE := rexact10_any a c l mode pn pi w7 (HD.out w7 HC7.out)
  unfold pol at hRE
  have HRE := Lib.hid hRE
  clear hRE
  go_wp2_with fail
  refine HRE.out.mono ?_; rintro en w8 ⟨r2, e2, rfl, hr, hb⟩
  have HC8 := Lib.hid (HC7.out.trans (hb.mono HC7.out.size))
  obtain ⟨rfl, rfl⟩ := R1.out.uniq hr
  clear hb hr p0 p1
  go_wp2_with fail
  refine (exact10_same r1 w8).mono ?_; rintro en w9 ⟨rfl, rfl⟩
  go_wp2_with fail
  go_ret
  exact ⟨rfl, HB0.out.trans ((HB2.out.trans (HC8.out.mono HB2.out.size)).mono HB0.out.size)⟩
end Go.Proofs.YthdbapibbdkclaaGreatDoor
