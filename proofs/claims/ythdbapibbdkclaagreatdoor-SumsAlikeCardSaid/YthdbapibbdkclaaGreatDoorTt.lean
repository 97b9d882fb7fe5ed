/- The walk of SumsAlike. No statement of the seat is proved here. -/
import Derived.Test.YthdbapibbdkclaaGreatDoorProg
import Derived.Test.YthdbapibbdkclaaGreatDoorMX
import Derived.Test.YthdbapibbdkclaaGreatDoorMZ
namespace Go.Proofs.YthdbapibbdkclaaGreatDoor
open Go.RowKit
set_option linter.unusedVariables false
set_option linter.unusedSimpArgs false

set_option maxRecDepth 10000 in
set_option maxHeartbeats 8000000 in
theorem sumsalike_any (a : Option Addr) (c : Nat) (l : List Nat) (fold : Int) (w : World) (hT : Tab w) (hl : FSl w a c l) (hlen : l.length ≤ 17592186044416) :
    Calls Tryz.prog 9 #[.slice a l.length c, .int .i64 fold] w fun en w' => en = .returned (.bool true) ∧ Below w.heap.size w w' := by
  have HL := Lib.hid (fun W (hw : Below w.heap.size w W) => hl.grow hw)
  have HT := Lib.hid (fun W (hw : Below w.heap.size w W) => hT.grow hw)
  have H1 := Lib.hid (live10_any w hT)
  have HWf := Lib.hid hl.wf
  clear hl hT
  go_enter Tryz.func9, Tryz.ntmps9
  go_wp2_with fail
  refine H1.out.mono ?_; rintro en w1 ⟨rfl, hb⟩
  have HB1 := Lib.hid hb
  clear hb
  go_wp2_with fail
  refine (lent01_any a c l w1 (HL.out w1 HB1.out) hlen).mono ?_; rintro en w2 ⟨rfl, hN, hb⟩
  have HB2 := Lib.hid (HB1.out.trans (hb.mono HB1.out.size))
  have HN := Lib.hid (fun W (hw : Below w2.heap.size w2 W) => hN.grow hw)
  obtain ⟨g, hg⟩ : ∃ g, g = w1.heap.size := ⟨_, rfl⟩
  rw [← hg] at HN ⊢
  clear hb hN hg
  have HSE := Lib.hid (salike_any (some ⟨g, 0, none⟩) (l.length + 8) l fold w2 ((HN.out w2 (Below.refl _ _)).fsl HWf.out) (HT.out w2 HB2.out))
  go_wp2_with fail
  refine HSE.out.mono ?_; rintro en w3 ⟨r1, e1, rfl, hr, hb⟩
  have HC3 := Lib.hid hb
  have R1 := Lib.hid hr
  clear hb hr
  have HD := Lib.hid (fun W (hw : Below w2.heap.size w2 W) => HL.out W (HB2.out.trans (hw.mono HB2.out.size)))
  go_wp2_with fail
  refine (aslent01_any g a c l w3 (HN.out w3 HC3.out) (HD.out w3 HC3.out) hlen).mono ?_; rintro en w7 ⟨rfl, hb⟩
  have HC7 := Lib.hid (HC3.out.trans (hb.mono HC3.out.size))
  clear hb
  have HRE := Lib.hid (ralike_any a c l fold w7 (HD.out w7 HC7.out))
  go_wp2_with fail
  refine HRE.out.mono ?_; rintro en w8 ⟨r2, e2, rfl, hr, hb⟩
  have HC8 := Lib.hid (HC7.out.trans (hb.mono HC7.out.size))
  obtain ⟨rfl, rfl⟩ := R1.out.uniq hr
  clear hb hr
  go_wp2_with fail
  refine (exact10_same r1 w8).mono ?_; rintro en w9 ⟨rfl, rfl⟩
  go_wp2_with fail
  go_ret
  exact ⟨rfl, HB2.out.trans (HC8.out.mono HB2.out.size)⟩
end Go.Proofs.YthdbapibbdkclaaGreatDoor
