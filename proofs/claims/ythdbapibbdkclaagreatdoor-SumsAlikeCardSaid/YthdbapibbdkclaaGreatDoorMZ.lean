/- Contracts of steelyardref01.parts at 64 bits, Split, Class. Contracts of steelyardref09.Bins.Round, Sum and steelyardref10.Alike. Contract of steelyardref10.Alike. No statement of the seat is proved here. -/
import Derived.Test.YthdbapibbdkclaaGreatDoorProg
import Derived.Test.YthdbapibbdkclaaGreatDoorGd
import Derived.Test.YthdbapibbdkclaaGreatDoorHh
import Derived.Test.YthdbapibbdkclaaGreatDoorHm
namespace Go.Proofs.YthdbapibbdkclaaGreatDoor
open Go.RowKit
set_option maxRecDepth 10000
set_option linter.unusedVariables false
set_option linter.unusedSimpArgs false

def PtQ (e : Nat) (w : World) (en : Ending) (w' : World) : Prop := ∃ (s : Bool) (k x y : Int), en = .returned (.agg #[.bool s, .int .i64 k, .int .i64 x, .int .u64 y]) ∧ (2 < k ↔ e = 2047) ∧ Below w.heap.size w w'
set_option maxHeartbeats 4000000 in
theorem rparts_any (b e : Nat) (he : e = b / 4503599627370496 % 2048) (w : World) (hb : b < 18446744073709551616) :
    Calls Tryz.prog 218 #[.int .u64 b, .int .i64 11, .int .i64 52] w (PtQ e w) := by
  obtain ⟨f, hf⟩ : ∃ f : Nat, f = b % 4503599627370496 := ⟨_, rfl⟩
  have e1 : (b : Int) / 4503599627370496 % 2048 = (e : Int) := by omega
  have f1 : (b : Int) % 4503599627370496 = (f : Int) := by omega
  have HB := Lib.hid hb; have HE := Lib.hid he; have HF := Lib.hid hf; have HE1 := Lib.hid e1; have HF1 := Lib.hid f1
  clear hb he hf e1 f1
  go_enter Tryz.func218, Tryz.ntmps218
  go_upto_region 2 with fail
  rw [HE1.out]
  obtain ⟨w1, h1⟩ : ∃ W, W = w.alloc (.cells #[.bool false, .int .i64 0, .int .i64 0, .int .u64 0] 136) := ⟨_, rfl⟩
  rw [← h1]
  obtain ⟨k1, hB1, s1⟩ := new_of h1 rfl
  clear h1
  go_upto_region 3 with fail
  rw [HF1.out]
  obtain ⟨sg, hsg⟩ : ∃ sg, sg = (b / 9223372036854775808 % 2 == 1) := ⟨_, rfl⟩
  have HSG := Lib.hid hsg
  obtain ⟨q, hq⟩ : ∃ q : Int, q = (b : Int) / 9223372036854775808 % 2 := ⟨_, rfl⟩
  have hq2 : (q == 1) = sg := by
    rw [hsg, hq]
    rcases (show b / 9223372036854775808 % 2 = 0 ∨ b / 9223372036854775808 % 2 = 1 by omega) with h | h
    · rw [h, show (b : Int) / 9223372036854775808 % 2 = 0 by omega]; rfl
    · rw [h, show (b : Int) / 9223372036854775808 % 2 = 1 by omega]; rfl
  have HQ : Hid ((b : Int) / 9223372036854775808 % 2 = q) := hq.symm
  clear hq hsg s1
  go_upto_region 4 with fail
  rw [HQ.out, hq2]
  obtain ⟨w2, h2⟩ : ∃ W, W = w1.alloc (.cells #[.bool sg, .int .i64 0, .int .i64 0, .int .u64 0] 136) := ⟨_, rfl⟩
  rw [← h2]
  obtain ⟨k2, hB2, s2⟩ := new_of h2 rfl
  obtain ⟨p2, hp2⟩ : ∃ p, p = w1.heap.size := ⟨_, rfl⟩
  rw [← hp2] at k2 ⊢
  have k1' : w2.heap[w.heap.size]? = _ := (hB2.block _ (Array.getElem?_eq_some_iff.1 k1).1).trans k1
  have hne : p2 ≠ w.heap.size := by have := (Array.getElem?_eq_some_iff.1 k1).1; omega
  have hgt : w.heap.size ≤ p2 := by have := (Array.getElem?_eq_some_iff.1 k1).1; omega
  have hBw : Hid (Below w.heap.size w w2) := hB1.trans (hB2.mono hB1.size)
  have hex2 : e ≤ 2047 := by have := HE.out; omega
  have hfr2 : f ≤ 4503599627370495 := by have := HF.out; omega
  clear HE HF HSG HE1 HF1 HQ hq2 h2 hp2 s2 k1 hB1 hB2 HB
  obtain ⟨⟨d0, d1, d2, d3⟩, _, _, _, _⟩ := cells4 k1'
  obtain ⟨⟨c0, cc1, c2, c3⟩, _, _, _, _⟩ := cells4 k2
  rcases (show (e = 2047 ∧ f ≠ 0) ∨ (e = 2047 ∧ f = 0) ∨ (e ≠ 2047 ∧ 0 < e) ∨ (e = 0 ∧ 0 < f) ∨ (e = 0 ∧ f = 0) by omega) with ⟨x1, x2⟩ | ⟨x1, x2⟩ | ⟨x1, x2⟩ | ⟨x1, x2⟩ | ⟨x1, x2⟩
  · subst x1
    have e2 : (0 : Int) < (f : Int) := by omega
    have X2 := Lib.hid x2
    clear x2
    go_wp2_with fail
    refine bodyPost_ret (v := .agg #[.bool false, .int .i64 4, .int .i64 0, .int .u64 0]) (by simp [results, Tryz.results218, go_sem, c0, cc1, c2, c3, d0, d1, d2, d3, hne]) rfl ?_
    exact ⟨false, 4, 0, 0, rfl, by simp, by repeat (first | exact hBw.out | refine Below.setCell ?_ (by first | exact Nat.le_refl _ | exact hgt) _)⟩
  · subst x1 x2
    go_wp2_with fail
    refine bodyPost_ret (v := .agg #[.bool sg, .int .i64 3, .int .i64 0, .int .u64 0]) (by simp [results, Tryz.results218, go_sem, c0, cc1, c2, c3, d0, d1, d2, d3, hne]) rfl ?_
    exact ⟨sg, 3, 0, 0, rfl, by simp, by repeat (first | exact hBw.out | refine Below.setCell ?_ (by first | exact Nat.le_refl _ | exact hgt) _)⟩
  · have e1 : ((e : Int) == 2047) = false := by simp; omega
    have e2 : (0 : Int) < (e : Int) := by omega
    have g4 : IntKind.i64.wrap (-1074 + (e : Int)) = -1074 + (e : Int) := by rw [IntKind.wrap_i64]; omega
    have g5 : IntKind.i64.wrap (-1074 + (e : Int) - 1) = -1074 + (e : Int) - 1 := by rw [IntKind.wrap_i64]; omega
    have g6 : IntKind.u64.wrap ((f : Int) + 4503599627370496) = (f : Int) + 4503599627370496 := by rw [IntKind.wrap_u64]; omega
    have X1 := Lib.hid x1
    clear x1
    go_upto_region 19 with fail
    obtain ⟨w3, e3⟩ : ∃ W, W = (((((w2.setCell ⟨p2, 3, none⟩ (.int .u64 f)).setCell ⟨p2, 2, none⟩ (.int .i64 (-1074))).setCell ⟨p2, 1, none⟩ (.int .i64 2)).setCell ⟨p2, 3, none⟩ (.int .u64 ((f : Int) + 4503599627370496))).setCell ⟨p2, 2, none⟩ (.int .i64 (-1074 + (e : Int) - 1))) := ⟨_, rfl⟩
    rw [← e3]
    have k3 : w3.heap[p2]? = some (.cells ([.bool sg, .int .i64 2, .int .i64 (-1074 + (e : Int) - 1), .int .u64 ((f : Int) + 4503599627370496)] : List Value).toArray 136 (0, 0)) := by rw [e3]; exact row_set (row_set (row_set (row_set (row_set (k2) 3 _) 2 _) 1 _) 3 _) 2 _
    have hB3 : Below w.heap.size w w3 := by rw [e3]; exact (((((hBw.out).setCell (p := ⟨p2, 3, none⟩) hgt _).setCell (p := ⟨p2, 2, none⟩) hgt _).setCell (p := ⟨p2, 1, none⟩) hgt _).setCell (p := ⟨p2, 3, none⟩) hgt _).setCell (p := ⟨p2, 2, none⟩) hgt _
    have k4 : w3.heap[w.heap.size]? = some (.cells #[.bool false, .int .i64 0, .int .i64 0, .int .u64 0] 136 (0, 0)) := by
      rw [e3]
      repeat rw [heap_setCell_other _ _ _ _ (by show w.heap.size ≠ p2; exact fun h => hne h.symm)]
      exact k1'
    have HB3 := Lib.hid hB3
    clear e3 hB3 hBw c0 cc1 c2 c3 d0 d1 d2 d3 k1' k2
    obtain ⟨⟨c0, cc1, c2, c3⟩, _, _, _, _⟩ := cells4 k3
    obtain ⟨⟨d0, d1, d2, d3⟩, _, _, _, _⟩ := cells4 k4
    clear k3 k4
    go_wp2_with fail
    refine bodyPost_ret (v := .agg #[.bool sg, .int .i64 2, .int .i64 (-1074 + (e : Int) - 1), .int .u64 ((f : Int) + 4503599627370496)]) (by simp [results, Tryz.results218, go_sem, c0, cc1, c2, c3, d0, d1, d2, d3, hne]) rfl ?_
    exact ⟨sg, 2, -1074 + (e : Int) - 1, (f : Int) + 4503599627370496, rfl, by have := X1.out; omega, by repeat (first | exact HB3.out | refine Below.setCell ?_ (by first | exact Nat.le_refl _ | exact hgt) _)⟩
  · subst x1
    have e2 : (0 : Int) < (f : Int) := by omega
    have X2 := Lib.hid x2
    clear x2
    go_upto_region 19 with fail
    obtain ⟨w3, e3⟩ : ∃ W, W = (((w2.setCell ⟨p2, 3, none⟩ (.int .u64 f)).setCell ⟨p2, 2, none⟩ (.int .i64 (-1074))).setCell ⟨p2, 1, none⟩ (.int .i64 1)) := ⟨_, rfl⟩
    rw [← e3]
    have k3 : w3.heap[p2]? = some (.cells ([.bool sg, .int .i64 1, .int .i64 (-1074), .int .u64 f] : List Value).toArray 136 (0, 0)) := by rw [e3]; exact row_set (row_set (row_set (k2) 3 _) 2 _) 1 _
    have hB3 : Below w.heap.size w w3 := by rw [e3]; exact (((hBw.out).setCell (p := ⟨p2, 3, none⟩) hgt _).setCell (p := ⟨p2, 2, none⟩) hgt _).setCell (p := ⟨p2, 1, none⟩) hgt _
    have k4 : w3.heap[w.heap.size]? = some (.cells #[.bool false, .int .i64 0, .int .i64 0, .int .u64 0] 136 (0, 0)) := by
      rw [e3]
      repeat rw [heap_setCell_other _ _ _ _ (by show w.heap.size ≠ p2; exact fun h => hne h.symm)]
      exact k1'
    have HB3 := Lib.hid hB3
    clear e3 hB3 hBw c0 cc1 c2 c3 d0 d1 d2 d3 k1' k2
    obtain ⟨⟨c0, cc1, c2, c3⟩, _, _, _, _⟩ := cells4 k3
    obtain ⟨⟨d0, d1, d2, d3⟩, _, _, _, _⟩ := cells4 k4
    clear k3 k4
    go_wp2_with fail
    refine bodyPost_ret (v := .agg #[.bool sg, .int .i64 1, .int .i64 (-1074), .int .u64 (f : Nat)]) (by simp [results, Tryz.results218, go_sem, c0, cc1, c2, c3, d0, d1, d2, d3, hne]) rfl ?_
    exact ⟨sg, 1, -1074, (f : Int), rfl, by simp, by repeat (first | exact HB3.out | refine Below.setCell ?_ (by first | exact Nat.le_refl _ | exact hgt) _)⟩
  · subst x1 x2
    go_upto_region 19 with fail
    obtain ⟨w3, e3⟩ : ∃ W, W = (((w2.setCell ⟨p2, 3, none⟩ (.int .u64 0)).setCell ⟨p2, 2, none⟩ (.int .i64 (-1074))).setCell ⟨p2, 1, none⟩ (.int .i64 0)) := ⟨_, rfl⟩
    rw [← e3]
    have k3 : w3.heap[p2]? = some (.cells ([.bool sg, .int .i64 0, .int .i64 (-1074), .int .u64 0] : List Value).toArray 136 (0, 0)) := by rw [e3]; exact row_set (row_set (row_set (k2) 3 _) 2 _) 1 _
    have hB3 : Below w.heap.size w w3 := by rw [e3]; exact (((hBw.out).setCell (p := ⟨p2, 3, none⟩) hgt _).setCell (p := ⟨p2, 2, none⟩) hgt _).setCell (p := ⟨p2, 1, none⟩) hgt _
    have k4 : w3.heap[w.heap.size]? = some (.cells #[.bool false, .int .i64 0, .int .i64 0, .int .u64 0] 136 (0, 0)) := by
      rw [e3]
      repeat rw [heap_setCell_other _ _ _ _ (by show w.heap.size ≠ p2; exact fun h => hne h.symm)]
      exact k1'
    have HB3 := Lib.hid hB3
    clear e3 hB3 hBw c0 cc1 c2 c3 d0 d1 d2 d3 k1' k2
    obtain ⟨⟨c0, cc1, c2, c3⟩, _, _, _, _⟩ := cells4 k3
    obtain ⟨⟨d0, d1, d2, d3⟩, _, _, _, _⟩ := cells4 k4
    clear k3 k4
    go_wp2_with fail
    refine bodyPost_ret (v := .agg #[.bool sg, .int .i64 0, .int .i64 (-1074), .int .u64 0]) (by simp [results, Tryz.results218, go_sem, c0, cc1, c2, c3, d0, d1, d2, d3, hne]) rfl ?_
    exact ⟨sg, 0, -1074, 0, rfl, by simp, by repeat (first | exact HB3.out | refine Below.setCell ?_ (by first | exact Nat.le_refl _ | exact hgt) _)⟩
theorem canon_fin {b : Nat} (hb : b < 18446744073709551616) : canon b < 18446744073709551616 ∧ (canon b / 4503599627370496 % 2048 = 2047 ↔ ¬ finB b) := by
  unfold canon finB nan64
  split <;> omega
def SpQ (b : Nat) (w : World) (en : Ending) (w' : World) : Prop := ∃ (s : Bool) (k x y : Int), en = .returned (.agg #[.bool s, .int .i64 k, .int .i64 x, .int .u64 y]) ∧ (2 < k ↔ ¬ finB b) ∧ Below w.heap.size w w'
set_option maxHeartbeats 2000000 in
theorem rsplit_any (b : Nat) (w : World) (hb : b < 18446744073709551616) : Calls Tryz.prog 173 #[.float .f64 b] w (SpQ b w) := by
  obtain ⟨h1, h2⟩ := canon_fin hb
  obtain ⟨cb, hcb⟩ : ∃ x, x = canon b := ⟨_, rfl⟩
  have HBb := Lib.hid (fun W => bbits_any b W)
  rw [← hcb] at HBb h1 h2
  have HP := Lib.hid (fun W => rparts_any cb _ rfl W h1)
  have H2 := Lib.hid h2
  clear h1 h2 hcb hb
  go_enter Tryz.func173, Tryz.ntmps173
  go_wp2_with fail
  obtain ⟨w1, e1⟩ : ∃ W, W = w.alloc (.cells #[.bool false, .int .i64 0, .int .i64 0, .int .u64 0] 136) := ⟨_, rfl⟩
  rw [← e1]
  obtain ⟨k1, hB1, s1⟩ := new_of e1 rfl
  clear e1 s1
  refine (HBb.out w1).mono ?_; rintro en w2 ⟨rfl, rfl⟩
  go_wp2_with fail
  refine (HP.out w1).mono ?_; rintro en w3 ⟨s, k, x, y, rfl, hk, hb3⟩
  have k3 := (hb3.block w.heap.size (Array.getElem?_eq_some_iff.1 k1).1).trans k1
  have HB3 := Lib.hid (hB1.trans (hb3.mono hB1.size))
  have HK := Lib.hid hk
  obtain ⟨⟨c0, cc1, c2, c3⟩, _, _, _, _⟩ := cells4 k3
  clear hk hb3 hB1 k1 k3
  go_wp2_with fail
  refine bodyPost_ret (v := .agg #[.bool s, .int .i64 k, .int .i64 x, .int .u64 y]) (by simp [results, Tryz.results173, go_sem, c0, cc1, c2, c3]) rfl ?_
  exact ⟨s, k, x, y, rfl, HK.out.trans H2.out, by repeat (first | exact HB3.out | refine Below.setCell ?_ (by exact Nat.le_refl _) _)⟩
def ClQ (b : Nat) (w : World) (en : Ending) (w' : World) : Prop := ∃ k : Int, en = .returned (.int .i64 k) ∧ (2 < k ↔ ¬ finB b) ∧ Below w.heap.size w w'
theorem rclass_any (b : Nat) (w : World) (hb : b < 18446744073709551616) : Calls Tryz.prog 108 #[.float .f64 b] w (ClQ b w) := by
  have HS := Lib.hid (rsplit_any b w hb)
  clear hb
  go_enter Tryz.func108, Tryz.ntmps108
  go_wp2_with fail
  refine HS.out.mono ?_; rintro en w1 ⟨s, k, x, y, rfl, hk, hb⟩
  have HK := Lib.hid hk; have HB := Lib.hid hb
  have hfd : ∀ W, (Instr.field 136 (.agg #[.bool s, .int .i64 k, .int .i64 x, .int .u64 y]) 1).run Tryz.prog W = .ok (.int .i64 k) W := fun W => by first | rfl | kernel_rfl
  clear hk hb
  go_wp2_with fail
  go_ret
  exact ⟨k, rfl, HK.out, HB.out⟩
end Go.Proofs.YthdbapibbdkclaaGreatDoor
namespace Go.Proofs.YthdbapibbdkclaaGreatDoor
open Go.RowKit
set_option maxRecDepth 10000
set_option linter.unusedVariables false
set_option linter.unusedSimpArgs false

set_option maxHeartbeats 2000000 in
theorem rbround_any (g n f : Nat) (mode : Int) (a : Option Addr) (c : Nat) (l : List (Nat × Nat)) (w : World) (ho : OfOk l) (hn : (bnO l).n ≤ 1099511627776) (hl : l.length < 1099511627776) (f1 : 1 ≤ f) (f2 : f ≤ 8) (h : RB w g f n a c l) :
    Calls Tryz.prog 58 #[.pointer (some ⟨g, 0, none⟩), .int .i64 mode] w (BRoundQ (bnO l) f mode w) := by
  obtain ⟨d, hd, hdy⟩ := kS_dy (bnO_ok hn) f
  have HK := Lib.hid (rbkept_any g n f a c l w ho hn hl f1 f2 h hd)
  have HR : Hid (∀ W a c, Below w.heap.size w W → Own W 95 w.heap.size a c (words d.m) → Calls Tryz.prog 123 #[DV d a c, .int .i64 mode] W fun en w' => (∃ (r : Nat) (er : Int), en = .returned (.tuple #[.float .f64 r, .int .i64 er]) ∧ RoundsTo 52 (-1074) 9218868437227405312 9223372036854775808 mode (zO (-1088) ((bnO l).kS f)) r er) ∧ Below W.heap.size W w') := by
    intro W a c hW ho
    have := rround_any (argOf d a c) mode W (ho.arg hdy.ok)
    rw [argF hdy.is hdy.ok, ← hd] at this
    exact this
  clear h ho hn hl hd hdy
  unfold DV at *
  go_enter Tryz.func58, Tryz.ntmps58
  go_wp2_with fail
  refine HK.out.mono ?_; rintro en w1 ⟨a, c, rfl, ho, hb⟩
  have HR1 := Lib.hid (HR.out w1 a c hb ho)
  have HB := Lib.hid hb
  unfold DV
  clear ho hb
  go_wp2_with fail
  refine HR1.out.mono ?_; rintro en w2 ⟨⟨r, er, rfl, hr⟩, hb⟩
  have HX := Lib.hid hr; have HB2 := Lib.hid (HB.out.trans (hb.mono HB.out.size))
  clear hr hb
  go_wp2_with fail
  go_ret2
  exact ⟨r, er, rfl, HX.out, HB2.out⟩

/-- the sum of finite numbers by bins: rounded to even -/
def RSumQ (l : List Nat) (f : Nat) (w : World) (en : Ending) (w' : World) : Prop := ∃ r : Nat, en = .returned (.float .f64 r) ∧ RoundsTo 52 (-1074) 9218868437227405312 9223372036854775808 0 (zO (-1088) ((bnL l).kS f)) r 0 ∧ Below w.heap.size w w'
set_option maxHeartbeats 4000000 in
theorem rbsum_any (a : Option Addr) (c : Nat) (l : List Nat) (f : Nat) (w : World) (hl : FSl w a c l) (hlen : l.length ≤ 65536) (hf : ∀ x ∈ l, finB x) (f1 : 1 ≤ f) (f2 : f ≤ 8) :
    Calls Tryz.prog 109 #[.slice a l.length c, .int .i64 f, .int .i64 0] w (RSumQ l f w) := by
  have HWf := Lib.hid (w64_getD hl.wf)
  have HL := Lib.hid (fun W (hw : Below w.heap.size w W) => hl.rd.grow hw)
  have HF := Lib.hid hf
  have HW64 : Hid (∀ x ∈ l, x < 18446744073709551616) := hl.wf
  clear hl hf
  go_enter Tryz.func109, Tryz.ntmps109
  go_wp2_with fail
  refine (rbnew_any f w (by omega) (by omega)).mono ?_; rintro en w1 ⟨rfl, hA, hb⟩
  obtain ⟨g, hg⟩ : ∃ g, g = w.heap.size := ⟨_, rfl⟩
  rw [← hg] at hA ⊢
  have HA := Lib.hid hA
  have HB := Lib.hid hb
  have HG : Hid (w.heap.size ≤ g) := by rw [hg]; exact Nat.le_refl _
  clear hA hb hg
  go_wp2_with fail
  go_loopw [8] (fun ii wr => ∃ (k : Nat) (a2 : Option Addr) (c2 : Nat), k ≤ l.length ∧ ii = .int .i64 k ∧ Hid (RB wr g f (k : Nat) a2 c2 ((l.take k).map fun b => (b, 1)) ∧ Below w.heap.size w wr)) (fun ii _ => l.length - (intOf ii).toNat)
  case atStart => exact ⟨0, none, 0, Nat.zero_le _, rfl, by simpa using HA.out, HB.out⟩
  case round =>
    obtain ⟨k, a2, c2, hk, rfl, hH⟩ := hrel
    by_cases hq : k < l.length
    · obtain ⟨bx, ox, rfl, hcx⟩ := (HL.out wr hH.out.2).at hq
      have htk : l.take (k + 1) = l.take k ++ [l.getD k 0] := take_succ_get (by rw [List.getD_eq_getElem?_getD, List.getElem?_eq_getElem hq]; rfl)
      have hmem : l.getD k 0 ∈ l := by rw [List.getD_eq_getElem?_getD, List.getElem?_eq_getElem hq]; exact List.getElem_mem hq
      obtain ⟨x, hx⟩ : ∃ x, x = l.getD k 0 := ⟨_, rfl⟩
      rw [← hx] at hcx htk hmem
      have HAd := Lib.hid (rbadd_any g k x f a2 c2 _ wr (HW64.out x hmem) (HF.out x hmem) (by omega) (by rw [List.length_map, List.length_take]; omega) hH.out.1)
      have HT := Lib.hid htk
      have HBr := Lib.hid hH.out.2
      clear htk hmem hx hH
      go_wp2_with fail
      refine HAd.out.mono ?_; rintro en w2 ⟨rfl, a3, c3, hr, hb⟩
      have HR3 : Hid (RB w2 g f (k + 1 : Nat) a3 c3 ((l.take (k + 1)).map fun b => (b, 1))) := by
        show RB _ _ _ _ _ _ _
        rw [HT.out, List.map_append]; exact hr
      have HB3 := Lib.hid (HBr.out.trans (hb.mono HG.out))
      clear hr hb
      go_wp2_with fail
      go_roundw
      case rel => exact ⟨k + 1, a3, c3, by omega, by go_num, HR3.out, HB3.out⟩
      case measure => simp [intOf]; omega
    · obtain rfl : l.length = k := by omega
      have hh := hH.out
      rw [List.take_length] at hh
      have hO : OfOk (l.map fun b => (b, 1)) := by
        intro p hp
        obtain ⟨x, hx, rfl⟩ := List.mem_map.1 hp
        exact ⟨HW64.out x hx, HF.out x hx⟩
      have hN : (bnO (l.map fun b => (b, 1))).n ≤ 1099511627776 := by rw [bnO_one, bnL_n]; omega
      have HRo := Lib.hid (rbround_any g l.length f 0 a2 c2 _ wr hO hN (by rw [List.length_map]; omega) f1 f2 hh.1)
      have HBl := Lib.hid hh.2
      clear hH hh hO hN
      go_wp2_with fail
      refine HRo.out.mono ?_; rintro en w2 ⟨r, er, rfl, hr, hb⟩
      rw [bnO_one] at hr
      have her : er = 0 := by
        rcases hr with ⟨h1, _⟩ | ⟨_, ⟨h1, _⟩ | ⟨_, _, _, _, _, h1⟩⟩
        · omega
        · obtain ⟨d, hd, _⟩ := kS_dy (bnL_ok (l := l) (by omega)) f
          rw [hd] at h1; cases h1
        · exact h1
      subst her
      have HX := Lib.hid hr
      have HB2 := Lib.hid (HBl.out.trans (hb.mono HBl.out.size))
      clear hr hb
      go_wp2_with fail
      go_ret
      exact ⟨r, rfl, HX.out, HB2.out⟩
end Go.Proofs.YthdbapibbdkclaaGreatDoor
namespace Go.Proofs.YthdbapibbdkclaaGreatDoor
open Go.RowKit
set_option maxRecDepth 10000
set_option linter.unusedVariables false
set_option linter.unusedSimpArgs false

set_option maxHeartbeats 4000000 in
theorem ralike_any (a : Option Addr) (c : Nat) (l : List Nat) (fold : Int) (w : World) (hl : FSl w a c l) : Calls Tryz.prog 45 #[.slice a l.length c, .int .i64 fold] w (AlQ l fold w) := by
  have HZ := Lib.hid (fun W => bofz_any W)
  by_cases m1 : fold < 1
  · go_enter Tryz.func45, Tryz.ntmps45
    go_wp2_with fail
    refine (HZ.out w).mono ?_; rintro en w2 ⟨rfl, rfl⟩
    go_wp2_with fail
    go_ret2
    exact ⟨0, 1, rfl, .inl ⟨.inl m1, rfl, rfl⟩, Below.refl _ _⟩
  by_cases m2 : 8 < fold
  · go_enter Tryz.func45, Tryz.ntmps45
    go_wp2_with fail
    refine (HZ.out w).mono ?_; rintro en w2 ⟨rfl, rfl⟩
    go_wp2_with fail
    go_ret2
    exact ⟨0, 1, rfl, .inl ⟨.inr m2, rfl, rfl⟩, Below.refl _ _⟩
  by_cases m3 : 65536 < l.length
  · go_enter Tryz.func45, Tryz.ntmps45
    go_wp2_with fail
    refine (HZ.out w).mono ?_; rintro en w2 ⟨rfl, rfl⟩
    go_wp2_with fail
    go_ret2
    exact ⟨0, 2, rfl, .inr (.inl ⟨by omega, m3, rfl, rfl⟩), Below.refl _ _⟩
  obtain ⟨f, rfl⟩ : ∃ f : Nat, fold = (f : Int) := ⟨fold.toNat, by omega⟩
  have f1 : 1 ≤ f := by omega
  have f2 : f ≤ 8 := by omega
  have HWf := Lib.hid (w64_getD hl.wf)
  have HL := Lib.hid (fun W (hw : Below w.heap.size w W) => hl.grow hw)
  have hlen : l.length ≤ 65536 := by omega
  clear hl
  go_enter Tryz.func45, Tryz.ntmps45
  go_wp2_with fail
  go_loopw [6] (fun ii wr => ∃ k : Nat, k ≤ l.length ∧ ii = .int .i64 k ∧ Hid ((∀ x ∈ l.take k, finB x) ∧ Below w.heap.size w wr)) (fun ii _ => l.length - (intOf ii).toNat)
  case atStart => exact ⟨0, Nat.zero_le _, rfl, by simp, Below.refl _ _⟩
  case round =>
    obtain ⟨k, hk, rfl, hH⟩ := hrel
    by_cases hq : k < l.length
    · obtain ⟨bx, ox, rfl, hcx⟩ := (HL.out wr hH.out.2).rd.at hq
      have htk : l.take (k + 1) = l.take k ++ [l.getD k 0] := take_succ_get (by rw [List.getD_eq_getElem?_getD, List.getElem?_eq_getElem hq]; rfl)
      have hmem : l.getD k 0 ∈ l := by rw [List.getD_eq_getElem?_getD, List.getElem?_eq_getElem hq]; exact List.getElem_mem hq
      have hbx := HWf.out k
      obtain ⟨x, hx⟩ : ∃ x, x = l.getD k 0 := ⟨_, rfl⟩
      rw [← hx] at hcx htk hmem hbx
      have HCl := Lib.hid (rclass_any x wr hbx)
      have HS := Lib.hid (And.intro htk hmem)
      have HH := Lib.hid hH.out
      clear htk hmem hx hH hbx
      go_wp2_with fail
      refine HCl.out.mono ?_; rintro en w2 ⟨q, rfl, hfin, hb⟩
      have HB2 := Lib.hid (HH.out.2.trans (hb.mono HH.out.2.size))
      by_cases hq2 : 2 < q
      · have HBad := Lib.hid (hfin.1 hq2)
        clear hfin hb
        go_wp2_with fail
        refine (HZ.out w2).mono ?_; rintro en w3 ⟨rfl, rfl⟩
        go_wp2_with fail
        go_ret2
        exact ⟨0, 30, rfl, .inr (.inr (.inl ⟨by omega, hlen, ⟨x, HS.out.2, HBad.out⟩, rfl, rfl⟩)), HB2.out⟩
      · have hgood : finB x := Classical.not_not.1 fun h => hq2 (hfin.2 h)
        have HF2 : Hid (∀ y ∈ l.take (k + 1), finB y) := by
          intro y hy
          rw [HS.out.1] at hy
          rcases List.mem_append.1 hy with h | h
          · exact HH.out.1 y h
          · obtain rfl : y = x := by simpa using h
            exact hgood
        clear hfin hb hgood
        go_wp2_with fail
        go_roundw
        case rel => exact ⟨k + 1, by omega, by go_num, HF2.out, HB2.out⟩
        case measure => simp [intOf]; omega
    · obtain rfl : l.length = k := by omega
      have hh := hH.out
      rw [List.take_length] at hh
      have HSm := Lib.hid (rbsum_any a c l f wr (HL.out wr hh.2) hlen hh.1 f1 f2)
      have HFn := Lib.hid hh.1
      have HBl := Lib.hid hh.2
      clear hH hh
      go_wp2_with fail
      refine HSm.out.mono ?_; rintro en w2 ⟨r, rfl, hr, hb⟩
      have HX := Lib.hid hr
      have HB2 := Lib.hid (HBl.out.trans (hb.mono HBl.out.size))
      clear hr hb
      go_wp2_with fail
      go_ret2
      exact ⟨r, 0, rfl, .inr (.inr (.inr ⟨by omega, hlen, HFn.out, HX.out⟩)), HB2.out⟩
end Go.Proofs.YthdbapibbdkclaaGreatDoor
