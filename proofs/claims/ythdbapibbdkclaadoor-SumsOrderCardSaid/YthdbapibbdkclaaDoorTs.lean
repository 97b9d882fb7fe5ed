/- The walk of SumsOrder. No statement of the seat is proved here. -/
import Derived.Test.YthdbapibbdkclaaDoorProg
import Derived.Test.YthdbapibbdkclaaDoorTr
namespace Go.Proofs.YthdbapibbdkclaaDoor
open Go.RowKit
set_option maxRecDepth 10000
set_option linter.unusedVariables false
set_option linter.unusedSimpArgs false

theorem foldl_perm {α : Type} (f : α → α → α) (g : Nat → α) (hc : ∀ a b, f a b = f b a) (ha : ∀ a b c, f (f a b) c = f a (f b c)) {l m : List Nat} (h : List.Perm l m) : ∀ z, l.foldl (fun A b => f A (g b)) z = m.foldl (fun A b => f A (g b)) z := by
  induction h with
  | nil => intro z; rfl
  | cons x _ ih => intro z; exact ih _
  | swap x y l =>
    intro z
    show l.foldl _ (f (f z (g y)) (g x)) = l.foldl _ (f (f z (g x)) (g y))
    rw [ha, ha, hc (g y)]
  | trans _ _ ih1 ih2 => intro z; exact (ih1 z).trans (ih2 z)
theorem sumL_perm {l m : List Nat} (h : List.Perm l m) : sumL l = sumL m := foldl_perm Ac.sum numT Ac.sum_comm Ac.sum_assoc h Ac.zero
theorem bnL_perm {l m : List Nat} (h : List.Perm l m) : bnL l = bnL m := foldl_perm Bn.sum bn1 Bn.sum_comm Bn.sum_assoc h Bn.zero
theorem ExR.perm {l m : List Nat} {mode pn pi : Int} {r : Nat} {er : Int} (h : List.Perm l m) (k : ExR l mode pn pi r er) : ExR m mode pn pi r er := by
  unfold ExR at *
  rw [← sumL_perm h, ← h.length_eq]; exact k
theorem AlR.perm {l m : List Nat} {fold : Int} {r : Nat} {er : Int} (h : List.Perm l m) (k : AlR l fold r er) : AlR m fold r er := by
  rcases k with k | ⟨a, b, c⟩ | ⟨a, b, ⟨x, hx, hx2⟩, c⟩ | ⟨a, b, c, d⟩
  · exact .inl k
  · exact .inr (.inl ⟨a, by rw [← h.length_eq]; exact b, c⟩)
  · exact .inr (.inr (.inl ⟨a, by rw [← h.length_eq]; exact b, ⟨x, h.mem_iff.1 hx, hx2⟩, c⟩))
  · exact .inr (.inr (.inr ⟨a, by rw [← h.length_eq]; exact b, fun x hx => c x (h.mem_iff.2 hx), by rw [← bnL_perm h]; exact d⟩))
theorem ExR.uniqO {l : List Nat} {mode pn pi : Int} {r r' : Nat} {e e' : Int} (h : ExR l mode pn pi r e) (h' : ExR l mode pn pi r' e') : r = r' ∧ e = e' := by
  rcases h with ⟨a, rfl, rfl⟩ | ⟨a, b, rfl, rfl⟩ | ⟨a, b, c⟩ <;> rcases h' with ⟨a', rfl, rfl⟩ | ⟨a', b', rfl, rfl⟩ | ⟨a', b', c'⟩
  all_goals first
    | exact ⟨rfl, rfl⟩
    | exact absurd a a'
    | exact absurd a' a
    | exact c.uniq c'
    | (exfalso; omega)
theorem exact10_eq (a : Nat) (w : World) : Calls Tryd.prog 42 #[.float .f64 a, .float .f64 a] w fun en w' => en = .returned (.bool true) ∧ w = w' := by
  have := exact10_law a a w
  rw [decide_eq_true rfl] at this
  exact this

set_option maxHeartbeats 8000000 in
theorem sumsorder_any (a1 a3 : Option Addr) (c1 c3 : Nat) (l0 : List Nat) (os : List Int) (mode pn pi fold : Int) (w : World) (hT : Tab w) (hl0 : FSl w a1 c1 l0) (hos : VRd w a3 (os.map fun n => .int .i64 n)) (hob : ∀ n ∈ os, -9223372036854775808 ≤ n ∧ n ≤ 9223372036854775807) :
    Calls Tryd.prog 10 #[.slice a1 l0.length c1, .slice a3 os.length c3, .int .i64 mode, pol pn pi, .int .i64 fold] w fun en w' => en = .returned (.bool true) ∧ Below w.heap.size w w' := by
  obtain ⟨w0, e0⟩ : ∃ W, W = w.alloc (.cells #[.int .i64 pn, .int .i64 pi] 59) := ⟨_, rfl⟩
  obtain ⟨k0, b0, s0⟩ := new_of e0 rfl
  obtain ⟨l, hll⟩ : ∃ l, l = l0.take 300 := ⟨_, rfl⟩
  have hl : FSl w a1 c1 l := by rw [hll]; exact hl0.take 300
  have hlen : l.length ≤ 300 := by rw [hll, List.length_take]; omega
  have hl1 : 300 < l0.length → l.length = 300 := by intro h; rw [hll, List.length_take]; omega
  have hl2 : ¬ 300 < l0.length → l.length = l0.length := by intro h; rw [hll, List.length_take]; omega
  have HLL := Lib.hid (And.intro hl1 hl2)
  have hcap0 : 300 < l0.length → 300 ≤ c1 := by have := hl0.cap; omega
  have HC0 := Lib.hid hcap0
  have HK := Lib.hid (fun W (hw : Below w0.heap.size w0 W) => pol_cells (blk_below k0 hw (by omega)))
  have HL := Lib.hid (fun W (hw : Below w0.heap.size w0 W) => (hl.grow b0).grow hw)
  have HT := Lib.hid (fun W (hw : Below w0.heap.size w0 W) => (hT.grow b0).grow hw)
  have HO := Lib.hid (fun W (hw : Below w0.heap.size w0 W) => (hos.grow b0).grow hw)
  have H1 := Lib.hid (live10_any w0 (hT.grow b0))
  have HOb := Lib.hid hob
  have HB0 := Lib.hid b0
  have E0 := Lib.hid e0
  unfold pol
  clear hl hll hl1 hl2 hcap0 hT hl0 hos hob e0 k0 b0 s0
  go_enter Tryd.func10, Tryd.ntmps10
  go_wp2_with fail
  rw [← E0.out]
  refine H1.out.mono ?_; rintro en w1 ⟨rfl, hb⟩
  have HB1 := Lib.hid hb
  clear hb
  go_upto_if 24 with fail
  go_cut [0] (fun s wx => s = .slice a1 l.length c1 ∧ wx = w1)
  case first =>
    by_cases q : 300 < l0.length
    · have e1 := HLL.out.1 q
      have e2 := HC0.out q
      have E1 := Lib.hid e1
      clear e1
      go_wp2_with fail
      go_meet
      case rel => exact ⟨by rw [E1.out], rfl⟩
    · have e1 := HLL.out.2 q
      have E1 := Lib.hid e1
      clear e1
      go_wp2_with fail
      go_meet
      case rel => exact ⟨by rw [E1.out], rfl⟩
  obtain ⟨rfl, rfl⟩ := hcut
  have HTu := Lib.hid (turned10_any a1 a3 c1 c3 l os wc (HL.out wc HB1.out) (by omega) (HO.out wc HB1.out) HOb.out)
  go_wp2_with fail
  refine HTu.out.mono ?_; rintro en w2 ⟨at', ct, t, rfl, hp, hft, hb⟩
  have HB2 := Lib.hid (HB1.out.trans (hb.mono HB1.out.size))
  have HP := Lib.hid hp
  have HFt := Lib.hid (fun W (hw : Below w2.heap.size w2 W) => hft.grow hw)
  have htl : t.length = l.length := hp.length_eq
  have HTl := Lib.hid htl
  clear hb hp hft htl
  obtain ⟨p0, p1⟩ := HK.out w2 HB2.out
  have hE := sexact_any a1 c1 l mode pn pi w2 (HL.out w2 HB2.out) (HT.out w2 HB2.out)
  unfold pol at hE
  have HE := Lib.hid hE
  clear hE
  go_wp2_with fail
  refine HE.out.mono ?_; rintro en w3 ⟨r1, e1, rfl, hr, hb⟩
  have R1 := Lib.hid hr
  have HC3 := Lib.hid hb
  have HB3 := Lib.hid (HB2.out.trans (hb.mono HB2.out.size))
  clear hr hb p0 p1
  obtain ⟨p0, p1⟩ := HK.out w3 HB3.out
  have hE := sexact_any at' ct t mode pn pi w3 (HFt.out w3 HC3.out) (HT.out w3 HB3.out)
  unfold pol at hE
  have HE2 := Lib.hid hE
  clear hE
  go_wp2_with fail
  refine HE2.out.mono ?_; rintro en w4 ⟨r2, e2, rfl, hr, hb⟩
  obtain ⟨rfl, rfl⟩ := R1.out.uniqO (hr.perm HP.out)
  have HC4 := Lib.hid (HC3.out.trans (hb.mono HC3.out.size))
  have HB4 := Lib.hid (HB3.out.trans (hb.mono HB3.out.size))
  clear hr hb p0 p1
  go_wp2_with fail
  refine (salike_any a1 c1 l fold w4 (HL.out w4 HB4.out) (HT.out w4 HB4.out)).mono ?_; rintro en w5 ⟨r3, e3, rfl, hr, hb⟩
  have R3 := Lib.hid hr
  have HC5 := Lib.hid (HC4.out.trans (hb.mono HC4.out.size))
  have HB5 := Lib.hid (HB4.out.trans (hb.mono HB4.out.size))
  clear hr hb
  go_wp2_with fail
  refine (salike_any at' ct t fold w5 (HFt.out w5 HC5.out) (HT.out w5 HB5.out)).mono ?_; rintro en w6 ⟨r4, e4, rfl, hr, hb⟩
  obtain ⟨rfl, rfl⟩ := R3.out.uniq (hr.perm HP.out)
  have HB6 := Lib.hid (HB5.out.trans (hb.mono HB5.out.size))
  clear hr hb
  go_wp2_with fail
  refine (exact10_eq r1 w6).mono ?_; rintro en w7 ⟨rfl, rfl⟩
  go_wp2_with fail
  refine (exact10_eq r3 w6).mono ?_; rintro en w7 ⟨rfl, rfl⟩
  go_wp2_with fail
  go_ret
  exact ⟨rfl, HB0.out.trans (HB6.out.mono HB0.out.size)⟩
end Go.Proofs.YthdbapibbdkclaaDoor
