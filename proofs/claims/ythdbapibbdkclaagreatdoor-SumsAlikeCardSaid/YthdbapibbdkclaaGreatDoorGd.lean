/- Contracts of steelyardref01.Of, raw, Bits, Lent, AsLent; steelyardref10.one, size, notBelow. No statement of the seat is proved here. -/
import Derived.Test.YthdbapibbdkclaaGreatDoorProg
import Derived.Test.YthdbapibbdkclaaGreatDoorGc
namespace Go.Proofs.YthdbapibbdkclaaGreatDoor
open Go.RowKit
set_option maxRecDepth 10000
set_option linter.unusedVariables false
set_option linter.unusedSimpArgs false

theorem bof_any (b : Nat) (w : World) : Calls Tryz.prog 65 #[.int .u64 b] w fun en w' => en = .returned (.float .f64 b) ∧ w = w' := by
  have h1 := ext_from64 b
  go_enter Tryz.func65, Tryz.ntmps65
  go_wp2_with fail
  go_ret
  exact ⟨rfl, rfl⟩
theorem bofz_any (w : World) : Calls Tryz.prog 65 #[.int .u64 0] w fun en w' => en = .returned (.float .f64 0) ∧ w = w' := bof_any 0 w
theorem bofm_any (w : World) : Calls Tryz.prog 65 #[.int .u64 4693671547643874799] w fun en w' => en = .returned (.float .f64 4693671547643874799) ∧ w = w' := bof_any 4693671547643874799 w
theorem braw_any (b : Nat) (w : World) : Calls Tryz.prog 69 #[.float .f64 b] w fun en w' => en = .returned (.int .u64 b) ∧ w = w' := by
  have h1 := ext_bits64 b
  go_enter Tryz.func69, Tryz.ntmps69
  go_wp2_with fail
  go_ret
  exact ⟨rfl, rfl⟩
theorem bbits_any (b : Nat) (w : World) : Calls Tryz.prog 141 #[.float .f64 b] w fun en w' => en = .returned (.int .u64 (canon b : Nat)) ∧ w = w' := by
  have h1 := ext_bits64 b
  by_cases h : 9218868437227405312 < b % 9223372036854775808
  · rw [canon_nan h]
    have e : (9218868437227405312 : Int) < (b : Int) % 9223372036854775808 := by omega
    clear h
    go_enter Tryz.func141, Tryz.ntmps141
    go_wp2_with fail
    go_ret
    exact ⟨rfl, rfl⟩
  · rw [canon_num (by omega)]
    have e : ¬ (9218868437227405312 : Int) < (b : Int) % 9223372036854775808 := by omega
    clear h
    go_enter Tryz.func141, Tryz.ntmps141
    go_wp2_with fail
    go_ret
    exact ⟨rfl, rfl⟩
theorem one10_any (b : Nat) (w : World) : Calls Tryz.prog 81 #[.float .f64 b] w fun en w' => en = .returned (.float .f64 (canon b)) ∧ w = w' := by
  have HB := Lib.hid (fun W => bbits_any b W)
  have HO := Lib.hid (fun W => bof_any (canon b) W)
  generalize canon b = r at *
  go_enter Tryz.func81, Tryz.ntmps81
  go_wp2_with fail
  refine (HB.out _).mono ?_; rintro en w1 ⟨rfl, rfl⟩
  go_wp2_with fail
  refine (HO.out _).mono ?_; rintro en w1 ⟨rfl, rfl⟩
  go_wp2_with fail
  go_ret
  exact ⟨rfl, rfl⟩
theorem size10_any (b : Nat) (w : World) : Calls Tryz.prog 148 #[.float .f64 b] w fun en w' => en = .returned (.tuple #[.int .u64 (canon b % 9223372036854775808 : Nat), .bool (decide (b % 9223372036854775808 ≤ 9218868437227405312))]) ∧ w = w' := by
  have HB := Lib.hid (fun W => bbits_any b W)
  have e : decide (b % 9223372036854775808 ≤ 9218868437227405312) = decide (canon b % 9223372036854775808 ≤ 9218868437227405312) := by
    by_cases h : 9218868437227405312 < b % 9223372036854775808
    · rw [canon_nan h, decide_eq_false (by omega)]; decide
    · rw [canon_num (by omega)]
  rw [e]
  clear e
  generalize canon b = r at *
  have e1 : (r : Int) % 9223372036854775808 = ((r % 9223372036854775808 : Nat) : Int) := by omega
  generalize r % 9223372036854775808 = m at *
  have e2 : decide ((m : Int) ≤ 9218868437227405312) = decide (m ≤ 9218868437227405312) := decide_eq_decide.2 (by omega)
  go_enter Tryz.func148, Tryz.ntmps148
  go_wp2_with fail
  refine (HB.out _).mono ?_; rintro en w1 ⟨rfl, rfl⟩
  go_wp2_with fail
  go_ret2
  exact ⟨by rw [← e1]; rfl, rfl⟩
theorem notbelow_any (s x : Nat) (w : World) : Calls Tryz.prog 84 #[.float .f64 s, .float .f64 x] w fun en w' => en = .returned (.bool (geA s x)) ∧ w = w' := by
  have HS := Lib.hid (fun W => size10_any s W)
  have HX := Lib.hid (fun W => size10_any x W)
  have e : geA s x = (decide (s % 9223372036854775808 ≤ 9218868437227405312) && decide (x % 9223372036854775808 ≤ 9218868437227405312) && decide (canon x % 9223372036854775808 ≤ canon s % 9223372036854775808)) := by
    unfold geA
    by_cases h1 : s % 9223372036854775808 ≤ 9218868437227405312
    · by_cases h2 : x % 9223372036854775808 ≤ 9218868437227405312
      · rw [canon_num h1, canon_num h2]
      · simp [h2]
    · simp [h1]
  rw [e]
  clear e
  generalize decide (s % 9223372036854775808 ≤ 9218868437227405312) = A at *
  generalize decide (x % 9223372036854775808 ≤ 9218868437227405312) = B at *
  generalize canon s % 9223372036854775808 = p at *
  generalize canon x % 9223372036854775808 = q at *
  have e2 : decide ((q : Int) ≤ (p : Int)) = decide (q ≤ p) := decide_eq_decide.2 (by omega)
  go_enter Tryz.func84, Tryz.ntmps84
  go_wp2_with fail
  refine (HS.out _).mono ?_; rintro en w1 ⟨rfl, rfl⟩
  go_wp2_with fail
  refine (HX.out _).mono ?_; rintro en w1 ⟨rfl, rfl⟩
  cases A <;> cases B
  all_goals
    go_wp2_with fail
    go_ret
    exact ⟨by simp, rfl⟩

theorem fv_ones (l : List Nat) : ∀ u ∈ l.map fv, u.oneCell' = true := fun u hu => by
  obtain ⟨x, _, rfl⟩ := List.mem_map.1 hu; rfl
/-- what stands behind a list that is lent -/
def markF : Nat := 4693671547643874799
def lentK (l : List Nat) (k : Nat) : List Nat := l ++ (List.replicate k markF ++ List.replicate (8 - k) 0)
theorem lentK_len (l : List Nat) {k : Nat} (hk : k ≤ 8) : (lentK l k).length = l.length + 8 := by simp [lentK]; omega
theorem lentK_get (l : List Nat) {k : Nat} (hk : k < 8) : (lentK l k)[l.length + k]? = some 0 := by
  unfold lentK
  rw [List.getElem?_append_right (by omega), Nat.add_sub_cancel_left, List.getElem?_append_right (by simp), List.length_replicate, Nat.sub_self, List.getElem?_replicate, if_pos (by omega)]
theorem lentK_set (l : List Nat) {k : Nat} (hk : k < 8) : (lentK l k).set (l.length + k) markF = lentK l (k + 1) := by
  unfold lentK
  rw [List.set_append_right _ _ (by omega), Nat.add_sub_cancel_left, List.set_append_right _ _ (by simp), List.length_replicate, Nat.sub_self]
  congr 1
  rw [show 8 - k = (8 - (k + 1)) + 1 by omega, List.replicate_succ, List.set_cons_zero, List.replicate_succ', List.append_assoc]; rfl
theorem lentK_all (l : List Nat) : lentK l 8 = l ++ List.replicate 8 markF := by simp [lentK]

/-- what was lent: a list, and the marks behind it -/
def Lent (w : World) (g : Nat) (l : List Nat) : Prop := VBlk w 30 g ((lentK l 8).map fv)
theorem Lent.grow {w w' : World} {g : Nat} {l : List Nat} (h : Lent w g l) (hb : Below w.heap.size w w') : Lent w' g l := VBlk.grow h hb
theorem Lent.fsl {w : World} {g : Nat} {l : List Nat} (h : Lent w g l) (hw : W64L l) : FSl w (some ⟨g, 0, none⟩) (l.length + 8) l := by
  refine ⟨fun i x hx => ⟨g, 0, rfl, ?_⟩, hw, by omega, fun h => by cases h⟩
  rw [Nat.zero_add]
  refine VBlk.cell h ?_
  rw [List.getElem?_map, lentK, List.getElem?_append_left (List.getElem?_eq_some_iff.1 hx).1, hx]; rfl

set_option maxRecDepth 10000 in
set_option maxHeartbeats 4000000 in
theorem lent01_any (a : Option Addr) (c : Nat) (l : List Nat) (w : World) (hl : FSl w a c l) (hlen : l.length ≤ 17592186044416) :
    Calls Tryz.prog 17 #[.slice a l.length c] w fun en w' => en = .returned (.slice (some ⟨w.heap.size, 0, none⟩) l.length (l.length + 8)) ∧ Lent w' w.heap.size l ∧ Below w.heap.size w w' := by
  obtain ⟨i0, hi, hz0, hz1, hz2⟩ := info_f64
  have HR := Lib.hid (fun W (hw : Below w.heap.size w W) => (hl.grow hw).rd.vrd)
  have HSz : Hid ((Tryz.prog.info? 30).map (·.size) = some 1) := by show (Tryz.prog.info? 30).map (·.size) = some 1; rw [hi]; exact congrArg some hz1
  have e1 : IntKind.i64.wrap ((l.length : Int) + 8) = ((l.length + 8 : Nat) : Int) := by rw [IntKind.wrap_i64]; omega
  clear hl
  go_enter Tryz.func17, Tryz.ntmps17
  go_wp2_with (first
    | (at_make; refine wpList_make_vals _ rfl _ _ 49 rfl 30 i0 (.float .f64 0) Tryz.underlying49 hi hz0 rfl hz1 hz2 _ _ _ _ (l.length + 8) rfl rfl (by simp) (by simp) (by omega) ?_; intro w1 hk1 hb1 hsz1)
    | (with_reducible refine wpList_copy_vals (o := ⟨some 11, _, _, _, _, _⟩) rfl _ _ 49 49 rfl 30 Tryz.underlying49 HSz.out w.heap.size (l.length + 8) (l.length + 8) l.length c a (l.map fv) (List.replicate (l.length + 8) (.float .f64 0)) rfl rfl (by simp) (by simp) hk1 (HR.out w1 hb1) (fv_ones l) w.heap.size w hb1 (Nat.le_refl _) ?_; intro w2 hk2 hb2 hg2))
  have HK2 : Hid (VBlk w2 30 w.heap.size ((lentK l 0).map fv)) := by
    refine cast ?_ hk2
    congr 1
    simp [lentK, List.take_of_length_le, fv]
  have HB2 := Lib.hid hb2
  clear hk1 hb1 hsz1 hk2 hb2 hg2
  go_loopw [4] (fun i wr => ∃ k : Nat, k ≤ 8 ∧ i = .int .i64 ((l.length + k : Nat) : Int) ∧ Hid (VBlk wr 30 w.heap.size ((lentK l k).map fv) ∧ Below w.heap.size w wr)) (fun i _ => l.length + 8 - (intOf i).toNat)
  case atStart => exact ⟨0, by decide, by simp, HK2.out, HB2.out⟩
  case round =>
    obtain ⟨k, hk, rfl, hH⟩ := hrel
    obtain ⟨p, hp⟩ : ∃ p, p = l.length + k := ⟨_, rfl⟩
    by_cases hq : k < 8
    · have hst := run_storeF 4693671547643874799
      have hcell := hH.out.1.cell (i := p) (x := fv 0) (by rw [List.getElem?_map, hp, lentK_get l hq]; rfl)
      have hfr := hH.out.1.frozen p
      have HS := Lib.hid (lentK_set l hq)
      have HH := Lib.hid hH.out
      unfold fv at hcell
      have hp1 : p < l.length + 8 := by omega
      have HP := Lib.hid hp
      rw [← hp]
      clear hp hH
      go_wp2_with fail
      refine (bofm_any _).mono ?_; rintro en w3 ⟨rfl, rfl⟩
      go_wp2_with fail
      go_roundw
      case rel =>
        have hp := HP.out
        refine ⟨k + 1, by omega, by go_num, ?_, HH.out.2.setCell (Nat.le_refl _) _⟩
        have := HH.out.1.set p (fv markF)
        rw [← List.map_set, hp, HS.out] at this
        rw [hp]
        exact this
      case measure => have hp := HP.out; simp [intOf]; omega
    · obtain rfl : k = 8 := by omega
      have HK := Lib.hid hH.out.1; have HB := Lib.hid hH.out.2
      clear hH hp hk hq
      go_wp2_with fail
      go_ret
      exact ⟨rfl, HK.out, HB.out⟩

set_option maxRecDepth 10000 in
set_option maxHeartbeats 4000000 in
theorem aslent01_any (g : Nat) (a : Option Addr) (c : Nat) (l : List Nat) (w : World) (hg : Lent w g l) (hl : FSl w a c l) (hlen : l.length ≤ 17592186044416) :
    Calls Tryz.prog 19 #[.slice (some ⟨g, 0, none⟩) l.length (l.length + 8), .slice a l.length c] w fun en w' => en = .returned (.bool true) ∧ Below w.heap.size w w' := by
  have e1 : IntKind.i64.wrap ((l.length : Int) + 8) = ((l.length + 8 : Nat) : Int) := by rw [IntKind.wrap_i64]; omega
  have HG := Lib.hid (fun W (hw : Below w.heap.size w W) => hg.grow hw)
  have HL := Lib.hid (fun W (hw : Below w.heap.size w W) => hl.rd.grow hw)
  have HC := Lib.hid (And.intro hl.cap hl.nil)
  clear hg hl
  go_enter Tryz.func19, Tryz.ntmps19
  go_wp2_with fail
  go_loopw [6, 7] (fun i x wr => ∃ k : Nat, k ≤ l.length + 8 ∧ i = .int .i64 (k : Int) ∧ Hid (Below w.heap.size w wr)) (fun i _ _ => l.length + 8 - (intOf i).toNat)
  case atStart => exact ⟨0, by omega, rfl, Below.refl _ _⟩
  case round =>
    obtain ⟨k, hk, rfl, hH⟩ := hrel
    by_cases hq : k < l.length + 8
    · by_cases hq2 : k < l.length
      · obtain ⟨b, off, rfl, hc0⟩ := (HL.out wr hH.out).at hq2
        obtain ⟨x, hx⟩ : ∃ x, x = l.getD k 0 := ⟨_, rfl⟩
        have hcell := VBlk.cell (HG.out wr hH.out) (i := k) (x := fv x) (by rw [List.getElem?_map, lentK, List.getElem?_append_left hq2, List.getElem?_eq_getElem hq2, hx, List.getD_eq_getElem?_getD, List.getElem?_eq_getElem hq2]; rfl)
        rw [← hx] at hc0
        unfold fv at hcell
        have HH := Lib.hid hH.out
        clear hx hH
        go_wp2_with fail
        refine (braw_any _ _).mono ?_; rintro en w3 ⟨rfl, rfl⟩
        go_wp2_with fail
        refine (braw_any _ _).mono ?_; rintro en w3 ⟨rfl, rfl⟩
        go_wp2_with fail
        go_roundw
        case rel => exact ⟨k + 1, by omega, by go_num, HH.out⟩
        case measure => simp [intOf]; omega
      · have hcell := VBlk.cell (HG.out wr hH.out) (i := k) (x := fv markF) (by rw [List.getElem?_map, lentK_all, List.getElem?_append_right (by omega), List.getElem?_replicate, if_pos (by omega)]; rfl)
        unfold fv markF at hcell
        have HH := Lib.hid hH.out
        clear hH
        go_wp2_with fail
        refine (braw_any _ _).mono ?_; rintro en w3 ⟨rfl, rfl⟩
        go_wp2_with fail
        go_roundw
        case rel => exact ⟨k + 1, by omega, by go_num, HH.out⟩
        case measure => simp [intOf]; omega
    · obtain rfl : k = l.length + 8 := by omega
      have HH := Lib.hid hH.out
      clear hH hk
      go_wp2_with fail
      go_ret
      exact ⟨by simp, HH.out⟩
end Go.Proofs.YthdbapibbdkclaaGreatDoor
