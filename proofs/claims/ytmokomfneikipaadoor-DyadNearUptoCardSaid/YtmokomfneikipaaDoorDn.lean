/- Contracts of dyad.Int and of steelyardref03's Int, Lent, AsLent, Same. No statement of the seat is proved here. -/
import Derived.Test.YtmokomfneikipaaDoorProg
import Derived.Test.YtmokomfneikipaaDoorDm
import Derived.Test.YtmokomfneikipaaDoorRf
namespace Go.Proofs.YtmokomfneikipaaDoor
open Go.RowKit
set_option linter.unusedVariables false
set_option linter.unusedSimpArgs false

/-- a whole number's form -/
def intF (n : Int) : Option D := formF (decide (n < 0)) n.natAbs 0

theorem owns_of {f : FuncId} {args : Array Value} {w : World} {g : Nat} {l : List Nat} (h : Calls Tryd.prog f args w fun e w' => e = .returned (.slice (some ⟨g, 0, none⟩) l.length l.length) ∧ Blk w' 64 g l ∧ Below w.heap.size w w') (hg : w.heap.size ≤ g := by omega) :
    Calls Tryd.prog f args w fun e w' => ∃ a' c', e = .returned (.slice a' l.length c') ∧ Own w' 64 w.heap.size a' c' l ∧ Below w.heap.size w w' :=
  h.mono (by rintro e w' ⟨rfl, h1, h2⟩; exact ⟨_, _, rfl, Own.of h1 hg, h2⟩)

set_option maxRecDepth 10000 in
set_option maxHeartbeats 2000000 in
theorem dint_any (n : Int) (w : World) (h1 : -9223372036854775808 ≤ n) (h2 : n ≤ 9223372036854775807) (hT : Tab w) :
    Calls Tryd.prog 17 #[.int .i64 n] w fun en w' => CameD w w' (outO (intF n)) en := by
  obtain ⟨k, hk⟩ : ∃ k, k = n.natAbs := ⟨_, rfl⟩
  have hk2 : k < 18446744073709551616 := by omega
  have hl : (words k).length ≤ 1073741824 := Nat.le_trans (words_len_le (k := 2) (by omega)) (by omega)
  have hOf := fun W => owns_of (wof_any k W hk2)
  have hFo := fun W s a c base (hw : Below w.heap.size w W) (ho : Own W 64 base a c (words k)) => dform_any s a c (words k) 0 W (by omega) (W32_words k) ho.rd (by decide) (by decide) (hT.grow hw)
  rw [num_words] at hFo
  obtain ⟨b, hb⟩ : ∃ b, b = decide (n < 0) := ⟨_, rfl⟩
  have hF := fun W a c base hw ho => hFo W b a c base hw ho
  have he : formF b k 0 = intF n := by rw [hk, hb]; rfl
  rw [he] at hF
  generalize intF n = o at *
  have HOf := Lib.hid hOf; have HF := Lib.hid hF; clear hOf hF hFo he hT
  have hcase : (n < 0 ∧ b = true ∧ IntKind.u64.wrap n = 18446744073709551616 - (k : Int)) ∨ (¬ n < 0 ∧ b = false ∧ IntKind.u64.wrap n = (k : Int)) := by
    by_cases h : n < 0
    · exact .inl ⟨h, by rw [hb]; simp [h], by rw [IntKind.wrap_u64]; omega⟩
    · exact .inr ⟨h, by rw [hb]; simp [h], by rw [IntKind.wrap_u64]; omega⟩
  clear hb
  have hw2 : IntKind.u64.wrap (0 - (18446744073709551616 - (k : Int))) = (k : Int) ∨ k = 0 := by rw [IntKind.wrap_u64]; omega
  have hw3 : IntKind.u64.wrap (-(18446744073709551616 - (k : Int))) = (k : Int) ∨ k = 0 := by rw [IntKind.wrap_u64]; omega
  have Hk := Lib.hid hk; clear hk
  rcases hcase with ⟨hn, rfl, hw⟩ | ⟨hn, rfl, hw⟩
  all_goals
    have hk0 : k ≠ 0 ∨ ¬ n < 0 := by have := Hk.out; omega
    replace hw2 := hw2.resolve_right
    replace hw3 := hw3.resolve_right
    have hw4 : n < 0 → IntKind.u64.wrap (0 - (18446744073709551616 - (k : Int))) = (k : Int) := fun h => hw2 (by omega)
    have hw5 : n < 0 → IntKind.u64.wrap (-(18446744073709551616 - (k : Int))) = (k : Int) := fun h => hw3 (by omega)
    clear hw2 hw3
    go_enter Tryd.func17, Tryd.ntmps17
    go_wp2_with fail
    (obtain ⟨w1, h1'⟩ : ∃ W, W = (w.alloc (.cells #[.bool false, .slice none 0 0, .int .i64 0] 27)) := ⟨_, rfl⟩; have pinEq := h1'; (try simp only [wr3] at pinEq); rw [← pinEq]; clear pinEq)
    obtain ⟨k1, hB, s1⟩ := new_cel h1' rfl
    clear h1'
    refine (HOf.out w1).mono ?_; rintro en w2 ⟨a1, c1, rfl, ho1, hb1⟩
    (replace k1 := cel_call hb1 k1 (by omega); replace hB := below_call hb1 hB (by omega))
    have s2 := hb1.size
    clear hb1
    go_wp2_with fail
    refine (HF.out w2 _ _ _ hB ho1).mono ?_; rintro en w4 ⟨v, rfl, ⟨a3, c3, rfl, ho3⟩, hb⟩
    (replace ho1 := own_call hb ho1; replace k1 := cel_call hb k1 (by omega); replace hB := below_call hb hB (by omega))
    have s4 := hb.size
    clear hb
    simp only [dyV]
    have q2 := k1.alloc (.cells #[.bool (outO o).neg, .slice a3 (words (outO o).m).length c3, .int .i64 (outO o).exp] 27)
    have hB2 := hB.alloc (by omega) (.cells #[.bool (outO o).neg, .slice a3 (words (outO o).m).length c3, .int .i64 (outO o).exp] 27)
    have ho2 := ho3.grow ((Below.refl _ _).alloc (Nat.le_refl _) (.cells #[.bool (outO o).neg, .slice a3 (words (outO o).m).length c3, .int .i64 (outO o).exp] 27))
    have q4 := Cel.new w4 (.bool (outO o).neg) (.slice a3 (words (outO o).m).length c3) (.int .i64 (outO o).exp)
    obtain ⟨c0, cc1, cc2, _, _, _⟩ := q2.facts
    obtain ⟨_, _, _, _, _, _⟩ := q4.facts
    go_wp2
    refine bodyPost_ret (v := dyV (outO o) a3 c3) (by simp [results, Tryd.results17, go_sem, dyV, c0, cc1, cc2]) rfl ?_
    exact ⟨_, rfl, ⟨a3, c3, rfl, (own_wr3 (g := w.heap.size) ho2 (by omega)).mono (by omega)⟩, below_wr3 (g := w.heap.size) hB2 (by omega)⟩

set_option maxRecDepth 10000 in
set_option maxHeartbeats 2000000 in
theorem rint_any (n : Int) (w : World) (h1 : -9223372036854775808 ≤ n) (h2 : n ≤ 9223372036854775807) :
    Calls Tryd.prog 18 #[.int .i64 n] w fun en w' => CameD w w' (outO (intF n)) en := by
  obtain ⟨k, hk⟩ : ∃ k, k = n.natAbs := ⟨_, rfl⟩
  have hk2 : k < 18446744073709551616 := by omega
  have hl : (words k).length ≤ 1073741824 := Nat.le_trans (words_len_le (k := 2) (by omega)) (by omega)
  have hOf := fun W => rof_any k W hk2
  have hFo := fun W s a c base (hw : Below w.heap.size w W) (ho : Own W 64 base a c (words k)) => rform_any s a c (words k) 0 W hl (ho.sl (W32_words k)) (by decide) (by decide)
  rw [num_words] at hFo
  obtain ⟨b, hb⟩ : ∃ b, b = decide (n < 0) := ⟨_, rfl⟩
  have hF := fun W a c base hw ho => hFo W b a c base hw ho
  have he : formF b k 0 = intF n := by rw [hk, hb]; rfl
  rw [he] at hF
  generalize intF n = o at *
  have HOf := Lib.hid hOf; have HF := Lib.hid hF; clear hOf hF hFo he
  have hcase : (n < 0 ∧ b = true ∧ IntKind.u64.wrap n = 18446744073709551616 - (k : Int)) ∨ (¬ n < 0 ∧ b = false ∧ IntKind.u64.wrap n = (k : Int)) := by
    by_cases h : n < 0
    · exact .inl ⟨h, by rw [hb]; simp [h], by rw [IntKind.wrap_u64]; omega⟩
    · exact .inr ⟨h, by rw [hb]; simp [h], by rw [IntKind.wrap_u64]; omega⟩
  clear hb
  have hw2 : IntKind.u64.wrap (0 - (18446744073709551616 - (k : Int))) = (k : Int) ∨ k = 0 := by rw [IntKind.wrap_u64]; omega
  have hw3 : IntKind.u64.wrap (-(18446744073709551616 - (k : Int))) = (k : Int) ∨ k = 0 := by rw [IntKind.wrap_u64]; omega
  have Hk := Lib.hid hk; clear hk
  rcases hcase with ⟨hn, rfl, hw⟩ | ⟨hn, rfl, hw⟩
  all_goals
    have hk0 : k ≠ 0 ∨ ¬ n < 0 := by have := Hk.out; omega
    replace hw2 := hw2.resolve_right
    replace hw3 := hw3.resolve_right
    have hw4 : n < 0 → IntKind.u64.wrap (0 - (18446744073709551616 - (k : Int))) = (k : Int) := fun h => hw2 (by omega)
    have hw5 : n < 0 → IntKind.u64.wrap (-(18446744073709551616 - (k : Int))) = (k : Int) := fun h => hw3 (by omega)
    clear hw2 hw3
    go_enter Tryd.func18, Tryd.ntmps18
    go_wp2_with fail
    (obtain ⟨w1, h1'⟩ : ∃ W, W = (w.alloc (.cells #[.bool false, .slice none 0 0, .int .i64 0] 27)) := ⟨_, rfl⟩; have pinEq := h1'; (try simp only [wr3] at pinEq); rw [← pinEq]; clear pinEq)
    obtain ⟨k1, hB, s1⟩ := new_cel h1' rfl
    clear h1'
    refine (HOf.out w1).mono ?_; rintro en w2 ⟨a1, c1, rfl, ho1, hb1⟩
    (replace k1 := cel_call hb1 k1 (by omega); replace hB := below_call hb1 hB (by omega))
    have s2 := hb1.size
    clear hb1
    go_wp2_with fail
    refine (HF.out w2 _ _ _ hB ho1).mono ?_; rintro en w4 ⟨v, rfl, ⟨a3, c3, rfl, ho3⟩, hb⟩
    (replace ho1 := own_call hb ho1; replace k1 := cel_call hb k1 (by omega); replace hB := below_call hb hB (by omega))
    have s4 := hb.size
    clear hb
    simp only [dyV]
    have q2 := k1.alloc (.cells #[.bool (outO o).neg, .slice a3 (words (outO o).m).length c3, .int .i64 (outO o).exp] 27)
    have hB2 := hB.alloc (by omega) (.cells #[.bool (outO o).neg, .slice a3 (words (outO o).m).length c3, .int .i64 (outO o).exp] 27)
    have ho2 := ho3.grow ((Below.refl _ _).alloc (Nat.le_refl _) (.cells #[.bool (outO o).neg, .slice a3 (words (outO o).m).length c3, .int .i64 (outO o).exp] 27))
    have q4 := Cel.new w4 (.bool (outO o).neg) (.slice a3 (words (outO o).m).length c3) (.int .i64 (outO o).exp)
    obtain ⟨c0, cc1, cc2, _, _, _⟩ := q2.facts
    obtain ⟨_, _, _, _, _, _⟩ := q4.facts
    go_wp2
    refine bodyPost_ret (v := dyV (outO o) a3 c3) (by simp [results, Tryd.results18, go_sem, dyV, c0, cc1, cc2]) rfl ?_
    exact ⟨_, rfl, ⟨a3, c3, rfl, (own_wr3 (g := w.heap.size) ho2 (by omega)).mono (by omega)⟩, below_wr3 (g := w.heap.size) hB2 (by omega)⟩


set_option maxRecDepth 10000 in
set_option maxHeartbeats 2000000 in
theorem dlent_any (x : Arg) (w : World) (hx : x.Ok w) :
    Calls Tryd.prog 20 #[x.v] w fun en w' => ∃ g, en = .returned (Arg.v ⟨x.s, some ⟨g, 0, none⟩, x.l, x.l.length + 2, x.e⟩) ∧ w.heap.size ≤ g ∧ Blk w' 64 g (x.l ++ [71, 72]) ∧ Below w.heap.size w w' := by
  have hL := fun W (hw : Below w.heap.size w W) => lent_any x.a x.c x.l W (by have := hx.len; omega) (hx.sl.rd.grow hw)
  obtain ⟨s, a, l, c, e⟩ := x
  simp only [Arg.v] at hL ⊢
  have HL := Lib.hid hL; clear hL hx
  go_enter Tryd.func20, Tryd.ntmps20
  go_wp2_with fail
  (obtain ⟨w1, h1⟩ : ∃ W, W = (w.alloc (.cells #[.bool s, .slice a l.length c, .int .i64 e] 27)) := ⟨_, rfl⟩; have pinEq := h1; (try simp only [wr3] at pinEq); rw [← pinEq]; clear pinEq)
  (obtain ⟨w2, h2⟩ : ∃ W, W = (w1.alloc (.cells #[.bool false, .slice none 0 0, .int .i64 0] 27)) := ⟨_, rfl⟩; have pinEq := h2; (try simp only [wr3] at pinEq); rw [← pinEq]; clear pinEq)
  obtain ⟨k1, hB, s1⟩ := new_cel h1 rfl
  obtain ⟨k2, b2, s2⟩ := new_cel h2 s1
  (replace k1 := cel_call b2 k1 (by omega); replace hB := below_call b2 hB (by omega))
  clear h1 h2 b2
  (obtain ⟨q149x0x0, q149x0x1, q149x0x2, q149x0x3, q149x0x4, q149x0x5⟩ := Cel.facts k2; obtain ⟨q149x1x0, q149x1x1, q149x1x2, q149x1x3, q149x1x4, q149x1x5⟩ := Cel.facts k1)
  have b3 : Below w.heap.size w w2.drew := hB.drew
  have hL2 : Calls Tryd.prog 13 #[.slice a l.length c] w2.drew fun en w' => en = .returned (.slice (some ⟨w.heap.size + 1 + 1, 0, none⟩) l.length (l.length + 2)) ∧ Blk w' 64 (w.heap.size + 1 + 1) (l ++ [71, 72]) ∧ Below (w.heap.size + 1 + 1) w2.drew w' := by
    have := HL.out _ b3
    rw [show w2.drew.heap.size = w.heap.size + 1 + 1 from s2] at this
    exact this
  have HL2 := Lib.hid hL2; clear hL2
  have k1' : Cel w2.drew w.heap.size (.bool s) (.slice a l.length c) (.int .i64 e) := k1
  have k2' : Cel w2.drew (w.heap.size + 1) (.bool false) (.slice none 0 0) (.int .i64 0) := k2
  go_region_held3 (fun W => W.cell? ⟨w.heap.size, 0, none⟩ = some (.bool s) ∧ W.cell? ⟨w.heap.size, 1, none⟩ = some (.slice a l.length c) ∧ W.cell? ⟨w.heap.size, 2, none⟩ = some (.int .i64 e)) (go_keep) (first
    | (go_at_call 13; refine HL2.out.mono ?_; rintro en w4 ⟨rfl, hbl, hb4⟩; have k14 := k1'.below hb4 (by omega); have k24 := k2'.below hb4 (by omega); obtain ⟨_, _, _, _, _, _⟩ := k14.facts; obtain ⟨_, _, _, _, _, _⟩ := k24.facts))
  go_wp2
  obtain ⟨c0, cc1, cc2, _, _, _⟩ := k24.facts
  refine bodyPost_ret (v := .agg #[.bool s, .slice (some ⟨w.heap.size + 1 + 1, 0, none⟩) l.length (l.length + 2), .int .i64 e]) (by simp [results, Tryd.results20, go_sem, c0, cc1, cc2]) rfl ?_
  exact ⟨w.heap.size + 1 + 1, rfl, by omega, ((hbl.other (a := ⟨w.heap.size + 1, 0, none⟩) (by simp) _).other (a := ⟨w.heap.size + 1, 1, none⟩) (by simp) _).other (a := ⟨w.heap.size + 1, 2, none⟩) (by simp) _, below_wr3 (g := w.heap.size + 1) (b3.trans (hb4.mono (by omega))) (by omega)⟩

/-- same form: the same sign, the same words, the same power -/
def sameA (x y : Arg) : Bool := x.s == y.s && x.e == y.e && x.l == y.l

set_option maxRecDepth 10000 in
set_option maxHeartbeats 2000000 in
theorem same_any (x y : Arg) (w : World) (hx : x.Ok w) (hy : y.Ok w) (h : x.s = y.s ∧ x.e = y.e ∧ x.l = y.l) :
    Calls Tryd.prog 44 #[x.v, y.v] w fun en w' => en = .returned (.bool true) ∧ Below w.heap.size w w' := by
  have hr1 := fun W (hw : Below w.heap.size w W) => (hx.sl.rd.grow hw)
  have hr2 := fun W (hw : Below w.heap.size w W) => (hy.sl.rd.grow hw)
  have hw32 := hx.sl.w32
  have hlen := hx.len
  obtain ⟨s, a, l, c, e⟩ := x
  obtain ⟨s', a', l', c', e'⟩ := y
  obtain ⟨rfl, rfl, rfl⟩ := h
  simp only [Arg.v] at *
  have HR1 := Lib.hid hr1; have HR2 := Lib.hid hr2; have HW := Lib.hid hw32; clear hr1 hr2 hw32 hx hy
  go_enter Tryd.func44, Tryd.ntmps44
  have e1 : (s != s) = false := by simp
  have e2 : (e != e) = false := by simp
  have e3 : ((l.length : Int) != (l.length : Int)) = false := by simp
  go_wp2_with fail
  (obtain ⟨w1, h1⟩ : ∃ W, W = (w.alloc (.cells #[.bool s, .slice a l.length c, .int .i64 e] 27)) := ⟨_, rfl⟩; have pinEq := h1; (try simp only [wr3] at pinEq); rw [← pinEq]; clear pinEq)
  (obtain ⟨w2, h2⟩ : ∃ W, W = (w1.alloc (.cells #[.bool s, .slice a' l.length c', .int .i64 e] 27)) := ⟨_, rfl⟩; have pinEq := h2; (try simp only [wr3] at pinEq); rw [← pinEq]; clear pinEq)
  obtain ⟨k1, hB, s1⟩ := new_cel h1 rfl
  obtain ⟨k2, b2, s2⟩ := new_cel h2 s1
  (replace k1 := cel_call b2 k1 (by omega); replace hB := below_call b2 hB (by omega))
  clear h1 h2 b2
  go_loopw [5] (fun i wr => ∃ (k q : Nat), k ≤ l.length ∧ i = .int .i64 k ∧ wr = w2.drewN q) (fun i _ => l.length - (intOf i).toNat)
  case atStart => exact ⟨0, 0, Nat.zero_le _, rfl, rfl⟩
  case round =>
    obtain ⟨k, q, hk, rfl, rfl⟩ := hrel
    have k1q : Cel (w2.drewN q) w.heap.size (.bool s) (.slice a l.length c) (.int .i64 e) := k1
    have k2q : Cel (w2.drewN q) (w.heap.size + 1) (.bool s) (.slice a' l.length c') (.int .i64 e) := k2
    obtain ⟨_, _, _, _, _, _⟩ := k1.facts
    obtain ⟨_, _, _, _, _, _⟩ := k2.facts
    by_cases hkl : k < l.length
    · obtain ⟨b1, off1, x, rfl, hc1, hx, HX⟩ := (HR1.out _ hB).at HW.out hkl
      obtain ⟨b2, off2, y, rfl, hc2, hy, HY⟩ := (HR2.out _ hB).at HW.out hkl
      obtain rfl : x = y := by have h1 := HX.out; rw [HY.out] at h1; exact (Option.some.inj h1).symm
      have e4 : ((x : Int) != (x : Int)) = false := by simp
      go_wp2
      go_quiet (fail)
      go_wp2
      go_roundw
      case rel => exact ⟨k + 1, q + nq, by omega, by go_num, rfl⟩
      case measure => simp [intOf]; omega
    · go_wp2
      go_ret
      exact ⟨rfl, below_drewN' hB⟩

theorem grown_of {w w2 w' : World} {v : Option Nat} (hb : Below w.heap.size w w2) (h : w2.grownBy w' v) : w.grownBy w' v :=
  ⟨h.os.trans hb.os, h.tape.trans hb.tape, h.output.trans hb.output, Nat.le_trans hb.size h.size, fun j hj hv => (h.block j (Nat.lt_of_lt_of_le hj hb.size) hv).trans (hb.block j hj)⟩

set_option maxRecDepth 10000 in
set_option maxHeartbeats 2000000 in
theorem daslent_any (x : Arg) (g : Nat) (w : World) (hx : x.Ok w) (hk : Blk w 64 g (x.l ++ [71, 72])) (hne : ∀ ad, x.a = some ad → x.l ≠ [] → ad.block ≠ g) :
    Calls Tryd.prog 23 #[Arg.v ⟨x.s, some ⟨g, 0, none⟩, x.l, x.l.length + 2, x.e⟩, x.v] w fun en w' => en = .returned (.bool true) ∧ w.grownBy w' (some g) := by
  have hA := fun W (hw : Below w.heap.size w W) => aslent_any x.a x.c g x.l W (by have := hx.len; omega) hx.sl.w32 (hx.sl.rd.grow hw) (hk.grow hw) hne
  have hg := hk.lt
  obtain ⟨s, a, l, c, e⟩ := x
  simp only [Arg.v] at hA ⊢
  have HA := Lib.hid hA; clear hA hx hk hne
  go_enter Tryd.func23, Tryd.ntmps23
  have e1 : (s == s) = true := by simp
  have e2 : (e == e) = true := by simp
  go_wp2_with fail
  (obtain ⟨w1, h1⟩ : ∃ W, W = (w.alloc (.cells #[.bool s, .slice (some ⟨g, 0, none⟩) l.length (l.length + 2), .int .i64 e] 27)) := ⟨_, rfl⟩; have pinEq := h1; (try simp only [wr3] at pinEq); rw [← pinEq]; clear pinEq)
  (obtain ⟨w2, h2⟩ : ∃ W, W = (w1.alloc (.cells #[.bool s, .slice a l.length c, .int .i64 e] 27)) := ⟨_, rfl⟩; have pinEq := h2; (try simp only [wr3] at pinEq); rw [← pinEq]; clear pinEq)
  obtain ⟨k1, hB, s1⟩ := new_cel h1 rfl
  obtain ⟨k2, b2, s2⟩ := new_cel h2 s1
  (replace k1 := cel_call b2 k1 (by omega); replace hB := below_call b2 hB (by omega))
  clear h1 h2 b2
  refine (HA.out w2 hB).mono ?_; rintro en w3 ⟨rfl, hb⟩
  have q1 : Cel w3 w.heap.size _ _ _ := (hb.block _ (by omega) (by simp; omega)).trans k1
  have q2 : Cel w3 (w.heap.size + 1) _ _ _ := (hb.block _ (by omega) (by simp; omega)).trans k2
  obtain ⟨_, _, _, _, _, _⟩ := q1.facts
  obtain ⟨_, _, _, _, _, _⟩ := q2.facts
  go_wp2
  go_ret
  exact ⟨rfl, grown_of hB hb⟩
end Go.Proofs.YtmokomfneikipaaDoor
