/- Contracts of dyad.Sub, Neg, Sign and of steelyardref03's turned, Sub, Neg, Sign. Comparing, in numbers; contracts of dyad.size, Cmp. Contracts of steelyardref03.Against, Cmp. Contracts of package steelyardref02: Lent, AsLent. Contracts of dyad.Int and of steelyardref03's Int, Lent, AsLent, Same. Kinds of numbers; contracts of steelyardref03's Of64, Of32, Number. No statement of the seat is proved here. -/
import Derived.Test.YthdbapibbdkclaaDoorProg
import Derived.Test.YthdbapibbdkclaaDoorDg
import Derived.Test.YthdbapibbdkclaaDoorMD
import Derived.Test.YthdbapibbdkclaaDoorMR
namespace Go.Proofs.YthdbapibbdkclaaDoor
open Go.RowKit
set_option linter.unusedVariables false
set_option linter.unusedSimpArgs false

def Arg.opp (x : Arg) : Arg := ⟨!x.s, x.a, x.l, x.c, x.e⟩
theorem Arg.Ok.opp {w : World} {x : Arg} (h : x.Ok w) : x.opp.Ok w := ⟨h.sl, h.len, h.lo, h.hi⟩

set_option maxRecDepth 10000 in
set_option maxHeartbeats 1000000 in
theorem dsub_any (x y : Arg) (w : World) (hx : x.Ok w) (hy : y.Ok w) (hT : Tab w) :
    Calls Tryd.prog 112 #[x.v, y.v] w fun en w' => Came w w' (addO x.F y.opp.F) en := by
  have hF := fun W hw => dadd_any x y.opp W (hx.grow hw) (hy.grow hw).opp (hT.grow hw)
  generalize addO x.F y.opp.F = o at *
  have HF := Lib.hid hF; clear hF hx hy hT
  obtain ⟨s, a, l, c, e⟩ := x
  obtain ⟨s', a', l', c', e'⟩ := y
  simp only [Arg.v, Arg.opp] at HF ⊢
  go_enter Tryd.func112, Tryd.ntmps112
  go_wp2_with fail
  (obtain ⟨w1, h1⟩ : ∃ W, W = (w.alloc (.cells #[.bool s, .slice a l.length c, .int .i64 e] 28)) := ⟨_, rfl⟩; have pinEq := h1; (try simp only [wr3] at pinEq); rw [← pinEq]; clear pinEq)
  (obtain ⟨w2, h2⟩ : ∃ W, W = (w1.alloc (.cells #[.bool (!s'), .slice a' l'.length c', .int .i64 e'] 28)) := ⟨_, rfl⟩; have pinEq := h2; (try simp only [wr3] at pinEq); rw [← pinEq]; clear pinEq)
  (obtain ⟨w3, h3⟩ : ∃ W, W = (w2.alloc (.cells #[.bool false, .slice none 0 0, .int .i64 0] 28)) := ⟨_, rfl⟩; have pinEq := h3; (try simp only [wr3] at pinEq); rw [← pinEq]; clear pinEq)
  obtain ⟨k1, hB, s1⟩ := new_cel h1 rfl
  obtain ⟨k2, b2, s2⟩ := new_cel h2 s1
  (replace k1 := cel_call b2 k1 (by omega); replace hB := below_call b2 hB (by omega))
  obtain ⟨k3, b3, s3⟩ := new_cel h3 s2
  (replace k2 := cel_call b3 k2 (by omega); replace b2 := below_call b3 b2 (by omega); replace k1 := cel_call b3 k1 (by omega); replace hB := below_call b3 hB (by omega))
  clear h1 h2 h3 b2 b3
  refine (HF.out w3 hB).mono ?_; rintro en w4 ⟨v, rfl, ⟨a1, c1, rfl, ho1⟩, hb⟩
  (replace k3 := cel_call hb k3 (by omega); replace k2 := cel_call hb k2 (by omega); replace k1 := cel_call hb k1 (by omega); replace hB := below_call hb hB (by omega))
  have s4 := hb.size
  clear hb k2
  simp only [dyV]
  (obtain ⟨q39x0x0, q39x0x1, q39x0x2, q39x0x3, q39x0x4, q39x0x5⟩ := Cel.facts k3; obtain ⟨q39x1x0, q39x1x1, q39x1x2, q39x1x3, q39x1x4, q39x1x5⟩ := Cel.facts k1)
  go_wp2
  obtain ⟨c0, cc1, cc2, _, _, _⟩ := k3.facts
  refine bodyPost_ret (v := .tuple #[dyV (outO o) a1 c1, .int .i64 (errO o)]) (by simp [results, Tryd.results112, go_sem, dyV, c0, cc1, cc2]) rfl ?_
  exact ⟨_, rfl, ⟨a1, c1, rfl, (own_wr3 (g := w.heap.size + 1 + 1) ho1 (by omega)).mono (by omega)⟩, below_wr3 (g := w.heap.size + 1 + 1) hB (by omega)⟩

set_option maxRecDepth 10000 in
set_option maxHeartbeats 1000000 in
theorem turned_any (x : Arg) (w : World) :
    Calls Tryd.prog 78 #[x.v] w fun en w' => en = .returned x.opp.v ∧ Below w.heap.size w w' := by
  obtain ⟨s, a, l, c, e⟩ := x
  simp only [Arg.v, Arg.opp]
  go_enter Tryd.func78, Tryd.ntmps78
  go_wp2
  have hb1 := (Below.refl w.heap.size w).alloc (Nat.le_refl _) (.cells #[.bool s, .slice a l.length c, .int .i64 e] 28)
  have hb2 := hb1.alloc (by rw [World.size_alloc]; omega) (.cells #[.bool (!s), .slice a l.length c, .int .i64 e] 28)
  have k := Cel.new (w.alloc (.cells #[.bool s, .slice a l.length c, .int .i64 e] 28)) (.bool (!s)) (.slice a l.length c) (.int .i64 e)
  rw [World.size_alloc] at k
  obtain ⟨c0, cc1, cc2, _, _, _⟩ := k.facts
  refine bodyPost_ret (v := .agg #[.bool (!s), .slice a l.length c, .int .i64 e]) (by simp [results, Tryd.results78, go_sem, c0, cc1, cc2]) rfl ?_
  exact ⟨rfl, hb2⟩

set_option maxRecDepth 10000 in
set_option maxHeartbeats 1000000 in
theorem rsub_any (x y : Arg) (w : World) (hx : x.Ok w) (hy : y.Ok w) :
    Calls Tryd.prog 26 #[x.v, y.v] w fun en w' => Came w w' (addO x.F y.opp.F) en := by
  have hF := fun W hw => radd_any x y.opp W (hx.grow hw) (hy.grow hw).opp
  have hT := fun W => turned_any y W
  generalize addO x.F y.opp.F = o at *
  have HF := Lib.hid hF; have HT := Lib.hid hT; clear hF hx hy hT
  obtain ⟨s, a, l, c, e⟩ := x
  obtain ⟨s', a', l', c', e'⟩ := y
  simp only [Arg.v, Arg.opp] at HF HT ⊢
  go_enter Tryd.func26, Tryd.ntmps26
  go_wp2_with fail
  (obtain ⟨w1, h1⟩ : ∃ W, W = (w.alloc (.cells #[.bool s, .slice a l.length c, .int .i64 e] 28)) := ⟨_, rfl⟩; have pinEq := h1; (try simp only [wr3] at pinEq); rw [← pinEq]; clear pinEq)
  (obtain ⟨w2, h2⟩ : ∃ W, W = (w1.alloc (.cells #[.bool s', .slice a' l'.length c', .int .i64 e'] 28)) := ⟨_, rfl⟩; have pinEq := h2; (try simp only [wr3] at pinEq); rw [← pinEq]; clear pinEq)
  (obtain ⟨w3, h3⟩ : ∃ W, W = (w2.alloc (.cells #[.bool false, .slice none 0 0, .int .i64 0] 28)) := ⟨_, rfl⟩; have pinEq := h3; (try simp only [wr3] at pinEq); rw [← pinEq]; clear pinEq)
  obtain ⟨k1, hB, s1⟩ := new_cel h1 rfl
  obtain ⟨k2, b2, s2⟩ := new_cel h2 s1
  (replace k1 := cel_call b2 k1 (by omega); replace hB := below_call b2 hB (by omega))
  obtain ⟨k3, b3, s3⟩ := new_cel h3 s2
  (replace k2 := cel_call b3 k2 (by omega); replace b2 := below_call b3 b2 (by omega); replace k1 := cel_call b3 k1 (by omega); replace hB := below_call b3 hB (by omega))
  clear h1 h2 h3 b2 b3
  (obtain ⟨q83x0x0, q83x0x1, q83x0x2, q83x0x3, q83x0x4, q83x0x5⟩ := Cel.facts k3; obtain ⟨q83x1x0, q83x1x1, q83x1x2, q83x1x3, q83x1x4, q83x1x5⟩ := Cel.facts k2; obtain ⟨q83x2x0, q83x2x1, q83x2x2, q83x2x3, q83x2x4, q83x2x5⟩ := Cel.facts k1)
  go_region_with (first
    | (go_at_call 78; refine (HT.out _).mono ?_; rintro en w4 ⟨rfl, hb⟩; have q1 := k1.below (below_drewN (n := 1) hb) (by have := k1.lt; simpa using this); obtain ⟨_, _, _, _, _, _⟩ := q1.facts)
    | (go_at_call 25; refine (HF.out _ (hB.trans ((below_drewN (n := 1) hb).mono (by simp; omega)))).mono ?_; rintro en w5 ⟨v, rfl, ⟨a1, c1, rfl, ho1⟩, hb2⟩; have q3 := (k3.below (below_drewN (n := 1) hb) (by have := k3.lt; simpa using this)); have q4 := q3.below hb2 q3.lt; obtain ⟨_, _, _, _, _, _⟩ := q4.facts; simp only [dyV]))
  all_goals
    go_wp2
    have z1 := hb.size
    have z2 := hb2.size
    simp only [World.size_drew] at z1
    obtain ⟨c0, cc1, cc2, _, _, _⟩ := q4.facts
    refine bodyPost_ret (v := .tuple #[dyV (outO o) a1 c1, .int .i64 (errO o)]) (by simp [results, Tryd.results26, go_sem, dyV, c0, cc1, cc2]) rfl ?_
    exact ⟨_, rfl, ⟨a1, c1, rfl, (own_wr3 (g := w.heap.size + 1 + 1) ho1 (by omega)).mono (by omega)⟩, below_wr3 (g := w.heap.size + 1 + 1) ((hB.trans ((below_drewN (n := 1) hb).mono (by simp; omega))).trans (hb2.mono (by omega))) (by omega)⟩

/-- a Dyad comes out alone -/
def CameD (w w' : World) (d : D) (e : Ending) : Prop := ∃ v, e = .returned v ∧ DOwn w' w.heap.size d v ∧ Below w.heap.size w w'

set_option maxRecDepth 10000 in
set_option maxHeartbeats 1000000 in
theorem dneg_any (x : Arg) (w : World) (hx : x.Ok w) (hT : Tab w) :
    Calls Tryd.prog 55 #[x.v] w fun en w' => CameD w w' (outO x.opp.F) en := by
  have hF := fun W (hw : Below w.heap.size w W) => dform_any (!x.s) x.a x.c x.l x.e W (by have := hx.len; omega) hx.sl.w32 (hx.sl.rd.grow hw) hx.lo hx.hi (hT.grow hw)
  have he : x.opp.F = formF (!x.s) (num x.l) x.e := rfl
  rw [← he] at hF
  generalize x.opp.F = o at *
  have HF := Lib.hid hF; clear hF hx he
  obtain ⟨s, a, l, c, e⟩ := x
  simp only [Arg.v] at HF ⊢
  go_enter Tryd.func55, Tryd.ntmps55
  go_wp2_with fail
  (obtain ⟨w1, h1⟩ : ∃ W, W = (w.alloc (.cells #[.bool s, .slice a l.length c, .int .i64 e] 28)) := ⟨_, rfl⟩; have pinEq := h1; (try simp only [wr3] at pinEq); rw [← pinEq]; clear pinEq)
  (obtain ⟨w2, h2⟩ : ∃ W, W = (w1.alloc (.cells #[.bool false, .slice none 0 0, .int .i64 0] 28)) := ⟨_, rfl⟩; have pinEq := h2; (try simp only [wr3] at pinEq); rw [← pinEq]; clear pinEq)
  obtain ⟨k1, hB, s1⟩ := new_cel h1 rfl
  obtain ⟨k2, b2, s2⟩ := new_cel h2 s1
  (replace k1 := cel_call b2 k1 (by omega); replace hB := below_call b2 hB (by omega))
  clear h1 h2 b2
  refine (HF.out w2 hB).mono ?_; rintro en w4 ⟨v, rfl, ⟨a1, c1, rfl, ho1⟩, hb⟩
  (replace k2 := cel_call hb k2 (by omega); replace k1 := cel_call hb k1 (by omega); replace hB := below_call hb hB (by omega))
  have s4 := hb.size
  clear hb k1
  simp only [dyV]
  have q2 := k2.alloc (.cells #[.bool (outO o).neg, .slice a1 (words (outO o).m).length c1, .int .i64 (outO o).exp] 28)
  have hB2 := hB.alloc (by omega) (.cells #[.bool (outO o).neg, .slice a1 (words (outO o).m).length c1, .int .i64 (outO o).exp] 28)
  have ho2 := ho1.grow ((Below.refl _ _).alloc (Nat.le_refl _) (.cells #[.bool (outO o).neg, .slice a1 (words (outO o).m).length c1, .int .i64 (outO o).exp] 28))
  have q4 := Cel.new w4 (.bool (outO o).neg) (.slice a1 (words (outO o).m).length c1) (.int .i64 (outO o).exp)
  obtain ⟨c0, cc1, cc2, _, _, _⟩ := q2.facts
  obtain ⟨_, _, _, _, _, _⟩ := q4.facts
  go_wp2
  refine bodyPost_ret (v := dyV (outO o) a1 c1) (by simp [results, Tryd.results55, go_sem, dyV, c0, cc1, cc2]) rfl ?_
  exact ⟨_, rfl, ⟨a1, c1, rfl, (own_wr3 (g := w.heap.size + 1) ho2 (by omega)).mono (by omega)⟩, below_wr3 (g := w.heap.size + 1) hB2 (by omega)⟩

set_option maxRecDepth 10000 in
set_option maxHeartbeats 1000000 in
theorem rneg_any (x : Arg) (w : World) (hx : x.Ok w) :
    Calls Tryd.prog 27 #[x.v] w fun en w' => CameD w w' (outO x.opp.F) en := by
  have hF := fun W (hw : Below w.heap.size w W) => rform_any (!x.s) x.a x.c x.l x.e W hx.len (hx.sl.grow hw) hx.lo hx.hi
  have he : x.opp.F = formF (!x.s) (num x.l) x.e := rfl
  rw [← he] at hF
  generalize x.opp.F = o at *
  have HF := Lib.hid hF; clear hF hx he
  obtain ⟨s, a, l, c, e⟩ := x
  simp only [Arg.v] at HF ⊢
  go_enter Tryd.func27, Tryd.ntmps27
  go_wp2_with fail
  (obtain ⟨w1, h1⟩ : ∃ W, W = (w.alloc (.cells #[.bool s, .slice a l.length c, .int .i64 e] 28)) := ⟨_, rfl⟩; have pinEq := h1; (try simp only [wr3] at pinEq); rw [← pinEq]; clear pinEq)
  (obtain ⟨w2, h2⟩ : ∃ W, W = (w1.alloc (.cells #[.bool false, .slice none 0 0, .int .i64 0] 28)) := ⟨_, rfl⟩; have pinEq := h2; (try simp only [wr3] at pinEq); rw [← pinEq]; clear pinEq)
  obtain ⟨k1, hB, s1⟩ := new_cel h1 rfl
  obtain ⟨k2, b2, s2⟩ := new_cel h2 s1
  (replace k1 := cel_call b2 k1 (by omega); replace hB := below_call b2 hB (by omega))
  clear h1 h2 b2
  refine (HF.out w2 hB).mono ?_; rintro en w4 ⟨v, rfl, ⟨a1, c1, rfl, ho1⟩, hb⟩
  (replace k2 := cel_call hb k2 (by omega); replace k1 := cel_call hb k1 (by omega); replace hB := below_call hb hB (by omega))
  have s4 := hb.size
  clear hb k1
  simp only [dyV]
  have q2 := k2.alloc (.cells #[.bool (outO o).neg, .slice a1 (words (outO o).m).length c1, .int .i64 (outO o).exp] 28)
  have hB2 := hB.alloc (by omega) (.cells #[.bool (outO o).neg, .slice a1 (words (outO o).m).length c1, .int .i64 (outO o).exp] 28)
  have ho2 := ho1.grow ((Below.refl _ _).alloc (Nat.le_refl _) (.cells #[.bool (outO o).neg, .slice a1 (words (outO o).m).length c1, .int .i64 (outO o).exp] 28))
  have q4 := Cel.new w4 (.bool (outO o).neg) (.slice a1 (words (outO o).m).length c1) (.int .i64 (outO o).exp)
  obtain ⟨c0, cc1, cc2, _, _, _⟩ := q2.facts
  obtain ⟨_, _, _, _, _, _⟩ := q4.facts
  go_wp2
  refine bodyPost_ret (v := dyV (outO o) a1 c1) (by simp [results, Tryd.results27, go_sem, dyV, c0, cc1, cc2]) rfl ?_
  exact ⟨_, rfl, ⟨a1, c1, rfl, (own_wr3 (g := w.heap.size + 1) ho2 (by omega)).mono (by omega)⟩, below_wr3 (g := w.heap.size + 1) hB2 (by omega)⟩

def Arg.sign (x : Arg) : Int := if num x.l = 0 then 0 else if x.s then -1 else 1

set_option maxRecDepth 10000 in
set_option maxHeartbeats 1000000 in
theorem dsign_any (x : Arg) (w : World) (hx : x.Ok w) :
    Calls Tryd.prog 54 #[x.v] w fun en w' => en = .returned (.int .i64 x.sign) ∧ Below w.heap.size w w' := by
  have hF := fun W (hw : Below w.heap.size w W) => len_any x.a x.c x.l W (by have := hx.len; omega)
  have hcap := hx.sl.cap
  have hr := fun W (hw : Below w.heap.size w W) => hx.sl.rd.grow hw
  have hw32 := hx.sl.w32
  have hz : num x.l = 0 ∨ 0 < bitLen (num x.l) := by
    rcases Nat.eq_zero_or_pos (num x.l) with h | h
    · exact .inl h
    · exact .inr (bitLen_pos (by omega))
  have hb1 := (Below.refl w.heap.size w).alloc (Nat.le_refl _) (.cells #[.bool x.s, .slice x.a x.l.length x.c, .int .i64 x.e] 28)
  have hL := hF _ hb1 hcap hw32 (hr _ hb1)
  have HB := Lib.hid hb1
  obtain ⟨s, a, l, c, e⟩ := x
  simp only [Arg.v, Arg.sign] at *
  generalize num l = n at *
  have HL := Lib.hid hL; clear hL hF hr hw32 hb1 hx hcap
  go_enter Tryd.func54, Tryd.ntmps54
  go_wp2_with fail
  refine HL.out.mono ?_; rintro en w1 ⟨rfl, rfl⟩
  rcases hz with rfl | hz
  · rw [bitLen_zero]
    go_wp2
    go_ret
    exact ⟨rfl, HB.out⟩
  · have hn : n ≠ 0 := by rintro rfl; rw [bitLen_zero] at hz; omega
    cases s with
    | true =>
      go_wp2
      go_ret
      exact ⟨rfl, HB.out⟩
    | false =>
      go_wp2
      go_ret
      exact ⟨rfl, HB.out⟩

set_option maxRecDepth 10000 in
set_option maxHeartbeats 1000000 in
theorem rsign_any (x : Arg) (w : World) (hx : x.Ok w) :
    Calls Tryd.prog 28 #[x.v] w fun en w' => en = .returned (.int .i64 x.sign) ∧ Below w.heap.size w w' := by
  have hF := fun W (hw : Below w.heap.size w W) => rlen_any x.a x.c x.l W (by have := hx.len; omega)
  have hcap := hx.sl.cap
  have hr := fun W (hw : Below w.heap.size w W) => hx.sl.rd.grow hw
  have hw32 := hx.sl.w32
  have hz : num x.l = 0 ∨ 0 < bitLen (num x.l) := by
    rcases Nat.eq_zero_or_pos (num x.l) with h | h
    · exact .inl h
    · exact .inr (bitLen_pos (by omega))
  have hb1 := (Below.refl w.heap.size w).alloc (Nat.le_refl _) (.cells #[.bool x.s, .slice x.a x.l.length x.c, .int .i64 x.e] 28)
  have hL := hF _ hb1 hw32 (hr _ hb1)
  have HB := Lib.hid hb1
  obtain ⟨s, a, l, c, e⟩ := x
  simp only [Arg.v, Arg.sign] at *
  generalize num l = n at *
  have HL := Lib.hid hL; clear hL hF hr hw32 hb1 hx hcap
  go_enter Tryd.func28, Tryd.ntmps28
  go_wp2_with fail
  refine HL.out.mono ?_; rintro en w1 ⟨rfl, rfl⟩
  rcases hz with rfl | hz
  · rw [bitLen_zero]
    go_wp2
    go_ret
    exact ⟨rfl, HB.out⟩
  · have hn : n ≠ 0 := by rintro rfl; rw [bitLen_zero] at hz; omega
    cases s with
    | true =>
      go_wp2
      go_ret
      exact ⟨rfl, HB.out⟩
    | false =>
      go_wp2
      go_ret
      exact ⟨rfl, HB.out⟩
end Go.Proofs.YthdbapibbdkclaaDoor
namespace Go.Proofs.YthdbapibbdkclaaDoor
open Go.RowKit
set_option linter.unusedVariables false
set_option linter.unusedSimpArgs false

/-- how m times two to the power e stands to n times two to the power f -/
def magCmp (m : Nat) (e : Int) (n : Nat) (f : Int) : Int :=
  if f ≤ e then cmpN (m * 2 ^ (e - f).toNat) n else cmpN m (n * 2 ^ (f - e).toNat)
theorem cmpN_swap (a b : Nat) : cmpN a b = - cmpN b a := by
  unfold cmpN; split <;> (try split) <;> (try split) <;> omega
theorem magCmp_swap (m : Nat) (e : Int) (n : Nat) (f : Int) : magCmp m e n f = - magCmp n f m e := by
  unfold magCmp
  split <;> split
  · obtain rfl : e = f := by omega
    simp only [Int.sub_self, Int.toNat_zero, Nat.pow_zero, Nat.mul_one]; exact cmpN_swap _ _
  · exact cmpN_swap _ _
  · exact cmpN_swap _ _
  · omega
theorem lt_of_bitLen {a b : Nat} (h : bitLen a < bitLen b) : a < b := by
  rcases Nat.lt_or_ge a b with h1 | h1
  · exact h1
  · have h2 := bitLen_spec a
    have h3 := bitLen_spec b
    have : b < 2 ^ bitLen a := by omega
    have := bitLen_lt this
    omega

set_option maxRecDepth 10000 in
set_option maxHeartbeats 8000000 in
theorem size_ge (x y : Arg) (w : World) (hx : x.Ok w) (hy : y.Ok w) (hm : num x.l ≠ 0) (hn : num y.l ≠ 0) (hge : y.e ≤ x.e) :
    Calls Tryd.prog 102 #[x.v, y.v] w fun en w' => en = .returned (.int .i64 (magCmp (num x.l) x.e (num y.l) y.e)) ∧ Below w.heap.size w w' := by
  obtain ⟨up, hup⟩ : ∃ up : Nat, (up : Int) = x.e - y.e := ⟨(x.e - y.e).toNat, by omega⟩
  have hres : magCmp (num x.l) x.e (num y.l) y.e = cmpN (num x.l * 2 ^ up) (num y.l) := by
    unfold magCmp; rw [if_pos hge, show (x.e - y.e).toNat = up by omega]
  obtain ⟨r, hr0⟩ : ∃ r, r = cmpN (num x.l * 2 ^ up) (num y.l) := ⟨_, rfl⟩
  rw [hres, ← hr0]
  have hL1 := fun W (hw : Below w.heap.size w W) => len_any x.a x.c x.l W (by have := hx.len; omega) hx.sl.cap hx.sl.w32 (hx.sl.rd.grow hw)
  have hL2 := fun W (hw : Below w.heap.size w W) => len_any y.a y.c y.l W (by have := hy.len; omega) hy.sl.cap hy.sl.w32 (hy.sl.rd.grow hw)
  have hN := fun W (hw : Below w.heap.size w W) => norm_any x.a x.c x.l W (by have := hx.len; omega) hx.sl.w32 (hx.sl.rd.grow hw)
  have hbl := words_bitLen (Nat.le_refl (words (num y.l)).length)
  have hwl := words_num_len hy.sl.w32
  have hbl1 := words_bitLen (Nat.le_refl (words (num x.l)).length)
  have hwl1 := words_num_len hx.sl.w32
  have hlx := hx.len
  have hly := hy.len
  have hC := fun W a c L (hw : Below w.heap.size w W) (h1 : L.length ≤ 70368744177664) (h2 : L.length ≤ c) (h3 : W32 L) (h4 : Rd W a L) => cmp_any a y.a c y.c L y.l W h1 h2 h3 h4 (by have := hy.len; omega) hy.sl.cap hy.sl.w32 (hy.sl.rd.grow hw)
  have xlo := hx.lo; have xhi := hx.hi; have ylo := hy.lo; have yhi := hy.hi
  obtain ⟨s, a, l, c, e⟩ := x
  obtain ⟨s', a', l', c', e'⟩ := y
  dsimp only at *
  have hwr : IntKind.u64.wrap (IntKind.u64.wrap e - IntKind.u64.wrap e') = (up : Int) := by
    rw [IntKind.wrap_u64, IntKind.wrap_u64, IntKind.wrap_u64]; omega
  generalize num l' = N at *
  obtain ⟨M, hM⟩ : ∃ M, M = num l := ⟨_, rfl⟩
  rw [← hM] at hm hL1 hN hbl1 hwl1 hr0
  have HR0 := Lib.hid hr0
  have HL1 := Lib.hid hL1; have HL2 := Lib.hid hL2; have HN := Lib.hid hN; have HC := Lib.hid hC; have HM := Lib.hid hM; clear hL1 hL2 hN hC hx hy hres hM hr0
  simp only [Arg.v]
  go_enter Tryd.func102, Tryd.ntmps102
  go_wp2_with fail
  (obtain ⟨w1, h1⟩ : ∃ W, W = (w.alloc (.cells #[.bool s, .slice a l.length c, .int .i64 e] 28)) := ⟨_, rfl⟩; have pinEq := h1; (try simp only [wr3] at pinEq); rw [← pinEq]; clear pinEq)
  (obtain ⟨w2, h2⟩ : ∃ W, W = (w1.alloc (.cells #[.bool s', .slice a' l'.length c', .int .i64 e'] 28)) := ⟨_, rfl⟩; have pinEq := h2; (try simp only [wr3] at pinEq); rw [← pinEq]; clear pinEq)
  obtain ⟨k1, hB, s1⟩ := new_cel h1 rfl
  obtain ⟨k2, b2, s2⟩ := new_cel h2 s1
  (replace k1 := cel_call b2 k1 (by omega); replace hB := below_call b2 hB (by omega))
  clear h1 h2 b2
  (obtain ⟨q72x0x0, q72x0x1, q72x0x2, q72x0x3, q72x0x4, q72x0x5⟩ := Cel.facts k2; obtain ⟨q72x1x0, q72x1x1, q72x1x2, q72x1x3, q72x1x4, q72x1x5⟩ := Cel.facts k1)
  have u1 : IntKind.u64.wrap (bitLen M : Int) = (bitLen M : Int) := by rw [IntKind.wrap_u64]; omega
  have u2 : IntKind.u64.wrap (bitLen N : Int) = (bitLen N : Int) := by rw [IntKind.wrap_u64]; omega
  have q1 : ∀ n, Calls Tryd.prog 111 #[.slice a l.length c] (w2.drewN n) fun e w'' => e = .returned (.int .i64 (bitLen M)) ∧ w'' = w2.drewN n := fun n => (HL1.out _ (below_drewN' hB)).mono (by rintro en w3 ⟨rfl, rfl⟩; exact ⟨rfl, rfl⟩)
  have q2 : ∀ n, Calls Tryd.prog 111 #[.slice a' l'.length c'] (w2.drewN n) fun e w'' => e = .returned (.int .i64 (bitLen N)) ∧ w'' = w2.drewN n := fun n => (HL2.out _ (below_drewN' hB)).mono (by rintro en w3 ⟨rfl, rfl⟩; exact ⟨rfl, rfl⟩)
  have Q1 := Lib.hid q1; have Q2 := Lib.hid q2; clear q1 q2
  go_quiet (first
    | (go_at_call 111; with_reducible exact Calls.quiet_of_same (Q1.out _))
    | (go_at_call 111; with_reducible exact Calls.quiet_of_same (Q2.out _)))
  have hBq : Below w.heap.size w (w2.drewN nq) := below_drewN' hB
  have HBQ := Lib.hid hBq; clear hBq
  have hmb := bitLen_mul up hm
  have hpos := bitLen_pos hm
  have HMB := Lib.hid hmb; clear hmb
  have HMZ := Lib.hid hm; have HNZ := Lib.hid hn; clear hm hn
  by_cases c1 : bitLen N < up
  · have hr : r = 1 := by rw [HR0.out]; exact cmpN_gt (lt_of_bitLen (by rw [HMB.out]; omega))
    have HR := Lib.hid hr; clear hr
    go_wp2
    go_ret
    exact ⟨by rw [HR.out]; rfl, HBQ.out⟩
  by_cases c2 : bitLen N < bitLen M + up
  · have hr : r = 1 := by rw [HR0.out]; exact cmpN_gt (lt_of_bitLen (by rw [HMB.out]; omega))
    have HR := Lib.hid hr; clear hr
    have e1 : IntKind.u64.wrap ((bitLen M : Int) + (e - e')) = (bitLen M : Int) + (e - e') := by rw [IntKind.wrap_u64]; omega
    go_wp2
    go_ret
    exact ⟨by rw [HR.out]; rfl, HBQ.out⟩
  by_cases c3 : bitLen M + up < bitLen N
  · have hr : r = -1 := by rw [HR0.out]; exact cmpN_lt (lt_of_bitLen (by rw [HMB.out]; omega))
    have HR := Lib.hid hr; clear hr
    have e1 : IntKind.u64.wrap ((bitLen M : Int) + (e - e')) = (bitLen M : Int) + (e - e') := by rw [IntKind.wrap_u64]; omega
    go_wp2
    go_ret
    exact ⟨by rw [HR.out]; rfl, HBQ.out⟩
  have e1 : IntKind.u64.wrap ((bitLen M : Int) + (e - e')) = (bitLen M : Int) + (e - e') := by rw [IntKind.wrap_u64]; omega
  have e2 : IntKind.i64.wrap (e - e') = e - e' := by rw [IntKind.wrap_i64]; omega
  have hH : ∀ W g, Blk W 82 g (words M) → Calls Tryd.prog 143 #[.slice (some ⟨g, 0, none⟩) (words M).length (words M).length, .int .i64 (e - e')] W fun en w' => ∃ L, en = .returned (.slice (some ⟨W.heap.size, 0, none⟩) L.length L.length) ∧ Blk w' 82 W.heap.size L ∧ W32 L ∧ num L = M * 2 ^ up ∧ L.length ≤ 70368744177664 ∧ Below W.heap.size W w' := by
    intro W g hg
    have := higher_any (some ⟨g, 0, none⟩) (words M).length (words M) up W (by omega) (by omega) (W32_words M) hg.rd
    rw [num_words, hup] at this
    refine this.mono ?_
    rintro en w' ⟨L, r1, r2, r3, r4, r5, r6⟩
    exact ⟨L, r1, r2, r3, r4, by omega, r6⟩
  have hK : ∀ W L g, W32 L → num L = M * 2 ^ up → L.length ≤ 70368744177664 → Blk W 82 g L → Below w.heap.size w W → Calls Tryd.prog 109 #[.slice (some ⟨g, 0, none⟩) L.length L.length, .slice a' l'.length c'] W fun en w' => en = .returned (.int .i64 r) ∧ Below W.heap.size W w' := by
    intro W L g r1 r2 r3 r4 r5
    have := HC.out W (some ⟨g, 0, none⟩) L.length L r5 r3 (Nat.le_refl _) r1 r4.rd
    rw [r2, ← HR0.out] at this
    refine this.mono ?_
    rintro en w' ⟨rfl, n, rfl⟩
    exact ⟨rfl, below_drewN' (Below.refl _ _)⟩
  have HH := Lib.hid hH; have HK := Lib.hid hK; clear hH hK
  have b0 : Below w.heap.size w (w2.drewN (nq + 1)) := below_drewN' hB
  have hN2 : Calls Tryd.prog 140 #[.slice a l.length c] (w2.drewN (nq + 1)) fun en w' => en = .returned (.slice (some ⟨w.heap.size + 1 + 1, 0, none⟩) (words M).length (words M).length) ∧ Blk w' 82 (w.heap.size + 1 + 1) (words M) ∧ Below (w.heap.size + 1 + 1) (w2.drewN (nq + 1)) w' := by
    have := HN.out _ b0
    rw [show (w2.drewN (nq + 1)).heap.size = w.heap.size + 1 + 1 from s2] at this
    exact this
  have HN2 := Lib.hid hN2; clear hN2
  have k1' : Cel (w2.drewN (nq + 1)) w.heap.size (.bool s) (.slice a l.length c) (.int .i64 e) := k1
  have k2' : Cel (w2.drewN (nq + 1)) (w.heap.size + 1) (.bool s') (.slice a' l'.length c') (.int .i64 e') := k2
  go_wp2_with fail
  (clear q72x0x0 q72x0x1 q72x0x2 q72x0x3 q72x0x4 q72x0x5 q72x1x0 q72x1x1 q72x1x2 q72x1x3 q72x1x4 q72x1x5; obtain ⟨q133x0x0, q133x0x1, q133x0x2, q133x0x3, q133x0x4, q133x0x5⟩ := Cel.facts k2; obtain ⟨q133x1x0, q133x1x1, q133x1x2, q133x1x3, q133x1x4, q133x1x5⟩ := Cel.facts k1; obtain ⟨q133x2x0, q133x2x1, q133x2x2, q133x2x3, q133x2x4, q133x2x5⟩ := Cel.facts k1'; obtain ⟨q133x3x0, q133x3x1, q133x3x2, q133x3x3, q133x3x4, q133x3x5⟩ := Cel.facts k2')
  go_region_held3 (fun W => W.cell? ⟨w.heap.size, 1, none⟩ = some (.slice a l.length c) ∧ W.cell? ⟨w.heap.size + 1, 1, none⟩ = some (.slice a' l'.length c')) (go_keep) (first
    | (go_at_call 140; refine HN2.out.mono ?_; rintro en w5 ⟨rfl, hbl, hb5⟩; have k15 := k1'.below hb5 (by omega); have k25 := k2'.below hb5 (by omega); have z5 := hb5.size; rw [show (w2.drewN (nq + 1)).heap.size = w.heap.size + 1 + 1 from s2] at z5; obtain ⟨_, _, _, _, _, _⟩ := k15.facts; obtain ⟨_, _, _, _, _, _⟩ := k25.facts)
    | (go_at_call 143; refine (HH.out _ _ hbl).mono ?_; rintro en w6 ⟨L, rfl, hbL, hWL, hNL, hlL, hb6⟩; have k16 := k15.below hb6 k15.lt; have k26 := k25.below hb6 k25.lt; obtain ⟨_, _, _, _, _, _⟩ := k16.facts; obtain ⟨_, _, _, _, _, _⟩ := k26.facts; have HWL := Lib.hid hWL; have HNL := Lib.hid hNL; clear hWL hNL; have b6 : Below w.heap.size w w6 := (b0.trans (hb5.mono (by omega))).trans (hb6.mono (by omega)))
    | (go_at_call 109; refine (HK.out _ _ _ HWL.out HNL.out hlL hbL b6).mono ?_; rintro en w7 ⟨rfl, hb7⟩; have k17 := k16.below hb7 k16.lt; have k27 := k26.below hb7 k26.lt; obtain ⟨_, _, _, _, _, _⟩ := k17.facts; obtain ⟨_, _, _, _, _, _⟩ := k27.facts))
  all_goals
    go_wp2
    go_ret
    exact ⟨rfl, b6.trans (hb7.mono b6.size)⟩

set_option maxRecDepth 10000 in
set_option maxHeartbeats 2000000 in
theorem size_any (x y : Arg) (w : World) (hx : x.Ok w) (hy : y.Ok w) (hm : num x.l ≠ 0) (hn : num y.l ≠ 0) :
    Calls Tryd.prog 102 #[x.v, y.v] w fun en w' => en = .returned (.int .i64 (magCmp (num x.l) x.e (num y.l) y.e)) ∧ Below w.heap.size w w' := by
  by_cases hge : y.e ≤ x.e
  · exact size_ge x y w hx hy hm hn hge
  have hS := fun W (hw : Below w.heap.size w W) => size_ge y x W (hy.grow hw) (hx.grow hw) hn hm (by omega)
  rw [magCmp_swap]
  have hlo : ∀ m e n f, -1 ≤ magCmp m e n f ∧ magCmp m e n f ≤ 1 := by
    intro m e n f; unfold magCmp; split
    · exact ⟨cmpN_lo _ _, cmpN_hi _ _⟩
    · exact ⟨cmpN_lo _ _, cmpN_hi _ _⟩
  obtain ⟨hl1, hl2⟩ := hlo (num y.l) y.e (num x.l) x.e
  obtain ⟨s, a, l, c, e⟩ := x
  obtain ⟨s', a', l', c', e'⟩ := y
  simp only [Arg.v] at hS ⊢
  dsimp only at hge hl1 hl2
  generalize magCmp (num l') e' (num l) e = r at *
  have HS := Lib.hid hS; clear hS hx hy hlo hm hn
  go_enter Tryd.func102, Tryd.ntmps102
  go_wp2_with fail
  (obtain ⟨w1, h1⟩ : ∃ W, W = (w.alloc (.cells #[.bool s, .slice a l.length c, .int .i64 e] 28)) := ⟨_, rfl⟩; have pinEq := h1; (try simp only [wr3] at pinEq); rw [← pinEq]; clear pinEq)
  (obtain ⟨w2, h2⟩ : ∃ W, W = (w1.alloc (.cells #[.bool s', .slice a' l'.length c', .int .i64 e'] 28)) := ⟨_, rfl⟩; have pinEq := h2; (try simp only [wr3] at pinEq); rw [← pinEq]; clear pinEq)
  obtain ⟨k1, hB, s1⟩ := new_cel h1 rfl
  obtain ⟨k2, b2, s2⟩ := new_cel h2 s1
  (replace k1 := cel_call b2 k1 (by omega); replace hB := below_call b2 hB (by omega))
  clear h1 h2 b2
  refine (HS.out w2 hB).mono ?_; rintro en w3 ⟨rfl, hb⟩
  (replace k2 := cel_call hb k2 (by omega); replace k1 := cel_call hb k1 (by omega); replace hB := below_call hb hB (by omega))
  go_wp2
  go_ret
  exact ⟨rfl, hB⟩

/-- how two Dyads stand -/
def cmpA (x y : Arg) : Int := if x.sign < y.sign then -1 else if y.sign < x.sign then 1 else if x.sign = 0 then 0 else x.sign * magCmp (num x.l) x.e (num y.l) y.e

set_option maxRecDepth 10000 in
set_option maxHeartbeats 2000000 in
theorem dcmp_any (x y : Arg) (w : World) (hx : x.Ok w) (hy : y.Ok w) :
    Calls Tryd.prog 49 #[x.v, y.v] w fun en w' => en = .returned (.int .i64 (cmpA x y)) ∧ Below w.heap.size w w' := by
  have hS1 := fun W (hw : Below w.heap.size w W) => dsign_any x W (hx.grow hw)
  have hS2 := fun W (hw : Below w.heap.size w W) => dsign_any y W (hy.grow hw)
  have hZ := fun W (hw : Below w.heap.size w W) (h1 : num x.l ≠ 0) (h2 : num y.l ≠ 0) => size_any x y W (hx.grow hw) (hy.grow hw) h1 h2
  obtain ⟨hl1, hl2⟩ : -1 ≤ magCmp (num x.l) x.e (num y.l) y.e ∧ magCmp (num x.l) x.e (num y.l) y.e ≤ 1 := by
    unfold magCmp; split
    · exact ⟨cmpN_lo _ _, cmpN_hi _ _⟩
    · exact ⟨cmpN_lo _ _, cmpN_hi _ _⟩
  have hsx : x.sign = 0 ∧ num x.l = 0 ∨ (x.sign = 1 ∨ x.sign = -1) ∧ num x.l ≠ 0 := by
    unfold Arg.sign; split
    · exact .inl ⟨rfl, by assumption⟩
    · split
      · exact .inr ⟨.inr rfl, by assumption⟩
      · exact .inr ⟨.inl rfl, by assumption⟩
  have hsy : y.sign = 0 ∧ num y.l = 0 ∨ (y.sign = 1 ∨ y.sign = -1) ∧ num y.l ≠ 0 := by
    unfold Arg.sign; split
    · exact .inl ⟨rfl, by assumption⟩
    · split
      · exact .inr ⟨.inr rfl, by assumption⟩
      · exact .inr ⟨.inl rfl, by assumption⟩
  obtain ⟨rr, hrr⟩ : ∃ rr, rr = cmpA x y := ⟨_, rfl⟩
  rw [← hrr]
  unfold cmpA at hrr
  generalize x.sign = i at *
  generalize y.sign = j at *
  obtain ⟨s, a, l, c, e⟩ := x
  obtain ⟨s', a', l', c', e'⟩ := y
  simp only [Arg.v] at hS1 hS2 hZ ⊢
  dsimp only at hl1 hl2 hrr hZ hsx hsy
  generalize magCmp (num l) e (num l') e' = r at *
  generalize num l = M at *
  generalize num l' = N at *
  have HS1 := Lib.hid hS1; have HS2 := Lib.hid hS2; have HZ := Lib.hid hZ; have HRR := Lib.hid hrr; have HSX := Lib.hid hsx; have HSY := Lib.hid hsy
  have hi1 : -1 ≤ i := by omega
  have hi2 : i ≤ 1 := by omega
  have hj1 : -1 ≤ j := by omega
  have hj2 : j ≤ 1 := by omega
  clear hS1 hS2 hZ hx hy hrr hsx hsy
  go_enter Tryd.func49, Tryd.ntmps49
  go_wp2_with fail
  (obtain ⟨w1, h1⟩ : ∃ W, W = (w.alloc (.cells #[.bool s, .slice a l.length c, .int .i64 e] 28)) := ⟨_, rfl⟩; have pinEq := h1; (try simp only [wr3] at pinEq); rw [← pinEq]; clear pinEq)
  (obtain ⟨w2, h2⟩ : ∃ W, W = (w1.alloc (.cells #[.bool s', .slice a' l'.length c', .int .i64 e'] 28)) := ⟨_, rfl⟩; have pinEq := h2; (try simp only [wr3] at pinEq); rw [← pinEq]; clear pinEq)
  obtain ⟨k1, hB, s1⟩ := new_cel h1 rfl
  obtain ⟨k2, b2, s2⟩ := new_cel h2 s1
  (replace k1 := cel_call b2 k1 (by omega); replace hB := below_call b2 hB (by omega))
  clear h1 h2 b2
  (obtain ⟨q228x0x0, q228x0x1, q228x0x2, q228x0x3, q228x0x4, q228x0x5⟩ := Cel.facts k2; obtain ⟨q228x1x0, q228x1x1, q228x1x2, q228x1x3, q228x1x4, q228x1x5⟩ := Cel.facts k1)
  have e1 : IntKind.i64.wrap (i * r) = i * r := by
    rw [IntKind.wrap_i64]
    rcases (show i = -1 ∨ i = 0 ∨ i = 1 by omega) with h | h | h <;> rw [h] <;> omega
  have b3 : Below w.heap.size w w2.drew := hB.drew
  have k1' : Cel w2.drew w.heap.size (.bool s) (.slice a l.length c) (.int .i64 e) := k1
  have k2' : Cel w2.drew (w.heap.size + 1) (.bool s') (.slice a' l'.length c') (.int .i64 e') := k2
  have z2 : w2.drew.heap.size = w.heap.size + 1 + 1 := s2
  go_region_held3 (fun W => W.cell? ⟨w.heap.size, 0, none⟩ = some (.bool s) ∧ W.cell? ⟨w.heap.size, 1, none⟩ = some (.slice a l.length c) ∧ W.cell? ⟨w.heap.size, 2, none⟩ = some (.int .i64 e) ∧ W.cell? ⟨w.heap.size + 1, 0, none⟩ = some (.bool s') ∧ W.cell? ⟨w.heap.size + 1, 1, none⟩ = some (.slice a' l'.length c') ∧ W.cell? ⟨w.heap.size + 1, 2, none⟩ = some (.int .i64 e')) (go_keep) (first
    | (go_at_call 54; with_reducible refine Calls.mono (HS1.out _ b3) ?_; rintro en w4 ⟨rfl, hb4⟩; have k14 := k1'.below hb4 k1'.lt; have k24 := k2'.below hb4 k2'.lt; obtain ⟨_, _, _, _, _, _⟩ := k14.facts; obtain ⟨_, _, _, _, _, _⟩ := k24.facts; have b4 : Below w.heap.size w w4 := b3.trans (hb4.mono (by omega)); have z4 := hb4.size; rw [z2] at z4)
    | (go_at_call 54; with_reducible refine Calls.mono (HS2.out _ b4) ?_; rintro en w5 ⟨rfl, hb5⟩; have k15 := k14.below hb5 k14.lt; have k25 := k24.below hb5 k24.lt; obtain ⟨_, _, _, _, _, _⟩ := k15.facts; obtain ⟨_, _, _, _, _, _⟩ := k25.facts; have b5 : Below w.heap.size w w5 := b4.trans (hb5.mono (by omega))))
  clear k1 k2 k14 k24 hB
  have HE1 := Lib.hid e1; clear e1
  by_cases c1 : i < j
  · have hr : rr = -1 := by rw [HRR.out, if_pos c1]
    have Hr := Lib.hid hr; clear hr
    go_wp2
    go_ret
    exact ⟨by rw [Hr.out]; rfl, b5⟩
  by_cases c2 : j < i
  · have hr : rr = 1 := by rw [HRR.out, if_neg c1, if_pos c2]
    have Hr := Lib.hid hr; clear hr
    go_wp2
    go_ret
    exact ⟨by rw [Hr.out]; rfl, b5⟩
  by_cases c3 : i = 0
  · have hr : rr = 0 := by rw [HRR.out, if_neg c1, if_neg c2, if_pos c3]
    have Hr := Lib.hid hr; clear hr
    have c4 : (i == 0) = true := by rw [c3]; rfl
    clear c3
    go_wp2
    go_ret
    exact ⟨by rw [Hr.out]; rfl, b5⟩
  · have hr : rr = i * r := by rw [HRR.out, if_neg c1, if_neg c2, if_neg c3]
    have Hr := Lib.hid hr; clear hr
    have c4 : (i == 0) = false := by simp [c3]
    have hm : M ≠ 0 := by have := HSX.out; omega
    have hn : N ≠ 0 := by have := HSY.out; omega
    have hz := HZ.out w5 b5 hm hn
    have Hz := Lib.hid hz; clear hz hm hn c3
    have z5 := hb5.size
    go_wp2_with fail
    refine Hz.out.mono ?_; rintro en w6 ⟨rfl, hb6⟩
    have e1 := HE1.out
    go_wp2
    go_ret
    exact ⟨by rw [Hr.out]; rfl, b5.trans (hb6.mono (by omega))⟩
end Go.Proofs.YthdbapibbdkclaaDoor
namespace Go.Proofs.YthdbapibbdkclaaDoor
open Go.RowKit
set_option linter.unusedVariables false
set_option linter.unusedSimpArgs false

/-- how two stand, noughts too -/
def agN (m : Nat) (e : Int) (n : Nat) (f : Int) : Int := if m = 0 ∨ n = 0 then cmpN m n else magCmp m e n f
theorem agN_swap (m : Nat) (e : Int) (n : Nat) (f : Int) : agN m e n f = - agN n f m e := by
  unfold agN
  by_cases h : m = 0 ∨ n = 0
  · rw [if_pos h, if_pos (by omega), cmpN_swap]
  · rw [if_neg h, if_neg (by omega), magCmp_swap]
theorem agN_bd (m : Nat) (e : Int) (n : Nat) (f : Int) : -1 ≤ agN m e n f ∧ agN m e n f ≤ 1 := by
  unfold agN; split
  · exact ⟨cmpN_lo _ _, cmpN_hi _ _⟩
  · unfold magCmp; split
    · exact ⟨cmpN_lo _ _, cmpN_hi _ _⟩
    · exact ⟨cmpN_lo _ _, cmpN_hi _ _⟩

set_option maxRecDepth 10000 in
set_option maxHeartbeats 4000000 in
theorem against_ge (a b : Option Addr) (c d : Nat) (l l' : List Nat) (e e' : Int) (w : World) (hlen : l.length ≤ 1073741824) (hlen' : l'.length ≤ 1073741824) (hs : Sl w a c l) (hs' : Sl w b d l')
    (he1 : -9223372036854775808 ≤ e) (he2 : e ≤ 9223372036854775807) (hf1 : -9223372036854775808 ≤ e') (hf2 : e' ≤ 9223372036854775807) (hge : e' ≤ e ∨ num l = 0 ∨ num l' = 0) :
    Calls Tryd.prog 81 #[.slice a l.length c, .int .i64 e, .slice b l'.length d, .int .i64 e'] w fun en w' => en = .returned (.int .i64 (agN (num l) e (num l') e')) ∧ Below w.heap.size w w' := by
  have hL1 := rlen_any a c l w (by omega) hs.w32 hs.rd
  have hL2 := rlen_any b d l' w (by omega) hs'.w32 hs'.rd
  have hC := rcmp_any a b c d l l' w (by omega) hs.w32 hs.rd (by omega) hs'.w32 hs'.rd
  have hbl := words_bitLen (Nat.le_refl (words (num l)).length)
  have hwl := words_num_len hs.w32
  have hbl' := words_bitLen (Nat.le_refl (words (num l')).length)
  have hwl' := words_num_len hs'.w32
  have hMv := fun k (hk : k ≤ 140737488355328) => rmoved_up a c l k w (by omega) hk hs
  have hC2 := fun W a3 c3 L (hw : Below w.heap.size w W) (h1 : L.length ≤ 70368744177664) (h3 : W32 L) (h4 : Rd W a3 L) => rcmp_any a3 b c3 d L l' W h1 h3 h4 (by omega) hs'.w32 (hs'.rd.grow hw)
  obtain ⟨r, hr⟩ : ∃ r, r = agN (num l) e (num l') e' := ⟨_, rfl⟩
  rw [← hr]
  have hz1 : num l = 0 ∨ (num l ≠ 0 ∧ 0 < bitLen (num l)) := by
    rcases Nat.eq_zero_or_pos (num l) with h | h
    · exact .inl h
    · exact .inr ⟨by omega, bitLen_pos (by omega)⟩
  have hz2 : num l' = 0 ∨ (num l' ≠ 0 ∧ 0 < bitLen (num l')) := by
    rcases Nat.eq_zero_or_pos (num l') with h | h
    · exact .inl h
    · exact .inr ⟨by omega, bitLen_pos (by omega)⟩
  generalize num l = M at *
  generalize num l' = N at *
  have u1 : IntKind.u64.wrap (bitLen M : Int) = (bitLen M : Int) := by rw [IntKind.wrap_u64]; omega
  have u2 : IntKind.u64.wrap (bitLen N : Int) = (bitLen N : Int) := by rw [IntKind.wrap_u64]; omega
  have HL1 := Lib.hid hL1; have HL2 := Lib.hid hL2; have HC := Lib.hid hC; have HMv := Lib.hid hMv; have HC2 := Lib.hid hC2; have HR := Lib.hid hr
  clear hL1 hL2 hC hMv hC2 hs hs' hr
  go_enter Tryd.func81, Tryd.ntmps81
  go_wp2_with fail
  refine HL1.out.mono ?_; rintro en w1 ⟨rfl, rfl⟩
  go_wp2_with fail
  refine HL2.out.mono ?_; rintro en w1 ⟨rfl, rfl⟩
  by_cases h0 : M = 0 ∨ N = 0
  · have hr : r = cmpN M N := by rw [HR.out, agN, if_pos h0]
    rw [← hr] at HC
    rcases hz1 with h1 | ⟨h1, h2⟩
    · have e1 : ((bitLen M : Int) == 0) = true := by rw [h1]; rfl
      have H0 := Lib.hid h0; clear h0 hr
      have H1 := Lib.hid h1; clear h1 hz2 hge
      go_wp2_with fail
      refine HC.out.mono ?_; rintro en w1 ⟨rfl, n, rfl⟩
      go_wp2
      go_ret
      exact ⟨rfl, below_drewN' (Below.refl _ _)⟩
    · have h3 : N = 0 := by omega
      have e1 : ((bitLen M : Int) == 0) = false := by
        simp; omega
      have e2 : ((bitLen N : Int) == 0) = true := by rw [h3]; rfl
      clear h0 hr h3 h1 hz2 hge
      go_wp2_with fail
      refine HC.out.mono ?_; rintro en w1 ⟨rfl, n, rfl⟩
      go_wp2
      go_ret
      exact ⟨rfl, below_drewN' (Below.refl _ _)⟩
  have hm : M ≠ 0 := by omega
  have hn : N ≠ 0 := by omega
  have hge' : e' ≤ e := by omega
  have hp1 := bitLen_pos hm
  have hp2 := bitLen_pos hn
  obtain ⟨up, hup⟩ : ∃ up : Nat, (up : Int) = e - e' := ⟨(e - e').toNat, by omega⟩
  have hr : r = cmpN (M * 2 ^ up) N := by
    rw [HR.out, agN, if_neg h0]; unfold magCmp; rw [if_pos hge', show (e - e').toNat = up by omega]
  have hmb := bitLen_mul up hm
  have hwr : IntKind.u64.wrap (IntKind.u64.wrap e - IntKind.u64.wrap e') = e - e' := by
    rw [IntKind.wrap_u64, IntKind.wrap_u64, IntKind.wrap_u64]; omega
  have e1 : ((bitLen M : Int) == 0) = false := by
    simp; omega
  have e2 : ((bitLen N : Int) == 0) = false := by
    simp; omega
  have HR2 := Lib.hid hr; have HMB := Lib.hid hmb; have HM := Lib.hid hm; clear hr hmb h0 hm hn hge hz1 hz2 HR
  by_cases c1 : 1099511627776 < up
  · have hr : r = 1 := by rw [HR2.out]; exact cmpN_gt (lt_of_bitLen (by rw [HMB.out]; omega))
    have HR := Lib.hid hr; clear hr
    go_wp2
    go_ret
    exact ⟨by rw [HR.out]; rfl, Below.refl _ _⟩
  have e3 : IntKind.u64.wrap ((bitLen M : Int) + (e - e')) = (bitLen M : Int) + (e - e') := by rw [IntKind.wrap_u64]; omega
  by_cases c2 : bitLen N < bitLen M + up
  · have hr : r = 1 := by rw [HR2.out]; exact cmpN_gt (lt_of_bitLen (by rw [HMB.out]; omega))
    have HR := Lib.hid hr; clear hr
    go_wp2
    go_ret
    exact ⟨by rw [HR.out]; rfl, Below.refl _ _⟩
  by_cases c3 : bitLen M + up < bitLen N
  · have hr : r = -1 := by rw [HR2.out]; exact cmpN_lt (lt_of_bitLen (by rw [HMB.out]; omega))
    have HR := Lib.hid hr; clear hr
    go_wp2
    go_ret
    exact ⟨by rw [HR.out]; rfl, Below.refl _ _⟩
  have e4 : IntKind.i64.wrap (e - e') = e - e' := by rw [IntKind.wrap_i64]; omega
  have hMv := HMv.out up (by omega)
  rw [hup] at hMv
  have HMv2 := Lib.hid hMv; clear hMv HMv
  have hlw : (words (M * 2 ^ up)).length ≤ 70368744177664 := by
    refine Nat.le_trans (bitLen_words_le (k := 70368744177664) ?_) (Nat.le_refl _)
    rw [HMB.out]; omega
  have hK : ∀ W a3 c3, Own W 82 w.heap.size a3 c3 (words (M * 2 ^ up)) → Below w.heap.size w W → Calls Tryd.prog 76 #[.slice a3 (words (M * 2 ^ up)).length c3, .slice b l'.length d] W fun en w' => en = .returned (.int .i64 r) ∧ Below w.heap.size w w' := by
    intro W a3 c3 r1 r2
    have := HC2.out W a3 c3 (words (M * 2 ^ up)) r2 hlw (W32_words _) r1.rd
    rw [num_words, ← HR2.out] at this
    refine this.mono ?_
    rintro en w' ⟨rfl, n, rfl⟩
    exact ⟨rfl, below_drewN' r2⟩
  have HK := Lib.hid hK; clear hK
  go_wp2_with fail
  refine HMv2.out.mono ?_; rintro en w1 ⟨a3, c3, rfl, ho3, hb3⟩
  go_wp2_with fail
  refine (HK.out _ _ _ ho3 hb3).mono ?_; rintro en w2 ⟨rfl, hb4⟩
  go_wp2
  go_ret
  exact ⟨rfl, hb4⟩

set_option maxRecDepth 10000 in
set_option maxHeartbeats 4000000 in
theorem against_any (a b : Option Addr) (c d : Nat) (l l' : List Nat) (e e' : Int) (w : World) (hlen : l.length ≤ 1073741824) (hlen' : l'.length ≤ 1073741824) (hs : Sl w a c l) (hs' : Sl w b d l')
    (he1 : -9223372036854775808 ≤ e) (he2 : e ≤ 9223372036854775807) (hf1 : -9223372036854775808 ≤ e') (hf2 : e' ≤ 9223372036854775807) :
    Calls Tryd.prog 81 #[.slice a l.length c, .int .i64 e, .slice b l'.length d, .int .i64 e'] w fun en w' => en = .returned (.int .i64 (agN (num l) e (num l') e')) ∧ Below w.heap.size w w' := by
  by_cases hge : e' ≤ e ∨ num l = 0 ∨ num l' = 0
  · exact against_ge a b c d l l' e e' w hlen hlen' hs hs' he1 he2 hf1 hf2 hge
  have hG := against_ge b a d c l' l e' e w hlen' hlen hs' hs hf1 hf2 he1 he2 (.inl (by omega))
  have hL1 := rlen_any a c l w (by omega) hs.w32 hs.rd
  have hL2 := rlen_any b d l' w (by omega) hs'.w32 hs'.rd
  have hbl := words_bitLen (Nat.le_refl (words (num l)).length)
  have hwl := words_num_len hs.w32
  have hbl' := words_bitLen (Nat.le_refl (words (num l')).length)
  have hwl' := words_num_len hs'.w32
  rw [agN_swap]
  obtain ⟨hb1, hb2⟩ := agN_bd (num l') e' (num l) e
  generalize agN (num l') e' (num l) e = r at *
  have hp1 := bitLen_pos (n := num l) (by omega)
  have hp2 := bitLen_pos (n := num l') (by omega)
  have hlt : e < e' := by omega
  clear hge
  generalize num l = M at *
  generalize num l' = N at *
  have u1 : IntKind.u64.wrap (bitLen M : Int) = (bitLen M : Int) := by rw [IntKind.wrap_u64]; omega
  have u2 : IntKind.u64.wrap (bitLen N : Int) = (bitLen N : Int) := by rw [IntKind.wrap_u64]; omega
  have e1 : ((bitLen M : Int) == 0) = false := by
    simp; omega
  have e2 : ((bitLen N : Int) == 0) = false := by
    simp; omega
  have HL1 := Lib.hid hL1; have HL2 := Lib.hid hL2; have HG := Lib.hid hG; clear hL1 hL2 hG hs hs'
  go_enter Tryd.func81, Tryd.ntmps81
  go_wp2_with fail
  refine HL1.out.mono ?_; rintro en w1 ⟨rfl, rfl⟩
  go_wp2_with fail
  refine HL2.out.mono ?_; rintro en w1 ⟨rfl, rfl⟩
  go_wp2_with fail
  refine HG.out.mono ?_; rintro en w1 ⟨rfl, hb⟩
  go_wp2
  go_ret
  exact ⟨rfl, hb⟩

set_option maxRecDepth 10000 in
set_option maxHeartbeats 2000000 in
theorem rcmpd_any (x y : Arg) (w : World) (hx : x.Ok w) (hy : y.Ok w) :
    Calls Tryd.prog 29 #[x.v, y.v] w fun en w' => en = .returned (.int .i64 (cmpA x y)) ∧ Below w.heap.size w w' := by
  have hS1 := fun W (hw : Below w.heap.size w W) => rsign_any x W (hx.grow hw)
  have hS2 := fun W (hw : Below w.heap.size w W) => rsign_any y W (hy.grow hw)
  have hZ := fun W (hw : Below w.heap.size w W) => against_any x.a y.a x.c y.c x.l y.l x.e y.e W hx.len hy.len (hx.sl.grow hw) (hy.sl.grow hw) hx.lo hx.hi hy.lo hy.hi
  have hZ2 := fun W (hw : Below w.heap.size w W) => against_any y.a x.a y.c x.c y.l x.l y.e x.e W hy.len hx.len (hy.sl.grow hw) (hx.sl.grow hw) hy.lo hy.hi hx.lo hx.hi
  have hsx : x.sign = 0 ∧ num x.l = 0 ∨ (x.sign = 1 ∨ x.sign = -1) ∧ num x.l ≠ 0 := by
    unfold Arg.sign; split
    · exact .inl ⟨rfl, by assumption⟩
    · split
      · exact .inr ⟨.inr rfl, by assumption⟩
      · exact .inr ⟨.inl rfl, by assumption⟩
  have hsy : y.sign = 0 ∧ num y.l = 0 ∨ (y.sign = 1 ∨ y.sign = -1) ∧ num y.l ≠ 0 := by
    unfold Arg.sign; split
    · exact .inl ⟨rfl, by assumption⟩
    · split
      · exact .inr ⟨.inr rfl, by assumption⟩
      · exact .inr ⟨.inl rfl, by assumption⟩
  obtain ⟨rr, hrr⟩ : ∃ rr, rr = cmpA x y := ⟨_, rfl⟩
  rw [← hrr]
  have hsw := agN_swap (num y.l) y.e (num x.l) x.e
  have hag : agN (num x.l) x.e (num y.l) y.e = if x.sign = 0 ∨ y.sign = 0 then cmpN (num x.l) (num y.l) else magCmp (num x.l) x.e (num y.l) y.e := by
    unfold agN
    by_cases h : num x.l = 0 ∨ num y.l = 0
    · rw [if_pos h, if_pos (by omega)]
    · rw [if_neg h, if_neg (by omega)]
  have hc0 : x.sign = 0 → y.sign = 0 → cmpN (num x.l) (num y.l) = 0 := fun h1 h2 => by
    rw [show num x.l = 0 by omega, show num y.l = 0 by omega]; rfl
  unfold cmpA at hrr
  generalize x.sign = i at *
  generalize y.sign = j at *
  obtain ⟨s, a, l, c, e⟩ := x
  obtain ⟨s', a', l', c', e'⟩ := y
  simp only [Arg.v] at hS1 hS2 hZ hZ2 ⊢
  dsimp only at hrr hZ hZ2 hsx hsy hsw hag hc0
  generalize agN (num l) e (num l') e' = g at *
  generalize agN (num l') e' (num l) e = g' at *
  generalize magCmp (num l) e (num l') e' = r at *
  generalize num l = M at *
  generalize num l' = N at *
  have HS1 := Lib.hid hS1; have HS2 := Lib.hid hS2; have HZ := Lib.hid hZ; have HZ2 := Lib.hid hZ2; have HRR := Lib.hid hrr; have HAG := Lib.hid hag; have HC0 := Lib.hid hc0; have HSW := Lib.hid hsw
  have hi1 : -1 ≤ i := by omega
  have hi2 : i ≤ 1 := by omega
  have hj1 : -1 ≤ j := by omega
  have hj2 : j ≤ 1 := by omega
  clear hS1 hS2 hZ hZ2 hx hy hrr hsx hsy hag hc0 hsw
  go_enter Tryd.func29, Tryd.ntmps29
  go_wp2_with fail
  (obtain ⟨w1, h1⟩ : ∃ W, W = (w.alloc (.cells #[.bool s, .slice a l.length c, .int .i64 e] 28)) := ⟨_, rfl⟩; have pinEq := h1; (try simp only [wr3] at pinEq); rw [← pinEq]; clear pinEq)
  (obtain ⟨w2, h2⟩ : ∃ W, W = (w1.alloc (.cells #[.bool s', .slice a' l'.length c', .int .i64 e'] 28)) := ⟨_, rfl⟩; have pinEq := h2; (try simp only [wr3] at pinEq); rw [← pinEq]; clear pinEq)
  obtain ⟨k1, hB, s1⟩ := new_cel h1 rfl
  obtain ⟨k2, b2, s2⟩ := new_cel h2 s1
  (replace k1 := cel_call b2 k1 (by omega); replace hB := below_call b2 hB (by omega))
  clear h1 h2 b2
  refine (HS1.out w2 hB).mono ?_; rintro en w3 ⟨rfl, hb⟩
  (replace k2 := cel_call hb k2 (by omega); replace k1 := cel_call hb k1 (by omega); replace hB := below_call hb hB (by omega))
  have s3 := hb.size
  clear hb; (obtain ⟨q239x0x0, q239x0x1, q239x0x2, q239x0x3, q239x0x4, q239x0x5⟩ := Cel.facts k2; obtain ⟨q239x1x0, q239x1x1, q239x1x2, q239x1x3, q239x1x4, q239x1x5⟩ := Cel.facts k1)
  go_wp2_with fail
  refine (HS2.out w3 hB).mono ?_; rintro en w4 ⟨rfl, hb⟩
  (replace k2 := cel_call hb k2 (by omega); replace k1 := cel_call hb k1 (by omega); replace hB := below_call hb hB (by omega))
  have s4 := hb.size
  clear hb; (clear q239x0x0 q239x0x1 q239x0x2 q239x0x3 q239x0x4 q239x0x5 q239x1x0 q239x1x1 q239x1x2 q239x1x3 q239x1x4 q239x1x5; obtain ⟨q244x0x0, q244x0x1, q244x0x2, q244x0x3, q244x0x4, q244x0x5⟩ := Cel.facts k2; obtain ⟨q244x1x0, q244x1x1, q244x1x2, q244x1x3, q244x1x4, q244x1x5⟩ := Cel.facts k1)
  by_cases c1 : i < j
  · have hr : rr = -1 := by rw [HRR.out, if_pos c1]
    have Hr := Lib.hid hr; clear hr
    go_wp2
    go_ret
    exact ⟨by rw [Hr.out]; rfl, hB⟩
  by_cases c2 : j < i
  · have hr : rr = 1 := by rw [HRR.out, if_neg c1, if_pos c2]
    have Hr := Lib.hid hr; clear hr
    go_wp2
    go_ret
    exact ⟨by rw [Hr.out]; rfl, hB⟩
  by_cases c3 : i < 0
  · have hr : rr = g' := by
      rw [HRR.out, if_neg c1, if_neg c2, if_neg (by omega), HSW.out, HAG.out, if_neg (by omega), show i = -1 by omega]; omega
    rw [← hr] at HZ2
    clear hr
    go_wp2_with fail
    refine (HZ2.out w4 hB).mono ?_; rintro en w5 ⟨rfl, hb⟩
    (replace k2 := cel_call hb k2 (by omega); replace k1 := cel_call hb k1 (by omega); replace hB := below_call hb hB (by omega))
    go_wp2
    go_ret
    exact ⟨rfl, hB⟩
  · have hr : rr = g := by
      rw [HRR.out, if_neg c1, if_neg c2, HAG.out]
      by_cases h : i = 0
      · rw [if_pos h, if_pos (.inl h), HC0.out h (by omega)]
      · rw [if_neg h, if_neg (by omega), show i = 1 by omega]; omega
    rw [← hr] at HZ
    clear hr
    go_wp2_with fail
    refine (HZ.out w4 hB).mono ?_; rintro en w5 ⟨rfl, hb⟩
    (replace k2 := cel_call hb k2 (by omega); replace k1 := cel_call hb k1 (by omega); replace hB := below_call hb hB (by omega))
    go_wp2
    go_ret
    exact ⟨rfl, hB⟩
end Go.Proofs.YthdbapibbdkclaaDoor
namespace Go.Proofs.YthdbapibbdkclaaDoor
open Go.RowKit
set_option linter.unusedVariables false
set_option linter.unusedSimpArgs false

end Go.Proofs.YthdbapibbdkclaaDoor
namespace Go.Proofs.YthdbapibbdkclaaDoor
open Go.RowKit
set_option linter.unusedVariables false
set_option linter.unusedSimpArgs false

/-- a whole number's form -/
def intF (n : Int) : Option D := formF (decide (n < 0)) n.natAbs 0

theorem owns_of {f : FuncId} {args : Array Value} {w : World} {g : Nat} {l : List Nat} (h : Calls Tryd.prog f args w fun e w' => e = .returned (.slice (some ⟨g, 0, none⟩) l.length l.length) ∧ Blk w' 82 g l ∧ Below w.heap.size w w') (hg : w.heap.size ≤ g := by omega) :
    Calls Tryd.prog f args w fun e w' => ∃ a' c', e = .returned (.slice a' l.length c') ∧ Own w' 82 w.heap.size a' c' l ∧ Below w.heap.size w w' :=
  h.mono (by rintro e w' ⟨rfl, h1, h2⟩; exact ⟨_, _, rfl, Own.of h1 hg, h2⟩)

set_option maxRecDepth 10000 in
set_option maxHeartbeats 2000000 in
theorem dint_any (n : Int) (w : World) (h1 : -9223372036854775808 ≤ n) (h2 : n ≤ 9223372036854775807) (hT : Tab w) :
    Calls Tryd.prog 120 #[.int .i64 n] w fun en w' => CameD w w' (outO (intF n)) en := by
  obtain ⟨k, hk⟩ : ∃ k, k = n.natAbs := ⟨_, rfl⟩
  have hk2 : k < 18446744073709551616 := by omega
  have hl : (words k).length ≤ 1073741824 := Nat.le_trans (words_len_le (k := 2) (by omega)) (by omega)
  have hOf := fun W => owns_of (wof_any k W hk2)
  have hFo := fun W s a c base (hw : Below w.heap.size w W) (ho : Own W 82 base a c (words k)) => dform_any s a c (words k) 0 W (by omega) (W32_words k) ho.rd (by decide) (by decide) (hT.grow hw)
  rw [num_words] at hFo
  obtain ⟨b, hb⟩ : ∃ b, b = decide (n < 0) := ⟨_, rfl⟩
  have hF := fun W a c base hw ho => hFo W b a c base hw ho
  have he : formF b k 0 = intF n := by rw [hk, hb]; rfl
  rw [he] at hF
  generalize intF n = o at *
  have HOf := Lib.hid hOf; have HF := Lib.hid hF; clear hOf hF hFo he hT
  have hcase : (n < 0 ∧ b = true ∧ IntKind.u64.wrap n = 18446744073709551616 - (k : Int)) ∨ (¬ n < 0 ∧ b = false ∧ IntKind.u64.wrap n = (k : Int)) := by
    by_cases h : n < 0
    · exact .inl ⟨h, by rw [hb]; simp [h], by rw [IntKind.wrap_u64]; omega⟩
    · exact .inr ⟨h, by rw [hb]; simp [h], by rw [IntKind.wrap_u64]; omega⟩
  clear hb
  have hw2 : IntKind.u64.wrap (0 - (18446744073709551616 - (k : Int))) = (k : Int) ∨ k = 0 := by rw [IntKind.wrap_u64]; omega
  have hw3 : IntKind.u64.wrap (-(18446744073709551616 - (k : Int))) = (k : Int) ∨ k = 0 := by rw [IntKind.wrap_u64]; omega
  have Hk := Lib.hid hk; clear hk
  rcases hcase with ⟨hn, rfl, hw⟩ | ⟨hn, rfl, hw⟩
  all_goals
    have hk0 : k ≠ 0 ∨ ¬ n < 0 := by have := Hk.out; omega
    replace hw2 := hw2.resolve_right
    replace hw3 := hw3.resolve_right
    have hw4 : n < 0 → IntKind.u64.wrap (0 - (18446744073709551616 - (k : Int))) = (k : Int) := fun h => hw2 (by omega)
    have hw5 : n < 0 → IntKind.u64.wrap (-(18446744073709551616 - (k : Int))) = (k : Int) := fun h => hw3 (by omega)
    clear hw2 hw3
    go_enter Tryd.func120, Tryd.ntmps120
    go_wp2_with fail
    (obtain ⟨w1, h1'⟩ : ∃ W, W = (w.alloc (.cells #[.bool false, .slice none 0 0, .int .i64 0] 28)) := ⟨_, rfl⟩; have pinEq := h1'; (try simp only [wr3] at pinEq); rw [← pinEq]; clear pinEq)
    obtain ⟨k1, hB, s1⟩ := new_cel h1' rfl
    clear h1'
    refine (HOf.out w1).mono ?_; rintro en w2 ⟨a1, c1, rfl, ho1, hb1⟩
    (replace k1 := cel_call hb1 k1 (by omega); replace hB := below_call hb1 hB (by omega))
    have s2 := hb1.size
    clear hb1
    go_wp2_with fail
    refine (HF.out w2 _ _ _ hB ho1).mono ?_; rintro en w4 ⟨v, rfl, ⟨a3, c3, rfl, ho3⟩, hb⟩
    (replace ho1 := own_call hb ho1; replace k1 := cel_call hb k1 (by omega); replace hB := below_call hb hB (by omega))
    have s4 := hb.size
    clear hb
    simp only [dyV]
    have q2 := k1.alloc (.cells #[.bool (outO o).neg, .slice a3 (words (outO o).m).length c3, .int .i64 (outO o).exp] 28)
    have hB2 := hB.alloc (by omega) (.cells #[.bool (outO o).neg, .slice a3 (words (outO o).m).length c3, .int .i64 (outO o).exp] 28)
    have ho2 := ho3.grow ((Below.refl _ _).alloc (Nat.le_refl _) (.cells #[.bool (outO o).neg, .slice a3 (words (outO o).m).length c3, .int .i64 (outO o).exp] 28))
    have q4 := Cel.new w4 (.bool (outO o).neg) (.slice a3 (words (outO o).m).length c3) (.int .i64 (outO o).exp)
    obtain ⟨c0, cc1, cc2, _, _, _⟩ := q2.facts
    obtain ⟨_, _, _, _, _, _⟩ := q4.facts
    go_wp2
    refine bodyPost_ret (v := dyV (outO o) a3 c3) (by simp [results, Tryd.results120, go_sem, dyV, c0, cc1, cc2]) rfl ?_
    exact ⟨_, rfl, ⟨a3, c3, rfl, (own_wr3 (g := w.heap.size) ho2 (by omega)).mono (by omega)⟩, below_wr3 (g := w.heap.size) hB2 (by omega)⟩

/-- same form: the same sign, the same words, the same power -/
def sameA (x y : Arg) : Bool := x.s == y.s && x.e == y.e && x.l == y.l

set_option maxRecDepth 10000 in
set_option maxHeartbeats 2000000 in
theorem same_any (x y : Arg) (w : World) (hx : x.Ok w) (hy : y.Ok w) (h : x.s = y.s ∧ x.e = y.e ∧ x.l = y.l) :
    Calls Tryd.prog 22 #[x.v, y.v] w fun en w' => en = .returned (.bool true) ∧ Below w.heap.size w w' := by
  have hr1 := fun W (hw : Below w.heap.size w W) => (hx.sl.rd.grow hw)
  have hr2 := fun W (hw : Below w.heap.size w W) => (hy.sl.rd.grow hw)
  have hw32 := hx.sl.w32
  have hlen := hx.len
  obtain ⟨s, a, l, c, e⟩ := x
  obtain ⟨s', a', l', c', e'⟩ := y
  obtain ⟨rfl, rfl, rfl⟩ := h
  simp only [Arg.v] at *
  have HR1 := Lib.hid hr1; have HR2 := Lib.hid hr2; have HW := Lib.hid hw32; clear hr1 hr2 hw32 hx hy
  go_enter Tryd.func22, Tryd.ntmps22
  have e1 : (s != s) = false := by simp
  have e2 : (e != e) = false := by simp
  have e3 : ((l.length : Int) != (l.length : Int)) = false := by simp
  go_wp2_with fail
  (obtain ⟨w1, h1⟩ : ∃ W, W = (w.alloc (.cells #[.bool s, .slice a l.length c, .int .i64 e] 28)) := ⟨_, rfl⟩; have pinEq := h1; (try simp only [wr3] at pinEq); rw [← pinEq]; clear pinEq)
  (obtain ⟨w2, h2⟩ : ∃ W, W = (w1.alloc (.cells #[.bool s, .slice a' l.length c', .int .i64 e] 28)) := ⟨_, rfl⟩; have pinEq := h2; (try simp only [wr3] at pinEq); rw [← pinEq]; clear pinEq)
  obtain ⟨k1, hB, s1⟩ := new_cel h1 rfl
  obtain ⟨k2, b2, s2⟩ := new_cel h2 s1
  (replace k1 := cel_call b2 k1 (by omega); replace hB := below_call b2 hB (by omega))
  clear h1 h2 b2
  go_loopw [5] (fun i wr => ∃ (k q : Nat), k ≤ l.length ∧ i = .int .i64 k ∧ wr = w2.drewN q) (fun i _ => l.length - (intOf i).toNat)
  case atStart => exact ⟨0, 0, Nat.zero_le _, rfl, rfl⟩
  case round =>
    obtain ⟨k, q, hk, rfl, rfl⟩ := hrel
    have k1q : Cel (w2.drewN q) w.heap.size (.bool s) (.slice a l.length c) (.int .i64 e) := k1
    have k2q : Cel (w2.drewN q) (w.heap.size + 1) (.bool s) (.slice a' l.length c') (.int .i64 e) := k2
    obtain ⟨_, _, _, _, _, _⟩ := k1.facts
    obtain ⟨_, _, _, _, _, _⟩ := k2.facts
    by_cases hkl : k < l.length
    · obtain ⟨b1, off1, x, rfl, hc1, hx, HX⟩ := (HR1.out _ hB).at HW.out hkl
      obtain ⟨b2, off2, y, rfl, hc2, hy, HY⟩ := (HR2.out _ hB).at HW.out hkl
      obtain rfl : x = y := by have h1 := HX.out; rw [HY.out] at h1; exact (Option.some.inj h1).symm
      have e4 : ((x : Int) != (x : Int)) = false := by simp
      go_wp2
      go_quiet (fail)
      go_wp2
      go_roundw
      case rel => exact ⟨k + 1, q + nq, by omega, by go_num, rfl⟩
      case measure => simp [intOf]; omega
    · go_wp2
      go_ret
      exact ⟨rfl, below_drewN' hB⟩

theorem grown_of {w w2 w' : World} {v : Option Nat} (hb : Below w.heap.size w w2) (h : w2.grownBy w' v) : w.grownBy w' v :=
  ⟨h.os.trans hb.os, h.tape.trans hb.tape, h.output.trans hb.output, Nat.le_trans hb.size h.size, fun j hj hv => (h.block j (Nat.lt_of_lt_of_le hj hb.size) hv).trans (hb.block j hj)⟩

end Go.Proofs.YthdbapibbdkclaaDoor
namespace Go.Proofs.YthdbapibbdkclaaDoor
open Go.RowKit
set_option linter.unusedVariables false
set_option linter.unusedSimpArgs false

/-- the k-th number of a kind of h + 1 binary digits: a whole number, and its power above the least -/
def numM (h k : Nat) : Nat := if k / 2 ^ h = 0 then k % 2 ^ h else 2 ^ h + k % 2 ^ h
def numE (h k : Nat) : Nat := k / 2 ^ h - 1

set_option maxRecDepth 10000 in
set_option maxHeartbeats 2000000 in
theorem number_any (h k : Nat) (L : Int) (E : Nat) (w : World) (hh : h ≤ 52) (hk : k < 18446744073709551616) (hh2 : 1 ≤ h) (hL1 : -2000 ≤ L) (hL2 : L ≤ 2000) (hq : k / 2 ^ h ≤ 1000000) :
    Calls Tryd.prog 122 #[.agg #[.int .i64 (h + 1 : Nat), .int .i64 L, .int .u64 E], .int .u64 k] w fun en w' => ∃ a c, en = .returned (.tuple #[.slice a (words (numM h k)).length c, .int .i64 (L + numE h k)]) ∧ Own w' 82 w.heap.size a c (words (numM h k)) ∧ Below w.heap.size w w' := by
  have hp := Nat.two_pow_pos h
  have hp52 : 2 ^ h ≤ 4503599627370496 := by have := Nat.pow_le_pow_right (show 0 < 2 by decide) hh; simpa using this
  have hp2 : 2 ≤ 2 ^ h := by have := Nat.pow_le_pow_right (show 0 < 2 by decide) hh2; simpa using this
  obtain ⟨H, hH⟩ : ∃ H, H = 2 ^ h := ⟨_, rfl⟩
  obtain ⟨q, hqe⟩ : ∃ q, q = k / H := ⟨_, rfl⟩
  obtain ⟨r, hre⟩ : ∃ r, r = k % H := ⟨_, rfl⟩
  have hM : numM h k = if q = 0 then r else H + r := by unfold numM; rw [← hH, ← hqe, ← hre]
  have hE : numE h k = q - 1 := by unfold numE; rw [← hH, ← hqe]
  rw [hM, hE]
  rw [← hH] at hp hp52 hp2 hq
  rw [← hqe] at hq
  have f1 : IntKind.u64.wrap ((2 : Int) ^ h) = (H : Int) := by
    rw [show ((2 : Int) ^ h) = ((2 ^ h : Nat) : Int) from by simp, ← hH]; exact wrap_u64_nat _ (by omega)
  have f2 : IntKind.u64.wrap ((k : Int) / (H : Int)) = (q : Int) := by
    rw [show ((k : Int) / (H : Int)) = ((k / H : Nat) : Int) from by simp, ← hqe]; exact wrap_u64_nat _ (by omega)
  have f3 : (k : Int) % (H : Int) = (r : Int) := by
    rw [show ((k : Int) % (H : Int)) = ((k % H : Nat) : Int) from by simp, ← hre]
  have hr : r < H := by rw [hre]; exact Nat.mod_lt _ hp
  clear hH hqe hre hM hE
  have hOf := fun W n (hn : n < 18446744073709551616) => rof_any n W hn
  have HOf := Lib.hid hOf; clear hOf
  obtain ⟨n, hn⟩ : ∃ n, n = (if q = 0 then r else H + r) := ⟨_, rfl⟩
  rw [← hn]
  have hn2 : n < 18446744073709551616 := by rw [hn]; split <;> omega
  have hO2 := fun W => HOf.out W n hn2
  clear HOf
  have g1 : IntKind.u64.wrap ((H : Int) + (r : Int)) = (H : Int) + (r : Int) := by rw [IntKind.wrap_u64]; omega
  have g2 : IntKind.i64.wrap (q : Int) = (q : Int) := by rw [IntKind.wrap_i64]; omega
  have g3 : IntKind.i64.wrap (L + (q : Int)) = L + (q : Int) := by rw [IntKind.wrap_i64]; omega
  have g4 : IntKind.i64.wrap (L + (q : Int) - 1) = L + (q : Int) - 1 := by rw [IntKind.wrap_i64]; omega
  have hqz : q = 0 ∧ n = r ∨ q ≠ 0 ∧ n = H + r := by
    by_cases h : q = 0
    · exact .inl ⟨h, by rw [hn, if_pos h]⟩
    · exact .inr ⟨h, by rw [hn, if_neg h]⟩
  have hO3 : ∀ W z, z = (n : Int) → Calls Tryd.prog 156 #[.int .u64 z] W fun e w' => ∃ a' c', e = .returned (.slice a' (words n).length c') ∧ Own w' 82 W.heap.size a' c' (words n) ∧ Below W.heap.size W w' := by
    rintro W z rfl; exact hO2 W
  have HO := Lib.hid hO3; clear hO2 hO3 hn
  go_enter Tryd.func122, Tryd.ntmps122
  rcases hqz with ⟨h0, h1⟩ | ⟨h0, h1⟩
  · have e1 : ((q : Int) == 0) = true := by rw [h0]; rfl
    have H0 := Lib.hid h0; have H1 := Lib.hid h1; clear h0 h1
    go_wp2_with fail
    obtain ⟨w1, h1⟩ : ∃ W, W = w.alloc (.cells #[.int .i64 ((h : Int) + 1), .int .i64 L, .int .u64 (E : Int)] 98) := ⟨_, rfl⟩
    rw [← h1]
    obtain ⟨k1, hB, s1⟩ := new_of h1 rfl
    clear h1
    obtain ⟨_, _, _, _, _, _⟩ := cells3 k1
    have b1 : Below w.heap.size w w1.drew := hB.drew
    have HS := Lib.hid s1; clear s1
    go_region_held3 (fun W => W.cell? ⟨w.heap.size, 1, none⟩ = some (.int .i64 L)) (go_keep) (first
      | (go_at_call 156; refine (HO.out _ _ (by have := H1.out; omega)).mono ?_; rintro en w4 ⟨a4, c4, rfl, ho4, hb4⟩; have k14 := (hb4.block w.heap.size (by have := HS.out; simp; omega)).trans k1; obtain ⟨_, _, _, _, _, _⟩ := cells3 k14))
    all_goals
      go_wp2
      have hs := HS.out
      refine bodyPost_ret (v := .tuple #[.slice a4 (words n).length c4, .int .i64 L]) (by simp [results, Tryd.results122, go_sem]) rfl ?_
      refine ⟨a4, c4, by rw [show q = 0 from H0.out]; simp, ho4.mono (by simp; omega), b1.trans (hb4.mono (by simp; omega))⟩
  · have e1 : ((q : Int) == 0) = false := by simp; omega
    have H0 := Lib.hid h0; have H1 := Lib.hid h1; clear h0 h1
    go_wp2_with fail
    obtain ⟨w1, h1⟩ : ∃ W, W = w.alloc (.cells #[.int .i64 ((h : Int) + 1), .int .i64 L, .int .u64 (E : Int)] 98) := ⟨_, rfl⟩
    rw [← h1]
    obtain ⟨k1, hB, s1⟩ := new_of h1 rfl
    clear h1
    obtain ⟨_, _, _, _, _, _⟩ := cells3 k1
    have b1 : Below w.heap.size w w1.drew := hB.drew
    have HS := Lib.hid s1; clear s1
    go_region_held3 (fun W => W.cell? ⟨w.heap.size, 1, none⟩ = some (.int .i64 L)) (go_keep) (first
      | (go_at_call 156; refine (HO.out _ _ (by have := H1.out; omega)).mono ?_; rintro en w4 ⟨a4, c4, rfl, ho4, hb4⟩; have k14 := (hb4.block w.heap.size (by have := HS.out; simp; omega)).trans k1; obtain ⟨_, _, _, _, _, _⟩ := cells3 k14))
    all_goals
      go_wp2
      have hs := HS.out
      refine bodyPost_ret (v := .tuple #[.slice a4 (words n).length c4, .int .i64 (L + (q : Int) - 1)]) (by simp [results, Tryd.results122, go_sem]) rfl ?_
      refine ⟨a4, c4, by rw [show L + (q : Int) - 1 = L + ((q - 1 : Nat) : Int) from by have := H0.out; omega], ho4.mono (by simp; omega), b1.trans (hb4.mono (by simp; omega))⟩
end Go.Proofs.YthdbapibbdkclaaDoor
