/- Contracts of dyad.Sub, Neg, Sign and of steelyardref03's turned, Sub, Neg, Sign. No statement of the seat is proved here. -/
import Derived.Test.YtmokomfneikipaaDoorProg
import Derived.Test.YtmokomfneikipaaDoorDg
namespace Go.Proofs.YtmokomfneikipaaDoor
open Go.RowKit
set_option linter.unusedVariables false
set_option linter.unusedSimpArgs false

def Arg.opp (x : Arg) : Arg := ⟨!x.s, x.a, x.l, x.c, x.e⟩
theorem Arg.Ok.opp {w : World} {x : Arg} (h : x.Ok w) : x.opp.Ok w := ⟨h.sl, h.len, h.lo, h.hi⟩

set_option maxRecDepth 10000 in
set_option maxHeartbeats 1000000 in
theorem dsub_any (x y : Arg) (w : World) (hx : x.Ok w) (hy : y.Ok w) (hT : Tab w) :
    Calls Tryd.prog 22 #[x.v, y.v] w fun en w' => Came w w' (addO x.F y.opp.F) en := by
  have hF := fun W hw => dadd_any x y.opp W (hx.grow hw) (hy.grow hw).opp (hT.grow hw)
  generalize addO x.F y.opp.F = o at *
  have HF := Lib.hid hF; clear hF hx hy hT
  obtain ⟨s, a, l, c, e⟩ := x
  obtain ⟨s', a', l', c', e'⟩ := y
  simp only [Arg.v, Arg.opp] at HF ⊢
  go_enter Tryd.func22, Tryd.ntmps22
  go_wp2_with fail
  (obtain ⟨w1, h1⟩ : ∃ W, W = (w.alloc (.cells #[.bool s, .slice a l.length c, .int .i64 e] 27)) := ⟨_, rfl⟩; have pinEq := h1; (try simp only [wr3] at pinEq); rw [← pinEq]; clear pinEq)
  (obtain ⟨w2, h2⟩ : ∃ W, W = (w1.alloc (.cells #[.bool (!s'), .slice a' l'.length c', .int .i64 e'] 27)) := ⟨_, rfl⟩; have pinEq := h2; (try simp only [wr3] at pinEq); rw [← pinEq]; clear pinEq)
  (obtain ⟨w3, h3⟩ : ∃ W, W = (w2.alloc (.cells #[.bool false, .slice none 0 0, .int .i64 0] 27)) := ⟨_, rfl⟩; have pinEq := h3; (try simp only [wr3] at pinEq); rw [← pinEq]; clear pinEq)
  obtain ⟨k1, hB, s1⟩ := new_cel h1 rfl
  obtain ⟨k2, b2, s2⟩ := new_cel h2 s1
  (replace k1 := cel_call b2 k1 (by omega); replace hB := below_call b2 hB (by omega))
  obtain ⟨k3, b3, s3⟩ := new_cel h3 s2
  (replace k2 := cel_call b3 k2 (by omega); replace b2 := below_call b3 b2 (by omega); replace k1 := cel_call b3 k1 (by omega); replace hB := below_call b3 hB (by omega))
  clear h1 h2 h3 b2 b3
  refine (HF.out w3 hB).mono ?_; rintro en w4 ⟨v, rfl, ⟨a1, c1, rfl, ho1⟩, hb⟩
  (replace k3 := cel_call hb k3 (by omega); replace k2 := cel_call hb k2 (by omega); replace k1 := cel_call hb k1 (by omega); replace hB := below_call hb hB (by omega))
  have s4 := hb.size
  clear hb k2
  simp only [dyV]
  (obtain ⟨q39x0x0, q39x0x1, q39x0x2, q39x0x3, q39x0x4, q39x0x5⟩ := Cel.facts k3; obtain ⟨q39x1x0, q39x1x1, q39x1x2, q39x1x3, q39x1x4, q39x1x5⟩ := Cel.facts k1)
  go_wp2
  obtain ⟨c0, cc1, cc2, _, _, _⟩ := k3.facts
  refine bodyPost_ret (v := .tuple #[dyV (outO o) a1 c1, .int .i64 (errO o)]) (by simp [results, Tryd.results22, go_sem, dyV, c0, cc1, cc2]) rfl ?_
  exact ⟨_, rfl, ⟨a1, c1, rfl, (own_wr3 (g := w.heap.size + 1 + 1) ho1 (by omega)).mono (by omega)⟩, below_wr3 (g := w.heap.size + 1 + 1) hB (by omega)⟩

set_option maxRecDepth 10000 in
set_option maxHeartbeats 1000000 in
theorem turned_any (x : Arg) (w : World) :
    Calls Tryd.prog 67 #[x.v] w fun en w' => en = .returned x.opp.v ∧ Below w.heap.size w w' := by
  obtain ⟨s, a, l, c, e⟩ := x
  simp only [Arg.v, Arg.opp]
  go_enter Tryd.func67, Tryd.ntmps67
  go_wp2
  have hb1 := (Below.refl w.heap.size w).alloc (Nat.le_refl _) (.cells #[.bool s, .slice a l.length c, .int .i64 e] 27)
  have hb2 := hb1.alloc (by rw [World.size_alloc]; omega) (.cells #[.bool (!s), .slice a l.length c, .int .i64 e] 27)
  have k := Cel.new (w.alloc (.cells #[.bool s, .slice a l.length c, .int .i64 e] 27)) (.bool (!s)) (.slice a l.length c) (.int .i64 e)
  rw [World.size_alloc] at k
  obtain ⟨c0, cc1, cc2, _, _, _⟩ := k.facts
  refine bodyPost_ret (v := .agg #[.bool (!s), .slice a l.length c, .int .i64 e]) (by simp [results, Tryd.results67, go_sem, c0, cc1, cc2]) rfl ?_
  exact ⟨rfl, hb2⟩

set_option maxRecDepth 10000 in
set_option maxHeartbeats 1000000 in
theorem rsub_any (x y : Arg) (w : World) (hx : x.Ok w) (hy : y.Ok w) :
    Calls Tryd.prog 25 #[x.v, y.v] w fun en w' => Came w w' (addO x.F y.opp.F) en := by
  have hF := fun W hw => radd_any x y.opp W (hx.grow hw) (hy.grow hw).opp
  have hT := fun W => turned_any y W
  generalize addO x.F y.opp.F = o at *
  have HF := Lib.hid hF; have HT := Lib.hid hT; clear hF hx hy hT
  obtain ⟨s, a, l, c, e⟩ := x
  obtain ⟨s', a', l', c', e'⟩ := y
  simp only [Arg.v, Arg.opp] at HF HT ⊢
  go_enter Tryd.func25, Tryd.ntmps25
  go_wp2_with fail
  (obtain ⟨w1, h1⟩ : ∃ W, W = (w.alloc (.cells #[.bool s, .slice a l.length c, .int .i64 e] 27)) := ⟨_, rfl⟩; have pinEq := h1; (try simp only [wr3] at pinEq); rw [← pinEq]; clear pinEq)
  (obtain ⟨w2, h2⟩ : ∃ W, W = (w1.alloc (.cells #[.bool s', .slice a' l'.length c', .int .i64 e'] 27)) := ⟨_, rfl⟩; have pinEq := h2; (try simp only [wr3] at pinEq); rw [← pinEq]; clear pinEq)
  (obtain ⟨w3, h3⟩ : ∃ W, W = (w2.alloc (.cells #[.bool false, .slice none 0 0, .int .i64 0] 27)) := ⟨_, rfl⟩; have pinEq := h3; (try simp only [wr3] at pinEq); rw [← pinEq]; clear pinEq)
  obtain ⟨k1, hB, s1⟩ := new_cel h1 rfl
  obtain ⟨k2, b2, s2⟩ := new_cel h2 s1
  (replace k1 := cel_call b2 k1 (by omega); replace hB := below_call b2 hB (by omega))
  obtain ⟨k3, b3, s3⟩ := new_cel h3 s2
  (replace k2 := cel_call b3 k2 (by omega); replace b2 := below_call b3 b2 (by omega); replace k1 := cel_call b3 k1 (by omega); replace hB := below_call b3 hB (by omega))
  clear h1 h2 h3 b2 b3
  (obtain ⟨q83x0x0, q83x0x1, q83x0x2, q83x0x3, q83x0x4, q83x0x5⟩ := Cel.facts k3; obtain ⟨q83x1x0, q83x1x1, q83x1x2, q83x1x3, q83x1x4, q83x1x5⟩ := Cel.facts k2; obtain ⟨q83x2x0, q83x2x1, q83x2x2, q83x2x3, q83x2x4, q83x2x5⟩ := Cel.facts k1)
  go_region_with (first
    | (go_at_call 67; refine (HT.out _).mono ?_; rintro en w4 ⟨rfl, hb⟩; have q1 := k1.below (below_drewN (n := 1) hb) (by have := k1.lt; simpa using this); obtain ⟨_, _, _, _, _, _⟩ := q1.facts)
    | (go_at_call 24; refine (HF.out _ (hB.trans ((below_drewN (n := 1) hb).mono (by simp; omega)))).mono ?_; rintro en w5 ⟨v, rfl, ⟨a1, c1, rfl, ho1⟩, hb2⟩; have q3 := (k3.below (below_drewN (n := 1) hb) (by have := k3.lt; simpa using this)); have q4 := q3.below hb2 q3.lt; obtain ⟨_, _, _, _, _, _⟩ := q4.facts; simp only [dyV]))
  all_goals
    go_wp2
    have z1 := hb.size
    have z2 := hb2.size
    simp only [World.size_drew] at z1
    obtain ⟨c0, cc1, cc2, _, _, _⟩ := q4.facts
    refine bodyPost_ret (v := .tuple #[dyV (outO o) a1 c1, .int .i64 (errO o)]) (by simp [results, Tryd.results25, go_sem, dyV, c0, cc1, cc2]) rfl ?_
    exact ⟨_, rfl, ⟨a1, c1, rfl, (own_wr3 (g := w.heap.size + 1 + 1) ho1 (by omega)).mono (by omega)⟩, below_wr3 (g := w.heap.size + 1 + 1) ((hB.trans ((below_drewN (n := 1) hb).mono (by simp; omega))).trans (hb2.mono (by omega))) (by omega)⟩

/-- a Dyad comes out alone -/
def CameD (w w' : World) (d : D) (e : Ending) : Prop := ∃ v, e = .returned v ∧ DOwn w' w.heap.size d v ∧ Below w.heap.size w w'

set_option maxRecDepth 10000 in
set_option maxHeartbeats 1000000 in
theorem dneg_any (x : Arg) (w : World) (hx : x.Ok w) (hT : Tab w) :
    Calls Tryd.prog 34 #[x.v] w fun en w' => CameD w w' (outO x.opp.F) en := by
  have hF := fun W (hw : Below w.heap.size w W) => dform_any (!x.s) x.a x.c x.l x.e W (by have := hx.len; omega) hx.sl.w32 (hx.sl.rd.grow hw) hx.lo hx.hi (hT.grow hw)
  have he : x.opp.F = formF (!x.s) (num x.l) x.e := rfl
  rw [← he] at hF
  generalize x.opp.F = o at *
  have HF := Lib.hid hF; clear hF hx he
  obtain ⟨s, a, l, c, e⟩ := x
  simp only [Arg.v] at HF ⊢
  go_enter Tryd.func34, Tryd.ntmps34
  go_wp2_with fail
  (obtain ⟨w1, h1⟩ : ∃ W, W = (w.alloc (.cells #[.bool s, .slice a l.length c, .int .i64 e] 27)) := ⟨_, rfl⟩; have pinEq := h1; (try simp only [wr3] at pinEq); rw [← pinEq]; clear pinEq)
  (obtain ⟨w2, h2⟩ : ∃ W, W = (w1.alloc (.cells #[.bool false, .slice none 0 0, .int .i64 0] 27)) := ⟨_, rfl⟩; have pinEq := h2; (try simp only [wr3] at pinEq); rw [← pinEq]; clear pinEq)
  obtain ⟨k1, hB, s1⟩ := new_cel h1 rfl
  obtain ⟨k2, b2, s2⟩ := new_cel h2 s1
  (replace k1 := cel_call b2 k1 (by omega); replace hB := below_call b2 hB (by omega))
  clear h1 h2 b2
  refine (HF.out w2 hB).mono ?_; rintro en w4 ⟨v, rfl, ⟨a1, c1, rfl, ho1⟩, hb⟩
  (replace k2 := cel_call hb k2 (by omega); replace k1 := cel_call hb k1 (by omega); replace hB := below_call hb hB (by omega))
  have s4 := hb.size
  clear hb k1
  simp only [dyV]
  have q2 := k2.alloc (.cells #[.bool (outO o).neg, .slice a1 (words (outO o).m).length c1, .int .i64 (outO o).exp] 27)
  have hB2 := hB.alloc (by omega) (.cells #[.bool (outO o).neg, .slice a1 (words (outO o).m).length c1, .int .i64 (outO o).exp] 27)
  have ho2 := ho1.grow ((Below.refl _ _).alloc (Nat.le_refl _) (.cells #[.bool (outO o).neg, .slice a1 (words (outO o).m).length c1, .int .i64 (outO o).exp] 27))
  have q4 := Cel.new w4 (.bool (outO o).neg) (.slice a1 (words (outO o).m).length c1) (.int .i64 (outO o).exp)
  obtain ⟨c0, cc1, cc2, _, _, _⟩ := q2.facts
  obtain ⟨_, _, _, _, _, _⟩ := q4.facts
  go_wp2
  refine bodyPost_ret (v := dyV (outO o) a1 c1) (by simp [results, Tryd.results34, go_sem, dyV, c0, cc1, cc2]) rfl ?_
  exact ⟨_, rfl, ⟨a1, c1, rfl, (own_wr3 (g := w.heap.size + 1) ho2 (by omega)).mono (by omega)⟩, below_wr3 (g := w.heap.size + 1) hB2 (by omega)⟩

set_option maxRecDepth 10000 in
set_option maxHeartbeats 1000000 in
theorem rneg_any (x : Arg) (w : World) (hx : x.Ok w) :
    Calls Tryd.prog 39 #[x.v] w fun en w' => CameD w w' (outO x.opp.F) en := by
  have hF := fun W (hw : Below w.heap.size w W) => rform_any (!x.s) x.a x.c x.l x.e W hx.len (hx.sl.grow hw) hx.lo hx.hi
  have he : x.opp.F = formF (!x.s) (num x.l) x.e := rfl
  rw [← he] at hF
  generalize x.opp.F = o at *
  have HF := Lib.hid hF; clear hF hx he
  obtain ⟨s, a, l, c, e⟩ := x
  simp only [Arg.v] at HF ⊢
  go_enter Tryd.func39, Tryd.ntmps39
  go_wp2_with fail
  (obtain ⟨w1, h1⟩ : ∃ W, W = (w.alloc (.cells #[.bool s, .slice a l.length c, .int .i64 e] 27)) := ⟨_, rfl⟩; have pinEq := h1; (try simp only [wr3] at pinEq); rw [← pinEq]; clear pinEq)
  (obtain ⟨w2, h2⟩ : ∃ W, W = (w1.alloc (.cells #[.bool false, .slice none 0 0, .int .i64 0] 27)) := ⟨_, rfl⟩; have pinEq := h2; (try simp only [wr3] at pinEq); rw [← pinEq]; clear pinEq)
  obtain ⟨k1, hB, s1⟩ := new_cel h1 rfl
  obtain ⟨k2, b2, s2⟩ := new_cel h2 s1
  (replace k1 := cel_call b2 k1 (by omega); replace hB := below_call b2 hB (by omega))
  clear h1 h2 b2
  refine (HF.out w2 hB).mono ?_; rintro en w4 ⟨v, rfl, ⟨a1, c1, rfl, ho1⟩, hb⟩
  (replace k2 := cel_call hb k2 (by omega); replace k1 := cel_call hb k1 (by omega); replace hB := below_call hb hB (by omega))
  have s4 := hb.size
  clear hb k1
  simp only [dyV]
  have q2 := k2.alloc (.cells #[.bool (outO o).neg, .slice a1 (words (outO o).m).length c1, .int .i64 (outO o).exp] 27)
  have hB2 := hB.alloc (by omega) (.cells #[.bool (outO o).neg, .slice a1 (words (outO o).m).length c1, .int .i64 (outO o).exp] 27)
  have ho2 := ho1.grow ((Below.refl _ _).alloc (Nat.le_refl _) (.cells #[.bool (outO o).neg, .slice a1 (words (outO o).m).length c1, .int .i64 (outO o).exp] 27))
  have q4 := Cel.new w4 (.bool (outO o).neg) (.slice a1 (words (outO o).m).length c1) (.int .i64 (outO o).exp)
  obtain ⟨c0, cc1, cc2, _, _, _⟩ := q2.facts
  obtain ⟨_, _, _, _, _, _⟩ := q4.facts
  go_wp2
  refine bodyPost_ret (v := dyV (outO o) a1 c1) (by simp [results, Tryd.results39, go_sem, dyV, c0, cc1, cc2]) rfl ?_
  exact ⟨_, rfl, ⟨a1, c1, rfl, (own_wr3 (g := w.heap.size + 1) ho2 (by omega)).mono (by omega)⟩, below_wr3 (g := w.heap.size + 1) hB2 (by omega)⟩

def Arg.sign (x : Arg) : Int := if num x.l = 0 then 0 else if x.s then -1 else 1

set_option maxRecDepth 10000 in
set_option maxHeartbeats 1000000 in
theorem dsign_any (x : Arg) (w : World) (hx : x.Ok w) :
    Calls Tryd.prog 36 #[x.v] w fun en w' => en = .returned (.int .i64 x.sign) ∧ Below w.heap.size w w' := by
  have hF := fun W (hw : Below w.heap.size w W) => len_any x.a x.c x.l W (by have := hx.len; omega)
  have hcap := hx.sl.cap
  have hr := fun W (hw : Below w.heap.size w W) => hx.sl.rd.grow hw
  have hw32 := hx.sl.w32
  have hz : num x.l = 0 ∨ 0 < bitLen (num x.l) := by
    rcases Nat.eq_zero_or_pos (num x.l) with h | h
    · exact .inl h
    · exact .inr (bitLen_pos (by omega))
  have hb1 := (Below.refl w.heap.size w).alloc (Nat.le_refl _) (.cells #[.bool x.s, .slice x.a x.l.length x.c, .int .i64 x.e] 27)
  have hL := hF _ hb1 hcap hw32 (hr _ hb1)
  have HB := Lib.hid hb1
  obtain ⟨s, a, l, c, e⟩ := x
  simp only [Arg.v, Arg.sign] at *
  generalize num l = n at *
  have HL := Lib.hid hL; clear hL hF hr hw32 hb1 hx hcap
  go_enter Tryd.func36, Tryd.ntmps36
  go_wp2_with fail
  refine HL.out.mono ?_; rintro en w1 ⟨rfl, rfl⟩
  rcases hz with rfl | hz
  · rw [bitLen_zero]
    go_wp2
    go_ret
    exact ⟨rfl, HB.out⟩
  · have hn : n ≠ 0 := by rintro rfl; rw [bitLen_zero] at hz; omega
    cases s with
    | true =>
      go_wp2
      go_ret
      exact ⟨rfl, HB.out⟩
    | false =>
      go_wp2
      go_ret
      exact ⟨rfl, HB.out⟩

set_option maxRecDepth 10000 in
set_option maxHeartbeats 1000000 in
theorem rsign_any (x : Arg) (w : World) (hx : x.Ok w) :
    Calls Tryd.prog 38 #[x.v] w fun en w' => en = .returned (.int .i64 x.sign) ∧ Below w.heap.size w w' := by
  have hF := fun W (hw : Below w.heap.size w W) => rlen_any x.a x.c x.l W (by have := hx.len; omega)
  have hcap := hx.sl.cap
  have hr := fun W (hw : Below w.heap.size w W) => hx.sl.rd.grow hw
  have hw32 := hx.sl.w32
  have hz : num x.l = 0 ∨ 0 < bitLen (num x.l) := by
    rcases Nat.eq_zero_or_pos (num x.l) with h | h
    · exact .inl h
    · exact .inr (bitLen_pos (by omega))
  have hb1 := (Below.refl w.heap.size w).alloc (Nat.le_refl _) (.cells #[.bool x.s, .slice x.a x.l.length x.c, .int .i64 x.e] 27)
  have hL := hF _ hb1 hw32 (hr _ hb1)
  have HB := Lib.hid hb1
  obtain ⟨s, a, l, c, e⟩ := x
  simp only [Arg.v, Arg.sign] at *
  generalize num l = n at *
  have HL := Lib.hid hL; clear hL hF hr hw32 hb1 hx hcap
  go_enter Tryd.func38, Tryd.ntmps38
  go_wp2_with fail
  refine HL.out.mono ?_; rintro en w1 ⟨rfl, rfl⟩
  rcases hz with rfl | hz
  · rw [bitLen_zero]
    go_wp2
    go_ret
    exact ⟨rfl, HB.out⟩
  · have hn : n ≠ 0 := by rintro rfl; rw [bitLen_zero] at hz; omega
    cases s with
    | true =>
      go_wp2
      go_ret
      exact ⟨rfl, HB.out⟩
    | false =>
      go_wp2
      go_ret
      exact ⟨rfl, HB.out⟩
end Go.Proofs.YtmokomfneikipaaDoor
