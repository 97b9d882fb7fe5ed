/- Contracts of dyad.Make, both and of steelyardref03's told, Made, Make. No statement of the seat is proved here. -/
import Derived.Test.YtmokomfneikipaaDoorProg
import Derived.Test.YtmokomfneikipaaDoorDk
namespace Go.Proofs.YtmokomfneikipaaDoor
open Go.RowKit
set_option linter.unusedVariables false
set_option linter.unusedSimpArgs false

set_option maxRecDepth 10000 in
set_option maxHeartbeats 1000000 in
theorem dmake_any (s : Bool) (a : Option Addr) (c : Nat) (l : List Nat) (e : Int) (w : World) (hx : Arg.Ok w ⟨s, a, l, c, e⟩) (hT : Tab w) :
    Calls Tryd.prog 14 #[.bool s, .slice a l.length c, .int .i64 e] w fun en w' => Came w w' (formF s (num l) e) en := by
  obtain ⟨h1, h2, h3, h4⟩ := hx
  obtain ⟨w0, hw0⟩ : ∃ w0, w0 = w.alloc (.cells #[.bool false, .slice none 0 0, .int .i64 0] 27) := ⟨_, rfl⟩
  have hb0 : Below w.heap.size w w0 := by rw [hw0]; exact (Below.refl _ _).alloc (Nat.le_refl _) _
  have hF := dform_any s a c l e w0 (by dsimp only at h2; omega) h1.w32 (h1.rd.grow hb0) h3 h4 (hT.grow hb0)
  rw [hw0] at hF
  have HF := Lib.hid hF; clear hF
  go_enter Tryd.func14, Tryd.ntmps14
  go_wp2_with fail
  refine HF.out.mono ?_; rintro en w1 ⟨v, rfl, ⟨a1, c1, rfl, ho⟩, hb⟩
  rw [World.size_alloc] at hb ho
  have hc := (Cel.new w (.bool false) (.slice none 0 0) (.int .i64 0)).below hb (by omega)
  obtain ⟨c0, cc1, c2, z0, z1, z2⟩ := hc.facts
  simp only [dyV]
  go_wp2
  refine bodyPost_ret (v := .tuple #[dyV (outO (formF s (num l) e)) a1 c1, .int .i64 (errO (formF s (num l) e))]) (by simp [results, Tryd.results14, go_sem, dyV, c0, cc1, c2]) rfl ?_
  exact ⟨_, rfl, ⟨a1, c1, rfl, (own_wr3 ho (by omega)).mono (by omega)⟩, below_wr3 (below_new hb) (Nat.le_refl _)⟩

set_option maxRecDepth 10000 in
set_option maxHeartbeats 1000000 in
theorem told_any (s : Bool) (a : Option Addr) (c : Nat) (l : List Nat) (e : Int) (w : World) (hx : Arg.Ok w ⟨s, a, l, c, e⟩) :
    Calls Tryd.prog 52 #[.bool s, .slice a l.length c, .int .i64 e] w fun en w' => Came w w' (formF s (num l) e) en := by
  obtain ⟨h1, h2, h3, h4⟩ := hx
  obtain ⟨w0, hw0⟩ : ∃ w0, w0 = w.alloc (.cells #[.bool false, .slice none 0 0, .int .i64 0] 27) := ⟨_, rfl⟩
  have hb0 : Below w.heap.size w w0 := by rw [hw0]; exact (Below.refl _ _).alloc (Nat.le_refl _) _
  have hF := rform_any s a c l e w0 h2 (h1.grow hb0) h3 h4
  rw [hw0] at hF
  obtain ⟨o, ho⟩ : ∃ o, o = formF s (num l) e := ⟨_, rfl⟩
  rw [← ho] at hF ⊢
  have HF := Lib.hid hF; clear hF ho
  go_enter Tryd.func52, Tryd.ntmps52
  go_wp2_with fail
  refine HF.out.mono ?_; rintro en w1 ⟨v, rfl, ⟨a1, c1, rfl, ho⟩, hb⟩
  rw [World.size_alloc] at hb ho
  have hs := hb.size
  rw [World.size_alloc] at hs
  have hc := (Cel.new w (.bool false) (.slice none 0 0) (.int .i64 0)).below hb (by omega)
  have hcN := Cel.new w1 (.bool (outO o).neg) (.slice a1 (words (outO o).m).length c1) (.int .i64 (outO o).exp)
  have hcA := hc.alloc (.cells #[.bool (outO o).neg, .slice a1 (words (outO o).m).length c1, .int .i64 (outO o).exp] 27)
  obtain ⟨c0, cc1, c2, z0, z1, z2⟩ := hcA.facts
  obtain ⟨d0, d1, d2, y0, y1, y2⟩ := hcN.facts
  have hb2 : Below w.heap.size w (w1.alloc (.cells #[.bool (outO o).neg, .slice a1 (words (outO o).m).length c1, .int .i64 (outO o).exp] 27)) := (below_new hb).alloc (by omega) _
  have ho2 := ho.grow ((Below.refl _ _).alloc (Nat.le_refl _) (.cells #[.bool (outO o).neg, .slice a1 (words (outO o).m).length c1, .int .i64 (outO o).exp] 27))
  have HB2 := Lib.hid hb2; have HO2 := Lib.hid ho2; clear hb2 ho2 hc hcN hcA
  simp only [dyV]
  cases o with
  | none =>
    simp only [Option.isSome]
    go_wp2
    refine bodyPost_ret (v := .tuple #[dyV D.zero none 0, .int .i64 2]) (by simp [results, Tryd.results52, go_sem, dyV, D.zero, words_zero, c0, cc1, c2]) rfl ?_
    refine ⟨_, rfl, ⟨none, 0, rfl, ?_⟩, below_wr3 (g := w.heap.size) HB2.out (Nat.le_refl _)⟩
    rw [show (outO none).m = 0 from rfl, words_zero]; exact Own.none _ _ _
  | some d =>
    simp only [Option.isSome]
    go_wp2
    refine bodyPost_ret (v := .tuple #[dyV (outO (some d)) a1 c1, .int .i64 0]) (by simp [results, Tryd.results52, go_sem, dyV, c0, cc1, c2]) rfl ?_
    exact ⟨_, rfl, ⟨a1, c1, rfl, (own_wr3 HO2.out (by omega)).mono (by omega)⟩, below_wr3 HB2.out (Nat.le_refl _)⟩

set_option maxRecDepth 10000 in
set_option maxHeartbeats 1000000 in
theorem rmake_any (s : Bool) (a : Option Addr) (c : Nat) (l : List Nat) (e : Int) (w : World) (hx : Arg.Ok w ⟨s, a, l, c, e⟩) :
    Calls Tryd.prog 16 #[.bool s, .slice a l.length c, .int .i64 e] w fun en w' => Came w w' (formF s (num l) e) en := by
  obtain ⟨w0, hw0⟩ : ∃ w0, w0 = w.alloc (.cells #[.bool false, .slice none 0 0, .int .i64 0] 27) := ⟨_, rfl⟩
  have hb0 : Below w.heap.size w w0 := by rw [hw0]; exact (Below.refl _ _).alloc (Nat.le_refl _) _
  have hF := told_any s a c l e w0 (hx.grow hb0)
  rw [hw0] at hF
  have HF := Lib.hid hF; clear hF
  go_enter Tryd.func16, Tryd.ntmps16
  go_wp2_with fail
  refine HF.out.mono ?_; rintro en w1 ⟨v, rfl, ⟨a1, c1, rfl, ho⟩, hb⟩
  rw [World.size_alloc] at hb ho
  have hc := (Cel.new w (.bool false) (.slice none 0 0) (.int .i64 0)).below hb (by omega)
  obtain ⟨c0, cc1, c2, z0, z1, z2⟩ := hc.facts
  simp only [dyV]
  go_wp2
  refine bodyPost_ret (v := .tuple #[dyV (outO (formF s (num l) e)) a1 c1, .int .i64 (errO (formF s (num l) e))]) (by simp [results, Tryd.results16, go_sem, dyV, c0, cc1, c2]) rfl ?_
  exact ⟨_, rfl, ⟨a1, c1, rfl, (own_wr3 ho (by omega)).mono (by omega)⟩, below_wr3 (below_new hb) (Nat.le_refl _)⟩

set_option maxRecDepth 10000 in
set_option maxHeartbeats 1000000 in
theorem made_any (x : Arg) (w : World) (hx : x.Ok w) :
    Calls Tryd.prog 62 #[x.v] w fun en w' => CameB w w' x.F en := by
  obtain ⟨s, a, l, c, e⟩ := x
  have hbx := (Below.refl w.heap.size w).alloc (Nat.le_refl _) (.cells #[.bool s, .slice a l.length c, .int .i64 e] 27)
  have hby := hbx.alloc (by rw [World.size_alloc]; omega) (.cells #[.bool false, .slice none 0 0, .int .i64 0] 27)
  have hF := rform_any s a c l e _ hx.len (hx.sl.grow hby) hx.lo hx.hi
  have HF := Lib.hid hF; have HBY := Lib.hid hby; clear hF hbx hby hx
  simp only [Arg.v, Arg.F]
  go_enter Tryd.func62, Tryd.ntmps62
  go_wp2_with fail
  refine HF.out.mono ?_; rintro en w1 ⟨v, rfl, ⟨a1, c1, rfl, ho⟩, hb⟩
  simp only [World.size_alloc] at hb ho
  have hc := (Cel.new (w.alloc (.cells #[.bool s, .slice a l.length c, .int .i64 e] 27)) (.bool false) (.slice none 0 0) (.int .i64 0)).below hb (by simp)
  simp only [World.size_alloc] at hc
  obtain ⟨c0, cc1, c2, z0, z1, z2⟩ := hc.facts
  simp only [dyV]
  go_wp2
  refine bodyPost_ret (v := .tuple #[dyV (outO (formF s (num l) e)) a1 c1, .bool (formF s (num l) e).isSome]) (by simp [results, Tryd.results62, go_sem, dyV, c0, cc1, c2]) rfl ?_
  exact ⟨_, rfl, ⟨a1, c1, rfl, (own_wr3 ho (by omega)).mono (by omega)⟩, below_wr3 (HBY.out.trans (hb.mono (by omega))) (by omega)⟩

def bothE (x y : Option D) : Int := if x.isNone || y.isNone then 2 else 0
def both2 (x y : Option D) : D := if x.isSome then outO y else D.zero

set_option maxRecDepth 10000 in
set_option maxHeartbeats 1000000 in
theorem both_any (x y : Arg) (w : World) (hx : x.Ok w) (hy : y.Ok w) (hT : Tab w) :
    Calls Tryd.prog 57 #[x.v, y.v] w fun en w' => ∃ v1 v2, en = .returned (.tuple #[v1, v2, .int .i64 (bothE x.F y.F)]) ∧ DOwn w' w.heap.size (outO x.F) v1 ∧ DOwn w' w.heap.size (both2 x.F y.F) v2 ∧ Below w.heap.size w w' := by
  obtain ⟨s, a, l, c, e⟩ := x
  obtain ⟨s', a', l', c', e'⟩ := y
  have hF := fun W hw => dform_any s a c l e W (by have := hx.len; dsimp only at this; omega) hx.sl.w32 (hx.sl.rd.grow hw) hx.lo hx.hi (hT.grow hw)
  have hF2 := fun W hw => dform_any s' a' c' l' e' W (by have := hy.len; dsimp only at this; omega) hy.sl.w32 (hy.sl.rd.grow hw) hy.lo hy.hi (hT.grow hw)
  simp only [Arg.v, Arg.F]
  obtain ⟨o, ho⟩ : ∃ o, o = formF s (num l) e := ⟨_, rfl⟩
  obtain ⟨o', ho'⟩ : ∃ o, o = formF s' (num l') e' := ⟨_, rfl⟩
  rw [← ho] at hF
  rw [← ho'] at hF2
  rw [← ho, ← ho']
  have HF := Lib.hid hF; have HF2 := Lib.hid hF2; clear hF hF2 hx hy ho ho' hT
  go_enter Tryd.func57, Tryd.ntmps57
  go_wp2_with fail
  (obtain ⟨w1, h1⟩ : ∃ W, W = (w.alloc (.cells #[.bool s, .slice a l.length c, .int .i64 e] 27)) := ⟨_, rfl⟩; have pinEq := h1; (try simp only [wr3] at pinEq); rw [← pinEq]; clear pinEq)
  (obtain ⟨w2, h2⟩ : ∃ W, W = (w1.alloc (.cells #[.bool s', .slice a' l'.length c', .int .i64 e'] 27)) := ⟨_, rfl⟩; have pinEq := h2; (try simp only [wr3] at pinEq); rw [← pinEq]; clear pinEq)
  (obtain ⟨w3, h3⟩ : ∃ W, W = (w2.alloc (.cells #[.bool false, .slice none 0 0, .int .i64 0] 27)) := ⟨_, rfl⟩; have pinEq := h3; (try simp only [wr3] at pinEq); rw [← pinEq]; clear pinEq)
  (obtain ⟨w4, h4⟩ : ∃ W, W = (w3.alloc (.cells #[.bool false, .slice none 0 0, .int .i64 0] 27)) := ⟨_, rfl⟩; have pinEq := h4; (try simp only [wr3] at pinEq); rw [← pinEq]; clear pinEq)
  obtain ⟨-, hB, s1⟩ := new_cel h1 rfl
  obtain ⟨k2, b2, s2⟩ := new_cel h2 s1
  replace hB := below_call b2 hB (by omega)
  obtain ⟨k3, b3, s3⟩ := new_cel h3 s2
  (replace k2 := cel_call b3 k2 (by omega); replace b2 := below_call b3 b2 (by omega); replace hB := below_call b3 hB (by omega))
  obtain ⟨k4, b4, s4⟩ := new_cel h4 s3
  (replace k3 := cel_call b4 k3 (by omega); replace b3 := below_call b4 b3 (by omega); replace k2 := cel_call b4 k2 (by omega); replace b2 := below_call b4 b2 (by omega); replace hB := below_call b4 hB (by omega))
  clear h1 h2 h3 h4 b2 b3 b4
  refine (HF.out w4 hB).mono ?_; rintro en w5 ⟨v, rfl, ⟨a1, c1, rfl, ho⟩, hb⟩
  (replace k4 := cel_call hb k4 (by omega); replace k3 := cel_call hb k3 (by omega); replace k2 := cel_call hb k2 (by omega); replace hB := below_call hb hB (by omega))
  have s5 := hb.size
  clear hb
  rw [s4] at ho s5
  (obtain ⟨q150x0x0, q150x0x1, q150x0x2, q150x0x3, q150x0x4, q150x0x5⟩ := Cel.facts k4; obtain ⟨q150x1x0, q150x1x1, q150x1x2, q150x1x3, q150x1x4, q150x1x5⟩ := Cel.facts k3; obtain ⟨q150x2x0, q150x2x1, q150x2x2, q150x2x3, q150x2x4, q150x2x5⟩ := Cel.facts k2)
  cases o with
  | none =>
    simp only [dyV, errO_none]
    go_wp2
    (obtain ⟨w6, h6⟩ : ∃ W, W = (wr3 w5 (w.heap.size + 1 + 1) (.bool (outO none).neg) (.slice a1 (words (outO none).m).length c1) (.int .i64 (outO none).exp)) := ⟨_, rfl⟩; have pinEq := h6; (try simp only [wr3] at pinEq); rw [← pinEq]; clear pinEq)
    (replace k4 := cel_wr_ne h6 k4 (by omega); replace k3 := cel_wr_same h6 k3; replace k2 := cel_wr_ne h6 k2 (by omega); replace hB := below_wr h6 hB (by omega); replace ho := own_wr h6 ho (by omega)); clear h6; (clear q150x0x0 q150x0x1 q150x0x2 q150x0x3 q150x0x4 q150x0x5 q150x1x0 q150x1x1 q150x1x2 q150x1x3 q150x1x4 q150x1x5 q150x2x0 q150x2x1 q150x2x2 q150x2x3 q150x2x4 q150x2x5; obtain ⟨q156x0x0, q156x0x1, q156x0x2, q156x0x3, q156x0x4, q156x0x5⟩ := Cel.facts k4; obtain ⟨q156x1x0, q156x1x1, q156x1x2, q156x1x3, q156x1x4, q156x1x5⟩ := Cel.facts k3; obtain ⟨q156x2x0, q156x2x1, q156x2x2, q156x2x3, q156x2x4, q156x2x5⟩ := Cel.facts k2)
    go_region
    (obtain ⟨w7, h7⟩ : ∃ W, W = (wr3 w6 (w.heap.size + 1 + 1) (.bool (outO none).neg) (.slice a1 (words (outO none).m).length c1) (.int .i64 (outO none).exp)) := ⟨_, rfl⟩; have pinEq := h7; (try simp only [wr3] at pinEq); rw [← pinEq]; clear pinEq)
    (replace k4 := cel_wr_ne h7 k4 (by omega); replace k3 := cel_wr_same h7 k3; replace k2 := cel_wr_ne h7 k2 (by omega); replace hB := below_wr h7 hB (by omega); replace ho := own_wr h7 ho (by omega)); clear h7
    (obtain ⟨w8, h8⟩ : ∃ W, W = (wr3 w7 (w.heap.size + 1 + 1 + 1) (.bool false) (.slice none 0 0) (.int .i64 0)) := ⟨_, rfl⟩; have pinEq := h8; (try simp only [wr3] at pinEq); rw [← pinEq]; clear pinEq)
    (replace k4 := cel_wr_same h8 k4; replace k3 := cel_wr_ne h8 k3 (by omega); replace k2 := cel_wr_ne h8 k2 (by omega); replace hB := below_wr h8 hB (by omega); replace ho := own_wr h8 ho (by omega)); clear h8
    (obtain ⟨w9, h9⟩ : ∃ W, W = (w8.drew) := ⟨_, rfl⟩; have pinEq := h9; (try simp only [wr3] at pinEq); rw [← pinEq]; clear pinEq)
    (replace k4 := cel_drew_eq h9 k4; replace k3 := cel_drew_eq h9 k3; replace k2 := cel_drew_eq h9 k2; replace hB := below_drew_eq h9 hB; replace ho := own_drew_eq h9 ho); clear h9; (clear q156x0x0 q156x0x1 q156x0x2 q156x0x3 q156x0x4 q156x0x5 q156x1x0 q156x1x1 q156x1x2 q156x1x3 q156x1x4 q156x1x5 q156x2x0 q156x2x1 q156x2x2 q156x2x3 q156x2x4 q156x2x5; obtain ⟨q163x0x0, q163x0x1, q163x0x2, q163x0x3, q163x0x4, q163x0x5⟩ := Cel.facts k4; obtain ⟨q163x1x0, q163x1x1, q163x1x2, q163x1x3, q163x1x4, q163x1x5⟩ := Cel.facts k3; obtain ⟨q163x2x0, q163x2x1, q163x2x2, q163x2x3, q163x2x4, q163x2x5⟩ := Cel.facts k2)
    obtain ⟨q0, q1, q2, -, -, -⟩ := k3.facts
    obtain ⟨r0, r1, r2, -, -, -⟩ := k4.facts
    go_wp2
    refine bodyPost_ret (v := .tuple #[dyV (outO none) a1 c1, dyV D.zero none 0, .int .i64 2]) (by simp [results, Tryd.results57, go_sem, dyV, D.zero, words_zero, q0, q1, q2, r0, r1, r2]) rfl ?_
    refine ⟨dyV (outO none) a1 c1, dyV D.zero none 0, rfl, ⟨a1, c1, rfl, ho.mono (by omega)⟩, ⟨none, 0, rfl, ?_⟩, hB⟩
    rw [show (both2 none o').m = 0 from rfl, words_zero]; exact Own.none _ _ _
  | some d =>
    simp only [dyV, errO_some]
    go_wp2_with fail
    (obtain ⟨w6, h6⟩ : ∃ W, W = (wr3 w5 (w.heap.size + 1 + 1) (.bool (outO (some d)).neg) (.slice a1 (words (outO (some d)).m).length c1) (.int .i64 (outO (some d)).exp)) := ⟨_, rfl⟩; have pinEq := h6; (try simp only [wr3] at pinEq); rw [← pinEq]; clear pinEq)
    (replace k4 := cel_wr_ne h6 k4 (by omega); replace k3 := cel_wr_same h6 k3; replace k2 := cel_wr_ne h6 k2 (by omega); replace hB := below_wr h6 hB (by omega); replace ho := own_wr h6 ho (by omega))
    have s6 := size_wr h6; clear h6
    refine (HF2.out w6 hB).mono ?_; rintro en w7 ⟨v, rfl, ⟨a2, c2, rfl, ho2⟩, hb⟩
    (replace k4 := cel_call hb k4 (by omega); replace k3 := cel_call hb k3 (by omega); replace k2 := cel_call hb k2 (by omega); replace hB := below_call hb hB (by omega); replace ho := own_call hb ho)
    have s7 := hb.size
    clear hb
    (clear q150x0x0 q150x0x1 q150x0x2 q150x0x3 q150x0x4 q150x0x5 q150x1x0 q150x1x1 q150x1x2 q150x1x3 q150x1x4 q150x1x5 q150x2x0 q150x2x1 q150x2x2 q150x2x3 q150x2x4 q150x2x5; obtain ⟨q180x0x0, q180x0x1, q180x0x2, q180x0x3, q180x0x4, q180x0x5⟩ := Cel.facts k4; obtain ⟨q180x1x0, q180x1x1, q180x1x2, q180x1x3, q180x1x4, q180x1x5⟩ := Cel.facts k3; obtain ⟨q180x2x0, q180x2x1, q180x2x2, q180x2x3, q180x2x4, q180x2x5⟩ := Cel.facts k2)
    simp only [dyV]
    go_wp2
    (obtain ⟨w8, h8⟩ : ∃ W, W = (wr3 w7 (w.heap.size + 1 + 1 + 1) (.bool (outO o').neg) (.slice a2 (words (outO o').m).length c2) (.int .i64 (outO o').exp)) := ⟨_, rfl⟩; have pinEq := h8; (try simp only [wr3] at pinEq); rw [← pinEq]; clear pinEq)
    (replace ho2 := own_wr h8 ho2 (by omega); replace k4 := cel_wr_same h8 k4; replace k3 := cel_wr_ne h8 k3 (by omega); replace k2 := cel_wr_ne h8 k2 (by omega); replace hB := below_wr h8 hB (by omega); replace ho := own_wr h8 ho (by omega)); clear h8; (clear q180x0x0 q180x0x1 q180x0x2 q180x0x3 q180x0x4 q180x0x5 q180x1x0 q180x1x1 q180x1x2 q180x1x3 q180x1x4 q180x1x5 q180x2x0 q180x2x1 q180x2x2 q180x2x3 q180x2x4 q180x2x5; obtain ⟨q184x0x0, q184x0x1, q184x0x2, q184x0x3, q184x0x4, q184x0x5⟩ := Cel.facts k4; obtain ⟨q184x1x0, q184x1x1, q184x1x2, q184x1x3, q184x1x4, q184x1x5⟩ := Cel.facts k3; obtain ⟨q184x2x0, q184x2x1, q184x2x2, q184x2x3, q184x2x4, q184x2x5⟩ := Cel.facts k2)
    go_region
    (obtain ⟨w9, h9⟩ : ∃ W, W = (wr3 w8 (w.heap.size + 1 + 1) (.bool (outO (some d)).neg) (.slice a1 (words (outO (some d)).m).length c1) (.int .i64 (outO (some d)).exp)) := ⟨_, rfl⟩; have pinEq := h9; (try simp only [wr3] at pinEq); rw [← pinEq]; clear pinEq)
    (replace ho2 := own_wr h9 ho2 (by omega); replace k4 := cel_wr_ne h9 k4 (by omega); replace k3 := cel_wr_same h9 k3; replace k2 := cel_wr_ne h9 k2 (by omega); replace hB := below_wr h9 hB (by omega); replace ho := own_wr h9 ho (by omega)); clear h9
    (obtain ⟨w10, h10⟩ : ∃ W, W = (wr3 w9 (w.heap.size + 1 + 1 + 1) (.bool (outO o').neg) (.slice a2 (words (outO o').m).length c2) (.int .i64 (outO o').exp)) := ⟨_, rfl⟩; have pinEq := h10; (try simp only [wr3] at pinEq); rw [← pinEq]; clear pinEq)
    (replace ho2 := own_wr h10 ho2 (by omega); replace k4 := cel_wr_same h10 k4; replace k3 := cel_wr_ne h10 k3 (by omega); replace k2 := cel_wr_ne h10 k2 (by omega); replace hB := below_wr h10 hB (by omega); replace ho := own_wr h10 ho (by omega)); clear h10
    (obtain ⟨w11, h11⟩ : ∃ W, W = (w10.drew) := ⟨_, rfl⟩; have pinEq := h11; (try simp only [wr3] at pinEq); rw [← pinEq]; clear pinEq)
    (replace ho2 := own_drew_eq h11 ho2; replace k4 := cel_drew_eq h11 k4; replace k3 := cel_drew_eq h11 k3; replace k2 := cel_drew_eq h11 k2; replace hB := below_drew_eq h11 hB; replace ho := own_drew_eq h11 ho); clear h11; (clear q184x0x0 q184x0x1 q184x0x2 q184x0x3 q184x0x4 q184x0x5 q184x1x0 q184x1x1 q184x1x2 q184x1x3 q184x1x4 q184x1x5 q184x2x0 q184x2x1 q184x2x2 q184x2x3 q184x2x4 q184x2x5; obtain ⟨q191x0x0, q191x0x1, q191x0x2, q191x0x3, q191x0x4, q191x0x5⟩ := Cel.facts k4; obtain ⟨q191x1x0, q191x1x1, q191x1x2, q191x1x3, q191x1x4, q191x1x5⟩ := Cel.facts k3; obtain ⟨q191x2x0, q191x2x1, q191x2x2, q191x2x3, q191x2x4, q191x2x5⟩ := Cel.facts k2)
    obtain ⟨q0, q1, q2, -, -, -⟩ := k3.facts
    obtain ⟨r0, r1, r2, -, -, -⟩ := k4.facts
    go_wp2
    refine bodyPost_ret (v := .tuple #[dyV (outO (some d)) a1 c1, dyV (outO o') a2 c2, .int .i64 (errO o')]) (by simp [results, Tryd.results57, go_sem, dyV, q0, q1, q2, r0, r1, r2]) rfl ?_
    refine ⟨dyV (outO (some d)) a1 c1, dyV (outO o') a2 c2, ?_, ⟨a1, c1, rfl, ho.mono (by omega)⟩, ⟨a2, c2, rfl, ho2.mono (by omega)⟩, hB⟩
    rw [show bothE (some d) o' = errO o' from by cases o' <;> rfl]
end Go.Proofs.YtmokomfneikipaaDoor
