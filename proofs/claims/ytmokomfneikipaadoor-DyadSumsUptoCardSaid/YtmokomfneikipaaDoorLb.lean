/- The walk of steelyardlaw03.DyadSums: true for every input of the sizes that its hypotheses name. Printed by wip/tools/gen_law.py. -/
import Derived.Test.YtmokomfneikipaaDoorProg
import Derived.Test.YtmokomfneikipaaDoorLx
namespace Go.Proofs.YtmokomfneikipaaDoor
open Go.RowKit
set_option linter.unusedVariables false
set_option linter.unusedSimpArgs false

set_option maxRecDepth 10000 in
set_option maxHeartbeats 16000000 in
theorem sums_any (x y : Arg) (w : World) (hx : x.Ok w) (hy : y.Ok w) (hT : Tab w) :
    Calls Tryd.prog 4 #[x.v, y.v] w fun en w' => en = .returned (.bool true) ∧ Below w.heap.size w w' := by
  obtain ⟨s, a, l, c, e⟩ := x
  obtain ⟨s', a', l', c', e'⟩ := y
  have hAwk := fun W (hw : Below w.heap.size w W) => awake_any W (hT.grow hw)
  have hLx := fun W (hw : Below w.heap.size w W) => dlent_any ⟨s, a, l, c, e⟩ W (hx.grow hw)
  have hLy := fun W (hw : Below w.heap.size w W) => dlent_any ⟨s', a', l', c', e'⟩ W (hy.grow hw)
  have hAx := fun W g (hw : Below w.heap.size w W) hk hne => daslent_any ⟨s, a, l, c, e⟩ g W (hx.grow hw) hk hne
  have hAy := fun W g (hw : Below w.heap.size w W) hk hne => daslent_any ⟨s', a', l', c', e'⟩ g W (hy.grow hw) hk hne
  have alt1 : ∀ ad, l ≠ [] → a = some ad → ad.block < w.heap.size := fun ad hl ha => hx.sl.rd.lt ha hl
  have alt2 : ∀ ad, l' ≠ [] → a' = some ad → ad.block < w.heap.size := fun ad hl ha => hy.sl.rd.lt ha hl
  simp only [Arg.v] at hLx hLy hAx hAy ⊢
  have h1 : ∀ (W : World) (g1 g2 : Nat), Below w.heap.size w W → Blk W 64 g1 (l ++ [71, 72]) → Blk W 64 g2 (l' ++ [71, 72]) → Calls Tryd.prog 21 #[.agg #[.bool s, .slice (some ⟨g1, 0, none⟩) l.length (l.length + 2), .int .i64 e], .agg #[.bool s', .slice (some ⟨g2, 0, none⟩) l'.length (l'.length + 2), .int .i64 e']] W fun en w' => Came W w' (addO (formF s (num l) e) (formF s' (num l') e')) en := by
    intro W g1 g2 hw h1 h2
    have := dadd_any ⟨s, some ⟨g1, 0, none⟩, l, l.length + 2, e⟩ ⟨s', some ⟨g2, 0, none⟩, l', l'.length + 2, e'⟩ W (lent_ok hx h1) (lent_ok hy h2) (hT.grow hw)
    exact this
  have h2 : ∀ (W : World) (g1 g2 : Nat), Below w.heap.size w W → Blk W 64 g1 (l ++ [71, 72]) → Blk W 64 g2 (l' ++ [71, 72]) → Calls Tryd.prog 21 #[.agg #[.bool s', .slice (some ⟨g2, 0, none⟩) l'.length (l'.length + 2), .int .i64 e'], .agg #[.bool s, .slice (some ⟨g1, 0, none⟩) l.length (l.length + 2), .int .i64 e]] W fun en w' => Came W w' (addO (formF s (num l) e) (formF s' (num l') e')) en := by
    intro W g1 g2 hw h1 h2
    have := dadd_any ⟨s', some ⟨g2, 0, none⟩, l', l'.length + 2, e'⟩ ⟨s, some ⟨g1, 0, none⟩, l, l.length + 2, e⟩ W (lent_ok hy h2) (lent_ok hx h1) (hT.grow hw)
    rw [addF_comm]
    exact this
  have h3 : ∀ (W : World) (g1 g2 : Nat), Below w.heap.size w W → Blk W 64 g1 (l ++ [71, 72]) → Blk W 64 g2 (l' ++ [71, 72]) → Calls Tryd.prog 22 #[.agg #[.bool s, .slice (some ⟨g1, 0, none⟩) l.length (l.length + 2), .int .i64 e], .agg #[.bool s', .slice (some ⟨g2, 0, none⟩) l'.length (l'.length + 2), .int .i64 e']] W fun en w' => Came W w' (addO (formF s (num l) e) (formF (!s') (num l') e')) en := by
    intro W g1 g2 hw h1 h2
    have := dsub_any ⟨s, some ⟨g1, 0, none⟩, l, l.length + 2, e⟩ ⟨s', some ⟨g2, 0, none⟩, l', l'.length + 2, e'⟩ W (lent_ok hx h1) (lent_ok hy h2) (hT.grow hw)
    exact this
  have h4 : ∀ (W : World) (g1 g2 : Nat), Below w.heap.size w W → Blk W 64 g1 (l ++ [71, 72]) → Blk W 64 g2 (l' ++ [71, 72]) → Calls Tryd.prog 22 #[.agg #[.bool s', .slice (some ⟨g2, 0, none⟩) l'.length (l'.length + 2), .int .i64 e'], .agg #[.bool s, .slice (some ⟨g1, 0, none⟩) l.length (l.length + 2), .int .i64 e]] W fun en w' => Came W w' (addO (formF s' (num l') e') (formF (!s) (num l) e)) en := by
    intro W g1 g2 hw h1 h2
    have := dsub_any ⟨s', some ⟨g2, 0, none⟩, l', l'.length + 2, e'⟩ ⟨s, some ⟨g1, 0, none⟩, l, l.length + 2, e⟩ W (lent_ok hy h2) (lent_ok hx h1) (hT.grow hw)
    exact this
  have h5 : ∀ (W : World) (g1 g2 : Nat), Below w.heap.size w W → Blk W 64 g1 (l ++ [71, 72]) → Blk W 64 g2 (l' ++ [71, 72]) → Calls Tryd.prog 21 #[.agg #[.bool s, .slice (some ⟨g1, 0, none⟩) l.length (l.length + 2), .int .i64 e], .agg #[.bool s, .slice (some ⟨g1, 0, none⟩) l.length (l.length + 2), .int .i64 e]] W fun en w' => Came W w' (addO (formF s (num l) e) (formF s (num l) e)) en := by
    intro W g1 g2 hw h1 h2
    have := dadd_any ⟨s, some ⟨g1, 0, none⟩, l, l.length + 2, e⟩ ⟨s, some ⟨g1, 0, none⟩, l, l.length + 2, e⟩ W (lent_ok hx h1) (lent_ok hx h1) (hT.grow hw)
    exact this
  have h6 : ∀ (W : World) (g1 g2 : Nat), Below w.heap.size w W → Blk W 64 g1 (l ++ [71, 72]) → Blk W 64 g2 (l' ++ [71, 72]) → Calls Tryd.prog 22 #[.agg #[.bool s, .slice (some ⟨g1, 0, none⟩) l.length (l.length + 2), .int .i64 e], .agg #[.bool s, .slice (some ⟨g1, 0, none⟩) l.length (l.length + 2), .int .i64 e]] W fun en w' => Came W w' (addO (formF s (num l) e) (formF (!s) (num l) e)) en := by
    intro W g1 g2 hw h1 h2
    have := dsub_any ⟨s, some ⟨g1, 0, none⟩, l, l.length + 2, e⟩ ⟨s, some ⟨g1, 0, none⟩, l, l.length + 2, e⟩ W (lent_ok hx h1) (lent_ok hx h1) (hT.grow hw)
    exact this
  have h7 : ∀ (W : World) (g1 g2 : Nat), Below w.heap.size w W → Calls Tryd.prog 24 #[.agg #[.bool s, .slice a l.length c, .int .i64 e], .agg #[.bool s', .slice a' l'.length c', .int .i64 e']] W fun en w' => Came W w' (addO (formF s (num l) e) (formF s' (num l') e')) en := by
    intro W g1 g2 hw
    have := radd_any ⟨s, a, l, c, e⟩ ⟨s', a', l', c', e'⟩ W (hx.grow hw) (hy.grow hw)
    exact this
  have h8 : ∀ (W : World) (g1 g2 : Nat), Below w.heap.size w W → Calls Tryd.prog 25 #[.agg #[.bool s, .slice a l.length c, .int .i64 e], .agg #[.bool s', .slice a' l'.length c', .int .i64 e']] W fun en w' => Came W w' (addO (formF s (num l) e) (formF (!s') (num l') e')) en := by
    intro W g1 g2 hw
    have := rsub_any ⟨s, a, l, c, e⟩ ⟨s', a', l', c', e'⟩ W (hx.grow hw) (hy.grow hw)
    exact this
  have h9 : ∀ (W : World) (g1 g2 : Nat), Below w.heap.size w W → Calls Tryd.prog 25 #[.agg #[.bool s', .slice a' l'.length c', .int .i64 e'], .agg #[.bool s, .slice a l.length c, .int .i64 e]] W fun en w' => Came W w' (addO (formF s' (num l') e') (formF (!s) (num l) e)) en := by
    intro W g1 g2 hw
    have := rsub_any ⟨s', a', l', c', e'⟩ ⟨s, a, l, c, e⟩ W (hy.grow hw) (hx.grow hw)
    exact this
  have h10 : ∀ (W : World) (g1 g2 : Nat), Below w.heap.size w W → Calls Tryd.prog 24 #[.agg #[.bool s, .slice a l.length c, .int .i64 e], .agg #[.bool s, .slice a l.length c, .int .i64 e]] W fun en w' => Came W w' (addO (formF s (num l) e) (formF s (num l) e)) en := by
    intro W g1 g2 hw
    have := radd_any ⟨s, a, l, c, e⟩ ⟨s, a, l, c, e⟩ W (hx.grow hw) (hx.grow hw)
    exact this
  have h11 : ∀ (W : World) (g1 g2 : Nat), Below w.heap.size w W → Calls Tryd.prog 25 #[.agg #[.bool s, .slice a l.length c, .int .i64 e], .agg #[.bool s, .slice a l.length c, .int .i64 e]] W fun en w' => Came W w' (addO (formF s (num l) e) (formF (!s) (num l) e)) en := by
    intro W g1 g2 hw
    have := rsub_any ⟨s, a, l, c, e⟩ ⟨s, a, l, c, e⟩ W (hx.grow hw) (hx.grow hw)
    exact this
  have okA : (outO (addO (formF s (num l) e) (formF s' (num l') e'))).Ok := addO_ok _ _ _ _ _ _
  have okS : (outO (addO (formF s (num l) e) (formF (!s') (num l') e'))).Ok := addO_ok _ _ _ _ _ _
  have okT : (outO (addO (formF s' (num l') e') (formF (!s) (num l) e))).Ok := addO_ok _ _ _ _ _ _
  have okU : (outO (addO (formF s (num l) e) (formF s (num l) e))).Ok := addO_ok _ _ _ _ _ _
  have okV : (outO (addO (formF s (num l) e) (formF (!s) (num l) e))).Ok := addO_ok _ _ _ _ _ _
  unfold Came at h1 h2 h3 h4 h5 h6 h7 h8 h9 h10 h11
  generalize addO (formF s (num l) e) (formF s' (num l') e') = oA at *
  generalize errO oA = eA at *
  generalize outO oA = dA at *
  generalize addO (formF s (num l) e) (formF (!s') (num l') e') = oS at *
  generalize errO oS = eS at *
  generalize outO oS = dS at *
  generalize addO (formF s' (num l') e') (formF (!s) (num l) e) = oT at *
  generalize errO oT = eT at *
  generalize outO oT = dT at *
  generalize addO (formF s (num l) e) (formF s (num l) e) = oU at *
  generalize errO oU = eU at *
  generalize outO oU = dU at *
  generalize addO (formF s (num l) e) (formF (!s) (num l) e) = oV at *
  generalize errO oV = eV at *
  generalize outO oV = dV at *
  have HhAwk := Lib.hid hAwk; have HhLx := Lib.hid hLx; have HhLy := Lib.hid hLy; have HhAx := Lib.hid hAx; have HhAy := Lib.hid hAy; have Halt1 := Lib.hid alt1; have Halt2 := Lib.hid alt2; have Hh1 := Lib.hid h1; have Hh2 := Lib.hid h2; have Hh3 := Lib.hid h3; have Hh4 := Lib.hid h4; have Hh5 := Lib.hid h5; have Hh6 := Lib.hid h6; have Hh7 := Lib.hid h7; have Hh8 := Lib.hid h8; have Hh9 := Lib.hid h9; have Hh10 := Lib.hid h10; have Hh11 := Lib.hid h11; have HokA := Lib.hid okA; have HokS := Lib.hid okS; have HokT := Lib.hid okT; have HokU := Lib.hid okU; have HokV := Lib.hid okV
  clear hAwk hLx hLy hAx hAy alt1 alt2 h1 h2 h3 h4 h5 h6 h7 h8 h9 h10 h11 okA okS okT okU okV hx hy hT
  go_enter Tryd.func4, Tryd.ntmps4
  go_wp2_with fail
  (obtain ⟨u1, g1'⟩ : ∃ W, W = (w.alloc (.cells #[.bool s, .slice a l.length c, .int .i64 e] 27)) := ⟨_, rfl⟩; have pinEq := g1'; (try simp only [wr3] at pinEq); rw [← pinEq]; clear pinEq)
  (obtain ⟨u2, g2'⟩ : ∃ W, W = (u1.alloc (.cells #[.bool s', .slice a' l'.length c', .int .i64 e'] 27)) := ⟨_, rfl⟩; have pinEq := g2'; (try simp only [wr3] at pinEq); rw [← pinEq]; clear pinEq)
  obtain ⟨kA, hB, s1⟩ := new_cel g1' rfl
  obtain ⟨kB, b2, s2⟩ := new_cel g2' s1
  (replace kA := cel_call b2 kA (by omega); replace hB := below_call b2 hB (by omega))
  clear g1' g2' b2
  refine (HhAwk.out u2 hB).mono ?_; rintro en w0 ⟨rfl, hb⟩
  (replace kB := cel_call hb kB (by omega); replace kA := cel_call hb kA (by omega); replace hB := below_call hb hB (by omega))
  have z0 := hb.size
  clear hb
  obtain ⟨_, _, _, _, _, _⟩ := kA.facts
  go_wp2_with fail
  refine (HhLx.out w0 hB).mono ?_; rintro en wx ⟨g1, rfl, gb1, hl1, hb⟩
  (replace kB := cel_call hb kB (by omega); replace kA := cel_call hb kA (by omega); replace hB := below_call hb hB (by omega))
  have zx := hb.size
  have zg1 := hl1.lt
  clear hb
  simp only []
  obtain ⟨_, _, _, _, _, _⟩ := (kB.alloc (.cells #[.bool s, .slice (some ⟨g1, 0, none⟩) l.length (l.length + 2), .int .i64 e] 27)).facts
  go_wp2_with fail
  (obtain ⟨vx, hvx⟩ : ∃ W, W = (wx.alloc (.cells #[.bool s, .slice (some ⟨g1, 0, none⟩) l.length (l.length + 2), .int .i64 e] 27)) := ⟨_, rfl⟩; have pinEq := hvx; (try simp only [wr3] at pinEq); rw [← pinEq]; clear pinEq)
  obtain ⟨kX, bx, sx⟩ := new_cel hvx rfl
  (replace kB := cel_call bx kB (by omega); replace kA := cel_call bx kA (by omega); replace hB := below_call bx hB (by omega))
  replace hl1 := hl1.grow bx
  clear hvx bx
  refine (HhLy.out vx hB).mono ?_; rintro en wy ⟨g2, rfl, gb2, hl2, hb⟩
  (replace kX := cel_call hb kX (by omega); replace kB := cel_call hb kB (by omega); replace kA := cel_call hb kA (by omega); replace hB := below_call hb hB (by omega))
  replace hl1 := hl1.grow hb
  have zy := hb.size
  have zg2 := hl2.lt
  clear hb
  simp only []
  obtain ⟨_, _, _, _, _, _⟩ := (kX.alloc (.cells #[.bool s', .slice (some ⟨g2, 0, none⟩) l'.length (l'.length + 2), .int .i64 e'] 27)).facts
  go_wp2_with fail
  (obtain ⟨vy, hvy⟩ : ∃ W, W = (wy.alloc (.cells #[.bool s', .slice (some ⟨g2, 0, none⟩) l'.length (l'.length + 2), .int .i64 e'] 27)) := ⟨_, rfl⟩; have pinEq := hvy; (try simp only [wr3] at pinEq); rw [← pinEq]; clear pinEq)
  obtain ⟨kY, by', sy⟩ := new_cel hvy rfl
  (replace kX := cel_call by' kX (by omega); replace kB := cel_call by' kB (by omega); replace kA := cel_call by' kA (by omega); replace hB := below_call by' hB (by omega))
  replace hl1 := hl1.grow by'
  replace hl2 := hl2.grow by'
  clear hvy by'
  refine (Hh1.out vy _ _ hB hl1 hl2).mono ?_; rintro en w1 ⟨v, rfl, ⟨a1, c1, rfl, ho1⟩, hb⟩
  (replace kY := cel_call hb kY (by omega); replace kX := cel_call hb kX (by omega); replace kB := cel_call hb kB (by omega); replace kA := cel_call hb kA (by omega); replace hB := below_call hb hB (by omega))
  replace hl1 := hl1.grow hb
  replace hl2 := hl2.grow hb
  have z1 := hb.size
  have L1 := Lib.hid ho1.lt
  clear hb
  simp only [dyV]
  obtain ⟨_, _, _, _, _, _⟩ := (kX.alloc (.cells #[.bool dA.neg, .slice a1 (words dA.m).length c1, .int .i64 dA.exp] 27)).facts
  obtain ⟨_, _, _, _, _, _⟩ := (kY.alloc (.cells #[.bool dA.neg, .slice a1 (words dA.m).length c1, .int .i64 dA.exp] 27)).facts
  go_wp2_with fail
  (obtain ⟨v1, h1'⟩ : ∃ W, W = (w1.alloc (.cells #[.bool dA.neg, .slice a1 (words dA.m).length c1, .int .i64 dA.exp] 27)) := ⟨_, rfl⟩; have pinEq := h1'; (try simp only [wr3] at pinEq); rw [← pinEq]; clear pinEq)
  obtain ⟨k1, b1', s1'⟩ := new_cel h1' rfl
  (replace ho1 := own_call b1' ho1; replace kY := cel_call b1' kY (by omega); replace kX := cel_call b1' kX (by omega); replace kB := cel_call b1' kB (by omega); replace kA := cel_call b1' kA (by omega); replace hB := below_call b1' hB (by omega))
  replace hl1 := hl1.grow b1'
  replace hl2 := hl2.grow b1'
  clear h1' b1'
  refine (Hh2.out v1 _ _ hB hl1 hl2).mono ?_; rintro en w2 ⟨v, rfl, ⟨a2, c2, rfl, ho2⟩, hb⟩
  (replace k1 := cel_call hb k1 (by omega); replace ho1 := own_call hb ho1; replace kY := cel_call hb kY (by omega); replace kX := cel_call hb kX (by omega); replace kB := cel_call hb kB (by omega); replace kA := cel_call hb kA (by omega); replace hB := below_call hb hB (by omega))
  replace hl1 := hl1.grow hb
  replace hl2 := hl2.grow hb
  have z2 := hb.size
  have L2 := Lib.hid ho2.lt
  clear hb
  simp only [dyV]
  obtain ⟨_, _, _, _, _, _⟩ := (kX.alloc (.cells #[.bool dA.neg, .slice a2 (words dA.m).length c2, .int .i64 dA.exp] 27)).facts
  obtain ⟨_, _, _, _, _, _⟩ := (kY.alloc (.cells #[.bool dA.neg, .slice a2 (words dA.m).length c2, .int .i64 dA.exp] 27)).facts
  go_wp2_with fail
  (obtain ⟨v2, h2'⟩ : ∃ W, W = (w2.alloc (.cells #[.bool dA.neg, .slice a2 (words dA.m).length c2, .int .i64 dA.exp] 27)) := ⟨_, rfl⟩; have pinEq := h2'; (try simp only [wr3] at pinEq); rw [← pinEq]; clear pinEq)
  obtain ⟨k2, b2', s2'⟩ := new_cel h2' rfl
  (replace ho2 := own_call b2' ho2; replace k1 := cel_call b2' k1 (by omega); replace ho1 := own_call b2' ho1; replace kY := cel_call b2' kY (by omega); replace kX := cel_call b2' kX (by omega); replace kB := cel_call b2' kB (by omega); replace kA := cel_call b2' kA (by omega); replace hB := below_call b2' hB (by omega))
  replace hl1 := hl1.grow b2'
  replace hl2 := hl2.grow b2'
  clear h2' b2'
  refine (Hh3.out v2 _ _ hB hl1 hl2).mono ?_; rintro en w3 ⟨v, rfl, ⟨a3, c3, rfl, ho3⟩, hb⟩
  (replace k2 := cel_call hb k2 (by omega); replace ho2 := own_call hb ho2; replace k1 := cel_call hb k1 (by omega); replace ho1 := own_call hb ho1; replace kY := cel_call hb kY (by omega); replace kX := cel_call hb kX (by omega); replace kB := cel_call hb kB (by omega); replace kA := cel_call hb kA (by omega); replace hB := below_call hb hB (by omega))
  replace hl1 := hl1.grow hb
  replace hl2 := hl2.grow hb
  have z3 := hb.size
  have L3 := Lib.hid ho3.lt
  clear hb
  simp only [dyV]
  obtain ⟨_, _, _, _, _, _⟩ := (kX.alloc (.cells #[.bool dS.neg, .slice a3 (words dS.m).length c3, .int .i64 dS.exp] 27)).facts
  obtain ⟨_, _, _, _, _, _⟩ := (kY.alloc (.cells #[.bool dS.neg, .slice a3 (words dS.m).length c3, .int .i64 dS.exp] 27)).facts
  go_wp2_with fail
  (obtain ⟨v3, h3'⟩ : ∃ W, W = (w3.alloc (.cells #[.bool dS.neg, .slice a3 (words dS.m).length c3, .int .i64 dS.exp] 27)) := ⟨_, rfl⟩; have pinEq := h3'; (try simp only [wr3] at pinEq); rw [← pinEq]; clear pinEq)
  obtain ⟨k3, b3', s3'⟩ := new_cel h3' rfl
  (replace ho3 := own_call b3' ho3; replace k2 := cel_call b3' k2 (by omega); replace ho2 := own_call b3' ho2; replace k1 := cel_call b3' k1 (by omega); replace ho1 := own_call b3' ho1; replace kY := cel_call b3' kY (by omega); replace kX := cel_call b3' kX (by omega); replace kB := cel_call b3' kB (by omega); replace kA := cel_call b3' kA (by omega); replace hB := below_call b3' hB (by omega))
  replace hl1 := hl1.grow b3'
  replace hl2 := hl2.grow b3'
  clear h3' b3'
  refine (Hh4.out v3 _ _ hB hl1 hl2).mono ?_; rintro en w4 ⟨v, rfl, ⟨a4, c4, rfl, ho4⟩, hb⟩
  (replace k3 := cel_call hb k3 (by omega); replace ho3 := own_call hb ho3; replace k2 := cel_call hb k2 (by omega); replace ho2 := own_call hb ho2; replace k1 := cel_call hb k1 (by omega); replace ho1 := own_call hb ho1; replace kY := cel_call hb kY (by omega); replace kX := cel_call hb kX (by omega); replace kB := cel_call hb kB (by omega); replace kA := cel_call hb kA (by omega); replace hB := below_call hb hB (by omega))
  replace hl1 := hl1.grow hb
  replace hl2 := hl2.grow hb
  have z4 := hb.size
  have L4 := Lib.hid ho4.lt
  clear hb
  simp only [dyV]
  obtain ⟨_, _, _, _, _, _⟩ := (kX.alloc (.cells #[.bool dT.neg, .slice a4 (words dT.m).length c4, .int .i64 dT.exp] 27)).facts
  go_wp2_with fail
  (obtain ⟨v4, h4'⟩ : ∃ W, W = (w4.alloc (.cells #[.bool dT.neg, .slice a4 (words dT.m).length c4, .int .i64 dT.exp] 27)) := ⟨_, rfl⟩; have pinEq := h4'; (try simp only [wr3] at pinEq); rw [← pinEq]; clear pinEq)
  obtain ⟨k4, b4', s4'⟩ := new_cel h4' rfl
  (replace ho4 := own_call b4' ho4; replace k3 := cel_call b4' k3 (by omega); replace ho3 := own_call b4' ho3; replace k2 := cel_call b4' k2 (by omega); replace ho2 := own_call b4' ho2; replace k1 := cel_call b4' k1 (by omega); replace ho1 := own_call b4' ho1; replace kY := cel_call b4' kY (by omega); replace kX := cel_call b4' kX (by omega); replace kB := cel_call b4' kB (by omega); replace kA := cel_call b4' kA (by omega); replace hB := below_call b4' hB (by omega))
  replace hl1 := hl1.grow b4'
  replace hl2 := hl2.grow b4'
  clear h4' b4'
  refine (Hh5.out v4 _ _ hB hl1 hl2).mono ?_; rintro en w5 ⟨v, rfl, ⟨a5, c5, rfl, ho5⟩, hb⟩
  (replace k4 := cel_call hb k4 (by omega); replace ho4 := own_call hb ho4; replace k3 := cel_call hb k3 (by omega); replace ho3 := own_call hb ho3; replace k2 := cel_call hb k2 (by omega); replace ho2 := own_call hb ho2; replace k1 := cel_call hb k1 (by omega); replace ho1 := own_call hb ho1; replace kY := cel_call hb kY (by omega); replace kX := cel_call hb kX (by omega); replace kB := cel_call hb kB (by omega); replace kA := cel_call hb kA (by omega); replace hB := below_call hb hB (by omega))
  replace hl1 := hl1.grow hb
  replace hl2 := hl2.grow hb
  have z5 := hb.size
  have L5 := Lib.hid ho5.lt
  clear hb
  simp only [dyV]
  obtain ⟨_, _, _, _, _, _⟩ := (kX.alloc (.cells #[.bool dU.neg, .slice a5 (words dU.m).length c5, .int .i64 dU.exp] 27)).facts
  go_wp2_with fail
  (obtain ⟨v5, h5'⟩ : ∃ W, W = (w5.alloc (.cells #[.bool dU.neg, .slice a5 (words dU.m).length c5, .int .i64 dU.exp] 27)) := ⟨_, rfl⟩; have pinEq := h5'; (try simp only [wr3] at pinEq); rw [← pinEq]; clear pinEq)
  obtain ⟨k5, b5', s5'⟩ := new_cel h5' rfl
  (replace ho5 := own_call b5' ho5; replace k4 := cel_call b5' k4 (by omega); replace ho4 := own_call b5' ho4; replace k3 := cel_call b5' k3 (by omega); replace ho3 := own_call b5' ho3; replace k2 := cel_call b5' k2 (by omega); replace ho2 := own_call b5' ho2; replace k1 := cel_call b5' k1 (by omega); replace ho1 := own_call b5' ho1; replace kY := cel_call b5' kY (by omega); replace kX := cel_call b5' kX (by omega); replace kB := cel_call b5' kB (by omega); replace kA := cel_call b5' kA (by omega); replace hB := below_call b5' hB (by omega))
  replace hl1 := hl1.grow b5'
  replace hl2 := hl2.grow b5'
  clear h5' b5'
  refine (Hh6.out v5 _ _ hB hl1 hl2).mono ?_; rintro en w6 ⟨v, rfl, ⟨a6, c6, rfl, ho6⟩, hb⟩
  (replace k5 := cel_call hb k5 (by omega); replace ho5 := own_call hb ho5; replace k4 := cel_call hb k4 (by omega); replace ho4 := own_call hb ho4; replace k3 := cel_call hb k3 (by omega); replace ho3 := own_call hb ho3; replace k2 := cel_call hb k2 (by omega); replace ho2 := own_call hb ho2; replace k1 := cel_call hb k1 (by omega); replace ho1 := own_call hb ho1; replace kY := cel_call hb kY (by omega); replace kX := cel_call hb kX (by omega); replace kB := cel_call hb kB (by omega); replace kA := cel_call hb kA (by omega); replace hB := below_call hb hB (by omega))
  replace hl1 := hl1.grow hb
  replace hl2 := hl2.grow hb
  have z6 := hb.size
  have L6 := Lib.hid ho6.lt
  clear hb
  simp only [dyV]
  obtain ⟨_, _, _, _, _, _⟩ := (kX.alloc (.cells #[.bool dV.neg, .slice a6 (words dV.m).length c6, .int .i64 dV.exp] 27)).facts
  obtain ⟨_, _, _, _, _, _⟩ := (kA.alloc (.cells #[.bool dV.neg, .slice a6 (words dV.m).length c6, .int .i64 dV.exp] 27)).facts
  go_wp2_with fail
  (obtain ⟨v6, h6'⟩ : ∃ W, W = (w6.alloc (.cells #[.bool dV.neg, .slice a6 (words dV.m).length c6, .int .i64 dV.exp] 27)) := ⟨_, rfl⟩; have pinEq := h6'; (try simp only [wr3] at pinEq); rw [← pinEq]; clear pinEq)
  obtain ⟨k6, b6', s6'⟩ := new_cel h6' rfl
  (replace ho6 := own_call b6' ho6; replace k5 := cel_call b6' k5 (by omega); replace ho5 := own_call b6' ho5; replace k4 := cel_call b6' k4 (by omega); replace ho4 := own_call b6' ho4; replace k3 := cel_call b6' k3 (by omega); replace ho3 := own_call b6' ho3; replace k2 := cel_call b6' k2 (by omega); replace ho2 := own_call b6' ho2; replace k1 := cel_call b6' k1 (by omega); replace ho1 := own_call b6' ho1; replace kY := cel_call b6' kY (by omega); replace kX := cel_call b6' kX (by omega); replace kB := cel_call b6' kB (by omega); replace kA := cel_call b6' kA (by omega); replace hB := below_call b6' hB (by omega))
  replace hl1 := hl1.grow b6'
  replace hl2 := hl2.grow b6'
  clear h6' b6'
  refine (HhAx.out v6 _ hB hl1 (fun ad ha hne => by have := Halt1.out ad hne ha; omega)).mono ?_; rintro en qx ⟨rfl, hk⟩
  have zqx := hk.size
  replace hB := bel_grown hB (Nat.le_refl _) hk (by omega)
  replace kA := cel_grown kA hk (by omega)
  replace kB := cel_grown kB hk (by omega)
  replace kX := cel_grown kX hk (by omega)
  replace kY := cel_grown kY hk (by omega)
  replace k1 := cel_grown k1 hk (by omega)
  replace k2 := cel_grown k2 hk (by omega)
  replace k3 := cel_grown k3 hk (by omega)
  replace k4 := cel_grown k4 hk (by omega)
  replace k5 := cel_grown k5 hk (by omega)
  replace k6 := cel_grown k6 hk (by omega)
  replace ho1 := own_grown ho1 hk (fun ad ha => by have := ho1.ge ad ha; omega)
  replace ho2 := own_grown ho2 hk (fun ad ha => by have := ho2.ge ad ha; omega)
  replace ho3 := own_grown ho3 hk (fun ad ha => by have := ho3.ge ad ha; omega)
  replace ho4 := own_grown ho4 hk (fun ad ha => by have := ho4.ge ad ha; omega)
  replace ho5 := own_grown ho5 hk (fun ad ha => by have := ho5.ge ad ha; omega)
  replace ho6 := own_grown ho6 hk (fun ad ha => by have := ho6.ge ad ha; omega)
  replace hl2 := blk_grown hl2 hk (by omega)
  clear hk hl1
  obtain ⟨_, _, _, _, _, _⟩ := kY.facts
  obtain ⟨_, _, _, _, _, _⟩ := kB.facts
  go_wp2_with fail
  refine (HhAy.out qx _ hB hl2 (fun ad ha hne => by have := Halt2.out ad hne ha; omega)).mono ?_; rintro en qy ⟨rfl, hk⟩
  have zqy := hk.size
  replace hB := bel_grown hB (Nat.le_refl _) hk (by omega)
  replace kA := cel_grown kA hk (by omega)
  replace kB := cel_grown kB hk (by omega)
  replace kX := cel_grown kX hk (by omega)
  replace kY := cel_grown kY hk (by omega)
  replace k1 := cel_grown k1 hk (by omega)
  replace k2 := cel_grown k2 hk (by omega)
  replace k3 := cel_grown k3 hk (by omega)
  replace k4 := cel_grown k4 hk (by omega)
  replace k5 := cel_grown k5 hk (by omega)
  replace k6 := cel_grown k6 hk (by omega)
  replace ho1 := own_grown ho1 hk (fun ad ha => by have := ho1.ge ad ha; omega)
  replace ho2 := own_grown ho2 hk (fun ad ha => by have := ho2.ge ad ha; omega)
  replace ho3 := own_grown ho3 hk (fun ad ha => by have := ho3.ge ad ha; omega)
  replace ho4 := own_grown ho4 hk (fun ad ha => by have := ho4.ge ad ha; omega)
  replace ho5 := own_grown ho5 hk (fun ad ha => by have := ho5.ge ad ha; omega)
  replace ho6 := own_grown ho6 hk (fun ad ha => by have := ho6.ge ad ha; omega)
  clear hk hl2
  obtain ⟨_, _, _, _, _, _⟩ := kA.facts
  obtain ⟨_, _, _, _, _, _⟩ := kB.facts
  go_wp2_with fail
  refine (Hh7.out qy 0 0 hB).mono ?_; rintro en w7 ⟨v, rfl, ⟨a7, c7, rfl, ho7⟩, hb⟩
  (replace hB := below_call hb hB (by omega); replace kA := cel_call hb kA (by omega); replace kB := cel_call hb kB (by omega); replace kX := cel_call hb kX (by omega); replace kY := cel_call hb kY (by omega); replace k1 := cel_call hb k1 (by omega); replace k2 := cel_call hb k2 (by omega); replace k3 := cel_call hb k3 (by omega); replace k4 := cel_call hb k4 (by omega); replace k5 := cel_call hb k5 (by omega); replace k6 := cel_call hb k6 (by omega); replace ho1 := own_call hb ho1; replace ho2 := own_call hb ho2; replace ho3 := own_call hb ho3; replace ho4 := own_call hb ho4; replace ho5 := own_call hb ho5; replace ho6 := own_call hb ho6)
  have z7 := hb.size
  have L7 := Lib.hid ho7.lt
  clear hb
  simp only [dyV]
  obtain ⟨_, _, _, _, _, _⟩ := (kA.alloc (.cells #[.bool dA.neg, .slice a7 (words dA.m).length c7, .int .i64 dA.exp] 27)).facts
  obtain ⟨_, _, _, _, _, _⟩ := (kB.alloc (.cells #[.bool dA.neg, .slice a7 (words dA.m).length c7, .int .i64 dA.exp] 27)).facts
  go_wp2_with fail
  (obtain ⟨v7, h7'⟩ : ∃ W, W = (w7.alloc (.cells #[.bool dA.neg, .slice a7 (words dA.m).length c7, .int .i64 dA.exp] 27)) := ⟨_, rfl⟩; have pinEq := h7'; (try simp only [wr3] at pinEq); rw [← pinEq]; clear pinEq)
  obtain ⟨k7, b7', s7'⟩ := new_cel h7' rfl
  (replace ho7 := own_call b7' ho7; replace hB := below_call b7' hB (by omega); replace kA := cel_call b7' kA (by omega); replace kB := cel_call b7' kB (by omega); replace kX := cel_call b7' kX (by omega); replace kY := cel_call b7' kY (by omega); replace k1 := cel_call b7' k1 (by omega); replace k2 := cel_call b7' k2 (by omega); replace k3 := cel_call b7' k3 (by omega); replace k4 := cel_call b7' k4 (by omega); replace k5 := cel_call b7' k5 (by omega); replace k6 := cel_call b7' k6 (by omega); replace ho1 := own_call b7' ho1; replace ho2 := own_call b7' ho2; replace ho3 := own_call b7' ho3; replace ho4 := own_call b7' ho4; replace ho5 := own_call b7' ho5; replace ho6 := own_call b7' ho6)
  clear h7' b7'
  refine (Hh8.out v7 0 0 hB).mono ?_; rintro en w8 ⟨v, rfl, ⟨a8, c8, rfl, ho8⟩, hb⟩
  (replace k7 := cel_call hb k7 (by omega); replace ho7 := own_call hb ho7; replace hB := below_call hb hB (by omega); replace kA := cel_call hb kA (by omega); replace kB := cel_call hb kB (by omega); replace kX := cel_call hb kX (by omega); replace kY := cel_call hb kY (by omega); replace k1 := cel_call hb k1 (by omega); replace k2 := cel_call hb k2 (by omega); replace k3 := cel_call hb k3 (by omega); replace k4 := cel_call hb k4 (by omega); replace k5 := cel_call hb k5 (by omega); replace k6 := cel_call hb k6 (by omega); replace ho1 := own_call hb ho1; replace ho2 := own_call hb ho2; replace ho3 := own_call hb ho3; replace ho4 := own_call hb ho4; replace ho5 := own_call hb ho5; replace ho6 := own_call hb ho6)
  have z8 := hb.size
  have L8 := Lib.hid ho8.lt
  clear hb
  simp only [dyV]
  obtain ⟨_, _, _, _, _, _⟩ := (kA.alloc (.cells #[.bool dS.neg, .slice a8 (words dS.m).length c8, .int .i64 dS.exp] 27)).facts
  obtain ⟨_, _, _, _, _, _⟩ := (kB.alloc (.cells #[.bool dS.neg, .slice a8 (words dS.m).length c8, .int .i64 dS.exp] 27)).facts
  go_wp2_with fail
  (obtain ⟨v8, h8'⟩ : ∃ W, W = (w8.alloc (.cells #[.bool dS.neg, .slice a8 (words dS.m).length c8, .int .i64 dS.exp] 27)) := ⟨_, rfl⟩; have pinEq := h8'; (try simp only [wr3] at pinEq); rw [← pinEq]; clear pinEq)
  obtain ⟨k8, b8', s8'⟩ := new_cel h8' rfl
  (replace ho8 := own_call b8' ho8; replace k7 := cel_call b8' k7 (by omega); replace ho7 := own_call b8' ho7; replace hB := below_call b8' hB (by omega); replace kA := cel_call b8' kA (by omega); replace kB := cel_call b8' kB (by omega); replace kX := cel_call b8' kX (by omega); replace kY := cel_call b8' kY (by omega); replace k1 := cel_call b8' k1 (by omega); replace k2 := cel_call b8' k2 (by omega); replace k3 := cel_call b8' k3 (by omega); replace k4 := cel_call b8' k4 (by omega); replace k5 := cel_call b8' k5 (by omega); replace k6 := cel_call b8' k6 (by omega); replace ho1 := own_call b8' ho1; replace ho2 := own_call b8' ho2; replace ho3 := own_call b8' ho3; replace ho4 := own_call b8' ho4; replace ho5 := own_call b8' ho5; replace ho6 := own_call b8' ho6)
  clear h8' b8'
  refine (Hh9.out v8 0 0 hB).mono ?_; rintro en w9 ⟨v, rfl, ⟨a9, c9, rfl, ho9⟩, hb⟩
  (replace k8 := cel_call hb k8 (by omega); replace ho8 := own_call hb ho8; replace k7 := cel_call hb k7 (by omega); replace ho7 := own_call hb ho7; replace hB := below_call hb hB (by omega); replace kA := cel_call hb kA (by omega); replace kB := cel_call hb kB (by omega); replace kX := cel_call hb kX (by omega); replace kY := cel_call hb kY (by omega); replace k1 := cel_call hb k1 (by omega); replace k2 := cel_call hb k2 (by omega); replace k3 := cel_call hb k3 (by omega); replace k4 := cel_call hb k4 (by omega); replace k5 := cel_call hb k5 (by omega); replace k6 := cel_call hb k6 (by omega); replace ho1 := own_call hb ho1; replace ho2 := own_call hb ho2; replace ho3 := own_call hb ho3; replace ho4 := own_call hb ho4; replace ho5 := own_call hb ho5; replace ho6 := own_call hb ho6)
  have z9 := hb.size
  have L9 := Lib.hid ho9.lt
  clear hb
  simp only [dyV]
  obtain ⟨_, _, _, _, _, _⟩ := (kA.alloc (.cells #[.bool dT.neg, .slice a9 (words dT.m).length c9, .int .i64 dT.exp] 27)).facts
  go_wp2_with fail
  (obtain ⟨v9, h9'⟩ : ∃ W, W = (w9.alloc (.cells #[.bool dT.neg, .slice a9 (words dT.m).length c9, .int .i64 dT.exp] 27)) := ⟨_, rfl⟩; have pinEq := h9'; (try simp only [wr3] at pinEq); rw [← pinEq]; clear pinEq)
  obtain ⟨k9, b9', s9'⟩ := new_cel h9' rfl
  (replace ho9 := own_call b9' ho9; replace k8 := cel_call b9' k8 (by omega); replace ho8 := own_call b9' ho8; replace k7 := cel_call b9' k7 (by omega); replace ho7 := own_call b9' ho7; replace hB := below_call b9' hB (by omega); replace kA := cel_call b9' kA (by omega); replace kB := cel_call b9' kB (by omega); replace kX := cel_call b9' kX (by omega); replace kY := cel_call b9' kY (by omega); replace k1 := cel_call b9' k1 (by omega); replace k2 := cel_call b9' k2 (by omega); replace k3 := cel_call b9' k3 (by omega); replace k4 := cel_call b9' k4 (by omega); replace k5 := cel_call b9' k5 (by omega); replace k6 := cel_call b9' k6 (by omega); replace ho1 := own_call b9' ho1; replace ho2 := own_call b9' ho2; replace ho3 := own_call b9' ho3; replace ho4 := own_call b9' ho4; replace ho5 := own_call b9' ho5; replace ho6 := own_call b9' ho6)
  clear h9' b9'
  refine (Hh10.out v9 0 0 hB).mono ?_; rintro en w10 ⟨v, rfl, ⟨a10, c10, rfl, ho10⟩, hb⟩
  (replace k9 := cel_call hb k9 (by omega); replace ho9 := own_call hb ho9; replace k8 := cel_call hb k8 (by omega); replace ho8 := own_call hb ho8; replace k7 := cel_call hb k7 (by omega); replace ho7 := own_call hb ho7; replace hB := below_call hb hB (by omega); replace kA := cel_call hb kA (by omega); replace kB := cel_call hb kB (by omega); replace kX := cel_call hb kX (by omega); replace kY := cel_call hb kY (by omega); replace k1 := cel_call hb k1 (by omega); replace k2 := cel_call hb k2 (by omega); replace k3 := cel_call hb k3 (by omega); replace k4 := cel_call hb k4 (by omega); replace k5 := cel_call hb k5 (by omega); replace k6 := cel_call hb k6 (by omega); replace ho1 := own_call hb ho1; replace ho2 := own_call hb ho2; replace ho3 := own_call hb ho3; replace ho4 := own_call hb ho4; replace ho5 := own_call hb ho5; replace ho6 := own_call hb ho6)
  have z10 := hb.size
  have L10 := Lib.hid ho10.lt
  clear hb
  simp only [dyV]
  obtain ⟨_, _, _, _, _, _⟩ := (kA.alloc (.cells #[.bool dU.neg, .slice a10 (words dU.m).length c10, .int .i64 dU.exp] 27)).facts
  go_wp2_with fail
  (obtain ⟨v10, h10'⟩ : ∃ W, W = (w10.alloc (.cells #[.bool dU.neg, .slice a10 (words dU.m).length c10, .int .i64 dU.exp] 27)) := ⟨_, rfl⟩; have pinEq := h10'; (try simp only [wr3] at pinEq); rw [← pinEq]; clear pinEq)
  obtain ⟨k10, b10', s10'⟩ := new_cel h10' rfl
  (replace ho10 := own_call b10' ho10; replace k9 := cel_call b10' k9 (by omega); replace ho9 := own_call b10' ho9; replace k8 := cel_call b10' k8 (by omega); replace ho8 := own_call b10' ho8; replace k7 := cel_call b10' k7 (by omega); replace ho7 := own_call b10' ho7; replace hB := below_call b10' hB (by omega); replace kA := cel_call b10' kA (by omega); replace kB := cel_call b10' kB (by omega); replace kX := cel_call b10' kX (by omega); replace kY := cel_call b10' kY (by omega); replace k1 := cel_call b10' k1 (by omega); replace k2 := cel_call b10' k2 (by omega); replace k3 := cel_call b10' k3 (by omega); replace k4 := cel_call b10' k4 (by omega); replace k5 := cel_call b10' k5 (by omega); replace k6 := cel_call b10' k6 (by omega); replace ho1 := own_call b10' ho1; replace ho2 := own_call b10' ho2; replace ho3 := own_call b10' ho3; replace ho4 := own_call b10' ho4; replace ho5 := own_call b10' ho5; replace ho6 := own_call b10' ho6)
  clear h10' b10'
  refine (Hh11.out v10 0 0 hB).mono ?_; rintro en w11 ⟨v, rfl, ⟨a11, c11, rfl, ho11⟩, hb⟩
  (replace k10 := cel_call hb k10 (by omega); replace ho10 := own_call hb ho10; replace k9 := cel_call hb k9 (by omega); replace ho9 := own_call hb ho9; replace k8 := cel_call hb k8 (by omega); replace ho8 := own_call hb ho8; replace k7 := cel_call hb k7 (by omega); replace ho7 := own_call hb ho7; replace hB := below_call hb hB (by omega); replace kA := cel_call hb kA (by omega); replace kB := cel_call hb kB (by omega); replace kX := cel_call hb kX (by omega); replace kY := cel_call hb kY (by omega); replace k1 := cel_call hb k1 (by omega); replace k2 := cel_call hb k2 (by omega); replace k3 := cel_call hb k3 (by omega); replace k4 := cel_call hb k4 (by omega); replace k5 := cel_call hb k5 (by omega); replace k6 := cel_call hb k6 (by omega); replace ho1 := own_call hb ho1; replace ho2 := own_call hb ho2; replace ho3 := own_call hb ho3; replace ho4 := own_call hb ho4; replace ho5 := own_call hb ho5; replace ho6 := own_call hb ho6)
  have z11 := hb.size
  have L11 := Lib.hid ho11.lt
  clear hb
  simp only [dyV]
  obtain ⟨v11, hvE⟩ : ∃ W, W = w11.alloc (.cells #[.bool dV.neg, .slice a11 (words dV.m).length c11, .int .i64 dV.exp] 27) := ⟨_, rfl⟩
  obtain ⟨k11, bE', sE'⟩ := new_cel hvE rfl
  (replace ho11 := own_call bE' ho11; replace k10 := cel_call bE' k10 (by omega); replace ho10 := own_call bE' ho10; replace k9 := cel_call bE' k9 (by omega); replace ho9 := own_call bE' ho9; replace k8 := cel_call bE' k8 (by omega); replace ho8 := own_call bE' ho8; replace k7 := cel_call bE' k7 (by omega); replace ho7 := own_call bE' ho7; replace hB := below_call bE' hB (by omega); replace kA := cel_call bE' kA (by omega); replace kB := cel_call bE' kB (by omega); replace kX := cel_call bE' kX (by omega); replace kY := cel_call bE' kY (by omega); replace k1 := cel_call bE' k1 (by omega); replace k2 := cel_call bE' k2 (by omega); replace k3 := cel_call bE' k3 (by omega); replace k4 := cel_call bE' k4 (by omega); replace k5 := cel_call bE' k5 (by omega); replace k6 := cel_call bE' k6 (by omega); replace ho1 := own_call bE' ho1; replace ho2 := own_call bE' ho2; replace ho3 := own_call bE' ho3; replace ho4 := own_call bE' ho4; replace ho5 := own_call bE' ho5; replace ho6 := own_call bE' ho6)
  clear bE'
  have hTk : ∀ W g k, Below v11.heap.size v11 W → W.heap[g]? = some (.cells #[.bool dA.neg, .slice a1 (words dA.m).length c1, .int .i64 dA.exp, .bool dA.neg, .slice a2 (words dA.m).length c2, .int .i64 dA.exp, .bool dS.neg, .slice a3 (words dS.m).length c3, .int .i64 dS.exp, .bool dT.neg, .slice a4 (words dT.m).length c4, .int .i64 dT.exp, .bool dU.neg, .slice a5 (words dU.m).length c5, .int .i64 dU.exp, .bool dV.neg, .slice a6 (words dV.m).length c6, .int .i64 dV.exp] 27 (0, 0)) → W.heap[k]? = some (.cells #[.bool dA.neg, .slice a7 (words dA.m).length c7, .int .i64 dA.exp, .bool dA.neg, .slice a7 (words dA.m).length c7, .int .i64 dA.exp, .bool dS.neg, .slice a8 (words dS.m).length c8, .int .i64 dS.exp, .bool dT.neg, .slice a9 (words dT.m).length c9, .int .i64 dT.exp, .bool dU.neg, .slice a10 (words dU.m).length c10, .int .i64 dU.exp, .bool dV.neg, .slice a11 (words dV.m).length c11, .int .i64 dV.exp] 27 (0, 0)) → Calls Tryd.prog 19 #[.slice (some ⟨g, 0, none⟩) 6 6, .slice (some ⟨k, 0, none⟩) 6 6] W fun en w' => en = .returned (.bool true) ∧ Below w.heap.size w w' := by
    intro W g k hw hX hY
    have hch : Chain W w.heap.size [argOf dA a1 c1, argOf dA a2 c2, argOf dS a3 c3, argOf dT a4 c4, argOf dU a5 c5, argOf dV a6 c6] := by
      refine Chain.cons (base := w.heap.size) ((ho1.grow hw).mono (by omega)) (mid := w1.heap.size) (by omega) (fun ad h => L1.out ad h) ?_
      refine Chain.cons (base := w1.heap.size) ((ho2.grow hw).mono (by omega)) (mid := w2.heap.size) (by omega) (fun ad h => L2.out ad h) ?_
      refine Chain.cons (base := w2.heap.size) ((ho3.grow hw).mono (by omega)) (mid := w3.heap.size) (by omega) (fun ad h => L3.out ad h) ?_
      refine Chain.cons (base := w3.heap.size) ((ho4.grow hw).mono (by omega)) (mid := w4.heap.size) (by omega) (fun ad h => L4.out ad h) ?_
      refine Chain.cons (base := w4.heap.size) ((ho5.grow hw).mono (by omega)) (mid := w5.heap.size) (by omega) (fun ad h => L5.out ad h) ?_
      refine Chain.cons (base := w5.heap.size) ((ho6.grow hw).mono (by omega)) (mid := w6.heap.size) (by omega) (fun ad h => L6.out ad h) ?_
      trivial
    have hx : ∀ x ∈ [argOf dA a1 c1, argOf dA a2 c2, argOf dS a3 c3, argOf dT a4 c4, argOf dU a5 c5, argOf dV a6 c6], x.Ok W ∧ x.l.length ≤ 10000 := by
      intro x hx
      have lA := HokA.out.len
      have lS := HokS.out.len
      have lT := HokT.out.len
      have lU := HokU.out.len
      have lV := HokV.out.len
      simp only [List.mem_cons, List.not_mem_nil, or_false] at hx
      rcases hx with rfl | rfl | rfl | rfl | rfl | rfl
      · exact ⟨(ho1.grow hw).arg HokA.out, by show (words dA.m).length ≤ _; omega⟩
      · exact ⟨(ho2.grow hw).arg HokA.out, by show (words dA.m).length ≤ _; omega⟩
      · exact ⟨(ho3.grow hw).arg HokS.out, by show (words dS.m).length ≤ _; omega⟩
      · exact ⟨(ho4.grow hw).arg HokT.out, by show (words dT.m).length ≤ _; omega⟩
      · exact ⟨(ho5.grow hw).arg HokU.out, by show (words dU.m).length ≤ _; omega⟩
      · exact ⟨(ho6.grow hw).arg HokV.out, by show (words dV.m).length ≤ _; omega⟩
    have hy : ∀ y ∈ [argOf dA a7 c7, argOf dA a7 c7, argOf dS a8 c8, argOf dT a9 c9, argOf dU a10 c10, argOf dV a11 c11], y.Ok W := by
      intro y hy
      simp only [List.mem_cons, List.not_mem_nil, or_false] at hy
      rcases hy with rfl | rfl | rfl | rfl | rfl | rfl
      · exact (ho7.grow hw).arg HokA.out
      · exact (ho7.grow hw).arg HokA.out
      · exact (ho8.grow hw).arg HokS.out
      · exact (ho9.grow hw).arg HokT.out
      · exact (ho10.grow hw).arg HokU.out
      · exact (ho11.grow hw).arg HokV.out
    have hsm : ∀ (i : Nat) (x y : Arg), [argOf dA a1 c1, argOf dA a2 c2, argOf dS a3 c3, argOf dT a4 c4, argOf dU a5 c5, argOf dV a6 c6][i]? = some x → [argOf dA a7 c7, argOf dA a7 c7, argOf dS a8 c8, argOf dT a9 c9, argOf dU a10 c10, argOf dV a11 c11][i]? = some y → x.s = y.s ∧ x.e = y.e ∧ x.l = y.l := by
      intro i x y h1 h2
      match i, h1, h2 with
      | 0, h1, h2 => cases h1; cases h2; exact ⟨rfl, rfl, rfl⟩
      | 1, h1, h2 => cases h1; cases h2; exact ⟨rfl, rfl, rfl⟩
      | 2, h1, h2 => cases h1; cases h2; exact ⟨rfl, rfl, rfl⟩
      | 3, h1, h2 => cases h1; cases h2; exact ⟨rfl, rfl, rfl⟩
      | 4, h1, h2 => cases h1; cases h2; exact ⟨rfl, rfl, rfl⟩
      | 5, h1, h2 => cases h1; cases h2; exact ⟨rfl, rfl, rfl⟩
      | i + 6, h1, h2 => cases h1
    have hBW : Below w.heap.size w W := hB.trans (hw.mono hB.size)
    have := took_cel w.heap.size g k [argOf dA a1 c1, argOf dA a2 c2, argOf dS a3 c3, argOf dT a4 c4, argOf dU a5 c5, argOf dV a6 c6] [argOf dA a7 c7, argOf dA a7 c7, argOf dS a8 c8, argOf dT a9 c9, argOf dU a10 c10, argOf dV a11 c11] W hBW.size (by simp) rfl (lt_of_block hX) (lt_of_block hY) (dys_block hX rfl) (dys_block hY rfl) hch hx hy hsm
    refine this.mono ?_
    rintro en w' ⟨h1, h2, h3⟩
    exact ⟨h1, hBW.trans h2⟩
  have HTk := Lib.hid hTk; clear hTk
  clear ho1 L1 ho2 L2 ho3 L3 ho4 L4 ho5 L5 ho6 L6 ho7 L7 ho8 L8 ho9 L9 ho10 L10 ho11 L11 kA kB kX kY
  obtain ⟨_, _, _, _, _, _⟩ := k1.facts
  obtain ⟨_, _, _, _, _, _⟩ := k2.facts
  obtain ⟨_, _, _, _, _, _⟩ := k3.facts
  obtain ⟨_, _, _, _, _, _⟩ := k4.facts
  obtain ⟨_, _, _, _, _, _⟩ := k5.facts
  obtain ⟨_, _, _, _, _, _⟩ := k6.facts
  obtain ⟨_, _, _, _, _, _⟩ := k7.facts
  obtain ⟨_, _, _, _, _, _⟩ := k8.facts
  obtain ⟨_, _, _, _, _, _⟩ := k9.facts
  obtain ⟨_, _, _, _, _, _⟩ := k10.facts
  obtain ⟨_, _, _, _, _, _⟩ := k11.facts
  obtain ⟨_, _, _, _, _, _⟩ := (k7.alloc (.cells #[.bool dA.neg, .slice a1 (words dA.m).length c1, .int .i64 dA.exp, .bool dA.neg, .slice a2 (words dA.m).length c2, .int .i64 dA.exp, .bool dS.neg, .slice a3 (words dS.m).length c3, .int .i64 dS.exp, .bool dT.neg, .slice a4 (words dT.m).length c4, .int .i64 dT.exp, .bool dU.neg, .slice a5 (words dU.m).length c5, .int .i64 dU.exp, .bool dV.neg, .slice a6 (words dV.m).length c6, .int .i64 dV.exp] 27)).facts
  obtain ⟨_, _, _, _, _, _⟩ := (k8.alloc (.cells #[.bool dA.neg, .slice a1 (words dA.m).length c1, .int .i64 dA.exp, .bool dA.neg, .slice a2 (words dA.m).length c2, .int .i64 dA.exp, .bool dS.neg, .slice a3 (words dS.m).length c3, .int .i64 dS.exp, .bool dT.neg, .slice a4 (words dT.m).length c4, .int .i64 dT.exp, .bool dU.neg, .slice a5 (words dU.m).length c5, .int .i64 dU.exp, .bool dV.neg, .slice a6 (words dV.m).length c6, .int .i64 dV.exp] 27)).facts
  obtain ⟨_, _, _, _, _, _⟩ := (k9.alloc (.cells #[.bool dA.neg, .slice a1 (words dA.m).length c1, .int .i64 dA.exp, .bool dA.neg, .slice a2 (words dA.m).length c2, .int .i64 dA.exp, .bool dS.neg, .slice a3 (words dS.m).length c3, .int .i64 dS.exp, .bool dT.neg, .slice a4 (words dT.m).length c4, .int .i64 dT.exp, .bool dU.neg, .slice a5 (words dU.m).length c5, .int .i64 dU.exp, .bool dV.neg, .slice a6 (words dV.m).length c6, .int .i64 dV.exp] 27)).facts
  obtain ⟨_, _, _, _, _, _⟩ := (k10.alloc (.cells #[.bool dA.neg, .slice a1 (words dA.m).length c1, .int .i64 dA.exp, .bool dA.neg, .slice a2 (words dA.m).length c2, .int .i64 dA.exp, .bool dS.neg, .slice a3 (words dS.m).length c3, .int .i64 dS.exp, .bool dT.neg, .slice a4 (words dT.m).length c4, .int .i64 dT.exp, .bool dU.neg, .slice a5 (words dU.m).length c5, .int .i64 dU.exp, .bool dV.neg, .slice a6 (words dV.m).length c6, .int .i64 dV.exp] 27)).facts
  obtain ⟨_, _, _, _, _, _⟩ := (k11.alloc (.cells #[.bool dA.neg, .slice a1 (words dA.m).length c1, .int .i64 dA.exp, .bool dA.neg, .slice a2 (words dA.m).length c2, .int .i64 dA.exp, .bool dS.neg, .slice a3 (words dS.m).length c3, .int .i64 dS.exp, .bool dT.neg, .slice a4 (words dT.m).length c4, .int .i64 dT.exp, .bool dU.neg, .slice a5 (words dU.m).length c5, .int .i64 dU.exp, .bool dV.neg, .slice a6 (words dV.m).length c6, .int .i64 dV.exp] 27)).facts
  clear k1 k2 k3 k4 k5 k6 k7 k8 k9 k10 k11 sE'
  have HB := Lib.hid hB; clear hB
  subst hvE
  go_wp2_with fail
  refine (HTk.out _ _ _ (bel_alloc (bel_alloc (Below.refl _ _) (Nat.le_refl _) _) (Nat.le_refl _) _) (three_alloc_1 _ _ _ _ _ _) (three_alloc_2 _ _ _ _ _ _)).mono ?_; rintro en wE ⟨rfl, hbe⟩
  have HBE := Lib.hid hbe
  clear hbe
  go_wp2
  go_ret
  exact ⟨rfl, HBE.out⟩
end Go.Proofs.YtmokomfneikipaaDoor
