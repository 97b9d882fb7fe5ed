/- The walk of steelyardlaw03.DyadCompares: true for every input of the sizes that its hypotheses name. -/
import Derived.Test.YtmokomfneikipaaDoorProg
import Derived.Test.YtmokomfneikipaaDoorLx
import Derived.Test.YtmokomfneikipaaDoorDm
namespace Go.Proofs.YtmokomfneikipaaDoor
open Go.RowKit
set_option linter.unusedVariables false
set_option linter.unusedSimpArgs false

theorem cmpA_swap (x y : Arg) : cmpA y x = - cmpA x y := by
  unfold cmpA
  have h := magCmp_swap (num y.l) y.e (num x.l) x.e
  by_cases h1 : x.sign < y.sign
  · rw [if_neg (show ¬ y.sign < x.sign by omega), if_pos h1, if_pos h1]; rfl
  · by_cases h2 : y.sign < x.sign
    · rw [if_pos h2, if_neg h1, if_pos h2]
    · have h3 : x.sign = y.sign := by omega
      rw [if_neg h2, if_neg h1, if_neg h1, if_neg h2]
      by_cases h4 : x.sign = 0
      · rw [if_pos h4, if_pos (show y.sign = 0 by omega)]; rfl
      · rw [if_neg h4, if_neg (show ¬ y.sign = 0 by omega), h, h3, Int.mul_neg]
theorem cmpA_self (x : Arg) : cmpA x x = 0 := by
  have := cmpA_swap x x
  omega
theorem sign_bd (x : Arg) : -1 ≤ x.sign ∧ x.sign ≤ 1 := by
  unfold Arg.sign; split
  · exact ⟨by decide, by decide⟩
  · split
    · exact ⟨by decide, by decide⟩
    · exact ⟨by decide, by decide⟩
theorem magCmp_bd (m : Nat) (e : Int) (n : Nat) (f : Int) : -1 ≤ magCmp m e n f ∧ magCmp m e n f ≤ 1 := by
  unfold magCmp; split
  · exact ⟨cmpN_lo _ _, cmpN_hi _ _⟩
  · exact ⟨cmpN_lo _ _, cmpN_hi _ _⟩
theorem cmpA_bd (x y : Arg) : -1 ≤ cmpA x y ∧ cmpA x y ≤ 1 := by
  unfold cmpA
  obtain ⟨h1, h2⟩ := magCmp_bd (num x.l) x.e (num y.l) y.e
  obtain ⟨h3, h4⟩ := sign_bd x
  generalize magCmp (num x.l) x.e (num y.l) y.e = g at *
  generalize x.sign = s at *
  split
  · exact ⟨by decide, by decide⟩
  · split
    · exact ⟨by decide, by decide⟩
    · split
      · exact ⟨by decide, by decide⟩
      · rcases (show s = -1 ∨ s = 1 by omega) with rfl | rfl <;> omega

set_option maxRecDepth 10000 in
set_option maxHeartbeats 16000000 in
theorem compares_any (x y : Arg) (w : World) (hx : x.Ok w) (hy : y.Ok w) (hT : Tab w) :
    Calls Tryd.prog 7 #[x.v, y.v] w fun en w' => en = .returned (.bool true) ∧ Below w.heap.size w w' := by
  obtain ⟨C, hC⟩ : ∃ C, C = cmpA x y := ⟨_, rfl⟩
  have hCs := cmpA_swap x y
  rw [← hC] at hCs
  obtain ⟨hC1, hC2⟩ := cmpA_bd x y
  rw [← hC] at hC1 hC2
  have hCx := cmpA_self x
  obtain ⟨sx, hsx⟩ : ∃ sx, sx = x.sign := ⟨_, rfl⟩
  obtain ⟨sy, hsy⟩ : ∃ sy, sy = y.sign := ⟨_, rfl⟩
  obtain ⟨s, a, l, c, e⟩ := x
  obtain ⟨s', a', l', c', e'⟩ := y
  have hAwk := fun W (hw : Below w.heap.size w W) => awake_any W (hT.grow hw)
  have hLx := fun W (hw : Below w.heap.size w W) => dlent_any ⟨s, a, l, c, e⟩ W (hx.grow hw)
  have hLy := fun W (hw : Below w.heap.size w W) => dlent_any ⟨s', a', l', c', e'⟩ W (hy.grow hw)
  have hAx := fun W g (hw : Below w.heap.size w W) hk hne => daslent_any ⟨s, a, l, c, e⟩ g W (hx.grow hw) hk hne
  have hAy := fun W g (hw : Below w.heap.size w W) hk hne => daslent_any ⟨s', a', l', c', e'⟩ g W (hy.grow hw) hk hne
  have alt1 : ∀ ad, l ≠ [] → a = some ad → ad.block < w.heap.size := fun ad hl ha => hx.sl.rd.lt ha hl
  have alt2 : ∀ ad, l' ≠ [] → a' = some ad → ad.block < w.heap.size := fun ad hl ha => hy.sl.rd.lt ha hl
  simp only [Arg.v] at hLx hLy hAx hAy ⊢
  obtain ⟨dN, hdN⟩ : ∃ d, d = outO (formF (!s) (num l) e) := ⟨_, rfl⟩
  obtain ⟨dM, hdM⟩ : ∃ d, d = outO (formF (!s') (num l') e') := ⟨_, rfl⟩
  have okN : dN.Ok := by rw [hdN]; exact outF_ok _ _ _
  have okM : dM.Ok := by rw [hdM]; exact outF_ok _ _ _
  have h1 : ∀ (W : World) (g1 : Nat), Below w.heap.size w W → Blk W 64 g1 (l ++ [71, 72]) → Calls Tryd.prog 34 #[.agg #[.bool s, .slice (some ⟨g1, 0, none⟩) l.length (l.length + 2), .int .i64 e]] W fun en w' => CameD W w' dN en := by
    intro W g1 hw b1
    have := dneg_any ⟨s, some ⟨g1, 0, none⟩, l, l.length + 2, e⟩ W (lent_ok hx b1) (hT.grow hw)
    rw [hdN]; exact this
  have h2 : ∀ (W : World) (g2 : Nat), Below w.heap.size w W → Blk W 64 g2 (l' ++ [71, 72]) → Calls Tryd.prog 34 #[.agg #[.bool s', .slice (some ⟨g2, 0, none⟩) l'.length (l'.length + 2), .int .i64 e']] W fun en w' => CameD W w' dM en := by
    intro W g2 hw b2
    have := dneg_any ⟨s', some ⟨g2, 0, none⟩, l', l'.length + 2, e'⟩ W (lent_ok hy b2) (hT.grow hw)
    rw [hdM]; exact this
  have h3 : ∀ (W : World) (g1 g2 : Nat), Below w.heap.size w W → Blk W 64 g1 (l ++ [71, 72]) → Blk W 64 g2 (l' ++ [71, 72]) → Calls Tryd.prog 35 #[.agg #[.bool s, .slice (some ⟨g1, 0, none⟩) l.length (l.length + 2), .int .i64 e], .agg #[.bool s', .slice (some ⟨g2, 0, none⟩) l'.length (l'.length + 2), .int .i64 e']] W fun en w' => en = .returned (.int .i64 C) ∧ Below W.heap.size W w' := by
    intro W g1 g2 hw b1 b2
    have := dcmp_any ⟨s, some ⟨g1, 0, none⟩, l, l.length + 2, e⟩ ⟨s', some ⟨g2, 0, none⟩, l', l'.length + 2, e'⟩ W (lent_ok hx b1) (lent_ok hy b2)
    rw [hC]; exact this
  have h4 : ∀ (W : World) (g1 g2 : Nat), Below w.heap.size w W → Blk W 64 g1 (l ++ [71, 72]) → Blk W 64 g2 (l' ++ [71, 72]) → Calls Tryd.prog 35 #[.agg #[.bool s', .slice (some ⟨g2, 0, none⟩) l'.length (l'.length + 2), .int .i64 e'], .agg #[.bool s, .slice (some ⟨g1, 0, none⟩) l.length (l.length + 2), .int .i64 e]] W fun en w' => en = .returned (.int .i64 (-C)) ∧ Below W.heap.size W w' := by
    intro W g1 g2 hw b1 b2
    have := dcmp_any ⟨s', some ⟨g2, 0, none⟩, l', l'.length + 2, e'⟩ ⟨s, some ⟨g1, 0, none⟩, l, l.length + 2, e⟩ W (lent_ok hy b2) (lent_ok hx b1)
    rw [← hCs]; exact this
  have h5 : ∀ (W : World) (g1 : Nat), Below w.heap.size w W → Blk W 64 g1 (l ++ [71, 72]) → Calls Tryd.prog 35 #[.agg #[.bool s, .slice (some ⟨g1, 0, none⟩) l.length (l.length + 2), .int .i64 e], .agg #[.bool s, .slice (some ⟨g1, 0, none⟩) l.length (l.length + 2), .int .i64 e]] W fun en w' => en = .returned (.int .i64 0) ∧ Below W.heap.size W w' := by
    intro W g1 hw b1
    have := dcmp_any ⟨s, some ⟨g1, 0, none⟩, l, l.length + 2, e⟩ ⟨s, some ⟨g1, 0, none⟩, l, l.length + 2, e⟩ W (lent_ok hx b1) (lent_ok hx b1)
    rw [← hCx]; exact this
  have h6 : ∀ (W : World) (g1 : Nat), Below w.heap.size w W → Blk W 64 g1 (l ++ [71, 72]) → Calls Tryd.prog 36 #[.agg #[.bool s, .slice (some ⟨g1, 0, none⟩) l.length (l.length + 2), .int .i64 e]] W fun en w' => en = .returned (.int .i64 sx) ∧ Below W.heap.size W w' := by
    intro W g1 hw b1
    have := dsign_any ⟨s, some ⟨g1, 0, none⟩, l, l.length + 2, e⟩ W (lent_ok hx b1)
    rw [hsx]; exact this
  have h7 : ∀ (W : World) (g2 : Nat), Below w.heap.size w W → Blk W 64 g2 (l' ++ [71, 72]) → Calls Tryd.prog 36 #[.agg #[.bool s', .slice (some ⟨g2, 0, none⟩) l'.length (l'.length + 2), .int .i64 e']] W fun en w' => en = .returned (.int .i64 sy) ∧ Below W.heap.size W w' := by
    intro W g2 hw b2
    have := dsign_any ⟨s', some ⟨g2, 0, none⟩, l', l'.length + 2, e'⟩ W (lent_ok hy b2)
    rw [hsy]; exact this
  have h8 : ∀ W : World, Below w.heap.size w W → Calls Tryd.prog 37 #[.agg #[.bool s, .slice a l.length c, .int .i64 e], .agg #[.bool s', .slice a' l'.length c', .int .i64 e']] W fun en w' => en = .returned (.int .i64 C) ∧ Below W.heap.size W w' := by
    intro W hw
    have := rcmpd_any ⟨s, a, l, c, e⟩ ⟨s', a', l', c', e'⟩ W (hx.grow hw) (hy.grow hw)
    rw [hC]; exact this
  have h9 : ∀ W : World, Below w.heap.size w W → Calls Tryd.prog 38 #[.agg #[.bool s, .slice a l.length c, .int .i64 e]] W fun en w' => en = .returned (.int .i64 sx) ∧ Below W.heap.size W w' := by
    intro W hw
    have := rsign_any ⟨s, a, l, c, e⟩ W (hx.grow hw)
    rw [hsx]; exact this
  have h10 : ∀ W : World, Below w.heap.size w W → Calls Tryd.prog 38 #[.agg #[.bool s', .slice a' l'.length c', .int .i64 e']] W fun en w' => en = .returned (.int .i64 sy) ∧ Below W.heap.size W w' := by
    intro W hw
    have := rsign_any ⟨s', a', l', c', e'⟩ W (hy.grow hw)
    rw [hsy]; exact this
  have h11 : ∀ W : World, Below w.heap.size w W → Calls Tryd.prog 39 #[.agg #[.bool s, .slice a l.length c, .int .i64 e]] W fun en w' => CameD W w' dN en := by
    intro W hw
    have := rneg_any ⟨s, a, l, c, e⟩ W (hx.grow hw)
    rw [hdN]; exact this
  have h12 : ∀ W : World, Below w.heap.size w W → Calls Tryd.prog 39 #[.agg #[.bool s', .slice a' l'.length c', .int .i64 e']] W fun en w' => CameD W w' dM en := by
    intro W hw
    have := rneg_any ⟨s', a', l', c', e'⟩ W (hy.grow hw)
    rw [hdM]; exact this
  unfold CameD at h1 h2 h11 h12
  have HAwk := Lib.hid hAwk; have HLx := Lib.hid hLx; have HLy := Lib.hid hLy; have HAx := Lib.hid hAx; have HAy := Lib.hid hAy; have HAlt1 := Lib.hid alt1; have HAlt2 := Lib.hid alt2
  have H1 := Lib.hid h1; have H2 := Lib.hid h2; have H3 := Lib.hid h3; have H4 := Lib.hid h4; have H5 := Lib.hid h5; have H6 := Lib.hid h6; have H7 := Lib.hid h7; have H8 := Lib.hid h8; have H9 := Lib.hid h9; have H10 := Lib.hid h10; have H11 := Lib.hid h11; have H12 := Lib.hid h12; have HOKN := Lib.hid okN; have HOKM := Lib.hid okM
  clear hAwk hLx hLy hAx hAy alt1 alt2 h1 h2 h3 h4 h5 h6 h7 h8 h9 h10 h11 h12 okN okM hx hy hT hC hCs hCx hsx hsy hdN hdM
  go_enter Tryd.func7, Tryd.ntmps7
  go_wp2_with fail
  (obtain ⟨u1, g1'⟩ : ∃ W, W = (w.alloc (.cells #[.bool s, .slice a l.length c, .int .i64 e] 27)) := ⟨_, rfl⟩; have pinEq := g1'; (try simp only [wr3] at pinEq); rw [← pinEq]; clear pinEq)
  (obtain ⟨u2, g2'⟩ : ∃ W, W = (u1.alloc (.cells #[.bool s', .slice a' l'.length c', .int .i64 e'] 27)) := ⟨_, rfl⟩; have pinEq := g2'; (try simp only [wr3] at pinEq); rw [← pinEq]; clear pinEq)
  obtain ⟨kA, hB, s1⟩ := new_cel g1' rfl
  obtain ⟨kB, b2, s2⟩ := new_cel g2' s1
  (replace kA := cel_call b2 kA (by omega); replace hB := below_call b2 hB (by omega))
  clear g1' g2' b2
  refine (HAwk.out u2 hB).mono ?_; rintro en w0 ⟨rfl, hb⟩
  (replace kB := cel_call hb kB (by omega); replace kA := cel_call hb kA (by omega); replace hB := below_call hb hB (by omega))
  have z0 := hb.size
  clear hb
  obtain ⟨_, _, _, _, _, _⟩ := kA.facts
  go_wp2_with fail
  refine (HLx.out w0 hB).mono ?_; rintro en wx ⟨g1, rfl, gb1, hl1, hb⟩
  (replace kB := cel_call hb kB (by omega); replace kA := cel_call hb kA (by omega); replace hB := below_call hb hB (by omega))
  have zx := hb.size
  have zg1 := hl1.lt
  clear hb
  simp only []
  obtain ⟨_, _, _, _, _, _⟩ := (kB.alloc (.cells #[.bool s, .slice (some ⟨g1, 0, none⟩) l.length (l.length + 2), .int .i64 e] 27)).facts
  go_wp2_with fail
  (obtain ⟨vx, hvx⟩ : ∃ W, W = (wx.alloc (.cells #[.bool s, .slice (some ⟨g1, 0, none⟩) l.length (l.length + 2), .int .i64 e] 27)) := ⟨_, rfl⟩; have pinEq := hvx; (try simp only [wr3] at pinEq); rw [← pinEq]; clear pinEq)
  obtain ⟨kX, bx, sx'⟩ := new_cel hvx rfl
  (replace kB := cel_call bx kB (by omega); replace kA := cel_call bx kA (by omega); replace hB := below_call bx hB (by omega))
  replace hl1 := hl1.grow bx
  clear hvx bx
  refine (HLy.out vx hB).mono ?_; rintro en wy ⟨g2, rfl, gb2, hl2, hb⟩
  (replace kX := cel_call hb kX (by omega); replace kB := cel_call hb kB (by omega); replace kA := cel_call hb kA (by omega); replace hB := below_call hb hB (by omega))
  replace hl1 := hl1.grow hb
  have zy := hb.size
  have zg2 := hl2.lt
  clear hb
  simp only []
  obtain ⟨_, _, _, _, _, _⟩ := (kX.alloc (.cells #[.bool s', .slice (some ⟨g2, 0, none⟩) l'.length (l'.length + 2), .int .i64 e'] 27)).facts
  go_wp2_with fail
  (obtain ⟨vy, hvy⟩ : ∃ W, W = (wy.alloc (.cells #[.bool s', .slice (some ⟨g2, 0, none⟩) l'.length (l'.length + 2), .int .i64 e'] 27)) := ⟨_, rfl⟩; have pinEq := hvy; (try simp only [wr3] at pinEq); rw [← pinEq]; clear pinEq)
  obtain ⟨kY, bz, sy'⟩ := new_cel hvy rfl
  (replace kX := cel_call bz kX (by omega); replace kB := cel_call bz kB (by omega); replace kA := cel_call bz kA (by omega); replace hB := below_call bz hB (by omega))
  replace hl1 := hl1.grow bz
  replace hl2 := hl2.grow bz
  clear hvy bz
  refine (H1.out vy _ hB hl1).mono ?_; rintro en w1 ⟨v, rfl, ⟨a1, c1, rfl, ho1⟩, hb⟩
  (replace kY := cel_call hb kY (by omega); replace kX := cel_call hb kX (by omega); replace kB := cel_call hb kB (by omega); replace kA := cel_call hb kA (by omega); replace hB := below_call hb hB (by omega))
  replace hl1 := hl1.grow hb
  replace hl2 := hl2.grow hb
  have z1 := hb.size
  have L1 := Lib.hid ho1.lt
  clear hb
  simp only [dyV]
  obtain ⟨_, _, _, _, _, _⟩ := (kY.alloc (.cells #[.bool dN.neg, .slice a1 (words dN.m).length c1, .int .i64 dN.exp] 27)).facts
  go_wp2_with fail
  (obtain ⟨v1, hv1⟩ : ∃ W, W = (w1.alloc (.cells #[.bool dN.neg, .slice a1 (words dN.m).length c1, .int .i64 dN.exp] 27)) := ⟨_, rfl⟩; have pinEq := hv1; (try simp only [wr3] at pinEq); rw [← pinEq]; clear pinEq)
  obtain ⟨k1, bz, sz1⟩ := new_cel hv1 rfl
  (replace ho1 := own_call bz ho1; replace kY := cel_call bz kY (by omega); replace kX := cel_call bz kX (by omega); replace kB := cel_call bz kB (by omega); replace kA := cel_call bz kA (by omega); replace hB := below_call bz hB (by omega))
  replace hl1 := hl1.grow bz
  replace hl2 := hl2.grow bz
  clear hv1 bz
  refine (H2.out v1 _ hB hl2).mono ?_; rintro en w2 ⟨v, rfl, ⟨a2, c2, rfl, ho2⟩, hb⟩
  (replace k1 := cel_call hb k1 (by omega); replace ho1 := own_call hb ho1; replace kY := cel_call hb kY (by omega); replace kX := cel_call hb kX (by omega); replace kB := cel_call hb kB (by omega); replace kA := cel_call hb kA (by omega); replace hB := below_call hb hB (by omega))
  replace hl1 := hl1.grow hb
  replace hl2 := hl2.grow hb
  have z2 := hb.size
  have L2 := Lib.hid ho2.lt
  clear hb
  simp only [dyV]
  obtain ⟨_, _, _, _, _, _⟩ := (kX.alloc (.cells #[.bool dM.neg, .slice a2 (words dM.m).length c2, .int .i64 dM.exp] 27)).facts
  obtain ⟨_, _, _, _, _, _⟩ := (kY.alloc (.cells #[.bool dM.neg, .slice a2 (words dM.m).length c2, .int .i64 dM.exp] 27)).facts
  go_wp2_with fail
  (obtain ⟨v2, hv2⟩ : ∃ W, W = (w2.alloc (.cells #[.bool dM.neg, .slice a2 (words dM.m).length c2, .int .i64 dM.exp] 27)) := ⟨_, rfl⟩; have pinEq := hv2; (try simp only [wr3] at pinEq); rw [← pinEq]; clear pinEq)
  obtain ⟨k2, bz, sz2⟩ := new_cel hv2 rfl
  (replace ho2 := own_call bz ho2; replace k1 := cel_call bz k1 (by omega); replace ho1 := own_call bz ho1; replace kY := cel_call bz kY (by omega); replace kX := cel_call bz kX (by omega); replace kB := cel_call bz kB (by omega); replace kA := cel_call bz kA (by omega); replace hB := below_call bz hB (by omega))
  replace hl1 := hl1.grow bz
  replace hl2 := hl2.grow bz
  clear hv2 bz
  refine (H3.out v2 _ _ hB hl1 hl2).mono ?_; rintro en w3 ⟨rfl, hb⟩
  (replace k2 := cel_call hb k2 (by omega); replace ho2 := own_call hb ho2; replace k1 := cel_call hb k1 (by omega); replace ho1 := own_call hb ho1; replace kY := cel_call hb kY (by omega); replace kX := cel_call hb kX (by omega); replace kB := cel_call hb kB (by omega); replace kA := cel_call hb kA (by omega); replace hB := below_call hb hB (by omega))
  replace hl1 := hl1.grow hb
  replace hl2 := hl2.grow hb
  have z3 := hb.size
  clear hb
  obtain ⟨_, _, _, _, _, _⟩ := kX.facts
  obtain ⟨_, _, _, _, _, _⟩ := kY.facts
  go_wp2_with fail
  refine (H4.out w3 _ _ hB hl1 hl2).mono ?_; rintro en w4 ⟨rfl, hb⟩
  (replace k2 := cel_call hb k2 (by omega); replace ho2 := own_call hb ho2; replace k1 := cel_call hb k1 (by omega); replace ho1 := own_call hb ho1; replace kY := cel_call hb kY (by omega); replace kX := cel_call hb kX (by omega); replace kB := cel_call hb kB (by omega); replace kA := cel_call hb kA (by omega); replace hB := below_call hb hB (by omega))
  replace hl1 := hl1.grow hb
  replace hl2 := hl2.grow hb
  have z4 := hb.size
  clear hb
  obtain ⟨_, _, _, _, _, _⟩ := kX.facts
  obtain ⟨_, _, _, _, _, _⟩ := kY.facts
  go_wp2_with fail
  refine (H5.out w4 _ hB hl1).mono ?_; rintro en w5 ⟨rfl, hb⟩
  (replace k2 := cel_call hb k2 (by omega); replace ho2 := own_call hb ho2; replace k1 := cel_call hb k1 (by omega); replace ho1 := own_call hb ho1; replace kY := cel_call hb kY (by omega); replace kX := cel_call hb kX (by omega); replace kB := cel_call hb kB (by omega); replace kA := cel_call hb kA (by omega); replace hB := below_call hb hB (by omega))
  replace hl1 := hl1.grow hb
  replace hl2 := hl2.grow hb
  have z5 := hb.size
  clear hb
  obtain ⟨_, _, _, _, _, _⟩ := kX.facts
  obtain ⟨_, _, _, _, _, _⟩ := kY.facts
  go_wp2_with fail
  refine (H6.out w5 _ hB hl1).mono ?_; rintro en w6 ⟨rfl, hb⟩
  (replace k2 := cel_call hb k2 (by omega); replace ho2 := own_call hb ho2; replace k1 := cel_call hb k1 (by omega); replace ho1 := own_call hb ho1; replace kY := cel_call hb kY (by omega); replace kX := cel_call hb kX (by omega); replace kB := cel_call hb kB (by omega); replace kA := cel_call hb kA (by omega); replace hB := below_call hb hB (by omega))
  replace hl1 := hl1.grow hb
  replace hl2 := hl2.grow hb
  have z6 := hb.size
  clear hb
  obtain ⟨_, _, _, _, _, _⟩ := kX.facts
  obtain ⟨_, _, _, _, _, _⟩ := kY.facts
  go_wp2_with fail
  refine (H7.out w6 _ hB hl2).mono ?_; rintro en w7 ⟨rfl, hb⟩
  (replace k2 := cel_call hb k2 (by omega); replace ho2 := own_call hb ho2; replace k1 := cel_call hb k1 (by omega); replace ho1 := own_call hb ho1; replace kY := cel_call hb kY (by omega); replace kX := cel_call hb kX (by omega); replace kB := cel_call hb kB (by omega); replace kA := cel_call hb kA (by omega); replace hB := below_call hb hB (by omega))
  replace hl1 := hl1.grow hb
  replace hl2 := hl2.grow hb
  have z7 := hb.size
  clear hb
  obtain ⟨_, _, _, _, _, _⟩ := kX.facts
  obtain ⟨_, _, _, _, _, _⟩ := kY.facts
  obtain ⟨_, _, _, _, _, _⟩ := kA.facts
  go_wp2_with fail
  refine (HAx.out w7 _ hB hl1 (fun ad ha hne => by have := HAlt1.out ad hne ha; omega)).mono ?_; rintro en qx ⟨rfl, hk⟩
  have zqx := hk.size
  replace hB := bel_grown hB (Nat.le_refl _) hk (by omega)
  replace kA := cel_grown kA hk (by omega)
  replace kB := cel_grown kB hk (by omega)
  replace kX := cel_grown kX hk (by omega)
  replace kY := cel_grown kY hk (by omega)
  replace k1 := cel_grown k1 hk (by omega)
  replace k2 := cel_grown k2 hk (by omega)
  replace ho1 := own_grown ho1 hk (fun ad ha => by have := ho1.ge ad ha; omega)
  replace ho2 := own_grown ho2 hk (fun ad ha => by have := ho2.ge ad ha; omega)
  replace hl2 := blk_grown hl2 hk (by omega)
  clear hk hl1
  obtain ⟨_, _, _, _, _, _⟩ := kY.facts
  obtain ⟨_, _, _, _, _, _⟩ := kB.facts
  go_wp2_with fail
  refine (HAy.out qx _ hB hl2 (fun ad ha hne => by have := HAlt2.out ad hne ha; omega)).mono ?_; rintro en qy ⟨rfl, hk⟩
  have zqy := hk.size
  replace hB := bel_grown hB (Nat.le_refl _) hk (by omega)
  replace kA := cel_grown kA hk (by omega)
  replace kB := cel_grown kB hk (by omega)
  replace kX := cel_grown kX hk (by omega)
  replace kY := cel_grown kY hk (by omega)
  replace k1 := cel_grown k1 hk (by omega)
  replace k2 := cel_grown k2 hk (by omega)
  replace ho1 := own_grown ho1 hk (fun ad ha => by have := ho1.ge ad ha; omega)
  replace ho2 := own_grown ho2 hk (fun ad ha => by have := ho2.ge ad ha; omega)
  clear hk hl2
  obtain ⟨_, _, _, _, _, _⟩ := kA.facts
  obtain ⟨_, _, _, _, _, _⟩ := kB.facts
  go_wp2_with fail
  clear kX kY
  refine (H8.out qy hB).mono ?_; rintro en w8 ⟨rfl, hb⟩
  (replace hB := below_call hb hB (by omega); replace kA := cel_call hb kA (by omega); replace kB := cel_call hb kB (by omega); replace k1 := cel_call hb k1 (by omega); replace k2 := cel_call hb k2 (by omega); replace ho1 := own_call hb ho1; replace ho2 := own_call hb ho2)
  have z8 := hb.size
  clear hb
  obtain ⟨_, _, _, _, _, _⟩ := kA.facts
  obtain ⟨_, _, _, _, _, _⟩ := kB.facts
  go_wp2_with fail
  refine (H9.out w8 hB).mono ?_; rintro en w9 ⟨rfl, hb⟩
  (replace hB := below_call hb hB (by omega); replace kA := cel_call hb kA (by omega); replace kB := cel_call hb kB (by omega); replace k1 := cel_call hb k1 (by omega); replace k2 := cel_call hb k2 (by omega); replace ho1 := own_call hb ho1; replace ho2 := own_call hb ho2)
  have z9 := hb.size
  clear hb
  obtain ⟨_, _, _, _, _, _⟩ := kA.facts
  obtain ⟨_, _, _, _, _, _⟩ := kB.facts
  go_wp2_with fail
  refine (H10.out w9 hB).mono ?_; rintro en w10 ⟨rfl, hb⟩
  (replace hB := below_call hb hB (by omega); replace kA := cel_call hb kA (by omega); replace kB := cel_call hb kB (by omega); replace k1 := cel_call hb k1 (by omega); replace k2 := cel_call hb k2 (by omega); replace ho1 := own_call hb ho1; replace ho2 := own_call hb ho2)
  have z10 := hb.size
  clear hb
  obtain ⟨_, _, _, _, _, _⟩ := kA.facts
  obtain ⟨_, _, _, _, _, _⟩ := kB.facts
  go_wp2_with fail
  have hN1 : ∀ W, Below w10.heap.size w10 W → Calls Tryd.prog 39 #[.agg #[.bool s, .slice a l.length c, .int .i64 e]] W fun en w' => ∃ a3 c3, en = .returned (.agg #[.bool dN.neg, .slice a3 (words dN.m).length c3, .int .i64 dN.exp]) ∧ Own w' 64 w10.heap.size a3 c3 (words dN.m) ∧ Below w10.heap.size w10 w' ∧ Below W.heap.size W w' := by
    intro W hw
    refine (H11.out W (hB.trans (hw.mono hB.size))).mono ?_
    rintro en w' ⟨v, rfl, ⟨a3, c3, rfl, ho⟩, hb⟩
    exact ⟨a3, c3, rfl, ho.mono hw.size, hw.trans (hb.mono hw.size), hb⟩
  have hN2 : ∀ W a3 c3, Below w10.heap.size w10 W → Own W 64 w10.heap.size a3 c3 (words dN.m) → Calls Tryd.prog 39 #[.agg #[.bool s', .slice a' l'.length c', .int .i64 e']] W fun en w' => ∃ a4 c4, en = .returned (.agg #[.bool dM.neg, .slice a4 (words dM.m).length c4, .int .i64 dM.exp]) ∧ Own w' 64 w10.heap.size a4 c4 (words dM.m) ∧ Own w' 64 w10.heap.size a3 c3 (words dN.m) ∧ Below w10.heap.size w10 w' ∧ Below W.heap.size W w' := by
    intro W a3 c3 hw h3
    refine (H12.out W (hB.trans (hw.mono hB.size))).mono ?_
    rintro en w' ⟨v, rfl, ⟨a4, c4, rfl, ho⟩, hb⟩
    exact ⟨a4, c4, rfl, ho.mono hw.size, h3.grow hb, hw.trans (hb.mono hw.size), hb⟩
  have hTk : ∀ W g k a3 c3 a4 c4, Below w10.heap.size w10 W → Own W 64 w10.heap.size a3 c3 (words dN.m) → Own W 64 w10.heap.size a4 c4 (words dM.m) → W.heap[g]? = some (.cells #[.bool dN.neg, .slice a1 (words dN.m).length c1, .int .i64 dN.exp, .bool dM.neg, .slice a2 (words dM.m).length c2, .int .i64 dM.exp] 27 (0, 0)) → W.heap[k]? = some (.cells #[.bool dN.neg, .slice a3 (words dN.m).length c3, .int .i64 dN.exp, .bool dM.neg, .slice a4 (words dM.m).length c4, .int .i64 dM.exp] 27 (0, 0)) → Calls Tryd.prog 19 #[.slice (some ⟨g, 0, none⟩) 2 2, .slice (some ⟨k, 0, none⟩) 2 2] W fun en w' => en = .returned (.bool true) ∧ Below w.heap.size w w' ∧ ∀ g v0 v1 v2, Cel W g v0 v1 v2 → Cel w' g v0 v1 v2 := by
    intro W g k a3 c3 a4 c4 hw h3 h4 hX hY
    have hch : Chain W w.heap.size [argOf dN a1 c1, argOf dM a2 c2] := by
      refine Chain.cons (base := w.heap.size) ((ho1.grow hw).mono (by omega)) (mid := w1.heap.size) (by omega) (fun ad h => L1.out ad h) ?_
      refine Chain.cons (base := w1.heap.size) ((ho2.grow hw).mono (by omega)) (mid := w2.heap.size) (by omega) (fun ad h => L2.out ad h) ?_
      trivial
    have hx : ∀ x ∈ [argOf dN a1 c1, argOf dM a2 c2], x.Ok W ∧ x.l.length ≤ 10000 := by
      intro x hx
      have lN := HOKN.out.len
      have lM := HOKM.out.len
      simp only [List.mem_cons, List.not_mem_nil, or_false] at hx
      rcases hx with rfl | rfl
      · exact ⟨(ho1.grow hw).arg HOKN.out, by show (words dN.m).length ≤ _; omega⟩
      · exact ⟨(ho2.grow hw).arg HOKM.out, by show (words dM.m).length ≤ _; omega⟩
    have hy : ∀ y ∈ [argOf dN a3 c3, argOf dM a4 c4], y.Ok W := by
      intro y hy
      simp only [List.mem_cons, List.not_mem_nil, or_false] at hy
      rcases hy with rfl | rfl
      · exact h3.arg HOKN.out
      · exact h4.arg HOKM.out
    have hsm : ∀ (i : Nat) (x y : Arg), [argOf dN a1 c1, argOf dM a2 c2][i]? = some x → [argOf dN a3 c3, argOf dM a4 c4][i]? = some y → x.s = y.s ∧ x.e = y.e ∧ x.l = y.l := by
      intro i x y h1 h2
      match i, h1, h2 with
      | 0, h1, h2 => cases h1; cases h2; exact ⟨rfl, rfl, rfl⟩
      | 1, h1, h2 => cases h1; cases h2; exact ⟨rfl, rfl, rfl⟩
      | i + 2, h1, h2 => cases h1
    have hBW : Below w.heap.size w W := hB.trans (hw.mono hB.size)
    have := took_cel w.heap.size g k [argOf dN a1 c1, argOf dM a2 c2] [argOf dN a3 c3, argOf dM a4 c4] W hBW.size (by simp) rfl (lt_of_block hX) (lt_of_block hY) (dys_block hX rfl) (dys_block hY rfl) hch hx hy hsm
    refine this.mono ?_
    rintro en w' ⟨h1, h2, h3⟩
    exact ⟨h1, hBW.trans h2, h3⟩
  have HN1 := Lib.hid hN1; have HN2 := Lib.hid hN2; have HTk := Lib.hid hTk; clear hN1 hN2 hTk
  obtain ⟨_, _, _, _, _, _⟩ := k1.facts
  obtain ⟨_, _, _, _, _, _⟩ := k2.facts
  have HB := Lib.hid hB
  clear hB ho1 ho2 L1 L2
  go_region_held3 (fun W => W.cell? ⟨w.heap.size, 0, none⟩ = some (.bool s) ∧ W.cell? ⟨w.heap.size, 1, none⟩ = some (.slice a l.length c) ∧ W.cell? ⟨w.heap.size, 2, none⟩ = some (.int .i64 e) ∧ W.cell? ⟨w.heap.size + 1, 0, none⟩ = some (.bool s') ∧ W.cell? ⟨w.heap.size + 1, 1, none⟩ = some (.slice a' l'.length c') ∧ W.cell? ⟨w.heap.size + 1, 2, none⟩ = some (.int .i64 e') ∧ W.cell? ⟨w1.heap.size, 0, none⟩ = some (.bool dN.neg) ∧ W.cell? ⟨w1.heap.size, 1, none⟩ = some (.slice a1 (words dN.m).length c1) ∧ W.cell? ⟨w1.heap.size, 2, none⟩ = some (.int .i64 dN.exp) ∧ W.cell? ⟨w2.heap.size, 0, none⟩ = some (.bool dM.neg) ∧ W.cell? ⟨w2.heap.size, 1, none⟩ = some (.slice a2 (words dM.m).length c2) ∧ W.cell? ⟨w2.heap.size, 2, none⟩ = some (.int .i64 dM.exp)) (go_keep) (first
    | (go_at_call 39; with_reducible refine (HN1.out _ (Below.refl _ _).drew).mono ?_; rintro en w11 ⟨a3, c3, rfl, o3, hV, hb11⟩; have ikA := kA.below hV kA.lt; obtain ⟨_, _, _, _, _, _⟩ := ikA.facts; have ikB := kB.below hV kB.lt; obtain ⟨_, _, _, _, _, _⟩ := ikB.facts; have ik1 := k1.below hV k1.lt; obtain ⟨_, _, _, _, _, _⟩ := ik1.facts; have ik2 := k2.below hV k2.lt; obtain ⟨_, _, _, _, _, _⟩ := ik2.facts)
    | (go_at_call 39; with_reducible refine (HN1.out _ ((Below.refl _ _).alloc (Nat.le_refl _) (.cells #[.bool dN.neg, .slice a1 (words dN.m).length c1, .int .i64 dN.exp, .bool dM.neg, .slice a2 (words dM.m).length c2, .int .i64 dM.exp] 27)).drew).mono ?_; rintro en w11 ⟨a3, c3, rfl, o3, hV, hb11⟩; have jX := ((below_drewN (n := 1) hb11).block w10.heap.size (by simp)).trans (heap_alloc_new w10 (.cells #[.bool dN.neg, .slice a1 (words dN.m).length c1, .int .i64 dN.exp, .bool dM.neg, .slice a2 (words dM.m).length c2, .int .i64 dM.exp] 27)); have ikA := kA.below hV kA.lt; obtain ⟨_, _, _, _, _, _⟩ := ikA.facts; have ikB := kB.below hV kB.lt; obtain ⟨_, _, _, _, _, _⟩ := ikB.facts; have ik1 := k1.below hV k1.lt; obtain ⟨_, _, _, _, _, _⟩ := ik1.facts; have ik2 := k2.below hV k2.lt; obtain ⟨_, _, _, _, _, _⟩ := ik2.facts)
    | (go_at_call 39; with_reducible refine (HN2.out _ _ _ hV o3).mono ?_; rintro en w12 ⟨a4, c4, rfl, o4, o3', hV2, hb12⟩; have jX2 := (hb12.block w10.heap.size (lt_of_block jX)).trans jX; have mkA := kA.below hV2 kA.lt; obtain ⟨_, _, _, _, _, _⟩ := mkA.facts; have mkB := kB.below hV2 kB.lt; obtain ⟨_, _, _, _, _, _⟩ := mkB.facts; have mk1 := k1.below hV2 k1.lt; obtain ⟨_, _, _, _, _, _⟩ := mk1.facts; have mk2 := k2.below hV2 k2.lt; obtain ⟨_, _, _, _, _, _⟩ := mk2.facts)
    | (go_at_call 39; with_reducible refine (HN2.out _ _ _ hV o3).mono ?_; rintro en w12 ⟨a4, c4, rfl, o4, o3', hV2, hb12⟩; have mkA := kA.below hV2 kA.lt; obtain ⟨_, _, _, _, _, _⟩ := mkA.facts; have mkB := kB.below hV2 kB.lt; obtain ⟨_, _, _, _, _, _⟩ := mkB.facts; have mk1 := k1.below hV2 k1.lt; obtain ⟨_, _, _, _, _, _⟩ := mk1.facts; have mk2 := k2.below hV2 k2.lt; obtain ⟨_, _, _, _, _, _⟩ := mk2.facts)
    | (go_at_call 39; with_reducible refine (HN2.out _ _ _ (bel_alloc hV (Nat.le_refl _) _) (own_alloc o3 _)).mono ?_; rintro en w12 ⟨a4, c4, rfl, o4, o3', hV2, hb12⟩; have jX2 := (hb12.block w11.heap.size (by simp)).trans (heap_alloc_new w11 (.cells #[.bool dN.neg, .slice a1 (words dN.m).length c1, .int .i64 dN.exp, .bool dM.neg, .slice a2 (words dM.m).length c2, .int .i64 dM.exp] 27)); have mkA := kA.below hV2 kA.lt; obtain ⟨_, _, _, _, _, _⟩ := mkA.facts; have mkB := kB.below hV2 kB.lt; obtain ⟨_, _, _, _, _, _⟩ := mkB.facts; have mk1 := k1.below hV2 k1.lt; obtain ⟨_, _, _, _, _, _⟩ := mk1.facts; have mk2 := k2.below hV2 k2.lt; obtain ⟨_, _, _, _, _, _⟩ := mk2.facts)
    | (go_at_call 19; with_reducible refine (HTk.out _ _ _ _ _ _ _ (bel_alloc hV2 (Nat.le_refl _) _) (own_alloc o3' _) (own_alloc o4 _) (old_alloc jX2 _) (heap_alloc_new _ _)).mono ?_; rintro en wE ⟨rfl, hbe, hcel⟩; have nkA := hcel _ _ _ _ (mkA.alloc _); obtain ⟨_, _, _, _, _, _⟩ := nkA.facts; have nkB := hcel _ _ _ _ (mkB.alloc _); obtain ⟨_, _, _, _, _, _⟩ := nkB.facts; have nk1 := hcel _ _ _ _ (mk1.alloc _); obtain ⟨_, _, _, _, _, _⟩ := nk1.facts; have nk2 := hcel _ _ _ _ (mk2.alloc _); obtain ⟨_, _, _, _, _, _⟩ := nk2.facts)
    | (go_at_call 19; with_reducible refine (HTk.out _ _ _ _ _ _ _ (bel_alloc (bel_alloc hV2 (Nat.le_refl _) _) (Nat.le_refl _) _) (own_alloc (own_alloc o3' _) _) (own_alloc (own_alloc o4 _) _) (two_alloc_0 _ _ _ _ _) (two_alloc_1 _ _ _ _ _)).mono ?_; rintro en wE ⟨rfl, hbe, hcel⟩; have nkA := hcel _ _ _ _ ((mkA.alloc _).alloc _); obtain ⟨_, _, _, _, _, _⟩ := nkA.facts; have nkB := hcel _ _ _ _ ((mkB.alloc _).alloc _); obtain ⟨_, _, _, _, _, _⟩ := nkB.facts; have nk1 := hcel _ _ _ _ ((mk1.alloc _).alloc _); obtain ⟨_, _, _, _, _, _⟩ := nk1.facts; have nk2 := hcel _ _ _ _ ((mk2.alloc _).alloc _); obtain ⟨_, _, _, _, _, _⟩ := nk2.facts)
    | (go_at_call 19; with_reducible refine (HTk.out _ _ _ _ _ _ _ (bel_alloc (bel_alloc hV2 (Nat.le_refl _) _) (Nat.le_refl _) _) (own_alloc (own_alloc o3' _) _) (own_alloc (own_alloc o4 _) _) (two_alloc_1 _ _ _ _ _) (two_alloc_0 _ _ _ _ _)).mono ?_; rintro en wE ⟨rfl, hbe, hcel⟩; have nkA := hcel _ _ _ _ ((mkA.alloc _).alloc _); obtain ⟨_, _, _, _, _, _⟩ := nkA.facts; have nkB := hcel _ _ _ _ ((mkB.alloc _).alloc _); obtain ⟨_, _, _, _, _, _⟩ := nkB.facts; have nk1 := hcel _ _ _ _ ((mk1.alloc _).alloc _); obtain ⟨_, _, _, _, _, _⟩ := nk1.facts; have nk2 := hcel _ _ _ _ ((mk2.alloc _).alloc _); obtain ⟨_, _, _, _, _, _⟩ := nk2.facts))
  all_goals
    have HBE := Lib.hid hbe
    clear hbe
    go_wp2
    go_ret
    exact ⟨rfl, HBE.out⟩
end Go.Proofs.YtmokomfneikipaaDoor
