/- The walk of steelyardlaw03.DyadRounds: true for every input of the sizes that its hypotheses name. -/
import Derived.Test.YtmokomfneikipaaDoorProg
import Derived.Test.YtmokomfneikipaaDoorLx
namespace Go.Proofs.YtmokomfneikipaaDoor
open Go.RowKit
set_option linter.unusedVariables false
set_option linter.unusedSimpArgs false

set_option maxRecDepth 10000 in
set_option maxHeartbeats 16000000 in
theorem rounds_any (x : Arg) (mode : Int) (w : World) (hx : x.Ok w) (hT : Tab w) :
    Calls Tryd.prog 5 #[x.v, .int .i64 mode] w fun en w' => en = .returned (.bool true) ∧ Below w.heap.size w w' := by
  obtain ⟨s, a, l, c, e⟩ := x
  have hAwk := fun W (hw : Below w.heap.size w W) => awake_any W (hT.grow hw)
  have hLx := fun W (hw : Below w.heap.size w W) => dlent_any ⟨s, a, l, c, e⟩ W (hx.grow hw)
  have hAx := fun W g (hw : Below w.heap.size w W) hk hne => daslent_any ⟨s, a, l, c, e⟩ g W (hx.grow hw) hk hne
  have alt1 : ∀ ad, l ≠ [] → a = some ad → ad.block < w.heap.size := fun ad hl ha => hx.sl.rd.lt ha hl
  simp only [Arg.v] at hLx hAx ⊢
  obtain ⟨o, ho⟩ : ∃ o, o = formF s (num l) e := ⟨_, rfl⟩
  have h1 : ∀ (W : World) (g1 : Nat), Below w.heap.size w W → Blk W 64 g1 (l ++ [71, 72]) → Calls Tryd.prog 26 #[.agg #[.bool s, .slice (some ⟨g1, 0, none⟩) l.length (l.length + 2), .int .i64 e], .int .i64 mode] W fun en w' => (∃ (r : Nat) (er : Int), en = .returned (.tuple #[.float .f64 r, .int .i64 er]) ∧ RoundsTo 52 (-1074) 9218868437227405312 9223372036854775808 mode o r er) ∧ Below W.heap.size W w' := by
    intro W g1 hw h1
    have := dround_any ⟨s, some ⟨g1, 0, none⟩, l, l.length + 2, e⟩ mode W (lent_ok hx h1) (hT.grow hw)
    rw [ho]; exact this
  have h2 : ∀ (W : World) (g1 : Nat), Below w.heap.size w W → Blk W 64 g1 (l ++ [71, 72]) → Calls Tryd.prog 27 #[.agg #[.bool s, .slice (some ⟨g1, 0, none⟩) l.length (l.length + 2), .int .i64 e], .int .i64 mode] W fun en w' => (∃ (r : Nat) (er : Int), en = .returned (.tuple #[.float .f32 r, .int .i64 er]) ∧ RoundsTo 23 (-149) 2139095040 2147483648 mode o r er) ∧ Below W.heap.size W w' := by
    intro W g1 hw h1
    have := dround32_any ⟨s, some ⟨g1, 0, none⟩, l, l.length + 2, e⟩ mode W (lent_ok hx h1) (hT.grow hw)
    rw [ho]; exact this
  have h3 : ∀ W : World, Below w.heap.size w W → Calls Tryd.prog 28 #[.agg #[.bool s, .slice a l.length c, .int .i64 e], .int .i64 mode] W fun en w' => (∃ (r : Nat) (er : Int), en = .returned (.tuple #[.float .f64 r, .int .i64 er]) ∧ RoundsTo 52 (-1074) 9218868437227405312 9223372036854775808 mode o r er) ∧ Below W.heap.size W w' := by
    intro W hw
    have := rround_any ⟨s, a, l, c, e⟩ mode W (hx.grow hw)
    rw [ho]; exact this
  have h4 : ∀ W : World, Below w.heap.size w W → Calls Tryd.prog 29 #[.agg #[.bool s, .slice a l.length c, .int .i64 e], .int .i64 mode] W fun en w' => (∃ (r : Nat) (er : Int), en = .returned (.tuple #[.float .f32 r, .int .i64 er]) ∧ RoundsTo 23 (-149) 2139095040 2147483648 mode o r er) ∧ Below W.heap.size W w' := by
    intro W hw
    have := rround32_any ⟨s, a, l, c, e⟩ mode W (hx.grow hw)
    rw [ho]; exact this
  clear ho
  have HAwk := Lib.hid hAwk; have HLx := Lib.hid hLx; have HAx := Lib.hid hAx; have HAlt := Lib.hid alt1; have H1 := Lib.hid h1; have H2 := Lib.hid h2; have H3 := Lib.hid h3; have H4 := Lib.hid h4
  clear hAwk hLx hAx alt1 h1 h2 h3 h4 hx hT
  go_enter Tryd.func5, Tryd.ntmps5
  go_wp2_with fail
  (obtain ⟨u1, g1'⟩ : ∃ W, W = (w.alloc (.cells #[.bool s, .slice a l.length c, .int .i64 e] 27)) := ⟨_, rfl⟩; have pinEq := g1'; (try simp only [wr3] at pinEq); rw [← pinEq]; clear pinEq)
  obtain ⟨kA, hB, s1⟩ := new_cel g1' rfl
  clear g1'
  refine (HAwk.out u1 hB).mono ?_; rintro en w0 ⟨rfl, hb⟩
  (replace kA := cel_call hb kA (by omega); replace hB := below_call hb hB (by omega))
  have z0 := hb.size
  clear hb
  obtain ⟨_, _, _, _, _, _⟩ := kA.facts
  go_wp2_with fail
  refine (HLx.out w0 hB).mono ?_; rintro en wx ⟨g1, rfl, gb1, hl1, hb⟩
  (replace kA := cel_call hb kA (by omega); replace hB := below_call hb hB (by omega))
  have zx := hb.size
  have zg1 := hl1.lt
  clear hb
  simp only []
  go_wp2_with fail
  (obtain ⟨vx, hvx⟩ : ∃ W, W = (wx.alloc (.cells #[.bool s, .slice (some ⟨g1, 0, none⟩) l.length (l.length + 2), .int .i64 e] 27)) := ⟨_, rfl⟩; have pinEq := hvx; (try simp only [wr3] at pinEq); rw [← pinEq]; clear pinEq)
  obtain ⟨kX, bx, sx⟩ := new_cel hvx rfl
  (replace kA := cel_call bx kA (by omega); replace hB := below_call bx hB (by omega))
  replace hl1 := hl1.grow bx
  clear hvx bx
  refine (H1.out vx g1 hB hl1).mono ?_; rintro en w1 ⟨⟨r1, e1, rfl, R1⟩, hb⟩
  (replace kX := cel_call hb kX (by omega); replace kA := cel_call hb kA (by omega); replace hB := below_call hb hB (by omega))
  replace hl1 := hl1.grow hb
  have z1 := hb.size
  clear hb
  obtain ⟨_, _, _, _, _, _⟩ := kX.facts
  go_wp2_with fail
  refine (H2.out w1 g1 hB hl1).mono ?_; rintro en w2 ⟨⟨r2, e2, rfl, R2⟩, hb⟩
  (replace kX := cel_call hb kX (by omega); replace kA := cel_call hb kA (by omega); replace hB := below_call hb hB (by omega))
  replace hl1 := hl1.grow hb
  have z2 := hb.size
  clear hb
  obtain ⟨_, _, _, _, _, _⟩ := kX.facts
  obtain ⟨_, _, _, _, _, _⟩ := kA.facts
  go_wp2_with fail
  refine (HAx.out w2 g1 hB hl1 (fun ad ha hne => by have := HAlt.out ad hne ha; omega)).mono ?_; rintro en w3 ⟨rfl, hk⟩
  have z3 := hk.size
  replace hB := bel_grown hB (Nat.le_refl _) hk (by omega)
  replace kA := cel_grown kA hk (by omega)
  clear hk hl1 kX
  obtain ⟨_, _, _, _, _, _⟩ := kA.facts
  go_wp2_with fail
  refine (H3.out w3 hB).mono ?_; rintro en w4 ⟨⟨r3, e3, rfl, R3⟩, hb⟩
  (replace hB := below_call hb hB (by omega); replace kA := cel_call hb kA (by omega))
  have z4 := hb.size
  clear hb
  obtain ⟨rfl, rfl⟩ := R1.uniq R3
  obtain ⟨_, _, _, _, _, _⟩ := kA.facts
  go_wp2_with fail
  refine (H4.out w4 hB).mono ?_; rintro en w5 ⟨⟨r4, e4, rfl, R4⟩, hb⟩
  (replace hB := below_call hb hB (by omega); replace kA := cel_call hb kA (by omega))
  clear hb
  obtain ⟨rfl, rfl⟩ := R2.uniq R4
  have HB := Lib.hid hB
  clear hB R1 R2 R3 R4
  have hA1 := alike_any r1 r1 w5
  have hA2 := alike32_any r2 r2 w5
  simp only [decide_true] at hA1 hA2
  have HA1 := Lib.hid hA1; have HA2 := Lib.hid hA2; clear hA1 hA2
  go_wp2_with fail
  refine HA1.out.mono ?_; rintro en w6 ⟨rfl, rfl⟩
  go_wp2_with fail
  refine HA2.out.mono ?_; rintro en w6 ⟨rfl, rfl⟩
  go_wp2_with fail
  go_ret
  exact ⟨rfl, HB.out⟩
end Go.Proofs.YtmokomfneikipaaDoor
