/- Contracts of steelyardref03's Round, Round32. No statement of the seat is proved here. -/
import Derived.Test.YtmokomfneikipaaDoorProg
import Derived.Test.YtmokomfneikipaaDoorEh
namespace Go.Proofs.YtmokomfneikipaaDoor
open Go.RowKit
set_option linter.unusedVariables false
set_option linter.unusedSimpArgs false

set_option maxRecDepth 10000 in
set_option maxHeartbeats 4000000 in
theorem rround_any (x : Arg) (mode : Int) (w : World) (hx : x.Ok w) :
    Calls Tryd.prog 28 #[x.v, .int .i64 mode] w fun en w' => (∃ (r : Nat) (er : Int), en = .returned (.tuple #[.float .f64 r, .int .i64 er]) ∧ RoundsTo 52 (-1074) 9218868437227405312 9223372036854775808 mode x.F r er) ∧ Below w.heap.size w w' := by
  have hMa := fun W (hw : Below w.heap.size w W) => made_any x W (hx.grow hw)
  have hok : ∀ d, x.F = some d → d.Ok := fun d h => formF_ok h
  generalize x.F = o at *
  have HMa := Lib.hid hMa; have HOK := Lib.hid hok; clear hMa hok hx
  obtain ⟨s, a, l, c, e⟩ := x
  simp only [Arg.v] at HMa ⊢
  have hb1 := (Below.refl w.heap.size w).alloc (Nat.le_refl _) (.cells #[.bool s, .slice a l.length c, .int .i64 e] 27)
  rcases (show mode < 0 ∨ (¬ mode < 0 ∧ 4 < mode) ∨ (¬ mode < 0 ∧ ¬ 4 < mode) by omega) with hm | ⟨hm1, hm⟩ | ⟨hm1, hm2⟩
  · have hr : RoundsTo 52 (-1074) 9218868437227405312 9223372036854775808 mode o 0 1 := .inl ⟨by omega, rfl, rfl⟩
    have HR := Lib.hid hr; clear hr
    have HB := Lib.hid hb1; clear hb1
    go_enter Tryd.func28, Tryd.ntmps28
    go_wp2_with fail
    go_ret2
    exact ⟨⟨0, 1, rfl, HR.out⟩, HB.out⟩
  · have hr : RoundsTo 52 (-1074) 9218868437227405312 9223372036854775808 mode o 0 1 := .inl ⟨by omega, rfl, rfl⟩
    have HR := Lib.hid hr; clear hr
    have HB := Lib.hid hb1; clear hb1
    go_enter Tryd.func28, Tryd.ntmps28
    go_wp2_with fail
    go_ret2
    exact ⟨⟨0, 1, rfl, HR.out⟩, HB.out⟩
  clear hb1
  go_enter Tryd.func28, Tryd.ntmps28
  go_wp2_with fail
  (obtain ⟨w1, h1⟩ : ∃ W, W = (w.alloc (.cells #[.bool s, .slice a l.length c, .int .i64 e] 27)) := ⟨_, rfl⟩; have pinEq := h1; (try simp only [wr3] at pinEq); rw [← pinEq]; clear pinEq)
  obtain ⟨k1, hB, s1⟩ := new_cel h1 rfl
  clear h1
  obtain ⟨q42x0x0, q42x0x1, q42x0x2, q42x0x3, q42x0x4, q42x0x5⟩ := Cel.facts k1
  refine (HMa.out w1 hB).mono ?_; rintro en w2 ⟨v, rfl, ⟨a1, c1, rfl, ho1⟩, hb⟩
  (replace k1 := cel_call hb k1 (by omega); replace hB := below_call hb hB (by omega))
  have s2 := hb.size
  clear hb
  simp only [dyV]
  have kn := Cel.new w2 (.bool (outO o).neg) (.slice a1 (words (outO o).m).length c1) (.int .i64 (outO o).exp)
  have hB3 := hB.alloc hB.size (.cells #[.bool (outO o).neg, .slice a1 (words (outO o).m).length c1, .int .i64 (outO o).exp] 27)
  have ho3 := ho1.grow ((Below.refl w2.heap.size w2).alloc (Nat.le_refl _) (.cells #[.bool (outO o).neg, .slice a1 (words (outO o).m).length c1, .int .i64 (outO o).exp] 27))
  cases o with
  | none =>
    have hr : RoundsTo 52 (-1074) 9218868437227405312 9223372036854775808 mode none 0 2 := .inr ⟨by omega, .inl ⟨rfl, rfl, rfl⟩⟩
    have HR := Lib.hid hr; have HB3 := Lib.hid hB3; clear hr hB3
    simp only [Option.isSome]
    go_wp2_with fail
    go_ret2
    exact ⟨⟨0, 2, rfl, HR.out⟩, HB3.out⟩
  | some d =>
    obtain ⟨hd1, hd2, hd3⟩ := HOK.out d rfl
    simp only [Option.isSome, show outO (some d) = d from rfl] at *
    have hE : ∀ (k r : Nat), Rounds 52 (-1074) 9218868437227405312 d mode k → r = k + (if d.neg = true then 9223372036854775808 else 0) → RoundsTo 52 (-1074) 9218868437227405312 9223372036854775808 mode (some d) r 0 := fun k r h1 h => .inr ⟨by omega, .inr ⟨d, k, rfl, h1, h, rfl⟩⟩
    have hN : ∀ W base, Own W 64 base a1 c1 (words d.m) → Calls Tryd.prog 71 #[.agg #[.int .i64 53, .int .i64 (-1074), .int .u64 9218868437227405312], .bool d.neg, .slice a1 (words d.m).length c1, .int .i64 d.exp, .int .i64 mode] W fun en w' => ∃ r : Nat, en = .returned (.int .u64 r) ∧ Rounds 52 (-1074) 9218868437227405312 d mode r ∧ Below W.heap.size W w' := by
      intro W base ho
      have := nearby_any 52 2047 (-1074) 9218868437227405312 d.neg a1 c1 (words d.m) d.exp mode W (by decide) (by decide) (by decide) (by decide) (by decide) (by decide) (by decide) (ho.sl (W32_words _)) hd1 (by omega) (by omega)
      rw [num_words] at this
      exact this
    have HE := Lib.hid hE; have HN := Lib.hid hN; clear hE hN hd1 hd2 hd3 HOK HMa
    obtain ⟨dn, dm, de⟩ := d
    simp only at *
    go_wp2_with fail
    obtain ⟨w3, h3⟩ : ∃ W, W = w2.alloc (.cells #[.bool dn, .slice a1 (words dm).length c1, .int .i64 de] 27) := ⟨_, rfl⟩
    rw [← h3] at kn hB3 ho3 ⊢
    have s3 : w3.heap.size = w2.heap.size + 1 := by rw [h3, World.size_alloc]
    clear h3 ho1
    obtain ⟨_, _, _, _, _, _⟩ := kn.facts
    have HB3 := Lib.hid hB3; have HO3 := Lib.hid ho3; have HS3 := Lib.hid s3; clear hB3 ho3 s3
    go_region_held3 (fun W => W.cell? ⟨w2.heap.size, 0, none⟩ = some (.bool dn) ∧ W.cell? ⟨w2.heap.size, 1, none⟩ = some (.slice a1 (words dm).length c1) ∧ W.cell? ⟨w2.heap.size, 2, none⟩ = some (.int .i64 de)) (go_keep) (first
      | (go_at_call 50; refine (of64_any _).mono ?_; rintro en w4 ⟨rfl, hb4⟩; have k4 := kn.below (below_drewN (n := 1) hb4) (by have := kn.lt; simpa using this); obtain ⟨_, _, _, _, _, _⟩ := k4.facts)
      | (go_at_call 71; refine (HN.out _ _ (HO3.out.grow ((below_drewN (n := 1) hb4).mono (by simp)))).mono ?_; rintro en w5 ⟨k, rfl, hR5, hb5⟩; have k5 := k4.below hb5 k4.lt; obtain ⟨_, _, _, _, _, _⟩ := k5.facts))
    all_goals
      have hle := hR5.le
      have HR5 := Lib.hid hR5; clear hR5
      have hB5 : Below w.heap.size w w5 := (HB3.out.trans ((below_drewN (n := 1) hb4).mono (by have := HB3.out.size; simp; omega))).trans (hb5.mono (by have := HB3.out.size; have := hb4.size; simp at this; omega))
      have HB5 := Lib.hid hB5; clear hB5
      have hx0 := ext_from64 k
      have hx1 := ext_from64 (k + 9223372036854775808)
      rw [show ((k + 9223372036854775808 : Nat) : Int) = (k : Int) + 9223372036854775808 from by simp] at hx1
      have hw1 : IntKind.u64.wrap ((k : Int) + 9223372036854775808) = (k : Int) + 9223372036854775808 := by rw [IntKind.wrap_u64]; omega
      cases dn with
      | true =>
        go_wp2_with fail
        go_ret2
        exact ⟨⟨k + 9223372036854775808, 0, rfl, HE.out k _ HR5.out (by simp)⟩, HB5.out⟩
      | false =>
        go_wp2_with fail
        go_ret2
        exact ⟨⟨k, 0, rfl, HE.out k _ HR5.out (by simp)⟩, HB5.out⟩
set_option maxRecDepth 10000 in
set_option maxHeartbeats 4000000 in
theorem rround32_any (x : Arg) (mode : Int) (w : World) (hx : x.Ok w) :
    Calls Tryd.prog 29 #[x.v, .int .i64 mode] w fun en w' => (∃ (r : Nat) (er : Int), en = .returned (.tuple #[.float .f32 r, .int .i64 er]) ∧ RoundsTo 23 (-149) 2139095040 2147483648 mode x.F r er) ∧ Below w.heap.size w w' := by
  have hMa := fun W (hw : Below w.heap.size w W) => made_any x W (hx.grow hw)
  have hok : ∀ d, x.F = some d → d.Ok := fun d h => formF_ok h
  generalize x.F = o at *
  have HMa := Lib.hid hMa; have HOK := Lib.hid hok; clear hMa hok hx
  obtain ⟨s, a, l, c, e⟩ := x
  simp only [Arg.v] at HMa ⊢
  have hb1 := (Below.refl w.heap.size w).alloc (Nat.le_refl _) (.cells #[.bool s, .slice a l.length c, .int .i64 e] 27)
  rcases (show mode < 0 ∨ (¬ mode < 0 ∧ 4 < mode) ∨ (¬ mode < 0 ∧ ¬ 4 < mode) by omega) with hm | ⟨hm1, hm⟩ | ⟨hm1, hm2⟩
  · have hr : RoundsTo 23 (-149) 2139095040 2147483648 mode o 0 1 := .inl ⟨by omega, rfl, rfl⟩
    have HR := Lib.hid hr; clear hr
    have HB := Lib.hid hb1; clear hb1
    go_enter Tryd.func29, Tryd.ntmps29
    go_wp2_with fail
    go_ret2
    exact ⟨⟨0, 1, rfl, HR.out⟩, HB.out⟩
  · have hr : RoundsTo 23 (-149) 2139095040 2147483648 mode o 0 1 := .inl ⟨by omega, rfl, rfl⟩
    have HR := Lib.hid hr; clear hr
    have HB := Lib.hid hb1; clear hb1
    go_enter Tryd.func29, Tryd.ntmps29
    go_wp2_with fail
    go_ret2
    exact ⟨⟨0, 1, rfl, HR.out⟩, HB.out⟩
  clear hb1
  go_enter Tryd.func29, Tryd.ntmps29
  go_wp2_with fail
  (obtain ⟨w1, h1⟩ : ∃ W, W = (w.alloc (.cells #[.bool s, .slice a l.length c, .int .i64 e] 27)) := ⟨_, rfl⟩; have pinEq := h1; (try simp only [wr3] at pinEq); rw [← pinEq]; clear pinEq)
  obtain ⟨k1, hB, s1⟩ := new_cel h1 rfl
  clear h1
  obtain ⟨q131x0x0, q131x0x1, q131x0x2, q131x0x3, q131x0x4, q131x0x5⟩ := Cel.facts k1
  refine (HMa.out w1 hB).mono ?_; rintro en w2 ⟨v, rfl, ⟨a1, c1, rfl, ho1⟩, hb⟩
  (replace k1 := cel_call hb k1 (by omega); replace hB := below_call hb hB (by omega))
  have s2 := hb.size
  clear hb
  simp only [dyV]
  have kn := Cel.new w2 (.bool (outO o).neg) (.slice a1 (words (outO o).m).length c1) (.int .i64 (outO o).exp)
  have hB3 := hB.alloc hB.size (.cells #[.bool (outO o).neg, .slice a1 (words (outO o).m).length c1, .int .i64 (outO o).exp] 27)
  have ho3 := ho1.grow ((Below.refl w2.heap.size w2).alloc (Nat.le_refl _) (.cells #[.bool (outO o).neg, .slice a1 (words (outO o).m).length c1, .int .i64 (outO o).exp] 27))
  cases o with
  | none =>
    have hr : RoundsTo 23 (-149) 2139095040 2147483648 mode none 0 2 := .inr ⟨by omega, .inl ⟨rfl, rfl, rfl⟩⟩
    have HR := Lib.hid hr; have HB3 := Lib.hid hB3; clear hr hB3
    simp only [Option.isSome]
    go_wp2_with fail
    go_ret2
    exact ⟨⟨0, 2, rfl, HR.out⟩, HB3.out⟩
  | some d =>
    obtain ⟨hd1, hd2, hd3⟩ := HOK.out d rfl
    simp only [Option.isSome, show outO (some d) = d from rfl] at *
    have hE : ∀ (k r : Nat), Rounds 23 (-149) 2139095040 d mode k → r = k + (if d.neg = true then 2147483648 else 0) → RoundsTo 23 (-149) 2139095040 2147483648 mode (some d) r 0 := fun k r h1 h => .inr ⟨by omega, .inr ⟨d, k, rfl, h1, h, rfl⟩⟩
    have hN : ∀ W base, Own W 64 base a1 c1 (words d.m) → Calls Tryd.prog 71 #[.agg #[.int .i64 24, .int .i64 (-149), .int .u64 2139095040], .bool d.neg, .slice a1 (words d.m).length c1, .int .i64 d.exp, .int .i64 mode] W fun en w' => ∃ r : Nat, en = .returned (.int .u64 r) ∧ Rounds 23 (-149) 2139095040 d mode r ∧ Below W.heap.size W w' := by
      intro W base ho
      have := nearby_any 23 255 (-149) 2139095040 d.neg a1 c1 (words d.m) d.exp mode W (by decide) (by decide) (by decide) (by decide) (by decide) (by decide) (by decide) (ho.sl (W32_words _)) hd1 (by omega) (by omega)
      rw [num_words] at this
      exact this
    have HE := Lib.hid hE; have HN := Lib.hid hN; clear hE hN hd1 hd2 hd3 HOK HMa
    obtain ⟨dn, dm, de⟩ := d
    simp only at *
    go_wp2_with fail
    obtain ⟨w3, h3⟩ : ∃ W, W = w2.alloc (.cells #[.bool dn, .slice a1 (words dm).length c1, .int .i64 de] 27) := ⟨_, rfl⟩
    rw [← h3] at kn hB3 ho3 ⊢
    have s3 : w3.heap.size = w2.heap.size + 1 := by rw [h3, World.size_alloc]
    clear h3 ho1
    obtain ⟨_, _, _, _, _, _⟩ := kn.facts
    have HB3 := Lib.hid hB3; have HO3 := Lib.hid ho3; have HS3 := Lib.hid s3; clear hB3 ho3 s3
    go_region_held3 (fun W => W.cell? ⟨w2.heap.size, 0, none⟩ = some (.bool dn) ∧ W.cell? ⟨w2.heap.size, 1, none⟩ = some (.slice a1 (words dm).length c1) ∧ W.cell? ⟨w2.heap.size, 2, none⟩ = some (.int .i64 de)) (go_keep) (first
      | (go_at_call 72; refine (of32_any _).mono ?_; rintro en w4 ⟨rfl, hb4⟩; have k4 := kn.below (below_drewN (n := 1) hb4) (by have := kn.lt; simpa using this); obtain ⟨_, _, _, _, _, _⟩ := k4.facts)
      | (go_at_call 71; refine (HN.out _ _ (HO3.out.grow ((below_drewN (n := 1) hb4).mono (by simp)))).mono ?_; rintro en w5 ⟨k, rfl, hR5, hb5⟩; have k5 := k4.below hb5 k4.lt; obtain ⟨_, _, _, _, _, _⟩ := k5.facts))
    all_goals
      have hle := hR5.le
      have HR5 := Lib.hid hR5; clear hR5
      have hB5 : Below w.heap.size w w5 := (HB3.out.trans ((below_drewN (n := 1) hb4).mono (by have := HB3.out.size; simp; omega))).trans (hb5.mono (by have := HB3.out.size; have := hb4.size; simp at this; omega))
      have HB5 := Lib.hid hB5; clear hB5
      have hx0 := ext_from32 k
      have hx1 := ext_from32 (k + 2147483648)
      rw [show ((k + 2147483648 : Nat) : Int) = (k : Int) + 2147483648 from by simp] at hx1
      have hw1 : IntKind.u64.wrap ((k : Int) + 2147483648) = (k : Int) + 2147483648 := by rw [IntKind.wrap_u64]; omega
      have hw2 : IntKind.u32.wrap (k : Int) = (k : Int) := by rw [IntKind.wrap_u32]; omega
      have hw3 : IntKind.u32.wrap ((k : Int) + 2147483648) = (k : Int) + 2147483648 := by rw [IntKind.wrap_u32]; omega
      cases dn with
      | true =>
        go_wp2_with fail
        go_ret2
        exact ⟨⟨k + 2147483648, 0, rfl, HE.out k _ HR5.out (by simp)⟩, HB5.out⟩
      | false =>
        go_wp2_with fail
        go_ret2
        exact ⟨⟨k, 0, rfl, HE.out k _ HR5.out (by simp)⟩, HB5.out⟩
end Go.Proofs.YtmokomfneikipaaDoor
