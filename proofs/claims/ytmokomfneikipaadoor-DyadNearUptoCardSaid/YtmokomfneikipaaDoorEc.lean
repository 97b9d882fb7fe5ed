/- Contracts of dyad.told, away, beyond. No statement of the seat is proved here. -/
import Derived.Test.YtmokomfneikipaaDoorProg
import Derived.Test.YtmokomfneikipaaDoorEb
import Derived.Test.YtmokomfneikipaaDoorDs
namespace Go.Proofs.YtmokomfneikipaaDoor
open Go.RowKit
set_option linter.unusedVariables false
set_option linter.unusedSimpArgs false

def errT (mode : Int) (o : Option D) : Int := if mode < 0 ∨ 4 < mode then 1 else errO o
def outT (mode : Int) (o : Option D) : D := if mode < 0 ∨ 4 < mode then D.zero else outO o
def CameT (w w' : World) (mode : Int) (o : Option D) (e : Ending) : Prop := ∃ v, e = .returned (.tuple #[v, .int .i64 (errT mode o)]) ∧ DOwn w' w.heap.size (outT mode o) v ∧ Below w.heap.size w w'

set_option maxRecDepth 10000 in
set_option maxHeartbeats 1000000 in
theorem dtold_any (x : Arg) (mode : Int) (w : World) (hx : x.Ok w) (hT : Tab w) :
    Calls Tryd.prog 68 #[x.v, .int .i64 mode] w fun en w' => CameT w w' mode x.F en := by
  have hF := fun W (hw : Below w.heap.size w W) => dform_any x.s x.a x.c x.l x.e W (by have := hx.len; omega) hx.sl.w32 (hx.sl.rd.grow hw) hx.lo hx.hi (hT.grow hw)
  unfold CameT
  obtain ⟨o, ho⟩ : ∃ o, o = x.F := ⟨_, rfl⟩
  rw [← ho]
  have hF2 : ∀ W, Below w.heap.size w W → Calls Tryd.prog 48 #[.bool x.s, .slice x.a x.l.length x.c, .int .i64 x.e] W fun en w' => Came W w' o en := by rw [ho]; exact hF
  clear hF ho hx hT
  have HF := Lib.hid hF2; clear hF2
  obtain ⟨s, a, l, c, e⟩ := x
  simp only [Arg.v] at HF ⊢
  have hb2 := ((Below.refl w.heap.size w).alloc (Nat.le_refl _) (.cells #[.bool s, .slice a l.length c, .int .i64 e] 27)).alloc (by rw [World.size_alloc]; omega) (.cells #[.bool false, .slice none 0 0, .int .i64 0] 27)
  have kn := Cel.new (w.alloc (.cells #[.bool s, .slice a l.length c, .int .i64 e] 27)) (.bool false) (.slice none 0 0) (.int .i64 0)
  rw [World.size_alloc] at kn
  rcases (show mode < 0 ∨ (¬ mode < 0 ∧ 4 < mode) ∨ (¬ mode < 0 ∧ ¬ 4 < mode) by omega) with hm | ⟨hm1, hm⟩ | ⟨hm1, hm2⟩
  · have hmm : mode < 0 ∨ 4 < mode := by omega
    have HM := Lib.hid hmm; clear hmm
    obtain ⟨c0, cc1, cc2, _, _, _⟩ := kn.facts
    go_enter Tryd.func68, Tryd.ntmps68
    go_wp2_with fail
    refine bodyPost_ret (v := .tuple #[dyV D.zero none 0, .int .i64 1]) (by simp [results, Tryd.results68, go_sem, dyV, D.zero, words_zero, c0, cc1, cc2]) rfl ?_
    unfold errT outT
    rw [if_pos HM.out, if_pos HM.out]
    exact ⟨_, rfl, ⟨none, 0, rfl, by rw [show D.zero.m = 0 from rfl, words_zero]; exact Own.none _ _ _⟩, hb2⟩
  · have hmm : mode < 0 ∨ 4 < mode := by omega
    have HM := Lib.hid hmm; clear hmm
    obtain ⟨c0, cc1, cc2, _, _, _⟩ := kn.facts
    go_enter Tryd.func68, Tryd.ntmps68
    go_wp2_with fail
    refine bodyPost_ret (v := .tuple #[dyV D.zero none 0, .int .i64 1]) (by simp [results, Tryd.results68, go_sem, dyV, D.zero, words_zero, c0, cc1, cc2]) rfl ?_
    unfold errT outT
    rw [if_pos HM.out, if_pos HM.out]
    exact ⟨_, rfl, ⟨none, 0, rfl, by rw [show D.zero.m = 0 from rfl, words_zero]; exact Own.none _ _ _⟩, hb2⟩
  · have hmm : ¬ (mode < 0 ∨ 4 < mode) := by omega
    have HM := Lib.hid hmm; clear hmm kn hb2
    go_enter Tryd.func68, Tryd.ntmps68
    go_wp2_with fail
    (obtain ⟨w1, h1⟩ : ∃ W, W = (w.alloc (.cells #[.bool s, .slice a l.length c, .int .i64 e] 27)) := ⟨_, rfl⟩; have pinEq := h1; (try simp only [wr3] at pinEq); rw [← pinEq]; clear pinEq)
    (obtain ⟨w2, h2⟩ : ∃ W, W = (w1.alloc (.cells #[.bool false, .slice none 0 0, .int .i64 0] 27)) := ⟨_, rfl⟩; have pinEq := h2; (try simp only [wr3] at pinEq); rw [← pinEq]; clear pinEq)
    obtain ⟨k1, hB, s1⟩ := new_cel h1 rfl
    obtain ⟨k2, b2, s2⟩ := new_cel h2 s1
    (replace k1 := cel_call b2 k1 (by omega); replace hB := below_call b2 hB (by omega))
    clear h1 h2 b2
    (obtain ⟨q60x0x0, q60x0x1, q60x0x2, q60x0x3, q60x0x4, q60x0x5⟩ := Cel.facts k2; obtain ⟨q60x1x0, q60x1x1, q60x1x2, q60x1x3, q60x1x4, q60x1x5⟩ := Cel.facts k1)
    refine (HF.out w2 hB).mono ?_; rintro en w4 ⟨v, rfl, ⟨a1, c1, rfl, ho1⟩, hb⟩
    (replace k2 := cel_call hb k2 (by omega); replace k1 := cel_call hb k1 (by omega); replace hB := below_call hb hB (by omega))
    have s4 := hb.size
    clear hb
    simp only [dyV]
    (clear q60x0x0 q60x0x1 q60x0x2 q60x0x3 q60x0x4 q60x0x5 q60x1x0 q60x1x1 q60x1x2 q60x1x3 q60x1x4 q60x1x5; obtain ⟨q66x0x0, q66x0x1, q66x0x2, q66x0x3, q66x0x4, q66x0x5⟩ := Cel.facts k2; obtain ⟨q66x1x0, q66x1x1, q66x1x2, q66x1x3, q66x1x4, q66x1x5⟩ := Cel.facts k1)
    go_wp2
    obtain ⟨c0, cc1, cc2, _, _, _⟩ := k2.facts
    refine bodyPost_ret (v := .tuple #[dyV (outO o) a1 c1, .int .i64 (errO o)]) (by simp [results, Tryd.results68, go_sem, dyV, c0, cc1, cc2]) rfl ?_
    unfold errT outT
    rw [if_neg HM.out, if_neg HM.out]
    exact ⟨_, rfl, ⟨a1, c1, rfl, (own_wr3 (g := w.heap.size + 1) ho1 (by omega)).mono (by omega)⟩, below_wr3 (g := w.heap.size + 1) hB (by omega)⟩

set_option maxRecDepth 10000 in
set_option maxHeartbeats 1000000 in
theorem away_any (mode : Int) (neg : Bool) (n : Nat) (half only : Bool) (w : World) (hn : n < 18446744073709551616) :
    Calls Tryd.prog 100 #[.int .i64 mode, .bool neg, .int .u64 n, .bool half, .bool only] w fun en w' => en = .returned (.bool (awayN mode neg n half only)) ∧ w = w' := by
  have g1 : (bits BinOp.and IntKind.u64 (n : Int) 1 == 1) = decide (n % 2 = 1) := by
    have := bits_and_u64_nat n 1 hn (by decide)
    rw [show ((1 : Nat) : Int) = 1 from rfl] at this
    rw [this, show 1 = 2 ^ 1 - 1 from rfl, Nat.and_two_pow_sub_one_eq_mod]
    rcases (show n % 2 ^ 1 = 0 ∨ n % 2 ^ 1 = 1 by omega) with h | h <;> rw [h] <;> simp <;> omega
  obtain ⟨od, hod⟩ : ∃ od, od = decide (n % 2 = 1) := ⟨_, rfl⟩
  rw [← hod] at g1
  have HOD := Lib.hid hod; clear hod
  go_enter Tryd.func100, Tryd.ntmps100
  rcases (show mode = 0 ∨ mode = 4 ∨ mode = 2 ∨ mode = 3 ∨ (mode ≠ 0 ∧ mode ≠ 4 ∧ mode ≠ 2 ∧ mode ≠ 3) by omega) with h | h | h | h | ⟨h1, h2, h3, h4⟩
  · subst h
    cases half <;> cases only
    all_goals
      go_wp2
      go_ret
      refine ⟨?_, rfl⟩
      unfold awayN
      rw [← HOD.out]
      simp [g1]
  · subst h
    go_wp2
    go_ret
    exact ⟨by unfold awayN; simp, rfl⟩
  · subst h
    go_wp2
    go_ret
    exact ⟨by unfold awayN; simp, rfl⟩
  · subst h
    go_wp2
    go_ret
    exact ⟨by unfold awayN; simp, rfl⟩
  · have e1 : (mode == 0) = false := by simpa using h1
    have e2 : (mode == 4) = false := by simpa using h2
    have e3 : (mode == 2) = false := by simpa using h3
    have e4 : (mode == 3) = false := by simpa using h4
    have H1 := Lib.hid h1; have H2 := Lib.hid h2; have H3 := Lib.hid h3; have H4 := Lib.hid h4; clear h1 h2 h3 h4
    go_wp2
    go_ret
    exact ⟨by unfold awayN; rw [if_neg H1.out, if_neg H2.out, if_neg H3.out, if_neg H4.out]; rfl, rfl⟩

set_option maxRecDepth 10000 in
set_option maxHeartbeats 1000000 in
theorem beyond_any (v0 v1 : Int) (E : Nat) (neg : Bool) (mode : Int) (w : World) (hE0 : 0 < E) (hE : E < 18446744073709551616) :
    Calls Tryd.prog 98 #[.agg #[.int .i64 v0, .int .i64 v1, .int .u64 E], .bool neg, .int .i64 mode] w fun en w' => en = .returned (.int .u64 (beyondN E neg mode : Nat)) ∧ Below w.heap.size w w' := by
  have hB := (Below.refl w.heap.size w).alloc (Nat.le_refl _) (.cells #[.int .i64 v0, .int .i64 v1, .int .u64 E] 92)
  have e0 : IntKind.u64.wrap ((E : Int) - 1) = ((E - 1 : Nat) : Int) := by rw [IntKind.wrap_u64]; omega
  have k := cells3 (heap_alloc_new w (.cells #[.int .i64 v0, .int .i64 v1, .int .u64 E] 92))
  obtain ⟨c0, cc1, cc2, _, _, _⟩ := k
  have HB := Lib.hid hB; clear hB
  have hret : ∀ z, z = beyondN E neg mode → Ending.returned (.int .u64 ((z : Nat) : Int)) = .returned (.int .u64 (beyondN E neg mode : Nat)) := fun z h => by rw [h]
  have HR := Lib.hid hret; clear hret
  go_enter Tryd.func98, Tryd.ntmps98
  rcases (show mode = 1 ∨ mode = 2 ∨ mode = 3 ∨ (mode ≠ 1 ∧ mode ≠ 2 ∧ mode ≠ 3) by omega) with h | h | h | ⟨h1, h2, h3⟩
  · subst h
    go_wp2
    all_goals
      go_ret
      exact ⟨HR.out _ (by unfold beyondN; simp), HB.out⟩
  · subst h
    cases neg
    all_goals
      go_wp2
      go_ret
      exact ⟨HR.out _ (by unfold beyondN; simp), HB.out⟩
  · subst h
    cases neg
    all_goals
      go_wp2
      go_ret
      exact ⟨HR.out _ (by unfold beyondN; simp), HB.out⟩
  · have e1 : (mode == 1) = false := by simpa using h1
    have e2 : (mode == 2) = false := by simpa using h2
    have e3 : (mode == 3) = false := by simpa using h3
    have H1 := Lib.hid h1; have H2 := Lib.hid h2; have H3 := Lib.hid h3; clear h1 h2 h3
    go_wp2
    go_ret
    exact ⟨HR.out _ (by unfold beyondN; rw [if_neg (by simp [H1.out, H2.out, H3.out])]), HB.out⟩
end Go.Proofs.YtmokomfneikipaaDoor
