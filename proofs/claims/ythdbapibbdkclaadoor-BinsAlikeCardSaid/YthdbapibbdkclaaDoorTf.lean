/- SuperBetween's plain part: what an accumulator rounds to, down and up, beside what it has. No statement of the seat is proved here. -/
import Derived.Test.YthdbapibbdkclaaDoorProg
import Derived.Test.YthdbapibbdkclaaDoorMQ
import Derived.Test.YthdbapibbdkclaaDoorTe
namespace Go.Proofs.YthdbapibbdkclaaDoor
open Go.RowKit
set_option linter.unusedVariables false
set_option linter.unusedSimpArgs false

theorem ofF_fin {b : Nat} (h : b % 9223372036854775808 < 9218868437227405312) : ∃ q, ofF b = some q := by
  unfold ofF bitsF
  rw [if_neg (by omega)]
  have h1 : b % 9223372036854775808 / 2 ^ 52 ≤ 2046 := by omega
  have h2 : b % 9223372036854775808 % 2 ^ 52 < 4503599627370496 := by omega
  refine formF_small ?_ ?_ ?_
  · unfold numM
    simp only [show (2 : Nat) ^ 52 = 4503599627370496 from rfl] at *
    split <;> omega
  · unfold numE
    simp only [show (2 : Nat) ^ 52 = 4503599627370496 from rfl] at *
    first | omega | (split <;> omega)
  · unfold numE
    simp only [show (2 : Nat) ^ 52 = 4503599627370496 from rfl] at *
    first | omega | (split <;> omega)

/-- down x, up y of d -/
structure Btw (d : D) (x y : Nat) : Prop where
  xl : x < 18446744073709551616
  yl : y < 18446744073709551616
  xm : x % 9223372036854775808 ≤ 9218868437227405312
  ym : y % 9223372036854775808 ≤ 9218868437227405312
  le : fV x ≤ fV y
  dn : ∀ q (a a' : Option Addr) (c c' : Nat), ofF x = some q → cmpA (argOf q a c) (argOf d a' c') ≤ 0
  up : ∀ q (a a' : Option Addr) (c c' : Nat), ofF y = some q → cmpA (argOf d a' c') (argOf q a c) ≤ 0
  eq : fV x = fV y → ∃ q, ofF x = some q ∧ ∀ (a a' : Option Addr) (c c' : Nat), cmpA (argOf q a c) (argOf d a' c') = 0
  ne : fV x ≠ fV y → x ≠ 9218868437227405312 ∧ nextB x = y
theorem cmpA_flip {p q : D} {a a' : Option Addr} {c c' : Nat} (h : 0 ≤ cmpA (argOf p a c) (argOf q a' c')) : cmpA (argOf q a' c') (argOf p a c) ≤ 0 := by
  obtain ⟨B, hB1, hB2⟩ : ∃ B : Int, B ≤ p.exp ∧ B ≤ q.exp := ⟨min p.exp q.exp, by omega, by omega⟩
  exact (cmpA_le hB2 hB1).1.2 ((cmpA_le hB1 hB2).2.1 h)
theorem btw_of {d : D} {x y : Nat} (h3 : R64 3 d x) (h2 : R64 2 d y) : Btw d x y := by
  obtain ⟨x1, y1, x2, y2, hc⟩ := r64_between h3 h2
  refine ⟨x1, y1, x2, y2, ?_, fun q a a' c c' hq => r64_down h3 hq, fun q a a' c c' hq => cmpA_flip (r64_up h2 hq), ?_, ?_⟩
  · rcases hc with ⟨rfl, _⟩ | ⟨h, _⟩ <;> omega
  · intro he
    rcases hc with ⟨rfl, hf⟩ | ⟨h, _⟩
    · obtain ⟨q, hq⟩ := ofF_fin hf
      refine ⟨q, hq, fun a a' c c' => ?_⟩
      have := r64_down (a := a) (c := c) (a' := a') (c' := c') h3 hq
      have := r64_up (a := a) (c := c) (a' := a') (c' := c') h2 hq
      omega
    · omega
  · intro he
    rcases hc with ⟨rfl, _⟩ | ⟨_, h, h'⟩
    · exact absurd rfl he
    · exact ⟨h, h'⟩
theorem btw_nought {x y : Nat} (hx : x = 0 ∨ x = nzero64) (hy : y = 0 ∨ y = nzero64) : Btw D.zero x y := by
  have ho : ∀ z, z = 0 ∨ z = nzero64 → z < 18446744073709551616 ∧ z % 9223372036854775808 = 0 ∧ fV z = 0 ∧ ofF z = some D.zero := by
    intro z hz
    rcases hz with rfl | rfl
    · exact ⟨by decide, by decide, fV_zero rfl, by kernel_rfl⟩
    · exact ⟨by decide, by decide, fV_zero rfl, by kernel_rfl⟩
  obtain ⟨x1, x2, x3, x4⟩ := ho x hx
  obtain ⟨y1, y2, y3, y4⟩ := ho y hy
  have hc : ∀ (a a' : Option Addr) (c c' : Nat), cmpA (argOf D.zero a c) (argOf D.zero a' c') = 0 := fun a a' c c' => by
    have h1 := (cmpA_le (d := D.zero) (n := D.zero) (a := a) (a' := a') (c := c) (c' := c') (Int.le_refl _) (Int.le_refl _)).1.2 (Int.le_refl _)
    have h2 := (cmpA_le (d := D.zero) (n := D.zero) (a := a) (a' := a') (c := c) (c' := c') (Int.le_refl _) (Int.le_refl _)).2.2 (Int.le_refl _)
    omega
  refine ⟨x1, y1, by omega, by omega, by omega, ?_, ?_, ?_, fun h => absurd (x3.trans y3.symm) h⟩
  · intro q a a' c c' hq; rw [x4] at hq; cases hq; rw [hc]; decide
  · intro q a a' c c' hq; rw [y4] at hq; cases hq; rw [hc]; decide
  · intro _; exact ⟨D.zero, x4, hc⟩
/-- what Round tells, down and up, where all that has no value is passed over -/
theorem btw_round {A : Ac} {d : D} {x y : Nat} {ex ey : Int} (hd : exO A.T = some d) (h3 : RoundR A 3 1 1 x ex) (h2 : RoundR A 2 1 1 y ey) : ex = 0 ∧ ey = 0 ∧ Btw d x y := by
  have hs : ∀ m, specR A m 1 1 = if A.T = 0 then (noughtB A m, true, 0) else (0, false, 0) := by
    intro m
    have hv : verd A 1 1 = none := by unfold verd; rw [if_neg (by omega), if_neg (by decide)]
    unfold specR
    rw [if_neg (by omega), if_neg (by omega), hv]
  unfold RoundR at h3 h2
  rw [hs] at h3 h2
  by_cases hT : A.T = 0
  · rw [if_pos hT] at h3 h2
    have hz : d = D.zero := by rw [hT, show exO 0 = some D.zero from exO_zero] at hd; exact (Option.some.inj hd).symm
    subst hz
    have hn : ∀ m, noughtB A m = 0 ∨ noughtB A m = nzero64 := by intro m; unfold noughtB; split <;> simp
    rcases h3 with ⟨_, rfl, rfl⟩ | ⟨h, _⟩
    · rcases h2 with ⟨_, rfl, rfl⟩ | ⟨h, _⟩
      · exact ⟨rfl, rfl, btw_nought (hn 3) (hn 2)⟩
      · cases h
    · cases h
  · rw [if_neg hT] at h3 h2
    rcases h3 with ⟨h, _⟩ | ⟨_, _, h3⟩
    · rcases h with h | h
      · cases h
      · exact absurd rfl h
    · rcases h2 with ⟨h, _⟩ | ⟨_, _, h2⟩
      · rcases h with h | h
        · cases h
        · exact absurd rfl h
      · rw [hd] at h3 h2
        obtain ⟨B, hB1, hB3⟩ : ∃ B : Int, B ≤ d.exp ∧ B ≤ -1074 := ⟨min d.exp (-1074), by omega, by omega⟩
        obtain ⟨rfl, _⟩ := lies_of B (by decide) (by decide) hB1 hB3 h3
        obtain ⟨rfl, _⟩ := lies_of B (by decide) (by decide) hB1 hB3 h2
        exact ⟨rfl, rfl, btw_of h3 h2⟩
end Go.Proofs.YthdbapibbdkclaaDoor
