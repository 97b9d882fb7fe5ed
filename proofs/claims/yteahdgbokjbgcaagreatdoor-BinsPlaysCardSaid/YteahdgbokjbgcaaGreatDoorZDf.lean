/- Sums of Dyads, in numbers; contract of dyad.Add. No statement of the seat is proved here. -/
import Derived.Test.YteahdgbokjbgcaaGreatDoorProg
import Derived.Test.YteahdgbokjbgcaaGreatDoorZMD
namespace Go.Proofs.YteahdgbokjbgcaaGreatDoor
open Go.RowKit
set_option linter.unusedVariables false
set_option linter.unusedSimpArgs false

structure D.Ok (d : D) : Prop where
  len : (words d.m).length ≤ 8192
  lo : -1048576 ≤ d.exp
  hi : d.exp ≤ 1048576
theorem D.zero_ok : D.zero.Ok := ⟨by simp [D.zero, words_zero], by decide, by decide⟩
theorem formF_ok {s : Bool} {n : Nat} {e : Int} {d : D} (h : formF s n e = some d) : d.Ok := by
  unfold formF at h
  split at h
  · cases h; exact D.zero_ok
  · split at h
    · cases h
    · rename_i h2
      cases h
      exact ⟨by dsimp only; omega, by dsimp only; omega, by dsimp only; omega⟩

/-- a word's worth to the left, if it may be so long -/
def shiftF (N k : Nat) : Nat := if 8192 < (words (N * 2 ^ k)).length then 0 else N * 2 ^ k
def shiftE (N k : Nat) : Int := if 8192 < (words (N * 2 ^ k)).length then 2 else 0
theorem words_bits {n : Nat} : (words n).length ≤ 8192 ↔ bitLen n ≤ 262144 := ⟨fun h => by have := words_bitLen h; omega, fun h => bitLen_words_le (by omega)⟩

theorem shift_words (a : Option Addr) (c N k : Nat) (w : World) (hc : (words N).length ≤ c) (h8 : (words N).length ≤ 8192) (hN : N ≠ 0) (hk : k ≤ 4194304) (hr : Rd w a (words N)) :
    Calls Tryz.prog 251 #[.slice a (words N).length c, .int .i64 (k : Int)] w fun e w' => ∃ a' c', e = .returned (.tuple #[.slice a' (words (shiftF N k)).length c', .int .i64 (shiftE N k)]) ∧ Own w' 118 w.heap.size a' c' (words (shiftF N k)) ∧ Below w.heap.size w w' := by
  by_cases h : 8192 < (words (N * 2 ^ k)).length
  · have hb : 262144 < k + bitLen N := by
      have h1 := bitLen_mul k hN
      have h2 := @words_bits (N * 2 ^ k)
      omega
    have := shift_long a c (words N) k w (by omega) hc (W32_words N) hr (by rw [num_words]; exact h8) (by rw [num_words]; exact hN) (by rw [num_words]; exact hb) (by omega)
    refine this.mono ?_
    rintro e w' ⟨rfl, rfl⟩
    rw [shiftF, shiftE, if_pos h, if_pos h, words_zero]
    exact ⟨none, 0, rfl, Own.none _ _ _, Below.refl _ _⟩
  · have hb : k + bitLen N ≤ 262144 := by
      have h1 := bitLen_mul k hN
      have h2 := @words_bits (N * 2 ^ k)
      omega
    have := shift_up a c (words N) k w (by omega) hc (W32_words N) hr (by rw [num_words]; exact hN) (by rw [num_words]; exact hb)
    rw [num_words] at this
    refine this.mono ?_
    rintro e w' ⟨a', rfl, ho, hb2⟩
    rw [shiftF, shiftE, if_neg h, if_neg h]
    exact ⟨a', _, rfl, ho, hb2⟩

/-- the sum of two forms -/
def addD (p q : D) : Option D :=
  if p.m = 0 then some q else if q.m = 0 then some p
  else if 8192 < (words (p.m * 2 ^ (p.exp - min p.exp q.exp).toNat)).length ∨ 8192 < (words (q.m * 2 ^ (q.exp - min p.exp q.exp).toNat)).length then none
  else if p.neg = q.neg then formF p.neg (p.m * 2 ^ (p.exp - min p.exp q.exp).toNat + q.m * 2 ^ (q.exp - min p.exp q.exp).toNat) (min p.exp q.exp)
  else if p.m * 2 ^ (p.exp - min p.exp q.exp).toNat < q.m * 2 ^ (q.exp - min p.exp q.exp).toNat then formF q.neg (q.m * 2 ^ (q.exp - min p.exp q.exp).toNat - p.m * 2 ^ (p.exp - min p.exp q.exp).toNat) (min p.exp q.exp)
  else formF p.neg (p.m * 2 ^ (p.exp - min p.exp q.exp).toNat - q.m * 2 ^ (q.exp - min p.exp q.exp).toNat) (min p.exp q.exp)
def addO : Option D → Option D → Option D
  | some p, some q => addD p q
  | _, _ => none

set_option maxRecDepth 10000 in
set_option maxHeartbeats 2000000 in
theorem dadd_any (x y : Arg) (w : World) (hx : x.Ok w) (hy : y.Ok w) (hT : Tab w) :
    Calls Tryz.prog 176 #[x.v, y.v] w fun en w' => Came w w' (addO x.F y.F) en := by
  have hF := fun W hw => both_any x y W (hx.grow hw) (hy.grow hw) (hT.grow hw)
  have hTab := fun W hw => hT.grow (w' := W) hw
  obtain ⟨o, ho⟩ : ∃ o, o = x.F := ⟨_, rfl⟩
  obtain ⟨o', ho'⟩ : ∃ o, o = y.F := ⟨_, rfl⟩
  have hok : ∀ p, o = some p → p.Ok := fun p h => formF_ok (by rw [← h, ho]; rfl)
  have hok' : ∀ p, o' = some p → p.Ok := fun p h => formF_ok (by rw [← h, ho']; rfl)
  rw [← ho, ← ho'] at hF ⊢
  have HF := Lib.hid hF; have HTab := Lib.hid hTab; have HOK := Lib.hid hok; have HOK' := Lib.hid hok'; clear hF hx hy ho ho' hT hTab hok hok'
  obtain ⟨s, a, l, c, e⟩ := x
  obtain ⟨s', a', l', c', e'⟩ := y
  simp only [Arg.v] at HF ⊢
  go_enter Tryz.func176, Tryz.ntmps176
  go_wp2_with fail
  (obtain ⟨w1, h1⟩ : ∃ W, W = (w.alloc (.cells #[.bool s, .slice a l.length c, .int .i64 e] 46)) := ⟨_, rfl⟩; have pinEq := h1; (try simp only [wr3] at pinEq); rw [← pinEq]; clear pinEq)
  (obtain ⟨w2, h2⟩ : ∃ W, W = (w1.alloc (.cells #[.bool s', .slice a' l'.length c', .int .i64 e'] 46)) := ⟨_, rfl⟩; have pinEq := h2; (try simp only [wr3] at pinEq); rw [← pinEq]; clear pinEq)
  (obtain ⟨w3, h3⟩ : ∃ W, W = (w2.alloc (.cells #[.bool false, .slice none 0 0, .int .i64 0] 46)) := ⟨_, rfl⟩; have pinEq := h3; (try simp only [wr3] at pinEq); rw [← pinEq]; clear pinEq)
  obtain ⟨-, hB, s1⟩ := new_cel h1 rfl
  obtain ⟨k2, b2, s2⟩ := new_cel h2 s1
  replace hB := below_call b2 hB (by omega)
  obtain ⟨k3, b3, s3⟩ := new_cel h3 s2
  (replace k2 := cel_call b3 k2 (by omega); replace b2 := below_call b3 b2 (by omega); replace hB := below_call b3 hB (by omega))
  clear h1 h2 h3 b2 b3 k2
  refine (HF.out w3 hB).mono ?_; rintro en w4 ⟨v, v', rfl, ⟨a1, c1, rfl, ho1⟩, ⟨a2, c2, rfl, ho2⟩, hb⟩
  (replace k3 := cel_call hb k3 (by omega); replace hB := below_call hb hB (by omega))
  have s4 := hb.size
  clear hb
  simp only [dyV]
  obtain ⟨q95x0x0, q95x0x1, q95x0x2, q95x0x3, q95x0x4, q95x0x5⟩ := Cel.facts k3
  have kA := (k3.alloc (.cells #[.bool (outO o).neg, .slice a1 (words (outO o).m).length c1, .int .i64 (outO o).exp] 46)).alloc (.cells #[.bool (both2 o o').neg, .slice a2 (words (both2 o o').m).length c2, .int .i64 (both2 o o').exp] 46)
  have hBA := (hB.alloc hB.size (.cells #[.bool (outO o).neg, .slice a1 (words (outO o).m).length c1, .int .i64 (outO o).exp] 46)).alloc (by rw [World.size_alloc]; have := hB.size; omega) (.cells #[.bool (both2 o o').neg, .slice a2 (words (both2 o o').m).length c2, .int .i64 (both2 o o').exp] 46)
  have kX := (Cel.new w4 (.bool (outO o).neg) (.slice a1 (words (outO o).m).length c1) (.int .i64 (outO o).exp)).alloc (.cells #[.bool (both2 o o').neg, .slice a2 (words (both2 o o').m).length c2, .int .i64 (both2 o o').exp] 46)
  have kY := Cel.new (w4.alloc (.cells #[.bool (outO o).neg, .slice a1 (words (outO o).m).length c1, .int .i64 (outO o).exp] 46)) (.bool (both2 o o').neg) (.slice a2 (words (both2 o o').m).length c2) (.int .i64 (both2 o o').exp)
  have ho1' := (ho1.grow ((Below.refl _ _).alloc (Nat.le_refl _) (.cells #[.bool (outO o).neg, .slice a1 (words (outO o).m).length c1, .int .i64 (outO o).exp] 46))).grow ((Below.refl _ _).alloc (Nat.le_refl _) (.cells #[.bool (both2 o o').neg, .slice a2 (words (both2 o o').m).length c2, .int .i64 (both2 o o').exp] 46))
  have ho2' := (ho2.grow ((Below.refl _ _).alloc (Nat.le_refl _) (.cells #[.bool (outO o).neg, .slice a1 (words (outO o).m).length c1, .int .i64 (outO o).exp] 46))).grow ((Below.refl _ _).alloc (Nat.le_refl _) (.cells #[.bool (both2 o o').neg, .slice a2 (words (both2 o o').m).length c2, .int .i64 (both2 o o').exp] 46))
  rw [World.size_alloc] at kY
  clear ho1 ho2 k3 hB
  by_cases hno : o = none ∨ o' = none
  · have hE : bothE o o' = 2 := by rcases hno with h | h <;> rw [h] <;> simp [bothE]
    have hA : addO o o' = none := by
      rcases hno with h | h
      · rw [h]; rfl
      · rw [h]; cases o <;> rfl
    rw [hE]
    have HA := Lib.hid hA; clear hno hA hE
    obtain ⟨c0, cc1, cc2, _, _, _⟩ := kA.facts
    go_wp2
    refine bodyPost_ret (v := .tuple #[dyV D.zero none 0, .int .i64 2]) (by simp [results, Tryz.results176, go_sem, dyV, D.zero, words_zero, c0, cc1, cc2]) rfl ?_
    rw [HA.out]
    refine ⟨dyV D.zero none 0, rfl, ⟨none, 0, rfl, ?_⟩, below_wr3 (g := w.heap.size + 1 + 1) hBA (by omega)⟩
    rw [show (outO none).m = 0 from rfl, words_zero]; exact Own.none _ _ _
  obtain ⟨p, rfl⟩ : ∃ p, o = some p := by cases o with | none => simp at hno | some p => exact ⟨p, rfl⟩
  obtain ⟨q, rfl⟩ : ∃ p, o' = some p := by cases o' with | none => simp at hno | some p => exact ⟨p, rfl⟩
  obtain ⟨p1, p2, p3⟩ := HOK.out p rfl
  obtain ⟨q1, q2, q3⟩ := HOK'.out q rfl
  clear HOK HOK' hno
  simp only [outO, both2, bothE, Option.getD, Option.isSome, Option.isNone, Bool.or_false, Bool.false_eq_true, if_false, if_true] at kA hBA kX kY ho1' ho2' ⊢
  by_cases hp0 : p.m = 0
  · have HA : Hid (addO (some p) (some q) = some q) := by show addD p q = some q; rw [addD, if_pos hp0]
    have hw0 : (((words p.m).length : Int) == 0) = true := by rw [hp0, words_zero]; rfl
    have Hp0 := Lib.hid hp0; clear hp0
    obtain ⟨c0, cc1, cc2, _, _, _⟩ := kA.facts
    obtain ⟨_, _, _, _, _, _⟩ := kX.facts
    obtain ⟨_, _, _, _, _, _⟩ := kY.facts
    go_wp2
    refine bodyPost_ret (v := .tuple #[dyV q a2 c2, .int .i64 0]) (by simp [results, Tryz.results176, go_sem, dyV, D.zero, words_zero, c0, cc1, cc2]) rfl ?_
    rw [HA.out]
    refine ⟨dyV q a2 c2, rfl, ⟨a2, c2, rfl, ?_⟩, below_wr3 (g := w.heap.size + 1 + 1) hBA (by omega)⟩
    exact (own_wr3 (g := w.heap.size + 1 + 1) ho2' (by omega)).mono (by omega)
  by_cases hq0 : q.m = 0
  · have HA : Hid (addO (some p) (some q) = some p) := by show addD p q = some p; rw [addD, if_neg hp0, if_pos hq0]
    have hw0 : (((words q.m).length : Int) == 0) = true := by rw [hq0, words_zero]; rfl
    have Hq0 := Lib.hid hq0; clear hq0
    have hp1 : 0 < (words p.m).length := by have := @len_words_zero p.m; omega
    obtain ⟨c0, cc1, cc2, _, _, _⟩ := kA.facts
    obtain ⟨_, _, _, _, _, _⟩ := kX.facts
    obtain ⟨_, _, _, _, _, _⟩ := kY.facts
    go_wp2
    refine bodyPost_ret (v := .tuple #[dyV p a1 c1, .int .i64 0]) (by simp [results, Tryz.results176, go_sem, dyV, D.zero, words_zero, c0, cc1, cc2]) rfl ?_
    rw [HA.out]
    refine ⟨dyV p a1 c1, rfl, ⟨a1, c1, rfl, ?_⟩, below_wr3 (g := w.heap.size + 1 + 1) hBA (by omega)⟩
    exact (own_wr3 (g := w.heap.size + 1 + 1) ho1' (by omega)).mono (by omega)
  have hp1 : 0 < (words p.m).length := by have := @len_words_zero p.m; omega
  have hq1 : 0 < (words q.m).length := by have := @len_words_zero q.m; omega
  obtain ⟨E, hE⟩ : ∃ E, E = min p.exp q.exp := ⟨_, rfl⟩
  obtain ⟨i, hi⟩ : ∃ i, i = (p.exp - E).toNat := ⟨_, rfl⟩
  obtain ⟨j, hj⟩ : ∃ j, j = (q.exp - E).toNat := ⟨_, rfl⟩
  have hi2 : p.exp - E = (i : Int) := by omega
  have hj2 : q.exp - E = (j : Int) := by omega
  have hA : addO (some p) (some q) = if 8192 < (words (p.m * 2 ^ i)).length ∨ 8192 < (words (q.m * 2 ^ j)).length then none
      else if p.neg = q.neg then formF p.neg (p.m * 2 ^ i + q.m * 2 ^ j) E
      else if p.m * 2 ^ i < q.m * 2 ^ j then formF q.neg (q.m * 2 ^ j - p.m * 2 ^ i) E
      else formF p.neg (p.m * 2 ^ i - q.m * 2 ^ j) E := by
    show addD p q = _
    rw [addD, if_neg hp0, if_neg hq0, ← hE, ← hi, ← hj]
  have hcap1 := ho1'.cap
  have hcap2 := ho2'.cap
  have hS1 : ∀ W z, z = p.exp - E → Rd W a1 (words p.m) → Calls Tryz.prog 251 #[.slice a1 (words p.m).length c1, .int .i64 z] W fun e w' => ∃ a' c', e = .returned (.tuple #[.slice a' (words (shiftF p.m i)).length c', .int .i64 (shiftE p.m i)]) ∧ Own w' 118 W.heap.size a' c' (words (shiftF p.m i)) ∧ Below W.heap.size W w' := by
    intro W z hz hr
    rw [hz, hi2]
    exact shift_words a1 c1 p.m i W hcap1 p1 hp0 (by omega) hr
  have hS2 : ∀ W z, z = q.exp - E → Rd W a2 (words q.m) → Calls Tryz.prog 251 #[.slice a2 (words q.m).length c2, .int .i64 z] W fun e w' => ∃ a' c', e = .returned (.tuple #[.slice a' (words (shiftF q.m j)).length c', .int .i64 (shiftE q.m j)]) ∧ Own w' 118 W.heap.size a' c' (words (shiftF q.m j)) ∧ Below W.heap.size W w' := by
    intro W z hz hr
    rw [hz, hj2]
    exact shift_words a2 c2 q.m j W hcap2 q1 hq0 (by omega) hr
  have HA := Lib.hid hA; have HS1 := Lib.hid hS1; have HS2 := Lib.hid hS2; clear hA hS1 hS2 hp0 hq0
  clear hi hj
  obtain ⟨_, _, _, _, _, _⟩ := kA.facts
  obtain ⟨_, _, _, _, _, _⟩ := kX.facts
  obtain ⟨_, _, _, _, _, _⟩ := kY.facts
  rcases (show (p.exp ≤ q.exp ∧ E = p.exp) ∨ (q.exp < p.exp ∧ E = q.exp) by omega) with ⟨hle, hE2⟩ | ⟨hle, hE2⟩
  all_goals
    have HE := Lib.hid hE; have HE2 := Lib.hid hE2; clear hE hE2
    go_wp2_with fail
    obtain ⟨w6, h6⟩ : ∃ W, W = ((w4.alloc (.cells #[.bool p.neg, .slice a1 (words p.m).length c1, .int .i64 p.exp] 46)).alloc (.cells #[.bool q.neg, .slice a2 (words q.m).length c2, .int .i64 q.exp] 46)) := ⟨_, rfl⟩
    have s6 : w6.heap.size = w4.heap.size + 1 + 1 := by rw [h6]; simp
    rw [← h6] at kA hBA kX kY ho1' ho2' ⊢
    clear h6
    refine (HS1.out w6 _ (by have := HE2.out; omega) ho1'.rd).mono ?_
    rintro en w7 ⟨a3, c3, rfl, ho3, hb⟩
    (replace ho2' := own_call hb ho2'; replace ho1' := own_call hb ho1'; replace kY := cel_call hb kY (by omega); replace kX := cel_call hb kX (by omega); replace hBA := below_call hb hBA (by omega); replace kA := cel_call hb kA (by omega))
    have s7 := hb.size
    clear hb
    (clear q95x0x0 q95x0x1 q95x0x2 q95x0x3 q95x0x4 q95x0x5; obtain ⟨q190x0x0, q190x0x1, q190x0x2, q190x0x3, q190x0x4, q190x0x5⟩ := Cel.facts kY; obtain ⟨q190x1x0, q190x1x1, q190x1x2, q190x1x3, q190x1x4, q190x1x5⟩ := Cel.facts kX; obtain ⟨q190x2x0, q190x2x1, q190x2x2, q190x2x3, q190x2x4, q190x2x5⟩ := Cel.facts kA)
    go_wp2_with fail
    refine (HS2.out w7 _ (by have := HE2.out; omega) ho2'.rd).mono ?_
    rintro en w8 ⟨a5, c5, rfl, ho5, hb⟩
    (replace ho3 := own_call hb ho3; replace ho2' := own_call hb ho2'; replace ho1' := own_call hb ho1'; replace kY := cel_call hb kY (by omega); replace kX := cel_call hb kX (by omega); replace hBA := below_call hb hBA (by omega); replace kA := cel_call hb kA (by omega))
    have s8 := hb.size
    clear hb
    (clear q190x0x0 q190x0x1 q190x0x2 q190x0x3 q190x0x4 q190x0x5 q190x1x0 q190x1x1 q190x1x2 q190x1x3 q190x1x4 q190x1x5 q190x2x0 q190x2x1 q190x2x2 q190x2x3 q190x2x4 q190x2x5; obtain ⟨q197x0x0, q197x0x1, q197x0x2, q197x0x3, q197x0x4, q197x0x5⟩ := Cel.facts kY; obtain ⟨q197x1x0, q197x1x1, q197x1x2, q197x1x3, q197x1x4, q197x1x5⟩ := Cel.facts kX; obtain ⟨q197x2x0, q197x2x1, q197x2x2, q197x2x3, q197x2x4, q197x2x5⟩ := Cel.facts kA)
    have hfin : ∀ W v o a c, W.heap.size ≥ 0 → o = addO (some p) (some q) → Below w.heap.size w W → Own W 118 (w.heap.size + 1 + 1 + 1) a c (words (outO o).m) → v = dyV (outO o) a c → Came w W (addO (some p) (some q)) (.returned (.tuple #[v, .int .i64 (errO o)])) := by
      rintro W v o a c - rfl hW ho rfl
      exact ⟨_, rfl, ⟨a, c, rfl, ho.mono (by omega)⟩, hW⟩
    have HFIN := Lib.hid hfin; clear hfin
    rw [s3] at *
    by_cases hlong : 8192 < (words (p.m * 2 ^ i)).length ∨ 8192 < (words (q.m * 2 ^ j)).length
    · have HA2 : Hid (none = addO (some p) (some q)) := by show _ = _; rw [HA.out, if_pos hlong]
      obtain ⟨c0, cc1, cc2, _, _, _⟩ := kA.facts
      by_cases h1 : 8192 < (words (p.m * 2 ^ i)).length
      · have e1 : shiftE p.m i = 2 := by rw [shiftE, if_pos h1]
        rw [e1]
        clear e1 h1 hlong
        go_wp2
        refine bodyPost_ret (v := .tuple #[dyV D.zero none 0, .int .i64 2]) (by simp [results, Tryz.results176, go_sem, dyV, D.zero, words_zero, c0, cc1, cc2]) rfl ?_
        exact HFIN.out _ _ none none 0 (Nat.zero_le _) HA2.out (below_wr3 (g := w.heap.size + 1 + 1) hBA (by omega)) (by rw [show (outO none).m = 0 from rfl, words_zero]; exact Own.none _ _ _) rfl
      · have e1 : shiftE p.m i = 0 := by rw [shiftE, if_neg h1]
        have e2 : shiftE q.m j = 2 := by rw [shiftE, if_pos (by omega)]
        rw [e1, e2]
        clear e1 e2 h1 hlong
        go_wp2
        refine bodyPost_ret (v := .tuple #[dyV D.zero none 0, .int .i64 2]) (by simp [results, Tryz.results176, go_sem, dyV, D.zero, words_zero, c0, cc1, cc2]) rfl ?_
        exact HFIN.out _ _ none none 0 (Nat.zero_le _) HA2.out (below_wr3 (g := w.heap.size + 1 + 1) hBA (by omega)) (by rw [show (outO none).m = 0 from rfl, words_zero]; exact Own.none _ _ _) rfl
    have h1 : ¬ (8192 < (words (p.m * 2 ^ i)).length) := by omega
    have h2 : ¬ (8192 < (words (q.m * 2 ^ j)).length) := by omega
    have e1 : shiftE p.m i = 0 := by rw [shiftE, if_neg h1]
    have e2 : shiftE q.m j = 0 := by rw [shiftE, if_neg h2]
    have e3 : shiftF p.m i = p.m * 2 ^ i := by rw [shiftF, if_neg h1]
    have e4 : shiftF q.m j = q.m * 2 ^ j := by rw [shiftF, if_neg h2]
    have hA3 := HA.out
    rw [if_neg hlong] at hA3
    rw [e3] at ho3
    rw [e4] at ho5
    rw [e1, e2, e3, e4]
    clear e1 e2 e3 e4 HA hlong
    have HA := Lib.hid hA3; clear hA3
    generalize p.m * 2 ^ i = M at *
    generalize q.m * 2 ^ j = N at *
    have hsum := fun W => sum_any a3 a5 c3 c5 (words M) (words N) W (by omega) (by omega) (W32_words M)
    by_cases hs : p.neg = q.neg
    · have hsb : (p.neg == q.neg) = true := by rw [hs]; simp
      rw [if_pos hs] at HA
      have Hs := Lib.hid hs; clear hs
      have hS : ∀ W, Below w8.heap.size w8 W → Calls Tryz.prog 252 #[.slice a3 (words M).length c3, .slice a5 (words N).length c5] W fun e w' => ∃ L, e = .returned (.slice (some ⟨W.heap.size, 0, none⟩) L.length L.length) ∧ Blk w' 118 W.heap.size L ∧ W32 L ∧ num L = M + N ∧ L.length ≤ 8193 ∧ Below W.heap.size W w' := by
        intro W hW
        refine (sum_any a3 a5 c3 c5 (words M) (words N) W (by omega) (by omega) (W32_words M) (ho3.rd.grow hW) (W32_words N) (ho5.rd.grow hW)).mono ?_
        rintro e w' ⟨L, r1, r2, r3, r4, r5, r6⟩
        rw [num_words, num_words] at r4
        exact ⟨L, r1, r2, r3, r4, by omega, r6⟩
      have hFo : ∀ W L g z, W32 L → L.length ≤ 8193 → num L = M + N → z = E → Blk W 118 g L → Below w.heap.size w W → Calls Tryz.prog 236 #[.bool p.neg, .slice (some ⟨g, 0, none⟩) L.length L.length, .int .i64 z] W fun en w' => Came W w' (addO (some p) (some q)) en := by
        intro W L g z r1 r2 r3 rz r4 r5
        have := dform_any p.neg (some ⟨g, 0, none⟩) L.length L z W (by omega) r1 r4.rd (by have := HE.out; omega) (by have := HE.out; omega) (HTab.out W r5)
        rw [r3, rz, ← HA.out] at this
        rw [rz]
        exact this
      have HS := Lib.hid hS; have HFo := Lib.hid hFo; clear hS hFo hsum
      (clear q197x0x0 q197x0x1 q197x0x2 q197x0x3 q197x0x4 q197x0x5 q197x1x0 q197x1x1 q197x1x2 q197x1x3 q197x1x4 q197x1x5 q197x2x0 q197x2x1 q197x2x2 q197x2x3 q197x2x4 q197x2x5; obtain ⟨q253x0x0, q253x0x1, q253x0x2, q253x0x3, q253x0x4, q253x0x5⟩ := Cel.facts kY; obtain ⟨q253x1x0, q253x1x1, q253x1x2, q253x1x3, q253x1x4, q253x1x5⟩ := Cel.facts kX; obtain ⟨q253x2x0, q253x2x1, q253x2x2, q253x2x3, q253x2x4, q253x2x5⟩ := Cel.facts kA)
      go_wp2_with fail
      go_region_with (first
        | (go_at_call 252; refine (HS.out _ (Below.refl _ _).drew).mono ?_; rintro en w9 ⟨L, rfl, hbl, hW9, hn9, hl9, hb9⟩; have kX9 := kX.below (below_drewN (n := 1) hb9) (by have := kX.lt; simpa using this); obtain ⟨_, _, _, _, _, _⟩ := kX9.facts; have HW9 := Lib.hid hW9; have HN9 := Lib.hid hn9)
        | (go_at_call 236; refine (HFo.out _ _ _ _ HW9.out hl9 HN9.out HE2.out.symm hbl (hBA.trans ((below_drewN (n := 1) hb9).mono (by simp; omega)))).mono ?_; rintro en w10 ⟨v, rfl, ⟨a6, c6, rfl, ho6⟩, hb10⟩; have kA9 := kA.below (below_drewN (n := 1) hb9) (by have := kA.lt; simpa using this); have kA10 := kA9.below hb10 kA9.lt; obtain ⟨_, _, _, _, _, _⟩ := kA10.facts; simp only [dyV]))
      all_goals
        go_wp2
        have z9 := hb9.size
        have z10 := hb10.size
        simp only [World.size_drew] at z9 z10
        obtain ⟨c0, cc1, cc2, _, _, _⟩ := kA10.facts
        refine bodyPost_ret (v := .tuple #[dyV (outO (addO (some p) (some q))) a6 c6, .int .i64 (errO (addO (some p) (some q)))]) (by simp [results, Tryz.results176, go_sem, dyV, c0, cc1, cc2]) rfl ?_
        have hbz : Below w.heap.size w w10 := (hBA.trans ((below_drewN (n := 1) hb9).mono (by simp; omega))).trans (hb10.mono (by omega))
        exact HFIN.out _ _ _ a6 c6 (Nat.zero_le _) rfl (below_wr3 (g := w.heap.size + 1 + 1) hbz (by omega)) (own_wr3 (g := w.heap.size + 1 + 1) (ho6.mono (by omega)) (by omega)) rfl
    have hsb : (p.neg == q.neg) = false := by simp [hs]
    rw [if_neg hs] at HA
    have Hs := Lib.hid hs; clear hs hsum
    have hC := cmp_any a3 a5 c3 c5 (words M) (words N) w8 (by omega) ho3.cap (W32_words M) ho3.rd (by omega) ho5.cap (W32_words N) ho5.rd
    rw [num_words, num_words] at hC
    have HC := Lib.hid hC; clear hC
    (clear q197x0x0 q197x0x1 q197x0x2 q197x0x3 q197x0x4 q197x0x5 q197x1x0 q197x1x1 q197x1x2 q197x1x3 q197x1x4 q197x1x5 q197x2x0 q197x2x1 q197x2x2 q197x2x3 q197x2x4 q197x2x5; obtain ⟨q273x0x0, q273x0x1, q273x0x2, q273x0x3, q273x0x4, q273x0x5⟩ := Cel.facts kY; obtain ⟨q273x1x0, q273x1x1, q273x1x2, q273x1x3, q273x1x4, q273x1x5⟩ := Cel.facts kX; obtain ⟨q273x2x0, q273x2x1, q273x2x2, q273x2x3, q273x2x4, q273x2x5⟩ := Cel.facts kA)
    by_cases hlt : M < N
    · rw [if_pos hlt] at HA
      have hcm := cmpN_lt hlt
      rw [hcm] at HC
      clear hcm
      have hSub : ∀ W, Rd W a5 (words N) → Rd W a3 (words M) → Calls Tryz.prog 254 #[.slice a5 (words N).length c5, .slice a3 (words M).length c3] W fun e w' => ∃ a', e = .returned (.tuple #[.slice a' (words (N - M)).length (words (N - M)).length, .int .i64 0]) ∧ Own w' 118 W.heap.size a' (words (N - M)).length (words (N - M)) ∧ Below W.heap.size W w' := by
        intro W r1 r2
        have := wsub_any a5 a3 c5 c3 (words N) (words M) W (by omega) ho5.cap (W32_words N) r1 (by omega) ho3.cap (W32_words M) r2 (by rw [num_words]; omega) (by rw [num_words]; omega) (by rw [num_words, num_words]; omega)
        rw [num_words, num_words] at this
        exact this
      have hFo : ∀ W a6 c6 z base, z = E → Own W 118 base a6 c6 (words (N - M)) → Below w.heap.size w W → Calls Tryz.prog 236 #[.bool q.neg, .slice a6 (words (N - M)).length c6, .int .i64 z] W fun en w' => Came W w' (addO (some p) (some q)) en := by
        intro W a6 c6 z base rz r4 r5
        have hl : (words (N - M)).length ≤ 8192 := by have := words_len_of_le (show N - M ≤ N by omega); omega
        have := dform_any q.neg a6 c6 (words (N - M)) z W (by omega) (W32_words _) r4.rd (by have := HE.out; omega) (by have := HE.out; omega) (HTab.out W r5)
        rw [num_words, rz, ← HA.out] at this
        rw [rz]
        exact this
      have HSub := Lib.hid hSub; have HFo := Lib.hid hFo; clear hSub hFo
      go_wp2_with fail
      refine HC.out.mono ?_
      rintro en w9 ⟨rfl, n9, hw9⟩
      have s9 : w9.heap.size = w8.heap.size := by rw [hw9]; rfl
      (replace ho2' := own_drewN_eq hw9 ho2'; replace ho1' := own_drewN_eq hw9 ho1'; replace kY := cel_drewN_eq hw9 kY; replace kX := cel_drewN_eq hw9 kX; replace hBA := below_drewN_eq hw9 hBA; replace kA := cel_drewN_eq hw9 kA; replace ho3 := own_drewN_eq hw9 ho3; replace ho5 := own_drewN_eq hw9 ho5); clear hw9; (clear q273x0x0 q273x0x1 q273x0x2 q273x0x3 q273x0x4 q273x0x5 q273x1x0 q273x1x1 q273x1x2 q273x1x3 q273x1x4 q273x1x5 q273x2x0 q273x2x1 q273x2x2 q273x2x3 q273x2x4 q273x2x5; obtain ⟨q296x0x0, q296x0x1, q296x0x2, q296x0x3, q296x0x4, q296x0x5⟩ := Cel.facts kY; obtain ⟨q296x1x0, q296x1x1, q296x1x2, q296x1x3, q296x1x4, q296x1x5⟩ := Cel.facts kX; obtain ⟨q296x2x0, q296x2x1, q296x2x2, q296x2x3, q296x2x4, q296x2x5⟩ := Cel.facts kA)
      go_wp2_with fail
      (obtain ⟨w10, h10⟩ : ∃ W, W = (wr3 w9 w4.heap.size (.bool q.neg) (.slice a2 (words q.m).length c2) (.int .i64 q.exp)) := ⟨_, rfl⟩; have pinEq := h10; (try simp only [wr3] at pinEq); rw [← pinEq]; clear pinEq)
      (replace kY := cel_wr_ne h10 kY (by omega); replace kX := cel_wr_same h10 kX; replace hBA := below_wr h10 hBA (by omega); replace kA := cel_wr_ne h10 kA (by omega); replace ho3 := own_wr h10 ho3 (by omega); replace ho5 := own_wr h10 ho5 (by omega))
      have s10 := size_wr h10
      clear h10; (clear q296x0x0 q296x0x1 q296x0x2 q296x0x3 q296x0x4 q296x0x5 q296x1x0 q296x1x1 q296x1x2 q296x1x3 q296x1x4 q296x1x5 q296x2x0 q296x2x1 q296x2x2 q296x2x3 q296x2x4 q296x2x5; obtain ⟨q301x0x0, q301x0x1, q301x0x2, q301x0x3, q301x0x4, q301x0x5⟩ := Cel.facts kY; obtain ⟨q301x1x0, q301x1x1, q301x1x2, q301x1x3, q301x1x4, q301x1x5⟩ := Cel.facts kX; obtain ⟨q301x2x0, q301x2x1, q301x2x2, q301x2x3, q301x2x4, q301x2x5⟩ := Cel.facts kA)
      refine (HSub.out _ ho5.rd ho3.rd).mono ?_
      rintro en w11 ⟨a6, rfl, ho6, hb⟩
      (replace kY := cel_call hb kY (by omega); replace kX := cel_call hb kX (by omega); replace hBA := below_call hb hBA (by omega); replace kA := cel_call hb kA (by omega); replace ho3 := own_call hb ho3; replace ho5 := own_call hb ho5)
      have s11 := hb.size
      clear hb; (clear q301x0x0 q301x0x1 q301x0x2 q301x0x3 q301x0x4 q301x0x5 q301x1x0 q301x1x1 q301x1x2 q301x1x3 q301x1x4 q301x1x5 q301x2x0 q301x2x1 q301x2x2 q301x2x3 q301x2x4 q301x2x5; obtain ⟨q306x0x0, q306x0x1, q306x0x2, q306x0x3, q306x0x4, q306x0x5⟩ := Cel.facts kY; obtain ⟨q306x1x0, q306x1x1, q306x1x2, q306x1x3, q306x1x4, q306x1x5⟩ := Cel.facts kX; obtain ⟨q306x2x0, q306x2x1, q306x2x2, q306x2x3, q306x2x4, q306x2x5⟩ := Cel.facts kA)
      go_wp2_with fail
      refine (HFo.out _ _ _ _ _ (by have := HE2.out; omega) ho6 hBA).mono ?_
      rintro en w12 ⟨v, rfl, ⟨a7, c7, rfl, ho7⟩, hb⟩
      (replace ho6 := own_call hb ho6; replace kY := cel_call hb kY (by omega); replace kX := cel_call hb kX (by omega); replace hBA := below_call hb hBA (by omega); replace kA := cel_call hb kA (by omega); replace ho3 := own_call hb ho3; replace ho5 := own_call hb ho5)
      have s12 := hb.size
      clear hb; (clear q306x0x0 q306x0x1 q306x0x2 q306x0x3 q306x0x4 q306x0x5 q306x1x0 q306x1x1 q306x1x2 q306x1x3 q306x1x4 q306x1x5 q306x2x0 q306x2x1 q306x2x2 q306x2x3 q306x2x4 q306x2x5; obtain ⟨q312x0x0, q312x0x1, q312x0x2, q312x0x3, q312x0x4, q312x0x5⟩ := Cel.facts kY; obtain ⟨q312x1x0, q312x1x1, q312x1x2, q312x1x3, q312x1x4, q312x1x5⟩ := Cel.facts kX; obtain ⟨q312x2x0, q312x2x1, q312x2x2, q312x2x3, q312x2x4, q312x2x5⟩ := Cel.facts kA)
      simp only [dyV]
      go_wp2
      obtain ⟨c0, cc1, cc2, _, _, _⟩ := kA.facts
      refine bodyPost_ret (v := .tuple #[dyV (outO (addO (some p) (some q))) a7 c7, .int .i64 (errO (addO (some p) (some q)))]) (by simp [results, Tryz.results176, go_sem, dyV, c0, cc1, cc2]) rfl ?_
      exact HFIN.out _ _ _ a7 c7 (Nat.zero_le _) rfl (below_wr3 (g := w.heap.size + 1 + 1) hBA (by omega)) (own_wr3 (g := w.heap.size + 1 + 1) (ho7.mono (by omega)) (by omega)) rfl
    · rw [if_neg hlt] at HA
      obtain ⟨z, hz⟩ : ∃ z, z = cmpN M N := ⟨_, rfl⟩
      have hz2 : ¬ z < 0 := by rw [hz, cmpN_neg]; exact hlt
      have hz3 : z ≤ 1 := by rw [hz]; exact cmpN_hi _ _
      rw [← hz] at HC
      clear hz
      have hSub : ∀ W, Rd W a3 (words M) → Rd W a5 (words N) → Calls Tryz.prog 254 #[.slice a3 (words M).length c3, .slice a5 (words N).length c5] W fun e w' => ∃ a', e = .returned (.tuple #[.slice a' (words (M - N)).length (words (M - N)).length, .int .i64 0]) ∧ Own w' 118 W.heap.size a' (words (M - N)).length (words (M - N)) ∧ Below W.heap.size W w' := by
        intro W r1 r2
        have := wsub_any a3 a5 c3 c5 (words M) (words N) W (by omega) ho3.cap (W32_words M) r1 (by omega) ho5.cap (W32_words N) r2 (by rw [num_words]; omega) (by rw [num_words]; omega) (by rw [num_words, num_words]; omega)
        rw [num_words, num_words] at this
        exact this
      have hFo : ∀ W a6 c6 z base, z = E → Own W 118 base a6 c6 (words (M - N)) → Below w.heap.size w W → Calls Tryz.prog 236 #[.bool p.neg, .slice a6 (words (M - N)).length c6, .int .i64 z] W fun en w' => Came W w' (addO (some p) (some q)) en := by
        intro W a6 c6 z base rz r4 r5
        have hl : (words (M - N)).length ≤ 8192 := by have := words_len_of_le (show M - N ≤ M by omega); omega
        have := dform_any p.neg a6 c6 (words (M - N)) z W (by omega) (W32_words _) r4.rd (by have := HE.out; omega) (by have := HE.out; omega) (HTab.out W r5)
        rw [num_words, rz, ← HA.out] at this
        rw [rz]
        exact this
      have HSub := Lib.hid hSub; have HFo := Lib.hid hFo; clear hSub hFo
      go_wp2_with fail
      refine HC.out.mono ?_
      rintro en w9 ⟨rfl, n9, hw9⟩
      have s9 : w9.heap.size = w8.heap.size := by rw [hw9]; rfl
      (replace ho2' := own_drewN_eq hw9 ho2'; replace ho1' := own_drewN_eq hw9 ho1'; replace kY := cel_drewN_eq hw9 kY; replace kX := cel_drewN_eq hw9 kX; replace hBA := below_drewN_eq hw9 hBA; replace kA := cel_drewN_eq hw9 kA; replace ho3 := own_drewN_eq hw9 ho3; replace ho5 := own_drewN_eq hw9 ho5); clear hw9; (clear q273x0x0 q273x0x1 q273x0x2 q273x0x3 q273x0x4 q273x0x5 q273x1x0 q273x1x1 q273x1x2 q273x1x3 q273x1x4 q273x1x5 q273x2x0 q273x2x1 q273x2x2 q273x2x3 q273x2x4 q273x2x5; obtain ⟨q341x0x0, q341x0x1, q341x0x2, q341x0x3, q341x0x4, q341x0x5⟩ := Cel.facts kY; obtain ⟨q341x1x0, q341x1x1, q341x1x2, q341x1x3, q341x1x4, q341x1x5⟩ := Cel.facts kX; obtain ⟨q341x2x0, q341x2x1, q341x2x2, q341x2x3, q341x2x4, q341x2x5⟩ := Cel.facts kA)
      go_wp2_with fail
      refine (HSub.out _ ho3.rd ho5.rd).mono ?_
      rintro en w11 ⟨a6, rfl, ho6, hb⟩
      (replace ho2' := own_call hb ho2'; replace ho1' := own_call hb ho1'; replace kY := cel_call hb kY (by omega); replace kX := cel_call hb kX (by omega); replace hBA := below_call hb hBA (by omega); replace kA := cel_call hb kA (by omega); replace ho3 := own_call hb ho3; replace ho5 := own_call hb ho5)
      have s11 := hb.size
      clear hb; (clear q341x0x0 q341x0x1 q341x0x2 q341x0x3 q341x0x4 q341x0x5 q341x1x0 q341x1x1 q341x1x2 q341x1x3 q341x1x4 q341x1x5 q341x2x0 q341x2x1 q341x2x2 q341x2x3 q341x2x4 q341x2x5; obtain ⟨q347x0x0, q347x0x1, q347x0x2, q347x0x3, q347x0x4, q347x0x5⟩ := Cel.facts kY; obtain ⟨q347x1x0, q347x1x1, q347x1x2, q347x1x3, q347x1x4, q347x1x5⟩ := Cel.facts kX; obtain ⟨q347x2x0, q347x2x1, q347x2x2, q347x2x3, q347x2x4, q347x2x5⟩ := Cel.facts kA)
      go_wp2_with fail
      refine (HFo.out _ _ _ _ _ (by have := HE2.out; omega) ho6 hBA).mono ?_
      rintro en w12 ⟨v, rfl, ⟨a7, c7, rfl, ho7⟩, hb⟩
      (replace ho6 := own_call hb ho6; replace ho2' := own_call hb ho2'; replace ho1' := own_call hb ho1'; replace kY := cel_call hb kY (by omega); replace kX := cel_call hb kX (by omega); replace hBA := below_call hb hBA (by omega); replace kA := cel_call hb kA (by omega); replace ho3 := own_call hb ho3; replace ho5 := own_call hb ho5)
      have s12 := hb.size
      clear hb; (clear q347x0x0 q347x0x1 q347x0x2 q347x0x3 q347x0x4 q347x0x5 q347x1x0 q347x1x1 q347x1x2 q347x1x3 q347x1x4 q347x1x5 q347x2x0 q347x2x1 q347x2x2 q347x2x3 q347x2x4 q347x2x5; obtain ⟨q353x0x0, q353x0x1, q353x0x2, q353x0x3, q353x0x4, q353x0x5⟩ := Cel.facts kY; obtain ⟨q353x1x0, q353x1x1, q353x1x2, q353x1x3, q353x1x4, q353x1x5⟩ := Cel.facts kX; obtain ⟨q353x2x0, q353x2x1, q353x2x2, q353x2x3, q353x2x4, q353x2x5⟩ := Cel.facts kA)
      simp only [dyV]
      go_wp2
      obtain ⟨c0, cc1, cc2, _, _, _⟩ := kA.facts
      refine bodyPost_ret (v := .tuple #[dyV (outO (addO (some p) (some q))) a7 c7, .int .i64 (errO (addO (some p) (some q)))]) (by simp [results, Tryz.results176, go_sem, dyV, c0, cc1, cc2]) rfl ?_
      exact HFIN.out _ _ _ a7 c7 (Nat.zero_le _) rfl (below_wr3 (g := w.heap.size + 1 + 1) hBA (by omega)) (own_wr3 (g := w.heap.size + 1 + 1) (ho7.mono (by omega)) (by omega)) rfl
end Go.Proofs.YteahdgbokjbgcaaGreatDoor
