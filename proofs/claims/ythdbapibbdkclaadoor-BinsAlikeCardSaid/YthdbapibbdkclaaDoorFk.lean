/- How far a sum of numbers may be off, in whatever order its steps are grouped. No statement of the seat is proved here. -/
import Derived.Test.YthdbapibbdkclaaDoorProg
import Derived.Test.YthdbapibbdkclaaDoorFj
namespace Go.Proofs.YthdbapibbdkclaaDoor
open Go.RowKit
set_option linter.unusedVariables false
set_option linter.unusedSimpArgs false

theorem near_err {X k r : Nat} {neg : Bool} (h : IsBelow 52 9218868437227405312 0 X k) (hr : r = nearK 52 0 X 0 neg k) (hlt : r < 9218868437227405312) :
    ∃ e : Nat, (numV 52 r = X + e ∨ X = numV 52 r + e) ∧ 9007199254740992 * e ≤ X ∧ ∀ j, j < 9218868437227405312 → X + e ≤ numV 52 j ∨ numV 52 j + e ≤ X := by
  have hle := h.le
  have hhi := h.nx
  have hk := h.lt
  have hst := numV_step 52 k
  simp only [Nat.pow_zero, Nat.mul_one] at hle hhi
  unfold nearK at hr
  simp only [Nat.pow_zero, Nat.mul_one] at hr
  by_cases hx : numV 52 k = X
  · rw [if_pos hx] at hr
    subst hr
    exact ⟨0, .inl hx, by omega, fun j _ => by omega⟩
  · rw [if_neg hx] at hr
    have hlt' : numV 52 k < X := by omega
    have hbase : ∀ (hb : X < numV 52 (k + 1)), 0 < numE 52 k ∧ 4503599627370496 * 2 ^ numE 52 k ≤ numV 52 k := by
      intro hb
      have h0 : numE 52 k ≠ 0 := by
        intro h0
        rw [h0] at hst
        omega
      refine ⟨by omega, ?_⟩
      have hne : k / 2 ^ 52 ≠ 0 := by
        intro h1; apply h0; unfold numE; rw [h1]
      unfold numV
      refine Nat.mul_le_mul_right _ ?_
      unfold numM
      rw [if_neg hne, show (2 : Nat) ^ 52 = 4503599627370496 from rfl]
      omega
    have hmono : ∀ j, numV 52 j ≤ numV 52 k ∨ numV 52 (k + 1) ≤ numV 52 j := by
      intro j
      rcases Nat.lt_or_ge k j with h1 | h1
      · exact .inr (numV_le h1)
      · exact .inl (numV_le h1)
    unfold onK at hr
    rw [if_pos rfl] at hr
    generalize hg : cmpN (2 * X) (numV 52 k + numV 52 (k + 1)) = g at hr
    by_cases hg0 : 0 < g
    · -- up
      rw [decide_eq_true hg0, Bool.true_or, if_pos rfl] at hr
      have hX : X < numV 52 (k + 1) := by
        rcases hhi with h1 | h1
        · rw [hr] at hlt; omega
        · exact h1
      obtain ⟨b1, b2⟩ := hbase hX
      have h2 : numV 52 k + numV 52 (k + 1) < 2 * X := by
        unfold cmpN at hg
        split at hg
        · omega
        · split at hg
          · omega
          · omega
      refine ⟨numV 52 (k + 1) - X, .inl (by rw [hr]; omega), by omega, fun j hj => ?_⟩
      rcases hmono j with h3 | h3 <;> omega
    · by_cases hg1 : g = 0 ∧ k % 2 = 1
      · rw [decide_eq_false hg0, decide_eq_true hg1.1, decide_eq_true hg1.2] at hr
        simp only [Bool.false_or, Bool.and_self, if_true] at hr
        have hX : X < numV 52 (k + 1) := by
          rcases hhi with h1 | h1
          · rw [hr] at hlt; omega
          · exact h1
        obtain ⟨b1, b2⟩ := hbase hX
        have h2 : numV 52 k + numV 52 (k + 1) = 2 * X := by
          have := hg1.1
          unfold cmpN at hg
          split at hg
          · omega
          · split at hg
            · omega
            · omega
        refine ⟨numV 52 (k + 1) - X, .inl (by rw [hr]; omega), by omega, fun j hj => ?_⟩
        rcases hmono j with h3 | h3 <;> omega
      · have hfalse : (decide (0 < g) || decide (g = 0) && decide (k % 2 = 1)) = false := by
          rw [decide_eq_false hg0, Bool.false_or]
          by_cases h1 : g = 0
          · rw [decide_eq_false (show ¬ k % 2 = 1 from fun h2 => hg1 ⟨h1, h2⟩), Bool.and_false]
          · rw [decide_eq_false h1]; rfl
        rw [hfalse, if_neg (by decide)] at hr
        have h2 : 2 * X ≤ numV 52 k + numV 52 (k + 1) := by
          unfold cmpN at hg
          split at hg
          · omega
          · split at hg
            · omega
            · omega
        have hX : X < numV 52 (k + 1) := by omega
        obtain ⟨b1, b2⟩ := hbase hX
        refine ⟨X - numV 52 k, .inr (by rw [hr]; omega), by omega, fun j hj => ?_⟩
        rcases hmono j with h3 | h3 <;> omega
/-- the error of a step -/
theorem add_err {x y : Nat} (hbx : x < 18446744073709551616) (hby : y < 18446744073709551616) (hx : x % 9223372036854775808 < 9218868437227405312) (hy : y % 9223372036854775808 < 9218868437227405312) (hz : addC x y % 9223372036854775808 < 9218868437227405312) :
    9007199254740992 * (fV (addC x y) - (fV x + fV y)).natAbs ≤ (fV x + fV y).natAbs ∧ (fV (addC x y) - (fV x + fV y)).natAbs ≤ (fV x).natAbs ∧ (fV (addC x y) - (fV x + fV y)).natAbs ≤ (fV y).natAbs := by
  obtain ⟨c1, c2⟩ := addC_fin hbx hby hx hy
  obtain ⟨d, h1, h2, h3, h4⟩ := addO_fV hx hy
  obtain ⟨T, hT⟩ : ∃ T, T = fV x + fV y := ⟨_, rfl⟩
  have hax : (fV x).natAbs = numV 52 (x % 9223372036854775808) := by unfold fV; rw [sgn_abs]
  have hay : (fV y).natAbs = numV 52 (y % 9223372036854775808) := by unfold fV; rw [sgn_abs]
  by_cases h0 : T = 0
  · have h5 := c1 (by omega)
    have h6 : fV (addC x y) = 0 := by rw [h5]; split <;> exact fV_zero (by decide)
    rw [h6, ← hT, h0]; simp
  · have hR := c2 d h2 h4 h3 (by omega)
    rcases hR with ⟨hm, _⟩ | ⟨_, hR⟩
    · omega
    rcases hR with ⟨hn, _⟩ | ⟨d', k, hd, ⟨k', hk1, hk2⟩, hr, _⟩
    · cases hn
    cases hd
    have hX : sx (-1074) d.m d.exp = T.natAbs := by
      unfold sx
      rw [show min (-1074 : Int) d.exp = -1074 by omega, z_abs h4, h3, hT]
    have hc : sc (-1074) d.exp = 0 := by unfold sc; omega
    rw [hX, hc] at hk1 hk2
    have hkle := hk1.lt
    have hkE : k ≤ 9218868437227405312 := by
      rw [hk2]; unfold nearK
      split
      · omega
      · split <;> omega
    have hneg : d.neg = decide (T < 0) := by
      have hz2 := h3
      rw [← hT] at hz2
      unfold D.z at hz2
      have hp := Nat.two_pow_pos (d.exp - -1074).toNat
      have hm : (0 : Int) ≤ ((d.m : Nat) : Int) * ((2 ^ (d.exp - -1074).toNat : Nat) : Int) := Int.mul_nonneg (by omega) (by omega)
      unfold sgn at hz2
      cases hdn : d.neg with
      | true =>
        rw [hdn] at hz2
        simp only [if_true] at hz2
        rw [Int.neg_mul] at hz2
        rw [decide_eq_true (by omega)]
      | false =>
        rw [hdn] at hz2
        simp only [Bool.false_eq_true, if_false] at hz2
        rw [decide_eq_false (by omega)]
    have hmod : addC x y % 9223372036854775808 = k := by
      rw [hr]; split <;> omega
    have hsg : decide (9223372036854775808 ≤ addC x y) = decide (T < 0) := by
      rw [← hneg, hr]
      cases d.neg
      · rw [decide_eq_false (by simp; omega)]
      · rw [decide_eq_true (by simp)]
    rw [hmod] at hz
    obtain ⟨e, he1, he2, he3⟩ := near_err hk1 hk2 hz
    have hV : fV (addC x y) = sgn (decide (T < 0)) (numV 52 k) := by unfold fV; rw [hmod, hsg]
    have hE : (fV (addC x y) - T).natAbs = e := by
      rw [hV]
      unfold sgn
      by_cases q : T < 0
      · rw [decide_eq_true q]; simp only [if_true]; omega
      · rw [decide_eq_false q]; simp only [Bool.false_eq_true, if_false]; omega
    rw [← hT, hE]
    refine ⟨he2, ?_, ?_⟩
    · have h5 := he3 _ hy
      rw [← hay] at h5
      omega
    · have h5 := he3 _ hx
      rw [← hax] at h5
      omega
/-- what is finite came of what is finite -/
theorem addC_inv {x y : Nat} (hbx : x < 18446744073709551616) (hby : y < 18446744073709551616) (hz : addC x y % 9223372036854775808 < 9218868437227405312) : x % 9223372036854775808 < 9218868437227405312 ∧ y % 9223372036854775808 < 9218868437227405312 := by
  have hnan : ¬ nan64 % 9223372036854775808 < 9218868437227405312 := by have := nan64_nan; omega
  have hinf : ∀ s, ¬ Ieee.double.write (.infinity s) % 9223372036854775808 < 9218868437227405312 := by intro s; cases s <;> decide
  have key : ∀ o : Option Ieee.Datum, (o = none ∨ ∃ s, o = some (.infinity s)) → ¬ (match o.map Ieee.double.write with | some r => r | none => nan64) % 9223372036854775808 < 9218868437227405312 := by
    rintro o (rfl | ⟨s, rfl⟩)
    · exact hnan
    · exact hinf s
  constructor
  · apply Decidable.byContradiction
    intro hx
    apply absurd hz
    by_cases h1 : 9218868437227405312 < x % 9223372036854775808
    · rw [addC_none (add_none_l h1)]; exact hnan
    · have hr := read_inf hbx (by omega)
      unfold addC Ieee.Format.add
      rw [hr]
      refine key _ ?_
      cases Ieee.double.read y with
      | nan => exact .inl rfl
      | infinity t => unfold Ieee.Datum.sum; dsimp only; split; exact .inr ⟨_, rfl⟩; exact .inl rfl
      | number => exact .inr ⟨_, rfl⟩
  · apply Decidable.byContradiction
    intro hy
    apply absurd hz
    by_cases h1 : 9218868437227405312 < y % 9223372036854775808
    · rw [addC_none (add_none_r h1)]; exact hnan
    · have hr := read_inf hby (by omega)
      unfold addC Ieee.Format.add
      rw [hr]
      refine key _ ?_
      cases Ieee.double.read x with
      | nan => exact .inl rfl
      | infinity t => unfold Ieee.Datum.sum; dsimp only; split; exact .inr ⟨_, rfl⟩; exact .inl rfl
      | number => exact .inr ⟨_, rfl⟩

/-- a sum of n numbers, whose exact sum is S and whose sizes come to A -/
structure Bd (n v : Nat) (S : Int) (A : Nat) : Prop where
  lt : v < 18446744073709551616
  pos : 1 ≤ n
  le : S.natAbs ≤ A
  err : v % 9223372036854775808 < 9218868437227405312 → 9007199254740992 * (fV v - S).natAbs ≤ (n - 1) * A
theorem bd_one {x : Nat} (hx : x < 18446744073709551616) : Bd 1 x (fV x) (fV x).natAbs := ⟨hx, Nat.le_refl _, Nat.le_refl _, fun _ => by simp⟩
theorem bd_arith {P m k A1 A2 e1 e2 d ax ay at' : Nat} (hP : P = 9007199254740992) (h1 : P * e1 ≤ m * A1) (h2 : P * e2 ≤ k * A2) (hx : ax ≤ A1 + e1) (hy : ay ≤ A2 + e2) (ht : at' ≤ ax + ay) (d1 : P * d ≤ at') (d2 : d ≤ ax) (d3 : d ≤ ay) :
    P * (d + e1 + e2) ≤ (m + k + 1) * (A1 + A2) := by
  have e : (m + k + 1) * (A1 + A2) = m * A1 + k * A2 + (m * A2 + A2 + (k * A1 + A1)) := by
    rw [Nat.add_mul, Nat.add_mul, Nat.mul_add, Nat.mul_add, Nat.one_mul]; omega
  have key : P * d ≤ m * A2 + A2 + (k * A1 + A1) := by
    by_cases c1 : P * A2 ≤ A1
    · have q1 : P * d ≤ P * A2 + P * e2 := by rw [← Nat.mul_add]; exact Nat.mul_le_mul_left _ (by omega)
      have q2 : k * A2 ≤ k * A1 := Nat.mul_le_mul_left _ (by subst hP; omega)
      omega
    · by_cases c2 : P * A1 ≤ A2
      · have q1 : P * d ≤ P * A1 + P * e1 := by rw [← Nat.mul_add]; exact Nat.mul_le_mul_left _ (by omega)
        have q2 : m * A1 ≤ m * A2 := Nat.mul_le_mul_left _ (by subst hP; omega)
        omega
      · have q1 : m * A1 ≤ m * (P * A2) := Nat.mul_le_mul_left _ (by omega)
        have q2 : k * A2 ≤ k * (P * A1) := Nat.mul_le_mul_left _ (by omega)
        rw [Nat.mul_left_comm] at q1 q2
        have q3 : e1 ≤ m * A2 := Nat.le_of_mul_le_mul_left (Nat.le_trans h1 q1) (by subst hP; decide)
        have q4 : e2 ≤ k * A1 := Nat.le_of_mul_le_mul_left (Nat.le_trans h2 q2) (by subst hP; decide)
        omega
  rw [e, Nat.mul_add, Nat.mul_add]
  omega
theorem bd_add {m k x y : Nat} {S1 S2 : Int} {A1 A2 : Nat} (hx : Bd m x S1 A1) (hy : Bd k y S2 A2) : Bd (m + k) (addC x y) (S1 + S2) (A1 + A2) := by
  refine ⟨addC_lt _ _, by have := hx.pos; omega, by have := hx.le; have := hy.le; omega, fun hz => ?_⟩
  obtain ⟨fx, fy⟩ := addC_inv hx.lt hy.lt hz
  obtain ⟨a1, a2, a3⟩ := add_err hx.lt hy.lt fx fy hz
  have b1 := hx.err fx
  have b2 := hy.err fy
  have c1 := hx.le
  have c2 := hy.le
  have p1 := hx.pos
  have p2 := hy.pos
  obtain ⟨m', rfl⟩ : ∃ m', m = m' + 1 := ⟨m - 1, by omega⟩
  obtain ⟨k', rfl⟩ : ∃ k', k = k' + 1 := ⟨k - 1, by omega⟩
  rw [Nat.add_sub_cancel] at b1 b2
  have h := bd_arith (P := 9007199254740992) (m := m') (k := k') (A1 := A1) (A2 := A2) (e1 := (fV x - S1).natAbs) (e2 := (fV y - S2).natAbs) (d := (fV (addC x y) - (fV x + fV y)).natAbs) (ax := (fV x).natAbs) (ay := (fV y).natAbs) (at' := (fV x + fV y).natAbs) rfl b1 b2 (by omega) (by omega) (by omega) a1 a2 a3
  rw [show m' + 1 + (k' + 1) - 1 = m' + k' + 1 by omega]
  refine Nat.le_trans (Nat.mul_le_mul_left _ ?_) h
  omega

/-- sums of values -/
def sF (l : List Nat) : Int := sumI (l.map fV)
def aF (l : List Nat) : Nat := absI (l.map fV)
theorem sF_append (l m : List Nat) : sF (l ++ m) = sF l + sF m := by unfold sF; rw [List.map_append, sumI_append]
theorem aF_append (l m : List Nat) : aF (l ++ m) = aF l + aF m := by unfold aF; rw [List.map_append, absI_append]
theorem sF_one (x : Nat) : sF [x] = fV x := by unfold sF; show fV x + 0 = _; omega
theorem aF_one (x : Nat) : aF [x] = (fV x).natAbs := by unfold aF; show (fV x).natAbs + 0 = _; omega
def FinL (l : List Nat) : Prop := ∀ x ∈ l, x < 18446744073709551616 ∧ x % 9223372036854775808 < 9218868437227405312
theorem FinL.take {l : List Nat} (h : FinL l) (k : Nat) : FinL (l.take k) := fun x hx => h x (List.mem_of_mem_take hx)
theorem FinL.drop {l : List Nat} (h : FinL l) (k : Nat) : FinL (l.drop k) := fun x hx => h x (List.mem_of_mem_drop hx)
theorem runC_snoc {l : List Nat} (h : l ≠ []) (y : Nat) : runC (l ++ [y]) = addC (runC l) y := by
  cases l with
  | nil => exact absurd rfl h
  | cons x l => show (l ++ [y]).foldl addC (canon x) = _; rw [List.foldl_append]; rfl
theorem bd_fold (l : List Nat) : ∀ {m v : Nat} {S : Int} {A : Nat}, Bd m v S A → W64L l → Bd (m + l.length) (l.foldl addC v) (S + sF l) (A + aF l) := by
  induction l with
  | nil =>
    intro m v S A h _
    show Bd (m + 0) v (S + sF []) (A + aF [])
    rw [show sF [] = 0 from rfl, show aF [] = 0 from rfl, Int.add_zero, Nat.add_zero, Nat.add_zero]; exact h
  | cons x l ih =>
    intro m v S A h hw
    have h1 := ih (bd_add h (bd_one (hw x (List.mem_cons_self ..)))) (fun y hy => hw y (List.mem_cons_of_mem _ hy))
    rw [List.foldl_cons, List.length_cons, show m + (l.length + 1) = m + 1 + l.length by omega]
    have e1 : sF (x :: l) = fV x + sF l := rfl
    have e2 : aF (x :: l) = (fV x).natAbs + aF l := rfl
    rw [e1, e2, ← Int.add_assoc, ← Nat.add_assoc]
    exact h1
theorem bd_run {l : List Nat} (h : l ≠ []) (hl : FinL l) : Bd l.length (runC l) (sF l) (aF l) := by
  cases l with
  | nil => exact absurd rfl h
  | cons x l =>
    have hx := hl x (List.mem_cons_self ..)
    have h1 := bd_fold l (bd_one hx.1) (fun y hy => (hl y (List.mem_cons_of_mem _ hy)).1)
    show Bd (l.length + 1) (l.foldl addC (canon x)) _ _
    rw [canon_num (Nat.le_of_lt hx.2), Nat.add_comm l.length 1]
    exact h1
theorem bd_hal {l : List Nat} {v : Nat} (h : Hal l v) : l ≠ [] → FinL l → Bd l.length v (sF l) (aF l) := by
  induction h with
  | nil => intro h; exact absurd rfl h
  | one x =>
    intro _ hl
    have hx := hl x (List.mem_cons_self ..)
    rw [canon_num (Nat.le_of_lt hx.2), sF_one, aF_one]
    exact bd_one hx.1
  | @two l j a b h1 h2 h3 _ _ ih1 ih2 =>
    intro _ hl
    have hp := Nat.two_pow_pos j
    have e1 : (l.take (2 ^ j)).length = 2 ^ j := by rw [List.length_take]; omega
    have e2 : (l.drop (2 ^ j)).length = l.length - 2 ^ j := List.length_drop
    have b1 := ih1 (fun h => by rw [h] at e1; simp at e1; omega) (hl.take _)
    have b2 := ih2 (fun h => by rw [h] at e2; simp at e2; omega) (hl.drop _)
    have hb := bd_add b1 b2
    rw [← sF_append, ← aF_append, List.take_append_drop, e1, e2, show 2 ^ j + (l.length - 2 ^ j) = l.length by omega] at hb
    exact hb
theorem take_chunk (l : List Nat) (k s : Nat) : l.take ((k + 1) * s) = l.take (k * s) ++ (l.drop (k * s)).take (min l.length ((k + 1) * s) - k * s) := by
  rw [Nat.succ_mul]
  have h2 : (l.drop (k * s)).take (min l.length (k * s + s) - k * s) = (l.drop (k * s)).take s := by
    by_cases h3 : k * s + s ≤ l.length
    · rw [Nat.min_eq_right h3, Nat.add_sub_cancel_left]
    · rw [Nat.min_eq_left (by omega), List.take_of_length_le (by rw [List.length_drop]; exact Nat.le_refl _), List.take_of_length_le (by rw [List.length_drop]; omega)]
  rw [h2, List.take_add]
theorem bd_blocks {l : List Nat} (hl : FinL l) {s : Nat} (hs : 0 < s) : ∀ k, k * s < l.length → Bd (l.take ((k + 1) * s)).length (runC ((List.range (k + 1)).map (chC l s))) (sF (l.take ((k + 1) * s))) (aF (l.take ((k + 1) * s))) := by
  have hch : ∀ k, k * s < l.length → Bd ((l.drop (k * s)).take (min l.length ((k + 1) * s) - k * s)).length (chC l s k) (sF ((l.drop (k * s)).take (min l.length ((k + 1) * s) - k * s))) (aF ((l.drop (k * s)).take (min l.length ((k + 1) * s) - k * s))) := by
    intro k hk
    refine bd_run (fun h => ?_) ((hl.drop _).take _)
    have := congrArg List.length h
    rw [List.length_take, List.length_drop, List.length_nil, Nat.succ_mul] at this
    omega
  intro k
  induction k with
  | zero =>
    intro hk
    have := hch 0 hk
    rw [take_chunk, Nat.zero_mul, List.take_zero, List.nil_append]
    rw [Nat.zero_mul] at this
    show Bd _ (canon (chC l s 0)) _ _
    have hc : canon (chC l s 0) = chC l s 0 := by
      unfold chC
      cases h : (l.drop (0 * s)).take (min l.length ((0 + 1) * s) - 0 * s) with
      | nil => rfl
      | cons x l' => exact fold_can _ _ (canon_canon _)
    rw [hc]; exact this
  | succ k ih =>
    intro hk
    have h1 := ih (by rw [Nat.succ_mul] at hk; omega)
    have h2 := hch (k + 1) hk
    rw [List.range_succ, List.map_append, List.map_cons, List.map_nil, runC_snoc (by simp), take_chunk l (k + 1) s, List.length_append, sF_append, aF_append]
    exact bd_add h1 h2
theorem bd_blk {l : List Nat} (h : l ≠ []) (hl : FinL l) {s : Nat} (hs : 0 < s) : Bd l.length (blkC l s) (sF l) (aF l) := by
  have hlen : 0 < l.length := by cases l with
    | nil => exact absurd rfl h
    | cons => simp
  obtain ⟨k, hk⟩ : ∃ k, (l.length + s - 1) / s = k + 1 := ⟨(l.length + s - 1) / s - 1, by
    have := (Nat.le_div_iff_mul_le hs (x := 1) (y := l.length + s - 1)).2 (by omega)
    omega⟩
  have h1 := Nat.div_mul_le_self (l.length + s - 1) s
  have h2 := Nat.lt_div_mul_add (a := l.length + s - 1) hs
  rw [hk] at h1 h2
  have h3 := bd_blocks hl hs k (by rw [Nat.succ_mul] at h1; omega)
  rw [List.take_of_length_le (by rw [Nat.succ_mul] at h2 ⊢; omega)] at h3
  unfold blkC
  rw [hk]
  exact h3
end Go.Proofs.YthdbapibbdkclaaDoor
