/- Words and numbers: lists of 32-bit words as natural numbers, and how they lie in memory. Bit operations of 32 and 64 bits as operations of natural numbers; math/bits: Add32, Sub32, Len32, TrailingZeros32 by their contracts. No statement of the seat is proved here. -/
import Derived.WalkKit
import Derived.WalkSpells
import Derived.Lib.Hide
import Derived.KernelRfl
import Derived.Deep.QuietTactic
import Derived.BigQuiet
import Derived.Deep.LoopGhost
import Derived.Deep.DeepCutAuto
import Derived.Deep.RegionHeld3
import Derived.Deep.DeepFit
import Derived.Deep.DeepMust
import Derived.Laws.CopyOwn
import Derived.Test.YteahdgbokjbgcaaGreatDoorProg
import Derived.Laws.Bits64b
import Derived.Lib.TrailingZeros
namespace Go.Proofs.YteahdgbokjbgcaaGreatDoor
open Go.RowKit
set_option linter.unusedVariables false
set_option linter.unusedSimpArgs false

/-- the number of a list of words, the lowest first -/
def num : List Nat → Nat
  | [] => 0
  | x :: l => x + 4294967296 * num l

def W32 (l : List Nat) : Prop := ∀ x ∈ l, x < 4294967296

/-- the words of a number, none at the high end nought -/
def words (n : Nat) : List Nat := if h : n = 0 then [] else n % 4294967296 :: words (n / 4294967296)
termination_by n
decreasing_by exact Nat.div_lt_self (Nat.pos_of_ne_zero h) (by decide)

theorem words_zero : words 0 = [] := by rw [words]; simp
theorem words_pos {n : Nat} (h : n ≠ 0) : words n = n % 4294967296 :: words (n / 4294967296) := by rw [words]; simp [h]

theorem num_words (n : Nat) : num (words n) = n := by
  induction n using Nat.strongRecOn with
  | ind n ih =>
    by_cases h : n = 0
    · subst h; rw [words_zero]; rfl
    · rw [words_pos h, num, ih _ (Nat.div_lt_self (Nat.pos_of_ne_zero h) (by decide))]; omega

theorem W32_words (n : Nat) : W32 (words n) := by
  induction n using Nat.strongRecOn with
  | ind n ih =>
    by_cases h : n = 0
    · subst h; rw [words_zero]; intro x hx; cases hx
    · rw [words_pos h]
      intro x hx
      rcases List.mem_cons.1 hx with rfl | hx
      · omega
      · exact ih _ (Nat.div_lt_self (Nat.pos_of_ne_zero h) (by decide)) x hx

theorem W32.nil : W32 [] := fun _ h => by cases h
theorem W32.cons {x : Nat} {l : List Nat} (hx : x < 4294967296) (h : W32 l) : W32 (x :: l) := fun y hy => by
  rcases List.mem_cons.1 hy with rfl | hy
  · exact hx
  · exact h y hy
theorem W32.tail {x : Nat} {l : List Nat} (h : W32 (x :: l)) : W32 l := fun y hy => h y (List.mem_cons_of_mem _ hy)
theorem W32.head {x : Nat} {l : List Nat} (h : W32 (x :: l)) : x < 4294967296 := h x (List.mem_cons_self ..)
theorem W32.append {l m : List Nat} (h : W32 l) (k : W32 m) : W32 (l ++ m) := fun x hx => by
  rcases List.mem_append.1 hx with hx | hx
  · exact h x hx
  · exact k x hx
theorem W32.left {l m : List Nat} (h : W32 (l ++ m)) : W32 l := fun x hx => h x (List.mem_append_left _ hx)
theorem W32.right {l m : List Nat} (h : W32 (l ++ m)) : W32 m := fun x hx => h x (List.mem_append_right _ hx)
theorem W32.take {l : List Nat} (h : W32 l) (k : Nat) : W32 (l.take k) := fun x hx => h x (List.mem_of_mem_take hx)
theorem W32.drop {l : List Nat} (h : W32 l) (k : Nat) : W32 (l.drop k) := fun x hx => h x (List.mem_of_mem_drop hx)
theorem W32.set {l : List Nat} (h : W32 l) (i x : Nat) (hx : x < 4294967296) : W32 (l.set i x) := fun y hy => by
  rcases List.mem_or_eq_of_mem_set hy with hy | rfl
  · exact h y hy
  · exact hx
theorem W32.rep (n : Nat) : W32 (List.replicate n 0) := fun x hx => by rw [List.eq_of_mem_replicate hx]; decide
theorem W32.get {l : List Nat} (h : W32 l) {i x : Nat} (hx : l[i]? = some x) : x < 4294967296 := h x (List.mem_of_getElem? hx)
theorem W32.getD {l : List Nat} (h : W32 l) (i : Nat) : l.getD i 0 < 4294967296 := by
  rw [List.getD_eq_getElem?_getD]
  cases hx : l[i]? with
  | none => simp
  | some x => exact h.get hx

theorem num_append (l m : List Nat) : num (l ++ m) = num l + 4294967296 ^ l.length * num m := by
  induction l with
  | nil => simp [num]
  | cons x l ih => simp only [List.cons_append, num, ih, List.length_cons, Nat.pow_succ, Nat.mul_add, Nat.add_assoc]; congr 2; ac_rfl
theorem num_rep (n : Nat) : num (List.replicate n 0) = 0 := by
  induction n with
  | zero => rfl
  | succ n ih => rw [List.replicate_succ, num, ih]
theorem num_lt {l : List Nat} (h : W32 l) : num l < 4294967296 ^ l.length := by
  induction l with
  | nil => simp [num]
  | cons x l ih =>
    have hx := h.head
    have := ih h.tail
    simp only [num, List.length_cons, Nat.pow_succ]
    omega
theorem words_len_le {n k : Nat} (h : n < 4294967296 ^ k) : (words n).length ≤ k := by
  induction k generalizing n with
  | zero => have : n = 0 := by simpa using h
            subst this; rw [words_zero]; simp
  | succ k ih =>
    by_cases h0 : n = 0
    · subst h0; rw [words_zero]; simp
    · rw [words_pos h0, List.length_cons]
      have : n / 4294967296 < 4294967296 ^ k := by
        rw [Nat.pow_succ] at h
        exact Nat.div_lt_of_lt_mul (by rw [Nat.mul_comm]; exact h)
      have := ih this
      omega
theorem words_len_of_le {m n : Nat} (h : m ≤ n) : (words m).length ≤ (words n).length :=
  words_len_le (Nat.lt_of_le_of_lt h (by have := num_lt (W32_words n); rwa [num_words] at this))
theorem words_len_gt {n k : Nat} (h : 4294967296 ^ k ≤ n) : k < (words n).length := by
  by_cases hk : (words n).length ≤ k
  · have h1 := num_lt (W32_words n)
    rw [num_words] at h1
    have := Nat.pow_le_pow_right (show 0 < 4294967296 by decide) hk
    omega
  · omega

theorem num_cons_mod {x : Nat} {l : List Nat} (hx : x < 4294967296) : (x + 4294967296 * num l) % 4294967296 = x := by omega
theorem num_cons_div {x : Nat} {l : List Nat} (hx : x < 4294967296) : (x + 4294967296 * num l) / 4294967296 = num l := by omega

theorem words_num_prefix {l : List Nat} (h : W32 l) : words (num l) = l.take (words (num l)).length := by
  induction l with
  | nil => simp [num, words_zero]
  | cons x l ih =>
    by_cases h0 : num (x :: l) = 0
    · rw [h0, words_zero]; simp
    · have h1 : words (num (x :: l)) = x :: words (num l) := by
        rw [words_pos h0]
        simp only [num]
        rw [num_cons_mod h.head, num_cons_div h.head]
      rw [h1]
      simp only [List.length_cons, List.take_succ_cons]
      rw [← ih h.tail]
theorem words_num_len {l : List Nat} (h : W32 l) : (words (num l)).length ≤ l.length := words_len_le (num_lt h)

/-- a list whose last word is not nought is the words of its number -/
theorem words_num_last {l : List Nat} {x : Nat} (h : W32 (l ++ [x])) (hx : x ≠ 0) : words (num (l ++ [x])) = l ++ [x] := by
  induction l with
  | nil =>
    have := h.head
    simp only [List.nil_append, num]
    rw [words_pos (by omega)]
    have e1 : (x + 4294967296 * 0) % 4294967296 = x := by omega
    have e2 : (x + 4294967296 * 0) / 4294967296 = 0 := by omega
    rw [e1, e2, words_zero]
  | cons y l ih =>
    have hn : num (l ++ [x]) ≠ 0 := by
      rw [num_append]; simp only [num]
      have : 0 < 4294967296 ^ l.length := Nat.pow_pos (by decide)
      have : 0 < 4294967296 ^ l.length * (x + 4294967296 * 0) := Nat.mul_pos this (by omega)
      omega
    have h' : W32 (y :: (l ++ [x])) := h
    simp only [List.cons_append, num]
    rw [words_pos (by omega), num_cons_mod h'.head, num_cons_div h'.head, ih h'.tail]

theorem take_succ_get {α : Type} {l : List α} {k : Nat} {x : α} (h : l[k]? = some x) : l.take (k + 1) = l.take k ++ [x] := by
  rw [List.take_add_one, h]; rfl
theorem num_take_zero {l : List Nat} {k x : Nat} (hx : l[k]? = some x) (h : x = 0) : num (l.take (k + 1)) = num (l.take k) := by
  rw [take_succ_get hx, num_append, h]; simp [num]
theorem words_take_pos {l : List Nat} {k x : Nat} (hw : W32 l) (hx : l[k]? = some x) (h : x ≠ 0) : words (num (l.take (k + 1))) = l.take (k + 1) := by
  have h1 := hw.take (k + 1)
  rw [take_succ_get hx] at h1 ⊢
  exact words_num_last h1 h
theorem words_inj {m n : Nat} (h : words m = words n) : m = n := by rw [← num_words m, h, num_words]
theorem words_eq_nil {n : Nat} : words n = [] ↔ n = 0 := ⟨fun h => by rw [← num_words n, h]; rfl, fun h => by rw [h, words_zero]⟩
theorem len_words_zero {n : Nat} : (words n).length = 0 ↔ n = 0 := by rw [List.length_eq_zero_iff, words_eq_nil]

/-- the lowest k words of a number -/
def digs : Nat → Nat → List Nat
  | 0, _ => []
  | k + 1, n => n % 4294967296 :: digs k (n / 4294967296)
theorem digs_len (k n : Nat) : (digs k n).length = k := by
  induction k generalizing n with
  | zero => rfl
  | succ k ih => simp [digs, ih]
theorem W32_digs (k n : Nat) : W32 (digs k n) := by
  induction k generalizing n with
  | zero => exact W32.nil
  | succ k ih => exact W32.cons (by omega) (ih _)
theorem digs_get {i k : Nat} (n : Nat) (h : i < k) : (digs k n)[i]? = some (n / 4294967296 ^ i % 4294967296) := by
  induction k generalizing i n with
  | zero => omega
  | succ k ih =>
    cases i with
    | zero => simp [digs]
    | succ i => simp only [digs, List.getElem?_cons_succ]; rw [ih _ (by omega), Nat.pow_succ, Nat.mul_comm, Nat.div_div_eq_div_mul]
theorem num_digs (k n : Nat) : num (digs k n) = n % 4294967296 ^ k := by
  induction k generalizing n with
  | zero => simp [digs, num]; omega
  | succ k ih => simp only [digs, num, ih]; rw [Nat.pow_succ, Nat.mul_comm (4294967296 ^ k), Nat.mod_mul]
theorem num_digs_lt {k n : Nat} (h : n < 4294967296 ^ k) : num (digs k n) = n := by rw [num_digs, Nat.mod_eq_of_lt h]
theorem num_take {l : List Nat} (h : W32 l) (k : Nat) : num (l.take k) = num l % 4294967296 ^ k := by
  by_cases hk : k ≤ l.length
  · conv => rhs; rw [← List.take_append_drop k l, num_append]
    have h1 : (l.take k).length = k := by simp [hk]
    rw [h1, Nat.add_mul_mod_self_left, Nat.mod_eq_of_lt]
    have := num_lt (h.take k)
    rwa [h1] at this
  · rw [List.take_of_length_le (by omega), Nat.mod_eq_of_lt]
    exact Nat.lt_of_lt_of_le (num_lt h) (Nat.pow_le_pow_right (by decide) (by omega))
theorem num_drop {l : List Nat} (h : W32 l) (k : Nat) : num (l.drop k) = num l / 4294967296 ^ k := by
  by_cases hk : k ≤ l.length
  · conv => rhs; rw [← List.take_append_drop k l, num_append]
    have h1 : (l.take k).length = k := by simp [hk]
    have h2 := num_lt (h.take k)
    rw [h1] at h2 ⊢
    rw [Nat.add_mul_div_left _ _ (Nat.pow_pos (by decide)), Nat.div_eq_of_lt h2]; omega
  · rw [List.drop_of_length_le (by omega), Nat.div_eq_of_lt]
    · rfl
    · exact Nat.lt_of_lt_of_le (num_lt h) (Nat.pow_le_pow_right (by decide) (by omega))
theorem num_get {l : List Nat} (h : W32 l) {k x : Nat} (hx : l[k]? = some x) : num l / 4294967296 ^ k % 4294967296 = x := by
  rw [← num_drop h]
  have : l.drop k = x :: l.drop (k + 1) := by
    have hk := (List.getElem?_eq_some_iff.1 hx).1
    rw [List.drop_eq_getElem_cons hk]; congr 1; exact (List.getElem?_eq_some_iff.1 hx).2
  rw [this, num, num_cons_mod (h.get hx)]
theorem num_take_succ {l : List Nat} {k x : Nat} (hx : l[k]? = some x) : num (l.take (k + 1)) = num (l.take k) + 4294967296 ^ k * x := by
  have hk := (List.getElem?_eq_some_iff.1 hx).1
  rw [take_succ_get hx, num_append]; simp [num]; rw [Nat.min_eq_left (by omega)]
theorem num_take_lt {l : List Nat} (h : W32 l) (k : Nat) : num (l.take k) < 4294967296 ^ k := by
  rw [num_take h]; exact Nat.mod_lt _ (Nat.pow_pos (by decide))
/-- what a loop has filled in so far -/
def fillTo (l : List Nat) (k : Nat) : List Nat := l.take k ++ List.replicate (l.length - k) 0
theorem fillTo_zero (l : List Nat) : fillTo l 0 = List.replicate l.length 0 := by simp [fillTo]
theorem fillTo_all (l : List Nat) : fillTo l l.length = l := by simp [fillTo]
theorem fillTo_len (l : List Nat) (k : Nat) (h : k ≤ l.length) : (fillTo l k).length = l.length := by simp [fillTo]; omega
theorem W32_fillTo {l : List Nat} (h : W32 l) (k : Nat) : W32 (fillTo l k) := (h.take k).append (W32.rep _)
theorem fillTo_set {l : List Nat} {k x : Nat} (hx : l[k]? = some x) : (fillTo l k).set k x = fillTo l (k + 1) := by
  have hk := (List.getElem?_eq_some_iff.1 hx).1
  unfold fillTo
  have h1 : (l.take k).length = k := by simp; omega
  rw [List.set_append_right _ _ (by omega), h1, Nat.sub_self, take_succ_get hx, List.append_assoc]
  congr 1
  obtain ⟨d, hd⟩ : ∃ d, l.length - k = d + 1 := ⟨l.length - k - 1, by omega⟩
  rw [hd, List.replicate_succ, List.set_cons_zero]
  have : l.length - (k + 1) = d := by omega
  rw [this]; rfl
/-- how two numbers stand to each other -/
def cmpN (a b : Nat) : Int := if a < b then -1 else if b < a then 1 else 0
theorem cmpN_lt {a b : Nat} (h : a < b) : cmpN a b = -1 := by simp [cmpN, h]
theorem cmpN_gt {a b : Nat} (h : b < a) : cmpN a b = 1 := by unfold cmpN; rw [if_neg (by omega), if_pos h]
theorem cmpN_eq {a b : Nat} (h : a = b) : cmpN a b = 0 := by subst h; simp [cmpN]
theorem cmpN_lo (a b : Nat) : -1 ≤ cmpN a b := by unfold cmpN; split <;> (try split) <;> omega
theorem cmpN_hi (a b : Nat) : cmpN a b ≤ 1 := by unfold cmpN; split <;> (try split) <;> omega
theorem cmpN_neg {a b : Nat} : cmpN a b < 0 ↔ a < b := by unfold cmpN; split <;> (try split) <;> omega
theorem words_len_mono {m n : Nat} (h : (words m).length < (words n).length) : m < n := by
  have h1 := num_lt (W32_words m)
  rw [num_words] at h1
  by_cases hl : m < n
  · exact hl
  · have : (words n).length ≤ (words m).length := words_len_le (Nat.lt_of_le_of_lt (Nat.le_of_not_lt hl) h1)
    omega
theorem num_split {l : List Nat} {k x : Nat} (hx : l[k]? = some x) : num l = num (l.take k) + 4294967296 ^ k * (x + 4294967296 * num (l.drop (k + 1))) := by
  have hk := (List.getElem?_eq_some_iff.1 hx).1
  conv => lhs; rw [← List.take_append_drop k l, num_append]
  have h1 : (l.take k).length = k := by simp; omega
  rw [h1, List.drop_eq_getElem_cons hk, num, (List.getElem?_eq_some_iff.1 hx).2]
theorem num_digit_lt {l m : List Nat} (hl : W32 l) {k x y : Nat} (hx : l[k]? = some x) (hy : m[k]? = some y) (hd : l.drop (k + 1) = m.drop (k + 1)) (hxy : x < y) : num l < num m := by
  rw [num_split hx, num_split hy, hd]
  have h1 := num_take_lt hl k
  generalize num (m.drop (k + 1)) = z
  generalize 4294967296 ^ k = P at *
  have h2 : P * (x + 4294967296 * z + 1) ≤ P * (y + 4294967296 * z) := Nat.mul_le_mul_left _ (by omega)
  rw [Nat.mul_add, Nat.mul_one] at h2
  omega
theorem drop_eq_cons {l : List Nat} {k x : Nat} (hx : l[k]? = some x) : l.drop k = x :: l.drop (k + 1) := by
  rw [List.drop_eq_getElem_cons (List.getElem?_eq_some_iff.1 hx).1, (List.getElem?_eq_some_iff.1 hx).2]

/-- how many noughts stand at a number's low end -/
def low (n : Nat) : Nat := if h : n = 0 then 0 else if n % 2 = 1 then 0 else 1 + low (n / 2)
termination_by n
decreasing_by exact Nat.div_lt_self (Nat.pos_of_ne_zero h) (by decide)
theorem low_zero : low 0 = 0 := by rw [low]; simp
theorem low_eq {k m : Nat} (hm : m % 2 = 1) : low (2 ^ k * m) = k := by
  induction k with
  | zero => rw [low]; simp [hm]
  | succ k ih =>
    have hp := Nat.two_pow_pos k
    have h0 : 2 ^ k * m ≠ 0 := Nat.mul_ne_zero (by omega) (by omega)
    have e : 2 ^ (k + 1) * m = 2 * (2 ^ k * m) := by rw [Nat.pow_succ, Nat.mul_comm (2 ^ k) 2, Nat.mul_assoc]
    rw [low, e, dif_neg (by omega), if_neg (by omega), Nat.mul_div_cancel_left _ (by decide), ih, Nat.add_comm]
theorem low_spec {n : Nat} (h : n ≠ 0) : ∃ m, n = 2 ^ low n * m ∧ m % 2 = 1 := by
  induction n using Nat.strongRecOn with
  | ind n ih =>
    rw [low, dif_neg h]
    by_cases h1 : n % 2 = 1
    · rw [if_pos h1]; exact ⟨n, by simp, h1⟩
    · rw [if_neg h1]
      obtain ⟨m, h2, h3⟩ := ih (n / 2) (by omega) (by omega)
      refine ⟨m, ?_, h3⟩
      rw [Nat.add_comm 1, Nat.pow_succ, Nat.mul_comm (2 ^ _) 2, Nat.mul_assoc, ← h2]; omega
theorem low_mul {n : Nat} (k : Nat) (h : n ≠ 0) : low (2 ^ k * n) = k + low n := by
  obtain ⟨m, h1, h2⟩ := low_spec h
  conv => lhs; rw [h1, ← Nat.mul_assoc, ← Nat.pow_add]
  exact low_eq h2
theorem low_low {x r k : Nat} (hx : x ≠ 0) (hk : x < 2 ^ k) : low (x + 2 ^ k * r) = low x := by
  obtain ⟨m, h1, h2⟩ := low_spec hx
  have hl : low x < k := by
    apply Nat.lt_of_not_le; intro hle
    have := Nat.pow_le_pow_right (show 0 < 2 by decide) hle
    have hm : 1 ≤ m := by omega
    have := Nat.mul_le_mul_left (2 ^ low x) hm
    omega
  obtain ⟨d, rfl⟩ : ∃ d, k = low x + (d + 1) := ⟨k - low x - 1, by omega⟩
  have e : x + 2 ^ (low x + (d + 1)) * r = 2 ^ low x * (m + 2 * (2 ^ d * r)) := by
    conv => lhs; arg 1; rw [h1]
    rw [Nat.pow_add, Nat.pow_succ, Nat.mul_add]; congr 1; rw [Nat.mul_assoc, Nat.mul_comm (2 ^ d) 2, Nat.mul_assoc]
  rw [e]; exact low_eq (by omega)
theorem pow32 (k : Nat) : 4294967296 ^ k = 2 ^ (32 * k) := by rw [show 4294967296 = 2 ^ 32 from rfl, ← Nat.pow_mul]
theorem bitLen_zero : bitLen 0 = 0 := rfl
theorem bitLen_words {n k x : Nat} (h : (words n).length = k + 1) (hx : (words n)[k]? = some x) : bitLen n = 32 * k + bitLen x := by
  have h1 := num_get (W32_words n) hx
  rw [num_words] at h1
  have h2 := num_lt (W32_words n)
  rw [num_words, h, Nat.pow_succ, Nat.mul_comm] at h2
  have h3 : n / 4294967296 ^ k < 4294967296 := Nat.div_lt_of_lt_mul (by rw [Nat.mul_comm]; exact h2)
  have h4 : n / 4294967296 ^ k = x := by rw [← h1, Nat.mod_eq_of_lt h3]
  have h5 : n / 4294967296 ^ k ≠ 0 := by
    intro h0
    have h6 : n < 4294967296 ^ k := by
      rcases Nat.div_eq_zero_iff.1 h0 with h7 | h7
      · have := Nat.pow_pos (n := k) (show 0 < 4294967296 by decide); omega
      · exact h7
    have := words_len_le h6
    omega
  rw [pow32] at h4 h5
  have := bitLen_shift n (32 * k) h5
  rw [h4] at this
  exact this
theorem num_testBit {l : List Nat} (hw : W32 l) {j x : Nat} (hx : l[j / 32]? = some x) : (num l).testBit j = x.testBit (j % 32) := by
  have e1 := num_split hx
  have e2 : num l / 2 ^ j % 2 = x / 2 ^ (j % 32) % 2 := by
    have hj : 2 ^ j = 4294967296 ^ (j / 32) * 2 ^ (j % 32) := by rw [pow32, ← Nat.pow_add]; congr 1; omega
    rw [hj, ← Nat.div_div_eq_div_mul, ← num_drop hw, drop_eq_cons hx, num]
    have hm : j % 32 < 32 := by omega
    obtain ⟨d, hd⟩ : ∃ d, 4294967296 = 2 ^ (j % 32) * (2 * d) := ⟨2 ^ (31 - j % 32), by
      have h31 : j % 32 + (31 - j % 32).succ = 32 := by omega
      rw [← Nat.pow_succ', ← Nat.pow_add, h31]⟩
    generalize num (l.drop (j / 32 + 1)) = r
    have : x + 4294967296 * r = x + 2 ^ (j % 32) * (2 * (d * r)) := by rw [← Nat.mul_assoc 2, ← Nat.mul_assoc, ← hd]
    rw [this, Nat.add_mul_div_left _ _ (Nat.two_pow_pos _), Nat.add_mul_mod_self_left]
  rw [Nat.testBit_eq_decide_div_mod_eq, Nat.testBit_eq_decide_div_mod_eq, e2]

theorem below_drewN {B n : Nat} {w w' : World} (h : Below B (w.drewN n) w') : Below B w w' := ⟨h.os, h.tape, h.output, h.size, h.block⟩
theorem below_drewN' {B n : Nat} {w w' : World} (h : Below B w w') : Below B w (w'.drewN n) := ⟨h.os, h.tape, h.output, h.size, h.block⟩
/-- words that can be read at an address -/
def Rd (w : World) (a : Option Addr) (l : List Nat) : Prop :=
  ∀ i x, l[i]? = some x → ∃ b off, a = some ⟨b, off, none⟩ ∧ w.cell? ⟨b, off + i, none⟩ = some (.int .u32 ((x : Nat) : Int))

theorem Rd.nil (w : World) (a : Option Addr) : Rd w a [] := fun i x h => by simp at h
theorem Rd.at {w : World} {a : Option Addr} {l : List Nat} (h : Rd w a l) (hw : W32 l) {i : Nat} (hi : i < l.length) :
    ∃ b off x, a = some ⟨b, off, none⟩ ∧ w.cell? ⟨b, off + i, none⟩ = some (.int .u32 ((x : Nat) : Int)) ∧ x < 4294967296 ∧ Hid (l[i]? = some x) := by
  obtain ⟨x, hx⟩ : ∃ x, l[i]? = some x := ⟨l[i], List.getElem?_eq_getElem hi⟩
  obtain ⟨b, off, h1, h2⟩ := h i x hx
  exact ⟨b, off, x, h1, h2, hw.get hx, hx⟩
theorem Rd.take {w : World} {a : Option Addr} {l : List Nat} (h : Rd w a l) (k : Nat) : Rd w a (l.take k) := fun i x hx => by
  rw [List.getElem?_take] at hx
  split at hx
  · exact h i x hx
  · cases hx
theorem Rd.words {w : World} {a : Option Addr} {l : List Nat} (h : Rd w a l) (hw : W32 l) : Rd w a (words (num l)) := by
  rw [words_num_prefix hw]; exact h.take _
theorem Rd.below {B : Nat} {w w' : World} {a : Option Addr} {l : List Nat} (h : Rd w a l) (hb : Below B w w') (hB : ∀ ad, a = some ad → l ≠ [] → ad.block < B) : Rd w' a l := fun i x hx => by
  obtain ⟨b, off, rfl, h2⟩ := h i x hx
  refine ⟨b, off, rfl, ?_⟩
  rw [hb.cell (p := ⟨b, off + i, none⟩) (hB ⟨b, off, none⟩ rfl (by rintro rfl; simp at hx))]; exact h2
theorem Rd.lt {w : World} {a : Option Addr} {l : List Nat} (h : Rd w a l) {ad : Addr} (ha : a = some ad) (hl : l ≠ []) : ad.block < w.heap.size := by
  cases l with
  | nil => exact absurd rfl hl
  | cons x l =>
    obtain ⟨b, off, h1, h2⟩ := h 0 x rfl
    rw [h1] at ha; cases ha
    exact World.block_lt_of_cell? _ _ h2
theorem Rd.grow {w w' : World} {a : Option Addr} {l : List Nat} (h : Rd w a l) (hb : Below w.heap.size w w') : Rd w' a l :=
  h.below hb fun _ ha hl => h.lt ha hl

/-- a block of words -/
def Blk (w : World) (e : TypeId) (g : Nat) (l : List Nat) : Prop := w.heap[g]? = some (.cells (l.map fun x => Value.int .u32 ((x : Nat) : Int)).toArray e (0, 0))

section
variable {w w' : World} {e : TypeId} {g k : Nat} {l : List Nat}
theorem Blk.cell (h : Blk w e g l) {i x : Nat} (hx : l[i]? = some x) : w.cell? ⟨g, i, none⟩ = some (.int .u32 ((x : Nat) : Int)) := by
  rw [cell_of_row w g i _ e (0, 0) h]; simp [hx]
theorem Blk.at (h : Blk w e g l) (hw : W32 l) {i : Nat} (hi : i < l.length) : ∃ x, w.cell? ⟨g, i, none⟩ = some (.int .u32 ((x : Nat) : Int)) ∧ x < 4294967296 ∧ Hid (l[i]? = some x) := by
  obtain ⟨x, hx⟩ : ∃ x, l[i]? = some x := ⟨l[i], List.getElem?_eq_getElem hi⟩
  exact ⟨x, h.cell hx, hw.get hx, hx⟩
theorem Blk.frozen (h : Blk w e g l) (i : Nat) : w.frozen? ⟨g, i, none⟩ = false := frozen_of_row w g i _ e h
theorem Blk.lt (h : Blk w e g l) : g < w.heap.size := (Array.getElem?_eq_some_iff.1 h).1
theorem Blk.set (h : Blk w e g l) (i x : Nat) : Blk (w.setCell ⟨g, i, none⟩ (.int .u32 ((x : Nat) : Int))) e g (l.set i x) := by
  unfold Blk
  rw [heap_setCell_same w g i _ e _ h]
  congr 2
  apply Array.toList_inj.1
  simp [List.map_set]
theorem Blk.set' (h : Blk w e g l) (i x : Nat) {v : Int} (hv : v = (x : Int)) : Blk (w.setCell ⟨g, i, none⟩ (.int .u32 v)) e g (l.set i x) := by rw [hv]; exact h.set i x
theorem Blk.fill (h : Blk w e g (fillTo l k)) {k' : Nat} {x : Nat} (hk : k' = k + 1) {v : Int} (hx : l[k]? = some x) (hv : v = (x : Int)) : Blk (w.setCell ⟨g, k, none⟩ (.int .u32 v)) e g (fillTo l k') := by rw [hk, ← fillTo_set hx]; exact h.set' k x hv
theorem Blk.midCell {p r : List Nat} {x i : Nat} (h : Blk w e g (p ++ x :: r)) (hi : i = p.length) : w.cell? ⟨g, i, none⟩ = some (.int .u32 ((x : Nat) : Int)) := by
  subst hi; exact h.cell (by simp)
theorem Blk.midSet {p r : List Nat} {x i : Nat} (h : Blk w e g (p ++ x :: r)) (hi : i = p.length) (y : Nat) {v : Int} (hv : v = (y : Int)) : Blk (w.setCell ⟨g, i, none⟩ (.int .u32 v)) e g (p ++ y :: r) := by
  subst hi; have := h.set' p.length y hv; simpa using this
theorem Blk.midPush {p r : List Nat} {x i : Nat} (h : Blk w e g (p ++ x :: r)) (hi : i = p.length) (y : Nat) {v : Int} (hv : v = (y : Int)) : Blk (w.setCell ⟨g, i, none⟩ (.int .u32 v)) e g ((p ++ [y]) ++ r) := by
  have := h.midSet hi y hv; simpa using this
theorem Blk.other (h : Blk w e g l) {a : Addr} (ha : a.block ≠ g) (v : Value) : Blk (w.setCell a v) e g l := by
  unfold Blk; rw [heap_setCell_other _ _ _ _ (fun e => ha e.symm)]; exact h
theorem Blk.alloc (h : Blk w e g l) (o : Obj) : Blk (w.alloc o) e g l := by
  unfold Blk; rw [World.alloc, Array.getElem?_push, if_neg (Nat.ne_of_lt h.lt)]; exact h
theorem Blk.drew (h : Blk w e g l) : Blk w.drew e g l := h
theorem Blk.below {B : Nat} (h : Blk w e g l) (hb : Below B w w') (hg : g < B) : Blk w' e g l := by
  unfold Blk; rw [hb.block g hg]; exact h
theorem Blk.grow (h : Blk w e g l) (hb : Below w.heap.size w w') : Blk w' e g l := h.below hb h.lt
theorem Blk.rd (h : Blk w e g l) : Rd w (some ⟨g, 0, none⟩) l := fun i x hx => ⟨g, 0, rfl, by rw [Nat.zero_add]; exact h.cell hx⟩
end

/-- a slice of words in memory of its own, from a block on -/
def Own (w : World) (e : TypeId) (base : Nat) (a : Option Addr) (c : Nat) (l : List Nat) : Prop :=
  (a = none ∧ c = 0 ∧ l = []) ∨ ∃ g t, a = some ⟨g, 0, none⟩ ∧ base ≤ g ∧ l.length ≤ c ∧ c ≤ (l ++ t).length ∧ Blk w e g (l ++ t)
section
variable {w w' : World} {e : TypeId} {base c : Nat} {a : Option Addr} {l : List Nat}
theorem Own.none (w : World) (e : TypeId) (base : Nat) : Own w e base none 0 [] := .inl ⟨rfl, rfl, rfl⟩
theorem Own.of {g : Nat} (h : Blk w e g l) (hb : base ≤ g) : Own w e base (some ⟨g, 0, Option.none⟩) l.length l := .inr ⟨g, [], rfl, hb, Nat.le_refl _, by simp, by simpa using h⟩
theorem Own.rd (h : Own w e base a c l) : Rd w a l := by
  rcases h with ⟨rfl, rfl, rfl⟩ | ⟨g, t, rfl, hb, h1, h2, h3⟩
  · exact Rd.nil _ _
  · have := h3.rd.take l.length
    simpa using this
theorem Own.cap (h : Own w e base a c l) : l.length ≤ c := by
  rcases h with ⟨rfl, rfl, rfl⟩ | ⟨g, t, rfl, hb, h1, h2, h3⟩
  · simp
  · exact h1
theorem Own.mono {b : Nat} (h : Own w e base a c l) (hb : b ≤ base) : Own w e b a c l := by
  rcases h with h | ⟨g, t, h0, h1, h2⟩
  · exact .inl h
  · exact .inr ⟨g, t, h0, by omega, h2⟩
theorem Own.grow (h : Own w e base a c l) (hb : Below w.heap.size w w') : Own w' e base a c l := by
  rcases h with h | ⟨g, t, h0, h1, h2, h3, h4⟩
  · exact .inl h
  · exact .inr ⟨g, t, h0, h1, h2, h3, h4.grow hb⟩
/-- cut at its end -/
theorem Own.cut (h : Own w e base a c l) {k : Nat} (hk : k ≤ l.length) : Own w e base a c (l.take k) := by
  rcases h with ⟨rfl, rfl, rfl⟩ | ⟨g, t, h0, h1, h2, h3, h4⟩
  · exact .inl ⟨rfl, rfl, by simp⟩
  · exact .inr ⟨g, l.drop k ++ t, h0, h1, by simp; omega, by simpa [← List.append_assoc] using h3, by rw [← List.append_assoc, List.take_append_drop]; exact h4⟩
theorem Own.shut (h : Own w e base a c l) : Own w e base a l.length l := by
  rcases h with ⟨rfl, rfl, rfl⟩ | ⟨g, t, h0, h1, h2, h3, h4⟩
  · exact .inl ⟨rfl, rfl, rfl⟩
  · exact .inr ⟨g, t, h0, h1, Nat.le_refl _, by simp, h4⟩
end

/-- a slice that may be handed in: its words can be read -/
structure Sl (w : World) (a : Option Addr) (c : Nat) (l : List Nat) : Prop where
  rd : Rd w a l
  w32 : W32 l
  cap : l.length ≤ c
  nil : a = none → c = 0
theorem Own.sl {w : World} {e : TypeId} {base c : Nat} {a : Option Addr} {l : List Nat} (h : Own w e base a c l) (hw : W32 l) : Sl w a c l :=
  ⟨h.rd, hw, h.cap, fun ha => by rcases h with ⟨_, h, _⟩ | ⟨g, t, h, _⟩; exact h; rw [ha] at h; cases h⟩
theorem Sl.grow {w w' : World} {c : Nat} {a : Option Addr} {l : List Nat} (h : Sl w a c l) (hb : Below w.heap.size w w') : Sl w' a c l := ⟨h.rd.grow hb, h.w32, h.cap, h.nil⟩
theorem Sl.words {w : World} {c : Nat} {a : Option Addr} {l : List Nat} (h : Sl w a c l) : Sl w a c (words (num l)) :=
  ⟨h.rd.words h.w32, W32_words _, Nat.le_trans (words_num_len h.w32) h.cap, h.nil⟩
theorem Sl.none (w : World) : Sl w Option.none 0 [] := ⟨Rd.nil _ _, W32.nil, Nat.le_refl _, fun _ => rfl⟩
theorem Sl.blk {w : World} {e : TypeId} {g : Nat} {l : List Nat} (h : Blk w e g l) (hw : W32 l) : Sl w (some ⟨g, 0, Option.none⟩) l.length l := ⟨h.rd, hw, Nat.le_refl _, fun h => by cases h⟩
theorem blk_alloc (w : World) (e : TypeId) (vs : Array Value) (l : List Nat) (h : vs = (l.map fun x => Value.int .u32 ((x : Nat) : Int)).toArray) : Blk (w.alloc (.cells vs e)) e w.heap.size l := by
  unfold Blk; rw [heap_alloc_new, h]

/-- 'make([]uint32, n)': the walk goes on in a world of which this is known. -/
theorem wpList_make_blk {P : Program} (w : World) {ops : Array Oper} {rest : List Oper} {o : Oper} {a : Act} {Q : Exit → Act → World → Prop}
    (hg : o.guard = none) (l c : Operand) (t : TypeId) (hop : o.op = Op.makeSlice t l c)
    (e : TypeId) (i : TypeInfo) (h1 : P.underlying t = some (.slice e)) (h2 : P.info? e = some i) (h3 : i.zero = some (.int .u32 0)) (h4 : i.size = 1) (h5 : i.bytes = 4)
    (kl kc : IntKind) (L C : Int) (n : Nat) (hl : a.eval l = .int kl L) (hc : a.eval c = .int kc C) (hL : L = (n : Int)) (hC : C = (n : Int)) (b2 : n ≤ 70368744177664)
    (hK : ∀ w', Blk w' e w.heap.size (List.replicate n 0) → Below w.heap.size w w' → w'.heap.size = w.heap.size + 1 → wpList P ops Q rest (a.put o.dst (.slice (some ⟨w.heap.size, 0, none⟩) n n)) w') :
    wpList P ops Q (o :: rest) a w := by
  refine wpList_plain hg fun K hK' => ?_
  have hr := run_make (P := P) w t e i (.int .u32 0) h1 h2 h3 kl kc n n (by omega) (Int.le_refl _) (by rw [h5]; omega) (by omega)
  simp only [Int.toNat_natCast, h4] at hr
  subst hL
  subst hC
  unfold Oper.wp
  simp [execOp, hop, hl, hc, hr, Result.andThen]
  refine hK' _ _ (hK _ ?_ ((Below.refl _ _).alloc (Nat.le_refl _) _) (by simp))
  unfold Blk
  rw [heap_alloc_new]
  congr 2
  apply Array.toList_inj.1
  rw [show (Value.int .u32 0).cells = #[Value.int .u32 0] from rfl, toList_madeCells_one]
  simp
/-- 'copy(block, readable slice)' -/
theorem wpList_copy_blk {P : Program} {w : World} {ops : Array Oper} {rest : List Oper} {o : Oper} {a : Act} {Q : Exit → Act → World → Prop} (hgd : o.guard = none) (d s : Operand) (dT sT : TypeId)
    (ho : o.op = .call { callee := .builtin .copy, args := #[d, s], argTypes := #[dT, sT] }) (e : TypeId) (hu : P.underlying dT = some (.slice e)) (hsz : (P.info? e).map (·.size) = some 1)
    (g n dCap m sCap : Nat) (sp : Option Addr) (l L : List Nat) (hd : a.eval d = .slice (some ⟨g, 0, none⟩) n dCap) (hs : a.eval s = .slice sp m sCap) (hn : n = L.length) (hm : m = l.length)
    (hg : Blk w e g L) (hr : Rd w sp l) (B : Nat) (w0 : World) (hb : Below B w0 w) (hBg : B ≤ g)
    (h : ∀ w', Blk w' e g (l.take L.length ++ L.drop l.length) → Below B w0 w' → Below g w w' → wpList P ops Q rest (a.put o.dst (goInt (Nat.min m n))) w') :
    wpList P ops Q (o :: rest) a w := by
  subst hn hm
  have hl : ((l.take L.length).map fun x => Value.int .u32 ((x : Nat) : Int)).length = Nat.min l.length L.length := by simp [Nat.min_comm]
  refine wpList_copy_splice hgd d s dT sT ho e hu hsz _ _ _ _ _ _ hd hs g 0 (L.map fun x => Value.int .u32 ((x : Nat) : Int)) e hg ((l.take L.length).map fun x => Value.int .u32 ((x : Nat) : Int)) hl ?_ (by simp; omega) ?_ g w (Below.refl _ _) (Nat.le_refl _) ?_
  · intro h0
    refine ⟨rfl, ?_⟩
    have hl0 : 0 < l.length := by simp at h0; omega
    obtain ⟨x, hx⟩ : ∃ x, l[0]? = some x := ⟨l[0], List.getElem?_eq_getElem hl0⟩
    obtain ⟨b, off, rfl, _⟩ := hr 0 x hx
    refine ⟨⟨b, off, none⟩, rfl, ?_⟩
    intro j v hv
    rw [List.getElem?_map] at hv
    cases hj : (l.take L.length)[j]? with
    | none => rw [hj] at hv; cases hv
    | some y =>
      rw [hj] at hv; cases hv
      obtain ⟨b', off', e1, e2⟩ := (hr.take L.length) j y hj
      cases e1
      have : (⟨b, off, none⟩ : Addr).add j = ⟨b, off + j, none⟩ := by unfold Addr.add; split <;> simp_all
      rw [this]; exact e2
  · intro v hv
    rw [List.mem_map] at hv
    obtain ⟨x, _, rfl⟩ := hv
    rfl
  · intro w' hw' hb'
    rw [hl]
    refine h w' ?_ (hb.trans (hb'.mono hBg)) hb'
    have := hw'.out
    unfold splice at this
    unfold Blk
    rw [this]
    congr 2
    apply Array.toList_inj.1
    simp [List.map_take]
    exact Nat.min_comm _ _
/-- 'append(own slice, readable slice)': there is room, or it grows. -/
theorem wpList_append_words {P : Program} {w : World} {ops : Array Oper} {rest : List Oper} {o : Oper} {a : Act} {Q : Exit → Act → World → Prop} (hgd : o.guard = none) (s x : Operand) (t : TypeId)
    (ho : o.op = .call { callee := .builtin .append, args := #[s, x], argTypes := #[t, t] }) (e : TypeId) (i : TypeInfo) (ht : P.underlying t = some (.slice e)) (hi : P.info? e = some i) (hz : i.zero = some (.int .u32 0)) (hsz : i.size = 1) (hby : i.bytes = 4)
    (base : Nat) (a0 a1 : Option Addr) (n c m d : Nat) (l k : List Nat) (hs : a.eval s = .slice a0 n c) (hx : a.eval x = .slice a1 m d) (hn : n = l.length) (hm : m = k.length) (hown : Own w e base a0 c l) (hr : Rd w a1 k) (hno : a1 = none → d = 0)
    (hlen : n + m ≤ 35184372088832) (hbase : base ≤ w.heap.size)
    (h : ∀ a' c' w', Own w' e base a' c' (l ++ k) → w.grownBy w' (a0.map (·.block)) → (a' = a0 ∨ (w.grownBy w' none ∧ ∃ g, a' = some ⟨g, 0, none⟩ ∧ w.heap.size ≤ g)) → wpList P ops Q rest (a.put o.dst (.slice a' (n + m) c')) w') :
    wpList P ops Q (o :: rest) a w := by
  subst hn hm
  have fin : ∀ a' c' w', (Builtin.append_ #[t, t] o.type #[.slice a0 l.length c, .slice a1 k.length d]).run P w = .ok (.slice a' (l.length + k.length) c') w' → Own w' e base a' c' (l ++ k) → w.grownBy w' (a0.map (·.block)) → (a' = a0 ∨ (w.grownBy w' none ∧ ∃ g, a' = some ⟨g, 0, none⟩ ∧ w.heap.size ≤ g)) → wpList P ops Q (o :: rest) a w := by
    intro a' c' w' hrun h1 h2 h3
    refine wpList_plain hgd fun K hK => ?_
    unfold Oper.wp execOp
    simp only [ho, resolve, invoke, builtin, Sem.run_bind, Sem.run_pure, Result.andThen_ok, List.map_toArray, List.map_cons, List.map_nil, hs, hx, hrun]
    exact hK _ _ (h a' c' w' h1 h2 h3)
  have hkl : ((k.map fun x => Value.int .u32 ((x : Nat) : Int))).length = k.length * i.size := by simp [hsz]
  have grown : ∀ old : Nat, Own (w.drew.alloc (.cells ((l.map fun x => Value.int .u32 ((x : Nat) : Int)).toArray ++ (k.map fun x => Value.int .u32 ((x : Nat) : Int)).toArray ++ Builtin.zeroCells (Value.int .u32 0).cells (grownCap w (l.length + k.length) old e - (l.length + k.length))) e)) e base
      (some ⟨w.heap.size, 0, none⟩) (grownCap w (l.length + k.length) old e) (l ++ k) := by
    intro old
    have hge := grownCap_ge w (l.length + k.length) old e
    refine .inr ⟨w.heap.size, List.replicate (grownCap w (l.length + k.length) old e - (l.length + k.length)) 0, rfl, hbase, by simpa using hge, by simp; omega, ?_⟩
    unfold Blk
    rw [show (w.drew.alloc _).heap[w.heap.size]? = _ from heap_alloc_new w.drew _]
    congr 2
    apply Array.toList_inj.1
    have hz2 : (Builtin.zeroCells (Value.int .u32 0).cells (grownCap w (l.length + k.length) old e - (l.length + k.length))).toList = List.replicate (grownCap w (l.length + k.length) old e - (l.length + k.length)) (Value.int .u32 0) := by
      unfold Builtin.zeroCells
      rw [show (Value.int .u32 0).cells = #[Value.int .u32 0] from rfl]
      apply List.ext_getElem?
      intro j
      by_cases hj : j < grownCap w (l.length + k.length) old e - (l.length + k.length)
      · simp [hj, Nat.mod_one]
      · simp [hj]
    simp [hz2]
  have gb : ∀ (old : Nat) (row : Option Nat), w.grownBy (w.drew.alloc (.cells ((l.map fun x => Value.int .u32 ((x : Nat) : Int)).toArray ++ (k.map fun x => Value.int .u32 ((x : Nat) : Int)).toArray ++ Builtin.zeroCells (Value.int .u32 0).cells (grownCap w (l.length + k.length) old e - (l.length + k.length))) e)) row :=
    fun old row => ⟨rfl, rfl, rfl, by simp, fun k hk _ => by rw [World.alloc, Array.getElem?_push, if_neg (by simp; omega)]; rfl⟩
  have hnews : ∀ ad, a1 = some ad → ∀ j v, (k.map fun x => Value.int .u32 ((x : Nat) : Int))[j]? = some v → w.cell? (ad.add j) = some v := by
    intro ad hA j v hv
    rw [List.getElem?_map] at hv
    cases hj : k[j]? with
    | none => rw [hj] at hv; cases hv
    | some y =>
      rw [hj] at hv; cases hv
      obtain ⟨b', off', e1, e2⟩ := hr j y hj
      rw [hA] at e1; cases e1
      have : (⟨b', off', none⟩ : Addr).add j = ⟨b', off' + j, none⟩ := by unfold Addr.add; split <;> simp_all
      rw [this]; exact e2
  cases a1 with
  | none =>
    obtain rfl := hno rfl
    have hk : k = [] := by
      cases k with
      | nil => rfl
      | cons y k => obtain ⟨_, _, h1, _⟩ := hr 0 y rfl; cases h1
    subst hk
    rcases hown with ⟨rfl, rfl, rfl⟩ | ⟨g, tt, rfl, h1, h2, h3, h4⟩
    · refine fin none 0 w ?_ (Own.none _ _ _) (World.grownBy.refl _ _) (.inl rfl)
      simp [Builtin.append_, run_underlying ht, sizeOf, typeInfo, hi, Builtin.lenOf, Builtin.firstCells, loadCells, loadCellsFrom]
    · refine fin (some ⟨g, 0, none⟩) c w ?_ (by rw [List.append_nil]; exact Or.inr ⟨g, tt, rfl, h1, h2, h3, h4⟩) (World.grownBy.refl _ _) (.inl rfl)
      simp [Builtin.append_, run_underlying ht, sizeOf, typeInfo, hi, Builtin.lenOf, Builtin.firstCells, storeCells, h2]
  | some ad =>
    rcases hown with ⟨rfl, rfl, rfl⟩ | ⟨g, tt, rfl, h1, h2, h3, h4⟩
    · by_cases hk0 : k.length = 0
      · have hk : k = [] := List.eq_nil_of_length_eq_zero hk0
        subst hk
        refine fin none 0 w ?_ (Own.none _ _ _) (World.grownBy.refl _ _) (.inl rfl)
        simp [Builtin.append_, run_underlying ht, sizeOf, typeInfo, hi, Builtin.lenOf, Builtin.firstCells, loadCells, loadCellsFrom]
      · have hr' := run_append_nil (P := P) w t o.type e i _ ht hi hz ad k.length d (k.map fun x => Value.int .u32 ((x : Nat) : Int)) hkl (hnews ad rfl) (by omega) (by simp only [List.length_nil] at hlen; omega) (by rw [hby]; simp only [List.length_nil] at hlen; omega)
        have g1 := grown 0
        have g2 := gb 0 none
        simp only [List.map_nil, Array.empty_append, List.length_nil, Nat.zero_add, List.nil_append] at g1 g2
        exact fin (some ⟨w.heap.size, 0, none⟩) _ _ (by simpa using hr') (by simpa using g1) (by simpa using g2) (.inr ⟨by simpa using g2, w.heap.size, rfl, Nat.le_refl _⟩)
    · by_cases hroom : l.length + k.length ≤ c
      · have hll : (l ++ tt).length = ((l ++ tt).map fun x => Value.int .u32 ((x : Nat) : Int)).toArray.size := by simp
        have hr' := run_append_room (P := P) w t o.type e i ht hi g l.length c _ h4 ad k.length d (k.map fun x => Value.int .u32 ((x : Nat) : Int)) hkl (hnews ad rfl) (by intro u hu; rw [List.mem_map] at hu; obtain ⟨x, _, rfl⟩ := hu; rfl) hroom (by simp [hsz] at h3 ⊢; omega)
        refine fin (some ⟨g, 0, none⟩) c _ hr' (.inr ⟨g, tt.drop k.length, rfl, h1, by simpa using hroom, by simp at h3 ⊢; omega, ?_⟩) ⟨rfl, rfl, rfl, by simp, fun j hj hne => setRow_other w g j _ (fun e => hne (by simp [e]))⟩ (.inl rfl)
        unfold Blk
        rw [setRow_heap w g _ _ e _ h4]
        congr 2
        apply Array.toList_inj.1
        simp [hsz, List.map_take, List.map_drop]
        rw [List.drop_append]
        simp
      · have hold : ∀ j v, (l.map fun x => Value.int .u32 ((x : Nat) : Int))[j]? = some v → w.cell? ((⟨g, 0, none⟩ : Addr).add j) = some v := by
          intro j v hv
          have : (⟨g, 0, none⟩ : Addr).add j = ⟨g, j, none⟩ := by unfold Addr.add; split <;> simp_all
          rw [this]
          rw [List.getElem?_map] at hv
          cases hj : l[j]? with
          | none => rw [hj] at hv; cases hv
          | some y => rw [hj] at hv; cases hv; exact h4.cell (by rw [List.getElem?_append_left (List.getElem?_eq_some_iff.1 hj).1]; exact hj)
        have hr' := run_append_grow (P := P) w t o.type e i _ ht hi hz ⟨g, 0, none⟩ l.length c (l.map fun x => Value.int .u32 ((x : Nat) : Int)) (by simp [hsz]) hold ad k.length d (k.map fun x => Value.int .u32 ((x : Nat) : Int)) hkl (hnews ad rfl) (by omega) (by omega) (growslice_fits (by omega) (by rw [hby]; omega))
        exact fin (some ⟨w.heap.size, 0, none⟩) _ _ hr' (grown c) (gb c _) (.inr ⟨gb c none, w.heap.size, rfl, Nat.le_refl _⟩)
theorem ret1i {k : IntKind} {a b : Int} (h : a = b) : Ending.returned (.int k a) = .returned (.int k b) := by rw [h]
theorem ret2i {k j : IntKind} {a b c d : Int} (h : a = b) (g : c = d) : Ending.returned (.tuple #[.int k a, .int j c]) = .returned (.tuple #[.int k b, .int j d]) := by rw [h, g]
end Go.Proofs.YteahdgbokjbgcaaGreatDoor
namespace Go.Proofs.YteahdgbokjbgcaaGreatDoor
open Go.RowKit
set_option linter.unusedVariables false
set_option linter.unusedSimpArgs false

theorem ofInt32_nat (a : Nat) (ha : a < 4294967296) : (BitVec.ofInt 32 (a : Int)).toNat = a := by
  rw [BitVec.ofInt_natCast, BitVec.toNat_ofNat]; exact Nat.mod_eq_of_lt (by omega)
theorem wrap_u32_nat (a : Nat) (ha : a < 4294967296) : IntKind.u32.wrap (a : Int) = (a : Int) := by rw [IntKind.wrap_u32]; omega
theorem wrap_u64_nat (a : Nat) (ha : a < 18446744073709551616) : IntKind.u64.wrap (a : Int) = (a : Int) := by rw [IntKind.wrap_u64]; omega
theorem bits_and_u32_nat (a b : Nat) (ha : a < 4294967296) (hb : b < 4294967296) : bits .and .u32 (a : Int) (b : Int) = ((a &&& b : Nat) : Int) := by
  have hx : a &&& b < 2 ^ 32 := Nat.and_lt_two_pow _ (by omega)
  show IntKind.u32.wrap ((BitVec.ofInt 32 (a : Int) &&& BitVec.ofInt 32 (b : Int)).toNat : Int) = _
  rw [BitVec.toNat_and, ofInt32_nat a ha, ofInt32_nat b hb, wrap_u32_nat _ (by omega)]
theorem bits_or_u32_nat (a b : Nat) (ha : a < 4294967296) (hb : b < 4294967296) : bits .or .u32 (a : Int) (b : Int) = ((a ||| b : Nat) : Int) := by
  have hx : a ||| b < 2 ^ 32 := Nat.or_lt_two_pow (by omega) (by omega)
  show IntKind.u32.wrap ((BitVec.ofInt 32 (a : Int) ||| BitVec.ofInt 32 (b : Int)).toNat : Int) = _
  rw [BitVec.toNat_or, ofInt32_nat a ha, ofInt32_nat b hb, wrap_u32_nat _ (by omega)]
theorem or_add {x y k : Nat} (hx : x < 2 ^ k) (hy : y % 2 ^ k = 0) : x ||| y = x + y := by
  obtain ⟨q, rfl⟩ := Nat.dvd_of_mod_eq_zero hy
  rw [Nat.or_comm, Nat.add_comm, Nat.two_pow_add_eq_or_of_lt hx]
theorem or_add' {x y k : Nat} (hx : x < 2 ^ k) (hy : y % 2 ^ k = 0) : y ||| x = y + x := by rw [Nat.or_comm, or_add hx hy, Nat.add_comm]

set_option maxHeartbeats 4000000 in
set_option maxRecDepth 100000 in
theorem len32_int (x : Int) (h0 : 0 ≤ x) (h1 : x ≤ 4294967295) (w : World) :
    Calls Tryz.prog 288 #[.int .u32 x] w fun e w' => e = .returned (.int .i64 (bitLen x.toNat)) ∧ w = w' := by
  go_enter Tryz.func288, Tryz.ntmps288
  go_wp2
  all_goals (go_ret; refine ⟨ret1i ?_, rfl⟩)
  all_goals rw [len8tab_get]
  · have e : (x / 65536 / 256).toNat = x.toNat / 2 ^ 24 := by omega
    have l := bitLen_le8 (x / 65536 / 256).toNat (by omega)
    have s := bitLen_shift x.toNat 24 (by omega)
    rw [e] at l ⊢
    unfold wrap64; omega
  · have e : (x / 65536).toNat = x.toNat / 2 ^ 16 := by omega
    have l := bitLen_le8 (x / 65536).toNat (by omega)
    have s := bitLen_shift x.toNat 16 (by omega)
    rw [e] at l ⊢
    unfold wrap64; omega
  · have e : (x / 256).toNat = x.toNat / 2 ^ 8 := by omega
    have l := bitLen_le8 (x / 256).toNat (by omega)
    have s := bitLen_shift x.toNat 8 (by omega)
    rw [e] at l ⊢
    unfold wrap64; omega
  · have l := bitLen_le8 x.toNat (by omega)
    unfold wrap64; omega
theorem len32_any (x : Nat) (hx : x < 4294967296) (w : World) :
    Calls Tryz.prog 288 #[.int .u32 x] w fun e w' => e = .returned (.int .i64 (bitLen x)) ∧ w = w' := by
  have := len32_int (x : Int) (by omega) (by omega) w
  rwa [Int.toNat_natCast] at this

/-- the table of math/bits as its initialiser lays it -/
def Tab (w : World) : Prop := ∀ j, j < Lib.deBruijn32tab.length → w.cell? ⟨1, j, none⟩ = some (.int .u8 (Lib.deBruijn32tab.getD j 0))
theorem Tab.lt {w : World} (h : Tab w) : 1 < w.heap.size := World.block_lt_of_cell? _ _ (h 0 (by decide))
theorem Tab.grow {w w' : World} (h : Tab w) (hb : Below w.heap.size w w') : Tab w' := fun j hj => by
  rw [hb.cell (p := ⟨1, j, none⟩) h.lt]; exact h j hj

theorem tz32_key (x a : Nat) (hx : x < 4294967296) (hx0 : x ≠ 0) (hlow : x &&& (4294967296 - x) = a) :
    bits BinOp.and IntKind.u32 (x : Int) (-(x : Int) % 4294967296) * 125613361 % 4294967296 / 134217728 = ((a * 125613361 % 4294967296 / 134217728 : Nat) : Int) := by
  have e1 : -(x : Int) % 4294967296 = ((4294967296 - x : Nat) : Int) := by omega
  rw [e1, bits_and_u32_nat x _ hx (by omega), hlow]
  omega

set_option maxHeartbeats 1000000 in
theorem tz32_core (x k idx : Nat) (w : World) (hx0 : ((x : Int) == 0) = false)
    (key : bits BinOp.and IntKind.u32 (x : Int) (-(x : Int) % 4294967296) * 125613361 % 4294967296 / 134217728 = (idx : Int))
    (hi : idx < 32) (hk : k < 32) (hcell : w.cell? ⟨1, idx, none⟩ = some (.int .u8 k)) :
    Calls Tryz.prog 317 #[.int .u32 x] w fun e w' => e = .returned (.int .i64 k) ∧ w = w' := by
  go_enter Tryz.func317, Tryz.ntmps317
  go_wp2_with (simp only [key])
  go_ret
  exact ⟨rfl, rfl⟩

theorem tz32_any (x : Nat) (hx : x < 4294967296) (h0 : x ≠ 0) (w : World) (hT : Tab w) :
    Calls Tryz.prog 317 #[.int .u32 x] w fun e w' => e = .returned (.int .i64 (Lib.ctz 32 x)) ∧ w = w' := by
  obtain ⟨hlow, hk⟩ := Lib.lowest_bit 32 x h0 hx
  obtain ⟨hi, htab⟩ := Lib.deBruijn32_at _ hk
  have hcell := hT _ hi
  rw [htab] at hcell
  exact tz32_core x _ _ w (by simp; omega) (tz32_key x _ hx h0 hlow) hi hk hcell
end Go.Proofs.YteahdgbokjbgcaaGreatDoor
