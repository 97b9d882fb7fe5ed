/- Contract of steelyardref09.Slice; the document's bins in memory. The document's bins: what they hold, in memory and in numbers; contracts of steelyardref09.New, Add. Contract of steelyardref09.Bins.top. What the document's bins keep, step by step, in numbers. No statement of the seat is proved here. -/
import Derived.Test.YthdbapibbdkclaaGreatDoorProg
import Derived.Test.YthdbapibbdkclaaGreatDoorHh
import Derived.Test.YthdbapibbdkclaaGreatDoorHa
import Derived.Test.YthdbapibbdkclaaGreatDoorTi
import Derived.Test.YthdbapibbdkclaaGreatDoorGb
import Derived.Test.YthdbapibbdkclaaGreatDoorHf
namespace Go.Proofs.YthdbapibbdkclaaGreatDoor
open Go.RowKit
set_option maxRecDepth 10000
set_option linter.unusedVariables false
set_option linter.unusedSimpArgs false

/-- a size in units of the lowest bin, by its number in the order of all -/
theorem mB_num {b : Nat} (h : b % 9223372036854775808 < 9218868437227405312) : mB b = numV 52 (b % 9223372036854775808) * 16384 := by
  have e1 : b % 9223372036854775808 / 4503599627370496 = b / 4503599627370496 % 2048 := by omega
  have e2 : b % 9223372036854775808 % 4503599627370496 = b % 4503599627370496 := by omega
  have hx : b / 4503599627370496 % 2048 < 2047 := by omega
  unfold mB numV numM numE
  rw [show (2 : Nat) ^ 52 = 4503599627370496 from rfl, e1, e2]
  unfold ptOf
  generalize b / 4503599627370496 % 2048 = ex at *
  generalize b % 4503599627370496 = fr at *
  rw [if_neg (show ¬ ex = 2047 by omega)]
  have h14 : (16384 : Nat) = 2 ^ 14 := rfl
  by_cases h1 : 0 < ex
  · rw [if_pos h1, if_neg (show ¬ ex = 0 by omega)]
    dsimp only
    rw [h14, Nat.mul_assoc, ← Nat.pow_add, Nat.add_comm fr]
    congr 2; omega
  · rw [if_neg h1]
    obtain rfl : ex = 0 := by omega
    rw [if_pos rfl]
    by_cases h2 : 0 < fr
    · rw [if_pos h2]
      dsimp only
      rw [show (0 - 1 : Nat) = 0 from rfl, Nat.pow_zero, Nat.mul_one, h14]
      congr 2
    · rw [if_neg h2]
      obtain rfl : fr = 0 := by omega
      simp
/-- the Dyad of a number's size -/
theorem size_dy {b : Nat} (h : b % 9223372036854775808 < 9218868437227405312) : ∃ d, bitsF 52 (-1074) 9218868437227405312 false (b % 9223372036854775808) = some d ∧ d.Is ∧ d.Ok ∧ -1074 ≤ d.exp ∧ d.m * 2 ^ (d.exp + 1088).toNat = mB b ∧ d.exp ≤ 1100 := by
  obtain ⟨k, hk⟩ : ∃ k, k = b % 9223372036854775808 := ⟨_, rfl⟩
  have hkk : k % 9223372036854775808 = k := by omega
  have hf : ofF k = bitsF 52 (-1074) 9218868437227405312 false k := by
    unfold ofF
    rw [hkk, decide_eq_false (by omega)]
  obtain ⟨d, hd, hz⟩ := Dz.of (v := k) (by rw [hkk, hk]; exact h)
  rw [hf] at hd
  refine ⟨d, by rw [← hk]; exact hd, hz.is, hz.ok, hz.ex, ?_, ofF_hi (b := k) (by rw [hf]; exact hd)⟩
  have h1 := z_abs hz.ex
  rw [hz.val] at h1
  have h2 : (fV k).natAbs = numV 52 k := by unfold fV; rw [sgn_abs, hkk]
  rw [mB_num h, ← hk, ← h2, ← h1, Nat.mul_assoc, show (16384 : Nat) = 2 ^ 14 from rfl, ← Nat.pow_add]
  congr 2
  have := hz.ex
  omega
/-- what bin j has of a number's size -/
def slB (b : Nat) (j : Int) : Nat := if j < -34 then 0 else dg (mB b) (j + 34).toNat
theorem slB_lt (b : Nat) (j : Int) : slB b j < 4294967296 := by
  unfold slB; split
  · decide
  · exact dg_lt _ _
theorem slB_up {b : Nat} {d : D} {j : Int} {k : Nat} (h1 : d.m * 2 ^ (d.exp + 1088).toNat = mB b) (h2 : -1074 ≤ d.exp) (hk : d.exp - 32 * j = (k : Int)) : d.m * 2 ^ k % 4294967296 = slB b j := by
  unfold slB
  split
  · have : k = 32 + (k - 32) := by omega
    rw [this, Nat.pow_add, show (2 : Nat) ^ 32 = 4294967296 from rfl, Nat.mul_left_comm, Nat.mul_mod_right]
  · obtain ⟨i, hi⟩ : ∃ i : Nat, (j + 34).toNat = i := ⟨_, rfl⟩
    rw [hi, ← h1]
    unfold dg
    rw [w32_pow, show (d.exp + 1088).toNat = k + 32 * i by omega, Nat.pow_add, ← Nat.mul_assoc, Nat.mul_div_cancel _ (Nat.two_pow_pos _)]
theorem slB_dn {b : Nat} {d : D} {j : Int} {k : Nat} (h1 : d.m * 2 ^ (d.exp + 1088).toNat = mB b) (h2 : -1074 ≤ d.exp) (hk : d.exp - 32 * j = -(k : Int)) (h0 : 0 < k) : d.m / 2 ^ k % 4294967296 = slB b j := by
  unfold slB
  rw [if_neg (by omega)]
  obtain ⟨i, hi⟩ : ∃ i : Nat, (j + 34).toNat = i := ⟨_, rfl⟩
  rw [hi, ← h1]
  unfold dg
  rw [w32_pow, show 32 * i = (d.exp + 1088).toNat + k by omega, Nat.pow_add, ← Nat.div_div_eq_div_mul, Nat.mul_div_cancel _ (Nat.two_pow_pos _)]
theorem words_first (n : Nat) : (words n = [] ∧ n % 4294967296 = 0) ∨ ∃ t, words n = (n % 4294967296) :: t := by
  by_cases h : n = 0
  · left; subst h; exact ⟨words_zero, rfl⟩
  · right; exact ⟨_, words_pos h⟩
set_option maxHeartbeats 8000000 in
theorem rslice_any (b : Nat) (j : Int) (w : World) (hb : b < 18446744073709551616) (h : b % 9223372036854775808 < 9218868437227405312) (j1 : -100 ≤ j) (j2 : j ≤ 100) :
    Calls Tryz.prog 125 #[.int .u64 b, .int .i64 j] w fun en w' => en = .returned (.int .u32 (slB b j)) ∧ Below w.heap.size w w' := by
  obtain ⟨d, hd, hi, hok, hex, hmb, hhi⟩ := size_dy h
  obtain ⟨k, hk⟩ : ∃ k, k = b % 9223372036854775808 := ⟨_, rfl⟩
  have e1 : IntKind.u64.wrap ((b : Int) * 2) / 2 = (k : Int) := by rw [IntKind.wrap_u64, hk]; omega
  have HO := Lib.hid (fun W => of64_any W)
  have HBi : Hid (∀ W, Calls Tryz.prog 190 #[.agg #[.int .i64 53, .int .i64 (-1074), .int .u64 9218868437227405312], .bool false, .int .u64 k] W fun en w' => ∃ a c, en = .returned (.tuple #[DV d a c, .bool true]) ∧ Own w' 95 W.heap.size a c (words d.m) ∧ Below W.heap.size W w') := by
    intro W
    refine (bits_any 52 k (-1074) 9218868437227405312 false W (by decide) (by omega) (by decide) (by decide) (by decide) (by decide) (by decide)).mono ?_
    rintro en w' ⟨v, rfl, ⟨a, c, rfl, ho⟩, hb⟩
    rw [hk, hd] at ho ⊢
    exact ⟨a, c, rfl, ho, hb⟩
  obtain ⟨S, hS⟩ : ∃ S, S = slB b j := ⟨_, rfl⟩
  rw [← hS]
  obtain ⟨t, ht⟩ : ∃ t : Int, t = d.exp - 32 * j := ⟨_, rfl⟩
  have hMv : ∀ W a c b', Own W 95 b' a c (words d.m) → Calls Tryz.prog 194 #[.slice a (words d.m).length c, .int .i64 t] W fun en w' => ∃ a1 c1 n, en = .returned (.slice a1 (words n).length c1) ∧ n % 4294967296 = S ∧ Own w' 95 W.heap.size a1 c1 (words n) ∧ Below W.heap.size W w' := by
    intro W a c b' ho
    have hl := (ho.argD hok).len
    have hl2 : (argOf d a c).l = words d.m := rfl
    rw [hl2] at hl
    rcases Int.lt_or_le t 0 with h1 | h1
    · obtain ⟨q, hq⟩ : ∃ q : Nat, t = -(q : Int) := ⟨(-t).toNat, by omega⟩
      rw [hq]
      refine (rmoved_down a c (words d.m) q W (by omega) (by omega) (by omega) (ho.sl (W32_words _))).mono ?_
      rintro en w' ⟨a1, c1, rfl, h2, h3⟩
      rw [num_words] at h2 ⊢
      exact ⟨a1, c1, _, rfl, by rw [hS]; exact slB_dn hmb hex (by omega) (by omega), h2, h3⟩
    · obtain ⟨q, hq⟩ : ∃ q : Nat, t = (q : Int) := ⟨t.toNat, by omega⟩
      rw [hq]
      refine (rmoved_up a c (words d.m) q W (by omega) (by omega) (ho.sl (W32_words _))).mono ?_
      rintro en w' ⟨a1, c1, rfl, h2, h3⟩
      rw [num_words] at h2 ⊢
      exact ⟨a1, c1, _, rfl, by rw [hS]; exact slB_up hmb hex (by omega), h2, h3⟩
  have HMv := Lib.hid hMv
  have q1 : IntKind.i64.wrap (32 * j) = 32 * j := by rw [IntKind.wrap_i64]; omega
  have q2 : d.exp - 32 * j = t := ht.symm
  clear hMv hmb hd hk hS ht h hi hok
  unfold DV at HBi
  go_enter Tryz.func125, Tryz.ntmps125
  go_wp2_with fail
  refine (HO.out w).mono ?_; rintro en w1 ⟨rfl, hb1⟩
  have HB1 := Lib.hid hb1
  clear hb1
  go_wp2_with fail
  refine (HBi.out w1).mono ?_; rintro en w2 ⟨a, c, rfl, ho, hb2⟩
  have HB2 := Lib.hid (HB1.out.trans (hb2.mono HB1.out.size))
  have HOw := Lib.hid ho
  clear ho hb2
  go_upto_region 2 with fail
  obtain ⟨w3, e3⟩ : ∃ W, W = w2.alloc (.cells #[.bool d.neg, .slice a (words d.m).length c, .int .i64 d.exp] 46) := ⟨_, rfl⟩
  rw [← e3]
  obtain ⟨k3, b3, _⟩ := new_cel e3 rfl
  have HB3 := Lib.hid (HB2.out.trans (b3.mono HB2.out.size))
  have HO3 := Lib.hid (HOw.out.grow b3)
  clear e3 b3
  obtain ⟨_, _, _, _, _, _⟩ := k3.facts
  go_wp2_with fail
  refine (HMv.out w3 a c _ HO3.out).mono ?_; rintro en w4 ⟨a1, c1, n, rfl, hn, ho, hb⟩
  have HB4 := Lib.hid (HB3.out.trans (hb.mono HB3.out.size))
  rcases words_first n with ⟨h1, h2⟩ | ⟨t', h1⟩
  · have hS0 : Hid (S = 0) := by show S = 0; omega
    rw [h1]
    clear hb ho h1 h2 hn
    go_wp2_with fail
    go_ret
    rw [hS0.out]
    exact ⟨rfl, HB4.out⟩
  · rw [h1] at ho ⊢
    rw [hn] at ho
    obtain ⟨b0, o0, rfl, hc⟩ := ho.rd 0 S rfl
    rw [Nat.add_zero] at hc
    have hl : ((n % 4294967296 :: t').length : Int) = ((t'.length + 1 : Nat) : Int) := rfl
    rw [show (n % 4294967296 :: t').length = t'.length + 1 from rfl]
    clear hb ho h1 hn hl
    go_wp2_with fail
    go_ret
    exact ⟨rfl, HB4.out⟩
end Go.Proofs.YthdbapibbdkclaaGreatDoor
namespace Go.Proofs.YthdbapibbdkclaaGreatDoor
open Go.RowKit
set_option maxRecDepth 10000
set_option linter.unusedVariables false
set_option linter.unusedSimpArgs false

theorem info_oftenW : (Tryz.prog.info? 156).map (fun i => (i.zero, i.size, i.bytes)) = some (some (.agg #[.int .u64 0, .int .i64 0]), 2, 16) := by kernel_rfl
theorem info_often : ∃ i, Tryz.prog.info? 156 = some i ∧ i.zero = some (.agg #[.int .u64 0, .int .i64 0]) ∧ i.size = 2 ∧ i.bytes ≤ 64 := by
  have h := info_oftenW
  cases hi : Tryz.prog.info? 156 with
  | none => rw [hi] at h; cases h
  | some i =>
    rw [hi] at h
    simp only [Option.map_some, Option.some.injEq, Prod.mk.injEq] at h
    exact ⟨i, rfl, h.1, h.2.1, by omega⟩
/-- numbers, each with how often -/
def ofV : List (Nat × Nat) → List Value
  | [] => []
  | p :: l => .int .u64 (p.1 : Nat) :: .int .i64 (p.2 : Nat) :: ofV l
theorem ofV_len (l : List (Nat × Nat)) : (ofV l).length = l.length * 2 := by
  induction l with
  | nil => rfl
  | cons p l ih => simp only [ofV, List.length_cons, ih]; omega
theorem ofV_app (l m : List (Nat × Nat)) : ofV (l ++ m) = ofV l ++ ofV m := by
  induction l with
  | nil => rfl
  | cons p l ih => simp only [ofV, List.cons_append, ih]
theorem ofV_get : ∀ (l : List (Nat × Nat)) (i : Nat) (p : Nat × Nat), l[i]? = some p → (ofV l)[i * 2]? = some (.int .u64 (p.1 : Nat)) ∧ (ofV l)[i * 2 + 1]? = some (.int .i64 (p.2 : Nat))
  | [], i, p, h => by simp at h
  | q :: l, 0, p, h => by
    simp at h; subst h
    exact ⟨rfl, rfl⟩
  | q :: l, i + 1, p, h => by
    have ih := ofV_get l i p (by simpa using h)
    have e1 : (i + 1) * 2 = i * 2 + 1 + 1 := by omega
    rw [e1]
    simp only [ofV, List.getElem?_cons_succ]
    exact ih
/-- the document's bins in memory -/
structure RB (w : World) (g : Nat) (f n : Int) (a : Option Addr) (c : Nat) (l : List (Nat × Nat)) : Prop where
  row : w.heap[g]? = some (.cells ([.int .i64 f, .slice a l.length c, .int .i64 n] : List Value).toArray 153 (0, 0))
  own : VOwn w 156 2 (g + 1) a c (ofV l)
section
variable {w w' : World} {g : Nat} {f n : Int} {a : Option Addr} {c : Nat} {l : List (Nat × Nat)}
theorem RB.lt (h : RB w g f n a c l) : g < w.heap.size := (Array.getElem?_eq_some_iff.1 h.row).1
theorem RB.cells (h : RB w g f n a c l) : w.cell? ⟨g, 0, none⟩ = some (.int .i64 f) ∧ w.cell? ⟨g, 1, none⟩ = some (.slice a l.length c) ∧ w.cell? ⟨g, 2, none⟩ = some (.int .i64 n) ∧ w.frozen? ⟨g, 1, none⟩ = false ∧ w.frozen? ⟨g, 2, none⟩ = false :=
  ⟨by rw [cell_of_row w g 0 _ _ _ h.row]; rfl, by rw [cell_of_row w g 1 _ _ _ h.row]; rfl, by rw [cell_of_row w g 2 _ _ _ h.row]; rfl, frozen_of_row w g 1 _ _ h.row, frozen_of_row w g 2 _ _ h.row⟩
theorem RB.grow (h : RB w g f n a c l) (hb : Below w.heap.size w w') : RB w' g f n a c l := ⟨blk_below h.row hb h.lt, h.own.grow hb⟩
theorem RB.drew (h : RB w g f n a c l) : RB w.drew g f n a c l := ⟨h.row, h.own.drew⟩
theorem RB.at (h : RB w g f n a c l) {i : Nat} {p : Nat × Nat} (hp : l[i]? = some p) : ∃ b o, a = some ⟨b, o, none⟩ ∧ w.cell? ⟨b, o + i * 2, none⟩ = some (.int .u64 (p.1 : Nat)) ∧ w.cell? ⟨b, o + i * 2 + 1, none⟩ = some (.int .i64 (p.2 : Nat)) := by
  obtain ⟨h1, h2⟩ := ofV_get l i p hp
  obtain ⟨b, o, e1, e2⟩ := h.own.rd _ _ h1
  obtain ⟨b', o', e3, e4⟩ := h.own.rd _ _ h2
  rw [e1] at e3
  cases e3
  exact ⟨b, o, e1, e2, by rw [Nat.add_assoc]; exact e4⟩
/-- one more -/
theorem RB.app {b : Nat} {a' : Option Addr} {c' : Nat} {m : Int} (h : RB w g f n a c l) (ho : VOwn w' 156 2 (g + 1) a' c' (ofV l ++ [.int .u64 (b : Nat), .int .i64 1])) (hg : w.grownBy w' (a.map (·.block))) :
    RB ((w'.setCell ⟨g, 1, none⟩ (.slice a' (l.length + 1) c')).setCell ⟨g, 2, none⟩ (.int .i64 m)) g f m a' c' (l ++ [(b, 1)]) := by
  have h1 : w'.heap[g]? = _ := (hg.block g h.lt (fun e => by have := h.own.row g e.symm; omega)).trans h.row
  refine ⟨?_, ?_⟩
  · rw [row_set (row_set h1 1 (.slice a' (l.length + 1) c')) 2 (.int .i64 m), List.length_append]; rfl
  · rw [ofV_app]
    have h2 : ∀ ad, a' = some ad → g ≠ ad.block := fun ad had => by have := ho.ge ad had; omega
    refine (?_ : VOwn _ _ _ _ _ _ _)
    have h3 : ∀ (W : World) (i : Nat) (v : Value), VOwn W 156 2 (g + 1) a' c' (ofV l ++ [.int .u64 (b : Nat), .int .i64 1]) → VOwn (W.setCell ⟨g, i, none⟩ v) 156 2 (g + 1) a' c' (ofV l ++ [.int .u64 (b : Nat), .int .i64 1]) := fun W i v hW => by
      rcases hW with hW | ⟨g', p, t, k0, k1, k2, k3, k4⟩
      · exact .inl hW
      · exact .inr ⟨g', p, t, k0, k1, k2, k3, k4.other (by show g ≠ g'; omega) v⟩
    exact h3 _ _ _ (h3 _ _ _ ho)
theorem RB.rowIn (h : RB w g f n a c l) (hg : w.grownBy w' (a.map (·.block))) : w'.heap[g]? = some (.cells ([.int .i64 f, .slice a l.length c, .int .i64 n] : List Value).toArray 153 (0, 0)) :=
  (hg.block g h.lt (fun e => by have := h.own.row g e.symm; omega)).trans h.row
end
/-- what the document's bins come to, in numbers -/
def bnO (l : List (Nat × Nat)) : Bn := l.foldl (fun A p => A.sum (bnT p.2 p.1)) Bn.zero
theorem bnO_snoc (l : List (Nat × Nat)) (p : Nat × Nat) : bnO (l ++ [p]) = (bnO l).sum (bnT p.2 p.1) := by unfold bnO; rw [List.foldl_append]; rfl
theorem bnO_one (l : List Nat) : bnO (l.map fun b => (b, 1)) = bnL l := by
  unfold bnO bnL
  rw [List.foldl_map]
  simp only [bnT_one]
theorem bnO_mono (l m : List (Nat × Nat)) : (bnO l).n ≤ (bnO (l ++ m)).n ∧ (bnO l).len ≤ (bnO (l ++ m)).len := by
  suffices h : ∀ (m : List (Nat × Nat)) (A : Bn), A.n ≤ (m.foldl (fun A p => A.sum (bnT p.2 p.1)) A).n ∧ A.len ≤ (m.foldl (fun A p => A.sum (bnT p.2 p.1)) A).len by
    unfold bnO; rw [List.foldl_append]; exact h m _
  intro m
  induction m with
  | nil => intro A; exact ⟨Nat.le_refl _, Nat.le_refl _⟩
  | cons p m ih =>
    intro A
    have := ih (A.sum (bnT p.2 p.1))
    have e1 : A.n ≤ (A.sum (bnT p.2 p.1)).n := Nat.le_add_right _ _
    have e2 : A.len ≤ (A.sum (bnT p.2 p.1)).len := Nat.le_max_left _ _
    exact ⟨Nat.le_trans e1 this.1, Nat.le_trans e2 this.2⟩
theorem bnO_ok {l : List (Nat × Nat)} (h : (bnO l).n ≤ 1099511627776) : (bnO l).Ok := by
  suffices hs : ∀ k, k ≤ l.length → (bnO (l.take k)).Ok by
    have := hs l.length (Nat.le_refl _)
    rwa [List.take_length] at this
  intro k
  induction k with
  | zero => intro _; rw [List.take_zero]; exact Bn.zero_ok
  | succ k ih =>
    intro hk
    have hx : l[k]? = some l[k] := List.getElem?_eq_getElem (by omega)
    have e := bnO_mono (l.take (k + 1)) (l.drop (k + 1))
    rw [List.take_append_drop] at e
    rw [take_succ_get hx, bnO_snoc] at e ⊢
    have e1 : (bnO (l.take k)).n + (l[k]).2 ≤ (bnO l).n := e.1
    exact (ih (by omega)).sum (bnT_ok _ (by omega)) (by show _ + _ ≤ _; exact Nat.le_trans e1 h)

theorem rbnew_any (f : Int) (w : World) (h1 : 1 ≤ f) (h2 : f ≤ 8) : Calls Tryz.prog 53 #[.int .i64 f] w fun en w' => en = .returned (.pointer (some ⟨w.heap.size, 0, none⟩)) ∧ RB w' w.heap.size f 0 none 0 [] ∧ Below w.heap.size w w' := by
  have H : Hid (∀ W, W = w.alloc (.cells #[.int .i64 f, .slice none 0 0, .int .i64 0] 153) → RB W w.heap.size f 0 none 0 [] ∧ Below w.heap.size w W) := fun W hW => by
    obtain ⟨k, b, _⟩ := new_of hW rfl
    exact ⟨⟨k, VOwn.none _ _ _ _⟩, b⟩
  go_enter Tryz.func53, Tryz.ntmps53
  go_wp2_with fail
  go_ret
  exact ⟨rfl, H.out _ rfl⟩

set_option maxHeartbeats 8000000 in
theorem rbadd_any (g n b : Nat) (f : Int) (a : Option Addr) (c : Nat) (l : List (Nat × Nat)) (w : World) (hb : b < 18446744073709551616) (hf : b % 9223372036854775808 < 9218868437227405312) (hn : n < 1099511627776) (hl : l.length < 1099511627776) (h : RB w g f n a c l) :
    Calls Tryz.prog 55 #[.pointer (some ⟨g, 0, none⟩), .float .f64 b] w fun en w' => en = .returned (.int .i64 0) ∧ ∃ a' c', RB w' g f (n + 1 : Nat) a' c' (l ++ [(b, 1)]) ∧ Below g w w' := by
  obtain ⟨d, hd, hz⟩ := Dz.of hf
  have HO := Lib.hid (rOf hb hd hz.ok w)
  have HR := Lib.hid (fun W (hw : Below w.heap.size w W) => h.grow hw)
  have hx := ext_bits64 b
  obtain ⟨i0, hi0, hz0, hs0, hb0⟩ := info_often
  have HI := Lib.hid (And.intro hi0 (And.intro hz0 (And.intro hs0 hb0)))
  have hlt := h.lt
  obtain ⟨x0, x1, x2, x3, x4⟩ := h.cells
  have hn' : ¬ (1099511627776 : Int) ≤ (n : Int) := by omega
  have HLl := Lib.hid hl
  have hw1 : IntKind.i64.wrap ((n : Int) + 1) = ((n + 1 : Nat) : Int) := by rw [IntKind.wrap_i64]; omega
  clear hi0 hz0 hs0 hb0 h hd hz hf hn hl
  go_enter Tryz.func55, Tryz.ntmps55
  go_wp2_with fail
  refine HO.out.mono ?_; rintro en w2 ⟨a2, c2, rfl, ho, hb2⟩
  have HB2 := Lib.hid hb2
  unfold DV
  clear ho hb2 x0 x1 x2 x3 x4
  go_upto_region 4 with fail
  obtain ⟨w3, e3⟩ : ∃ W, W = w2.alloc (.cells #[.bool d.neg, .slice a2 (words d.m).length c2, .int .i64 d.exp] 46) := ⟨_, rfl⟩
  rw [← e3]
  obtain ⟨k3, b3, s3⟩ := new_cel e3 rfl
  have HB3 := Lib.hid (HB2.out.trans (b3.mono HB2.out.size))
  clear e3 b3 k3 s3
  obtain ⟨x0, x1, x2, x3, x4⟩ := (HR.out w3 HB3.out).cells
  have hlt3 := (HR.out w3 HB3.out).lt
  have HR3 := Lib.hid (HR.out w3 HB3.out)
  obtain ⟨w4, e4⟩ : ∃ W, W = w3.alloc (.cells #[.int .u64 (b : Nat), .int .i64 1] 156) := ⟨_, rfl⟩
  obtain ⟨k4, b4, s4⟩ := new_of e4 rfl
  have HR4 : Hid (RB w4.drew g f n a c l) := (HR3.out.grow b4).drew
  have HV4 : Hid (VRd w4.drew (some ⟨w3.heap.size, 0, none⟩) [.int .u64 (b : Nat), .int .i64 1]) := VBlk.rd (g := w3.heap.size) (e := 156) k4
  have HB4 : Hid (Below w.heap.size w w4.drew) := (HB3.out.trans (b4.mono HB3.out.size)).drew
  have HE4 := Lib.hid e4
  clear e4 k4 b4 s4
  go_upto_region 6 with fail
  go_region_law (first | (rw [← HE4.out]; refine step_append_vals rfl (.tmp 24) (.tmp 28) 151 151 rfl 156 156 i0 (.agg #[.int .u64 0, .int .i64 0]) 2 Tryz.underlying151 Tryz.underlying151 HI.out.1 HI.out.2.1 HI.out.2.2.1 rfl (by decide) HI.out.2.2.2 (g + 1) a (some ⟨w3.heap.size, 0, none⟩) l.length c 1 1 (ofV l) [.int .u64 (b : Nat), .int .i64 1] (by simp [Act.eval, Act.put]) (by simp [Act.eval, Act.put]) (ofV_len l) rfl (by simp [Value.oneCell']) HR4.out.own HV4.out (by have := HLl.out; omega) (by have := HR4.out.lt; simp at this; simp; omega) ?_; intro a6 c6 w6 ho6 hg6 hn6; have hk6 := HR4.out.rowIn hg6; obtain ⟨y1, y2, y3, y4⟩ : w6.cell? ⟨g, 1, none⟩ = some (.slice a l.length c) ∧ w6.cell? ⟨g, 2, none⟩ = some (.int .i64 n) ∧ w6.frozen? ⟨g, 1, none⟩ = false ∧ w6.frozen? ⟨g, 2, none⟩ = false := ⟨by rw [cell_of_row w6 g 1 _ _ _ hk6]; rfl, by rw [cell_of_row w6 g 2 _ _ _ hk6]; rfl, frozen_of_row w6 g 1 _ _ hk6, frozen_of_row w6 g 2 _ _ hk6⟩))
  all_goals
    have HQ : Hid (RB ((w6.setCell ⟨g, 1, none⟩ (.slice a6 (l.length + 1) c6)).setCell ⟨g, 2, none⟩ (.int .i64 (n + 1 : Nat))) g f (n + 1 : Nat) a6 c6 (l ++ [(b, 1)]) ∧ Below g w ((w6.setCell ⟨g, 1, none⟩ (.slice a6 (l.length + 1) c6)).setCell ⟨g, 2, none⟩ (.int .i64 (n + 1 : Nat)))) :=
      ⟨HR4.out.app ho6 hg6, ((Rgrown (HB4.out.mono (Nat.le_of_lt hlt)) (Nat.le_of_lt hlt) hg6 (fun k hk => by have := HR4.out.own.row k hk; omega)).setCell (Nat.le_refl _) _).setCell (Nat.le_refl _) _⟩
    clear ho6 hg6 hn6 hk6 x0 x1 x2 x3 x4
    go_wp2_with fail
    go_ret
    exact ⟨rfl, a6, c6, HQ.out⟩
end Go.Proofs.YthdbapibbdkclaaGreatDoor
namespace Go.Proofs.YthdbapibbdkclaaGreatDoor
open Go.RowKit
set_option maxRecDepth 10000
set_option linter.unusedVariables false
set_option linter.unusedSimpArgs false

theorem top_test {b : Nat} {d : D} {t : Int} (h1 : d.m * 2 ^ (d.exp + 1088).toNat = mB b) (h2 : -1074 ≤ d.exp) (ht : -35 ≤ t) : (0 < bitLen d.m ∧ 32 * (t + 1) ≤ (bitLen d.m : Int) - 1 + d.exp) ↔ t + 35 < ((words (mB b)).length : Int) := by
  obtain ⟨i, rfl⟩ : ∃ i : Nat, t = (i : Int) - 35 := ⟨(t + 35).toNat, by omega⟩
  obtain ⟨e, he⟩ : ∃ e : Nat, (d.exp + 1088).toNat = e := ⟨_, rfl⟩
  rw [he] at h1
  have hb := bitLen_spec d.m
  constructor
  · rintro ⟨h3, h4⟩
    have h0 : d.m ≠ 0 := by intro h; rw [h] at h3; exact absurd h3 (by decide)
    have h5 := hb.2 h0
    have h6 : 4294967296 ^ i ≤ mB b := by
      rw [← h1, w32_pow]
      refine Nat.le_trans (Nat.pow_le_pow_right (by decide) (show 32 * i ≤ bitLen d.m - 1 + e by omega)) ?_
      rw [Nat.pow_add]; exact Nat.mul_le_mul_right _ h5
    have := words_len_gt h6
    omega
  · intro h3
    by_cases h0 : d.m = 0
    · rw [h0, Nat.zero_mul] at h1; rw [← h1, words_zero] at h3; simp at h3; omega
    have hp : 0 < bitLen d.m := bitLen_pos h0
    refine ⟨hp, ?_⟩
    by_cases h4 : 32 * ((i : Int) - 35 + 1) ≤ (bitLen d.m : Int) - 1 + d.exp
    · exact h4
    · exfalso
      have h6 : mB b < 4294967296 ^ i := by
        rw [← h1, w32_pow]
        refine Nat.lt_of_lt_of_le ((Nat.mul_lt_mul_right (Nat.two_pow_pos e)).2 hb.1) ?_
        rw [← Nat.pow_add]
        exact Nat.pow_le_pow_right (by decide) (by omega)
      have := words_len_le h6
      omega
/-- numbers that bins take, with how often -/
def OfOk (l : List (Nat × Nat)) : Prop := ∀ p ∈ l, p.1 < 18446744073709551616 ∧ p.1 % 9223372036854775808 < 9218868437227405312
theorem bnO_take (l : List (Nat × Nat)) {k : Nat} {p : Nat × Nat} (h : l[k]? = some p) : bnO (l.take (k + 1)) = (bnO (l.take k)).sum (bnT p.2 p.1) := by rw [take_succ_get h, bnO_snoc]
/-- the Dyad of a number's size, from its bits -/
theorem rbits_any {b : Nat} (hb : b < 18446744073709551616) (h : b % 9223372036854775808 < 9218868437227405312) : ∃ d : D, d.m * 2 ^ (d.exp + 1088).toNat = mB b ∧ -1074 ≤ d.exp ∧ d.exp ≤ 1100 ∧ (words d.m).length ≤ 66 ∧ ∃ k : Nat, IntKind.u64.wrap ((b : Int) * 2) / 2 = (k : Int) ∧ ∀ W, Calls Tryz.prog 190 #[.agg #[.int .i64 53, .int .i64 (-1074), .int .u64 9218868437227405312], .bool false, .int .u64 k] W fun en w' => ∃ a c, en = .returned (.tuple #[DV d a c, .bool true]) ∧ Own w' 95 W.heap.size a c (words d.m) ∧ Below W.heap.size W w' := by
  obtain ⟨d, hd, hi, hok, hex, hmb, hhi⟩ := size_dy h
  have hlt : (words d.m).length ≤ 66 := by
    obtain ⟨j, hj⟩ : ∃ j, j = 66 := ⟨_, rfl⟩
    have h1 := mB_lt b hj
    rw [← hmb] at h1
    have h2 := words_len_le (Nat.lt_of_le_of_lt (Nat.le_mul_of_pos_right _ (Nat.two_pow_pos _)) h1)
    omega
  refine ⟨d, hmb, hex, hhi, hlt, b % 9223372036854775808, by rw [IntKind.wrap_u64]; omega, fun W => ?_⟩
  refine (bits_any 52 (b % 9223372036854775808) (-1074) 9218868437227405312 false W (by decide) (by omega) (by decide) (by decide) (by decide) (by decide) (by decide)).mono ?_
  rintro en w' ⟨v, rfl, ⟨a, c, rfl, ho⟩, hb⟩
  rw [hd] at ho ⊢
  exact ⟨a, c, rfl, ho, hb⟩

set_option maxHeartbeats 16000000 in
theorem rbtop_any (g n : Nat) (f : Int) (a : Option Addr) (c : Nat) (l : List (Nat × Nat)) (w : World) (ho : OfOk l) (hl : l.length < 1099511627776) (h : RB w g f n a c l) :
    Calls Tryz.prog 124 #[.pointer (some ⟨g, 0, none⟩)] w fun en w' => en = .returned (.tuple #[.int .i64 (((bnO l).len : Int) - 35), .bool (decide (0 < (bnO l).len))]) ∧ Below w.heap.size w w' := by
  have HR := Lib.hid (fun W (hw : Below w.heap.size w W) => h.grow hw)
  have HO := Lib.hid (fun W => of64_any W)
  have HOK := Lib.hid ho
  have hLen : ∀ k, (bnO (l.take k)).len ≤ 66 := by
    intro k
    have : ∀ (m : List (Nat × Nat)) (A : Bn), A.len ≤ 66 → (m.foldl (fun A p => A.sum (bnT p.2 p.1)) A).len ≤ 66 := by
      intro m
      induction m with
      | nil => intro A hA; exact hA
      | cons p m ih => intro A hA; exact ih _ (Nat.max_le.2 ⟨hA, bn1_len p.1⟩)
    exact this _ _ (by decide)
  have HLn := Lib.hid hLen
  have hlt := h.lt
  clear h ho hLen
  go_enter Tryz.func124, Tryz.ntmps124
  go_wp2_with fail
  go_loopw [4, 5, 6, 7, 8] (fun tt ii z6 z7 z8 wr => ∃ k : Nat, k ≤ l.length ∧ ii = .int .i64 k ∧ tt = .int .i64 (((bnO (l.take k)).len : Int) - 35) ∧ Hid (Below w.heap.size w wr)) (fun _ ii _ _ _ _ => l.length - (intOf ii).toNat)
  case atStart => exact ⟨0, Nat.zero_le _, rfl, rfl, Below.refl _ _⟩
  case round =>
    obtain ⟨k, hk, rfl, rfl, hH⟩ := hrel
    obtain ⟨x0, x1, x2, x3, x4⟩ := (HR.out wr hH.out).cells
    by_cases hq : k < l.length
    · obtain ⟨p, hp⟩ : ∃ p, l[k]? = some p := ⟨l[k], List.getElem?_eq_getElem hq⟩
      obtain ⟨bx, ox, rfl, y0, y1⟩ := (HR.out wr hH.out).at hp
      obtain ⟨p1, p2⟩ := HOK.out p (List.mem_of_getElem? hp)
      obtain ⟨d, hmb, hex, hhi, hdl, kk, hkk, hBi⟩ := rbits_any p1 p2
      have HBi := Lib.hid hBi
      have HTk := Lib.hid (bnO_take l hp)
      have HC : Hid (∀ W, Below wr.heap.size wr W → W.cell? ⟨g, 1, none⟩ = some (.slice (some ⟨bx, ox, none⟩) l.length c) ∧ W.cell? ⟨bx, ox + k * 2, none⟩ = some (.int .u64 (p.1 : Nat))) := fun W hW => by
        have h1 := HR.out W (hH.out.trans (hW.mono hH.out.size))
        obtain ⟨b', o', e1, e2, _⟩ := h1.at hp
        cases e1
        exact ⟨h1.cells.2.1, e2⟩
      have HMb := Lib.hid (And.intro hmb (And.intro hex (And.intro hhi hdl)))
      have HH := Lib.hid hH.out
      have HG : Hid (g < wr.heap.size ∧ bx < wr.heap.size) := ⟨(HR.out wr hH.out).lt, World.block_lt_of_cell? wr _ y0⟩
      have m5 : wr.heap.size ≠ g := by have := HG.out; omega
      have m6 : wr.heap.size ≠ bx := by have := HG.out; omega
      clear hBi x0 x2 x3 x4 y1 hmb hex hhi hdl hp p1 p2
      go_upto_region 5 with fail
      go_region_held3 (fun W => W.cell? ⟨g, 1, none⟩ = some (.slice (some ⟨bx, ox, none⟩) l.length c) ∧ W.cell? ⟨bx, ox + k * 2, none⟩ = some (.int .u64 (p.1 : Nat))) (go_keep) (first
        | (go_at_call 189; refine (HO.out wr.drew).mono ?_; rintro en w5 ⟨rfl, hb5⟩; have HB5 : Hid (Below wr.heap.size wr w5) := below_drewN (n := 1) hb5; have n5 : w5.heap.size ≠ g := (by have := HB5.out.size; have := HG.out; omega); have n6 : w5.heap.size ≠ bx := (by have := HB5.out.size; have := HG.out; omega); obtain ⟨q0, q1⟩ := HC.out w5 HB5.out)
        | (go_at_call 189; refine (HO.out (wr.alloc (.cells #[.bool false, .slice none 0 0, .int .i64 0] 46)).drew).mono ?_; rintro en w5 ⟨rfl, hb5⟩; have HB5 : Hid (Below wr.heap.size wr w5) := ((Below.refl _ _).alloc (Nat.le_refl _) _).drew.trans (hb5.mono (by simp)); have n5 : w5.heap.size ≠ g := (by have := HB5.out.size; have := HG.out; omega); have n6 : w5.heap.size ≠ bx := (by have := HB5.out.size; have := HG.out; omega); have j5 := (Cel.new wr (.bool false) (.slice none 0 0) (.int .i64 0)).below (below_drewN (n := 1) hb5) (by simp); obtain ⟨q0, q1⟩ := HC.out w5 HB5.out)
        | (go_at_call 190; refine (HBi.out w5).mono ?_; rintro en w6 ⟨a6, c6, rfl, ho6, hb6⟩; simp only [DV]; have HB6 : Hid (Below wr.heap.size wr w6) := HB5.out.trans (hb6.mono HB5.out.size); have j6 := j5.below hb6 j5.lt; obtain ⟨r0, r1⟩ := HC.out w6 HB6.out; obtain ⟨_, _, _, _, _, _⟩ := j6.facts)
        | (go_at_call 190; refine (HBi.out w5).mono ?_; rintro en w6 ⟨a6, c6, rfl, ho6, hb6⟩; simp only [DV]; have HB6 : Hid (Below wr.heap.size wr w6) := HB5.out.trans (hb6.mono HB5.out.size); obtain ⟨r0, r1⟩ := HC.out w6 HB6.out)
        | (go_at_call 190; refine (HBi.out (w5.alloc (.cells #[.bool false, .slice none 0 0, .int .i64 0] 46))).mono ?_; rintro en w6 ⟨a6, c6, rfl, ho6, hb6⟩; simp only [DV]; have HB6 : Hid (Below wr.heap.size wr w6) := HB5.out.trans (((Below.refl _ _).alloc (Nat.le_refl _) _).trans (hb6.mono (by simp)) |>.mono HB5.out.size); have j6 := (Cel.new w5 (.bool false) (.slice none 0 0) (.int .i64 0)).below hb6 (by simp); obtain ⟨r0, r1⟩ := HC.out w6 HB6.out; obtain ⟨_, _, _, _, _, _⟩ := j6.facts))
      all_goals
        (first
          | (obtain ⟨w7, e7⟩ : ∃ W, W = w6.alloc (.cells #[.bool d.neg, .slice a6 (words d.m).length c6, .int .i64 d.exp] 46) := ⟨_, rfl⟩
             rw [← e7]
             obtain ⟨K7, z7, s7⟩ := new_cel e7 rfl
             have HO7 : Own w7 95 0 a6 c6 (words d.m) := (ho6.grow z7).mono (Nat.zero_le _)
             have HB7 := Lib.hid (HB6.out.trans (z7.mono HB6.out.size))
             obtain ⟨p7, e8⟩ : ∃ p, p = w6.heap.size := ⟨_, rfl⟩
             rw [← e8] at K7 ⊢
             clear e7 e8 z7 s7)
          | (obtain ⟨w7, e7⟩ : ∃ W, W = wr3 w6 wr.heap.size (.bool d.neg) (.slice a6 (words d.m).length c6) (.int .i64 d.exp) := ⟨_, rfl⟩
             have e8 := e7
             unfold wr3 at e8
             rw [← e8]
             have K7 := cel_wr_same e7 j6
             have HO7 : Own w7 95 0 a6 c6 (words d.m) := (own_wr e7 ho6 (by have := j5.lt; omega)).mono (Nat.zero_le _)
             have HB7 := Lib.hid (below_wr e7 HB6.out (Nat.le_refl _))
             obtain ⟨p7, e9⟩ : ∃ p, p = wr.heap.size := ⟨_, rfl⟩
             rw [← e9] at K7 ⊢
             clear e7 e8 e9 j5 j6)
          | (obtain ⟨w7, e7⟩ : ∃ W, W = wr3 w6 w5.heap.size (.bool d.neg) (.slice a6 (words d.m).length c6) (.int .i64 d.exp) := ⟨_, rfl⟩
             have e8 := e7
             unfold wr3 at e8
             rw [← e8]
             have K7 := cel_wr_same e7 j6
             have HO7 : Own w7 95 0 a6 c6 (words d.m) := (own_wr e7 ho6 (by simp)).mono (Nat.zero_le _)
             have HB7 := Lib.hid (below_wr e7 HB6.out HB5.out.size)
             obtain ⟨p7, e9⟩ : ∃ p, p = w5.heap.size := ⟨_, rfl⟩
             rw [← e9] at K7 ⊢
             clear e7 e8 e9 j6))
        have HLe := rlen_any a6 c6 (words d.m) w7 (by have := HMb.out.2.2.2; omega) (W32_words _) HO7.rd
        rw [num_words] at HLe
        have HL7 := Lib.hid HLe
        have HT : Hid (∀ t : Int, -35 ≤ t → ((0 < bitLen d.m ∧ 32 * (t + 1) ≤ (bitLen d.m : Int) - 1 + d.exp) ↔ t + 35 < ((words (mB p.1)).length : Int))) := fun t ht => top_test HMb.out.1 HMb.out.2.1 ht
        obtain ⟨T, hT⟩ : ∃ T, T = (bnO (l.take (k + 1))).len := ⟨_, rfl⟩
        have HTm : Hid (T = max (bnO (l.take k)).len (words (mB p.1)).length) := by show T = _; rw [hT, HTk.out]; rfl
        have HTe := Lib.hid hT
        have T66 := HLn.out (k + 1)
        rw [← hT] at T66
        obtain ⟨L0, hL0⟩ : ∃ x, x = (bnO (l.take k)).len := ⟨_, rfl⟩
        rw [← hL0] at HTm ⊢
        obtain ⟨M, hM⟩ : ∃ x, x = (words (mB p.1)).length := ⟨_, rfl⟩
        rw [← hM] at HT HTm
        obtain ⟨bl, hbl⟩ : ∃ x, x = bitLen d.m := ⟨_, rfl⟩
        rw [← hbl] at HT HL7
        have hbl2 : bl ≤ 2112 := by
          rw [hbl]
          have := words_bitLen (n := d.m) (k := (words d.m).length) (Nat.le_refl _)
          have := HMb.out.2.2.2
          omega
        obtain ⟨de, hde⟩ : ∃ x, x = d.exp := ⟨_, rfl⟩
        obtain ⟨_, f1, f2, _, _, _⟩ := K7.facts
        rw [← hde] at HT f2
        have hde1 : -1074 ≤ de := by rw [hde]; exact HMb.out.2.1
        have hde2 : de ≤ 1100 := by rw [hde]; exact HMb.out.2.2.1
        have hTm : L0 ≤ T := by rw [HTm.out]; exact Nat.le_max_left _ _
        have HB8 := Lib.hid (HH.out.trans (HB7.out.mono HH.out.size))
        clear hT hL0 hM hbl HLe HO7 K7 HBi hkk y0
        go_wp2_with fail
        refine HL7.out.mono ?_; rintro en w8 ⟨rfl, rfl⟩
        have HTs : Hid (∀ t : Int, (L0 : Int) - 35 ≤ t → t ≤ (T : Int) - 35 → ¬ (0 < bl ∧ 32 * (t + 1) ≤ (bl : Int) - 1 + de) → t = (T : Int) - 35) := fun t h1 h2 h3 => by
          have h4 := (not_congr (HT.out t (by omega))).1 h3
          have h5 := HTm.out
          omega
        have HTg : Hid (∀ t : Int, (L0 : Int) - 35 ≤ t → (0 < bl ∧ 32 * (t + 1) ≤ (bl : Int) - 1 + de) → t + 1 ≤ (T : Int) - 35) := fun t h1 h3 => by
          have h4 := (HT.out t (by omega)).1 h3
          have h5 := HTm.out
          omega
        clear HT HTm
        go_wp2_with fail
        go_loopw [4] (fun tt wx => ∃ t : Int, tt = .int .i64 t ∧ (L0 : Int) - 35 ≤ t ∧ t ≤ (T : Int) - 35 ∧ Hid (wx = w7)) (fun tt _ => (((T : Int) - 35) - intOf tt).toNat)
        case atStart => exact ⟨_, rfl, by omega, by omega, rfl⟩
        case round =>
          obtain ⟨t, rfl, t1, t2, hw⟩ := hrel
          obtain rfl := hw.out
          by_cases hz : 0 < bl
          · by_cases hs : 32 * (t + 1) ≤ (bl : Int) - 1 + de
            · have h9 := HTg.out t t1 ⟨hz, hs⟩
              go_wp2_with fail
              go_roundw
              case rel => exact ⟨t + 1, by go_num, by omega, h9, True.intro⟩
              case measure => simp [intOf]; omega
            · have h9 := HTs.out t t1 t2 (fun h => hs h.2)
              go_wp2_with fail
              go_roundw
              case rel => exact ⟨k + 1, by omega, by go_num, by rw [← HTe.out, h9], HB8.out⟩
              case measure => simp [intOf]; omega
          · have h9 := HTs.out t t1 t2 (fun h => hz h.1)
            go_wp2_with fail
            go_roundw
            case rel => exact ⟨k + 1, by omega, by go_num, by rw [← HTe.out, h9], HB8.out⟩
            case measure => simp [intOf]; omega
    · have hkl : k = l.length := by omega
      have HE : Hid (l.take k = l) := by show l.take k = l; rw [hkl]; exact List.take_length
      have HH := Lib.hid hH.out
      obtain ⟨L, hL⟩ : ∃ L, L = (bnO (l.take k)).len := ⟨_, rfl⟩
      have HLe : Hid (L = (bnO l).len) := by show L = (bnO l).len; rw [hL, HE.out]
      rw [← hL]
      clear hL hH
      have HF : Hid (decide ((-34 : Int) ≤ (L : Int) - 35) = decide (0 < L)) := by show decide _ = decide _; congr 1; exact propext (by omega)
      by_cases hp : 0 < L
      · go_wp2_with fail
        go_ret2
        rw [← HLe.out]
        exact ⟨by simp [hp]; omega, HH.out⟩
      · go_wp2_with fail
        go_ret2
        rw [← HLe.out]
        exact ⟨by simp [hp]; omega, HH.out⟩
end Go.Proofs.YthdbapibbdkclaaGreatDoor
namespace Go.Proofs.YthdbapibbdkclaaGreatDoor
open Go.RowKit
set_option maxRecDepth 10000
set_option linter.unusedVariables false
set_option linter.unusedSimpArgs false

/-- in the midst of bin k from the top, behind i of the numbers -/
def innK (l : List (Nat × Nat)) (k i : Nat) : Int := (bnO l).kS k + (if k < (bnO l).len then (bnO (l.take i)).K ((bnO l).len - 1 - k) * ((4294967296 ^ ((bnO l).len - 1 - k) : Nat) : Int) else 0)
def addK (l : List (Nat × Nat)) (k : Nat) (p : Nat × Nat) : Int := if k < (bnO l).len then (p.2 : Int) * sgn (ptOf p.1).s (dg (mB p.1) ((bnO l).len - 1 - k)) * ((4294967296 ^ ((bnO l).len - 1 - k) : Nat) : Int) else 0
theorem innK_zero (l : List (Nat × Nat)) (k : Nat) : innK l k 0 = (bnO l).kS k := by
  unfold innK
  rw [List.take_zero, show (bnO []).K ((bnO l).len - 1 - k) = 0 from rfl, Int.zero_mul]
  simp
theorem innK_end (l : List (Nat × Nat)) (k : Nat) : innK l k l.length = (bnO l).kS (k + 1) := by
  unfold innK
  rw [List.take_length]; rfl
theorem innK_step (l : List (Nat × Nat)) (k : Nat) {i : Nat} {p : Nat × Nat} (h : l[i]? = some p) : innK l k (i + 1) = innK l k i + addK l k p := by
  unfold innK addK
  rw [bnO_take l h]
  show _ + (if _ then ((bnO (l.take i)).K _ + (p.2 : Int) * sgn (ptOf p.1).s (dg (mB p.1) _)) * _ else 0) = _
  split
  · rw [Int.add_mul]; omega
  · omega
theorem times_le {l : List (Nat × Nat)} {p : Nat × Nat} (h : p ∈ l) : p.2 ≤ (bnO l).n := by
  obtain ⟨s, t, rfl⟩ := List.append_of_mem h
  have h1 := (bnO_mono (s ++ [p]) t).1
  rw [bnO_snoc] at h1
  have h2 : p.2 ≤ ((bnO s).sum (bnT p.2 p.1)).n := Nat.le_add_left _ _
  rw [show s ++ p :: t = s ++ [p] ++ t by simp]
  omega
theorem innK_bd {l : List (Nat × Nat)} (hn : (bnO l).n ≤ 1099511627776) (k i : Nat) {j : Nat} (hj : j = 68) : (innK l k i).natAbs < 2 ^ (32 * j) := by
  have hA := bnO_ok hn
  have h1 := kS_bd hA k
  have h2 : (bnO l).n * 4294967296 ^ (bnO l).len ≤ 1099511627776 * 4294967296 ^ (bnO l).len := Nat.mul_le_mul_right _ hn
  have h3 : 4294967296 ^ (bnO l).len ≤ 4294967296 ^ (j - 2) := Nat.pow_le_pow_right (by decide) (by have := hA.len; omega)
  have h4 : 4294967296 ^ j = 4294967296 ^ (j - 2) * 18446744073709551616 := by
    rw [show (18446744073709551616 : Nat) = 4294967296 ^ 2 from rfl, ← Nat.pow_add]
    congr 1; omega
  have h5 : 0 < 4294967296 ^ (j - 2) := Nat.pow_pos (by decide)
  have key : (innK l k i).natAbs ≤ (bnO l).n * 4294967296 ^ (bnO l).len := by
    unfold innK
    by_cases h : k < (bnO l).len
    · rw [if_pos h]
      have hm := bnO_mono (l.take i) (l.drop i)
      rw [List.take_append_drop] at hm
      have hT := bnO_ok (l := l.take i) (Nat.le_trans hm.1 hn)
      obtain ⟨q, hq⟩ : ∃ q, (bnO l).len - 1 - k = q := ⟨_, rfl⟩
      rw [show (bnO l).len - k = q + 1 by omega, Nat.pow_succ] at h1
      rw [hq]
      have h6 : ((bnO (l.take i)).K q * ((4294967296 ^ q : Nat) : Int)).natAbs ≤ (bnO l).n * 4294967295 * 4294967296 ^ q := by
        rw [Int.natAbs_mul, Int.natAbs_natCast]
        exact Nat.mul_le_mul_right _ (Nat.le_trans (hT.bd q) (Nat.mul_le_mul_right _ hm.1))
      have e1 : (bnO l).n * 4294967295 * 4294967296 ^ q + (bnO l).n * 4294967296 ^ q = (bnO l).n * (4294967296 ^ q * 4294967296) := by
        rw [Nat.mul_assoc, ← Nat.mul_add]
        congr 1
        omega
      have h7 := Int.natAbs_add_le ((bnO l).kS k) ((bnO (l.take i)).K q * ((4294967296 ^ q : Nat) : Int))
      generalize (bnO (l.take i)).K q * ((4294967296 ^ q : Nat) : Int) = Z at *
      omega
    · rw [if_neg h, Int.add_zero]; omega
  rw [← w32_pow, h4]
  generalize 4294967296 ^ (j - 2) = P at *
  omega
theorem addK_dy {l : List (Nat × Nat)} (hlen : (bnO l).len ≤ 66) {p : Nat × Nat} (ht : p.2 ≤ 1099511627776) (k : Nat) : ∃ d, formF (ptOf p.1).s (slB p.1 (((bnO l).len : Int) - 35 - k) * p.2) (32 * (((bnO l).len : Int) - 35 - k)) = some d ∧ Dy (-1088) 68 d (addK l k p) := by
  obtain ⟨j, hj⟩ : ∃ j, j = 68 := ⟨_, rfl⟩
  obtain ⟨j3, hj3⟩ : ∃ j, j = 3 := ⟨_, rfl⟩
  unfold addK slB
  by_cases h : k < (bnO l).len
  · rw [if_pos h, if_neg (by omega)]
    obtain ⟨q, hq⟩ : ∃ q, q = (bnO l).len - 1 - k := ⟨_, rfl⟩
    rw [← hq, show (((bnO l).len : Int) - 35 - k + 34).toNat = q by omega]
    have hd := dg_lt (mB p.1) q
    have hb3 : dg (mB p.1) q * p.2 < 2 ^ (32 * j3) := by
      rw [hj3, show (2 : Nat) ^ (32 * 3) = 79228162514264337593543950336 from rfl]
      have := Nat.mul_le_mul (Nat.le_of_lt hd) ht
      omega
    have hexp : (32 * (((bnO l).len : Int) - 35 - k) - -1088).toNat = 32 * q := by omega
    have hsz : dg (mB p.1) q * p.2 * 2 ^ (32 * (((bnO l).len : Int) - 35 - k) - -1088).toNat < 2 ^ (32 * j) := by
      rw [hexp, hj]
      obtain ⟨y, hy⟩ : ∃ y, y = 32 * q := ⟨_, rfl⟩
      obtain ⟨r, hr⟩ : ∃ r, r = 32 * 68 := ⟨_, rfl⟩
      have h1 : 2 ^ y ≤ 2 ^ (r - 96) := Nat.pow_le_pow_right (by decide) (by omega)
      have h2 : (2 : Nat) ^ r = 2 ^ (r - 96) * 2 ^ (32 * j3) := by rw [hj3, ← Nat.pow_add]; congr 1; omega
      rw [← hy, ← hr, h2, Nat.mul_comm]
      exact Nat.lt_of_le_of_lt (Nat.mul_le_mul_right _ h1) ((Nat.mul_lt_mul_left (Nat.two_pow_pos _)).2 hb3)
    obtain ⟨d, h1, h2⟩ := Dy.form (s := (ptOf p.1).s) (n := dg (mB p.1) q * p.2) (e := 32 * (((bnO l).len : Int) - 35 - k)) (B := -1088) (j := j3) (J := j) hb3 (by omega) (by omega) ⟨by decide, by decide, by omega⟩ (by omega) hsz
    refine ⟨d, h1, ?_⟩
    rw [hexp] at h2
    rw [w32_pow, ← hj]
    have e1 : sgn (ptOf p.1).s (dg (mB p.1) q * p.2) = (p.2 : Int) * sgn (ptOf p.1).s (dg (mB p.1) q) := by
      unfold sgn
      split
      · rw [Int.natCast_mul, Int.mul_comm, Int.mul_neg]
      · rw [Int.natCast_mul, Int.mul_comm]
    rw [← e1]
    exact h2
  · rw [if_neg h, if_pos (by omega), Nat.zero_mul]
    exact ⟨D.zero, by unfold formF; rw [if_pos (by rfl)], Dy.zero (by decide)⟩
/-- a number's sign, of its highest bit -/
theorem pt_neg {b : Nat} (hb : b < 18446744073709551616) (h : b % 9223372036854775808 < 9218868437227405312) : (ptOf b).s = decide (9223372036854775808 ≤ b) := by
  have hx : b / 4503599627370496 % 2048 < 2047 := by omega
  have e : (b / 9223372036854775808 % 2 == 1) = decide (9223372036854775808 ≤ b) := by
    by_cases h1 : 9223372036854775808 ≤ b
    · rw [decide_eq_true h1, show b / 9223372036854775808 % 2 = 1 by omega]; rfl
    · rw [decide_eq_false h1, show b / 9223372036854775808 % 2 = 0 by omega]; rfl
  unfold ptOf
  rw [if_neg (by omega), e]
  split
  · rfl
  · split <;> rfl
end Go.Proofs.YthdbapibbdkclaaGreatDoor
