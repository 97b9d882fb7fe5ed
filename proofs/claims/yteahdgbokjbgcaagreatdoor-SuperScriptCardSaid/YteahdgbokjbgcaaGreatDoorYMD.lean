/- The form of a value, in numbers; contracts of dyad.form and of steelyardref03's Form, told, Made. Contracts of steelyardref03's Form, told, Made, Make and of dyad's Make, both. Dyads in memory: as they are handed in, in the cells of a variable, in a walk's worlds. Contracts of dyad.Make, both and of steelyardref03's told, Made, Make. Contracts of package dyad: sum. Contract of dyad.higher. No statement of the seat is proved here. -/
import Derived.Test.YteahdgbokjbgcaaGreatDoorProg
import Derived.Test.YteahdgbokjbgcaaGreatDoorYMR
namespace Go.Proofs.YteahdgbokjbgcaaGreatDoor
open Go.RowKit
set_option linter.unusedVariables false
set_option linter.unusedSimpArgs false

/-- a number with a sign: m times two to the power exp -/
structure D where
  neg : Bool
  m : Nat
  exp : Int
deriving DecidableEq
def D.zero : D := ⟨false, 0, 0⟩
/-- the form of a value, if it has one -/
def formF (s : Bool) (n : Nat) (e : Int) : Option D :=
  if n = 0 then some D.zero
  else if 1048576 < e + low n ∨ e + low n < -1048576 ∨ 8192 < (words (n / 2 ^ low n)).length then none
  else some ⟨s, n / 2 ^ low n, e + low n⟩
def outO (o : Option D) : D := o.getD D.zero
def errO (o : Option D) : Int := if o.isNone then 2 else 0
/-- a Dyad's value -/
def dyV (d : D) (a : Option Addr) (c : Nat) : Value := .agg #[.bool d.neg, .slice a (words d.m).length c, .int .i64 d.exp]
/-- a Dyad that came out, in memory of its own -/
def DOwn (w : World) (base : Nat) (d : D) (v : Value) : Prop := ∃ a c, v = dyV d a c ∧ Own w 118 base a c (words d.m)
/-- what comes out of a call -/
def Came (w w' : World) (o : Option D) (e : Ending) : Prop := ∃ v, e = .returned (.tuple #[v, .int .i64 (errO o)]) ∧ DOwn w' w.heap.size (outO o) v ∧ Below w.heap.size w w'
def CameB (w w' : World) (o : Option D) (e : Ending) : Prop := ∃ v, e = .returned (.tuple #[v, .bool o.isSome]) ∧ DOwn w' w.heap.size (outO o) v ∧ Below w.heap.size w w'

theorem low_lt_bitLen {n : Nat} (h : n ≠ 0) : low n < bitLen n := by
  obtain ⟨m, h1, h2⟩ := low_spec h
  have h3 := (bitLen_spec n).1
  have h4 : 2 ^ low n ≤ n := by
    have : 2 ^ low n * 1 ≤ 2 ^ low n * m := Nat.mul_le_mul_left _ (by omega)
    rw [Nat.mul_one, ← h1] at this; exact this
  rcases Nat.lt_or_ge (low n) (bitLen n) with h | h
  · exact h
  · have := Nat.pow_le_pow_right (show 0 < 2 by decide) h
    omega
theorem low_lt_words {n : Nat} (h : n ≠ 0) : low n < 32 * (words n).length := by
  have h1 := low_lt_bitLen h
  have h2 := words_bitLen (n := n) (k := (words n).length) (Nat.le_refl _)
  omega
theorem drop_words_num (n k : Nat) : num ((words n).drop k) = n / 4294967296 ^ k := by rw [num_drop (W32_words n), num_words]
theorem words_drop (n k : Nat) : words (n / 4294967296 ^ k) = (words n).drop k := by
  induction k generalizing n with
  | zero => simp
  | succ k ih =>
    by_cases h0 : n = 0
    · subst h0; simp [words_zero]
    · rw [words_pos h0, List.drop_succ_cons, ← ih, Nat.pow_succ, Nat.mul_comm, Nat.div_div_eq_div_mul]

/-- a Dyad's three cells -/
theorem cells3 {w : World} {g : Nat} {v0 v1 v2 : Value} {T : TypeId} (h : w.heap[g]? = some (.cells #[v0, v1, v2] T (0, 0))) :
    w.cell? ⟨g, 0, none⟩ = some v0 ∧ w.cell? ⟨g, 1, none⟩ = some v1 ∧ w.cell? ⟨g, 2, none⟩ = some v2 ∧ w.frozen? ⟨g, 0, none⟩ = false ∧ w.frozen? ⟨g, 1, none⟩ = false ∧ w.frozen? ⟨g, 2, none⟩ = false :=
  ⟨by rw [cell_of_row w g 0 _ _ _ h]; rfl, by rw [cell_of_row w g 1 _ _ _ h]; rfl, by rw [cell_of_row w g 2 _ _ _ h]; rfl, frozen_of_row w g 0 _ _ h, frozen_of_row w g 1 _ _ h, frozen_of_row w g 2 _ _ h⟩
theorem cells3_kept {w w1 : World} {vs : Array Value} {T : TypeId} (hb : Below (w.heap.size + 1) (w.alloc (.cells vs T)) w1) : w1.heap[w.heap.size]? = some (.cells vs T (0, 0)) := by
  rw [hb.block _ (Nat.lt_succ_self _), heap_alloc_new]

theorem below_new {w w1 : World} {vs : Array Value} {T : TypeId} (hb : Below (w.heap.size + 1) (w.alloc (.cells vs T)) w1) : Below w.heap.size w w1 :=
  ((Below.refl _ _).alloc (Nat.le_refl _) _).trans (hb.mono (by omega))
/-- a Dyad written into its three cells -/
def wr3 (w : World) (g : Nat) (v0 v1 v2 : Value) : World := ((w.setCell ⟨g, 0, none⟩ v0).setCell ⟨g, 1, none⟩ v1).setCell ⟨g, 2, none⟩ v2
theorem below_wr3 {B g : Nat} {w w1 : World} {v0 v1 v2 : Value} (h : Below B w w1) (hg : B ≤ g) : Below B w (wr3 w1 g v0 v1 v2) := ((h.setCell (p := ⟨g, 0, none⟩) hg v0).setCell (p := ⟨g, 1, none⟩) hg v1).setCell (p := ⟨g, 2, none⟩) hg v2
theorem own_wr3 {w : World} {e : TypeId} {base c g : Nat} {a : Option Addr} {l : List Nat} {v0 v1 v2 : Value} (h : Own w e base a c l) (hg : g < base) : Own (wr3 w g v0 v1 v2) e base a c l := ((h.set ⟨g, 0, none⟩ v0 hg).set ⟨g, 1, none⟩ v1 hg).set ⟨g, 2, none⟩ v2 hg
set_option maxRecDepth 10000 in
set_option maxHeartbeats 1000000 in
theorem dform_any (s : Bool) (a : Option Addr) (c : Nat) (l : List Nat) (e : Int) (w : World) (hlen : l.length ≤ 35184372088832) (hw : W32 l) (hr : Rd w a l) (he1 : -9223372036854775808 ≤ e) (he2 : e ≤ 9223372036854775807) (hT : Tab w) :
    Calls Tryz.prog 236 #[.bool s, .slice a l.length c, .int .i64 e] w fun en w' => Came w w' (formF s (num l) e) en := by
  obtain ⟨n, hn⟩ : ∃ n, n = num l := ⟨_, rfl⟩
  obtain ⟨w0, hw0⟩ : ∃ w0, w0 = w.alloc (.cells #[.bool false, .slice none 0 0, .int .i64 0] 46) := ⟨_, rfl⟩
  have hb0 : Below w.heap.size w w0 := by rw [hw0]; exact (Below.refl _ _).alloc (Nat.le_refl _) _
  have hN := norm_any a c l w0 (by omega) hw (hr.grow hb0)
  have hT0 := hT.grow hb0
  rw [← hn] at hN ⊢
  rw [hw0] at hN hT0
  have hwl : (words n).length ≤ l.length := by rw [hn]; exact words_num_len hw
  have HN := Lib.hid hN; clear hN
  have HT := Lib.hid hT0; clear hT hT0 hn
  obtain ⟨o, ho⟩ : ∃ o, o = formF s n e := ⟨_, rfl⟩
  rw [← ho]
  have HO := Lib.hid ho; clear ho
  go_enter Tryz.func236, Tryz.ntmps236
  go_wp2_with fail
  refine HN.out.mono ?_; rintro en w1 ⟨rfl, hk1, hb1⟩
  rw [World.size_alloc] at hb1 hk1
  obtain ⟨c0, c1, c2, z0, z1, z2⟩ := cells3 (cells3_kept hb1)
  by_cases h0 : n = 0
  · subst h0
    simp only [words_zero, List.length_nil]
    go_wp2_with fail
    refine bodyPost_ret (v := .tuple #[dyV D.zero none 0, .int .i64 0]) (by simp [results, Tryz.results236, go_sem, dyV, D.zero, words_zero, c0, c1, c2]) rfl ?_
    refine ⟨dyV D.zero none 0, by rw [HO.out]; rfl, ⟨none, 0, by rw [HO.out]; rfl, ?_⟩, below_wr3 (below_new hb1) (Nat.le_refl _)⟩
    rw [HO.out, show (outO (formF s 0 e)).m = 0 from rfl, words_zero]; exact Own.none _ _ _
  have hpos : 0 < (words n).length := by have := @len_words_zero n; omega
  have hlo := low_lt_words h0
  have hlen2 : (words n).length ≤ 70368744177664 := by omega
  have hL := low_any (some ⟨w.heap.size + 1, 0, none⟩) (words n).length (words n) w1 hlen2 (W32_words n) hk1.rd (HT.out.grow (by rw [World.size_alloc]; exact hb1))
  rw [num_words] at hL
  have hF : o = if 1048576 < e + low n ∨ e + low n < -1048576 ∨ 8192 < (words (n / 2 ^ low n)).length then none else some ⟨s, n / 2 ^ low n, e + low n⟩ := by rw [HO.out]; unfold formF; rw [if_neg h0]
  have hLw : Calls Tryz.prog 294 #[.slice (some ⟨w.heap.size + 1, low n / 32, none⟩) ((words n).length - low n / 32) ((words n).length - low n / 32), .int .i64 ((low n % 32 : Nat) : Int)] w1 fun en w' => ∃ a', en = .returned (.slice a' (words (n / 2 ^ low n)).length (words (n / 2 ^ low n)).length) ∧ Own w' 118 w1.heap.size a' (words (n / 2 ^ low n)).length (words (n / 2 ^ low n)) ∧ Below w1.heap.size w1 w' := by
    have hd : num ((words n).drop (low n / 32)) / 2 ^ (low n % 32) = n / 2 ^ low n := by
      rw [drop_words_num, pow32, Nat.div_div_eq_div_mul, ← Nat.pow_add, show 32 * (low n / 32) + low n % 32 = low n by omega]
    have hll : ((words n).drop (low n / 32)).length = (words n).length - low n / 32 := by simp
    have := lower_any (some ⟨w.heap.size + 1, low n / 32, none⟩) ((words n).length - low n / 32) ((words n).drop (low n / 32)) (low n % 32) w1 (by omega) (by omega) (by rw [drop_words_num, words_drop]) (Nat.mod_lt _ (by decide)) ((W32_words n).drop _) (fun i x hx => by
      refine ⟨w.heap.size + 1, low n / 32, rfl, ?_⟩
      exact hk1.cell (by rw [List.getElem?_drop] at hx; exact hx))
    rw [hll, hd] at this
    exact this
  have HL := Lib.hid hL; have HF := Lib.hid hF; have HLw := Lib.hid hLw; clear hL hF hLw
  clear HO
  generalize low n = k at *
  obtain ⟨m, hm⟩ : ∃ m, m = n / 2 ^ k := ⟨_, rfl⟩
  rw [← hm] at HLw HF
  clear hm
  go_wp2_with fail
  refine HL.out.mono ?_; rintro en w2 ⟨rfl, rfl⟩
  go_wp2_with fail
  refine HLw.out.mono ?_; rintro en w2 ⟨a2, rfl, ho2, hb2⟩
  have hs1 := hb1.size
  simp only [World.size_alloc] at hs1
  have hblk : w2.heap[w.heap.size]? = some (.cells #[.bool false, .slice none 0 0, .int .i64 0] 46 (0, 0)) := by
    rw [hb2.block _ (by omega)]; exact cells3_kept hb1
  clear c0 c1 c2 z0 z1 z2
  obtain ⟨c0, c1, c2, z0, z1, z2⟩ := cells3 hblk
  have hbb : Below w.heap.size w w2 := (below_new hb1).trans (hb2.mono (by omega))
  have HBB := Lib.hid hbb; have HB2 := Lib.hid hb2; have HO2 := Lib.hid ho2; clear hbb ho2 hblk
  by_cases hA : (1048576 - (k : Int) < e ∨ e < -1048576 - (k : Int)) ∨ 8192 < (words m).length
  · have hno : o = none := by rw [HF.out, if_pos (by omega)]
    have HNO := Lib.hid hno; clear hno
    have fin : ∀ W, W = wr3 w2 w.heap.size (.bool false) (.slice none 0 0) (.int .i64 0) → Came w W o (.returned (.tuple #[dyV D.zero none 0, .int .i64 2])) := by
      intro W hW
      rw [hW, HNO.out]
      exact ⟨dyV D.zero none 0, rfl, ⟨none, 0, rfl, by rw [show (outO none).m = 0 from rfl, words_zero]; exact Own.none _ _ _⟩, below_wr3 HBB.out (Nat.le_refl _)⟩
    have FIN := Lib.hid fin; clear fin
    rcases hA with (hA | hA) | hA
    · go_wp2
      refine bodyPost_ret (v := .tuple #[dyV D.zero none 0, .int .i64 2]) (by simp [results, Tryz.results236, go_sem, dyV, D.zero, words_zero, c0, c1, c2]) rfl (FIN.out _ rfl)
    · have hA2 : ¬ (1048576 - (k : Int) < e) := by omega
      go_wp2
      refine bodyPost_ret (v := .tuple #[dyV D.zero none 0, .int .i64 2]) (by simp [results, Tryz.results236, go_sem, dyV, D.zero, words_zero, c0, c1, c2]) rfl (FIN.out _ rfl)
    · go_wp2
      all_goals refine bodyPost_ret (v := .tuple #[dyV D.zero none 0, .int .i64 2]) (by simp [results, Tryz.results236, go_sem, dyV, D.zero, words_zero, c0, c1, c2]) rfl (FIN.out _ rfl)
  · have hso : o = some ⟨s, m, e + k⟩ := by rw [HF.out, if_neg (by omega)]
    have HSO := Lib.hid hso; clear hso
    have hA1 : ¬ (1048576 - (k : Int) < e) := by omega
    have hA2 : ¬ (e < -1048576 - (k : Int)) := by omega
    have hA3 : ¬ (8192 < (words m).length) := by omega
    go_wp2
    refine bodyPost_ret (v := .tuple #[dyV ⟨s, m, e + k⟩ a2 (words m).length, .int .i64 0]) (by simp [results, Tryz.results236, go_sem, dyV, c0, c1, c2]) rfl ?_
    refine ⟨dyV ⟨s, m, e + k⟩ a2 (words m).length, by rw [HSO.out]; rfl, ⟨a2, (words m).length, by rw [HSO.out]; rfl, ?_⟩, below_wr3 HBB.out (Nat.le_refl _)⟩
    rw [HSO.out]
    exact (own_wr3 HO2.out (by omega)).mono (by omega)
end Go.Proofs.YteahdgbokjbgcaaGreatDoor
namespace Go.Proofs.YteahdgbokjbgcaaGreatDoor
open Go.RowKit
set_option linter.unusedVariables false
set_option linter.unusedSimpArgs false

set_option maxRecDepth 10000 in
set_option maxHeartbeats 1000000 in
theorem rform_any (s : Bool) (a : Option Addr) (c : Nat) (l : List Nat) (e : Int) (w : World) (hlen : l.length ≤ 1073741824) (hs : Sl w a c l) (he1 : -9223372036854775808 ≤ e) (he2 : e ≤ 9223372036854775807) :
    Calls Tryz.prog 125 #[.bool s, .slice a l.length c, .int .i64 e] w fun en w' => CameB w w' (formF s (num l) e) en := by
  obtain ⟨n, hn⟩ : ∃ n, n = num l := ⟨_, rfl⟩
  obtain ⟨w0, hw0⟩ : ∃ w0, w0 = w.alloc (.cells #[.bool false, .slice none 0 0, .int .i64 0] 46) := ⟨_, rfl⟩
  have hb0 : Below w.heap.size w w0 := by rw [hw0]; exact (Below.refl _ _).alloc (Nat.le_refl _) _
  have hN := rnorm_any a c l w0 (by omega) (hs.grow hb0)
  have hwl : (words n).length ≤ l.length := by rw [hn]; exact words_num_len hs.w32
  rw [← hn] at hN ⊢
  rw [hw0] at hN
  have HN := Lib.hid hN; clear hN
  clear hn hs
  obtain ⟨o, ho⟩ : ∃ o, o = formF s n e := ⟨_, rfl⟩
  rw [← ho]
  have HO := Lib.hid ho; clear ho
  go_enter Tryz.func125, Tryz.ntmps125
  go_wp2_with fail
  refine HN.out.mono ?_; rintro en w1 ⟨a1, c1, rfl, ho1, hb1⟩
  rw [World.size_alloc] at hb1 ho1
  obtain ⟨c0, cc1, c2, z0, z1, z2⟩ := cells3 (cells3_kept hb1)
  by_cases h0 : n = 0
  · subst h0
    simp only [words_zero, List.length_nil]
    go_wp2_with fail
    refine bodyPost_ret (v := .tuple #[dyV D.zero none 0, .bool true]) (by simp [results, Tryz.results125, go_sem, dyV, D.zero, words_zero, c0, cc1, c2]) rfl ?_
    refine ⟨dyV D.zero none 0, by rw [HO.out]; rfl, ⟨none, 0, by rw [HO.out]; rfl, ?_⟩, below_wr3 (below_new hb1) (Nat.le_refl _)⟩
    rw [HO.out, show (outO (formF s 0 e)).m = 0 from rfl, words_zero]; exact Own.none _ _ _
  have hpos : 0 < (words n).length := by have := @len_words_zero n; omega
  have hlo := low_lt_words h0
  have hlen2 : (words n).length ≤ 1073741824 := by omega
  have hL := rlow_any a1 c1 (words n) w1 (by omega) (W32_words n) ho1.rd
  rw [num_words] at hL
  have hF : o = if 1048576 < e + low n ∨ e + low n < -1048576 ∨ 8192 < (words (n / 2 ^ low n)).length then none else some ⟨s, n / 2 ^ low n, e + low n⟩ := by rw [HO.out]; unfold formF; rw [if_neg h0]
  have hM : Calls Tryz.prog 185 #[.slice a1 (words n).length c1, .int .i64 (-(low n : Int))] w1 fun en w' => ∃ a2 c2, en = .returned (.slice a2 (words (n / 2 ^ low n)).length c2) ∧ Own w' 118 w1.heap.size a2 c2 (words (n / 2 ^ low n)) ∧ Below w1.heap.size w1 w' := by
    rcases Nat.eq_zero_or_pos (low n) with h | h
    · have := rmoved_up a1 c1 (words n) 0 w1 (by omega) (by omega) (ho1.sl (W32_words n))
      rw [num_words] at this
      rw [h, Nat.pow_zero, Nat.div_one]; rw [Nat.pow_zero, Nat.mul_one] at this
      exact this
    · have := rmoved_down a1 c1 (words n) (low n) w1 (by omega) h (by omega) (ho1.sl (W32_words n))
      rw [num_words] at this
      exact this
  have HL := Lib.hid hL; have HF := Lib.hid hF; have HM := Lib.hid hM; clear hL hF hM HO
  generalize low n = k at *
  obtain ⟨m, hm⟩ : ∃ m, m = n / 2 ^ k := ⟨_, rfl⟩
  rw [← hm] at HM HF
  clear hm
  go_wp2_with fail
  refine HL.out.mono ?_; rintro en w2 ⟨rfl, rfl⟩
  by_cases hA : 1048576 < e + k ∨ e + k < -1048576
  · have hno : o = none := by rw [HF.out, if_pos (by omega)]
    have HNO := Lib.hid hno; clear hno
    have hbb := below_new hb1
    have HBB := Lib.hid hbb; clear hbb
    have fin : ∀ W, W = wr3 w1 w.heap.size (.bool false) (.slice none 0 0) (.int .i64 0) → CameB w W o (.returned (.tuple #[dyV D.zero none 0, .bool false])) := by
      intro W hW
      rw [hW, HNO.out]
      exact ⟨dyV D.zero none 0, rfl, ⟨none, 0, rfl, by rw [show (outO none).m = 0 from rfl, words_zero]; exact Own.none _ _ _⟩, below_wr3 HBB.out (Nat.le_refl _)⟩
    have FIN := Lib.hid fin; clear fin
    by_cases hA0 : 1048576 < e
    · go_wp2
      refine bodyPost_ret (v := .tuple #[dyV D.zero none 0, .bool false]) (by simp [results, Tryz.results125, go_sem, dyV, D.zero, words_zero, c0, cc1, c2]) rfl (FIN.out _ rfl)
    · by_cases hA1 : 1048576 < e + k
      · go_wp2
        refine bodyPost_ret (v := .tuple #[dyV D.zero none 0, .bool false]) (by simp [results, Tryz.results125, go_sem, dyV, D.zero, words_zero, c0, cc1, c2]) rfl (FIN.out _ rfl)
      · have hA2 : e + k < -1048576 := by omega
        go_wp2
        refine bodyPost_ret (v := .tuple #[dyV D.zero none 0, .bool false]) (by simp [results, Tryz.results125, go_sem, dyV, D.zero, words_zero, c0, cc1, c2]) rfl (FIN.out _ rfl)
  have hA0 : ¬ (1048576 < e) := by omega
  have hA1 : ¬ (1048576 < e + k) := by omega
  have hA2 : ¬ (e + k < -1048576) := by omega
  go_wp2_with fail
  refine HM.out.mono ?_; rintro en w2 ⟨a2, cp, rfl, ho2, hb2⟩
  have hs1 := hb1.size
  simp only [World.size_alloc] at hs1
  have hblk : w2.heap[w.heap.size]? = some (.cells #[.bool false, .slice none 0 0, .int .i64 0] 46 (0, 0)) := by
    rw [hb2.block _ (by omega)]; exact cells3_kept hb1
  clear c0 cc1 c2 z0 z1 z2
  obtain ⟨c0, cc1, c2, z0, z1, z2⟩ := cells3 hblk
  have hbb : Below w.heap.size w w2 := (below_new hb1).trans (hb2.mono (by omega))
  have HBB := Lib.hid hbb; have HB2 := Lib.hid hb2; have HO2 := Lib.hid ho2; clear hbb ho2 hblk
  by_cases hA3 : 8192 < (words m).length
  · have hno : o = none := by rw [HF.out, if_pos (by omega)]
    have HNO := Lib.hid hno; clear hno
    go_wp2
    refine bodyPost_ret (v := .tuple #[dyV D.zero none 0, .bool false]) (by simp [results, Tryz.results125, go_sem, dyV, D.zero, words_zero, c0, cc1, c2]) rfl ?_
    rw [HNO.out]
    exact ⟨dyV D.zero none 0, rfl, ⟨none, 0, rfl, by rw [show (outO none).m = 0 from rfl, words_zero]; exact Own.none _ _ _⟩, below_wr3 HBB.out (Nat.le_refl _)⟩
  · have hso : o = some ⟨s, m, e + k⟩ := by rw [HF.out, if_neg (by omega)]
    have HSO := Lib.hid hso; clear hso
    go_wp2
    refine bodyPost_ret (v := .tuple #[dyV ⟨s, m, e + k⟩ a2 cp, .bool true]) (by simp [results, Tryz.results125, go_sem, dyV, c0, cc1, c2]) rfl ?_
    refine ⟨dyV ⟨s, m, e + k⟩ a2 cp, by rw [HSO.out]; rfl, ⟨a2, cp, by rw [HSO.out]; rfl, ?_⟩, below_wr3 HBB.out (Nat.le_refl _)⟩
    rw [HSO.out]
    exact (own_wr3 HO2.out (by omega)).mono (by omega)
end Go.Proofs.YteahdgbokjbgcaaGreatDoor
namespace Go.Proofs.YteahdgbokjbgcaaGreatDoor
open Go.RowKit
set_option linter.unusedVariables false
set_option linter.unusedSimpArgs false

/-- a Dyad as it is handed in -/
structure Arg where
  s : Bool
  a : Option Addr
  l : List Nat
  c : Nat
  e : Int
def Arg.v (x : Arg) : Value := .agg #[.bool x.s, .slice x.a x.l.length x.c, .int .i64 x.e]
structure Arg.Ok (w : World) (x : Arg) : Prop where
  sl : Sl w x.a x.c x.l
  len : x.l.length ≤ 1073741824
  lo : -9223372036854775808 ≤ x.e
  hi : x.e ≤ 9223372036854775807
theorem Arg.Ok.grow {w w' : World} {x : Arg} (h : x.Ok w) (hb : Below w.heap.size w w') : x.Ok w' := ⟨h.sl.grow hb, h.len, h.lo, h.hi⟩
def Arg.F (x : Arg) : Option D := formF x.s (num x.l) x.e
/-- a Dyad that came out, as it is handed in again -/
def argOf (d : D) (a : Option Addr) (c : Nat) : Arg := ⟨d.neg, a, words d.m, c, d.exp⟩

/-- the three cells of a Dyad -/
def Cel (w : World) (g : Nat) (v0 v1 v2 : Value) : Prop := w.heap[g]? = some (.cells #[v0, v1, v2] 46 (0, 0))
theorem Cel.facts {w : World} {g : Nat} {v0 v1 v2 : Value} (h : Cel w g v0 v1 v2) :
    w.cell? ⟨g, 0, none⟩ = some v0 ∧ w.cell? ⟨g, 1, none⟩ = some v1 ∧ w.cell? ⟨g, 2, none⟩ = some v2 ∧ w.frozen? ⟨g, 0, none⟩ = false ∧ w.frozen? ⟨g, 1, none⟩ = false ∧ w.frozen? ⟨g, 2, none⟩ = false := cells3 h
theorem Cel.below {B g : Nat} {w w' : World} {v0 v1 v2 : Value} (h : Cel w g v0 v1 v2) (hb : Below B w w') (hg : g < B) : Cel w' g v0 v1 v2 := by
  unfold Cel; rw [hb.block _ hg]; exact h
theorem Cel.new (w : World) (v0 v1 v2 : Value) : Cel (w.alloc (.cells #[v0, v1, v2] 46)) w.heap.size v0 v1 v2 := heap_alloc_new _ _
theorem Cel.lt {w : World} {g : Nat} {v0 v1 v2 : Value} (h : Cel w g v0 v1 v2) : g < w.heap.size := (Array.getElem?_eq_some_iff.1 h).1
theorem Cel.set0 {w : World} {g : Nat} {v0 v1 v2 : Value} (h : Cel w g v0 v1 v2) (u : Value) : Cel (w.setCell ⟨g, 0, none⟩ u) g u v1 v2 := by
  unfold Cel; rw [heap_setCell_same w g 0 _ _ u h]; rfl
theorem Cel.set1 {w : World} {g : Nat} {v0 v1 v2 : Value} (h : Cel w g v0 v1 v2) (u : Value) : Cel (w.setCell ⟨g, 1, none⟩ u) g v0 u v2 := by
  unfold Cel; rw [heap_setCell_same w g 1 _ _ u h]; rfl
theorem Cel.set2 {w : World} {g : Nat} {v0 v1 v2 : Value} (h : Cel w g v0 v1 v2) (u : Value) : Cel (w.setCell ⟨g, 2, none⟩ u) g v0 v1 u := by
  unfold Cel; rw [heap_setCell_same w g 2 _ _ u h]; rfl
theorem Cel.other {w : World} {g : Nat} {v0 v1 v2 : Value} (h : Cel w g v0 v1 v2) {a : Addr} (ha : a.block ≠ g) (u : Value) : Cel (w.setCell a u) g v0 v1 v2 := by
  unfold Cel; rw [heap_setCell_other _ _ _ _ (fun e => ha e.symm)]; exact h
theorem Cel.wr {w : World} {g : Nat} {v0 v1 v2 : Value} (h : Cel w g v0 v1 v2) (u0 u1 u2 : Value) : Cel (wr3 w g u0 u1 u2) g u0 u1 u2 := ((h.set0 u0).set1 u1).set2 u2
theorem Cel.drew {w : World} {g : Nat} {v0 v1 v2 : Value} (h : Cel w g v0 v1 v2) : Cel w.drew g v0 v1 v2 := h
theorem Cel.alloc {w : World} {g : Nat} {v0 v1 v2 : Value} (h : Cel w g v0 v1 v2) (o : Obj) : Cel (w.alloc o) g v0 v1 v2 := h.below ((Below.refl w.heap.size w).alloc (Nat.le_refl _) o) h.lt


section
variable {w w1 W : World} {B g g' n : Nat} {v0 v1 v2 a0 a1 a2 : Value}
theorem cel_wr_same (hW : W = wr3 w1 g v0 v1 v2) (h : Cel w1 g a0 a1 a2) : Cel W g v0 v1 v2 := hW ▸ h.wr v0 v1 v2
theorem below_wr (hW : W = wr3 w1 g v0 v1 v2) (h : Below B w w1) (hg : B ≤ g) : Below B w W := hW ▸ below_wr3 h hg
theorem own_wr {e : TypeId} {base c : Nat} {a : Option Addr} {l : List Nat} (hW : W = wr3 w1 g v0 v1 v2) (h : Own w1 e base a c l) (hg : g < base) : Own W e base a c l := hW ▸ own_wr3 h hg
theorem cel_call (hb : Below B w1 W) (h : Cel w1 g a0 a1 a2) (hg : g < B) : Cel W g a0 a1 a2 := h.below hb hg
theorem below_call {B' : Nat} (hb : Below B' w1 W) (h : Below B w w1) (hB : B ≤ B') : Below B w W := h.trans (hb.mono hB)
theorem own_call {e : TypeId} {base c : Nat} {a : Option Addr} {l : List Nat} (hb : Below w1.heap.size w1 W) (h : Own w1 e base a c l) : Own W e base a c l := h.grow hb
theorem new_of {vs : Array Value} {T : TypeId} (hW : W = w.alloc (.cells vs T)) (hn : w.heap.size = n) : W.heap[n]? = some (.cells vs T (0, 0)) ∧ Below n w W ∧ W.heap.size = n + 1 := by
  subst hW; subst hn
  exact ⟨heap_alloc_new _ _, (Below.refl _ _).alloc (Nat.le_refl _) _, World.size_alloc _ _⟩
theorem new_cel (hW : W = w.alloc (.cells #[v0, v1, v2] 46)) (hn : w.heap.size = n) : Cel W n v0 v1 v2 ∧ Below n w W ∧ W.heap.size = n + 1 := new_of hW hn
theorem own_drew {e : TypeId} {base c : Nat} {a : Option Addr} {l : List Nat} (h : Own w e base a c l) : Own w.drew e base a c l := h
theorem cel_drewN_eq {k : Nat} (hW : W = w1.drewN k) (h : Cel w1 g v0 v1 v2) : Cel W g v0 v1 v2 := hW ▸ h
theorem below_drewN_eq {k : Nat} (hW : W = w1.drewN k) (h : Below B w w1) : Below B w W := hW ▸ below_drewN' h
theorem own_drewN_eq {k : Nat} {e : TypeId} {base c : Nat} {a : Option Addr} {l : List Nat} (hW : W = w1.drewN k) (h : Own w1 e base a c l) : Own W e base a c l := hW ▸ h
end
end Go.Proofs.YteahdgbokjbgcaaGreatDoor
namespace Go.Proofs.YteahdgbokjbgcaaGreatDoor
open Go.RowKit
set_option linter.unusedVariables false
set_option linter.unusedSimpArgs false

set_option maxRecDepth 10000 in
set_option maxHeartbeats 1000000 in
theorem dmake_any (s : Bool) (a : Option Addr) (c : Nat) (l : List Nat) (e : Int) (w : World) (hx : Arg.Ok w ⟨s, a, l, c, e⟩) (hT : Tab w) :
    Calls Tryz.prog 197 #[.bool s, .slice a l.length c, .int .i64 e] w fun en w' => Came w w' (formF s (num l) e) en := by
  obtain ⟨h1, h2, h3, h4⟩ := hx
  obtain ⟨w0, hw0⟩ : ∃ w0, w0 = w.alloc (.cells #[.bool false, .slice none 0 0, .int .i64 0] 46) := ⟨_, rfl⟩
  have hb0 : Below w.heap.size w w0 := by rw [hw0]; exact (Below.refl _ _).alloc (Nat.le_refl _) _
  have hF := dform_any s a c l e w0 (by dsimp only at h2; omega) h1.w32 (h1.rd.grow hb0) h3 h4 (hT.grow hb0)
  rw [hw0] at hF
  have HF := Lib.hid hF; clear hF
  go_enter Tryz.func197, Tryz.ntmps197
  go_wp2_with fail
  refine HF.out.mono ?_; rintro en w1 ⟨v, rfl, ⟨a1, c1, rfl, ho⟩, hb⟩
  rw [World.size_alloc] at hb ho
  have hc := (Cel.new w (.bool false) (.slice none 0 0) (.int .i64 0)).below hb (by omega)
  obtain ⟨c0, cc1, c2, z0, z1, z2⟩ := hc.facts
  simp only [dyV]
  go_wp2
  refine bodyPost_ret (v := .tuple #[dyV (outO (formF s (num l) e)) a1 c1, .int .i64 (errO (formF s (num l) e))]) (by simp [results, Tryz.results197, go_sem, dyV, c0, cc1, c2]) rfl ?_
  exact ⟨_, rfl, ⟨a1, c1, rfl, (own_wr3 ho (by omega)).mono (by omega)⟩, below_wr3 (below_new hb) (Nat.le_refl _)⟩

set_option maxRecDepth 10000 in
set_option maxHeartbeats 1000000 in
theorem told_any (s : Bool) (a : Option Addr) (c : Nat) (l : List Nat) (e : Int) (w : World) (hx : Arg.Ok w ⟨s, a, l, c, e⟩) :
    Calls Tryz.prog 183 #[.bool s, .slice a l.length c, .int .i64 e] w fun en w' => Came w w' (formF s (num l) e) en := by
  obtain ⟨h1, h2, h3, h4⟩ := hx
  obtain ⟨w0, hw0⟩ : ∃ w0, w0 = w.alloc (.cells #[.bool false, .slice none 0 0, .int .i64 0] 46) := ⟨_, rfl⟩
  have hb0 : Below w.heap.size w w0 := by rw [hw0]; exact (Below.refl _ _).alloc (Nat.le_refl _) _
  have hF := rform_any s a c l e w0 h2 (h1.grow hb0) h3 h4
  rw [hw0] at hF
  obtain ⟨o, ho⟩ : ∃ o, o = formF s (num l) e := ⟨_, rfl⟩
  rw [← ho] at hF ⊢
  have HF := Lib.hid hF; clear hF ho
  go_enter Tryz.func183, Tryz.ntmps183
  go_wp2_with fail
  refine HF.out.mono ?_; rintro en w1 ⟨v, rfl, ⟨a1, c1, rfl, ho⟩, hb⟩
  rw [World.size_alloc] at hb ho
  have hs := hb.size
  rw [World.size_alloc] at hs
  have hc := (Cel.new w (.bool false) (.slice none 0 0) (.int .i64 0)).below hb (by omega)
  have hcN := Cel.new w1 (.bool (outO o).neg) (.slice a1 (words (outO o).m).length c1) (.int .i64 (outO o).exp)
  have hcA := hc.alloc (.cells #[.bool (outO o).neg, .slice a1 (words (outO o).m).length c1, .int .i64 (outO o).exp] 46)
  obtain ⟨c0, cc1, c2, z0, z1, z2⟩ := hcA.facts
  obtain ⟨d0, d1, d2, y0, y1, y2⟩ := hcN.facts
  have hb2 : Below w.heap.size w (w1.alloc (.cells #[.bool (outO o).neg, .slice a1 (words (outO o).m).length c1, .int .i64 (outO o).exp] 46)) := (below_new hb).alloc (by omega) _
  have ho2 := ho.grow ((Below.refl _ _).alloc (Nat.le_refl _) (.cells #[.bool (outO o).neg, .slice a1 (words (outO o).m).length c1, .int .i64 (outO o).exp] 46))
  have HB2 := Lib.hid hb2; have HO2 := Lib.hid ho2; clear hb2 ho2 hc hcN hcA
  simp only [dyV]
  cases o with
  | none =>
    simp only [Option.isSome]
    go_wp2
    refine bodyPost_ret (v := .tuple #[dyV D.zero none 0, .int .i64 2]) (by simp [results, Tryz.results183, go_sem, dyV, D.zero, words_zero, c0, cc1, c2]) rfl ?_
    refine ⟨_, rfl, ⟨none, 0, rfl, ?_⟩, below_wr3 (g := w.heap.size) HB2.out (Nat.le_refl _)⟩
    rw [show (outO none).m = 0 from rfl, words_zero]; exact Own.none _ _ _
  | some d =>
    simp only [Option.isSome]
    go_wp2
    refine bodyPost_ret (v := .tuple #[dyV (outO (some d)) a1 c1, .int .i64 0]) (by simp [results, Tryz.results183, go_sem, dyV, c0, cc1, c2]) rfl ?_
    exact ⟨_, rfl, ⟨a1, c1, rfl, (own_wr3 HO2.out (by omega)).mono (by omega)⟩, below_wr3 HB2.out (Nat.le_refl _)⟩

set_option maxRecDepth 10000 in
set_option maxHeartbeats 1000000 in
theorem made_any (x : Arg) (w : World) (hx : x.Ok w) :
    Calls Tryz.prog 182 #[x.v] w fun en w' => CameB w w' x.F en := by
  obtain ⟨s, a, l, c, e⟩ := x
  have hbx := (Below.refl w.heap.size w).alloc (Nat.le_refl _) (.cells #[.bool s, .slice a l.length c, .int .i64 e] 46)
  have hby := hbx.alloc (by rw [World.size_alloc]; omega) (.cells #[.bool false, .slice none 0 0, .int .i64 0] 46)
  have hF := rform_any s a c l e _ hx.len (hx.sl.grow hby) hx.lo hx.hi
  have HF := Lib.hid hF; have HBY := Lib.hid hby; clear hF hbx hby hx
  simp only [Arg.v, Arg.F]
  go_enter Tryz.func182, Tryz.ntmps182
  go_wp2_with fail
  refine HF.out.mono ?_; rintro en w1 ⟨v, rfl, ⟨a1, c1, rfl, ho⟩, hb⟩
  simp only [World.size_alloc] at hb ho
  have hc := (Cel.new (w.alloc (.cells #[.bool s, .slice a l.length c, .int .i64 e] 46)) (.bool false) (.slice none 0 0) (.int .i64 0)).below hb (by simp)
  simp only [World.size_alloc] at hc
  obtain ⟨c0, cc1, c2, z0, z1, z2⟩ := hc.facts
  simp only [dyV]
  go_wp2
  refine bodyPost_ret (v := .tuple #[dyV (outO (formF s (num l) e)) a1 c1, .bool (formF s (num l) e).isSome]) (by simp [results, Tryz.results182, go_sem, dyV, c0, cc1, c2]) rfl ?_
  exact ⟨_, rfl, ⟨a1, c1, rfl, (own_wr3 ho (by omega)).mono (by omega)⟩, below_wr3 (HBY.out.trans (hb.mono (by omega))) (by omega)⟩

end Go.Proofs.YteahdgbokjbgcaaGreatDoor
namespace Go.Proofs.YteahdgbokjbgcaaGreatDoor
open Go.RowKit
set_option linter.unusedVariables false
set_option linter.unusedSimpArgs false

end Go.Proofs.YteahdgbokjbgcaaGreatDoor
namespace Go.Proofs.YteahdgbokjbgcaaGreatDoor
open Go.RowKit
set_option linter.unusedVariables false
set_option linter.unusedSimpArgs false

end Go.Proofs.YteahdgbokjbgcaaGreatDoor
