/- Steps of numbers of 64 bits in a walk: sums, differences, a NaN in its one form; contracts of sums.told, Running. No statement of the seat is proved here. -/
import Derived.Test.YthdbapibbdkclaaDoorProg
import Derived.Test.YthdbapibbdkclaaDoorFb
import Derived.Test.YthdbapibbdkclaaDoorTc
namespace Go.Proofs.YthdbapibbdkclaaDoor
open Go.RowKit
set_option linter.unusedVariables false
set_option linter.unusedSimpArgs false

/-- a number, a NaN in its one form -/
def canon (b : Nat) : Nat := if 9218868437227405312 < b % 9223372036854775808 then nan64 else b
theorem canon_nan {b : Nat} (h : 9218868437227405312 < b % 9223372036854775808) : canon b = nan64 := if_pos h
theorem canon_num {b : Nat} (h : b % 9223372036854775808 ≤ 9218868437227405312) : canon b = b := if_neg (by omega)
theorem nan64_lt : nan64 < 18446744073709551616 := by decide
theorem nan64_nan : 9218868437227405312 < nan64 % 9223372036854775808 := by decide
theorem canon_canon (b : Nat) : canon (canon b) = canon b := by
  by_cases h : 9218868437227405312 < b % 9223372036854775808
  · rw [canon_nan h, canon_nan nan64_nan]
  · rw [canon_num (show b % 9223372036854775808 ≤ 9218868437227405312 by omega), canon_num (by omega)]
theorem canon_lt {b : Nat} (h : b < 18446744073709551616) : canon b < 18446744073709551616 := by
  unfold canon; split
  · exact nan64_lt
  · exact h
theorem read_nan {b : Nat} (h : 9218868437227405312 < b % 9223372036854775808) : ∃ s f, Ieee.double.read b = .nan s f := by
  unfold Ieee.Format.read
  rw [show Ieee.double.signWeight = 9223372036854775808 from rfl, show Ieee.double.binade = 4503599627370496 from rfl, show Ieee.double.infRung = 9218868437227405312 from rfl]
  dsimp only
  rw [if_neg (by omega), if_neg (by omega), if_neg (by omega)]
  exact ⟨_, _, rfl⟩
theorem sum_nan_l (s : Bool) (f : Nat) (d : Ieee.Datum) : Ieee.Datum.sum (.nan s f) d = none := by cases d <;> rfl
theorem sum_nan_r (s : Bool) (f : Nat) (d : Ieee.Datum) : Ieee.Datum.sum d (.nan s f) = none := by cases d <;> rfl
theorem opp_nan (s : Bool) (f : Nat) : Ieee.Datum.opposite (.nan s f) = .nan (!s) f := rfl
/-- a datum that is no NaN -/
def Num (d : Ieee.Datum) : Prop := ∀ s f, d ≠ .nan s f
theorem sum_num {a b r : Ieee.Datum} (h : Ieee.Datum.sum a b = some r) : Num r := by
  intro s f hr
  subst hr
  cases a <;> cases b <;> simp [Ieee.Datum.sum] at h
theorem word_ok (s : Bool) {k : Nat} (h : k ≤ 9218868437227405312) : Ieee.double.word s k < 18446744073709551616 ∧ Ieee.double.word s k % 9223372036854775808 ≤ 9218868437227405312 := by
  unfold Ieee.Format.word
  rw [show Ieee.double.signWeight = 9223372036854775808 from rfl]
  split <;> omega
theorem nearest_ok (s : Bool) (m : Nat) (e : Int) : Ieee.double.nearest s m e < 18446744073709551616 ∧ Ieee.double.nearest s m e % 9223372036854775808 ≤ 9218868437227405312 := by
  unfold Ieee.Format.nearest
  split
  · exact word_ok s (by decide)
  · dsimp only
    exact word_ok s (Nat.min_le_right _ _)
theorem write_ok {d : Ieee.Datum} (h : Num d) : Ieee.double.write d < 18446744073709551616 ∧ Ieee.double.write d % 9223372036854775808 ≤ 9218868437227405312 := by
  cases d with
  | number s m e => exact nearest_ok s m e
  | infinity s => exact word_ok s (Nat.le_refl _)
  | nan s f => exact absurd rfl (h s f)
theorem add_none_l {x y : Nat} (h : 9218868437227405312 < x % 9223372036854775808) : Ieee.double.add x y = none := by
  obtain ⟨s, f, e⟩ := read_nan h
  unfold Ieee.Format.add; rw [e, sum_nan_l]; rfl
theorem add_none_r {x y : Nat} (h : 9218868437227405312 < y % 9223372036854775808) : Ieee.double.add x y = none := by
  obtain ⟨s, f, e⟩ := read_nan h
  unfold Ieee.Format.add; rw [e, sum_nan_r]; rfl
theorem add_ok {x y r : Nat} (h : Ieee.double.add x y = some r) : r < 18446744073709551616 ∧ r % 9223372036854775808 ≤ 9218868437227405312 := by
  unfold Ieee.Format.add at h
  obtain ⟨d, hd, rfl⟩ := Option.map_eq_some_iff.1 h
  exact write_ok (sum_num hd)
theorem addC_none {x y : Nat} (h : Ieee.double.add x y = none) : addC x y = nan64 := by unfold addC; rw [h]
theorem addC_some {x y r : Nat} (h : Ieee.double.add x y = some r) : addC x y = r := by unfold addC; rw [h]
theorem addC_canon (x y : Nat) : addC (canon x) (canon y) = addC x y := by
  by_cases hx : 9218868437227405312 < x % 9223372036854775808
  · rw [canon_nan hx, addC_none (add_none_l nan64_nan), addC_none (add_none_l hx)]
  · rw [canon_num (show x % 9223372036854775808 ≤ 9218868437227405312 by omega)]
    by_cases hy : 9218868437227405312 < y % 9223372036854775808
    · rw [canon_nan hy, addC_none (add_none_r nan64_nan), addC_none (add_none_r hy)]
    · rw [canon_num (show y % 9223372036854775808 ≤ 9218868437227405312 by omega)]
theorem addC_lt (x y : Nat) : addC x y < 18446744073709551616 := by
  cases h : Ieee.double.add x y with
  | none => rw [addC_none h]; exact nan64_lt
  | some r => rw [addC_some h]; exact (add_ok h).1
theorem canon_addC (x y : Nat) : canon (addC x y) = addC x y := by
  cases h : Ieee.double.add x y with
  | none => rw [addC_none h, canon_nan nan64_nan]
  | some r => rw [addC_some h, canon_num (add_ok h).2]
/-- a number with its sign turned -/
def turnB (b : Nat) : Nat := if 9223372036854775808 ≤ b then b - 9223372036854775808 else b + 9223372036854775808
theorem turnB_lt {b : Nat} (h : b < 18446744073709551616) : turnB b < 18446744073709551616 := by unfold turnB; split <;> omega
theorem turnB_mod (b : Nat) (h : b < 18446744073709551616) : turnB b % 9223372036854775808 = b % 9223372036854775808 := by unfold turnB; split <;> omega
theorem read_turn {b : Nat} (h : b < 18446744073709551616) : Ieee.double.read (turnB b) = (Ieee.double.read b).opposite := by
  unfold Ieee.Format.read
  rw [show Ieee.double.signWeight = 9223372036854775808 from rfl]
  dsimp only
  rw [turnB_mod b h]
  have hs : (turnB b / 9223372036854775808 % 2 == 1) = !(b / 9223372036854775808 % 2 == 1) := by
    unfold turnB
    by_cases h1 : 9223372036854775808 ≤ b
    · rw [if_pos h1, show b / 9223372036854775808 % 2 = 1 by omega, show (b - 9223372036854775808) / 9223372036854775808 % 2 = 0 by omega]; rfl
    · rw [if_neg h1, show b / 9223372036854775808 % 2 = 0 by omega, show (b + 9223372036854775808) / 9223372036854775808 % 2 = 1 by omega]; rfl
  rw [hs]
  split
  · rfl
  · split
    · rfl
    · split <;> rfl
theorem sub_turn {x y : Nat} (hy : y < 18446744073709551616) : Ieee.double.sub x y = Ieee.double.add x (turnB y) := by
  unfold Ieee.Format.sub Ieee.Format.add; rw [read_turn hy]
def subC (x y : Nat) : Nat := addC x (turnB y)
theorem subC_canon {x y : Nat} (hy : y < 18446744073709551616) : subC (canon x) (canon y) = subC x y := by
  unfold subC
  rw [← addC_canon x (turnB y), ← addC_canon (canon x) (turnB (canon y)), canon_canon]
  congr 1
  by_cases h : 9218868437227405312 < y % 9223372036854775808
  · rw [canon_nan h, canon_nan (b := turnB y) (by rw [turnB_mod y hy]; exact h)]; decide
  · rw [canon_num (b := y) (by omega)]
theorem canon_subC (x y : Nat) : canon (subC x y) = subC x y := canon_addC _ _

/-- what a step leaves: bits, and the world, in which one answer may have been drawn -/
structure StepR (v : Nat) (W : World) (r : Nat) (W' : World) : Prop where
  can : canon r = v
  lt : r < 18446744073709551616
  wo : W' = W ∨ W' = W.drew
theorem StepR.below {v r : Nat} {W W' w : World} {B : Nat} (h : StepR v W r W') (hb : Below B w W) : Below B w W' := by
  rcases h.wo with e | e
  · rw [e]; exact hb
  · rw [e]; exact hb.drew
theorem nan_bits (W : World) (x y : Nat) : 9218868437227405312 < (Question.nanBits .f64 x y).cut (W.tape W.drawn (.nanBits .f64 x y)) % 9223372036854775808 ∧ (Question.nanBits .f64 x y).cut (W.tape W.drawn (.nanBits .f64 x y)) < 18446744073709551616 := by
  have h : ∀ t, (Question.nanBits .f64 x y).cut t = (t % 2) * 9223372036854775808 + 9218868437227405312 + 1 + (t / 2) % 4503599627370495 := fun t => rfl
  rw [h]
  generalize W.tape W.drawn (.nanBits .f64 x y) = t
  have h1 := Nat.mod_lt t (show 0 < 2 by decide)
  have h2 := Nat.mod_lt (t / 2) (show 0 < 4503599627370495 by decide)
  generalize t / 2 % 4503599627370495 = u at *
  generalize t % 2 = s at *
  omega
theorem run_arith {op : BinOp} {x y r : Nat} (W : World) (h : (match op with | .add => Ieee.double.add x y | .sub => Ieee.double.sub x y | .mul => Ieee.double.mul x y | .quo => Ieee.double.div x y | _ => none) = some r) : (binOp op 36 (.float .f64 x) (.float .f64 y)).run Tryd.prog W = .ok (.float .f64 r) W := by
  cases op <;> simp only at h <;> first | (cases h; done) | skip
  all_goals (have hd : FloatKind.f64.format = Ieee.double := rfl; simp [binOp, Op.floatArith, hd, h])
theorem run_add (x y : Nat) (W : World) : ∃ r W', (binOp .add 36 (.float .f64 x) (.float .f64 y)).run Tryd.prog W = .ok (.float .f64 r) W' ∧ StepR (addC x y) W r W' := by
  cases h : Ieee.double.add x y with
  | some r => exact ⟨r, W, run_arith (op := .add) W h, by rw [addC_some h]; exact canon_num (add_ok h).2, (add_ok h).1, .inl rfl⟩
  | none =>
    have hh : FloatKind.f64.format.add x y = none := h
    obtain ⟨n1, n2⟩ := nan_bits W x y
    refine ⟨_, W.drew, ?_, by rw [addC_none h]; exact canon_nan n1, n2, .inr rfl⟩
    simp [binOp, Op.floatArith, hh, Question.forced]
theorem run_sub (x y : Nat) (hy : y < 18446744073709551616) (W : World) : ∃ r W', (binOp .sub 36 (.float .f64 x) (.float .f64 y)).run Tryd.prog W = .ok (.float .f64 r) W' ∧ StepR (subC x y) W r W' := by
  have hst := sub_turn (x := x) hy
  cases h : Ieee.double.add x (turnB y) with
  | some r => exact ⟨r, W, run_arith (op := .sub) W (by rw [h] at hst; exact hst), by unfold subC; rw [addC_some h]; exact canon_num (add_ok h).2, (add_ok h).1, .inl rfl⟩
  | none =>
    have hh : FloatKind.f64.format.sub x y = none := by rw [h] at hst; exact hst
    obtain ⟨n1, n2⟩ := nan_bits W x y
    refine ⟨_, W.drew, ?_, by unfold subC; rw [addC_none h]; exact canon_nan n1, n2, .inr rfl⟩
    simp [binOp, Op.floatArith, hh, Question.forced]
theorem run_neqN {x y : Nat} (W : World) (h : 9218868437227405312 < x % 9223372036854775808) : (binOp .neq 36 (.float .f64 x) (.float .f64 y)).run Tryd.prog W = .ok (.bool true) W := by
  have e : (binOp .neq 36 (.float .f64 x) (.float .f64 y)).run Tryd.prog W = .ok (.bool (FloatKind.f64.format.order x y != some .eq)) W := rfl
  obtain ⟨s, f, er⟩ := read_nan h
  have eo : FloatKind.f64.format.order x y = none := by
    show Ieee.double.order x y = none
    unfold Ieee.Format.order
    rw [er]
    cases Ieee.double.read y <;> rfl
  rw [e, eo]; rfl

set_option maxRecDepth 10000 in
set_option maxHeartbeats 1000000 in
theorem stold_any (x : Nat) (w : World) (hx : x < 18446744073709551616) : Calls Tryd.prog 92 #[.float .f64 x] w fun en w' => en = .returned (.float .f64 (canon x)) ∧ w = w' := by
  by_cases h : 9218868437227405312 < x % 9223372036854775808
  · have h1 := fun W => run_neqN (y := x) W h
    rw [canon_nan h]
    clear h
    go_enter Tryd.func92, Tryd.ntmps92
    go_wp2_with fail
    refine (pnan_any w).mono ?_; rintro en w1 ⟨rfl, rfl⟩
    go_wp2_with fail
    go_ret
    exact ⟨rfl, rfl⟩
  · have hk : x % 9223372036854775808 ≤ 9218868437227405312 := by omega
    have h1 := fun W => run_neq64 W hx hx hk hk rfl
    rw [canon_num hk]
    clear h hk hx
    go_enter Tryd.func92, Tryd.ntmps92
    go_wp2_with fail
    go_ret
    exact ⟨rfl, rfl⟩

/-- from the first to the last -/
def runC : List Nat → Nat
  | [] => 0
  | x :: l => l.foldl addC (canon x)
theorem fold_snoc (f : Nat → Nat → Nat) (s : Nat) (l : List Nat) {k : Nat} (hk : k < l.length) : (l.take (k + 1)).foldl f s = f ((l.take k).foldl f s) (l.getD k 0) := by
  rw [take_succ_get (x := l.getD k 0) (by rw [List.getD_eq_getElem?_getD, List.getElem?_eq_getElem hk]; rfl), List.foldl_append]; rfl
theorem fold_can (s : Nat) : ∀ l : List Nat, canon s = s → canon (l.foldl addC s) = l.foldl addC s
  | [], h => h
  | x :: l, _ => by rw [List.foldl_cons]; exact fold_can _ l (canon_addC _ _)

set_option maxRecDepth 10000 in
set_option maxHeartbeats 4000000 in
theorem running_any (a : Option Addr) (c : Nat) (l : List Nat) (w : World) (hl : FSl w a c l) (hlen : l.length ≤ 17592186044416) :
    Calls Tryd.prog 43 #[.slice a l.length c] w fun en w' => en = .returned (.float .f64 (runC l)) ∧ Below w.heap.size w w' := by
  cases l with
  | nil =>
    go_enter Tryd.func43, Tryd.ntmps43
    go_wp2_with fail
    go_ret
    exact ⟨rfl, Below.refl _ _⟩
  | cons x l =>
    have HWf := Lib.hid (w64_getD hl.wf)
    have HL := Lib.hid (fun W (hw : Below w.heap.size w W) => hl.rd.grow hw)
    obtain ⟨b, off, rfl, hc0⟩ := hl.rd.at (i := 0) (by simp)
    have hx : x < 18446744073709551616 := by have := HWf.out 0; simpa using this
    simp only [List.getD_cons_zero, Nat.add_zero] at hc0
    simp only [List.length_cons] at hlen ⊢
    have HX := Lib.hid hx
    clear hl hx
    go_enter Tryd.func43, Tryd.ntmps43
    go_wp2_with fail
    go_loopw [3, 4, 14] (fun s ii i wr => ∃ (k r : Nat), k ≤ l.length ∧ i = .int .i64 k ∧ s = .float .f64 r ∧ Hid (canon r = (l.take k).foldl addC (canon x) ∧ r < 18446744073709551616 ∧ Below w.heap.size w wr)) (fun _ _ i _ => l.length - (intOf i).toNat)
    case atStart => exact ⟨0, x, Nat.zero_le _, rfl, rfl, by simp, HX.out, Below.refl _ _⟩
    case round =>
      obtain ⟨k, r, hk, rfl, rfl, hH⟩ := hrel
      by_cases hq : k < l.length
      · have hcell := (HL.out wr hH.out.2.2).cells (i := k + 1) (by simp; omega)
        rw [List.getD_cons_succ] at hcell
        have hbd := HWf.out (k + 1)
        rw [List.getD_cons_succ] at hbd
        have hs := fold_snoc addC (canon x) l hq
        obtain ⟨y, hy⟩ : ∃ y, y = l.getD k 0 := ⟨_, rfl⟩
        rw [← hy] at hcell hbd hs
        obtain ⟨r', W', hrun, hst⟩ := run_add r y wr
        obtain ⟨m, hm⟩ : ∃ m, m = k + 1 := ⟨_, rfl⟩
        rw [← hm] at hcell hs
        have e1 : IntKind.i64.wrap ((k : Int) + 1) = (m : Int) := by rw [IntKind.wrap_i64]; omega
        have hml : m < l.length + 1 := by omega
        have HS : Hid (canon r' = (l.take m).foldl addC (canon x) ∧ r' < 18446744073709551616 ∧ Below w.heap.size w W') := by
          refine ⟨?_, hst.lt, hst.below hH.out.2.2⟩
          rw [hst.can, hs, ← addC_canon, hH.out.1, ← addC_canon (List.foldl addC (canon x) (l.take k)) y, fold_can _ _ (canon_canon _)]
        have HM := Lib.hid hm
        clear hst hy hs hm hbd
        go_wp2_with fail
        go_roundw
        case rel => exact ⟨m, r', by have := HM.out; omega, by first | rfl | (have := HM.out; go_num), rfl, HS.out⟩
        case measure => have := HM.out; simp [intOf]; omega
      · obtain rfl : l.length = k := by omega
        have HT := Lib.hid (stold_any r wr hH.out.2.1)
        have hv := hH.out.1
        rw [List.take_length] at hv
        have HV := Lib.hid hv
        have HB := Lib.hid hH.out.2.2
        clear hv hH
        go_wp2_with fail
        refine HT.out.mono ?_; rintro en w1 ⟨rfl, rfl⟩
        go_wp2_with fail
        go_ret
        rw [HV.out]
        exact ⟨rfl, HB.out⟩
end Go.Proofs.YthdbapibbdkclaaDoor
