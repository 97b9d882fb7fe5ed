/- Contract of sums.Halving. Contracts: math.Ldexp at 1, 100; steelyardlaw10.live. Contract of sums.Blocked; 'make' of values. No statement of the seat is proved here. -/
import Derived.Test.YthdbapibbdkclaaDoorProg
import Derived.Test.YthdbapibbdkclaaDoorMT
import Derived.Test.YthdbapibbdkclaaDoorMP
namespace Go.Proofs.YthdbapibbdkclaaDoor
open Go.RowKit
set_option linter.unusedVariables false
set_option linter.unusedSimpArgs false

theorem FRd.take {w : World} {a : Option Addr} {l : List Nat} (h : FRd w a l) (k : Nat) : FRd w a (l.take k) := fun i x hx => by
  rw [List.getElem?_take] at hx
  split at hx
  · exact h i x hx
  · cases hx
theorem FRd.drop {w : World} {b off : Nat} {l : List Nat} (h : FRd w (some ⟨b, off, none⟩) l) (k : Nat) : FRd w (some ⟨b, off + k, none⟩) (l.drop k) := fun i x hx => by
  rw [List.getElem?_drop] at hx
  obtain ⟨b', off', e, h2⟩ := h _ x hx
  cases e
  exact ⟨b, off + k, rfl, by rw [Nat.add_assoc]; exact h2⟩
theorem FSl.take {w : World} {a : Option Addr} {c : Nat} {l : List Nat} (h : FSl w a c l) (k : Nat) : FSl w a c (l.take k) :=
  ⟨h.rd.take k, fun x hx => h.wf x (List.mem_of_mem_take hx), by have := h.cap; rw [List.length_take]; omega, h.nil⟩
/-- a slice from a place on -/
theorem FSl.skip {w : World} {b off c : Nat} {l : List Nat} (h : FSl w (some ⟨b, off, none⟩) c l) {k : Nat} (hk : k ≤ l.length) :
    ∃ A, (if c = k then (some ⟨b, off, none⟩ : Option Addr) else some ⟨b, off + k, none⟩) = some A ∧ FSl w (some A) (c - k) (l.drop k) := by
  have hw : W64L (l.drop k) := fun x hx => h.wf x (List.mem_of_mem_drop hx)
  have hc : (l.drop k).length ≤ c - k := by have := h.cap; rw [List.length_drop]; omega
  by_cases hck : c = k
  · refine ⟨_, if_pos hck, ⟨?_, hw, hc, fun h => by cases h⟩⟩
    have := h.cap
    rw [List.drop_of_length_le (by omega)]
    exact FRd.nil _ _
  · exact ⟨_, if_neg hck, ⟨h.rd.drop k, hw, hc, fun h => by cases h⟩⟩
theorem FSl.grow {w w' : World} {a : Option Addr} {c : Nat} {l : List Nat} (h : FSl w a c l) (hb : Below w.heap.size w w') : FSl w' a c l := ⟨h.rd.grow hb, h.wf, h.cap, h.nil⟩

/-- sums of halves, the first one a power of two -/
inductive Hal : List Nat → Nat → Prop
  | nil : Hal [] 0
  | one (x : Nat) : Hal [x] (canon x)
  | two {l : List Nat} {j a b : Nat} : 2 ≤ l.length → 2 ^ j < l.length → l.length ≤ 2 ^ (j + 1) → Hal (l.take (2 ^ j)) a → Hal (l.drop (2 ^ j)) b → Hal l (addC a b)
theorem pow_between {n i j : Nat} (h1 : 2 ^ i < n) (h2 : n ≤ 2 ^ (i + 1)) (h3 : 2 ^ j < n) (h4 : n ≤ 2 ^ (j + 1)) : i = j := by
  have a1 : i < j + 1 := (Nat.pow_lt_pow_iff_right (a := 2) (by decide)).1 (by omega)
  have a2 : j < i + 1 := (Nat.pow_lt_pow_iff_right (a := 2) (by decide)).1 (by omega)
  omega
theorem Hal.uniq {l : List Nat} {v : Nat} (h : Hal l v) : ∀ {v' : Nat}, Hal l v' → v = v' := by
  induction h with
  | nil =>
    intro v' h'
    cases h' with
    | nil => rfl
    | two h1 => simp at h1
  | one x =>
    intro v' h'
    cases h' with
    | one => rfl
    | two h1 => simp at h1
  | two h1 h2 h3 _ _ ih1 ih2 =>
    intro v' h'
    cases h' with
    | nil => simp at h1
    | one => simp at h1
    | two k1 k2 k3 k4 k5 =>
      obtain rfl := pow_between h2 h3 k2 k3
      rw [ih1 k4, ih2 k5]
theorem Hal.can {l : List Nat} {v : Nat} (h : Hal l v) : canon v = v := by
  cases h with
  | nil => rfl
  | one x => exact canon_canon x
  | two => exact canon_addC _ _
theorem Hal.lt {l : List Nat} {v : Nat} (h : Hal l v) (hw : W64L l) : v < 18446744073709551616 := by
  cases h with
  | nil => decide
  | one x => exact canon_lt (hw x (List.mem_cons_self ..))
  | two => exact addC_lt _ _
def HalQ (l : List Nat) (w : World) (en : Ending) (w' : World) : Prop := ∃ v, en = .returned (.float .f64 v) ∧ Hal l v ∧ Below w.heap.size w w'

set_option maxRecDepth 10000 in
set_option maxHeartbeats 8000000 in
theorem halving_all (n : Nat) : ∀ (a : Option Addr) (c : Nat) (l : List Nat) (w : World), l.length ≤ n → FSl w a c l → l.length ≤ 17592186044416 → Calls Tryd.prog 44 #[.slice a l.length c] w (HalQ l w) := by
  induction n with
  | zero =>
    intro a c l w hn hl _
    obtain rfl : l = [] := List.eq_nil_of_length_eq_zero (by omega)
    go_enter Tryd.func44, Tryd.ntmps44
    go_wp2_with fail
    go_ret
    exact ⟨0, rfl, Hal.nil, Below.refl _ _⟩
  | succ n ih =>
    intro a c l w hn hl hlen
    match l, hn, hl, hlen with
    | [], hn, hl, hlen =>
      go_enter Tryd.func44, Tryd.ntmps44
      go_wp2_with fail
      go_ret
      exact ⟨0, rfl, Hal.nil, Below.refl _ _⟩
    | [x], hn, hl, hlen =>
      obtain ⟨b, off, rfl, hc0⟩ := hl.rd.at (i := 0) (by simp)
      simp only [List.getD_cons_zero, Nat.add_zero] at hc0
      have HT := Lib.hid (stold_any x w (hl.wf x (List.mem_cons_self ..)))
      clear hl ih
      go_enter Tryd.func44, Tryd.ntmps44
      go_wp2_with fail
      refine HT.out.mono ?_; rintro en w1 ⟨rfl, rfl⟩
      go_wp2_with fail
      go_ret
      exact ⟨_, rfl, Hal.one x, Below.refl _ _⟩
    | x :: y :: l', hn, hl, hlen =>
      obtain ⟨l, hll⟩ : ∃ l, l = x :: y :: l' := ⟨_, rfl⟩
      rw [← hll] at hn hl hlen ⊢
      have h2 : 2 ≤ l.length := by rw [hll]; simp
      have e0 : ((l.length : Int) == 0) = false := by rw [beq_eq_false_iff_ne]; omega
      have e1 : ((l.length : Int) == 1) = false := by rw [beq_eq_false_iff_ne]; omega
      obtain ⟨b, off, rfl, hc0⟩ := hl.rd.at (i := 0) (by omega)
      have hcap := hl.cap
      have HSl := Lib.hid hl
      have HIH := Lib.hid ih
      clear hll hc0 hl ih
      go_enter Tryd.func44, Tryd.ntmps44
      go_wp2_with fail
      go_loopw [3] (fun kk wr => ∃ k : Nat, kk = .int .i64 k ∧ k < l.length ∧ Hid ((∃ j, k = 2 ^ j) ∧ wr = w)) (fun kk _ => l.length - (intOf kk).toNat)
      case atStart => exact ⟨1, rfl, by omega, ⟨0, rfl⟩, rfl⟩
      case round =>
        obtain ⟨k, rfl, hk, hH⟩ := hrel
        have hk1 : 0 < k := by obtain ⟨j, rfl⟩ := hH.out.1; exact Nat.two_pow_pos j
        by_cases hq : 2 * k < l.length
        · go_wp2_with fail
          go_roundw
          case rel =>
            obtain ⟨j, hj⟩ := hH.out.1
            exact ⟨2 * k, by go_num, hq, ⟨j + 1, by rw [hj, Nat.pow_succ, Nat.mul_comm]⟩, hH.out.2⟩
          case measure => simp [intOf]; omega
        · obtain ⟨⟨j, hj⟩, rfl⟩ := hH.out
          have j1 : k ≤ c := by omega
          have j2 : k ≤ l.length := by omega
          obtain ⟨A, hA, hS2⟩ := HSl.out.skip j2
          have hS1 := HSl.out.take k
          have l1 : (l.take k).length = k := by rw [List.length_take]; omega
          have l2 : (l.drop k).length = l.length - k := List.length_drop
          have H1 := Lib.hid (fun W (hw : Below wr.heap.size wr W) => HIH.out (some ⟨b, off, none⟩) c (l.take k) W (by omega) (hS1.grow hw) (by omega))
          have H2 := Lib.hid (fun W (hw : Below wr.heap.size wr W) => HIH.out (some A) (c - k) (l.drop k) W (by omega) (hS2.grow hw) (by omega))
          rw [l1] at H1
          rw [l2] at H2
          have HJ : Hid (k = 2 ^ j ∧ l.length ≤ 2 ^ (j + 1)) := ⟨hj, by rw [Nat.pow_succ, ← hj]; omega⟩
          have HW1 := Lib.hid hS1.wf; have HW2 := Lib.hid hS2.wf
          have hdr : Below wr.heap.size wr wr.drew := (Below.refl _ _).drew
          clear hj hH hS1 hS2 l1 l2
          go_wp2_with fail
          go_region_with (first
            | (go_at_call 44; have hq1 := H1.out wr.drew hdr; (with_reducible refine hq1.mono ?_); clear hq1; rintro en w1 ⟨v1, rfl, hv1, hb1⟩; have HB1 : Hid (Below wr.heap.size wr w1) := hdr.trans (hb1.mono hdr.size); have HV1 := Lib.hid hv1; clear hv1 hb1)
            | (go_at_call 44; have hq1 := H2.out w1 HB1.out; (with_reducible refine hq1.mono ?_); clear hq1; rintro en w2 ⟨v2, rfl, hv2, hb2⟩; have HB2 := Lib.hid (HB1.out.trans (hb2.mono HB1.out.size)); have HV2 := Lib.hid hv2; clear hv2 hb2; obtain ⟨r, W', hrun, hst⟩ := run_add v1 v2 w2; have HST := Lib.hid hst; clear hst)
            | (go_at_call 92; have hq1 := stold_any r W' HST.out.lt; (with_reducible refine hq1.mono ?_); clear hq1; rintro en w3 ⟨rfl, rfl⟩))
          go_wp2_with fail
          go_ret
          refine ⟨addC v1 v2, by rw [← HST.out.can]; rfl, Hal.two h2 (by rw [← HJ.out.1]; omega) HJ.out.2 (by rw [← HJ.out.1]; exact HV1.out) (by rw [← HJ.out.1]; exact HV2.out), HST.out.below HB2.out⟩
theorem halving_any (a : Option Addr) (c : Nat) (l : List Nat) (w : World) (hl : FSl w a c l) (hlen : l.length ≤ 17592186044416) : Calls Tryd.prog 44 #[.slice a l.length c] w (HalQ l w) :=
  halving_all l.length a c l w (Nat.le_refl _) hl hlen
end Go.Proofs.YthdbapibbdkclaaDoor
namespace Go.Proofs.YthdbapibbdkclaaDoor
open Go.RowKit
set_option linter.unusedVariables false
set_option linter.unusedSimpArgs false

set_option maxRecDepth 10000 in
set_option maxHeartbeats 4000000 in
theorem ldexp100 (W : World) : Calls Tryd.prog 115 #[.float .f64 4607182418800017408, .int .i64 100] W fun en w' => en = .returned (.float .f64 5057542381537067008) ∧ W = w' := by
  have q1 : ∀ W, (binOp .eql 36 (.float .f64 4607182418800017408) (.float .f64 0)).run Tryd.prog W = .ok (.bool false) W := fun _ => by kernel_rfl
  have q2 : ∀ W, (binOp .mul 36 (.float .f64 4607182418800017408) (.float .f64 5057542381537067008)).run Tryd.prog W = .ok (.float .f64 5057542381537067008) W := fun _ => by kernel_rfl
  have h1 := ext_bits64 4607182418800017408
  have h2 := ext_from64 5057542381537067008
  rw [show ((4607182418800017408 : Nat) : Int) = 4607182418800017408 from rfl] at h1
  rw [show ((5057542381537067008 : Nat) : Int) = 5057542381537067008 from rfl] at h2
  have b1 : bits .and .i64 1023 2047 = 1023 := by kernel_rfl
  have b2 : bits .andNot .u64 4607182418800017408 9218868437227405312 = 0 := by kernel_rfl
  have b3 : bits .or .u64 0 5057542381537067008 = 5057542381537067008 := by kernel_rfl
  go_enter Tryd.func115, Tryd.ntmps115
  go_wp2_with fail
  refine (fl_isinf _).mono ?_; rintro en w' ⟨rfl, rfl⟩
  go_wp2_with fail
  refine (fl_isnan _).mono ?_; rintro en w' ⟨rfl, rfl⟩
  go_wp2_with fail
  refine (fl_norm _).mono ?_; rintro en w' ⟨rfl, rfl⟩
  go_wp2_with fail
  go_ret
  exact ⟨rfl, rfl⟩
set_option maxRecDepth 10000 in
set_option maxHeartbeats 2000000 in
theorem Ldexp100 (W : World) : Calls Tryd.prog 57 #[.float .f64 4607182418800017408, .int .i64 100] W fun en w' => en = .returned (.float .f64 5057542381537067008) ∧ W = w' := by
  go_enter Tryd.func57, Tryd.ntmps57
  go_wp2_with fail
  refine (ldexp100 _).mono ?_; rintro en w' ⟨rfl, rfl⟩
  go_wp2_with fail
  go_ret
  exact ⟨rfl, rfl⟩

/-- numbers in a block -/
theorem fsl_of {w : World} {g c : Nat} {l : List Nat} {T : TypeId} (h : w.heap[g]? = some (.cells (l.map fun x => Value.float .f64 x).toArray T (0, 0))) (hw : W64L l) (hc : l.length ≤ c) : FSl w (some ⟨g, 0, none⟩) c l :=
  ⟨fun i x hx => ⟨g, 0, rfl, by rw [Nat.zero_add, cell_of_row w g i _ _ _ h]; simp [hx]⟩, hw, hc, fun h => by cases h⟩
theorem pt_b100 : ptOf 5057542381537067008 = ⟨false, 2, 48, 4503599627370496⟩ := by rfl
theorem pt_nb100 : ptOf 14280914418391842816 = ⟨true, 2, 48, 4503599627370496⟩ := by rfl
theorem numT_b100 : (numT 5057542381537067008).T + (numT 14280914418391842816).T = 0 := by
  unfold numT
  rw [pt_b100, pt_nb100]
  unfold mkT sgn
  simp only [Bool.false_eq_true, if_false, if_true, show ((2 : Int) = 4) = False by simp, show ((2 : Int) = 3) = False by simp, show ((2 : Int) = 0) = False by simp]
  generalize (4503599627370496 * 2 ^ ((48 : Int) + 2148).toNat : Nat) = M
  omega
theorem of_two : ofF 4611686018427387904 = formF false 4503599627370496 (-51) := by kernel_rfl
theorem exO_two : exO ((numT 4607182418800017408).T + (numT 4607182418800017408).T) = ofF 4611686018427387904 ∧ (numT 4607182418800017408).T + (numT 4607182418800017408).T ≠ 0 := by
  rw [of_two]
  unfold numT
  rw [pt_one]
  obtain ⟨k, hk⟩ : ∃ k, k = ((-52 : Int) + 2148).toNat := ⟨_, rfl⟩
  have hk2 : (k : Int) = 2096 := by omega
  have hp := Nat.two_pow_pos k
  unfold mkT sgn
  simp only [← hk, Bool.false_eq_true, if_false, show ((2 : Int) = 4) = False by simp, show ((2 : Int) = 3) = False by simp, show ((2 : Int) = 0) = False by simp]
  clear hk
  have e1 : ((4503599627370496 * 2 ^ k : Nat) : Int) + ((4503599627370496 * 2 ^ k : Nat) : Int) = ((2 ^ (k + 1) * 4503599627370496 : Nat) : Int) := by
    rw [Nat.pow_succ]; generalize 2 ^ k = P; omega
  rw [e1]
  constructor
  · unfold exO
    rw [decide_eq_false (by omega), Int.natAbs_natCast, formF_scale]
    congr 1; omega
  · have := Nat.two_pow_pos (k + 1)
    generalize 2 ^ (k + 1) = P at *
    omega
theorem run_two (l : List Nat) (hl : l = [4607182418800017408, 5057542381537067008, 4607182418800017408, 14280914418391842816]) {r : Nat} {er : Int} (h : ExR l 0 0 0 r er) : er = 0 ∧ ∀ W, (binOp .eql 36 (.float .f64 r) (.float .f64 4611686018427387904)).run Tryd.prog W = .ok (.bool true) W := by
  have hnb : ¬ badM 0 0 0 := by
    rintro (h | h | h)
    · omega
    · omega
    · revert h; decide
  have h2 : RoundR (sumL l) 0 0 0 r er := by
    rcases h with ⟨h1, _⟩ | ⟨_, h1, _⟩ | ⟨_, _, h1⟩
    · exact absurd h1 hnb
    · rw [hl] at h1; simp at h1
    · exact h1
  obtain ⟨c1, c2, c3, c4, c5⟩ := numT_counts (b := 5057542381537067008) (by rw [pt_b100])
  obtain ⟨f1, f2, f3, f4, f5⟩ := numT_counts (b := 4607182418800017408) (by rw [pt_one])
  obtain ⟨g1, g2, g3, g4, g5⟩ := numT_counts (b := 14280914418391842816) (by rw [pt_nb100])
  have hA : sumL l = (((Ac.zero.sum (numT 4607182418800017408)).sum (numT 5057542381537067008)).sum (numT 4607182418800017408)).sum (numT 14280914418391842816) := by rw [hl]; rfl
  obtain ⟨A, hA2⟩ : ∃ A, A = sumL l := ⟨_, rfl⟩
  rw [← hA2] at h2 hA
  have hT3 : A.T = (numT 4607182418800017408).T + (numT 4607182418800017408).T := by
    rw [hA]
    show 0 + _ + _ + _ + _ = _
    have := numT_b100
    omega
  have n3 : A.nan = 0 := by rw [hA]; show 0 + _ + _ + _ + _ = _; rw [c1, f1, g1]; rfl
  have u3 : A.up = 0 := by rw [hA]; show 0 + _ + _ + _ + _ = _; rw [c2, f2, g2]; rfl
  have d3 : A.down = 0 := by rw [hA]; show 0 + _ + _ + _ + _ = _; rw [c3, f3, g3]; rfl
  have hsp : specR A 0 0 0 = (0, false, 0) := by
    unfold specR verd
    rw [if_neg (by omega), if_neg (by omega), if_neg (by omega), if_pos rfl, if_neg (by omega), if_neg (by omega), if_neg (by omega)]
    exact if_neg (by rw [hT3]; exact exO_two.2)
  unfold RoundR at h2
  rw [hsp, hT3, exO_two.1] at h2
  rcases h2 with ⟨h1, _⟩ | ⟨_, _, h1⟩
  · rcases h1 with h1 | h1
    · cases h1
    · exact absurd rfl h1
  · obtain ⟨q, hq⟩ := formF_small (s := false) (f := 4503599627370496) (e := -51) (by decide) (by decide) (by decide)
    rw [← of_two] at hq
    rw [hq] at h1
    obtain ⟨h2, h3, h4, h5⟩ := r64_own (by decide) (by decide) (by decide) hq h1
    exact ⟨h2, fun W => run_eql64 W h4 (by decide) h5 (by decide) h3⟩
theorem runC_live : runC [4607182418800017408, 5057542381537067008, 4607182418800017408, 14280914418391842816] = 0 := by kernel_rfl
theorem neuC_live : neuC [4607182418800017408, 5057542381537067008, 4607182418800017408, 14280914418391842816] = 4611686018427387904 := by kernel_rfl
theorem runC_live2 : runC [4607182418800017408, 4611686018427387904] = 4613937818241073152 := by kernel_rfl
theorem w64_live : W64L [4607182418800017408, 5057542381537067008, 4607182418800017408, 14280914418391842816] := fun x hx => by
  simp only [List.mem_cons, List.not_mem_nil, or_false] at hx
  rcases hx with rfl | rfl | rfl | rfl <;> decide
theorem w64_live2 : W64L [4607182418800017408, 4611686018427387904] := fun x hx => by
  simp only [List.mem_cons, List.not_mem_nil, or_false] at hx
  rcases hx with rfl | rfl <;> decide

set_option maxRecDepth 10000 in
set_option maxHeartbeats 8000000 in
theorem live10_any (w : World) (hT : Tab w) : Calls Tryd.prog 39 #[] w fun en w' => en = .returned (.bool true) ∧ Below w.heap.size w w' := by
  obtain ⟨l, hl⟩ : ∃ l : List Nat, l = [4607182418800017408, 5057542381537067008, 4607182418800017408, 14280914418391842816] := ⟨_, rfl⟩
  have hlen : l.length = 4 := by rw [hl]; rfl
  have hw : W64L l := by rw [hl]; exact w64_live
  have hng : ∀ W, (Op.unary .neg (.float .f64 5057542381537067008)).run Tryd.prog W = .ok (.float .f64 14280914418391842816) W := fun W => run_neg64 (by decide) W
  obtain ⟨w1, e1⟩ : ∃ W, W = w.alloc (.cells #[.float .f64 4607182418800017408, .float .f64 5057542381537067008, .float .f64 4607182418800017408, .float .f64 14280914418391842816] 36) := ⟨_, rfl⟩
  obtain ⟨k1, b1, s1⟩ := new_of e1 rfl
  have hF : FSl w1 (some ⟨w.heap.size, 0, none⟩) 4 l := fsl_of (by rw [hl]; exact k1) hw (by omega)
  have H1 := Lib.hid (fun W (hb : Below w1.heap.size w1 W) => sexact_any (some ⟨w.heap.size, 0, none⟩) 4 l 0 0 0 W (hF.grow hb) (hT.grow (b1.trans (hb.mono b1.size))))
  have H2 := Lib.hid (fun W (hb : Below w1.heap.size w1 W) => running_any (some ⟨w.heap.size, 0, none⟩) 4 l W (hF.grow hb) (by omega))
  have H3 := Lib.hid (fun W (hb : Below w1.heap.size w1 W) => neumaier_any (some ⟨w.heap.size, 0, none⟩) 4 l W (hF.grow hb) (by omega))
  have HX := Lib.hid (fun r er (h : ExR l 0 0 0 r er) => run_two l hl h)
  rw [hlen] at H1 H2 H3
  rw [show runC l = 0 by rw [hl]; exact runC_live] at H2
  rw [show neuC l = 4611686018427387904 by rw [hl]; exact neuC_live] at H3
  have H4 : Hid (∀ W, Calls Tryd.prog 43 #[.slice (some ⟨W.heap.size, 0, none⟩) 2 2] (W.alloc (.cells #[.float .f64 4607182418800017408, .float .f64 4611686018427387904] 36)) fun en w' => en = .returned (.float .f64 4613937818241073152) ∧ Below W.heap.size W w') := by
    intro W
    obtain ⟨k2, b2, s2⟩ := new_of (w := W) (W := W.alloc (.cells #[.float .f64 4607182418800017408, .float .f64 4611686018427387904] 36)) rfl rfl
    have := running_any (some ⟨W.heap.size, 0, none⟩) 2 [4607182418800017408, 4611686018427387904] _ (fsl_of k2 w64_live2 (by decide)) (by decide)
    rw [runC_live2] at this
    refine this.mono ?_
    rintro en w' ⟨rfl, hb⟩
    exact ⟨rfl, b2.trans (hb.mono b2.size)⟩
  have q0 : ∀ W, (binOp .eql 36 (.float .f64 0) (.float .f64 0)).run Tryd.prog W = .ok (.bool true) W := fun _ => by kernel_rfl
  have q2 : ∀ W, (binOp .eql 36 (.float .f64 4611686018427387904) (.float .f64 4611686018427387904)).run Tryd.prog W = .ok (.bool true) W := fun _ => by kernel_rfl
  have q3 : ∀ W, (binOp .eql 36 (.float .f64 4613937818241073152) (.float .f64 4613937818241073152)).run Tryd.prog W = .ok (.bool true) W := fun _ => by kernel_rfl
  have HB1 := Lib.hid b1
  have E1 := Lib.hid e1
  unfold pol at H1
  clear hl hlen hw k1 b1 s1 hF e1 hT
  go_enter Tryd.func39, Tryd.ntmps39
  go_wp2_with fail
  refine (Ldexp100 _).mono ?_; rintro en w' ⟨rfl, rfl⟩
  go_wp2_with fail
  rw [← E1.out]
  refine (H1.out w1 (Below.refl _ _)).mono ?_; rintro en w2 ⟨r, er, rfl, hR, hb⟩
  obtain ⟨rfl, hq⟩ := HX.out r er hR
  have HB2 := Lib.hid hb
  clear hR hb
  go_wp2_with fail
  refine (H2.out w2 HB2.out).mono ?_; rintro en w3 ⟨rfl, hb⟩
  have HB3 := Lib.hid (HB2.out.trans (hb.mono HB2.out.size))
  clear hb
  go_wp2_with fail
  refine (H3.out w3 HB3.out).mono ?_; rintro en w4 ⟨rfl, hb⟩
  have HB4 := Lib.hid (HB3.out.trans (hb.mono HB3.out.size))
  clear hb
  go_wp2_with fail
  refine (H4.out w4).mono ?_; rintro en w5 ⟨rfl, hb⟩
  have HB5 := Lib.hid (HB1.out.trans ((HB4.out.trans (hb.mono HB4.out.size)).mono HB1.out.size))
  clear hb
  go_wp2_with fail
  go_ret
  exact ⟨rfl, HB5.out⟩
set_option maxRecDepth 10000 in
set_option maxHeartbeats 1000000 in
theorem exact10_law (a b : Nat) (w : World) :
    Calls Tryd.prog 42 #[.float .f64 a, .float .f64 b] w fun en w' => en = .returned (.bool (decide (a = b))) ∧ w = w' := by
  have h1 := ext_bits64 a
  have h2 := ext_bits64 b
  have h3 : ((a : Int) == (b : Int)) = decide (a = b) := by
    by_cases h : a = b
    · simp [h]
    · simp [h]; omega
  go_enter Tryd.func42, Tryd.ntmps42
  go_wp2
  go_ret
  exact ⟨rfl, rfl⟩
end Go.Proofs.YthdbapibbdkclaaDoor
namespace Go.Proofs.YthdbapibbdkclaaDoor
open Go.RowKit
set_option linter.unusedVariables false
set_option linter.unusedSimpArgs false

/-- 'make([]T, n)', an element one cell: the walk goes on in a world of which this is known. -/
theorem wpList_make_vals {P : Program} (w : World) {ops : Array Oper} {rest : List Oper} {o : Oper} {a : Act} {Q : Exit → Act → World → Prop}
    (hg : o.guard = none) (l c : Operand) (t : TypeId) (hop : o.op = Op.makeSlice t l c)
    (e : TypeId) (i : TypeInfo) (z : Value) (h1 : P.underlying t = some (.slice e)) (h2 : P.info? e = some i) (h3 : i.zero = some z) (hz : z.cells = #[z]) (h4 : i.size = 1) (h5 : i.bytes ≤ 8)
    (kl kc : IntKind) (L C : Int) (n : Nat) (hl : a.eval l = .int kl L) (hc : a.eval c = .int kc C) (hL : L = (n : Int)) (hC : C = (n : Int)) (b2 : n ≤ 35184372088832)
    (hK : ∀ w', VBlk w' e w.heap.size (List.replicate n z) → Below w.heap.size w w' → w'.heap.size = w.heap.size + 1 → wpList P ops Q rest (a.put o.dst (.slice (some ⟨w.heap.size, 0, none⟩) n n)) w') :
    wpList P ops Q (o :: rest) a w := by
  refine wpList_plain hg fun K hK' => ?_
  have hb : (i.bytes : Int) * (n : Int) ≤ 281474976710656 := by
    have := Nat.mul_le_mul h5 b2
    omega
  have hr := run_make (P := P) w t e i z h1 h2 h3 kl kc n n (by omega) (Int.le_refl _) hb (by omega)
  simp only [Int.toNat_natCast, h4] at hr
  subst hL
  subst hC
  unfold Oper.wp
  simp [execOp, hop, hl, hc, hr, Result.andThen]
  refine hK' _ _ (hK _ ?_ ((Below.refl _ _).alloc (Nat.le_refl _) _) (by simp))
  unfold VBlk
  rw [heap_alloc_new]
  congr 2
  apply Array.toList_inj.1
  rw [hz, toList_madeCells_one]
theorem info_f64W : (Tryd.prog.info? 36).map (fun i => (i.zero, i.size, i.bytes)) = some (some (.float .f64 0), 1, 8) := by kernel_rfl
theorem info_f64 : ∃ i, Tryd.prog.info? 36 = some i ∧ i.zero = some (.float .f64 0) ∧ i.size = 1 ∧ i.bytes ≤ 8 := by
  have h := info_f64W
  cases hi : Tryd.prog.info? 36 with
  | none => rw [hi] at h; cases h
  | some i =>
    rw [hi] at h
    simp only [Option.map_some, Option.some.injEq, Prod.mk.injEq] at h
    exact ⟨i, rfl, h.1, h.2.1, by omega⟩
def fv (b : Nat) : Value := .float .f64 b

/-- a block's sum -/
def chC (l : List Nat) (size i : Nat) : Nat := runC ((l.drop (i * size)).take (min l.length ((i + 1) * size) - i * size))
def blkC (l : List Nat) (size : Nat) : Nat := runC ((List.range ((l.length + size - 1) / size)).map (chC l size))
def BlR (l : List Nat) (size : Int) (r : Nat) (er : Int) : Prop :=
  ((size < 1 ∨ 65536 < size) ∧ r = 0 ∧ er = 1) ∨ ((1 ≤ size ∧ size ≤ 65536) ∧ 65536 < l.length ∧ r = 0 ∧ er = 2) ∨ ((1 ≤ size ∧ size ≤ 65536) ∧ l.length ≤ 65536 ∧ r = blkC l size.toNat ∧ er = 0)
def BlQ (l : List Nat) (size : Int) (w : World) (en : Ending) (w' : World) : Prop := ∃ (r : Nat) (er : Int), en = .returned (.tuple #[.float .f64 r, .int .i64 er]) ∧ BlR l size r er ∧ Below w.heap.size w w'
theorem runC_lt {l : List Nat} (hw : W64L l) : runC l < 18446744073709551616 := by
  cases l with
  | nil => decide
  | cons x l =>
    unfold runC
    show l.foldl addC (canon x) < _
    rcases List.eq_nil_or_concat l with rfl | ⟨l', y, rfl⟩
    · exact canon_lt (hw x (List.mem_cons_self ..))
    · rw [List.concat_eq_append, List.foldl_append]; exact addC_lt _ _
/-- so many blocks are done -/
def blDone (f : Nat → Nat) (n k : Nat) : List Nat := (List.range n).map fun i => if i < k then f i else 0
theorem blDone_zero (f : Nat → Nat) (n : Nat) : blDone f n 0 = List.replicate n 0 := by
  unfold blDone
  apply List.ext_getElem?
  intro i
  by_cases hi : i < n
  · rw [List.getElem?_map, List.getElem?_range hi, List.getElem?_replicate, if_pos hi]; simp
  · rw [List.getElem?_eq_none (by simp; omega), List.getElem?_eq_none (by simp; omega)]
theorem blDone_all (f : Nat → Nat) (n : Nat) : blDone f n n = (List.range n).map f := by
  unfold blDone
  apply List.map_congr_left
  intro i hi
  rw [if_pos (List.mem_range.1 hi)]
theorem blDone_len (f : Nat → Nat) (n k : Nat) : (blDone f n k).length = n := by simp [blDone]
theorem blDone_get (f : Nat → Nat) {n k i : Nat} (hi : i < n) : (blDone f n k)[i]? = some (if i < k then f i else 0) := by
  unfold blDone; rw [List.getElem?_map, List.getElem?_range hi]; rfl
theorem blDone_set (f : Nat → Nat) {n k : Nat} (hk : k < n) : (blDone f n k).set k (f k) = blDone f n (k + 1) := by
  apply List.ext_getElem?
  intro i
  by_cases hi : i < n
  · rw [blDone_get f hi, List.getElem?_set]
    by_cases h : k = i
    · subst h; rw [if_pos rfl, if_pos (by rw [blDone_len]; exact hk), if_pos (by omega)]
    · rw [if_neg h, blDone_get f hi]
      congr 1
      by_cases h2 : i < k
      · rw [if_pos h2, if_pos (by omega)]
      · rw [if_neg h2, if_neg (by omega)]
  · rw [List.getElem?_eq_none (by simp [blDone_len]; omega), List.getElem?_eq_none (by rw [blDone_len]; omega)]
theorem VBlk.fsl {w : World} {e : TypeId} {g : Nat} {l : List Nat} (h : VBlk w e g (l.map fv)) (hw : W64L l) : FSl w (some ⟨g, 0, none⟩) l.length l :=
  ⟨fun i x hx => ⟨g, 0, rfl, by rw [Nat.zero_add]; exact h.cell (by rw [List.getElem?_map, hx]; rfl)⟩, hw, Nat.le_refl _, fun h => by cases h⟩
theorem run_storeF (b : Nat) (a : Addr) (m : Mode) (w : World) : (store a (.float .f64 b) m).run Tryd.prog w = stored Tryd.prog w a (.float .f64 b) m := run_store Tryd.prog w a _ m rfl

set_option maxRecDepth 10000 in
set_option maxHeartbeats 4000000 in
theorem blocked_any (a : Option Addr) (c : Nat) (l : List Nat) (size : Int) (w : World) (hl : FSl w a c l) :
    Calls Tryd.prog 47 #[.slice a l.length c, .int .i64 size] w (BlQ l size w) := by
  by_cases m1 : size < 1
  · go_enter Tryd.func47, Tryd.ntmps47
    go_wp2_with fail
    go_ret2
    exact ⟨0, 1, rfl, .inl ⟨.inl m1, rfl, rfl⟩, Below.refl _ _⟩
  by_cases m2 : 65536 < size
  · go_enter Tryd.func47, Tryd.ntmps47
    go_wp2_with fail
    go_ret2
    exact ⟨0, 1, rfl, .inl ⟨.inr m2, rfl, rfl⟩, Below.refl _ _⟩
  by_cases m3 : 65536 < l.length
  · go_enter Tryd.func47, Tryd.ntmps47
    go_wp2_with fail
    go_ret2
    exact ⟨0, 2, rfl, .inr (.inl ⟨by omega, m3, rfl, rfl⟩), Below.refl _ _⟩
  obtain ⟨s, rfl⟩ : ∃ s : Nat, size = (s : Int) := ⟨size.toNat, by omega⟩
  obtain ⟨n, hn⟩ : ∃ n, n = (l.length + s - 1) / s := ⟨_, rfl⟩
  obtain ⟨i0, hi, hz0, hz1, hz2⟩ := info_f64
  have s0 : s ≠ 0 := by omega
  have hnl : n ≤ 65536 + 65536 := by
    rw [hn]
    exact Nat.le_trans (Nat.div_le_self _ _) (by omega)
  have hdv : ((l.length : Int) + (s : Int) - 1) / (s : Int) = (n : Int) := by
    rw [show (l.length : Int) + (s : Int) - 1 = ((l.length + s - 1 : Nat) : Int) by omega, hn]; exact (Int.natCast_ediv _ _).symm
  have HN := Lib.hid hn
  have HWf := Lib.hid hl.wf
  have HL := Lib.hid (fun W (hw : Below w.heap.size w W) => hl.grow hw)
  have hs1 : 1 ≤ s := by omega
  have hs2 : s ≤ 65536 := by omega
  have hlen : l.length ≤ 65536 := by omega
  have hin : ∀ k, k < n → k * s < l.length := by
    intro k hk
    rw [hn] at hk
    have h1 := (Nat.le_div_iff_mul_le (show 0 < s by omega)).1 (Nat.succ_le_of_lt hk)
    rw [Nat.succ_mul] at h1
    omega
  have HIN := Lib.hid hin
  clear hn hl hin
  go_enter Tryd.func47, Tryd.ntmps47
  go_wp2_with (first | (at_make; refine wpList_make_vals _ rfl _ _ 33 rfl 36 i0 (.float .f64 0) Tryd.underlying33 hi hz0 rfl hz1 hz2 _ _ _ _ n rfl rfl hdv hdv (by omega) ?_; intro w1 hk1 hb1 hsz1))
  have HK1 : Hid (VBlk w1 36 w.heap.size ((blDone (chC l s) n 0).map fv)) := by
    rw [blDone_zero, List.map_replicate]; exact hk1
  have HB1 := Lib.hid hb1
  clear hk1 hb1 hsz1
  go_loopw [7, 27] (fun ii i wr => ∃ k : Nat, k ≤ n ∧ i = .int .i64 k ∧ Hid (VBlk wr 36 w.heap.size ((blDone (chC l s) n k).map fv) ∧ Below w.heap.size w wr)) (fun _ i _ => n - (intOf i).toNat)
  case atStart => exact ⟨0, Nat.zero_le _, rfl, HK1.out, HB1.out⟩
  case round =>
    obtain ⟨k, hk, rfl, hH⟩ := hrel
    by_cases hq : k < n
    · have hlo := HIN.out k hq
      obtain ⟨lo, hlo'⟩ : ∃ x, x = k * s := ⟨_, rfl⟩
      obtain ⟨hi', hhi⟩ : ∃ x, x = (k + 1) * s := ⟨_, rfl⟩
      obtain ⟨top, htop⟩ : ∃ x, x = min l.length hi' := ⟨_, rfl⟩
      have hle : hi' = lo + s := by rw [hhi, hlo', Nat.succ_mul]
      rw [← hlo'] at hlo
      have q1 : IntKind.i64.wrap ((k : Int) * (s : Int)) = (lo : Int) := by
        rw [show (k : Int) * (s : Int) = (lo : Int) by rw [hlo']; simp, IntKind.wrap_i64]; omega
      have q2 : IntKind.i64.wrap (((k : Int) + 1) * (s : Int)) = (hi' : Int) := by
        rw [show ((k : Int) + 1) * (s : Int) = (hi' : Int) by rw [hhi]; simp, IntKind.wrap_i64]; omega
      have q3 : ∀ ts tt W, (Builtin.min_ ts tt #[.int .i64 l.length, .int .i64 hi']).run Tryd.prog W = .ok (.int .i64 top) W := by
        intro ts tt W
        rw [htop, Nat.min_def]
        simp [Builtin.min_, Builtin.min2]
        split <;> split <;> first | rfl | omega
      have t1 : lo ≤ top := by omega
      have t2 : top ≤ l.length := by omega
      have hF := HL.out wr hH.out.2
      obtain ⟨b, off, rfl, hc0⟩ := hF.rd.at (i := 0) (by omega)
      obtain ⟨A, hA, hF2⟩ := hF.skip (k := lo) (by omega)
      have hcap := hF.cap
      rw [if_neg (by omega)] at hA
      cases hA
      have hF3 := hF2.take (top - lo)
      have hl3 : ((l.drop lo).take (top - lo)).length = top - lo := by simp; omega
      have hch : chC l s k = runC ((l.drop lo).take (top - lo)) := by unfold chC; rw [← hlo', ← hhi, ← htop]
      have hR := fun W (hw : Below wr.heap.size wr W) => running_any (some ⟨b, off + lo, none⟩) (c - lo) ((l.drop lo).take (top - lo)) W (hF3.grow hw) (by omega)
      rw [hl3, ← hch] at hR
      have hv := runC_lt hF3.wf
      rw [← hch] at hv
      have HR := Lib.hid (hR wr (Below.refl _ _))
      have HS := Lib.hid (blDone_set (chC l s) hq)
      have hcell := hH.out.1.cell (i := k) (x := fv 0) (by rw [List.getElem?_map, blDone_get _ hq, if_neg (Nat.lt_irrefl k)]; rfl)
      have hfr := hH.out.1.frozen k
      obtain ⟨v, hvv⟩ : ∃ v, v = chC l s k := ⟨_, rfl⟩
      rw [← hvv] at HR HS hv
      have hst := run_storeF v
      have t3 : top ≤ c := by omega
      have t4 : lo ≤ c := by omega
      have HH := Lib.hid hH.out
      unfold fv at hcell
      clear hlo' hhi htop hle hF hF2 hF3 hl3 hch hR hvv hc0 hH hcell hfr hv
      go_wp2_with fail
      refine HR.out.mono ?_; rintro en w3 ⟨rfl, hb⟩
      have hk3 : VBlk w3 36 w.heap.size ((blDone (chC l s) n k).map fv) := HH.out.1.grow hb
      have HB3 : Hid (Below w.heap.size w w3) := HH.out.2.trans (hb.mono HH.out.2.size)
      have HK3 := Lib.hid hk3
      have hcell := hk3.cell (i := k) (x := fv 0) (by rw [List.getElem?_map, blDone_get _ hq, if_neg (Nat.lt_irrefl k)]; rfl)
      have hfr := hk3.frozen k
      unfold fv at hcell
      clear hb hk3 HR
      go_wp2_with fail
      go_roundw
      case rel =>
        refine ⟨k + 1, by omega, by go_num, ?_, HB3.out.setCell (Nat.le_refl _) _⟩
        have := HK3.out.set k (fv v)
        rw [← List.map_set, HS.out] at this
        exact this
      case measure => simp [intOf]; omega
    · obtain rfl : n = k := by omega
      have hw : W64L (blDone (chC l s) n n) := by
        intro x hx
        rw [blDone_all] at hx
        obtain ⟨i, _, rfl⟩ := List.mem_map.1 hx
        exact runC_lt (fun y hy => HWf.out y (List.mem_of_mem_drop (List.mem_of_mem_take hy)))
      have hR := running_any (some ⟨w.heap.size, 0, none⟩) n (blDone (chC l s) n n) wr (by have := hH.out.1.fsl hw; rw [blDone_len] at this; exact this) (by rw [blDone_len]; omega)
      rw [blDone_len, blDone_all] at hR
      have HR := Lib.hid hR
      have HB := Lib.hid hH.out.2
      clear hR hw hH hq hk
      go_wp2_with fail
      refine HR.out.mono ?_; rintro en w3 ⟨rfl, hb⟩
      have HB3 : Hid (Below w.heap.size w w3) := HB.out.trans (hb.mono HB.out.size)
      clear hb
      go_wp2_with fail
      go_ret2
      refine ⟨_, 0, rfl, .inr (.inr ⟨by omega, hlen, ?_, rfl⟩), HB3.out⟩
      unfold blkC
      rw [Int.toNat_natCast, ← HN.out]
end Go.Proofs.YthdbapibbdkclaaDoor
