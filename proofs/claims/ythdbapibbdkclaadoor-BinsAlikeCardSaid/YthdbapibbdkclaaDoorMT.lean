/- Contracts of sums.Kahan, Neumaier: the steps, way.sum. Slices of values of whatever kind: what can be read, blocks, slices of the call's own, append. Contracts: policy.May of whatever policy, sums.Exact, sums.Halving. No statement of the seat is proved here. -/
import Derived.Test.YthdbapibbdkclaaDoorProg
import Derived.Test.YthdbapibbdkclaaDoorMS
import Derived.Test.YthdbapibbdkclaaDoorBase
import Derived.Deep.AppendSrc
namespace Go.Proofs.YthdbapibbdkclaaDoor
open Go.RowKit
set_option linter.unusedVariables false
set_option linter.unusedSimpArgs false

/-- two numbers, each a NaN in its one form -/
def StepQ (v : Nat × Nat) (w : World) (en : Ending) (w' : World) : Prop := ∃ r1 r2, en = .returned (.tuple #[.float .f64 r1, .float .f64 r2]) ∧ canon r1 = v.1 ∧ canon r2 = v.2 ∧ r1 < 18446744073709551616 ∧ r2 < 18446744073709551616 ∧ Below w.heap.size w w'
def EndQ (v : Nat) (w : World) (en : Ending) (w' : World) : Prop := ∃ r, en = .returned (.float .f64 r) ∧ canon r = v ∧ r < 18446744073709551616 ∧ Below w.heap.size w w'
def kStep (s c x : Nat) : Nat × Nat := (addC s (subC x c), subC (subC (addC s (subC x c)) s) (subC x c))
/-- the greater size first; a NaN is none -/
def geA (s x : Nat) : Bool := decide (s % 9223372036854775808 ≤ 9218868437227405312) && decide (x % 9223372036854775808 ≤ 9218868437227405312) && decide (x % 9223372036854775808 ≤ s % 9223372036854775808)
def nStep (s c x : Nat) : Nat × Nat := (addC s x, addC c (if geA s x = true then addC (subC s (addC s x)) x else addC (subC x (addC s x)) s))
theorem StepR.addW {x y v r a b : Nat} {W W' : World} (h : StepR v W r W') (e : v = addC x y) (hx : canon x = a) (hy : canon y = b) : canon r = addC a b := by
  rw [h.can, e, ← hx, ← hy, addC_canon]
theorem StepR.subW {x y v r a b : Nat} {W W' : World} (h : StepR v W r W') (e : v = subC x y) (hx : canon x = a) (hy : canon y = b) (hl : y < 18446744073709551616) : canon r = subC a b := by
  rw [h.can, e, ← hx, ← hy, subC_canon hl]

set_option maxRecDepth 10000 in
set_option maxHeartbeats 2000000 in
theorem kstep_any (s c x : Nat) (w : World) (hs : s < 18446744073709551616) (hc : c < 18446744073709551616) (hx : x < 18446744073709551616) :
    Calls Tryd.prog 93 #[.float .f64 s, .float .f64 c, .float .f64 x] w (StepQ (kStep (canon s) (canon c) (canon x)) w) := by
  obtain ⟨y, W1, h1, q1⟩ := run_sub x c hc w
  obtain ⟨t, W2, h2, q2⟩ := run_add s y W1
  obtain ⟨u, W3, h3, q3⟩ := run_sub t s hs W2
  obtain ⟨v, W4, h4, q4⟩ := run_sub u y q1.lt W3
  have HB := Lib.hid (q4.below (q3.below (q2.below (q1.below (Below.refl w.heap.size w)))))
  have e1 := q1.subW rfl rfl rfl hc
  have e2 := q2.addW rfl rfl e1
  have e3 := q3.subW rfl e2 rfl hs
  have e4 := q4.subW rfl e3 e1 q1.lt
  have HE := Lib.hid (And.intro e2 (And.intro e4 (And.intro q2.lt q4.lt)))
  clear q1 q2 q3 q4 e1 e2 e3 e4 hs hc hx
  go_enter Tryd.func93, Tryd.ntmps93
  go_wp2_with fail
  go_ret2
  exact ⟨t, v, rfl, HE.out.1, HE.out.2.1, HE.out.2.2.1, HE.out.2.2.2, HB.out⟩
set_option maxRecDepth 10000 in
theorem kend_any (s c : Nat) (w : World) (hs : s < 18446744073709551616) (hc : c < 18446744073709551616) : Calls Tryd.prog 94 #[.float .f64 s, .float .f64 c] w (EndQ (canon s) w) := by
  go_enter Tryd.func94, Tryd.ntmps94
  go_wp2_with fail
  go_ret
  exact ⟨s, rfl, rfl, hs, Below.refl _ _⟩
set_option maxRecDepth 10000 in
theorem nend_any (s c : Nat) (w : World) (hs : s < 18446744073709551616) (hc : c < 18446744073709551616) : Calls Tryd.prog 98 #[.float .f64 s, .float .f64 c] w (EndQ (addC (canon s) (canon c)) w) := by
  obtain ⟨y, W1, h1, q1⟩ := run_add s c w
  have HB := Lib.hid (q1.below (Below.refl w.heap.size w))
  have HE := Lib.hid (And.intro (q1.addW rfl rfl rfl) q1.lt)
  clear q1
  go_enter Tryd.func98, Tryd.ntmps98
  go_wp2_with fail
  go_ret
  exact ⟨y, rfl, HE.out.1, HE.out.2, HB.out⟩
/-- a number without its sign -/
theorem abs_bits {x : Nat} (hx : x < 18446744073709551616) : bits .andNot .u64 (x : Int) 9223372036854775808 = ((x % 9223372036854775808 : Nat) : Int) := by
  show IntKind.u64.wrap ((BitVec.ofInt 64 (x : Int) &&& ~~~ BitVec.ofInt 64 9223372036854775808).toNat : Int) = _
  rw [show ~~~ BitVec.ofInt 64 9223372036854775808 = BitVec.ofNat 64 9223372036854775807 from by decide, BitVec.toNat_and]
  have h1 : (BitVec.ofInt 64 (x : Int)).toNat = x := by
    rw [BitVec.toNat_ofInt]; omega
  have h2 : (BitVec.ofNat 64 9223372036854775807).toNat = 2 ^ 63 - 1 := by decide
  rw [h1, h2, Nat.and_two_pow_sub_one_eq_mod]
  exact wrap_u64_nat _ (by omega)
set_option maxRecDepth 10000 in
theorem abs_any (x : Nat) (w : World) (hx : x < 18446744073709551616) : Calls Tryd.prog 97 #[.float .f64 x] w fun en w' => en = .returned (.float .f64 (x % 9223372036854775808)) ∧ w = w' := by
  have h1 := ext_bits64 x
  have h2 := ext_from64 (x % 9223372036854775808)
  have b1 := abs_bits hx
  have HX := Lib.hid hx
  clear hx
  generalize x % 9223372036854775808 = y at *
  go_enter Tryd.func97, Tryd.ntmps97
  go_wp2_with fail
  go_ret
  exact ⟨rfl, rfl⟩
theorem run_geqA (s x : Nat) (W : World) : (binOp .geq 36 (.float .f64 (s % 9223372036854775808)) (.float .f64 (x % 9223372036854775808))).run Tryd.prog W = .ok (.bool (geA s x)) W := by
  have e : (binOp .geq 36 (.float .f64 (s % 9223372036854775808)) (.float .f64 (x % 9223372036854775808))).run Tryd.prog W = .ok (.bool (FloatKind.f64.format.order (s % 9223372036854775808) (x % 9223372036854775808) == some .gt || FloatKind.f64.format.order (s % 9223372036854775808) (x % 9223372036854775808) == some .eq)) W := rfl
  rw [e]
  have hs := Nat.mod_lt s (show 0 < 9223372036854775808 by decide)
  have hx := Nat.mod_lt x (show 0 < 9223372036854775808 by decide)
  unfold geA
  generalize s % 9223372036854775808 = a at *
  generalize x % 9223372036854775808 = b at *
  by_cases h1 : a ≤ 9218868437227405312
  · by_cases h2 : b ≤ 9218868437227405312
    · rw [order64 (by omega) (by omega) (by omega) (by omega)]
      have fa : fV a = (numV 52 a : Int) := by unfold fV; rw [decide_eq_false (by omega), Nat.mod_eq_of_lt hs]; rfl
      have fb : fV b = (numV 52 b : Int) := by unfold fV; rw [decide_eq_false (by omega), Nat.mod_eq_of_lt hx]; rfl
      rw [fa, fb, decide_eq_true h1, decide_eq_true h2]
      rcases Nat.lt_trichotomy a b with h | h | h
      · have := numV_lt (h := 52) h
        rw [cmpZ_lt (by omega), decide_eq_false (show ¬ b ≤ a by omega)]; rfl
      · rw [h, cmpZ_self, decide_eq_true (Nat.le_refl b)]; rfl
      · have := numV_lt (h := 52) h
        rw [cmpZ_gt (by omega), decide_eq_true (show b ≤ a by omega)]; rfl
    · obtain ⟨q, f, er⟩ := read_nan (b := b) (by omega)
      have eo : FloatKind.f64.format.order a b = none := by
        show Ieee.double.order a b = none
        unfold Ieee.Format.order
        rw [er]
        cases Ieee.double.read a <;> rfl
      rw [eo, decide_eq_false h2, Bool.and_false]; rfl
  · obtain ⟨q, f, er⟩ := read_nan (b := a) (by omega)
    have eo : FloatKind.f64.format.order a b = none := by
      show Ieee.double.order a b = none
      unfold Ieee.Format.order
      rw [er]
      cases Ieee.double.read b <;> rfl
    rw [eo, decide_eq_false h1]; rfl
theorem geA_canon (s x : Nat) : geA (canon s) (canon x) = geA s x := by
  unfold geA
  have hn : nan64 % 9223372036854775808 = 9221120237041090560 := by decide
  by_cases hs : 9218868437227405312 < s % 9223372036854775808
  · rw [canon_nan hs, hn, decide_eq_false (show ¬ s % 9223372036854775808 ≤ 9218868437227405312 by omega)]; rfl
  · rw [canon_num (show s % 9223372036854775808 ≤ 9218868437227405312 by omega)]
    by_cases hx : 9218868437227405312 < x % 9223372036854775808
    · rw [canon_nan hx, hn, decide_eq_false (show ¬ x % 9223372036854775808 ≤ 9218868437227405312 by omega), Bool.and_false]; simp
    · rw [canon_num (show x % 9223372036854775808 ≤ 9218868437227405312 by omega)]

set_option maxRecDepth 10000 in
set_option maxHeartbeats 2000000 in
theorem nstep_any (s c x : Nat) (w : World) (hs : s < 18446744073709551616) (hc : c < 18446744073709551616) (hx : x < 18446744073709551616) :
    Calls Tryd.prog 96 #[.float .f64 s, .float .f64 c, .float .f64 x] w (StepQ (nStep (canon s) (canon c) (canon x)) w) := by
  obtain ⟨R, hR⟩ : ∃ R, R = nStep (canon s) (canon c) (canon x) := ⟨_, rfl⟩
  rw [← hR]
  unfold nStep at hR
  rw [geA_canon] at hR
  obtain ⟨t, W1, h1, q1⟩ := run_add s x w
  have e1 := q1.addW rfl rfl rfl
  have hg := run_geqA s x W1
  have HA := Lib.hid (fun W => abs_any s W hs)
  have HX := Lib.hid (fun W => abs_any x W hx)
  cases hq : geA s x with
  | true =>
    rw [hq] at hR hg
    rw [if_pos rfl] at hR
    obtain ⟨u, W2, h2, q2⟩ := run_sub s t q1.lt W1
    obtain ⟨v, W3, h3, q3⟩ := run_add u x W2
    obtain ⟨y, W4, h4, q4⟩ := run_add c v W3
    have HB := Lib.hid (q4.below (q3.below (q2.below (q1.below (Below.refl w.heap.size w)))))
    have e2 := q2.subW rfl rfl e1 q1.lt
    have e3 := q3.addW rfl e2 rfl
    have e4 := q4.addW rfl rfl e3
    have HE : Hid (canon t = R.1 ∧ canon y = R.2 ∧ t < 18446744073709551616 ∧ y < 18446744073709551616) := by rw [hR]; exact ⟨e1, e4, q1.lt, q4.lt⟩
    clear q1 q2 q3 q4 e1 e2 e3 e4 hs hc hx hR hq
    generalize s % 9223372036854775808 = sa at *
    generalize x % 9223372036854775808 = xa at *
    go_enter Tryd.func96, Tryd.ntmps96
    go_wp2_with fail
    refine (HA.out _).mono ?_; rintro en w2 ⟨rfl, rfl⟩
    go_wp2_with fail
    refine (HX.out _).mono ?_; rintro en w2 ⟨rfl, rfl⟩
    go_wp2_with fail
    go_ret2
    exact ⟨t, y, rfl, HE.out.1, HE.out.2.1, HE.out.2.2.1, HE.out.2.2.2, HB.out⟩
  | false =>
    rw [hq] at hR hg
    rw [if_neg (by decide)] at hR
    obtain ⟨u, W2, h2, q2⟩ := run_sub x t q1.lt W1
    obtain ⟨v, W3, h3, q3⟩ := run_add u s W2
    obtain ⟨y, W4, h4, q4⟩ := run_add c v W3
    have HB := Lib.hid (q4.below (q3.below (q2.below (q1.below (Below.refl w.heap.size w)))))
    have e2 := q2.subW rfl rfl e1 q1.lt
    have e3 := q3.addW rfl e2 rfl
    have e4 := q4.addW rfl rfl e3
    have HE : Hid (canon t = R.1 ∧ canon y = R.2 ∧ t < 18446744073709551616 ∧ y < 18446744073709551616) := by rw [hR]; exact ⟨e1, e4, q1.lt, q4.lt⟩
    clear q1 q2 q3 q4 e1 e2 e3 e4 hs hc hx hR hq
    generalize s % 9223372036854775808 = sa at *
    generalize x % 9223372036854775808 = xa at *
    go_enter Tryd.func96, Tryd.ntmps96
    go_wp2_with fail
    refine (HA.out _).mono ?_; rintro en w2 ⟨rfl, rfl⟩
    go_wp2_with fail
    refine (HX.out _).mono ?_; rintro en w2 ⟨rfl, rfl⟩
    go_wp2_with fail
    go_ret2
    exact ⟨t, y, rfl, HE.out.1, HE.out.2.1, HE.out.2.2.1, HE.out.2.2.2, HB.out⟩

/-- a way: from the first to the last -/
def wayC (f : Nat → Nat → Nat → Nat × Nat) (l : List Nat) : Nat × Nat := l.foldl (fun p x => f p.1 p.2 (canon x)) (0, 0)
theorem way_snoc (f : Nat → Nat → Nat → Nat × Nat) (l : List Nat) {k : Nat} (hk : k < l.length) : wayC f (l.take (k + 1)) = f (wayC f (l.take k)).1 (wayC f (l.take k)).2 (canon (l.getD k 0)) := by
  unfold wayC
  rw [take_succ_get (x := l.getD k 0) (by rw [List.getD_eq_getElem?_getD, List.getElem?_eq_getElem hk]; rfl), List.foldl_append]; rfl
def kahC (l : List Nat) : Nat := (wayC kStep l).1
def neuC (l : List Nat) : Nat := addC (wayC nStep l).1 (wayC nStep l).2

set_option maxRecDepth 10000 in
set_option maxHeartbeats 4000000 in
theorem kahansum_any (a : Option Addr) (c : Nat) (l : List Nat) (w : World) (hl : FSl w a c l) (hlen : l.length ≤ 17592186044416) :
    Calls Tryd.prog 95 #[.agg #[.func (Fn.func 93) #[] #[], .func (Fn.func 94) #[] #[]], .slice a l.length c] w fun en w' => en = .returned (.float .f64 (kahC l)) ∧ Below w.heap.size w w' := by
  have HWf := Lib.hid (w64_getD hl.wf)
  obtain ⟨w1, e1⟩ : ∃ W, W = w.alloc (.cells #[.func (Fn.func 93) #[] #[], .func (Fn.func 94) #[] #[]] 125) := ⟨_, rfl⟩
  obtain ⟨k1, b1, s1⟩ := new_of e1 rfl
  have HL := Lib.hid (fun W (hw : Below w1.heap.size w1 W) => hl.rd.grow (b1.trans (hw.mono b1.size)))
  have HK : Hid (∀ W, Below w1.heap.size w1 W → W.cell? ⟨w.heap.size, 0, none⟩ = some (.func (Fn.func 93) #[] #[]) ∧ W.cell? ⟨w.heap.size, 1, none⟩ = some (.func (Fn.func 94) #[] #[])) := by
    intro W hW
    have h := blk_below k1 hW (by omega)
    exact ⟨by rw [cell_of_row W _ 0 _ _ _ h]; rfl, by rw [cell_of_row W _ 1 _ _ _ h]; rfl⟩
  have HB1 := Lib.hid b1
  have E1 := Lib.hid e1
  clear hl k1 b1 e1 s1
  go_enter Tryd.func95, Tryd.ntmps95
  go_wp2_with fail
  rw [← E1.out]
  go_loopw [5, 6, 7, 10] (fun s cc ii i wr => ∃ (k r1 r2 : Nat), k ≤ l.length ∧ i = .int .i64 k ∧ s = .float .f64 r1 ∧ cc = .float .f64 r2 ∧ Hid (canon r1 = (wayC kStep (l.take k)).1 ∧ canon r2 = (wayC kStep (l.take k)).2 ∧ r1 < 18446744073709551616 ∧ r2 < 18446744073709551616 ∧ Below w1.heap.size w1 wr)) (fun _ _ _ i _ => l.length - (intOf i).toNat)
  case atStart => exact ⟨0, 0, 0, Nat.zero_le _, rfl, rfl, rfl, by simp [wayC, canon], by simp [wayC, canon], by decide, by decide, Below.refl _ _⟩
  case round =>
    obtain ⟨k, r1, r2, hk, rfl, rfl, rfl, hH⟩ := hrel
    obtain ⟨h1, h2, h3, h4, h5⟩ := hH.out
    by_cases hq : k < l.length
    · obtain ⟨bx, ox, rfl, hcx⟩ := (HL.out wr h5).at hq
      have hbx := HWf.out k
      have hs := way_snoc kStep l hq
      have HCx := Lib.hid (fun W (hw : Below w1.heap.size w1 W) => (HL.out W hw).cells hq)
      obtain ⟨x, hx⟩ : ∃ x, x = l.getD k 0 := ⟨_, rfl⟩
      rw [← hx] at hcx hbx hs HCx
      obtain ⟨kc1, kc2⟩ := HK.out wr h5
      have hS := fun W => kstep_any r1 r2 x W h3 h4 hbx
      rw [h1, h2, ← hs] at hS
      have HS := Lib.hid hS
      have H5 := Lib.hid h5
      clear h1 h2 h3 h4 h5 hH hx hs hS hbx
      go_wp2_with fail
      go_region_held3 (fun W => W.cell? ⟨w.heap.size, 0, none⟩ = some (.func (Fn.func 93) #[] #[]) ∧ W.cell? ⟨bx, ox + k, none⟩ = some (.float .f64 x)) (go_keep) (first
        | (go_at_call 93; refine (HS.out wr.drew).mono ?_; rintro en w4 ⟨t1, t2, rfl, g1, g2, g3, g4, hb⟩; have H5' := Lib.hid (H5.out.drew.trans (hb.mono H5.out.drew.size)); have hcx4 := HCx.out w4 H5'.out; have kc4 := (HK.out w4 H5'.out).1; have HG := Lib.hid (And.intro g1 (And.intro g2 (And.intro g3 g4))); clear g1 g2 g3 g4 hb))
      go_wp2_with fail
      go_roundw
      case rel => exact ⟨k + 1, t1, t2, by omega, by go_num, rfl, rfl, HG.out.1, HG.out.2.1, HG.out.2.2.1, HG.out.2.2.2, H5'.out⟩
      case measure => simp [intOf]; omega
    · obtain rfl : l.length = k := by omega
      rw [List.take_length] at h1 h2
      have hE := fun W => kend_any r1 r2 W h3 h4
      rw [h1] at hE
      have HE := Lib.hid hE
      obtain ⟨kc1, kc2⟩ := HK.out wr h5
      have H5 := Lib.hid h5
      clear h1 h2 h3 h4 h5 hH hE hq hk
      go_wp2_with fail
      refine (HE.out wr).mono ?_; rintro en w4 ⟨t1, rfl, g1, g2, hb⟩
      have H5' := Lib.hid (H5.out.trans (hb.mono H5.out.size))
      have HT := Lib.hid (stold_any t1 w4 g2)
      rw [g1] at HT
      clear g1 g2 hb
      go_wp2_with fail
      refine HT.out.mono ?_; rintro en w5 ⟨rfl, rfl⟩
      go_wp2_with fail
      go_ret
      exact ⟨rfl, HB1.out.trans (H5'.out.mono HB1.out.size)⟩
set_option maxRecDepth 10000 in
set_option maxHeartbeats 1000000 in
theorem kahan_any (a : Option Addr) (c : Nat) (l : List Nat) (w : World) (hl : FSl w a c l) (hlen : l.length ≤ 17592186044416) :
    Calls Tryd.prog 45 #[.slice a l.length c] w fun en w' => en = .returned (.float .f64 (kahC l)) ∧ Below w.heap.size w w' := by
  have HS := Lib.hid (kahansum_any a c l w hl hlen)
  clear hl
  go_enter Tryd.func45, Tryd.ntmps45
  go_wp2_with fail
  refine HS.out.mono ?_; rintro en w1 ⟨rfl, hb⟩
  have HB := Lib.hid hb
  clear hb
  go_wp2_with fail
  go_ret
  exact ⟨rfl, HB.out⟩

set_option maxRecDepth 10000 in
set_option maxHeartbeats 4000000 in
theorem neumaiersum_any (a : Option Addr) (c : Nat) (l : List Nat) (w : World) (hl : FSl w a c l) (hlen : l.length ≤ 17592186044416) :
    Calls Tryd.prog 95 #[.agg #[.func (Fn.func 96) #[] #[], .func (Fn.func 98) #[] #[]], .slice a l.length c] w fun en w' => en = .returned (.float .f64 (neuC l)) ∧ Below w.heap.size w w' := by
  have HWf := Lib.hid (w64_getD hl.wf)
  obtain ⟨w1, e1⟩ : ∃ W, W = w.alloc (.cells #[.func (Fn.func 96) #[] #[], .func (Fn.func 98) #[] #[]] 125) := ⟨_, rfl⟩
  obtain ⟨k1, b1, s1⟩ := new_of e1 rfl
  have HL := Lib.hid (fun W (hw : Below w1.heap.size w1 W) => hl.rd.grow (b1.trans (hw.mono b1.size)))
  have HK : Hid (∀ W, Below w1.heap.size w1 W → W.cell? ⟨w.heap.size, 0, none⟩ = some (.func (Fn.func 96) #[] #[]) ∧ W.cell? ⟨w.heap.size, 1, none⟩ = some (.func (Fn.func 98) #[] #[])) := by
    intro W hW
    have h := blk_below k1 hW (by omega)
    exact ⟨by rw [cell_of_row W _ 0 _ _ _ h]; rfl, by rw [cell_of_row W _ 1 _ _ _ h]; rfl⟩
  have HB1 := Lib.hid b1
  have E1 := Lib.hid e1
  clear hl k1 b1 e1 s1
  go_enter Tryd.func95, Tryd.ntmps95
  go_wp2_with fail
  rw [← E1.out]
  go_loopw [5, 6, 7, 10] (fun s cc ii i wr => ∃ (k r1 r2 : Nat), k ≤ l.length ∧ i = .int .i64 k ∧ s = .float .f64 r1 ∧ cc = .float .f64 r2 ∧ Hid (canon r1 = (wayC nStep (l.take k)).1 ∧ canon r2 = (wayC nStep (l.take k)).2 ∧ r1 < 18446744073709551616 ∧ r2 < 18446744073709551616 ∧ Below w1.heap.size w1 wr)) (fun _ _ _ i _ => l.length - (intOf i).toNat)
  case atStart => exact ⟨0, 0, 0, Nat.zero_le _, rfl, rfl, rfl, by simp [wayC, canon], by simp [wayC, canon], by decide, by decide, Below.refl _ _⟩
  case round =>
    obtain ⟨k, r1, r2, hk, rfl, rfl, rfl, hH⟩ := hrel
    obtain ⟨h1, h2, h3, h4, h5⟩ := hH.out
    by_cases hq : k < l.length
    · obtain ⟨bx, ox, rfl, hcx⟩ := (HL.out wr h5).at hq
      have hbx := HWf.out k
      have hs := way_snoc nStep l hq
      have HCx := Lib.hid (fun W (hw : Below w1.heap.size w1 W) => (HL.out W hw).cells hq)
      obtain ⟨x, hx⟩ : ∃ x, x = l.getD k 0 := ⟨_, rfl⟩
      rw [← hx] at hcx hbx hs HCx
      obtain ⟨kc1, kc2⟩ := HK.out wr h5
      have hS := fun W => nstep_any r1 r2 x W h3 h4 hbx
      rw [h1, h2, ← hs] at hS
      have HS := Lib.hid hS
      have H5 := Lib.hid h5
      clear h1 h2 h3 h4 h5 hH hx hs hS hbx
      go_wp2_with fail
      go_region_held3 (fun W => W.cell? ⟨w.heap.size, 0, none⟩ = some (.func (Fn.func 96) #[] #[]) ∧ W.cell? ⟨bx, ox + k, none⟩ = some (.float .f64 x)) (go_keep) (first
        | (go_at_call 96; refine (HS.out wr.drew).mono ?_; rintro en w4 ⟨t1, t2, rfl, g1, g2, g3, g4, hb⟩; have H5' := Lib.hid (H5.out.drew.trans (hb.mono H5.out.drew.size)); have hcx4 := HCx.out w4 H5'.out; have kc4 := (HK.out w4 H5'.out).1; have HG := Lib.hid (And.intro g1 (And.intro g2 (And.intro g3 g4))); clear g1 g2 g3 g4 hb))
      go_wp2_with fail
      go_roundw
      case rel => exact ⟨k + 1, t1, t2, by omega, by go_num, rfl, rfl, HG.out.1, HG.out.2.1, HG.out.2.2.1, HG.out.2.2.2, H5'.out⟩
      case measure => simp [intOf]; omega
    · obtain rfl : l.length = k := by omega
      rw [List.take_length] at h1 h2
      have hE := fun W => nend_any r1 r2 W h3 h4
      rw [h1, h2] at hE
      have HE := Lib.hid hE
      obtain ⟨kc1, kc2⟩ := HK.out wr h5
      have H5 := Lib.hid h5
      clear h1 h2 h3 h4 h5 hH hE hq hk
      go_wp2_with fail
      refine (HE.out wr).mono ?_; rintro en w4 ⟨t1, rfl, g1, g2, hb⟩
      have H5' := Lib.hid (H5.out.trans (hb.mono H5.out.size))
      have HT := Lib.hid (stold_any t1 w4 g2)
      rw [g1] at HT
      clear g1 g2 hb
      go_wp2_with fail
      refine HT.out.mono ?_; rintro en w5 ⟨rfl, rfl⟩
      go_wp2_with fail
      go_ret
      exact ⟨rfl, HB1.out.trans (H5'.out.mono HB1.out.size)⟩
set_option maxRecDepth 10000 in
set_option maxHeartbeats 1000000 in
theorem neumaier_any (a : Option Addr) (c : Nat) (l : List Nat) (w : World) (hl : FSl w a c l) (hlen : l.length ≤ 17592186044416) :
    Calls Tryd.prog 46 #[.slice a l.length c] w fun en w' => en = .returned (.float .f64 (neuC l)) ∧ Below w.heap.size w w' := by
  have HS := Lib.hid (neumaiersum_any a c l w hl hlen)
  clear hl
  go_enter Tryd.func46, Tryd.ntmps46
  go_wp2_with fail
  refine HS.out.mono ?_; rintro en w1 ⟨rfl, hb⟩
  have HB := Lib.hid hb
  clear hb
  go_wp2_with fail
  go_ret
  exact ⟨rfl, HB.out⟩
end Go.Proofs.YthdbapibbdkclaaDoor
namespace Go.Proofs.YthdbapibbdkclaaDoor
open Go.RowKit
set_option linter.unusedVariables false
set_option linter.unusedSimpArgs false

/-- values that can be read at an address -/
def VRd (w : World) (a : Option Addr) (l : List Value) : Prop :=
  ∀ i v, l[i]? = some v → ∃ b off, a = some ⟨b, off, none⟩ ∧ w.cell? ⟨b, off + i, none⟩ = some v
theorem VRd.nil (w : World) (a : Option Addr) : VRd w a [] := fun i x h => by simp at h
theorem VRd.take {w : World} {a : Option Addr} {l : List Value} (h : VRd w a l) (k : Nat) : VRd w a (l.take k) := fun i x hx => by
  rw [List.getElem?_take] at hx
  split at hx
  · exact h i x hx
  · cases hx
theorem VRd.drop {w : World} {b off : Nat} {l : List Value} (h : VRd w (some ⟨b, off, none⟩) l) (k : Nat) : VRd w (some ⟨b, off + k, none⟩) (l.drop k) := fun i x hx => by
  rw [List.getElem?_drop] at hx
  obtain ⟨b', off', e, h2⟩ := h _ x hx
  cases e
  exact ⟨b, off + k, rfl, by rw [Nat.add_assoc]; exact h2⟩
theorem VRd.below {B : Nat} {w w' : World} {a : Option Addr} {l : List Value} (h : VRd w a l) (hb : Below B w w') (hB : ∀ ad, a = some ad → l ≠ [] → ad.block < B) : VRd w' a l := fun i x hx => by
  obtain ⟨b, off, rfl, h2⟩ := h i x hx
  refine ⟨b, off, rfl, ?_⟩
  rw [hb.cell (p := ⟨b, off + i, none⟩) (hB ⟨b, off, none⟩ rfl (by rintro rfl; simp at hx))]; exact h2
theorem VRd.lt {w : World} {a : Option Addr} {l : List Value} (h : VRd w a l) {ad : Addr} (ha : a = some ad) (hl : l ≠ []) : ad.block < w.heap.size := by
  cases l with
  | nil => exact absurd rfl hl
  | cons x l =>
    obtain ⟨b, off, h1, h2⟩ := h 0 x rfl
    rw [h1] at ha; cases ha
    exact World.block_lt_of_cell? _ _ h2
theorem VRd.grow {w w' : World} {a : Option Addr} {l : List Value} (h : VRd w a l) (hb : Below w.heap.size w w') : VRd w' a l :=
  h.below hb fun _ ha hl => h.lt ha hl

/-- a block of cells -/
def VBlk (w : World) (e : TypeId) (g : Nat) (l : List Value) : Prop := w.heap[g]? = some (.cells l.toArray e (0, 0))
section
variable {w w' : World} {e : TypeId} {g k : Nat} {l : List Value}
theorem VBlk.cell (h : VBlk w e g l) {i : Nat} {x : Value} (hx : l[i]? = some x) : w.cell? ⟨g, i, none⟩ = some x := by
  rw [cell_of_row w g i _ e (0, 0) h]; simpa using hx
theorem VBlk.frozen (h : VBlk w e g l) (i : Nat) : w.frozen? ⟨g, i, none⟩ = false := frozen_of_row w g i _ e h
theorem VBlk.lt (h : VBlk w e g l) : g < w.heap.size := (Array.getElem?_eq_some_iff.1 h).1
theorem VBlk.set (h : VBlk w e g l) (i : Nat) (x : Value) : VBlk (w.setCell ⟨g, i, none⟩ x) e g (l.set i x) := by
  unfold VBlk
  rw [heap_setCell_same w g i _ e _ h]
  congr 2
  apply Array.toList_inj.1
  simp
theorem VBlk.other (h : VBlk w e g l) {a : Addr} (ha : a.block ≠ g) (v : Value) : VBlk (w.setCell a v) e g l := by
  unfold VBlk; rw [heap_setCell_other _ _ _ _ (fun e => ha e.symm)]; exact h
theorem VBlk.alloc (h : VBlk w e g l) (o : Obj) : VBlk (w.alloc o) e g l := by
  unfold VBlk; rw [World.alloc, Array.getElem?_push, if_neg (Nat.ne_of_lt h.lt)]; exact h
theorem VBlk.drew (h : VBlk w e g l) : VBlk w.drew e g l := h
theorem VBlk.below {B : Nat} (h : VBlk w e g l) (hb : Below B w w') (hg : g < B) : VBlk w' e g l := by
  unfold VBlk; rw [hb.block g hg]; exact h
theorem VBlk.grow (h : VBlk w e g l) (hb : Below w.heap.size w w') : VBlk w' e g l := h.below hb h.lt
theorem VBlk.grown (h : VBlk w e g l) {r : Nat} (hk : w.grownBy w' (some r)) (hne : g ≠ r) : VBlk w' e g l := (hk.block g h.lt (by simpa using hne)).trans h
theorem VBlk.rd (h : VBlk w e g l) : VRd w (some ⟨g, 0, none⟩) l := fun i x hx => ⟨g, 0, rfl, by rw [Nat.zero_add]; exact h.cell hx⟩
theorem VBlk.rdAt {p q : List Value} (h : VBlk w e g (p ++ (l ++ q))) : VRd w (some ⟨g, p.length, none⟩) l := fun i x hx => ⟨g, p.length, rfl, by
  refine h.cell ?_
  rw [List.getElem?_append_right (by omega), Nat.add_sub_cancel_left, List.getElem?_append_left (List.getElem?_eq_some_iff.1 hx).1]; exact hx⟩
theorem VBlk.setCells (g : Nat) (e : TypeId) : ∀ (vs m p t : List Value) (w : World), m.length = vs.length → VBlk w e g (p ++ (m ++ t)) → VBlk (w.setCells g p.length vs) e g (p ++ (vs ++ t))
  | [], m, p, t, w, hm, h => by
    obtain rfl : m = [] := List.eq_nil_of_length_eq_zero hm
    exact h
  | v :: vs, m, p, t, w, hm, h => by
    cases m with
    | nil => simp at hm
    | cons x m =>
      have h1 := h.set p.length v
      have h2 := VBlk.setCells g e vs m (p ++ [v]) t _ (by simpa using hm) (by simpa using h1)
      simpa [World.setCells] using h2
end
theorem vblk_alloc (w : World) (e : TypeId) (vs : Array Value) : VBlk (w.alloc (.cells vs e)) e w.heap.size vs.toList := by
  unfold VBlk; rw [heap_alloc_new]

/-- a slice in memory of its own, from a block on; sz cells an element -/
def VOwn (w : World) (e : TypeId) (sz base : Nat) (a : Option Addr) (c : Nat) (l : List Value) : Prop :=
  (a = none ∧ c = 0 ∧ l = []) ∨ ∃ g p t, a = some ⟨g, p.length, none⟩ ∧ base ≤ g ∧ l.length ≤ c * sz ∧ c * sz ≤ (l ++ t).length ∧ VBlk w e g (p ++ (l ++ t))
section
variable {w w' : World} {e : TypeId} {sz base c : Nat} {a : Option Addr} {l : List Value}
theorem VOwn.none (w : World) (e : TypeId) (sz base : Nat) : VOwn w e sz base none 0 [] := .inl ⟨rfl, rfl, rfl⟩
theorem VOwn.of {g n : Nat} (h : VBlk w e g l) (hb : base ≤ g) (hn : l.length = n * sz) : VOwn w e sz base (some ⟨g, 0, Option.none⟩) n l := .inr ⟨g, [], [], rfl, hb, by omega, by simp; omega, by simpa using h⟩
theorem VOwn.rd (h : VOwn w e sz base a c l) : VRd w a l := by
  rcases h with ⟨rfl, rfl, rfl⟩ | ⟨g, p, t, rfl, hb, h1, h2, h3⟩
  · exact VRd.nil _ _
  · exact h3.rdAt
theorem VOwn.mono {b : Nat} (h : VOwn w e sz base a c l) (hb : b ≤ base) : VOwn w e sz b a c l := by
  rcases h with h | ⟨g, p, t, h0, h1, h2⟩
  · exact .inl h
  · exact .inr ⟨g, p, t, h0, by omega, h2⟩
theorem VOwn.grow (h : VOwn w e sz base a c l) (hb : Below w.heap.size w w') : VOwn w' e sz base a c l := by
  rcases h with h | ⟨g, p, t, h0, h1, h2, h3, h4⟩
  · exact .inl h
  · exact .inr ⟨g, p, t, h0, h1, h2, h3, h4.grow hb⟩
theorem VOwn.grown (h : VOwn w e sz base a c l) {r : Nat} (hk : w.grownBy w' (some r)) (hne : ∀ ad, a = some ad → ad.block ≠ r) : VOwn w' e sz base a c l := by
  rcases h with h | ⟨g, p, t, h0, h1, h2, h3, h4⟩
  · exact .inl h
  · have := hne _ h0
    exact .inr ⟨g, p, t, h0, h1, h2, h3, h4.grown hk this⟩
theorem VOwn.ge (h : VOwn w e sz base a c l) (ad : Addr) (ha : a = some ad) : base ≤ ad.block := by
  rcases h with ⟨rfl, _⟩ | ⟨g, p, t, h0, h1, _⟩
  · cases ha
  · rw [h0] at ha; cases ha; exact h1
theorem VOwn.lt (h : VOwn w e sz base a c l) (ad : Addr) (ha : a = some ad) : ad.block < w.heap.size := by
  rcases h with ⟨rfl, _⟩ | ⟨g, p, t, h0, h1, h2, h3, h4⟩
  · cases ha
  · rw [h0] at ha; cases ha; exact h4.lt
theorem VOwn.nocap (h : VOwn w e sz base a c l) (ha : a = Option.none) : c = 0 := by
  rcases h with ⟨_, h, _⟩ | ⟨g, p, t, h0, _⟩
  · exact h
  · rw [h0] at ha; cases ha
theorem VOwn.cap (h : VOwn w e sz base a c l) : l.length ≤ c * sz := by
  rcases h with ⟨rfl, rfl, rfl⟩ | ⟨g, p, t, rfl, hb, h1, h2, h3⟩
  · simp
  · exact h1
/-- cut at its end, by so many elements kept -/
theorem VOwn.cut (h : VOwn w e sz base a c l) (k : Nat) : VOwn w e sz base a c (l.take k) := by
  rcases h with ⟨rfl, rfl, rfl⟩ | ⟨g, p, t, h0, h1, h2, h3, h4⟩
  · exact .inl ⟨rfl, rfl, by simp⟩
  · exact .inr ⟨g, p, l.drop k ++ t, h0, h1, by simp; omega, by rw [← List.append_assoc, List.take_append_drop]; exact h3, by rw [← List.append_assoc (l.take k), List.take_append_drop]; exact h4⟩
/-- cut at its front -/
theorem VOwn.skip {b off : Nat} (h : VOwn w e sz base (some ⟨b, off, Option.none⟩) c l) {k : Nat} (hk : k * sz ≤ l.length) : VOwn w e sz base (some ⟨b, off + k * sz, Option.none⟩) (c - k) (l.drop (k * sz)) := by
  rcases h with ⟨h, _⟩ | ⟨g, p, t, h0, h1, h2, h3, h4⟩
  · cases h
  · cases h0
    refine .inr ⟨b, p ++ l.take (k * sz), t, by simp [Nat.min_eq_left hk], h1, ?_, ?_, ?_⟩
    · rw [List.length_drop, Nat.sub_mul]; omega
    · rw [Nat.sub_mul]; simp at h3 ⊢; omega
    · rw [List.append_assoc, ← List.append_assoc (l.take _), List.take_append_drop]; exact h4
end

theorem grown_setCells (w : World) (g o : Nat) (vs : List Value) : w.grownBy (w.setCells g o vs) (some g) := by
  induction vs generalizing o w with
  | nil => exact World.grownBy.refl _ _
  | cons v vs ih =>
    have h1 := ih (w.setCell ⟨g, o, none⟩ v) (o + 1)
    have h2 : w.grownBy (w.setCell ⟨g, o, none⟩ v) (some g) := ⟨rfl, rfl, rfl, by simp, fun j hj hne => heap_setCell_other _ _ _ _ (fun e => hne (by simp [e]))⟩
    exact ⟨h1.os.trans h2.os, h1.tape.trans h2.tape, h1.output.trans h2.output, Nat.le_trans h2.size h1.size, fun j hj hne => (h1.block j (Nat.lt_of_lt_of_le hj h2.size) hne).trans (h2.block j hj hne)⟩

/-- 'append(own slice, readable slice)': there is room, or it grows. -/
theorem run_append_vals {P : Program} {w : World} (ty t tx : TypeId) (e e' : TypeId) (i : TypeInfo) (z : Value) (sz : Nat) (ht : P.underlying t = some (.slice e)) (htx : P.underlying tx = some (.slice e')) (hi : P.info? e = some i) (hz : i.zero = some z) (hsz : i.size = sz) (hzc : z.cells.size = sz) (h0 : 0 < sz) (hby : i.bytes ≤ 64)
    (base : Nat) (a0 a1 : Option Addr) (n c m d : Nat) (l k : List Value) (hn : l.length = n * sz) (hm : k.length = m * sz) (hone : ∀ u ∈ k, u.oneCell' = true) (hown : VOwn w e sz base a0 c l) (hr : VRd w a1 k)
    (hlen : n + m ≤ 1099511627776) (hbase : base ≤ w.heap.size) :
    ∃ a' c' w', (Builtin.append_ #[t, tx] ty #[.slice a0 n c, .slice a1 m d]).run P w = .ok (.slice a' (n + m) c') w' ∧ VOwn w' e sz base a' c' (l ++ k) ∧ w.grownBy w' (a0.map (·.block)) ∧ (a' = a0 ∨ (w.grownBy w' none ∧ ∃ g, a' = some ⟨g, 0, none⟩ ∧ w.heap.size ≤ g)) := by
  have hsrc : Src P i.size tx (.slice a1 m d) m k w := by
    rw [hsz]
    have hl : (Builtin.lenOf (.slice a1 m d)) = pure m := rfl
    cases a1 with
    | none =>
      have hk : k = [] := by
        cases k with
        | nil => rfl
        | cons y k => obtain ⟨_, _, h1, _⟩ := hr 0 y rfl; cases h1
      subst hk
      have hm0 : m = 0 := by
        rcases Nat.mul_eq_zero.1 hm.symm with h | h
        · exact h
        · omega
      subst hm0
      exact Src.ofNil w htx d
    | some ad =>
      refine Src.ofSlice w htx ad m d k hm ?_ hone
      intro j u hu
      obtain ⟨b', off', e1, e2⟩ := hr j u hu
      cases e1
      rw [Addr.add_lit]; exact e2
  have grown : ∀ old : Nat, VOwn (w.drew.alloc (.cells ((l ++ k).toArray ++ Builtin.zeroCells z.cells (grownCap w (n + m) old e - (n + m))) e)) e sz base
      (some ⟨w.heap.size, 0, none⟩) (grownCap w (n + m) old e) (l ++ k) := by
    intro old
    have hge := grownCap_ge w (n + m) old e
    have e1 : (l ++ k).length = (n + m) * sz := by rw [List.length_append, hn, hm, Nat.add_mul]
    have e2 : (Builtin.zeroCells z.cells (grownCap w (n + m) old e - (n + m))).size = (grownCap w (n + m) old e - (n + m)) * sz := by rw [size_zeroCells, hzc]
    refine .inr ⟨w.heap.size, [], (Builtin.zeroCells z.cells (grownCap w (n + m) old e - (n + m))).toList, rfl, hbase, ?_, ?_, ?_⟩
    · rw [e1]; exact Nat.mul_le_mul_right _ hge
    · have e3 : (Builtin.zeroCells z.cells (grownCap w (n + m) old e - (n + m))).toList.length = (grownCap w (n + m) old e - (n + m)) * sz := by rw [Array.length_toList]; exact e2
      rw [List.length_append, e1, e3, ← Nat.add_mul]; exact Nat.mul_le_mul_right _ (by omega)
    · unfold VBlk
      rw [show (w.drew.alloc _).heap[w.heap.size]? = _ from heap_alloc_new w.drew _]
      congr 2
      apply Array.toList_inj.1
      simp
  have gb : ∀ (o : Obj) (row : Option Nat), w.grownBy (w.drew.alloc o) row :=
    fun o row => ⟨rfl, rfl, rfl, by simp, fun k hk _ => by rw [World.alloc, Array.getElem?_push, if_neg (by simp; omega)]; rfl⟩
  have hbytes : (n + m) * i.bytes ≤ 140737488355328 := by
    have := Nat.mul_le_mul hlen hby
    omega
  have hmore : c < n + m → ∃ a' c' w', (Builtin.append_ #[t, tx] ty #[.slice a0 n c, .slice a1 m d]).run P w = .ok (.slice a' (n + m) c') w' ∧ VOwn w' e sz base a' c' (l ++ k) ∧ w.grownBy w' (a0.map (·.block)) ∧ (a' = a0 ∨ (w.grownBy w' none ∧ ∃ g, a' = some ⟨g, 0, none⟩ ∧ w.heap.size ≤ g)) := by
    intro hg
    have hold : (Builtin.firstCells i.size n (.slice a0 n c)).run P w.drew = .ok l.toArray w.drew := by
      rcases hown with ⟨rfl, rfl, rfl⟩ | ⟨g, p, tt, rfl, h1, h2, h3, h4⟩
      · have hn0 : n = 0 := by
          rcases Nat.mul_eq_zero.1 hn.symm with h | h
          · exact h
          · omega
        subst hn0
        exact run_firstCells_none _ _ _ _ _
      · refine run_firstCells_some w.drew i.size n _ n c l (by rw [hsz]; exact hn) ?_
        intro j v hv
        rw [Addr.add_lit]
        obtain ⟨b, off, e1, e2⟩ := h4.rdAt j v hv
        cases e1
        exact e2
    have hr' := run_append_grow_src (P := P) w t tx ty e i z ht hi hz a0 n c l hold (.slice a1 m d) m k hsrc hg (by omega) (growslice_fits hg hbytes)
    exact ⟨_, _, _, hr', grown c, gb _ _, .inr ⟨gb _ _, w.heap.size, rfl, Nat.le_refl _⟩⟩
  by_cases hroom : n + m ≤ c
  · rcases id hown with ⟨rfl, rfl, rfl⟩ | ⟨g, p, tt, rfl, h1, h2, h3, h4⟩
    · have hn0 : n = 0 := by omega
      have hm0 : m = 0 := by omega
      subst hn0 hm0
      have hk : k = [] := List.eq_nil_of_length_eq_zero (by omega)
      subst hk
      refine ⟨none, 0, w, ?_, VOwn.none _ _ _ _, World.grownBy.refl _ _, .inl rfl⟩
      have hh := hsrc.len w
      have hc := hsrc.cells
      rw [hsz] at hc
      simp [Builtin.append_, run_underlying ht, run_underlying htx, sizeOf, typeInfo, hi, hsz, hh, hc, storeCells]
    · have hfit : (n + m) * sz ≤ c * sz := Nat.mul_le_mul_right _ hroom
      rw [Nat.add_mul] at hfit
      have h5 : k.length ≤ tt.length := by
        rw [List.length_append] at h3
        omega
      have hat : ∀ j, j < k.length → (p ++ (l ++ tt))[p.length + n * i.size + j]? = tt[j]? := by
        intro j hj
        rw [hsz, ← hn, Nat.add_assoc, List.getElem?_append_right (by omega), Nat.add_sub_cancel_left, List.getElem?_append_right (by omega), Nat.add_sub_cancel_left]
      have hr' := run_append_room_src (P := P) w t tx ty e i ht hi g p.length n c (.slice a1 m d) m k hsrc hroom (by
        intro j hj
        obtain ⟨x, hx⟩ : ∃ x, tt[j]? = some x := ⟨tt[j], List.getElem?_eq_getElem (by omega)⟩
        rw [h4.cell ((hat j hj).trans hx)]; rfl) (fun j hj => h4.frozen _)
      refine ⟨some ⟨g, p.length, none⟩, c, _, hr', .inr ⟨g, p, tt.drop k.length, rfl, h1, ?_, ?_, ?_⟩, grown_setCells _ _ _ _, .inl rfl⟩
      · rw [List.length_append]; omega
      · rw [List.length_append] at h3 ⊢; simp; omega
      · have h6 := VBlk.setCells g e k (tt.take k.length) (p ++ l) (tt.drop k.length) w (by simp; omega) (by simpa using h4)
        rw [hsz, ← hn]
        simpa using h6
  · exact hmore (by omega)
theorem wpList_append_vals {P : Program} {w : World} {ops : Array Oper} {rest : List Oper} {o : Oper} {a : Act} {Q : Exit → Act → World → Prop} (hgd : o.guard = none) (s x : Operand) (t tx : TypeId)
    (ho : o.op = .call { callee := .builtin .append, args := #[s, x], argTypes := #[t, tx] }) (e e' : TypeId) (i : TypeInfo) (z : Value) (sz : Nat) (ht : P.underlying t = some (.slice e)) (htx : P.underlying tx = some (.slice e')) (hi : P.info? e = some i) (hz : i.zero = some z) (hsz : i.size = sz) (hzc : z.cells.size = sz) (h0 : 0 < sz) (hby : i.bytes ≤ 64)
    (base : Nat) (a0 a1 : Option Addr) (n c m d : Nat) (l k : List Value) (hs : a.eval s = .slice a0 n c) (hx : a.eval x = .slice a1 m d) (hn : l.length = n * sz) (hm : k.length = m * sz) (hone : ∀ u ∈ k, u.oneCell' = true) (hown : VOwn w e sz base a0 c l) (hr : VRd w a1 k)
    (hlen : n + m ≤ 1099511627776) (hbase : base ≤ w.heap.size)
    (h : ∀ a' c' w', VOwn w' e sz base a' c' (l ++ k) → w.grownBy w' (a0.map (·.block)) → (a' = a0 ∨ (w.grownBy w' none ∧ ∃ g, a' = some ⟨g, 0, none⟩ ∧ w.heap.size ≤ g)) → wpList P ops Q rest (a.put o.dst (.slice a' (n + m) c')) w') :
    wpList P ops Q (o :: rest) a w := by
  obtain ⟨a', c', w', hrun, h1, h2, h3⟩ := run_append_vals o.type t tx e e' i z sz ht htx hi hz hsz hzc h0 hby base a0 a1 n c m d l k hn hm hone hown hr hlen hbase
  refine wpList_plain hgd fun K hK => ?_
  unfold Oper.wp execOp
  simp only [ho, resolve, invoke, builtin, Sem.run_bind, Sem.run_pure, Result.andThen_ok, List.map_toArray, List.map_cons, List.map_nil, hs, hx, hrun]
  exact hK _ _ (h a' c' w' h1 h2 h3)
/-- the same as one step of a region that draws -/
theorem step_append_vals {P : Program} {ops : Array Oper} {o : Oper} {a : Act} {w : World} {K : Act → World → Prop} {Q : Exit → Act → World → Prop} {E : Prop} (hgd : o.guard = none) (s x : Operand) (t tx : TypeId)
    (ho : o.op = .call { callee := .builtin .append, args := #[s, x], argTypes := #[t, tx] }) (e e' : TypeId) (i : TypeInfo) (z : Value) (sz : Nat) (ht : P.underlying t = some (.slice e)) (htx : P.underlying tx = some (.slice e')) (hi : P.info? e = some i) (hz : i.zero = some z) (hsz : i.size = sz) (hzc : z.cells.size = sz) (h0 : 0 < sz) (hby : i.bytes ≤ 64)
    (base : Nat) (a0 a1 : Option Addr) (n c m d : Nat) (l k : List Value) (hs : a.eval s = .slice a0 n c) (hx : a.eval x = .slice a1 m d) (hn : l.length = n * sz) (hm : k.length = m * sz) (hone : ∀ u ∈ k, u.oneCell' = true) (hown : VOwn w e sz base a0 c l) (hr : VRd w a1 k)
    (hlen : n + m ≤ 1099511627776) (hbase : base ≤ w.heap.size)
    (h : ∀ a' c' w', VOwn w' e sz base a' c' (l ++ k) → w.grownBy w' (a0.map (·.block)) → (a' = a0 ∨ (w.grownBy w' none ∧ ∃ g, a' = some ⟨g, 0, none⟩ ∧ w.heap.size ≤ g)) → K (a.put o.dst (.slice a' (n + m) c')) w') :
    if Region.wanted o (yielded ops a.tmps) = true then Oper.wp P o a w K Q else E := by
  obtain ⟨a', c', w', hrun, h1, h2, h3⟩ := run_append_vals o.type t tx e e' i z sz ht htx hi hz hsz hzc h0 hby base a0 a1 n c m d l k hn hm hone hown hr hlen hbase
  have hw : Region.wanted o (yielded ops a.tmps) = true := by simp [Region.wanted, hgd]
  rw [if_pos hw]
  unfold Oper.wp execOp
  simp only [ho, resolve, invoke, builtin, Sem.run_bind, Sem.run_pure, Result.andThen_ok, List.map_toArray, List.map_cons, List.map_nil, hs, hx, hrun]
  exact h a' c' w' h1 h2 h3

theorem Rgrown {w w' : World} {B : Nat} {w0 : World} {r : Option Nat} (h : Below B w0 w) (hB : B ≤ w0.heap.size) (hk : w.grownBy w' r) (hr : ∀ g, r = some g → B ≤ g) : Below B w0 w' :=
  ⟨hk.os.trans h.os, hk.tape.trans h.tape, hk.output.trans h.output, Nat.le_trans h.size hk.size, fun j hj => (hk.block j (Nat.lt_of_lt_of_le hj (Nat.le_trans hB h.size)) (fun e => by have := hr j e.symm; omega)).trans (h.block j hj)⟩
theorem VOwn.grownO {w w' : World} {e : TypeId} {sz base c : Nat} {a : Option Addr} {l : List Value} (h : VOwn w e sz base a c l) {r : Option Nat} (hk : w.grownBy w' r) (hne : ∀ ad, a = some ad → r ≠ some ad.block) : VOwn w' e sz base a c l := by
  rcases h with h | ⟨g, p, t, h0, h1, h2, h3, h4⟩
  · exact .inl h
  · refine .inr ⟨g, p, t, h0, h1, h2, h3, ?_⟩
    have := hne _ h0
    unfold VBlk
    rw [hk.block g h4.lt (fun e => this e.symm)]; exact h4
theorem VOwn.drew {w : World} {e : TypeId} {sz base c : Nat} {a : Option Addr} {l : List Value} (h : VOwn w e sz base a c l) : VOwn w.drew e sz base a c l := by
  rcases h with h | ⟨g, p, t, h0, h1, h2, h3, h4⟩
  · exact .inl h
  · exact .inr ⟨g, p, t, h0, h1, h2, h3, h4⟩
theorem VOwn.row {w : World} {e : TypeId} {sz base c : Nat} {a : Option Addr} {l : List Value} (h : VOwn w e sz base a c l) : ∀ g, a.map (·.block) = some g → base ≤ g := by
  intro g hg
  obtain ⟨ad, had, rfl⟩ := Option.map_eq_some_iff.1 hg
  exact h.ge ad had
end Go.Proofs.YthdbapibbdkclaaDoor
namespace Go.Proofs.YthdbapibbdkclaaDoor
open Go.RowKit
set_option linter.unusedVariables false
set_option linter.unusedSimpArgs false

def okB (n : Int) : Bool := decide (0 ≤ n) && decide (n ≤ 2)
set_option maxRecDepth 10000 in
set_option maxHeartbeats 1000000 in
theorem choice_all (n : Int) (w : World) : Calls Tryd.prog 137 #[.int .i64 n] w fun en w' => en = .returned (.bool (okB n)) ∧ w = w' := by
  unfold okB
  by_cases h1 : 0 ≤ n
  · by_cases h2 : n ≤ 2
    · rw [decide_eq_true h1, decide_eq_true h2]
      go_enter Tryd.func137, Tryd.ntmps137
      go_wp2_with fail
      go_ret
      exact ⟨rfl, rfl⟩
    · rw [decide_eq_true h1, decide_eq_false h2]
      go_enter Tryd.func137, Tryd.ntmps137
      go_wp2_with fail
      go_ret
      exact ⟨rfl, rfl⟩
  · rw [decide_eq_false h1]
    go_enter Tryd.func137, Tryd.ntmps137
    go_wp2_with fail
    go_ret
    exact ⟨rfl, rfl⟩
def okP (pn pi : Int) : Bool := okB pn && okB pi
set_option maxRecDepth 10000 in
set_option maxHeartbeats 2000000 in
theorem may_all (pn pi : Int) (w : World) : Calls Tryd.prog 91 #[pol pn pi] w fun en w' => en = .returned (.bool (okP pn pi)) ∧ Below w.heap.size w w' := by
  have HB : Hid (Below w.heap.size w (w.alloc (.cells #[.int .i64 pn, .int .i64 pi] 59))) := (Below.refl _ _).alloc (Nat.le_refl _) _
  have h1 := fun W => choice_all pn W
  have h2 := fun W => choice_all pi W
  unfold pol okP
  have H1 := Lib.hid h1; have H2 := Lib.hid h2
  clear h1 h2
  cases hp : okB pn with
  | true =>
    rw [hp] at H1
    clear hp
    generalize okB pi = b at *
    go_enter Tryd.func91, Tryd.ntmps91
    go_wp2_with (first
      | (go_at_call 137; refine (H1.out _).mono ?_; rintro e w' ⟨rfl, rfl⟩)
      | (go_at_call 137; refine (H2.out _).mono ?_; rintro e w' ⟨rfl, rfl⟩))
    go_ret
    exact ⟨by simp, HB.out⟩
  | false =>
    rw [hp] at H1
    clear hp
    go_enter Tryd.func91, Tryd.ntmps91
    go_wp2_with (go_at_call 137; refine (H1.out _).mono ?_; rintro e w' ⟨rfl, rfl⟩)
    go_ret
    exact ⟨rfl, HB.out⟩
theorem okP_iff (pn pi : Int) : okP pn pi = true ↔ (0 ≤ pn ∧ pn ≤ 2) ∧ 0 ≤ pi ∧ pi ≤ 2 := by unfold okP okB; simp

/-- all that a list adds -/
def sumL (l : List Nat) : Ac := l.foldl (fun A b => A.sum (numT b)) Ac.zero
theorem sumL_snoc (l : List Nat) {k : Nat} (hk : k < l.length) : sumL (l.take (k + 1)) = (sumL (l.take k)).sum (numT (l.getD k 0)) := by
  unfold sumL
  rw [take_succ_get (x := l.getD k 0) (by rw [List.getD_eq_getElem?_getD, List.getElem?_eq_getElem hk]; rfl), List.foldl_append]; rfl
def badM (mode pn pi : Int) : Prop := mode < 0 ∨ 4 < mode ∨ okP pn pi = false
def ExR (l : List Nat) (mode pn pi : Int) (r : Nat) (er : Int) : Prop :=
  (badM mode pn pi ∧ r = 0 ∧ er = 1) ∨ (¬ badM mode pn pi ∧ 65536 < l.length ∧ r = 0 ∧ er = 2) ∨ (¬ badM mode pn pi ∧ l.length ≤ 65536 ∧ RoundR (sumL l) mode pn pi r er)
def ExQ (l : List Nat) (mode pn pi : Int) (w : World) (en : Ending) (w' : World) : Prop := ∃ (r : Nat) (er : Int), en = .returned (.tuple #[.float .f64 r, .int .i64 er]) ∧ ExR l mode pn pi r er ∧ Below w.heap.size w w'

set_option maxRecDepth 10000 in
set_option maxHeartbeats 4000000 in
theorem sexact_any (a : Option Addr) (c : Nat) (l : List Nat) (mode pn pi : Int) (w : World) (hl : FSl w a c l) (hT : Tab w) :
    Calls Tryd.prog 41 #[.slice a l.length c, .int .i64 mode, pol pn pi] w (ExQ l mode pn pi w) := by
  have HWf := Lib.hid (w64_getD hl.wf)
  obtain ⟨w1, e1⟩ : ∃ W, W = w.alloc (.cells #[.int .i64 pn, .int .i64 pi] 59) := ⟨_, rfl⟩
  obtain ⟨k1, b1, s1⟩ := new_of e1 rfl
  have HL := Lib.hid (fun W (hw : Below w1.heap.size w1 W) => hl.rd.grow (b1.trans (hw.mono b1.size)))
  have HT := Lib.hid (fun W (hw : Below w1.heap.size w1 W) => hT.grow (b1.trans (hw.mono b1.size)))
  have HK := Lib.hid (fun W (hw : Below w1.heap.size w1 W) => pol_cells (blk_below k1 hw (by omega)))
  obtain ⟨p0, p1⟩ := pol_cells k1
  have HM := Lib.hid (fun W => may_all pn pi W)
  have HBad : Hid (badM mode pn pi → ∀ W, Below w1.heap.size w1 W → ExQ l mode pn pi w (.returned (.tuple #[.float .f64 0, .int .i64 1])) W) := fun h W hW => ⟨0, 1, rfl, .inl ⟨h, rfl, rfl⟩, b1.trans (hW.mono b1.size)⟩
  have HB1 := Lib.hid b1
  have E1 := Lib.hid e1
  have HS1 := Lib.hid s1
  unfold pol at HM ⊢
  clear hl hT k1 b1 e1 s1
  go_enter Tryd.func41, Tryd.ntmps41
  go_upto_region 1 with fail
  rw [← E1.out]
  by_cases m1 : mode < 0
  · go_wp2_with fail
    go_ret2
    exact HBad.out (.inl m1) w1 (Below.refl _ _)
  by_cases m2 : 4 < mode
  · go_wp2_with fail
    go_ret2
    exact HBad.out (.inr (.inl m2)) w1 (Below.refl _ _)
  cases hp : okP pn pi with
  | false =>
    rw [hp] at HM
    have HPP := Lib.hid hp
    clear hp
    go_wp2_with fail
    refine (HM.out w1).mono ?_; rintro en w2 ⟨rfl, hb⟩
    have HB2 := Lib.hid hb
    clear hb
    go_wp2_with fail
    go_ret2
    exact HBad.out (.inr (.inr HPP.out)) w2 HB2.out
  | true =>
    rw [hp] at HM
    have HPP := Lib.hid ((okP_iff pn pi).1 hp)
    have HNb : Hid (¬ badM mode pn pi) := by
      rintro (h | h | h)
      · exact m1 h
      · exact m2 h
      · rw [hp] at h; cases h
    clear hp
    go_wp2_with fail
    refine (HM.out w1).mono ?_; rintro en w2 ⟨rfl, hb⟩
    have HB2 := Lib.hid hb
    clear hb p0 p1
    by_cases hlen : 65536 < l.length
    · go_wp2_with fail
      go_ret2
      exact ⟨0, 2, rfl, .inr (.inl ⟨HNb.out, hlen, rfl, rfl⟩), HB1.out.trans (HB2.out.mono HB1.out.size)⟩
    go_wp2_with fail
    refine (new_any w2).mono ?_; rintro en w3 ⟨rfl, hA, hb⟩
    obtain ⟨g, hg⟩ : ∃ g, g = w2.heap.size := ⟨_, rfl⟩
    rw [← hg] at hA ⊢
    have HU : Hid (Un w1 w3 g Ac.zero) := ⟨hA, HB2.out.trans (hb.mono HB2.out.size)⟩
    have HG : Hid (w1.heap.size ≤ g) := by rw [hg]; exact HB2.out.size
    clear hA hb hg HB2
    go_wp2_with fail
    go_loopw [10, 28] (fun xx i wr => ∃ k : Nat, k ≤ l.length ∧ i = .int .i64 k ∧ Hid (Fit k (sumL (l.take k)) ∧ Un w1 wr g (sumL (l.take k)))) (fun _ i _ => l.length - (intOf i).toNat)
    case atStart => exact ⟨0, Nat.zero_le _, rfl, fit_zero, HU.out⟩
    case round =>
      obtain ⟨k, hk, rfl, hH⟩ := hrel
      by_cases hq : k < l.length
      · obtain ⟨bx, ox, rfl, hcx⟩ := (HL.out wr hH.out.2.bel).at hq
        have hbx := HWf.out k
        have hs := sumL_snoc l hq
        obtain ⟨x, hx⟩ : ∃ x, x = l.getD k 0 := ⟨_, rfl⟩
        rw [← hx] at hcx hbx hs
        have hF2 := fit_add hH.out.1 (numT_thing x) (by omega)
        have hF := add_few x g wr hH.out.1 (by omega) hbx hH.out.2.acc
        rw [← hs] at hF hF2
        have HF := Lib.hid hF; have HF2 := Lib.hid hF2; have HUn := Lib.hid hH.out.2
        clear hx hs hF hF2 hH hbx
        go_wp2_with fail
        refine HF.out.mono ?_; rintro en w4 ⟨rfl, hA, hG⟩
        have HU4 := Lib.hid (un_next HUn.out HG.out hA hG)
        clear hA hG HF HUn
        go_wp2_with fail
        go_roundw
        case rel => exact ⟨k + 1, by omega, by go_num, HF2.out, HU4.out⟩
        case measure => simp [intOf]; omega
      · obtain rfl : l.length = k := by omega
        have hh := hH.out
        rw [List.take_length] at hh
        obtain ⟨hF, hU⟩ := hh
        obtain ⟨p1, p2⟩ := HPP.out
        have HR := Lib.hid (accround_any (sumL l) mode pn pi g wr hF.ok hU.acc (HT.out wr hU.bel) (by omega) (by omega) p1.1 p1.2 p2.1 p2.2)
        unfold pol at HR
        have HU' := Lib.hid hU
        obtain ⟨c0, c1⟩ := HK.out wr hU.bel
        clear hH hF hU p1 p2 hk hq
        go_wp2_with fail
        refine HR.out.mono ?_; rintro en w4 ⟨r, er, rfl, hRR, hb⟩
        have HX := Lib.hid hRR
        have HB4 := Lib.hid (HB1.out.trans ((HU'.out.bel.trans (hb.mono HU'.out.bel.size)).mono HB1.out.size))
        clear hRR hb c0 c1
        go_wp2_with fail
        go_ret2
        exact ⟨r, er, rfl, .inr (.inr ⟨HNb.out, by omega, HX.out⟩), HB4.out⟩
end Go.Proofs.YthdbapibbdkclaaDoor
