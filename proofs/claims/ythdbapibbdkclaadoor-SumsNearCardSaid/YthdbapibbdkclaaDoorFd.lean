/- Contracts of sums.Kahan, Neumaier: the steps, way.sum. No statement of the seat is proved here. -/
import Derived.Test.YthdbapibbdkclaaDoorProg
import Derived.Test.YthdbapibbdkclaaDoorFc
namespace Go.Proofs.YthdbapibbdkclaaDoor
open Go.RowKit
set_option linter.unusedVariables false
set_option linter.unusedSimpArgs false

/-- two numbers, each a NaN in its one form -/
def StepQ (v : Nat × Nat) (w : World) (en : Ending) (w' : World) : Prop := ∃ r1 r2, en = .returned (.tuple #[.float .f64 r1, .float .f64 r2]) ∧ canon r1 = v.1 ∧ canon r2 = v.2 ∧ r1 < 18446744073709551616 ∧ r2 < 18446744073709551616 ∧ Below w.heap.size w w'
def EndQ (v : Nat) (w : World) (en : Ending) (w' : World) : Prop := ∃ r, en = .returned (.float .f64 r) ∧ canon r = v ∧ r < 18446744073709551616 ∧ Below w.heap.size w w'
def kStep (s c x : Nat) : Nat × Nat := (addC s (subC x c), subC (subC (addC s (subC x c)) s) (subC x c))
/-- the greater size first; a NaN is none -/
def geA (s x : Nat) : Bool := decide (s % 9223372036854775808 ≤ 9218868437227405312) && decide (x % 9223372036854775808 ≤ 9218868437227405312) && decide (x % 9223372036854775808 ≤ s % 9223372036854775808)
def nStep (s c x : Nat) : Nat × Nat := (addC s x, addC c (if geA s x = true then addC (subC s (addC s x)) x else addC (subC x (addC s x)) s))
theorem StepR.addW {x y v r a b : Nat} {W W' : World} (h : StepR v W r W') (e : v = addC x y) (hx : canon x = a) (hy : canon y = b) : canon r = addC a b := by
  rw [h.can, e, ← hx, ← hy, addC_canon]
theorem StepR.subW {x y v r a b : Nat} {W W' : World} (h : StepR v W r W') (e : v = subC x y) (hx : canon x = a) (hy : canon y = b) (hl : y < 18446744073709551616) : canon r = subC a b := by
  rw [h.can, e, ← hx, ← hy, subC_canon hl]

set_option maxRecDepth 10000 in
set_option maxHeartbeats 2000000 in
theorem kstep_any (s c x : Nat) (w : World) (hs : s < 18446744073709551616) (hc : c < 18446744073709551616) (hx : x < 18446744073709551616) :
    Calls Tryd.prog 93 #[.float .f64 s, .float .f64 c, .float .f64 x] w (StepQ (kStep (canon s) (canon c) (canon x)) w) := by
  obtain ⟨y, W1, h1, q1⟩ := run_sub x c hc w
  obtain ⟨t, W2, h2, q2⟩ := run_add s y W1
  obtain ⟨u, W3, h3, q3⟩ := run_sub t s hs W2
  obtain ⟨v, W4, h4, q4⟩ := run_sub u y q1.lt W3
  have HB := Lib.hid (q4.below (q3.below (q2.below (q1.below (Below.refl w.heap.size w)))))
  have e1 := q1.subW rfl rfl rfl hc
  have e2 := q2.addW rfl rfl e1
  have e3 := q3.subW rfl e2 rfl hs
  have e4 := q4.subW rfl e3 e1 q1.lt
  have HE := Lib.hid (And.intro e2 (And.intro e4 (And.intro q2.lt q4.lt)))
  clear q1 q2 q3 q4 e1 e2 e3 e4 hs hc hx
  go_enter Tryd.func93, Tryd.ntmps93
  go_wp2_with fail
  go_ret2
  exact ⟨t, v, rfl, HE.out.1, HE.out.2.1, HE.out.2.2.1, HE.out.2.2.2, HB.out⟩
set_option maxRecDepth 10000 in
theorem kend_any (s c : Nat) (w : World) (hs : s < 18446744073709551616) (hc : c < 18446744073709551616) : Calls Tryd.prog 94 #[.float .f64 s, .float .f64 c] w (EndQ (canon s) w) := by
  go_enter Tryd.func94, Tryd.ntmps94
  go_wp2_with fail
  go_ret
  exact ⟨s, rfl, rfl, hs, Below.refl _ _⟩
set_option maxRecDepth 10000 in
theorem nend_any (s c : Nat) (w : World) (hs : s < 18446744073709551616) (hc : c < 18446744073709551616) : Calls Tryd.prog 98 #[.float .f64 s, .float .f64 c] w (EndQ (addC (canon s) (canon c)) w) := by
  obtain ⟨y, W1, h1, q1⟩ := run_add s c w
  have HB := Lib.hid (q1.below (Below.refl w.heap.size w))
  have HE := Lib.hid (And.intro (q1.addW rfl rfl rfl) q1.lt)
  clear q1
  go_enter Tryd.func98, Tryd.ntmps98
  go_wp2_with fail
  go_ret
  exact ⟨y, rfl, HE.out.1, HE.out.2, HB.out⟩
/-- a number without its sign -/
theorem abs_bits {x : Nat} (hx : x < 18446744073709551616) : bits .andNot .u64 (x : Int) 9223372036854775808 = ((x % 9223372036854775808 : Nat) : Int) := by
  show IntKind.u64.wrap ((BitVec.ofInt 64 (x : Int) &&& ~~~ BitVec.ofInt 64 9223372036854775808).toNat : Int) = _
  rw [show ~~~ BitVec.ofInt 64 9223372036854775808 = BitVec.ofNat 64 9223372036854775807 from by decide, BitVec.toNat_and]
  have h1 : (BitVec.ofInt 64 (x : Int)).toNat = x := by
    rw [BitVec.toNat_ofInt]; omega
  have h2 : (BitVec.ofNat 64 9223372036854775807).toNat = 2 ^ 63 - 1 := by decide
  rw [h1, h2, Nat.and_two_pow_sub_one_eq_mod]
  exact wrap_u64_nat _ (by omega)
set_option maxRecDepth 10000 in
theorem abs_any (x : Nat) (w : World) (hx : x < 18446744073709551616) : Calls Tryd.prog 97 #[.float .f64 x] w fun en w' => en = .returned (.float .f64 (x % 9223372036854775808)) ∧ w = w' := by
  have h1 := ext_bits64 x
  have h2 := ext_from64 (x % 9223372036854775808)
  have b1 := abs_bits hx
  have HX := Lib.hid hx
  clear hx
  generalize x % 9223372036854775808 = y at *
  go_enter Tryd.func97, Tryd.ntmps97
  go_wp2_with fail
  go_ret
  exact ⟨rfl, rfl⟩
theorem run_geqA (s x : Nat) (W : World) : (binOp .geq 36 (.float .f64 (s % 9223372036854775808)) (.float .f64 (x % 9223372036854775808))).run Tryd.prog W = .ok (.bool (geA s x)) W := by
  have e : (binOp .geq 36 (.float .f64 (s % 9223372036854775808)) (.float .f64 (x % 9223372036854775808))).run Tryd.prog W = .ok (.bool (FloatKind.f64.format.order (s % 9223372036854775808) (x % 9223372036854775808) == some .gt || FloatKind.f64.format.order (s % 9223372036854775808) (x % 9223372036854775808) == some .eq)) W := rfl
  rw [e]
  have hs := Nat.mod_lt s (show 0 < 9223372036854775808 by decide)
  have hx := Nat.mod_lt x (show 0 < 9223372036854775808 by decide)
  unfold geA
  generalize s % 9223372036854775808 = a at *
  generalize x % 9223372036854775808 = b at *
  by_cases h1 : a ≤ 9218868437227405312
  · by_cases h2 : b ≤ 9218868437227405312
    · rw [order64 (by omega) (by omega) (by omega) (by omega)]
      have fa : fV a = (numV 52 a : Int) := by unfold fV; rw [decide_eq_false (by omega), Nat.mod_eq_of_lt hs]; rfl
      have fb : fV b = (numV 52 b : Int) := by unfold fV; rw [decide_eq_false (by omega), Nat.mod_eq_of_lt hx]; rfl
      rw [fa, fb, decide_eq_true h1, decide_eq_true h2]
      rcases Nat.lt_trichotomy a b with h | h | h
      · have := numV_lt (h := 52) h
        rw [cmpZ_lt (by omega), decide_eq_false (show ¬ b ≤ a by omega)]; rfl
      · rw [h, cmpZ_self, decide_eq_true (Nat.le_refl b)]; rfl
      · have := numV_lt (h := 52) h
        rw [cmpZ_gt (by omega), decide_eq_true (show b ≤ a by omega)]; rfl
    · obtain ⟨q, f, er⟩ := read_nan (b := b) (by omega)
      have eo : FloatKind.f64.format.order a b = none := by
        show Ieee.double.order a b = none
        unfold Ieee.Format.order
        rw [er]
        cases Ieee.double.read a <;> rfl
      rw [eo, decide_eq_false h2, Bool.and_false]; rfl
  · obtain ⟨q, f, er⟩ := read_nan (b := a) (by omega)
    have eo : FloatKind.f64.format.order a b = none := by
      show Ieee.double.order a b = none
      unfold Ieee.Format.order
      rw [er]
      cases Ieee.double.read b <;> rfl
    rw [eo, decide_eq_false h1]; rfl
theorem geA_canon (s x : Nat) : geA (canon s) (canon x) = geA s x := by
  unfold geA
  have hn : nan64 % 9223372036854775808 = 9221120237041090560 := by decide
  by_cases hs : 9218868437227405312 < s % 9223372036854775808
  · rw [canon_nan hs, hn, decide_eq_false (show ¬ s % 9223372036854775808 ≤ 9218868437227405312 by omega)]; rfl
  · rw [canon_num (show s % 9223372036854775808 ≤ 9218868437227405312 by omega)]
    by_cases hx : 9218868437227405312 < x % 9223372036854775808
    · rw [canon_nan hx, hn, decide_eq_false (show ¬ x % 9223372036854775808 ≤ 9218868437227405312 by omega), Bool.and_false]; simp
    · rw [canon_num (show x % 9223372036854775808 ≤ 9218868437227405312 by omega)]

set_option maxRecDepth 10000 in
set_option maxHeartbeats 2000000 in
theorem nstep_any (s c x : Nat) (w : World) (hs : s < 18446744073709551616) (hc : c < 18446744073709551616) (hx : x < 18446744073709551616) :
    Calls Tryd.prog 96 #[.float .f64 s, .float .f64 c, .float .f64 x] w (StepQ (nStep (canon s) (canon c) (canon x)) w) := by
  obtain ⟨R, hR⟩ : ∃ R, R = nStep (canon s) (canon c) (canon x) := ⟨_, rfl⟩
  rw [← hR]
  unfold nStep at hR
  rw [geA_canon] at hR
  obtain ⟨t, W1, h1, q1⟩ := run_add s x w
  have e1 := q1.addW rfl rfl rfl
  have hg := run_geqA s x W1
  have HA := Lib.hid (fun W => abs_any s W hs)
  have HX := Lib.hid (fun W => abs_any x W hx)
  cases hq : geA s x with
  | true =>
    rw [hq] at hR hg
    rw [if_pos rfl] at hR
    obtain ⟨u, W2, h2, q2⟩ := run_sub s t q1.lt W1
    obtain ⟨v, W3, h3, q3⟩ := run_add u x W2
    obtain ⟨y, W4, h4, q4⟩ := run_add c v W3
    have HB := Lib.hid (q4.below (q3.below (q2.below (q1.below (Below.refl w.heap.size w)))))
    have e2 := q2.subW rfl rfl e1 q1.lt
    have e3 := q3.addW rfl e2 rfl
    have e4 := q4.addW rfl rfl e3
    have HE : Hid (canon t = R.1 ∧ canon y = R.2 ∧ t < 18446744073709551616 ∧ y < 18446744073709551616) := by rw [hR]; exact ⟨e1, e4, q1.lt, q4.lt⟩
    clear q1 q2 q3 q4 e1 e2 e3 e4 hs hc hx hR hq
    generalize s % 9223372036854775808 = sa at *
    generalize x % 9223372036854775808 = xa at *
    go_enter Tryd.func96, Tryd.ntmps96
    go_wp2_with fail
    refine (HA.out _).mono ?_; rintro en w2 ⟨rfl, rfl⟩
    go_wp2_with fail
    refine (HX.out _).mono ?_; rintro en w2 ⟨rfl, rfl⟩
    go_wp2_with fail
    go_ret2
    exact ⟨t, y, rfl, HE.out.1, HE.out.2.1, HE.out.2.2.1, HE.out.2.2.2, HB.out⟩
  | false =>
    rw [hq] at hR hg
    rw [if_neg (by decide)] at hR
    obtain ⟨u, W2, h2, q2⟩ := run_sub x t q1.lt W1
    obtain ⟨v, W3, h3, q3⟩ := run_add u s W2
    obtain ⟨y, W4, h4, q4⟩ := run_add c v W3
    have HB := Lib.hid (q4.below (q3.below (q2.below (q1.below (Below.refl w.heap.size w)))))
    have e2 := q2.subW rfl rfl e1 q1.lt
    have e3 := q3.addW rfl e2 rfl
    have e4 := q4.addW rfl rfl e3
    have HE : Hid (canon t = R.1 ∧ canon y = R.2 ∧ t < 18446744073709551616 ∧ y < 18446744073709551616) := by rw [hR]; exact ⟨e1, e4, q1.lt, q4.lt⟩
    clear q1 q2 q3 q4 e1 e2 e3 e4 hs hc hx hR hq
    generalize s % 9223372036854775808 = sa at *
    generalize x % 9223372036854775808 = xa at *
    go_enter Tryd.func96, Tryd.ntmps96
    go_wp2_with fail
    refine (HA.out _).mono ?_; rintro en w2 ⟨rfl, rfl⟩
    go_wp2_with fail
    refine (HX.out _).mono ?_; rintro en w2 ⟨rfl, rfl⟩
    go_wp2_with fail
    go_ret2
    exact ⟨t, y, rfl, HE.out.1, HE.out.2.1, HE.out.2.2.1, HE.out.2.2.2, HB.out⟩

/-- a way: from the first to the last -/
def wayC (f : Nat → Nat → Nat → Nat × Nat) (l : List Nat) : Nat × Nat := l.foldl (fun p x => f p.1 p.2 (canon x)) (0, 0)
theorem way_snoc (f : Nat → Nat → Nat → Nat × Nat) (l : List Nat) {k : Nat} (hk : k < l.length) : wayC f (l.take (k + 1)) = f (wayC f (l.take k)).1 (wayC f (l.take k)).2 (canon (l.getD k 0)) := by
  unfold wayC
  rw [take_succ_get (x := l.getD k 0) (by rw [List.getD_eq_getElem?_getD, List.getElem?_eq_getElem hk]; rfl), List.foldl_append]; rfl
def kahC (l : List Nat) : Nat := (wayC kStep l).1
def neuC (l : List Nat) : Nat := addC (wayC nStep l).1 (wayC nStep l).2

set_option maxRecDepth 10000 in
set_option maxHeartbeats 4000000 in
theorem kahansum_any (a : Option Addr) (c : Nat) (l : List Nat) (w : World) (hl : FSl w a c l) (hlen : l.length ≤ 17592186044416) :
    Calls Tryd.prog 95 #[.agg #[.func (Fn.func 93) #[] #[], .func (Fn.func 94) #[] #[]], .slice a l.length c] w fun en w' => en = .returned (.float .f64 (kahC l)) ∧ Below w.heap.size w w' := by
  have HWf := Lib.hid (w64_getD hl.wf)
  obtain ⟨w1, e1⟩ : ∃ W, W = w.alloc (.cells #[.func (Fn.func 93) #[] #[], .func (Fn.func 94) #[] #[]] 125) := ⟨_, rfl⟩
  obtain ⟨k1, b1, s1⟩ := new_of e1 rfl
  have HL := Lib.hid (fun W (hw : Below w1.heap.size w1 W) => hl.rd.grow (b1.trans (hw.mono b1.size)))
  have HK : Hid (∀ W, Below w1.heap.size w1 W → W.cell? ⟨w.heap.size, 0, none⟩ = some (.func (Fn.func 93) #[] #[]) ∧ W.cell? ⟨w.heap.size, 1, none⟩ = some (.func (Fn.func 94) #[] #[])) := by
    intro W hW
    have h := blk_below k1 hW (by omega)
    exact ⟨by rw [cell_of_row W _ 0 _ _ _ h]; rfl, by rw [cell_of_row W _ 1 _ _ _ h]; rfl⟩
  have HB1 := Lib.hid b1
  have E1 := Lib.hid e1
  clear hl k1 b1 e1 s1
  go_enter Tryd.func95, Tryd.ntmps95
  go_wp2_with fail
  rw [← E1.out]
  go_loopw [5, 6, 7, 10] (fun s cc ii i wr => ∃ (k r1 r2 : Nat), k ≤ l.length ∧ i = .int .i64 k ∧ s = .float .f64 r1 ∧ cc = .float .f64 r2 ∧ Hid (canon r1 = (wayC kStep (l.take k)).1 ∧ canon r2 = (wayC kStep (l.take k)).2 ∧ r1 < 18446744073709551616 ∧ r2 < 18446744073709551616 ∧ Below w1.heap.size w1 wr)) (fun _ _ _ i _ => l.length - (intOf i).toNat)
  case atStart => exact ⟨0, 0, 0, Nat.zero_le _, rfl, rfl, rfl, by simp [wayC, canon], by simp [wayC, canon], by decide, by decide, Below.refl _ _⟩
  case round =>
    obtain ⟨k, r1, r2, hk, rfl, rfl, rfl, hH⟩ := hrel
    obtain ⟨h1, h2, h3, h4, h5⟩ := hH.out
    by_cases hq : k < l.length
    · obtain ⟨bx, ox, rfl, hcx⟩ := (HL.out wr h5).at hq
      have hbx := HWf.out k
      have hs := way_snoc kStep l hq
      have HCx := Lib.hid (fun W (hw : Below w1.heap.size w1 W) => (HL.out W hw).cells hq)
      obtain ⟨x, hx⟩ : ∃ x, x = l.getD k 0 := ⟨_, rfl⟩
      rw [← hx] at hcx hbx hs HCx
      obtain ⟨kc1, kc2⟩ := HK.out wr h5
      have hS := fun W => kstep_any r1 r2 x W h3 h4 hbx
      rw [h1, h2, ← hs] at hS
      have HS := Lib.hid hS
      have H5 := Lib.hid h5
      clear h1 h2 h3 h4 h5 hH hx hs hS hbx
      go_wp2_with fail
      go_region_held3 (fun W => W.cell? ⟨w.heap.size, 0, none⟩ = some (.func (Fn.func 93) #[] #[]) ∧ W.cell? ⟨bx, ox + k, none⟩ = some (.float .f64 x)) (go_keep) (first
        | (go_at_call 93; refine (HS.out wr.drew).mono ?_; rintro en w4 ⟨t1, t2, rfl, g1, g2, g3, g4, hb⟩; have H5' := Lib.hid (H5.out.drew.trans (hb.mono H5.out.drew.size)); have hcx4 := HCx.out w4 H5'.out; have kc4 := (HK.out w4 H5'.out).1; have HG := Lib.hid (And.intro g1 (And.intro g2 (And.intro g3 g4))); clear g1 g2 g3 g4 hb))
      go_wp2_with fail
      go_roundw
      case rel => exact ⟨k + 1, t1, t2, by omega, by go_num, rfl, rfl, HG.out.1, HG.out.2.1, HG.out.2.2.1, HG.out.2.2.2, H5'.out⟩
      case measure => simp [intOf]; omega
    · obtain rfl : l.length = k := by omega
      rw [List.take_length] at h1 h2
      have hE := fun W => kend_any r1 r2 W h3 h4
      rw [h1] at hE
      have HE := Lib.hid hE
      obtain ⟨kc1, kc2⟩ := HK.out wr h5
      have H5 := Lib.hid h5
      clear h1 h2 h3 h4 h5 hH hE hq hk
      go_wp2_with fail
      refine (HE.out wr).mono ?_; rintro en w4 ⟨t1, rfl, g1, g2, hb⟩
      have H5' := Lib.hid (H5.out.trans (hb.mono H5.out.size))
      have HT := Lib.hid (stold_any t1 w4 g2)
      rw [g1] at HT
      clear g1 g2 hb
      go_wp2_with fail
      refine HT.out.mono ?_; rintro en w5 ⟨rfl, rfl⟩
      go_wp2_with fail
      go_ret
      exact ⟨rfl, HB1.out.trans (H5'.out.mono HB1.out.size)⟩
set_option maxRecDepth 10000 in
set_option maxHeartbeats 1000000 in
theorem kahan_any (a : Option Addr) (c : Nat) (l : List Nat) (w : World) (hl : FSl w a c l) (hlen : l.length ≤ 17592186044416) :
    Calls Tryd.prog 45 #[.slice a l.length c] w fun en w' => en = .returned (.float .f64 (kahC l)) ∧ Below w.heap.size w w' := by
  have HS := Lib.hid (kahansum_any a c l w hl hlen)
  clear hl
  go_enter Tryd.func45, Tryd.ntmps45
  go_wp2_with fail
  refine HS.out.mono ?_; rintro en w1 ⟨rfl, hb⟩
  have HB := Lib.hid hb
  clear hb
  go_wp2_with fail
  go_ret
  exact ⟨rfl, HB.out⟩

set_option maxRecDepth 10000 in
set_option maxHeartbeats 4000000 in
theorem neumaiersum_any (a : Option Addr) (c : Nat) (l : List Nat) (w : World) (hl : FSl w a c l) (hlen : l.length ≤ 17592186044416) :
    Calls Tryd.prog 95 #[.agg #[.func (Fn.func 96) #[] #[], .func (Fn.func 98) #[] #[]], .slice a l.length c] w fun en w' => en = .returned (.float .f64 (neuC l)) ∧ Below w.heap.size w w' := by
  have HWf := Lib.hid (w64_getD hl.wf)
  obtain ⟨w1, e1⟩ : ∃ W, W = w.alloc (.cells #[.func (Fn.func 96) #[] #[], .func (Fn.func 98) #[] #[]] 125) := ⟨_, rfl⟩
  obtain ⟨k1, b1, s1⟩ := new_of e1 rfl
  have HL := Lib.hid (fun W (hw : Below w1.heap.size w1 W) => hl.rd.grow (b1.trans (hw.mono b1.size)))
  have HK : Hid (∀ W, Below w1.heap.size w1 W → W.cell? ⟨w.heap.size, 0, none⟩ = some (.func (Fn.func 96) #[] #[]) ∧ W.cell? ⟨w.heap.size, 1, none⟩ = some (.func (Fn.func 98) #[] #[])) := by
    intro W hW
    have h := blk_below k1 hW (by omega)
    exact ⟨by rw [cell_of_row W _ 0 _ _ _ h]; rfl, by rw [cell_of_row W _ 1 _ _ _ h]; rfl⟩
  have HB1 := Lib.hid b1
  have E1 := Lib.hid e1
  clear hl k1 b1 e1 s1
  go_enter Tryd.func95, Tryd.ntmps95
  go_wp2_with fail
  rw [← E1.out]
  go_loopw [5, 6, 7, 10] (fun s cc ii i wr => ∃ (k r1 r2 : Nat), k ≤ l.length ∧ i = .int .i64 k ∧ s = .float .f64 r1 ∧ cc = .float .f64 r2 ∧ Hid (canon r1 = (wayC nStep (l.take k)).1 ∧ canon r2 = (wayC nStep (l.take k)).2 ∧ r1 < 18446744073709551616 ∧ r2 < 18446744073709551616 ∧ Below w1.heap.size w1 wr)) (fun _ _ _ i _ => l.length - (intOf i).toNat)
  case atStart => exact ⟨0, 0, 0, Nat.zero_le _, rfl, rfl, rfl, by simp [wayC, canon], by simp [wayC, canon], by decide, by decide, Below.refl _ _⟩
  case round =>
    obtain ⟨k, r1, r2, hk, rfl, rfl, rfl, hH⟩ := hrel
    obtain ⟨h1, h2, h3, h4, h5⟩ := hH.out
    by_cases hq : k < l.length
    · obtain ⟨bx, ox, rfl, hcx⟩ := (HL.out wr h5).at hq
      have hbx := HWf.out k
      have hs := way_snoc nStep l hq
      have HCx := Lib.hid (fun W (hw : Below w1.heap.size w1 W) => (HL.out W hw).cells hq)
      obtain ⟨x, hx⟩ : ∃ x, x = l.getD k 0 := ⟨_, rfl⟩
      rw [← hx] at hcx hbx hs HCx
      obtain ⟨kc1, kc2⟩ := HK.out wr h5
      have hS := fun W => nstep_any r1 r2 x W h3 h4 hbx
      rw [h1, h2, ← hs] at hS
      have HS := Lib.hid hS
      have H5 := Lib.hid h5
      clear h1 h2 h3 h4 h5 hH hx hs hS hbx
      go_wp2_with fail
      go_region_held3 (fun W => W.cell? ⟨w.heap.size, 0, none⟩ = some (.func (Fn.func 96) #[] #[]) ∧ W.cell? ⟨bx, ox + k, none⟩ = some (.float .f64 x)) (go_keep) (first
        | (go_at_call 96; refine (HS.out wr.drew).mono ?_; rintro en w4 ⟨t1, t2, rfl, g1, g2, g3, g4, hb⟩; have H5' := Lib.hid (H5.out.drew.trans (hb.mono H5.out.drew.size)); have hcx4 := HCx.out w4 H5'.out; have kc4 := (HK.out w4 H5'.out).1; have HG := Lib.hid (And.intro g1 (And.intro g2 (And.intro g3 g4))); clear g1 g2 g3 g4 hb))
      go_wp2_with fail
      go_roundw
      case rel => exact ⟨k + 1, t1, t2, by omega, by go_num, rfl, rfl, HG.out.1, HG.out.2.1, HG.out.2.2.1, HG.out.2.2.2, H5'.out⟩
      case measure => simp [intOf]; omega
    · obtain rfl : l.length = k := by omega
      rw [List.take_length] at h1 h2
      have hE := fun W => nend_any r1 r2 W h3 h4
      rw [h1, h2] at hE
      have HE := Lib.hid hE
      obtain ⟨kc1, kc2⟩ := HK.out wr h5
      have H5 := Lib.hid h5
      clear h1 h2 h3 h4 h5 hH hE hq hk
      go_wp2_with fail
      refine (HE.out wr).mono ?_; rintro en w4 ⟨t1, rfl, g1, g2, hb⟩
      have H5' := Lib.hid (H5.out.trans (hb.mono H5.out.size))
      have HT := Lib.hid (stold_any t1 w4 g2)
      rw [g1] at HT
      clear g1 g2 hb
      go_wp2_with fail
      refine HT.out.mono ?_; rintro en w5 ⟨rfl, rfl⟩
      go_wp2_with fail
      go_ret
      exact ⟨rfl, HB1.out.trans (H5'.out.mono HB1.out.size)⟩
set_option maxRecDepth 10000 in
set_option maxHeartbeats 1000000 in
theorem neumaier_any (a : Option Addr) (c : Nat) (l : List Nat) (w : World) (hl : FSl w a c l) (hlen : l.length ≤ 17592186044416) :
    Calls Tryd.prog 46 #[.slice a l.length c] w fun en w' => en = .returned (.float .f64 (neuC l)) ∧ Below w.heap.size w w' := by
  have HS := Lib.hid (neumaiersum_any a c l w hl hlen)
  clear hl
  go_enter Tryd.func46, Tryd.ntmps46
  go_wp2_with fail
  refine HS.out.mono ?_; rintro en w1 ⟨rfl, hb⟩
  have HB := Lib.hid hb
  clear hb
  go_wp2_with fail
  go_ret
  exact ⟨rfl, HB.out⟩
end Go.Proofs.YthdbapibbdkclaaDoor
