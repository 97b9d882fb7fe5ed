/- Contract of sums.Halving. No statement of the seat is proved here. -/
import Derived.Test.YthdbapibbdkclaaDoorProg
import Derived.Test.YthdbapibbdkclaaDoorFe
namespace Go.Proofs.YthdbapibbdkclaaDoor
open Go.RowKit
set_option linter.unusedVariables false
set_option linter.unusedSimpArgs false

theorem FRd.take {w : World} {a : Option Addr} {l : List Nat} (h : FRd w a l) (k : Nat) : FRd w a (l.take k) := fun i x hx => by
  rw [List.getElem?_take] at hx
  split at hx
  · exact h i x hx
  · cases hx
theorem FRd.drop {w : World} {b off : Nat} {l : List Nat} (h : FRd w (some ⟨b, off, none⟩) l) (k : Nat) : FRd w (some ⟨b, off + k, none⟩) (l.drop k) := fun i x hx => by
  rw [List.getElem?_drop] at hx
  obtain ⟨b', off', e, h2⟩ := h _ x hx
  cases e
  exact ⟨b, off + k, rfl, by rw [Nat.add_assoc]; exact h2⟩
theorem FSl.take {w : World} {a : Option Addr} {c : Nat} {l : List Nat} (h : FSl w a c l) (k : Nat) : FSl w a c (l.take k) :=
  ⟨h.rd.take k, fun x hx => h.wf x (List.mem_of_mem_take hx), by have := h.cap; rw [List.length_take]; omega, h.nil⟩
/-- a slice from a place on -/
theorem FSl.skip {w : World} {b off c : Nat} {l : List Nat} (h : FSl w (some ⟨b, off, none⟩) c l) {k : Nat} (hk : k ≤ l.length) :
    ∃ A, (if c = k then (some ⟨b, off, none⟩ : Option Addr) else some ⟨b, off + k, none⟩) = some A ∧ FSl w (some A) (c - k) (l.drop k) := by
  have hw : W64L (l.drop k) := fun x hx => h.wf x (List.mem_of_mem_drop hx)
  have hc : (l.drop k).length ≤ c - k := by have := h.cap; rw [List.length_drop]; omega
  by_cases hck : c = k
  · refine ⟨_, if_pos hck, ⟨?_, hw, hc, fun h => by cases h⟩⟩
    have := h.cap
    rw [List.drop_of_length_le (by omega)]
    exact FRd.nil _ _
  · exact ⟨_, if_neg hck, ⟨h.rd.drop k, hw, hc, fun h => by cases h⟩⟩
theorem FSl.grow {w w' : World} {a : Option Addr} {c : Nat} {l : List Nat} (h : FSl w a c l) (hb : Below w.heap.size w w') : FSl w' a c l := ⟨h.rd.grow hb, h.wf, h.cap, h.nil⟩

/-- sums of halves, the first one a power of two -/
inductive Hal : List Nat → Nat → Prop
  | nil : Hal [] 0
  | one (x : Nat) : Hal [x] (canon x)
  | two {l : List Nat} {j a b : Nat} : 2 ≤ l.length → 2 ^ j < l.length → l.length ≤ 2 ^ (j + 1) → Hal (l.take (2 ^ j)) a → Hal (l.drop (2 ^ j)) b → Hal l (addC a b)
theorem pow_between {n i j : Nat} (h1 : 2 ^ i < n) (h2 : n ≤ 2 ^ (i + 1)) (h3 : 2 ^ j < n) (h4 : n ≤ 2 ^ (j + 1)) : i = j := by
  have a1 : i < j + 1 := (Nat.pow_lt_pow_iff_right (a := 2) (by decide)).1 (by omega)
  have a2 : j < i + 1 := (Nat.pow_lt_pow_iff_right (a := 2) (by decide)).1 (by omega)
  omega
theorem Hal.uniq {l : List Nat} {v : Nat} (h : Hal l v) : ∀ {v' : Nat}, Hal l v' → v = v' := by
  induction h with
  | nil =>
    intro v' h'
    cases h' with
    | nil => rfl
    | two h1 => simp at h1
  | one x =>
    intro v' h'
    cases h' with
    | one => rfl
    | two h1 => simp at h1
  | two h1 h2 h3 _ _ ih1 ih2 =>
    intro v' h'
    cases h' with
    | nil => simp at h1
    | one => simp at h1
    | two k1 k2 k3 k4 k5 =>
      obtain rfl := pow_between h2 h3 k2 k3
      rw [ih1 k4, ih2 k5]
theorem Hal.can {l : List Nat} {v : Nat} (h : Hal l v) : canon v = v := by
  cases h with
  | nil => rfl
  | one x => exact canon_canon x
  | two => exact canon_addC _ _
theorem Hal.lt {l : List Nat} {v : Nat} (h : Hal l v) (hw : W64L l) : v < 18446744073709551616 := by
  cases h with
  | nil => decide
  | one x => exact canon_lt (hw x (List.mem_cons_self ..))
  | two => exact addC_lt _ _
def HalQ (l : List Nat) (w : World) (en : Ending) (w' : World) : Prop := ∃ v, en = .returned (.float .f64 v) ∧ Hal l v ∧ Below w.heap.size w w'

set_option maxRecDepth 10000 in
set_option maxHeartbeats 8000000 in
theorem halving_all (n : Nat) : ∀ (a : Option Addr) (c : Nat) (l : List Nat) (w : World), l.length ≤ n → FSl w a c l → l.length ≤ 17592186044416 → Calls Tryd.prog 44 #[.slice a l.length c] w (HalQ l w) := by
  induction n with
  | zero =>
    intro a c l w hn hl _
    obtain rfl : l = [] := List.eq_nil_of_length_eq_zero (by omega)
    go_enter Tryd.func44, Tryd.ntmps44
    go_wp2_with fail
    go_ret
    exact ⟨0, rfl, Hal.nil, Below.refl _ _⟩
  | succ n ih =>
    intro a c l w hn hl hlen
    match l, hn, hl, hlen with
    | [], hn, hl, hlen =>
      go_enter Tryd.func44, Tryd.ntmps44
      go_wp2_with fail
      go_ret
      exact ⟨0, rfl, Hal.nil, Below.refl _ _⟩
    | [x], hn, hl, hlen =>
      obtain ⟨b, off, rfl, hc0⟩ := hl.rd.at (i := 0) (by simp)
      simp only [List.getD_cons_zero, Nat.add_zero] at hc0
      have HT := Lib.hid (stold_any x w (hl.wf x (List.mem_cons_self ..)))
      clear hl ih
      go_enter Tryd.func44, Tryd.ntmps44
      go_wp2_with fail
      refine HT.out.mono ?_; rintro en w1 ⟨rfl, rfl⟩
      go_wp2_with fail
      go_ret
      exact ⟨_, rfl, Hal.one x, Below.refl _ _⟩
    | x :: y :: l', hn, hl, hlen =>
      obtain ⟨l, hll⟩ : ∃ l, l = x :: y :: l' := ⟨_, rfl⟩
      rw [← hll] at hn hl hlen ⊢
      have h2 : 2 ≤ l.length := by rw [hll]; simp
      have e0 : ((l.length : Int) == 0) = false := by rw [beq_eq_false_iff_ne]; omega
      have e1 : ((l.length : Int) == 1) = false := by rw [beq_eq_false_iff_ne]; omega
      obtain ⟨b, off, rfl, hc0⟩ := hl.rd.at (i := 0) (by omega)
      have hcap := hl.cap
      have HSl := Lib.hid hl
      have HIH := Lib.hid ih
      clear hll hc0 hl ih
      go_enter Tryd.func44, Tryd.ntmps44
      go_wp2_with fail
      go_loopw [3] (fun kk wr => ∃ k : Nat, kk = .int .i64 k ∧ k < l.length ∧ Hid ((∃ j, k = 2 ^ j) ∧ wr = w)) (fun kk _ => l.length - (intOf kk).toNat)
      case atStart => exact ⟨1, rfl, by omega, ⟨0, rfl⟩, rfl⟩
      case round =>
        obtain ⟨k, rfl, hk, hH⟩ := hrel
        have hk1 : 0 < k := by obtain ⟨j, rfl⟩ := hH.out.1; exact Nat.two_pow_pos j
        by_cases hq : 2 * k < l.length
        · go_wp2_with fail
          go_roundw
          case rel =>
            obtain ⟨j, hj⟩ := hH.out.1
            exact ⟨2 * k, by go_num, hq, ⟨j + 1, by rw [hj, Nat.pow_succ, Nat.mul_comm]⟩, hH.out.2⟩
          case measure => simp [intOf]; omega
        · obtain ⟨⟨j, hj⟩, rfl⟩ := hH.out
          have j1 : k ≤ c := by omega
          have j2 : k ≤ l.length := by omega
          obtain ⟨A, hA, hS2⟩ := HSl.out.skip j2
          have hS1 := HSl.out.take k
          have l1 : (l.take k).length = k := by rw [List.length_take]; omega
          have l2 : (l.drop k).length = l.length - k := List.length_drop
          have H1 := Lib.hid (fun W (hw : Below wr.heap.size wr W) => HIH.out (some ⟨b, off, none⟩) c (l.take k) W (by omega) (hS1.grow hw) (by omega))
          have H2 := Lib.hid (fun W (hw : Below wr.heap.size wr W) => HIH.out (some A) (c - k) (l.drop k) W (by omega) (hS2.grow hw) (by omega))
          rw [l1] at H1
          rw [l2] at H2
          have HJ : Hid (k = 2 ^ j ∧ l.length ≤ 2 ^ (j + 1)) := ⟨hj, by rw [Nat.pow_succ, ← hj]; omega⟩
          have HW1 := Lib.hid hS1.wf; have HW2 := Lib.hid hS2.wf
          have hdr : Below wr.heap.size wr wr.drew := (Below.refl _ _).drew
          clear hj hH hS1 hS2 l1 l2
          go_wp2_with fail
          go_region_with (first
            | (go_at_call 44; have hq1 := H1.out wr.drew hdr; (with_reducible refine hq1.mono ?_); clear hq1; rintro en w1 ⟨v1, rfl, hv1, hb1⟩; have HB1 : Hid (Below wr.heap.size wr w1) := hdr.trans (hb1.mono hdr.size); have HV1 := Lib.hid hv1; clear hv1 hb1)
            | (go_at_call 44; have hq1 := H2.out w1 HB1.out; (with_reducible refine hq1.mono ?_); clear hq1; rintro en w2 ⟨v2, rfl, hv2, hb2⟩; have HB2 := Lib.hid (HB1.out.trans (hb2.mono HB1.out.size)); have HV2 := Lib.hid hv2; clear hv2 hb2; obtain ⟨r, W', hrun, hst⟩ := run_add v1 v2 w2; have HST := Lib.hid hst; clear hst)
            | (go_at_call 92; have hq1 := stold_any r W' HST.out.lt; (with_reducible refine hq1.mono ?_); clear hq1; rintro en w3 ⟨rfl, rfl⟩))
          go_wp2_with fail
          go_ret
          refine ⟨addC v1 v2, by rw [← HST.out.can]; rfl, Hal.two h2 (by rw [← HJ.out.1]; omega) HJ.out.2 (by rw [← HJ.out.1]; exact HV1.out) (by rw [← HJ.out.1]; exact HV2.out), HST.out.below HB2.out⟩
theorem halving_any (a : Option Addr) (c : Nat) (l : List Nat) (w : World) (hl : FSl w a c l) (hlen : l.length ≤ 17592186044416) : Calls Tryd.prog 44 #[.slice a l.length c] w (HalQ l w) :=
  halving_all l.length a c l w (Nat.le_refl _) hl hlen
end Go.Proofs.YthdbapibbdkclaaDoor
