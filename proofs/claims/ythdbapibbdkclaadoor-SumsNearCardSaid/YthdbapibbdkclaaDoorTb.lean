/- Lists of float64 in memory; what an accumulator has while few things are added and taken. No statement of the seat is proved here. -/
import Derived.Test.YthdbapibbdkclaaDoorProg
import Derived.Test.YthdbapibbdkclaaDoorMP
namespace Go.Proofs.YthdbapibbdkclaaDoor
open Go.RowKit
set_option linter.unusedVariables false
set_option linter.unusedSimpArgs false

/-- numbers that can be read at an address -/
def FRd (w : World) (a : Option Addr) (l : List Nat) : Prop :=
  ∀ i x, l[i]? = some x → ∃ b off, a = some ⟨b, off, none⟩ ∧ w.cell? ⟨b, off + i, none⟩ = some (.float .f64 x)
def W64L (l : List Nat) : Prop := ∀ x ∈ l, x < 18446744073709551616
theorem W64L.nil : W64L [] := fun _ h => by cases h
theorem FRd.nil (w : World) (a : Option Addr) : FRd w a [] := fun i x h => by simp at h
theorem FRd.at {w : World} {a : Option Addr} {l : List Nat} (h : FRd w a l) {i : Nat} (hi : i < l.length) :
    ∃ b off, a = some ⟨b, off, none⟩ ∧ w.cell? ⟨b, off + i, none⟩ = some (.float .f64 (l.getD i 0)) := by
  have hx : l[i]? = some (l.getD i 0) := by rw [List.getD_eq_getElem?_getD, List.getElem?_eq_getElem hi]; rfl
  obtain ⟨b, off, h1, h2⟩ := h i _ hx
  exact ⟨b, off, h1, h2⟩
theorem FRd.below {B : Nat} {w w' : World} {a : Option Addr} {l : List Nat} (h : FRd w a l) (hb : Below B w w') (hB : ∀ ad, a = some ad → l ≠ [] → ad.block < B) : FRd w' a l := fun i x hx => by
  obtain ⟨b, off, rfl, h2⟩ := h i x hx
  refine ⟨b, off, rfl, ?_⟩
  rw [hb.cell (p := ⟨b, off + i, none⟩) (hB ⟨b, off, none⟩ rfl (by rintro rfl; simp at hx))]; exact h2
theorem FRd.lt {w : World} {a : Option Addr} {l : List Nat} (h : FRd w a l) {ad : Addr} (ha : a = some ad) (hl : l ≠ []) : ad.block < w.heap.size := by
  cases l with
  | nil => exact absurd rfl hl
  | cons x l =>
    obtain ⟨b, off, h1, h2⟩ := h 0 x rfl
    rw [h1] at ha; cases ha
    exact World.block_lt_of_cell? _ _ h2
theorem FRd.grow {w w' : World} {a : Option Addr} {l : List Nat} (h : FRd w a l) (hb : Below w.heap.size w w') : FRd w' a l :=
  h.below hb fun _ ha hl => h.lt ha hl
theorem w64_getD {l : List Nat} (h : W64L l) (i : Nat) : l.getD i 0 < 18446744073709551616 := by
  rw [List.getD_eq_getElem?_getD]
  cases hx : l[i]? with
  | none => simp
  | some x => exact h x (List.mem_of_getElem? hx)
/-- a slice of numbers that may be handed in -/
structure FSl (w : World) (a : Option Addr) (c : Nat) (l : List Nat) : Prop where
  rd : FRd w a l
  wf : W64L l
  cap : l.length ≤ c
  nil : a = none → c = 0

/-- one that may be, of so many things -/
structure Fit (n : Nat) (A : Ac) : Prop where
  ok : A.Ok
  sm : Sm n A
/-- a thing -/
structure Thing (d : Ac) : Prop where
  one : d.One
  lo : -Mx ≤ d.T
  hi : d.T ≤ Mx
theorem numT_thing (b : Nat) : Thing (numT b) := ⟨numT_one b, (numT_bd b).1, (numT_bd b).2⟩
theorem prT_thing (b c : Nat) : Thing (prT b c) := ⟨prT_one b c, (prT_bd b c).1, (prT_bd b c).2⟩
theorem fit_zero : Fit 0 Ac.zero := ⟨Ac.zero_ok, sm_zero⟩
theorem fit_add {n : Nat} {A d : Ac} (h : Fit n A) (k : Thing d) (hn : n + 1 ≤ 1099511627776) : Fit (n + 1) (A.sum d) :=
  ⟨sm_ok h.ok h.sm hn k.one k.lo k.hi, sm_add h.sm k.one k.lo k.hi⟩
theorem fit_addR {n : Nat} {A d : Ac} (h : Fit n A) (k : Thing d) (hn : n + 1 ≤ 1099511627776) : addR A d = (0, A.sum d) :=
  addR_small h.sm hn k.one k.lo k.hi
theorem fit_takeR {A d : Ac} (h : A.Ok) : takeR (A.sum d) d = (0, A) := by
  unfold takeR
  rw [if_pos, if_neg, Ac.sum_less]
  · show ¬ Gt (A.T + d.T - d.T)
    rw [Int.add_sub_cancel]; exact h.v
  · obtain ⟨h1, h2, h3, h4, h5, h6, h7, h8⟩ := h
    unfold Ac.Has Ac.sum
    dsimp only
    omega

/-- so many pairs of things more, from a place on -/
def seg (B : Ac) (p q : Nat → Ac) : Nat → Nat → Ac
  | _, 0 => B
  | lo, n + 1 => ((seg B p q lo n).sum (p (lo + n))).sum (q (lo + n))
theorem sum_mid (a b c d e : Ac) : (((a.sum b).sum c).sum d).sum e = (((a.sum d).sum e).sum b).sum c := by
  unfold Ac.sum
  apply Ac.ext' <;> dsimp only <;> omega
theorem seg_low (B : Ac) (p q : Nat → Ac) (lo n : Nat) : seg B p q lo (n + 1) = ((seg B p q (lo + 1) n).sum (p lo)).sum (q lo) := by
  induction n with
  | zero => rfl
  | succ n ih =>
    rw [seg, ih, sum_mid, seg, show lo + 1 + n = lo + (n + 1) by omega]
theorem seg_fit {m : Nat} {B : Ac} {p q : Nat → Ac} (hB : Fit m B) (hp : ∀ i, Thing (p i)) (hq : ∀ i, Thing (q i)) (lo n : Nat) (hn : m + 2 * n ≤ 1099511627776) : Fit (m + 2 * n) (seg B p q lo n) := by
  induction n with
  | zero => exact hB
  | succ n ih =>
    have h1 := fit_add (fit_add (ih (by omega)) (hp (lo + n)) (by omega)) (hq (lo + n)) (by omega)
    rw [show m + 2 * n + 1 + 1 = m + 2 * (n + 1) by omega] at h1
    exact h1
/-- what is left when so many pairs are taken, from the one end or the other -/
def left (back : Bool) (B : Ac) (p q : Nat → Ac) (n i : Nat) : Ac := if back = true then seg B p q 0 (n - i) else seg B p q i (n - i)
def spot (back : Bool) (n i : Nat) : Nat := if back = true then n - 1 - i else i
theorem left_zero (back : Bool) (B : Ac) (p q : Nat → Ac) (n : Nat) : left back B p q n 0 = seg B p q 0 n := by
  unfold left; split <;> rfl
theorem left_end (back : Bool) (B : Ac) (p q : Nat → Ac) (n : Nat) : left back B p q n n = B := by
  unfold left; rw [Nat.sub_self]; split <;> rfl
theorem left_next (back : Bool) (B : Ac) (p q : Nat → Ac) {n i : Nat} (h : i < n) :
    left back B p q n i = ((left back B p q n (i + 1)).sum (p (spot back n i))).sum (q (spot back n i)) := by
  obtain ⟨k, hk⟩ : ∃ k, n - i = k + 1 := ⟨n - i - 1, by omega⟩
  have h1 : n - (i + 1) = k := by omega
  have h2 : n - 1 - i = k := by omega
  unfold left spot
  rw [hk, h1, h2]
  split
  · rw [seg, Nat.zero_add]
  · rw [seg_low]
theorem left_fit {m : Nat} {B : Ac} {p q : Nat → Ac} (hB : Fit m B) (hp : ∀ i, Thing (p i)) (hq : ∀ i, Thing (q i)) (back : Bool) (n i : Nat) (hn : m + 2 * n ≤ 1099511627776) : Fit (m + 2 * (n - i)) (left back B p q n i) := by
  unfold left
  split
  · exact seg_fit hB hp hq _ _ (by omega)
  · exact seg_fit hB hp hq _ _ (by omega)
theorem spot_lt {back : Bool} {n i : Nat} (h : i < n) : spot back n i < n := by unfold spot; split <;> omega
end Go.Proofs.YthdbapibbdkclaaDoor
