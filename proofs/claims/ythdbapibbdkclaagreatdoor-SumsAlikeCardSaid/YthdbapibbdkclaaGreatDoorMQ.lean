/- Lists of float64 in memory; what an accumulator has while few things are added and taken. The walk of steelyardlaw07.SuperUndone: true of all lists, in every world whose table of math/bits is laid. No statement of the seat is proved here. -/
import Derived.Test.YthdbapibbdkclaaGreatDoorProg
import Derived.Test.YthdbapibbdkclaaGreatDoorMP
namespace Go.Proofs.YthdbapibbdkclaaGreatDoor
open Go.RowKit
set_option linter.unusedVariables false
set_option linter.unusedSimpArgs false

/-- numbers that can be read at an address -/
def FRd (w : World) (a : Option Addr) (l : List Nat) : Prop :=
  ∀ i x, l[i]? = some x → ∃ b off, a = some ⟨b, off, none⟩ ∧ w.cell? ⟨b, off + i, none⟩ = some (.float .f64 x)
def W64L (l : List Nat) : Prop := ∀ x ∈ l, x < 18446744073709551616
theorem W64L.nil : W64L [] := fun _ h => by cases h
theorem FRd.nil (w : World) (a : Option Addr) : FRd w a [] := fun i x h => by simp at h
theorem FRd.at {w : World} {a : Option Addr} {l : List Nat} (h : FRd w a l) {i : Nat} (hi : i < l.length) :
    ∃ b off, a = some ⟨b, off, none⟩ ∧ w.cell? ⟨b, off + i, none⟩ = some (.float .f64 (l.getD i 0)) := by
  have hx : l[i]? = some (l.getD i 0) := by rw [List.getD_eq_getElem?_getD, List.getElem?_eq_getElem hi]; rfl
  obtain ⟨b, off, h1, h2⟩ := h i _ hx
  exact ⟨b, off, h1, h2⟩
theorem FRd.below {B : Nat} {w w' : World} {a : Option Addr} {l : List Nat} (h : FRd w a l) (hb : Below B w w') (hB : ∀ ad, a = some ad → l ≠ [] → ad.block < B) : FRd w' a l := fun i x hx => by
  obtain ⟨b, off, rfl, h2⟩ := h i x hx
  refine ⟨b, off, rfl, ?_⟩
  rw [hb.cell (p := ⟨b, off + i, none⟩) (hB ⟨b, off, none⟩ rfl (by rintro rfl; simp at hx))]; exact h2
theorem FRd.lt {w : World} {a : Option Addr} {l : List Nat} (h : FRd w a l) {ad : Addr} (ha : a = some ad) (hl : l ≠ []) : ad.block < w.heap.size := by
  cases l with
  | nil => exact absurd rfl hl
  | cons x l =>
    obtain ⟨b, off, h1, h2⟩ := h 0 x rfl
    rw [h1] at ha; cases ha
    exact World.block_lt_of_cell? _ _ h2
theorem FRd.grow {w w' : World} {a : Option Addr} {l : List Nat} (h : FRd w a l) (hb : Below w.heap.size w w') : FRd w' a l :=
  h.below hb fun _ ha hl => h.lt ha hl
theorem w64_getD {l : List Nat} (h : W64L l) (i : Nat) : l.getD i 0 < 18446744073709551616 := by
  rw [List.getD_eq_getElem?_getD]
  cases hx : l[i]? with
  | none => simp
  | some x => exact h x (List.mem_of_getElem? hx)
/-- a slice of numbers that may be handed in -/
structure FSl (w : World) (a : Option Addr) (c : Nat) (l : List Nat) : Prop where
  rd : FRd w a l
  wf : W64L l
  cap : l.length ≤ c
  nil : a = none → c = 0

/-- one that may be, of so many things -/
structure Fit (n : Nat) (A : Ac) : Prop where
  ok : A.Ok
  sm : Sm n A
/-- a thing -/
structure Thing (d : Ac) : Prop where
  one : d.One
  lo : -Mx ≤ d.T
  hi : d.T ≤ Mx
theorem numT_thing (b : Nat) : Thing (numT b) := ⟨numT_one b, (numT_bd b).1, (numT_bd b).2⟩
theorem prT_thing (b c : Nat) : Thing (prT b c) := ⟨prT_one b c, (prT_bd b c).1, (prT_bd b c).2⟩
theorem fit_zero : Fit 0 Ac.zero := ⟨Ac.zero_ok, sm_zero⟩
theorem fit_add {n : Nat} {A d : Ac} (h : Fit n A) (k : Thing d) (hn : n + 1 ≤ 1099511627776) : Fit (n + 1) (A.sum d) :=
  ⟨sm_ok h.ok h.sm hn k.one k.lo k.hi, sm_add h.sm k.one k.lo k.hi⟩
theorem fit_addR {n : Nat} {A d : Ac} (h : Fit n A) (k : Thing d) (hn : n + 1 ≤ 1099511627776) : addR A d = (0, A.sum d) :=
  addR_small h.sm hn k.one k.lo k.hi
theorem fit_takeR {A d : Ac} (h : A.Ok) : takeR (A.sum d) d = (0, A) := by
  unfold takeR
  rw [if_pos, if_neg, Ac.sum_less]
  · show ¬ Gt (A.T + d.T - d.T)
    rw [Int.add_sub_cancel]; exact h.v
  · obtain ⟨h1, h2, h3, h4, h5, h6, h7, h8⟩ := h
    unfold Ac.Has Ac.sum
    dsimp only
    omega

/-- so many pairs of things more, from a place on -/
def seg (B : Ac) (p q : Nat → Ac) : Nat → Nat → Ac
  | _, 0 => B
  | lo, n + 1 => ((seg B p q lo n).sum (p (lo + n))).sum (q (lo + n))
theorem sum_mid (a b c d e : Ac) : (((a.sum b).sum c).sum d).sum e = (((a.sum d).sum e).sum b).sum c := by
  unfold Ac.sum
  apply Ac.ext' <;> dsimp only <;> omega
theorem seg_low (B : Ac) (p q : Nat → Ac) (lo n : Nat) : seg B p q lo (n + 1) = ((seg B p q (lo + 1) n).sum (p lo)).sum (q lo) := by
  induction n with
  | zero => rfl
  | succ n ih =>
    rw [seg, ih, sum_mid, seg, show lo + 1 + n = lo + (n + 1) by omega]
theorem seg_fit {m : Nat} {B : Ac} {p q : Nat → Ac} (hB : Fit m B) (hp : ∀ i, Thing (p i)) (hq : ∀ i, Thing (q i)) (lo n : Nat) (hn : m + 2 * n ≤ 1099511627776) : Fit (m + 2 * n) (seg B p q lo n) := by
  induction n with
  | zero => exact hB
  | succ n ih =>
    have h1 := fit_add (fit_add (ih (by omega)) (hp (lo + n)) (by omega)) (hq (lo + n)) (by omega)
    rw [show m + 2 * n + 1 + 1 = m + 2 * (n + 1) by omega] at h1
    exact h1
/-- what is left when so many pairs are taken, from the one end or the other -/
def left (back : Bool) (B : Ac) (p q : Nat → Ac) (n i : Nat) : Ac := if back = true then seg B p q 0 (n - i) else seg B p q i (n - i)
def spot (back : Bool) (n i : Nat) : Nat := if back = true then n - 1 - i else i
theorem left_zero (back : Bool) (B : Ac) (p q : Nat → Ac) (n : Nat) : left back B p q n 0 = seg B p q 0 n := by
  unfold left; split <;> rfl
theorem left_end (back : Bool) (B : Ac) (p q : Nat → Ac) (n : Nat) : left back B p q n n = B := by
  unfold left; rw [Nat.sub_self]; split <;> rfl
theorem left_next (back : Bool) (B : Ac) (p q : Nat → Ac) {n i : Nat} (h : i < n) :
    left back B p q n i = ((left back B p q n (i + 1)).sum (p (spot back n i))).sum (q (spot back n i)) := by
  obtain ⟨k, hk⟩ : ∃ k, n - i = k + 1 := ⟨n - i - 1, by omega⟩
  have h1 : n - (i + 1) = k := by omega
  have h2 : n - 1 - i = k := by omega
  unfold left spot
  rw [hk, h1, h2]
  split
  · rw [seg, Nat.zero_add]
  · rw [seg_low]
theorem left_fit {m : Nat} {B : Ac} {p q : Nat → Ac} (hB : Fit m B) (hp : ∀ i, Thing (p i)) (hq : ∀ i, Thing (q i)) (back : Bool) (n i : Nat) (hn : m + 2 * n ≤ 1099511627776) : Fit (m + 2 * (n - i)) (left back B p q n i) := by
  unfold left
  split
  · exact seg_fit hB hp hq _ _ (by omega)
  · exact seg_fit hB hp hq _ _ (by omega)
theorem spot_lt {back : Bool} {n i : Nat} (h : i < n) : spot back n i < n := by unfold spot; split <;> omega
end Go.Proofs.YthdbapibbdkclaaGreatDoor
namespace Go.Proofs.YthdbapibbdkclaaGreatDoor
open Go.RowKit
set_option linter.unusedVariables false
set_option linter.unusedSimpArgs false

theorem add_few {n : Nat} {A : Ac} (b g : Nat) (w : World) (hA : Fit n A) (hn : n + 1 ≤ 1099511627776) (hb : b < 18446744073709551616) (h : AccAt w g A) :
    Calls Tryz.prog 67 #[.pointer (some ⟨g, 0, none⟩), .float .f64 b] w (AccR (0, A.sum (numT b)) w g) := by
  have := accadd_any A b g w hA.ok hb h
  rw [fit_addR hA (numT_thing b) hn] at this
  exact this
theorem addp_few {n : Nat} {A : Ac} (b c g : Nat) (w : World) (hA : Fit n A) (hn : n + 1 ≤ 1099511627776) (hb : b < 18446744073709551616) (hc : c < 18446744073709551616) (h : AccAt w g A) :
    Calls Tryz.prog 89 #[.pointer (some ⟨g, 0, none⟩), .float .f64 b, .float .f64 c] w (AccR (0, A.sum (prT b c)) w g) := by
  have := accaddp_any A b c g w hA.ok hb hc h
  rw [fit_addR hA (prT_thing b c) hn] at this
  exact this
theorem take_few {n : Nat} {A : Ac} (b g : Nat) (w : World) (hA : Fit n A) (hn : n + 1 ≤ 1099511627776) (hb : b < 18446744073709551616) (h : AccAt w g (A.sum (numT b))) :
    Calls Tryz.prog 87 #[.pointer (some ⟨g, 0, none⟩), .float .f64 b] w (AccR (0, A) w g) := by
  have := acctake_any (A.sum (numT b)) b g w (fit_add hA (numT_thing b) hn).ok hb h
  rw [fit_takeR hA.ok] at this
  exact this
theorem takep_few {n : Nat} {A : Ac} (b c g : Nat) (w : World) (hA : Fit n A) (hn : n + 1 ≤ 1099511627776) (hb : b < 18446744073709551616) (hc : c < 18446744073709551616) (h : AccAt w g (A.sum (prT b c))) :
    Calls Tryz.prog 91 #[.pointer (some ⟨g, 0, none⟩), .float .f64 c, .float .f64 b] w (AccR (0, A) w g) := by
  have := acctakep_any (A.sum (prT b c)) c b g w (fit_add hA (prT_thing b c) hn).ok hc hb h
  rw [prT_comm c b, fit_takeR hA.ok] at this
  exact this

/-- what the laws' loops over lists know -/
structure Un (w W : World) (g : Nat) (A : Ac) : Prop where
  acc : AccAt W g A
  bel : Below w.heap.size w W
theorem un_next {w W W' : World} {g : Nat} {A B : Ac} (h : Un w W g A) (hg : w.heap.size ≤ g) (hA : AccAt W' g B) (hG : W.grownBy W' (some g)) : Un w W' g B :=
  ⟨hA, bel_grown h.bel (Nat.le_refl _) hG hg⟩

structure Un2 (w W : World) (g h : Nat) (A B : Ac) : Prop where
  acc : AccAt W g A
  two : AccAt W h B
  bel : Below w.heap.size w W
theorem un2_next {w W W' : World} {g k : Nat} {A B C : Ac} (h : Un2 w W g k A B) (hg : w.heap.size ≤ g ∧ k ≠ g) (hA : AccAt W' g C) (hG : W.grownBy W' (some g)) : Un2 w W' g k C B :=
  ⟨hA, Tot.grown h.two hG hg.2, bel_grown h.bel (Nat.le_refl _) hG hg.1⟩
theorem un2_drew {w W : World} {g k q : Nat} {A B : Ac} (h : Un2 w W g k A B) : Un2 w (W.drewN q) g k A B := ⟨h.acc, h.two, below_drewN' h.bel⟩

theorem eql_spc (A : Ac) (W : World) : (binOp .eql 71 (spcV A) (spcV A)).run Tryz.prog W = .ok (.bool true) W := by
  unfold spcV
  simp [go_sem]
theorem FRd.cells {w : World} {b off : Nat} {l : List Nat} (h : FRd w (some ⟨b, off, none⟩) l) {i : Nat} (hi : i < l.length) : w.cell? ⟨b, off + i, none⟩ = some (.float .f64 (l.getD i 0)) := by
  obtain ⟨b', off', h1, h2⟩ := h.at hi
  cases h1
  exact h2
theorem min3_nat (a b : Nat) : (if (200 : Int) < (if (b : Int) < a then (b : Int) else a) then (200 : Int) else (if (b : Int) < a then (b : Int) else a)) = ((min (min a b) 200 : Nat) : Int) := by
  rw [Nat.min_def, Nat.min_def]
  split <;> split <;> split <;> (try split) <;> omega

end Go.Proofs.YthdbapibbdkclaaGreatDoor
