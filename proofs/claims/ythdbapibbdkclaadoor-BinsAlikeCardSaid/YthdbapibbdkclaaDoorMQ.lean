/- Lists of float64 in memory; what an accumulator has while few things are added and taken. The walk of steelyardlaw07.SuperUndone: true of all lists, in every world whose table of math/bits is laid. No statement of the seat is proved here. -/
import Derived.Test.YthdbapibbdkclaaDoorProg
import Derived.Test.YthdbapibbdkclaaDoorMP
namespace Go.Proofs.YthdbapibbdkclaaDoor
open Go.RowKit
set_option linter.unusedVariables false
set_option linter.unusedSimpArgs false

/-- numbers that can be read at an address -/
def FRd (w : World) (a : Option Addr) (l : List Nat) : Prop :=
  ∀ i x, l[i]? = some x → ∃ b off, a = some ⟨b, off, none⟩ ∧ w.cell? ⟨b, off + i, none⟩ = some (.float .f64 x)
def W64L (l : List Nat) : Prop := ∀ x ∈ l, x < 18446744073709551616
theorem W64L.nil : W64L [] := fun _ h => by cases h
theorem FRd.nil (w : World) (a : Option Addr) : FRd w a [] := fun i x h => by simp at h
theorem FRd.at {w : World} {a : Option Addr} {l : List Nat} (h : FRd w a l) {i : Nat} (hi : i < l.length) :
    ∃ b off, a = some ⟨b, off, none⟩ ∧ w.cell? ⟨b, off + i, none⟩ = some (.float .f64 (l.getD i 0)) := by
  have hx : l[i]? = some (l.getD i 0) := by rw [List.getD_eq_getElem?_getD, List.getElem?_eq_getElem hi]; rfl
  obtain ⟨b, off, h1, h2⟩ := h i _ hx
  exact ⟨b, off, h1, h2⟩
theorem FRd.below {B : Nat} {w w' : World} {a : Option Addr} {l : List Nat} (h : FRd w a l) (hb : Below B w w') (hB : ∀ ad, a = some ad → l ≠ [] → ad.block < B) : FRd w' a l := fun i x hx => by
  obtain ⟨b, off, rfl, h2⟩ := h i x hx
  refine ⟨b, off, rfl, ?_⟩
  rw [hb.cell (p := ⟨b, off + i, none⟩) (hB ⟨b, off, none⟩ rfl (by rintro rfl; simp at hx))]; exact h2
theorem FRd.lt {w : World} {a : Option Addr} {l : List Nat} (h : FRd w a l) {ad : Addr} (ha : a = some ad) (hl : l ≠ []) : ad.block < w.heap.size := by
  cases l with
  | nil => exact absurd rfl hl
  | cons x l =>
    obtain ⟨b, off, h1, h2⟩ := h 0 x rfl
    rw [h1] at ha; cases ha
    exact World.block_lt_of_cell? _ _ h2
theorem FRd.grow {w w' : World} {a : Option Addr} {l : List Nat} (h : FRd w a l) (hb : Below w.heap.size w w') : FRd w' a l :=
  h.below hb fun _ ha hl => h.lt ha hl
theorem w64_getD {l : List Nat} (h : W64L l) (i : Nat) : l.getD i 0 < 18446744073709551616 := by
  rw [List.getD_eq_getElem?_getD]
  cases hx : l[i]? with
  | none => simp
  | some x => exact h x (List.mem_of_getElem? hx)
/-- a slice of numbers that may be handed in -/
structure FSl (w : World) (a : Option Addr) (c : Nat) (l : List Nat) : Prop where
  rd : FRd w a l
  wf : W64L l
  cap : l.length ≤ c
  nil : a = none → c = 0

/-- one that may be, of so many things -/
structure Fit (n : Nat) (A : Ac) : Prop where
  ok : A.Ok
  sm : Sm n A
/-- a thing -/
structure Thing (d : Ac) : Prop where
  one : d.One
  lo : -Mx ≤ d.T
  hi : d.T ≤ Mx
theorem numT_thing (b : Nat) : Thing (numT b) := ⟨numT_one b, (numT_bd b).1, (numT_bd b).2⟩
theorem prT_thing (b c : Nat) : Thing (prT b c) := ⟨prT_one b c, (prT_bd b c).1, (prT_bd b c).2⟩
theorem fit_zero : Fit 0 Ac.zero := ⟨Ac.zero_ok, sm_zero⟩
theorem fit_add {n : Nat} {A d : Ac} (h : Fit n A) (k : Thing d) (hn : n + 1 ≤ 1099511627776) : Fit (n + 1) (A.sum d) :=
  ⟨sm_ok h.ok h.sm hn k.one k.lo k.hi, sm_add h.sm k.one k.lo k.hi⟩
theorem fit_addR {n : Nat} {A d : Ac} (h : Fit n A) (k : Thing d) (hn : n + 1 ≤ 1099511627776) : addR A d = (0, A.sum d) :=
  addR_small h.sm hn k.one k.lo k.hi
theorem fit_takeR {A d : Ac} (h : A.Ok) : takeR (A.sum d) d = (0, A) := by
  unfold takeR
  rw [if_pos, if_neg, Ac.sum_less]
  · show ¬ Gt (A.T + d.T - d.T)
    rw [Int.add_sub_cancel]; exact h.v
  · obtain ⟨h1, h2, h3, h4, h5, h6, h7, h8⟩ := h
    unfold Ac.Has Ac.sum
    dsimp only
    omega

/-- so many pairs of things more, from a place on -/
def seg (B : Ac) (p q : Nat → Ac) : Nat → Nat → Ac
  | _, 0 => B
  | lo, n + 1 => ((seg B p q lo n).sum (p (lo + n))).sum (q (lo + n))
theorem sum_mid (a b c d e : Ac) : (((a.sum b).sum c).sum d).sum e = (((a.sum d).sum e).sum b).sum c := by
  unfold Ac.sum
  apply Ac.ext' <;> dsimp only <;> omega
theorem seg_low (B : Ac) (p q : Nat → Ac) (lo n : Nat) : seg B p q lo (n + 1) = ((seg B p q (lo + 1) n).sum (p lo)).sum (q lo) := by
  induction n with
  | zero => rfl
  | succ n ih =>
    rw [seg, ih, sum_mid, seg, show lo + 1 + n = lo + (n + 1) by omega]
theorem seg_fit {m : Nat} {B : Ac} {p q : Nat → Ac} (hB : Fit m B) (hp : ∀ i, Thing (p i)) (hq : ∀ i, Thing (q i)) (lo n : Nat) (hn : m + 2 * n ≤ 1099511627776) : Fit (m + 2 * n) (seg B p q lo n) := by
  induction n with
  | zero => exact hB
  | succ n ih =>
    have h1 := fit_add (fit_add (ih (by omega)) (hp (lo + n)) (by omega)) (hq (lo + n)) (by omega)
    rw [show m + 2 * n + 1 + 1 = m + 2 * (n + 1) by omega] at h1
    exact h1
/-- what is left when so many pairs are taken, from the one end or the other -/
def left (back : Bool) (B : Ac) (p q : Nat → Ac) (n i : Nat) : Ac := if back = true then seg B p q 0 (n - i) else seg B p q i (n - i)
def spot (back : Bool) (n i : Nat) : Nat := if back = true then n - 1 - i else i
theorem left_zero (back : Bool) (B : Ac) (p q : Nat → Ac) (n : Nat) : left back B p q n 0 = seg B p q 0 n := by
  unfold left; split <;> rfl
theorem left_end (back : Bool) (B : Ac) (p q : Nat → Ac) (n : Nat) : left back B p q n n = B := by
  unfold left; rw [Nat.sub_self]; split <;> rfl
theorem left_next (back : Bool) (B : Ac) (p q : Nat → Ac) {n i : Nat} (h : i < n) :
    left back B p q n i = ((left back B p q n (i + 1)).sum (p (spot back n i))).sum (q (spot back n i)) := by
  obtain ⟨k, hk⟩ : ∃ k, n - i = k + 1 := ⟨n - i - 1, by omega⟩
  have h1 : n - (i + 1) = k := by omega
  have h2 : n - 1 - i = k := by omega
  unfold left spot
  rw [hk, h1, h2]
  split
  · rw [seg, Nat.zero_add]
  · rw [seg_low]
theorem left_fit {m : Nat} {B : Ac} {p q : Nat → Ac} (hB : Fit m B) (hp : ∀ i, Thing (p i)) (hq : ∀ i, Thing (q i)) (back : Bool) (n i : Nat) (hn : m + 2 * n ≤ 1099511627776) : Fit (m + 2 * (n - i)) (left back B p q n i) := by
  unfold left
  split
  · exact seg_fit hB hp hq _ _ (by omega)
  · exact seg_fit hB hp hq _ _ (by omega)
theorem spot_lt {back : Bool} {n i : Nat} (h : i < n) : spot back n i < n := by unfold spot; split <;> omega
end Go.Proofs.YthdbapibbdkclaaDoor
namespace Go.Proofs.YthdbapibbdkclaaDoor
open Go.RowKit
set_option linter.unusedVariables false
set_option linter.unusedSimpArgs false

theorem add_few {n : Nat} {A : Ac} (b g : Nat) (w : World) (hA : Fit n A) (hn : n + 1 ≤ 1099511627776) (hb : b < 18446744073709551616) (h : AccAt w g A) :
    Calls Tryd.prog 35 #[.pointer (some ⟨g, 0, none⟩), .float .f64 b] w (AccR (0, A.sum (numT b)) w g) := by
  have := accadd_any A b g w hA.ok hb h
  rw [fit_addR hA (numT_thing b) hn] at this
  exact this
theorem addp_few {n : Nat} {A : Ac} (b c g : Nat) (w : World) (hA : Fit n A) (hn : n + 1 ≤ 1099511627776) (hb : b < 18446744073709551616) (hc : c < 18446744073709551616) (h : AccAt w g A) :
    Calls Tryd.prog 30 #[.pointer (some ⟨g, 0, none⟩), .float .f64 b, .float .f64 c] w (AccR (0, A.sum (prT b c)) w g) := by
  have := accaddp_any A b c g w hA.ok hb hc h
  rw [fit_addR hA (prT_thing b c) hn] at this
  exact this
theorem take_few {n : Nat} {A : Ac} (b g : Nat) (w : World) (hA : Fit n A) (hn : n + 1 ≤ 1099511627776) (hb : b < 18446744073709551616) (h : AccAt w g (A.sum (numT b))) :
    Calls Tryd.prog 37 #[.pointer (some ⟨g, 0, none⟩), .float .f64 b] w (AccR (0, A) w g) := by
  have := acctake_any (A.sum (numT b)) b g w (fit_add hA (numT_thing b) hn).ok hb h
  rw [fit_takeR hA.ok] at this
  exact this
theorem takep_few {n : Nat} {A : Ac} (b c g : Nat) (w : World) (hA : Fit n A) (hn : n + 1 ≤ 1099511627776) (hb : b < 18446744073709551616) (hc : c < 18446744073709551616) (h : AccAt w g (A.sum (prT b c))) :
    Calls Tryd.prog 38 #[.pointer (some ⟨g, 0, none⟩), .float .f64 c, .float .f64 b] w (AccR (0, A) w g) := by
  have := acctakep_any (A.sum (prT b c)) c b g w (fit_add hA (prT_thing b c) hn).ok hc hb h
  rw [prT_comm c b, fit_takeR hA.ok] at this
  exact this

/-- what the laws' loops over lists know -/
structure Un (w W : World) (g : Nat) (A : Ac) : Prop where
  acc : AccAt W g A
  bel : Below w.heap.size w W
theorem un_next {w W W' : World} {g : Nat} {A B : Ac} (h : Un w W g A) (hg : w.heap.size ≤ g) (hA : AccAt W' g B) (hG : W.grownBy W' (some g)) : Un w W' g B :=
  ⟨hA, bel_grown h.bel (Nat.le_refl _) hG hg⟩

structure Un2 (w W : World) (g h : Nat) (A B : Ac) : Prop where
  acc : AccAt W g A
  two : AccAt W h B
  bel : Below w.heap.size w W
theorem un2_next {w W W' : World} {g k : Nat} {A B C : Ac} (h : Un2 w W g k A B) (hg : w.heap.size ≤ g ∧ k ≠ g) (hA : AccAt W' g C) (hG : W.grownBy W' (some g)) : Un2 w W' g k C B :=
  ⟨hA, Tot.grown h.two hG hg.2, bel_grown h.bel (Nat.le_refl _) hG hg.1⟩
theorem un2_drew {w W : World} {g k q : Nat} {A B : Ac} (h : Un2 w W g k A B) : Un2 w (W.drewN q) g k A B := ⟨h.acc, h.two, below_drewN' h.bel⟩

theorem eql_spc (A : Ac) (W : World) : (binOp .eql 31 (spcV A) (spcV A)).run Tryd.prog W = .ok (.bool true) W := by
  unfold spcV
  simp [go_sem]
theorem FRd.cells {w : World} {b off : Nat} {l : List Nat} (h : FRd w (some ⟨b, off, none⟩) l) {i : Nat} (hi : i < l.length) : w.cell? ⟨b, off + i, none⟩ = some (.float .f64 (l.getD i 0)) := by
  obtain ⟨b', off', h1, h2⟩ := h.at hi
  cases h1
  exact h2
theorem min3_nat (a b : Nat) : (if (200 : Int) < (if (b : Int) < a then (b : Int) else a) then (200 : Int) else (if (b : Int) < a then (b : Int) else a)) = ((min (min a b) 200 : Nat) : Int) := by
  rw [Nat.min_def, Nat.min_def]
  split <;> split <;> split <;> (try split) <;> omega

set_option maxRecDepth 10000 in
set_option maxHeartbeats 8000000 in
theorem superundone_any (a1 a2 a3 : Option Addr) (c1 c2 c3 : Nat) (l xs ys : List Nat) (back : Bool) (w : World) (hT : Tab w) (hl : FSl w a1 c1 l) (hx : FSl w a2 c2 xs) (hy : FSl w a3 c3 ys) :
    Calls Tryd.prog 6 #[.slice a1 l.length c1, .slice a2 xs.length c2, .slice a3 ys.length c3, .bool back] w fun en w' => en = .returned (.bool true) ∧ Below w.heap.size w w' := by
  have H1 := Lib.hid (live7_any w hT)
  have HLf := Lib.hid (w64_getD hl.wf); have HXf := Lib.hid (w64_getD hx.wf); have HYf := Lib.hid (w64_getD hy.wf)
  have HL := Lib.hid (fun W (hw : Below w.heap.size w W) => hl.rd.grow hw)
  have HX := Lib.hid (fun W (hw : Below w.heap.size w W) => hx.rd.grow hw)
  have HY := Lib.hid (fun W (hw : Below w.heap.size w W) => hy.rd.grow hw)
  have HT := Lib.hid hT
  obtain ⟨n, hn⟩ : ∃ n, n = min (min xs.length ys.length) 200 := ⟨_, rfl⟩
  clear hl hx hy hT
  go_enter Tryd.func6, Tryd.ntmps6
  go_wp2_with fail
  refine H1.out.mono ?_; rintro en w1 ⟨rfl, hb⟩
  have HB := Lib.hid hb
  have y1 := hb.size
  clear hb
  go_wp2_with fail
  refine (new_any w1).mono ?_; rintro en w2 ⟨rfl, hA, hb⟩
  obtain ⟨g, hg⟩ : ∃ g, g = w1.heap.size := ⟨_, rfl⟩
  rw [← hg] at hA ⊢
  have HU : Hid (Un w w2 g Ac.zero) := ⟨hA, HB.out.trans (hb.mono y1)⟩
  have HG : Hid (w.heap.size ≤ g) := by rw [hg]; exact y1
  clear hA hb hg HB y1
  go_wp2_with fail
  go_loopw [11] (fun i wr => ∃ (k : Nat) (A : Ac), k ≤ l.length ∧ k ≤ 200 ∧ i = .int .i64 k ∧ Hid (Fit k A ∧ Un w wr g A)) (fun i _ => 200 - (intOf i).toNat)
  case atStart => exact ⟨0, Ac.zero, Nat.zero_le _, Nat.zero_le _, rfl, fit_zero, HU.out⟩
  case round =>
    obtain ⟨k, A, hk1, hk2, rfl, hH⟩ := hrel
    obtain ⟨c, hc⟩ : ∃ c, c = decide (k < l.length ∧ k < 200) := ⟨_, rfl⟩
    go_upto_region 6 with fail
    go_cut [33] from 26 to 33 (fun cc wx => cc = .bool c ∧ wx = wr)
    case first =>
      by_cases q1 : k < l.length
      · by_cases q2 : k < 200
        · have hc' : c = true := by rw [hc]; exact decide_eq_true ⟨q1, q2⟩
          clear hc
          go_wp2_with fail
          go_meet
          case rel => exact ⟨by subst hc'; simp <;> omega, rfl⟩
        · have hc' : c = false := by rw [hc]; exact decide_eq_false (fun h => q2 h.2)
          clear hc
          go_wp2_with fail
          go_meet
          case rel => exact ⟨by subst hc'; simp <;> omega, rfl⟩
      · have hc' : c = false := by rw [hc]; exact decide_eq_false (fun h => q1 h.1)
        clear hc
        go_wp2_with fail
        go_meet
        case rel => exact ⟨by subst hc'; simp <;> omega, rfl⟩
    obtain ⟨rfl, rfl⟩ := hcut
    by_cases hq : k < l.length ∧ k < 200
    · obtain rfl : c = true := by rw [hc]; exact decide_eq_true hq
      clear hc
      obtain ⟨q1, q2⟩ := hq
      obtain ⟨b, off, rfl, hcell⟩ := (HL.out wc hH.out.2.bel).at q1
      have hbd := HLf.out k
      have HF := Lib.hid (add_few (l.getD k 0) g wc hH.out.1 (by omega) hbd hH.out.2.acc)
      have HFit := Lib.hid (fit_add hH.out.1 (numT_thing (l.getD k 0)) (by omega))
      have HUn := Lib.hid hH.out.2
      obtain ⟨x, hx⟩ : ∃ x, x = l.getD k 0 := ⟨_, rfl⟩
      rw [← hx] at hcell hbd HF HFit
      clear hx hH
      go_wp2_with fail
      refine HF.out.mono ?_; rintro en w3 ⟨rfl, hA, hG⟩
      have HU3 := Lib.hid (un_next HUn.out HG.out hA hG)
      clear hA hG HF HUn
      go_wp2_with fail
      go_roundw
      case rel => exact ⟨k + 1, _, by omega, by omega, by go_num, HFit.out, HU3.out⟩
      case measure => simp [intOf]; omega
    · obtain rfl : c = false := by rw [hc]; exact decide_eq_false hq
      clear hc
      have HFit : Hid (Fit k A) := Lib.hid hH.out.1
      have HUn := Lib.hid hH.out.2
      clear hH hq
      have hCp := acccopy_any A g wc HUn.out.acc
      have HCp := Lib.hid hCp
      clear hCp
      go_wp2_with fail
      refine HCp.out.mono ?_; rintro en w3 ⟨rfl, hA, hb⟩
      obtain ⟨g2, hg2⟩ : ∃ g2, g2 = wc.heap.size := ⟨_, rfl⟩
      have hlt : g < wc.heap.size := Tot.lt HUn.out.acc
      have HG2 : Hid (w.heap.size ≤ g ∧ g2 ≠ g) := ⟨HG.out, by omega⟩
      have HU2 : Hid (Un2 w w3 g g2 A A) := ⟨Tot.below HUn.out.acc hb hlt, by rw [hg2]; exact hA, HUn.out.bel.trans (hb.mono HUn.out.bel.size)⟩
      rw [← hg2]
      clear hg2 hlt hA hb HCp HUn HG
      have hmn : ∀ ts tt W, (Builtin.min_ ts tt #[.int .i64 xs.length, .int .i64 ys.length, .int .i64 200]).run Tryd.prog W = .ok (.int .i64 n) W := by
        intro ts tt W
        rw [hn, ← min3_nat]
        simp [Builtin.min_, Builtin.min2]
      have hn1 : n ≤ xs.length := by omega
      have hn2 : n ≤ ys.length := by omega
      have hn3 : n ≤ 200 := by omega
      obtain ⟨pp, hpp⟩ : ∃ f : Nat → Ac, f = fun j => prT (xs.getD j 0) (ys.getD j 0) := ⟨_, rfl⟩
      obtain ⟨qq, hqq⟩ : ∃ f : Nat → Ac, f = fun j => numT (xs.getD j 0) := ⟨_, rfl⟩
      have HPP : Hid (∀ j, pp j = prT (xs.getD j 0) (ys.getD j 0)) := fun j => by rw [hpp]
      have HQQ : Hid (∀ j, qq j = numT (xs.getD j 0)) := fun j => by rw [hqq]
      have TP : Hid (∀ j, Thing (pp j)) := fun j => by rw [hpp]; exact prT_thing _ _
      have TQ : Hid (∀ j, Thing (qq j)) := fun j => by rw [hqq]; exact numT_thing _
      clear hpp hqq hn
      go_wp2_with fail
      go_loopw [14, 15, 16] (fun i e f wr => ∃ j : Nat, j ≤ n ∧ i = .int .i64 j ∧ Hid (Un2 w wr g g2 (seg A pp qq 0 j) A)) (fun i _ _ _ => n - (intOf i).toNat)
      case atStart => exact ⟨0, Nat.zero_le _, rfl, HU2.out⟩
      case round =>
        obtain ⟨j, hj, rfl, hH⟩ := hrel
        by_cases hq : j < n
        · obtain ⟨bx, ox, rfl, hcx⟩ := (HX.out wr hH.out.bel).at (show j < xs.length by omega)
          obtain ⟨by', oy, rfl, hcy⟩ := (HY.out wr hH.out.bel).at (show j < ys.length by omega)
          have hF := seg_fit HFit.out TP.out TQ.out 0 j (by omega)
          have hF2 := fit_add hF (TP.out j) (by omega)
          have hS : ((seg A pp qq 0 j).sum (pp j)).sum (qq j) = seg A pp qq 0 (j + 1) := by rw [seg, Nat.zero_add]
          have hbx := HXf.out j
          have hby := HYf.out j
          have HCx := Lib.hid (fun W (hw : Below w.heap.size w W) => (HX.out W hw).cells (show j < xs.length by omega))
          have HCy := Lib.hid (fun W (hw : Below w.heap.size w W) => (HY.out W hw).cells (show j < ys.length by omega))
          have e1 := HPP.out j
          have e2 := HQQ.out j
          obtain ⟨x, hx⟩ : ∃ x, x = xs.getD j 0 := ⟨_, rfl⟩
          obtain ⟨y, hy⟩ : ∃ y, y = ys.getD j 0 := ⟨_, rfl⟩
          rw [← hx] at hcx hbx HCx e1 e2
          rw [← hy] at hcy hby HCy e1
          rw [e1] at hF2 hS
          rw [e2] at hS
          have HP := Lib.hid (fun W (h : AccAt W g (seg A pp qq 0 j)) => addp_few x y g W hF (by omega) hbx hby h)
          have HQ := Lib.hid (fun W (h : AccAt W g ((seg A pp qq 0 j).sum (prT x y))) => add_few x g W hF2 (by omega) hbx h)
          rw [hS] at HQ
          have hjx : j < xs.length := by omega
          have hjy : j < ys.length := by omega
          clear hx hy e1 e2 hF hF2 hS
          go_wp2_with fail
          go_region_held3 (fun W => W.cell? ⟨bx, ox + j, none⟩ = some (.float .f64 x) ∧ W.cell? ⟨by', oy + j, none⟩ = some (.float .f64 y)) (go_keep) (first
            | (go_at_call 30; refine (HP.out wr.drew hH.out.acc).mono ?_; rintro en w4 ⟨rfl, hA, hG⟩; have HU4 := Lib.hid (un2_next (W := wr.drew) ⟨hH.out.acc, hH.out.two, hH.out.bel.drew⟩ HG2.out hA hG); have hcx4 := HCx.out w4 HU4.out.bel; have hcy4 := HCy.out w4 HU4.out.bel; clear hA hG))
          -- GEN
          have hcx4 := HCx.out w4 HU4.out.bel
          go_wp2_with fail
          refine (HQ.out w4 HU4.out.acc).mono ?_; rintro en w5 ⟨rfl, hA, hG⟩
          have HU5 := Lib.hid (un2_next HU4.out HG2.out hA hG)
          clear hA hG
          go_wp2_with fail
          go_roundw
          case rel => exact ⟨j + 1, by omega, by go_num, HU5.out⟩
          case measure => simp [intOf]; omega
        · obtain rfl : n = j := by omega
          have HU3 : Hid (Un2 w wr g g2 (left back A pp qq n 0) A) := ⟨by rw [left_zero]; exact hH.out.acc, hH.out.two, hH.out.bel⟩
          clear hH hq
          go_wp2_with fail
          go_loopw [17, 18, 19, 20] (fun i e f x wr => ∃ j : Nat, j ≤ n ∧ i = .int .i64 j ∧ Hid (Un2 w wr g g2 (left back A pp qq n j) A)) (fun i _ _ _ _ => n - (intOf i).toNat)
          case atStart => exact ⟨0, Nat.zero_le _, rfl, HU3.out⟩
          case round =>
          obtain ⟨j, hj, rfl, hH⟩ := hrel
          by_cases hq : j < n
          · cases back
            case false =>
              obtain ⟨m, hm, hmn2⟩ : ∃ m, m = spot false n j ∧ m < n := ⟨_, rfl, spot_lt hq⟩
              obtain ⟨bx, ox, rfl, hcx⟩ := (HX.out wr hH.out.bel).at (show m < xs.length by omega)
              obtain ⟨by', oy, rfl, hcy⟩ := (HY.out wr hH.out.bel).at (show m < ys.length by omega)
              have hS := left_next false A pp qq hq
              rw [← hm] at hS
              have hF := left_fit HFit.out TP.out TQ.out false n (j + 1) (by omega)
              have hF2 := fit_add hF (TP.out m) (by omega)
              have hbx := HXf.out m
              have hby := HYf.out m
              have HCx := Lib.hid (fun W (hw : Below w.heap.size w W) => (HX.out W hw).cells (show m < xs.length by omega))
              have HCy := Lib.hid (fun W (hw : Below w.heap.size w W) => (HY.out W hw).cells (show m < ys.length by omega))
              have e1 := HPP.out m
              have e2 := HQQ.out m
              obtain ⟨x, hx⟩ : ∃ x, x = xs.getD m 0 := ⟨_, rfl⟩
              obtain ⟨y, hy⟩ : ∃ y, y = ys.getD m 0 := ⟨_, rfl⟩
              rw [← hx] at hcx hbx HCx e1 e2
              rw [← hy] at hcy hby HCy e1
              rw [e1] at hF2 hS
              rw [e2] at hS
              have HA0 : Hid (AccAt wr g (((left false A pp qq n (j + 1)).sum (prT x y)).sum (numT x))) := by rw [← hS]; exact hH.out.acc
              have HP := Lib.hid (fun W (h : AccAt W g (((left false A pp qq n (j + 1)).sum (prT x y)).sum (numT x))) => take_few x g W hF2 (by omega) hbx h)
              have HQ := Lib.hid (fun W (h : AccAt W g ((left false A pp qq n (j + 1)).sum (prT x y))) => takep_few x y g W hF (by omega) hbx hby h)
              have HB0 := Lib.hid hH.out.bel; have HT0 := Lib.hid hH.out.two
              have hjx : m < xs.length := by omega
              have hjy : m < ys.length := by omega
              obtain rfl : m = j := by unfold spot at hm; simp at hm; exact hm
              clear hm hx hy e1 e2 hF hF2 hS hH
              go_wp2_with fail
              refine (HP.out wr HA0.out).mono ?_; rintro en w4 ⟨rfl, hA, hG⟩
              have HU4 := Lib.hid (un2_next (W := wr) ⟨HA0.out, HT0.out, HB0.out⟩ HG2.out hA hG)
              clear hA hG
              have hcx4 := HCx.out w4 HU4.out.bel
              have hcy4 := HCy.out w4 HU4.out.bel
              go_wp2_with fail
              go_region_held3 (fun W => W.cell? ⟨bx, ox + m, none⟩ = some (.float .f64 x) ∧ W.cell? ⟨by', oy + m, none⟩ = some (.float .f64 y)) (go_keep) (first
                | (go_at_call 38; refine (HQ.out w4.drew HU4.out.acc).mono ?_; rintro en w5 ⟨rfl, hA, hG⟩; have HU5 := Lib.hid (un2_next (W := w4.drew) ⟨HU4.out.acc, HU4.out.two, HU4.out.bel.drew⟩ HG2.out hA hG); have hcx5 := HCx.out w5 HU5.out.bel; have hcy5 := HCy.out w5 HU5.out.bel; clear hA hG))
              go_wp2_with fail
              go_roundw
              case rel => exact ⟨m + 1, by omega, by go_num, HU5.out⟩
              case measure => simp [intOf]; omega
            case true =>
              obtain ⟨m, hm, hmn2⟩ : ∃ m, m = spot true n j ∧ m < n := ⟨_, rfl, spot_lt hq⟩
              obtain ⟨bx, ox, rfl, hcx⟩ := (HX.out wr hH.out.bel).at (show m < xs.length by omega)
              obtain ⟨by', oy, rfl, hcy⟩ := (HY.out wr hH.out.bel).at (show m < ys.length by omega)
              have hS := left_next true A pp qq hq
              rw [← hm] at hS
              have hF := left_fit HFit.out TP.out TQ.out true n (j + 1) (by omega)
              have hF2 := fit_add hF (TP.out m) (by omega)
              have hbx := HXf.out m
              have hby := HYf.out m
              have HCx := Lib.hid (fun W (hw : Below w.heap.size w W) => (HX.out W hw).cells (show m < xs.length by omega))
              have HCy := Lib.hid (fun W (hw : Below w.heap.size w W) => (HY.out W hw).cells (show m < ys.length by omega))
              have e1 := HPP.out m
              have e2 := HQQ.out m
              obtain ⟨x, hx⟩ : ∃ x, x = xs.getD m 0 := ⟨_, rfl⟩
              obtain ⟨y, hy⟩ : ∃ y, y = ys.getD m 0 := ⟨_, rfl⟩
              rw [← hx] at hcx hbx HCx e1 e2
              rw [← hy] at hcy hby HCy e1
              rw [e1] at hF2 hS
              rw [e2] at hS
              have HA0 : Hid (AccAt wr g (((left true A pp qq n (j + 1)).sum (prT x y)).sum (numT x))) := by rw [← hS]; exact hH.out.acc
              have HP := Lib.hid (fun W (h : AccAt W g (((left true A pp qq n (j + 1)).sum (prT x y)).sum (numT x))) => take_few x g W hF2 (by omega) hbx h)
              have HQ := Lib.hid (fun W (h : AccAt W g ((left true A pp qq n (j + 1)).sum (prT x y))) => takep_few x y g W hF (by omega) hbx hby h)
              have HB0 := Lib.hid hH.out.bel; have HT0 := Lib.hid hH.out.two
              have hjx : m < xs.length := by omega
              have hjy : m < ys.length := by omega
              have hmj : (n : Int) - 1 - (j : Int) = (m : Int) := by unfold spot at hm; simp at hm; omega
              clear hm hx hy e1 e2 hF hF2 hS hH
              go_wp2_with fail
              refine (HP.out wr HA0.out).mono ?_; rintro en w4 ⟨rfl, hA, hG⟩
              have HU4 := Lib.hid (un2_next (W := wr) ⟨HA0.out, HT0.out, HB0.out⟩ HG2.out hA hG)
              clear hA hG
              have hcx4 := HCx.out w4 HU4.out.bel
              have hcy4 := HCy.out w4 HU4.out.bel
              go_wp2_with fail
              go_region_held3 (fun W => W.cell? ⟨bx, ox + m, none⟩ = some (.float .f64 x) ∧ W.cell? ⟨by', oy + m, none⟩ = some (.float .f64 y)) (go_keep) (first
                | (go_at_call 38; refine (HQ.out w4.drew HU4.out.acc).mono ?_; rintro en w5 ⟨rfl, hA, hG⟩; have HU5 := Lib.hid (un2_next (W := w4.drew) ⟨HU4.out.acc, HU4.out.two, HU4.out.bel.drew⟩ HG2.out hA hG); have hcx5 := HCx.out w5 HU5.out.bel; have hcy5 := HCy.out w5 HU5.out.bel; clear hA hG))
              go_wp2_with fail
              go_roundw
              case rel => exact ⟨j + 1, by omega, by go_num, HU5.out⟩
              case measure => simp [intOf]; omega
          · obtain rfl : n = j := by omega
            have hok := HFit.out.ok
            obtain ⟨d, hd⟩ := exO_some hok.v
            have hE : ∀ W k, AccAt W k A → Below w.heap.size w W → Calls Tryd.prog 15 #[.pointer (some ⟨k, 0, none⟩)] W fun en w' => ∃ a c, en = .returned (dyV d a c) ∧ (argOf d a c).Ok w' ∧ Below W.heap.size W w' := by
              intro W k hW hb
              refine (exact_any A k W hW hok.v (HT.out.grow hb)).mono ?_
              rintro en w' ⟨v, rfl, ⟨a, c, rfl, ho⟩, hbb⟩
              rw [hd] at ho ⊢
              exact ⟨a, c, rfl, ho.arg (exO_both hd).2, hbb⟩
            have HE := Lib.hid hE
            have hSp : ∀ W k, AccAt W k A → Calls Tryd.prog 16 #[.pointer (some ⟨k, 0, none⟩)] W fun en w' => en = .returned (spcV A) ∧ Below W.heap.size W w' := by
              intro W k hW
              exact specials_any A k W hW
            have hEq := eql_spc A
            unfold spcV at hSp hEq
            have HSp := Lib.hid hSp
            have HU := Lib.hid (show Un2 w wr g g2 A A by have := hH.out; rw [left_end] at this; exact this)
            clear hE hSp hd hok hH hq hj
            go_wp2_with fail
            refine (HE.out wr g HU.out.acc HU.out.bel).mono ?_; rintro en w5 ⟨ra, rc, rfl, hA1, hb⟩
            have HU5 : Hid (Un2 w w5 g g2 A A) := ⟨acc_below HU.out.acc hb (Tot.lt HU.out.acc), acc_below HU.out.two hb (Tot.lt HU.out.two), HU.out.bel.trans (hb.mono HU.out.bel.size)⟩
            have HA1 := Lib.hid hA1
            clear hb hA1
            go_wp2_with fail
            refine (HE.out w5 g2 HU5.out.two HU5.out.bel).mono ?_; rintro en w6 ⟨ra', rc', rfl, hA2, hb⟩
            have HU6 : Hid (Un2 w w6 g g2 A A) := ⟨acc_below HU5.out.acc hb (Tot.lt HU5.out.acc), acc_below HU5.out.two hb (Tot.lt HU5.out.two), HU5.out.bel.trans (hb.mono HU5.out.bel.size)⟩
            have HS := Lib.hid (same_any (argOf d ra rc) (argOf d ra' rc') w6 (HA1.out.grow hb) hA2 ⟨rfl, rfl, rfl⟩)
            clear hb hA2
            go_wp2_with fail
            refine HS.out.mono ?_; rintro en w7 ⟨rfl, hb⟩
            have HU7 : Hid (Un2 w w7 g g2 A A) := ⟨acc_below HU6.out.acc hb (Tot.lt HU6.out.acc), acc_below HU6.out.two hb (Tot.lt HU6.out.two), HU6.out.bel.trans (hb.mono HU6.out.bel.size)⟩
            clear hb
            go_wp2_with fail
            refine (HSp.out w7 g HU7.out.acc).mono ?_; rintro en w8 ⟨rfl, hb⟩
            have HU8 : Hid (Un2 w w8 g g2 A A) := ⟨acc_below HU7.out.acc hb (Tot.lt HU7.out.acc), acc_below HU7.out.two hb (Tot.lt HU7.out.two), HU7.out.bel.trans (hb.mono HU7.out.bel.size)⟩
            clear hb
            go_wp2_with fail
            refine (HSp.out w8 g2 HU8.out.two).mono ?_; rintro en w9 ⟨rfl, hb⟩
            have HB9 := Lib.hid (HU8.out.bel.trans (hb.mono HU8.out.bel.size))
            clear hb
            go_wp2_with fail
            go_ret
            exact ⟨rfl, HB9.out⟩
end Go.Proofs.YthdbapibbdkclaaDoor
