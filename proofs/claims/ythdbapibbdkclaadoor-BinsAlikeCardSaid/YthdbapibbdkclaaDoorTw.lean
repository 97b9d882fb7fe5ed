/- Pointers to bins in a slice of the call's own; Of, Add, Sub, Neg of the document by values. No statement of the seat is proved here. -/
import Derived.Test.YthdbapibbdkclaaDoorProg
import Derived.Test.YthdbapibbdkclaaDoorTv
import Derived.Test.YthdbapibbdkclaaDoorMT
namespace Go.Proofs.YthdbapibbdkclaaDoor
open Go.RowKit
set_option maxRecDepth 10000
set_option linter.unusedVariables false
set_option linter.unusedSimpArgs false

def pb (g : Nat) : Value := .pointer (some ⟨g, 0, none⟩)
theorem pb_one (l : List (Nat × Bn)) : ∀ u ∈ l.map (fun p => pb p.1), u.oneCell' = true := fun u hu => by
  obtain ⟨x, _, rfl⟩ := List.mem_map.1 hu
  rfl
theorem info_pbW : (Tryd.prog.info? 34).map (fun i => (i.zero, i.size, i.bytes)) = some (some (.pointer none), 1, 8) := by kernel_rfl
theorem info_pb : ∃ i, Tryd.prog.info? 34 = some i ∧ i.zero = some (.pointer none) ∧ i.size = 1 ∧ i.bytes ≤ 64 := by
  have h := info_pbW
  cases hi : Tryd.prog.info? 34 with
  | none => rw [hi] at h; cases h
  | some i =>
    rw [hi] at h
    simp only [Option.map_some, Option.some.injEq, Prod.mk.injEq] at h
    exact ⟨i, rfl, h.1, h.2.1, by omega⟩
/-- what all parts come to -/
def sumP : List (Nat × Bn) → Bn
  | [] => Bn.zero
  | p :: l => p.2.sum (sumP l)
theorem sumP_snoc (l : List (Nat × Bn)) (p : Nat × Bn) : sumP (l ++ [p]) = (sumP l).sum p.2 := by
  induction l with
  | nil => show p.2.sum Bn.zero = Bn.zero.sum p.2; rw [Bn.sum_comm]
  | cons q l ih => show q.2.sum (sumP (l ++ [p])) = _; rw [ih, ← Bn.sum_assoc]; rfl
theorem sumP_turn (p q : Nat × Bn) (l : List (Nat × Bn)) (g : Nat) : sumP (l ++ [(g, q.2.sum p.2)]) = sumP (p :: q :: l) := by
  rw [sumP_snoc]
  show (sumP l).sum (q.2.sum p.2) = p.2.sum (q.2.sum (sumP l))
  rw [Bn.sum_comm (sumP l), Bn.sum_comm q.2, Bn.sum_assoc]
theorem bin_apart {w : World} {g f c base : Nat} {A : Bn} {a : Option Addr} {l : List Value} (h : BinAt w g f A) (ho : VOwn w 34 1 base a c l) : ∀ ad, a = some ad → ad.block ≠ g := by
  intro ad had e
  rcases ho with ⟨h1, _⟩ | ⟨b, p, t, h1, _, _, _, h5⟩
  · rw [h1] at had; cases had
  · rw [h1] at had; cases had
    obtain rfl : b = g := e
    unfold BinAt BinC at h
    unfold VBlk at h5
    rw [h] at h5
    simp at h5
/-- parts: where they stand, what they hold -/
structure PtsB (w W : World) (B f : Nat) (a : Option Addr) (c : Nat) (L : List (Nat × Bn)) : Prop where
  own : VOwn W 34 1 B a c (L.map fun p => pb p.1)
  at' : ∀ p ∈ L, BinAt W p.1 f p.2
  ge : ∀ p ∈ L, B ≤ p.1
  ok : ∀ p ∈ L, p.2.Ok
  nd : (L.map (·.1)).Nodup
  bel : Below w.heap.size w W
  siz : B ≤ W.heap.size
section
variable {w W W' W1 W5 : World} {B f g c c' : Nat} {a a' : Option Addr} {L : List (Nat × Bn)} {A : Bn}
theorem PtsB.below (h : PtsB w W B f a c L) (hb : Below W.heap.size W W') : PtsB w W' B f a c L :=
  ⟨h.own.grow hb, fun p hp => BinC.grow (h.at' p hp) hb, h.ge, h.ok, h.nd, h.bel.trans (hb.mono h.bel.size), Nat.le_trans h.siz hb.size⟩
theorem PtsB.drew (h : PtsB w W B f a c L) (n : Nat) : PtsB w (W.drewN n) B f a c L := ⟨by
  rcases h.own with h | ⟨g, p, t, h0, h1, h2, h3, h4⟩
  · exact .inl h
  · exact .inr ⟨g, p, t, h0, h1, h2, h3, h4⟩, h.at', h.ge, h.ok, h.nd, below_drewN' h.bel, h.siz⟩
theorem PtsB.add (h : PtsB w W B f a c L) (hb : Below W.heap.size W W') (hA : BinAt W' W.heap.size f A) (hok : A.Ok) : PtsB w W' B f a c L ∧ (∀ p ∈ L, p.1 ≠ W.heap.size) :=
  ⟨h.below hb, fun p hp => by have := BinC.lt (h.at' p hp); omega⟩
/-- a new one is put behind them -/
theorem PtsB.push (hwB : w.heap.size ≤ B) (h : PtsB w W B f a c L) (hA : BinAt W g f A) (hg : B ≤ g) (hok : A.Ok) (hne : ∀ p ∈ L, p.1 ≠ g) (hb : Below W.heap.size W W1)
    (ho : VOwn W5 34 1 B a' c' ((L.map fun p => pb p.1) ++ [pb g])) (hgr : W1.grownBy W5 (a.map (·.block))) : PtsB w W5 B f a' c' (L ++ [(g, A)]) := by
  have h1 := h.below hb
  have hA1 : BinAt W1 g f A := BinC.grow hA hb
  have key : ∀ (g' : Nat) (A' : Bn), BinAt W1 g' f A' → BinAt W5 g' f A' := by
    intro g' A' hA'
    refine (hgr.block g' (BinC.lt hA') ?_).trans hA'
    intro e
    obtain ⟨ad, had, hbl⟩ := Option.map_eq_some_iff.1 e.symm
    exact bin_apart hA' h1.own ad had hbl
  refine ⟨by rw [List.map_append]; exact ho, fun p hp => ?_, fun p hp => ?_, fun p hp => ?_, ?_, Rgrown h1.bel (Nat.le_refl _) hgr (fun x hx => Nat.le_trans hwB (h1.own.row x hx)), Nat.le_trans h1.siz hgr.size⟩
  · rcases List.mem_append.1 hp with hp | hp
    · exact key _ _ (h1.at' p hp)
    · obtain rfl : p = (g, A) := by simpa using hp
      exact key _ _ hA1
  · rcases List.mem_append.1 hp with hp | hp
    · exact h.ge p hp
    · obtain rfl : p = (g, A) := by simpa using hp
      exact hg
  · rcases List.mem_append.1 hp with hp | hp
    · exact h.ok p hp
    · obtain rfl : p = (g, A) := by simpa using hp
      exact hok
  · rw [List.map_append]
    refine List.nodup_append.2 ⟨h.nd, by simp, fun x hx y hy => ?_⟩
    obtain rfl : y = g := by simpa using hy
    obtain ⟨p, hp, rfl⟩ := List.mem_map.1 hx
    exact hne p hp
theorem PtsB.own' {p0 p1 : Nat × Bn} {R : List (Nat × Bn)} (h : PtsB w W B f a c (p0 :: p1 :: R)) (hg : W.grownBy W' (some p1.1)) : VOwn W' 34 1 B a c ((p0 :: p1 :: R).map fun p => pb p.1) :=
  h.own.grown hg (bin_apart (h.at' p1 (by simp)) h.own)
/-- the rest, behind the merging of the first two -/
theorem PtsB.rest {p0 p1 : Nat × Bn} {R : List (Nat × Bn)} (hwB : w.heap.size ≤ B) (h : PtsB w W B f a c (p0 :: p1 :: R)) (hg : W.grownBy W' (some p1.1)) (ho : VOwn W' 34 1 B a' c' (R.map fun p => pb p.1)) : PtsB w W' B f a' c' R ∧ ∀ p ∈ R, p.1 ≠ p1.1 := by
  have hnd := h.nd
  rw [List.map_cons, List.map_cons, List.nodup_cons, List.nodup_cons] at hnd
  have hne : ∀ p ∈ R, p.1 ≠ p1.1 := fun p hp e => hnd.2.1 (by rw [← e]; exact List.mem_map.2 ⟨p, hp, rfl⟩)
  refine ⟨⟨ho, fun p hp => ?_, fun p hp => h.ge p (by simp [hp]), fun p hp => h.ok p (by simp [hp]), hnd.2.2, Rgrown h.bel (Nat.le_refl _) hg (fun x hx => ?_), Nat.le_trans h.siz hg.size⟩, hne⟩
  · have h1 := h.at' p (by simp [hp])
    exact (hg.block p.1 (BinC.lt h1) (by simpa using hne p hp)).trans h1
  · cases hx
    exact Nat.le_trans hwB (h.ge p1 (by simp))
end
theorem VOwn.empty {w : World} {e : TypeId} {base c : Nat} {a : Option Addr} {l : List Value} (h : VOwn w e 1 base a c l) : VOwn w e 1 base a 0 [] ∨ a = Option.none := by
  rcases h with ⟨rfl, _⟩ | ⟨g, p, t, h0, h1, h2, h3, h4⟩
  · exact .inr rfl
  · exact .inl (.inr ⟨g, p, l ++ t, h0, h1, by simp, by simp, by simpa using h4⟩)
theorem VOwn.two {w : World} {e : TypeId} {base b off c : Nat} {x y : Value} {l : List Value} (h : VOwn w e 1 base (some ⟨b, off, Option.none⟩) c (x :: y :: l)) : VOwn w e 1 base (if c = 2 then some ⟨b, off, Option.none⟩ else some ⟨b, off + 2, Option.none⟩) (c - 2) l := by
  have hc := h.cap
  rw [Nat.mul_one, List.length_cons, List.length_cons] at hc
  by_cases h2 : c = 2
  · rw [if_pos h2]
    have hl : l = [] := List.eq_nil_of_length_eq_zero (by omega)
    subst hl
    rcases h.empty with h3 | h3
    · rw [show c - 2 = 0 by omega]; exact h3
    · cases h3
  · rw [if_neg h2]
    have h3 := h.skip (k := 2) (by simp)
    simpa using h3

/-! the document's functions, by values -/
theorem qOf {v : Nat} {p : D} (hv : v < 18446744073709551616) (hp : ofF v = some p) (W : World) : Calls Tryd.prog 24 #[.float .f64 v] W (OutDE p W) := by
  refine (rofd_any v W hv).mono ?_
  rintro en w' ⟨u, rfl, ⟨a, c, rfl, h1⟩, h2⟩
  rw [hp] at h1 ⊢
  exact ⟨a, c, rfl, h1, h2⟩
theorem qOfN {v : Nat} (hv : v < 18446744073709551616) (hp : ofF v = none) (W : World) : Calls Tryd.prog 24 #[.float .f64 v] W fun en w' => ∃ a c, en = .returned (.tuple #[DV D.zero a c, .int .i64 30]) ∧ Below W.heap.size W w' := by
  refine (rofd_any v W hv).mono ?_
  rintro en w' ⟨u, rfl, ⟨a, c, rfl, h1⟩, h2⟩
  rw [hp] at h1 ⊢
  exact ⟨a, c, rfl, h2⟩
theorem qNeg {d d' : D} (hd : formF (!d.neg) d.m d.exp = some d') (a : Option Addr) (c : Nat) (W : World) (h1 : (argOf d a c).Ok W) : Calls Tryd.prog 27 #[DV d a c] W (OutD d' W) := by
  refine (rneg_any (argOf d a c) W h1).mono ?_
  rintro en w' ⟨v, rfl, ⟨a2, c2, rfl, h3⟩, h2⟩
  have e : outO (Arg.F (Arg.opp (argOf d a c))) = d' := by
    have : Arg.F (Arg.opp (argOf d a c)) = some d' := by
      show formF (!d.neg) (num (words d.m)) d.exp = some d'
      rw [num_words]; exact hd
    rw [this]; rfl
  rw [e] at h3 ⊢
  exact ⟨a2, c2, rfl, h3, h2⟩
theorem qSign {B : Int} {J : Nat} {d : D} {z : Int} (h : Dy B J d z) (a : Option Addr) (c : Nat) (W : World) (h1 : (argOf d a c).Ok W) : Calls Tryd.prog 28 #[DV d a c] W fun en w' => en = .returned (.int .i64 (sgnZ z)) ∧ Below W.heap.size W w' := by
  have := rsign_any (argOf d a c) W h1
  rw [h.sign] at this
  exact this
theorem dy_abs {B : Int} {J : Nat} {d : D} {z : Int} (h : Dy B J d z) (h0 : B ≤ 0) : ∃ d', (d.neg = true → formF (!d.neg) d.m d.exp = some d') ∧ (d.neg = false → d = d') ∧ Dy B J d' ((z.natAbs : Nat) : Int) := by
  have hv := h.val
  unfold D.z sgn at hv
  have hp : 0 ≤ ((d.m : Nat) : Int) * ((2 ^ (d.exp - B).toNat : Nat) : Int) := Int.mul_nonneg (Int.natCast_nonneg _) (Int.natCast_nonneg _)
  cases hn : d.neg
  · refine ⟨d, (fun h => nomatch h), (fun _ => rfl), ?_⟩
    rw [hn, if_neg (by decide)] at hv
    rw [show ((z.natAbs : Nat) : Int) = z by omega]; exact h
  · obtain ⟨d', h1, h2⟩ := h.neg h0
    rw [hn] at h1
    refine ⟨d', (fun _ => h1), (fun h => nomatch h), ?_⟩
    rw [hn, if_pos rfl, Int.neg_mul] at hv
    rw [show ((z.natAbs : Nat) : Int) = -z by omega]; exact h2
/-- a Dyad in memory -/
structure Ky (W : World) (n : Nat) (d : D) (a : Option Addr) (c : Nat) : Prop where
  cel : Cel W n (.bool d.neg) (.slice a (words d.m).length c) (.int .i64 d.exp)
  ok : (argOf d a c).Ok W
theorem Ky.grow {W W' : World} {n : Nat} {d : D} {a : Option Addr} {c : Nat} (h : Ky W n d a c) (hb : Below W.heap.size W W') : Ky W' n d a c := ⟨h.cel.below hb h.cel.lt, h.ok.grow hb⟩
theorem Ky.new {W W' : World} {B : Nat} {d : D} {a : Option Addr} {c : Nat} (ok : d.Ok) (h : Own W 82 B a c (words d.m)) (e : W' = W.alloc (.cells #[.bool d.neg, .slice a (words d.m).length c, .int .i64 d.exp] 28)) : Ky W' W.heap.size d a c ∧ Below W.heap.size W W' := by
  obtain ⟨k, b, s⟩ := new_cel e rfl
  exact ⟨⟨k, (h.grow b).arg ok⟩, b⟩
/-- while the exact sum is made -/
structure Sq (w W : World) (g : Nat) (d : D) (a : Option Addr) (c : Nat) : Prop where
  cel : Cel W g (.bool d.neg) (.slice a (words d.m).length c) (.int .i64 d.exp)
  own : Own W 82 (g + 1) a c (words d.m)
  bel : Below w.heap.size w W
  siz : g + 1 ≤ W.heap.size
theorem Sq.below {w W W' : World} {g : Nat} {d : D} {a : Option Addr} {c : Nat} (h : Sq w W g d a c) (hb : Below W.heap.size W W') : Sq w W' g d a c :=
  ⟨h.cel.below hb h.cel.lt, h.own.grow hb, h.bel.trans (hb.mono h.bel.size), Nat.le_trans h.siz hb.size⟩
theorem Sq.put {w W : World} {g : Nat} {d d' : D} {a a' : Option Addr} {c c' : Nat} (hg : w.heap.size ≤ g) (h : Sq w W g d a c) (ho : Own W 82 (g + 1) a' c' (words d'.m)) :
    Sq w (wr3 W g (.bool d'.neg) (.slice a' (words d'.m).length c') (.int .i64 d'.exp)) g d' a' c' :=
  ⟨h.cel.wr _ _ _, own_wr3 ho (by omega), below_wr3 h.bel hg, by rw [size_wr rfl]; exact h.siz⟩
theorem Sq.new {w W : World} (e : W = w.alloc (.cells #[.bool false, .slice none 0 0, .int .i64 0] 28)) : Sq w W w.heap.size D.zero none 0 := by
  obtain ⟨k, b, s⟩ := new_cel e rfl
  exact ⟨by show Cel _ _ (.bool false) (.slice none (words 0).length 0) (.int .i64 0); rw [words_zero]; exact k, by show Own _ _ _ none 0 (words 0); rw [words_zero]; exact Own.none _ _ _, b, by omega⟩
def slN : Value → Nat
  | .slice _ n _ => n
  | _ => 0
/-- while the list is turned round -/
structure Bk (w W : World) (B : Nat) (a : Option Addr) (c : Nat) (o : List Nat) : Prop where
  own : VOwn W 36 1 B a c (o.map fv)
  bel : Below w.heap.size w W
  siz : B ≤ W.heap.size
theorem Bk.push {w W W1 W5 : World} {B c c5 x : Nat} {a a5 : Option Addr} {o : List Nat} (hwB : w.heap.size ≤ B) (h : Bk w W B a c o) (hb : Below W.heap.size W W1) (ho : VOwn W5 36 1 B a5 c5 (o.map fv ++ [fv x])) (hg : W1.grownBy W5 (a.map (·.block))) : Bk w W5 B a5 c5 (o ++ [x]) :=
  ⟨by rw [List.map_append]; exact ho, Rgrown (h.bel.trans (hb.mono h.bel.size)) (Nat.le_refl _) hg (fun x hx => Nat.le_trans hwB (h.own.row x hx)), Nat.le_trans (Nat.le_trans h.siz hb.size) hg.size⟩
theorem fvs_one9 (l : List Nat) : ∀ u ∈ l.map fv, u.oneCell' = true := fun u hu => by
  obtain ⟨x, _, rfl⟩ := List.mem_map.1 hu
  rfl
theorem vown_fsl9 {w : World} {e : TypeId} {base c : Nat} {a : Option Addr} {l : List Nat} (h : VOwn w e 1 base a c (l.map fv)) (hw : W64L l) : FSl w a c l :=
  ⟨fun i x hx => h.rd i (fv x) (by rw [List.getElem?_map, hx]; rfl), hw, by have := h.cap; simpa using this, h.nocap⟩
theorem info_fl9 : ∃ i, Tryd.prog.info? 36 = some i ∧ i.zero = some (.float .f64 0) ∧ i.size = 1 ∧ i.bytes ≤ 64 := by
  obtain ⟨i0, hi0, hz0, hs0, hb0⟩ := info_f64
  exact ⟨i0, hi0, hz0, hs0, by omega⟩
theorem rev_get (l : List Nat) {i : Nat} (hi : i < l.length) : l.reverse.getD i 0 = l.getD (l.length - 1 - i) 0 := by
  rw [List.getD_eq_getElem?_getD, List.getD_eq_getElem?_getD, List.getElem?_reverse hi]
end Go.Proofs.YthdbapibbdkclaaDoor
