/- Three accumulators and the document's, in memory. No statement of the seat is proved here. -/
import Derived.Test.YteahdgbokjbgcaaGreatDoorProg
import Derived.Test.YteahdgbokjbgcaaGreatDoorYKn
import Derived.Test.YteahdgbokjbgcaaGreatDoorYNO
namespace Go.Proofs.YteahdgbokjbgcaaGreatDoor
open Go.RowKit
set_option maxRecDepth 10000
set_option linter.unusedVariables false
set_option linter.unusedSimpArgs false

/-- one side: the blocks of the accumulator and of the document's; what they have -/
structure Sd where
  g : Nat
  h : Nat
  A : Ac
structure SdAt (W : World) (e : Sd) : Prop where
  a : AccAt W e.g e.A
  b : RAc W e.h e.A
  ok : e.A.Ok
/-- but for two blocks, all is as it was -/
structure G2 (W W' : World) (g h : Nat) : Prop where
  os : W'.os = W.os
  tape : W'.tape = W.tape
  output : W'.output = W.output
  size : W.heap.size ≤ W'.heap.size
  block : ∀ j, j < W.heap.size → j ≠ g → j ≠ h → W'.heap[j]? = W.heap[j]?
section
variable {W W1 W' : World} {g h : Nat} {e x : Sd} {A : Ac}
theorem G2.refl (W : World) (g h : Nat) : G2 W W g h := ⟨rfl, rfl, rfl, Nat.le_refl _, fun _ _ _ _ => rfl⟩
theorem G2.trans (a : G2 W W1 g h) (b : G2 W1 W' g h) : G2 W W' g h := ⟨b.os.trans a.os, b.tape.trans a.tape, b.output.trans a.output, Nat.le_trans a.size b.size, fun j h1 h2 h3 => (b.block j (Nat.lt_of_lt_of_le h1 a.size) h2 h3).trans (a.block j h1 h2 h3)⟩
theorem G2.below (hb : Below W.heap.size W W') : G2 W W' g h := ⟨hb.os, hb.tape, hb.output, hb.size, fun j h1 _ _ => hb.block j h1⟩
theorem G2.ofG (hb : W.grownBy W' (some g)) : G2 W W' g h := ⟨hb.os, hb.tape, hb.output, hb.size, fun j h1 h2 _ => hb.block j h1 (by simpa using h2)⟩
theorem G2.ofH (hb : W.grownBy W' (some h)) : G2 W W' g h := ⟨hb.os, hb.tape, hb.output, hb.size, fun j h1 _ h2 => hb.block j h1 (by simpa using h2)⟩
theorem G2.drew (k : G2 W W1 g h) : G2 W W1.drew g h := ⟨k.os, k.tape, k.output, k.size, k.block⟩
theorem G2.drewN (k : G2 W W1 g h) (n : Nat) : G2 W (W1.drewN n) g h := k.trans (G2.below ⟨rfl, rfl, rfl, Nat.le_refl _, fun _ _ => rfl⟩)
theorem rac_type (hb : RAc W h A) : ∃ cs, W.heap[h]? = some (.cells cs 59 (0, 0)) := by
  obtain ⟨d, a, c, h1, _⟩ := hb
  exact ⟨_, h1⟩
theorem SdAt.grow (k : SdAt W e) (hb : Below W.heap.size W W') : SdAt W' e := ⟨acc_below k.a hb (Tot.lt k.a), k.b.grow hb, k.ok⟩
theorem SdAt.drewN (k : SdAt W e) (n : Nat) : SdAt (W.drewN n) e := k.grow ⟨rfl, rfl, rfl, Nat.le_refl _, fun _ _ => rfl⟩
theorem SdAt.drew (k : SdAt W e) : SdAt W.drew e := k.grow ⟨rfl, rfl, rfl, Nat.le_refl _, fun _ _ => rfl⟩
theorem G2.row (k : G2 W W' g h) (ka : AccAt W g A) {B : Ac} (kb : RAc W h B) {j : Nat} {cs : Array Value} {T : TypeId} {fr : Nat × Nat} (hj : W.heap[j]? = some (.cells cs T fr)) (h1 : T ≠ 124) (h2 : T ≠ 59) : W'.heap[j]? = some (.cells cs T fr) := by
  obtain ⟨cs', hb⟩ := rac_type kb
  exact (k.block j (Array.getElem?_eq_some_iff.1 hj).1 (row_apart hj ka h1) (row_apart hj hb h2)).trans hj
theorem Own.g2 {base c : Nat} {a : Option Addr} {l : List Nat} (ho : Own W 118 base a c l) (k : G2 W W' g h) (ka : AccAt W g A) {B : Ac} (kb : RAc W h B) : Own W' 118 base a c l := by
  rcases ho with h1 | ⟨b, t, j1, j2, j3, j4, j5⟩
  · exact .inl h1
  · exact .inr ⟨b, t, j1, j2, j3, j4, k.row ka kb j5 (by decide) (by decide)⟩
/-- the accumulator of one side changes: the other side's -/
theorem RAc.g2 (hx : RAc W x.h A) (k : G2 W W' g h) {B : Ac} (ka : AccAt W g B) {C : Ac} (kb : RAc W h C) (hne : x.h ≠ h) : RAc W' x.h A := by
  obtain ⟨d, a, c, h1, h2, h3⟩ := hx
  exact ⟨d, a, c, (k.block _ (Array.getElem?_eq_some_iff.1 h1).1 (row_apart h1 ka (by decide)) hne).trans h1, h2.g2 k ka kb, h3⟩
theorem SdAt.g2 (hx : SdAt W x) (he : SdAt W e) (h1 : x.g ≠ e.g) (h2 : x.h ≠ e.h) (k : G2 W W' e.g e.h) : SdAt W' x := by
  obtain ⟨cs', hb⟩ := rac_type he.b
  refine ⟨?_, hx.b.g2 k he.a he.b h2, hx.ok⟩
  have h3 : W.heap[x.g]? = _ := hx.a
  exact (k.block _ (Tot.lt hx.a) h1 (row_apart h3 hb (by decide))).trans h3
/-- the program's accumulator has changed, the document's is as it was -/
theorem RAc.byAcc (hb : RAc W h A) {B : Ac} (ka : AccAt W g B) (k : W.grownBy W' (some g)) : RAc W' h A := by
  obtain ⟨d, a, c, h1, h2, h3⟩ := hb
  refine ⟨d, a, c, (k.block _ (Array.getElem?_eq_some_iff.1 h1).1 (fun e => row_apart h1 ka (by decide) (by simpa using e))).trans h1, ?_, h3⟩
  rcases h2 with h2 | ⟨b, t, j1, j2, j3, j4, j5⟩
  · exact .inl h2
  · exact .inr ⟨b, t, j1, j2, j3, j4, (k.block _ (Array.getElem?_eq_some_iff.1 j5).1 (fun e => row_apart j5 ka (by decide) (by simpa using e))).trans j5⟩
/-- .. the other way round -/
theorem AccAt.byRac (ka : AccAt W g A) {B : Ac} (hb : RAc W h B) (k : W.grownBy W' (some h)) : AccAt W' g A := by
  obtain ⟨cs', hb⟩ := rac_type hb
  have h3 : W.heap[g]? = _ := ka
  exact (k.block _ (Tot.lt ka) (fun e => row_apart h3 hb (by decide) (by simpa using e))).trans h3
end

/-- six cells -/
def rowF (F : Nat → Value) : Array Value := #[F 0, F 1, F 2, F 3, F 4, F 5]
theorem rowF_set (F : Nat → Value) {t : Nat} (ht : t < 6) (v : Value) : (rowF F).setIfInBounds t v = rowF (fun j => if j = t then v else F j) := by
  unfold rowF
  rcases (show t = 0 ∨ t = 1 ∨ t = 2 ∨ t = 3 ∨ t = 4 ∨ t = 5 by omega) with rfl | rfl | rfl | rfl | rfl | rfl <;> rfl
theorem rowF_congr {F G : Nat → Value} (h : ∀ t, t < 6 → F t = G t) : rowF F = rowF G := by
  unfold rowF
  rw [h 0 (by decide), h 1 (by decide), h 2 (by decide), h 3 (by decide), h 4 (by decide), h 5 (by decide)]
theorem rowF_cell {W : World} {g : Nat} {F : Nat → Value} {T : TypeId} (h : W.heap[g]? = some (.cells (rowF F) T (0, 0))) {t : Nat} (ht : t < 6) : W.cell? ⟨g, t, none⟩ = some (F t) := by
  rw [cell_of_row W g t _ _ _ h]
  unfold rowF
  rcases (show t = 0 ∨ t = 1 ∨ t = 2 ∨ t = 3 ∨ t = 4 ∨ t = 5 by omega) with rfl | rfl | rfl | rfl | rfl | rfl <;> rfl
/-- the first k sides -/
def sideF (s : Nat → Sd) (k t : Nat) : Value := if t / 2 < k then .pointer (some ⟨if t % 2 = 0 then (s (t / 2)).g else (s (t / 2)).h, 0, none⟩) else .pointer none
theorem sideF_g {s : Nat → Sd} {k i : Nat} (h : i < k) : sideF s k (i * 2) = .pointer (some ⟨(s i).g, 0, none⟩) := by
  unfold sideF
  rw [show i * 2 / 2 = i by omega, if_pos h, if_pos (by omega)]
theorem sideF_h {s : Nat → Sd} {k i : Nat} (h : i < k) : sideF s k (i * 2 + 1) = .pointer (some ⟨(s i).h, 0, none⟩) := by
  unfold sideF
  rw [show (i * 2 + 1) / 2 = i by omega, if_pos h, if_neg (by omega)]
def putS (s : Nat → Sd) (i : Nat) (e : Sd) : Nat → Sd := fun j => if j = i then e else s j
theorem putS_self (s : Nat → Sd) (i : Nat) (e : Sd) : putS s i e i = e := if_pos rfl
theorem putS_ne (s : Nat → Sd) {i j : Nat} (e : Sd) (h : j ≠ i) : putS s i e j = s j := if_neg h
theorem sideF_put (s : Nat → Sd) {k k' i : Nat} (e : Sd) (hk : k' = k ∧ i < k ∨ k' = k + 1 ∧ i = k) (t : Nat) : (if t = i * 2 + 1 then Value.pointer (some ⟨e.h, 0, none⟩) else if t = i * 2 then Value.pointer (some ⟨e.g, 0, none⟩) else sideF s k t) = sideF (putS s i e) k' t := by
  unfold sideF putS
  by_cases h1 : t = i * 2 + 1
  · subst h1
    rw [if_pos rfl, if_pos (by omega), if_neg (by omega), if_pos (by omega)]
  · rw [if_neg h1]
    by_cases h2 : t = i * 2
    · subst h2
      rw [if_pos rfl, if_pos (by omega), if_pos (by omega), if_pos (by omega)]
    · rw [if_neg h2]
      simp only [show (t / 2 = i) = False from eq_false (by omega), if_false]
      by_cases h3 : t / 2 < k
      · rw [if_pos h3, if_pos (show t / 2 < k' by omega)]
      · rw [if_neg h3, if_neg (show ¬ t / 2 < k' by omega)]
/-- the first k sides in their places -/
structure Sds (w W : World) (gl k : Nat) (s : Nat → Sd) : Prop where
  row : W.heap[gl]? = some (.cells (rowF (sideF s k)) 54 (0, 0))
  gl : w.heap.size ≤ gl
  ats : ∀ i, i < k → SdAt W (s i) ∧ w.heap.size ≤ (s i).g ∧ w.heap.size ≤ (s i).h
  ne : ∀ i j, i < k → j < k → i ≠ j → (s i).g ≠ (s j).g ∧ (s i).h ≠ (s j).h
  bel : Below w.heap.size w W
section
variable {w W W1 W' : World} {gl k : Nat} {s : Nat → Sd}
theorem Sds.lt (h : Sds w W gl k s) : gl < W.heap.size := (Array.getElem?_eq_some_iff.1 h.row).1
theorem Sds.grow (h : Sds w W gl k s) (hb : Below W.heap.size W W') : Sds w W' gl k s :=
  ⟨blk_below h.row hb h.lt, h.gl, fun i hi => ⟨(h.ats i hi).1.grow hb, (h.ats i hi).2⟩, h.ne, h.bel.trans (hb.mono h.bel.size)⟩
theorem Sds.cells (h : Sds w W gl k s) (hk : k ≤ 3) {i : Nat} (hi : i < k) : W.cell? ⟨gl, i * 2, none⟩ = some (.pointer (some ⟨(s i).g, 0, none⟩)) ∧ W.cell? ⟨gl, i * 2 + 1, none⟩ = some (.pointer (some ⟨(s i).h, 0, none⟩)) :=
  ⟨by rw [rowF_cell h.row (by omega), sideF_g hi], by rw [rowF_cell h.row (by omega), sideF_h hi]⟩
theorem Sds.frozen (h : Sds w W gl k s) (t : Nat) : W.frozen? ⟨gl, t, none⟩ = false := frozen_of_row W gl t _ _ h.row
/-- one of them has changed -/
theorem Sds.turn (h : Sds w W gl k s) {i : Nat} (hi : i < k) {A : Ac} (h2 : G2 W W' (s i).g (s i).h) (h3 : SdAt W' ⟨(s i).g, (s i).h, A⟩) : ∃ s', Sds w W' gl k s' := by
  obtain ⟨hat, hl1, hl2⟩ := h.ats i hi
  refine ⟨putS s i ⟨(s i).g, (s i).h, A⟩, ?_, h.gl, ?_, ?_, ?_⟩
  · rw [h2.row hat.a hat.b h.row (by decide) (by decide)]
    congr 2
    refine rowF_congr fun t _ => ?_
    unfold sideF putS
    by_cases h9 : t / 2 = i
    · rw [h9, if_pos rfl]
    · rw [if_neg h9]
  · intro j hj
    by_cases hji : j = i
    · subst hji
      rw [putS_self]; exact ⟨h3, hl1, hl2⟩
    · rw [putS_ne s _ hji]
      obtain ⟨n1, n2⟩ := h.ne j i hj hi hji
      exact ⟨(h.ats j hj).1.g2 hat n1 n2 h2, (h.ats j hj).2⟩
  · intro j m hj hm hjm
    have key : ∀ j, (putS s i ⟨(s i).g, (s i).h, A⟩ j).g = (s j).g ∧ (putS s i ⟨(s i).g, (s i).h, A⟩ j).h = (s j).h := by
      intro j
      unfold putS
      split
      · rename_i h9; rw [h9]; exact ⟨rfl, rfl⟩
      · exact ⟨rfl, rfl⟩
    rw [(key j).1, (key j).2, (key m).1, (key m).2]
    exact h.ne j m hj hm hjm
  · exact ⟨h2.os.trans h.bel.os, h2.tape.trans h.bel.tape, h2.output.trans h.bel.output, Nat.le_trans h.bel.size h2.size, fun j hj => (h2.block j (Nat.lt_of_lt_of_le hj h.bel.size) (by omega) (by omega)).trans (h.bel.block j hj)⟩
/-- one that is new is laid at its place -/
theorem Sds.put (h : Sds w W gl k s) {k' i : Nat} (hk : k' = k ∧ i < k ∨ k' = k + 1 ∧ i = k) (hk3 : k' ≤ 3) {e : Sd} (hb : Below W.heap.size W W1) (he : SdAt W1 e) (h1 : W.heap.size ≤ e.g) (h2 : W.heap.size ≤ e.h) :
    Sds w ((W1.setCell ⟨gl, i * 2, none⟩ (.pointer (some ⟨e.g, 0, none⟩))).setCell ⟨gl, i * 2 + 1, none⟩ (.pointer (some ⟨e.h, 0, none⟩))) gl k' (putS s i e) := by
  have hg := h.grow hb
  have hlt := h.lt
  have hrow : ((W1.setCell ⟨gl, i * 2, none⟩ (.pointer (some ⟨e.g, 0, none⟩))).setCell ⟨gl, i * 2 + 1, none⟩ (.pointer (some ⟨e.h, 0, none⟩))).heap[gl]? = some (.cells (rowF (sideF (putS s i e) k')) 54 (0, 0)) := by
    have r1 := heap_setCell_same W1 gl (i * 2) _ _ (.pointer (some ⟨e.g, 0, none⟩)) hg.row
    have r2 := heap_setCell_same _ gl (i * 2 + 1) _ _ (.pointer (some ⟨e.h, 0, none⟩)) r1
    rw [r2, rowF_set _ (by omega), rowF_set _ (by omega)]
    congr 2
    exact rowF_congr fun t _ => sideF_put s e hk t
  have hgr : W1.grownBy ((W1.setCell ⟨gl, i * 2, none⟩ (.pointer (some ⟨e.g, 0, none⟩))).setCell ⟨gl, i * 2 + 1, none⟩ (.pointer (some ⟨e.h, 0, none⟩))) (some gl) := grown_set' (grown_set' (grown_refl _ _) _ _) _ _
  generalize (W1.setCell ⟨gl, i * 2, none⟩ (.pointer (some ⟨e.g, 0, none⟩))).setCell ⟨gl, i * 2 + 1, none⟩ (.pointer (some ⟨e.h, 0, none⟩)) = W2 at *
  have keep : ∀ x, SdAt W1 x → SdAt W2 x := by
    intro x hx
    have ha : W1.heap[x.g]? = _ := hx.a
    obtain ⟨d, a, c, k1, k2, k3⟩ := hx.b
    refine ⟨(hgr.block _ (Tot.lt hx.a) (fun e => row_apart ha hg.row (by decide) (by simpa using e))).trans ha, ⟨d, a, c, (hgr.block _ (Array.getElem?_eq_some_iff.1 k1).1 (fun e => row_apart k1 hg.row (by decide) (by simpa using e))).trans k1, ?_, k3⟩, hx.ok⟩
    rcases k2 with k2 | ⟨b, t, j1, j2, j3, j4, j5⟩
    · exact .inl k2
    · exact .inr ⟨b, t, j1, j2, j3, j4, (hgr.block _ (Array.getElem?_eq_some_iff.1 j5).1 (fun e => row_apart j5 hg.row (by decide) (by simpa using e))).trans j5⟩
  have hls := h.bel.size
  have old : ∀ j, j < k → (s j).g < W.heap.size ∧ (s j).h < W.heap.size := fun j hj => ⟨Tot.lt (h.ats j hj).1.a, (h.ats j hj).1.b.lt⟩
  refine ⟨hrow, h.gl, ?_, ?_, ?_⟩
  · intro j hj
    by_cases hji : j = i
    · subst hji
      rw [putS_self]; exact ⟨keep e he, by omega, by omega⟩
    · rw [putS_ne s _ hji]
      exact ⟨keep _ (hg.ats j (by omega)).1, (hg.ats j (by omega)).2⟩
  · intro j m hj hm hjm
    by_cases hji : j = i
    · subst hji
      rw [putS_self, putS_ne s _ (fun e => hjm e.symm)]
      have := old m (by omega)
      omega
    · rw [putS_ne s _ hji]
      by_cases hmi : m = i
      · subst hmi
        rw [putS_self]
        have := old j (by omega)
        omega
      · rw [putS_ne s _ hmi]
        exact h.ne j m (by omega) (by omega) hjm
  · have hb2 := h.bel.trans (hb.mono hls)
    exact ⟨hgr.os.trans hb2.os, hgr.tape.trans hb2.tape, hgr.output.trans hb2.output, Nat.le_trans hb2.size hgr.size, fun j hj => (hgr.block j (Nat.lt_of_lt_of_le hj hb2.size) (by have := h.gl; simp; omega)).trans (hb2.block j hj)⟩
end
end Go.Proofs.YteahdgbokjbgcaaGreatDoor
