/- Contracts of sums.Kahan, Neumaier: the steps, way.sum. Slices of values of whatever kind: what can be read, blocks, slices of the call's own, append. Contracts: policy.May of whatever policy, sums.Exact, sums.Halving. No statement of the seat is proved here. -/
import Derived.Test.YteahdgbokjbgcaaGreatDoorProg
import Derived.Test.YteahdgbokjbgcaaGreatDoorZMS
import Derived.Test.YteahdgbokjbgcaaGreatDoorZBase
import Derived.Deep.AppendSrc
namespace Go.Proofs.YteahdgbokjbgcaaGreatDoor
open Go.RowKit
set_option linter.unusedVariables false
set_option linter.unusedSimpArgs false

end Go.Proofs.YteahdgbokjbgcaaGreatDoor
namespace Go.Proofs.YteahdgbokjbgcaaGreatDoor
open Go.RowKit
set_option linter.unusedVariables false
set_option linter.unusedSimpArgs false

/-- values that can be read at an address -/
def VRd (w : World) (a : Option Addr) (l : List Value) : Prop :=
  ∀ i v, l[i]? = some v → ∃ b off, a = some ⟨b, off, none⟩ ∧ w.cell? ⟨b, off + i, none⟩ = some v
theorem VRd.nil (w : World) (a : Option Addr) : VRd w a [] := fun i x h => by simp at h
theorem VRd.take {w : World} {a : Option Addr} {l : List Value} (h : VRd w a l) (k : Nat) : VRd w a (l.take k) := fun i x hx => by
  rw [List.getElem?_take] at hx
  split at hx
  · exact h i x hx
  · cases hx
theorem VRd.drop {w : World} {b off : Nat} {l : List Value} (h : VRd w (some ⟨b, off, none⟩) l) (k : Nat) : VRd w (some ⟨b, off + k, none⟩) (l.drop k) := fun i x hx => by
  rw [List.getElem?_drop] at hx
  obtain ⟨b', off', e, h2⟩ := h _ x hx
  cases e
  exact ⟨b, off + k, rfl, by rw [Nat.add_assoc]; exact h2⟩
theorem VRd.below {B : Nat} {w w' : World} {a : Option Addr} {l : List Value} (h : VRd w a l) (hb : Below B w w') (hB : ∀ ad, a = some ad → l ≠ [] → ad.block < B) : VRd w' a l := fun i x hx => by
  obtain ⟨b, off, rfl, h2⟩ := h i x hx
  refine ⟨b, off, rfl, ?_⟩
  rw [hb.cell (p := ⟨b, off + i, none⟩) (hB ⟨b, off, none⟩ rfl (by rintro rfl; simp at hx))]; exact h2
theorem VRd.lt {w : World} {a : Option Addr} {l : List Value} (h : VRd w a l) {ad : Addr} (ha : a = some ad) (hl : l ≠ []) : ad.block < w.heap.size := by
  cases l with
  | nil => exact absurd rfl hl
  | cons x l =>
    obtain ⟨b, off, h1, h2⟩ := h 0 x rfl
    rw [h1] at ha; cases ha
    exact World.block_lt_of_cell? _ _ h2
theorem VRd.grow {w w' : World} {a : Option Addr} {l : List Value} (h : VRd w a l) (hb : Below w.heap.size w w') : VRd w' a l :=
  h.below hb fun _ ha hl => h.lt ha hl

/-- a block of cells -/
def VBlk (w : World) (e : TypeId) (g : Nat) (l : List Value) : Prop := w.heap[g]? = some (.cells l.toArray e (0, 0))
section
variable {w w' : World} {e : TypeId} {g k : Nat} {l : List Value}
theorem VBlk.cell (h : VBlk w e g l) {i : Nat} {x : Value} (hx : l[i]? = some x) : w.cell? ⟨g, i, none⟩ = some x := by
  rw [cell_of_row w g i _ e (0, 0) h]; simpa using hx
theorem VBlk.frozen (h : VBlk w e g l) (i : Nat) : w.frozen? ⟨g, i, none⟩ = false := frozen_of_row w g i _ e h
theorem VBlk.lt (h : VBlk w e g l) : g < w.heap.size := (Array.getElem?_eq_some_iff.1 h).1
theorem VBlk.set (h : VBlk w e g l) (i : Nat) (x : Value) : VBlk (w.setCell ⟨g, i, none⟩ x) e g (l.set i x) := by
  unfold VBlk
  rw [heap_setCell_same w g i _ e _ h]
  congr 2
  apply Array.toList_inj.1
  simp
theorem VBlk.other (h : VBlk w e g l) {a : Addr} (ha : a.block ≠ g) (v : Value) : VBlk (w.setCell a v) e g l := by
  unfold VBlk; rw [heap_setCell_other _ _ _ _ (fun e => ha e.symm)]; exact h
theorem VBlk.alloc (h : VBlk w e g l) (o : Obj) : VBlk (w.alloc o) e g l := by
  unfold VBlk; rw [World.alloc, Array.getElem?_push, if_neg (Nat.ne_of_lt h.lt)]; exact h
theorem VBlk.drew (h : VBlk w e g l) : VBlk w.drew e g l := h
theorem VBlk.below {B : Nat} (h : VBlk w e g l) (hb : Below B w w') (hg : g < B) : VBlk w' e g l := by
  unfold VBlk; rw [hb.block g hg]; exact h
theorem VBlk.grow (h : VBlk w e g l) (hb : Below w.heap.size w w') : VBlk w' e g l := h.below hb h.lt
theorem VBlk.grown (h : VBlk w e g l) {r : Nat} (hk : w.grownBy w' (some r)) (hne : g ≠ r) : VBlk w' e g l := (hk.block g h.lt (by simpa using hne)).trans h
theorem VBlk.rd (h : VBlk w e g l) : VRd w (some ⟨g, 0, none⟩) l := fun i x hx => ⟨g, 0, rfl, by rw [Nat.zero_add]; exact h.cell hx⟩
theorem VBlk.rdAt {p q : List Value} (h : VBlk w e g (p ++ (l ++ q))) : VRd w (some ⟨g, p.length, none⟩) l := fun i x hx => ⟨g, p.length, rfl, by
  refine h.cell ?_
  rw [List.getElem?_append_right (by omega), Nat.add_sub_cancel_left, List.getElem?_append_left (List.getElem?_eq_some_iff.1 hx).1]; exact hx⟩
theorem VBlk.setCells (g : Nat) (e : TypeId) : ∀ (vs m p t : List Value) (w : World), m.length = vs.length → VBlk w e g (p ++ (m ++ t)) → VBlk (w.setCells g p.length vs) e g (p ++ (vs ++ t))
  | [], m, p, t, w, hm, h => by
    obtain rfl : m = [] := List.eq_nil_of_length_eq_zero hm
    exact h
  | v :: vs, m, p, t, w, hm, h => by
    cases m with
    | nil => simp at hm
    | cons x m =>
      have h1 := h.set p.length v
      have h2 := VBlk.setCells g e vs m (p ++ [v]) t _ (by simpa using hm) (by simpa using h1)
      simpa [World.setCells] using h2
end
theorem vblk_alloc (w : World) (e : TypeId) (vs : Array Value) : VBlk (w.alloc (.cells vs e)) e w.heap.size vs.toList := by
  unfold VBlk; rw [heap_alloc_new]

/-- a slice in memory of its own, from a block on; sz cells an element -/
def VOwn (w : World) (e : TypeId) (sz base : Nat) (a : Option Addr) (c : Nat) (l : List Value) : Prop :=
  (a = none ∧ c = 0 ∧ l = []) ∨ ∃ g p t, a = some ⟨g, p.length, none⟩ ∧ base ≤ g ∧ l.length ≤ c * sz ∧ c * sz ≤ (l ++ t).length ∧ VBlk w e g (p ++ (l ++ t))
section
variable {w w' : World} {e : TypeId} {sz base c : Nat} {a : Option Addr} {l : List Value}
theorem VOwn.none (w : World) (e : TypeId) (sz base : Nat) : VOwn w e sz base none 0 [] := .inl ⟨rfl, rfl, rfl⟩
theorem VOwn.of {g n : Nat} (h : VBlk w e g l) (hb : base ≤ g) (hn : l.length = n * sz) : VOwn w e sz base (some ⟨g, 0, Option.none⟩) n l := .inr ⟨g, [], [], rfl, hb, by omega, by simp; omega, by simpa using h⟩
theorem VOwn.rd (h : VOwn w e sz base a c l) : VRd w a l := by
  rcases h with ⟨rfl, rfl, rfl⟩ | ⟨g, p, t, rfl, hb, h1, h2, h3⟩
  · exact VRd.nil _ _
  · exact h3.rdAt
theorem VOwn.mono {b : Nat} (h : VOwn w e sz base a c l) (hb : b ≤ base) : VOwn w e sz b a c l := by
  rcases h with h | ⟨g, p, t, h0, h1, h2⟩
  · exact .inl h
  · exact .inr ⟨g, p, t, h0, by omega, h2⟩
theorem VOwn.grow (h : VOwn w e sz base a c l) (hb : Below w.heap.size w w') : VOwn w' e sz base a c l := by
  rcases h with h | ⟨g, p, t, h0, h1, h2, h3, h4⟩
  · exact .inl h
  · exact .inr ⟨g, p, t, h0, h1, h2, h3, h4.grow hb⟩
theorem VOwn.grown (h : VOwn w e sz base a c l) {r : Nat} (hk : w.grownBy w' (some r)) (hne : ∀ ad, a = some ad → ad.block ≠ r) : VOwn w' e sz base a c l := by
  rcases h with h | ⟨g, p, t, h0, h1, h2, h3, h4⟩
  · exact .inl h
  · have := hne _ h0
    exact .inr ⟨g, p, t, h0, h1, h2, h3, h4.grown hk this⟩
theorem VOwn.ge (h : VOwn w e sz base a c l) (ad : Addr) (ha : a = some ad) : base ≤ ad.block := by
  rcases h with ⟨rfl, _⟩ | ⟨g, p, t, h0, h1, _⟩
  · cases ha
  · rw [h0] at ha; cases ha; exact h1
theorem VOwn.lt (h : VOwn w e sz base a c l) (ad : Addr) (ha : a = some ad) : ad.block < w.heap.size := by
  rcases h with ⟨rfl, _⟩ | ⟨g, p, t, h0, h1, h2, h3, h4⟩
  · cases ha
  · rw [h0] at ha; cases ha; exact h4.lt
theorem VOwn.cap (h : VOwn w e sz base a c l) : l.length ≤ c * sz := by
  rcases h with ⟨rfl, rfl, rfl⟩ | ⟨g, p, t, rfl, hb, h1, h2, h3⟩
  · simp
  · exact h1
/-- cut at its end, by so many elements kept -/
theorem VOwn.cut (h : VOwn w e sz base a c l) (k : Nat) : VOwn w e sz base a c (l.take k) := by
  rcases h with ⟨rfl, rfl, rfl⟩ | ⟨g, p, t, h0, h1, h2, h3, h4⟩
  · exact .inl ⟨rfl, rfl, by simp⟩
  · exact .inr ⟨g, p, l.drop k ++ t, h0, h1, by simp; omega, by rw [← List.append_assoc, List.take_append_drop]; exact h3, by rw [← List.append_assoc (l.take k), List.take_append_drop]; exact h4⟩
end

theorem grown_setCells (w : World) (g o : Nat) (vs : List Value) : w.grownBy (w.setCells g o vs) (some g) := by
  induction vs generalizing o w with
  | nil => exact World.grownBy.refl _ _
  | cons v vs ih =>
    have h1 := ih (w.setCell ⟨g, o, none⟩ v) (o + 1)
    have h2 : w.grownBy (w.setCell ⟨g, o, none⟩ v) (some g) := ⟨rfl, rfl, rfl, by simp, fun j hj hne => heap_setCell_other _ _ _ _ (fun e => hne (by simp [e]))⟩
    exact ⟨h1.os.trans h2.os, h1.tape.trans h2.tape, h1.output.trans h2.output, Nat.le_trans h2.size h1.size, fun j hj hne => (h1.block j (Nat.lt_of_lt_of_le hj h2.size) hne).trans (h2.block j hj hne)⟩

/-- 'append(own slice, readable slice)': there is room, or it grows. -/
theorem run_append_vals {P : Program} {w : World} (ty t tx : TypeId) (e e' : TypeId) (i : TypeInfo) (z : Value) (sz : Nat) (ht : P.underlying t = some (.slice e)) (htx : P.underlying tx = some (.slice e')) (hi : P.info? e = some i) (hz : i.zero = some z) (hsz : i.size = sz) (hzc : z.cells.size = sz) (h0 : 0 < sz) (hby : i.bytes ≤ 64)
    (base : Nat) (a0 a1 : Option Addr) (n c m d : Nat) (l k : List Value) (hn : l.length = n * sz) (hm : k.length = m * sz) (hone : ∀ u ∈ k, u.oneCell' = true) (hown : VOwn w e sz base a0 c l) (hr : VRd w a1 k)
    (hlen : n + m ≤ 1099511627776) (hbase : base ≤ w.heap.size) :
    ∃ a' c' w', (Builtin.append_ #[t, tx] ty #[.slice a0 n c, .slice a1 m d]).run P w = .ok (.slice a' (n + m) c') w' ∧ VOwn w' e sz base a' c' (l ++ k) ∧ w.grownBy w' (a0.map (·.block)) ∧ (a' = a0 ∨ (w.grownBy w' none ∧ ∃ g, a' = some ⟨g, 0, none⟩ ∧ w.heap.size ≤ g)) := by
  have hsrc : Src P i.size tx (.slice a1 m d) m k w := by
    rw [hsz]
    have hl : (Builtin.lenOf (.slice a1 m d)) = pure m := rfl
    cases a1 with
    | none =>
      have hk : k = [] := by
        cases k with
        | nil => rfl
        | cons y k => obtain ⟨_, _, h1, _⟩ := hr 0 y rfl; cases h1
      subst hk
      have hm0 : m = 0 := by
        rcases Nat.mul_eq_zero.1 hm.symm with h | h
        · exact h
        · omega
      subst hm0
      exact Src.ofNil w htx d
    | some ad =>
      refine Src.ofSlice w htx ad m d k hm ?_ hone
      intro j u hu
      obtain ⟨b', off', e1, e2⟩ := hr j u hu
      cases e1
      rw [Addr.add_lit]; exact e2
  have grown : ∀ old : Nat, VOwn (w.drew.alloc (.cells ((l ++ k).toArray ++ Builtin.zeroCells z.cells (grownCap w (n + m) old e - (n + m))) e)) e sz base
      (some ⟨w.heap.size, 0, none⟩) (grownCap w (n + m) old e) (l ++ k) := by
    intro old
    have hge := grownCap_ge w (n + m) old e
    have e1 : (l ++ k).length = (n + m) * sz := by rw [List.length_append, hn, hm, Nat.add_mul]
    have e2 : (Builtin.zeroCells z.cells (grownCap w (n + m) old e - (n + m))).size = (grownCap w (n + m) old e - (n + m)) * sz := by rw [size_zeroCells, hzc]
    refine .inr ⟨w.heap.size, [], (Builtin.zeroCells z.cells (grownCap w (n + m) old e - (n + m))).toList, rfl, hbase, ?_, ?_, ?_⟩
    · rw [e1]; exact Nat.mul_le_mul_right _ hge
    · have e3 : (Builtin.zeroCells z.cells (grownCap w (n + m) old e - (n + m))).toList.length = (grownCap w (n + m) old e - (n + m)) * sz := by rw [Array.length_toList]; exact e2
      rw [List.length_append, e1, e3, ← Nat.add_mul]; exact Nat.mul_le_mul_right _ (by omega)
    · unfold VBlk
      rw [show (w.drew.alloc _).heap[w.heap.size]? = _ from heap_alloc_new w.drew _]
      congr 2
      apply Array.toList_inj.1
      simp
  have gb : ∀ (o : Obj) (row : Option Nat), w.grownBy (w.drew.alloc o) row :=
    fun o row => ⟨rfl, rfl, rfl, by simp, fun k hk _ => by rw [World.alloc, Array.getElem?_push, if_neg (by simp; omega)]; rfl⟩
  have hbytes : (n + m) * i.bytes ≤ 140737488355328 := by
    have := Nat.mul_le_mul hlen hby
    omega
  have hmore : c < n + m → ∃ a' c' w', (Builtin.append_ #[t, tx] ty #[.slice a0 n c, .slice a1 m d]).run P w = .ok (.slice a' (n + m) c') w' ∧ VOwn w' e sz base a' c' (l ++ k) ∧ w.grownBy w' (a0.map (·.block)) ∧ (a' = a0 ∨ (w.grownBy w' none ∧ ∃ g, a' = some ⟨g, 0, none⟩ ∧ w.heap.size ≤ g)) := by
    intro hg
    have hold : (Builtin.firstCells i.size n (.slice a0 n c)).run P w.drew = .ok l.toArray w.drew := by
      rcases hown with ⟨rfl, rfl, rfl⟩ | ⟨g, p, tt, rfl, h1, h2, h3, h4⟩
      · have hn0 : n = 0 := by
          rcases Nat.mul_eq_zero.1 hn.symm with h | h
          · exact h
          · omega
        subst hn0
        exact run_firstCells_none _ _ _ _ _
      · refine run_firstCells_some w.drew i.size n _ n c l (by rw [hsz]; exact hn) ?_
        intro j v hv
        rw [Addr.add_lit]
        obtain ⟨b, off, e1, e2⟩ := h4.rdAt j v hv
        cases e1
        exact e2
    have hr' := run_append_grow_src (P := P) w t tx ty e i z ht hi hz a0 n c l hold (.slice a1 m d) m k hsrc hg (by omega) (growslice_fits hg hbytes)
    exact ⟨_, _, _, hr', grown c, gb _ _, .inr ⟨gb _ _, w.heap.size, rfl, Nat.le_refl _⟩⟩
  by_cases hroom : n + m ≤ c
  · rcases id hown with ⟨rfl, rfl, rfl⟩ | ⟨g, p, tt, rfl, h1, h2, h3, h4⟩
    · have hn0 : n = 0 := by omega
      have hm0 : m = 0 := by omega
      subst hn0 hm0
      have hk : k = [] := List.eq_nil_of_length_eq_zero (by omega)
      subst hk
      refine ⟨none, 0, w, ?_, VOwn.none _ _ _ _, World.grownBy.refl _ _, .inl rfl⟩
      have hh := hsrc.len w
      have hc := hsrc.cells
      rw [hsz] at hc
      simp [Builtin.append_, run_underlying ht, run_underlying htx, sizeOf, typeInfo, hi, hsz, hh, hc, storeCells]
    · have hfit : (n + m) * sz ≤ c * sz := Nat.mul_le_mul_right _ hroom
      rw [Nat.add_mul] at hfit
      have h5 : k.length ≤ tt.length := by
        rw [List.length_append] at h3
        omega
      have hat : ∀ j, j < k.length → (p ++ (l ++ tt))[p.length + n * i.size + j]? = tt[j]? := by
        intro j hj
        rw [hsz, ← hn, Nat.add_assoc, List.getElem?_append_right (by omega), Nat.add_sub_cancel_left, List.getElem?_append_right (by omega), Nat.add_sub_cancel_left]
      have hr' := run_append_room_src (P := P) w t tx ty e i ht hi g p.length n c (.slice a1 m d) m k hsrc hroom (by
        intro j hj
        obtain ⟨x, hx⟩ : ∃ x, tt[j]? = some x := ⟨tt[j], List.getElem?_eq_getElem (by omega)⟩
        rw [h4.cell ((hat j hj).trans hx)]; rfl) (fun j hj => h4.frozen _)
      refine ⟨some ⟨g, p.length, none⟩, c, _, hr', .inr ⟨g, p, tt.drop k.length, rfl, h1, ?_, ?_, ?_⟩, grown_setCells _ _ _ _, .inl rfl⟩
      · rw [List.length_append]; omega
      · rw [List.length_append] at h3 ⊢; simp; omega
      · have h6 := VBlk.setCells g e k (tt.take k.length) (p ++ l) (tt.drop k.length) w (by simp; omega) (by simpa using h4)
        rw [hsz, ← hn]
        simpa using h6
  · exact hmore (by omega)
theorem wpList_append_vals {P : Program} {w : World} {ops : Array Oper} {rest : List Oper} {o : Oper} {a : Act} {Q : Exit → Act → World → Prop} (hgd : o.guard = none) (s x : Operand) (t tx : TypeId)
    (ho : o.op = .call { callee := .builtin .append, args := #[s, x], argTypes := #[t, tx] }) (e e' : TypeId) (i : TypeInfo) (z : Value) (sz : Nat) (ht : P.underlying t = some (.slice e)) (htx : P.underlying tx = some (.slice e')) (hi : P.info? e = some i) (hz : i.zero = some z) (hsz : i.size = sz) (hzc : z.cells.size = sz) (h0 : 0 < sz) (hby : i.bytes ≤ 64)
    (base : Nat) (a0 a1 : Option Addr) (n c m d : Nat) (l k : List Value) (hs : a.eval s = .slice a0 n c) (hx : a.eval x = .slice a1 m d) (hn : l.length = n * sz) (hm : k.length = m * sz) (hone : ∀ u ∈ k, u.oneCell' = true) (hown : VOwn w e sz base a0 c l) (hr : VRd w a1 k)
    (hlen : n + m ≤ 1099511627776) (hbase : base ≤ w.heap.size)
    (h : ∀ a' c' w', VOwn w' e sz base a' c' (l ++ k) → w.grownBy w' (a0.map (·.block)) → (a' = a0 ∨ (w.grownBy w' none ∧ ∃ g, a' = some ⟨g, 0, none⟩ ∧ w.heap.size ≤ g)) → wpList P ops Q rest (a.put o.dst (.slice a' (n + m) c')) w') :
    wpList P ops Q (o :: rest) a w := by
  obtain ⟨a', c', w', hrun, h1, h2, h3⟩ := run_append_vals o.type t tx e e' i z sz ht htx hi hz hsz hzc h0 hby base a0 a1 n c m d l k hn hm hone hown hr hlen hbase
  refine wpList_plain hgd fun K hK => ?_
  unfold Oper.wp execOp
  simp only [ho, resolve, invoke, builtin, Sem.run_bind, Sem.run_pure, Result.andThen_ok, List.map_toArray, List.map_cons, List.map_nil, hs, hx, hrun]
  exact hK _ _ (h a' c' w' h1 h2 h3)
/-- the same as one step of a region that draws -/
theorem step_append_vals {P : Program} {ops : Array Oper} {o : Oper} {a : Act} {w : World} {K : Act → World → Prop} {Q : Exit → Act → World → Prop} {E : Prop} (hgd : o.guard = none) (s x : Operand) (t tx : TypeId)
    (ho : o.op = .call { callee := .builtin .append, args := #[s, x], argTypes := #[t, tx] }) (e e' : TypeId) (i : TypeInfo) (z : Value) (sz : Nat) (ht : P.underlying t = some (.slice e)) (htx : P.underlying tx = some (.slice e')) (hi : P.info? e = some i) (hz : i.zero = some z) (hsz : i.size = sz) (hzc : z.cells.size = sz) (h0 : 0 < sz) (hby : i.bytes ≤ 64)
    (base : Nat) (a0 a1 : Option Addr) (n c m d : Nat) (l k : List Value) (hs : a.eval s = .slice a0 n c) (hx : a.eval x = .slice a1 m d) (hn : l.length = n * sz) (hm : k.length = m * sz) (hone : ∀ u ∈ k, u.oneCell' = true) (hown : VOwn w e sz base a0 c l) (hr : VRd w a1 k)
    (hlen : n + m ≤ 1099511627776) (hbase : base ≤ w.heap.size)
    (h : ∀ a' c' w', VOwn w' e sz base a' c' (l ++ k) → w.grownBy w' (a0.map (·.block)) → (a' = a0 ∨ (w.grownBy w' none ∧ ∃ g, a' = some ⟨g, 0, none⟩ ∧ w.heap.size ≤ g)) → K (a.put o.dst (.slice a' (n + m) c')) w') :
    if Region.wanted o (yielded ops a.tmps) = true then Oper.wp P o a w K Q else E := by
  obtain ⟨a', c', w', hrun, h1, h2, h3⟩ := run_append_vals o.type t tx e e' i z sz ht htx hi hz hsz hzc h0 hby base a0 a1 n c m d l k hn hm hone hown hr hlen hbase
  have hw : Region.wanted o (yielded ops a.tmps) = true := by simp [Region.wanted, hgd]
  rw [if_pos hw]
  unfold Oper.wp execOp
  simp only [ho, resolve, invoke, builtin, Sem.run_bind, Sem.run_pure, Result.andThen_ok, List.map_toArray, List.map_cons, List.map_nil, hs, hx, hrun]
  exact h a' c' w' h1 h2 h3

theorem Rgrown {w w' : World} {B : Nat} {w0 : World} {r : Option Nat} (h : Below B w0 w) (hB : B ≤ w0.heap.size) (hk : w.grownBy w' r) (hr : ∀ g, r = some g → B ≤ g) : Below B w0 w' :=
  ⟨hk.os.trans h.os, hk.tape.trans h.tape, hk.output.trans h.output, Nat.le_trans h.size hk.size, fun j hj => (hk.block j (Nat.lt_of_lt_of_le hj (Nat.le_trans hB h.size)) (fun e => by have := hr j e.symm; omega)).trans (h.block j hj)⟩
theorem VOwn.grownO {w w' : World} {e : TypeId} {sz base c : Nat} {a : Option Addr} {l : List Value} (h : VOwn w e sz base a c l) {r : Option Nat} (hk : w.grownBy w' r) (hne : ∀ ad, a = some ad → r ≠ some ad.block) : VOwn w' e sz base a c l := by
  rcases h with h | ⟨g, p, t, h0, h1, h2, h3, h4⟩
  · exact .inl h
  · refine .inr ⟨g, p, t, h0, h1, h2, h3, ?_⟩
    have := hne _ h0
    unfold VBlk
    rw [hk.block g h4.lt (fun e => this e.symm)]; exact h4
theorem VOwn.drew {w : World} {e : TypeId} {sz base c : Nat} {a : Option Addr} {l : List Value} (h : VOwn w e sz base a c l) : VOwn w.drew e sz base a c l := by
  rcases h with h | ⟨g, p, t, h0, h1, h2, h3, h4⟩
  · exact .inl h
  · exact .inr ⟨g, p, t, h0, h1, h2, h3, h4⟩
theorem VOwn.row {w : World} {e : TypeId} {sz base c : Nat} {a : Option Addr} {l : List Value} (h : VOwn w e sz base a c l) : ∀ g, a.map (·.block) = some g → base ≤ g := by
  intro g hg
  obtain ⟨ad, had, rfl⟩ := Option.map_eq_some_iff.1 hg
  exact h.ge ad had
end Go.Proofs.YteahdgbokjbgcaaGreatDoor
namespace Go.Proofs.YteahdgbokjbgcaaGreatDoor
open Go.RowKit
set_option linter.unusedVariables false
set_option linter.unusedSimpArgs false

end Go.Proofs.YteahdgbokjbgcaaGreatDoor
