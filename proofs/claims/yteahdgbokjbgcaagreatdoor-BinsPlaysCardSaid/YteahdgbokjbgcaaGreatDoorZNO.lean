/- What a script of bins has made, in memory. Contracts of steelyardlaw09.play.at, asked. No statement of the seat is proved here. -/
import Derived.Test.YteahdgbokjbgcaaGreatDoorProg
import Derived.Test.YteahdgbokjbgcaaGreatDoorZNM
import Derived.Test.YteahdgbokjbgcaaGreatDoorZNL
import Derived.Test.YteahdgbokjbgcaaGreatDoorZMI
import Derived.Deep.DeepCutAuto
namespace Go.Proofs.YteahdgbokjbgcaaGreatDoor
open Go.RowKit
set_option maxRecDepth 10000
set_option linter.unusedVariables false
set_option linter.unusedSimpArgs false

/-- both kinds of bins: their places, the fold, the document's slice, what they have -/
structure Bth where
  gb : Nat
  gr : Nat
  f : Nat
  a : Option Addr
  A : Bn
structure BthAt (W : World) (e : Bth) : Prop where
  bin : BinAt W e.gb e.f e.A
  rb : RBx W e.gr e.f e.a e.A
  f1 : 1 ≤ e.f
  f2 : e.f ≤ 8
/-- blocks of other types than the bins' are as they were -/
structure KT (W W' : World) : Prop where
  os : W'.os = W.os
  tape : W'.tape = W.tape
  output : W'.output = W.output
  size : W.heap.size ≤ W'.heap.size
  keep : ∀ (j : Nat) (cs : Array Value) (T : TypeId) (fr : Nat × Nat), W.heap[j]? = some (.cells cs T fr) → T ≠ 192 → T ≠ 205 → T ≠ 207 → W'.heap[j]? = some (.cells cs T fr)
section
variable {W W1 W' : World} {g gr f : Nat} {a a' : Option Addr} {A B : Bn} {e : Bth}
theorem KT.refl (W : World) : KT W W := ⟨rfl, rfl, rfl, Nat.le_refl _, fun _ _ _ _ h _ _ _ => h⟩
theorem KT.trans (h : KT W W1) (h2 : KT W1 W') : KT W W' := ⟨h2.os.trans h.os, h2.tape.trans h.tape, h2.output.trans h.output, Nat.le_trans h.size h2.size, fun j cs T fr k a b c => h2.keep j cs T fr (h.keep j cs T fr k a b c) a b c⟩
theorem KT.below (h : Below W.heap.size W W') : KT W W' := ⟨h.os, h.tape, h.output, h.size, fun j cs T fr k _ _ _ => blk_below k h (Array.getElem?_eq_some_iff.1 k).1⟩
theorem KT.bin (hB : BinAt W g f A) (h : W.grownBy W' (some g)) : KT W W' := ⟨h.os, h.tape, h.output, h.size, fun j cs T fr k k1 _ _ => (h.block j (Array.getElem?_eq_some_iff.1 k).1 (by
  intro e
  obtain rfl : j = g := by simpa using e
  have hB' : W.heap[j]? = _ := hB
  rw [k] at hB'
  simp at hB'
  exact k1 hB'.2.1)).trans k⟩
theorem VOwn.type {w : World} {T : TypeId} {sz base c : Nat} {a : Option Addr} {l : List Value} (h : VOwn w T sz base a c l) (ad : Addr) (had : a = some ad) : ∃ cs, w.heap[ad.block]? = some (.cells cs T (0, 0)) := by
  rcases h with ⟨h1, _⟩ | ⟨b, p, t, h1, _, _, _, h5⟩
  · rw [h1] at had; cases had
  · rw [h1] at had; cases had
    exact ⟨_, h5⟩
theorem RBx.type (h : RBx W gr f a A) : (∃ cs, W.heap[gr]? = some (.cells cs 205 (0, 0))) ∧ ∀ ad, a = some ad → ∃ cs, W.heap[ad.block]? = some (.cells cs 207 (0, 0)) := by
  obtain ⟨c, l, h1, _⟩ := h.ex
  exact ⟨⟨_, h1.row⟩, fun ad had => h1.own.type ad had⟩
theorem row_apart {w : World} {i j : Nat} {cs cs' : Array Value} {T T' : TypeId} {fr fr' : Nat × Nat} (h : w.heap[i]? = some (.cells cs T fr)) (h' : w.heap[j]? = some (.cells cs' T' fr')) (hT : T ≠ T') : i ≠ j := by
  rintro rfl
  rw [h] at h'
  simp at h'
  exact hT h'.2.1
theorem KT.rb (hB : RBx W gr f a A) (h : Fr W W' gr a) : KT W W' := ⟨h.os, h.tape, h.output, h.size, fun j cs T fr k _ k2 k3 => by
  obtain ⟨⟨c1, h1⟩, h2⟩ := hB.type
  refine (h.block j (Array.getElem?_eq_some_iff.1 k).1 (row_apart k h1 k2) (fun ad had => ?_)).trans k
  obtain ⟨c2, h3⟩ := h2 ad had
  exact row_apart k h3 k3⟩
theorem RBx.kept (h : RBx W gr f a A) (h1 : W'.heap[gr]? = W.heap[gr]?) (h2 : ∀ ad, a = some ad → W'.heap[ad.block]? = W.heap[ad.block]?) : RBx W' gr f a A := by
  obtain ⟨c, l, k1, k2⟩ := h.ex
  refine ⟨h.le, c, l, ⟨by rw [h1]; exact k1.row, ?_⟩, k2⟩
  rcases k1.own with k | ⟨b, p, t, j1, j2, j3, j4, j5⟩
  · exact .inl k
  · exact .inr ⟨b, p, t, j1, j2, j3, j4, by unfold VBlk; rw [h2 _ j1]; exact j5⟩
theorem BthAt.grow (h : BthAt W e) (hb : Below W.heap.size W W') : BthAt W' e := ⟨BinC.grow h.bin hb, h.rb.grow hb, h.f1, h.f2⟩
/-- the program's bins of one of them change: this one -/
theorem RBx.byBin {f2 : Nat} (h : RBx W gr f a A) (hB : BinAt W g f2 B) (hk : W.grownBy W' (some g)) : RBx W' gr f a A := by
  obtain ⟨⟨c1, h1⟩, h2⟩ := h.type
  refine h.kept (hk.block gr h.lt (by intro e; exact row_apart h1 hB (by decide) (by simpa using e))) fun ad had => ?_
  obtain ⟨c2, h3⟩ := h2 ad had
  exact hk.block _ (Array.getElem?_eq_some_iff.1 h3).1 (by intro e; exact row_apart h3 hB (by decide) (by simpa using e))
/-- .. another one -/
theorem BthAt.byBin {f' : Nat} (h : BthAt W e) (hB : BinAt W g f' B) (hne : e.gb ≠ g) (hk : W.grownBy W' (some g)) : BthAt W' e := by
  refine ⟨BinC.grown h.bin hk hne, ?_, h.f1, h.f2⟩
  obtain ⟨⟨c1, h1⟩, h2⟩ := h.rb.type
  refine h.rb.kept (hk.block _ h.rb.lt (by intro e; exact row_apart h1 hB (by decide) (by simpa using e))) fun ad had => ?_
  obtain ⟨c2, h3⟩ := h2 ad had
  exact hk.block _ (Array.getElem?_eq_some_iff.1 h3).1 (by intro e; exact row_apart h3 hB (by decide) (by simpa using e))
/-- the document's bins of one of them change: this one's other bins -/
theorem BinAt.byRb {f' : Nat} (h : BinAt W g f A) (hR : RBx W gr f' a B) (hk : Fr W W' gr a) : BinAt W' g f A := by
  obtain ⟨⟨c1, h1⟩, h2⟩ := hR.type
  refine (hk.block g (BinC.lt h) (row_apart h h1 (by decide)) fun ad had => ?_).trans h
  obtain ⟨c2, h3⟩ := h2 ad had
  exact row_apart h h3 (by decide)
/-- .. another one -/
theorem BthAt.byRb {f' : Nat} (h : BthAt W e) (hR : RBx W gr f' a B) (hne : e.gr ≠ gr) (hna : ∀ x y, e.a = some x → a = some y → x.block ≠ y.block) (hk : Fr W W' gr a) : BthAt W' e := by
  refine ⟨h.bin.byRb hR hk, ?_, h.f1, h.f2⟩
  obtain ⟨⟨c1, h1⟩, h2⟩ := h.rb.type
  obtain ⟨⟨c3, h3⟩, h4⟩ := hR.type
  refine h.rb.kept (hk.block _ h.rb.lt hne fun ad had => ?_) fun x hx => ?_
  · obtain ⟨c5, h5⟩ := h4 ad had
    exact row_apart h1 h5 (by decide)
  · obtain ⟨c5, h5⟩ := h2 x hx
    exact hk.block _ (Array.getElem?_eq_some_iff.1 h5).1 (row_apart h5 h3 (by decide)) fun y hy => hna x y hx hy
theorem VOwn.kt {T : TypeId} {sz base c : Nat} {l : List Value} (h : VOwn W T sz base a c l) (k1 : T ≠ 192) (k2 : T ≠ 205) (k3 : T ≠ 207) (hk : KT W W') : VOwn W' T sz base a c l := by
  rcases h with h | ⟨b, p, t, j1, j2, j3, j4, j5⟩
  · exact .inl h
  · exact .inr ⟨b, p, t, j1, j2, j3, j4, hk.keep _ _ _ _ j5 k1 k2 k3⟩
theorem Own.kt {base c : Nat} {l : List Nat} (h : Own W 118 base a c l) (hk : KT W W') : Own W' 118 base a c l := by
  rcases h with h | ⟨b, t, j1, j2, j3, j4, j5⟩
  · exact .inl h
  · exact .inr ⟨b, t, j1, j2, j3, j4, hk.keep _ _ _ _ j5 (by decide) (by decide) (by decide)⟩
end
/-- two of them have nothing to do with one another -/
def Dj (e e' : Bth) : Prop := e.gb ≠ e'.gb ∧ e.gr ≠ e'.gr ∧ ∀ x y, e.a = some x → e'.a = some y → x.block ≠ y.block
def Djs (L : List Bth) : Prop := ∀ (i j : Nat) (e e' : Bth), i ≠ j → L[i]? = some e → L[j]? = some e' → Dj e e'
def bothV : List Bth → List Value
  | [] => []
  | e :: l => .pointer (some ⟨e.gb, 0, none⟩) :: .pointer (some ⟨e.gr, 0, none⟩) :: bothV l
theorem bothV_len (l : List Bth) : (bothV l).length = l.length * 2 := by
  induction l with
  | nil => rfl
  | cons p l ih => simp only [bothV, List.length_cons, ih]; omega
theorem bothV_app (l m : List Bth) : bothV (l ++ m) = bothV l ++ bothV m := by
  induction l with
  | nil => rfl
  | cons p l ih => simp only [bothV, List.cons_append, ih]
theorem bothV_get : ∀ (l : List Bth) (i : Nat) (e : Bth), l[i]? = some e → (bothV l)[i * 2]? = some (.pointer (some ⟨e.gb, 0, none⟩)) ∧ (bothV l)[i * 2 + 1]? = some (.pointer (some ⟨e.gr, 0, none⟩))
  | [], i, e, h => by simp at h
  | q :: l, 0, e, h => by
    simp at h; subst h
    exact ⟨rfl, rfl⟩
  | q :: l, i + 1, e, h => by
    have ih := bothV_get l i e (by simpa using h)
    have e1 : (i + 1) * 2 = i * 2 + 1 + 1 := by omega
    rw [e1]
    simp only [bothV, List.getElem?_cons_succ]
    exact ih
theorem bothV_set : ∀ (l : List Bth) (i : Nat) (e e' : Bth), l[i]? = some e → e'.gb = e.gb → e'.gr = e.gr → bothV (l.set i e') = bothV l
  | [], i, e, e', h, _, _ => by simp at h
  | q :: l, 0, e, e', h, h1, h2 => by
    simp at h; subst h
    simp only [List.set_cons_zero, bothV, h1, h2]
  | q :: l, i + 1, e, e', h, h1, h2 => by
    simp only [List.set_cons_succ, bothV]
    rw [bothV_set l i e e' (by simpa using h) h1 h2]
/-- a Dyad that came, and the document's -/
structure Cm where
  d : D
  a : Option Addr
  c : Nat
  a' : Option Addr
  c' : Nat
def dyC : List Cm → List Value
  | [] => []
  | x :: l => .bool x.d.neg :: .slice x.a (words x.d.m).length x.c :: .int .i64 x.d.exp :: dyC l
def dyW : List Cm → List Value
  | [] => []
  | x :: l => .bool x.d.neg :: .slice x.a' (words x.d.m).length x.c' :: .int .i64 x.d.exp :: dyW l
theorem dyC_len (l : List Cm) : (dyC l).length = l.length * 3 := by
  induction l with
  | nil => rfl
  | cons p l ih => simp only [dyC, List.length_cons, ih]; omega
theorem dyW_len (l : List Cm) : (dyW l).length = l.length * 3 := by
  induction l with
  | nil => rfl
  | cons p l ih => simp only [dyW, List.length_cons, ih]; omega
theorem dyC_app (l m : List Cm) : dyC (l ++ m) = dyC l ++ dyC m := by
  induction l with
  | nil => rfl
  | cons p l ih => simp only [dyC, List.cons_append, ih]
theorem dyW_app (l m : List Cm) : dyW (l ++ m) = dyW l ++ dyW m := by
  induction l with
  | nil => rfl
  | cons p l ih => simp only [dyW, List.cons_append, ih]
theorem dyC_get : ∀ (l : List Cm) (i : Nat) (x : Cm), l[i]? = some x → (dyC l)[i * 3]? = some (.bool x.d.neg) ∧ (dyC l)[i * 3 + 1]? = some (.slice x.a (words x.d.m).length x.c) ∧ (dyC l)[i * 3 + 2]? = some (.int .i64 x.d.exp)
  | [], i, e, h => by simp at h
  | q :: l, 0, e, h => by
    simp at h; subst h
    exact ⟨rfl, rfl, rfl⟩
  | q :: l, i + 1, e, h => by
    have ih := dyC_get l i e (by simpa using h)
    have e1 : (i + 1) * 3 = i * 3 + 1 + 1 + 1 := by omega
    rw [e1]
    simp only [dyC, List.getElem?_cons_succ]
    exact ih
theorem dyW_get : ∀ (l : List Cm) (i : Nat) (x : Cm), l[i]? = some x → (dyW l)[i * 3]? = some (.bool x.d.neg) ∧ (dyW l)[i * 3 + 1]? = some (.slice x.a' (words x.d.m).length x.c') ∧ (dyW l)[i * 3 + 2]? = some (.int .i64 x.d.exp)
  | [], i, e, h => by simp at h
  | q :: l, 0, e, h => by
    simp at h; subst h
    exact ⟨rfl, rfl, rfl⟩
  | q :: l, i + 1, e, h => by
    have ih := dyW_get l i e (by simpa using h)
    have e1 : (i + 1) * 3 = i * 3 + 1 + 1 + 1 := by omega
    rw [e1]
    simp only [dyW, List.getElem?_cons_succ]
    exact ih
/-- the script's memory -/
structure Ply (q : Prop) (w W : World) (gp : Nat) (L : List Bth) (aL : Option Addr) (cL : Nat) (C : List Cm) (aC : Option Addr) (cC : Nat) (E : List Cm) (aD : Option Addr) (cD : Nat) : Prop where
  row : W.heap[gp]? = some (.cells ([.slice aL L.length cL, .slice aC C.length cC, .slice aD E.length cD] : List Value).toArray 28 (0, 0))
  gp : w.heap.size ≤ gp
  ol : VOwn W 37 2 w.heap.size aL cL (bothV L)
  oc : VOwn W 46 3 w.heap.size aC cC (dyC C)
  od : VOwn W 46 3 w.heap.size aD cD (dyW E)
  cd : ∀ x y, aC = some x → aD = some y → x.block ≠ y.block
  en : ∀ e ∈ L, BthAt W e ∧ w.heap.size ≤ e.gb ∧ w.heap.size ≤ e.gr
  dj : Djs L
  cm : q → ∀ x ∈ C, Own W 118 w.heap.size x.a x.c (words x.d.m) ∧ x.d.Ok
  cm' : q → ∀ x ∈ E, Own W 118 w.heap.size x.a' x.c' (words x.d.m) ∧ x.d.Ok
  ap : q → ∀ (i j : Nat) (x y : Cm) (u v : Addr), i ≠ j → C[i]? = some x → C[j]? = some y → x.a = some u → y.a = some v → u.block ≠ v.block
  bel : Below w.heap.size w W
section
variable {q : Prop} {w W W' : World} {gp : Nat} {L : List Bth} {aL aC aD : Option Addr} {cL cC cD : Nat} {C E : List Cm}
theorem Ply.lt (h : Ply q w W gp L aL cL C aC cC E aD cD) : gp < W.heap.size := (Array.getElem?_eq_some_iff.1 h.row).1
theorem Ply.cells (h : Ply q w W gp L aL cL C aC cC E aD cD) : W.cell? ⟨gp, 0, none⟩ = some (.slice aL L.length cL) ∧ W.cell? ⟨gp, 1, none⟩ = some (.slice aC C.length cC) ∧ W.cell? ⟨gp, 2, none⟩ = some (.slice aD E.length cD) ∧ W.frozen? ⟨gp, 0, none⟩ = false ∧ W.frozen? ⟨gp, 1, none⟩ = false ∧ W.frozen? ⟨gp, 2, none⟩ = false :=
  ⟨by rw [cell_of_row W gp 0 _ _ _ h.row]; rfl, by rw [cell_of_row W gp 1 _ _ _ h.row]; rfl, by rw [cell_of_row W gp 2 _ _ _ h.row]; rfl, frozen_of_row W gp 0 _ _ h.row, frozen_of_row W gp 1 _ _ h.row, frozen_of_row W gp 2 _ _ h.row⟩
theorem Ply.grow (h : Ply q w W gp L aL cL C aC cC E aD cD) (hb : Below W.heap.size W W') : Ply q w W' gp L aL cL C aC cC E aD cD :=
  ⟨blk_below h.row hb h.lt, h.gp, h.ol.grow hb, h.oc.grow hb, h.od.grow hb, h.cd, fun e he => ⟨(h.en e he).1.grow hb, (h.en e he).2⟩, h.dj, fun k x hx => ⟨(h.cm k x hx).1.grow hb, (h.cm k x hx).2⟩, fun k x hx => ⟨(h.cm' k x hx).1.grow hb, (h.cm' k x hx).2⟩, h.ap, h.bel.trans (hb.mono h.bel.size)⟩
/-- one of the bins has changed, all else is as it was -/
theorem Ply.turn (h : Ply q w W gp L aL cL C aC cC E aD cD) (hk : KT W W') (hb : Below w.heap.size w W') {i : Nat} {e e' : Bth} (hi : L[i]? = some e) (h1 : e'.gb = e.gb) (h2 : e'.gr = e.gr) (hat : BthAt W' e') (hrest : ∀ j x, j ≠ i → L[j]? = some x → BthAt W' x ∧ Dj e' x) :
    Ply q w W' gp (L.set i e') aL cL C aC cC E aD cD := by
  have hil := (List.getElem?_eq_some_iff.1 hi).1
  refine ⟨by rw [List.length_set]; exact hk.keep _ _ _ _ h.row (by decide) (by decide) (by decide), h.gp, by rw [bothV_set L i e e' hi h1 h2]; exact h.ol.kt (by decide) (by decide) (by decide) hk, h.oc.kt (by decide) (by decide) (by decide) hk, h.od.kt (by decide) (by decide) (by decide) hk, h.cd, ?_, ?_, fun k x hx => ⟨(h.cm k x hx).1.kt hk, (h.cm k x hx).2⟩, fun k x hx => ⟨(h.cm' k x hx).1.kt hk, (h.cm' k x hx).2⟩, h.ap, hb⟩
  · intro x hx
    obtain ⟨j, hj⟩ := List.mem_iff_getElem?.1 hx
    by_cases hji : j = i
    · subst hji
      rw [List.getElem?_set_self hil] at hj
      cases hj
      have := (h.en e (List.mem_of_getElem? hi)).2
      exact ⟨hat, by rw [h1]; exact this.1, by rw [h2]; exact this.2⟩
    · rw [List.getElem?_set_ne (fun e => hji e.symm)] at hj
      exact ⟨(hrest j x hji hj).1, (h.en x (List.mem_of_getElem? hj)).2⟩
  · intro j k x y hjk hx hy
    have dsym : ∀ {x y : Bth}, Dj x y → Dj y x := fun ⟨a, b, c⟩ => ⟨fun h => a h.symm, fun h => b h.symm, fun u v hu hv h => c v u hv hu h.symm⟩
    by_cases hji : j = i
    · subst hji
      rw [List.getElem?_set_self hil] at hx
      cases hx
      rw [List.getElem?_set_ne (fun e => hjk e)] at hy
      exact (hrest k y (fun e => hjk e.symm) hy).2
    · rw [List.getElem?_set_ne (fun e => hji e.symm)] at hx
      by_cases hki : k = i
      · subst hki
        rw [List.getElem?_set_self hil] at hy
        cases hy
        exact dsym (hrest j x hji hx).2
      · rw [List.getElem?_set_ne (fun e => hki e.symm)] at hy
        exact h.dj j k x y hjk hx hy
theorem Ply.drewN (h : Ply q w W gp L aL cL C aC cC E aD cD) (n : Nat) : Ply q w (W.drewN n) gp L aL cL C aC cC E aD cD := h.grow ⟨rfl, rfl, rfl, Nat.le_refl _, fun _ _ => rfl⟩
theorem Ply.drew (h : Ply q w W gp L aL cL C aC cC E aD cD) : Ply q w W.drew gp L aL cL C aC cC E aD cD := h.grow ⟨rfl, rfl, rfl, Nat.le_refl _, fun _ _ => rfl⟩
end
/-! blocks of one type change -/
section
variable {W W' : World} {r : Option Nat} {T0 T : TypeId}
structure Chg (W W' : World) (r : Option Nat) (T0 : TypeId) : Prop where
  g : W.grownBy W' r
  t : ∀ j, r = some j → ∃ cs fr, W.heap[j]? = some (.cells cs T0 fr)
theorem Chg.row (h : Chg W W' r T0) {j : Nat} {cs : Array Value} {fr : Nat × Nat} (k : W.heap[j]? = some (.cells cs T fr)) (hT : T ≠ T0) : W'.heap[j]? = some (.cells cs T fr) :=
  (h.g.block j (Array.getElem?_eq_some_iff.1 k).1 (fun e => by
    obtain ⟨cs', fr', k'⟩ := h.t j e.symm
    exact row_apart k k' hT rfl)).trans k
theorem Chg.vown (h : Chg W W' r T0) {sz base c : Nat} {a : Option Addr} {l : List Value} (k : VOwn W T sz base a c l) (hT : T ≠ T0) : VOwn W' T sz base a c l := by
  rcases k with k | ⟨b, p, t, j1, j2, j3, j4, j5⟩
  · exact .inl k
  · exact .inr ⟨b, p, t, j1, j2, j3, j4, h.row j5 hT⟩
theorem Chg.own (h : Chg W W' r T0) {base c : Nat} {a : Option Addr} {l : List Nat} (k : Own W T base a c l) (hT : T ≠ T0) : Own W' T base a c l := by
  rcases k with k | ⟨b, t, j1, j2, j3, j4, j5⟩
  · exact .inl k
  · exact .inr ⟨b, t, j1, j2, j3, j4, h.row j5 hT⟩
theorem Chg.bth (h : Chg W W' r T0) {e : Bth} (k : BthAt W e) (h1 : 192 ≠ T0) (h2 : 205 ≠ T0) (h3 : 207 ≠ T0) : BthAt W' e := by
  obtain ⟨⟨c1, k1⟩, k2⟩ := k.rb.type
  refine ⟨h.row k.bin h1, k.rb.kept ((h.row k1 h2).trans k1.symm) fun ad had => ?_, k.f1, k.f2⟩
  obtain ⟨c2, k3⟩ := k2 ad had
  exact (h.row k3 h3).trans k3.symm
theorem Chg.of {sz base c : Nat} {a : Option Addr} {l : List Value} (k : VOwn W T sz base a c l) (h : W.grownBy W' (a.map (·.block))) : Chg W W' (a.map (·.block)) T := ⟨h, fun j hj => by
  obtain ⟨ad, had, rfl⟩ := Option.map_eq_some_iff.1 hj
  obtain ⟨cs, k1⟩ := k.type ad had
  exact ⟨cs, _, k1⟩⟩
theorem Chg.set {g : Nat} {cs : Array Value} {fr : Nat × Nat} (k : W.heap[g]? = some (.cells cs T fr)) (i : Nat) (v : Value) : Chg W (W.setCell ⟨g, i, none⟩ v) (some g) T := ⟨grown_set' (grown_refl _ _) i v, fun j hj => by cases hj; exact ⟨cs, fr, k⟩⟩
end
section
variable {q : Prop} {w W W1 W5 : World} {gp : Nat} {L : List Bth} {aL aC aD a' : Option Addr} {cL cC cD c' : Nat} {C E : List Cm}
theorem Ply.came {x : Cm} (h : Ply q w W gp L aL cL C aC cC E aD cD) (hx : Own W 118 w.heap.size x.a x.c (words x.d.m)) (hok : x.d.Ok) (hap : q → ∀ y ∈ C, ∀ u v, x.a = some u → y.a = some v → u.block ≠ v.block) (hb : Below W.heap.size W W1)
    (ho : VOwn W5 46 3 w.heap.size a' c' (dyC C ++ [.bool x.d.neg, .slice x.a (words x.d.m).length x.c, .int .i64 x.d.exp])) (hg : W1.grownBy W5 (aC.map (·.block))) (hn : a' = aC ∨ (W1.grownBy W5 none ∧ ∃ g, a' = some ⟨g, 0, none⟩ ∧ W1.heap.size ≤ g)) :
    Ply q w (W5.setCell ⟨gp, 1, none⟩ (.slice a' (C.length + 1) c')) gp L aL cL (C ++ [x]) a' c' E aD cD := by
  have h1 := h.grow hb
  have c1 := Chg.of h1.oc hg
  have r5 := c1.row h1.row (by decide)
  have c2 := Chg.set r5 1 (.slice a' (C.length + 1) c')
  have hx1 := hx.grow hb
  refine ⟨by rw [row_set r5 1 (.slice a' (C.length + 1) c')]; rw [List.length_append]; rfl, h1.gp, c2.vown (c1.vown h1.ol (by decide)) (by decide), ?_, ?_, ?_, ?_, h1.dj, ?_, ?_, ?_, ?_⟩
  · exact c2.vown (by rw [dyC_app]; exact ho) (by decide)
  · exact c2.vown (h1.od.grownO hg (fun ad had e => by
      obtain ⟨u, hu, hbk⟩ := Option.map_eq_some_iff.1 e
      exact h1.cd u ad hu had hbk)) (by decide)
  · exact fun u v hu hv => by
      rcases hn with rfl | ⟨_, k, rfl, hk⟩
      · exact h1.cd u v hu hv
      · cases hu
        have := h1.od.lt v hv
        show k ≠ v.block
        omega
  · exact fun e he => ⟨c2.bth (c1.bth (h1.en e he).1 (by decide) (by decide) (by decide)) (by decide) (by decide) (by decide), (h1.en e he).2⟩
  · exact fun hq y hy => by
      rcases List.mem_append.1 hy with hy | hy
      · exact ⟨c2.own (c1.own (h1.cm hq y hy).1 (by decide)) (by decide), (h1.cm hq y hy).2⟩
      · obtain rfl : y = x := by simpa using hy
        exact ⟨c2.own (c1.own hx1 (by decide)) (by decide), hok⟩
  · exact fun k y hy => ⟨c2.own (c1.own (h1.cm' k y hy).1 (by decide)) (by decide), (h1.cm' k y hy).2⟩
  · exact fun hq i j y z u v hij hy hz hu hv => by
      have key : ∀ (i : Nat) (y : Cm), (C ++ [x])[i]? = some y → (C[i]? = some y) ∨ (i = C.length ∧ y = x) := by
        intro i y hy
        by_cases hi : i < C.length
        · rw [List.getElem?_append_left hi] at hy; exact .inl hy
        · rw [List.getElem?_append_right (by omega)] at hy
          have := (List.getElem?_eq_some_iff.1 hy).1
          simp at this
          obtain rfl : i = C.length := by omega
          simp at hy
          exact .inr ⟨rfl, hy.symm⟩
      rcases key i y hy with k1 | ⟨k1, rfl⟩ <;> rcases key j z hz with k2 | ⟨k2, rfl⟩
      · exact h1.ap hq i j y z u v hij k1 k2 hu hv
      · exact fun e => hap hq y (List.mem_of_getElem? k1) v u hv hu e.symm
      · exact hap hq z (List.mem_of_getElem? k2) u v hu hv
      · omega
  · exact (Rgrown h1.bel (Nat.le_refl _) hg h1.oc.row).setCell (p := ⟨gp, 1, none⟩) h1.gp _
theorem Ply.want {x : Cm} (h : Ply q w W gp L aL cL C aC cC E aD cD) (hx : Own W 118 w.heap.size x.a' x.c' (words x.d.m)) (hok : x.d.Ok) (hb : Below W.heap.size W W1)
    (ho : VOwn W5 46 3 w.heap.size a' c' (dyW E ++ [.bool x.d.neg, .slice x.a' (words x.d.m).length x.c', .int .i64 x.d.exp])) (hg : W1.grownBy W5 (aD.map (·.block))) (hn : a' = aD ∨ (W1.grownBy W5 none ∧ ∃ g, a' = some ⟨g, 0, none⟩ ∧ W1.heap.size ≤ g)) :
    Ply q w (W5.setCell ⟨gp, 2, none⟩ (.slice a' (E.length + 1) c')) gp L aL cL C aC cC (E ++ [x]) a' c' := by
  have h1 := h.grow hb
  have c1 := Chg.of h1.od hg
  have r5 := c1.row h1.row (by decide)
  have c2 := Chg.set r5 2 (.slice a' (E.length + 1) c')
  have hx1 := hx.grow hb
  refine ⟨by rw [row_set r5 2 (.slice a' (E.length + 1) c')]; rw [List.length_append]; rfl, h1.gp, c2.vown (c1.vown h1.ol (by decide)) (by decide), ?_, ?_, ?_, ?_, h1.dj, ?_, ?_, ?_, ?_⟩
  · exact c2.vown (h1.oc.grownO hg (fun ad had e => by
      obtain ⟨u, hu, hbk⟩ := Option.map_eq_some_iff.1 e
      exact h1.cd ad u had hu hbk.symm)) (by decide)
  · exact c2.vown (by rw [dyW_app]; exact ho) (by decide)
  · exact fun u v hu hv => by
      rcases hn with rfl | ⟨_, k, rfl, hk⟩
      · exact h1.cd u v hu hv
      · cases hv
        have := h1.oc.lt u hu
        show u.block ≠ k
        omega
  · exact fun e he => ⟨c2.bth (c1.bth (h1.en e he).1 (by decide) (by decide) (by decide)) (by decide) (by decide) (by decide), (h1.en e he).2⟩
  · exact fun k y hy => ⟨c2.own (c1.own (h1.cm k y hy).1 (by decide)) (by decide), (h1.cm k y hy).2⟩
  · exact fun hq y hy => by
      rcases List.mem_append.1 hy with hy | hy
      · exact ⟨c2.own (c1.own (h1.cm' hq y hy).1 (by decide)) (by decide), (h1.cm' hq y hy).2⟩
      · obtain rfl : y = x := by simpa using hy
        exact ⟨c2.own (c1.own hx1 (by decide)) (by decide), hok⟩
  · exact h1.ap
  · exact (Rgrown h1.bel (Nat.le_refl _) hg h1.od.row).setCell (p := ⟨gp, 2, none⟩) h1.gp _
end
end Go.Proofs.YteahdgbokjbgcaaGreatDoor
namespace Go.Proofs.YteahdgbokjbgcaaGreatDoor
open Go.RowKit
set_option maxRecDepth 10000
set_option linter.unusedVariables false
set_option linter.unusedSimpArgs false

def AtQ (L : List Bth) (W : World) (en : Ending) (w' : World) : Prop := ∃ (i : Nat) (e : Bth), L[i]? = some e ∧ en = .returned (.agg #[.pointer (some ⟨e.gb, 0, none⟩), .pointer (some ⟨e.gr, 0, none⟩)]) ∧ Below W.heap.size W w'
set_option maxHeartbeats 4000000 in
theorem at_any {q : Prop} {w W : World} {gp : Nat} {L : List Bth} {aL aC aD : Option Addr} {cL cC cD : Nat} {C E : List Cm} (n : Int) (hn1 : -9223372036854775808 ≤ n) (hn2 : n ≤ 9223372036854775807) (hL : 0 < L.length) (hL2 : L.length ≤ 16) (h : Ply q w W gp L aL cL C aC cC E aD cD) :
    Calls Tryz.prog 85 #[.pointer (some ⟨gp, 0, none⟩), .int .i64 n] W (AtQ L W) := by
  obtain ⟨w1, e1⟩ : ∃ V, V = W.alloc (.cells #[.pointer none, .pointer none] 37) := ⟨_, rfl⟩
  obtain ⟨k1, b1, s1⟩ := new_of e1 rfl
  have H1 := Lib.hid (h.grow b1)
  have HB1 := Lib.hid b1
  have E1 := Lib.hid e1
  have K1 := Lib.hid k1
  obtain ⟨k, hk⟩ : ∃ k : Nat, (if n < 0 then -(n + 1) else n) = (k : Int) := ⟨(if n < 0 then -(n + 1) else n).toNat, by split <;> omega⟩
  obtain ⟨i, hi⟩ : ∃ i, i = k % L.length := ⟨_, rfl⟩
  have hil : i < L.length := by rw [hi]; exact Nat.mod_lt _ hL
  obtain ⟨e, he⟩ : ∃ e, L[i]? = some e := ⟨L[i], List.getElem?_eq_getElem hil⟩
  have HE := Lib.hid he
  obtain ⟨g1, g2⟩ := bothV_get L i e he
  obtain ⟨b, o, rfl, z0⟩ := H1.out.ol.rd _ _ g1
  obtain ⟨b', o', e', z1⟩ := H1.out.ol.rd _ _ g2
  cases e'
  rw [← Nat.add_assoc] at z1
  obtain ⟨x0, _, _, _, _, _⟩ := H1.out.cells
  have hne : W.heap.size ≠ gp := by have := h.lt; omega
  have hne2 : W.heap.size ≠ b := by
    have h5 := h.ol.lt _ rfl
    intro e9
    rw [← e9] at h5
    exact Nat.lt_irrefl _ h5
  have q0 : w1.cell? ⟨W.heap.size, 0, none⟩ = some (.pointer none) := by rw [cell_of_row w1 _ 0 _ _ _ k1]; rfl
  have q1 : w1.cell? ⟨W.heap.size, 1, none⟩ = some (.pointer none) := by rw [cell_of_row w1 _ 1 _ _ _ k1]; rfl
  have q2 := frozen_of_row w1 W.heap.size 0 _ _ k1
  have q3 := frozen_of_row w1 W.heap.size 1 _ _ k1
  have hm : (k : Int) % (L.length : Int) = (i : Int) := by rw [hi]; exact (Int.natCast_emod _ _).symm
  have n1 : (0 : Int) ≤ (i : Int) := by omega
  have n2 : (i : Int) < (L.length : Int) := by omega
  have n0 : L.length ≠ 0 := by omega
  have hz : ((w1.setCell ⟨W.heap.size, 0, none⟩ (.pointer (some ⟨e.gb, 0, none⟩))).setCell ⟨W.heap.size, 1, none⟩ (.pointer (some ⟨e.gr, 0, none⟩))).heap[W.heap.size]? = some (.cells #[.pointer (some ⟨e.gb, 0, none⟩), .pointer (some ⟨e.gr, 0, none⟩)] 37 (0, 0)) := by
    have h5 := row_set (l := [.pointer none, .pointer none]) k1 0 (.pointer (some ⟨e.gb, 0, none⟩))
    have h6 := row_set h5 1 (.pointer (some ⟨e.gr, 0, none⟩))
    exact h6
  have HZ := Lib.hid hz
  clear h e1 k1 b1 he g1 g2 hi hil hz s1
  by_cases hneg : n < 0
  · rw [if_pos hneg] at hk
    have e2 : IntKind.i64.wrap (n + 1) = n + 1 := by rw [IntKind.wrap_i64]; omega
    have e3 : IntKind.i64.wrap (-(n + 1)) = (k : Int) := by rw [IntKind.wrap_i64]; omega
    clear hk
    go_enter Tryz.func85, Tryz.ntmps85
    go_upto_region 3 with fail
    rw [← E1.out]
    go_region
    all_goals
      have c0 := (show ((w1.setCell ⟨W.heap.size, 0, none⟩ (.pointer (some ⟨e.gb, 0, none⟩))).setCell ⟨W.heap.size, 1, none⟩ (.pointer (some ⟨e.gr, 0, none⟩))).cell? ⟨W.heap.size, 0, none⟩ = some (.pointer (some ⟨e.gb, 0, none⟩)) by rw [cell_of_row _ _ 0 _ _ _ HZ.out]; rfl)
      have c1 := (show ((w1.setCell ⟨W.heap.size, 0, none⟩ (.pointer (some ⟨e.gb, 0, none⟩))).setCell ⟨W.heap.size, 1, none⟩ (.pointer (some ⟨e.gr, 0, none⟩))).cell? ⟨W.heap.size, 1, none⟩ = some (.pointer (some ⟨e.gr, 0, none⟩)) by rw [cell_of_row _ _ 1 _ _ _ HZ.out]; rfl)
      go_wp2_with fail
      refine bodyPost_ret (v := .agg #[.pointer (some ⟨e.gb, 0, none⟩), .pointer (some ⟨e.gr, 0, none⟩)]) (by simp [results, Tryz.results85, go_sem, c0, c1]) rfl ?_
      exact ⟨i, e, HE.out, rfl, ((HB1.out.setCell (p := ⟨W.heap.size, 0, none⟩) (Nat.le_refl _) _).setCell (p := ⟨W.heap.size, 1, none⟩) (Nat.le_refl _) _).drew⟩
  · rw [if_neg hneg] at hk
    subst hk
    go_enter Tryz.func85, Tryz.ntmps85
    go_upto_region 3 with fail
    rw [← E1.out]
    go_region
    all_goals
      have c0 := (show ((w1.setCell ⟨W.heap.size, 0, none⟩ (.pointer (some ⟨e.gb, 0, none⟩))).setCell ⟨W.heap.size, 1, none⟩ (.pointer (some ⟨e.gr, 0, none⟩))).cell? ⟨W.heap.size, 0, none⟩ = some (.pointer (some ⟨e.gb, 0, none⟩)) by rw [cell_of_row _ _ 0 _ _ _ HZ.out]; rfl)
      have c1 := (show ((w1.setCell ⟨W.heap.size, 0, none⟩ (.pointer (some ⟨e.gb, 0, none⟩))).setCell ⟨W.heap.size, 1, none⟩ (.pointer (some ⟨e.gr, 0, none⟩))).cell? ⟨W.heap.size, 1, none⟩ = some (.pointer (some ⟨e.gr, 0, none⟩)) by rw [cell_of_row _ _ 1 _ _ _ HZ.out]; rfl)
      go_wp2_with fail
      refine bodyPost_ret (v := .agg #[.pointer (some ⟨e.gb, 0, none⟩), .pointer (some ⟨e.gr, 0, none⟩)]) (by simp [results, Tryz.results85, go_sem, c0, c1]) rfl ?_
      exact ⟨i, e, HE.out, rfl, ((HB1.out.setCell (p := ⟨W.heap.size, 0, none⟩) (Nat.le_refl _) _).setCell (p := ⟨W.heap.size, 1, none⟩) (Nat.le_refl _) _).drew⟩
end Go.Proofs.YteahdgbokjbgcaaGreatDoor
