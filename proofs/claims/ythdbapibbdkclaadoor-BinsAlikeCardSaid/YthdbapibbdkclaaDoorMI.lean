/- Contracts of package steelyardref02: Book.Take, Book.Owned. Contract of steelyardref02's Book.Owned. Contract of steelyardlaw03.took. What the laws of layer 3 share. Sums and products of forms commute; what the walks of the laws of layer 3 share. No statement of the seat is proved here. -/
import Derived.Test.YthdbapibbdkclaaDoorProg
import Derived.Test.YthdbapibbdkclaaDoorMR
import Derived.Test.YthdbapibbdkclaaDoorMH
namespace Go.Proofs.YthdbapibbdkclaaDoor
open Go.RowKit
set_option linter.unusedVariables false
set_option linter.unusedSimpArgs false

theorem infoN : (Tryd.prog.info? 26).map (fun i => (i.zero, i.size, i.bytes)) = some (some (.slice none 0 0), 1, 24) := by kernel_rfl

theorem row_ne' {w : World} {base B : Nat} {v : Value} {k : Nat} {xs : List Value} {cs : Array Value} {T : TypeId} {fr : Nat × Nat} (h1 : w.heap[B]? = some (.cells cs T fr)) (hT : T ≠ 26) (h2 : w.ownsRow base 26 1 v k xs) : v.ownBlock ≠ some B := by
  rcases h2.2 with ⟨rfl, _⟩ | ⟨g, cap, cur, rfl, _, hg, _⟩
  · simp [Value.ownBlock]
  · simp [Value.ownBlock]
    rintro rfl
    rw [h1] at hg; simp at hg; exact hT hg.2.1
end Go.Proofs.YthdbapibbdkclaaDoor
namespace Go.Proofs.YthdbapibbdkclaaDoor
open Go.RowKit
set_option linter.unusedVariables false
set_option linter.unusedSimpArgs false

abbrev Sv := Option Addr × Nat × Nat
def Sv.val (e : Sv) : Value := .slice e.1 e.2.1 e.2.2
/-- a slice whose first m words are a mark -/
def Ent (w : World) (base : Nat) (e : Sv) (m x : Nat) : Prop :=
  (e.1 = none ∧ e.2.1 = 0 ∧ e.2.2 = 0) ∨ ∃ g t, e.1 = some ⟨g, 0, none⟩ ∧ base ≤ g ∧ e.2.1 ≤ e.2.2 ∧ e.2.2 ≤ (List.replicate m x ++ t).length ∧ Blk w 82 g (List.replicate m x ++ t)
def Apart (es : List Sv) : Prop := ∀ (i j : Nat) (e f : Sv) (g h : Addr), i ≠ j → es[i]? = some e → es[j]? = some f → e.1 = some g → f.1 = some h → g.block ≠ h.block
def EntAll (w : World) (base : Nat) (es : List Sv) (f : Nat → Nat → Nat) : Prop := ∀ j e, es[j]? = some e → Ent w base e (f j e.2.1) (1000 + j)

theorem Ent.own {w : World} {base : Nat} {e : Sv} {x : Nat} (h : Ent w base e e.2.1 x) : Own w 82 base e.1 e.2.2 (List.replicate e.2.1 x) := by
  rcases h with ⟨h1, h2, h3⟩ | ⟨g, t, h1, h2, h3, h4, h5⟩
  · rw [h2]; exact .inl ⟨h1, h3, rfl⟩
  · exact .inr ⟨g, t, h1, h2, by simpa using h3, h4, h5⟩
theorem Ent.start {w : World} {base c : Nat} {a : Option Addr} {l : List Nat} (x : Nat) (h : Own w 82 base a c l) : Ent w base (a, l.length, c) 0 x := by
  rcases h with ⟨h1, h2, h3⟩ | ⟨g, t, h1, h2, h3, h4, h5⟩
  · exact .inl ⟨h1, by rw [h3]; rfl, h2⟩
  · exact .inr ⟨g, l ++ t, h1, h2, h3, by simpa using h4, by simpa using h5⟩
theorem Ent.other {w w' : World} {base m x : Nat} {e : Sv} (h : Ent w base e m x) (hk : ∀ g, e.1 = some g → w'.heap[g.block]? = w.heap[g.block]?) : Ent w' base e m x := by
  rcases h with h | ⟨g, t, h1, h2, h3, h4, h5⟩
  · exact .inl h
  · exact .inr ⟨g, t, h1, h2, h3, h4, by unfold Blk; rw [hk _ h1]; exact h5⟩

theorem EntAll.step {w : World} {base : Nat} {es : List Sv} {f f' : Nat → Nat → Nat} (hD : Apart es) (h : EntAll w base es f) {i : Nat} {e : Sv} {g m : Nat} (he : es[i]? = some e) (hg : e.1 = some ⟨g, 0, none⟩) (hf : f i e.2.1 = m) (hm : m < e.2.1)
    (hf' : f' i e.2.1 = m + 1) (hff : ∀ j n, j ≠ i → f' j n = f j n) : EntAll (w.setCell ⟨g, m, none⟩ (.int .u32 ((1000 + i : Nat) : Int))) base es f' := by
  intro j e' he'
  by_cases hj : j = i
  · subst hj
    rw [he] at he'; cases he'
    rw [hf']
    have := h j e he
    rw [hf] at this
    rcases this with ⟨h1, _⟩ | ⟨g', t, h1, h2, h3, h4, h5⟩
    · rw [h1] at hg; cases hg
    · rw [hg] at h1; cases h1
      obtain ⟨y, t', rfl⟩ : ∃ y t', t = y :: t' := by
        cases t with
        | nil => simp at h4; omega
        | cons y t' => exact ⟨y, t', rfl⟩
      refine .inr ⟨g, t', hg, h2, h3, by simp at h4 ⊢; omega, ?_⟩
      have := h5.midPush (i := m) (by simp) (1000 + j) (v := ((1000 + j : Nat) : Int)) rfl
      rw [← List.replicate_succ'] at this
      exact this
  · rw [hff j _ hj]
    refine (h j e' he').other fun g' hg' => ?_
    rw [heap_setCell_other _ _ _ _ (by simpa using (fun e0 => hD i j e e' _ _ (fun q => hj q.symm) he he' hg hg' (by simpa using e0.symm)))]

theorem EntAll.cell {w : World} {base : Nat} {es : List Sv} {f : Nat → Nat → Nat} (h : EntAll w base es f) {i : Nat} {e : Sv} {m : Nat} (he : es[i]? = some e) (hf : f i e.2.1 = m) (hm : m < e.2.1) :
    ∃ g y l, e.1 = some ⟨g, 0, none⟩ ∧ base ≤ g ∧ Blk w 82 g l ∧ w.cell? ⟨g, m, none⟩ = some (.int .u32 ((y : Nat) : Int)) ∧ w.frozen? ⟨g, m, none⟩ = false := by
  have := h i e he
  rw [hf] at this
  rcases this with ⟨h1, h2, _⟩ | ⟨g, t, h1, h2, h3, h4, h5⟩
  · omega
  · obtain ⟨y, t', rfl⟩ : ∃ y t', t = y :: t' := by
      cases t with
      | nil => simp at h4; omega
      | cons y t' => exact ⟨y, t', rfl⟩
    exact ⟨g, y, _, h1, h2, h5, h5.midCell (by simp), h5.frozen _⟩

/-- the first loop's law: what is done with a Book's slices up to place i, of the i-th its first k words -/
def doneTo (i k : Nat) : Nat → Nat → Nat := fun j n => if j < i then n else if j = i then k else 0

/-- a slice that reads as a mark all over -/
def En (w : World) (base : Nat) (e : Sv) (x : Nat) : Prop := e.2.1 = 0 ∨ ∃ g t, e.1 = some ⟨g, 0, none⟩ ∧ base ≤ g ∧ Blk w 82 g (List.replicate e.2.1 x ++ t)
theorem En.of {w : World} {base c : Nat} {a : Option Addr} {n x : Nat} (h : Own w 82 base a c (List.replicate n x)) : En w base (a, n, c) x := by
  rcases h with ⟨h1, h2, h3⟩ | ⟨g, t, h1, h2, h3, h4, h5⟩
  · left; have := congrArg List.length h3; simpa using this
  · exact .inr ⟨g, t, h1, h2, h5⟩
theorem En.other {w w' : World} {base x : Nat} {e : Sv} (h : En w base e x) (hk : ∀ g l, e.1 = some g → Blk w 82 g.block l → w'.heap[g.block]? = w.heap[g.block]?) : En w' base e x := by
  rcases h with h | ⟨g, t, h1, h2, h5⟩
  · exact .inl h
  · exact .inr ⟨g, t, h1, h2, by unfold Blk; rw [hk _ _ h1 h5]; exact h5⟩
theorem En.cell {w : World} {base x : Nat} {e : Sv} (h : En w base e x) {m : Nat} (hm : m < e.2.1) : ∃ g, e.1 = some ⟨g, 0, none⟩ ∧ w.cell? ⟨g, m, none⟩ = some (.int .u32 ((x : Nat) : Int)) := by
  rcases h with h | ⟨g, t, h1, h2, h5⟩
  · omega
  · refine ⟨g, h1, h5.cell ?_⟩
    rw [List.getElem?_append_left (by simpa using hm)]; simp [hm]

/-- behind an append to a row of slices the words stand -/
theorem row_keeps {w w1 : World} {o : Obj} {b2 k g : Nat} {v : Value} {xs : List Value} {cs : Array Value} {T : TypeId} {fr : Nat × Nat} (hg : w.heap[g]? = some (.cells cs T fr)) (hT : T ≠ 26) (hr : w.ownsRow b2 26 1 v k xs) (hk : (w.alloc o).grownBy w1 v.ownBlock) : w1.heap[g]? = w.heap[g]? := by
  have hlt := (Array.getElem?_eq_some_iff.1 hg).1
  rw [hk.block g (by simp; omega) (fun e => row_ne' hg hT hr e.symm), World.alloc, Array.getElem?_push, if_neg (by omega)]

theorem Own.row {w w1 : World} {o : Obj} {b2 k base c : Nat} {v : Value} {xs : List Value} {a : Option Addr} {l : List Nat} (h : Own w 82 base a c l) (hr : w.ownsRow b2 26 1 v k xs) (hk : (w.alloc o).grownBy w1 v.ownBlock) : Own w1 82 base a c l := by
  rcases h with h | ⟨g, t, h1, h2, h3, h4, h5⟩
  · exact .inl h
  · exact .inr ⟨g, t, h1, h2, h3, h4, by unfold Blk; rw [row_keeps (g := g) h5 (by decide) hr hk]; exact h5⟩
theorem Ent.row {w w1 : World} {o : Obj} {b2 k base m x : Nat} {v : Value} {xs : List Value} {e : Sv} (h : Ent w base e m x) (hr : w.ownsRow b2 26 1 v k xs) (hk : (w.alloc o).grownBy w1 v.ownBlock) : Ent w1 base e m x := by
  rcases h with h | ⟨g, t, h1, h2, h3, h4, h5⟩
  · exact .inl h
  · exact .inr ⟨g, t, h1, h2, h3, h4, by unfold Blk; rw [row_keeps (g := g) h5 (by decide) hr hk]; exact h5⟩
theorem En.row {w w1 : World} {o : Obj} {b2 k base x : Nat} {v : Value} {xs : List Value} {e : Sv} (h : En w base e x) (hr : w.ownsRow b2 26 1 v k xs) (hk : (w.alloc o).grownBy w1 v.ownBlock) : En w1 base e x :=
  h.other fun g l _ hb => row_keeps (g := g.block) hb (by decide) hr hk
/-- a row behind an append to words -/
theorem row_words {w w1 : World} {o : Obj} {k b2 : Nat} {v : Value} {xs : List Value} {a : Option Addr} {c b3 : Nat} {l : List Nat} (h : w.ownsRow b2 26 1 v k xs) (hk : (w.alloc o).grownBy w1 (a.map (·.block))) (ho : Own w 82 b3 a c l) : w1.ownsRow b2 26 1 v k xs := by
  rcases ho with ⟨rfl, _⟩ | ⟨g, t, rfl, _, _, _, h5⟩
  · exact (h.alloc o).kept hk (by cases v.ownBlock <;> simp)
  · exact (h.alloc o).kept hk (.inr (row_ne' (B := g) (show w.heap[g]? = some _ from h5) (by decide) h))
theorem Ent.words {w w1 : World} {o : Obj} {base m x : Nat} {e : Sv} {a : Option Addr} (h : Ent w base e m x) (hk : (w.alloc o).grownBy w1 (a.map (·.block))) (hne : ∀ g h, e.1 = some g → a = some h → g.block ≠ h.block) : Ent w1 base e m x := by
  rcases h with h | ⟨g, t, h1, h2, h3, h4, h5⟩
  · exact .inl h
  · have hlt := h5.lt
    refine .inr ⟨g, t, h1, h2, h3, h4, ?_⟩
    unfold Blk
    rw [hk.block g (by simp; omega) ?_, World.alloc, Array.getElem?_push, if_neg (by omega)]
    · exact h5
    · cases a with
      | none => simp
      | some gx => simpa using hne _ gx h1 rfl
theorem below_grown {B b3 c : Nat} {w0 w w1 : World} {o : Obj} {a : Option Addr} {l : List Nat} (h : Below B w0 w) (hB : B ≤ w.heap.size) (hk : (w.alloc o).grownBy w1 (a.map (·.block))) (ho : Own w 82 b3 a c l) (hb3 : B ≤ b3) : Below B w0 w1 := by
  refine h.trans (((Below.refl _ _).alloc hB _).trans ⟨hk.os, hk.tape, hk.output, hk.size, fun j hj => hk.block j (by simp; omega) ?_⟩)
  rcases ho with ⟨rfl, _⟩ | ⟨g, t, rfl, h1, _⟩
  · simp
  · simp; omega

theorem Ent.lt {w : World} {base m x : Nat} {e : Sv} (h : Ent w base e m x) {g : Addr} (hg : e.1 = some g) : g.block < w.heap.size := by
  rcases h with ⟨h, _⟩ | ⟨g', t, h1, h2, h3, h4, h5⟩
  · rw [h] at hg; cases hg
  · rw [h1] at hg; cases hg; exact h5.lt
theorem En.lt {w : World} {base x : Nat} {e : Sv} (h : En w base e x) : e.2.1 = 0 ∨ ∀ g, e.1 = some g → g.block < w.heap.size := by
  rcases h with h | ⟨g', t, h1, h2, h5⟩
  · exact .inl h
  · exact .inr fun g hg => by rw [h1] at hg; cases hg; exact h5.lt

theorem En.append {w w2 : World} {base c c' n : Nat} {a a' : Option Addr} {x x' : Nat} {e : Sv} {o : Obj} (h : En w base e x') (ho : Own w 82 base a c (List.replicate n x)) (ho2 : Own w2 82 base a' c' (List.replicate n x ++ [x]))
    (hg : (w.alloc o).grownBy w2 (a.map (·.block))) (hq : a' = a ∨ ((w.alloc o).grownBy w2 none ∧ ∃ g, a' = some ⟨g, 0, none⟩ ∧ (w.alloc o).heap.size ≤ g)) (hn : (∀ g gx, e.1 = some g → a = some gx → g.block ≠ gx.block) ∨ e.2.1 ≤ n) : En w2 base e x' := by
  rcases h with h | ⟨g, t, h1, h2, h5⟩
  · exact .inl h
  · have hlt := h5.lt
    have keep : w2.heap[g]? = w.heap[g]? → En w2 base e x' := fun hh => .inr ⟨g, t, h1, h2, by unfold Blk; rw [hh]; exact h5⟩
    have hall : (w.alloc o).heap[g]? = w.heap[g]? := by rw [World.alloc, Array.getElem?_push, if_neg (by omega)]
    by_cases hb : a.map (·.block) = some g
    · rcases hq with rfl | ⟨hq, _⟩
      · have hn' : e.2.1 ≤ n := by
          rcases hn with hn | hn
          · cases a' with
            | none => simp at hb
            | some gx => simp at hb; exact absurd hb.symm (hn _ _ h1 rfl)
          · exact hn
        rcases ho with ⟨h6, _⟩ | ⟨g1, t1, h6, _, _, _, h7⟩
        · rw [h6] at hb; simp at hb
        · rw [h6] at hb; simp at hb; subst hb
          rcases ho2 with ⟨h8, _⟩ | ⟨g2, t2, h8, _, _, _, h9⟩
          · rw [h6] at h8; cases h8
          · rw [h6] at h8; cases h8
            have e1 : List.replicate e.2.1 x' ++ t = List.replicate n x ++ t1 := by
              unfold Blk at h5 h7
              rw [h5] at h7
              simp only [Option.some.injEq, Obj.cells.injEq, and_true] at h7
              have h7' := congrArg Array.toList h7
              simp only [List.map_append] at h7'
              have hinj : ∀ (p q : List Nat), p.map (fun x => Value.int .u32 ((x : Nat) : Int)) = q.map (fun x => Value.int .u32 ((x : Nat) : Int)) → p = q := by
                intro p
                induction p with
                | nil => intro q hq; cases q with | nil => rfl | cons _ _ => simp at hq
                | cons y p ih => intro q hq; cases q with | nil => simp at hq | cons z q => simp only [List.map_cons, List.cons.injEq, Value.int.injEq, true_and] at hq; obtain ⟨h1, h2⟩ := hq; rw [show y = z by omega, ih q h2]
              exact hinj _ _ (by simpa using h7')
            have e2 : List.replicate e.2.1 x' = (List.replicate n x).take e.2.1 := by
              have := congrArg (List.take e.2.1) e1
              rw [List.take_left' (by simp), List.take_append_of_le_length (by simpa using hn')] at this
              exact this
            refine .inr ⟨_, (List.replicate n x).drop e.2.1 ++ ([x] ++ t2), h1, h2, ?_⟩
            rw [e2, ← List.append_assoc, List.take_append_drop, ← List.append_assoc]; exact h9
      · exact keep (by rw [hq.block g (by simp; omega) (by simp), hall])
    · exact keep (by rw [hg.block g (by simp; omega) (fun e => hb e.symm), hall])

/-- the elder memory stands below a block, and at blocks that are kept -/
structure BK (K : Nat → Prop) (B : Nat) (w w' : World) : Prop where
  b : Below B w w'
  k : ∀ j, K j → w'.heap[j]? = w.heap[j]?
theorem BK.refl (K : Nat → Prop) (B : Nat) (w : World) : BK K B w w := ⟨Below.refl _ _, fun _ _ => rfl⟩
theorem BK.set {K : Nat → Prop} {B g i : Nat} {w w' : World} (h : BK K B w w') (hg : B ≤ g) (hk : ¬ K g) (u : Value) : BK K B w (w'.setCell ⟨g, i, none⟩ u) :=
  ⟨h.b.setCell (p := ⟨g, i, none⟩) hg u, fun j hj => (heap_setCell_other _ _ _ _ (fun e => hk (by have e' : j = g := e; rw [← e']; exact hj))).trans (h.k j hj)⟩
theorem BK.grow {K : Nat → Prop} {B : Nat} {w w' w1 : World} {o : Obj} {r : Option Nat} (h : BK K B w w') (hb : Below B w w1) (hk : ∀ j, K j → j < w.heap.size) (hg : (w'.alloc o).grownBy w1 r) (hr : ∀ j, r = some j → ¬ K j) : BK K B w w1 :=
  ⟨hb, fun j hj => by
    have h1 := hk j hj
    have h2 := h.b.size
    rw [hg.block j (by simp; omega) (fun e => hr j e.symm hj), World.alloc, Array.getElem?_push, if_neg (by omega)]
    exact h.k j hj⟩

end Go.Proofs.YthdbapibbdkclaaDoor
namespace Go.Proofs.YthdbapibbdkclaaDoor
open Go.RowKit
set_option linter.unusedVariables false
set_option linter.unusedSimpArgs false

/-- Dyads that came out, one behind another -/
def Chain (w : World) : Nat → List Arg → Prop
  | _, [] => True
  | base, x :: xs => Own w 82 base x.a x.c x.l ∧ ∃ mid, base ≤ mid ∧ (∀ ad, x.a = some ad → ad.block < mid) ∧ Chain w mid xs
theorem Chain.grow {w w' : World} {base : Nat} {xs : List Arg} (h : Chain w base xs) (hb : Below w.heap.size w w') : Chain w' base xs := by
  induction xs generalizing base with
  | nil => trivial
  | cons x xs ih =>
    obtain ⟨h1, mid, h2, h3, h4⟩ := h
    exact ⟨h1.grow hb, mid, h2, h3, ih h4⟩
theorem Chain.mono {w : World} {base b : Nat} {xs : List Arg} (h : Chain w base xs) (hb : b ≤ base) : Chain w b xs := by
  cases xs with
  | nil => trivial
  | cons x xs =>
    obtain ⟨h1, mid, h2, h3, h4⟩ := h
    exact ⟨h1.mono hb, mid, by omega, h3, h4⟩
theorem Own.lt {w : World} {e : TypeId} {base c : Nat} {a : Option Addr} {l : List Nat} (h : Own w e base a c l) (ad : Addr) (ha : a = some ad) : ad.block < w.heap.size := by
  rcases h with ⟨h1, _⟩ | ⟨g, t, h0, h1, h2, h3, h4⟩
  · rw [h1] at ha; cases ha
  · rw [h0] at ha; cases ha; exact h4.lt
theorem Own.ge {w : World} {e : TypeId} {base c : Nat} {a : Option Addr} {l : List Nat} (h : Own w e base a c l) (ad : Addr) (ha : a = some ad) : base ≤ ad.block := by
  rcases h with ⟨h1, _⟩ | ⟨g, t, h0, h1, h2, h3, h4⟩
  · rw [h1] at ha; cases ha
  · rw [h0] at ha; cases ha; exact h1
theorem Chain.own {w : World} {base : Nat} {xs : List Arg} (h : Chain w base xs) {x : Arg} (hx : x ∈ xs) : Own w 82 base x.a x.c x.l := by
  induction xs generalizing base with
  | nil => cases hx
  | cons y ys ih =>
    obtain ⟨h1, mid, h2, h3, h4⟩ := h
    rcases List.mem_cons.1 hx with rfl | hx
    · exact h1
    · exact (ih h4 hx).mono h2
def svOf (x : Arg) : Sv := (x.a, x.l.length, x.c)
theorem Chain.apart {w : World} {base : Nat} {xs : List Arg} (h : Chain w base xs) : Apart (xs.map svOf) := by
  have key : ∀ (base : Nat) (xs : List Arg), Chain w base xs → ∀ (i j : Nat) (x y : Arg) (g k : Addr), i < j → xs[i]? = some x → xs[j]? = some y → x.a = some g → y.a = some k → g.block < k.block := by
    intro base xs
    induction xs generalizing base with
    | nil => intro _ i j x y g k hij h1; simp at h1
    | cons z zs ih =>
      intro h i j x y g k hij h1 h2 h3 h4
      obtain ⟨_, mid, _, h6, h7⟩ := h
      obtain ⟨j', rfl⟩ : ∃ j', j = j' + 1 := ⟨j - 1, by omega⟩
      rw [List.getElem?_cons_succ] at h2
      cases i with
      | zero =>
        simp at h1; subst h1
        have := h6 g h3
        have := (h7.own (List.mem_of_getElem? h2)).ge k h4
        omega
      | succ i =>
        rw [List.getElem?_cons_succ] at h1
        exact ih mid h7 i j' x y g k (by omega) h1 h2 h3 h4
  intro i j e f g k hij h1 h2 h3 h4
  rw [List.getElem?_map] at h1 h2
  obtain ⟨x, hx, rfl⟩ := Option.map_eq_some_iff.1 h1
  obtain ⟨y, hy, rfl⟩ := Option.map_eq_some_iff.1 h2
  rcases Nat.lt_or_ge i j with h5 | h5
  · have := key base xs h i j x y g k h5 hx hy h3 h4; omega
  · have := key base xs h j i y x k g (by omega) hy hx h4 h3; omega
/-- a list of Dyads at a block -/
def Dys (w : World) (g : Nat) (xs : List Arg) : Prop := ∀ i x, xs[i]? = some x → w.cell? ⟨g, i * 3, none⟩ = some (.bool x.s) ∧ w.cell? ⟨g, i * 3 + 1, none⟩ = some (.slice x.a x.l.length x.c) ∧ w.cell? ⟨g, i * 3 + 2, none⟩ = some (.int .i64 x.e)
theorem Dys.below {w w' : World} {g B : Nat} {xs : List Arg} (h : Dys w g xs) (hb : Below B w w') (hg : g < B) : Dys w' g xs := by
  intro i x hx
  obtain ⟨h1, h2, h3⟩ := h i x hx
  rw [hb.cell (p := ⟨g, i * 3, none⟩) hg, hb.cell (p := ⟨g, i * 3 + 1, none⟩) hg, hb.cell (p := ⟨g, i * 3 + 2, none⟩) hg]
  exact ⟨h1, h2, h3⟩

end Go.Proofs.YthdbapibbdkclaaDoor
namespace Go.Proofs.YthdbapibbdkclaaDoor
open Go.RowKit
set_option linter.unusedVariables false
set_option linter.unusedSimpArgs false

theorem bel_grown {B g : Nat} {w0 w w' : World} (h : Below B w0 w) (hB : B ≤ w0.heap.size) (hk : w.grownBy w' (some g)) (hg : B ≤ g) : Below B w0 w' :=
  ⟨hk.os.trans h.os, hk.tape.trans h.tape, hk.output.trans h.output, Nat.le_trans h.size hk.size, fun j hj => (hk.block j (Nat.lt_of_lt_of_le hj (Nat.le_trans hB h.size)) (by simp; omega)).trans (h.block j hj)⟩
theorem cel_grown {w w' : World} {g g' : Nat} {v0 v1 v2 : Value} (h : Cel w g' v0 v1 v2) (hk : w.grownBy w' (some g)) (hne : g' ≠ g) : Cel w' g' v0 v1 v2 :=
  (hk.block g' h.lt (by simpa using hne)).trans h
theorem own_grown {w w' : World} {e : TypeId} {g base c : Nat} {a : Option Addr} {l : List Nat} (h : Own w e base a c l) (hk : w.grownBy w' (some g)) (hne : ∀ ad, a = some ad → ad.block ≠ g) : Own w' e base a c l := by
  rcases h with h | ⟨g', t, h0, h1, h2, h3, h4⟩
  · exact .inl h
  · refine .inr ⟨g', t, h0, h1, h2, h3, ?_⟩
    have := hne _ h0
    exact (hk.block g' h4.lt (by simpa using this)).trans h4
theorem blk_grown {w w' : World} {e : TypeId} {g g' : Nat} {l : List Nat} (h : Blk w e g' l) (hk : w.grownBy w' (some g)) (hne : g' ≠ g) : Blk w' e g' l :=
  (hk.block g' h.lt (by simpa using hne)).trans h
theorem sl_lent {w : World} {e : TypeId} {g : Nat} {l : List Nat} (h : Blk w e g (l ++ [71, 72])) (hw : W32 l) : Sl w (some ⟨g, 0, none⟩) (l.length + 2) l :=
  ⟨by have := h.rd.take l.length; simpa using this, hw, by omega, fun h => by cases h⟩
/-- the cells of a list of Dyads -/
def cellsOf : List Arg → List Value
  | [] => []
  | x :: xs => .bool x.s :: .slice x.a x.l.length x.c :: .int .i64 x.e :: cellsOf xs
theorem cellsOf_get {xs : List Arg} {i : Nat} {x : Arg} (h : xs[i]? = some x) : (cellsOf xs)[i * 3]? = some (.bool x.s) ∧ (cellsOf xs)[i * 3 + 1]? = some (.slice x.a x.l.length x.c) ∧ (cellsOf xs)[i * 3 + 2]? = some (.int .i64 x.e) := by
  induction xs generalizing i with
  | nil => simp at h
  | cons y ys ih =>
    cases i with
    | zero => simp at h; subst h; simp [cellsOf]
    | succ i =>
      rw [List.getElem?_cons_succ] at h
      obtain ⟨h1, h2, h3⟩ := ih h
      rw [show (i + 1) * 3 = i * 3 + 3 by omega]
      simp only [cellsOf]
      exact ⟨h1, h2, h3⟩
theorem dys_block {w : World} {g : Nat} {T : TypeId} {vs : Array Value} {xs : List Arg} (h : w.heap[g]? = some (.cells vs T (0, 0))) (hv : vs.toList = cellsOf xs) : Dys w g xs := by
  intro i x hx
  obtain ⟨h1, h2, h3⟩ := cellsOf_get hx
  rw [← hv, Array.getElem?_toList] at h1 h2 h3
  refine ⟨?_, ?_, ?_⟩
  · rw [cell_of_row w g _ _ _ _ h]; exact h1
  · rw [cell_of_row w g _ _ _ _ h]; exact h2
  · rw [cell_of_row w g _ _ _ _ h]; exact h3
theorem ofF_ok (b : Nat) : (outO (ofF b)).Ok := by
  cases h : ofF b with
  | none => exact D.zero_ok
  | some d =>
    unfold ofF bitsF at h
    split at h
    · cases h
    · exact formF_ok h
theorem outF_ok (s : Bool) (n : Nat) (e : Int) : (outO (formF s n e)).Ok := by
  cases h : formF s n e with
  | none => exact D.zero_ok
  | some d => exact formF_ok h
theorem Own.arg {w : World} {base c : Nat} {a : Option Addr} {d : D} (h : Own w 82 base a c (words d.m)) (hd : d.Ok) : (argOf d a c).Ok w :=
  ⟨h.sl (W32_words _), by have := hd.len; show (words d.m).length ≤ _; omega, by have := hd.lo; show _ ≤ d.exp; omega, by have := hd.hi; show d.exp ≤ _; omega⟩
theorem two_alloc_0 (w : World) (vs us : Array Value) (T U : TypeId) : ((w.alloc (.cells vs T)).alloc (.cells us U)).heap[w.heap.size]? = some (.cells vs T (0, 0)) :=
  (((Below.refl (w.heap.size + 1) (w.alloc (.cells vs T))).alloc (by rw [World.size_alloc]; omega) (.cells us U)).block w.heap.size (by omega)).trans (heap_alloc_new _ _)
theorem two_alloc_1 (w : World) (vs us : Array Value) (T U : TypeId) : ((w.alloc (.cells vs T)).alloc (.cells us U)).heap[w.heap.size + 1]? = some (.cells us U (0, 0)) := by
  have := heap_alloc_new (w.alloc (.cells vs T)) (.cells us U)
  rwa [World.size_alloc] at this
theorem old_alloc {w : World} {g : Nat} {o : Obj} (h : w.heap[g]? = some o) (p : Obj) : (w.alloc p).heap[g]? = some o :=
  (((Below.refl w.heap.size w).alloc (Nat.le_refl _) p).block g (lt_of_block h)).trans h
theorem own_alloc {w : World} {e : TypeId} {base c : Nat} {a : Option Addr} {l : List Nat} (h : Own w e base a c l) (p : Obj) : Own (w.alloc p) e base a c l := h.grow ((Below.refl _ _).alloc (Nat.le_refl _) p)
theorem bel_alloc {B : Nat} {w w' : World} (h : Below B w w') (hB : B ≤ w.heap.size) (p : Obj) : Below B w (w'.alloc p) := h.alloc (Nat.le_trans hB h.size) p
/-- one more at the front of a chain -/
theorem Chain.cons {w : World} {base mid c : Nat} {a : Option Addr} {d : D} {xs : List Arg} (h : Own w 82 base a c (words d.m)) (hm : base ≤ mid) (hlt : ∀ ad, a = some ad → ad.block < mid) (hc : Chain w mid xs) : Chain w base (argOf d a c :: xs) := ⟨h, mid, hm, hlt, hc⟩
theorem cel_apart {W : World} {base c g : Nat} {a : Option Addr} {l : List Nat} {v0 v1 v2 : Value} (h : Cel W g v0 v1 v2) (ho : Own W 82 base a c l) (ad : Addr) (ha : a = some ad) : ad.block ≠ g := by
  intro e
  rcases ho with ⟨h1, _⟩ | ⟨g', t, h0, h1, h2, h3, h4⟩
  · rw [h1] at ha; cases ha
  · rw [h0] at ha; cases ha
    have h5 : W.heap[g']? = _ := h4
    have h6 : W.heap[g]? = _ := h
    simp only at e
    subst e
    rw [h6] at h5
    injection h5 with h7
    injection h7 with h8 h9
    exact absurd h9 (by decide)
end Go.Proofs.YthdbapibbdkclaaDoor
namespace Go.Proofs.YthdbapibbdkclaaDoor
open Go.RowKit
set_option linter.unusedVariables false
set_option linter.unusedSimpArgs false

theorem formF_zero {s : Bool} {n : Nat} {e : Int} {d : D} (h : formF s n e = some d) (h0 : d.m = 0) : d = D.zero := by
  unfold formF at h
  split at h
  · cases h; rfl
  · next hn =>
    split at h
    · cases h
    · cases h
      obtain ⟨m, h1, h2⟩ := low_spec hn
      have h3 : n / 2 ^ low n = m := by
        conv => lhs; arg 1; rw [h1]
        exact Nat.mul_div_cancel_left _ (Nat.two_pow_pos _)
      dsimp only at h0
      rw [h3] at h0; subst h0; simp at h2
theorem formF_nought (s t : Bool) (e f : Int) : formF s 0 e = formF t 0 f := by unfold formF; rw [if_pos rfl, if_pos rfl]
theorem addD_comm {p q : D} (hp : p.m = 0 → p = D.zero) (hq : q.m = 0 → q = D.zero) : addD p q = addD q p := by
  unfold addD
  by_cases h1 : p.m = 0
  · by_cases h2 : q.m = 0
    · rw [if_pos h1, if_pos h2, hp h1, hq h2]
    · rw [if_pos h1, if_neg h2, if_pos h1]
  · by_cases h2 : q.m = 0
    · rw [if_neg h1, if_pos h2, if_pos h2]
    · rw [if_neg h1, if_neg h2, if_neg h2, if_neg h1, Int.min_comm q.exp p.exp]
      generalize p.m * 2 ^ (p.exp - min p.exp q.exp).toNat = A
      generalize q.m * 2 ^ (q.exp - min p.exp q.exp).toNat = B
      by_cases h3 : 8192 < (words A).length ∨ 8192 < (words B).length
      · rw [if_pos h3, if_pos (show 8192 < (words B).length ∨ 8192 < (words A).length by omega)]
      · rw [if_neg h3, if_neg (show ¬ (8192 < (words B).length ∨ 8192 < (words A).length) by omega)]
        by_cases h4 : p.neg = q.neg
        · rw [if_pos h4, if_pos h4.symm, h4, Nat.add_comm]
        · rw [if_neg h4, if_neg (show ¬ q.neg = p.neg from fun h => h4 h.symm)]
          rcases Nat.lt_trichotomy A B with h5 | h5 | h5
          · rw [if_pos h5, if_neg (show ¬ B < A by omega)]
          · subst h5
            rw [if_neg (show ¬ A < A by omega), if_neg (show ¬ A < A by omega), Nat.sub_self]; exact formF_nought _ _ _ _
          · rw [if_neg (show ¬ A < B by omega), if_pos h5]
theorem addF_comm (s : Bool) (n : Nat) (e : Int) (t : Bool) (m : Nat) (f : Int) : addO (formF s n e) (formF t m f) = addO (formF t m f) (formF s n e) := by
  cases h1 : formF s n e with
  | none => cases formF t m f <;> rfl
  | some p =>
    cases h2 : formF t m f with
    | none => rfl
    | some q => exact addD_comm (formF_zero h1) (formF_zero h2)
theorem mulF_comm (s : Bool) (n : Nat) (e : Int) (t : Bool) (m : Nat) (f : Int) : mulO (formF s n e) (formF t m f) = mulO (formF t m f) (formF s n e) := by
  cases h1 : formF s n e with
  | none => cases formF t m f <;> rfl
  | some p =>
    cases h2 : formF t m f with
    | none => rfl
    | some q =>
      show mulD p q = mulD q p
      unfold mulD
      rw [Nat.mul_comm, Int.add_comm, show (p.neg != q.neg) = (q.neg != p.neg) by cases p.neg <;> cases q.neg <;> rfl]
theorem addD_ok {p q : D} (hp : p.Ok) (hq : q.Ok) : (outO (addD p q)).Ok := by
  unfold addD
  split
  · exact hq
  · split
    · exact hp
    · split
      · exact D.zero_ok
      · split
        · exact outF_ok _ _ _
        · split
          · exact outF_ok _ _ _
          · exact outF_ok _ _ _
theorem addO_ok (s : Bool) (n : Nat) (e : Int) (t : Bool) (m : Nat) (f : Int) : (outO (addO (formF s n e) (formF t m f))).Ok := by
  cases h1 : formF s n e with
  | none => exact D.zero_ok
  | some p =>
    cases h2 : formF t m f with
    | none => exact D.zero_ok
    | some q => exact addD_ok (formF_ok h1) (formF_ok h2)
theorem mulO_ok (s : Bool) (n : Nat) (e : Int) (t : Bool) (m : Nat) (f : Int) : (outO (mulO (formF s n e) (formF t m f))).Ok := by
  cases h1 : formF s n e with
  | none => exact D.zero_ok
  | some p =>
    cases h2 : formF t m f with
    | none => exact D.zero_ok
    | some q => exact outF_ok _ _ _
theorem lent_ok {w W : World} {s : Bool} {a : Option Addr} {l : List Nat} {c g : Nat} {e : Int} (hx : Arg.Ok w ⟨s, a, l, c, e⟩) (h : Blk W 82 g (l ++ [71, 72])) : Arg.Ok W ⟨s, some ⟨g, 0, none⟩, l, l.length + 2, e⟩ :=
  ⟨sl_lent h hx.sl.w32, hx.len, hx.lo, hx.hi⟩
theorem three_alloc_1 (w : World) (o : Obj) (vs us : Array Value) (T U : TypeId) : (((w.alloc o).alloc (.cells vs T)).alloc (.cells us U)).heap[w.heap.size + 1]? = some (.cells vs T (0, 0)) := by
  have := two_alloc_0 (w.alloc o) vs us T U
  rwa [World.size_alloc] at this
theorem three_alloc_2 (w : World) (o : Obj) (vs us : Array Value) (T U : TypeId) : (((w.alloc o).alloc (.cells vs T)).alloc (.cells us U)).heap[w.heap.size + 1 + 1]? = some (.cells us U (0, 0)) := by
  have := two_alloc_1 (w.alloc o) vs us T U
  rwa [World.size_alloc] at this
end Go.Proofs.YthdbapibbdkclaaDoor
