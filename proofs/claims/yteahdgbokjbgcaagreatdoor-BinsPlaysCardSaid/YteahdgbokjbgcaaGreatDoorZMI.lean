/- Contracts of package steelyardref02: Book.Take, Book.Owned. Contract of steelyardref02's Book.Owned. Contract of steelyardlaw03.took. What the laws of layer 3 share. Sums and products of forms commute; what the walks of the laws of layer 3 share. No statement of the seat is proved here. -/
import Derived.Test.YteahdgbokjbgcaaGreatDoorProg
import Derived.Test.YteahdgbokjbgcaaGreatDoorZMR
import Derived.Test.YteahdgbokjbgcaaGreatDoorZMH
namespace Go.Proofs.YteahdgbokjbgcaaGreatDoor
open Go.RowKit
set_option linter.unusedVariables false
set_option linter.unusedSimpArgs false

theorem infoN : (Tryz.prog.info? 44).map (fun i => (i.zero, i.size, i.bytes)) = some (some (.slice none 0 0), 1, 24) := by kernel_rfl

/-- a Book at a block, its list of slices in a row of its own -/
def BookAt (w : World) (base B : Nat) (v : Value) (k : Nat) (xs : List Value) : Prop :=
  w.heap[B]? = some (.cells #[v] 41 (0, 0)) ∧ w.ownsRow base 44 1 v k xs

theorem row_ne' {w : World} {base B : Nat} {v : Value} {k : Nat} {xs : List Value} {cs : Array Value} {T : TypeId} {fr : Nat × Nat} (h1 : w.heap[B]? = some (.cells cs T fr)) (hT : T ≠ 44) (h2 : w.ownsRow base 44 1 v k xs) : v.ownBlock ≠ some B := by
  rcases h2.2 with ⟨rfl, _⟩ | ⟨g, cap, cur, rfl, _, hg, _⟩
  · simp [Value.ownBlock]
  · simp [Value.ownBlock]
    rintro rfl
    rw [h1] at hg; simp at hg; exact hT hg.2.1
theorem row_ne {w : World} {base B : Nat} {v : Value} {k : Nat} {xs : List Value} (h : BookAt w base B v k xs) : v.ownBlock ≠ some B := row_ne' h.1 (by decide) h.2

set_option maxHeartbeats 1000000 in
set_option maxRecDepth 10000 in
theorem take_any (base B : Nat) (v : Value) (k : Nat) (xs : List Value) (a : Option Addr) (n c : Nat) (w : World) (hk : k ≤ 1000000) (hbase : base ≤ w.heap.size) (hB : BookAt w base B v k xs) :
    Calls Tryz.prog 19 #[.pointer (some ⟨B, 0, none⟩), .slice a n c] w fun e w' => e = .returned (.tuple #[]) ∧ ∃ v', BookAt w' base B v' (k + 1) (xs ++ [.slice a n c]) ∧
      (∀ j, j < w.heap.size → j ≠ B → some j ≠ v.ownBlock → w'.heap[j]? = w.heap[j]?) ∧ w'.os = w.os ∧ w'.tape = w.tape ∧ w'.output = w.output ∧ w.heap.size ≤ w'.heap.size := by
  obtain ⟨i0, hi, hz0, hz1, hz2⟩ := info_parts infoN
  have hc := cell_of_one hB.1
  have hBl := lt_of_block hB.1
  have hne := Lib.hid (row_ne hB)
  have HB := Lib.hid hB; clear hB
  have hA := Lib.hid (HB.out.2.alloc (.cells #[.slice a n c] 44))
  go_enter Tryz.func19, Tryz.ntmps19
  go_wp2_with (first | (at_builtin; refine wpList_append_own _ rfl _ _ 39 rfl base 44 i0 (.slice none 0 0) 1 24 Tryz.underlying39 hi hz0 hz1 hz2 rfl (by decide) v k xs rfl hA.out ⟨w.heap.size, 0, none⟩ 1 1 [.slice a n c] rfl rfl ?_ ?_ (by unfold maxLen; omega) (by omega) (by simp; omega) ?_))
  · intro j u hj
    match j, hj with
    | 0, hj => simp at hj; subst hj; simp [Addr.add]
  · intro u hu; simp at hu; subst hu; rfl
  · intro v' w1 hown hg _
    have hB1 : w1.heap[B]? = some (.cells #[v] 41 (0, 0)) := by
      rw [hg.block B (by simp; omega) (by intro e; exact hne.out e.symm)]
      rw [World.alloc, Array.getElem?_push, if_neg (by omega)]; exact HB.out.1
    have hc1 := cell_of_one hB1
    have hf1 := free_of_one hB1
    have HB1 := Lib.hid hB1; clear hB1 hc
    obtain ⟨g, cap, rfl⟩ : ∃ g cap, v' = .slice (some ⟨g, 0, none⟩) (k + 1) cap := by
      rcases hown.2 with ⟨_, h⟩ | ⟨g, cap, _, h, _⟩
      · omega
      · exact ⟨g, cap, h⟩
    have HO := Lib.hid hown; clear hown
    go_wp2
    go_end0
    refine ⟨rfl, _, ⟨one_setCell HB1.out, ?_⟩, ?_, hg.os, hg.tape, hg.output, ?_⟩
    · exact ownsRow_setCell_other HO.out (row_ne' HB1.out (by decide) HO.out) _
    · intro j hj h1 h2
      rw [heap_setCell_other _ _ _ _ h1, hg.block j (by simp; omega) h2, World.alloc, Array.getElem?_push, if_neg (by omega)]
    · have := hg.size; simp at this ⊢; omega
end Go.Proofs.YteahdgbokjbgcaaGreatDoor
namespace Go.Proofs.YteahdgbokjbgcaaGreatDoor
open Go.RowKit
set_option linter.unusedVariables false
set_option linter.unusedSimpArgs false

abbrev Sv := Option Addr × Nat × Nat
def Sv.val (e : Sv) : Value := .slice e.1 e.2.1 e.2.2
/-- a slice whose first m words are a mark -/
def Ent (w : World) (base : Nat) (e : Sv) (m x : Nat) : Prop :=
  (e.1 = none ∧ e.2.1 = 0 ∧ e.2.2 = 0) ∨ ∃ g t, e.1 = some ⟨g, 0, none⟩ ∧ base ≤ g ∧ e.2.1 ≤ e.2.2 ∧ e.2.2 ≤ (List.replicate m x ++ t).length ∧ Blk w 118 g (List.replicate m x ++ t)
def Apart (es : List Sv) : Prop := ∀ (i j : Nat) (e f : Sv) (g h : Addr), i ≠ j → es[i]? = some e → es[j]? = some f → e.1 = some g → f.1 = some h → g.block ≠ h.block
def EntAll (w : World) (base : Nat) (es : List Sv) (f : Nat → Nat → Nat) : Prop := ∀ j e, es[j]? = some e → Ent w base e (f j e.2.1) (1000 + j)

theorem BookAt.set {w : World} {base B g i : Nat} {v : Value} {k : Nat} {xs : List Value} {l : List Nat} (h : BookAt w base B v k xs) (hb : Blk w 118 g l) (u : Value) : BookAt (w.setCell ⟨g, i, none⟩ u) base B v k xs := by
  have h1 : g ≠ B := by
    rintro rfl
    have := h.1; unfold Blk at hb; rw [hb] at this; simp at this
  refine ⟨by rw [heap_setCell_other _ _ _ _ (by simpa using fun e => h1 e.symm)]; exact h.1, ownsRow_setCell_other h.2 (row_ne' (B := g) (show w.heap[g]? = some _ from hb) (by decide) h.2) _⟩

theorem Ent.own {w : World} {base : Nat} {e : Sv} {x : Nat} (h : Ent w base e e.2.1 x) : Own w 118 base e.1 e.2.2 (List.replicate e.2.1 x) := by
  rcases h with ⟨h1, h2, h3⟩ | ⟨g, t, h1, h2, h3, h4, h5⟩
  · rw [h2]; exact .inl ⟨h1, h3, rfl⟩
  · exact .inr ⟨g, t, h1, h2, by simpa using h3, h4, h5⟩
theorem Ent.start {w : World} {base c : Nat} {a : Option Addr} {l : List Nat} (x : Nat) (h : Own w 118 base a c l) : Ent w base (a, l.length, c) 0 x := by
  rcases h with ⟨h1, h2, h3⟩ | ⟨g, t, h1, h2, h3, h4, h5⟩
  · exact .inl ⟨h1, by rw [h3]; rfl, h2⟩
  · exact .inr ⟨g, l ++ t, h1, h2, h3, by simpa using h4, by simpa using h5⟩
theorem Ent.other {w w' : World} {base m x : Nat} {e : Sv} (h : Ent w base e m x) (hk : ∀ g, e.1 = some g → w'.heap[g.block]? = w.heap[g.block]?) : Ent w' base e m x := by
  rcases h with h | ⟨g, t, h1, h2, h3, h4, h5⟩
  · exact .inl h
  · exact .inr ⟨g, t, h1, h2, h3, h4, by unfold Blk; rw [hk _ h1]; exact h5⟩

theorem EntAll.step {w : World} {base : Nat} {es : List Sv} {f f' : Nat → Nat → Nat} (hD : Apart es) (h : EntAll w base es f) {i : Nat} {e : Sv} {g m : Nat} (he : es[i]? = some e) (hg : e.1 = some ⟨g, 0, none⟩) (hf : f i e.2.1 = m) (hm : m < e.2.1)
    (hf' : f' i e.2.1 = m + 1) (hff : ∀ j n, j ≠ i → f' j n = f j n) : EntAll (w.setCell ⟨g, m, none⟩ (.int .u32 ((1000 + i : Nat) : Int))) base es f' := by
  intro j e' he'
  by_cases hj : j = i
  · subst hj
    rw [he] at he'; cases he'
    rw [hf']
    have := h j e he
    rw [hf] at this
    rcases this with ⟨h1, _⟩ | ⟨g', t, h1, h2, h3, h4, h5⟩
    · rw [h1] at hg; cases hg
    · rw [hg] at h1; cases h1
      obtain ⟨y, t', rfl⟩ : ∃ y t', t = y :: t' := by
        cases t with
        | nil => simp at h4; omega
        | cons y t' => exact ⟨y, t', rfl⟩
      refine .inr ⟨g, t', hg, h2, h3, by simp at h4 ⊢; omega, ?_⟩
      have := h5.midPush (i := m) (by simp) (1000 + j) (v := ((1000 + j : Nat) : Int)) rfl
      rw [← List.replicate_succ'] at this
      exact this
  · rw [hff j _ hj]
    refine (h j e' he').other fun g' hg' => ?_
    rw [heap_setCell_other _ _ _ _ (by simpa using (fun e0 => hD i j e e' _ _ (fun q => hj q.symm) he he' hg hg' (by simpa using e0.symm)))]

theorem EntAll.cell {w : World} {base : Nat} {es : List Sv} {f : Nat → Nat → Nat} (h : EntAll w base es f) {i : Nat} {e : Sv} {m : Nat} (he : es[i]? = some e) (hf : f i e.2.1 = m) (hm : m < e.2.1) :
    ∃ g y l, e.1 = some ⟨g, 0, none⟩ ∧ base ≤ g ∧ Blk w 118 g l ∧ w.cell? ⟨g, m, none⟩ = some (.int .u32 ((y : Nat) : Int)) ∧ w.frozen? ⟨g, m, none⟩ = false := by
  have := h i e he
  rw [hf] at this
  rcases this with ⟨h1, h2, _⟩ | ⟨g, t, h1, h2, h3, h4, h5⟩
  · omega
  · obtain ⟨y, t', rfl⟩ : ∃ y t', t = y :: t' := by
      cases t with
      | nil => simp at h4; omega
      | cons y t' => exact ⟨y, t', rfl⟩
    exact ⟨g, y, _, h1, h2, h5, h5.midCell (by simp), h5.frozen _⟩

/-- the first loop's law: what is done with a Book's slices up to place i, of the i-th its first k words -/
def doneTo (i k : Nat) : Nat → Nat → Nat := fun j n => if j < i then n else if j = i then k else 0

theorem book_cells {w : World} {base B : Nat} {v : Value} {es : List Sv} (h : BookAt w base B v es.length (es.map Sv.val)) {i : Nat} {e : Sv} (he : es[i]? = some e) :
    ∃ R cap, v = .slice (some ⟨R, 0, none⟩) es.length cap ∧ w.cell? ⟨R, i, none⟩ = some (.slice e.1 e.2.1 e.2.2) := by
  have hi := (List.getElem?_eq_some_iff.1 he).1
  rcases h.2.2 with ⟨_, h0⟩ | ⟨R, cap, cur, rfl, _⟩
  · omega
  · refine ⟨R, cap, rfl, ?_⟩
    rw [h.2.cellAt i (by omega), List.getElem?_map, he]; rfl

/-- a slice that reads as a mark all over -/
def En (w : World) (base : Nat) (e : Sv) (x : Nat) : Prop := e.2.1 = 0 ∨ ∃ g t, e.1 = some ⟨g, 0, none⟩ ∧ base ≤ g ∧ Blk w 118 g (List.replicate e.2.1 x ++ t)
theorem En.of {w : World} {base c : Nat} {a : Option Addr} {n x : Nat} (h : Own w 118 base a c (List.replicate n x)) : En w base (a, n, c) x := by
  rcases h with ⟨h1, h2, h3⟩ | ⟨g, t, h1, h2, h3, h4, h5⟩
  · left; have := congrArg List.length h3; simpa using this
  · exact .inr ⟨g, t, h1, h2, h5⟩
theorem En.other {w w' : World} {base x : Nat} {e : Sv} (h : En w base e x) (hk : ∀ g l, e.1 = some g → Blk w 118 g.block l → w'.heap[g.block]? = w.heap[g.block]?) : En w' base e x := by
  rcases h with h | ⟨g, t, h1, h2, h5⟩
  · exact .inl h
  · exact .inr ⟨g, t, h1, h2, by unfold Blk; rw [hk _ _ h1 h5]; exact h5⟩
theorem En.cell {w : World} {base x : Nat} {e : Sv} (h : En w base e x) {m : Nat} (hm : m < e.2.1) : ∃ g, e.1 = some ⟨g, 0, none⟩ ∧ w.cell? ⟨g, m, none⟩ = some (.int .u32 ((x : Nat) : Int)) := by
  rcases h with h | ⟨g, t, h1, h2, h5⟩
  · omega
  · refine ⟨g, h1, h5.cell ?_⟩
    rw [List.getElem?_append_left (by simpa using hm)]; simp [hm]

/-- behind an append to a row of slices the words stand -/
theorem row_keeps {w w1 : World} {o : Obj} {b2 k g : Nat} {v : Value} {xs : List Value} {cs : Array Value} {T : TypeId} {fr : Nat × Nat} (hg : w.heap[g]? = some (.cells cs T fr)) (hT : T ≠ 44) (hr : w.ownsRow b2 44 1 v k xs) (hk : (w.alloc o).grownBy w1 v.ownBlock) : w1.heap[g]? = w.heap[g]? := by
  have hlt := (Array.getElem?_eq_some_iff.1 hg).1
  rw [hk.block g (by simp; omega) (fun e => row_ne' hg hT hr e.symm), World.alloc, Array.getElem?_push, if_neg (by omega)]

theorem Own.row {w w1 : World} {o : Obj} {b2 k base c : Nat} {v : Value} {xs : List Value} {a : Option Addr} {l : List Nat} (h : Own w 118 base a c l) (hr : w.ownsRow b2 44 1 v k xs) (hk : (w.alloc o).grownBy w1 v.ownBlock) : Own w1 118 base a c l := by
  rcases h with h | ⟨g, t, h1, h2, h3, h4, h5⟩
  · exact .inl h
  · exact .inr ⟨g, t, h1, h2, h3, h4, by unfold Blk; rw [row_keeps (g := g) h5 (by decide) hr hk]; exact h5⟩
theorem Ent.row {w w1 : World} {o : Obj} {b2 k base m x : Nat} {v : Value} {xs : List Value} {e : Sv} (h : Ent w base e m x) (hr : w.ownsRow b2 44 1 v k xs) (hk : (w.alloc o).grownBy w1 v.ownBlock) : Ent w1 base e m x := by
  rcases h with h | ⟨g, t, h1, h2, h3, h4, h5⟩
  · exact .inl h
  · exact .inr ⟨g, t, h1, h2, h3, h4, by unfold Blk; rw [row_keeps (g := g) h5 (by decide) hr hk]; exact h5⟩
theorem En.row {w w1 : World} {o : Obj} {b2 k base x : Nat} {v : Value} {xs : List Value} {e : Sv} (h : En w base e x) (hr : w.ownsRow b2 44 1 v k xs) (hk : (w.alloc o).grownBy w1 v.ownBlock) : En w1 base e x :=
  h.other fun g l _ hb => row_keeps (g := g.block) hb (by decide) hr hk
/-- a Book behind an append to another row -/
theorem BookAt.row {w w1 : World} {o : Obj} {b2 k base B n : Nat} {v va : Value} {xs ys : List Value} (h : BookAt w base B v k xs) (hr : w.ownsRow b2 44 1 va n ys) (hk : (w.alloc o).grownBy w1 va.ownBlock) (hne : ∀ g, v.ownBlock = some g → g < b2) : BookAt w1 base B v k xs := by
  refine ⟨by rw [row_keeps (g := B) h.1 (by decide) hr hk]; exact h.1, (h.2.alloc o).kept hk ?_⟩
  cases hv : v.ownBlock with
  | none => exact .inl rfl
  | some g =>
    refine .inr fun e => ?_
    have := hr.lt g e.symm
    have := hne g hv
    omega
/-- a Book behind an append to words -/
theorem BookAt.words {w w1 : World} {o : Obj} {k base B : Nat} {v : Value} {xs : List Value} {a : Option Addr} {c b3 : Nat} {l : List Nat} (h : BookAt w base B v k xs) (hk : (w.alloc o).grownBy w1 (a.map (·.block))) (ho : Own w 118 b3 a c l) : BookAt w1 base B v k xs := by
  have hB := lt_of_block h.1
  rcases ho with ⟨rfl, _⟩ | ⟨g, t, rfl, _, _, _, h5⟩
  · refine ⟨?_, (h.2.alloc o).kept hk (by cases v.ownBlock <;> simp)⟩
    rw [hk.block B (by simp; omega) (by simp), World.alloc, Array.getElem?_push, if_neg (by omega)]; exact h.1
  · have hne : g ≠ B := by
      rintro rfl
      have := h.1; unfold Blk at h5; rw [h5] at this; simp at this
    refine ⟨?_, (h.2.alloc o).kept hk (.inr (row_ne' (B := g) (show w.heap[g]? = some _ from h5) (by decide) h.2))⟩
    rw [hk.block B (by simp; omega) (by simpa using fun e => hne e.symm), World.alloc, Array.getElem?_push, if_neg (by omega)]; exact h.1
/-- a row behind an append to words -/
theorem row_words {w w1 : World} {o : Obj} {k b2 : Nat} {v : Value} {xs : List Value} {a : Option Addr} {c b3 : Nat} {l : List Nat} (h : w.ownsRow b2 44 1 v k xs) (hk : (w.alloc o).grownBy w1 (a.map (·.block))) (ho : Own w 118 b3 a c l) : w1.ownsRow b2 44 1 v k xs := by
  rcases ho with ⟨rfl, _⟩ | ⟨g, t, rfl, _, _, _, h5⟩
  · exact (h.alloc o).kept hk (by cases v.ownBlock <;> simp)
  · exact (h.alloc o).kept hk (.inr (row_ne' (B := g) (show w.heap[g]? = some _ from h5) (by decide) h))
theorem Ent.words {w w1 : World} {o : Obj} {base m x : Nat} {e : Sv} {a : Option Addr} (h : Ent w base e m x) (hk : (w.alloc o).grownBy w1 (a.map (·.block))) (hne : ∀ g h, e.1 = some g → a = some h → g.block ≠ h.block) : Ent w1 base e m x := by
  rcases h with h | ⟨g, t, h1, h2, h3, h4, h5⟩
  · exact .inl h
  · have hlt := h5.lt
    refine .inr ⟨g, t, h1, h2, h3, h4, ?_⟩
    unfold Blk
    rw [hk.block g (by simp; omega) ?_, World.alloc, Array.getElem?_push, if_neg (by omega)]
    · exact h5
    · cases a with
      | none => simp
      | some gx => simpa using hne _ gx h1 rfl
theorem below_grown {B b3 c : Nat} {w0 w w1 : World} {o : Obj} {a : Option Addr} {l : List Nat} (h : Below B w0 w) (hB : B ≤ w.heap.size) (hk : (w.alloc o).grownBy w1 (a.map (·.block))) (ho : Own w 118 b3 a c l) (hb3 : B ≤ b3) : Below B w0 w1 := by
  refine h.trans (((Below.refl _ _).alloc hB _).trans ⟨hk.os, hk.tape, hk.output, hk.size, fun j hj => hk.block j (by simp; omega) ?_⟩)
  rcases ho with ⟨rfl, _⟩ | ⟨g, t, rfl, h1, _⟩
  · simp
  · simp; omega

theorem Ent.lt {w : World} {base m x : Nat} {e : Sv} (h : Ent w base e m x) {g : Addr} (hg : e.1 = some g) : g.block < w.heap.size := by
  rcases h with ⟨h, _⟩ | ⟨g', t, h1, h2, h3, h4, h5⟩
  · rw [h] at hg; cases hg
  · rw [h1] at hg; cases hg; exact h5.lt
theorem En.lt {w : World} {base x : Nat} {e : Sv} (h : En w base e x) : e.2.1 = 0 ∨ ∀ g, e.1 = some g → g.block < w.heap.size := by
  rcases h with h | ⟨g', t, h1, h2, h5⟩
  · exact .inl h
  · exact .inr fun g hg => by rw [h1] at hg; cases hg; exact h5.lt

theorem En.append {w w2 : World} {base c c' n : Nat} {a a' : Option Addr} {x x' : Nat} {e : Sv} {o : Obj} (h : En w base e x') (ho : Own w 118 base a c (List.replicate n x)) (ho2 : Own w2 118 base a' c' (List.replicate n x ++ [x]))
    (hg : (w.alloc o).grownBy w2 (a.map (·.block))) (hq : a' = a ∨ ((w.alloc o).grownBy w2 none ∧ ∃ g, a' = some ⟨g, 0, none⟩ ∧ (w.alloc o).heap.size ≤ g)) (hn : (∀ g gx, e.1 = some g → a = some gx → g.block ≠ gx.block) ∨ e.2.1 ≤ n) : En w2 base e x' := by
  rcases h with h | ⟨g, t, h1, h2, h5⟩
  · exact .inl h
  · have hlt := h5.lt
    have keep : w2.heap[g]? = w.heap[g]? → En w2 base e x' := fun hh => .inr ⟨g, t, h1, h2, by unfold Blk; rw [hh]; exact h5⟩
    have hall : (w.alloc o).heap[g]? = w.heap[g]? := by rw [World.alloc, Array.getElem?_push, if_neg (by omega)]
    by_cases hb : a.map (·.block) = some g
    · rcases hq with rfl | ⟨hq, _⟩
      · have hn' : e.2.1 ≤ n := by
          rcases hn with hn | hn
          · cases a' with
            | none => simp at hb
            | some gx => simp at hb; exact absurd hb.symm (hn _ _ h1 rfl)
          · exact hn
        rcases ho with ⟨h6, _⟩ | ⟨g1, t1, h6, _, _, _, h7⟩
        · rw [h6] at hb; simp at hb
        · rw [h6] at hb; simp at hb; subst hb
          rcases ho2 with ⟨h8, _⟩ | ⟨g2, t2, h8, _, _, _, h9⟩
          · rw [h6] at h8; cases h8
          · rw [h6] at h8; cases h8
            have e1 : List.replicate e.2.1 x' ++ t = List.replicate n x ++ t1 := by
              unfold Blk at h5 h7
              rw [h5] at h7
              simp only [Option.some.injEq, Obj.cells.injEq, and_true] at h7
              have h7' := congrArg Array.toList h7
              simp only [List.map_append] at h7'
              have hinj : ∀ (p q : List Nat), p.map (fun x => Value.int .u32 ((x : Nat) : Int)) = q.map (fun x => Value.int .u32 ((x : Nat) : Int)) → p = q := by
                intro p
                induction p with
                | nil => intro q hq; cases q with | nil => rfl | cons _ _ => simp at hq
                | cons y p ih => intro q hq; cases q with | nil => simp at hq | cons z q => simp only [List.map_cons, List.cons.injEq, Value.int.injEq, true_and] at hq; obtain ⟨h1, h2⟩ := hq; rw [show y = z by omega, ih q h2]
              exact hinj _ _ (by simpa using h7')
            have e2 : List.replicate e.2.1 x' = (List.replicate n x).take e.2.1 := by
              have := congrArg (List.take e.2.1) e1
              rw [List.take_left' (by simp), List.take_append_of_le_length (by simpa using hn')] at this
              exact this
            refine .inr ⟨_, (List.replicate n x).drop e.2.1 ++ ([x] ++ t2), h1, h2, ?_⟩
            rw [e2, ← List.append_assoc, List.take_append_drop, ← List.append_assoc]; exact h9
      · exact keep (by rw [hq.block g (by simp; omega) (by simp), hall])
    · exact keep (by rw [hg.block g (by simp; omega) (fun e => hb e.symm), hall])

/-- the elder memory stands below a block, and at blocks that are kept -/
structure BK (K : Nat → Prop) (B : Nat) (w w' : World) : Prop where
  b : Below B w w'
  k : ∀ j, K j → w'.heap[j]? = w.heap[j]?
theorem BK.refl (K : Nat → Prop) (B : Nat) (w : World) : BK K B w w := ⟨Below.refl _ _, fun _ _ => rfl⟩
theorem BK.set {K : Nat → Prop} {B g i : Nat} {w w' : World} (h : BK K B w w') (hg : B ≤ g) (hk : ¬ K g) (u : Value) : BK K B w (w'.setCell ⟨g, i, none⟩ u) :=
  ⟨h.b.setCell (p := ⟨g, i, none⟩) hg u, fun j hj => (heap_setCell_other _ _ _ _ (fun e => hk (by have e' : j = g := e; rw [← e']; exact hj))).trans (h.k j hj)⟩
theorem BK.grow {K : Nat → Prop} {B : Nat} {w w' w1 : World} {o : Obj} {r : Option Nat} (h : BK K B w w') (hb : Below B w w1) (hk : ∀ j, K j → j < w.heap.size) (hg : (w'.alloc o).grownBy w1 r) (hr : ∀ j, r = some j → ¬ K j) : BK K B w w1 :=
  ⟨hb, fun j hj => by
    have h1 := hk j hj
    have h2 := h.b.size
    rw [hg.block j (by simp; omega) (fun e => hr j e.symm hj), World.alloc, Array.getElem?_push, if_neg (by omega)]
    exact h.k j hj⟩

set_option maxHeartbeats 4000000 in
set_option maxRecDepth 10000 in
theorem owned_any (K : Nat → Prop) (base B : Nat) (v : Value) (es : List Sv) (w : World) (hKw : ∀ j, K j → j < w.heap.size) (hKe : ∀ (e : Sv), e ∈ es → ∀ g, e.1 = some g → ¬ K g.block) (hlen : es.length ≤ 100000) (hbase : base ≤ w.heap.size) (hB : BookAt w base B v es.length (es.map Sv.val)) (hD : Apart es) (hE : EntAll w base es (doneTo 0 0)) (hN : ∀ (j : Nat) (e : Sv), es[j]? = some e → e.2.1 ≤ 1000000) :
    Calls Tryz.prog 20 #[.pointer (some ⟨B, 0, none⟩)] w fun e w' => e = .returned (.bool true) ∧ BK K base w w' := by
  obtain ⟨i0, hi, hz0, hz1, hz2⟩ := info_parts infoW
  obtain ⟨n0, hni, hn0, hn1, hn2⟩ := info_parts infoN
  have HD := Lib.hid hD; clear hD
  have HKW := Lib.hid hKw; have HKE := Lib.hid hKe; clear hKw hKe
  have HN := Lib.hid hN; clear hN
  obtain ⟨a0, c0, hv⟩ : ∃ a0 c0, v = .slice a0 es.length c0 := by
    rcases hB.2.2 with ⟨rfl, h0⟩ | ⟨R, cap, cur, rfl, _⟩
    · exact ⟨none, 0, by rw [h0]⟩
    · exact ⟨_, _, rfl⟩
  subst hv
  go_enter Tryz.func20, Tryz.ntmps20
  go_wp2
  go_loopw [3] (fun s wr => ∃ i : Nat, i ≤ es.length ∧ s = .int .i64 i ∧ Hid (BookAt wr base B (.slice a0 es.length c0) es.length (es.map Sv.val)) ∧ Hid (EntAll wr base es (doneTo i 0)) ∧ BK K base w wr) (fun s _ => es.length - (intOf s).toNat)
  case atStart => exact ⟨0, Nat.zero_le _, rfl, hB, hE, BK.refl _ _ _⟩
  case round =>
    obtain ⟨i, hi2, rfl, HB, HE, hb⟩ := hrel
    have hcB := cell_of_one HB.out.1
    by_cases hlt : i < es.length
    · obtain ⟨⟨ea, en, ec⟩, he⟩ : ∃ e, es[i]? = some e := ⟨_, List.getElem?_eq_getElem hlt⟩
      have hen := HN.out i _ he
      have HEI := Lib.hid he; clear he
      dsimp only at hen
      go_wp2
      go_loopw [4] (fun s wr => ∃ k : Nat, k ≤ en ∧ s = .int .i64 k ∧ Hid (BookAt wr base B (.slice a0 es.length c0) es.length (es.map Sv.val)) ∧ Hid (EntAll wr base es (doneTo i k)) ∧ BK K base w wr) (fun s _ => en - (intOf s).toNat)
      case atStart => exact ⟨0, Nat.zero_le _, rfl, HB, HE, hb⟩
      case round =>
        obtain ⟨k, hk, rfl, HB2, HE2, hb2⟩ := hrel
        have hcB2 := cell_of_one HB2.out.1
        obtain ⟨R, cap, hR, hcR⟩ := book_cells HB2.out HEI.out
        simp only [Value.slice.injEq, true_and] at hR
        obtain ⟨rfl, rfl⟩ := hR
        dsimp only at hcR
        clear hcB
        by_cases hkl : k < en
        · obtain ⟨g, y, l, hg, hgb, hbl, hcell, hfr⟩ := HE2.out.cell (m := k) HEI.out (by simp [doneTo]) hkl
          dsimp only at hg
          subst hg
          have HBL := Lib.hid hbl; clear hbl
          have hst := HE2.out.step (f' := doneTo i (k + 1)) HD.out HEI.out rfl (by simp [doneTo]) hkl (by simp [doneTo]) (by intro j n hj; simp [doneTo, hj])
          have HST := Lib.hid hst; clear hst
          go_wp2
          have hBS := HB2.out.set (i := k) HBL.out (.int .u32 ((1000 + i : Nat) : Int))
          have ev : (1000 + (i : Int)) = ((1000 + i : Nat) : Int) := by omega
          rw [ev]
          go_roundw
          case rel => exact ⟨k + 1, by omega, by go_num, hBS, HST.out, hb2.set hgb (HKE.out _ (List.mem_of_getElem? HEI.out) _ rfl) _⟩
          case measure => simp [intOf]; omega
        · have hk2 : k = en := by omega
          subst hk2
          go_wp2
          go_roundw
          case rel =>
            refine ⟨i + 1, by omega, by go_num, HB2, ?_, hb2⟩
            intro j e hj
            have := HE2.out j e hj
            refine cast ?_ this
            congr 1
            unfold doneTo
            by_cases h1 : j < i
            · rw [if_pos h1, if_pos (by omega)]
            · by_cases h2 : j = i
              · subst h2
                have h3 := HEI.out; rw [hj] at h3; cases h3
                simp
              · rw [if_neg h1, if_neg h2, if_neg (show ¬ j < i + 1 by omega)]; split <;> rfl
          case measure => simp [intOf]; omega
    · have hi3 : i = es.length := by omega
      subst hi3
      have hsz := hb.b.size
      obtain ⟨b2, hb2⟩ : ∃ b2, b2 = wr.heap.size := ⟨_, rfl⟩
      have ha0 : ∀ g, a0 = some g → g.block < b2 := by
        intro g hg
        have := HB.out.2.lt g.block (by simp [Value.ownBlock, hg])
        omega
      have HA0 := Lib.hid ha0; clear ha0
      have hb2l : b2 ≤ wr.heap.size := by omega
      have hbb2 : base ≤ b2 := by omega
      have hpend : ∀ (j : Nat) (e : Sv), 0 ≤ j → es[j]? = some e → Ent wr base e e.2.1 (1000 + j) := by
        intro j e _ hj
        have := HE.out j e hj
        have hj2 := (List.getElem?_eq_some_iff.1 hj).1
        unfold doneTo at this
        rwa [if_pos hj2] at this
      have HPEND := Lib.hid hpend; clear hpend
      have HSZ := Lib.hid (show w.heap.size ≤ b2 by omega)
      have HB2 := Lib.hid hb2; clear hb2
      go_wp2
      go_loopw [5, 6] (fun al s wr => ∃ (i : Nat) (aa : Option Addr) (ca : Nat) (A : List Sv), i ≤ es.length ∧ s = .int .i64 i ∧ al = .slice aa (5 * i) ca ∧ Hid (BookAt wr base B (.slice a0 es.length c0) es.length (es.map Sv.val)) ∧ BK K base w wr ∧ b2 ≤ wr.heap.size ∧
        Hid (A.length = 5 * i ∧ wr.ownsRow b2 44 1 (.slice aa (5 * i) ca) (5 * i) (A.map Sv.val) ∧ (∀ (j : Nat) (e : Sv), i ≤ j → es[j]? = some e → Ent wr base e e.2.1 (1000 + j)) ∧ (∀ (j : Nat) (e : Sv), A[j]? = some e → En wr base e (1000 + j / 5) ∧ e.2.1 ≤ 1000010) ∧
          (∀ (j l : Nat) (e f : Sv) (g h : Addr), A[j]? = some e → e.1 = some g → es[l]? = some f → i ≤ l → f.1 = some h → g.block ≠ h.block))) (fun _ s _ => es.length - (intOf s).toNat)
      case atStart => exact ⟨0, none, 0, [], Nat.zero_le _, rfl, rfl, HB, hb, hb2l, rfl, World.ownsRow_nil _ _ _ _, HPEND.out, by intro j e h; simp at h, by intro j l e f g h h1; simp at h1⟩
      case round =>
        obtain ⟨i, aa, ca, A, hi2, rfl, rfl, HB, hb, hb2l, HQ⟩ := hrel
        have hcB := cell_of_one HB.out.1
        by_cases hlt : i < es.length
        · obtain ⟨⟨ea, en, ec⟩, he⟩ : ∃ e, es[i]? = some e := ⟨_, List.getElem?_eq_getElem hlt⟩
          have hen := HN.out i _ he
          have HEI := Lib.hid he; clear he
          dsimp only at hen
          obtain ⟨R, cap, hR, hcR⟩ := book_cells HB.out HEI.out
          simp only [Value.slice.injEq, true_and] at hR
          obtain ⟨rfl, rfl⟩ := hR
          dsimp only at hcR
          go_wp2
          go_loopw [5, 7, 8] (fun al x s wr => ∃ (k : Nat) (aa : Option Addr) (ca : Nat) (A : List Sv) (ax : Option Addr) (cx : Nat), k ≤ 5 ∧ s = .int .i64 k ∧ al = .slice aa (5 * i + k) ca ∧ x = .slice ax (en + k) cx ∧ Hid (BookAt wr base B (.slice (some ⟨R, 0, none⟩) es.length c0) es.length (es.map Sv.val)) ∧ BK K base w wr ∧ b2 ≤ wr.heap.size ∧
            Hid (A.length = 5 * i + k ∧ wr.ownsRow b2 44 1 (.slice aa (5 * i + k) ca) (5 * i + k) (A.map Sv.val) ∧ (∀ (j : Nat) (e : Sv), i + 1 ≤ j → es[j]? = some e → Ent wr base e e.2.1 (1000 + j)) ∧ (∀ (j : Nat) (e : Sv), A[j]? = some e → En wr base e (1000 + j / 5) ∧ e.2.1 ≤ 1000010) ∧
              (∀ (j l : Nat) (e f : Sv) (g h : Addr), A[j]? = some e → e.1 = some g → es[l]? = some f → i + 1 ≤ l → f.1 = some h → g.block ≠ h.block)) ∧
            Hid (Own wr 118 base ax cx (List.replicate (en + k) (1000 + i)) ∧ (∀ (l : Nat) (f : Sv) (g h : Addr), ax = some g → es[l]? = some f → i + 1 ≤ l → f.1 = some h → g.block ≠ h.block) ∧
              (∀ (j : Nat) (e : Sv), A[j]? = some e → (∀ g gx, e.1 = some g → ax = some gx → g.block ≠ gx.block) ∨ e.2.1 ≤ en + k) ∧ (∀ gx, ax = some gx → ¬ K gx.block))) (fun _ _ s _ => 5 - (intOf s).toNat)
          case atStart =>
            obtain ⟨q1, q2, q3, q4, q5⟩ := HQ.out
            have hE := q3 i _ (Nat.le_refl _) HEI.out
            exact ⟨0, aa, ca, A, ea, ec, by decide, rfl, rfl, rfl, HB, hb, hb2l, ⟨q1, q2, fun j e hj => q3 j e (by omega), q4, fun j l e f g h h1 h2 h3 h4 => q5 j l e f g h h1 h2 h3 (by omega)⟩,
              hE.own, fun l f g h h1 h2 h3 h4 => HD.out i l _ f g h (by omega) HEI.out h2 h1 h4, fun j e hj => .inl fun g gx h1 h2 => q5 j i e _ g gx hj h1 HEI.out (Nat.le_refl _) h2, fun gx h => HKE.out _ (List.mem_of_getElem? HEI.out) gx h⟩
          case round =>
            obtain ⟨k, aa, ca, A, ax, cx, hk, rfl, rfl, rfl, HB3, hb3, hb3l, HQ3, HX⟩ := hrel
            clear hcR hcB hb hb2l
            by_cases hk5 : k < 5
            · obtain ⟨q1, q2, q3, q4, q5⟩ := HQ3.out
              have hA := Lib.hid (q2.alloc (.cells #[.slice ax (en + k) cx] 44))
              clear q1 q2 q3 q4 q5
              go_wp2_with (first | (at_builtin; refine wpList_append_own _ rfl _ _ 39 rfl b2 44 n0 (.slice none 0 0) 1 24 Tryz.underlying39 hni hn0 hn1 hn2 rfl (by decide) (.slice aa (5 * i + k) ca) (5 * i + k) (A.map Sv.val) rfl hA.out ⟨wr.heap.size, 0, none⟩ 1 1 [.slice ax (en + k) cx] rfl rfl ?_ ?_ (by unfold maxLen; omega) (by omega) (by simp; omega) ?_))
              · intro j u hj
                match j, hj with
                | 0, hj => simp at hj; subst hj; simp [Addr.add]
              · intro u hu; simp at hu; subst hu; rfl
              · intro v1 w1 hown hg1 _
                obtain ⟨a1, c1, rfl⟩ : ∃ a1 c1, v1 = .slice a1 (5 * i + k + 1) c1 := by
                  rcases hown.2 with ⟨_, h⟩ | ⟨g, cap, _, h, _⟩
                  · omega
                  · exact ⟨_, _, h⟩
                have HO1 := Lib.hid hown; have HG1 := Lib.hid hg1; clear hown hg1
                obtain ⟨q1, q2, q3, q4, q5⟩ := HQ3.out
                obtain ⟨x1, x2, x3, x4⟩ := HX.out
                have hX1 := x1.row q2 HG1.out
                have hbr : base ≤ wr.heap.size := by omega
                have hs1 := HG1.out.size
                simp only [World.size_alloc] at hs1
                have hb1 : Below base w w1 := by
                  refine hb3.b.trans (((Below.refl _ _).alloc hbr _).trans ⟨HG1.out.os, HG1.out.tape, HG1.out.output, HG1.out.size, fun j hj => HG1.out.block j (by simp; omega) ?_⟩)
                  intro e
                  have := q2.lt j e.symm; omega
                have hB1 := HB3.out.row q2 HG1.out (by
                  intro g hg
                  simp only [Value.ownBlock, Option.some.injEq] at hg
                  rw [← hg]; exact HA0.out ⟨R, 0, none⟩ rfl)
                have hq3 : ∀ (j : Nat) (e : Sv), i + 1 ≤ j → es[j]? = some e → Ent w1 base e e.2.1 (1000 + j) := fun j e h1 h2 => (q3 j e h1 h2).row q2 HG1.out
                have hq4 : ∀ (j : Nat) (e : Sv), (A ++ [(ax, en + k, cx)])[j]? = some e → En w1 base e (1000 + j / 5) ∧ e.2.1 ≤ 1000010 := by
                  intro j e hj
                  rw [List.getElem?_append] at hj
                  split at hj
                  · exact ⟨(q4 j e hj).1.row q2 HG1.out, (q4 j e hj).2⟩
                  · rename_i hjl
                    have hjj : j - A.length = 0 := by
                      have := (List.getElem?_eq_some_iff.1 hj).1; simp at this; exact this
                    rw [hjj] at hj
                    simp at hj; subst hj
                    have : j / 5 = i := by omega
                    rw [this]
                    exact ⟨(En.of x1).row q2 HG1.out, by simp; omega⟩
                have HX1 := Lib.hid hX1; have HB1 := Lib.hid hB1; have HQ31 := Lib.hid hq3; have HQ41 := Lib.hid hq4; have HBB1 := Lib.hid (hb3.grow hb1 HKW.out HG1.out (fun j e hK => by have h1 := q2.lt j e; have h2 := HKW.out j hK; have h3 := HSZ.out; omega))
                clear hX1 hB1 hq3 hq4 hb1 q1 q2 q3 q4 q5 x1 x2 x3 x4
                have ev : (1000 + (i : Int)) = ((1000 + i : Nat) : Int) := by omega
                have hblk := blk_alloc w1 118 #[.int .u32 (1000 + (i : Int))] [1000 + i] (by simp)
                have HBK := Lib.hid hblk; clear hblk ev
                go_wp2_with (first | (at_builtin; refine wpList_append_words rfl _ _ 44 rfl 118 i0 Tryz.underlying44 hi hz0 hz1 hz2 base ax (some ⟨w1.heap.size, 0, none⟩) (en + k) cx 1 1 (List.replicate (en + k) (1000 + i)) [1000 + i] rfl rfl (by simp) rfl (HX1.out.grow ((Below.refl _ _).alloc (Nat.le_refl _) _)) HBK.out.rd (by intro h; cases h) (by omega) (by rw [World.size_alloc]; omega) ?_; intro a2 c2 w2 ho2 hg2 hq2))
                obtain ⟨q1, q2, q3, q4, q5⟩ := HQ3.out
                obtain ⟨x1, x2, x3, x4⟩ := HX.out
                have hs2 := hg2.size
                simp only [World.size_alloc] at hs2
                have hfresh : ∀ gx, a2 = some gx → a2 = ax ∨ w1.heap.size < gx.block := by
                  intro gx h
                  rcases hq2 with h1 | ⟨_, g, h1, h2⟩
                  · exact .inl h1
                  · rw [h] at h1; cases h1; simp at h2; exact .inr (by simp at h2 ⊢; omega)
                have hcond : ∀ (j : Nat) (e : Sv), (A ++ [(ax, en + k, cx)])[j]? = some e → (∀ g gx, e.1 = some g → ax = some gx → g.block ≠ gx.block) ∨ e.2.1 ≤ en + k := by
                  intro j e hj
                  rw [List.getElem?_append] at hj
                  split at hj
                  · exact x3 j e hj
                  · have hjj : j - A.length = 0 := by
                      have := (List.getElem?_eq_some_iff.1 hj).1; simp at this; exact this
                    rw [hjj] at hj
                    simp at hj; subst hj
                    exact .inr (Nat.le_refl _)
                go_roundw
                case rel =>
                  refine ⟨k + 1, a1, c1, A ++ [(ax, en + k, cx)], a2, c2, by omega, by go_num, rfl, rfl, HB1.out.words hg2 HX1.out, HBB1.out.grow (below_grown HBB1.out.b (by omega) hg2 HX1.out (Nat.le_refl _)) HKW.out hg2 (fun j e hK => by
                    cases ax with
                    | none => simp at e
                    | some gx => simp at e; exact x4 gx rfl (e ▸ hK)), by omega, ⟨by simp; omega, ?_, ?_, ?_, ?_⟩, ?_, ?_, ?_, ?_⟩
                  · have := row_words HO1.out hg2 HX1.out
                    rw [← Nat.add_assoc]
                    simpa [Sv.val] using this
                  · intro j e h1 h2
                    exact (HQ31.out j e h1 h2).words hg2 fun g h h3 h4 => (x2 j e h g h4 h2 h1 h3).symm
                  · intro j e hj
                    obtain ⟨g1, g2⟩ := HQ41.out j e hj
                    exact ⟨g1.append HX1.out ho2 hg2 hq2 (hcond j e hj), g2⟩
                  · intro j l e f g h hj h1 h2 h3 h4
                    rw [List.getElem?_append] at hj
                    split at hj
                    · exact q5 j l e f g h hj h1 h2 h3 h4
                    · have hjj : j - A.length = 0 := by
                        have := (List.getElem?_eq_some_iff.1 hj).1; simp at this; exact this
                      rw [hjj] at hj
                      simp at hj; subst hj
                      exact x2 l f g h h1 h2 h3 h4
                  · have := ho2
                    rw [← List.replicate_succ'] at this
                    exact this
                  · intro l f g h h1 h2 h3 h4
                    rcases hfresh g h1 with h5 | h5
                    · exact x2 l f g h (by rw [← h5]; exact h1) h2 h3 h4
                    · have := (HQ31.out l f h3 h2).lt h4
                      omega
                  · intro j e hj
                    rcases hcond j e hj with h1 | h1
                    · rcases (HQ41.out j e hj).1.lt with h2 | h2
                      · exact .inr (by omega)
                      · refine .inl fun g gx h3 h4 => ?_
                        rcases hfresh gx h4 with h5 | h5
                        · exact h1 g gx h3 (by rw [← h5]; exact h4)
                        · have := h2 g h3; omega
                    · exact .inr (by omega)
                  · intro gx h hK
                    rcases hfresh gx h with h5 | h5
                    · exact x4 gx (by rw [← h5]; exact h) hK
                    · have h6 := HKW.out _ hK
                      have h7 := HBB1.out.b.size
                      omega
                case measure => simp [intOf]; omega
            · have hk6 : k = 5 := by omega
              subst hk6
              go_wp2
              go_roundw
              case rel =>
                obtain ⟨q1, q2, q3, q4, q5⟩ := HQ3.out
                have e5 : 5 * i + 5 = 5 * (i + 1) := by omega
                rw [e5] at q1 q2 ⊢
                exact ⟨i + 1, aa, ca, A, by omega, by go_num, rfl, HB3, hb3, hb3l, q1, q2, q3, q4, q5⟩
              case measure => simp [intOf]; omega
        · have hi4 : i = es.length := by omega
          subst hi4
          obtain ⟨q1, q2, q3, q4, q5⟩ := HQ.out
          have HQ4 := Lib.hid q4; have HQ1 := Lib.hid q1
          have hrow : ∀ (j : Nat) (e : Sv), A[j]? = some e → ∃ R, aa = some ⟨R, 0, none⟩ ∧ wr.cell? ⟨R, j, none⟩ = some (.slice e.1 e.2.1 e.2.2) := by
            intro j e hj
            have hjl := (List.getElem?_eq_some_iff.1 hj).1
            rcases q2.2 with ⟨_, h0⟩ | ⟨R, cap, cur, hR, _⟩
            · omega
            · simp only [Value.slice.injEq, true_and] at hR
              obtain ⟨rfl, rfl⟩ := hR
              refine ⟨R, rfl, ?_⟩
              rw [q2.cellAt j (by omega), List.getElem?_map, hj]; rfl
          have HROW := Lib.hid hrow
          clear q1 q2 q3 q4 q5 hrow
          go_wp2
          go_loop [9] (fun s => ∃ j : Nat, j ≤ 5 * es.length ∧ s = .int .i64 j) (fun s => 5 * es.length - (intOf s).toNat)
          case atStart => exact ⟨0, Nat.zero_le _, rfl⟩
          case round =>
            obtain ⟨j, hj, rfl⟩ := hrel
            by_cases hjl : j < 5 * es.length
            · obtain ⟨⟨ea, en, ec⟩, he⟩ : ∃ e, A[j]? = some e := ⟨_, List.getElem?_eq_getElem (by rw [HQ1.out]; exact hjl)⟩
              obtain ⟨R, hR, hcR⟩ := HROW.out j _ he
              subst hR
              obtain ⟨hen, hen2⟩ := HQ4.out j _ he
              dsimp only at hcR hen2
              have HEN := Lib.hid hen; clear hen he
              go_wp2
              go_loop [10] (fun s => ∃ k : Nat, k ≤ en ∧ s = .int .i64 k) (fun s => en - (intOf s).toNat)
              case atStart => exact ⟨0, Nat.zero_le _, rfl⟩
              case round =>
                obtain ⟨k, hk, rfl⟩ := hrel
                by_cases hkl : k < en
                · obtain ⟨g, hg, hcg⟩ := HEN.out.cell hkl
                  dsimp only at hg
                  subst hg
                  go_wp2
                  go_round
                  case rel => exact ⟨k + 1, by omega, by go_num⟩
                  case measure => simp [intOf]; omega
                · have hk2 : k = en := by omega
                  subst hk2
                  go_wp2
                  go_round
                  case rel => exact ⟨j + 1, by omega, by go_num⟩
                  case measure => simp [intOf]; omega
            · go_wp2
              go_ret
              exact ⟨rfl, hb⟩
end Go.Proofs.YteahdgbokjbgcaaGreatDoor
namespace Go.Proofs.YteahdgbokjbgcaaGreatDoor
open Go.RowKit
set_option linter.unusedVariables false
set_option linter.unusedSimpArgs false

theorem Own.lt {w : World} {e : TypeId} {base c : Nat} {a : Option Addr} {l : List Nat} (h : Own w e base a c l) (ad : Addr) (ha : a = some ad) : ad.block < w.heap.size := by
  rcases h with ⟨h1, _⟩ | ⟨g, t, h0, h1, h2, h3, h4⟩
  · rw [h1] at ha; cases ha
  · rw [h0] at ha; cases ha; exact h4.lt
theorem Own.ge {w : World} {e : TypeId} {base c : Nat} {a : Option Addr} {l : List Nat} (h : Own w e base a c l) (ad : Addr) (ha : a = some ad) : base ≤ ad.block := by
  rcases h with ⟨h1, _⟩ | ⟨g, t, h0, h1, h2, h3, h4⟩
  · rw [h1] at ha; cases ha
  · rw [h0] at ha; cases ha; exact h1
theorem BookAt.mono {w : World} {base b B : Nat} {v : Value} {k : Nat} {xs : List Value} (h : BookAt w base B v k xs) (hb : b ≤ base) : BookAt w b B v k xs := by
  refine ⟨h.1, h.2.1, ?_⟩
  rcases h.2.2 with h1 | ⟨g, cap, cur, h2, h3, h4⟩
  · exact .inl h1
  · exact .inr ⟨g, cap, cur, h2, by omega, h4⟩
theorem BookAt.grow {w w' : World} {base B : Nat} {v : Value} {k : Nat} {xs : List Value} (h : BookAt w base B v k xs) (hb : Below w.heap.size w w') : BookAt w' base B v k xs := by
  refine ⟨(hb.block B (lt_of_block h.1)).trans h.1, h.2.1, ?_⟩
  rcases h.2.2 with h1 | ⟨g, cap, cur, h2, h3, h4, h5⟩
  · exact .inl h1
  · exact .inr ⟨g, cap, cur, h2, h3, (hb.block g (lt_of_block h4)).trans h4, h5⟩
end Go.Proofs.YteahdgbokjbgcaaGreatDoor
namespace Go.Proofs.YteahdgbokjbgcaaGreatDoor
open Go.RowKit
set_option linter.unusedVariables false
set_option linter.unusedSimpArgs false

theorem bel_grown {B g : Nat} {w0 w w' : World} (h : Below B w0 w) (hB : B ≤ w0.heap.size) (hk : w.grownBy w' (some g)) (hg : B ≤ g) : Below B w0 w' :=
  ⟨hk.os.trans h.os, hk.tape.trans h.tape, hk.output.trans h.output, Nat.le_trans h.size hk.size, fun j hj => (hk.block j (Nat.lt_of_lt_of_le hj (Nat.le_trans hB h.size)) (by simp; omega)).trans (h.block j hj)⟩
/-- the cells of a list of Dyads -/
def cellsOf : List Arg → List Value
  | [] => []
  | x :: xs => .bool x.s :: .slice x.a x.l.length x.c :: .int .i64 x.e :: cellsOf xs
theorem outF_ok (s : Bool) (n : Nat) (e : Int) : (outO (formF s n e)).Ok := by
  cases h : formF s n e with
  | none => exact D.zero_ok
  | some d => exact formF_ok h
theorem Own.arg {w : World} {base c : Nat} {a : Option Addr} {d : D} (h : Own w 118 base a c (words d.m)) (hd : d.Ok) : (argOf d a c).Ok w :=
  ⟨h.sl (W32_words _), by have := hd.len; show (words d.m).length ≤ _; omega, by have := hd.lo; show _ ≤ d.exp; omega, by have := hd.hi; show d.exp ≤ _; omega⟩
end Go.Proofs.YteahdgbokjbgcaaGreatDoor
namespace Go.Proofs.YteahdgbokjbgcaaGreatDoor
open Go.RowKit
set_option linter.unusedVariables false
set_option linter.unusedSimpArgs false

theorem formF_zero {s : Bool} {n : Nat} {e : Int} {d : D} (h : formF s n e = some d) (h0 : d.m = 0) : d = D.zero := by
  unfold formF at h
  split at h
  · cases h; rfl
  · next hn =>
    split at h
    · cases h
    · cases h
      obtain ⟨m, h1, h2⟩ := low_spec hn
      have h3 : n / 2 ^ low n = m := by
        conv => lhs; arg 1; rw [h1]
        exact Nat.mul_div_cancel_left _ (Nat.two_pow_pos _)
      dsimp only at h0
      rw [h3] at h0; subst h0; simp at h2
theorem addD_ok {p q : D} (hp : p.Ok) (hq : q.Ok) : (outO (addD p q)).Ok := by
  unfold addD
  split
  · exact hq
  · split
    · exact hp
    · split
      · exact D.zero_ok
      · split
        · exact outF_ok _ _ _
        · split
          · exact outF_ok _ _ _
          · exact outF_ok _ _ _
end Go.Proofs.YteahdgbokjbgcaaGreatDoor
