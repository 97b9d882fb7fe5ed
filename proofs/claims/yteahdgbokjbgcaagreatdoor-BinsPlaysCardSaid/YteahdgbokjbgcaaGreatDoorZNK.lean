/- Contracts of steelyardref01.parts at 64 bits, Split, Class. Contracts of steelyardref09.Bins.Round, Sum and steelyardref10.Alike. The document's bins among others: frames; contracts of steelyardref09.Add, Fold, Count, New. No statement of the seat is proved here. -/
import Derived.Test.YteahdgbokjbgcaaGreatDoorProg
import Derived.Test.YteahdgbokjbgcaaGreatDoorZNG
import Derived.Test.YteahdgbokjbgcaaGreatDoorZNI
import Derived.Test.YteahdgbokjbgcaaGreatDoorZNJ
namespace Go.Proofs.YteahdgbokjbgcaaGreatDoor
open Go.RowKit
set_option maxRecDepth 10000
set_option linter.unusedVariables false
set_option linter.unusedSimpArgs false

end Go.Proofs.YteahdgbokjbgcaaGreatDoor
namespace Go.Proofs.YteahdgbokjbgcaaGreatDoor
open Go.RowKit
set_option maxRecDepth 10000
set_option linter.unusedVariables false
set_option linter.unusedSimpArgs false

set_option maxHeartbeats 2000000 in
theorem rbround_any (g n f : Nat) (mode : Int) (a : Option Addr) (c : Nat) (l : List (Nat × Nat)) (w : World) (ho : OfOk l) (hn : (bnO l).n ≤ 1099511627776) (hl : l.length ≤ 1099511627776) (f1 : 1 ≤ f) (f2 : f ≤ 8) (h : RB w g f n a c l) :
    Calls Tryz.prog 89 #[.pointer (some ⟨g, 0, none⟩), .int .i64 mode] w (BRoundQ (bnO l) f mode w) := by
  obtain ⟨d, hd, hdy⟩ := kS_dy (bnO_ok hn) f
  have HK := Lib.hid (rbkept_any g n f a c l w ho hn hl f1 f2 h hd)
  have HR : Hid (∀ W a c, Below w.heap.size w W → Own W 118 w.heap.size a c (words d.m) → Calls Tryz.prog 178 #[DV d a c, .int .i64 mode] W fun en w' => (∃ (r : Nat) (er : Int), en = .returned (.tuple #[.float .f64 r, .int .i64 er]) ∧ RoundsTo 52 (-1074) 9218868437227405312 9223372036854775808 mode (zO (-1088) ((bnO l).kS f)) r er) ∧ Below W.heap.size W w') := by
    intro W a c hW ho
    have := rround_any (argOf d a c) mode W (ho.arg hdy.ok)
    rw [argF hdy.is hdy.ok, ← hd] at this
    exact this
  clear h ho hn hl hd hdy
  unfold DV at *
  go_enter Tryz.func89, Tryz.ntmps89
  go_wp2_with fail
  refine HK.out.mono ?_; rintro en w1 ⟨a, c, rfl, ho, hb⟩
  have HR1 := Lib.hid (HR.out w1 a c hb ho)
  have HB := Lib.hid hb
  unfold DV
  clear ho hb
  go_wp2_with fail
  refine HR1.out.mono ?_; rintro en w2 ⟨⟨r, er, rfl, hr⟩, hb⟩
  have HX := Lib.hid hr; have HB2 := Lib.hid (HB.out.trans (hb.mono HB.out.size))
  clear hr hb
  go_wp2_with fail
  go_ret2
  exact ⟨r, er, rfl, HX.out, HB2.out⟩

end Go.Proofs.YteahdgbokjbgcaaGreatDoor
namespace Go.Proofs.YteahdgbokjbgcaaGreatDoor
open Go.RowKit
set_option maxRecDepth 10000
set_option linter.unusedVariables false
set_option linter.unusedSimpArgs false

/-- all is as it was, but one block and that of a slice -/
structure Fr (w w' : World) (g : Nat) (a : Option Addr) : Prop where
  os : w'.os = w.os
  tape : w'.tape = w.tape
  output : w'.output = w.output
  size : w.heap.size ≤ w'.heap.size
  block : ∀ j, j < w.heap.size → j ≠ g → (∀ ad, a = some ad → j ≠ ad.block) → w'.heap[j]? = w.heap[j]?
/-- a slice that is the same or new -/
def Fresh (w : World) (a a' : Option Addr) : Prop := a' = a ∨ ∃ k, a' = some ⟨k, 0, none⟩ ∧ w.heap.size ≤ k
section
variable {w w1 w2 w' : World} {g : Nat} {a a' a2 : Option Addr}
theorem Fr.refl (w : World) (g : Nat) (a : Option Addr) : Fr w w g a := ⟨rfl, rfl, rfl, Nat.le_refl _, fun _ _ _ _ => rfl⟩
theorem Fr.below (h : Below w.heap.size w w') : Fr w w' g a := ⟨h.os, h.tape, h.output, h.size, fun j hj _ _ => h.block j hj⟩
theorem Fr.drew (h : Fr w w1 g a) : Fr w w1.drew g a := ⟨h.os, h.tape, h.output, h.size, h.block⟩
theorem Fr.drewN (h : Fr w w1 g a) (n : Nat) : Fr w (w1.drewN n) g a := ⟨h.os, h.tape, h.output, h.size, h.block⟩
theorem Fr.set (h : Fr w w1 g a) (i : Nat) (v : Value) : Fr w (w1.setCell ⟨g, i, none⟩ v) g a := ⟨h.os, h.tape, h.output, by simpa using h.size, fun j hj h1 h2 => (heap_setCell_other _ _ _ _ h1).trans (h.block j hj h1 h2)⟩
theorem Fr.app (h : Fr w w1 g a) (hg : w1.grownBy w2 (a.map (·.block))) : Fr w w2 g a := ⟨hg.os.trans h.os, hg.tape.trans h.tape, hg.output.trans h.output, Nat.le_trans h.size hg.size, fun j hj h1 h2 => (hg.block j (Nat.lt_of_lt_of_le hj h.size) (fun e => by
  obtain ⟨ad, had, hb⟩ := Option.map_eq_some_iff.1 e.symm
  exact h2 ad had hb.symm)).trans (h.block j hj h1 h2)⟩
theorem Fr.own (h : Fr w w1 g a) (hg : w1.grownBy w2 (some g)) : Fr w w2 g a := ⟨hg.os.trans h.os, hg.tape.trans h.tape, hg.output.trans h.output, Nat.le_trans h.size hg.size, fun j hj h1 h2 => (hg.block j (Nat.lt_of_lt_of_le hj h.size) (by simpa using h1)).trans (h.block j hj h1 h2)⟩
theorem Fresh.refl (w : World) (a : Option Addr) : Fresh w a a := .inl rfl
theorem Fresh.trans (h : Fresh w a a') (h2 : Fresh w1 a' a2) (hs : w.heap.size ≤ w1.heap.size) : Fresh w a a2 := by
  rcases h2 with rfl | ⟨k, rfl, hk⟩
  · exact h
  · exact .inr ⟨k, rfl, by omega⟩
theorem Fr.trans (h : Fr w w1 g a) (h2 : Fr w1 w2 g a') (hf : Fresh w a a') : Fr w w2 g a := ⟨h2.os.trans h.os, h2.tape.trans h.tape, h2.output.trans h.output, Nat.le_trans h.size h2.size, fun j hj k1 k2 => (h2.block j (Nat.lt_of_lt_of_le hj h.size) k1 (fun ad had => by
  rcases hf with rfl | ⟨k, rfl, hk⟩
  · exact k2 ad had
  · cases had
    show j ≠ k
    omega)).trans (h.block j hj k1 k2)⟩
theorem Fr.below_trans (h : Fr w w1 g a) (hb : Below w1.heap.size w1 w2) : Fr w w2 g a := h.trans (Fr.below hb) (Fresh.refl _ _)
end
theorem bnO_len_le {l : List (Nat × Nat)} (h : ∀ p ∈ l, 1 ≤ p.2) : l.length ≤ (bnO l).n := by
  suffices hs : ∀ (l : List (Nat × Nat)) (A : Bn), (∀ p ∈ l, 1 ≤ p.2) → A.n + l.length ≤ (l.foldl (fun A p => A.sum (bnT p.2 p.1)) A).n by
    have := hs l Bn.zero h
    unfold bnO
    have e : Bn.zero.n = 0 := rfl
    omega
  intro l
  induction l with
  | nil => intro A _; exact Nat.le_refl _
  | cons p l ih =>
    intro A hp
    have h1 := ih (A.sum (bnT p.2 p.1)) (fun q hq => hp q (by simp [hq]))
    have h2 := hp p (by simp)
    have h3 : (A.sum (bnT p.2 p.1)).n = A.n + p.2 := rfl
    rw [List.length_cons, List.foldl_cons]
    omega
/-- the document's bins of a fold, that have come to something -/
structure RBx (w : World) (g f : Nat) (a : Option Addr) (A : Bn) : Prop where
  le : A.n ≤ 1099511627776
  ex : ∃ c l, RB w g f (A.n : Nat) a c l ∧ bnO l = A ∧ OfOk l ∧ (∀ p ∈ l, 1 ≤ p.2)
theorem RBx.ok {w : World} {g f : Nat} {a : Option Addr} {A : Bn} (h : RBx w g f a A) : A.Ok := by
  obtain ⟨c, l, _, h2, _⟩ := h.ex
  rw [← h2]
  exact bnO_ok (by rw [h2]; exact h.le)
theorem RBx.grow {w w' : World} {g f : Nat} {a : Option Addr} {A : Bn} (h : RBx w g f a A) (hb : Below w.heap.size w w') : RBx w' g f a A := by
  obtain ⟨c, l, h1, h2⟩ := h.ex
  exact ⟨h.le, c, l, h1.grow hb, h2⟩
theorem RBx.drew {w : World} {g f : Nat} {a : Option Addr} {A : Bn} (h : RBx w g f a A) : RBx w.drew g f a A := by
  obtain ⟨c, l, h1, h2⟩ := h.ex
  exact ⟨h.le, c, l, h1.drew, h2⟩
theorem RBx.lt {w : World} {g f : Nat} {a : Option Addr} {A : Bn} (h : RBx w g f a A) : g < w.heap.size := by
  obtain ⟨c, l, h1, _⟩ := h.ex
  exact h1.lt
theorem rbnewN_any (f : Int) (w : World) (h : f < 1 ∨ 8 < f) : Calls Tryz.prog 84 #[.int .i64 f] w fun en w' => en = .returned (.pointer none) ∧ w = w' := by
  rcases h with h | h
  all_goals
    go_enter Tryz.func84, Tryz.ntmps84
    go_wp2_with fail
    go_ret
    exact ⟨rfl, rfl⟩
theorem rbcount_any (g f : Nat) (a : Option Addr) (A : Bn) (w : World) (h : RBx w g f a A) : Calls Tryz.prog 93 #[.pointer (some ⟨g, 0, none⟩)] w fun en w' => en = .returned (.int .i64 A.n) ∧ w = w' := by
  obtain ⟨c, l, h1, _⟩ := h.ex
  obtain ⟨_, _, x2, _, _⟩ := h1.cells
  clear h h1
  go_enter Tryz.func93, Tryz.ntmps93
  go_wp2_with fail
  go_ret
  exact ⟨rfl, rfl⟩
theorem rbfold_any (g f : Nat) (a : Option Addr) (A : Bn) (w : World) (h : RBx w g f a A) : Calls Tryz.prog 92 #[.pointer (some ⟨g, 0, none⟩)] w fun en w' => en = .returned (.int .i64 f) ∧ w = w' := by
  obtain ⟨c, l, h1, _⟩ := h.ex
  obtain ⟨x0, _, _, _, _⟩ := h1.cells
  clear h h1
  go_enter Tryz.func92, Tryz.ntmps92
  go_wp2_with fail
  go_ret
  exact ⟨rfl, rfl⟩
theorem rOfN9 {v : Nat} (hv : v < 18446744073709551616) (hp : ofF v = none) (W : World) : Calls Tryz.prog 69 #[.float .f64 v] W fun en w' => ∃ a c, en = .returned (.tuple #[DV D.zero a c, .int .i64 30]) ∧ Below W.heap.size W w' := by
  refine (rofd_any v W hv).mono ?_
  rintro en w' ⟨u, rfl, ⟨a, c, rfl, h1⟩, h2⟩
  rw [hp] at h1 ⊢
  exact ⟨a, c, rfl, h2⟩
set_option maxHeartbeats 8000000 in
theorem rbadd2_any (g n b : Nat) (f : Int) (a : Option Addr) (c : Nat) (l : List (Nat × Nat)) (w : World) (hb : b < 18446744073709551616) (hf : b % 9223372036854775808 < 9218868437227405312) (hn : n < 1099511627776) (hl : l.length < 1099511627776) (h : RB w g f n a c l) :
    Calls Tryz.prog 86 #[.pointer (some ⟨g, 0, none⟩), .float .f64 b] w fun en w' => en = .returned (.int .i64 0) ∧ ∃ a' c', RB w' g f (n + 1 : Nat) a' c' (l ++ [(b, 1)]) ∧ Fr w w' g a ∧ Fresh w a a' := by
  obtain ⟨d, hd, hz⟩ := Dz.of hf
  have HO := Lib.hid (rOf hb hd hz.ok w)
  have HR := Lib.hid (fun W (hw : Below w.heap.size w W) => h.grow hw)
  have hx := ext_bits64 b
  obtain ⟨i0, hi0, hz0, hs0, hb0⟩ := info_often
  have HI := Lib.hid (And.intro hi0 (And.intro hz0 (And.intro hs0 hb0)))
  have hlt := h.lt
  obtain ⟨x0, x1, x2, x3, x4⟩ := h.cells
  have hn' : ¬ (1099511627776 : Int) ≤ (n : Int) := by omega
  have HLl := Lib.hid hl
  have hw1 : IntKind.i64.wrap ((n : Int) + 1) = ((n + 1 : Nat) : Int) := by rw [IntKind.wrap_i64]; omega
  clear hi0 hz0 hs0 hb0 h hd hz hf hn hl
  go_enter Tryz.func86, Tryz.ntmps86
  go_wp2_with fail
  refine HO.out.mono ?_; rintro en w2 ⟨a2, c2, rfl, ho, hb2⟩
  have HB2 := Lib.hid hb2
  unfold DV
  clear ho hb2 x0 x1 x2 x3 x4
  go_upto_region 4 with fail
  obtain ⟨w3, e3⟩ : ∃ W, W = w2.alloc (.cells #[.bool d.neg, .slice a2 (words d.m).length c2, .int .i64 d.exp] 46) := ⟨_, rfl⟩
  rw [← e3]
  obtain ⟨k3, b3, s3⟩ := new_cel e3 rfl
  have HB3 := Lib.hid (HB2.out.trans (b3.mono HB2.out.size))
  clear e3 b3 k3 s3
  obtain ⟨x0, x1, x2, x3, x4⟩ := (HR.out w3 HB3.out).cells
  have hlt3 := (HR.out w3 HB3.out).lt
  have HR3 := Lib.hid (HR.out w3 HB3.out)
  obtain ⟨w4, e4⟩ : ∃ W, W = w3.alloc (.cells #[.int .u64 (b : Nat), .int .i64 1] 207) := ⟨_, rfl⟩
  obtain ⟨k4, b4, s4⟩ := new_of e4 rfl
  have HR4 : Hid (RB w4.drew g f n a c l) := (HR3.out.grow b4).drew
  have HV4 : Hid (VRd w4.drew (some ⟨w3.heap.size, 0, none⟩) [.int .u64 (b : Nat), .int .i64 1]) := VBlk.rd (g := w3.heap.size) (e := 207) k4
  have HB4 : Hid (Below w.heap.size w w4.drew) := (HB3.out.trans (b4.mono HB3.out.size)).drew
  have HE4 := Lib.hid e4
  clear e4 k4 b4 s4
  go_upto_region 6 with fail
  go_region_law (first | (rw [← HE4.out]; refine step_append_vals rfl (.tmp 24) (.tmp 28) 203 203 rfl 207 207 i0 (.agg #[.int .u64 0, .int .i64 0]) 2 Tryz.underlying203 Tryz.underlying203 HI.out.1 HI.out.2.1 HI.out.2.2.1 rfl (by decide) HI.out.2.2.2 (g + 1) a (some ⟨w3.heap.size, 0, none⟩) l.length c 1 1 (ofV l) [.int .u64 (b : Nat), .int .i64 1] (by simp [Act.eval, Act.put]) (by simp [Act.eval, Act.put]) (ofV_len l) rfl (by simp [Value.oneCell']) HR4.out.own HV4.out (by have := HLl.out; omega) (by have := HR4.out.lt; simp at this; simp; omega) ?_; intro a6 c6 w6 ho6 hg6 hn6; have hk6 := HR4.out.rowIn hg6; obtain ⟨y1, y2, y3, y4⟩ : w6.cell? ⟨g, 1, none⟩ = some (.slice a l.length c) ∧ w6.cell? ⟨g, 2, none⟩ = some (.int .i64 n) ∧ w6.frozen? ⟨g, 1, none⟩ = false ∧ w6.frozen? ⟨g, 2, none⟩ = false := ⟨by rw [cell_of_row w6 g 1 _ _ _ hk6]; rfl, by rw [cell_of_row w6 g 2 _ _ _ hk6]; rfl, frozen_of_row w6 g 1 _ _ hk6, frozen_of_row w6 g 2 _ _ hk6⟩))
  all_goals
    have HQ : Hid (RB ((w6.setCell ⟨g, 1, none⟩ (.slice a6 (l.length + 1) c6)).setCell ⟨g, 2, none⟩ (.int .i64 (n + 1 : Nat))) g f (n + 1 : Nat) a6 c6 (l ++ [(b, 1)]) ∧ Fr w ((w6.setCell ⟨g, 1, none⟩ (.slice a6 (l.length + 1) c6)).setCell ⟨g, 2, none⟩ (.int .i64 (n + 1 : Nat))) g a ∧ Fresh w a a6) :=
      ⟨HR4.out.app ho6 hg6, (((Fr.below HB4.out).app hg6).set _ _).set _ _, by
        rcases hn6 with hn6 | ⟨_, k, hk, hk2⟩
        · exact .inl hn6
        · exact .inr ⟨k, hk, Nat.le_trans HB4.out.size hk2⟩⟩
    clear ho6 hg6 hn6 hk6 x0 x1 x2 x3 x4
    go_wp2_with fail
    go_ret
    exact ⟨rfl, a6, c6, HQ.out⟩
def RAddQ (A : Bn) (g f : Nat) (a : Option Addr) (b : Nat) (w : World) (en : Ending) (w' : World) : Prop :=
  ∃ a', (1099511627776 ≤ A.n ∧ en = .returned (.int .i64 2) ∧ RBx w' g f a' A ∨ A.n < 1099511627776 ∧ badB b ∧ en = .returned (.int .i64 30) ∧ RBx w' g f a' A ∨ A.n < 1099511627776 ∧ ¬ badB b ∧ en = .returned (.int .i64 0) ∧ RBx w' g f a' (A.sum (bn1 b))) ∧ Fr w w' g a ∧ Fresh w a a'
set_option maxHeartbeats 4000000 in
theorem rbaddx_any (A : Bn) (g f b : Nat) (a : Option Addr) (w : World) (hb : b < 18446744073709551616) (h : RBx w g f a A) : Calls Tryz.prog 86 #[.pointer (some ⟨g, 0, none⟩), .float .f64 b] w (RAddQ A g f a b w) := by
  obtain ⟨c, l, h1, h2, h3, h4⟩ := h.ex
  by_cases hn : 1099511627776 ≤ A.n
  · obtain ⟨_, _, x2, _, _⟩ := h1.cells
    have hn' : (1099511627776 : Int) ≤ (A.n : Int) := by omega
    have HN := Lib.hid hn
    have HX := Lib.hid h
    clear h1 h2 h3 h4 h hn
    go_enter Tryz.func86, Tryz.ntmps86
    go_wp2_with fail
    go_ret
    exact ⟨a, .inl ⟨HN.out, rfl, HX.out⟩, Fr.refl _ _ _, Fresh.refl _ _⟩
  by_cases hbd : badB b
  · obtain ⟨_, _, x2, _, _⟩ := h1.cells
    have hn' : ¬ (1099511627776 : Int) ≤ (A.n : Int) := by omega
    have hN : ofF b = none := by unfold badB at hbd; unfold ofF bitsF; rw [if_pos (by omega)]
    have HO := Lib.hid (rOfN9 hb hN w)
    have HN : Hid (A.n < 1099511627776) := by show _ < _; omega
    have HX := Lib.hid h
    have HBd := Lib.hid hbd
    unfold DV at HO
    clear h1 h2 h3 h4 h hn hbd hN
    go_enter Tryz.func86, Tryz.ntmps86
    go_wp2_with fail
    refine HO.out.mono ?_; rintro en w2 ⟨a2, c2, rfl, hb2⟩
    have HB := Lib.hid (hb2.alloc hb2.size (.cells #[.bool D.zero.neg, .slice a2 (words D.zero.m).length c2, .int .i64 D.zero.exp] 46))
    clear hb2
    go_wp2_with fail
    go_ret
    exact ⟨a, .inr (.inl ⟨HN.out, HBd.out, rfl, HX.out.grow HB.out⟩), Fr.below HB.out, Fresh.refl _ _⟩
  · have hll := bnO_len_le h4
    rw [h2] at hll
    refine (rbadd2_any g A.n b f a c l w hb (by unfold badB at hbd; omega) (by omega) (by omega) h1).mono ?_
    rintro en w' ⟨rfl, a', c', k1, k2, k3⟩
    refine ⟨a', .inr (.inr ⟨by omega, hbd, rfl, ?_, c', l ++ [(b, 1)], k1, ?_, ?_, ?_⟩), k2, k3⟩
    · show A.n + 1 ≤ _; omega
    · rw [bnO_snoc, h2, bnT_one]
    · intro p hp
      rcases List.mem_append.1 hp with hp | hp
      · exact h3 p hp
      · obtain rfl : p = (b, 1) := by simpa using hp
        exact ⟨hb, by unfold badB at hbd; show b % _ < _; omega⟩
    · intro p hp
      rcases List.mem_append.1 hp with hp | hp
      · exact h4 p hp
      · obtain rfl : p = (b, 1) := by simpa using hp
        exact Nat.le_refl _
end Go.Proofs.YteahdgbokjbgcaaGreatDoor
