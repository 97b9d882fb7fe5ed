/- The document's bins: contract of steelyardref09.Bins.more. The document's bins: contracts of steelyardref09.Bins.Merge, Bound. No statement of the seat is proved here. -/
import Derived.Test.YteahdgbokjbgcaaGreatDoorProg
import Derived.Test.YteahdgbokjbgcaaGreatDoorZNK
import Derived.Deep.DeepCutAuto
import Derived.Test.YteahdgbokjbgcaaGreatDoorZNL
namespace Go.Proofs.YteahdgbokjbgcaaGreatDoor
open Go.RowKit
set_option maxRecDepth 10000
set_option linter.unusedVariables false
set_option linter.unusedSimpArgs false

theorem bnO_cons (p : Nat × Nat) (l : List (Nat × Nat)) : bnO (p :: l) = (bnT p.2 p.1).sum (bnO l) := by
  suffices h : ∀ (l : List (Nat × Nat)) (A : Bn), l.foldl (fun A p => A.sum (bnT p.2 p.1)) A = A.sum (bnO l) by
    show l.foldl _ (Bn.zero.sum (bnT p.2 p.1)) = _
    rw [h, Bn.zero_sum]
  intro l
  induction l with
  | nil => intro A; exact (Bn.sum_zero A).symm
  | cons q l ih =>
    intro A
    show l.foldl _ (A.sum (bnT q.2 q.1)) = A.sum (l.foldl _ (Bn.zero.sum (bnT q.2 q.1)))
    rw [ih, ih, Bn.zero_sum, Bn.sum_assoc]
theorem bnO_app (l m : List (Nat × Nat)) : bnO (l ++ m) = (bnO l).sum (bnO m) := by
  induction l with
  | nil => exact (Bn.zero_sum _).symm
  | cons p l ih => rw [List.cons_append, bnO_cons, bnO_cons, ih, Bn.sum_assoc]
/-- a number counted again, where it stands -/
theorem bnO_set : ∀ (l : List (Nat × Nat)) (k : Nat) (q p : Nat × Nat), l[k]? = some q → q.1 = p.1 → bnO (l.set k (q.1, q.2 + p.2)) = (bnO l).sum (bnT p.2 p.1)
  | [], k, q, p, h, _ => by simp at h
  | x :: l, 0, q, p, h, e => by
    simp at h; subst h
    rw [List.set_cons_zero, bnO_cons, bnO_cons]
    show (bnT (x.2 + p.2) x.1).sum (bnO l) = _
    rw [← bnT_sum, e, Bn.sum_assoc, Bn.sum_assoc, Bn.sum_comm (bnO l)]
  | x :: l, k + 1, q, p, h, e => by
    rw [List.set_cons_succ, bnO_cons, bnO_cons, bnO_set l k q p (by simpa using h) e, Bn.sum_assoc]
theorem ofV_set : ∀ (l : List (Nat × Nat)) (k : Nat) (q : Nat × Nat) (x : Nat), l[k]? = some q → ofV (l.set k (q.1, x)) = (ofV l).set (k * 2 + 1) (.int .i64 (x : Nat))
  | [], k, q, x, h => by simp at h
  | y :: l, 0, q, x, h => by
    simp at h; subst h
    rfl
  | y :: l, k + 1, q, x, h => by
    have ih := ofV_set l k q x (by simpa using h)
    have e1 : (k + 1) * 2 + 1 = k * 2 + 1 + 1 + 1 := by omega
    rw [List.set_cons_succ, e1]
    simp only [ofV, List.set_cons_succ]
    rw [ih]
theorem VOwn.setAt {w : World} {e : TypeId} {sz base b off c : Nat} {l : List Value} (h : VOwn w e sz base (some ⟨b, off, Option.none⟩) c l) {i : Nat} (hi : i < l.length) (v : Value) : VOwn (w.setCell ⟨b, off + i, Option.none⟩ v) e sz base (some ⟨b, off, Option.none⟩) c (l.set i v) := by
  rcases h with ⟨h, _⟩ | ⟨g, p, t, h0, h1, h2, h3, h4⟩
  · cases h
  · cases h0
    refine .inr ⟨b, p, t, rfl, h1, by simpa using h2, by simpa using h3, ?_⟩
    have h5 := h4.set (p.length + i) v
    rw [List.set_append_right _ _ (by omega), Nat.add_sub_cancel_left, List.set_append_left _ _ hi] at h5
    exact h5
theorem VOwn.other {w : World} {e : TypeId} {sz base c : Nat} {a : Option Addr} {l : List Value} (h : VOwn w e sz base a c l) {x : Addr} (hx : ∀ ad, a = some ad → ad.block ≠ x.block) (v : Value) : VOwn (w.setCell x v) e sz base a c l := by
  rcases h with h | ⟨g, p, t, h0, h1, h2, h3, h4⟩
  · exact .inl h
  · exact .inr ⟨g, p, t, h0, h1, h2, h3, h4.other (fun e => hx _ h0 e.symm) v⟩
section
variable {w w' : World} {g : Nat} {f n : Int} {a : Option Addr} {c : Nat} {l : List (Nat × Nat)}
theorem RB.setN (h : RB w g f n a c l) (m : Int) : RB (w.setCell ⟨g, 2, none⟩ (.int .i64 m)) g f m a c l :=
  ⟨by rw [row_set h.row 2]; rfl, h.own.other (fun ad had => by have := h.own.ge ad had; show ad.block ≠ g; omega) _⟩
/-- one of them counted again -/
theorem RB.again {b o : Nat} (h : RB w g f n (some ⟨b, o, none⟩) c l) {k : Nat} {q : Nat × Nat} (hq : l[k]? = some q) (x : Nat) : RB (w.setCell ⟨b, o + k * 2 + 1, none⟩ (.int .i64 (x : Nat))) g f n (some ⟨b, o, none⟩) c (l.set k (q.1, x)) := by
  have hk := (List.getElem?_eq_some_iff.1 hq).1
  have hb := h.own.ge _ rfl
  refine ⟨?_, ?_⟩
  · rw [heap_setCell_other _ _ _ _ (show g ≠ b by have : g + 1 ≤ b := hb; omega), List.length_set]; exact h.row
  · rw [ofV_set l k q x hq, Nat.add_assoc]
    exact h.own.setAt (by rw [ofV_len]; omega) _
theorem RB.app1 {p : Nat × Nat} {a' : Option Addr} {c' : Nat} (h : RB w g f n a c l) (ho : VOwn w' 207 2 (g + 1) a' c' (ofV l ++ [.int .u64 (p.1 : Nat), .int .i64 (p.2 : Nat)])) (hg : w.grownBy w' (a.map (·.block))) :
    RB (w'.setCell ⟨g, 1, none⟩ (.slice a' (l.length + 1) c')) g f n a' c' (l ++ [p]) := by
  have h1 := h.rowIn hg
  refine ⟨?_, ?_⟩
  · rw [row_set h1 1 (.slice a' (l.length + 1) c'), List.length_append]; rfl
  · rw [ofV_app]
    exact ho.other (fun ad had => by have := ho.ge ad had; show ad.block ≠ g; omega) _
end
theorem OfOk.set {l : List (Nat × Nat)} (h : OfOk l) {k : Nat} {q : Nat × Nat} (hq : l[k]? = some q) (x : Nat) : OfOk (l.set k (q.1, x)) := by
  intro p hp
  rcases List.mem_or_eq_of_mem_set hp with hp | rfl
  · exact h p hp
  · exact h q (List.mem_of_getElem? hq)
def MoreQ (g : Nat) (f : Int) (n : Nat) (a : Option Addr) (l : List (Nat × Nat)) (p : Nat × Nat) (w : World) (en : Ending) (w' : World) : Prop :=
  en = .returned (.tuple #[]) ∧ ∃ a' c' l', RB w' g f (n + p.2 : Nat) a' c' l' ∧ bnO l' = (bnO l).sum (bnT p.2 p.1) ∧ OfOk l' ∧ (∀ q ∈ l', 1 ≤ q.2) ∧ Fr w w' g a ∧ Fresh w a a'
theorem Fr.setA {w w1 : World} {g b o : Nat} (h : Fr w w1 g (some ⟨b, o, none⟩)) (i : Nat) (v : Value) : Fr w (w1.setCell ⟨b, i, none⟩ v) g (some ⟨b, o, none⟩) := ⟨h.os, h.tape, h.output, by simpa using h.size, fun j hj h1 h2 => (heap_setCell_other w1 ⟨b, i, none⟩ j v (show j ≠ b from h2 ⟨b, o, none⟩ rfl)).trans (h.block j hj h1 h2)⟩
structure Bx (w : World) (k : Nat) (p : Nat × Nat) : Prop where
  c0 : w.cell? ⟨k, 0, none⟩ = some (.int .u64 (p.1 : Nat))
  c1 : w.cell? ⟨k, 1, none⟩ = some (.int .i64 (p.2 : Nat))
set_option maxHeartbeats 16000000 in
theorem rbmore_any (g n : Nat) (f : Int) (a : Option Addr) (c : Nat) (l : List (Nat × Nat)) (p : Nat × Nat) (w : World) (ho : OfOk l) (hp : ∀ q ∈ l, 1 ≤ q.2) (hpo : p.1 < 18446744073709551616 ∧ p.1 % 9223372036854775808 < 9218868437227405312) (hp1 : 1 ≤ p.2) (hn : n + p.2 ≤ 1099511627776) (hln : l.length ≤ n) (hqn : ∀ q ∈ l, q.2 ≤ n) (h : RB w g f n a c l) :
    Calls Tryz.prog 198 #[.pointer (some ⟨g, 0, none⟩), .agg #[.int .u64 (p.1 : Nat), .int .i64 (p.2 : Nat)]] w (MoreQ g f n a l p w) := by
  obtain ⟨t1, t2⟩ := p
  obtain ⟨i0, hi0, hz0, hs0, hb0⟩ := info_often
  have HI := Lib.hid (And.intro hi0 (And.intro hz0 (And.intro hs0 hb0)))
  obtain ⟨w1, e1⟩ : ∃ W, W = w.alloc (.cells #[.int .u64 (t1 : Nat), .int .i64 (t2 : Nat)] 207) := ⟨_, rfl⟩
  obtain ⟨k1, b1, s1⟩ := new_of e1 rfl
  have HR1 := Lib.hid (h.grow b1)
  have hlt := h.lt
  have HB1 := Lib.hid b1
  have HBx : Hid (Bx w1 w.heap.size (t1, t2)) := ⟨by rw [cell_of_row w1 _ 0 _ _ _ k1]; rfl, by rw [cell_of_row w1 _ 1 _ _ _ k1]; rfl⟩
  have HO := Lib.hid (And.intro ho (And.intro hp (And.intro hpo hp1)))
  have HQn := Lib.hid hqn
  have E1 := Lib.hid e1
  have S1 := Lib.hid s1
  have HLn := Lib.hid hln
  have hn' : n + t2 ≤ 1099511627776 := hn
  have hw1 : IntKind.i64.wrap ((n : Int) + (t2 : Int)) = ((n + t2 : Nat) : Int) := by rw [IntKind.wrap_i64]; omega
  obtain ⟨_, _, x2, _, x4⟩ := HR1.out.cells
  obtain ⟨_, y1⟩ := HBx.out
  have hne : w.heap.size ≠ g := by omega
  have HNb : Hid (∀ b o, a = some ⟨b, o, none⟩ → ∀ (_ : 0 < l.length), b ≠ w.heap.size) := by
    intro b o hab hl0 e
    rcases h.own with ⟨h1, _⟩ | ⟨g', p, t, h0, _, _, _, h4⟩
    · rw [h1] at hab; cases hab
    · rw [h0] at hab; cases hab
      have := h4.lt
      omega
  clear hi0 hz0 hs0 hb0 h ho hp hpo hp1 hqn hln hn e1 k1 b1 s1
  have HNt := Lib.hid hn'
  clear hn'
  go_enter Tryz.func198, Tryz.ntmps198
  go_upto_region 1 with fail
  rw [← E1.out]
  go_cut [0] (fun t wx => t = .pointer (some ⟨g, 0, none⟩) ∧ RB wx g f (n + t2 : Nat) a c l ∧ Bx wx w.heap.size (t1, t2) ∧ Fr w wx g a)
  case first =>
    go_region
    all_goals
      go_wp2_with fail
      go_meet
      case rel => exact ⟨rfl, (HR1.out.setN _).drew, ⟨by rw [World.cell?_of_block (w := w1) (by exact heap_setCell_other _ _ _ _ hne)]; exact HBx.out.c0, by rw [World.cell?_of_block (w := w1) (by exact heap_setCell_other _ _ _ _ hne)]; exact HBx.out.c1⟩, ((Fr.below HB1.out).set _ _).drew⟩
  obtain ⟨rfl, hR, hBx, hF⟩ := hcut
  obtain ⟨w2, rfl⟩ : ∃ W, W = wc := ⟨_, rfl⟩
  have HU : Hid (RB w2 g f (n + t2 : Nat) a c l ∧ Bx w2 w.heap.size (t1, t2) ∧ Fr w w2 g a) := ⟨hR, hBx, hF⟩
  clear hR hBx hF x2 x4 y1 HR1 HB1 HBx E1 S1
  go_wp2_with fail
  go_loopw [4] (fun ii wr => ∃ i : Nat, i ≤ l.length ∧ ii = .int .i64 i ∧ Hid (RB wr g f (n + t2 : Nat) a c l ∧ Bx wr w.heap.size (t1, t2) ∧ Fr w wr g a)) (fun ii _ => l.length - (intOf ii).toNat)
  case atStart => exact ⟨0, Nat.zero_le _, rfl, HU.out⟩
  case round =>
    obtain ⟨i, hi, rfl, hH⟩ := hrel
    obtain ⟨_, z1, _, z3, _⟩ := hH.out.1.cells
    have hlb : l.length ≤ 1099511627776 := by have := HLn.out; have := HNt.out; omega
    by_cases hq : i < l.length
    · obtain ⟨q, hqe⟩ : ∃ q, l[i]? = some q := ⟨l[i], List.getElem?_eq_getElem hq⟩
      obtain ⟨b, o, rfl, y0, y1⟩ := hH.out.1.at hqe
      obtain ⟨u0, u1⟩ := hH.out.2.1
      have n1 : (0 : Int) ≤ (i : Int) := by omega
      have n2 : (i : Int) < (l.length : Int) := by omega
      have HQe := Lib.hid hqe
      have hq2 := HQn.out q (List.mem_of_getElem? hqe)
      by_cases e : q.1 = t1
      · have HE := Lib.hid e
        rw [e] at y0
        have hw2 : IntKind.i64.wrap ((q.2 : Int) + (t2 : Int)) = ((q.2 + t2 : Nat) : Int) := by have := HNt.out; rw [IntKind.wrap_i64]; omega
        have HH := Lib.hid hH.out
        clear e hqe hH hq2
        go_wp2_with fail
        go_quiet (fail)
        obtain ⟨w3, e3⟩ : ∃ W, W = wr.drewN nq := ⟨_, rfl⟩
        rw [← e3]
        have HR3 : Hid (RB w3 g f (n + t2 : Nat) (some ⟨b, o, none⟩) c l) := by rw [e3]; exact ⟨HH.out.1.row, by
          rcases HH.out.1.own with h | ⟨g', p, t, h0, h1, h2, h3, h4⟩
          · exact .inl h
          · exact .inr ⟨g', p, t, h0, h1, h2, h3, h4⟩⟩
        have HX3 : Hid (Bx w3 w.heap.size (t1, t2)) := by rw [e3]; exact ⟨HH.out.2.1.c0, HH.out.2.1.c1⟩
        have HF3 : Hid (Fr w w3 g (some ⟨b, o, none⟩)) := by rw [e3]; exact HH.out.2.2.drewN _
        clear e3 z1 z3 y0 y1 u0 u1 HH
        obtain ⟨_, z1, _, _, _⟩ := HR3.out.cells
        obtain ⟨b', o', e', _, y1⟩ := HR3.out.at HQe.out
        cases e'
        obtain ⟨_, u1⟩ := HX3.out
        have nb1 : b ≠ g := by have := HR3.out.own.ge _ rfl; have h9 : g + 1 ≤ b := this; omega
        have nb2 : b ≠ w.heap.size := HNb.out b o rfl (by omega)
        have fz : w3.frozen? ⟨b, o + i * 2 + 1, none⟩ = false := by
          rcases HR3.out.own with ⟨h, _⟩ | ⟨g', p, t, h0, _, _, _, h4⟩
          · cases h
          · cases h0; exact h4.frozen _
        go_wp2_with fail
        go_region
        all_goals
          go_wp2_with fail
          first | go_end0 | go_ret
          exact ⟨rfl, some ⟨b, o, none⟩, c, l.set i (q.1, q.2 + t2), (HR3.out.again HQe.out (q.2 + t2)).drew, bnO_set l i q (t1, t2) HQe.out HE.out, HO.out.1.set HQe.out _, (fun r hr => by
            rcases List.mem_or_eq_of_mem_set hr with hr | rfl
            · exact HO.out.2.1 r hr
            · have := HO.out.2.1 q (List.mem_of_getElem? HQe.out); show 1 ≤ q.2 + t2; omega), (HF3.out.setA _ _).drew, Fresh.refl _ _⟩
      · have e' : ((q.1 : Int) == (t1 : Int)) = false := by rw [beq_eq_false_iff_ne]; omega
        have HH := Lib.hid hH.out
        clear e hqe hH hq2
        go_wp2_with fail
        go_quiet (fail)
        have HU3 : Hid (RB (wr.drewN nq) g f (n + t2 : Nat) (some ⟨b, o, none⟩) c l ∧ Bx (wr.drewN nq) w.heap.size (t1, t2) ∧ Fr w (wr.drewN nq) g (some ⟨b, o, none⟩)) := ⟨⟨HH.out.1.row, by
          rcases HH.out.1.own with h | ⟨g', p, t, h0, h1, h2, h3, h4⟩
          · exact .inl h
          · exact .inr ⟨g', p, t, h0, h1, h2, h3, h4⟩⟩, ⟨HH.out.2.1.c0, HH.out.2.1.c1⟩, HH.out.2.2.drewN _⟩
        go_wp2_with fail
        go_roundw
        case rel => exact ⟨i + 1, by omega, by go_num, HU3.out⟩
        case measure => simp [intOf]; omega
    · obtain rfl : i = l.length := by omega
      obtain ⟨u0, u1⟩ := hH.out.2.1
      have HH := Lib.hid hH.out
      obtain ⟨w4, e4⟩ : ∃ W, W = wr.alloc (.cells #[.int .u64 (t1 : Nat), .int .i64 (t2 : Nat)] 207) := ⟨_, rfl⟩
      obtain ⟨k4, b4, s4⟩ := new_of e4 rfl
      have HR4 : Hid (RB w4.drew g f (n + t2 : Nat) a c l) := (HH.out.1.grow b4).drew
      have HV4 : Hid (VRd w4.drew (some ⟨wr.heap.size, 0, none⟩) [.int .u64 (t1 : Nat), .int .i64 (t2 : Nat)]) := VBlk.rd (g := wr.heap.size) (e := 207) k4
      have HB4 : Hid (Below wr.heap.size wr w4.drew) := b4.drew
      have HE4 := Lib.hid e4
      obtain ⟨_, z9, _, _, _⟩ := (HH.out.1.grow ((Below.refl wr.heap.size wr).alloc (Nat.le_refl _) (.cells #[.int .u64 (t1 : Nat), .int .i64 (t2 : Nat)] 207))).cells
      have hl4 : l.length ≤ 1099511627776 := by have := HLn.out; have := HNt.out; omega
      have HL4 : Hid (l.length + 1 ≤ 1099511627776) := by have := HLn.out; have := HNt.out; have h1 : 1 ≤ t2 := HO.out.2.2.2; show l.length + 1 ≤ _; omega
      clear hH e4 k4 b4 s4 hq hi hl4 hlb
      go_wp2_with fail
      go_region_law (first | (rw [← HE4.out]; refine step_append_vals rfl (.tmp 57) (.tmp 59) 203 203 rfl 207 207 i0 (.agg #[.int .u64 0, .int .i64 0]) 2 Tryz.underlying203 Tryz.underlying203 HI.out.1 HI.out.2.1 HI.out.2.2.1 rfl (by decide) HI.out.2.2.2 (g + 1) a (some ⟨wr.heap.size, 0, none⟩) l.length c 1 1 (ofV l) [.int .u64 (t1 : Nat), .int .i64 (t2 : Nat)] (by simp [Act.eval, Act.put]) (by simp [Act.eval, Act.put]) (ofV_len l) rfl (by simp [Value.oneCell']) HR4.out.own HV4.out HL4.out (by have := HR4.out.lt; simp at this; simp; omega) ?_; intro a6 c6 w6 ho6 hg6 hn6; have hk6 := HR4.out.rowIn hg6; obtain ⟨y1, y3⟩ : w6.cell? ⟨g, 1, none⟩ = some (.slice a l.length c) ∧ w6.frozen? ⟨g, 1, none⟩ = false := ⟨by rw [cell_of_row w6 g 1 _ _ _ hk6]; rfl, frozen_of_row w6 g 1 _ _ hk6⟩))
      all_goals
        have HQ : Hid (RB (w6.setCell ⟨g, 1, none⟩ (.slice a6 (l.length + 1) c6)) g f (n + t2 : Nat) a6 c6 (l ++ [(t1, t2)]) ∧ Fr w (w6.setCell ⟨g, 1, none⟩ (.slice a6 (l.length + 1) c6)) g a ∧ Fresh w a a6) :=
          ⟨HR4.out.app1 (p := (t1, t2)) ho6 hg6, ((HH.out.2.2.below_trans HB4.out).app hg6).set _ _, by
            rcases hn6 with hn6 | ⟨_, k, hk, hk2⟩
            · exact .inl hn6
            · exact .inr ⟨k, hk, Nat.le_trans (Nat.le_trans HH.out.2.2.size HB4.out.size) hk2⟩⟩
        clear ho6 hg6 hn6 hk6
        go_wp2_with fail
        first | go_end0 | go_ret
        exact ⟨rfl, a6, c6, l ++ [(t1, t2)], HQ.out.1, bnO_snoc l (t1, t2), (fun r hr => by
          rcases List.mem_append.1 hr with hr | hr
          · exact HO.out.1 r hr
          · obtain rfl : r = (t1, t2) := by simpa using hr
            exact HO.out.2.2.1), (fun r hr => by
          rcases List.mem_append.1 hr with hr | hr
          · exact HO.out.2.1 r hr
          · obtain rfl : r = (t1, t2) := by simpa using hr
            exact HO.out.2.2.2), HQ.out.2.1, HQ.out.2.2⟩
end Go.Proofs.YteahdgbokjbgcaaGreatDoor
namespace Go.Proofs.YteahdgbokjbgcaaGreatDoor
open Go.RowKit
set_option maxRecDepth 10000
set_option linter.unusedVariables false
set_option linter.unusedSimpArgs false

theorem bnO_mem_le {l : List (Nat × Nat)} {q : Nat × Nat} (h : q ∈ l) : q.2 ≤ (bnO l).n := by
  obtain ⟨s, t, rfl⟩ := List.append_of_mem h
  rw [bnO_app, bnO_cons]
  show q.2 ≤ (bnO s).n + (q.2 + (bnO t).n)
  omega
theorem ofV_one : ∀ (l : List (Nat × Nat)), ∀ u ∈ ofV l, u.oneCell' = true
  | [], u, h => by simp [ofV] at h
  | p :: l, u, h => by
    simp only [ofV, List.mem_cons] at h
    rcases h with rfl | rfl | h
    · rfl
    · rfl
    · exact ofV_one l u h
theorem RB.drewN {w : World} {g : Nat} {f n : Int} {a : Option Addr} {c : Nat} {l : List (Nat × Nat)} (h : RB w g f n a c l) (q : Nat) : RB (w.drewN q) g f n a c l := ⟨h.row, by
  rcases h.own with h | ⟨g', p, t, h0, h1, h2, h3, h4⟩
  · exact .inl h
  · exact .inr ⟨g', p, t, h0, h1, h2, h3, h4⟩⟩
theorem RBx.drewN {w : World} {g f : Nat} {a : Option Addr} {A : Bn} (h : RBx w g f a A) (q : Nat) : RBx (w.drewN q) g f a A := by
  obtain ⟨c, l, h1, h2⟩ := h.ex
  exact ⟨h.le, c, l, h1.drewN q, h2⟩
theorem RBx.cells {w : World} {g f : Nat} {a : Option Addr} {A : Bn} (h : RBx w g f a A) : w.cell? ⟨g, 0, none⟩ = some (.int .i64 f) ∧ w.cell? ⟨g, 2, none⟩ = some (.int .i64 A.n) := by
  obtain ⟨c, l, h1, h2⟩ := h.ex
  obtain ⟨a, _, b, _, _⟩ := h1.cells
  exact ⟨a, b⟩
theorem below_none {w w' : World} (h : w.grownBy w' none) : Below w.heap.size w w' := ⟨h.os, h.tape, h.output, h.size, fun j hj => h.block j hj (by simp)⟩
def RMrgQ (A B : Bn) (g f f' : Nat) (a : Option Addr) (w : World) (en : Ending) (w' : World) : Prop :=
  ∃ a', (f ≠ f' ∧ en = .returned (.int .i64 1) ∧ RBx w' g f a' A ∨ f = f' ∧ 1099511627776 < A.n + B.n ∧ en = .returned (.int .i64 2) ∧ RBx w' g f a' A ∨ f = f' ∧ A.n + B.n ≤ 1099511627776 ∧ en = .returned (.int .i64 0) ∧ RBx w' g f a' (A.sum B)) ∧ Fr w w' g a ∧ Fresh w a a'
set_option maxHeartbeats 8000000 in
theorem rbmerge_any (A B : Bn) (g h f f' : Nat) (a a2 : Option Addr) (w : World) (hA : RBx w g f a A) (hB : RBx w h f' a2 B) :
    Calls Tryz.prog 88 #[.pointer (some ⟨g, 0, none⟩), .pointer (some ⟨h, 0, none⟩)] w (RMrgQ A B g f f' a w) := by
  obtain ⟨x0, x1⟩ := hA.cells
  obtain ⟨y0, y1⟩ := hB.cells
  have HA := Lib.hid hA; have HB := Lib.hid hB
  have na := hA.le; have nb := hB.le
  obtain ⟨i0, hi0, hz0, hs0, hb0⟩ := info_often
  have HI := Lib.hid (And.intro hi0 (And.intro hz0 (And.intro hs0 hb0)))
  clear hA hB hi0 hz0 hs0 hb0
  go_enter Tryz.func88, Tryz.ntmps88
  go_wp2_with fail
  by_cases e0 : f = f'
  case neg =>
    have e1 : ((f : Int) == (f' : Int)) = false := by rw [beq_eq_false_iff_ne]; omega
    have E0 := Lib.hid e0
    clear e0
    go_quiet (fail)
    go_wp2_with fail
    go_ret
    exact ⟨a, .inl ⟨E0.out, rfl, HA.out.drewN _⟩, (Fr.refl _ _ _).drewN _, Fresh.refl _ _⟩
  obtain rfl := e0
  go_quiet (fail)
  obtain ⟨w1, e1⟩ : ∃ W, W = w.drewN nq := ⟨_, rfl⟩
  rw [← e1]
  have HA1 : Hid (RBx w1 g f a A) := by rw [e1]; exact HA.out.drewN _
  have HB1 : Hid (RBx w1 h f a2 B) := by rw [e1]; exact HB.out.drewN _
  have HF1 : Hid (Below w.heap.size w w1) := by rw [e1]; exact below_drewN' (Below.refl _ _)
  clear e1 x0 x1 y0 y1 HA HB
  obtain ⟨x0, x1⟩ := HA1.out.cells
  obtain ⟨y0, y1⟩ := HB1.out.cells
  have s1 : IntKind.i64.wrap ((A.n : Int) + (B.n : Int)) = (A.n : Int) + (B.n : Int) := by rw [IntKind.wrap_i64]; omega
  by_cases e2 : 1099511627776 < A.n + B.n
  · have e3 : (1099511627776 : Int) < (A.n : Int) + (B.n : Int) := by omega
    have E2 := Lib.hid e2
    clear e2
    go_wp2_with fail
    go_quiet (fail)
    go_wp2_with fail
    go_ret
    exact ⟨a, .inr (.inl ⟨rfl, E2.out, rfl, HA1.out.drewN _⟩), (Fr.below HF1.out).drewN _, Fresh.refl _ _⟩
  have e3 : ¬ (1099511627776 : Int) < (A.n : Int) + (B.n : Int) := by omega
  have E2 : Hid (A.n + B.n ≤ 1099511627776) := by show _ ≤ _; omega
  clear e2
  go_wp2_with fail
  go_quiet (fail)
  obtain ⟨w2, e1⟩ : ∃ W, W = w1.drewN nq := ⟨_, rfl⟩
  rw [← e1]
  have HA2 : Hid (RBx w2 g f a A) := by rw [e1]; exact HA1.out.drewN _
  have HB2 : Hid (RBx w2 h f a2 B) := by rw [e1]; exact HB1.out.drewN _
  have HF2 : Hid (Below w.heap.size w w2) := by rw [e1]; exact below_drewN' HF1.out
  clear e1 x0 x1 y0 y1 HA1 HB1 HF1 na nb
  obtain ⟨c2, m, hm1, hm2, hm3, hm4⟩ := HB2.out.ex
  obtain ⟨_, y1, _, _, _⟩ := hm1.cells
  have hml := bnO_len_le hm4
  rw [hm2] at hml
  have HM := Lib.hid (And.intro hm1 (And.intro hm2 (And.intro hm3 hm4)))
  have HML : Hid (0 + m.length ≤ 1099511627776) := by have := E2.out; show _ ≤ _; omega
  clear hm1 hm2 hm3 hm4 hml
  go_wp2_with (first | (at_builtin; refine wpList_append_vals rfl _ _ 203 203 rfl 207 207 i0 (.agg #[.int .u64 0, .int .i64 0]) 2 Tryz.underlying203 Tryz.underlying203 HI.out.1 HI.out.2.1 HI.out.2.2.1 rfl (by decide) HI.out.2.2.2 w2.heap.size none a2 0 0 m.length c2 [] (ofV m) rfl rfl rfl (ofV_len m) (ofV_one m) (VOwn.none _ _ _ _) HM.out.1.own.rd HML.out (Nat.le_refl _) ?_; intro a5 c5 w5 ho5 hg5 hn5))
  have hb5 := below_none hg5
  have HA5 := Lib.hid (HA2.out.grow hb5)
  have HB5 := Lib.hid (HF2.out.trans (hb5.mono HF2.out.size))
  have ho6 : VOwn w5 207 2 w2.heap.size a5 c5 (ofV m) := by simpa using ho5
  have HO5 := Lib.hid ho6
  have HAl : Hid (∀ ad, a5 = some ad → ad.block ≠ g ∧ (∀ ad0, a = some ad0 → ad.block ≠ ad0.block) ∧ ad.block < w5.heap.size) := by
    intro ad had
    have h1 := ho5.ge ad had
    refine ⟨by have := HA2.out.lt; omega, fun ad0 h0 => ?_, ho5.lt ad had⟩
    obtain ⟨c1, l1, k1, _⟩ := HA2.out.ex
    have := k1.own.lt ad0 h0
    omega
  clear hb5 ho5 ho6 hg5 hn5 y1 HB2 HA2 HF2 e3 s1
  go_wp2_with fail
  go_loopw [6] (fun ii wr => ∃ (i : Nat) (a1 : Option Addr), i ≤ m.length ∧ ii = .int .i64 i ∧ Hid (RBx wr g f a1 (A.sum (bnO (m.take i))) ∧ Fr w5 wr g a ∧ Fresh w5 a a1)) (fun ii _ => m.length - (intOf ii).toNat)
  case atStart => exact ⟨0, a, Nat.zero_le _, rfl, by rw [List.take_zero]; show RBx _ _ _ _ (A.sum Bn.zero); rw [Bn.sum_zero]; exact HA5.out, Fr.refl _ _ _, Fresh.refl _ _⟩
  case round =>
    obtain ⟨i, a1, hi, rfl, hH⟩ := hrel
    have hml : m.length ≤ 1099511627776 := by have := HML.out; omega
    by_cases hq : i < m.length
    · obtain ⟨p, hp⟩ : ∃ p, m[i]? = some p := ⟨m[i], List.getElem?_eq_getElem hq⟩
      obtain ⟨g1, g2⟩ := ofV_get m i p hp
      obtain ⟨b, o, rfl, z0⟩ := HO5.out.rd _ _ g1
      obtain ⟨b', o', e', z1⟩ := HO5.out.rd _ _ g2
      cases e'
      obtain ⟨v1, v2, v3⟩ := HAl.out _ rfl
      have hbk := hH.out.2.1.block b v3 v1 v2
      have y0 : wr.cell? ⟨b, o + i * 2, none⟩ = some (.int .u64 (p.1 : Nat)) := by rw [World.cell?_of_block (w := w5) hbk]; exact z0
      have y1 : wr.cell? ⟨b, o + i * 2 + 1, none⟩ = some (.int .i64 (p.2 : Nat)) := by rw [World.cell?_of_block (w := w5) hbk]; exact z1
      have n1 : (0 : Int) ≤ (i : Int) := by omega
      have n2 : (i : Int) < (m.length : Int) := by omega
      have hmem := List.mem_of_getElem? hp
      have htk : bnO (m.take (i + 1)) = (bnO (m.take i)).sum (bnT p.2 p.1) := by rw [take_succ_get hp, bnO_snoc]
      have hmono := (bnO_mono (m.take (i + 1)) (m.drop (i + 1))).1
      rw [List.take_append_drop, HM.out.2.1, htk] at hmono
      have hnn : A.n + ((bnO (m.take i)).n + p.2) ≤ 1099511627776 := by
        have h1 : (bnO (m.take i)).n + p.2 ≤ B.n := hmono
        have := E2.out; omega
      have HC : Hid (Calls Tryz.prog 198 #[.pointer (some ⟨g, 0, none⟩), .agg #[.int .u64 (p.1 : Nat), .int .i64 (p.2 : Nat)]] wr fun en w' => en = .returned (.tuple #[]) ∧ ∃ a', RBx w' g f a' (A.sum (bnO (m.take (i + 1)))) ∧ Fr w5 w' g a ∧ Fresh w5 a a') := by
        obtain ⟨c1, l1, k1, k2, k3, k4⟩ := hH.out.1.ex
        have k5 := bnO_len_le k4
        rw [k2] at k5
        refine (rbmore_any g (A.sum (bnO (m.take i))).n f a1 c1 l1 p wr k3 k4 (HM.out.2.2.1 p hmem) (HM.out.2.2.2 p hmem) (by show A.n + (bnO (m.take i)).n + p.2 ≤ _; omega) k5 (fun q hq => by rw [← k2]; exact bnO_mem_le hq) k1).mono ?_
        rintro en w' ⟨rfl, a', c', l', j1, j2, j3, j4, j5, j6⟩
        refine ⟨rfl, a', ⟨?_, c', l', ?_, ?_, j3, j4⟩, hH.out.2.1.trans j5 hH.out.2.2, hH.out.2.2.trans j6 hH.out.2.1.size⟩
        · rw [htk]; show A.n + ((bnO (m.take i)).n + p.2) ≤ _; exact hnn
        · rw [htk]
          have e : (A.sum (bnO (m.take i))).n + p.2 = (A.sum ((bnO (m.take i)).sum (bnT p.2 p.1))).n := by show A.n + (bnO (m.take i)).n + p.2 = A.n + ((bnO (m.take i)).n + p.2); omega
          rw [← e]; exact j1
        · rw [j2, k2, htk, Bn.sum_assoc]
      clear hp g1 g2 z0 z1 v1 v2 v3 hbk hmem htk hmono hnn hH
      go_wp2_with fail
      refine HC.out.mono ?_; rintro en w6 ⟨rfl, a6, k1, k2, k3⟩
      have HU : Hid (RBx w6 g f a6 (A.sum (bnO (m.take (i + 1)))) ∧ Fr w5 w6 g a ∧ Fresh w5 a a6) := ⟨k1, k2, k3⟩
      clear k1 k2 k3
      go_wp2_with fail
      go_roundw
      case rel => exact ⟨i + 1, a6, by omega, by go_num, HU.out⟩
      case measure => simp [intOf]; omega
    · obtain rfl : i = m.length := by omega
      have hU := hH.out
      rw [List.take_length, HM.out.2.1] at hU
      have HU := Lib.hid hU
      clear hH hU
      go_wp2_with fail
      go_ret
      refine ⟨a1, .inr (.inr ⟨rfl, E2.out, rfl, HU.out.1⟩), (Fr.below HB5.out).trans HU.out.2.1 (Fresh.refl _ _), ?_⟩
      rcases HU.out.2.2 with h1 | ⟨k, h1, h2⟩
      · exact .inl h1
      · exact .inr ⟨k, h1, Nat.le_trans HB5.out.size h2⟩

theorem form_bd {A : Bn} (hA : A.Ok) {f : Nat} (hf : f ≤ 8) (e : Int) (he : e = 32 * ((A.len : Int) - 34 - f)) :
    ∃ d, formF false A.n e = some d ∧ Dy (-1408) 100 d ((A.n * 4294967296 ^ (A.len + 10 - f) : Nat) : Int) := by
  have hn := hA.n
  have hl := hA.len
  obtain ⟨j2, hj2⟩ : ∃ j, j = 2 := ⟨_, rfl⟩
  obtain ⟨j7, hj7⟩ : ∃ j, j = 100 := ⟨_, rfl⟩
  have hx : (e - -1408).toNat = 32 * (A.len + 10 - f) := by omega
  have h0 : A.n < 2 ^ (32 * j2) := by rw [hj2, show (2 : Nat) ^ (32 * 2) = 18446744073709551616 from rfl]; omega
  obtain ⟨d, h1, h2⟩ := Dy.form (s := false) (n := A.n) (e := e) (B := -1408) (j := j2) (J := j7) h0 (by omega) (by omega) ⟨by decide, by decide, by omega⟩ (by omega) (by
    rw [hx]
    refine Nat.lt_of_lt_of_le ((Nat.mul_lt_mul_right (Nat.two_pow_pos _)).2 h0) ?_
    rw [← Nat.pow_add]
    exact Nat.pow_le_pow_right (by decide) (by omega))
  refine ⟨d, h1, ?_⟩
  rw [hx, ← w32_pow, hj7] at h2
  have e1 : sgn false A.n * ((4294967296 ^ (A.len + 10 - f) : Nat) : Int) = ((A.n * 4294967296 ^ (A.len + 10 - f) : Nat) : Int) := by
    unfold sgn
    rw [if_neg (by decide), Int.natCast_mul]
  rw [e1] at h2
  exact h2
set_option maxHeartbeats 16000000 in
theorem rbbound_any (A : Bn) (g f : Nat) (a : Option Addr) (w : World) (hf : f ≤ 8) (h : RBx w g f a A) :
    Calls Tryz.prog 91 #[.pointer (some ⟨g, 0, none⟩)] w (BBdQ A f w) := by
  have hA := h.ok
  obtain ⟨c, l, h1, h2, h3, h4⟩ := h.ex
  have hll := bnO_len_le h4
  have hle := h.le
  rw [h2] at hll
  have HTop := rbtop_any g A.n f a c l w h3 (by omega) h1
  rw [h2] at HTop
  by_cases h0 : A.len = 0
  · rw [decide_eq_false (show ¬ 0 < A.len by omega)] at HTop
    have HTop := Lib.hid HTop
    have H0 := Lib.hid h0
    clear h0 hA h1 h2 h3 h4 hll hle h
    go_enter Tryz.func91, Tryz.ntmps91
    go_wp2_with fail
    refine HTop.out.mono ?_; rintro en w1 ⟨rfl, hb⟩
    have HB := Lib.hid hb
    clear hb
    go_wp2_with fail
    go_ret
    exact ⟨0, rfl, .inl ⟨H0.out, rfl⟩, HB.out⟩
  have hpos : 0 < A.len := by omega
  rw [decide_eq_true hpos] at HTop
  obtain ⟨tp, htp⟩ : ∃ tp, tp = (A.len : Int) - 35 := ⟨_, rfl⟩
  rw [← htp] at HTop
  have HTop := Lib.hid HTop
  have hln := hA.len
  obtain ⟨e, he⟩ : ∃ e, e = 32 * (tp - f + 1) := ⟨_, rfl⟩
  have e1 : IntKind.i64.wrap (tp - (f : Int)) = tp - f := by rw [IntKind.wrap_i64]; omega
  have e2 : IntKind.i64.wrap (tp - (f : Int) + 1) = tp - f + 1 := by rw [IntKind.wrap_i64]; omega
  have e3 : IntKind.i64.wrap (32 * (tp - (f : Int) + 1)) = e := by rw [IntKind.wrap_i64]; omega
  have e4 : IntKind.u64.wrap (A.n : Int) = (A.n : Int) := by rw [IntKind.wrap_u64]; omega
  obtain ⟨d, hfd, hd⟩ := form_bd hA hf e (by omega)
  have HX : Hid (∀ W, Below w.heap.size w W → RBx W g f a A) := fun W hW => h.grow hW
  have HCt : Hid (∀ W, Below w.heap.size w W → Calls Tryz.prog 93 #[.pointer (some ⟨g, 0, none⟩)] W fun en w' => en = .returned (.int .i64 A.n) ∧ W = w') := fun W hW => rbcount_any g f a A W (h.grow hW)
  have HOf : Hid (∀ W, Calls Tryz.prog 126 #[.int .u64 (A.n : Int)] W fun e w' => ∃ a' c', e = .returned (.slice a' (words A.n).length c') ∧ Own w' 118 W.heap.size a' c' (words A.n) ∧ Below W.heap.size W w') := fun W => rof_any A.n W (by omega)
  have hwl : (words A.n).length ≤ 2 := words_len_le (by rw [show (4294967296 : Nat) ^ 2 = 18446744073709551616 from rfl]; omega)
  have HMk : Hid (∀ W a c, Sl W a c (words A.n) → Calls Tryz.prog 201 #[.bool false, .slice a (words A.n).length c, .int .i64 e] W (OutDE d W)) := fun W a c hs => qMake (by rw [num_words]; exact hfd) a c W hs (by omega) (by omega) (by omega)
  have HRd : Hid (∀ W a c, (argOf d a c).Ok W → Calls Tryz.prog 178 #[.agg #[.bool d.neg, .slice a (words d.m).length c, .int .i64 d.exp], .int .i64 2] W fun en w' => (∃ (r : Nat) (er : Int), en = .returned (.tuple #[.float .f64 r, .int .i64 er]) ∧ RoundsTo 52 (-1074) 9218868437227405312 9223372036854775808 2 (some d) r er) ∧ Below W.heap.size W w') := by
    intro W a c ho
    have := rround_any (argOf d a c) 2 W ho
    rw [argF hd.is hd.ok] at this
    exact this
  have HQ : Hid (∀ r er, RoundsTo 52 (-1074) 9218868437227405312 9223372036854775808 2 (some d) r er → BdR A f r) := fun r er h => .inr ⟨hpos, d, er, hd, h⟩
  have HO := Lib.hid hd.ok
  have HG : Hid (g < w.heap.size) := h.lt
  clear hA h1 h2 h3 h4 hll hle h h0 hpos htp hln he hfd hd hwl
  go_enter Tryz.func91, Tryz.ntmps91
  go_wp2_with fail
  refine HTop.out.mono ?_; rintro en w1 ⟨rfl, hb⟩
  have HB1 := Lib.hid hb
  obtain ⟨x0, _⟩ := (HX.out w1 hb).cells
  have hg0 : g < w1.heap.size := by have := HG.out; have := hb.size; omega
  have m1 : w1.heap.size ≠ g := by omega
  clear hb
  go_upto_region 4 with fail
  have HS0 : Hid (BdS w1 w1.drew none none) := (BdS.refl w1).drew
  have HS1 : Hid (BdS w1 (w1.alloc (.cells #[.bool false, .slice none 0 0, .int .i64 0] 46)).drew none (some w1.heap.size)) := (BdS.refl w1).allocD.drew
  go_region_held3 (fun W => W.cell? ⟨g, 0, none⟩ = some (.int .i64 f)) (go_keep) (first
    | (go_at_call 93; (with_reducible refine (HCt.out _ (HB1.out.trans (HS0.out.bel.mono HB1.out.size))).mono ?_); rintro en w2 ⟨rfl, rfl⟩)
    | (go_at_call 93; (with_reducible refine (HCt.out _ (HB1.out.trans (HS1.out.bel.mono HB1.out.size))).mono ?_); rintro en w2 ⟨rfl, rfl⟩)
    | (go_at_call 126; (with_reducible refine (HOf.out w1.drew).mono ?_); rintro en w3 ⟨a3, c3, rfl, ho3, hb3⟩; have HT3 := Lib.hid (HS0.out.below hb3); have HO3 := Lib.hid ho3; have n5 : w3.heap.size ≠ g := (by have := HT3.out.bel.size; omega); obtain ⟨y0, _⟩ := (HX.out w3 (HB1.out.trans (HT3.out.bel.mono HB1.out.size))).cells; clear ho3 hb3)
    | (go_at_call 126; (with_reducible refine (HOf.out _).mono ?_); rintro en w3 ⟨a3, c3, rfl, ho3, hb3⟩; have HT3 := Lib.hid (HS1.out.below hb3); have HO3 := Lib.hid ho3; have n5 : w3.heap.size ≠ g := (by have := HT3.out.bel.size; omega); obtain ⟨_, _, _, _, _, _⟩ := (HT3.out.d _ rfl).1.facts; obtain ⟨y0, _⟩ := (HX.out w3 (HB1.out.trans (HT3.out.bel.mono HB1.out.size))).cells; clear ho3 hb3)
    | (go_at_call 201; (with_reducible refine (HMk.out w3 a3 c3 (HO3.out.sl (W32_words _))).mono ?_); rintro en w4 ⟨a4, c4, rfl, ho4, hb4⟩; simp only [DV]; have HT4 := Lib.hid (HT3.out.below hb4); have HO4 := Lib.hid ho4; have n7 : w4.heap.size ≠ g := (by have := HT4.out.bel.size; omega); obtain ⟨_, _, _, _, _, _⟩ := (HT4.out.d _ rfl).1.facts; obtain ⟨z0, _⟩ := (HX.out w4 (HB1.out.trans (HT4.out.bel.mono HB1.out.size))).cells; clear ho4 hb4)
    | (go_at_call 201; (with_reducible refine (HMk.out w3 a3 c3 (HO3.out.sl (W32_words _))).mono ?_); rintro en w4 ⟨a4, c4, rfl, ho4, hb4⟩; simp only [DV]; have HT4 := Lib.hid (HT3.out.below hb4); have HO4 := Lib.hid ho4; have n7 : w4.heap.size ≠ g := (by have := HT4.out.bel.size; omega); obtain ⟨z0, _⟩ := (HX.out w4 (HB1.out.trans (HT4.out.bel.mono HB1.out.size))).cells; clear ho4 hb4)
    | (go_at_call 201; have hS := HT3.out.allocD; (with_reducible refine (HMk.out _ a3 c3 ((HO3.out.grow ((Below.refl _ _).alloc (Nat.le_refl _) _)).sl (W32_words _))).mono ?_); rintro en w4 ⟨a4, c4, rfl, ho4, hb4⟩; simp only [DV]; have HT4 := Lib.hid (hS.below hb4); have HO4 := Lib.hid ho4; have n7 : w4.heap.size ≠ g := (by have := HT4.out.bel.size; omega); obtain ⟨_, _, _, _, _, _⟩ := (HT4.out.d _ rfl).1.facts; obtain ⟨z0, _⟩ := (HX.out w4 (HB1.out.trans (HT4.out.bel.mono HB1.out.size))).cells; clear ho4 hb4 hS))
  all_goals
    (first
      | (have HF := Lib.hid (HT4.out.fin HO.out HO4.out (by first | (have h := (HT3.out.d _ rfl).1.lt; simp only [World.size_alloc]; omega) | (have h := (HT3.out.d _ rfl).1.lt; omega) | (simp only [World.size_alloc]; omega))))
      | (have HF := Lib.hid (HT4.out.finA HO.out HO4.out)))
    try unfold wr3 at HF
    obtain ⟨_, _, _, _, _, _⟩ := HF.out.2.1.facts
    go_wp2_with fail
    refine (HRd.out _ a4 c4 HF.out.2.2).mono ?_; rintro en w8 ⟨⟨r, er, rfl, hr⟩, hb⟩
    have HX := Lib.hid (HQ.out r er hr)
    have HB8 := Lib.hid (HB1.out.trans ((HF.out.1.trans (hb.mono HF.out.1.size)).mono HB1.out.size))
    clear hr hb
    go_wp2_with fail
    go_ret
    exact ⟨r, rfl, HX.out, HB8.out⟩
end Go.Proofs.YteahdgbokjbgcaaGreatDoor
