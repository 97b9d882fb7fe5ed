/- Contract of bins.Bins.Merge. No statement of the seat is proved here. -/
import Derived.Test.YthdbapibbdkclaaDoorProg
import Derived.Test.YthdbapibbdkclaaDoorHe
namespace Go.Proofs.YthdbapibbdkclaaDoor
open Go.RowKit
set_option maxRecDepth 10000
set_option linter.unusedVariables false
set_option linter.unusedSimpArgs false

/-- while another's parts are added -/
def mgw (A B : Bn) (f u i k : Nat) : Int := if u ≤ k ∧ k < u + i then A.win f k + B.win f (k - u) else A.win f k
theorem mgw_zero (A B : Bn) (f u k : Nat) : mgw A B f u 0 k = A.win f k := if_neg (by omega)
theorem mgw_at (A B : Bn) (f u i : Nat) : mgw A B f u i (u + i) = A.win f (u + i) := if_neg (by omega)
theorem mgw_upd (A B : Bn) (f u i k : Nat) : upd (mgw A B f u i) (u + i) (mgw A B f u i (u + i) + B.win f i) k = mgw A B f u (i + 1) k := by
  rw [mgw_at]
  unfold upd mgw
  by_cases h : k = u + i
  · subst h
    rw [if_pos rfl, if_pos (show u ≤ u + i ∧ u + i < u + (i + 1) by omega), Nat.add_sub_cancel_left]
  · rw [if_neg h]
    by_cases h2 : u ≤ k ∧ k < u + i
    · rw [if_pos h2, if_pos (show u ≤ k ∧ k < u + (i + 1) by omega)]
    · rw [if_neg h2, if_neg (show ¬ (u ≤ k ∧ k < u + (i + 1)) by omega)]
/-- the greater one's place, before the parts are added -/
def Bn.wide (A B : Bn) : Bn := ⟨A.n + B.n, max A.len B.len, A.K⟩
theorem mgw_end {A B : Bn} (hA : ∀ i, A.len ≤ i → A.K i = 0) (hB : ∀ i, B.len ≤ i → B.K i = 0) {f u i : Nat} (hu : u + B.len = max A.len B.len) (hi : u + i ≤ f ∨ i = 0) (he : f ≤ u + i) (k : Nat) :
    mgw (A.wide B) B f u i k = (A.sum B).win f k := by
  unfold mgw Bn.win
  show (if u ≤ k ∧ k < u + i then (if k < f ∧ k < max A.len B.len then A.K (max A.len B.len - 1 - k) else 0) + (if k - u < f ∧ k - u < B.len then B.K (B.len - 1 - (k - u)) else 0) else (if k < f ∧ k < max A.len B.len then A.K (max A.len B.len - 1 - k) else 0)) = if k < f ∧ k < max A.len B.len then A.K (max A.len B.len - 1 - k) + B.K (max A.len B.len - 1 - k) else 0
  rw [← hu]
  by_cases h1 : k < f ∧ k < u + B.len
  · simp only [if_pos h1]
    by_cases h2 : u ≤ k
    · rw [if_pos (show u ≤ k ∧ k < u + i by omega), if_pos (show k - u < f ∧ k - u < B.len by omega), show B.len - 1 - (k - u) = u + B.len - 1 - k by omega]
    · rw [if_neg (show ¬ (u ≤ k ∧ k < u + i) by omega), hB (u + B.len - 1 - k) (by omega), Int.add_zero]
  · simp only [if_neg h1]
    by_cases h2 : u ≤ k ∧ k < u + i
    · rw [if_pos h2, if_neg (show ¬ (k - u < f ∧ k - u < B.len) by omega)]; rfl
    · rw [if_neg h2]
theorem Bn.wide_ok {A B : Bn} (hA : A.Ok) (hB : B.Ok) (hn : A.n + B.n ≤ 1099511627776) : (A.wide B).Ok := by
  refine ⟨fun i hi => ?_, fun i => ?_, hn, ?_⟩
  · have h : max A.len B.len ≤ i := hi
    exact hA.hi i (by omega)
  · have h := hA.bd i
    show (A.K i).natAbs ≤ (A.n + B.n) * 4294967295
    exact Nat.le_trans h (Nat.mul_le_mul_right _ (Nat.le_add_right _ _))
  · have h1 := hA.len; have h2 := hB.len
    show max A.len B.len ≤ 66
    omega
theorem sum_none {A B : Bn} (hB : B.Ok) (h : B.len = 0) : (⟨A.n + B.n, A.len, A.K⟩ : Bn) = A.sum B := by
  refine Bn.ext' rfl ?_ (funext fun i => ?_)
  · show A.len = max A.len B.len; omega
  · show A.K i = A.K i + B.K i
    rw [hB.hi i (by omega)]; omega
theorem gr_drewN {w w1 : World} {r : Option Nat} (h : w.grownBy w1 r) (n : Nat) : w.grownBy (w1.drewN n) r := ⟨h.os, h.tape, h.output, h.size, h.block⟩
/-- what Merge reads of the other one -/
structure OV (w : World) (h f : Nat) (B : Bn) : Prop where
  c0 : w.cell? ⟨h, 0, none⟩ = some (.int .i64 f)
  c2 : w.cell? ⟨h, 2, none⟩ = some (.bool (decide (0 < B.len)))
  c3 : w.cell? ⟨h, 3, none⟩ = some (.int .i64 (if 0 < B.len then (B.len : Int) - 35 else 0))
  p : ∀ j v, (rowsP (B.win f))[j]? = some v → w.cell? ⟨h, 4 + j, none⟩ = some v
  lt : h < w.heap.size
theorem BinAt.ov {w : World} {h f : Nat} {B : Bn} (k : BinAt w h f B) : OV w h f B := by
  obtain ⟨a, b, c, d⟩ := BinC.head k
  exact ⟨a, c, d, BinC.parts k, BinC.lt k⟩
theorem cell_off {w : World} {p q : Addr} (v : Value) (h : p.off ≠ q.off) : (w.setCell p v).cell? q = w.cell? q := World.cell?_setCell_other w p q v (fun e => h (by rw [e]))
theorem OV.setN {w : World} {g h f : Nat} {B : Bn} (k : OV w h f B) (v : Value) : OV (w.setCell ⟨g, 1, none⟩ v) h f B :=
  ⟨by rw [cell_off v (by simp)]; exact k.c0, by rw [cell_off v (by simp)]; exact k.c2, by rw [cell_off v (by simp)]; exact k.c3, fun j u hu => by rw [cell_off v (by show 1 ≠ 4 + j; omega)]; exact k.p j u hu, by simpa using k.lt⟩
theorem parts16 (h : Nat → Int) : rowsP h = [.int .u64 (loI (h 0)), .int .i64 (hiI (h 0)), .int .u64 (loI (h 1)), .int .i64 (hiI (h 1)), .int .u64 (loI (h 2)), .int .i64 (hiI (h 2)), .int .u64 (loI (h 3)), .int .i64 (hiI (h 3)), .int .u64 (loI (h 4)), .int .i64 (hiI (h 4)), .int .u64 (loI (h 5)), .int .i64 (hiI (h 5)), .int .u64 (loI (h 6)), .int .i64 (hiI (h 6)), .int .u64 (loI (h 7)), .int .i64 (hiI (h 7))] := rfl
theorem OV.drew {w : World} {h f : Nat} {B : Bn} (k : OV w h f B) : OV w.drew h f B := ⟨k.c0, k.c2, k.c3, k.p, k.lt⟩
def BMrgQ (A B : Bn) (g f f' : Nat) (w : World) (en : Ending) (w' : World) : Prop :=
  (f ≠ f' ∧ en = .returned (.int .i64 1) ∧ BinAt w' g f A ∨ f = f' ∧ 1099511627776 < A.n + B.n ∧ en = .returned (.int .i64 2) ∧ BinAt w' g f A ∨ f = f' ∧ A.n + B.n ≤ 1099511627776 ∧ en = .returned (.int .i64 0) ∧ BinAt w' g f (A.sum B)) ∧ w.grownBy w' (some g)
set_option maxHeartbeats 8000000 in
theorem bmerge_any (A B : Bn) (g h f f' : Nat) (w : World) (hA : A.Ok) (hB : B.Ok) (hf : f ≤ 8) (hg : BinAt w g f A) (hh : BinAt w h f' B) :
    Calls Tryd.prog 20 #[.pointer (some ⟨g, 0, none⟩), .pointer (some ⟨h, 0, none⟩)] w (BMrgQ A B g f f' w) := by
  obtain ⟨x0, x1, _, _⟩ := BinC.head hg
  obtain ⟨y0, y1, _, _⟩ := BinC.head hh
  have HG := Lib.hid hg; have HH := Lib.hid hh
  have HA := Lib.hid hA; have HB := Lib.hid hB
  have na := hA.n; have nb := hB.n
  clear hg hh hA hB
  go_enter Tryd.func20, Tryd.ntmps20
  go_wp2_with fail
  by_cases e0 : f = f'
  case neg =>
    have e1 : ((f : Int) == (f' : Int)) = false := by rw [beq_eq_false_iff_ne]; omega
    have E0 := Lib.hid e0
    clear e0
    go_quiet (fail)
    go_wp2_with fail
    go_ret
    exact ⟨.inl ⟨E0.out, rfl, HG.out⟩, gr_drewN (grown_refl _ _) _⟩
  obtain rfl := e0
  go_quiet (fail)
  obtain ⟨w1, e1⟩ : ∃ W, W = w.drewN nq := ⟨_, rfl⟩
  rw [← e1]
  have HG1 : Hid (BinAt w1 g f A) := by rw [e1]; exact HG.out
  have HH1 : Hid (BinAt w1 h f B) := by rw [e1]; exact HH.out
  have HW1 : Hid (w.grownBy w1 (some g)) := by rw [e1]; exact gr_drewN (grown_refl _ _) _
  clear e1 x0 x1 y0 y1 HG HH
  obtain ⟨x0, x1, _, _⟩ := BinC.head HG1.out
  obtain ⟨y0, y1, _, _⟩ := BinC.head HH1.out
  have s1 : IntKind.i64.wrap ((A.n : Int) + (B.n : Int)) = (A.n : Int) + (B.n : Int) := by rw [IntKind.wrap_i64]; omega
  by_cases e2 : 1099511627776 < A.n + B.n
  · have e3 : (1099511627776 : Int) < (A.n : Int) + (B.n : Int) := by omega
    have E2 := Lib.hid e2
    clear e2
    go_wp2_with fail
    go_quiet (fail)
    go_wp2_with fail
    go_ret
    exact ⟨.inr (.inl ⟨rfl, E2.out, rfl, HG1.out⟩), gr_drewN HW1.out _⟩
  have e3 : ¬ (1099511627776 : Int) < (A.n : Int) + (B.n : Int) := by omega
  have E2 : Hid (A.n + B.n ≤ 1099511627776) := by show _ ≤ _; omega
  clear e2
  go_wp2_with fail
  go_quiet (fail)
  obtain ⟨w2, e1⟩ : ∃ W, W = w1.drewN nq := ⟨_, rfl⟩
  rw [← e1]
  have HG2 : Hid (BinAt w2 g f A) := by rw [e1]; exact HG1.out
  have HH2 : Hid (BinAt w2 h f B) := by rw [e1]; exact HH1.out
  have HW2 : Hid (w.grownBy w2 (some g)) := by rw [e1]; exact gr_drewN HW1.out _
  clear e1 x0 x1 y0 y1 HG1 HH1 HW1
  obtain ⟨x0, x1, _, _⟩ := BinC.head HG2.out
  obtain ⟨y0, y1, _, _⟩ := BinC.head HH2.out
  have f1 := BinC.frozen HG2.out 1
  go_wp2_with fail
  go_cut [4] (fun t4 wx => t4 = .int .i64 0 ∧ BinAt wx g f ⟨A.n + B.n, A.len, A.K⟩ ∧ OV wx h f B ∧ w.grownBy wx (some g))
  case first =>
    go_region
    all_goals
      go_wp2_with fail
      go_meet
      case rel => exact ⟨rfl, BinC.setN HG2.out _, ((BinAt.ov HH2.out).setN _).drew, gr_drew (grown_set' HW2.out _ _)⟩
  obtain ⟨rfl, hBw, hO, hGw⟩ := hcut
  obtain ⟨w3, rfl⟩ : ∃ W, W = wc := ⟨_, rfl⟩
  clear x0 x1 y0 y1 f1 s1 HG2 HH2 HW2
  have HGw := Lib.hid hGw
  have HOv := Lib.hid hO
  have y2 := hO.c2
  by_cases hb0 : B.len = 0
  · rw [decide_eq_false (show ¬ 0 < B.len by omega)] at y2
    have HF : Hid (BinAt w3 g f (A.sum B)) := by rw [← sum_none HB.out hb0]; exact hBw
    clear hb0 hBw hO hGw
    go_wp2_with fail
    go_ret
    exact ⟨.inr (.inr ⟨rfl, E2.out, rfl, HF.out⟩), HGw.out⟩
  have y3 := hO.c3
  rw [decide_eq_true (show 0 < B.len by omega)] at y2
  rw [if_pos (show 0 < B.len by omega)] at y3
  obtain ⟨tp, htp⟩ : ∃ tp, tp = (B.len : Int) - 35 := ⟨_, rfl⟩
  rw [← htp] at y3
  have hl1 := HA.out.len
  have hl2 := HB.out.len
  have hltg := BinC.lt hBw
  obtain ⟨u, hu⟩ : ∃ u, u = max A.len B.len - B.len := ⟨_, rfl⟩
  have hu2 : u + B.len = max A.len B.len := by omega
  have hu3 : u ≤ 66 := by omega
  have HR : Hid (∀ W, BinAt W g f ⟨A.n + B.n, A.len, A.K⟩ → Calls Tryd.prog 67 #[.pointer (some ⟨g, 0, none⟩), .int .i64 tp] W fun en w' => en = .returned (.int .i64 (u : Int)) ∧ BinAt w' g f (A.wide B) ∧ W.grownBy w' (some g)) := by
    intro W hW
    refine (raise_any ⟨A.n + B.n, A.len, A.K⟩ g f (B.len - 1) tp W HA.out.hi (by show A.len ≤ 68; omega) (by omega) hf (by omega) (by omega) hW).mono ?_
    rintro en w' ⟨rfl, h2, h3⟩
    refine ⟨?_, ?_, h3⟩
    · show Ending.returned (Value.int .i64 (((max A.len (B.len - 1 + 1) : Nat) : Int) - 1 - ((B.len - 1 : Nat) : Int))) = _
      congr 2; omega
    · have e : (⟨A.n + B.n, A.len, A.K⟩ : Bn).rise (B.len - 1) = A.wide B := Bn.ext' rfl (by show max A.len (B.len - 1 + 1) = max A.len B.len; omega) rfl
      rw [← e]; exact h2
  obtain ⟨N, hN⟩ : ∃ N, N = (((A.wide B).n : Nat) : Int) := ⟨_, rfl⟩
  obtain ⟨an, han⟩ : ∃ an, an = decide (0 < (A.wide B).len) := ⟨_, rfl⟩
  obtain ⟨tq, htq⟩ : ∃ tq, tq = (if 0 < (A.wide B).len then ((A.wide B).len : Int) - 35 else 0) := ⟨_, rfl⟩
  have HS : Hid (∀ W, BinAt W g f (A.wide B) → BinC W g f N an tq (mgw (A.wide B) B f u 0)) := by
    intro W hW
    rw [hN, han, htq]
    exact BinC.congr hW fun k _ => (mgw_zero _ _ _ _ _).symm
  have HE : Hid (∀ W i, (u + i ≤ f ∨ i = 0) → f ≤ u + i → BinC W g f N an tq (mgw (A.wide B) B f u i) → BinAt W g f (A.sum B)) := by
    intro W i h1 h2 hW
    rw [hN, han, htq] at hW
    exact BinC.congr hW fun k _ => mgw_end HA.out.hi HB.out.hi hu2 h1 h2 k
  have hwo := Bn.wide_ok HA.out HB.out E2.out
  have HPd : Hid (∀ W i, u + i < f → BinC W g f N an tq (mgw (A.wide B) B f u i) → Calls Tryd.prog 68 #[.pointer (some ⟨g, 4 + (u + i) * 2, none⟩), .agg #[.int .u64 (loI (B.win f i)), .int .i64 (hiI (B.win f i))]] W fun en w' => en = .returned (.tuple #[]) ∧ BinC w' g f N an tq (mgw (A.wide B) B f u (i + 1)) ∧ W.grownBy w' (some g)) := by
    intro W i h1 hW
    refine (padd_any g (u + i) f N an tq (mgw (A.wide B) B f u i) (B.win f i) W hW (by omega) (by rw [mgw_at]; exact win_bd hwo _ _) (win_bd HB.out _ _)).mono ?_
    rintro en w' ⟨rfl, h2, h3⟩
    exact ⟨rfl, h2.congr fun k _ => mgw_upd _ _ _ _ _ k, h3⟩
  have HO0 : Hid (∀ W hh, BinC W g f N an tq hh → w3.grownBy W (some g) → W.cell? ⟨h, 0, none⟩ = some (.int .i64 f)) := by
    intro W hh hW hg
    by_cases e : h = g
    · rw [e]; exact hW.head.1
    · rw [World.cell?_of_block (w := w3) (hg.block h HOv.out.lt (by simpa using e))]; exact HOv.out.c0
  have hne : w3.heap.size ≠ h := by have := hO.lt; omega
  have hne2 : w3.heap.size ≠ g := by omega
  have HBw := Lib.hid hBw
  have q0 := hO.p 0 _ rfl
  have q1 := hO.p 1 _ rfl
  have q2 := hO.p 2 _ rfl
  have q3 := hO.p 3 _ rfl
  have q4 := hO.p 4 _ rfl
  have q5 := hO.p 5 _ rfl
  have q6 := hO.p 6 _ rfl
  have q7 := hO.p 7 _ rfl
  have q8 := hO.p 8 _ rfl
  have q9 := hO.p 9 _ rfl
  have qa := hO.p 10 _ rfl
  have qb := hO.p 11 _ rfl
  have qc := hO.p 12 _ rfl
  have qd := hO.p 13 _ rfl
  have qe := hO.p 14 _ rfl
  have qf := hO.p 15 _ rfl
  simp only [Nat.reduceAdd, Nat.add_zero] at q0 q1 q2 q3 q4 q5 q6 q7 q8 q9 qa qb qc qd qe qf
  have HP16 := Lib.hid (parts16 (B.win f))
  obtain ⟨v, hv⟩ : ∃ v, v = B.win f := ⟨_, rfl⟩
  rw [← hv] at HPd q0 q1 q2 q3 q4 q5 q6 q7 q8 q9 qa qb qc qd qe qf HP16
  clear hBw hO hGw htp hl1 hl2 hu hu2 hN han htq hwo hb0 hltg hv na nb
  go_wp2_with fail
  go_cut [5, 6] (fun t5 t6 wx => t5 = .int .i64 tp ∧ t6 = .pointer (some ⟨w3.heap.size, 0, none⟩) ∧ ParC wx w3.heap.size v ∧ Below w3.heap.size w3 wx)
  case first =>
    go_region_held3 (fun W => W.cell? ⟨h, 3, none⟩ = some (.int .i64 tp) ∧ W.cell? ⟨h, 4, none⟩ = some (.int .u64 (loI (v 0))) ∧ W.cell? ⟨h, 5, none⟩ = some (.int .i64 (hiI (v 0))) ∧ W.cell? ⟨h, 6, none⟩ = some (.int .u64 (loI (v 1))) ∧ W.cell? ⟨h, 7, none⟩ = some (.int .i64 (hiI (v 1))) ∧ W.cell? ⟨h, 8, none⟩ = some (.int .u64 (loI (v 2))) ∧ W.cell? ⟨h, 9, none⟩ = some (.int .i64 (hiI (v 2))) ∧ W.cell? ⟨h, 10, none⟩ = some (.int .u64 (loI (v 3))) ∧ W.cell? ⟨h, 11, none⟩ = some (.int .i64 (hiI (v 3))) ∧ W.cell? ⟨h, 12, none⟩ = some (.int .u64 (loI (v 4))) ∧ W.cell? ⟨h, 13, none⟩ = some (.int .i64 (hiI (v 4))) ∧ W.cell? ⟨h, 14, none⟩ = some (.int .u64 (loI (v 5))) ∧ W.cell? ⟨h, 15, none⟩ = some (.int .i64 (hiI (v 5))) ∧ W.cell? ⟨h, 16, none⟩ = some (.int .u64 (loI (v 6))) ∧ W.cell? ⟨h, 17, none⟩ = some (.int .i64 (hiI (v 6))) ∧ W.cell? ⟨h, 18, none⟩ = some (.int .u64 (loI (v 7))) ∧ W.cell? ⟨h, 19, none⟩ = some (.int .i64 (hiI (v 7)))) (go_keep) (fail)
    all_goals
      go_wp2_with fail
      go_meet
      case rel =>
        refine ⟨rfl, rfl, ?_, ((Below.refl _ _).alloc (Nat.le_refl _) _).drew⟩
        unfold ParC
        rw [HP16.out]
        exact heap_alloc_new _ _
  obtain ⟨rfl, rfl, hPc, hb4⟩ := hcut
  obtain ⟨w4, rfl⟩ : ∃ W, W = wc := ⟨_, rfl⟩
  have HP4 := Lib.hid hPc
  have HW4 : Hid (w3.grownBy w4 (some g)) := ⟨hb4.os, hb4.tape, hb4.output, hb4.size, fun j hj _ => hb4.block j hj⟩
  have HB4 : Hid (BinAt w4 g f ⟨A.n + B.n, A.len, A.K⟩) := BinC.grow HBw.out hb4
  clear q0 q1 q2 q3 q4 q5 q6 q7 q8 q9 qa qb qc qd qe qf hPc hb4 y2 y3 HP16 HBw
  go_wp2_with fail
  refine (HR.out w4 HB4.out).mono ?_; rintro en w5 ⟨rfl, hB5, hG5⟩
  have HC5 := Lib.hid (HS.out w5 hB5)
  have HP5 := Lib.hid (HP4.out.grown hG5 hne2)
  have HW5 := Lib.hid (gr_trans HW4.out hG5)
  clear hB5 hG5 HR HS
  go_wp2_with fail
  go_loopw [8] (fun ii wr => ∃ i : Nat, i ≤ f ∧ (u + i ≤ f ∨ i = 0) ∧ ii = .int .i64 i ∧ Hid (BinC wr g f N an tq (mgw (A.wide B) B f u i) ∧ ParC wr w3.heap.size v ∧ w3.grownBy wr (some g))) (fun ii _ => f - (intOf ii).toNat)
  case atStart => exact ⟨0, Nat.zero_le _, .inr rfl, rfl, HC5.out, HP5.out, HW5.out⟩
  case round =>
    obtain ⟨i, hi, hui, rfl, hH⟩ := hrel
    obtain ⟨z0, _, _, _⟩ := hH.out.1.head
    have z1 := HO0.out wr _ hH.out.1 hH.out.2.2
    obtain ⟨t, ht⟩ : ∃ t, t = u + i := ⟨_, rfl⟩
    have e4 : IntKind.i64.wrap ((u : Int) + (i : Int)) = (t : Int) := by rw [IntKind.wrap_i64]; omega
    by_cases q1 : i < f
    · by_cases q2 : t < f
      · obtain ⟨p0, p1⟩ := hH.out.2.1.part (j := i) (by omega)
        have HC := Lib.hid (HPd.out wr.drew i (by omega) hH.out.1)
        rw [← ht] at HC
        have HH := Lib.hid hH.out
        have hi8 : i < 8 := by omega
        have n1 : (0 : Int) ≤ (t : Int) := by omega
        have n2 : (t : Int) < 8 := by omega
        have n3 : (0 : Int) ≤ (i : Int) := by omega
        have n4 : (i : Int) < 8 := by omega
        have HT := Lib.hid ht
        clear ht hH hui
        go_wp2_with fail
        go_region_held3 (fun W => W.cell? ⟨w3.heap.size, i * 2, none⟩ = some (.int .u64 (loI (v i))) ∧ W.cell? ⟨w3.heap.size, i * 2 + 1, none⟩ = some (.int .i64 (hiI (v i)))) (go_keep) (first
          | (go_at_call 68; refine HC.out.mono ?_; rintro en w6 ⟨rfl, hb6, hg6⟩; have HB6 := Lib.hid hb6; have HP6 := Lib.hid (HH.out.2.1.grown (w' := w6) ⟨hg6.os, hg6.tape, hg6.output, hg6.size, hg6.block⟩ hne2); have HW6 := Lib.hid (gr_trans HH.out.2.2 (w2 := w6) ⟨hg6.os, hg6.tape, hg6.output, hg6.size, hg6.block⟩); obtain ⟨p0, p1⟩ := HP6.out.part (j := i) hi8; clear hb6 hg6))
        all_goals
          go_wp2_with fail
          go_roundw
          case rel => exact ⟨i + 1, by omega, .inl (by have := HT.out; omega), by go_num, HB6.out, HP6.out, HW6.out⟩
          case measure => simp [intOf]; omega
      · have HF := Lib.hid (HE.out wr i hui (by omega) hH.out.1)
        have HW := Lib.hid (gr_trans HGw.out hH.out.2.2)
        clear hH ht hui
        go_wp2_with fail
        go_ret
        exact ⟨.inr (.inr ⟨rfl, E2.out, rfl, HF.out⟩), HW.out⟩
    · have HF := Lib.hid (HE.out wr i hui (by omega) hH.out.1)
      have HW := Lib.hid (gr_trans HGw.out hH.out.2.2)
      clear hH ht hui
      go_wp2_with fail
      go_ret
      exact ⟨.inr (.inr ⟨rfl, E2.out, rfl, HF.out⟩), HW.out⟩
end Go.Proofs.YthdbapibbdkclaaDoor
