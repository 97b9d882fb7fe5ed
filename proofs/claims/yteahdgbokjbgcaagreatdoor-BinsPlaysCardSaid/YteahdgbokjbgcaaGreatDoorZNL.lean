/- Sums of bins over places, their value, and how far what is kept may lie from it. The bound of bins, the exact sum of a list's finite numbers, in numbers. Contract of bins.Bins.Merge. Contract of bins.Bins.Bound. No statement of the seat is proved here. -/
import Derived.Test.YteahdgbokjbgcaaGreatDoorProg
import Derived.Test.YteahdgbokjbgcaaGreatDoorZNI
import Derived.Test.YteahdgbokjbgcaaGreatDoorZMJ
import Derived.Test.YteahdgbokjbgcaaGreatDoorZNH
namespace Go.Proofs.YteahdgbokjbgcaaGreatDoor
open Go.RowKit
set_option linter.unusedVariables false
set_option linter.unusedSimpArgs false

/-- what all bins come to -/
def Bn.val (A : Bn) : Nat → Int
  | 0 => 0
  | k + 1 => A.val k + A.K k * ((4294967296 ^ k : Nat) : Int)
end Go.Proofs.YteahdgbokjbgcaaGreatDoor
namespace Go.Proofs.YteahdgbokjbgcaaGreatDoor
open Go.RowKit
set_option linter.unusedVariables false
set_option linter.unusedSimpArgs false

theorem Dy.lower {B : Int} {J : Nat} {d : D} {z : Int} (h : Dy B J d z) (k : Nat) {K : Nat} (hK : 32 * J + k ≤ 32 * K) : Dy (B - k) K d (z * ((2 ^ k : Nat) : Int)) := by
  refine ⟨h.is, h.ok, by have := h.ex; omega, by rw [z_down h.ex, h.val], ?_⟩
  rw [Int.natAbs_mul, Int.natAbs_natCast]
  refine Nat.lt_of_lt_of_le ((Nat.mul_lt_mul_right (Nat.two_pow_pos _)).2 h.sz) ?_
  rw [← Nat.pow_add]
  exact Nat.pow_le_pow_right (by decide) hK
/-- what Bound answers -/
def BdR (A : Bn) (f r : Nat) : Prop :=
  A.len = 0 ∧ r = 0 ∨ 0 < A.len ∧ ∃ d er, Dy (-1408) 100 d ((A.n * 4294967296 ^ (A.len + 10 - f) : Nat) : Int) ∧ RoundsTo 52 (-1074) 9218868437227405312 9223372036854775808 2 (some d) r er
theorem BdR.uniq {A : Bn} {f r r' : Nat} (h : BdR A f r) (h' : BdR A f r') : r = r' := by
  rcases h with ⟨a, rfl⟩ | ⟨a, d, er, h1, h2⟩ <;> rcases h' with ⟨a', rfl⟩ | ⟨a', d', er', h1', h2'⟩
  · rfl
  · omega
  · omega
  · obtain rfl := h1.uniq h1'
    exact (h2.uniq h2').1
end Go.Proofs.YteahdgbokjbgcaaGreatDoor
namespace Go.Proofs.YteahdgbokjbgcaaGreatDoor
open Go.RowKit
set_option maxRecDepth 10000
set_option linter.unusedVariables false
set_option linter.unusedSimpArgs false

/-- while another's parts are added -/
def mgw (A B : Bn) (f u i k : Nat) : Int := if u ≤ k ∧ k < u + i then A.win f k + B.win f (k - u) else A.win f k
theorem mgw_zero (A B : Bn) (f u k : Nat) : mgw A B f u 0 k = A.win f k := if_neg (by omega)
theorem mgw_at (A B : Bn) (f u i : Nat) : mgw A B f u i (u + i) = A.win f (u + i) := if_neg (by omega)
theorem mgw_upd (A B : Bn) (f u i k : Nat) : upd (mgw A B f u i) (u + i) (mgw A B f u i (u + i) + B.win f i) k = mgw A B f u (i + 1) k := by
  rw [mgw_at]
  unfold upd mgw
  by_cases h : k = u + i
  · subst h
    rw [if_pos rfl, if_pos (show u ≤ u + i ∧ u + i < u + (i + 1) by omega), Nat.add_sub_cancel_left]
  · rw [if_neg h]
    by_cases h2 : u ≤ k ∧ k < u + i
    · rw [if_pos h2, if_pos (show u ≤ k ∧ k < u + (i + 1) by omega)]
    · rw [if_neg h2, if_neg (show ¬ (u ≤ k ∧ k < u + (i + 1)) by omega)]
/-- the greater one's place, before the parts are added -/
def Bn.wide (A B : Bn) : Bn := ⟨A.n + B.n, max A.len B.len, A.K⟩
theorem mgw_end {A B : Bn} (hA : ∀ i, A.len ≤ i → A.K i = 0) (hB : ∀ i, B.len ≤ i → B.K i = 0) {f u i : Nat} (hu : u + B.len = max A.len B.len) (hi : u + i ≤ f ∨ i = 0) (he : f ≤ u + i) (k : Nat) :
    mgw (A.wide B) B f u i k = (A.sum B).win f k := by
  unfold mgw Bn.win
  show (if u ≤ k ∧ k < u + i then (if k < f ∧ k < max A.len B.len then A.K (max A.len B.len - 1 - k) else 0) + (if k - u < f ∧ k - u < B.len then B.K (B.len - 1 - (k - u)) else 0) else (if k < f ∧ k < max A.len B.len then A.K (max A.len B.len - 1 - k) else 0)) = if k < f ∧ k < max A.len B.len then A.K (max A.len B.len - 1 - k) + B.K (max A.len B.len - 1 - k) else 0
  rw [← hu]
  by_cases h1 : k < f ∧ k < u + B.len
  · simp only [if_pos h1]
    by_cases h2 : u ≤ k
    · rw [if_pos (show u ≤ k ∧ k < u + i by omega), if_pos (show k - u < f ∧ k - u < B.len by omega), show B.len - 1 - (k - u) = u + B.len - 1 - k by omega]
    · rw [if_neg (show ¬ (u ≤ k ∧ k < u + i) by omega), hB (u + B.len - 1 - k) (by omega), Int.add_zero]
  · simp only [if_neg h1]
    by_cases h2 : u ≤ k ∧ k < u + i
    · rw [if_pos h2, if_neg (show ¬ (k - u < f ∧ k - u < B.len) by omega)]; rfl
    · rw [if_neg h2]
theorem Bn.wide_ok {A B : Bn} (hA : A.Ok) (hB : B.Ok) (hn : A.n + B.n ≤ 1099511627776) : (A.wide B).Ok := by
  refine ⟨fun i hi => ?_, fun i => ?_, hn, ?_⟩
  · have h : max A.len B.len ≤ i := hi
    exact hA.hi i (by omega)
  · have h := hA.bd i
    show (A.K i).natAbs ≤ (A.n + B.n) * 4294967295
    exact Nat.le_trans h (Nat.mul_le_mul_right _ (Nat.le_add_right _ _))
  · have h1 := hA.len; have h2 := hB.len
    show max A.len B.len ≤ 66
    omega
theorem sum_none {A B : Bn} (hB : B.Ok) (h : B.len = 0) : (⟨A.n + B.n, A.len, A.K⟩ : Bn) = A.sum B := by
  refine Bn.ext' rfl ?_ (funext fun i => ?_)
  · show A.len = max A.len B.len; omega
  · show A.K i = A.K i + B.K i
    rw [hB.hi i (by omega)]; omega
theorem gr_drewN {w w1 : World} {r : Option Nat} (h : w.grownBy w1 r) (n : Nat) : w.grownBy (w1.drewN n) r := ⟨h.os, h.tape, h.output, h.size, h.block⟩
/-- what Merge reads of the other one -/
structure OV (w : World) (h f : Nat) (B : Bn) : Prop where
  c0 : w.cell? ⟨h, 0, none⟩ = some (.int .i64 f)
  c2 : w.cell? ⟨h, 2, none⟩ = some (.bool (decide (0 < B.len)))
  c3 : w.cell? ⟨h, 3, none⟩ = some (.int .i64 (if 0 < B.len then (B.len : Int) - 35 else 0))
  p : ∀ j v, (rowsP (B.win f))[j]? = some v → w.cell? ⟨h, 4 + j, none⟩ = some v
  lt : h < w.heap.size
theorem BinAt.ov {w : World} {h f : Nat} {B : Bn} (k : BinAt w h f B) : OV w h f B := by
  obtain ⟨a, b, c, d⟩ := BinC.head k
  exact ⟨a, c, d, BinC.parts k, BinC.lt k⟩
theorem cell_off {w : World} {p q : Addr} (v : Value) (h : p.off ≠ q.off) : (w.setCell p v).cell? q = w.cell? q := World.cell?_setCell_other w p q v (fun e => h (by rw [e]))
theorem OV.setN {w : World} {g h f : Nat} {B : Bn} (k : OV w h f B) (v : Value) : OV (w.setCell ⟨g, 1, none⟩ v) h f B :=
  ⟨by rw [cell_off v (by simp)]; exact k.c0, by rw [cell_off v (by simp)]; exact k.c2, by rw [cell_off v (by simp)]; exact k.c3, fun j u hu => by rw [cell_off v (by show 1 ≠ 4 + j; omega)]; exact k.p j u hu, by simpa using k.lt⟩
theorem parts16 (h : Nat → Int) : rowsP h = [.int .u64 (loI (h 0)), .int .i64 (hiI (h 0)), .int .u64 (loI (h 1)), .int .i64 (hiI (h 1)), .int .u64 (loI (h 2)), .int .i64 (hiI (h 2)), .int .u64 (loI (h 3)), .int .i64 (hiI (h 3)), .int .u64 (loI (h 4)), .int .i64 (hiI (h 4)), .int .u64 (loI (h 5)), .int .i64 (hiI (h 5)), .int .u64 (loI (h 6)), .int .i64 (hiI (h 6)), .int .u64 (loI (h 7)), .int .i64 (hiI (h 7))] := rfl
theorem OV.drew {w : World} {h f : Nat} {B : Bn} (k : OV w h f B) : OV w.drew h f B := ⟨k.c0, k.c2, k.c3, k.p, k.lt⟩
def BMrgQ (A B : Bn) (g f f' : Nat) (w : World) (en : Ending) (w' : World) : Prop :=
  (f ≠ f' ∧ en = .returned (.int .i64 1) ∧ BinAt w' g f A ∨ f = f' ∧ 1099511627776 < A.n + B.n ∧ en = .returned (.int .i64 2) ∧ BinAt w' g f A ∨ f = f' ∧ A.n + B.n ≤ 1099511627776 ∧ en = .returned (.int .i64 0) ∧ BinAt w' g f (A.sum B)) ∧ w.grownBy w' (some g)
set_option maxHeartbeats 8000000 in
theorem bmerge_any (A B : Bn) (g h f f' : Nat) (w : World) (hA : A.Ok) (hB : B.Ok) (hf : f ≤ 8) (hg : BinAt w g f A) (hh : BinAt w h f' B) :
    Calls Tryz.prog 87 #[.pointer (some ⟨g, 0, none⟩), .pointer (some ⟨h, 0, none⟩)] w (BMrgQ A B g f f' w) := by
  obtain ⟨x0, x1, _, _⟩ := BinC.head hg
  obtain ⟨y0, y1, _, _⟩ := BinC.head hh
  have HG := Lib.hid hg; have HH := Lib.hid hh
  have HA := Lib.hid hA; have HB := Lib.hid hB
  have na := hA.n; have nb := hB.n
  clear hg hh hA hB
  go_enter Tryz.func87, Tryz.ntmps87
  go_wp2_with fail
  by_cases e0 : f = f'
  case neg =>
    have e1 : ((f : Int) == (f' : Int)) = false := by rw [beq_eq_false_iff_ne]; omega
    have E0 := Lib.hid e0
    clear e0
    go_quiet (fail)
    go_wp2_with fail
    go_ret
    exact ⟨.inl ⟨E0.out, rfl, HG.out⟩, gr_drewN (grown_refl _ _) _⟩
  obtain rfl := e0
  go_quiet (fail)
  obtain ⟨w1, e1⟩ : ∃ W, W = w.drewN nq := ⟨_, rfl⟩
  rw [← e1]
  have HG1 : Hid (BinAt w1 g f A) := by rw [e1]; exact HG.out
  have HH1 : Hid (BinAt w1 h f B) := by rw [e1]; exact HH.out
  have HW1 : Hid (w.grownBy w1 (some g)) := by rw [e1]; exact gr_drewN (grown_refl _ _) _
  clear e1 x0 x1 y0 y1 HG HH
  obtain ⟨x0, x1, _, _⟩ := BinC.head HG1.out
  obtain ⟨y0, y1, _, _⟩ := BinC.head HH1.out
  have s1 : IntKind.i64.wrap ((A.n : Int) + (B.n : Int)) = (A.n : Int) + (B.n : Int) := by rw [IntKind.wrap_i64]; omega
  by_cases e2 : 1099511627776 < A.n + B.n
  · have e3 : (1099511627776 : Int) < (A.n : Int) + (B.n : Int) := by omega
    have E2 := Lib.hid e2
    clear e2
    go_wp2_with fail
    go_quiet (fail)
    go_wp2_with fail
    go_ret
    exact ⟨.inr (.inl ⟨rfl, E2.out, rfl, HG1.out⟩), gr_drewN HW1.out _⟩
  have e3 : ¬ (1099511627776 : Int) < (A.n : Int) + (B.n : Int) := by omega
  have E2 : Hid (A.n + B.n ≤ 1099511627776) := by show _ ≤ _; omega
  clear e2
  go_wp2_with fail
  go_quiet (fail)
  obtain ⟨w2, e1⟩ : ∃ W, W = w1.drewN nq := ⟨_, rfl⟩
  rw [← e1]
  have HG2 : Hid (BinAt w2 g f A) := by rw [e1]; exact HG1.out
  have HH2 : Hid (BinAt w2 h f B) := by rw [e1]; exact HH1.out
  have HW2 : Hid (w.grownBy w2 (some g)) := by rw [e1]; exact gr_drewN HW1.out _
  clear e1 x0 x1 y0 y1 HG1 HH1 HW1
  obtain ⟨x0, x1, _, _⟩ := BinC.head HG2.out
  obtain ⟨y0, y1, _, _⟩ := BinC.head HH2.out
  have f1 := BinC.frozen HG2.out 1
  go_wp2_with fail
  go_cut [4] (fun t4 wx => t4 = .int .i64 0 ∧ BinAt wx g f ⟨A.n + B.n, A.len, A.K⟩ ∧ OV wx h f B ∧ w.grownBy wx (some g))
  case first =>
    go_region
    all_goals
      go_wp2_with fail
      go_meet
      case rel => exact ⟨rfl, BinC.setN HG2.out _, ((BinAt.ov HH2.out).setN _).drew, gr_drew (grown_set' HW2.out _ _)⟩
  obtain ⟨rfl, hBw, hO, hGw⟩ := hcut
  obtain ⟨w3, rfl⟩ : ∃ W, W = wc := ⟨_, rfl⟩
  clear x0 x1 y0 y1 f1 s1 HG2 HH2 HW2
  have HGw := Lib.hid hGw
  have HOv := Lib.hid hO
  have y2 := hO.c2
  by_cases hb0 : B.len = 0
  · rw [decide_eq_false (show ¬ 0 < B.len by omega)] at y2
    have HF : Hid (BinAt w3 g f (A.sum B)) := by rw [← sum_none HB.out hb0]; exact hBw
    clear hb0 hBw hO hGw
    go_wp2_with fail
    go_ret
    exact ⟨.inr (.inr ⟨rfl, E2.out, rfl, HF.out⟩), HGw.out⟩
  have y3 := hO.c3
  rw [decide_eq_true (show 0 < B.len by omega)] at y2
  rw [if_pos (show 0 < B.len by omega)] at y3
  obtain ⟨tp, htp⟩ : ∃ tp, tp = (B.len : Int) - 35 := ⟨_, rfl⟩
  rw [← htp] at y3
  have hl1 := HA.out.len
  have hl2 := HB.out.len
  have hltg := BinC.lt hBw
  obtain ⟨u, hu⟩ : ∃ u, u = max A.len B.len - B.len := ⟨_, rfl⟩
  have hu2 : u + B.len = max A.len B.len := by omega
  have hu3 : u ≤ 66 := by omega
  have HR : Hid (∀ W, BinAt W g f ⟨A.n + B.n, A.len, A.K⟩ → Calls Tryz.prog 194 #[.pointer (some ⟨g, 0, none⟩), .int .i64 tp] W fun en w' => en = .returned (.int .i64 (u : Int)) ∧ BinAt w' g f (A.wide B) ∧ W.grownBy w' (some g)) := by
    intro W hW
    refine (raise_any ⟨A.n + B.n, A.len, A.K⟩ g f (B.len - 1) tp W HA.out.hi (by show A.len ≤ 68; omega) (by omega) hf (by omega) (by omega) hW).mono ?_
    rintro en w' ⟨rfl, h2, h3⟩
    refine ⟨?_, ?_, h3⟩
    · show Ending.returned (Value.int .i64 (((max A.len (B.len - 1 + 1) : Nat) : Int) - 1 - ((B.len - 1 : Nat) : Int))) = _
      congr 2; omega
    · have e : (⟨A.n + B.n, A.len, A.K⟩ : Bn).rise (B.len - 1) = A.wide B := Bn.ext' rfl (by show max A.len (B.len - 1 + 1) = max A.len B.len; omega) rfl
      rw [← e]; exact h2
  obtain ⟨N, hN⟩ : ∃ N, N = (((A.wide B).n : Nat) : Int) := ⟨_, rfl⟩
  obtain ⟨an, han⟩ : ∃ an, an = decide (0 < (A.wide B).len) := ⟨_, rfl⟩
  obtain ⟨tq, htq⟩ : ∃ tq, tq = (if 0 < (A.wide B).len then ((A.wide B).len : Int) - 35 else 0) := ⟨_, rfl⟩
  have HS : Hid (∀ W, BinAt W g f (A.wide B) → BinC W g f N an tq (mgw (A.wide B) B f u 0)) := by
    intro W hW
    rw [hN, han, htq]
    exact BinC.congr hW fun k _ => (mgw_zero _ _ _ _ _).symm
  have HE : Hid (∀ W i, (u + i ≤ f ∨ i = 0) → f ≤ u + i → BinC W g f N an tq (mgw (A.wide B) B f u i) → BinAt W g f (A.sum B)) := by
    intro W i h1 h2 hW
    rw [hN, han, htq] at hW
    exact BinC.congr hW fun k _ => mgw_end HA.out.hi HB.out.hi hu2 h1 h2 k
  have hwo := Bn.wide_ok HA.out HB.out E2.out
  have HPd : Hid (∀ W i, u + i < f → BinC W g f N an tq (mgw (A.wide B) B f u i) → Calls Tryz.prog 195 #[.pointer (some ⟨g, 4 + (u + i) * 2, none⟩), .agg #[.int .u64 (loI (B.win f i)), .int .i64 (hiI (B.win f i))]] W fun en w' => en = .returned (.tuple #[]) ∧ BinC w' g f N an tq (mgw (A.wide B) B f u (i + 1)) ∧ W.grownBy w' (some g)) := by
    intro W i h1 hW
    refine (padd_any g (u + i) f N an tq (mgw (A.wide B) B f u i) (B.win f i) W hW (by omega) (by rw [mgw_at]; exact win_bd hwo _ _) (win_bd HB.out _ _)).mono ?_
    rintro en w' ⟨rfl, h2, h3⟩
    exact ⟨rfl, h2.congr fun k _ => mgw_upd _ _ _ _ _ k, h3⟩
  have HO0 : Hid (∀ W hh, BinC W g f N an tq hh → w3.grownBy W (some g) → W.cell? ⟨h, 0, none⟩ = some (.int .i64 f)) := by
    intro W hh hW hg
    by_cases e : h = g
    · rw [e]; exact hW.head.1
    · rw [World.cell?_of_block (w := w3) (hg.block h HOv.out.lt (by simpa using e))]; exact HOv.out.c0
  have hne : w3.heap.size ≠ h := by have := hO.lt; omega
  have hne2 : w3.heap.size ≠ g := by omega
  have HBw := Lib.hid hBw
  have q0 := hO.p 0 _ rfl
  have q1 := hO.p 1 _ rfl
  have q2 := hO.p 2 _ rfl
  have q3 := hO.p 3 _ rfl
  have q4 := hO.p 4 _ rfl
  have q5 := hO.p 5 _ rfl
  have q6 := hO.p 6 _ rfl
  have q7 := hO.p 7 _ rfl
  have q8 := hO.p 8 _ rfl
  have q9 := hO.p 9 _ rfl
  have qa := hO.p 10 _ rfl
  have qb := hO.p 11 _ rfl
  have qc := hO.p 12 _ rfl
  have qd := hO.p 13 _ rfl
  have qe := hO.p 14 _ rfl
  have qf := hO.p 15 _ rfl
  simp only [Nat.reduceAdd, Nat.add_zero] at q0 q1 q2 q3 q4 q5 q6 q7 q8 q9 qa qb qc qd qe qf
  have HP16 := Lib.hid (parts16 (B.win f))
  obtain ⟨v, hv⟩ : ∃ v, v = B.win f := ⟨_, rfl⟩
  rw [← hv] at HPd q0 q1 q2 q3 q4 q5 q6 q7 q8 q9 qa qb qc qd qe qf HP16
  clear hBw hO hGw htp hl1 hl2 hu hu2 hN han htq hwo hb0 hltg hv na nb
  go_wp2_with fail
  go_cut [5, 6] (fun t5 t6 wx => t5 = .int .i64 tp ∧ t6 = .pointer (some ⟨w3.heap.size, 0, none⟩) ∧ ParC wx w3.heap.size v ∧ Below w3.heap.size w3 wx)
  case first =>
    go_region_held3 (fun W => W.cell? ⟨h, 3, none⟩ = some (.int .i64 tp) ∧ W.cell? ⟨h, 4, none⟩ = some (.int .u64 (loI (v 0))) ∧ W.cell? ⟨h, 5, none⟩ = some (.int .i64 (hiI (v 0))) ∧ W.cell? ⟨h, 6, none⟩ = some (.int .u64 (loI (v 1))) ∧ W.cell? ⟨h, 7, none⟩ = some (.int .i64 (hiI (v 1))) ∧ W.cell? ⟨h, 8, none⟩ = some (.int .u64 (loI (v 2))) ∧ W.cell? ⟨h, 9, none⟩ = some (.int .i64 (hiI (v 2))) ∧ W.cell? ⟨h, 10, none⟩ = some (.int .u64 (loI (v 3))) ∧ W.cell? ⟨h, 11, none⟩ = some (.int .i64 (hiI (v 3))) ∧ W.cell? ⟨h, 12, none⟩ = some (.int .u64 (loI (v 4))) ∧ W.cell? ⟨h, 13, none⟩ = some (.int .i64 (hiI (v 4))) ∧ W.cell? ⟨h, 14, none⟩ = some (.int .u64 (loI (v 5))) ∧ W.cell? ⟨h, 15, none⟩ = some (.int .i64 (hiI (v 5))) ∧ W.cell? ⟨h, 16, none⟩ = some (.int .u64 (loI (v 6))) ∧ W.cell? ⟨h, 17, none⟩ = some (.int .i64 (hiI (v 6))) ∧ W.cell? ⟨h, 18, none⟩ = some (.int .u64 (loI (v 7))) ∧ W.cell? ⟨h, 19, none⟩ = some (.int .i64 (hiI (v 7)))) (go_keep) (fail)
    all_goals
      go_wp2_with fail
      go_meet
      case rel =>
        refine ⟨rfl, rfl, ?_, ((Below.refl _ _).alloc (Nat.le_refl _) _).drew⟩
        unfold ParC
        rw [HP16.out]
        exact heap_alloc_new _ _
  obtain ⟨rfl, rfl, hPc, hb4⟩ := hcut
  obtain ⟨w4, rfl⟩ : ∃ W, W = wc := ⟨_, rfl⟩
  have HP4 := Lib.hid hPc
  have HW4 : Hid (w3.grownBy w4 (some g)) := ⟨hb4.os, hb4.tape, hb4.output, hb4.size, fun j hj _ => hb4.block j hj⟩
  have HB4 : Hid (BinAt w4 g f ⟨A.n + B.n, A.len, A.K⟩) := BinC.grow HBw.out hb4
  clear q0 q1 q2 q3 q4 q5 q6 q7 q8 q9 qa qb qc qd qe qf hPc hb4 y2 y3 HP16 HBw
  go_wp2_with fail
  refine (HR.out w4 HB4.out).mono ?_; rintro en w5 ⟨rfl, hB5, hG5⟩
  have HC5 := Lib.hid (HS.out w5 hB5)
  have HP5 := Lib.hid (HP4.out.grown hG5 hne2)
  have HW5 := Lib.hid (gr_trans HW4.out hG5)
  clear hB5 hG5 HR HS
  go_wp2_with fail
  go_loopw [8] (fun ii wr => ∃ i : Nat, i ≤ f ∧ (u + i ≤ f ∨ i = 0) ∧ ii = .int .i64 i ∧ Hid (BinC wr g f N an tq (mgw (A.wide B) B f u i) ∧ ParC wr w3.heap.size v ∧ w3.grownBy wr (some g))) (fun ii _ => f - (intOf ii).toNat)
  case atStart => exact ⟨0, Nat.zero_le _, .inr rfl, rfl, HC5.out, HP5.out, HW5.out⟩
  case round =>
    obtain ⟨i, hi, hui, rfl, hH⟩ := hrel
    obtain ⟨z0, _, _, _⟩ := hH.out.1.head
    have z1 := HO0.out wr _ hH.out.1 hH.out.2.2
    obtain ⟨t, ht⟩ : ∃ t, t = u + i := ⟨_, rfl⟩
    have e4 : IntKind.i64.wrap ((u : Int) + (i : Int)) = (t : Int) := by rw [IntKind.wrap_i64]; omega
    by_cases q1 : i < f
    · by_cases q2 : t < f
      · obtain ⟨p0, p1⟩ := hH.out.2.1.part (j := i) (by omega)
        have HC := Lib.hid (HPd.out wr.drew i (by omega) hH.out.1)
        rw [← ht] at HC
        have HH := Lib.hid hH.out
        have hi8 : i < 8 := by omega
        have n1 : (0 : Int) ≤ (t : Int) := by omega
        have n2 : (t : Int) < 8 := by omega
        have n3 : (0 : Int) ≤ (i : Int) := by omega
        have n4 : (i : Int) < 8 := by omega
        have HT := Lib.hid ht
        clear ht hH hui
        go_wp2_with fail
        go_region_held3 (fun W => W.cell? ⟨w3.heap.size, i * 2, none⟩ = some (.int .u64 (loI (v i))) ∧ W.cell? ⟨w3.heap.size, i * 2 + 1, none⟩ = some (.int .i64 (hiI (v i)))) (go_keep) (first
          | (go_at_call 195; refine HC.out.mono ?_; rintro en w6 ⟨rfl, hb6, hg6⟩; have HB6 := Lib.hid hb6; have HP6 := Lib.hid (HH.out.2.1.grown (w' := w6) ⟨hg6.os, hg6.tape, hg6.output, hg6.size, hg6.block⟩ hne2); have HW6 := Lib.hid (gr_trans HH.out.2.2 (w2 := w6) ⟨hg6.os, hg6.tape, hg6.output, hg6.size, hg6.block⟩); obtain ⟨p0, p1⟩ := HP6.out.part (j := i) hi8; clear hb6 hg6))
        all_goals
          go_wp2_with fail
          go_roundw
          case rel => exact ⟨i + 1, by omega, .inl (by have := HT.out; omega), by go_num, HB6.out, HP6.out, HW6.out⟩
          case measure => simp [intOf]; omega
      · have HF := Lib.hid (HE.out wr i hui (by omega) hH.out.1)
        have HW := Lib.hid (gr_trans HGw.out hH.out.2.2)
        clear hH ht hui
        go_wp2_with fail
        go_ret
        exact ⟨.inr (.inr ⟨rfl, E2.out, rfl, HF.out⟩), HW.out⟩
    · have HF := Lib.hid (HE.out wr i hui (by omega) hH.out.1)
      have HW := Lib.hid (gr_trans HGw.out hH.out.2.2)
      clear hH ht hui
      go_wp2_with fail
      go_ret
      exact ⟨.inr (.inr ⟨rfl, E2.out, rfl, HF.out⟩), HW.out⟩
end Go.Proofs.YteahdgbokjbgcaaGreatDoor
namespace Go.Proofs.YteahdgbokjbgcaaGreatDoor
open Go.RowKit
set_option maxRecDepth 10000
set_option linter.unusedVariables false
set_option linter.unusedSimpArgs false

/-- the Dyads of a bound -/
theorem bd_dy {A : Bn} (hA : A.Ok) {f : Nat} (hf : f ≤ 8) (e : Int) (he : e = 32 * ((A.len : Int) - 34 - f)) :
    ∃ p q d, intF (A.n : Int) = some p ∧ p.Is ∧ p.Ok ∧ formF false 1 e = some q ∧ mulD p q = some d ∧ Dy (-1408) 100 d ((A.n * 4294967296 ^ (A.len + 10 - f) : Nat) : Int) := by
  have hn := hA.n
  have hl := hA.len
  obtain ⟨j2, hj2⟩ : ∃ j, j = 2 := ⟨_, rfl⟩
  obtain ⟨j7, hj7⟩ : ∃ j, j = 77 := ⟨_, rfl⟩
  obtain ⟨j1, hj1⟩ : ∃ j, j = 1 := ⟨_, rfl⟩
  obtain ⟨p, h1, h2⟩ := Dy.int (n := (A.n : Int)) (J := j2) (by rw [hj2, show (2 : Nat) ^ (32 * 2) = 18446744073709551616 from rfl]; omega) (by omega)
  have hx : (e - -1408).toNat = 32 * (A.len + 10 - f) := by omega
  obtain ⟨q, h3, h4⟩ := Dy.form (s := false) (n := 1) (e := e) (B := -1408) (j := j1) (J := j7) (by rw [hj1]; decide) (by omega) (by omega) ⟨by decide, by decide, by omega⟩ (by omega) (by
    rw [hx, Nat.one_mul]
    exact Nat.pow_lt_pow_right (by decide) (by omega))
  obtain ⟨d, h5, h6⟩ := h2.mul h4 ⟨by decide, by decide, by omega⟩
  refine ⟨p, q, d, h1, h2.is, h2.ok, h3, h5, ?_⟩
  have h7 := h6.up (K := 100) (by omega)
  rw [Int.zero_add, hx, ← w32_pow] at h7
  have e1 : (A.n : Int) * (sgn false 1 * ((4294967296 ^ (A.len + 10 - f) : Nat) : Int)) = ((A.n * 4294967296 ^ (A.len + 10 - f) : Nat) : Int) := by
    unfold sgn
    rw [if_neg (by decide), Int.natCast_mul]
    simp
  rw [e1] at h7
  exact h7
/-- while the product is made: the other factor's words, the place of the outcome -/
structure BdS (w W : World) (s d : Option Nat) : Prop where
  bel : Below w.heap.size w W
  s : ∀ k, s = some k → Blk W 118 k [1]
  d : ∀ k, d = some k → Cel W k (.bool false) (.slice none 0 0) (.int .i64 0) ∧ w.heap.size ≤ k
theorem BdS.refl (w : World) : BdS w w none none := ⟨Below.refl _ _, (fun _ h => nomatch h), (fun _ h => nomatch h)⟩
theorem BdS.drew {w W : World} {s d : Option Nat} (h : BdS w W s d) : BdS w W.drew s d := ⟨h.bel.drew, h.s, h.d⟩
theorem BdS.below {w W W' : World} {s d : Option Nat} (h : BdS w W s d) (hb : Below W.heap.size W W') : BdS w W' s d :=
  ⟨h.bel.trans (hb.mono h.bel.size), fun k hk => (h.s k hk).grow hb, fun k hk => ⟨(h.d k hk).1.below hb (h.d k hk).1.lt, (h.d k hk).2⟩⟩
theorem BdS.allocS {w W : World} {d : Option Nat} (h : BdS w W none d) : BdS w (W.alloc (.cells #[.int .u32 1] 118)) (some W.heap.size) d := by
  have h1 := h.below ((Below.refl W.heap.size W).alloc (Nat.le_refl _) (.cells #[.int .u32 1] 118))
  refine ⟨h1.bel, fun k hk => ?_, h1.d⟩
  cases hk
  exact blk_alloc W 118 #[.int .u32 1] [1] rfl
theorem BdS.allocD {w W : World} {s : Option Nat} (h : BdS w W s none) : BdS w (W.alloc (.cells #[.bool false, .slice none 0 0, .int .i64 0] 46)) s (some W.heap.size) := by
  have h1 := h.below ((Below.refl W.heap.size W).alloc (Nat.le_refl _) (.cells #[.bool false, .slice none 0 0, .int .i64 0] 46))
  refine ⟨h1.bel, h1.s, fun k hk => ?_⟩
  cases hk
  exact ⟨Cel.new _ _ _ _, h.bel.size⟩
theorem BdS.fin {w W : World} {s : Option Nat} {k b : Nat} {d : D} {a : Option Addr} {c : Nat} (h : BdS w W s (some k)) (ok : d.Ok) (ho : Own W 118 b a c (words d.m)) (hb : k < b) :
    Below w.heap.size w (wr3 W k (.bool d.neg) (.slice a (words d.m).length c) (.int .i64 d.exp)) ∧ Cel (wr3 W k (.bool d.neg) (.slice a (words d.m).length c) (.int .i64 d.exp)) k (.bool d.neg) (.slice a (words d.m).length c) (.int .i64 d.exp) ∧ (argOf d a c).Ok (wr3 W k (.bool d.neg) (.slice a (words d.m).length c) (.int .i64 d.exp)) :=
  ⟨below_wr3 h.bel (h.d k rfl).2, (h.d k rfl).1.wr _ _ _, (own_wr3 ho hb).arg ok⟩
theorem BdS.finA {w W : World} {s : Option Nat} {b : Nat} {d : D} {a : Option Addr} {c : Nat} (h : BdS w W s none) (ok : d.Ok) (ho : Own W 118 b a c (words d.m)) :
    Below w.heap.size w (W.alloc (.cells #[.bool d.neg, .slice a (words d.m).length c, .int .i64 d.exp] 46)) ∧ Cel (W.alloc (.cells #[.bool d.neg, .slice a (words d.m).length c, .int .i64 d.exp] 46)) W.heap.size (.bool d.neg) (.slice a (words d.m).length c) (.int .i64 d.exp) ∧ (argOf d a c).Ok (W.alloc (.cells #[.bool d.neg, .slice a (words d.m).length c, .int .i64 d.exp] 46)) := by
  have hb : Below W.heap.size W (W.alloc (.cells #[.bool d.neg, .slice a (words d.m).length c, .int .i64 d.exp] 46)) := (Below.refl _ _).alloc (Nat.le_refl _) _
  exact ⟨h.bel.trans (hb.mono h.bel.size), Cel.new _ _ _ _, (ho.grow hb).arg ok⟩
def BBdQ (A : Bn) (f : Nat) (w : World) (en : Ending) (w' : World) : Prop := ∃ r, en = .returned (.float .f64 r) ∧ BdR A f r ∧ Below w.heap.size w w'
set_option maxHeartbeats 16000000 in
theorem bbound_any (A : Bn) (g f : Nat) (w : World) (hA : A.Ok) (hf : f ≤ 8) (hB : BinAt w g f A) (hT : Tab w) :
    Calls Tryz.prog 81 #[.pointer (some ⟨g, 0, none⟩)] w (BBdQ A f w) := by
  obtain ⟨x0, x1, x2, x3⟩ := BinC.head hB
  by_cases h0 : A.len = 0
  · rw [decide_eq_false (show ¬ 0 < A.len by omega)] at x2
    have H0 := Lib.hid h0
    clear h0 hB
    go_enter Tryz.func81, Tryz.ntmps81
    go_wp2_with fail
    go_ret
    exact ⟨0, rfl, .inl ⟨H0.out, rfl⟩, Below.refl _ _⟩
  have hpos : 0 < A.len := by omega
  rw [decide_eq_true hpos] at x2
  rw [if_pos hpos] at x3
  obtain ⟨tp, htp⟩ : ∃ tp, tp = (A.len : Int) - 35 := ⟨_, rfl⟩
  rw [← htp] at x3
  have hln := hA.len
  have hn := hA.n
  obtain ⟨e, he⟩ : ∃ e, e = 32 * (tp - f + 1) := ⟨_, rfl⟩
  have e1 : IntKind.i64.wrap (tp - (f : Int)) = tp - f := by rw [IntKind.wrap_i64]; omega
  have e2 : IntKind.i64.wrap (tp - (f : Int) + 1) = tp - f + 1 := by rw [IntKind.wrap_i64]; omega
  have e3 : IntKind.i64.wrap (32 * (tp - (f : Int) + 1)) = e := by rw [IntKind.wrap_i64]; omega
  obtain ⟨p, q, d, hp, hpi, hpo, hq, hm, hd⟩ := bd_dy hA hf e (by omega)
  have HC : Hid (∀ W, Below w.heap.size w W → W.cell? ⟨g, 1, none⟩ = some (.int .i64 A.n) ∧ W.cell? ⟨g, 3, none⟩ = some (.int .i64 tp) ∧ W.cell? ⟨g, 0, none⟩ = some (.int .i64 f)) := fun W hW => by
    obtain ⟨a, b, c, d⟩ := BinC.head (BinC.grow hB hW)
    rw [if_pos hpos, ← htp] at d
    exact ⟨b, d, a⟩
  have HI : Hid (∀ W, Below w.heap.size w W → Calls Tryz.prog 122 #[.int .i64 A.n] W (OutD p W)) := fun W hW => yInt (by omega) (by omega) hp W (hT.grow hW)
  have HM : Hid (∀ W a c k, Below w.heap.size w W → (argOf p a c).Ok W → Blk W 118 k [1] → Calls Tryz.prog 121 #[.agg #[.bool p.neg, .slice a (words p.m).length c, .int .i64 p.exp], .agg #[.bool false, .slice (some ⟨k, 0, none⟩) 1 1, .int .i64 e]] W (OutDE d W)) := by
    intro W a c k hW hp1 hk
    refine (dmul_any (argOf p a c) ⟨false, some ⟨k, 0, none⟩, [1], 1, e⟩ W hp1 ⟨Sl.blk hk (W32.cons (by decide) W32.nil), by show (1 : Nat) ≤ _; decide, by show _ ≤ e; omega, by show e ≤ _; omega⟩ (hT.grow hW)).mono fun en w' h => came_out h ?_ hd.ok
    rw [argF hpi hpo]
    have : Arg.F ⟨false, some ⟨k, 0, none⟩, [1], 1, e⟩ = some q := by
      show formF false (num [1]) e = some q
      rw [show num [1] = 1 by simp [num]]; exact hq
    rw [this]
    exact hm
  have HRd : Hid (∀ W a c, Below w.heap.size w W → (argOf d a c).Ok W → Calls Tryz.prog 177 #[.agg #[.bool d.neg, .slice a (words d.m).length c, .int .i64 d.exp], .int .i64 2] W fun en w' => (∃ (r : Nat) (er : Int), en = .returned (.tuple #[.float .f64 r, .int .i64 er]) ∧ RoundsTo 52 (-1074) 9218868437227405312 9223372036854775808 2 (some d) r er) ∧ Below W.heap.size W w') := by
    intro W a c hW ho
    have := dround_any (argOf d a c) 2 W ho (hT.grow hW)
    rw [argF hd.is hd.ok] at this
    exact this
  have HQ : Hid (∀ r er, RoundsTo 52 (-1074) 9218868437227405312 9223372036854775808 2 (some d) r er → BdR A f r) := fun r er h => .inr ⟨hpos, d, er, hd, h⟩
  have HO : Hid (p.Ok ∧ d.Ok) := ⟨hpo, hd.ok⟩
  have hgl := BinC.lt hB
  have m1 : w.heap.size ≠ g := by omega
  have m2 : w.heap.size + 1 ≠ g := by omega
  clear hA hB hT hp hpi hpo hq hm hd hn hln he htp hpos h0
  go_enter Tryz.func81, Tryz.ntmps81
  go_upto_region 3 with fail
  have HS0 : Hid (BdS w w.drew none none) := (BdS.refl w).drew
  have HS1 : Hid (BdS w (w.alloc (.cells #[.int .u32 1] 118)).drew (some w.heap.size) none) := (BdS.refl w).allocS.drew
  have HS2 : Hid (BdS w (w.alloc (.cells #[.bool false, .slice none 0 0, .int .i64 0] 46)).drew none (some w.heap.size)) := (BdS.refl w).allocD.drew
  have HS3 : Hid (BdS w ((w.alloc (.cells #[.int .u32 1] 118)).alloc (.cells #[.bool false, .slice none 0 0, .int .i64 0] 46)).drew (some w.heap.size) (some (w.heap.size + 1))) := by have h := (BdS.refl w).allocS.allocD.drew; rwa [World.size_alloc] at h
  have HS4 : Hid (BdS w ((w.alloc (.cells #[.bool false, .slice none 0 0, .int .i64 0] 46)).alloc (.cells #[.int .u32 1] 118)).drew (some (w.heap.size + 1)) (some w.heap.size)) := by have h := (BdS.refl w).allocD.allocS.drew; rwa [World.size_alloc] at h
  have hg0 : g < w.heap.size := hgl
  go_region_held3 (fun W => W.cell? ⟨g, 1, none⟩ = some (.int .i64 A.n) ∧ W.cell? ⟨g, 3, none⟩ = some (.int .i64 tp) ∧ W.cell? ⟨g, 0, none⟩ = some (.int .i64 f)) (go_keep) (first
    | (go_at_call 122; (with_reducible refine (HI.out w.drew HS0.out.bel).mono ?_); rintro en w2 ⟨a2, c2, rfl, ho2, hb2⟩; simp only [DV]; have HT2 := Lib.hid (HS0.out.below hb2); have HO2 := Lib.hid (ho2.mono (Nat.zero_le _)); have n5 : w2.heap.size ≠ g := (by have := HT2.out.bel.size; omega); have n6 : w2.heap.size + 1 ≠ g := (by have := HT2.out.bel.size; omega); obtain ⟨y1, y3, y0⟩ := HC.out w2 HT2.out.bel; clear ho2 hb2)
    | (go_at_call 122; (with_reducible refine (HI.out (w.alloc (.cells #[.int .u32 1] 118)).drew HS1.out.bel).mono ?_); rintro en w2 ⟨a2, c2, rfl, ho2, hb2⟩; simp only [DV]; have HT2 := Lib.hid (HS1.out.below hb2); have HO2 := Lib.hid (ho2.mono (Nat.zero_le _)); have n5 : w2.heap.size ≠ g := (by have := HT2.out.bel.size; omega); have n6 : w2.heap.size + 1 ≠ g := (by have := HT2.out.bel.size; omega); obtain ⟨y1, y3, y0⟩ := HC.out w2 HT2.out.bel; clear ho2 hb2)
    | (go_at_call 122; (with_reducible refine (HI.out (w.alloc (.cells #[.bool false, .slice none 0 0, .int .i64 0] 46)).drew HS2.out.bel).mono ?_); rintro en w2 ⟨a2, c2, rfl, ho2, hb2⟩; simp only [DV]; have HT2 := Lib.hid (HS2.out.below hb2); have HO2 := Lib.hid (ho2.mono (Nat.zero_le _)); have n5 : w2.heap.size ≠ g := (by have := HT2.out.bel.size; omega); have n6 : w2.heap.size + 1 ≠ g := (by have := HT2.out.bel.size; omega); obtain ⟨y1, y3, y0⟩ := HC.out w2 HT2.out.bel; clear ho2 hb2)
    | (go_at_call 122; (with_reducible refine (HI.out ((w.alloc (.cells #[.int .u32 1] 118)).alloc (.cells #[.bool false, .slice none 0 0, .int .i64 0] 46)).drew HS3.out.bel).mono ?_); rintro en w2 ⟨a2, c2, rfl, ho2, hb2⟩; simp only [DV]; have HT2 := Lib.hid (HS3.out.below hb2); have HO2 := Lib.hid (ho2.mono (Nat.zero_le _)); have n5 : w2.heap.size ≠ g := (by have := HT2.out.bel.size; omega); have n6 : w2.heap.size + 1 ≠ g := (by have := HT2.out.bel.size; omega); obtain ⟨y1, y3, y0⟩ := HC.out w2 HT2.out.bel; clear ho2 hb2)
    | (go_at_call 122; (with_reducible refine (HI.out ((w.alloc (.cells #[.bool false, .slice none 0 0, .int .i64 0] 46)).alloc (.cells #[.int .u32 1] 118)).drew HS4.out.bel).mono ?_); rintro en w2 ⟨a2, c2, rfl, ho2, hb2⟩; simp only [DV]; have HT2 := Lib.hid (HS4.out.below hb2); have HO2 := Lib.hid (ho2.mono (Nat.zero_le _)); have n5 : w2.heap.size ≠ g := (by have := HT2.out.bel.size; omega); have n6 : w2.heap.size + 1 ≠ g := (by have := HT2.out.bel.size; omega); obtain ⟨y1, y3, y0⟩ := HC.out w2 HT2.out.bel; clear ho2 hb2)
    | (go_at_call 121; have hS := HT2.out; (with_reducible refine (HM.out _ a2 c2 _ hS.bel ((HO2.out).arg HO.out.1) (hS.s _ rfl)).mono ?_); rintro en w3 ⟨a3, c3, rfl, ho3, hb3⟩; simp only [DV]; have HT3 := Lib.hid (hS.below hb3); obtain ⟨_, _, _, _, _, _⟩ := (HT3.out.d _ rfl).1.facts; have HO3 := Lib.hid ho3; have n7 : w3.heap.size ≠ g := (by have := HT3.out.bel.size; omega); obtain ⟨z1, z3, z0⟩ := HC.out w3 HT3.out.bel; clear ho3 hb3 hS)
    | (go_at_call 121; have hS := HT2.out; (with_reducible refine (HM.out _ a2 c2 _ hS.bel ((HO2.out).arg HO.out.1) (hS.s _ rfl)).mono ?_); rintro en w3 ⟨a3, c3, rfl, ho3, hb3⟩; simp only [DV]; have HT3 := Lib.hid (hS.below hb3); have HO3 := Lib.hid ho3; have n7 : w3.heap.size ≠ g := (by have := HT3.out.bel.size; omega); obtain ⟨z1, z3, z0⟩ := HC.out w3 HT3.out.bel; clear ho3 hb3 hS)
    | (go_at_call 121; have hS := HT2.out.allocS; (with_reducible refine (HM.out _ a2 c2 _ hS.bel ((HO2.out.grow ((Below.refl _ _).alloc (Nat.le_refl _) _)).arg HO.out.1) (hS.s _ rfl)).mono ?_); rintro en w3 ⟨a3, c3, rfl, ho3, hb3⟩; simp only [DV]; have HT3 := Lib.hid (hS.below hb3); obtain ⟨_, _, _, _, _, _⟩ := (HT3.out.d _ rfl).1.facts; have HO3 := Lib.hid ho3; have n7 : w3.heap.size ≠ g := (by have := HT3.out.bel.size; omega); obtain ⟨z1, z3, z0⟩ := HC.out w3 HT3.out.bel; clear ho3 hb3 hS)
    | (go_at_call 121; have hS := HT2.out.allocS; (with_reducible refine (HM.out _ a2 c2 _ hS.bel ((HO2.out.grow ((Below.refl _ _).alloc (Nat.le_refl _) _)).arg HO.out.1) (hS.s _ rfl)).mono ?_); rintro en w3 ⟨a3, c3, rfl, ho3, hb3⟩; simp only [DV]; have HT3 := Lib.hid (hS.below hb3); have HO3 := Lib.hid ho3; have n7 : w3.heap.size ≠ g := (by have := HT3.out.bel.size; omega); obtain ⟨z1, z3, z0⟩ := HC.out w3 HT3.out.bel; clear ho3 hb3 hS)
    | (go_at_call 121; have hS := HT2.out.allocD; (with_reducible refine (HM.out _ a2 c2 _ hS.bel ((HO2.out.grow ((Below.refl _ _).alloc (Nat.le_refl _) _)).arg HO.out.1) (hS.s _ rfl)).mono ?_); rintro en w3 ⟨a3, c3, rfl, ho3, hb3⟩; simp only [DV]; have HT3 := Lib.hid (hS.below hb3); obtain ⟨_, _, _, _, _, _⟩ := (HT3.out.d _ rfl).1.facts; have HO3 := Lib.hid ho3; have n7 : w3.heap.size ≠ g := (by have := HT3.out.bel.size; omega); obtain ⟨z1, z3, z0⟩ := HC.out w3 HT3.out.bel; clear ho3 hb3 hS)
    | (go_at_call 121; have hS := HT2.out.allocD; (with_reducible refine (HM.out _ a2 c2 _ hS.bel ((HO2.out.grow ((Below.refl _ _).alloc (Nat.le_refl _) _)).arg HO.out.1) (hS.s _ rfl)).mono ?_); rintro en w3 ⟨a3, c3, rfl, ho3, hb3⟩; simp only [DV]; have HT3 := Lib.hid (hS.below hb3); have HO3 := Lib.hid ho3; have n7 : w3.heap.size ≠ g := (by have := HT3.out.bel.size; omega); obtain ⟨z1, z3, z0⟩ := HC.out w3 HT3.out.bel; clear ho3 hb3 hS)
    | (go_at_call 121; have hS := HT2.out.allocS.allocD; simp only [World.size_alloc] at hS; (with_reducible refine (HM.out _ a2 c2 _ hS.bel (((HO2.out.grow ((Below.refl _ _).alloc (Nat.le_refl _) _)).grow ((Below.refl _ _).alloc (Nat.le_refl _) _)).arg HO.out.1) (hS.s _ rfl)).mono ?_); rintro en w3 ⟨a3, c3, rfl, ho3, hb3⟩; simp only [DV]; have HT3 := Lib.hid (hS.below hb3); obtain ⟨_, _, _, _, _, _⟩ := (HT3.out.d _ rfl).1.facts; have HO3 := Lib.hid ho3; have n7 : w3.heap.size ≠ g := (by have := HT3.out.bel.size; omega); obtain ⟨z1, z3, z0⟩ := HC.out w3 HT3.out.bel; clear ho3 hb3 hS)
    | (go_at_call 121; have hS := HT2.out.allocS.allocD; simp only [World.size_alloc] at hS; (with_reducible refine (HM.out _ a2 c2 _ hS.bel (((HO2.out.grow ((Below.refl _ _).alloc (Nat.le_refl _) _)).grow ((Below.refl _ _).alloc (Nat.le_refl _) _)).arg HO.out.1) (hS.s _ rfl)).mono ?_); rintro en w3 ⟨a3, c3, rfl, ho3, hb3⟩; simp only [DV]; have HT3 := Lib.hid (hS.below hb3); have HO3 := Lib.hid ho3; have n7 : w3.heap.size ≠ g := (by have := HT3.out.bel.size; omega); obtain ⟨z1, z3, z0⟩ := HC.out w3 HT3.out.bel; clear ho3 hb3 hS)
    | (go_at_call 121; have hS := HT2.out.allocD.allocS; simp only [World.size_alloc] at hS; (with_reducible refine (HM.out _ a2 c2 _ hS.bel (((HO2.out.grow ((Below.refl _ _).alloc (Nat.le_refl _) _)).grow ((Below.refl _ _).alloc (Nat.le_refl _) _)).arg HO.out.1) (hS.s _ rfl)).mono ?_); rintro en w3 ⟨a3, c3, rfl, ho3, hb3⟩; simp only [DV]; have HT3 := Lib.hid (hS.below hb3); obtain ⟨_, _, _, _, _, _⟩ := (HT3.out.d _ rfl).1.facts; have HO3 := Lib.hid ho3; have n7 : w3.heap.size ≠ g := (by have := HT3.out.bel.size; omega); obtain ⟨z1, z3, z0⟩ := HC.out w3 HT3.out.bel; clear ho3 hb3 hS)
    | (go_at_call 121; have hS := HT2.out.allocD.allocS; simp only [World.size_alloc] at hS; (with_reducible refine (HM.out _ a2 c2 _ hS.bel (((HO2.out.grow ((Below.refl _ _).alloc (Nat.le_refl _) _)).grow ((Below.refl _ _).alloc (Nat.le_refl _) _)).arg HO.out.1) (hS.s _ rfl)).mono ?_); rintro en w3 ⟨a3, c3, rfl, ho3, hb3⟩; simp only [DV]; have HT3 := Lib.hid (hS.below hb3); have HO3 := Lib.hid ho3; have n7 : w3.heap.size ≠ g := (by have := HT3.out.bel.size; omega); obtain ⟨z1, z3, z0⟩ := HC.out w3 HT3.out.bel; clear ho3 hb3 hS))
  all_goals
    (first
      | (have HF := Lib.hid (HT3.out.fin HO.out.2 HO3.out (by first | (have h := (HT2.out.d _ rfl).1.lt; simp only [World.size_alloc]; omega) | (have h := (HT2.out.d _ rfl).1.lt; omega) | (simp only [World.size_alloc]; omega))))
      | (have HF := Lib.hid (HT3.out.finA HO.out.2 HO3.out)))
    try unfold wr3 at HF
    obtain ⟨_, _, _, _, _, _⟩ := HF.out.2.1.facts
    go_wp2_with fail
    refine (HRd.out _ a3 c3 HF.out.1 HF.out.2.2).mono ?_; rintro en w8 ⟨⟨r, er, rfl, hr⟩, hb⟩
    have HX := Lib.hid (HQ.out r er hr)
    have HB8 := Lib.hid (HF.out.1.trans (hb.mono HF.out.1.size))
    clear hr hb
    go_wp2_with fail
    go_ret
    exact ⟨r, rfl, HX.out, HB8.out⟩
end Go.Proofs.YteahdgbokjbgcaaGreatDoor
