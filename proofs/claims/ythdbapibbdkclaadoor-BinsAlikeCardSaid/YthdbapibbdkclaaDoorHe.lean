/- Contracts of bins.Bins.Add's closure, bins.slices, bins.Bins.Add. No statement of the seat is proved here. -/
import Derived.Test.YthdbapibbdkclaaDoorProg
import Derived.Test.YthdbapibbdkclaaDoorHd
namespace Go.Proofs.YthdbapibbdkclaaDoor
open Go.RowKit
set_option maxRecDepth 10000
set_option linter.unusedVariables false
set_option linter.unusedSimpArgs false

/-- bins while a number's slices go in -/
structure Bn.Sm (A : Bn) (m : Nat) : Prop where
  hi : ∀ i, A.len ≤ i → A.K i = 0
  bd : ∀ i, (A.K i).natAbs ≤ m * 4294967295
  len : A.len ≤ 68
theorem Bn.Ok.sm {A : Bn} (h : A.Ok) : A.Sm A.n := ⟨h.hi, h.bd, by have := h.len; omega⟩
theorem slice_sm {A : Bn} {m i c : Nat} (s : Bool) (h : A.Sm m) (hi : i ≤ 67) (hc : c < 4294967296) : (A.slice i (sgn s c)).Sm (m + 1) := by
  have hv : (sgn s c).natAbs = c := sgn_abs s c
  refine ⟨fun j hj => ?_, fun j => ?_, ?_⟩
  · rw [slice_len] at hj
    rw [slice_K]
    split at hj
    · rename_i h0
      rw [h0]
      split
      · rw [h.hi j hj]; rfl
      · exact h.hi j hj
    · rw [if_neg (by omega)]; exact h.hi j (by omega)
  · rw [slice_K]
    have h3 := h.bd j
    have h4 : (sgn s c).natAbs ≤ 4294967295 := by rw [hv]; omega
    clear hv
    generalize sgn s c = v at *
    generalize A.K j = z at *
    rw [Nat.succ_mul]
    split
    · exact Nat.le_trans (Int.natAbs_add_le z v) (Nat.add_le_add h3 h4)
    · exact Nat.le_trans h3 (Nat.le_add_right _ _)
  · rw [slice_len]
    have := h.len
    split <;> omega
theorem win_sm {A : Bn} {m : Nat} (h : ∀ i, (A.K i).natAbs ≤ m * 4294967295) (hm : m ≤ 1099511627777) (f k : Nat) : (A.win f k).natAbs < 4722366482869645213696 := by
  unfold Bn.win
  split
  · have h1 := h (A.len - 1 - k)
    omega
  · decide
theorem lohi_sgn (s : Bool) {c : Nat} (hc : c < 4294967296) (h0 : 0 < c) : loI (sgn s c) = (if s = true then 18446744073709551616 - (c : Int) else c) ∧ hiI (sgn s c) = (if s = true then -1 else 0) := by
  unfold loI hiI sgn
  cases s
  · simp only [Bool.false_eq_true, if_false]; omega
  · simp only [if_true]; omega
/-- what the closure reads -/
structure Cap (w : World) (g gb gp : Nat) (s : Bool) : Prop where
  b : w.cell? ⟨gb, 0, none⟩ = some (.pointer (some ⟨g, 0, none⟩))
  p : w.cell? ⟨gp, 0, none⟩ = some (.bool s)
  nb : gb ≠ g
  np : gp ≠ g
  lb : gb < w.heap.size
  lp : gp < w.heap.size
theorem Cap.grown {w w' : World} {g gb gp : Nat} {s : Bool} (h : Cap w g gb gp s) (hk : w.grownBy w' (some g)) : Cap w' g gb gp s := by
  have e1 := hk.block gb h.lb (by simpa using h.nb)
  have e2 := hk.block gp h.lp (by simpa using h.np)
  refine ⟨?_, ?_, h.nb, h.np, Nat.lt_of_lt_of_le h.lb hk.size, Nat.lt_of_lt_of_le h.lp hk.size⟩
  · have := h.b
    unfold World.cell? at this ⊢
    rw [e1]; exact this
  · have := h.p
    unfold World.cell? at this ⊢
    rw [e2]; exact this
theorem gr_trans' {w w1 w2 : World} {r : Option Nat} (h : w.grownBy w1 r) (k : w1.grownBy w2 r) : w.grownBy w2 r := gr_trans h k
def SliceQ (A : Bn) (g f : Nat) (w : World) (en : Ending) (w' : World) : Prop := en = .returned (.tuple #[]) ∧ BinAt w' g f A ∧ w.grownBy w' (some g)
set_option maxHeartbeats 8000000 in
theorem binclo_any (A : Bn) (m g f i gb gp : Nat) (b : Int) (c : Nat) (s : Bool) (w : World) (hS : A.Sm m) (hm : m ≤ 1099511627777) (hi : i ≤ 67) (hf : f ≤ 8) (b1 : b + 34 ≤ i) (b2 : (i : Int) ≤ b + 34) (hc : c < 4294967296) (hB : BinAt w g f A) (hC : Cap w g gb gp s) :
    Calls Tryd.prog 118 #[.int .i64 b, .int .u32 c, .pointer (some ⟨gb, 0, none⟩), .pointer (some ⟨gp, 0, none⟩)] w (SliceQ (A.slice i (sgn s c)) g f w) := by
  by_cases h0 : c = 0
  · subst h0
    have HF : Hid (BinAt w g f (A.slice i (sgn s 0))) := by rw [sgn_zero]; unfold Bn.slice; rw [if_pos rfl]; exact hB
    clear hB hC hS
    go_enter Tryd.func118, Tryd.ntmps118
    go_wp2_with fail
    go_end0
    exact ⟨rfl, HF.out, grown_refl _ _⟩
  have hv : sgn s c ≠ 0 := fun h => h0 (sgn_eq_zero h)
  have hR := fun W (hW : BinAt W g f A) => raise_any A g f i b W hS.hi hS.len (by omega) hf b1 b2 hW
  obtain ⟨x0, x1, x2, x3, x4, x5⟩ := hC
  have hC : Cap w g gb gp s := ⟨x0, x1, x2, x3, x4, x5⟩
  have hrl : (A.slice i (sgn s c)).len = (A.rise i).len := by rw [slice_len, if_neg hv]; rfl
  have hrn : (A.slice i (sgn s c)).n = (A.rise i).n := by rw [slice_n]; rfl
  obtain ⟨t, ht⟩ : ∃ t, t = max A.len (i + 1) - 1 - i := ⟨_, rfl⟩
  have ht2 : (((max A.len (i + 1) : Nat) : Int) - 1 - i) = (t : Int) := by omega
  have ht3 : t ≤ 68 := by have := hS.len; omega
  have hS2 : ∀ k, (A.slice i (sgn s c)).win f k = if k < f ∧ k = t then (A.rise i).win f k + sgn s c else (A.rise i).win f k := fun k => by rw [slice_win hv k, ht]
  have HR : Hid (∀ W, BinAt W g f A → Calls Tryd.prog 67 #[.pointer (some ⟨g, 0, none⟩), .int .i64 b] W fun en w' => en = .returned (.int .i64 (t : Int)) ∧ BinAt w' g f (A.rise i) ∧ W.grownBy w' (some g)) := by
    intro W hW
    refine (hR W hW).mono ?_
    rintro en w' ⟨rfl, h1, h2⟩
    exact ⟨by rw [ht2], h1, h2⟩
  have HB := Lib.hid hB; have HC := Lib.hid hC
  have HS2 := Lib.hid hS2; have HRL := Lib.hid (And.intro hrl hrn)
  have HWB : Hid (∀ k, ((A.rise i).win f k).natAbs < 4722366482869645213696) := fun k => win_sm (A := A.rise i) (fun j => hS.bd j) (by omega) f k
  obtain ⟨e1, e2⟩ := lohi_sgn s hc (by omega)
  have hcs : (sgn s c).natAbs < 4722366482869645213696 := by rw [sgn_abs]; omega
  clear hR hB hC hS2 hrl hrn ht ht2 x0 x1 x2 x3 x4 x5 hS hv
  go_enter Tryd.func118, Tryd.ntmps118
  have x0 := HC.out.b
  go_wp2_with fail
  refine (HR.out w HB.out).mono ?_; rintro en w1 ⟨rfl, hB1, hG1⟩
  have HB1 := Lib.hid hB1; have HG1 := Lib.hid hG1
  have HC1 := Lib.hid (HC.out.grown hG1)
  have x0 := HC1.out.b
  have x1 := HC1.out.p
  obtain ⟨y0, _, _, _⟩ := hB1.head
  clear hB1 hG1
  by_cases htf : t < f
  · have hP := fun W (hW : BinC W g f (A.rise i).n (decide (0 < (A.rise i).len)) (if 0 < (A.rise i).len then ((A.rise i).len : Int) - 35 else 0) ((A.rise i).win f)) => padd_any g t f (A.rise i).n _ _ ((A.rise i).win f) (sgn s c) W hW (by omega) (HWB.out t) hcs
    have HE : Hid (∀ W, BinC W g f (A.rise i).n (decide (0 < (A.rise i).len)) (if 0 < (A.rise i).len then ((A.rise i).len : Int) - 35 else 0) (upd ((A.rise i).win f) t ((A.rise i).win f t + sgn s c)) → BinAt W g f (A.slice i (sgn s c))) := by
      intro W hW
      unfold BinAt
      rw [HRL.out.1, HRL.out.2]
      refine BinC.congr hW fun k hk => ?_
      rw [HS2.out k]
      unfold upd
      by_cases h1 : k = t
      · rw [if_pos h1, if_pos ⟨by omega, h1⟩, h1]
      · rw [if_neg h1, if_neg (fun h => h1 h.2)]
    rw [e1, e2] at hP
    have HP := Lib.hid hP
    have q1 : (c : Int) / 9223372036854775808 = 0 := by omega
    have q2 : -(c : Int) / 9223372036854775808 = -1 := by omega
    have q3 : IntKind.u64.wrap (-(c : Int)) = 18446744073709551616 - (c : Int) := by rw [IntKind.wrap_u64]; omega
    clear hP e1 e2 hcs
    cases s
    · simp only [Bool.false_eq_true, if_false] at HP
      go_wp2_with fail
      refine (HP.out w1 HB1.out).mono ?_; rintro en w2 ⟨rfl, hB2, hG2⟩
      have HB2 := Lib.hid (HE.out _ hB2); have HG2 := Lib.hid (gr_trans HG1.out hG2)
      clear hB2 hG2
      go_wp2_with fail
      go_end0
      exact ⟨rfl, HB2.out, HG2.out⟩
    · simp only [if_true] at HP
      go_wp2_with fail
      refine (HP.out w1 HB1.out).mono ?_; rintro en w2 ⟨rfl, hB2, hG2⟩
      have HB2 := Lib.hid (HE.out _ hB2); have HG2 := Lib.hid (gr_trans HG1.out hG2)
      clear hB2 hG2
      go_wp2_with fail
      go_end0
      exact ⟨rfl, HB2.out, HG2.out⟩
  · have HE : Hid (BinAt w1 g f (A.slice i (sgn s c))) := by
      unfold BinAt
      rw [HRL.out.1, HRL.out.2]
      refine BinC.congr HB1.out fun k hk => ?_
      rw [HS2.out k, if_neg (by omega)]
    clear e1 e2 hcs
    go_wp2_with fail
    go_end0
    exact ⟨rfl, HE.out, HG1.out⟩

set_option maxHeartbeats 8000000 in
theorem slices_any (A : Bn) (m g f gb gp q sh fr : Nat) (s : Bool) (cl e : Int) (w : World) (hS : A.Sm m) (hm : m ≤ 1099511627775) (hq : q ≤ 64) (hsh : sh < 32) (hf : f ≤ 8) (he : e + 1088 = 32 * q + sh) (hfr : fr < 9007199254740992) (hB : BinAt w g f A) (hC : Cap w g gb gp s) :
    Calls Tryd.prog 117 #[.agg #[.bool s, .int .i64 cl, .int .i64 e, .int .u64 fr], .func (Fn.func 118) #[] #[.pointer (some ⟨gb, 0, none⟩), .pointer (some ⟨gp, 0, none⟩)]] w
      (SliceQ (((A.slice (q + 2) (sgn s (fr * 2 ^ sh / 4294967296 ^ 2 % 4294967296 : Nat))).slice (q + 1) (sgn s (fr * 2 ^ sh / 4294967296 % 4294967296 : Nat))).slice q (sgn s (fr * 2 ^ sh % 4294967296 : Nat))) g f w) := by
  obtain ⟨hi, hhi⟩ : ∃ x, x = fr / 2 ^ (64 - sh) := ⟨_, rfl⟩
  obtain ⟨lo, hlo⟩ : ∃ x, x = fr * 2 ^ sh % 18446744073709551616 := ⟨_, rfl⟩
  have hp := Nat.two_pow_pos sh
  have hpq : 2 ^ sh * 2 ^ (64 - sh) = 18446744073709551616 := by rw [← Nat.pow_add, show sh + (64 - sh) = 64 by omega]
  have hF2 : fr * 2 ^ sh / 4294967296 ^ 2 = hi := by
    rw [hhi, show (4294967296 : Nat) ^ 2 = 2 ^ sh * 2 ^ (64 - sh) by rw [hpq], ← Nat.div_div_eq_div_mul, Nat.mul_div_cancel _ hp]
  have hhi2 : hi < 4294967296 := by
    have h1 : hi ≤ fr / 2 ^ 33 := by
      rw [hhi]
      exact Nat.div_le_div_left (Nat.pow_le_pow_right (by decide) (by omega)) (by decide)
    rw [show (2 : Nat) ^ 33 = 8589934592 from rfl] at h1
    omega
  have hlo2 : lo < 18446744073709551616 := by rw [hlo]; exact Nat.mod_lt _ (by decide)
  obtain ⟨F, hF⟩ : ∃ F, F = fr * 2 ^ sh := ⟨_, rfl⟩
  rw [← hF] at hF2 hlo ⊢
  have c2 : F / 4294967296 ^ 2 % 4294967296 = hi := by rw [hF2]; omega
  have c1 : F / 4294967296 % 4294967296 = lo / 4294967296 := by omega
  have c0 : F % 4294967296 = lo % 4294967296 := by omega
  rw [c2, c1, c0]
  have g1 : ((fr : Int) / 2 ^ (64 - sh)) = (hi : Int) := by rw [hhi]; simp
  have g2 : IntKind.u64.wrap ((fr : Int) * 2 ^ sh) = (lo : Int) := by
    rw [IntKind.wrap_u64, hlo, hF]; simp
  have G1 := Lib.hid g1; have G2 := Lib.hid g2
  obtain ⟨at', hat⟩ : ∃ x : Nat, x = 32 * q + sh := ⟨_, rfl⟩
  have t1 : e + 1088 = (at' : Int) := by omega
  have t2 : (at' : Int) % 32 = (sh : Int) := by omega
  have t3 : (at' : Int) / 32 = (q : Int) := by omega
  have t4 : (64 - (sh : Int)).toNat = 64 - sh := by omega
  have t5 : IntKind.u32.wrap (hi : Int) = (hi : Int) := by rw [IntKind.wrap_u32]; omega
  have t6 : IntKind.u32.wrap ((lo : Int) / 4294967296) = ((lo / 4294967296 : Nat) : Int) := by rw [IntKind.wrap_u32]; omega
  have t7 : IntKind.u32.wrap (lo : Int) = ((lo % 4294967296 : Nat) : Int) := by rw [IntKind.wrap_u32]; omega
  obtain ⟨x0, x1, x2, x3, x4, x5⟩ := hC
  have hC : Cap w g gb gp s := ⟨x0, x1, x2, x3, x4, x5⟩
  have hlt := BinC.lt hB
  obtain ⟨w1, e1⟩ : ∃ W, W = w.alloc (.cells #[.bool s, .int .i64 cl, .int .i64 e, .int .u64 fr] 127) := ⟨_, rfl⟩
  obtain ⟨k1, b1, s1⟩ := new_of e1 rfl
  have hg1 : w.grownBy w1 (some g) := ⟨b1.os, b1.tape, b1.output, b1.size, fun j hj _ => b1.block j hj⟩
  have HB1 := Lib.hid (BinC.below hB b1 hlt)
  have HC1 := Lib.hid (hC.grown hg1)
  have HG1 := Lib.hid hg1
  have y2 : w1.cell? ⟨w.heap.size, 2, none⟩ = some (.int .i64 e) := by rw [cell_of_row w1 _ 2 _ _ _ k1]; rfl
  have y3 : w1.cell? ⟨w.heap.size, 3, none⟩ = some (.int .u64 fr) := by rw [cell_of_row w1 _ 3 _ _ _ k1]; rfl
  have E1 := Lib.hid e1
  have HA2 := Lib.hid (slice_sm (i := q + 2) s hS (by omega) hhi2)
  have hl32 : lo / 4294967296 < 4294967296 := by omega
  have hl0 : lo % 4294967296 < 4294967296 := by omega
  have HA1 := Lib.hid (slice_sm (i := q + 1) s HA2.out (by omega) hl32)
  have H2 := Lib.hid (fun W (hW : BinAt W g f A) (hc : Cap W g gb gp s) => binclo_any A m g f (q + 2) gb gp ((q : Int) + -34 + 2) hi s W hS (by omega) (by omega) hf (by omega) (by omega) hhi2 hW hc)
  have H1 := Lib.hid (fun W (hW : BinAt W g f (A.slice (q + 2) (sgn s hi))) (hc : Cap W g gb gp s) => binclo_any _ (m + 1) g f (q + 1) gb gp ((q : Int) + -34 + 1) (lo / 4294967296) s W HA2.out (by omega) (by omega) hf (by omega) (by omega) hl32 hW hc)
  have H0 := Lib.hid (fun W (hW : BinAt W g f ((A.slice (q + 2) (sgn s hi)).slice (q + 1) (sgn s (lo / 4294967296 : Nat)))) (hc : Cap W g gb gp s) => binclo_any _ (m + 2) g f q gb gp ((q : Int) + -34) (lo % 4294967296) s W HA1.out (by omega) (by omega) hf (by omega) (by omega) hl0 hW hc)
  clear hB hC x0 x1 x2 x3 x4 x5 hS e1 k1 b1 s1 hg1 HA1 HA2 hhi hlo hp hpq hF2 c0 c1 c2 hF g1 g2 hat he
  go_enter Tryd.func117, Tryd.ntmps117
  go_wp2_with fail
  rw [← E1.out]
  go_region
  rw [G1.out, G2.out]
  have HBd : Hid (BinAt w1.drew g f A) := HB1.out
  have HCd : Hid (Cap w1.drew g gb gp s) := ⟨HC1.out.b, HC1.out.p, HC1.out.nb, HC1.out.np, HC1.out.lb, HC1.out.lp⟩
  have HGd : Hid (w.grownBy w1.drew (some g)) := gr_drew HG1.out
  obtain ⟨wd, hwd⟩ : ∃ W, W = w1.drew := ⟨_, rfl⟩
  rw [← hwd] at HBd HCd HGd ⊢
  clear hwd
  go_wp2_with fail
  refine (H2.out wd HBd.out HCd.out).mono ?_; rintro en w2 ⟨rfl, hB2, hG2⟩
  have HB2 := Lib.hid hB2; have HC2 := Lib.hid (HCd.out.grown hG2); have HG2 := Lib.hid (gr_trans HGd.out hG2)
  clear hB2 hG2
  go_wp2_with fail
  refine (H1.out w2 HB2.out HC2.out).mono ?_; rintro en w3 ⟨rfl, hB3, hG3⟩
  have HB3 := Lib.hid hB3; have HC3 := Lib.hid (HC2.out.grown hG3); have HG3 := Lib.hid (gr_trans HG2.out hG3)
  clear hB3 hG3
  go_wp2_with fail
  refine (H0.out w3 HB3.out HC3.out).mono ?_; rintro en w4 ⟨rfl, hB4, hG4⟩
  have HB4 := Lib.hid hB4; have HG4 := Lib.hid (gr_trans HG3.out hG4)
  clear hB4 hG4
  go_wp2_with fail
  go_end0
  exact ⟨rfl, HB4.out, HG4.out⟩

/-- what Add answers: its error, what the bins have then -/
def badB (b : Nat) : Prop := 9218868437227405312 ≤ b % 9223372036854775808
def BAddQ (A : Bn) (g f b : Nat) (w : World) (en : Ending) (w' : World) : Prop :=
  (1099511627776 ≤ A.n ∧ en = .returned (.int .i64 2) ∧ BinAt w' g f A ∨ A.n < 1099511627776 ∧ badB b ∧ en = .returned (.int .i64 30) ∧ BinAt w' g f A ∨ A.n < 1099511627776 ∧ ¬ badB b ∧ en = .returned (.int .i64 0) ∧ BinAt w' g f (A.sum (bn1 b))) ∧ w.grownBy w' (some g)
theorem ptOf_bad (b : Nat) (hb : b < 18446744073709551616) : ((ptOf b).c = 3 ∨ (ptOf b).c = 4) ↔ badB b := by
  have hx : b % 9223372036854775808 = (b / 4503599627370496 % 2048) * 4503599627370496 + b % 4503599627370496 := by omega
  have hx2 : b / 4503599627370496 % 2048 ≤ 2047 := by omega
  have hf : b % 4503599627370496 < 4503599627370496 := by omega
  unfold badB ptOf
  rw [hx]
  generalize b / 4503599627370496 % 2048 = ex at *
  generalize b % 4503599627370496 = fr at *
  split
  · split <;> simp <;> omega
  · split
    · simp; omega
    · split <;> simp <;> omega
set_option maxHeartbeats 8000000 in
theorem badd_any (A : Bn) (g f b : Nat) (w : World) (hA : A.Ok) (hf : f ≤ 8) (hb : b < 18446744073709551616) (hB : BinAt w g f A) :
    Calls Tryd.prog 61 #[.pointer (some ⟨g, 0, none⟩), .float .f64 b] w (BAddQ A g f b w) := by
  have hS := fun W => split_any b W hb
  rw [partsV_pt] at hS
  obtain ⟨p1, p2, p3, p4, p5, p6⟩ := ptOf_bd b
  have hbad := ptOf_bad b hb
  obtain ⟨q, hq⟩ : ∃ q : Nat, (q : Int) = ((ptOf b).e + 1088) / 32 := ⟨(((ptOf b).e + 1088) / 32).toNat, by omega⟩
  obtain ⟨sh, hsh⟩ : ∃ sh : Nat, (sh : Int) = ((ptOf b).e + 1088) % 32 := ⟨(((ptOf b).e + 1088) % 32).toNat, by omega⟩
  have he : (ptOf b).e + 1088 = 32 * q + sh := by omega
  have hm : mB b = ((ptOf b).f * 2 ^ sh) * 4294967296 ^ q := by
    unfold mB
    rw [w32_pow, Nat.mul_assoc, ← Nat.pow_add]
    congr 2; omega
  have hF3 : (ptOf b).f * 2 ^ sh < 4294967296 ^ 3 := by
    have h1 : 2 ^ sh ≤ 2 ^ 31 := Nat.pow_le_pow_right (by decide) (by omega)
    have h2 : (ptOf b).f * 2 ^ sh ≤ 9007199254740992 * 2 ^ 31 := Nat.mul_le_mul (by omega) h1
    exact Nat.lt_of_le_of_lt h2 (by decide)
  have hsum := slices_sum A (b := b) (F := (ptOf b).f * 2 ^ sh) (q := q) hm hF3 rfl rfl rfl
  have hSl := fun W gb gp cl (hn : A.n < 1099511627776) (hW : BinAt W g f ⟨A.n + 1, A.len, A.K⟩) (hc : Cap W g gb gp (ptOf b).s) => slices_any ⟨A.n + 1, A.len, A.K⟩ A.n g f gb gp q sh (ptOf b).f (ptOf b).s cl (ptOf b).e W ⟨hA.hi, hA.bd, by have := hA.len; show A.len ≤ 68; omega⟩ (by omega) (by omega) (by omega) hf he p5 hW hc
  rw [hsum] at hSl
  obtain ⟨s, hs⟩ : ∃ s, s = (ptOf b).s := ⟨_, rfl⟩
  obtain ⟨cl, hcl⟩ : ∃ c, c = (ptOf b).c := ⟨_, rfl⟩
  obtain ⟨e, hee⟩ : ∃ e, e = (ptOf b).e := ⟨_, rfl⟩
  obtain ⟨fr, hfr⟩ : ∃ f, f = (ptOf b).f := ⟨_, rfl⟩
  rw [← hs, ← hcl, ← hee, ← hfr] at hS
  rw [← hs, ← hee, ← hfr] at hSl
  rw [← hcl] at hbad p1 p2
  have hlt := BinC.lt hB
  obtain ⟨w1, e1⟩ : ∃ W, W = w.alloc (.cells #[.pointer (some ⟨g, 0, none⟩)] 34) := ⟨_, rfl⟩
  obtain ⟨k1, b1, s1⟩ := new_of e1 rfl
  have HS := Lib.hid hS; have HSl := Lib.hid hSl
  have HB := Lib.hid (fun W (hW : Below w.heap.size w W) => BinC.below hB hW hlt)
  have HBd := Lib.hid hbad
  have E1 := Lib.hid e1; have K1 := Lib.hid k1; have B1 := Lib.hid b1
  have S1 := Lib.hid s1
  clear hS hSl hbad hB e1 k1 b1 s1 hm hF3 hsum he hq hsh hs hcl hee hfr p3 p4 p5 p6 hA
  go_enter Tryd.func61, Tryd.ntmps61
  go_wp2_with fail
  rw [← E1.out]
  refine (HS.out w1).mono ?_; rintro en w2 ⟨rfl, hb2⟩
  have B2 := Lib.hid (B1.out.trans (hb2.mono B1.out.size))
  have K2 := Lib.hid (blk_below K1.out hb2 (by rw [S1.out]; omega))
  have hs2 : w.heap.size < w2.heap.size := by have := hb2.size; have := S1.out; omega
  clear hb2
  obtain ⟨w3, e3⟩ : ∃ W, W = w2.alloc (.cells #[.bool s, .int .i64 cl, .int .i64 e, .int .u64 fr] 127) := ⟨_, rfl⟩
  obtain ⟨k3, b3, s3⟩ := new_of e3 rfl
  have K3 := Lib.hid k3
  have E3 := Lib.hid e3
  have HB3 := Lib.hid (B2.out.trans (b3.mono B2.out.size))
  have hbin := HB.out w3 HB3.out
  have K23 := Lib.hid (blk_below K2.out b3 hs2)
  have hlt3 := hbin.lt
  obtain ⟨x0, x1, x2, x3⟩ := hbin.head
  have f1 := hbin.frozen 1
  have g0 : w3.cell? ⟨w.heap.size, 0, none⟩ = some (.pointer (some ⟨g, 0, none⟩)) := by rw [cell_of_row w3 _ 0 _ _ _ K23.out]; rfl
  have y0 : w3.cell? ⟨w2.heap.size, 0, none⟩ = some (.bool s) := by rw [cell_of_row w3 _ 0 _ _ _ k3]; rfl
  have y1 : w3.cell? ⟨w2.heap.size, 1, none⟩ = some (.int .i64 cl) := by rw [cell_of_row w3 _ 1 _ _ _ k3]; rfl
  have y2 : w3.cell? ⟨w2.heap.size, 2, none⟩ = some (.int .i64 e) := by rw [cell_of_row w3 _ 2 _ _ _ k3]; rfl
  have y3 : w3.cell? ⟨w2.heap.size, 3, none⟩ = some (.int .u64 fr) := by rw [cell_of_row w3 _ 3 _ _ _ k3]; rfl
  have hg3 : Hid (w.grownBy w3 (some g)) := ⟨HB3.out.os, HB3.out.tape, HB3.out.output, HB3.out.size, fun j hj _ => HB3.out.block j hj⟩
  have HBin := Lib.hid hbin
  have hng : g ≠ w2.heap.size := by omega
  have hng2 : g ≠ w.heap.size := by omega
  have hs3 : w2.heap.size < w3.heap.size := by omega
  clear k3 b3 s3 e3 hbin
  go_upto_region 2 with fail
  rw [← E3.out]
  by_cases hn : 1099511627776 ≤ A.n
  · have hn' : (1099511627776 : Int) ≤ (A.n : Int) := by omega
    go_wp2_with fail
    go_ret
    exact ⟨.inl ⟨hn, rfl, HBin.out⟩, hg3.out⟩
  have hn' : ¬ (1099511627776 : Int) ≤ (A.n : Int) := by omega
  by_cases hbd : badB b
  · have hc34 := HBd.out.2 hbd
    have HC := Lib.hid hbd
    clear hbd
    rcases hc34 with rfl | rfl
    all_goals
      go_wp2_with fail
      go_ret
      exact ⟨.inr (.inl ⟨by omega, HC.out, rfl, HBin.out⟩), hg3.out⟩
  have hc34 : ¬ (cl = 3 ∨ cl = 4) := fun h => hbd (HBd.out.1 h)
  have hc3 : (cl == 3) = false := by simp; omega
  have hc4 : (cl == 4) = false := by simp; omega
  have HC := Lib.hid hbd
  clear hbd hc34
  have hwn : IntKind.i64.wrap ((A.n : Int) + 1) = (A.n : Int) + 1 := by rw [IntKind.wrap_i64]; omega
  obtain ⟨w4, e4⟩ : ∃ W, W = w3.setCell ⟨g, 1, none⟩ (.int .i64 ((A.n : Int) + 1)) := ⟨_, rfl⟩
  have hb4 : BinAt w4 g f ⟨A.n + 1, A.len, A.K⟩ := by
    have := HBin.out.setN ((A.n : Int) + 1)
    rw [e4]; exact this
  have hg4 : Hid (w.grownBy w4 (some g)) := by rw [e4]; exact grown_set' hg3.out _ _
  have hcap : Hid (Cap w4 g w.heap.size w2.heap.size s) := by
    have : Cap w3 g w.heap.size w2.heap.size s := ⟨g0, y0, fun h => hng2 h.symm, fun h => hng h.symm, by omega, hs3⟩
    rw [e4]; exact this.grown (grown_set' (grown_refl _ _) _ _)
  have E4 := Lib.hid e4
  have HB4 := Lib.hid hb4
  have HS4 := Lib.hid (HSl.out w4 w.heap.size w2.heap.size cl (by omega) hb4 hcap.out)
  have hmf : ∀ (fn : Fn) (first cap : Array Value) (w : World), (Instr.makeFunc fn first cap).run Tryd.prog w = .ok (.func fn first cap) w := fun _ _ _ _ => rfl
  clear e4 hb4
  go_wp2_with fail
  rw [← E4.out]
  refine HS4.out.mono ?_; rintro en w5 ⟨rfl, hb5, hg5⟩
  have HB5 := Lib.hid hb5
  have HG5 := Lib.hid (gr_trans hg4.out hg5)
  clear hb5 hg5
  go_wp2_with fail
  go_ret
  exact ⟨.inr (.inr ⟨by omega, HC.out, rfl, HB5.out⟩), HG5.out⟩
end Go.Proofs.YthdbapibbdkclaaDoor
