/- The walk of steelyardlaw03.DyadMakes: true for every input of the sizes that its hypotheses name. -/
import Derived.Test.YtmokomfneikipaaDoorProg
import Derived.Test.YtmokomfneikipaaDoorEn
namespace Go.Proofs.YtmokomfneikipaaDoor
open Go.RowKit
set_option linter.unusedVariables false
set_option linter.unusedSimpArgs false

set_option maxRecDepth 10000 in
set_option maxHeartbeats 8000000 in
theorem makes_any (b : Nat) (neg : Bool) (a : Option Addr) (c : Nat) (l : List Nat) (exp n : Int) (w : World) (hb64 : b < 18446744073709551616) (hs : Sl w a c l) (hlen : l.length ≤ 1073741824)
    (he1 : -9223372036854775808 ≤ exp) (he2 : exp ≤ 9223372036854775807) (hn1 : -9223372036854775808 ≤ n) (hn2 : n ≤ 9223372036854775807) (hT : Tab w) :
    Calls Tryd.prog 3 #[.float .f64 b, .bool neg, .slice a l.length c, .int .i64 exp, .int .i64 n] w fun en w' => en = .returned (.bool true) ∧ Below w.heap.size w w' := by
  have HAwk := Lib.hid (awake_any w hT)
  have hOf := fun W (hw : Below w.heap.size w W) => dof_any b W hb64 (hT.grow hw)
  have hROf := fun W => rofd_any b W hb64
  have hLt := fun W (hw : Below w.heap.size w W) => lent_any a c l W (by omega) (hs.rd.grow hw)
  have hMk := fun W g (hw : Below w.heap.size w W) (hk : Blk W 64 g (l ++ [71, 72])) => dmake_any neg (some ⟨g, 0, none⟩) (l.length + 2) l exp W ⟨sl_lent hk hs.w32, hlen, he1, he2⟩ (hT.grow hw)
  have hAL := fun W g (hw : Below w.heap.size w W) (hk : Blk W 64 g (l ++ [71, 72])) (hne : ∀ ad, a = some ad → l ≠ [] → ad.block ≠ g) => aslent_any a c g l W (by omega) hs.w32 (hs.rd.grow hw) hk hne
  have hRM := fun W (hw : Below w.heap.size w W) => rmake_any neg a c l exp W ⟨hs.grow hw, hlen, he1, he2⟩
  have hI := fun W (hw : Below w.heap.size w W) => dint_any n W hn1 hn2 (hT.grow hw)
  have hRI := fun W => rint_any n W hn1 hn2
  have hok1 := ofF_ok b
  have hok2 := outF_ok neg (num l) exp
  have hok3 : (outO (intF n)).Ok := outF_ok _ _ _
  generalize ofF b = o1 at *
  generalize formF neg (num l) exp = o2 at *
  generalize intF n = o3 at *
  have halt : ∀ ad, l ≠ [] → a = some ad → ad.block < w.heap.size := fun ad hl ha => hs.rd.lt ha hl
  have HOf := Lib.hid hOf; have HROf := Lib.hid hROf; have HLt := Lib.hid hLt; have HMk := Lib.hid hMk; have HAL := Lib.hid hAL; have HRM := Lib.hid hRM; have HI := Lib.hid hI; have HRI := Lib.hid hRI
  have HK1 := Lib.hid hok1; have HK2 := Lib.hid hok2; have HK3 := Lib.hid hok3
  clear hOf hROf hLt hMk hAL hRM hI hRI hok1 hok2 hok3
  unfold CameOf at HOf HROf
  unfold Came at HMk HRM
  unfold CameD at HI HRI
  generalize errOf o1 = e1 at *
  generalize errO o2 = e2 at *
  generalize outO o1 = d1 at *
  generalize outO o2 = d2 at *
  generalize outO o3 = d3 at *
  clear hs
  have HT := Lib.hid hT; have HALT := Lib.hid halt; clear hT halt
  go_enter Tryd.func3, Tryd.ntmps3
  go_wp2_with fail
  refine HAwk.out.mono ?_; rintro en w0 ⟨rfl, hB⟩
  have z0 := hB.size
  go_wp2_with fail
  refine (HOf.out w0 hB).mono ?_; rintro en w1 ⟨v, rfl, ⟨a1, c1, rfl, ho1⟩, hb⟩
  replace hB := below_call hb hB (by omega)
  have z1 := hb.size
  have L1 := Lib.hid ho1.lt
  clear hb
  simp only [dyV]
  go_wp2_with fail
  (obtain ⟨v1, h1⟩ : ∃ W, W = (w1.alloc (.cells #[.bool d1.neg, .slice a1 (words d1.m).length c1, .int .i64 d1.exp] 27)) := ⟨_, rfl⟩; have pinEq := h1; (try simp only [wr3] at pinEq); rw [← pinEq]; clear pinEq)
  obtain ⟨k1, b1, s1⟩ := new_cel h1 rfl
  (replace ho1 := own_call b1 ho1; replace hB := below_call b1 hB (by omega))
  clear h1 b1
  refine (HROf.out v1).mono ?_; rintro en w2 ⟨v, rfl, ⟨a2, c2, rfl, ho2⟩, hb⟩
  (replace k1 := cel_call hb k1 (by omega); replace ho1 := own_call hb ho1; replace hB := below_call hb hB (by omega))
  have z2 := hb.size
  have L2 := Lib.hid ho2.lt
  clear hb
  simp only [dyV]
  go_wp2_with fail
  (obtain ⟨v2, h2⟩ : ∃ W, W = (w2.alloc (.cells #[.bool d1.neg, .slice a2 (words d1.m).length c2, .int .i64 d1.exp] 27)) := ⟨_, rfl⟩; have pinEq := h2; (try simp only [wr3] at pinEq); rw [← pinEq]; clear pinEq)
  obtain ⟨k2, b2, s2⟩ := new_cel h2 rfl
  (replace ho2 := own_call b2 ho2; replace k1 := cel_call b2 k1 (by omega); replace ho1 := own_call b2 ho1; replace hB := below_call b2 hB (by omega))
  clear h2 b2
  refine (HLt.out v2 hB).mono ?_; rintro en w3 ⟨rfl, hl, hb⟩
  (replace k2 := cel_call hb k2 (by omega); replace ho2 := own_call hb ho2; replace k1 := cel_call hb k1 (by omega); replace ho1 := own_call hb ho1; replace hB := below_call hb hB (by omega))
  have z3 := hb.size
  have zg := hl.lt
  rw [s2] at hl
  clear hb
  go_wp2_with fail
  refine (HMk.out w3 _ hB hl).mono ?_; rintro en w4 ⟨v, rfl, ⟨a4, c4, rfl, ho4⟩, hb⟩
  (replace k2 := cel_call hb k2 (by omega); replace ho2 := own_call hb ho2; replace k1 := cel_call hb k1 (by omega); replace ho1 := own_call hb ho1; replace hB := below_call hb hB (by omega))
  have z4 := hb.size
  have L4 := Lib.hid ho4.lt
  replace hl := hl.grow hb
  clear hb
  simp only [dyV]
  go_wp2_with fail
  (obtain ⟨v4, h4⟩ : ∃ W, W = (w4.alloc (.cells #[.bool d2.neg, .slice a4 (words d2.m).length c4, .int .i64 d2.exp] 27)) := ⟨_, rfl⟩; have pinEq := h4; (try simp only [wr3] at pinEq); rw [← pinEq]; clear pinEq)
  obtain ⟨k4, b4, s4⟩ := new_cel h4 rfl
  (replace ho4 := own_call b4 ho4; replace k2 := cel_call b4 k2 (by omega); replace ho2 := own_call b4 ho2; replace k1 := cel_call b4 k1 (by omega); replace ho1 := own_call b4 ho1; replace hB := below_call b4 hB (by omega))
  replace hl := hl.grow b4
  clear h4 b4
  refine (HMk.out v4 _ hB hl).mono ?_; rintro en w5 ⟨v, rfl, ⟨a5, c5, rfl, ho5⟩, hb⟩
  (replace k4 := cel_call hb k4 (by omega); replace ho4 := own_call hb ho4; replace k2 := cel_call hb k2 (by omega); replace ho2 := own_call hb ho2; replace k1 := cel_call hb k1 (by omega); replace ho1 := own_call hb ho1; replace hB := below_call hb hB (by omega))
  have z5 := hb.size
  have L5 := Lib.hid ho5.lt
  replace hl := hl.grow hb
  clear hb
  simp only [dyV]
  go_wp2_with fail
  (obtain ⟨v5, h5⟩ : ∃ W, W = (w5.alloc (.cells #[.bool d2.neg, .slice a5 (words d2.m).length c5, .int .i64 d2.exp] 27)) := ⟨_, rfl⟩; have pinEq := h5; (try simp only [wr3] at pinEq); rw [← pinEq]; clear pinEq)
  obtain ⟨k5, b5, s5⟩ := new_cel h5 rfl
  (replace ho5 := own_call b5 ho5; replace k4 := cel_call b5 k4 (by omega); replace ho4 := own_call b5 ho4; replace k2 := cel_call b5 k2 (by omega); replace ho2 := own_call b5 ho2; replace k1 := cel_call b5 k1 (by omega); replace ho1 := own_call b5 ho1; replace hB := below_call b5 hB (by omega))
  replace hl := hl.grow b5
  clear h5 b5
  refine (HAL.out v5 _ hB hl (fun ad ha hne => by have := HALT.out ad hne ha; omega)).mono ?_; rintro en w6 ⟨rfl, hk⟩
  have z6 := hk.size
  replace hB := bel_grown hB (Nat.le_refl _) hk (by omega)
  replace k1 := cel_grown k1 hk (by omega)
  replace k2 := cel_grown k2 hk (by omega)
  replace k4 := cel_grown k4 hk (by omega)
  replace k5 := cel_grown k5 hk (by omega)
  replace ho1 := own_grown ho1 hk (fun ad ha => by have := L1.out ad ha; omega)
  replace ho2 := own_grown ho2 hk (fun ad ha => by have := L2.out ad ha; omega)
  replace ho4 := own_grown ho4 hk (fun ad ha => by have := ho4.ge ad ha; omega)
  replace ho5 := own_grown ho5 hk (fun ad ha => by have := ho5.ge ad ha; omega)
  clear hk hl
  go_wp2_with fail
  refine (HRM.out w6 hB).mono ?_; rintro en w7 ⟨v, rfl, ⟨a7, c7, rfl, ho7⟩, hb⟩
  (replace hB := below_call hb hB (by omega); replace k1 := cel_call hb k1 (by omega); replace k2 := cel_call hb k2 (by omega); replace k4 := cel_call hb k4 (by omega); replace k5 := cel_call hb k5 (by omega); replace ho1 := own_call hb ho1; replace ho2 := own_call hb ho2; replace ho4 := own_call hb ho4; replace ho5 := own_call hb ho5)
  have z7 := hb.size
  have L7 := Lib.hid ho7.lt
  clear hb
  simp only [dyV]
  go_wp2_with fail
  (obtain ⟨v7, h7⟩ : ∃ W, W = (w7.alloc (.cells #[.bool d2.neg, .slice a7 (words d2.m).length c7, .int .i64 d2.exp] 27)) := ⟨_, rfl⟩; have pinEq := h7; (try simp only [wr3] at pinEq); rw [← pinEq]; clear pinEq)
  obtain ⟨k7, b7, s7⟩ := new_cel h7 rfl
  (replace ho7 := own_call b7 ho7; replace hB := below_call b7 hB (by omega); replace k1 := cel_call b7 k1 (by omega); replace k2 := cel_call b7 k2 (by omega); replace k4 := cel_call b7 k4 (by omega); replace k5 := cel_call b7 k5 (by omega); replace ho1 := own_call b7 ho1; replace ho2 := own_call b7 ho2; replace ho4 := own_call b7 ho4; replace ho5 := own_call b7 ho5)
  clear h7 b7
  refine (HI.out v7 hB).mono ?_; rintro en w8 ⟨v, rfl, ⟨a8, c8, rfl, ho8⟩, hb⟩
  (replace k7 := cel_call hb k7 (by omega); replace ho7 := own_call hb ho7; replace hB := below_call hb hB (by omega); replace k1 := cel_call hb k1 (by omega); replace k2 := cel_call hb k2 (by omega); replace k4 := cel_call hb k4 (by omega); replace k5 := cel_call hb k5 (by omega); replace ho1 := own_call hb ho1; replace ho2 := own_call hb ho2; replace ho4 := own_call hb ho4; replace ho5 := own_call hb ho5)
  have z8 := hb.size
  have L8 := Lib.hid ho8.lt
  clear hb
  simp only [dyV]
  go_wp2_with fail
  (obtain ⟨v8, h8⟩ : ∃ W, W = (w8.alloc (.cells #[.bool d3.neg, .slice a8 (words d3.m).length c8, .int .i64 d3.exp] 27)) := ⟨_, rfl⟩; have pinEq := h8; (try simp only [wr3] at pinEq); rw [← pinEq]; clear pinEq)
  obtain ⟨k8, b8, s8⟩ := new_cel h8 rfl
  (replace ho8 := own_call b8 ho8; replace k7 := cel_call b8 k7 (by omega); replace ho7 := own_call b8 ho7; replace hB := below_call b8 hB (by omega); replace k1 := cel_call b8 k1 (by omega); replace k2 := cel_call b8 k2 (by omega); replace k4 := cel_call b8 k4 (by omega); replace k5 := cel_call b8 k5 (by omega); replace ho1 := own_call b8 ho1; replace ho2 := own_call b8 ho2; replace ho4 := own_call b8 ho4; replace ho5 := own_call b8 ho5)
  clear h8 b8
  refine (HRI.out v8).mono ?_; rintro en w9 ⟨v, rfl, ⟨a9, c9, rfl, ho9⟩, hb⟩
  (replace k8 := cel_call hb k8 (by omega); replace ho8 := own_call hb ho8; replace k7 := cel_call hb k7 (by omega); replace ho7 := own_call hb ho7; replace hB := below_call hb hB (by omega); replace k1 := cel_call hb k1 (by omega); replace k2 := cel_call hb k2 (by omega); replace k4 := cel_call hb k4 (by omega); replace k5 := cel_call hb k5 (by omega); replace ho1 := own_call hb ho1; replace ho2 := own_call hb ho2; replace ho4 := own_call hb ho4; replace ho5 := own_call hb ho5)
  have z9 := hb.size
  have L9 := Lib.hid ho9.lt
  clear hb
  simp only [dyV]
  go_wp2_with fail
  (obtain ⟨v9, h9⟩ : ∃ W, W = (w9.alloc (.cells #[.bool d3.neg, .slice a9 (words d3.m).length c9, .int .i64 d3.exp] 27)) := ⟨_, rfl⟩; have pinEq := h9; (try simp only [wr3] at pinEq); rw [← pinEq]; clear pinEq)
  obtain ⟨k9, b9, s9⟩ := new_cel h9 rfl
  (replace ho9 := own_call b9 ho9; replace k8 := cel_call b9 k8 (by omega); replace ho8 := own_call b9 ho8; replace k7 := cel_call b9 k7 (by omega); replace ho7 := own_call b9 ho7; replace hB := below_call b9 hB (by omega); replace k1 := cel_call b9 k1 (by omega); replace k2 := cel_call b9 k2 (by omega); replace k4 := cel_call b9 k4 (by omega); replace k5 := cel_call b9 k5 (by omega); replace ho1 := own_call b9 ho1; replace ho2 := own_call b9 ho2; replace ho4 := own_call b9 ho4; replace ho5 := own_call b9 ho5)
  clear h9 b9
  refine (HOf.out v9 hB).mono ?_; rintro en w10 ⟨v, rfl, ⟨a10, c10, rfl, ho10⟩, hb⟩
  (replace k9 := cel_call hb k9 (by omega); replace ho9 := own_call hb ho9; replace k8 := cel_call hb k8 (by omega); replace ho8 := own_call hb ho8; replace k7 := cel_call hb k7 (by omega); replace ho7 := own_call hb ho7; replace hB := below_call hb hB (by omega); replace k1 := cel_call hb k1 (by omega); replace k2 := cel_call hb k2 (by omega); replace k4 := cel_call hb k4 (by omega); replace k5 := cel_call hb k5 (by omega); replace ho1 := own_call hb ho1; replace ho2 := own_call hb ho2; replace ho4 := own_call hb ho4; replace ho5 := own_call hb ho5)
  have z10 := hb.size
  have L10 := Lib.hid ho10.lt
  clear hb
  simp only [dyV]
  go_wp2_with fail
  (obtain ⟨v10, h10⟩ : ∃ W, W = (w10.alloc (.cells #[.bool d1.neg, .slice a10 (words d1.m).length c10, .int .i64 d1.exp] 27)) := ⟨_, rfl⟩; have pinEq := h10; (try simp only [wr3] at pinEq); rw [← pinEq]; clear pinEq)
  obtain ⟨k10, b10, s10⟩ := new_cel h10 rfl
  (replace ho10 := own_call b10 ho10; replace k9 := cel_call b10 k9 (by omega); replace ho9 := own_call b10 ho9; replace k8 := cel_call b10 k8 (by omega); replace ho8 := own_call b10 ho8; replace k7 := cel_call b10 k7 (by omega); replace ho7 := own_call b10 ho7; replace hB := below_call b10 hB (by omega); replace k1 := cel_call b10 k1 (by omega); replace k2 := cel_call b10 k2 (by omega); replace k4 := cel_call b10 k4 (by omega); replace k5 := cel_call b10 k5 (by omega); replace ho1 := own_call b10 ho1; replace ho2 := own_call b10 ho2; replace ho4 := own_call b10 ho4; replace ho5 := own_call b10 ho5)
  clear h10 b10
  have hI2 : ∀ W, Below v10.heap.size v10 W → Calls Tryd.prog 17 #[.int .i64 n] W fun en w' => ∃ a c, en = .returned (.agg #[.bool d3.neg, .slice a (words d3.m).length c, .int .i64 d3.exp]) ∧ Own w' 64 v10.heap.size a c (words d3.m) ∧ Below v10.heap.size v10 w' ∧ Below W.heap.size W w' := by
    intro W hw
    refine (HI.out W (hB.trans (hw.mono hB.size))).mono ?_
    rintro en w' ⟨v, rfl, ⟨a, c, rfl, ho⟩, hb⟩
    exact ⟨a, c, rfl, ho.mono hw.size, hw.trans (hb.mono hw.size), hb⟩
  have hTk : ∀ W g k a11 c11, Below v10.heap.size v10 W → Own W 64 v10.heap.size a11 c11 (words d3.m) → W.heap[g]? = some (.cells #[.bool d1.neg, .slice a1 (words d1.m).length c1, .int .i64 d1.exp, .bool d2.neg, .slice a4 (words d2.m).length c4, .int .i64 d2.exp, .bool d2.neg, .slice a5 (words d2.m).length c5, .int .i64 d2.exp, .bool d3.neg, .slice a8 (words d3.m).length c8, .int .i64 d3.exp, .bool d1.neg, .slice a10 (words d1.m).length c10, .int .i64 d1.exp, .bool d3.neg, .slice a11 (words d3.m).length c11, .int .i64 d3.exp] 27 (0, 0)) → W.heap[k]? = some (.cells #[.bool d1.neg, .slice a2 (words d1.m).length c2, .int .i64 d1.exp, .bool d2.neg, .slice a7 (words d2.m).length c7, .int .i64 d2.exp, .bool d2.neg, .slice a7 (words d2.m).length c7, .int .i64 d2.exp, .bool d3.neg, .slice a9 (words d3.m).length c9, .int .i64 d3.exp, .bool d1.neg, .slice a2 (words d1.m).length c2, .int .i64 d1.exp, .bool d3.neg, .slice a9 (words d3.m).length c9, .int .i64 d3.exp] 27 (0, 0)) → Calls Tryd.prog 19 #[.slice (some ⟨g, 0, none⟩) 6 6, .slice (some ⟨k, 0, none⟩) 6 6] W fun en w' => en = .returned (.bool true) ∧ Below w.heap.size w w' ∧ ∀ g v0 v1 v2, Cel W g v0 v1 v2 → Cel w' g v0 v1 v2 := by
    intro W g k a11 c11 hw h11 hX hY
    have q (o : Own v10 64 w0.heap.size a1 c1 (words d1.m)) : True := trivial
    have hch : Chain W w.heap.size [argOf d1 a1 c1, argOf d2 a4 c4, argOf d2 a5 c5, argOf d3 a8 c8, argOf d1 a10 c10, argOf d3 a11 c11] := by
      refine Chain.cons ((ho1.grow hw).mono z0) (mid := w3.heap.size) (by omega) (fun ad h => by have := L1.out ad h; omega) ?_
      refine Chain.cons (ho4.grow hw) (mid := v4.heap.size) (by omega) (fun ad h => by have := L4.out ad h; omega) ?_
      refine Chain.cons (ho5.grow hw) (mid := v7.heap.size) (by omega) (fun ad h => by have := L5.out ad h; omega) ?_
      refine Chain.cons (ho8.grow hw) (mid := v9.heap.size) (by omega) (fun ad h => by have := L8.out ad h; omega) ?_
      refine Chain.cons (ho10.grow hw) (mid := v10.heap.size) (by omega) (fun ad h => by have := L10.out ad h; omega) ?_
      exact Chain.cons h11 (mid := W.heap.size) hw.size (fun ad h => h11.lt ad h) trivial
    have hx : ∀ x ∈ [argOf d1 a1 c1, argOf d2 a4 c4, argOf d2 a5 c5, argOf d3 a8 c8, argOf d1 a10 c10, argOf d3 a11 c11], x.Ok W ∧ x.l.length ≤ 10000 := by
      intro x hx
      have l1 := HK1.out.len
      have l2 := HK2.out.len
      have l3 := HK3.out.len
      simp only [List.mem_cons, List.not_mem_nil, or_false] at hx
      rcases hx with rfl | rfl | rfl | rfl | rfl | rfl
      · exact ⟨(ho1.grow hw).arg HK1.out, by show (words d1.m).length ≤ _; omega⟩
      · exact ⟨(ho4.grow hw).arg HK2.out, by show (words d2.m).length ≤ _; omega⟩
      · exact ⟨(ho5.grow hw).arg HK2.out, by show (words d2.m).length ≤ _; omega⟩
      · exact ⟨(ho8.grow hw).arg HK3.out, by show (words d3.m).length ≤ _; omega⟩
      · exact ⟨(ho10.grow hw).arg HK1.out, by show (words d1.m).length ≤ _; omega⟩
      · exact ⟨h11.arg HK3.out, by show (words d3.m).length ≤ _; omega⟩
    have hy : ∀ y ∈ [argOf d1 a2 c2, argOf d2 a7 c7, argOf d2 a7 c7, argOf d3 a9 c9, argOf d1 a2 c2, argOf d3 a9 c9], y.Ok W := by
      intro y hy
      simp only [List.mem_cons, List.not_mem_nil, or_false] at hy
      rcases hy with rfl | rfl | rfl | rfl | rfl | rfl
      · exact (ho2.grow hw).arg HK1.out
      · exact (ho7.grow hw).arg HK2.out
      · exact (ho7.grow hw).arg HK2.out
      · exact (ho9.grow hw).arg HK3.out
      · exact (ho2.grow hw).arg HK1.out
      · exact (ho9.grow hw).arg HK3.out
    have hsm : ∀ (i : Nat) (x y : Arg), [argOf d1 a1 c1, argOf d2 a4 c4, argOf d2 a5 c5, argOf d3 a8 c8, argOf d1 a10 c10, argOf d3 a11 c11][i]? = some x → [argOf d1 a2 c2, argOf d2 a7 c7, argOf d2 a7 c7, argOf d3 a9 c9, argOf d1 a2 c2, argOf d3 a9 c9][i]? = some y → x.s = y.s ∧ x.e = y.e ∧ x.l = y.l := by
      intro i x y h1 h2
      match i, h1, h2 with
      | 0, h1, h2 => cases h1; cases h2; exact ⟨rfl, rfl, rfl⟩
      | 1, h1, h2 => cases h1; cases h2; exact ⟨rfl, rfl, rfl⟩
      | 2, h1, h2 => cases h1; cases h2; exact ⟨rfl, rfl, rfl⟩
      | 3, h1, h2 => cases h1; cases h2; exact ⟨rfl, rfl, rfl⟩
      | 4, h1, h2 => cases h1; cases h2; exact ⟨rfl, rfl, rfl⟩
      | 5, h1, h2 => cases h1; cases h2; exact ⟨rfl, rfl, rfl⟩
      | i + 6, h1, h2 => cases h1
    have hBW : Below w.heap.size w W := hB.trans (hw.mono hB.size)
    have := took_cel w.heap.size g k [argOf d1 a1 c1, argOf d2 a4 c4, argOf d2 a5 c5, argOf d3 a8 c8, argOf d1 a10 c10, argOf d3 a11 c11] [argOf d1 a2 c2, argOf d2 a7 c7, argOf d2 a7 c7, argOf d3 a9 c9, argOf d1 a2 c2, argOf d3 a9 c9] W hBW.size (by simp) rfl (lt_of_block hX) (lt_of_block hY) (dys_block hX rfl) (dys_block hY rfl) hch hx hy hsm
    refine this.mono ?_
    rintro en w' ⟨h1, h2, h3⟩
    exact ⟨h1, hBW.trans h2, h3⟩
  have HI2 := Lib.hid hI2; have HTk := Lib.hid hTk; clear hI2 hTk
  (obtain ⟨q215x0x0, q215x0x1, q215x0x2, q215x0x3, q215x0x4, q215x0x5⟩ := Cel.facts k10; obtain ⟨q215x1x0, q215x1x1, q215x1x2, q215x1x3, q215x1x4, q215x1x5⟩ := Cel.facts k9; obtain ⟨q215x2x0, q215x2x1, q215x2x2, q215x2x3, q215x2x4, q215x2x5⟩ := Cel.facts k8; obtain ⟨q215x3x0, q215x3x1, q215x3x2, q215x3x3, q215x3x4, q215x3x5⟩ := Cel.facts k7; obtain ⟨q215x4x0, q215x4x1, q215x4x2, q215x4x3, q215x4x4, q215x4x5⟩ := Cel.facts k1; obtain ⟨q215x5x0, q215x5x1, q215x5x2, q215x5x3, q215x5x4, q215x5x5⟩ := Cel.facts k2; obtain ⟨q215x6x0, q215x6x1, q215x6x2, q215x6x3, q215x6x4, q215x6x5⟩ := Cel.facts k4; obtain ⟨q215x7x0, q215x7x1, q215x7x2, q215x7x3, q215x7x4, q215x7x5⟩ := Cel.facts k5)
  have HB := Lib.hid hB; clear hB
  clear ho1 ho2 ho4 ho5 ho7 ho8 ho9 ho10 L1 L2 L4 L5 L7 L8 L9 L10 s1 s2 s4 s5 s7 s8 s9 s10
  go_region_held3 (fun W => W.cell? ⟨w1.heap.size, 0, none⟩ = some (.bool d1.neg) ∧ W.cell? ⟨w1.heap.size, 1, none⟩ = some (.slice a1 (words d1.m).length c1) ∧ W.cell? ⟨w1.heap.size, 2, none⟩ = some (.int .i64 d1.exp) ∧ W.cell? ⟨w4.heap.size, 0, none⟩ = some (.bool d2.neg) ∧ W.cell? ⟨w4.heap.size, 1, none⟩ = some (.slice a4 (words d2.m).length c4) ∧ W.cell? ⟨w4.heap.size, 2, none⟩ = some (.int .i64 d2.exp) ∧ W.cell? ⟨w5.heap.size, 0, none⟩ = some (.bool d2.neg) ∧ W.cell? ⟨w5.heap.size, 1, none⟩ = some (.slice a5 (words d2.m).length c5) ∧ W.cell? ⟨w5.heap.size, 2, none⟩ = some (.int .i64 d2.exp) ∧ W.cell? ⟨w8.heap.size, 0, none⟩ = some (.bool d3.neg) ∧ W.cell? ⟨w8.heap.size, 1, none⟩ = some (.slice a8 (words d3.m).length c8) ∧ W.cell? ⟨w8.heap.size, 2, none⟩ = some (.int .i64 d3.exp) ∧ W.cell? ⟨w10.heap.size, 0, none⟩ = some (.bool d1.neg) ∧ W.cell? ⟨w10.heap.size, 1, none⟩ = some (.slice a10 (words d1.m).length c10) ∧ W.cell? ⟨w10.heap.size, 2, none⟩ = some (.int .i64 d1.exp) ∧ W.cell? ⟨w2.heap.size, 0, none⟩ = some (.bool d1.neg) ∧ W.cell? ⟨w2.heap.size, 1, none⟩ = some (.slice a2 (words d1.m).length c2) ∧ W.cell? ⟨w2.heap.size, 2, none⟩ = some (.int .i64 d1.exp) ∧ W.cell? ⟨w7.heap.size, 0, none⟩ = some (.bool d2.neg) ∧ W.cell? ⟨w7.heap.size, 1, none⟩ = some (.slice a7 (words d2.m).length c7) ∧ W.cell? ⟨w7.heap.size, 2, none⟩ = some (.int .i64 d2.exp) ∧ W.cell? ⟨w9.heap.size, 0, none⟩ = some (.bool d3.neg) ∧ W.cell? ⟨w9.heap.size, 1, none⟩ = some (.slice a9 (words d3.m).length c9) ∧ W.cell? ⟨w9.heap.size, 2, none⟩ = some (.int .i64 d3.exp)) (go_keep) (first
    | (go_at_call 17; refine (HI2.out _ (Below.refl _ _).drew).mono ?_; rintro en w11 ⟨a11, c11, rfl, ho11, hV, hb11⟩; have m1 := k1.below hV k1.lt; obtain ⟨_, _, _, _, _, _⟩ := m1.facts; have m4 := k4.below hV k4.lt; obtain ⟨_, _, _, _, _, _⟩ := m4.facts; have m5 := k5.below hV k5.lt; obtain ⟨_, _, _, _, _, _⟩ := m5.facts; have m8 := k8.below hV k8.lt; obtain ⟨_, _, _, _, _, _⟩ := m8.facts; have m10 := k10.below hV k10.lt; obtain ⟨_, _, _, _, _, _⟩ := m10.facts; have m2 := k2.below hV k2.lt; obtain ⟨_, _, _, _, _, _⟩ := m2.facts; have m7 := k7.below hV k7.lt; obtain ⟨_, _, _, _, _, _⟩ := m7.facts; have m9 := k9.below hV k9.lt; obtain ⟨_, _, _, _, _, _⟩ := m9.facts)
    | (go_at_call 17; refine (HI2.out _ ((Below.refl _ _).alloc (Nat.le_refl _) (.cells #[.bool d1.neg, .slice a2 (words d1.m).length c2, .int .i64 d1.exp, .bool d2.neg, .slice a7 (words d2.m).length c7, .int .i64 d2.exp, .bool d2.neg, .slice a7 (words d2.m).length c7, .int .i64 d2.exp, .bool d3.neg, .slice a9 (words d3.m).length c9, .int .i64 d3.exp, .bool d1.neg, .slice a2 (words d1.m).length c2, .int .i64 d1.exp, .bool d3.neg, .slice a9 (words d3.m).length c9, .int .i64 d3.exp] 27)).drew).mono ?_; rintro en w11 ⟨a11, c11, rfl, ho11, hV, hb11⟩; have jY := ((below_drewN (n := 1) hb11).block v10.heap.size (by simp)).trans (heap_alloc_new v10 (.cells #[.bool d1.neg, .slice a2 (words d1.m).length c2, .int .i64 d1.exp, .bool d2.neg, .slice a7 (words d2.m).length c7, .int .i64 d2.exp, .bool d2.neg, .slice a7 (words d2.m).length c7, .int .i64 d2.exp, .bool d3.neg, .slice a9 (words d3.m).length c9, .int .i64 d3.exp, .bool d1.neg, .slice a2 (words d1.m).length c2, .int .i64 d1.exp, .bool d3.neg, .slice a9 (words d3.m).length c9, .int .i64 d3.exp] 27)); have m1 := k1.below hV k1.lt; obtain ⟨_, _, _, _, _, _⟩ := m1.facts; have m4 := k4.below hV k4.lt; obtain ⟨_, _, _, _, _, _⟩ := m4.facts; have m5 := k5.below hV k5.lt; obtain ⟨_, _, _, _, _, _⟩ := m5.facts; have m8 := k8.below hV k8.lt; obtain ⟨_, _, _, _, _, _⟩ := m8.facts; have m10 := k10.below hV k10.lt; obtain ⟨_, _, _, _, _, _⟩ := m10.facts; have m2 := k2.below hV k2.lt; obtain ⟨_, _, _, _, _, _⟩ := m2.facts; have m7 := k7.below hV k7.lt; obtain ⟨_, _, _, _, _, _⟩ := m7.facts; have m9 := k9.below hV k9.lt; obtain ⟨_, _, _, _, _, _⟩ := m9.facts)
    | (go_at_call 19; with_reducible refine (HTk.out _ _ _ a11 c11 (bel_alloc hV (Nat.le_refl _) _) (own_alloc ho11 _) (heap_alloc_new _ _) (old_alloc jY _)).mono ?_; rintro en w12 ⟨rfl, hbe, hcel⟩; have n1 := hcel _ _ _ _ (m1.alloc _); obtain ⟨_, _, _, _, _, _⟩ := n1.facts; have n4 := hcel _ _ _ _ (m4.alloc _); obtain ⟨_, _, _, _, _, _⟩ := n4.facts; have n5 := hcel _ _ _ _ (m5.alloc _); obtain ⟨_, _, _, _, _, _⟩ := n5.facts; have n8 := hcel _ _ _ _ (m8.alloc _); obtain ⟨_, _, _, _, _, _⟩ := n8.facts; have n10 := hcel _ _ _ _ (m10.alloc _); obtain ⟨_, _, _, _, _, _⟩ := n10.facts; have n2 := hcel _ _ _ _ (m2.alloc _); obtain ⟨_, _, _, _, _, _⟩ := n2.facts; have n7 := hcel _ _ _ _ (m7.alloc _); obtain ⟨_, _, _, _, _, _⟩ := n7.facts; have n9 := hcel _ _ _ _ (m9.alloc _); obtain ⟨_, _, _, _, _, _⟩ := n9.facts)
    | (go_at_call 19; with_reducible refine (HTk.out _ _ _ a11 c11 (bel_alloc (bel_alloc hV (Nat.le_refl _) _) (Nat.le_refl _) _) (own_alloc (own_alloc ho11 _) _) (two_alloc_1 _ _ _ _ _) (two_alloc_0 _ _ _ _ _)).mono ?_; rintro en w12 ⟨rfl, hbe, hcel⟩; have n1 := hcel _ _ _ _ ((m1.alloc _).alloc _); obtain ⟨_, _, _, _, _, _⟩ := n1.facts; have n4 := hcel _ _ _ _ ((m4.alloc _).alloc _); obtain ⟨_, _, _, _, _, _⟩ := n4.facts; have n5 := hcel _ _ _ _ ((m5.alloc _).alloc _); obtain ⟨_, _, _, _, _, _⟩ := n5.facts; have n8 := hcel _ _ _ _ ((m8.alloc _).alloc _); obtain ⟨_, _, _, _, _, _⟩ := n8.facts; have n10 := hcel _ _ _ _ ((m10.alloc _).alloc _); obtain ⟨_, _, _, _, _, _⟩ := n10.facts; have n2 := hcel _ _ _ _ ((m2.alloc _).alloc _); obtain ⟨_, _, _, _, _, _⟩ := n2.facts; have n7 := hcel _ _ _ _ ((m7.alloc _).alloc _); obtain ⟨_, _, _, _, _, _⟩ := n7.facts; have n9 := hcel _ _ _ _ ((m9.alloc _).alloc _); obtain ⟨_, _, _, _, _, _⟩ := n9.facts)
    | (go_at_call 19; with_reducible refine (HTk.out _ _ _ a11 c11 (bel_alloc (bel_alloc hV (Nat.le_refl _) _) (Nat.le_refl _) _) (own_alloc (own_alloc ho11 _) _) (two_alloc_0 _ _ _ _ _) (two_alloc_1 _ _ _ _ _)).mono ?_; rintro en w12 ⟨rfl, hbe, hcel⟩; have n1 := hcel _ _ _ _ ((m1.alloc _).alloc _); obtain ⟨_, _, _, _, _, _⟩ := n1.facts; have n4 := hcel _ _ _ _ ((m4.alloc _).alloc _); obtain ⟨_, _, _, _, _, _⟩ := n4.facts; have n5 := hcel _ _ _ _ ((m5.alloc _).alloc _); obtain ⟨_, _, _, _, _, _⟩ := n5.facts; have n8 := hcel _ _ _ _ ((m8.alloc _).alloc _); obtain ⟨_, _, _, _, _, _⟩ := n8.facts; have n10 := hcel _ _ _ _ ((m10.alloc _).alloc _); obtain ⟨_, _, _, _, _, _⟩ := n10.facts; have n2 := hcel _ _ _ _ ((m2.alloc _).alloc _); obtain ⟨_, _, _, _, _, _⟩ := n2.facts; have n7 := hcel _ _ _ _ ((m7.alloc _).alloc _); obtain ⟨_, _, _, _, _, _⟩ := n7.facts; have n9 := hcel _ _ _ _ ((m9.alloc _).alloc _); obtain ⟨_, _, _, _, _, _⟩ := n9.facts))
  all_goals
    have HBE := Lib.hid hbe
    clear hbe
    go_wp2
    go_ret
    exact ⟨rfl, HBE.out⟩
end Go.Proofs.YtmokomfneikipaaDoor
