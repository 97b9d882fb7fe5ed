/- Contracts of bins.Bins.Kept, Round. No statement of the seat is proved here. -/
import Derived.Test.YthdbapibbdkclaaDoorProg
import Derived.Test.YthdbapibbdkclaaDoorHe
import Derived.Test.YthdbapibbdkclaaDoorHa
namespace Go.Proofs.YthdbapibbdkclaaDoor
open Go.RowKit
set_option maxRecDepth 10000
set_option linter.unusedVariables false
set_option linter.unusedSimpArgs false

/-- one bin's part as a Dyad -/
theorem part_dy {A : Bn} (hA : A.Ok) {f k : Nat} (hk : k < f) (top : Int) (ht : 0 < A.len → top = (A.len : Int) - 35) :
    ∃ d, formF (decide (A.win f k < 0)) (A.win f k).natAbs (32 * (top - k)) = some d ∧ Dy (-1088) 68 d (A.kS (k + 1) - A.kS k) := by
  obtain ⟨j, hj⟩ : ∃ j, j = 68 := ⟨_, rfl⟩
  obtain ⟨j3, hj3⟩ : ∃ j, j = 3 := ⟨_, rfl⟩
  have hb := win_bd hA f k
  have hb3 : (A.win f k).natAbs < 2 ^ (32 * j3) := by rw [hj3, show (2 : Nat) ^ (32 * 3) = 79228162514264337593543950336 from rfl]; omega
  rw [Bn.kS]
  by_cases h : k < A.len
  · have e : A.win f k = A.K (A.len - 1 - k) := by unfold Bn.win; rw [if_pos ⟨hk, h⟩]
    rw [if_pos h]
    have hs := kS_bd hA k
    have hs2 := kS_bd hA (k + 1)
    have ht2 := ht (by omega)
    have hlen := hA.len
    obtain ⟨q, hq⟩ : ∃ q, q = A.len - 1 - k := ⟨_, rfl⟩
    have hexp : (32 * (top - k) - -1088).toNat = 32 * q := by omega
    have hsz : (A.win f k).natAbs * 2 ^ (32 * (top - k) - -1088).toNat < 2 ^ (32 * j) := by
      rw [hexp, hj]
      obtain ⟨p, hp⟩ : ∃ p, p = 32 * q := ⟨_, rfl⟩
      obtain ⟨r, hr⟩ : ∃ r, r = 32 * 68 := ⟨_, rfl⟩
      have h1 : 2 ^ p ≤ 2 ^ (r - 96) := Nat.pow_le_pow_right (by decide) (by omega)
      have h2 : (2 : Nat) ^ r = 2 ^ (r - 96) * 2 ^ (32 * j3) := by rw [hj3, ← Nat.pow_add]; congr 1; omega
      rw [← hp, ← hr, h2, Nat.mul_comm]
      exact Nat.lt_of_le_of_lt (Nat.mul_le_mul_right _ h1) ((Nat.mul_lt_mul_left (Nat.two_pow_pos _)).2 hb3)
    obtain ⟨d, h1, h2⟩ := Dy.form (s := decide (A.win f k < 0)) (n := (A.win f k).natAbs) (e := 32 * (top - k)) (B := -1088) (j := j3) (J := j) hb3 (by omega) (by omega) ⟨by decide, by decide, by omega⟩ (by omega) hsz
    refine ⟨d, h1, ?_⟩
    rw [sgn_intZ, hexp, e] at h2
    rw [← hq] at h2 ⊢
    rw [show A.kS k + A.K q * ((4294967296 ^ q : Nat) : Int) - A.kS k = A.K q * ((4294967296 ^ q : Nat) : Int) by omega, w32_pow, ← hj]
    exact h2
  · have e : A.win f k = 0 := by unfold Bn.win; rw [if_neg (fun h' => h h'.2)]
    rw [if_neg h, e]
    refine ⟨D.zero, by unfold formF; rw [if_pos (by rfl)], ?_⟩
    rw [Int.add_zero, Int.sub_self]
    exact Dy.zero (by decide)
theorem kS_dy {A : Bn} (hA : A.Ok) (k : Nat) : ∃ d, zO (-1088) (A.kS k) = some d ∧ Dy (-1088) 68 d (A.kS k) := by
  obtain ⟨j, hj⟩ : ∃ j, j = 68 := ⟨_, rfl⟩
  have := zO_dy (B := -1088) (J := j) ⟨by decide, by decide, by omega⟩ (kS_sz hA k hj)
  rw [hj] at this; exact this
/-- the words of a part's size -/
theorem part_words (m : Nat) (hm : m < 4722366482869645213696) : num [m % 4294967296, m / 4294967296 % 4294967296, m / 18446744073709551616, 0] = m := by
  simp only [num]
  omega

theorem slice_parts (g : Nat) {f : Nat} (h1 : 1 ≤ f) (hf : f ≤ 8) (W : World) : (Instr.sliceAt 90 (.pointer (some ⟨g, 4, none⟩)) none (some (.int .i64 (f : Int))) none).run Tryd.prog W = .ok (.slice (some ⟨g, 4, none⟩) f 8) W := by
  have h : f = 1 ∨ f = 2 ∨ f = 3 ∨ f = 4 ∨ f = 5 ∨ f = 6 ∨ f = 7 ∨ f = 8 := by omega
  rcases h with rfl | rfl | rfl | rfl | rfl | rfl | rfl | rfl
  all_goals rfl
/-- while the sum is made -/
structure KeptS (w W : World) (g f : Nat) (A : Bn) (d : D) (a : Option Addr) (c : Nat) : Prop where
  bel : Below w.heap.size w W
  siz : w.heap.size + 2 ≤ W.heap.size
  res : Cel W w.heap.size (.bool false) (.slice none 0 0) (.int .i64 0)
  sum : Cel W (w.heap.size + 1) (.bool d.neg) (.slice a (words d.m).length c) (.int .i64 d.exp)
  own : Own W 82 (w.heap.size + 2) a c (words d.m)
theorem KeptS.below {w W W' : World} {g f : Nat} {A : Bn} {d : D} {a : Option Addr} {c : Nat} (h : KeptS w W g f A d a c) (hb : Below W.heap.size W W') : KeptS w W' g f A d a c :=
  ⟨h.bel.trans (hb.mono h.bel.size), Nat.le_trans h.siz hb.size, h.res.below hb h.res.lt, h.sum.below hb h.sum.lt, h.own.grow hb⟩
theorem KeptS.put {w W : World} {g f : Nat} {A : Bn} {d d' : D} {a a' : Option Addr} {c c' : Nat} (h : KeptS w W g f A d a c) (ho : Own W 82 (w.heap.size + 2) a' c' (words d'.m)) :
    KeptS w (wr3 W (w.heap.size + 1) (.bool d'.neg) (.slice a' (words d'.m).length c') (.int .i64 d'.exp)) g f A d' a' c' :=
  ⟨below_wr3 h.bel (by omega), by rw [size_wr rfl]; exact h.siz, h.res.wrOther (by omega) _ _ _, h.sum.wr _ _ _, own_wr3 ho (by omega)⟩

def KeptQ (d : D) (w : World) (en : Ending) (w' : World) : Prop := OutD d w en w'
set_option maxHeartbeats 16000000 in
theorem bkept_any (A : Bn) (g f : Nat) (w : World) (hA : A.Ok) (h1 : 1 ≤ f) (hf : f ≤ 8) (hB : BinAt w g f A) (hT : Tab w) {d : D} (hd : zO (-1088) (A.kS f) = some d) :
    Calls Tryd.prog 62 #[.pointer (some ⟨g, 0, none⟩)] w (OutD d w) := by
  obtain ⟨top, htop⟩ : ∃ top : Int, top = if 0 < A.len then (A.len : Int) - 35 else 0 := ⟨_, rfl⟩
  have HB : Hid (∀ W, Below w.heap.size w W → BinC W g f A.n (decide (0 < A.len)) top (A.win f)) := fun W hW => by
    have := BinC.grow hB hW
    rw [← htop] at this; exact this
  have hlen := hA.len
  have ht1 : -34 ≤ top ∧ top ≤ 31 := by rw [htop]; split <;> omega
  obtain ⟨ht1, ht2⟩ := ht1
  have HP : Hid (∀ k, k < f → ∃ d, formF (decide (A.win f k < 0)) (A.win f k).natAbs (32 * (top - k)) = some d ∧ Dy (-1088) 68 d (A.kS (k + 1) - A.kS k)) := fun k hk => part_dy hA hk top (fun h => by rw [htop, if_pos h])
  have HS : Hid (∀ k, ∃ d, zO (-1088) (A.kS k) = some d ∧ Dy (-1088) 68 d (A.kS k)) := fun k => kS_dy hA k
  have HT := Lib.hid (fun W (hw : Below w.heap.size w W) => hT.grow hw)
  have HW := Lib.hid (fun k => win_bd hA f k)
  have HD := Lib.hid hd
  have hlt := BinC.lt hB
  obtain ⟨w1, e1⟩ : ∃ W, W = w.alloc (.cells #[.bool false, .slice none 0 0, .int .i64 0] 28) := ⟨_, rfl⟩
  obtain ⟨k1, c1, s1⟩ := new_cel e1 rfl
  obtain ⟨w2, e2⟩ : ∃ W, W = w1.alloc (.cells #[.bool false, .slice none 0 0, .int .i64 0] 28) := ⟨_, rfl⟩
  obtain ⟨k2, c2, s2⟩ := new_cel e2 s1
  have HK0 : Hid (KeptS w w2 g f A D.zero none 0) := ⟨c1.trans (c2.mono (by omega)), by omega, k1.below c2 (by omega), by show Cel _ _ (.bool false) (.slice none (words 0).length 0) (.int .i64 0); rw [words_zero]; exact k2, by show Own _ _ _ none 0 (words 0); rw [words_zero]; exact Own.none _ _ _⟩
  have E1 := Lib.hid e1; have E2 := Lib.hid e2
  obtain ⟨x0, x1, x2, x3⟩ := (HB.out w2 HK0.out.bel).head
  clear hB hA hT hd htop e1 e2 k1 k2 c1 c2 s1 s2 hlen
  have hsl : ∀ W, (Instr.sliceAt 90 (.pointer (some ⟨g, 4, none⟩)) none (some (.int .i64 (f : Int))) none).run Tryd.prog W = .ok (.slice (some ⟨g, 4, none⟩) f 8) W := slice_parts g h1 hf
  go_enter Tryd.func62, Tryd.ntmps62
  go_upto_region 2 with fail
  rw [← E1.out, ← E2.out]
  go_region
  have HK1 : Hid (KeptS w w2.drew g f A D.zero none 0) := ⟨HK0.out.bel.drew, HK0.out.siz, HK0.out.res, HK0.out.sum, HK0.out.own⟩
  obtain ⟨w3, e3⟩ : ∃ W, W = w2.drew := ⟨_, rfl⟩
  rw [← e3] at HK1 ⊢
  clear e3 x0 x1 x2 x3
  go_wp2_with fail
  go_loopw [4, 5, 6, 7, 8, 9, 10, 11, 21] (fun z4 z5 z6 z7 z8 z9 z10 z11 ii wr => ∃ (k : Nat) (dS : D) (a : Option Addr) (c : Nat), k ≤ f ∧ ii = .int .i64 k ∧ Hid (Dy (-1088) 68 dS (A.kS k) ∧ KeptS w wr g f A dS a c)) (fun _ _ _ _ _ _ _ _ ii _ => f - (intOf ii).toNat)
  case atStart => exact ⟨0, D.zero, none, 0, Nat.zero_le _, rfl, Dy.zero (by decide), HK1.out⟩
  case round =>
    obtain ⟨k, dS, a, c, hk, rfl, hH⟩ := hrel
    by_cases hq : k < f
    · obtain ⟨p0, p1⟩ := (HB.out wr hH.out.2.bel).part (j := k) (by omega)
      obtain ⟨dp, hdp, hdy⟩ := HP.out k hq
      have hzb := HW.out k
      obtain ⟨z, hz⟩ : ∃ z, z = A.win f k := ⟨_, rfl⟩
      obtain ⟨lo, hlo⟩ : ∃ x, x = loI z := ⟨_, rfl⟩
      obtain ⟨hh, hhh⟩ : ∃ x, x = hiI z := ⟨_, rfl⟩
      obtain ⟨m, hm⟩ : ∃ m, m = z.natAbs := ⟨_, rfl⟩
      rw [← hz] at p0 p1 hdp hzb
      rw [← hlo] at p0
      rw [← hhh] at p1
      rw [← hm] at hdp hzb
      have hpw := part_words m hzb
      obtain ⟨l0, hl0⟩ : ∃ l, l = m % 4294967296 := ⟨_, rfl⟩
      obtain ⟨l1, hl1⟩ : ∃ l, l = m / 4294967296 % 4294967296 := ⟨_, rfl⟩
      obtain ⟨l2, hl2⟩ : ∃ l, l = m / 18446744073709551616 := ⟨_, rfl⟩
      rw [← hl0, ← hl1, ← hl2] at hpw
      have hw32 : W32 [l0, l1, l2, 0] := W32.cons (by omega) (W32.cons (by omega) (W32.cons (by omega) (W32.cons (by decide) W32.nil)))
      unfold loI at hlo
      unfold hiI at hhh
      have hsz := hH.out.2.siz
      have HH := hH
      have HDP := Lib.hid (And.intro hpw hw32)
      have HDY := Lib.hid hdy
      by_cases hneg : z < 0
      all_goals first
        | (
            have n1 : hh < 0 := by omega
            have n2 : -257 ≤ hh := by omega
            have n3 : 0 ≤ lo ∧ lo < 18446744073709551616 := by omega
            obtain ⟨n31, n32⟩ := n3
            obtain ⟨lm, hlm⟩ : ∃ x : Int, x = (m : Int) % 18446744073709551616 := ⟨_, rfl⟩
            obtain ⟨le, hle⟩ : ∃ x : Int, x = if lo = 0 then 0 else 1 := ⟨_, rfl⟩
            have hA : ∀ W, (callFunc 119 #[.int .u64 0, .int .u64 lo, .int .u64 0]).run Tryd.prog W = .ok (.value (.tuple #[.int .u64 lm, .int .u64 le])) W := by
              intro W
              rw [ext_sub64 0 lo 0 (by decide) (by decide) n31 n32 (by decide) (by decide) W]
              have q1 : (0 - lo - 0) % 18446744073709551616 = lm := by omega
              have q2 : -((0 - lo - 0) / 18446744073709551616) = le := by rw [hle]; split <;> omega
              rw [q1, q2]
            have hlb : 0 ≤ le ∧ le ≤ 1 := by rw [hle]; split <;> omega
            obtain ⟨hlb1, hlb2⟩ := hlb
            have q3 : -hh - le = (l2 : Int) := by rw [hle]; split <;> omega
            have r0 : lm % 4294967296 = (l0 : Int) := by omega
            have r1 : lm / 4294967296 % 4294967296 = (l1 : Int) := by omega
            have r2 : ((l2 : Nat) : Int) % 4294967296 = (l2 : Int) := by omega
            have r3 : ((l2 : Nat) : Int) / 4294967296 % 4294967296 = 0 := by omega
            have r4 : ((l2 : Nat) : Int) / 4294967296 = 0 := by omega
            have hl2b : l2 ≤ 1000 := by omega
            rw [decide_eq_true hneg] at hdp
            have HD2 := Lib.hid hdp
            clear hdp hpw hw32 hdy hlo hhh hz hm hl0 hl1 hl2 hzb hneg hle hlm hH
            go_upto_region 10 with fail
            obtain ⟨wq, eq⟩ : ∃ W, W = (wr.alloc (.cells #[.int .u64 lm, .int .i64 l2] 89)).alloc (.cells #[.int .u32 l0, .int .u32 l1, .int .u32 l2, .int .u32 0] 82) := ⟨_, rfl⟩
            rw [← eq]
            have HBq : Hid (Below wr.heap.size wr wq) := by
              rw [eq]
              exact (((Below.refl wr.heap.size wr).alloc (Nat.le_refl _) _).alloc (by simp) _)
            have HBlk : Hid (Blk wq 82 (wr.heap.size + 1) [l0, l1, l2, 0]) := by
              show Blk _ 82 (wr.heap.size + 1) [l0, l1, l2, 0]
              rw [eq]
              have := blk_alloc (wr.alloc (.cells #[.int .u64 lm, .int .i64 l2] 89)) 82 #[.int .u32 l0, .int .u32 l1, .int .u32 l2, .int .u32 0] [l0, l1, l2, 0] rfl
              simpa using this
            clear eq hA q3 r0 r1 r2 r3 r4 hl2b n1 n2 n31 n32 hlb1 hlb2)
        | (
            have n1 : ¬ hh < 0 := by omega
            have n2 : hh = (l2 : Int) := by omega
            have n3 : 0 ≤ lo ∧ lo < 18446744073709551616 := by omega
            obtain ⟨n31, n32⟩ := n3
            have r0 : lo % 4294967296 = (l0 : Int) := by omega
            have r1 : lo / 4294967296 = (l1 : Int) := by omega
            have r2 : ((l2 : Nat) : Int) % 4294967296 = (l2 : Int) := by omega
            have r3 : ((l2 : Nat) : Int) / 4294967296 % 4294967296 = 0 := by omega
            have r4 : ((l2 : Nat) : Int) / 4294967296 = 0 := by omega
            have hl2b : l2 ≤ 1000 := by omega
            rw [decide_eq_false hneg] at hdp
            have HD2 := Lib.hid hdp
            rw [n2] at p1
            clear hdp hpw hw32 hdy hlo hhh hz hm hl0 hl1 hl2 hzb hneg hH n1 n2
            go_upto_region 10 with fail
            obtain ⟨wq, eq⟩ : ∃ W, W = (wr.alloc (.cells #[.int .u64 lo, .int .i64 l2] 89)).alloc (.cells #[.int .u32 l0, .int .u32 l1, .int .u32 l2, .int .u32 0] 82) := ⟨_, rfl⟩
            rw [← eq]
            have HBq : Hid (Below wr.heap.size wr wq) := by
              rw [eq]
              exact (((Below.refl wr.heap.size wr).alloc (Nat.le_refl _) _).alloc (by simp) _)
            have HBlk : Hid (Blk wq 82 (wr.heap.size + 1) [l0, l1, l2, 0]) := by
              show Blk _ 82 (wr.heap.size + 1) [l0, l1, l2, 0]
              rw [eq]
              have := blk_alloc (wr.alloc (.cells #[.int .u64 lo, .int .i64 l2] 89)) 82 #[.int .u32 l0, .int .u32 l1, .int .u32 l2, .int .u32 0] [l0, l1, l2, 0] rfl
              simpa using this
            clear eq r0 r1 r2 r3 r4 hl2b n31 n32)
      all_goals
        clear p0 p1
        have HKq := Lib.hid (HH.out.2.below HBq.out)
        obtain ⟨_, _, _, x3⟩ := (HB.out wq HKq.out.bel).head
        have hMk := yMake (l := [l0, l1, l2, 0]) (by rw [HDP.out.1]; exact HD2.out) (some ⟨wr.heap.size + 1, 0, none⟩) 4 wq (Sl.blk HBlk.out HDP.out.2) (by show (4 : Nat) ≤ _; decide) (by omega) (by omega) (HT.out wq HKq.out.bel)
        have HMk : Hid (Calls Tryd.prog 59 #[.bool _, .slice (some ⟨wr.heap.size + 1, 0, none⟩) 4 4, .int .i64 (32 * (top - (k : Int)))] wq (OutDE dp wq)) := hMk
        clear hMk
        go_wp2_with fail
        refine HMk.out.mono ?_; rintro en w5 ⟨a5, c5, rfl, ho5, hb5⟩
        have HK5 := Lib.hid (HKq.out.below hb5)
        have HO5 := Lib.hid ho5
        have HSz := Lib.hid (Nat.le_trans HKq.out.siz hb5.size)
        clear ho5 hb5 x3
        unfold DV
        go_upto_region 11 with fail
        obtain ⟨w6, e6⟩ : ∃ W, W = w5.alloc (.cells #[.bool dp.neg, .slice a5 (words dp.m).length c5, .int .i64 dp.exp] 28) := ⟨_, rfl⟩
        rw [← e6]
        obtain ⟨k6, c6, s6⟩ := new_cel e6 rfl
        have HK6 := Lib.hid (HK5.out.below c6)
        have HO6 := Lib.hid (HO5.out.grow c6)
        clear e6 s6 c6
        obtain ⟨_, _, _, _, _, _⟩ := HK6.out.sum.facts
        obtain ⟨_, _, _, _, _, _⟩ := k6.facts
        obtain ⟨dn, hdn, hdn2⟩ := HS.out (k + 1)
        have hadd : addD dS dp = some dn := by
          obtain ⟨d', h1, h2⟩ := HH.out.1.add HDY.out ⟨by decide, by decide, by decide⟩
          rw [show A.kS k + (A.kS (k + 1) - A.kS k) = A.kS (k + 1) by omega] at h2
          rw [h1, h2.uniq hdn2]
        have HAd := Lib.hid (yAdd HH.out.1.is HH.out.1.ok HDY.out.is HDY.out.ok hadd a a5 c c5 w6 (HK6.out.own.arg HH.out.1.ok) (HO6.out.arg HDY.out.ok) (HT.out w6 HK6.out.bel))
        have HDn := Lib.hid hdn2
        unfold DV at HAd
        clear hdn hdn2 hadd
        go_wp2_with fail
        refine HAd.out.mono ?_; rintro en w7 ⟨a7, c7, rfl, ho7, hb7⟩
        have HK7 := Lib.hid (HK6.out.below hb7)
        have HKn := Lib.hid (HK7.out.put (ho7.mono (b := w.heap.size + 2) HK6.out.siz))
        unfold wr3 at HKn
        clear ho7 hb7
        obtain ⟨_, _, _, _, _, _⟩ := HK7.out.sum.facts
        unfold DV
        go_wp2_with fail
        go_roundw
        case rel => exact ⟨k + 1, dn, a7, c7, by omega, by go_num, HDn.out, HKn.out⟩
        case measure => simp [intOf]; omega
    · obtain rfl : k = f := by omega
      obtain ⟨d', h1', h2'⟩ := HS.out k
      obtain rfl : d = d' := by have := HD.out; rw [h1'] at this; exact (Option.some.inj this).symm
      obtain rfl : dS = d := hH.out.1.uniq h2'
      have HKf := Lib.hid hH.out.2
      clear hH h1' h2'
      obtain ⟨c0, cc1, cc2, _, _, _⟩ := HKf.out.sum.facts
      obtain ⟨r0, r1, r2, _, _, _⟩ := HKf.out.res.facts
      go_wp2_with fail
      refine bodyPost_ret (v := DV dS a c) (by simp [results, Tryd.results62, go_sem, DV, c0, cc1, cc2, r0, r1, r2]) rfl ?_
      exact ⟨a, c, rfl, (own_wr3 HKf.out.own (by omega)).mono (by omega), below_wr3 HKf.out.bel (Nat.le_refl _)⟩
/-- .. rounded -/
def BRoundQ (A : Bn) (f : Nat) (mode : Int) (w : World) (en : Ending) (w' : World) : Prop := ∃ (r : Nat) (er : Int), en = .returned (.tuple #[.float .f64 r, .int .i64 er]) ∧ RoundsTo 52 (-1074) 9218868437227405312 9223372036854775808 mode (zO (-1088) (A.kS f)) r er ∧ Below w.heap.size w w'
set_option maxHeartbeats 2000000 in
theorem bround_any (A : Bn) (g f : Nat) (mode : Int) (w : World) (hA : A.Ok) (h1 : 1 ≤ f) (hf : f ≤ 8) (hB : BinAt w g f A) (hT : Tab w) :
    Calls Tryd.prog 63 #[.pointer (some ⟨g, 0, none⟩), .int .i64 mode] w (BRoundQ A f mode w) := by
  obtain ⟨d, hd, hdy⟩ := kS_dy hA f
  have HK := Lib.hid (bkept_any A g f w hA h1 hf hB hT hd)
  have HR : Hid (∀ W a c, Below w.heap.size w W → Own W 82 w.heap.size a c (words d.m) → Calls Tryd.prog 87 #[DV d a c, .int .i64 mode] W fun en w' => (∃ (r : Nat) (er : Int), en = .returned (.tuple #[.float .f64 r, .int .i64 er]) ∧ RoundsTo 52 (-1074) 9218868437227405312 9223372036854775808 mode (zO (-1088) (A.kS f)) r er) ∧ Below W.heap.size W w') := by
    intro W a c hW ho
    have := dround_any (argOf d a c) mode W (ho.arg hdy.ok) (hT.grow hW)
    rw [argF hdy.is hdy.ok, ← hd] at this
    exact this
  clear hB hT hA hd hdy
  unfold DV at *
  go_enter Tryd.func63, Tryd.ntmps63
  go_wp2_with fail
  refine HK.out.mono ?_; rintro en w1 ⟨a, c, rfl, ho, hb⟩
  have HR1 := Lib.hid (HR.out w1 a c hb ho)
  have HB := Lib.hid hb
  unfold DV
  clear ho hb
  go_wp2_with fail
  refine HR1.out.mono ?_; rintro en w2 ⟨⟨r, er, rfl, hr⟩, hb⟩
  have HX := Lib.hid hr; have HB2 := Lib.hid (HB.out.trans (hb.mono HB.out.size))
  clear hr hb
  go_wp2_with fail
  go_ret2
  exact ⟨r, er, rfl, HX.out, HB2.out⟩
end Go.Proofs.YthdbapibbdkclaaDoor
