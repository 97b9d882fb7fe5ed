/- Contracts of bins.Bins.Kept, Round. Contract of sums.Alike. Contract of steelyardref09.Slice; the document's bins in memory. The document's bins: what they hold, in memory and in numbers; contracts of steelyardref09.New, Add. No statement of the seat is proved here. -/
import Derived.Test.YteahdgbokjbgcaaGreatDoorProg
import Derived.Test.YteahdgbokjbgcaaGreatDoorZNH
import Derived.Test.YteahdgbokjbgcaaGreatDoorZHa
import Derived.Test.YteahdgbokjbgcaaGreatDoorZMT
import Derived.Test.YteahdgbokjbgcaaGreatDoorZTi
import Derived.Test.YteahdgbokjbgcaaGreatDoorZNG
namespace Go.Proofs.YteahdgbokjbgcaaGreatDoor
open Go.RowKit
set_option maxRecDepth 10000
set_option linter.unusedVariables false
set_option linter.unusedSimpArgs false

/-- one bin's part as a Dyad -/
theorem part_dy {A : Bn} (hA : A.Ok) {f k : Nat} (hk : k < f) (top : Int) (ht : 0 < A.len → top = (A.len : Int) - 35) :
    ∃ d, formF (decide (A.win f k < 0)) (A.win f k).natAbs (32 * (top - k)) = some d ∧ Dy (-1088) 68 d (A.kS (k + 1) - A.kS k) := by
  obtain ⟨j, hj⟩ : ∃ j, j = 68 := ⟨_, rfl⟩
  obtain ⟨j3, hj3⟩ : ∃ j, j = 3 := ⟨_, rfl⟩
  have hb := win_bd hA f k
  have hb3 : (A.win f k).natAbs < 2 ^ (32 * j3) := by rw [hj3, show (2 : Nat) ^ (32 * 3) = 79228162514264337593543950336 from rfl]; omega
  rw [Bn.kS]
  by_cases h : k < A.len
  · have e : A.win f k = A.K (A.len - 1 - k) := by unfold Bn.win; rw [if_pos ⟨hk, h⟩]
    rw [if_pos h]
    have hs := kS_bd hA k
    have hs2 := kS_bd hA (k + 1)
    have ht2 := ht (by omega)
    have hlen := hA.len
    obtain ⟨q, hq⟩ : ∃ q, q = A.len - 1 - k := ⟨_, rfl⟩
    have hexp : (32 * (top - k) - -1088).toNat = 32 * q := by omega
    have hsz : (A.win f k).natAbs * 2 ^ (32 * (top - k) - -1088).toNat < 2 ^ (32 * j) := by
      rw [hexp, hj]
      obtain ⟨p, hp⟩ : ∃ p, p = 32 * q := ⟨_, rfl⟩
      obtain ⟨r, hr⟩ : ∃ r, r = 32 * 68 := ⟨_, rfl⟩
      have h1 : 2 ^ p ≤ 2 ^ (r - 96) := Nat.pow_le_pow_right (by decide) (by omega)
      have h2 : (2 : Nat) ^ r = 2 ^ (r - 96) * 2 ^ (32 * j3) := by rw [hj3, ← Nat.pow_add]; congr 1; omega
      rw [← hp, ← hr, h2, Nat.mul_comm]
      exact Nat.lt_of_le_of_lt (Nat.mul_le_mul_right _ h1) ((Nat.mul_lt_mul_left (Nat.two_pow_pos _)).2 hb3)
    obtain ⟨d, h1, h2⟩ := Dy.form (s := decide (A.win f k < 0)) (n := (A.win f k).natAbs) (e := 32 * (top - k)) (B := -1088) (j := j3) (J := j) hb3 (by omega) (by omega) ⟨by decide, by decide, by omega⟩ (by omega) hsz
    refine ⟨d, h1, ?_⟩
    rw [sgn_intZ, hexp, e] at h2
    rw [← hq] at h2 ⊢
    rw [show A.kS k + A.K q * ((4294967296 ^ q : Nat) : Int) - A.kS k = A.K q * ((4294967296 ^ q : Nat) : Int) by omega, w32_pow, ← hj]
    exact h2
  · have e : A.win f k = 0 := by unfold Bn.win; rw [if_neg (fun h' => h h'.2)]
    rw [if_neg h, e]
    refine ⟨D.zero, by unfold formF; rw [if_pos (by rfl)], ?_⟩
    rw [Int.add_zero, Int.sub_self]
    exact Dy.zero (by decide)
theorem kS_dy {A : Bn} (hA : A.Ok) (k : Nat) : ∃ d, zO (-1088) (A.kS k) = some d ∧ Dy (-1088) 68 d (A.kS k) := by
  obtain ⟨j, hj⟩ : ∃ j, j = 68 := ⟨_, rfl⟩
  have := zO_dy (B := -1088) (J := j) ⟨by decide, by decide, by omega⟩ (kS_sz hA k hj)
  rw [hj] at this; exact this
/-- the words of a part's size -/
theorem part_words (m : Nat) (hm : m < 4722366482869645213696) : num [m % 4294967296, m / 4294967296 % 4294967296, m / 18446744073709551616, 0] = m := by
  simp only [num]
  omega

theorem slice_parts (g : Nat) {f : Nat} (h1 : 1 ≤ f) (hf : f ≤ 8) (W : World) : (Instr.sliceAt 190 (.pointer (some ⟨g, 4, none⟩)) none (some (.int .i64 (f : Int))) none).run Tryz.prog W = .ok (.slice (some ⟨g, 4, none⟩) f 8) W := by
  have h : f = 1 ∨ f = 2 ∨ f = 3 ∨ f = 4 ∨ f = 5 ∨ f = 6 ∨ f = 7 ∨ f = 8 := by omega
  rcases h with rfl | rfl | rfl | rfl | rfl | rfl | rfl | rfl
  all_goals rfl
/-- while the sum is made -/
structure KeptS (w W : World) (g f : Nat) (A : Bn) (d : D) (a : Option Addr) (c : Nat) : Prop where
  bel : Below w.heap.size w W
  siz : w.heap.size + 2 ≤ W.heap.size
  res : Cel W w.heap.size (.bool false) (.slice none 0 0) (.int .i64 0)
  sum : Cel W (w.heap.size + 1) (.bool d.neg) (.slice a (words d.m).length c) (.int .i64 d.exp)
  own : Own W 118 (w.heap.size + 2) a c (words d.m)
theorem KeptS.below {w W W' : World} {g f : Nat} {A : Bn} {d : D} {a : Option Addr} {c : Nat} (h : KeptS w W g f A d a c) (hb : Below W.heap.size W W') : KeptS w W' g f A d a c :=
  ⟨h.bel.trans (hb.mono h.bel.size), Nat.le_trans h.siz hb.size, h.res.below hb h.res.lt, h.sum.below hb h.sum.lt, h.own.grow hb⟩
theorem KeptS.put {w W : World} {g f : Nat} {A : Bn} {d d' : D} {a a' : Option Addr} {c c' : Nat} (h : KeptS w W g f A d a c) (ho : Own W 118 (w.heap.size + 2) a' c' (words d'.m)) :
    KeptS w (wr3 W (w.heap.size + 1) (.bool d'.neg) (.slice a' (words d'.m).length c') (.int .i64 d'.exp)) g f A d' a' c' :=
  ⟨below_wr3 h.bel (by omega), by rw [size_wr rfl]; exact h.siz, h.res.wrOther (by omega) _ _ _, h.sum.wr _ _ _, own_wr3 ho (by omega)⟩

set_option maxHeartbeats 16000000 in
theorem bkept_any (A : Bn) (g f : Nat) (w : World) (hA : A.Ok) (h1 : 1 ≤ f) (hf : f ≤ 8) (hB : BinAt w g f A) (hT : Tab w) {d : D} (hd : zO (-1088) (A.kS f) = some d) :
    Calls Tryz.prog 79 #[.pointer (some ⟨g, 0, none⟩)] w (OutD d w) := by
  obtain ⟨top, htop⟩ : ∃ top : Int, top = if 0 < A.len then (A.len : Int) - 35 else 0 := ⟨_, rfl⟩
  have HB : Hid (∀ W, Below w.heap.size w W → BinC W g f A.n (decide (0 < A.len)) top (A.win f)) := fun W hW => by
    have := BinC.grow hB hW
    rw [← htop] at this; exact this
  have hlen := hA.len
  have ht1 : -34 ≤ top ∧ top ≤ 31 := by rw [htop]; split <;> omega
  obtain ⟨ht1, ht2⟩ := ht1
  have HP : Hid (∀ k, k < f → ∃ d, formF (decide (A.win f k < 0)) (A.win f k).natAbs (32 * (top - k)) = some d ∧ Dy (-1088) 68 d (A.kS (k + 1) - A.kS k)) := fun k hk => part_dy hA hk top (fun h => by rw [htop, if_pos h])
  have HS : Hid (∀ k, ∃ d, zO (-1088) (A.kS k) = some d ∧ Dy (-1088) 68 d (A.kS k)) := fun k => kS_dy hA k
  have HT := Lib.hid (fun W (hw : Below w.heap.size w W) => hT.grow hw)
  have HW := Lib.hid (fun k => win_bd hA f k)
  have HD := Lib.hid hd
  have hlt := BinC.lt hB
  obtain ⟨w1, e1⟩ : ∃ W, W = w.alloc (.cells #[.bool false, .slice none 0 0, .int .i64 0] 46) := ⟨_, rfl⟩
  obtain ⟨k1, c1, s1⟩ := new_cel e1 rfl
  obtain ⟨w2, e2⟩ : ∃ W, W = w1.alloc (.cells #[.bool false, .slice none 0 0, .int .i64 0] 46) := ⟨_, rfl⟩
  obtain ⟨k2, c2, s2⟩ := new_cel e2 s1
  have HK0 : Hid (KeptS w w2 g f A D.zero none 0) := ⟨c1.trans (c2.mono (by omega)), by omega, k1.below c2 (by omega), by show Cel _ _ (.bool false) (.slice none (words 0).length 0) (.int .i64 0); rw [words_zero]; exact k2, by show Own _ _ _ none 0 (words 0); rw [words_zero]; exact Own.none _ _ _⟩
  have E1 := Lib.hid e1; have E2 := Lib.hid e2
  obtain ⟨x0, x1, x2, x3⟩ := (HB.out w2 HK0.out.bel).head
  clear hB hA hT hd htop e1 e2 k1 k2 c1 c2 s1 s2 hlen
  have hsl : ∀ W, (Instr.sliceAt 190 (.pointer (some ⟨g, 4, none⟩)) none (some (.int .i64 (f : Int))) none).run Tryz.prog W = .ok (.slice (some ⟨g, 4, none⟩) f 8) W := slice_parts g h1 hf
  go_enter Tryz.func79, Tryz.ntmps79
  go_upto_region 2 with fail
  rw [← E1.out, ← E2.out]
  go_region
  have HK1 : Hid (KeptS w w2.drew g f A D.zero none 0) := ⟨HK0.out.bel.drew, HK0.out.siz, HK0.out.res, HK0.out.sum, HK0.out.own⟩
  obtain ⟨w3, e3⟩ : ∃ W, W = w2.drew := ⟨_, rfl⟩
  rw [← e3] at HK1 ⊢
  clear e3 x0 x1 x2 x3
  go_wp2_with fail
  go_loopw [4, 5, 6, 7, 8, 9, 10, 11, 21] (fun z4 z5 z6 z7 z8 z9 z10 z11 ii wr => ∃ (k : Nat) (dS : D) (a : Option Addr) (c : Nat), k ≤ f ∧ ii = .int .i64 k ∧ Hid (Dy (-1088) 68 dS (A.kS k) ∧ KeptS w wr g f A dS a c)) (fun _ _ _ _ _ _ _ _ ii _ => f - (intOf ii).toNat)
  case atStart => exact ⟨0, D.zero, none, 0, Nat.zero_le _, rfl, Dy.zero (by decide), HK1.out⟩
  case round =>
    obtain ⟨k, dS, a, c, hk, rfl, hH⟩ := hrel
    by_cases hq : k < f
    · obtain ⟨p0, p1⟩ := (HB.out wr hH.out.2.bel).part (j := k) (by omega)
      obtain ⟨dp, hdp, hdy⟩ := HP.out k hq
      have hzb := HW.out k
      obtain ⟨z, hz⟩ : ∃ z, z = A.win f k := ⟨_, rfl⟩
      obtain ⟨lo, hlo⟩ : ∃ x, x = loI z := ⟨_, rfl⟩
      obtain ⟨hh, hhh⟩ : ∃ x, x = hiI z := ⟨_, rfl⟩
      obtain ⟨m, hm⟩ : ∃ m, m = z.natAbs := ⟨_, rfl⟩
      rw [← hz] at p0 p1 hdp hzb
      rw [← hlo] at p0
      rw [← hhh] at p1
      rw [← hm] at hdp hzb
      have hpw := part_words m hzb
      obtain ⟨l0, hl0⟩ : ∃ l, l = m % 4294967296 := ⟨_, rfl⟩
      obtain ⟨l1, hl1⟩ : ∃ l, l = m / 4294967296 % 4294967296 := ⟨_, rfl⟩
      obtain ⟨l2, hl2⟩ : ∃ l, l = m / 18446744073709551616 := ⟨_, rfl⟩
      rw [← hl0, ← hl1, ← hl2] at hpw
      have hw32 : W32 [l0, l1, l2, 0] := W32.cons (by omega) (W32.cons (by omega) (W32.cons (by omega) (W32.cons (by decide) W32.nil)))
      unfold loI at hlo
      unfold hiI at hhh
      have hsz := hH.out.2.siz
      have HH := hH
      have HDP := Lib.hid (And.intro hpw hw32)
      have HDY := Lib.hid hdy
      by_cases hneg : z < 0
      all_goals first
        | (
            have n1 : hh < 0 := by omega
            have n2 : -257 ≤ hh := by omega
            have n3 : 0 ≤ lo ∧ lo < 18446744073709551616 := by omega
            obtain ⟨n31, n32⟩ := n3
            obtain ⟨lm, hlm⟩ : ∃ x : Int, x = (m : Int) % 18446744073709551616 := ⟨_, rfl⟩
            obtain ⟨le, hle⟩ : ∃ x : Int, x = if lo = 0 then 0 else 1 := ⟨_, rfl⟩
            have hA : ∀ W, (callFunc 196 #[.int .u64 0, .int .u64 lo, .int .u64 0]).run Tryz.prog W = .ok (.value (.tuple #[.int .u64 lm, .int .u64 le])) W := by
              intro W
              rw [ext_sub64 0 lo 0 (by decide) (by decide) n31 n32 (by decide) (by decide) W]
              have q1 : (0 - lo - 0) % 18446744073709551616 = lm := by omega
              have q2 : -((0 - lo - 0) / 18446744073709551616) = le := by rw [hle]; split <;> omega
              rw [q1, q2]
            have hlb : 0 ≤ le ∧ le ≤ 1 := by rw [hle]; split <;> omega
            obtain ⟨hlb1, hlb2⟩ := hlb
            have q3 : -hh - le = (l2 : Int) := by rw [hle]; split <;> omega
            have r0 : lm % 4294967296 = (l0 : Int) := by omega
            have r1 : lm / 4294967296 % 4294967296 = (l1 : Int) := by omega
            have r2 : ((l2 : Nat) : Int) % 4294967296 = (l2 : Int) := by omega
            have r3 : ((l2 : Nat) : Int) / 4294967296 % 4294967296 = 0 := by omega
            have r4 : ((l2 : Nat) : Int) / 4294967296 = 0 := by omega
            have hl2b : l2 ≤ 1000 := by omega
            rw [decide_eq_true hneg] at hdp
            have HD2 := Lib.hid hdp
            clear hdp hpw hw32 hdy hlo hhh hz hm hl0 hl1 hl2 hzb hneg hle hlm hH
            go_upto_region 10 with fail
            obtain ⟨wq, eq⟩ : ∃ W, W = (wr.alloc (.cells #[.int .u64 lm, .int .i64 l2] 189)).alloc (.cells #[.int .u32 l0, .int .u32 l1, .int .u32 l2, .int .u32 0] 118) := ⟨_, rfl⟩
            rw [← eq]
            have HBq : Hid (Below wr.heap.size wr wq) := by
              rw [eq]
              exact (((Below.refl wr.heap.size wr).alloc (Nat.le_refl _) _).alloc (by simp) _)
            have HBlk : Hid (Blk wq 118 (wr.heap.size + 1) [l0, l1, l2, 0]) := by
              show Blk _ 118 (wr.heap.size + 1) [l0, l1, l2, 0]
              rw [eq]
              have := blk_alloc (wr.alloc (.cells #[.int .u64 lm, .int .i64 l2] 189)) 118 #[.int .u32 l0, .int .u32 l1, .int .u32 l2, .int .u32 0] [l0, l1, l2, 0] rfl
              simpa using this
            clear eq hA q3 r0 r1 r2 r3 r4 hl2b n1 n2 n31 n32 hlb1 hlb2)
        | (
            have n1 : ¬ hh < 0 := by omega
            have n2 : hh = (l2 : Int) := by omega
            have n3 : 0 ≤ lo ∧ lo < 18446744073709551616 := by omega
            obtain ⟨n31, n32⟩ := n3
            have r0 : lo % 4294967296 = (l0 : Int) := by omega
            have r1 : lo / 4294967296 = (l1 : Int) := by omega
            have r2 : ((l2 : Nat) : Int) % 4294967296 = (l2 : Int) := by omega
            have r3 : ((l2 : Nat) : Int) / 4294967296 % 4294967296 = 0 := by omega
            have r4 : ((l2 : Nat) : Int) / 4294967296 = 0 := by omega
            have hl2b : l2 ≤ 1000 := by omega
            rw [decide_eq_false hneg] at hdp
            have HD2 := Lib.hid hdp
            rw [n2] at p1
            clear hdp hpw hw32 hdy hlo hhh hz hm hl0 hl1 hl2 hzb hneg hH n1 n2
            go_upto_region 10 with fail
            obtain ⟨wq, eq⟩ : ∃ W, W = (wr.alloc (.cells #[.int .u64 lo, .int .i64 l2] 189)).alloc (.cells #[.int .u32 l0, .int .u32 l1, .int .u32 l2, .int .u32 0] 118) := ⟨_, rfl⟩
            rw [← eq]
            have HBq : Hid (Below wr.heap.size wr wq) := by
              rw [eq]
              exact (((Below.refl wr.heap.size wr).alloc (Nat.le_refl _) _).alloc (by simp) _)
            have HBlk : Hid (Blk wq 118 (wr.heap.size + 1) [l0, l1, l2, 0]) := by
              show Blk _ 118 (wr.heap.size + 1) [l0, l1, l2, 0]
              rw [eq]
              have := blk_alloc (wr.alloc (.cells #[.int .u64 lo, .int .i64 l2] 189)) 118 #[.int .u32 l0, .int .u32 l1, .int .u32 l2, .int .u32 0] [l0, l1, l2, 0] rfl
              simpa using this
            clear eq r0 r1 r2 r3 r4 hl2b n31 n32)
      all_goals
        clear p0 p1
        have HKq := Lib.hid (HH.out.2.below HBq.out)
        obtain ⟨_, _, _, x3⟩ := (HB.out wq HKq.out.bel).head
        have hMk := yMake (l := [l0, l1, l2, 0]) (by rw [HDP.out.1]; exact HD2.out) (some ⟨wr.heap.size + 1, 0, none⟩) 4 wq (Sl.blk HBlk.out HDP.out.2) (by show (4 : Nat) ≤ _; decide) (by omega) (by omega) (HT.out wq HKq.out.bel)
        have HMk : Hid (Calls Tryz.prog 197 #[.bool _, .slice (some ⟨wr.heap.size + 1, 0, none⟩) 4 4, .int .i64 (32 * (top - (k : Int)))] wq (OutDE dp wq)) := hMk
        clear hMk
        go_wp2_with fail
        refine HMk.out.mono ?_; rintro en w5 ⟨a5, c5, rfl, ho5, hb5⟩
        have HK5 := Lib.hid (HKq.out.below hb5)
        have HO5 := Lib.hid ho5
        have HSz := Lib.hid (Nat.le_trans HKq.out.siz hb5.size)
        clear ho5 hb5 x3
        unfold DV
        go_upto_region 11 with fail
        obtain ⟨w6, e6⟩ : ∃ W, W = w5.alloc (.cells #[.bool dp.neg, .slice a5 (words dp.m).length c5, .int .i64 dp.exp] 46) := ⟨_, rfl⟩
        rw [← e6]
        obtain ⟨k6, c6, s6⟩ := new_cel e6 rfl
        have HK6 := Lib.hid (HK5.out.below c6)
        have HO6 := Lib.hid (HO5.out.grow c6)
        clear e6 s6 c6
        obtain ⟨_, _, _, _, _, _⟩ := HK6.out.sum.facts
        obtain ⟨_, _, _, _, _, _⟩ := k6.facts
        obtain ⟨dn, hdn, hdn2⟩ := HS.out (k + 1)
        have hadd : addD dS dp = some dn := by
          obtain ⟨d', h1, h2⟩ := HH.out.1.add HDY.out ⟨by decide, by decide, by decide⟩
          rw [show A.kS k + (A.kS (k + 1) - A.kS k) = A.kS (k + 1) by omega] at h2
          rw [h1, h2.uniq hdn2]
        have HAd := Lib.hid (yAdd HH.out.1.is HH.out.1.ok HDY.out.is HDY.out.ok hadd a a5 c c5 w6 (HK6.out.own.arg HH.out.1.ok) (HO6.out.arg HDY.out.ok) (HT.out w6 HK6.out.bel))
        have HDn := Lib.hid hdn2
        unfold DV at HAd
        clear hdn hdn2 hadd
        go_wp2_with fail
        refine HAd.out.mono ?_; rintro en w7 ⟨a7, c7, rfl, ho7, hb7⟩
        have HK7 := Lib.hid (HK6.out.below hb7)
        have HKn := Lib.hid (HK7.out.put (ho7.mono (b := w.heap.size + 2) HK6.out.siz))
        unfold wr3 at HKn
        clear ho7 hb7
        obtain ⟨_, _, _, _, _, _⟩ := HK7.out.sum.facts
        unfold DV
        go_wp2_with fail
        go_roundw
        case rel => exact ⟨k + 1, dn, a7, c7, by omega, by go_num, HDn.out, HKn.out⟩
        case measure => simp [intOf]; omega
    · obtain rfl : k = f := by omega
      obtain ⟨d', h1', h2'⟩ := HS.out k
      obtain rfl : d = d' := by have := HD.out; rw [h1'] at this; exact (Option.some.inj this).symm
      obtain rfl : dS = d := hH.out.1.uniq h2'
      have HKf := Lib.hid hH.out.2
      clear hH h1' h2'
      obtain ⟨c0, cc1, cc2, _, _, _⟩ := HKf.out.sum.facts
      obtain ⟨r0, r1, r2, _, _, _⟩ := HKf.out.res.facts
      go_wp2_with fail
      refine bodyPost_ret (v := DV dS a c) (by simp [results, Tryz.results79, go_sem, DV, c0, cc1, cc2, r0, r1, r2]) rfl ?_
      exact ⟨a, c, rfl, (own_wr3 HKf.out.own (by omega)).mono (by omega), below_wr3 HKf.out.bel (Nat.le_refl _)⟩
/-- .. rounded -/
def BRoundQ (A : Bn) (f : Nat) (mode : Int) (w : World) (en : Ending) (w' : World) : Prop := ∃ (r : Nat) (er : Int), en = .returned (.tuple #[.float .f64 r, .int .i64 er]) ∧ RoundsTo 52 (-1074) 9218868437227405312 9223372036854775808 mode (zO (-1088) (A.kS f)) r er ∧ Below w.heap.size w w'
set_option maxHeartbeats 2000000 in
theorem bround_any (A : Bn) (g f : Nat) (mode : Int) (w : World) (hA : A.Ok) (h1 : 1 ≤ f) (hf : f ≤ 8) (hB : BinAt w g f A) (hT : Tab w) :
    Calls Tryz.prog 80 #[.pointer (some ⟨g, 0, none⟩), .int .i64 mode] w (BRoundQ A f mode w) := by
  obtain ⟨d, hd, hdy⟩ := kS_dy hA f
  have HK := Lib.hid (bkept_any A g f w hA h1 hf hB hT hd)
  have HR : Hid (∀ W a c, Below w.heap.size w W → Own W 118 w.heap.size a c (words d.m) → Calls Tryz.prog 177 #[DV d a c, .int .i64 mode] W fun en w' => (∃ (r : Nat) (er : Int), en = .returned (.tuple #[.float .f64 r, .int .i64 er]) ∧ RoundsTo 52 (-1074) 9218868437227405312 9223372036854775808 mode (zO (-1088) (A.kS f)) r er) ∧ Below W.heap.size W w') := by
    intro W a c hW ho
    have := dround_any (argOf d a c) mode W (ho.arg hdy.ok) (hT.grow hW)
    rw [argF hdy.is hdy.ok, ← hd] at this
    exact this
  clear hB hT hA hd hdy
  unfold DV at *
  go_enter Tryz.func80, Tryz.ntmps80
  go_wp2_with fail
  refine HK.out.mono ?_; rintro en w1 ⟨a, c, rfl, ho, hb⟩
  have HR1 := Lib.hid (HR.out w1 a c hb ho)
  have HB := Lib.hid hb
  unfold DV
  clear ho hb
  go_wp2_with fail
  refine HR1.out.mono ?_; rintro en w2 ⟨⟨r, er, rfl, hr⟩, hb⟩
  have HX := Lib.hid hr; have HB2 := Lib.hid (HB.out.trans (hb.mono HB.out.size))
  clear hr hb
  go_wp2_with fail
  go_ret2
  exact ⟨r, er, rfl, HX.out, HB2.out⟩
end Go.Proofs.YteahdgbokjbgcaaGreatDoor
namespace Go.Proofs.YteahdgbokjbgcaaGreatDoor
open Go.RowKit
set_option maxRecDepth 10000
set_option linter.unusedVariables false
set_option linter.unusedSimpArgs false

structure AlU (w W : World) (g f : Nat) (A : Bn) : Prop where
  at' : BinAt W g f A
  bel : Below w.heap.size w W
end Go.Proofs.YteahdgbokjbgcaaGreatDoor
namespace Go.Proofs.YteahdgbokjbgcaaGreatDoor
open Go.RowKit
set_option maxRecDepth 10000
set_option linter.unusedVariables false
set_option linter.unusedSimpArgs false

/-- a size in units of the lowest bin, by its number in the order of all -/
theorem mB_num {b : Nat} (h : b % 9223372036854775808 < 9218868437227405312) : mB b = numV 52 (b % 9223372036854775808) * 16384 := by
  have e1 : b % 9223372036854775808 / 4503599627370496 = b / 4503599627370496 % 2048 := by omega
  have e2 : b % 9223372036854775808 % 4503599627370496 = b % 4503599627370496 := by omega
  have hx : b / 4503599627370496 % 2048 < 2047 := by omega
  unfold mB numV numM numE
  rw [show (2 : Nat) ^ 52 = 4503599627370496 from rfl, e1, e2]
  unfold ptOf
  generalize b / 4503599627370496 % 2048 = ex at *
  generalize b % 4503599627370496 = fr at *
  rw [if_neg (show ¬ ex = 2047 by omega)]
  have h14 : (16384 : Nat) = 2 ^ 14 := rfl
  by_cases h1 : 0 < ex
  · rw [if_pos h1, if_neg (show ¬ ex = 0 by omega)]
    dsimp only
    rw [h14, Nat.mul_assoc, ← Nat.pow_add, Nat.add_comm fr]
    congr 2; omega
  · rw [if_neg h1]
    obtain rfl : ex = 0 := by omega
    rw [if_pos rfl]
    by_cases h2 : 0 < fr
    · rw [if_pos h2]
      dsimp only
      rw [show (0 - 1 : Nat) = 0 from rfl, Nat.pow_zero, Nat.mul_one, h14]
      congr 2
    · rw [if_neg h2]
      obtain rfl : fr = 0 := by omega
      simp
/-- the Dyad of a number's size -/
theorem size_dy {b : Nat} (h : b % 9223372036854775808 < 9218868437227405312) : ∃ d, bitsF 52 (-1074) 9218868437227405312 false (b % 9223372036854775808) = some d ∧ d.Is ∧ d.Ok ∧ -1074 ≤ d.exp ∧ d.m * 2 ^ (d.exp + 1088).toNat = mB b ∧ d.exp ≤ 1100 := by
  obtain ⟨k, hk⟩ : ∃ k, k = b % 9223372036854775808 := ⟨_, rfl⟩
  have hkk : k % 9223372036854775808 = k := by omega
  have hf : ofF k = bitsF 52 (-1074) 9218868437227405312 false k := by
    unfold ofF
    rw [hkk, decide_eq_false (by omega)]
  obtain ⟨d, hd, hz⟩ := Dz.of (v := k) (by rw [hkk, hk]; exact h)
  rw [hf] at hd
  refine ⟨d, by rw [← hk]; exact hd, hz.is, hz.ok, hz.ex, ?_, ofF_hi (b := k) (by rw [hf]; exact hd)⟩
  have h1 := z_abs hz.ex
  rw [hz.val] at h1
  have h2 : (fV k).natAbs = numV 52 k := by unfold fV; rw [sgn_abs, hkk]
  rw [mB_num h, ← hk, ← h2, ← h1, Nat.mul_assoc, show (16384 : Nat) = 2 ^ 14 from rfl, ← Nat.pow_add]
  congr 2
  have := hz.ex
  omega
/-- what bin j has of a number's size -/
def slB (b : Nat) (j : Int) : Nat := if j < -34 then 0 else dg (mB b) (j + 34).toNat
theorem slB_lt (b : Nat) (j : Int) : slB b j < 4294967296 := by
  unfold slB; split
  · decide
  · exact dg_lt _ _
theorem slB_up {b : Nat} {d : D} {j : Int} {k : Nat} (h1 : d.m * 2 ^ (d.exp + 1088).toNat = mB b) (h2 : -1074 ≤ d.exp) (hk : d.exp - 32 * j = (k : Int)) : d.m * 2 ^ k % 4294967296 = slB b j := by
  unfold slB
  split
  · have : k = 32 + (k - 32) := by omega
    rw [this, Nat.pow_add, show (2 : Nat) ^ 32 = 4294967296 from rfl, Nat.mul_left_comm, Nat.mul_mod_right]
  · obtain ⟨i, hi⟩ : ∃ i : Nat, (j + 34).toNat = i := ⟨_, rfl⟩
    rw [hi, ← h1]
    unfold dg
    rw [w32_pow, show (d.exp + 1088).toNat = k + 32 * i by omega, Nat.pow_add, ← Nat.mul_assoc, Nat.mul_div_cancel _ (Nat.two_pow_pos _)]
theorem slB_dn {b : Nat} {d : D} {j : Int} {k : Nat} (h1 : d.m * 2 ^ (d.exp + 1088).toNat = mB b) (h2 : -1074 ≤ d.exp) (hk : d.exp - 32 * j = -(k : Int)) (h0 : 0 < k) : d.m / 2 ^ k % 4294967296 = slB b j := by
  unfold slB
  rw [if_neg (by omega)]
  obtain ⟨i, hi⟩ : ∃ i : Nat, (j + 34).toNat = i := ⟨_, rfl⟩
  rw [hi, ← h1]
  unfold dg
  rw [w32_pow, show 32 * i = (d.exp + 1088).toNat + k by omega, Nat.pow_add, ← Nat.div_div_eq_div_mul, Nat.mul_div_cancel _ (Nat.two_pow_pos _)]
theorem words_first (n : Nat) : (words n = [] ∧ n % 4294967296 = 0) ∨ ∃ t, words n = (n % 4294967296) :: t := by
  by_cases h : n = 0
  · left; subst h; exact ⟨words_zero, rfl⟩
  · right; exact ⟨_, words_pos h⟩
set_option maxHeartbeats 8000000 in
theorem rslice_any (b : Nat) (j : Int) (w : World) (hb : b < 18446744073709551616) (h : b % 9223372036854775808 < 9218868437227405312) (j1 : -100 ≤ j) (j2 : j ≤ 100) :
    Calls Tryz.prog 200 #[.int .u64 b, .int .i64 j] w fun en w' => en = .returned (.int .u32 (slB b j)) ∧ Below w.heap.size w w' := by
  obtain ⟨d, hd, hi, hok, hex, hmb, hhi⟩ := size_dy h
  obtain ⟨k, hk⟩ : ∃ k, k = b % 9223372036854775808 := ⟨_, rfl⟩
  have e1 : IntKind.u64.wrap ((b : Int) * 2) / 2 = (k : Int) := by rw [IntKind.wrap_u64, hk]; omega
  have HO := Lib.hid (fun W => of64_any W)
  have HBi : Hid (∀ W, Calls Tryz.prog 181 #[.agg #[.int .i64 53, .int .i64 (-1074), .int .u64 9218868437227405312], .bool false, .int .u64 k] W fun en w' => ∃ a c, en = .returned (.tuple #[DV d a c, .bool true]) ∧ Own w' 118 W.heap.size a c (words d.m) ∧ Below W.heap.size W w') := by
    intro W
    refine (bits_any 52 k (-1074) 9218868437227405312 false W (by decide) (by omega) (by decide) (by decide) (by decide) (by decide) (by decide)).mono ?_
    rintro en w' ⟨v, rfl, ⟨a, c, rfl, ho⟩, hb⟩
    rw [hk, hd] at ho ⊢
    exact ⟨a, c, rfl, ho, hb⟩
  obtain ⟨S, hS⟩ : ∃ S, S = slB b j := ⟨_, rfl⟩
  rw [← hS]
  obtain ⟨t, ht⟩ : ∃ t : Int, t = d.exp - 32 * j := ⟨_, rfl⟩
  have hMv : ∀ W a c b', Own W 118 b' a c (words d.m) → Calls Tryz.prog 185 #[.slice a (words d.m).length c, .int .i64 t] W fun en w' => ∃ a1 c1 n, en = .returned (.slice a1 (words n).length c1) ∧ n % 4294967296 = S ∧ Own w' 118 W.heap.size a1 c1 (words n) ∧ Below W.heap.size W w' := by
    intro W a c b' ho
    have hl := (ho.argD hok).len
    have hl2 : (argOf d a c).l = words d.m := rfl
    rw [hl2] at hl
    rcases Int.lt_or_le t 0 with h1 | h1
    · obtain ⟨q, hq⟩ : ∃ q : Nat, t = -(q : Int) := ⟨(-t).toNat, by omega⟩
      rw [hq]
      refine (rmoved_down a c (words d.m) q W (by omega) (by omega) (by omega) (ho.sl (W32_words _))).mono ?_
      rintro en w' ⟨a1, c1, rfl, h2, h3⟩
      rw [num_words] at h2 ⊢
      exact ⟨a1, c1, _, rfl, by rw [hS]; exact slB_dn hmb hex (by omega) (by omega), h2, h3⟩
    · obtain ⟨q, hq⟩ : ∃ q : Nat, t = (q : Int) := ⟨t.toNat, by omega⟩
      rw [hq]
      refine (rmoved_up a c (words d.m) q W (by omega) (by omega) (ho.sl (W32_words _))).mono ?_
      rintro en w' ⟨a1, c1, rfl, h2, h3⟩
      rw [num_words] at h2 ⊢
      exact ⟨a1, c1, _, rfl, by rw [hS]; exact slB_up hmb hex (by omega), h2, h3⟩
  have HMv := Lib.hid hMv
  have q1 : IntKind.i64.wrap (32 * j) = 32 * j := by rw [IntKind.wrap_i64]; omega
  have q2 : d.exp - 32 * j = t := ht.symm
  clear hMv hmb hd hk hS ht h hi hok
  unfold DV at HBi
  go_enter Tryz.func200, Tryz.ntmps200
  go_wp2_with fail
  refine (HO.out w).mono ?_; rintro en w1 ⟨rfl, hb1⟩
  have HB1 := Lib.hid hb1
  clear hb1
  go_wp2_with fail
  refine (HBi.out w1).mono ?_; rintro en w2 ⟨a, c, rfl, ho, hb2⟩
  have HB2 := Lib.hid (HB1.out.trans (hb2.mono HB1.out.size))
  have HOw := Lib.hid ho
  clear ho hb2
  go_upto_region 2 with fail
  obtain ⟨w3, e3⟩ : ∃ W, W = w2.alloc (.cells #[.bool d.neg, .slice a (words d.m).length c, .int .i64 d.exp] 46) := ⟨_, rfl⟩
  rw [← e3]
  obtain ⟨k3, b3, _⟩ := new_cel e3 rfl
  have HB3 := Lib.hid (HB2.out.trans (b3.mono HB2.out.size))
  have HO3 := Lib.hid (HOw.out.grow b3)
  clear e3 b3
  obtain ⟨_, _, _, _, _, _⟩ := k3.facts
  go_wp2_with fail
  refine (HMv.out w3 a c _ HO3.out).mono ?_; rintro en w4 ⟨a1, c1, n, rfl, hn, ho, hb⟩
  have HB4 := Lib.hid (HB3.out.trans (hb.mono HB3.out.size))
  rcases words_first n with ⟨h1, h2⟩ | ⟨t', h1⟩
  · have hS0 : Hid (S = 0) := by show S = 0; omega
    rw [h1]
    clear hb ho h1 h2 hn
    go_wp2_with fail
    go_ret
    rw [hS0.out]
    exact ⟨rfl, HB4.out⟩
  · rw [h1] at ho ⊢
    rw [hn] at ho
    obtain ⟨b0, o0, rfl, hc⟩ := ho.rd 0 S rfl
    rw [Nat.add_zero] at hc
    have hl : ((n % 4294967296 :: t').length : Int) = ((t'.length + 1 : Nat) : Int) := rfl
    rw [show (n % 4294967296 :: t').length = t'.length + 1 from rfl]
    clear hb ho h1 hn hl
    go_wp2_with fail
    go_ret
    exact ⟨rfl, HB4.out⟩
end Go.Proofs.YteahdgbokjbgcaaGreatDoor
namespace Go.Proofs.YteahdgbokjbgcaaGreatDoor
open Go.RowKit
set_option maxRecDepth 10000
set_option linter.unusedVariables false
set_option linter.unusedSimpArgs false

theorem info_oftenW : (Tryz.prog.info? 207).map (fun i => (i.zero, i.size, i.bytes)) = some (some (.agg #[.int .u64 0, .int .i64 0]), 2, 16) := by kernel_rfl
theorem info_often : ∃ i, Tryz.prog.info? 207 = some i ∧ i.zero = some (.agg #[.int .u64 0, .int .i64 0]) ∧ i.size = 2 ∧ i.bytes ≤ 64 := by
  have h := info_oftenW
  cases hi : Tryz.prog.info? 207 with
  | none => rw [hi] at h; cases h
  | some i =>
    rw [hi] at h
    simp only [Option.map_some, Option.some.injEq, Prod.mk.injEq] at h
    exact ⟨i, rfl, h.1, h.2.1, by omega⟩
/-- numbers, each with how often -/
def ofV : List (Nat × Nat) → List Value
  | [] => []
  | p :: l => .int .u64 (p.1 : Nat) :: .int .i64 (p.2 : Nat) :: ofV l
theorem ofV_len (l : List (Nat × Nat)) : (ofV l).length = l.length * 2 := by
  induction l with
  | nil => rfl
  | cons p l ih => simp only [ofV, List.length_cons, ih]; omega
theorem ofV_app (l m : List (Nat × Nat)) : ofV (l ++ m) = ofV l ++ ofV m := by
  induction l with
  | nil => rfl
  | cons p l ih => simp only [ofV, List.cons_append, ih]
theorem ofV_get : ∀ (l : List (Nat × Nat)) (i : Nat) (p : Nat × Nat), l[i]? = some p → (ofV l)[i * 2]? = some (.int .u64 (p.1 : Nat)) ∧ (ofV l)[i * 2 + 1]? = some (.int .i64 (p.2 : Nat))
  | [], i, p, h => by simp at h
  | q :: l, 0, p, h => by
    simp at h; subst h
    exact ⟨rfl, rfl⟩
  | q :: l, i + 1, p, h => by
    have ih := ofV_get l i p (by simpa using h)
    have e1 : (i + 1) * 2 = i * 2 + 1 + 1 := by omega
    rw [e1]
    simp only [ofV, List.getElem?_cons_succ]
    exact ih
/-- the document's bins in memory -/
structure RB (w : World) (g : Nat) (f n : Int) (a : Option Addr) (c : Nat) (l : List (Nat × Nat)) : Prop where
  row : w.heap[g]? = some (.cells ([.int .i64 f, .slice a l.length c, .int .i64 n] : List Value).toArray 205 (0, 0))
  own : VOwn w 207 2 (g + 1) a c (ofV l)
section
variable {w w' : World} {g : Nat} {f n : Int} {a : Option Addr} {c : Nat} {l : List (Nat × Nat)}
theorem RB.lt (h : RB w g f n a c l) : g < w.heap.size := (Array.getElem?_eq_some_iff.1 h.row).1
theorem RB.cells (h : RB w g f n a c l) : w.cell? ⟨g, 0, none⟩ = some (.int .i64 f) ∧ w.cell? ⟨g, 1, none⟩ = some (.slice a l.length c) ∧ w.cell? ⟨g, 2, none⟩ = some (.int .i64 n) ∧ w.frozen? ⟨g, 1, none⟩ = false ∧ w.frozen? ⟨g, 2, none⟩ = false :=
  ⟨by rw [cell_of_row w g 0 _ _ _ h.row]; rfl, by rw [cell_of_row w g 1 _ _ _ h.row]; rfl, by rw [cell_of_row w g 2 _ _ _ h.row]; rfl, frozen_of_row w g 1 _ _ h.row, frozen_of_row w g 2 _ _ h.row⟩
theorem RB.grow (h : RB w g f n a c l) (hb : Below w.heap.size w w') : RB w' g f n a c l := ⟨blk_below h.row hb h.lt, h.own.grow hb⟩
theorem RB.drew (h : RB w g f n a c l) : RB w.drew g f n a c l := ⟨h.row, h.own.drew⟩
theorem RB.at (h : RB w g f n a c l) {i : Nat} {p : Nat × Nat} (hp : l[i]? = some p) : ∃ b o, a = some ⟨b, o, none⟩ ∧ w.cell? ⟨b, o + i * 2, none⟩ = some (.int .u64 (p.1 : Nat)) ∧ w.cell? ⟨b, o + i * 2 + 1, none⟩ = some (.int .i64 (p.2 : Nat)) := by
  obtain ⟨h1, h2⟩ := ofV_get l i p hp
  obtain ⟨b, o, e1, e2⟩ := h.own.rd _ _ h1
  obtain ⟨b', o', e3, e4⟩ := h.own.rd _ _ h2
  rw [e1] at e3
  cases e3
  exact ⟨b, o, e1, e2, by rw [Nat.add_assoc]; exact e4⟩
/-- one more -/
theorem RB.app {b : Nat} {a' : Option Addr} {c' : Nat} {m : Int} (h : RB w g f n a c l) (ho : VOwn w' 207 2 (g + 1) a' c' (ofV l ++ [.int .u64 (b : Nat), .int .i64 1])) (hg : w.grownBy w' (a.map (·.block))) :
    RB ((w'.setCell ⟨g, 1, none⟩ (.slice a' (l.length + 1) c')).setCell ⟨g, 2, none⟩ (.int .i64 m)) g f m a' c' (l ++ [(b, 1)]) := by
  have h1 : w'.heap[g]? = _ := (hg.block g h.lt (fun e => by have := h.own.row g e.symm; omega)).trans h.row
  refine ⟨?_, ?_⟩
  · rw [row_set (row_set h1 1 (.slice a' (l.length + 1) c')) 2 (.int .i64 m), List.length_append]; rfl
  · rw [ofV_app]
    have h2 : ∀ ad, a' = some ad → g ≠ ad.block := fun ad had => by have := ho.ge ad had; omega
    refine (?_ : VOwn _ _ _ _ _ _ _)
    have h3 : ∀ (W : World) (i : Nat) (v : Value), VOwn W 207 2 (g + 1) a' c' (ofV l ++ [.int .u64 (b : Nat), .int .i64 1]) → VOwn (W.setCell ⟨g, i, none⟩ v) 207 2 (g + 1) a' c' (ofV l ++ [.int .u64 (b : Nat), .int .i64 1]) := fun W i v hW => by
      rcases hW with hW | ⟨g', p, t, k0, k1, k2, k3, k4⟩
      · exact .inl hW
      · exact .inr ⟨g', p, t, k0, k1, k2, k3, k4.other (by show g ≠ g'; omega) v⟩
    exact h3 _ _ _ (h3 _ _ _ ho)
theorem RB.rowIn (h : RB w g f n a c l) (hg : w.grownBy w' (a.map (·.block))) : w'.heap[g]? = some (.cells ([.int .i64 f, .slice a l.length c, .int .i64 n] : List Value).toArray 205 (0, 0)) :=
  (hg.block g h.lt (fun e => by have := h.own.row g e.symm; omega)).trans h.row
end
/-- what the document's bins come to, in numbers -/
def bnO (l : List (Nat × Nat)) : Bn := l.foldl (fun A p => A.sum (bnT p.2 p.1)) Bn.zero
theorem bnO_snoc (l : List (Nat × Nat)) (p : Nat × Nat) : bnO (l ++ [p]) = (bnO l).sum (bnT p.2 p.1) := by unfold bnO; rw [List.foldl_append]; rfl
theorem bnO_mono (l m : List (Nat × Nat)) : (bnO l).n ≤ (bnO (l ++ m)).n ∧ (bnO l).len ≤ (bnO (l ++ m)).len := by
  suffices h : ∀ (m : List (Nat × Nat)) (A : Bn), A.n ≤ (m.foldl (fun A p => A.sum (bnT p.2 p.1)) A).n ∧ A.len ≤ (m.foldl (fun A p => A.sum (bnT p.2 p.1)) A).len by
    unfold bnO; rw [List.foldl_append]; exact h m _
  intro m
  induction m with
  | nil => intro A; exact ⟨Nat.le_refl _, Nat.le_refl _⟩
  | cons p m ih =>
    intro A
    have := ih (A.sum (bnT p.2 p.1))
    have e1 : A.n ≤ (A.sum (bnT p.2 p.1)).n := Nat.le_add_right _ _
    have e2 : A.len ≤ (A.sum (bnT p.2 p.1)).len := Nat.le_max_left _ _
    exact ⟨Nat.le_trans e1 this.1, Nat.le_trans e2 this.2⟩
theorem bnO_ok {l : List (Nat × Nat)} (h : (bnO l).n ≤ 1099511627776) : (bnO l).Ok := by
  suffices hs : ∀ k, k ≤ l.length → (bnO (l.take k)).Ok by
    have := hs l.length (Nat.le_refl _)
    rwa [List.take_length] at this
  intro k
  induction k with
  | zero => intro _; rw [List.take_zero]; exact Bn.zero_ok
  | succ k ih =>
    intro hk
    have hx : l[k]? = some l[k] := List.getElem?_eq_getElem (by omega)
    have e := bnO_mono (l.take (k + 1)) (l.drop (k + 1))
    rw [List.take_append_drop] at e
    rw [take_succ_get hx, bnO_snoc] at e ⊢
    have e1 : (bnO (l.take k)).n + (l[k]).2 ≤ (bnO l).n := e.1
    exact (ih (by omega)).sum (bnT_ok _ (by omega)) (by show _ + _ ≤ _; exact Nat.le_trans e1 h)

theorem rbnew_any (f : Int) (w : World) (h1 : 1 ≤ f) (h2 : f ≤ 8) : Calls Tryz.prog 84 #[.int .i64 f] w fun en w' => en = .returned (.pointer (some ⟨w.heap.size, 0, none⟩)) ∧ RB w' w.heap.size f 0 none 0 [] ∧ Below w.heap.size w w' := by
  have H : Hid (∀ W, W = w.alloc (.cells #[.int .i64 f, .slice none 0 0, .int .i64 0] 205) → RB W w.heap.size f 0 none 0 [] ∧ Below w.heap.size w W) := fun W hW => by
    obtain ⟨k, b, _⟩ := new_of hW rfl
    exact ⟨⟨k, VOwn.none _ _ _ _⟩, b⟩
  go_enter Tryz.func84, Tryz.ntmps84
  go_wp2_with fail
  go_ret
  exact ⟨rfl, H.out _ rfl⟩

end Go.Proofs.YteahdgbokjbgcaaGreatDoor
