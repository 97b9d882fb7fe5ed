/- Contract of steelyardref09.Bins.top. What the document's bins keep, step by step, in numbers. Contract of steelyardref09.Bins.Kept. No statement of the seat is proved here. -/
import Derived.Test.YteahdgbokjbgcaaGreatDoorProg
import Derived.Test.YteahdgbokjbgcaaGreatDoorZNI
namespace Go.Proofs.YteahdgbokjbgcaaGreatDoor
open Go.RowKit
set_option maxRecDepth 10000
set_option linter.unusedVariables false
set_option linter.unusedSimpArgs false

theorem top_test {b : Nat} {d : D} {t : Int} (h1 : d.m * 2 ^ (d.exp + 1088).toNat = mB b) (h2 : -1074 ≤ d.exp) (ht : -35 ≤ t) : (0 < bitLen d.m ∧ 32 * (t + 1) ≤ (bitLen d.m : Int) - 1 + d.exp) ↔ t + 35 < ((words (mB b)).length : Int) := by
  obtain ⟨i, rfl⟩ : ∃ i : Nat, t = (i : Int) - 35 := ⟨(t + 35).toNat, by omega⟩
  obtain ⟨e, he⟩ : ∃ e : Nat, (d.exp + 1088).toNat = e := ⟨_, rfl⟩
  rw [he] at h1
  have hb := bitLen_spec d.m
  constructor
  · rintro ⟨h3, h4⟩
    have h0 : d.m ≠ 0 := by intro h; rw [h] at h3; exact absurd h3 (by decide)
    have h5 := hb.2 h0
    have h6 : 4294967296 ^ i ≤ mB b := by
      rw [← h1, w32_pow]
      refine Nat.le_trans (Nat.pow_le_pow_right (by decide) (show 32 * i ≤ bitLen d.m - 1 + e by omega)) ?_
      rw [Nat.pow_add]; exact Nat.mul_le_mul_right _ h5
    have := words_len_gt h6
    omega
  · intro h3
    by_cases h0 : d.m = 0
    · rw [h0, Nat.zero_mul] at h1; rw [← h1, words_zero] at h3; simp at h3; omega
    have hp : 0 < bitLen d.m := bitLen_pos h0
    refine ⟨hp, ?_⟩
    by_cases h4 : 32 * ((i : Int) - 35 + 1) ≤ (bitLen d.m : Int) - 1 + d.exp
    · exact h4
    · exfalso
      have h6 : mB b < 4294967296 ^ i := by
        rw [← h1, w32_pow]
        refine Nat.lt_of_lt_of_le ((Nat.mul_lt_mul_right (Nat.two_pow_pos e)).2 hb.1) ?_
        rw [← Nat.pow_add]
        exact Nat.pow_le_pow_right (by decide) (by omega)
      have := words_len_le h6
      omega
/-- numbers that bins take, with how often -/
def OfOk (l : List (Nat × Nat)) : Prop := ∀ p ∈ l, p.1 < 18446744073709551616 ∧ p.1 % 9223372036854775808 < 9218868437227405312
theorem bnO_take (l : List (Nat × Nat)) {k : Nat} {p : Nat × Nat} (h : l[k]? = some p) : bnO (l.take (k + 1)) = (bnO (l.take k)).sum (bnT p.2 p.1) := by rw [take_succ_get h, bnO_snoc]
/-- the Dyad of a number's size, from its bits -/
theorem rbits_any {b : Nat} (hb : b < 18446744073709551616) (h : b % 9223372036854775808 < 9218868437227405312) : ∃ d : D, d.m * 2 ^ (d.exp + 1088).toNat = mB b ∧ -1074 ≤ d.exp ∧ d.exp ≤ 1100 ∧ (words d.m).length ≤ 66 ∧ ∃ k : Nat, IntKind.u64.wrap ((b : Int) * 2) / 2 = (k : Int) ∧ ∀ W, Calls Tryz.prog 181 #[.agg #[.int .i64 53, .int .i64 (-1074), .int .u64 9218868437227405312], .bool false, .int .u64 k] W fun en w' => ∃ a c, en = .returned (.tuple #[DV d a c, .bool true]) ∧ Own w' 118 W.heap.size a c (words d.m) ∧ Below W.heap.size W w' := by
  obtain ⟨d, hd, hi, hok, hex, hmb, hhi⟩ := size_dy h
  have hlt : (words d.m).length ≤ 66 := by
    obtain ⟨j, hj⟩ : ∃ j, j = 66 := ⟨_, rfl⟩
    have h1 := mB_lt b hj
    rw [← hmb] at h1
    have h2 := words_len_le (Nat.lt_of_le_of_lt (Nat.le_mul_of_pos_right _ (Nat.two_pow_pos _)) h1)
    omega
  refine ⟨d, hmb, hex, hhi, hlt, b % 9223372036854775808, by rw [IntKind.wrap_u64]; omega, fun W => ?_⟩
  refine (bits_any 52 (b % 9223372036854775808) (-1074) 9218868437227405312 false W (by decide) (by omega) (by decide) (by decide) (by decide) (by decide) (by decide)).mono ?_
  rintro en w' ⟨v, rfl, ⟨a, c, rfl, ho⟩, hb⟩
  rw [hd] at ho ⊢
  exact ⟨a, c, rfl, ho, hb⟩

set_option maxHeartbeats 16000000 in
theorem rbtop_any (g n : Nat) (f : Int) (a : Option Addr) (c : Nat) (l : List (Nat × Nat)) (w : World) (ho : OfOk l) (hl : l.length ≤ 1099511627776) (h : RB w g f n a c l) :
    Calls Tryz.prog 199 #[.pointer (some ⟨g, 0, none⟩)] w fun en w' => en = .returned (.tuple #[.int .i64 (((bnO l).len : Int) - 35), .bool (decide (0 < (bnO l).len))]) ∧ Below w.heap.size w w' := by
  have HR := Lib.hid (fun W (hw : Below w.heap.size w W) => h.grow hw)
  have HO := Lib.hid (fun W => of64_any W)
  have HOK := Lib.hid ho
  have hLen : ∀ k, (bnO (l.take k)).len ≤ 66 := by
    intro k
    have : ∀ (m : List (Nat × Nat)) (A : Bn), A.len ≤ 66 → (m.foldl (fun A p => A.sum (bnT p.2 p.1)) A).len ≤ 66 := by
      intro m
      induction m with
      | nil => intro A hA; exact hA
      | cons p m ih => intro A hA; exact ih _ (Nat.max_le.2 ⟨hA, bn1_len p.1⟩)
    exact this _ _ (by decide)
  have HLn := Lib.hid hLen
  have hlt := h.lt
  clear h ho hLen
  go_enter Tryz.func199, Tryz.ntmps199
  go_wp2_with fail
  go_loopw [4, 5, 6, 7, 8] (fun tt ii z6 z7 z8 wr => ∃ k : Nat, k ≤ l.length ∧ ii = .int .i64 k ∧ tt = .int .i64 (((bnO (l.take k)).len : Int) - 35) ∧ Hid (Below w.heap.size w wr)) (fun _ ii _ _ _ _ => l.length - (intOf ii).toNat)
  case atStart => exact ⟨0, Nat.zero_le _, rfl, rfl, Below.refl _ _⟩
  case round =>
    obtain ⟨k, hk, rfl, rfl, hH⟩ := hrel
    obtain ⟨x0, x1, x2, x3, x4⟩ := (HR.out wr hH.out).cells
    by_cases hq : k < l.length
    · obtain ⟨p, hp⟩ : ∃ p, l[k]? = some p := ⟨l[k], List.getElem?_eq_getElem hq⟩
      obtain ⟨bx, ox, rfl, y0, y1⟩ := (HR.out wr hH.out).at hp
      obtain ⟨p1, p2⟩ := HOK.out p (List.mem_of_getElem? hp)
      obtain ⟨d, hmb, hex, hhi, hdl, kk, hkk, hBi⟩ := rbits_any p1 p2
      have HBi := Lib.hid hBi
      have HTk := Lib.hid (bnO_take l hp)
      have HC : Hid (∀ W, Below wr.heap.size wr W → W.cell? ⟨g, 1, none⟩ = some (.slice (some ⟨bx, ox, none⟩) l.length c) ∧ W.cell? ⟨bx, ox + k * 2, none⟩ = some (.int .u64 (p.1 : Nat))) := fun W hW => by
        have h1 := HR.out W (hH.out.trans (hW.mono hH.out.size))
        obtain ⟨b', o', e1, e2, _⟩ := h1.at hp
        cases e1
        exact ⟨h1.cells.2.1, e2⟩
      have HMb := Lib.hid (And.intro hmb (And.intro hex (And.intro hhi hdl)))
      have HH := Lib.hid hH.out
      have HG : Hid (g < wr.heap.size ∧ bx < wr.heap.size) := ⟨(HR.out wr hH.out).lt, World.block_lt_of_cell? wr _ y0⟩
      have m5 : wr.heap.size ≠ g := by have := HG.out; omega
      have m6 : wr.heap.size ≠ bx := by have := HG.out; omega
      clear hBi x0 x2 x3 x4 y1 hmb hex hhi hdl hp p1 p2
      go_upto_region 5 with fail
      go_region_held3 (fun W => W.cell? ⟨g, 1, none⟩ = some (.slice (some ⟨bx, ox, none⟩) l.length c) ∧ W.cell? ⟨bx, ox + k * 2, none⟩ = some (.int .u64 (p.1 : Nat))) (go_keep) (first
        | (go_at_call 180; refine (HO.out wr.drew).mono ?_; rintro en w5 ⟨rfl, hb5⟩; have HB5 : Hid (Below wr.heap.size wr w5) := below_drewN (n := 1) hb5; have n5 : w5.heap.size ≠ g := (by have := HB5.out.size; have := HG.out; omega); have n6 : w5.heap.size ≠ bx := (by have := HB5.out.size; have := HG.out; omega); obtain ⟨q0, q1⟩ := HC.out w5 HB5.out)
        | (go_at_call 180; refine (HO.out (wr.alloc (.cells #[.bool false, .slice none 0 0, .int .i64 0] 46)).drew).mono ?_; rintro en w5 ⟨rfl, hb5⟩; have HB5 : Hid (Below wr.heap.size wr w5) := ((Below.refl _ _).alloc (Nat.le_refl _) _).drew.trans (hb5.mono (by simp)); have n5 : w5.heap.size ≠ g := (by have := HB5.out.size; have := HG.out; omega); have n6 : w5.heap.size ≠ bx := (by have := HB5.out.size; have := HG.out; omega); have j5 := (Cel.new wr (.bool false) (.slice none 0 0) (.int .i64 0)).below (below_drewN (n := 1) hb5) (by simp); obtain ⟨q0, q1⟩ := HC.out w5 HB5.out)
        | (go_at_call 181; refine (HBi.out w5).mono ?_; rintro en w6 ⟨a6, c6, rfl, ho6, hb6⟩; simp only [DV]; have HB6 : Hid (Below wr.heap.size wr w6) := HB5.out.trans (hb6.mono HB5.out.size); have j6 := j5.below hb6 j5.lt; obtain ⟨r0, r1⟩ := HC.out w6 HB6.out; obtain ⟨_, _, _, _, _, _⟩ := j6.facts)
        | (go_at_call 181; refine (HBi.out w5).mono ?_; rintro en w6 ⟨a6, c6, rfl, ho6, hb6⟩; simp only [DV]; have HB6 : Hid (Below wr.heap.size wr w6) := HB5.out.trans (hb6.mono HB5.out.size); obtain ⟨r0, r1⟩ := HC.out w6 HB6.out)
        | (go_at_call 181; refine (HBi.out (w5.alloc (.cells #[.bool false, .slice none 0 0, .int .i64 0] 46))).mono ?_; rintro en w6 ⟨a6, c6, rfl, ho6, hb6⟩; simp only [DV]; have HB6 : Hid (Below wr.heap.size wr w6) := HB5.out.trans (((Below.refl _ _).alloc (Nat.le_refl _) _).trans (hb6.mono (by simp)) |>.mono HB5.out.size); have j6 := (Cel.new w5 (.bool false) (.slice none 0 0) (.int .i64 0)).below hb6 (by simp); obtain ⟨r0, r1⟩ := HC.out w6 HB6.out; obtain ⟨_, _, _, _, _, _⟩ := j6.facts))
      all_goals
        (first
          | (obtain ⟨w7, e7⟩ : ∃ W, W = w6.alloc (.cells #[.bool d.neg, .slice a6 (words d.m).length c6, .int .i64 d.exp] 46) := ⟨_, rfl⟩
             rw [← e7]
             obtain ⟨K7, z7, s7⟩ := new_cel e7 rfl
             have HO7 : Own w7 118 0 a6 c6 (words d.m) := (ho6.grow z7).mono (Nat.zero_le _)
             have HB7 := Lib.hid (HB6.out.trans (z7.mono HB6.out.size))
             obtain ⟨p7, e8⟩ : ∃ p, p = w6.heap.size := ⟨_, rfl⟩
             rw [← e8] at K7 ⊢
             clear e7 e8 z7 s7)
          | (obtain ⟨w7, e7⟩ : ∃ W, W = wr3 w6 wr.heap.size (.bool d.neg) (.slice a6 (words d.m).length c6) (.int .i64 d.exp) := ⟨_, rfl⟩
             have e8 := e7
             unfold wr3 at e8
             rw [← e8]
             have K7 := cel_wr_same e7 j6
             have HO7 : Own w7 118 0 a6 c6 (words d.m) := (own_wr e7 ho6 (by have := j5.lt; omega)).mono (Nat.zero_le _)
             have HB7 := Lib.hid (below_wr e7 HB6.out (Nat.le_refl _))
             obtain ⟨p7, e9⟩ : ∃ p, p = wr.heap.size := ⟨_, rfl⟩
             rw [← e9] at K7 ⊢
             clear e7 e8 e9 j5 j6)
          | (obtain ⟨w7, e7⟩ : ∃ W, W = wr3 w6 w5.heap.size (.bool d.neg) (.slice a6 (words d.m).length c6) (.int .i64 d.exp) := ⟨_, rfl⟩
             have e8 := e7
             unfold wr3 at e8
             rw [← e8]
             have K7 := cel_wr_same e7 j6
             have HO7 : Own w7 118 0 a6 c6 (words d.m) := (own_wr e7 ho6 (by simp)).mono (Nat.zero_le _)
             have HB7 := Lib.hid (below_wr e7 HB6.out HB5.out.size)
             obtain ⟨p7, e9⟩ : ∃ p, p = w5.heap.size := ⟨_, rfl⟩
             rw [← e9] at K7 ⊢
             clear e7 e8 e9 j6))
        have HLe := rlen_any a6 c6 (words d.m) w7 (by have := HMb.out.2.2.2; omega) (W32_words _) HO7.rd
        rw [num_words] at HLe
        have HL7 := Lib.hid HLe
        have HT : Hid (∀ t : Int, -35 ≤ t → ((0 < bitLen d.m ∧ 32 * (t + 1) ≤ (bitLen d.m : Int) - 1 + d.exp) ↔ t + 35 < ((words (mB p.1)).length : Int))) := fun t ht => top_test HMb.out.1 HMb.out.2.1 ht
        obtain ⟨T, hT⟩ : ∃ T, T = (bnO (l.take (k + 1))).len := ⟨_, rfl⟩
        have HTm : Hid (T = max (bnO (l.take k)).len (words (mB p.1)).length) := by show T = _; rw [hT, HTk.out]; rfl
        have HTe := Lib.hid hT
        have T66 := HLn.out (k + 1)
        rw [← hT] at T66
        obtain ⟨L0, hL0⟩ : ∃ x, x = (bnO (l.take k)).len := ⟨_, rfl⟩
        rw [← hL0] at HTm ⊢
        obtain ⟨M, hM⟩ : ∃ x, x = (words (mB p.1)).length := ⟨_, rfl⟩
        rw [← hM] at HT HTm
        obtain ⟨bl, hbl⟩ : ∃ x, x = bitLen d.m := ⟨_, rfl⟩
        rw [← hbl] at HT HL7
        have hbl2 : bl ≤ 2112 := by
          rw [hbl]
          have := words_bitLen (n := d.m) (k := (words d.m).length) (Nat.le_refl _)
          have := HMb.out.2.2.2
          omega
        obtain ⟨de, hde⟩ : ∃ x, x = d.exp := ⟨_, rfl⟩
        obtain ⟨_, f1, f2, _, _, _⟩ := K7.facts
        rw [← hde] at HT f2
        have hde1 : -1074 ≤ de := by rw [hde]; exact HMb.out.2.1
        have hde2 : de ≤ 1100 := by rw [hde]; exact HMb.out.2.2.1
        have hTm : L0 ≤ T := by rw [HTm.out]; exact Nat.le_max_left _ _
        have HB8 := Lib.hid (HH.out.trans (HB7.out.mono HH.out.size))
        clear hT hL0 hM hbl HLe HO7 K7 HBi hkk y0
        go_wp2_with fail
        refine HL7.out.mono ?_; rintro en w8 ⟨rfl, rfl⟩
        have HTs : Hid (∀ t : Int, (L0 : Int) - 35 ≤ t → t ≤ (T : Int) - 35 → ¬ (0 < bl ∧ 32 * (t + 1) ≤ (bl : Int) - 1 + de) → t = (T : Int) - 35) := fun t h1 h2 h3 => by
          have h4 := (not_congr (HT.out t (by omega))).1 h3
          have h5 := HTm.out
          omega
        have HTg : Hid (∀ t : Int, (L0 : Int) - 35 ≤ t → (0 < bl ∧ 32 * (t + 1) ≤ (bl : Int) - 1 + de) → t + 1 ≤ (T : Int) - 35) := fun t h1 h3 => by
          have h4 := (HT.out t (by omega)).1 h3
          have h5 := HTm.out
          omega
        clear HT HTm
        go_wp2_with fail
        go_loopw [4] (fun tt wx => ∃ t : Int, tt = .int .i64 t ∧ (L0 : Int) - 35 ≤ t ∧ t ≤ (T : Int) - 35 ∧ Hid (wx = w7)) (fun tt _ => (((T : Int) - 35) - intOf tt).toNat)
        case atStart => exact ⟨_, rfl, by omega, by omega, rfl⟩
        case round =>
          obtain ⟨t, rfl, t1, t2, hw⟩ := hrel
          obtain rfl := hw.out
          by_cases hz : 0 < bl
          · by_cases hs : 32 * (t + 1) ≤ (bl : Int) - 1 + de
            · have h9 := HTg.out t t1 ⟨hz, hs⟩
              go_wp2_with fail
              go_roundw
              case rel => exact ⟨t + 1, by go_num, by omega, h9, True.intro⟩
              case measure => simp [intOf]; omega
            · have h9 := HTs.out t t1 t2 (fun h => hs h.2)
              go_wp2_with fail
              go_roundw
              case rel => exact ⟨k + 1, by omega, by go_num, by rw [← HTe.out, h9], HB8.out⟩
              case measure => simp [intOf]; omega
          · have h9 := HTs.out t t1 t2 (fun h => hz h.1)
            go_wp2_with fail
            go_roundw
            case rel => exact ⟨k + 1, by omega, by go_num, by rw [← HTe.out, h9], HB8.out⟩
            case measure => simp [intOf]; omega
    · have hkl : k = l.length := by omega
      have HE : Hid (l.take k = l) := by show l.take k = l; rw [hkl]; exact List.take_length
      have HH := Lib.hid hH.out
      obtain ⟨L, hL⟩ : ∃ L, L = (bnO (l.take k)).len := ⟨_, rfl⟩
      have HLe : Hid (L = (bnO l).len) := by show L = (bnO l).len; rw [hL, HE.out]
      rw [← hL]
      clear hL hH
      have HF : Hid (decide ((-34 : Int) ≤ (L : Int) - 35) = decide (0 < L)) := by show decide _ = decide _; congr 1; exact propext (by omega)
      by_cases hp : 0 < L
      · go_wp2_with fail
        go_ret2
        rw [← HLe.out]
        exact ⟨by simp [hp]; omega, HH.out⟩
      · go_wp2_with fail
        go_ret2
        rw [← HLe.out]
        exact ⟨by simp [hp]; omega, HH.out⟩
end Go.Proofs.YteahdgbokjbgcaaGreatDoor
namespace Go.Proofs.YteahdgbokjbgcaaGreatDoor
open Go.RowKit
set_option maxRecDepth 10000
set_option linter.unusedVariables false
set_option linter.unusedSimpArgs false

/-- in the midst of bin k from the top, behind i of the numbers -/
def innK (l : List (Nat × Nat)) (k i : Nat) : Int := (bnO l).kS k + (if k < (bnO l).len then (bnO (l.take i)).K ((bnO l).len - 1 - k) * ((4294967296 ^ ((bnO l).len - 1 - k) : Nat) : Int) else 0)
def addK (l : List (Nat × Nat)) (k : Nat) (p : Nat × Nat) : Int := if k < (bnO l).len then (p.2 : Int) * sgn (ptOf p.1).s (dg (mB p.1) ((bnO l).len - 1 - k)) * ((4294967296 ^ ((bnO l).len - 1 - k) : Nat) : Int) else 0
theorem innK_zero (l : List (Nat × Nat)) (k : Nat) : innK l k 0 = (bnO l).kS k := by
  unfold innK
  rw [List.take_zero, show (bnO []).K ((bnO l).len - 1 - k) = 0 from rfl, Int.zero_mul]
  simp
theorem innK_end (l : List (Nat × Nat)) (k : Nat) : innK l k l.length = (bnO l).kS (k + 1) := by
  unfold innK
  rw [List.take_length]; rfl
theorem innK_step (l : List (Nat × Nat)) (k : Nat) {i : Nat} {p : Nat × Nat} (h : l[i]? = some p) : innK l k (i + 1) = innK l k i + addK l k p := by
  unfold innK addK
  rw [bnO_take l h]
  show _ + (if _ then ((bnO (l.take i)).K _ + (p.2 : Int) * sgn (ptOf p.1).s (dg (mB p.1) _)) * _ else 0) = _
  split
  · rw [Int.add_mul]; omega
  · omega
theorem times_le {l : List (Nat × Nat)} {p : Nat × Nat} (h : p ∈ l) : p.2 ≤ (bnO l).n := by
  obtain ⟨s, t, rfl⟩ := List.append_of_mem h
  have h1 := (bnO_mono (s ++ [p]) t).1
  rw [bnO_snoc] at h1
  have h2 : p.2 ≤ ((bnO s).sum (bnT p.2 p.1)).n := Nat.le_add_left _ _
  rw [show s ++ p :: t = s ++ [p] ++ t by simp]
  omega
theorem innK_bd {l : List (Nat × Nat)} (hn : (bnO l).n ≤ 1099511627776) (k i : Nat) {j : Nat} (hj : j = 68) : (innK l k i).natAbs < 2 ^ (32 * j) := by
  have hA := bnO_ok hn
  have h1 := kS_bd hA k
  have h2 : (bnO l).n * 4294967296 ^ (bnO l).len ≤ 1099511627776 * 4294967296 ^ (bnO l).len := Nat.mul_le_mul_right _ hn
  have h3 : 4294967296 ^ (bnO l).len ≤ 4294967296 ^ (j - 2) := Nat.pow_le_pow_right (by decide) (by have := hA.len; omega)
  have h4 : 4294967296 ^ j = 4294967296 ^ (j - 2) * 18446744073709551616 := by
    rw [show (18446744073709551616 : Nat) = 4294967296 ^ 2 from rfl, ← Nat.pow_add]
    congr 1; omega
  have h5 : 0 < 4294967296 ^ (j - 2) := Nat.pow_pos (by decide)
  have key : (innK l k i).natAbs ≤ (bnO l).n * 4294967296 ^ (bnO l).len := by
    unfold innK
    by_cases h : k < (bnO l).len
    · rw [if_pos h]
      have hm := bnO_mono (l.take i) (l.drop i)
      rw [List.take_append_drop] at hm
      have hT := bnO_ok (l := l.take i) (Nat.le_trans hm.1 hn)
      obtain ⟨q, hq⟩ : ∃ q, (bnO l).len - 1 - k = q := ⟨_, rfl⟩
      rw [show (bnO l).len - k = q + 1 by omega, Nat.pow_succ] at h1
      rw [hq]
      have h6 : ((bnO (l.take i)).K q * ((4294967296 ^ q : Nat) : Int)).natAbs ≤ (bnO l).n * 4294967295 * 4294967296 ^ q := by
        rw [Int.natAbs_mul, Int.natAbs_natCast]
        exact Nat.mul_le_mul_right _ (Nat.le_trans (hT.bd q) (Nat.mul_le_mul_right _ hm.1))
      have e1 : (bnO l).n * 4294967295 * 4294967296 ^ q + (bnO l).n * 4294967296 ^ q = (bnO l).n * (4294967296 ^ q * 4294967296) := by
        rw [Nat.mul_assoc, ← Nat.mul_add]
        congr 1
        omega
      have h7 := Int.natAbs_add_le ((bnO l).kS k) ((bnO (l.take i)).K q * ((4294967296 ^ q : Nat) : Int))
      generalize (bnO (l.take i)).K q * ((4294967296 ^ q : Nat) : Int) = Z at *
      omega
    · rw [if_neg h, Int.add_zero]; omega
  rw [← w32_pow, h4]
  generalize 4294967296 ^ (j - 2) = P at *
  omega
theorem addK_dy {l : List (Nat × Nat)} (hlen : (bnO l).len ≤ 66) {p : Nat × Nat} (ht : p.2 ≤ 1099511627776) (k : Nat) : ∃ d, formF (ptOf p.1).s (slB p.1 (((bnO l).len : Int) - 35 - k) * p.2) (32 * (((bnO l).len : Int) - 35 - k)) = some d ∧ Dy (-1088) 68 d (addK l k p) := by
  obtain ⟨j, hj⟩ : ∃ j, j = 68 := ⟨_, rfl⟩
  obtain ⟨j3, hj3⟩ : ∃ j, j = 3 := ⟨_, rfl⟩
  unfold addK slB
  by_cases h : k < (bnO l).len
  · rw [if_pos h, if_neg (by omega)]
    obtain ⟨q, hq⟩ : ∃ q, q = (bnO l).len - 1 - k := ⟨_, rfl⟩
    rw [← hq, show (((bnO l).len : Int) - 35 - k + 34).toNat = q by omega]
    have hd := dg_lt (mB p.1) q
    have hb3 : dg (mB p.1) q * p.2 < 2 ^ (32 * j3) := by
      rw [hj3, show (2 : Nat) ^ (32 * 3) = 79228162514264337593543950336 from rfl]
      have := Nat.mul_le_mul (Nat.le_of_lt hd) ht
      omega
    have hexp : (32 * (((bnO l).len : Int) - 35 - k) - -1088).toNat = 32 * q := by omega
    have hsz : dg (mB p.1) q * p.2 * 2 ^ (32 * (((bnO l).len : Int) - 35 - k) - -1088).toNat < 2 ^ (32 * j) := by
      rw [hexp, hj]
      obtain ⟨y, hy⟩ : ∃ y, y = 32 * q := ⟨_, rfl⟩
      obtain ⟨r, hr⟩ : ∃ r, r = 32 * 68 := ⟨_, rfl⟩
      have h1 : 2 ^ y ≤ 2 ^ (r - 96) := Nat.pow_le_pow_right (by decide) (by omega)
      have h2 : (2 : Nat) ^ r = 2 ^ (r - 96) * 2 ^ (32 * j3) := by rw [hj3, ← Nat.pow_add]; congr 1; omega
      rw [← hy, ← hr, h2, Nat.mul_comm]
      exact Nat.lt_of_le_of_lt (Nat.mul_le_mul_right _ h1) ((Nat.mul_lt_mul_left (Nat.two_pow_pos _)).2 hb3)
    obtain ⟨d, h1, h2⟩ := Dy.form (s := (ptOf p.1).s) (n := dg (mB p.1) q * p.2) (e := 32 * (((bnO l).len : Int) - 35 - k)) (B := -1088) (j := j3) (J := j) hb3 (by omega) (by omega) ⟨by decide, by decide, by omega⟩ (by omega) hsz
    refine ⟨d, h1, ?_⟩
    rw [hexp] at h2
    rw [w32_pow, ← hj]
    have e1 : sgn (ptOf p.1).s (dg (mB p.1) q * p.2) = (p.2 : Int) * sgn (ptOf p.1).s (dg (mB p.1) q) := by
      unfold sgn
      split
      · rw [Int.natCast_mul, Int.mul_comm, Int.mul_neg]
      · rw [Int.natCast_mul, Int.mul_comm]
    rw [← e1]
    exact h2
  · rw [if_neg h, if_pos (by omega), Nat.zero_mul]
    exact ⟨D.zero, by unfold formF; rw [if_pos (by rfl)], Dy.zero (by decide)⟩
/-- a number's sign, of its highest bit -/
theorem pt_neg {b : Nat} (hb : b < 18446744073709551616) (h : b % 9223372036854775808 < 9218868437227405312) : (ptOf b).s = decide (9223372036854775808 ≤ b) := by
  have hx : b / 4503599627370496 % 2048 < 2047 := by omega
  have e : (b / 9223372036854775808 % 2 == 1) = decide (9223372036854775808 ≤ b) := by
    by_cases h1 : 9223372036854775808 ≤ b
    · rw [decide_eq_true h1, show b / 9223372036854775808 % 2 = 1 by omega]; rfl
    · rw [decide_eq_false h1, show b / 9223372036854775808 % 2 = 0 by omega]; rfl
  unfold ptOf
  rw [if_neg (by omega), e]
  split
  · rfl
  · split <;> rfl
end Go.Proofs.YteahdgbokjbgcaaGreatDoor
namespace Go.Proofs.YteahdgbokjbgcaaGreatDoor
open Go.RowKit
set_option maxRecDepth 10000
set_option linter.unusedVariables false
set_option linter.unusedSimpArgs false

theorem kS_none {A : Bn} (h : ¬ 0 < A.len) (k : Nat) : A.kS k = 0 := by
  have h0 : A.len = 0 := by omega
  rw [kS_more (k := k) (by omega), h0]; rfl
set_option maxHeartbeats 32000000 in
theorem rbkept_any (g n f : Nat) (a : Option Addr) (c : Nat) (l : List (Nat × Nat)) (w : World) (ho : OfOk l) (hn : (bnO l).n ≤ 1099511627776) (hl : l.length ≤ 1099511627776) (f1 : 1 ≤ f) (f2 : f ≤ 8) (h : RB w g f n a c l) {d : D} (hd : zO (-1088) ((bnO l).kS f) = some d) :
    Calls Tryz.prog 90 #[.pointer (some ⟨g, 0, none⟩)] w (OutD d w) := by
  obtain ⟨A, hA⟩ : ∃ A, A = bnO l := ⟨_, rfl⟩
  have hAo : A.Ok := by rw [hA]; exact bnO_ok hn
  have hL66 := hAo.len
  have HR := Lib.hid (fun W (hw : Below w.heap.size w W) => h.grow hw)
  have HOK := Lib.hid ho
  have HS : Hid (∀ k, ∃ d, zO (-1088) (A.kS k) = some d ∧ Dy (-1088) 68 d (A.kS k)) := fun k => kS_dy hAo k
  have HI : Hid (∀ k i, (innK l k i).natAbs < 2 ^ (32 * 68)) := fun k i => by
    obtain ⟨j, hj⟩ : ∃ j, j = 68 := ⟨_, rfl⟩
    have h9 := innK_bd hn k i hj
    rw [hj] at h9
    exact h9
  have HP : Hid (∀ p ∈ l, p.2 ≤ 1099511627776 ∧ ∀ k : Nat, ∃ d, formF (ptOf p.1).s (slB p.1 ((A.len : Int) - 35 - k) * p.2) (32 * ((A.len : Int) - 35 - k)) = some d ∧ Dy (-1088) 68 d (addK l k p)) := fun p hp => by
    have h1 := Nat.le_trans (times_le hp) hn
    refine ⟨h1, fun k => ?_⟩
    have := addK_dy (l := l) (by rw [← hA]; exact hL66) h1 k
    rw [← hA] at this; exact this
  have HZ : Hid (∀ k, innK l k 0 = A.kS k ∧ innK l k l.length = A.kS (k + 1)) := fun k => by rw [hA]; exact ⟨innK_zero l k, innK_end l k⟩
  rw [← hA] at hd
  have HD := Lib.hid hd
  have hlt := h.lt
  have HTop : Hid (∀ W, Below w.heap.size w W → Calls Tryz.prog 199 #[.pointer (some ⟨g, 0, none⟩)] W fun en w' => en = .returned (.tuple #[.int .i64 ((A.len : Int) - 35), .bool (decide (0 < A.len))]) ∧ Below W.heap.size W w') := fun W hW => by
    rw [hA]; exact rbtop_any g n f a c l W ho hl (h.grow hW)
  obtain ⟨w1, e1⟩ : ∃ W, W = w.alloc (.cells #[.bool false, .slice none 0 0, .int .i64 0] 46) := ⟨_, rfl⟩
  obtain ⟨k1, c1, s1⟩ := new_cel e1 rfl
  obtain ⟨w2, e2⟩ : ∃ W, W = w1.alloc (.cells #[.bool false, .slice none 0 0, .int .i64 0] 46) := ⟨_, rfl⟩
  obtain ⟨k2, c2, s2⟩ := new_cel e2 s1
  have HK0 : Hid (KeptS w w2 g f A D.zero none 0) := ⟨c1.trans (c2.mono (by omega)), by omega, k1.below c2 (by omega), by show Cel _ _ (.bool false) (.slice none (words 0).length 0) (.int .i64 0); rw [words_zero]; exact k2, by show Own _ _ _ none 0 (words 0); rw [words_zero]; exact Own.none _ _ _⟩
  have E1 := Lib.hid e1; have E2 := Lib.hid e2
  obtain ⟨L, hL⟩ : ∃ L, L = A.len := ⟨_, rfl⟩
  have HL : Hid (L = A.len) := hL
  rw [← hL] at HTop HP hL66
  clear h ho hd e1 e2 k1 k2 c1 c2 s1 s2 hA hAo hn hL
  go_enter Tryz.func90, Tryz.ntmps90
  go_upto_region 2 with fail
  rw [← E1.out, ← E2.out]
  go_wp2_with fail
  refine (HTop.out w2 HK0.out.bel).mono ?_; rintro en w3 ⟨rfl, hb3⟩
  have HK3 := Lib.hid (HK0.out.below hb3)
  obtain ⟨bv, hbv⟩ : ∃ b, b = decide (0 < L) := ⟨_, rfl⟩
  rw [← hbv]
  have HBv := Lib.hid hbv
  clear hb3 HK0 hbv
  go_wp2_with fail
  go_loopw [6, 7, 8, 9, 10, 11] (fun z6 z7 z8 z9 z10 z11 wr => ∃ (k : Nat) (dS : D) (aS : Option Addr) (cS : Nat), k ≤ f ∧ z6 = .int .i64 ((L : Int) - 35 - k) ∧ Hid (Dy (-1088) 68 dS (A.kS k) ∧ KeptS w wr g f A dS aS cS)) (fun z6 _ _ _ _ _ _ => (intOf z6 - ((L : Int) - 35 - f)).toNat)
  case atStart => exact ⟨0, D.zero, none, 0, Nat.zero_le _, by simp, Dy.zero (by decide), HK3.out⟩
  case round =>
    obtain ⟨k, dS, aS, cS, hk, rfl, hH⟩ := hrel
    obtain ⟨x0, x1, x2, x3, x4⟩ := (HR.out wr hH.out.2.bel).cells
    cases bv
    case true =>
      by_cases hq : k < f
      · have hq' : (L : Int) - 35 - f < (L : Int) - 35 - k := by omega
        have HH := Lib.hid hH.out
        clear hH
        go_wp2_with fail
        go_loopw [7, 8, 9, 10, 11] (fun z7 z8 z9 z10 z11 wx => ∃ (i : Nat) (dI : D) (aI : Option Addr) (cI : Nat), i ≤ l.length ∧ z7 = .int .i64 i ∧ Hid (Dy (-1088) 68 dI (innK l k i) ∧ KeptS w wx g f A dI aI cI)) (fun z7 _ _ _ _ _ => l.length - (intOf z7).toNat)
        case atStart => exact ⟨0, dS, aS, cS, Nat.zero_le _, rfl, by rw [(HZ.out k).1]; exact HH.out.1, HH.out.2⟩
        case round =>
          obtain ⟨i, dI, aI, cI, hi, rfl, hI⟩ := hrel
          clear x0 x1 x2 x3 x4
          obtain ⟨x0, x1, x2, x3, x4⟩ := (HR.out wr hI.out.2.bel).cells
          by_cases hm : i < l.length
          · obtain ⟨p, hpp⟩ : ∃ p, l[i]? = some p := ⟨l[i], List.getElem?_eq_getElem hm⟩
            obtain ⟨bx, ox, rfl, y0, y1⟩ := (HR.out wr hI.out.2.bel).at hpp
            have hmem := List.mem_of_getElem? hpp
            obtain ⟨p1, p2⟩ := HOK.out p hmem
            obtain ⟨hpt, hpd⟩ := HP.out p hmem
            obtain ⟨dp, hdp, hdy⟩ := hpd k
            have hst := innK_step l k hpp
            obtain ⟨s, hs⟩ : ∃ s, s = slB p.1 ((L : Int) - 35 - k) := ⟨_, rfl⟩
            have hs32 : s < 4294967296 := by rw [hs]; exact slB_lt _ _
            rw [← hs] at hdp
            have hSl := fun W => rslice_any p.1 ((L : Int) - 35 - k) W p1 p2 (by omega) (by omega)
            rw [← hs] at hSl
            have HSl := Lib.hid hSl
            have HO1 := Lib.hid (fun W => rof_any s W (by omega))
            have HO2 := Lib.hid (fun W => rof_any p.2 W (by omega))
            have qs : IntKind.u64.wrap (s : Int) = (s : Int) := by rw [IntKind.wrap_u64]; omega
            have qt : IntKind.u64.wrap (p.2 : Int) = (p.2 : Int) := by rw [IntKind.wrap_u64]; omega
            have hneg := pt_neg p1 p2
            obtain ⟨sg, hsg⟩ : ∃ sg, sg = (ptOf p.1).s := ⟨_, rfl⟩
            rw [← hsg] at hneg hdp
            have hsgq : (p.1 : Int) / 9223372036854775808 = if sg then 1 else 0 := by
              rw [hneg]
              by_cases h9 : 9223372036854775808 ≤ p.1
              · rw [decide_eq_true h9]; simp; omega
              · rw [decide_eq_false h9]; simp; omega
            have HC : Hid (∀ W, Below wr.heap.size wr W → W.cell? ⟨g, 1, none⟩ = some (.slice (some ⟨bx, ox, none⟩) l.length c) ∧ W.cell? ⟨bx, ox + i * 2, none⟩ = some (.int .u64 (p.1 : Nat)) ∧ W.cell? ⟨bx, ox + i * 2 + 1, none⟩ = some (.int .i64 (p.2 : Nat))) := fun W hW => by
              have h1 := HR.out W (hI.out.2.bel.trans (hW.mono hI.out.2.bel.size))
              obtain ⟨b', o', e1, e2, e3⟩ := h1.at hpp
              cases e1
              exact ⟨h1.cells.2.1, e2, e3⟩
            have HH2 := Lib.hid (And.intro hI.out (And.intro hdp (And.intro hdy hst)))
            have HNum : Hid (formF sg (num (words (s * p.2))) (32 * ((L : Int) - 35 - k)) = some dp) := by show _ = _; rw [num_words]; exact hdp
            have HW1 : Hid ((words s).length ≤ 2 ∧ (words p.2).length ≤ 2 ∧ (words (s * p.2)).length ≤ 4) := by
              refine ⟨words_len_le (by rw [show (4294967296 : Nat) ^ 2 = 18446744073709551616 from rfl]; omega), words_len_le (by rw [show (4294967296 : Nat) ^ 2 = 18446744073709551616 from rfl]; omega), words_len_le ?_⟩
              rw [show (4294967296 : Nat) ^ 4 = 340282366920938463463374607431768211456 from rfl]
              have := Nat.mul_le_mul (Nat.le_of_lt hs32) hpt
              omega
            clear hst hdp hdy hpd hmem hpp hneg hsg hSl hs x0 x2 x3 x4 hI p1 p2
            go_wp2_with fail
            refine (HSl.out wr).mono ?_; rintro en w9 ⟨rfl, hb9⟩
            have HB9 := Lib.hid hb9
            clear hb9 x1 y0 y1
            obtain ⟨x1, y0, y1⟩ := HC.out w9 HB9.out
            go_upto_region 10 with fail
            go_region_held3 (fun W => W.cell? ⟨g, 1, none⟩ = some (.slice (some ⟨bx, ox, none⟩) l.length c) ∧ W.cell? ⟨bx, ox + i * 2 + 1, none⟩ = some (.int .i64 (p.2 : Nat))) (go_keep) (first
              | (go_at_call 126; refine (HO1.out w9.drew).mono ?_; rintro en w10 ⟨a10, c10, rfl, ho10, hb10⟩; have HB10 : Hid (Below wr.heap.size wr w10) := HB9.out.trans ((below_drewN (n := 1) hb10).mono HB9.out.size); obtain ⟨u1, u0, u2⟩ := HC.out w10 HB10.out)
              | (go_at_call 126; refine (HO2.out w10).mono ?_; rintro en w11 ⟨a11, c11, rfl, ho11, hb11⟩; have HB11 : Hid (Below wr.heap.size wr w11) := HB10.out.trans (hb11.mono HB10.out.size); obtain ⟨v1, v0, v2⟩ := HC.out w11 HB11.out)
              | (go_at_call 184; refine (rtimes_any a10 a11 c10 c11 (words s) (words p.2) w11 (by have := HW1.out; omega) (W32_words _) (ho10.grow hb11).rd (W32_words _) ho11.rd).mono ?_; rintro en w12 ⟨a12, c12, rfl, ho12, hb12⟩; rw [num_words, num_words] at ho12 ⊢; have HB12 : Hid (Below wr.heap.size wr w12) := HB11.out.trans (hb12.mono HB11.out.size); obtain ⟨r1, r0, r2⟩ := HC.out w12 HB12.out))
            all_goals
              clear v0 v1 v2 u0 u1 u2 x1 y0 y1 HSl HO1 HO2 qs qt r2
              have HK12 := Lib.hid (HH2.out.1.2.below HB12.out)
              have HMk := Lib.hid (qMake HNum.out a12 c12 w12 (ho12.sl (W32_words _)) (by have := HW1.out; omega) (by omega) (by omega))
              clear ho10 ho11 ho12 hb10 hb11 hb12 HB9 HB10 HB11
              cases sg
              all_goals
                simp only [if_true, if_false, Bool.false_eq_true] at hsgq
                go_wp2_with fail
                refine HMk.out.mono ?_; rintro en w13 ⟨a13, c13, rfl, ho13, hb13⟩
                have HK13 := Lib.hid (HK12.out.below hb13)
                have HO13 := Lib.hid ho13
                clear ho13 hb13 r0 r1 hsgq
                unfold DV
                go_upto_region 12 with fail
                obtain ⟨w14, e14⟩ : ∃ W, W = w13.alloc (.cells #[.bool dp.neg, .slice a13 (words dp.m).length c13, .int .i64 dp.exp] 46) := ⟨_, rfl⟩
                rw [← e14]
                obtain ⟨k14, c14, s14⟩ := new_cel e14 rfl
                have HK14 := Lib.hid (HK13.out.below c14)
                have HO14 := Lib.hid (HO13.out.grow c14)
                clear e14 s14 c14
                obtain ⟨_, _, _, _, _, _⟩ := HK14.out.sum.facts
                obtain ⟨_, _, _, _, _, _⟩ := k14.facts
                obtain ⟨dn, hadd, hdn⟩ := HH2.out.1.1.addZ (K := 68) HH2.out.2.2.1 ⟨by decide, by decide, by decide⟩ (by rw [← HH2.out.2.2.2]; exact HI.out k (i + 1))
                rw [← HH2.out.2.2.2] at hdn
                have HAd := Lib.hid (qAdd HH2.out.1.1.is HH2.out.1.1.ok HH2.out.2.2.1.is HH2.out.2.2.1.ok hadd aI a13 cI c13 w14 (HK14.out.own.arg HH2.out.1.1.ok) (HO14.out.arg HH2.out.2.2.1.ok))
                have HDn := Lib.hid hdn
                unfold DV at HAd
                clear hdn hadd
                go_wp2_with fail
                refine HAd.out.mono ?_; rintro en w15 ⟨a15, c15, rfl, ho15, hb15⟩
                have HK15 := Lib.hid (HK14.out.below hb15)
                have HKn := Lib.hid (HK15.out.put (ho15.mono (b := w.heap.size + 2) HK14.out.siz))
                unfold wr3 at HKn
                clear ho15 hb15
                obtain ⟨_, _, _, _, _, _⟩ := HK15.out.sum.facts
                unfold DV
                go_wp2_with fail
                go_roundw
                case rel => exact ⟨i + 1, dn, a15, c15, by omega, by go_num, HDn.out, HKn.out⟩
                case measure => simp [intOf]; omega
          · have hil : i = l.length := by omega
            have hdy : Dy (-1088) 68 dI (A.kS (k + 1)) := by have := hI.out.1; rw [hil, (HZ.out k).2] at this; exact this
            have HDy := Lib.hid hdy
            have HKi := Lib.hid hI.out.2
            clear hdy hI
            go_wp2_with fail
            go_roundw
            case rel => exact ⟨k + 1, dI, aI, cI, by omega, by go_num, HDy.out, HKi.out⟩
            case measure => simp [intOf]; omega
      · obtain rfl : k = f := by omega
        obtain ⟨d', h1', h2'⟩ := HS.out k
        obtain rfl : d = d' := by have := HD.out; rw [h1'] at this; exact (Option.some.inj this).symm
        obtain rfl : dS = d := hH.out.1.uniq h2'
        have HKf := Lib.hid hH.out.2
        clear hH h1' h2'
        obtain ⟨c0, cc1, cc2, _, _, _⟩ := HKf.out.sum.facts
        obtain ⟨r0, r1, r2, _, _, _⟩ := HKf.out.res.facts
        go_wp2_with fail
        refine bodyPost_ret (v := DV dS aS cS) (by simp [results, Tryz.results90, go_sem, DV, c0, cc1, cc2, r0, r1, r2]) rfl ?_
        exact ⟨aS, cS, rfl, (own_wr3 HKf.out.own (by omega)).mono (by omega), below_wr3 HKf.out.bel (Nat.le_refl _)⟩
    case false =>
      have hp : ¬ 0 < L := of_decide_eq_false HBv.out.symm
      obtain ⟨d', h1', h2'⟩ := HS.out f
      obtain rfl : d = d' := by have := HD.out; rw [h1'] at this; exact (Option.some.inj this).symm
      have hz : A.kS k = A.kS f := by rw [kS_none (by rw [← HL.out]; exact hp), kS_none (by rw [← HL.out]; exact hp)]
      obtain rfl : dS = d := by have := hH.out.1; rw [hz] at this; exact this.uniq h2'
      have HKf := Lib.hid hH.out.2
      clear hH h1' h2' hz hp
      obtain ⟨c0, cc1, cc2, _, _, _⟩ := HKf.out.sum.facts
      obtain ⟨r0, r1, r2, _, _, _⟩ := HKf.out.res.facts
      go_wp2_with fail
      refine bodyPost_ret (v := DV dS aS cS) (by simp [results, Tryz.results90, go_sem, DV, c0, cc1, cc2, r0, r1, r2]) rfl ?_
      exact ⟨aS, cS, rfl, (own_wr3 HKf.out.own (by omega)).mono (by omega), below_wr3 HKf.out.bel (Nat.le_refl _)⟩
end Go.Proofs.YteahdgbokjbgcaaGreatDoor
