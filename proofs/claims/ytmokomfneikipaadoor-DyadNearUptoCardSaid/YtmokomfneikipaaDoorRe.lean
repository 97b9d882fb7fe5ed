/- Contracts of package steelyardref02: Moved. No statement of the seat is proved here. -/
import Derived.Test.YtmokomfneikipaaDoorProg
import Derived.Test.YtmokomfneikipaaDoorRd
namespace Go.Proofs.YtmokomfneikipaaDoor
open Go.RowKit
set_option linter.unusedVariables false
set_option linter.unusedSimpArgs false

set_option maxHeartbeats 2000000 in
set_option maxRecDepth 10000 in
theorem rmoved_up (a : Option Addr) (c : Nat) (l : List Nat) (k : Nat) (w : World) (hlen : l.length ≤ 8796093022208) (hk : k ≤ 140737488355328) (hs : Sl w a c l) :
    Calls Tryd.prog 63 #[.slice a l.length c, .int .i64 (k : Int)] w fun e w' => ∃ a1 c1, e = .returned (.slice a1 (words (num l * 2 ^ k)).length c1) ∧ Own w' 64 w.heap.size a1 c1 (words (num l * 2 ^ k)) ∧ Below w.heap.size w w' := by
  obtain ⟨i0, hi, hz0, hz1, hz2⟩ := info_parts infoW
  have HS := Lib.hid hs; clear hs
  have hp : 2 ^ (k % 32) < 4294967296 := by
    have := Nat.pow_lt_pow_right (show 1 < 2 by decide) (show k % 32 < 32 by omega); simpa using this
  have f6 : ((2 : Int) ^ (k % 32)) % 4294967296 = (2 : Int) ^ (k % 32) := by
    rw [show ((2 : Int) ^ (k % 32)) = ((2 ^ (k % 32) : Nat) : Int) from by simp]
    generalize 2 ^ (k % 32) = z at *; omega
  have HP := Lib.hid hp; clear hp
  go_enter Tryd.func63, Tryd.ntmps63
  go_wp2_with (first
    | (at_make; refine wpList_make_blk _ rfl _ _ 24 rfl 64 i0 Tryd.underlying24 hi hz0 hz1 hz2 _ _ _ _ (k / 32) rfl rfl (by simp) (by simp) (by omega) ?_; intro w1 hk1 hb1 hs1)
    | (at_builtin; refine wpList_append_words rfl _ _ 24 rfl 64 i0 Tryd.underlying24 hi hz0 hz1 hz2 w.heap.size (some ⟨w.heap.size, 0, none⟩) a (k / 32) (k / 32) l.length c (List.replicate (k / 32) 0) l rfl rfl (by simp) rfl (by simpa using Own.of hk1 (Nat.le_refl w.heap.size)) (HS.out.grow hb1).rd HS.out.nil (by omega) (by omega) ?_; intro a2 c2 w2 ho2 hg2 hn2))
  have hb2 : Below w.heap.size w w2 := hb1.trans ⟨hg2.os, hg2.tape, hg2.output, hg2.size, fun j hj => hg2.block j (by omega) (by simp; omega)⟩
  have hs2 := hg2.size
  have hB := blk_alloc w2 64 #[.int .u32 ((2 : Int) ^ (k % 32))] [2 ^ (k % 32)] (by simp)
  have hW : W32 (List.replicate (k / 32) 0 ++ l) := (W32.rep _).append HS.out.w32
  have T1 := rtimes_any a2 (some ⟨w2.heap.size, 0, none⟩) c2 1 (List.replicate (k / 32) 0 ++ l) [2 ^ (k % 32)] _ (by simp; omega) hW (ho2.rd.grow ((Below.refl _ _).alloc (Nat.le_refl _) (Obj.cells #[Value.int .u32 ((2 : Int) ^ (k % 32))] 64))) (W32.cons HP.out W32.nil) hB.rd
  have hn : num (List.replicate (k / 32) 0 ++ l) * num [2 ^ (k % 32)] = num l * 2 ^ k := by
    rw [num_append, num_rep, Nat.zero_add, List.length_replicate, pow32]
    simp only [num, Nat.mul_zero, Nat.add_zero]
    rw [Nat.mul_comm (2 ^ _) (num l), Nat.mul_assoc, ← Nat.pow_add, show 32 * (k / 32) + k % 32 = k by omega]
  have hll : (List.replicate (k / 32) 0 ++ l).length = k / 32 + l.length := by simp
  rw [hn, World.size_alloc, hll] at T1
  have HT := Lib.hid T1; clear T1 hn hW hB
  refine HT.out.mono ?_; rintro e w3 ⟨a3, c3, rfl, ho3, hb3⟩
  go_wp2
  go_ret
  exact ⟨a3, c3, rfl, ho3.mono (by omega), hb2.trans (((Below.refl _ _).alloc hb2.size _).trans (hb3.mono (by have := hb2.size; omega)))⟩

set_option maxHeartbeats 2000000 in
set_option maxRecDepth 10000 in
theorem rmoved_down (a : Option Addr) (c : Nat) (l : List Nat) (k : Nat) (w : World) (hlen : l.length ≤ 8796093022208) (hk0 : 0 < k) (hk : k ≤ 1099511627776) (hs : Sl w a c l) :
    Calls Tryd.prog 63 #[.slice a l.length c, .int .i64 (-(k : Int))] w fun e w' => ∃ a1 c1, e = .returned (.slice a1 (words (num l / 2 ^ k)).length c1) ∧ Own w' 64 w.heap.size a1 c1 (words (num l / 2 ^ k)) ∧ Below w.heap.size w w' := by
  have HS := Lib.hid hs; clear hs
  by_cases hlt : l.length ≤ k / 32
  · have hz : num l / 2 ^ k = 0 := Nat.div_eq_of_lt (Nat.lt_of_lt_of_le (num_lt HS.out.w32) (by rw [pow32]; exact Nat.pow_le_pow_right (by decide) (by omega)))
    have HZ := Lib.hid hz; clear hz
    go_enter Tryd.func63, Tryd.ntmps63
    go_wp2
    go_ret
    rw [HZ.out, words_zero]
    exact ⟨none, 0, rfl, Own.none _ _ _, Below.refl _ _⟩
  · have hcap := HS.out.cap
    obtain ⟨b, off, rfl, hR2⟩ := HS.out.rd.dropAt (show k / 32 < l.length by omega)
    have HR2 := Lib.hid hR2; clear hR2
    have hkc : k / 32 < c := by omega
    have hw3 := HS.out.w32.drop (k / 32)
    have hl3 : (l.drop (k / 32)).length = l.length - k / 32 := by simp
    have N1 : ∀ W, Below w.heap.size w W → Calls Tryd.prog 86 #[.slice (some ⟨b, off + k / 32, none⟩) (l.length - k / 32) (c - k / 32)] W fun e w' => ∃ a' c', e = .returned (.slice a' (words (num (l.drop (k / 32)))).length c') ∧ Own w' 64 W.heap.size a' c' (words (num (l.drop (k / 32)))) ∧ Below W.heap.size W w' := by
      intro W hW
      have := rnorm_any (some ⟨b, off + k / 32, none⟩) (c - k / 32) (l.drop (k / 32)) W (by omega) ⟨HR2.out.grow hW, hw3, by omega, by intro h; cases h⟩
      rw [hl3] at this
      exact this
    have e1 : num (l.drop (k / 32)) / 2 ^ (k % 32) = num l / 2 ^ k := by
      rw [num_drop HS.out.w32, pow32, Nat.div_div_eq_div_mul, ← Nat.pow_add, show 32 * (k / 32) + k % 32 = k by omega]
    have hp : 2 ^ (k % 32) < 4294967296 := by
      have := Nat.pow_lt_pow_right (show 1 < 2 by decide) (show k % 32 < 32 by omega); simpa using this
    have hwl := words_num_len hw3
    have HN := Lib.hid N1; have HE := Lib.hid e1; have HP := Lib.hid hp; have Hwl := Lib.hid hwl; have Hl3 := Lib.hid hl3; clear N1 e1 hp hwl hw3 hl3
    obtain ⟨M, hM⟩ : ∃ M, M = num (l.drop (k / 32)) := ⟨_, rfl⟩
    rw [← hM] at HN HE Hwl
    clear hM
    have P1 : ∀ W a1 c1 g, Rd W a1 (words M) → Rd W (some ⟨g, 0, none⟩) [2 ^ (k % 32)] → Calls Tryd.prog 95 #[.slice a1 (words M).length c1, .slice (some ⟨g, 0, none⟩) 1 1] W fun e w' => ∃ a1 c1 a2 c2, e = .returned (.tuple #[.slice a1 (words (num l / 2 ^ k)).length c1, .slice a2 (words (M % 2 ^ (k % 32))).length c2]) ∧ Own w' 64 W.heap.size a1 c1 (words (num l / 2 ^ k)) ∧ Own w' 64 W.heap.size a2 c2 (words (M % 2 ^ (k % 32))) ∧ Below W.heap.size W w' := by
      intro W a1 c1 g h1 h2
      have hn2 : num [2 ^ (k % 32)] = 2 ^ (k % 32) := by simp [num]
      have := parts_any a1 (some ⟨g, 0, none⟩) c1 1 (words M) [2 ^ (k % 32)] W (by have := Hwl.out; have := Hl3.out; omega) (by simp) (W32_words _) h1 (W32.cons HP.out W32.nil) h2 (by rw [hn2]; exact Nat.ne_of_gt (Nat.two_pow_pos _))
      rw [num_words, hn2, HE.out] at this
      exact this
    have HPt := Lib.hid P1; clear P1
    have hB : ∀ W, Blk (w.alloc (.cells #[.int .u32 ((2 : Int) ^ (k % 32))] 64)) 64 w.heap.size [2 ^ (k % 32)] ∧ Blk (World.alloc W (.cells #[.int .u32 ((2 : Int) ^ (k % 32))] 64)) 64 W.heap.size [2 ^ (k % 32)] := fun W => ⟨blk_alloc _ _ _ _ (by simp), blk_alloc _ _ _ _ (by simp)⟩
    have HB := Lib.hid hB; clear hB
    have f1 : IntKind.i64.wrap (k : Int) = (k : Int) := by rw [IntKind.wrap_i64]; omega
    have f2 : (k : Int).tmod 32 = (k : Int) % 32 := Int.tmod_eq_emod_of_nonneg (by omega)
    have f3 : 0 ≤ (k : Int) % 32 := by omega
    have f4 : ((k : Int) % 32).toNat = k % 32 := by omega
    have f5 : IntKind.u32.wrap ((2 : Int) ^ (k % 32)) = (2 : Int) ^ (k % 32) := by
      have := wrap_u32_nat _ HP.out; simpa using this
    go_enter Tryd.func63, Tryd.ntmps63
    go_wp2_with fail
    go_region_with (first
      | (go_at_call 86; refine (HN.out _ (by first | exact (Below.refl _ _).drew | exact ((Below.refl _ _).alloc (Nat.le_refl _) _).drew)).mono ?_; rintro e w1 ⟨a1, c1, rfl, ho1, hb1⟩)
      | (go_at_call 95; refine (HPt.out _ _ _ _ (by first | exact ho1.rd | exact ho1.rd.grow ((Below.refl _ _).alloc (Nat.le_refl _) _)) (by first | exact (HB.out w1).2.rd | exact ((HB.out w).1.rd.grow (below_drewN (n := 1) hb1)))).mono ?_; rintro e w2 ⟨a3, c3, a4, c4, rfl, ho3, ho4, hb3⟩))
    all_goals
      go_wp2
      go_ret
      have q1 := hb1.size
      have q2 := hb3.size
      simp only [World.size_alloc, World.size_drew] at q1 q2
      refine ⟨a3, c3, rfl, ho3.mono (by first | omega | (simp only [World.size_alloc]; omega)), ?_⟩
      first
        | exact (below_drewN (n := 1) hb1).trans (((Below.refl _ _).alloc q1 _).trans (hb3.mono (by first | omega | (simp only [World.size_alloc]; omega))))
        | exact ((Below.refl _ _).alloc (Nat.le_refl _) _).trans (((below_drewN (n := 1) hb1).mono (by simp)).trans (hb3.mono (by omega)))
end Go.Proofs.YtmokomfneikipaaDoor
