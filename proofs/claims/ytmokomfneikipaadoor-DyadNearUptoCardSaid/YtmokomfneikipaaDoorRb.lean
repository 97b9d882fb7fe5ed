/- Contracts of package steelyardref02: Plus, Minus, Times. No statement of the seat is proved here. -/
import Derived.Test.YtmokomfneikipaaDoorProg
import Derived.Test.YtmokomfneikipaaDoorRa
namespace Go.Proofs.YtmokomfneikipaaDoor
open Go.RowKit
set_option linter.unusedVariables false
set_option linter.unusedSimpArgs false

theorem getD_take_succ {l : List Nat} {k x : Nat} (hx : l.getD k 0 = x) : num (l.take (k + 1)) = num (l.take k) + 4294967296 ^ k * x := by
  by_cases h : k < l.length
  · have : l[k]? = some x := by rw [List.getD_eq_getElem?_getD, List.getElem?_eq_getElem h] at hx; rw [List.getElem?_eq_getElem h]; simpa using hx
    exact num_take_succ this
  · have : x = 0 := by rw [List.getD_eq_getElem?_getD, List.getElem?_eq_none (by omega)] at hx; exact hx.symm
    rw [List.take_of_length_le (by omega), List.take_of_length_le (by omega), this]; simp

theorem plus_step {p : List Nat} {x y o k A : Nat} (hp : p.length = k) (hA : num p + o * 4294967296 ^ k = A) :
    num (p ++ [(x + y + o) % 4294967296]) + (x + y + o) / 4294967296 * 4294967296 ^ (k + 1) = A + 4294967296 ^ k * (x + y) := by
  have e1 := Nat.div_add_mod (x + y + o) 4294967296
  rw [num_append, hp, Nat.pow_succ, ← hA]
  simp only [num]
  generalize (x + y + o) % 4294967296 = r at *
  generalize (x + y + o) / 4294967296 = q at *
  generalize 4294967296 ^ k = P at *
  have e5 : P * (4294967296 * q + r) = P * (x + y + o) := by rw [e1]
  grind

set_option maxHeartbeats 2000000 in
set_option maxRecDepth 10000 in
theorem rplus_any (a b : Option Addr) (c d : Nat) (l m : List Nat) (w : World) (hlen : l.length ≤ 17592186044416) (hlen2 : m.length ≤ 17592186044416) (hw : W32 l) (hr : Rd w a l) (hw2 : W32 m) (hr2 : Rd w b m) :
    Calls Tryd.prog 64 #[.slice a l.length c, .slice b m.length d] w fun e w' => ∃ a' c', e = .returned (.slice a' (words (num l + num m)).length c') ∧ Own w' 64 w.heap.size a' c' (words (num l + num m)) ∧ Below w.heap.size w w' := by
  obtain ⟨i0, hi, hz0, hz1, hz2⟩ := info_parts infoW
  have HR := Lib.hid hr; clear hr
  have HR2 := Lib.hid hr2; clear hr2
  have HW := Lib.hid hw; clear hw
  have HW2 := Lib.hid hw2; clear hw2
  go_enter Tryd.func64, Tryd.ntmps64
  go_wp2
  go_loopw [5, 6, 7] (fun s o i wr => ∃ (k over : Nat) (a' : Option Addr) (c' : Nat) (p : List Nat), i = .int .i64 k ∧ o = .int .u64 over ∧ s = .slice a' k c' ∧ over ≤ 1 ∧ (k ≤ l.length ∨ k ≤ m.length ∨ k = max l.length m.length + 1) ∧ Hid (p.length = k ∧ W32 p ∧ num p + over * 4294967296 ^ k = num (l.take k) + num (m.take k)) ∧ (k = max l.length m.length + 1 → over = 0) ∧ Own wr 64 w.heap.size a' c' p ∧ Below w.heap.size w wr) (fun _ _ i _ => l.length + m.length + 1 - (intOf i).toNat)
  case atStart => exact ⟨0, 0, none, 0, [], rfl, rfl, rfl, by decide, .inl (Nat.zero_le _), ⟨rfl, W32.nil, by simp [num]⟩, fun _ => rfl, Own.none _ _ _, Below.refl _ _⟩
  case round =>
    obtain ⟨k, over, a', c', p, rfl, rfl, rfl, ho1, hk, HP, hk0, ho, hbr⟩ := hrel
    have hkb : k ≤ l.length + m.length + 1 := by omega
    have HK0 := Lib.hid hk0; clear hk0
    have HO := Lib.hid ho; clear ho
    have HK := Lib.hid hk; clear hk
    by_cases hgo : k < l.length ∨ k < m.length ∨ 0 < over
    · obtain ⟨x, hx⟩ : ∃ x, l.getD k 0 = x := ⟨_, rfl⟩
      obtain ⟨y, hy⟩ : ∃ y, m.getD k 0 = y := ⟨_, rfl⟩
      have hx4 : x < 4294967296 := by rw [← hx]; exact HW.out.getD k
      have hy4 : y < 4294967296 := by rw [← hy]; exact HW2.out.getD k
      have A1 := Lib.hid (rat_any a c l k x wr (by omega) (by omega) HW.out (HR.out.grow hbr) hx)
      have A2 := Lib.hid (rat_any b d m k y wr (by omega) (by omega) HW2.out (HR2.out.grow hbr) hy)
      have Hx := Lib.hid hx; have Hy := Lib.hid hy; clear hx hy
      have hkm : k ≤ max l.length m.length := by
        have h1 := HK.out; have h2 := HK0.out; omega
      have hsz := hbr.size
      have fin : ∀ (K : Prop), (∀ a2 c2 w2, Own w2 64 w.heap.size a2 c2 (p ++ [(x + y + over) % 4294967296]) → (wr.alloc (.cells #[.int .u32 (((x : Int) + (y : Int) + (over : Int)) % 4294967296)] 64)).grownBy w2 (a'.map (·.block)) → K) → True := fun _ _ => trivial
      clear fin
      have hB := blk_alloc wr 64 #[.int .u32 (((x : Int) + (y : Int) + (over : Int)) % 4294967296)] [(x + y + over) % 4294967296] (by simp)
      have HB := Lib.hid hB; clear hB
      rcases (show k < l.length ∨ (¬ k < l.length ∧ k < m.length) ∨ (¬ k < l.length ∧ ¬ k < m.length ∧ 0 < over) by omega) with h1 | ⟨h1, h2⟩ | ⟨h1, h2, h3⟩
      all_goals
        go_wp2_with fail
        refine A1.out.mono ?_; rintro e w' ⟨rfl, rfl⟩
        go_wp2_with fail
        refine A2.out.mono ?_; rintro e w' ⟨rfl, rfl⟩
        go_wp2_with (first | (at_builtin; refine wpList_append_words rfl _ _ 24 rfl 64 i0 Tryd.underlying24 hi hz0 hz1 hz2 w.heap.size a' (some ⟨wr.heap.size, 0, none⟩) k c' 1 1 p [(x + y + over) % 4294967296] rfl rfl HP.out.1.symm rfl (HO.out.grow ((Below.refl _ _).alloc (Nat.le_refl _) _)) HB.out.rd (by intro h; cases h) (by omega) (by rw [World.size_alloc]; omega) ?_; intro a2 c2 w2 ho2 hg2 hn2))
        go_wp2
        obtain ⟨h4, h5, h6⟩ := HP.out
        go_roundw
        case rel =>
          refine ⟨k + 1, (x + y + over) / 4294967296, a2, c2, p ++ [(x + y + over) % 4294967296], by go_num, by simp, rfl, by omega, by omega, ⟨by simp [h4], h5.append (W32.cons (Nat.mod_lt _ (by decide)) W32.nil), ?_⟩, ?_, ho2, ?_⟩
          · rw [getD_take_succ Hx.out, getD_take_succ Hy.out, plus_step h4 h6, Nat.mul_add]; omega
          · intro hkk
            have h7 := HK.out
            have h8 : x = 0 := by rw [← Hx.out, List.getD_eq_getElem?_getD, List.getElem?_eq_none (by omega)]; rfl
            have h9 : y = 0 := by rw [← Hy.out, List.getD_eq_getElem?_getD, List.getElem?_eq_none (by omega)]; rfl
            rw [h8, h9]; omega
          · refine hbr.trans (((Below.refl _ _).alloc (by omega) _).trans ⟨hg2.os, hg2.tape, hg2.output, hg2.size, fun j hj => hg2.block j (by rw [World.size_alloc]; omega) ?_⟩)
            intro h
            rcases HO.out with ⟨h0, _⟩ | ⟨g, t, h0, h1, _⟩
            · rw [h0] at h; cases h
            · rw [h0] at h; simp at h; omega
        case measure => simp [intOf]; omega
    · have h1 : ¬ k < l.length := by omega
      have h2 : ¬ k < m.length := by omega
      have h3 : over = 0 := by omega
      subst h3
      have e0 : ((0 : Nat) : Int) = 0 := rfl
      rw [e0]
      obtain ⟨h4, h5, h6⟩ := HP.out
      have hN : num p = num l + num m := by rw [List.take_of_length_le (by omega), List.take_of_length_le (by omega)] at h6; omega
      have hh := HK.out
      have N1 := rnorm_any a' c' p wr (by omega) (HO.out.sl h5)
      rw [hN, h4] at N1
      have HN := Lib.hid N1; clear N1 hN h4 h5 h6 hh
      go_wp2_with fail
      refine HN.out.mono ?_; rintro e w1 ⟨a2, c2, rfl, ho2, hb2⟩
      go_wp2
      go_ret
      exact ⟨a2, c2, rfl, ho2.mono hbr.size, hbr.trans (hb2.mono hbr.size)⟩

theorem minus_step {p : List Nat} {x y o k A B : Nat} (hx : x < 4294967296) (hy : y < 4294967296) (ho : o ≤ 1) (hp : p.length = k) (hA : num p + B = A + o * 4294967296 ^ k) :
    num (p ++ [(x + 4294967296 - y - o) % 4294967296]) + (B + 4294967296 ^ k * y) = (A + 4294967296 ^ k * x) + (1 - (x + 4294967296 - y - o) / 4294967296) * 4294967296 ^ (k + 1) := by
  rw [num_append, hp, Nat.pow_succ]
  simp only [num]
  have e1 : (x + 4294967296 - y - o) % 4294967296 + y + o = x + (1 - (x + 4294967296 - y - o) / 4294967296) * 4294967296 := by omega
  generalize (x + 4294967296 - y - o) % 4294967296 = r at *
  generalize 1 - (x + 4294967296 - y - o) / 4294967296 = q at *
  generalize 4294967296 ^ k = P at *
  have e5 : P * (r + y + o) = P * (x + q * 4294967296) := by rw [e1]
  grind

set_option maxHeartbeats 2000000 in
set_option maxRecDepth 10000 in
theorem rminus_any (a b : Option Addr) (c d : Nat) (l m : List Nat) (w : World) (hlen : l.length ≤ 17592186044416) (hlen2 : m.length ≤ 17592186044416) (hw : W32 l) (hr : Rd w a l) (hw2 : W32 m) (hr2 : Rd w b m) (hle : num m ≤ num l) :
    Calls Tryd.prog 66 #[.slice a l.length c, .slice b m.length d] w fun e w' => ∃ a' c', e = .returned (.slice a' (words (num l - num m)).length c') ∧ Own w' 64 w.heap.size a' c' (words (num l - num m)) ∧ Below w.heap.size w w' := by
  obtain ⟨i0, hi, hz0, hz1, hz2⟩ := info_parts infoW
  have HR := Lib.hid hr; clear hr
  have HR2 := Lib.hid hr2; clear hr2
  have HW := Lib.hid hw; clear hw
  have HW2 := Lib.hid hw2; clear hw2
  have HLE := Lib.hid hle; clear hle
  go_enter Tryd.func66, Tryd.ntmps66
  go_wp2
  go_loopw [5, 6, 7] (fun s o i wr => ∃ (k over : Nat) (a' : Option Addr) (c' : Nat) (p : List Nat), i = .int .i64 k ∧ o = .int .u64 over ∧ s = .slice a' k c' ∧ over ≤ 1 ∧ k ≤ l.length ∧ Hid (p.length = k ∧ W32 p ∧ num p + num (m.take k) = num (l.take k) + over * 4294967296 ^ k) ∧ Own wr 64 w.heap.size a' c' p ∧ Below w.heap.size w wr) (fun _ _ i _ => l.length - (intOf i).toNat)
  case atStart => exact ⟨0, 0, none, 0, [], rfl, rfl, rfl, by decide, Nat.zero_le _, ⟨rfl, W32.nil, by simp [num]⟩, Own.none _ _ _, Below.refl _ _⟩
  case round =>
    obtain ⟨k, over, a', c', p, rfl, rfl, rfl, ho1, hk, HP, ho, hbr⟩ := hrel
    have HO := Lib.hid ho; clear ho
    by_cases hgo : k < l.length
    · obtain ⟨x, hx⟩ : ∃ x, l.getD k 0 = x := ⟨_, rfl⟩
      obtain ⟨y, hy⟩ : ∃ y, m.getD k 0 = y := ⟨_, rfl⟩
      have hx4 : x < 4294967296 := by rw [← hx]; exact HW.out.getD k
      have hy4 : y < 4294967296 := by rw [← hy]; exact HW2.out.getD k
      have A1 := Lib.hid (rat_any a c l k x wr (by omega) (by omega) HW.out (HR.out.grow hbr) hx)
      have A2 := Lib.hid (rat_any b d m k y wr (by omega) (by omega) HW2.out (HR2.out.grow hbr) hy)
      have Hx := Lib.hid hx; have Hy := Lib.hid hy; clear hx hy
      have hsz := hbr.size
      have hB := blk_alloc wr 64 #[.int .u32 (((x : Int) + 4294967296 - (y : Int) - (over : Int)) % 4294967296)] [(x + 4294967296 - y - over) % 4294967296] (by simp; omega)
      have HB := Lib.hid hB; clear hB
      go_wp2_with fail
      refine A1.out.mono ?_; rintro e w' ⟨rfl, rfl⟩
      go_wp2_with fail
      refine A2.out.mono ?_; rintro e w' ⟨rfl, rfl⟩
      go_wp2_with (first | (at_builtin; refine wpList_append_words rfl _ _ 24 rfl 64 i0 Tryd.underlying24 hi hz0 hz1 hz2 w.heap.size a' (some ⟨wr.heap.size, 0, none⟩) k c' 1 1 p [(x + 4294967296 - y - over) % 4294967296] rfl rfl HP.out.1.symm rfl (HO.out.grow ((Below.refl _ _).alloc (Nat.le_refl _) _)) HB.out.rd (by intro h; cases h) (by omega) (by rw [World.size_alloc]; omega) ?_; intro a2 c2 w2 ho2 hg2 hn2))
      go_wp2
      obtain ⟨h4, h5, h6⟩ := HP.out
      go_roundw
      case rel =>
        refine ⟨k + 1, 1 - (x + 4294967296 - y - over) / 4294967296, a2, c2, p ++ [(x + 4294967296 - y - over) % 4294967296], by go_num, by congr 1; omega, rfl, by omega, by omega, ⟨by simp [h4], h5.append (W32.cons (Nat.mod_lt _ (by decide)) W32.nil), ?_⟩, ho2, ?_⟩
        · rw [getD_take_succ Hx.out, getD_take_succ Hy.out]; exact minus_step hx4 hy4 ho1 h4 h6
        · refine hbr.trans (((Below.refl _ _).alloc (by omega) _).trans ⟨hg2.os, hg2.tape, hg2.output, hg2.size, fun j hj => hg2.block j (by rw [World.size_alloc]; omega) ?_⟩)
          intro h
          rcases HO.out with ⟨h0, _⟩ | ⟨g, t, h0, h1, _⟩
          · rw [h0] at h; cases h
          · rw [h0] at h; simp at h; omega
      case measure => simp [intOf]; omega
    · obtain ⟨h4, h5, h6⟩ := HP.out
      have hkl : k = l.length := by omega
      have hN : num p = num l - num m := by
        have h7 := num_lt h5
        have h8 := HLE.out
        have h9 := num_take HW2.out k
        have h10 := num_lt HW.out
        rw [h4] at h7
        rw [hkl] at h6 h7 h9
        rw [Nat.mod_eq_of_lt (by omega)] at h9
        rw [h9, List.take_length] at h6
        rcases Nat.le_one_iff_eq_zero_or_eq_one.1 ho1 with rfl | rfl <;> omega
      have N1 := rnorm_any a' c' p wr (by omega) (HO.out.sl h5)
      rw [hN, h4] at N1
      have HN := Lib.hid N1; clear N1 hN h4 h5 h6 hkl
      go_wp2_with fail
      refine HN.out.mono ?_; rintro e w1 ⟨a2, c2, rfl, ho2, hb2⟩
      go_wp2
      go_ret
      exact ⟨a2, c2, rfl, ho2.mono hbr.size, hbr.trans (hb2.mono hbr.size)⟩
end Go.Proofs.YtmokomfneikipaaDoor
