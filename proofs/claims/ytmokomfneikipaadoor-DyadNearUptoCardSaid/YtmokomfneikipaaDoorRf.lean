/- Contracts of package steelyardref02: Lent, AsLent. No statement of the seat is proved here. -/
import Derived.Test.YtmokomfneikipaaDoorProg
import Derived.Test.YtmokomfneikipaaDoorRd
namespace Go.Proofs.YtmokomfneikipaaDoor
open Go.RowKit
set_option linter.unusedVariables false
set_option linter.unusedSimpArgs false

set_option maxHeartbeats 1000000 in
set_option maxRecDepth 10000 in
theorem lent_any (a : Option Addr) (c : Nat) (l : List Nat) (w : World) (hlen : l.length ≤ 35184372088832) (hr : Rd w a l) :
    Calls Tryd.prog 13 #[.slice a l.length c] w fun e w' => e = .returned (.slice (some ⟨w.heap.size, 0, none⟩) l.length (l.length + 2)) ∧ Blk w' 64 w.heap.size (l ++ [71, 72]) ∧ Below w.heap.size w w' := by
  obtain ⟨i0, hi, hz0, hz1, hz2⟩ := info_parts infoW
  have HR := Lib.hid hr; clear hr
  go_enter Tryd.func13, Tryd.ntmps13
  go_wp2_with (first
    | (at_make; refine wpList_make_blk _ rfl _ _ 24 rfl 64 i0 Tryd.underlying24 hi hz0 hz1 hz2 _ _ _ _ (l.length + 2) rfl rfl (by simp) (by simp) (by omega) ?_; intro w1 hk1 hb1 hs1)
    | (with_reducible refine wpList_copy_blk (o := ⟨some 10, _, _, _, _, _⟩) rfl _ _ 24 24 rfl 64 Tryd.underlying24 infoS w.heap.size (l.length + 2) (l.length + 2) l.length c a l (List.replicate (l.length + 2) 0) rfl rfl (by simp) rfl hk1 (HR.out.grow hb1) w.heap.size w hb1 (Nat.le_refl _) ?_; intro w2 hk2 hb2 hg2; have hk3 : Blk w2 64 w.heap.size (l ++ 0 :: [0]) := (by refine cast ?_ hk2; congr 1; simp [List.take_of_length_le]); have hc3 := hk3.midCell rfl; have hf3 := hk3.frozen l.length; have hf4 := hk3.frozen (l.length + 1); have hk4 := hk3.midPush (i := l.length) rfl 71 (v := 71) rfl; have hc4 : w2.cell? ⟨w.heap.size, l.length + 1, none⟩ = some (.int .u32 ((0 : Nat) : Int)) := (by have h := hk3; rw [show l ++ 0 :: [0] = (l ++ [0]) ++ 0 :: [] from by simp] at h; exact h.midCell (by simp)); have hk5 := Lib.hid (hk4.midSet (i := l.length + 1) (by simp) 72 (v := 72) rfl)))
  go_ret
  exact ⟨rfl, by have := hk5.out; simpa using this, (hb2.setCell (Nat.le_refl _) _).setCell (Nat.le_refl _) _⟩

set_option maxHeartbeats 1000000 in
set_option maxRecDepth 10000 in
theorem aslent_any (a : Option Addr) (c g : Nat) (l : List Nat) (w : World) (hlen : l.length ≤ 35184372088832) (hw : W32 l) (hr : Rd w a l) (hk : Blk w 64 g (l ++ [71, 72])) (hne : ∀ ad, a = some ad → l ≠ [] → ad.block ≠ g) :
    Calls Tryd.prog 15 #[.slice (some ⟨g, 0, none⟩) l.length (l.length + 2), .slice a l.length c] w fun e w' => e = .returned (.bool true) ∧ w.grownBy w' (some g) := by
  have hc1 : w.cell? ⟨g, l.length, none⟩ = some (.int .u32 ((71 : Nat) : Int)) := (show Blk w 64 g (l ++ 71 :: [72]) from hk).midCell rfl
  have hc2 : w.cell? ⟨g, l.length + 1, none⟩ = some (.int .u32 ((72 : Nat) : Int)) := by
    have h := hk; rw [show l ++ [71, 72] = (l ++ [71]) ++ 72 :: [] from by simp] at h; exact h.midCell (by simp)
  have HR := Lib.hid hr; clear hr
  have HW := Lib.hid hw; clear hw
  have HK := Lib.hid hk; clear hk
  have HNE := Lib.hid hne; clear hne
  have hneq : ((l.length : Int) != (l.length : Int)) = false := by simp
  go_enter Tryd.func15, Tryd.ntmps15
  go_wp2
  clear hc1 hc2
  go_loopw [6, 7] (fun gd i wr => ∃ k : Nat, k ≤ l.length + 2 ∧ i = .int .i64 k ∧ gd = .bool true ∧ Blk wr 64 g (List.replicate k 83 ++ (l ++ [71, 72]).drop k) ∧ w.grownBy wr (some g)) (fun _ i _ => l.length + 2 - (intOf i).toNat)
  case atStart => exact ⟨0, Nat.zero_le _, rfl, rfl, by simpa using HK.out, World.grownBy.refl _ _⟩
  case round =>
    obtain ⟨k, hk, rfl, rfl, hkr, hg⟩ := hrel
    by_cases hlt : k < l.length + 2
    · obtain ⟨x, hx⟩ : ∃ x, (l ++ [71, 72])[k]? = some x := ⟨_, List.getElem?_eq_getElem (by simp; omega)⟩
      rw [drop_eq_cons hx] at hkr
      have hc := hkr.midCell (i := k) (by simp)
      have hf := hkr.frozen k
      have hk2 := Lib.hid (fun nq => (show Blk (wr.drewN nq) 64 g _ from hkr).midPush (i := k) (by simp) 83 (v := 83) rfl)
      have HX := Lib.hid hx; clear hx
      have fin : ∀ nq, Blk ((wr.drewN nq).setCell ⟨g, k, none⟩ (.int .u32 83)) 64 g (List.replicate (k + 1) 83 ++ (l ++ [71, 72]).drop (k + 1)) ∧ w.grownBy ((wr.drewN nq).setCell ⟨g, k, none⟩ (.int .u32 83)) (some g) := by
        intro nq
        refine ⟨by have := hk2.out nq; rwa [← List.replicate_succ'] at this, hg.os, hg.tape, hg.output, by simpa using hg.size, fun j hj hne => ?_⟩
        rw [heap_setCell_other _ _ _ _ (by intro e; exact hne (by rw [e]))]
        exact hg.block j hj hne
      have FIN := Lib.hid fin; clear fin
      by_cases hl : k < l.length
      · have hxl : l[k]? = some x := by have := HX.out; rwa [List.getElem?_append_left hl] at this
        obtain ⟨b, off, ha, hcell⟩ := HR.out k x hxl
        subst ha
        have hcell2 : wr.cell? ⟨b, off + k, none⟩ = some (.int .u32 ((x : Nat) : Int)) := hg.cell hcell (by have := HNE.out ⟨b, off, none⟩ rfl (by intro e; subst e; simp at hl); simpa using this)
        have hd1 : decide ((l.length : Int) ≤ (k : Int)) = false := by simp; omega
        have hd2 : decide (l.length ≤ k) = false := by simp; omega
        clear hcell
        go_wp2_with fail
        go_quiet (fail)
        go_wp2
        go_roundw
        case rel => exact ⟨k + 1, by omega, by go_num, rfl, (FIN.out _).1, (FIN.out _).2⟩
        case measure => simp [intOf]; omega
      · have hd1 : decide ((l.length : Int) ≤ (k : Int)) = true := by simp; omega
        have hd2 : decide (l.length ≤ k) = true := by simp; omega
        go_wp2_with fail
        go_quiet (fail)
        go_wp2
        go_roundw
        case rel => exact ⟨k + 1, by omega, by go_num, rfl, (FIN.out _).1, (FIN.out _).2⟩
        case measure => simp [intOf]; omega
    · go_wp2
      go_ret
      exact ⟨rfl, hg⟩
end Go.Proofs.YtmokomfneikipaaDoor
