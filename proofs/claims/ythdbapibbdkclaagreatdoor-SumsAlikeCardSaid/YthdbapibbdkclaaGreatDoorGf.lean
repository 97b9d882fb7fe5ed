/- Contract of steelyardref10.Blocked. No statement of the seat is proved here. -/
import Derived.Test.YthdbapibbdkclaaGreatDoorProg
import Derived.Test.YthdbapibbdkclaaGreatDoorGe
namespace Go.Proofs.YthdbapibbdkclaaGreatDoor
open Go.RowKit
set_option maxRecDepth 10000
set_option linter.unusedVariables false
set_option linter.unusedSimpArgs false

theorem own_fsl {w : World} {e : TypeId} {base c : Nat} {a : Option Addr} {l : List Nat} (h : VOwn w e 1 base a c (l.map fv)) (hw : W64L l) : FSl w a c l :=
  ⟨fun i x hx => h.rd i (fv x) (by rw [List.getElem?_map, hx]; rfl), hw, by have := h.cap; simpa using this, h.nocap⟩
set_option maxRecDepth 10000 in
set_option maxHeartbeats 8000000 in
theorem rblocked_any (a0 : Option Addr) (c0 : Nat) (l : List Nat) (size : Int) (w : World) (hl : FSl w a0 c0 l) :
    Calls Tryz.prog 23 #[.slice a0 l.length c0, .int .i64 size] w (BlQ l size w) := by
  by_cases m1 : size < 1
  · go_enter Tryz.func23, Tryz.ntmps23
    go_wp2_with fail
    refine (bofz_any _).mono ?_; rintro en w1 ⟨rfl, rfl⟩
    go_wp2_with fail
    go_ret2
    exact ⟨0, 1, rfl, .inl ⟨.inl m1, rfl, rfl⟩, Below.refl _ _⟩
  by_cases m2 : 65536 < size
  · go_enter Tryz.func23, Tryz.ntmps23
    go_wp2_with fail
    refine (bofz_any _).mono ?_; rintro en w1 ⟨rfl, rfl⟩
    go_wp2_with fail
    go_ret2
    exact ⟨0, 1, rfl, .inl ⟨.inr m2, rfl, rfl⟩, Below.refl _ _⟩
  by_cases m3 : 65536 < l.length
  · go_enter Tryz.func23, Tryz.ntmps23
    go_wp2_with fail
    refine (bofz_any _).mono ?_; rintro en w1 ⟨rfl, rfl⟩
    go_wp2_with fail
    go_ret2
    exact ⟨0, 2, rfl, .inr (.inl ⟨by omega, m3, rfl, rfl⟩), Below.refl _ _⟩
  obtain ⟨s, rfl⟩ : ∃ s : Nat, size = (s : Int) := ⟨size.toNat, by omega⟩
  obtain ⟨n, hn⟩ : ∃ n, n = (l.length + s - 1) / s := ⟨_, rfl⟩
  obtain ⟨i0, hi0, hz0, hs0, hb0⟩ := info_f64
  have HI := Lib.hid (And.intro hi0 (And.intro hz0 (And.intro hs0 hb0)))
  have s0 : s ≠ 0 := by omega
  have HN := Lib.hid hn
  have HWf := Lib.hid hl.wf
  have HL := Lib.hid (fun W (hw : Below w.heap.size w W) => hl.grow hw)
  have hs1 : 1 ≤ s := by omega
  have hs2 : s ≤ 65536 := by omega
  have hlen : l.length ≤ 65536 := by omega
  have hin : ∀ k, k < n ↔ k * s < l.length := by
    intro k
    rw [hn]
    constructor
    · intro hk
      have h1 := (Nat.le_div_iff_mul_le (show 0 < s by omega)).1 (Nat.succ_le_of_lt hk)
      rw [Nat.succ_mul] at h1
      omega
    · intro hk
      refine (Nat.le_div_iff_mul_le (show 0 < s by omega)).2 ?_
      rw [Nat.succ_mul]
      omega
  have HIN := Lib.hid hin
  have hnl : n ≤ 65536 := by
    rcases Nat.lt_or_ge 65536 n with h | h
    · have := (hin 65536).1 h
      have := Nat.mul_le_mul_left 65536 hs1
      omega
    · exact h
  clear hn hl hin hi0 hz0 hs0 hb0
  go_enter Tryz.func23, Tryz.ntmps23
  go_wp2_with fail
  go_loopw [6, 7, 8] (fun ss i xx wr => ∃ (k at' : Nat) (a : Option Addr) (c : Nat), k ≤ n ∧ at' ≤ 131072 ∧ i = .int .i64 at' ∧ ss = .slice a k c ∧ Hid (at' = k * s ∧ VOwn wr 30 1 w.heap.size a c (((List.range k).map (chC l s)).map fv) ∧ Below w.heap.size w wr)) (fun _ i _ _ => 131072 - (intOf i).toNat)
  case atStart => exact ⟨0, 0, none, 0, Nat.zero_le _, by decide, rfl, rfl, by simp, VOwn.none _ _ _ _, Below.refl _ _⟩
  case round =>
    obtain ⟨k, lo, a, c, hk, hlo131, rfl, rfl, hH⟩ := hrel
    obtain ⟨hat, hO, hBw⟩ := hH.out
    by_cases hlo : lo < l.length
    · have hq : k < n := (HIN.out k).2 (by omega)
      obtain ⟨hi', hhi⟩ : ∃ x, x = (k + 1) * s := ⟨_, rfl⟩
      obtain ⟨top, htop⟩ : ∃ x, x = min l.length hi' := ⟨_, rfl⟩
      have hle : hi' = lo + s := by rw [hhi, hat, Nat.succ_mul]
      have q2 : IntKind.i64.wrap ((lo : Int) + (s : Int)) = (hi' : Int) := by
        rw [IntKind.wrap_i64]; omega
      have q3 : ∀ ts tt W, (Builtin.min_ ts tt #[.int .i64 hi', .int .i64 l.length]).run Tryz.prog W = .ok (.int .i64 top) W := by
        intro ts tt W
        rw [htop, Nat.min_def]
        simp [Builtin.min_, Builtin.min2]
        split <;> split <;> first | rfl | omega
      have t1 : lo ≤ top := by omega
      have t2 : top ≤ l.length := by omega
      have hF := HL.out wr hBw
      obtain ⟨b, off, rfl, hc0⟩ := hF.rd.at (i := 0) (by omega)
      obtain ⟨A, hA, hF2⟩ := hF.skip (k := lo) (by omega)
      have hcap := hF.cap
      rw [if_neg (by omega)] at hA
      cases hA
      have hF3 := hF2.take (top - lo)
      have hl3 : ((l.drop lo).take (top - lo)).length = top - lo := by simp; omega
      have hch : chC l s k = runC ((l.drop lo).take (top - lo)) := by unfold chC; rw [← hat, ← hhi, ← htop]
      have hR := rrunning_any (some ⟨b, off + lo, none⟩) (c0 - lo) ((l.drop lo).take (top - lo)) wr hF3 (by omega)
      rw [hl3, ← hch] at hR
      have hm : (List.range (k + 1)).map (chC l s) = (List.range k).map (chC l s) ++ [chC l s k] := by rw [List.range_succ, List.map_append]; rfl
      obtain ⟨v, hvv⟩ : ∃ v, v = chC l s k := ⟨_, rfl⟩
      rw [← hvv] at hR hm
      have HR := Lib.hid hR
      have t3 : top ≤ c0 := by omega
      have t4 : lo ≤ c0 := by omega
      have hi131 : hi' ≤ 131072 := by omega
      have hlohi : lo < hi' := by omega
      have HHi := Lib.hid hhi
      have HM := Lib.hid hm
      have HO := Lib.hid hO; have HBw := Lib.hid hBw
      clear hat hhi htop hle hF hF2 hF3 hl3 hch hR hvv hc0 hH hm hO hBw
      go_wp2_with fail
      refine HR.out.mono ?_; rintro en w3 ⟨rfl, hb⟩
      have HB3 : Hid (Below w.heap.size w w3) := HBw.out.trans (hb.mono HBw.out.size)
      have HO3 := Lib.hid (HO.out.grow hb)
      have HLen : Hid ((((List.range k).map (chC l s)).map fv).length = k * 1) := by simp [Hid]
      have HBk := Lib.hid (vblk_alloc w3 30 #[.float .f64 v])
      clear hb HR HO
      go_wp2_with (first | (at_builtin; refine wpList_append_vals rfl _ _ 49 49 rfl 30 30 i0 (.float .f64 0) 1 Tryz.underlying49 Tryz.underlying49 HI.out.1 HI.out.2.1 HI.out.2.2.1 rfl (by decide) (by have := HI.out.2.2.2; omega) w.heap.size a (some ⟨w3.heap.size, 0, none⟩) k c 1 1 (((List.range k).map (chC l s)).map fv) [fv v] rfl rfl HLen.out rfl (fv_ones [v]) (HO3.out.grow ((Below.refl _ _).alloc (Nat.le_refl _) _)) HBk.out.rd (by omega) (by have := HB3.out.size; rw [World.size_alloc]; omega) ?_; intro a5 c5 w5 ho5 hg5 hn5))
      have HB5 : Hid (Below w.heap.size w w5) := Rgrown (HB3.out.trans (((Below.refl _ _).alloc (Nat.le_refl _) _).mono HB3.out.size)) (Nat.le_refl _) hg5 HO3.out.row
      have HO5 : Hid (VOwn w5 30 1 w.heap.size a5 c5 (((List.range (k + 1)).map (chC l s)).map fv)) := by
        rw [HM.out, List.map_append]; exact ho5
      clear ho5 hg5 hn5 HBk HLen
      go_roundw
      case rel => exact ⟨k + 1, hi', a5, c5, by omega, hi131, rfl, rfl, HHi.out, HO5.out, HB5.out⟩
      case measure => simp [intOf]; omega
    · obtain rfl : n = k := by
        have : ¬ k < n := fun h => hlo (by have := (HIN.out k).1 h; omega)
        omega
      have hw : W64L ((List.range n).map (chC l s)) := by
        intro x hx
        obtain ⟨i, _, rfl⟩ := List.mem_map.1 hx
        exact runC_lt (fun y hy => HWf.out y (List.mem_of_mem_drop (List.mem_of_mem_take hy)))
      have hR := rrunning_any a c ((List.range n).map (chC l s)) wr (own_fsl hO hw) (by simp; omega)
      rw [show ((List.range n).map (chC l s)).length = n by simp] at hR
      have HR := Lib.hid hR
      have HB := Lib.hid hBw
      clear hR hw hH hO hBw hat hk
      go_wp2_with fail
      refine HR.out.mono ?_; rintro en w3 ⟨rfl, hb⟩
      have HB3 : Hid (Below w.heap.size w w3) := HB.out.trans (hb.mono HB.out.size)
      clear hb HR
      go_wp2_with fail
      go_ret2
      exact ⟨_, 0, rfl, .inr (.inr ⟨by omega, hlen, by unfold blkC; rw [Int.toNat_natCast, ← HN.out], rfl⟩), HB3.out⟩
end Go.Proofs.YthdbapibbdkclaaGreatDoor
