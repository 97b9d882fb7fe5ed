/- Contract of sums.Blocked; 'make' of values. No statement of the seat is proved here. -/
import Derived.Test.YthdbapibbdkclaaDoorProg
import Derived.Test.YthdbapibbdkclaaDoorFf
namespace Go.Proofs.YthdbapibbdkclaaDoor
open Go.RowKit
set_option linter.unusedVariables false
set_option linter.unusedSimpArgs false

/-- 'make([]T, n)', an element one cell: the walk goes on in a world of which this is known. -/
theorem wpList_make_vals {P : Program} (w : World) {ops : Array Oper} {rest : List Oper} {o : Oper} {a : Act} {Q : Exit → Act → World → Prop}
    (hg : o.guard = none) (l c : Operand) (t : TypeId) (hop : o.op = Op.makeSlice t l c)
    (e : TypeId) (i : TypeInfo) (z : Value) (h1 : P.underlying t = some (.slice e)) (h2 : P.info? e = some i) (h3 : i.zero = some z) (hz : z.cells = #[z]) (h4 : i.size = 1) (h5 : i.bytes ≤ 8)
    (kl kc : IntKind) (L C : Int) (n : Nat) (hl : a.eval l = .int kl L) (hc : a.eval c = .int kc C) (hL : L = (n : Int)) (hC : C = (n : Int)) (b2 : n ≤ 35184372088832)
    (hK : ∀ w', VBlk w' e w.heap.size (List.replicate n z) → Below w.heap.size w w' → w'.heap.size = w.heap.size + 1 → wpList P ops Q rest (a.put o.dst (.slice (some ⟨w.heap.size, 0, none⟩) n n)) w') :
    wpList P ops Q (o :: rest) a w := by
  refine wpList_plain hg fun K hK' => ?_
  have hb : (i.bytes : Int) * (n : Int) ≤ 281474976710656 := by
    have := Nat.mul_le_mul h5 b2
    omega
  have hr := run_make (P := P) w t e i z h1 h2 h3 kl kc n n (by omega) (Int.le_refl _) hb (by omega)
  simp only [Int.toNat_natCast, h4] at hr
  subst hL
  subst hC
  unfold Oper.wp
  simp [execOp, hop, hl, hc, hr, Result.andThen]
  refine hK' _ _ (hK _ ?_ ((Below.refl _ _).alloc (Nat.le_refl _) _) (by simp))
  unfold VBlk
  rw [heap_alloc_new]
  congr 2
  apply Array.toList_inj.1
  rw [hz, toList_madeCells_one]
theorem info_f64W : (Tryd.prog.info? 36).map (fun i => (i.zero, i.size, i.bytes)) = some (some (.float .f64 0), 1, 8) := by kernel_rfl
theorem info_f64 : ∃ i, Tryd.prog.info? 36 = some i ∧ i.zero = some (.float .f64 0) ∧ i.size = 1 ∧ i.bytes ≤ 8 := by
  have h := info_f64W
  cases hi : Tryd.prog.info? 36 with
  | none => rw [hi] at h; cases h
  | some i =>
    rw [hi] at h
    simp only [Option.map_some, Option.some.injEq, Prod.mk.injEq] at h
    exact ⟨i, rfl, h.1, h.2.1, by omega⟩
def fv (b : Nat) : Value := .float .f64 b

/-- a block's sum -/
def chC (l : List Nat) (size i : Nat) : Nat := runC ((l.drop (i * size)).take (min l.length ((i + 1) * size) - i * size))
def blkC (l : List Nat) (size : Nat) : Nat := runC ((List.range ((l.length + size - 1) / size)).map (chC l size))
def BlR (l : List Nat) (size : Int) (r : Nat) (er : Int) : Prop :=
  ((size < 1 ∨ 65536 < size) ∧ r = 0 ∧ er = 1) ∨ ((1 ≤ size ∧ size ≤ 65536) ∧ 65536 < l.length ∧ r = 0 ∧ er = 2) ∨ ((1 ≤ size ∧ size ≤ 65536) ∧ l.length ≤ 65536 ∧ r = blkC l size.toNat ∧ er = 0)
def BlQ (l : List Nat) (size : Int) (w : World) (en : Ending) (w' : World) : Prop := ∃ (r : Nat) (er : Int), en = .returned (.tuple #[.float .f64 r, .int .i64 er]) ∧ BlR l size r er ∧ Below w.heap.size w w'
theorem runC_lt {l : List Nat} (hw : W64L l) : runC l < 18446744073709551616 := by
  cases l with
  | nil => decide
  | cons x l =>
    unfold runC
    show l.foldl addC (canon x) < _
    rcases List.eq_nil_or_concat l with rfl | ⟨l', y, rfl⟩
    · exact canon_lt (hw x (List.mem_cons_self ..))
    · rw [List.concat_eq_append, List.foldl_append]; exact addC_lt _ _
/-- so many blocks are done -/
def blDone (f : Nat → Nat) (n k : Nat) : List Nat := (List.range n).map fun i => if i < k then f i else 0
theorem blDone_zero (f : Nat → Nat) (n : Nat) : blDone f n 0 = List.replicate n 0 := by
  unfold blDone
  apply List.ext_getElem?
  intro i
  by_cases hi : i < n
  · rw [List.getElem?_map, List.getElem?_range hi, List.getElem?_replicate, if_pos hi]; simp
  · rw [List.getElem?_eq_none (by simp; omega), List.getElem?_eq_none (by simp; omega)]
theorem blDone_all (f : Nat → Nat) (n : Nat) : blDone f n n = (List.range n).map f := by
  unfold blDone
  apply List.map_congr_left
  intro i hi
  rw [if_pos (List.mem_range.1 hi)]
theorem blDone_len (f : Nat → Nat) (n k : Nat) : (blDone f n k).length = n := by simp [blDone]
theorem blDone_get (f : Nat → Nat) {n k i : Nat} (hi : i < n) : (blDone f n k)[i]? = some (if i < k then f i else 0) := by
  unfold blDone; rw [List.getElem?_map, List.getElem?_range hi]; rfl
theorem blDone_set (f : Nat → Nat) {n k : Nat} (hk : k < n) : (blDone f n k).set k (f k) = blDone f n (k + 1) := by
  apply List.ext_getElem?
  intro i
  by_cases hi : i < n
  · rw [blDone_get f hi, List.getElem?_set]
    by_cases h : k = i
    · subst h; rw [if_pos rfl, if_pos (by rw [blDone_len]; exact hk), if_pos (by omega)]
    · rw [if_neg h, blDone_get f hi]
      congr 1
      by_cases h2 : i < k
      · rw [if_pos h2, if_pos (by omega)]
      · rw [if_neg h2, if_neg (by omega)]
  · rw [List.getElem?_eq_none (by simp [blDone_len]; omega), List.getElem?_eq_none (by rw [blDone_len]; omega)]
theorem VBlk.fsl {w : World} {e : TypeId} {g : Nat} {l : List Nat} (h : VBlk w e g (l.map fv)) (hw : W64L l) : FSl w (some ⟨g, 0, none⟩) l.length l :=
  ⟨fun i x hx => ⟨g, 0, rfl, by rw [Nat.zero_add]; exact h.cell (by rw [List.getElem?_map, hx]; rfl)⟩, hw, Nat.le_refl _, fun h => by cases h⟩
theorem run_storeF (b : Nat) (a : Addr) (m : Mode) (w : World) : (store a (.float .f64 b) m).run Tryd.prog w = stored Tryd.prog w a (.float .f64 b) m := run_store Tryd.prog w a _ m rfl

set_option maxRecDepth 10000 in
set_option maxHeartbeats 4000000 in
theorem blocked_any (a : Option Addr) (c : Nat) (l : List Nat) (size : Int) (w : World) (hl : FSl w a c l) :
    Calls Tryd.prog 47 #[.slice a l.length c, .int .i64 size] w (BlQ l size w) := by
  by_cases m1 : size < 1
  · go_enter Tryd.func47, Tryd.ntmps47
    go_wp2_with fail
    go_ret2
    exact ⟨0, 1, rfl, .inl ⟨.inl m1, rfl, rfl⟩, Below.refl _ _⟩
  by_cases m2 : 65536 < size
  · go_enter Tryd.func47, Tryd.ntmps47
    go_wp2_with fail
    go_ret2
    exact ⟨0, 1, rfl, .inl ⟨.inr m2, rfl, rfl⟩, Below.refl _ _⟩
  by_cases m3 : 65536 < l.length
  · go_enter Tryd.func47, Tryd.ntmps47
    go_wp2_with fail
    go_ret2
    exact ⟨0, 2, rfl, .inr (.inl ⟨by omega, m3, rfl, rfl⟩), Below.refl _ _⟩
  obtain ⟨s, rfl⟩ : ∃ s : Nat, size = (s : Int) := ⟨size.toNat, by omega⟩
  obtain ⟨n, hn⟩ : ∃ n, n = (l.length + s - 1) / s := ⟨_, rfl⟩
  obtain ⟨i0, hi, hz0, hz1, hz2⟩ := info_f64
  have s0 : s ≠ 0 := by omega
  have hnl : n ≤ 65536 + 65536 := by
    rw [hn]
    exact Nat.le_trans (Nat.div_le_self _ _) (by omega)
  have hdv : ((l.length : Int) + (s : Int) - 1) / (s : Int) = (n : Int) := by
    rw [show (l.length : Int) + (s : Int) - 1 = ((l.length + s - 1 : Nat) : Int) by omega, hn]; exact (Int.natCast_ediv _ _).symm
  have HN := Lib.hid hn
  have HWf := Lib.hid hl.wf
  have HL := Lib.hid (fun W (hw : Below w.heap.size w W) => hl.grow hw)
  have hs1 : 1 ≤ s := by omega
  have hs2 : s ≤ 65536 := by omega
  have hlen : l.length ≤ 65536 := by omega
  have hin : ∀ k, k < n → k * s < l.length := by
    intro k hk
    rw [hn] at hk
    have h1 := (Nat.le_div_iff_mul_le (show 0 < s by omega)).1 (Nat.succ_le_of_lt hk)
    rw [Nat.succ_mul] at h1
    omega
  have HIN := Lib.hid hin
  clear hn hl hin
  go_enter Tryd.func47, Tryd.ntmps47
  go_wp2_with (first | (at_make; refine wpList_make_vals _ rfl _ _ 33 rfl 36 i0 (.float .f64 0) Tryd.underlying33 hi hz0 rfl hz1 hz2 _ _ _ _ n rfl rfl hdv hdv (by omega) ?_; intro w1 hk1 hb1 hsz1))
  have HK1 : Hid (VBlk w1 36 w.heap.size ((blDone (chC l s) n 0).map fv)) := by
    rw [blDone_zero, List.map_replicate]; exact hk1
  have HB1 := Lib.hid hb1
  clear hk1 hb1 hsz1
  go_loopw [7, 27] (fun ii i wr => ∃ k : Nat, k ≤ n ∧ i = .int .i64 k ∧ Hid (VBlk wr 36 w.heap.size ((blDone (chC l s) n k).map fv) ∧ Below w.heap.size w wr)) (fun _ i _ => n - (intOf i).toNat)
  case atStart => exact ⟨0, Nat.zero_le _, rfl, HK1.out, HB1.out⟩
  case round =>
    obtain ⟨k, hk, rfl, hH⟩ := hrel
    by_cases hq : k < n
    · have hlo := HIN.out k hq
      obtain ⟨lo, hlo'⟩ : ∃ x, x = k * s := ⟨_, rfl⟩
      obtain ⟨hi', hhi⟩ : ∃ x, x = (k + 1) * s := ⟨_, rfl⟩
      obtain ⟨top, htop⟩ : ∃ x, x = min l.length hi' := ⟨_, rfl⟩
      have hle : hi' = lo + s := by rw [hhi, hlo', Nat.succ_mul]
      rw [← hlo'] at hlo
      have q1 : IntKind.i64.wrap ((k : Int) * (s : Int)) = (lo : Int) := by
        rw [show (k : Int) * (s : Int) = (lo : Int) by rw [hlo']; simp, IntKind.wrap_i64]; omega
      have q2 : IntKind.i64.wrap (((k : Int) + 1) * (s : Int)) = (hi' : Int) := by
        rw [show ((k : Int) + 1) * (s : Int) = (hi' : Int) by rw [hhi]; simp, IntKind.wrap_i64]; omega
      have q3 : ∀ ts tt W, (Builtin.min_ ts tt #[.int .i64 l.length, .int .i64 hi']).run Tryd.prog W = .ok (.int .i64 top) W := by
        intro ts tt W
        rw [htop, Nat.min_def]
        simp [Builtin.min_, Builtin.min2]
        split <;> split <;> first | rfl | omega
      have t1 : lo ≤ top := by omega
      have t2 : top ≤ l.length := by omega
      have hF := HL.out wr hH.out.2
      obtain ⟨b, off, rfl, hc0⟩ := hF.rd.at (i := 0) (by omega)
      obtain ⟨A, hA, hF2⟩ := hF.skip (k := lo) (by omega)
      have hcap := hF.cap
      rw [if_neg (by omega)] at hA
      cases hA
      have hF3 := hF2.take (top - lo)
      have hl3 : ((l.drop lo).take (top - lo)).length = top - lo := by simp; omega
      have hch : chC l s k = runC ((l.drop lo).take (top - lo)) := by unfold chC; rw [← hlo', ← hhi, ← htop]
      have hR := fun W (hw : Below wr.heap.size wr W) => running_any (some ⟨b, off + lo, none⟩) (c - lo) ((l.drop lo).take (top - lo)) W (hF3.grow hw) (by omega)
      rw [hl3, ← hch] at hR
      have hv := runC_lt hF3.wf
      rw [← hch] at hv
      have HR := Lib.hid (hR wr (Below.refl _ _))
      have HS := Lib.hid (blDone_set (chC l s) hq)
      have hcell := hH.out.1.cell (i := k) (x := fv 0) (by rw [List.getElem?_map, blDone_get _ hq, if_neg (Nat.lt_irrefl k)]; rfl)
      have hfr := hH.out.1.frozen k
      obtain ⟨v, hvv⟩ : ∃ v, v = chC l s k := ⟨_, rfl⟩
      rw [← hvv] at HR HS hv
      have hst := run_storeF v
      have t3 : top ≤ c := by omega
      have t4 : lo ≤ c := by omega
      have HH := Lib.hid hH.out
      unfold fv at hcell
      clear hlo' hhi htop hle hF hF2 hF3 hl3 hch hR hvv hc0 hH hcell hfr hv
      go_wp2_with fail
      refine HR.out.mono ?_; rintro en w3 ⟨rfl, hb⟩
      have hk3 : VBlk w3 36 w.heap.size ((blDone (chC l s) n k).map fv) := HH.out.1.grow hb
      have HB3 : Hid (Below w.heap.size w w3) := HH.out.2.trans (hb.mono HH.out.2.size)
      have HK3 := Lib.hid hk3
      have hcell := hk3.cell (i := k) (x := fv 0) (by rw [List.getElem?_map, blDone_get _ hq, if_neg (Nat.lt_irrefl k)]; rfl)
      have hfr := hk3.frozen k
      unfold fv at hcell
      clear hb hk3 HR
      go_wp2_with fail
      go_roundw
      case rel =>
        refine ⟨k + 1, by omega, by go_num, ?_, HB3.out.setCell (Nat.le_refl _) _⟩
        have := HK3.out.set k (fv v)
        rw [← List.map_set, HS.out] at this
        exact this
      case measure => simp [intOf]; omega
    · obtain rfl : n = k := by omega
      have hw : W64L (blDone (chC l s) n n) := by
        intro x hx
        rw [blDone_all] at hx
        obtain ⟨i, _, rfl⟩ := List.mem_map.1 hx
        exact runC_lt (fun y hy => HWf.out y (List.mem_of_mem_drop (List.mem_of_mem_take hy)))
      have hR := running_any (some ⟨w.heap.size, 0, none⟩) n (blDone (chC l s) n n) wr (by have := hH.out.1.fsl hw; rw [blDone_len] at this; exact this) (by rw [blDone_len]; omega)
      rw [blDone_len, blDone_all] at hR
      have HR := Lib.hid hR
      have HB := Lib.hid hH.out.2
      clear hR hw hH hq hk
      go_wp2_with fail
      refine HR.out.mono ?_; rintro en w3 ⟨rfl, hb⟩
      have HB3 : Hid (Below w.heap.size w w3) := HB.out.trans (hb.mono HB.out.size)
      clear hb
      go_wp2_with fail
      go_ret2
      refine ⟨_, 0, rfl, .inr (.inr ⟨by omega, hlen, ?_, rfl⟩), HB3.out⟩
      unfold blkC
      rw [Int.toNat_natCast, ← HN.out]
end Go.Proofs.YthdbapibbdkclaaDoor
