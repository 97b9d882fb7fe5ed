/- Laws for arrays that lie in a part of a block: loads, stores, an index of a value. Contracts of super's total: add, neg, minus, great. Contracts of super's total: great, move. No statement of the seat is proved here. -/
import Derived.Test.YteahdgbokjbgcaaGreatDoorProg
import Derived.Test.YteahdgbokjbgcaaGreatDoorYMK
import Derived.StillTailTactics
namespace Go.Proofs.YteahdgbokjbgcaaGreatDoor
open Go.RowKit
set_option linter.unusedVariables false
set_option linter.unusedSimpArgs false

theorem addr_add (g o j : Nat) : (⟨g, o, none⟩ : Addr).add j = ⟨g, o + j, none⟩ := by unfold Addr.add; split <;> simp_all
theorem run_loadVar_cells (w : World) (g o : Nat) (ty : TypeId) (cs : List Value) (d : TypeDesc) (hc : ∀ j v, cs[j]? = some v → w.cell? ⟨g, o + j, none⟩ = some v)
    (hu : Tryz.prog.underlying ty = some d) (hd : (match d with | .struct _ | .array _ _ => true | _ => false) = true) (hi : (Tryz.prog.info? ty).map (·.size) = some cs.length) :
    (loadVar ty ⟨g, o, none⟩).run Tryz.prog w = .ok (.agg cs.toArray) w := by
  have hl : (loadCells ⟨g, o, none⟩ cs.length).run Tryz.prog w = .ok cs.toArray w :=
    run_loadCells_list (P := Tryz.prog) w ⟨g, o, none⟩ cs (fun j v hv => by rw [addr_add]; exact hc j v hv)
  cases hq : Tryz.prog.info? ty with
  | none => simp [hq] at hi
  | some i =>
    have hs : i.size = cs.length := by simpa [hq] using hi
    have hagg : (isAgg ty).run Tryz.prog w = .ok true w := by
      unfold isAgg
      rw [Sem.run_bind, run_underlying hu w]
      cases d <;> simp_all
    simp [loadVar, Sem.run_bind, hagg, sizeOf, typeInfo, hq, hs, hl]
theorem wpList_load_cells {ops : Array Oper} {rest : List Oper} {o : Oper} {a : Act} {w : World} {Q : Exit → Act → World → Prop} (hgd : o.guard = none) (ty : TypeId) (x : Operand) (ho : o.op = .load ty x)
    (g off : Nat) (hx : a.eval x = .pointer (some ⟨g, off, none⟩)) (cs : List Value) (d : TypeDesc) (hc : ∀ j v, cs[j]? = some v → w.cell? ⟨g, off + j, none⟩ = some v)
    (hu : Tryz.prog.underlying ty = some d) (hd : (match d with | .struct _ | .array _ _ => true | _ => false) = true) (hi : (Tryz.prog.info? ty).map (·.size) = some cs.length)
    (h : wpList Tryz.prog ops Q rest (a.put o.dst (.agg cs.toArray)) w) : wpList Tryz.prog ops Q (o :: rest) a w :=
  wpList_plain hgd fun K hK => by
    unfold Oper.wp execOp
    simp only [ho, hx, Instr.loadAt, Instr.sureAddr, Sem.run_bind, Sem.run_pure, Result.andThen_ok, run_loadVar_cells w g off ty cs d hc hu hd hi]
    exact hK _ _ h
/-- cells of a block from a place on, laid anew -/
def World.laid (w : World) (g o : Nat) (vs : List Value) : World :=
  match w.heap[g]? with
  | some (.cells cur _ _) => w.setRow g (cur.toList.take o ++ vs ++ cur.toList.drop (o + vs.length)).toArray
  | _ => w
theorem wpList_store_cells {ops : Array Oper} {rest : List Oper} {o : Oper} {a : Act} {w : World} {Q : Exit → Act → World → Prop} (hgd : o.guard = none) (ty : TypeId) (x y : Operand) (ho : o.op = .store ty x y)
    (g off : Nat) (vs : List Value) (hx : a.eval x = .pointer (some ⟨g, off, none⟩)) (hy : a.eval y = .agg vs.toArray)
    (t : TypeId) (old : List Value) (hg : w.heap[g]? = some (.cells old.toArray t (0, 0))) (hi : (Tryz.prog.info? ty).map (·.size) = some vs.length)
    (hold : off + vs.length ≤ old.length) (h1 : ∀ v ∈ vs, v.oneCell' = true)
    (h : wpList Tryz.prog ops Q rest (a.put o.dst undef) (w.setRow g (old.take off ++ vs ++ old.drop (off + vs.length)).toArray)) : wpList Tryz.prog ops Q (o :: rest) a w :=
  wpList_plain hgd fun K hK => by
    have hst := run_storeCells_at (P := Tryz.prog) g off t vs 0 old.toArray w hg (by simpa using hold) h1
    simp only [Nat.add_zero] at hst
    cases hq : Tryz.prog.info? ty with
    | none => simp [hq] at hi
    | some i =>
      have hs : i.size = vs.length := by simpa [hq] using hi
      have hsv : (storeVar ty ⟨g, off, none⟩ (.agg vs.toArray)).run Tryz.prog w = .ok () (w.setRow g (old.take off ++ vs ++ old.drop (off + vs.length)).toArray) := by
        simp [storeVar, sizeOf, typeInfo, hq, Value.cells, hs, hst]
      unfold Oper.wp execOp
      simp only [ho, hx, hy, Instr.storeAt, Instr.sureAddr, Sem.run_bind, Sem.run_pure, Result.andThen_ok, hsv]
      exact hK _ _ h
theorem rowOf_one (f : Nat → Int) : ∀ v ∈ rowOf f, v.oneCell' = true := by
  intro v hv
  unfold rowOf at hv
  obtain ⟨j, _, rfl⟩ := List.mem_map.1 hv
  rfl
theorem heap_setRow (w : World) (g : Nat) (cs : Array Value) (k : Nat) : (w.setRow g cs).heap[k]? = if k = g then (w.heap[g]?).map (fun o => match o with | .cells _ e f => .cells cs e f | o => o) else w.heap[k]? := by
  unfold World.setRow
  simp only [Array.getElem?_modify]
  by_cases h : g = k
  · subst h; simp; rfl
  · rw [if_neg h, if_neg (fun e => h e.symm)]
section
variable {w : World} {g : Nat} {t : TypeId} {f h : Nat → Int} {rest : List Value}
theorem Tot.row (hT : Tot w g t f rest) : ∀ j v, (rowOf f)[j]? = some v → w.cell? ⟨g, 0 + j, none⟩ = some v := by
  intro j v hv
  have hj : j < 67 := by
    rcases Nat.lt_or_ge j 67 with h1 | h1
    · exact h1
    · rw [List.getElem?_eq_none (by rw [rowOf_len]; exact h1)] at hv; cases hv
  rw [Nat.zero_add, hT.cell hj]
  rw [rowOf_get _ hj] at hv
  exact hv
theorem Tot.laid (hT : Tot w g t f rest) : Tot (w.setRow g ((rowOf f ++ rest).take 0 ++ rowOf h ++ (rowOf f ++ rest).drop (0 + (rowOf h).length)).toArray) g t h rest := by
  unfold Tot at *
  rw [heap_setRow, if_pos rfl, hT, rowOf_len]
  simp only [Option.map_some, List.take_zero, List.nil_append, Nat.zero_add]
  rw [List.drop_append_of_le_length (by rw [rowOf_len]; exact Nat.le_refl _), List.drop_of_length_le (by rw [rowOf_len]; exact Nat.le_refl _), List.nil_append]
end
theorem grown_row (w : World) (g : Nat) (cs : Array Value) : w.grownBy (w.setRow g cs) (some g) :=
  ⟨rfl, rfl, rfl, by simp, fun j hj hr => by rw [heap_setRow, if_neg (by simpa using hr)]⟩
theorem tot_new (w : World) (t : TypeId) (f : Nat → Int) (rest : List Value) : Tot (w.alloc (.cells (rowOf f ++ rest).toArray t)) w.heap.size t f rest := heap_alloc_new _ _
theorem zero_row : (rowOf fun _ => 0) = List.replicate 67 (.int .u64 0) := by
  unfold rowOf
  apply List.ext_getElem?
  intro i
  by_cases hi : i < 67
  · rw [List.getElem?_map, List.getElem?_range hi, List.getElem?_replicate, if_pos hi]; rfl
  · rw [List.getElem?_eq_none (by simp; omega), List.getElem?_eq_none (by simp; omega)]
theorem run_index_row (f : Nat → Int) (w : World) {i : Nat} (hi : i < 67) : (Instr.index 122 (.agg (rowOf f).toArray) (.int .i64 (i : Int))).run Tryz.prog w = .ok (.int .u64 (f i)) w := by
  have hu := Tryz.underlying122
  unfold Instr.index
  simp only [asIntOf, Sem.run_bind, Sem.run_pure, Result.andThen_ok, run_underlying hu w]
  rw [if_pos ⟨by omega, by omega⟩]
  have hs : (sizeOf 80).run Tryz.prog w = .ok 1 w := by kernel_rfl
  have ha : (isAgg 80).run Tryz.prog w = .ok false w := by kernel_rfl
  simp only [hs, Sem.run_bind, Result.andThen_ok, part, ha, Nat.mul_one, Int.toNat_natCast]
  have : (rowOf f).toArray[i]? = some (.int .u64 (f i)) := by rw [List.getElem?_toArray]; exact rowOf_get f hi
  rw [this]
  rfl
end Go.Proofs.YteahdgbokjbgcaaGreatDoor
namespace Go.Proofs.YteahdgbokjbgcaaGreatDoor
open Go.RowKit
set_option linter.unusedVariables false
set_option linter.unusedSimpArgs false

theorem grown_refl (w : World) (r : Option Nat) : w.grownBy w r := ⟨rfl, rfl, rfl, Nat.le_refl _, fun _ _ _ => rfl⟩
theorem gr_drew {w w1 : World} {r : Option Nat} (h : w.grownBy w1 r) : w.grownBy w1.drew r := ⟨h.os, h.tape, h.output, h.size, h.block⟩
theorem grown_set' {w0 w : World} {g : Nat} (h : w0.grownBy w (some g)) (k : Nat) (v : Value) : w0.grownBy (w.setCell ⟨g, k, none⟩ v) (some g) :=
  ⟨h.os, h.tape, h.output, by simp; exact h.size, fun j hj hr => (heap_setCell_other _ _ _ _ (by simpa using hr)).trans (h.block j hj hr)⟩

theorem dz_add0 (T O : Int) (n : Nat) : dz (T + O) n = (dz T n + dz O n + cz T O 0 n) % W64 := by
  have := dz_add T O 0 n
  rw [Int.add_zero] at this
  exact this
/-- one word more is laid -/
theorem tot_step {wr : World} {g n : Nat} {t : TypeId} {rest : List Value} {f f' : Nat → Int} {v : Int} (h : Tot wr g t (fun j => if j < n then f' j else f j) rest) (hn : n < 67) (hv : v = f' n) :
    Tot (wr.setCell ⟨g, n, none⟩ (.int .u64 v)) g t (fun j => if j < n + 1 then f' j else f j) rest := by
  subst hv
  refine (h.set hn _).congr fun j hj => ?_
  by_cases h1 : j = n
  · rw [if_pos h1, if_pos (by omega), h1]
  · rw [if_neg h1]
    by_cases h2 : j < n
    · rw [if_pos h2, if_pos (by omega)]
    · rw [if_neg h2, if_neg (by omega)]

set_option maxRecDepth 10000 in
set_option maxHeartbeats 4000000 in
theorem tadd_any (T O : Int) (g k : Nat) (t t' : TypeId) (rest rest' : List Value) (w : World) (hne : k ≠ g) (hT : Tot w g t (dz T) rest) (hO : Tot w k t' (dz O) rest') :
    Calls Tryz.prog 215 #[.pointer (some ⟨g, 0, none⟩), .pointer (some ⟨k, 0, none⟩)] w fun en w' => en = .returned (.tuple #[]) ∧ Tot w' g t (dz (T + O)) rest ∧ w.grownBy w' (some g) := by
  have HT := Lib.hid hT; have HO := Lib.hid hO; clear hT hO
  go_enter Tryz.func215, Tryz.ntmps215
  go_wp2_with fail
  go_loopw [4, 6] (fun c i wr => ∃ n : Nat, n ≤ 67 ∧ i = .int .i64 n ∧ c = .int .u64 (cz T O 0 n) ∧ Hid (Tot wr g t (fun j => if j < n then dz (T + O) j else dz T j) rest ∧ w.grownBy wr (some g))) (fun _ i _ => 67 - (intOf i).toNat)
  case atStart => exact ⟨0, by omega, rfl, by rw [cz_zero], ⟨HT.out.congr fun j hj => by simp, grown_refl _ _⟩⟩
  case round =>
    obtain ⟨n, hn, rfl, rfl, hH⟩ := hrel
    by_cases hlt : n < 67
    · have c1 := hH.out.1.cell hlt
      rw [if_neg (Nat.lt_irrefl n)] at c1
      have c2 := (HO.out.grown hH.out.2 hne).cell hlt
      have f1 := hH.out.1.frozen n
      have b1 := dz_ge T n
      have b2 := dz_lt T n
      have b3 := dz_ge O n
      have b4 := dz_lt O n
      obtain ⟨b5, b6⟩ := cz_bd (a := T) (b := O) (c := 0) (by decide) (by decide) n
      unfold W64 at b2 b4
      have hA : ∀ W, (callFunc 265 #[.int .u64 (dz T n), .int .u64 (dz O n), .int .u64 (cz T O 0 n)]).run Tryz.prog W = .ok (.value (.tuple #[.int .u64 (dz (T + O) n), .int .u64 (cz T O 0 (n + 1))])) W := by
        intro W
        rw [dz_add0, cz_succ]
        exact ext_add64 _ _ _ b1 b2 b3 b4 b5 b6 W
      have HR := Lib.hid (show Tot (wr.setCell ⟨g, n, none⟩ (.int .u64 (dz (T + O) n))).drew g t (fun j => if j < n + 1 then dz (T + O) j else dz T j) rest ∧ w.grownBy (wr.setCell ⟨g, n, none⟩ (.int .u64 (dz (T + O) n))).drew (some g) from
        ⟨(tot_step hH.out.1 hlt rfl).drew, gr_drew (grown_set' hH.out.2 _ _)⟩)
      clear hH b1 b2 b3 b4 b5 b6
      go_wp2_with fail
      go_region
      go_wp2_with fail
      go_roundw
      case rel => exact ⟨n + 1, by omega, by go_num, rfl, HR.out⟩
      case measure => simp [intOf]; omega
    · obtain rfl : n = 67 := by omega
      have HR := Lib.hid (show Tot wr g t (dz (T + O)) rest from hH.out.1.congr fun j hj => if_pos hj)
      have HG := Lib.hid hH.out.2
      clear hH
      go_wp2_with fail
      go_end0
      exact ⟨rfl, HR.out, HG.out⟩

set_option maxRecDepth 10000 in
set_option maxHeartbeats 2000000 in
theorem tneg_any (T : Int) (g : Nat) (t : TypeId) (rest : List Value) (w : World) (hf : Fits T) (hT : Tot w g t (dz T) rest) :
    Calls Tryz.prog 218 #[.pointer (some ⟨g, 0, none⟩)] w fun en w' => en = .returned (.bool (decide (T < 0))) ∧ w = w' := by
  have c1 := hT.cell (show 66 < 67 by decide)
  have b1 := dz_ge T 66
  have b2 := dz_lt T 66
  unfold W64 at b2
  have b3 := fits_neg hf
  have hd : decide (dz T 66 / 9223372036854775808 = 1) = decide (T < 0) := by
    rw [b3]; by_cases h : T < 0 <;> simp [h]
  have HD := Lib.hid hd
  clear hd b3 hf hT
  go_enter Tryz.func218, Tryz.ntmps218
  go_wp2_with fail
  go_ret
  exact ⟨congrArg (fun b => Ending.returned (Value.bool b)) HD.out, rfl⟩

set_option maxRecDepth 10000 in
set_option maxHeartbeats 4000000 in
theorem tminus_any (T : Int) (g : Nat) (t : TypeId) (rest : List Value) (w : World) (hT : Tot w g t (dz T) rest) :
    Calls Tryz.prog 274 #[.pointer (some ⟨g, 0, none⟩)] w fun en w' => en = .returned (.tuple #[]) ∧ Tot w' g t (dz (-T)) rest ∧ w.grownBy w' (some g) := by
  have HT := Lib.hid hT; clear hT
  have e0 : -T - 1 + 0 + 1 = -T := by omega
  go_enter Tryz.func274, Tryz.ntmps274
  go_wp2_with fail
  go_loopw [2, 4] (fun c i wr => ∃ n : Nat, n ≤ 67 ∧ i = .int .i64 n ∧ c = .int .u64 (cz (-T - 1) 0 1 n) ∧ Hid (Tot wr g t (fun j => if j < n then dz (-T) j else dz T j) rest ∧ w.grownBy wr (some g))) (fun _ i _ => 67 - (intOf i).toNat)
  case atStart => exact ⟨0, by omega, rfl, by rw [cz_zero], ⟨HT.out.congr fun j hj => by simp, grown_refl _ _⟩⟩
  case round =>
    obtain ⟨n, hn, rfl, rfl, hH⟩ := hrel
    by_cases hlt : n < 67
    · have c1 := hH.out.1.cell hlt
      rw [if_neg (Nat.lt_irrefl n)] at c1
      have f1 := hH.out.1.frozen n
      have b1 := dz_ge (-T - 1) n
      have b2 := dz_lt (-T - 1) n
      obtain ⟨b5, b6⟩ := cz_bd (a := -T - 1) (b := 0) (c := 1) (by decide) (by decide) n
      have b3 := dz_not T n
      unfold W64 at b2 b3
      have hA : ∀ W, (callFunc 265 #[.int .u64 (18446744073709551615 - dz T n), .int .u64 0, .int .u64 (cz (-T - 1) 0 1 n)]).run Tryz.prog W = .ok (.value (.tuple #[.int .u64 (dz (-T) n), .int .u64 (cz (-T - 1) 0 1 (n + 1))])) W := by
        intro W
        have h1 := dz_add (-T - 1) 0 1 n
        rw [e0] at h1
        rw [h1, cz_succ, dz_zero, show 18446744073709551615 - dz T n = dz (-T - 1) n by omega]
        exact ext_add64 _ _ _ b1 b2 (by decide) (by decide) b5 b6 W
      have b7 := dz_ge T n
      have b8 := dz_lt T n
      unfold W64 at b8
      have hs : IntKind.u64.signed = false := rfl
      have hm : IntKind.u64.max = 18446744073709551615 := rfl
      have hN := u64_not_int (dz T n) b7 b8
      have HR := Lib.hid (show Tot (wr.setCell ⟨g, n, none⟩ (.int .u64 (dz (-T) n))).drew g t (fun j => if j < n + 1 then dz (-T) j else dz T j) rest ∧ w.grownBy (wr.setCell ⟨g, n, none⟩ (.int .u64 (dz (-T) n))).drew (some g) from
        ⟨(tot_step hH.out.1 hlt rfl).drew, gr_drew (grown_set' hH.out.2 _ _)⟩)
      clear hH b1 b2 b3 b5 b6 b7 b8 e0
      go_wp2_with fail
      go_region
      go_wp2_with fail
      go_roundw
      case rel => exact ⟨n + 1, by omega, by go_num, rfl, HR.out⟩
      case measure => simp [intOf]; omega
    · obtain rfl : n = 67 := by omega
      have HR := Lib.hid (show Tot wr g t (dz (-T)) rest from hH.out.1.congr fun j hj => if_pos hj)
      have HG := Lib.hid hH.out.2
      clear hH
      go_wp2_with fail
      go_end0
      exact ⟨rfl, HR.out, HG.out⟩
end Go.Proofs.YteahdgbokjbgcaaGreatDoor
namespace Go.Proofs.YteahdgbokjbgcaaGreatDoor
open Go.RowKit
set_option linter.unusedVariables false
set_option linter.unusedSimpArgs false

def SaysB (P : Prop) (w : World) (en : Ending) (w' : World) : Prop := ∃ b : Bool, en = .returned (.bool b) ∧ (b = true ↔ P) ∧ w = w'

set_option maxRecDepth 10000 in
set_option maxHeartbeats 4000000 in
theorem tgreat_any (T : Int) (g : Nat) (t : TypeId) (rest : List Value) (w : World) (hf : Fits T) (hT : Tot w g t (dz T) rest) :
    Calls Tryz.prog 216 #[.pointer (some ⟨g, 0, none⟩)] w (SaysB (Gt T) w) := by
  have c1 := hT.cell (show 66 < 67 by decide)
  have b1 := dz_ge T 66
  have b2 := dz_lt T 66
  have b3 := fits_high hf
  have hg := gt_iff T
  have hz := dz_all_zero (T := T) (n := 66)
  have hd : dz T 66 = T / W64 ^ 66 % 18446744073709551616 := rfl
  have HT := Lib.hid hT
  clear hT
  unfold W64 at b2
  obtain ⟨hf1, hf2⟩ := hf
  rw [← hz] at hg
  clear hz
  generalize dz T 66 = d at *
  generalize T / W64 ^ 66 = q at *
  have hwr : IntKind.i64.wrap d = q := by rw [IntKind.wrap_i64]; split at b3 <;> omega
  clear b3
  have HG := Lib.hid hg; have HD := Lib.hid hd
  clear hg hd
  by_cases h1 : q / 16384 = -1
  · have e1 : (q / 16384 != -1) = false := by simp [h1]
    by_cases h2 : d * 1125899906842624 % 18446744073709551616 = 0
    · have H3 : Hid (q % 16384 = 0) := by have := HD.out; show q % 16384 = 0; omega
      have H1 := Lib.hid h1
      have e2 : (IntKind.u64.wrap (d * 1125899906842624) != 0) = false := by rw [IntKind.wrap_u64]; simp [h2]
      clear h1 h2
      go_enter Tryz.func216, Tryz.ntmps216
      go_wp2_with fail
      go_loop [38] (fun i => ∃ n : Nat, n ≤ 66 ∧ i = .int .i64 n ∧ Hid (∀ j, j < n → dz T j = 0)) (fun i => 66 - (intOf i).toNat)
      case atStart => exact ⟨0, by omega, rfl, fun j hj => by omega⟩
      case round =>
        obtain ⟨n, hn, rfl, hZ⟩ := hrel
        by_cases hlt : n < 66
        · have c2 := HT.out.cell (show n < 67 by omega)
          by_cases h4 : dz T n = 0
          · have HZ : Hid (∀ j, j < n + 1 → dz T j = 0) := fun j hj => by
              rcases Nat.lt_or_eq_of_le (Nat.le_of_lt_succ hj) with h5 | rfl
              · exact hZ.out j h5
              · exact h4
            have e3 : (dz T n != 0) = false := by simp [h4]
            clear h4 hZ
            go_wp2_with fail
            go_round
            case rel => exact ⟨n + 1, by omega, by go_num, HZ⟩
            case measure => simp [intOf]; omega
          · have e3 : (dz T n != 0) = true := by simpa using h4
            have H4 := Lib.hid h4
            clear h4 hZ
            go_wp2_with fail
            go_ret
            refine ⟨false, rfl, ⟨fun h => by simp at h, fun h => ?_⟩, rfl⟩
            exfalso
            rcases HG.out.1 h with ⟨h5, _⟩ | ⟨_, _, h5⟩
            · exact h5 H1.out
            · exact H4.out (h5 n hlt)
        · obtain rfl : n = 66 := by omega
          go_wp2_with fail
          go_ret
          exact ⟨true, rfl, ⟨fun _ => HG.out.2 (.inr ⟨H1.out, H3.out, hZ.out⟩), fun _ => rfl⟩, rfl⟩
    · have H3 : Hid (q % 16384 ≠ 0) := by have := HD.out; show q % 16384 ≠ 0; omega
      have H1 := Lib.hid h1
      have e2 : (IntKind.u64.wrap (d * 1125899906842624) != 0) = true := by rw [IntKind.wrap_u64]; simpa using h2
      clear h1 h2
      go_enter Tryz.func216, Tryz.ntmps216
      go_wp2_with fail
      go_ret
      refine ⟨false, rfl, ⟨fun h => by simp at h, fun h => ?_⟩, rfl⟩
      exfalso
      rcases HG.out.1 h with ⟨h5, _⟩ | ⟨_, h5, _⟩
      · exact h5 H1.out
      · exact H3.out h5
  · have e1 : (q / 16384 != -1) = true := by simpa using h1
    have H1 := Lib.hid h1
    clear h1
    go_enter Tryz.func216, Tryz.ntmps216
    go_wp2_with fail
    go_ret
    refine ⟨q / 16384 != 0, rfl, ?_, rfl⟩
    rw [HG.out]
    constructor
    · intro h; exact .inl ⟨H1.out, by simpa using h⟩
    · rintro (⟨_, h5⟩ | ⟨h5, _⟩)
      · simpa using h5
      · exact absurd h5 H1.out
/-- a term in memory -/
def TmAt (w : World) (B : Nat) (neg : Bool) (V : Int) (p : Nat) : Prop := w.heap[B]? = some (.cells #[.bool neg, .int .i64 (p : Int), .int .u64 (dz V 0), .int .u64 (dz V 1), .int .u64 (dz V 2)] 215 (0, 0))
theorem TmAt.cells {w : World} {B : Nat} {neg : Bool} {V : Int} {p : Nat} (h : TmAt w B neg V p) :
    w.cell? ⟨B, 0, none⟩ = some (.bool neg) ∧ w.cell? ⟨B, 1, none⟩ = some (.int .i64 (p : Int)) ∧ w.cell? ⟨B, 2, none⟩ = some (.int .u64 (dz V 0)) ∧ w.cell? ⟨B, 3, none⟩ = some (.int .u64 (dz V 1)) ∧ w.cell? ⟨B, 4, none⟩ = some (.int .u64 (dz V 2)) :=
  ⟨by rw [cell_of_row w B 0 _ _ _ h]; rfl, by rw [cell_of_row w B 1 _ _ _ h]; rfl, by rw [cell_of_row w B 2 _ _ _ h]; rfl, by rw [cell_of_row w B 3 _ _ _ h]; rfl, by rw [cell_of_row w B 4 _ _ _ h]; rfl⟩
theorem TmAt.grown {w w' : World} {B : Nat} {neg : Bool} {V : Int} {p g : Nat} (h : TmAt w B neg V p) (hk : w.grownBy w' (some g)) (hne : B ≠ g) : TmAt w' B neg V p :=
  (hk.block B (Array.getElem?_eq_some_iff.1 h).1 (by simpa using hne)).trans h
theorem gr_trans {w w1 w2 : World} {r : Option Nat} (h : w.grownBy w1 r) (k : w1.grownBy w2 r) : w.grownBy w2 r :=
  ⟨k.os.trans h.os, k.tape.trans h.tape, k.output.trans h.output, Nat.le_trans h.size k.size, fun j hj hr => (k.block j (Nat.lt_of_lt_of_le hj h.size) hr).trans (h.block j hj hr)⟩
theorem gr_below {w w1 : World} {r : Option Nat} (h : Below w.heap.size w w1) : w.grownBy w1 r := ⟨h.os, h.tape, h.output, h.size, fun j hj _ => h.block j hj⟩
theorem placed_at (V : Int) {p n k : Nat} (h : n = p + k) : dz (placed V p) n = dz V k := by rw [h]; exact placed_dz V p k
theorem placed_high {V : Int} (h0 : 0 ≤ V) (h1 : V < W64 ^ 3) {p n : Nat} (h : p + 3 ≤ n) : dz (placed V p) n = 0 := by
  obtain ⟨k, rfl⟩ : ∃ k, n = p + k := ⟨n - p, by omega⟩
  rw [placed_dz]; exact dz_high h0 h1 (by omega)
theorem dz_stays_add0 {a b : Int} {i j : Nat} (hc : cz a b 0 i = 0) (hb : ∀ j, i ≤ j → dz b j = 0) (hj : i ≤ j) : dz (a + b) j = dz a j := by
  have := dz_stays_add hc hb hj
  rw [Int.add_zero] at this
  exact this
theorem dz_low_add0 {a b : Int} {p i : Nat} (h : b % W64 ^ p = 0) (hi : i < p) : dz (a + b) i = dz a i := by
  have := (dz_low_add (a := a) h hi).1
  rw [Int.add_zero] at this
  exact this

set_option maxRecDepth 10000 in
set_option maxHeartbeats 8000000 in
theorem tmove_add (T V : Int) (p g : Nat) (t : TypeId) (rest : List Value) (neg less : Bool) (w : World) (hm : (neg != less) = false) (h0 : 0 ≤ V) (h1 : V < W64 ^ 3) (hp : p + 3 ≤ 67) (hT : Tot w g t (dz T) rest) :
    Calls Tryz.prog 309 #[.pointer (some ⟨g, 0, none⟩), .agg #[.bool neg, .int .i64 (p : Int), .int .u64 (dz V 0), .int .u64 (dz V 1), .int .u64 (dz V 2)], .bool less] w fun en w' => en = .returned (.tuple #[]) ∧ Tot w' g t (dz (T + placed V p)) rest ∧ w.grownBy w' (some g) := by
  have hm2 : (!neg == less) = false := by rw [← hm]; cases neg <;> cases less <;> rfl
  clear hm
  have hgl := hT.lt
  have hTm : TmAt (w.alloc (.cells #[.bool neg, .int .i64 (p : Int), .int .u64 (dz V 0), .int .u64 (dz V 1), .int .u64 (dz V 2)] 215)) w.heap.size neg V p := heap_alloc_new _ _
  have hG : w.grownBy (w.alloc (.cells #[.bool neg, .int .i64 (p : Int), .int .u64 (dz V 0), .int .u64 (dz V 1), .int .u64 (dz V 2)] 215)) (some g) := gr_below ((Below.refl _ _).alloc (Nat.le_refl _) _)
  have HT := Lib.hid (hT.alloc (.cells #[.bool neg, .int .i64 (p : Int), .int .u64 (dz V 0), .int .u64 (dz V 1), .int .u64 (dz V 2)] 215)); have HTm := Lib.hid hTm; have HG := Lib.hid hG
  have H0 := Lib.hid h0; have H1 := Lib.hid h1
  obtain ⟨k0, k1, k2, k3, k4⟩ := hTm.cells
  clear hT hTm hG h0 h1
  go_enter Tryz.func309, Tryz.ntmps309
  go_wp2_with fail
  obtain ⟨w1, hw1⟩ : ∃ W, W = w.alloc (.cells #[.bool neg, .int .i64 (p : Int), .int .u64 (dz V 0), .int .u64 (dz V 1), .int .u64 (dz V 2)] 215) := ⟨_, rfl⟩
  rw [← hw1] at HT HTm HG ⊢
  clear hw1 k0 k1 k2 k3 k4
  go_loopw [6, 7] (fun c i wr => ∃ n : Nat, p ≤ n ∧ n ≤ 67 ∧ i = .int .i64 n ∧ c = .int .u64 (cz T (placed V p) 0 n) ∧ Hid (Tot wr g t (fun j => if j < n then dz (T + placed V p) j else dz T j) rest ∧ w1.grownBy wr (some g))) (fun _ i _ => 67 - (intOf i).toNat)
  case atStart => exact ⟨p, Nat.le_refl _, by omega, rfl, by rw [cz_low (placed_low V (Nat.le_refl _))], ⟨HT.out.congr fun j hj => by
      split
      · next h => exact (dz_low_add0 (placed_low V (Nat.le_refl _)) h).symm
      · rfl, grown_refl _ _⟩⟩
  case round =>
    obtain ⟨n, hn0, hn, rfl, rfl, hH⟩ := hrel
    obtain ⟨k0, k1, k2, k3, k4⟩ := (HTm.out.grown hH.out.2 (by omega)).cells
    obtain ⟨c5, c6⟩ := cz_bd (a := T) (b := placed V p) (c := 0) (by decide) (by decide) n
    have hend : n = 67 ∨ p + 3 ≤ n ∧ cz T (placed V p) 0 n = 0 → Tot wr g t (dz (T + placed V p)) rest := by
      rintro (rfl | ⟨h5, h6⟩)
      · exact hH.out.1.congr fun j hj => if_pos hj
      · refine hH.out.1.congr fun j hj => ?_
        split
        · rfl
        · exact (dz_stays_add0 h6 (fun i hi => placed_high H0.out H1.out (by omega)) (by omega)).symm
    have HE := Lib.hid hend; clear hend
    by_cases hlt : n < 67
    · have c1 := hH.out.1.cell hlt
      rw [if_neg (Nat.lt_irrefl n)] at c1
      have f1 := hH.out.1.frozen n
      have b1 := dz_ge T n
      have b2 := dz_lt T n
      unfold W64 at b2
      have hA : ∀ x : Int, x = dz (placed V p) n → ∀ W, (callFunc 265 #[.int .u64 (dz T n), .int .u64 x, .int .u64 (cz T (placed V p) 0 n)]).run Tryz.prog W = .ok (.value (.tuple #[.int .u64 (dz (T + placed V p) n), .int .u64 (cz T (placed V p) 0 (n + 1))])) W := by
        rintro x rfl W
        have b3 := dz_ge (placed V p) n
        have b4 := dz_lt (placed V p) n
        unfold W64 at b4
        rw [dz_add0, cz_succ]
        exact ext_add64 _ _ _ b1 b2 b3 b4 c5 c6 W
      have HA := Lib.hid hA
      have HR := Lib.hid (show Tot (wr.setCell ⟨g, n, none⟩ (.int .u64 (dz (T + placed V p) n))).drew g t (fun j => if j < n + 1 then dz (T + placed V p) j else dz T j) rest ∧ w1.grownBy (wr.setCell ⟨g, n, none⟩ (.int .u64 (dz (T + placed V p) n))).drew (some g) from
        ⟨(tot_step hH.out.1 hlt rfl).drew, gr_drew (grown_set' hH.out.2 _ _)⟩)
      have HGr := Lib.hid hH.out.2
      have HC0 := Lib.hid (show cz T (placed V p) 0 n = 0 ∨ cz T (placed V p) 0 n = 1 by omega)
      have hks : n = p ∨ n = p + 1 ∨ n = p + 2 ∨ p + 3 ≤ n := by omega
      clear hA hH b1 b2
      rcases hks with h | h | h | h
      · have e0 : (n : Int) - (p : Int) = 0 := by omega
        have a1 := HA.out _ (placed_at V (k := 0) (by omega)).symm
        have i1 : n < p + 3 := by omega
        clear h
        go_wp2_with fail
        go_region
        go_wp2_with fail
        go_roundw
        case rel => exact ⟨n + 1, by omega, by omega, by go_num, rfl, HR.out⟩
        case measure => simp [intOf]; omega
      · have e0 : (n : Int) - (p : Int) = 1 := by omega
        have a1 := HA.out _ (placed_at V (k := 1) (by omega)).symm
        have i1 : n < p + 3 := by omega
        clear h
        go_wp2_with fail
        go_region
        go_wp2_with fail
        go_roundw
        case rel => exact ⟨n + 1, by omega, by omega, by go_num, rfl, HR.out⟩
        case measure => simp [intOf]; omega
      · have e0 : (n : Int) - (p : Int) = 2 := by omega
        have a1 := HA.out _ (placed_at V (k := 2) (by omega)).symm
        have i1 : n < p + 3 := by omega
        clear h
        go_wp2_with fail
        go_region
        go_wp2_with fail
        go_roundw
        case rel => exact ⟨n + 1, by omega, by omega, by go_num, rfl, HR.out⟩
        case measure => simp [intOf]; omega
      · rcases HC0.out with hc | hc
        · have HF := Lib.hid (HE.out (.inr ⟨h, hc⟩))
          have e9 : decide (0 < cz T (placed V p) 0 n) = false := by rw [hc]; rfl
          clear hc
          go_wp2_with fail
          go_end0
          exact ⟨rfl, HF.out, gr_trans HG.out HGr.out⟩
        · have e9 : decide (0 < cz T (placed V p) 0 n) = true := by rw [hc]; rfl
          have a1 := HA.out _ (placed_high H0.out H1.out h).symm
          clear hc
          go_wp2_with fail
          go_region
          go_wp2_with fail
          go_roundw
          case rel => exact ⟨n + 1, by omega, by omega, by go_num, rfl, HR.out⟩
          case measure => simp [intOf]; omega
    · have h9 : n = 67 := by omega
      have HF := Lib.hid (HE.out (.inl h9)); have HGr := Lib.hid hH.out.2
      clear hH h9
      go_wp2_with fail
      go_end0
      exact ⟨rfl, HF.out, gr_trans HG.out HGr.out⟩

set_option maxRecDepth 10000 in
set_option maxHeartbeats 8000000 in
theorem tmove_sub (T V : Int) (p g : Nat) (t : TypeId) (rest : List Value) (neg less : Bool) (w : World) (hm : (neg != less) = true) (h0 : 0 ≤ V) (h1 : V < W64 ^ 3) (hp : p + 3 ≤ 67) (hT : Tot w g t (dz T) rest) :
    Calls Tryz.prog 309 #[.pointer (some ⟨g, 0, none⟩), .agg #[.bool neg, .int .i64 (p : Int), .int .u64 (dz V 0), .int .u64 (dz V 1), .int .u64 (dz V 2)], .bool less] w fun en w' => en = .returned (.tuple #[]) ∧ Tot w' g t (dz (T - placed V p)) rest ∧ w.grownBy w' (some g) := by
  have hm2 : (!neg == less) = true := by rw [← hm]; cases neg <;> cases less <;> rfl
  clear hm
  have hgl := hT.lt
  have hTm : TmAt (w.alloc (.cells #[.bool neg, .int .i64 (p : Int), .int .u64 (dz V 0), .int .u64 (dz V 1), .int .u64 (dz V 2)] 215)) w.heap.size neg V p := heap_alloc_new _ _
  have hG : w.grownBy (w.alloc (.cells #[.bool neg, .int .i64 (p : Int), .int .u64 (dz V 0), .int .u64 (dz V 1), .int .u64 (dz V 2)] 215)) (some g) := gr_below ((Below.refl _ _).alloc (Nat.le_refl _) _)
  have HT := Lib.hid (hT.alloc (.cells #[.bool neg, .int .i64 (p : Int), .int .u64 (dz V 0), .int .u64 (dz V 1), .int .u64 (dz V 2)] 215)); have HTm := Lib.hid hTm; have HG := Lib.hid hG
  have H0 := Lib.hid h0; have H1 := Lib.hid h1
  obtain ⟨k0, k1, k2, k3, k4⟩ := hTm.cells
  clear hT hTm hG h0 h1
  go_enter Tryz.func309, Tryz.ntmps309
  go_wp2_with fail
  obtain ⟨w1, hw1⟩ : ∃ W, W = w.alloc (.cells #[.bool neg, .int .i64 (p : Int), .int .u64 (dz V 0), .int .u64 (dz V 1), .int .u64 (dz V 2)] 215) := ⟨_, rfl⟩
  rw [← hw1] at HT HTm HG ⊢
  clear hw1 k0 k1 k2 k3 k4
  go_loopw [6, 7] (fun c i wr => ∃ n : Nat, p ≤ n ∧ n ≤ 67 ∧ i = .int .i64 n ∧ c = .int .u64 (bz T (placed V p) n) ∧ Hid (Tot wr g t (fun j => if j < n then dz (T - placed V p) j else dz T j) rest ∧ w1.grownBy wr (some g))) (fun _ i _ => 67 - (intOf i).toNat)
  case atStart => exact ⟨p, Nat.le_refl _, by omega, rfl, by rw [bz_low (placed_low V (Nat.le_refl _))], ⟨HT.out.congr fun j hj => by
      split
      · next h => exact ((dz_low_add (placed_low V (Nat.le_refl _)) h).2).symm
      · rfl, grown_refl _ _⟩⟩
  case round =>
    obtain ⟨n, hn0, hn, rfl, rfl, hH⟩ := hrel
    obtain ⟨k0, k1, k2, k3, k4⟩ := (HTm.out.grown hH.out.2 (by omega)).cells
    obtain ⟨c5, c6⟩ := bz_bd T (placed V p) n
    have hend : n = 67 ∨ p + 3 ≤ n ∧ bz T (placed V p) n = 0 → Tot wr g t (dz (T - placed V p)) rest := by
      rintro (rfl | ⟨h5, h6⟩)
      · exact hH.out.1.congr fun j hj => if_pos hj
      · refine hH.out.1.congr fun j hj => ?_
        split
        · rfl
        · exact (dz_stays_sub h6 (fun i hi => placed_high H0.out H1.out (by omega)) (by omega)).symm
    have HE := Lib.hid hend; clear hend
    by_cases hlt : n < 67
    · have c1 := hH.out.1.cell hlt
      rw [if_neg (Nat.lt_irrefl n)] at c1
      have f1 := hH.out.1.frozen n
      have b1 := dz_ge T n
      have b2 := dz_lt T n
      unfold W64 at b2
      have hA : ∀ x : Int, x = dz (placed V p) n → ∀ W, (callFunc 196 #[.int .u64 (dz T n), .int .u64 x, .int .u64 (bz T (placed V p) n)]).run Tryz.prog W = .ok (.value (.tuple #[.int .u64 (dz (T - placed V p) n), .int .u64 (bz T (placed V p) (n + 1))])) W := by
        rintro x rfl W
        have b3 := dz_ge (placed V p) n
        have b4 := dz_lt (placed V p) n
        unfold W64 at b4
        rw [dz_sub, bz_succ]
        exact ext_sub64 _ _ _ b1 b2 b3 b4 c5 c6 W
      have HA := Lib.hid hA
      have HR := Lib.hid (show Tot (wr.setCell ⟨g, n, none⟩ (.int .u64 (dz (T - placed V p) n))).drew g t (fun j => if j < n + 1 then dz (T - placed V p) j else dz T j) rest ∧ w1.grownBy (wr.setCell ⟨g, n, none⟩ (.int .u64 (dz (T - placed V p) n))).drew (some g) from
        ⟨(tot_step hH.out.1 hlt rfl).drew, gr_drew (grown_set' hH.out.2 _ _)⟩)
      have HGr := Lib.hid hH.out.2
      have HC0 := Lib.hid (show bz T (placed V p) n = 0 ∨ bz T (placed V p) n = 1 by omega)
      have hks : n = p ∨ n = p + 1 ∨ n = p + 2 ∨ p + 3 ≤ n := by omega
      clear hA hH b1 b2
      rcases hks with h | h | h | h
      · have e0 : (n : Int) - (p : Int) = 0 := by omega
        have a1 := HA.out _ (placed_at V (k := 0) (by omega)).symm
        have i1 : n < p + 3 := by omega
        clear h
        go_wp2_with fail
        go_region
        go_wp2_with fail
        go_roundw
        case rel => exact ⟨n + 1, by omega, by omega, by go_num, rfl, HR.out⟩
        case measure => simp [intOf]; omega
      · have e0 : (n : Int) - (p : Int) = 1 := by omega
        have a1 := HA.out _ (placed_at V (k := 1) (by omega)).symm
        have i1 : n < p + 3 := by omega
        clear h
        go_wp2_with fail
        go_region
        go_wp2_with fail
        go_roundw
        case rel => exact ⟨n + 1, by omega, by omega, by go_num, rfl, HR.out⟩
        case measure => simp [intOf]; omega
      · have e0 : (n : Int) - (p : Int) = 2 := by omega
        have a1 := HA.out _ (placed_at V (k := 2) (by omega)).symm
        have i1 : n < p + 3 := by omega
        clear h
        go_wp2_with fail
        go_region
        go_wp2_with fail
        go_roundw
        case rel => exact ⟨n + 1, by omega, by omega, by go_num, rfl, HR.out⟩
        case measure => simp [intOf]; omega
      · rcases HC0.out with hc | hc
        · have HF := Lib.hid (HE.out (.inr ⟨h, hc⟩))
          have e9 : decide (0 < bz T (placed V p) n) = false := by rw [hc]; rfl
          clear hc
          go_wp2_with fail
          go_end0
          exact ⟨rfl, HF.out, gr_trans HG.out HGr.out⟩
        · have e9 : decide (0 < bz T (placed V p) n) = true := by rw [hc]; rfl
          have a1 := HA.out _ (placed_high H0.out H1.out h).symm
          clear hc
          go_wp2_with fail
          go_region
          go_wp2_with fail
          go_roundw
          case rel => exact ⟨n + 1, by omega, by omega, by go_num, rfl, HR.out⟩
          case measure => simp [intOf]; omega
    · have h9 : n = 67 := by omega
      have HF := Lib.hid (HE.out (.inl h9)); have HGr := Lib.hid hH.out.2
      clear hH h9
      go_wp2_with fail
      go_end0
      exact ⟨rfl, HF.out, gr_trans HG.out HGr.out⟩
end Go.Proofs.YteahdgbokjbgcaaGreatDoor
