/- Laws for arrays that lie in a part of a block: loads, stores, an index of a value. Contracts of super's total: add, neg, minus, great. Contracts of super's total: great, move. No statement of the seat is proved here. -/
import Derived.Test.YteahdgbokjbgcaaGreatDoorProg
import Derived.Test.YteahdgbokjbgcaaGreatDoorZMK
import Derived.StillTailTactics
namespace Go.Proofs.YteahdgbokjbgcaaGreatDoor
open Go.RowKit
set_option linter.unusedVariables false
set_option linter.unusedSimpArgs false

theorem addr_add (g o j : Nat) : (⟨g, o, none⟩ : Addr).add j = ⟨g, o + j, none⟩ := by unfold Addr.add; split <;> simp_all
theorem run_loadVar_cells (w : World) (g o : Nat) (ty : TypeId) (cs : List Value) (d : TypeDesc) (hc : ∀ j v, cs[j]? = some v → w.cell? ⟨g, o + j, none⟩ = some v)
    (hu : Tryz.prog.underlying ty = some d) (hd : (match d with | .struct _ | .array _ _ => true | _ => false) = true) (hi : (Tryz.prog.info? ty).map (·.size) = some cs.length) :
    (loadVar ty ⟨g, o, none⟩).run Tryz.prog w = .ok (.agg cs.toArray) w := by
  have hl : (loadCells ⟨g, o, none⟩ cs.length).run Tryz.prog w = .ok cs.toArray w :=
    run_loadCells_list (P := Tryz.prog) w ⟨g, o, none⟩ cs (fun j v hv => by rw [addr_add]; exact hc j v hv)
  cases hq : Tryz.prog.info? ty with
  | none => simp [hq] at hi
  | some i =>
    have hs : i.size = cs.length := by simpa [hq] using hi
    have hagg : (isAgg ty).run Tryz.prog w = .ok true w := by
      unfold isAgg
      rw [Sem.run_bind, run_underlying hu w]
      cases d <;> simp_all
    simp [loadVar, Sem.run_bind, hagg, sizeOf, typeInfo, hq, hs, hl]
theorem wpList_load_cells {ops : Array Oper} {rest : List Oper} {o : Oper} {a : Act} {w : World} {Q : Exit → Act → World → Prop} (hgd : o.guard = none) (ty : TypeId) (x : Operand) (ho : o.op = .load ty x)
    (g off : Nat) (hx : a.eval x = .pointer (some ⟨g, off, none⟩)) (cs : List Value) (d : TypeDesc) (hc : ∀ j v, cs[j]? = some v → w.cell? ⟨g, off + j, none⟩ = some v)
    (hu : Tryz.prog.underlying ty = some d) (hd : (match d with | .struct _ | .array _ _ => true | _ => false) = true) (hi : (Tryz.prog.info? ty).map (·.size) = some cs.length)
    (h : wpList Tryz.prog ops Q rest (a.put o.dst (.agg cs.toArray)) w) : wpList Tryz.prog ops Q (o :: rest) a w :=
  wpList_plain hgd fun K hK => by
    unfold Oper.wp execOp
    simp only [ho, hx, Instr.loadAt, Instr.sureAddr, Sem.run_bind, Sem.run_pure, Result.andThen_ok, run_loadVar_cells w g off ty cs d hc hu hd hi]
    exact hK _ _ h
/-- cells of a block from a place on, laid anew -/
def World.laid (w : World) (g o : Nat) (vs : List Value) : World :=
  match w.heap[g]? with
  | some (.cells cur _ _) => w.setRow g (cur.toList.take o ++ vs ++ cur.toList.drop (o + vs.length)).toArray
  | _ => w
theorem heap_setRow (w : World) (g : Nat) (cs : Array Value) (k : Nat) : (w.setRow g cs).heap[k]? = if k = g then (w.heap[g]?).map (fun o => match o with | .cells _ e f => .cells cs e f | o => o) else w.heap[k]? := by
  unfold World.setRow
  simp only [Array.getElem?_modify]
  by_cases h : g = k
  · subst h; simp; rfl
  · rw [if_neg h, if_neg (fun e => h e.symm)]
section
variable {w : World} {g : Nat} {t : TypeId} {f h : Nat → Int} {rest : List Value}
theorem Tot.row (hT : Tot w g t f rest) : ∀ j v, (rowOf f)[j]? = some v → w.cell? ⟨g, 0 + j, none⟩ = some v := by
  intro j v hv
  have hj : j < 67 := by
    rcases Nat.lt_or_ge j 67 with h1 | h1
    · exact h1
    · rw [List.getElem?_eq_none (by rw [rowOf_len]; exact h1)] at hv; cases hv
  rw [Nat.zero_add, hT.cell hj]
  rw [rowOf_get _ hj] at hv
  exact hv
theorem Tot.laid (hT : Tot w g t f rest) : Tot (w.setRow g ((rowOf f ++ rest).take 0 ++ rowOf h ++ (rowOf f ++ rest).drop (0 + (rowOf h).length)).toArray) g t h rest := by
  unfold Tot at *
  rw [heap_setRow, if_pos rfl, hT, rowOf_len]
  simp only [Option.map_some, List.take_zero, List.nil_append, Nat.zero_add]
  rw [List.drop_append_of_le_length (by rw [rowOf_len]; exact Nat.le_refl _), List.drop_of_length_le (by rw [rowOf_len]; exact Nat.le_refl _), List.nil_append]
end
theorem grown_row (w : World) (g : Nat) (cs : Array Value) : w.grownBy (w.setRow g cs) (some g) :=
  ⟨rfl, rfl, rfl, by simp, fun j hj hr => by rw [heap_setRow, if_neg (by simpa using hr)]⟩
end Go.Proofs.YteahdgbokjbgcaaGreatDoor
namespace Go.Proofs.YteahdgbokjbgcaaGreatDoor
open Go.RowKit
set_option linter.unusedVariables false
set_option linter.unusedSimpArgs false

theorem grown_refl (w : World) (r : Option Nat) : w.grownBy w r := ⟨rfl, rfl, rfl, Nat.le_refl _, fun _ _ _ => rfl⟩
theorem gr_drew {w w1 : World} {r : Option Nat} (h : w.grownBy w1 r) : w.grownBy w1.drew r := ⟨h.os, h.tape, h.output, h.size, h.block⟩
theorem grown_set' {w0 w : World} {g : Nat} (h : w0.grownBy w (some g)) (k : Nat) (v : Value) : w0.grownBy (w.setCell ⟨g, k, none⟩ v) (some g) :=
  ⟨h.os, h.tape, h.output, by simp; exact h.size, fun j hj hr => (heap_setCell_other _ _ _ _ (by simpa using hr)).trans (h.block j hj hr)⟩

end Go.Proofs.YteahdgbokjbgcaaGreatDoor
namespace Go.Proofs.YteahdgbokjbgcaaGreatDoor
open Go.RowKit
set_option linter.unusedVariables false
set_option linter.unusedSimpArgs false

theorem gr_trans {w w1 w2 : World} {r : Option Nat} (h : w.grownBy w1 r) (k : w1.grownBy w2 r) : w.grownBy w2 r :=
  ⟨k.os.trans h.os, k.tape.trans h.tape, k.output.trans h.output, Nat.le_trans h.size k.size, fun j hj hr => (k.block j (Nat.lt_of_lt_of_le hj h.size) hr).trans (h.block j hj hr)⟩
end Go.Proofs.YteahdgbokjbgcaaGreatDoor
