/- What closing a law of layer 3 wants: arguments opened, the table, how the arguments read behind the call. A list of float64 as an argument, opened. A list of ints as an argument, opened. No statement of the seat is proved here. -/
import Derived.Test.YteahdgbokjbgcaaGreatDoorTie
import Derived.Test.YteahdgbokjbgcaaGreatDoorCards
import Derived.Test.YteahdgbokjbgcaaGreatDoorYA
import Derived.ProofKit
import Derived.OpenShut
import Derived.Carry
import Derived.Laws.Cover2
import Derived.Deep.DeepHandedRow
import Derived.Lib.LaidTab
import Derived.Test.YteahdgbokjbgcaaGreatDoorYMQ
import Derived.Deep.Slices
import Derived.Test.YteahdgbokjbgcaaGreatDoorYMT
namespace Go.Proofs.YteahdgbokjbgcaaGreatDoor
open Go.ChangeShapes Go.WideShapes Go.ChangeAt Go.RowKit
set_option linter.unusedVariables false
set_option linter.unusedSimpArgs false

theorem ownOff : ownKnob Tryz.prog.godebug = none := by kernel_rfl
theorem gTab : Tryz.prog.globalNamed "math/bits.deBruijn32tab" = some 1 := by kernel_rfl
theorem laid_out : laidOutB Tryz.prog = true := by kernel_rfl
theorem spot_none {w : World} {a : Addr} {v : Value} (h : w.cell? a = some v) : a.spot = none := by
  unfold World.cell? at h
  cases hs : a.spot with
  | none => rfl
  | some s => rw [hs] at h; split at h <;> simp at h
theorem tab_of {L : List (String × DataW Unit)} {W : World} (h : laidMet Tryz.prog (("math/bits.deBruijn32tab", Lib.tabData .u8 (Lib.deBruijn32tab.map Int.ofNat)) :: L) W) : Tab W := by
  have hT := Lib.tabIs_of_head (rest := L) gTab (t := 312) (e := 5) (n := 32) (by kernel_rfl) (by kernel_rfl) (by kernel_rfl) (by kernel_rfl) (by kernel_rfl) h
  intro j hj
  have := hT.cell gTab j (by rw [List.length_map]; exact hj)
  rw [this]
  congr 2
  rw [List.getD_eq_getElem?_getD, List.getElem?_map, List.getD_eq_getElem?_getD, List.getElem?_eq_getElem hj]; rfl
/-- an argument reads behind the call as ahead of it -/
theorem args_below {H : Type} {enc : TypeId × Value → H} {W W' : World} (hb : Below W.heap.size W W') : ∀ {ts : List TypeId} {vs : List Value} {ds : List (DataW H)} {ps : List MemPlace}, DataW.TrodAll enc Tryz.prog W 0 (fun _ => true) true ts vs ds ps → (∀ t ∈ ts, Tryz.prog.readableRec t = true ∧ t < Tryz.prog.types.size) → (∀ x ∈ ps, x.block < W.heap.size) → DataW.TrodAll enc Tryz.prog W' 0 (fun b => decide (b < W.heap.size)) true ts vs ds ps
  | [], [], [], _, h, _, _ => h
  | _ :: _, _ :: _, _ :: _, _, ⟨p, q, h1, h2, e⟩, ht, hlt => ⟨p, q, Below.trod laid_out (ht _ (List.mem_cons_self ..)).1 (ht _ (List.mem_cons_self ..)).2 h1 hb (fun x hx => hlt x (by rw [e]; exact List.mem_append_left _ hx)), args_below hb h2 (fun t h => ht t (List.mem_cons_of_mem _ h)) (fun x hx => hlt x (by rw [e]; exact List.mem_append_right _ hx)), e⟩
end Go.Proofs.YteahdgbokjbgcaaGreatDoor
namespace Go.Proofs.YteahdgbokjbgcaaGreatDoor
open Go.ChangeShapes Go.WideShapes Go.ChangeAt Go.RowKit
set_option linter.unusedVariables false
set_option linter.unusedSimpArgs false

theorem trod_f64 {H : Type} {enc : TypeId × Value → H} {W : World} {base n : Nat} {sp : Nat → Bool} {held : Bool} {v : Value} {x : DataW H × List MemPlace} (h : DataW.trod enc Tryz.prog W base sp held n 30 [v] = some x) :
    ∃ b, v = .float .f64 b ∧ b < 18446744073709551616 := by
  have ht := Tryz.underlying30
  cases n with
  | zero => simp [DataW.trod] at h
  | succ n =>
    cases v with
    | float k b =>
      cases k with
      | f64 =>
        simp only [DataW.trod, ht] at h
        by_cases hw : (Lit.float .f64 b).wf = true
        · exact ⟨b, rfl, by simpa [Lit.wf] using hw⟩
        · simp [hw] at h
      | f32 => simp [DataW.trod, ht] at h
    | _ => simp [DataW.trod, ht] at h
end Go.Proofs.YteahdgbokjbgcaaGreatDoor
namespace Go.Proofs.YteahdgbokjbgcaaGreatDoor
open Go.ChangeShapes Go.WideShapes Go.ChangeAt Go.RowKit
set_option linter.unusedVariables false
set_option linter.unusedSimpArgs false

theorem wf_int {n : Int} (h : (Lit.int .i64 n).wf = true) : -9223372036854775808 ≤ n ∧ n ≤ 9223372036854775807 := by
  have m1 : IntKind.i64.min = -9223372036854775808 := rfl
  have m2 : IntKind.i64.max = 9223372036854775807 := rfl
  simp [Lit.wf, IntKind.has] at h
  omega
end Go.Proofs.YteahdgbokjbgcaaGreatDoor
