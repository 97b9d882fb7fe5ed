/- What closing a law of layer 3 wants: arguments opened, the table, how the arguments read behind the call. No statement of the seat is proved here. -/
import Derived.Test.YthdbapibbdkclaaDoorTie
import Derived.Test.YthdbapibbdkclaaDoorCards
import Derived.Test.YthdbapibbdkclaaDoorBit
import Derived.ProofKit
import Derived.OpenShut
import Derived.Carry
import Derived.Laws.Cover2
import Derived.Deep.DeepHandedRow
import Derived.Lib.LaidTab
namespace Go.Proofs.YthdbapibbdkclaaDoor
open Go.ChangeShapes Go.WideShapes Go.ChangeAt Go.RowKit
set_option linter.unusedVariables false
set_option linter.unusedSimpArgs false

theorem ownOff : ownKnob Tryd.prog.godebug = none := by kernel_rfl
theorem gTab : Tryd.prog.globalNamed "math/bits.deBruijn32tab" = some 1 := by kernel_rfl
theorem laid_out : laidOutB Tryd.prog = true := by kernel_rfl
theorem cells_word : Tryd.prog.cellsOf 82 = 1 := by kernel_rfl

theorem bulk_one {H : Type} (d : DataW H) : 1 ≤ Rows.uptoBulk d := by
  cases d with
  | lit l => cases l <;> simp [Rows.uptoBulk]
  | nil => simp [Rows.uptoBulk]
  | ptr d => simp [Rows.uptoBulk]
  | slice elems spare => simp [Rows.uptoBulk]
  | agg parts => simp [Rows.uptoBulk]
  | iface t d => simp [Rows.uptoBulk]
  | map entries => simp [Rows.uptoBulk]
  | held h => simp [Rows.uptoBulk]
theorem bulk_len {H : Type} (l : List (DataW H)) : l.length ≤ Rows.uptoBulkAll l := by
  induction l with
  | nil => simp [Rows.uptoBulkAll]
  | cons x r ih => have := bulk_one x; simp only [Rows.uptoBulkAll, List.length_cons]; omega
theorem bulk_bound {H : Type} {l : List (DataW H)} (hk : Rows.uptoSmall H l = true) : Rows.uptoBulkAll l ≤ 1048576 := by
  unfold Rows.uptoSmall at hk
  exact of_decide_eq_true hk

theorem spot_none {w : World} {a : Addr} {v : Value} (h : w.cell? a = some v) : a.spot = none := by
  unfold World.cell? at h
  cases hs : a.spot with
  | none => rfl
  | some s => rw [hs] at h; split at h <;> simp at h
set_option maxRecDepth 100000 in
theorem open_nat {H : Type} {enc : TypeId × Value → H} {W : World} {base : Nat} {v : Value} {d : DataW H} {p : List MemPlace} (hval : Value.okWide Tryd.prog W .any base 26 v) (h0 : DataW.Trod enc Tryd.prog W 0 (fun _ => true) true 26 v d p) :
    ∃ a c l, v = .slice a l.length c ∧ Sl W a c l ∧ l.length + 1 ≤ Rows.uptoBulk d := by
  obtain ⟨a, len, cap, rfl⟩ := okWide_slice Tryd.underlying26 hval
  obtain ⟨fuel, hf⟩ := h0
  rcases open_ints Tryd.underlying26 Tryd.underlying82 cells_word hf with ⟨hcs, hx⟩ | ⟨a', len', cap', zs, hcs, _, hl, hm, hz, hx, hcell, hwf⟩
  · simp [Value.cells] at hcs
    obtain ⟨rfl, rfl, rfl⟩ := hcs
    exact ⟨none, 0, [], rfl, Sl.none W, bulk_one d⟩
  · simp [Value.cells] at hcs
    obtain ⟨rfl, rfl, rfl⟩ := hcs
    simp only [if_true] at hz
    have hll : ((zs.take len).map Int.toNat).length = len := by rw [List.length_map, List.length_take]; omega
    refine ⟨some a', cap, (zs.take len).map Int.toNat, by rw [hll], ⟨?_, ?_, by rw [hll]; exact hl, fun h => by cases h⟩, ?_⟩
    · intro i x hi
      rw [List.getElem?_map] at hi
      obtain ⟨z, hz2, rfl⟩ := Option.map_eq_some_iff.1 hi
      have hil : i < len := by
        have := (List.getElem?_eq_some_iff.1 hz2).1
        rw [List.length_take] at this; omega
      rw [List.getElem?_take_of_lt hil] at hz2
      have h1 := hcell i (by omega)
      have h0 := spot_none (hcell 0 (by omega))
      have hw := hwf z (List.mem_of_getElem? hz2)
      have hg : zs.getD i 0 = z := by rw [List.getD_eq_getElem?_getD, hz2]; rfl
      rw [hg] at h1
      obtain ⟨bk, off, spot⟩ := a'
      have hs : spot = none := by simpa [Addr.add] using h0
      subst hs
      refine ⟨bk, off, rfl, ?_⟩
      have hz0 : ((z.toNat : Nat) : Int) = z := by
        have m1 : IntKind.u32.min = 0 := rfl
        simp [Lit.wf, IntKind.has] at hw
        omega
      rw [hz0]
      have hadd : Addr.add ⟨bk, off, none⟩ i = ⟨bk, off + i, none⟩ := by
        unfold Addr.add; split
        · next h => subst h; rfl
        · rfl
      rw [← hadd]; exact h1
    · intro x hx2
      obtain ⟨z, hz2, rfl⟩ := List.mem_map.1 hx2
      have hw := hwf z (List.mem_of_mem_take hz2)
      have m1 : IntKind.u32.min = 0 := rfl
      have m2 : IntKind.u32.max = 4294967295 := rfl
      simp [Lit.wf, IntKind.has] at hw
      omega
    · rw [hll]
      have hd : d = .slice (lits .u32 (zs.take len)) (lits .u32 (zs.drop len)) := by
        have := congrArg Prod.fst hx; exact this
      rw [hd]
      have h1 := bulk_len (lits (H := H) .u32 (zs.take len))
      have h2 : (lits (H := H) .u32 (zs.take len)).length = len := by simp [lits]; omega
      simp only [Rows.uptoBulk]
      omega
theorem tab_of {L : List (String × DataW Unit)} {W : World} (h : laidMet Tryd.prog (("math/bits.deBruijn32tab", Lib.tabData .u8 (Lib.deBruijn32tab.map Int.ofNat)) :: L) W) : Tab W := by
  have hT := Lib.tabIs_of_head (rest := L) gTab (t := 189) (e := 5) (n := 32) (by kernel_rfl) (by kernel_rfl) (by kernel_rfl) (by kernel_rfl) (by kernel_rfl) h
  intro j hj
  have := hT.cell gTab j (by rw [List.length_map]; exact hj)
  rw [this]
  congr 2
  rw [List.getD_eq_getElem?_getD, List.getElem?_map, List.getD_eq_getElem?_getD, List.getElem?_eq_getElem hj]; rfl
/-- an argument reads behind the call as ahead of it -/
theorem args_below {H : Type} {enc : TypeId × Value → H} {W W' : World} (hb : Below W.heap.size W W') : ∀ {ts : List TypeId} {vs : List Value} {ds : List (DataW H)} {ps : List MemPlace}, DataW.TrodAll enc Tryd.prog W 0 (fun _ => true) true ts vs ds ps → (∀ t ∈ ts, Tryd.prog.readableRec t = true ∧ t < Tryd.prog.types.size) → (∀ x ∈ ps, x.block < W.heap.size) → DataW.TrodAll enc Tryd.prog W' 0 (fun b => decide (b < W.heap.size)) true ts vs ds ps
  | [], [], [], _, h, _, _ => h
  | _ :: _, _ :: _, _ :: _, _, ⟨p, q, h1, h2, e⟩, ht, hlt => ⟨p, q, Below.trod laid_out (ht _ (List.mem_cons_self ..)).1 (ht _ (List.mem_cons_self ..)).2 h1 hb (fun x hx => hlt x (by rw [e]; exact List.mem_append_left _ hx)), args_below hb h2 (fun t h => ht t (List.mem_cons_of_mem _ h)) (fun x hx => hlt x (by rw [e]; exact List.mem_append_right _ hx)), e⟩
end Go.Proofs.YthdbapibbdkclaaDoor
