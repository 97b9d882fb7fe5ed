/- What a script of bins has made, in memory. Contracts of steelyardlaw09.play.at, asked. No statement of the seat is proved here. -/
import Derived.Test.YteahdgbokjbgcaaGreatDoorProg
import Derived.Test.YteahdgbokjbgcaaGreatDoorYNM
import Derived.Test.YteahdgbokjbgcaaGreatDoorYNL
import Derived.Test.YteahdgbokjbgcaaGreatDoorYMI
import Derived.Deep.DeepCutAuto
namespace Go.Proofs.YteahdgbokjbgcaaGreatDoor
open Go.RowKit
set_option maxRecDepth 10000
set_option linter.unusedVariables false
set_option linter.unusedSimpArgs false

/-- both kinds of bins: their places, the fold, the document's slice, what they have -/
structure Bth where
  gb : Nat
  gr : Nat
  f : Nat
  a : Option Addr
  A : Bn
/-- blocks of other types than the bins' are as they were -/
structure KT (W W' : World) : Prop where
  os : W'.os = W.os
  tape : W'.tape = W.tape
  output : W'.output = W.output
  size : W.heap.size ≤ W'.heap.size
  keep : ∀ (j : Nat) (cs : Array Value) (T : TypeId) (fr : Nat × Nat), W.heap[j]? = some (.cells cs T fr) → T ≠ 192 → T ≠ 205 → T ≠ 207 → W'.heap[j]? = some (.cells cs T fr)
section
variable {W W1 W' : World} {g gr f : Nat} {a a' : Option Addr} {A B : Bn} {e : Bth}
theorem KT.refl (W : World) : KT W W := ⟨rfl, rfl, rfl, Nat.le_refl _, fun _ _ _ _ h _ _ _ => h⟩
theorem KT.trans (h : KT W W1) (h2 : KT W1 W') : KT W W' := ⟨h2.os.trans h.os, h2.tape.trans h.tape, h2.output.trans h.output, Nat.le_trans h.size h2.size, fun j cs T fr k a b c => h2.keep j cs T fr (h.keep j cs T fr k a b c) a b c⟩
theorem KT.below (h : Below W.heap.size W W') : KT W W' := ⟨h.os, h.tape, h.output, h.size, fun j cs T fr k _ _ _ => blk_below k h (Array.getElem?_eq_some_iff.1 k).1⟩
theorem VOwn.type {w : World} {T : TypeId} {sz base c : Nat} {a : Option Addr} {l : List Value} (h : VOwn w T sz base a c l) (ad : Addr) (had : a = some ad) : ∃ cs, w.heap[ad.block]? = some (.cells cs T (0, 0)) := by
  rcases h with ⟨h1, _⟩ | ⟨b, p, t, h1, _, _, _, h5⟩
  · rw [h1] at had; cases had
  · rw [h1] at had; cases had
    exact ⟨_, h5⟩
theorem row_apart {w : World} {i j : Nat} {cs cs' : Array Value} {T T' : TypeId} {fr fr' : Nat × Nat} (h : w.heap[i]? = some (.cells cs T fr)) (h' : w.heap[j]? = some (.cells cs' T' fr')) (hT : T ≠ T') : i ≠ j := by
  rintro rfl
  rw [h] at h'
  simp at h'
  exact hT h'.2.1
theorem VOwn.kt {T : TypeId} {sz base c : Nat} {l : List Value} (h : VOwn W T sz base a c l) (k1 : T ≠ 192) (k2 : T ≠ 205) (k3 : T ≠ 207) (hk : KT W W') : VOwn W' T sz base a c l := by
  rcases h with h | ⟨b, p, t, j1, j2, j3, j4, j5⟩
  · exact .inl h
  · exact .inr ⟨b, p, t, j1, j2, j3, j4, hk.keep _ _ _ _ j5 k1 k2 k3⟩
theorem Own.kt {base c : Nat} {l : List Nat} (h : Own W 118 base a c l) (hk : KT W W') : Own W' 118 base a c l := by
  rcases h with h | ⟨b, t, j1, j2, j3, j4, j5⟩
  · exact .inl h
  · exact .inr ⟨b, t, j1, j2, j3, j4, hk.keep _ _ _ _ j5 (by decide) (by decide) (by decide)⟩
end
/-- a Dyad that came, and the document's -/
structure Cm where
  d : D
  a : Option Addr
  c : Nat
  a' : Option Addr
  c' : Nat
section
variable {q : Prop} {w W W' : World} {gp : Nat} {L : List Bth} {aL aC aD : Option Addr} {cL cC cD : Nat} {C E : List Cm}
end
/-! blocks of one type change -/
section
variable {W W' : World} {r : Option Nat} {T0 T : TypeId}
end
section
variable {q : Prop} {w W W1 W5 : World} {gp : Nat} {L : List Bth} {aL aC aD a' : Option Addr} {cL cC cD c' : Nat} {C E : List Cm}
end
end Go.Proofs.YteahdgbokjbgcaaGreatDoor
namespace Go.Proofs.YteahdgbokjbgcaaGreatDoor
open Go.RowKit
set_option maxRecDepth 10000
set_option linter.unusedVariables false
set_option linter.unusedSimpArgs false

end Go.Proofs.YteahdgbokjbgcaaGreatDoor
