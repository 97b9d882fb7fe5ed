/-
  NARROWER THAN 'FOR EVERY INPUT', by the rows' own cells (each row's printed sentence says how): DyadMakes: laid · DyadSums: laid · DyadRounds: laid · DyadProducts: laid · DyadCompares: laid · DyadNear: laid · DyadRing: laid.
  DERIVED. THE GIVEN ROWS OF THIS SEAT. 7 by the template 'for every input the law returns true; each argument reads behind the call as it read before'; 0 by the template 'total and deterministic' (their statements: YtmokomfneikipaaDoorTotals.lean).
  GIVEN WITH THE SEED: the statements are not yours to turn. If you find one false, say at which input.
  Laid BY PROGRAM, IN A SANDBOX (cutbox-rows.mjs): the forced cells as the released guide's own fill.sh prints them over the translation cef607b9400c299c… (all of the seat's roots in one cut). By AI agents, Wed Nov 11 2026. No macro, syntax, notation, axiom, sorry.
-/
import Derived.Test.YtmokomfneikipaaDoorChecked
import GoSem.Claim
import GoSem.ClaimJoined
import GoSem.ClaimMapViews
import Derived.JoinedTies
import Derived.KernelRfl
namespace Go.Proofs.YtmokomfneikipaaDoor
/- THE CELL 'sum', in the pinned program and in every row, IS THE sha256 OF THE DUMP (.gsa) THAT YtmokomfneikipaaDoorProg.lean LOADS. Nothing in Lean hashes anything: it is a label: what it is worth is what the hold of that sum in a sandbox is worth. -/
noncomputable def Tryd.pinned : Pinned := { name := "ytmokomfneikipaadoor", sum := "cef607b9400c299cfa86959c4b0af509f57a6c843ed74cbe1df5e1cf2958df5c", checked := Tryd.checked }
namespace Rows
def none {H : Type} : Left H := { results := [], args := [] }

/- WHAT THE LISTED PACKAGE-LEVEL VARIABLES READ AS WHEN THE CALL BEGINS. Each datum BY PROGRAM (the guide's laid-datum.mjs) off the statement by which the dump's own 'gosem.cut.vars' lays the variable. In a bare row this is a premise. The card (YtmokomfneikipaaDoorCards.lean) ties it to the program's text. -/
def laid_math_bits_deBruijn32tab {H : Type} : DataW H := .agg [.lit (.int .u8 0), .lit (.int .u8 1), .lit (.int .u8 28), .lit (.int .u8 2), .lit (.int .u8 29), .lit (.int .u8 14), .lit (.int .u8 24), .lit (.int .u8 3), .lit (.int .u8 30), .lit (.int .u8 22), .lit (.int .u8 20), .lit (.int .u8 15), .lit (.int .u8 25), .lit (.int .u8 17), .lit (.int .u8 4), .lit (.int .u8 8), .lit (.int .u8 31), .lit (.int .u8 27), .lit (.int .u8 13), .lit (.int .u8 23), .lit (.int .u8 21), .lit (.int .u8 19), .lit (.int .u8 16), .lit (.int .u8 7), .lit (.int .u8 26), .lit (.int .u8 12), .lit (.int .u8 18), .lit (.int .u8 6), .lit (.int .u8 11), .lit (.int .u8 5), .lit (.int .u8 10), .lit (.int .u8 9)]

/-- 'steelyardlaw03.DyadMakes': WHATEVER THE INPUT: true; the input reads as it did. -/
def dyadMakesSpec : ChangeSpec := { name := "dyadMakes", fn := fun _ => fun
  | [d1, d2, d3, d4, d5] => { results := [.lit (.bool true)], args := [d1, d2, d3, d4, d5] }
  | _ => none }
def dyadMakesRow : OpenClaim := { program := "ytmokomfneikipaadoor", sum := "cef607b9400c299cfa86959c4b0af509f57a6c843ed74cbe1df5e1cf2958df5c", func := "steelyard/steelyardlaw03.DyadMakes", spec := "dyadMakes", inPlace := ["math.Float64bits", "math.Float64frombits"], named := ["math/bits.deBruijn32tab"], apart := false, laid := [("math/bits.deBruijn32tab", laid_math_bits_deBruijn32tab)] }
def DyadMakesSaid : Prop := dyadMakesRow.holds Tryd.pinned (OpenSpec.ofChange dyadMakesSpec)

/-- ITS FALSE NEIGHBOUR: 'it returns false'. Refute it at one input. -/
def dyadMakesWrong : ChangeSpec := { name := "dyadMakes", fn := fun _ => fun
  | [d1, d2, d3, d4, d5] => { results := [.lit (.bool false)], args := [d1, d2, d3, d4, d5] }
  | _ => none }
def DyadMakesWrongFalsely : Prop := dyadMakesRow.holds Tryd.pinned (OpenSpec.ofChange dyadMakesWrong)

/-- 'steelyardlaw03.DyadSums': WHATEVER THE INPUT: true; the input reads as it did. -/
def dyadSumsSpec : ChangeSpec := { name := "dyadSums", fn := fun _ => fun
  | [d1, d2] => { results := [.lit (.bool true)], args := [d1, d2] }
  | _ => none }
def dyadSumsRow : OpenClaim := { program := "ytmokomfneikipaadoor", sum := "cef607b9400c299cfa86959c4b0af509f57a6c843ed74cbe1df5e1cf2958df5c", func := "steelyard/steelyardlaw03.DyadSums", spec := "dyadSums", inPlace := ["math.Float64bits", "math.Float64frombits"], named := ["math/bits.deBruijn32tab"], apart := false, laid := [("math/bits.deBruijn32tab", laid_math_bits_deBruijn32tab)] }
def DyadSumsSaid : Prop := dyadSumsRow.holds Tryd.pinned (OpenSpec.ofChange dyadSumsSpec)

/-- ITS FALSE NEIGHBOUR: 'it returns false'. Refute it at one input. -/
def dyadSumsWrong : ChangeSpec := { name := "dyadSums", fn := fun _ => fun
  | [d1, d2] => { results := [.lit (.bool false)], args := [d1, d2] }
  | _ => none }
def DyadSumsWrongFalsely : Prop := dyadSumsRow.holds Tryd.pinned (OpenSpec.ofChange dyadSumsWrong)

/-- 'steelyardlaw03.DyadRounds': WHATEVER THE INPUT: true; the input reads as it did. -/
def dyadRoundsSpec : ChangeSpec := { name := "dyadRounds", fn := fun _ => fun
  | [d1, d2] => { results := [.lit (.bool true)], args := [d1, d2] }
  | _ => none }
def dyadRoundsRow : OpenClaim := { program := "ytmokomfneikipaadoor", sum := "cef607b9400c299cfa86959c4b0af509f57a6c843ed74cbe1df5e1cf2958df5c", func := "steelyard/steelyardlaw03.DyadRounds", spec := "dyadRounds", inPlace := ["math.Float64bits", "math.Float64frombits", "math.Float32frombits", "math.Float32bits"], recurses := true, named := ["math/bits.deBruijn32tab"], apart := false, laid := [("math/bits.deBruijn32tab", laid_math_bits_deBruijn32tab)] }
def DyadRoundsSaid : Prop := dyadRoundsRow.holds Tryd.pinned (OpenSpec.ofChange dyadRoundsSpec)

/-- ITS FALSE NEIGHBOUR: 'it returns false'. Refute it at one input. -/
def dyadRoundsWrong : ChangeSpec := { name := "dyadRounds", fn := fun _ => fun
  | [d1, d2] => { results := [.lit (.bool false)], args := [d1, d2] }
  | _ => none }
def DyadRoundsWrongFalsely : Prop := dyadRoundsRow.holds Tryd.pinned (OpenSpec.ofChange dyadRoundsWrong)

/-- 'steelyardlaw03.DyadProducts': WHATEVER THE INPUT: true; the input reads as it did. -/
def dyadProductsSpec : ChangeSpec := { name := "dyadProducts", fn := fun _ => fun
  | [d1, d2] => { results := [.lit (.bool true)], args := [d1, d2] }
  | _ => none }
def dyadProductsRow : OpenClaim := { program := "ytmokomfneikipaadoor", sum := "cef607b9400c299cfa86959c4b0af509f57a6c843ed74cbe1df5e1cf2958df5c", func := "steelyard/steelyardlaw03.DyadProducts", spec := "dyadProducts", inPlace := ["math.Float64bits", "math.Float64frombits"], named := ["math/bits.deBruijn32tab"], apart := false, laid := [("math/bits.deBruijn32tab", laid_math_bits_deBruijn32tab)] }
def DyadProductsSaid : Prop := dyadProductsRow.holds Tryd.pinned (OpenSpec.ofChange dyadProductsSpec)

/-- ITS FALSE NEIGHBOUR: 'it returns false'. Refute it at one input. -/
def dyadProductsWrong : ChangeSpec := { name := "dyadProducts", fn := fun _ => fun
  | [d1, d2] => { results := [.lit (.bool false)], args := [d1, d2] }
  | _ => none }
def DyadProductsWrongFalsely : Prop := dyadProductsRow.holds Tryd.pinned (OpenSpec.ofChange dyadProductsWrong)

/-- 'steelyardlaw03.DyadCompares': WHATEVER THE INPUT: true; the input reads as it did. -/
def dyadComparesSpec : ChangeSpec := { name := "dyadCompares", fn := fun _ => fun
  | [d1, d2] => { results := [.lit (.bool true)], args := [d1, d2] }
  | _ => none }
def dyadComparesRow : OpenClaim := { program := "ytmokomfneikipaadoor", sum := "cef607b9400c299cfa86959c4b0af509f57a6c843ed74cbe1df5e1cf2958df5c", func := "steelyard/steelyardlaw03.DyadCompares", spec := "dyadCompares", inPlace := ["math.Float64bits", "math.Float64frombits"], recurses := true, named := ["math/bits.deBruijn32tab"], apart := false, laid := [("math/bits.deBruijn32tab", laid_math_bits_deBruijn32tab)] }
def DyadComparesSaid : Prop := dyadComparesRow.holds Tryd.pinned (OpenSpec.ofChange dyadComparesSpec)

/-- ITS FALSE NEIGHBOUR: 'it returns false'. Refute it at one input. -/
def dyadComparesWrong : ChangeSpec := { name := "dyadCompares", fn := fun _ => fun
  | [d1, d2] => { results := [.lit (.bool false)], args := [d1, d2] }
  | _ => none }
def DyadComparesWrongFalsely : Prop := dyadComparesRow.holds Tryd.pinned (OpenSpec.ofChange dyadComparesWrong)

/-- 'steelyardlaw03.DyadNear': WHATEVER THE INPUT: true; the input reads as it did. -/
def dyadNearSpec : ChangeSpec := { name := "dyadNear", fn := fun _ => fun
  | [d1, d2, d3] => { results := [.lit (.bool true)], args := [d1, d2, d3] }
  | _ => none }
def dyadNearRow : OpenClaim := { program := "ytmokomfneikipaadoor", sum := "cef607b9400c299cfa86959c4b0af509f57a6c843ed74cbe1df5e1cf2958df5c", func := "steelyard/steelyardlaw03.DyadNear", spec := "dyadNear", inPlace := ["math.Float64bits", "math.Float64frombits"], recurses := true, named := ["math/bits.deBruijn32tab"], apart := false, laid := [("math/bits.deBruijn32tab", laid_math_bits_deBruijn32tab)] }
def DyadNearSaid : Prop := dyadNearRow.holds Tryd.pinned (OpenSpec.ofChange dyadNearSpec)

/-- ITS FALSE NEIGHBOUR: 'it returns false'. Refute it at one input. -/
def dyadNearWrong : ChangeSpec := { name := "dyadNear", fn := fun _ => fun
  | [d1, d2, d3] => { results := [.lit (.bool false)], args := [d1, d2, d3] }
  | _ => none }
def DyadNearWrongFalsely : Prop := dyadNearRow.holds Tryd.pinned (OpenSpec.ofChange dyadNearWrong)

/-- 'steelyardlaw03.DyadRing': WHATEVER THE INPUT: true; the input reads as it did. -/
def dyadRingSpec : ChangeSpec := { name := "dyadRing", fn := fun _ => fun
  | [d1, d2, d3] => { results := [.lit (.bool true)], args := [d1, d2, d3] }
  | _ => none }
def dyadRingRow : OpenClaim := { program := "ytmokomfneikipaadoor", sum := "cef607b9400c299cfa86959c4b0af509f57a6c843ed74cbe1df5e1cf2958df5c", func := "steelyard/steelyardlaw03.DyadRing", spec := "dyadRing", inPlace := ["math.Float64bits", "math.Float64frombits"], recurses := true, named := ["math/bits.deBruijn32tab"], apart := false, laid := [("math/bits.deBruijn32tab", laid_math_bits_deBruijn32tab)] }
def DyadRingSaid : Prop := dyadRingRow.holds Tryd.pinned (OpenSpec.ofChange dyadRingSpec)

/-- ITS FALSE NEIGHBOUR: 'it returns false'. Refute it at one input. -/
def dyadRingWrong : ChangeSpec := { name := "dyadRing", fn := fun _ => fun
  | [d1, d2, d3] => { results := [.lit (.bool false)], args := [d1, d2, d3] }
  | _ => none }
def DyadRingWrongFalsely : Prop := dyadRingRow.holds Tryd.pinned (OpenSpec.ofChange dyadRingWrong)

/- THE SECOND FORM. 'bulk': how many values and letters a reading holds, each counted each time it is reached (what is shared counts as often as it is met; a slice's spare places count too). A statement '..UptoSaid' is the law's where the arguments, and the package variables that the reading takes, are together of bulk at most 1048576: NARROWER than '..Said'. Prove '..Said' where nothing that the law and all that it calls make is longer than what came in: it says more and counts as full. Else prove '..UptoSaid'. A law counts once. -/
mutual
def uptoBulk {H : Type} : DataW H → Nat
  | .lit (.string bytes) => bytes.length + 1
  | .lit _ => 1
  | .nil => 1
  | .ptr d => uptoBulk d + 1
  | .slice elems spare => uptoBulkAll elems + uptoBulkAll spare + 1
  | .agg parts => uptoBulkAll parts + 1
  | .iface _ d => uptoBulk d + 1
  | .map entries => uptoBulkEntries entries + 1
  | .held _ => 1
def uptoBulkAll {H : Type} : List (DataW H) → Nat
  | [] => 0
  | d :: r => uptoBulk d + uptoBulkAll r
def uptoBulkEntries {H : Type} : List (Lit × DataW H) → Nat
  | [] => 0
  | x :: r => uptoBulkEntry x + uptoBulkEntries r
def uptoBulkEntry {H : Type} : Lit × DataW H → Nat
  | (.string bytes, d) => bytes.length + uptoBulk d + 1
  | (_, d) => uptoBulk d + 1
 end
def uptoSmall : (H : Type) → List (DataW H) → Bool := fun _ ds => decide (uptoBulkAll ds ≤ 1048576)
def OpenSpec.upto (s : _root_.Go.ChangeSpec) : _root_.Go.OpenSpec := { _root_.Go.OpenSpec.ofChange s with cond := some uptoSmall }

/-- 'steelyardlaw03.DyadMakes', WHERE WHAT IT READS IS OF BULK AT MOST 1048576: true; the input reads as it did. -/
def dyadMakesUptoRow : OpenClaim := { program := "ytmokomfneikipaadoor", sum := "cef607b9400c299cfa86959c4b0af509f57a6c843ed74cbe1df5e1cf2958df5c", func := "steelyard/steelyardlaw03.DyadMakes", spec := "dyadMakes", inPlace := ["math.Float64bits", "math.Float64frombits"], named := ["math/bits.deBruijn32tab"], apart := false, laid := [("math/bits.deBruijn32tab", laid_math_bits_deBruijn32tab)], narrowed := true }
def DyadMakesUptoSaid : Prop := dyadMakesUptoRow.holds Tryd.pinned (OpenSpec.upto dyadMakesSpec)

/-- 'steelyardlaw03.DyadSums', WHERE WHAT IT READS IS OF BULK AT MOST 1048576: true; the input reads as it did. -/
def dyadSumsUptoRow : OpenClaim := { program := "ytmokomfneikipaadoor", sum := "cef607b9400c299cfa86959c4b0af509f57a6c843ed74cbe1df5e1cf2958df5c", func := "steelyard/steelyardlaw03.DyadSums", spec := "dyadSums", inPlace := ["math.Float64bits", "math.Float64frombits"], named := ["math/bits.deBruijn32tab"], apart := false, laid := [("math/bits.deBruijn32tab", laid_math_bits_deBruijn32tab)], narrowed := true }
def DyadSumsUptoSaid : Prop := dyadSumsUptoRow.holds Tryd.pinned (OpenSpec.upto dyadSumsSpec)

/-- 'steelyardlaw03.DyadRounds', WHERE WHAT IT READS IS OF BULK AT MOST 1048576: true; the input reads as it did. -/
def dyadRoundsUptoRow : OpenClaim := { program := "ytmokomfneikipaadoor", sum := "cef607b9400c299cfa86959c4b0af509f57a6c843ed74cbe1df5e1cf2958df5c", func := "steelyard/steelyardlaw03.DyadRounds", spec := "dyadRounds", inPlace := ["math.Float64bits", "math.Float64frombits", "math.Float32frombits", "math.Float32bits"], recurses := true, named := ["math/bits.deBruijn32tab"], apart := false, laid := [("math/bits.deBruijn32tab", laid_math_bits_deBruijn32tab)], narrowed := true }
def DyadRoundsUptoSaid : Prop := dyadRoundsUptoRow.holds Tryd.pinned (OpenSpec.upto dyadRoundsSpec)

/-- 'steelyardlaw03.DyadProducts', WHERE WHAT IT READS IS OF BULK AT MOST 1048576: true; the input reads as it did. -/
def dyadProductsUptoRow : OpenClaim := { program := "ytmokomfneikipaadoor", sum := "cef607b9400c299cfa86959c4b0af509f57a6c843ed74cbe1df5e1cf2958df5c", func := "steelyard/steelyardlaw03.DyadProducts", spec := "dyadProducts", inPlace := ["math.Float64bits", "math.Float64frombits"], named := ["math/bits.deBruijn32tab"], apart := false, laid := [("math/bits.deBruijn32tab", laid_math_bits_deBruijn32tab)], narrowed := true }
def DyadProductsUptoSaid : Prop := dyadProductsUptoRow.holds Tryd.pinned (OpenSpec.upto dyadProductsSpec)

/-- 'steelyardlaw03.DyadCompares', WHERE WHAT IT READS IS OF BULK AT MOST 1048576: true; the input reads as it did. -/
def dyadComparesUptoRow : OpenClaim := { program := "ytmokomfneikipaadoor", sum := "cef607b9400c299cfa86959c4b0af509f57a6c843ed74cbe1df5e1cf2958df5c", func := "steelyard/steelyardlaw03.DyadCompares", spec := "dyadCompares", inPlace := ["math.Float64bits", "math.Float64frombits"], recurses := true, named := ["math/bits.deBruijn32tab"], apart := false, laid := [("math/bits.deBruijn32tab", laid_math_bits_deBruijn32tab)], narrowed := true }
def DyadComparesUptoSaid : Prop := dyadComparesUptoRow.holds Tryd.pinned (OpenSpec.upto dyadComparesSpec)

/-- 'steelyardlaw03.DyadNear', WHERE WHAT IT READS IS OF BULK AT MOST 1048576: true; the input reads as it did. -/
def dyadNearUptoRow : OpenClaim := { program := "ytmokomfneikipaadoor", sum := "cef607b9400c299cfa86959c4b0af509f57a6c843ed74cbe1df5e1cf2958df5c", func := "steelyard/steelyardlaw03.DyadNear", spec := "dyadNear", inPlace := ["math.Float64bits", "math.Float64frombits"], recurses := true, named := ["math/bits.deBruijn32tab"], apart := false, laid := [("math/bits.deBruijn32tab", laid_math_bits_deBruijn32tab)], narrowed := true }
def DyadNearUptoSaid : Prop := dyadNearUptoRow.holds Tryd.pinned (OpenSpec.upto dyadNearSpec)

/-- 'steelyardlaw03.DyadRing', WHERE WHAT IT READS IS OF BULK AT MOST 1048576: true; the input reads as it did. -/
def dyadRingUptoRow : OpenClaim := { program := "ytmokomfneikipaadoor", sum := "cef607b9400c299cfa86959c4b0af509f57a6c843ed74cbe1df5e1cf2958df5c", func := "steelyard/steelyardlaw03.DyadRing", spec := "dyadRing", inPlace := ["math.Float64bits", "math.Float64frombits"], recurses := true, named := ["math/bits.deBruijn32tab"], apart := false, laid := [("math/bits.deBruijn32tab", laid_math_bits_deBruijn32tab)], narrowed := true }
def DyadRingUptoSaid : Prop := dyadRingUptoRow.holds Tryd.pinned (OpenSpec.upto dyadRingSpec)

end Rows
end Go.Proofs.YtmokomfneikipaaDoor
