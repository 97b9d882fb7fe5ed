/-
  NARROWER THAN 'FOR EVERY INPUT', by the rows' own cells (each row's printed sentence says how): SuperNumbers: laid · BinsAlike: laid · SuperOrder: laid · SuperUndone: laid · SumsNumbers: laid · SumsWhole: laid · SuperBetween: laid · SumsOrder: laid · SumsLong: laid · SumsNear: laid.
  DERIVED. THE GIVEN ROWS OF THIS SEAT. 10 by the template 'for every input the law returns true; each argument reads behind the call as it read before'; 0 by the template 'total and deterministic' (their statements: YthdbapibbdkclaaDoorTotals.lean).
  GIVEN WITH THE SEED: the statements are not yours to turn. If you find one false, say at which input.
  Laid BY PROGRAM, IN A SANDBOX (cutbox-rows.mjs): the forced cells as the released guide's own fill.sh prints them over the translation 99d8c218b297248e… (all of the seat's roots in one cut). By AI agents, Wed Nov 11 2026. No macro, syntax, notation, axiom, sorry.
-/
import Derived.Test.YthdbapibbdkclaaDoorChecked
import GoSem.Claim
import GoSem.ClaimJoined
import GoSem.ClaimMapViews
import Derived.JoinedTies
import Derived.KernelRfl
namespace Go.Proofs.YthdbapibbdkclaaDoor
/- THE CELL 'sum', in the pinned program and in every row, IS THE sha256 OF THE DUMP (.gsa) THAT YthdbapibbdkclaaDoorProg.lean LOADS. Nothing in Lean hashes anything: it is a label: what it is worth is what the hold of that sum in a sandbox is worth. -/
noncomputable def Tryd.pinned : Pinned := { name := "ythdbapibbdkclaadoor", sum := "99d8c218b297248eec540ebc6a4d5a5a26550e29a2a86acc723aa19049065b0b", checked := Tryd.checked }
namespace Rows
def none {H : Type} : Left H := { results := [], args := [] }

/- WHAT THE LISTED PACKAGE-LEVEL VARIABLES READ AS WHEN THE CALL BEGINS. Each datum BY PROGRAM (the guide's laid-datum.mjs) off the statement by which the dump's own 'gosem.cut.vars' lays the variable. In a bare row this is a premise. The card (YthdbapibbdkclaaDoorCards.lean) ties it to the program's text. -/
def laid_math_bits_deBruijn32tab {H : Type} : DataW H := .agg [.lit (.int .u8 0), .lit (.int .u8 1), .lit (.int .u8 28), .lit (.int .u8 2), .lit (.int .u8 29), .lit (.int .u8 14), .lit (.int .u8 24), .lit (.int .u8 3), .lit (.int .u8 30), .lit (.int .u8 22), .lit (.int .u8 20), .lit (.int .u8 15), .lit (.int .u8 25), .lit (.int .u8 17), .lit (.int .u8 4), .lit (.int .u8 8), .lit (.int .u8 31), .lit (.int .u8 27), .lit (.int .u8 13), .lit (.int .u8 23), .lit (.int .u8 21), .lit (.int .u8 19), .lit (.int .u8 16), .lit (.int .u8 7), .lit (.int .u8 26), .lit (.int .u8 12), .lit (.int .u8 18), .lit (.int .u8 6), .lit (.int .u8 11), .lit (.int .u8 5), .lit (.int .u8 10), .lit (.int .u8 9)]

/-- 'steelyardlaw07.SuperNumbers': WHATEVER THE INPUT: true; the input reads as it did. -/
def superNumbersSpec : ChangeSpec := { name := "superNumbers", fn := fun _ => fun
  | [] => { results := [.lit (.bool true)], args := [] }
  | _ => none }
def superNumbersRow : OpenClaim := { program := "ythdbapibbdkclaadoor", sum := "99d8c218b297248eec540ebc6a4d5a5a26550e29a2a86acc723aa19049065b0b", func := "steelyard/steelyardlaw07.SuperNumbers", spec := "superNumbers", inPlace := ["math.Float64bits", "math.Float64frombits", "math/bits.Sub64", "math/bits.Add64"], named := ["math/bits.deBruijn32tab"], apart := false, laid := [("math/bits.deBruijn32tab", laid_math_bits_deBruijn32tab)] }
def SuperNumbersSaid : Prop := superNumbersRow.holds Tryd.pinned (OpenSpec.ofChange superNumbersSpec)

/-- ITS FALSE NEIGHBOUR: 'it returns false'. Refute it at one input. -/
def superNumbersWrong : ChangeSpec := { name := "superNumbers", fn := fun _ => fun
  | [] => { results := [.lit (.bool false)], args := [] }
  | _ => none }
def SuperNumbersWrongFalsely : Prop := superNumbersRow.holds Tryd.pinned (OpenSpec.ofChange superNumbersWrong)

/-- 'steelyardlaw09.BinsAlike': WHATEVER THE INPUT: true; the input reads as it did. -/
def binsAlikeSpec : ChangeSpec := { name := "binsAlike", fn := fun _ => fun
  | [d1, d2, d3] => { results := [.lit (.bool true)], args := [d1, d2, d3] }
  | _ => none }
def binsAlikeRow : OpenClaim := { program := "ythdbapibbdkclaadoor", sum := "99d8c218b297248eec540ebc6a4d5a5a26550e29a2a86acc723aa19049065b0b", func := "steelyard/steelyardlaw09.BinsAlike", spec := "binsAlike", inPlace := ["math.Float64bits", "math/bits.Add64", "math/bits.Sub64", "math.Float64frombits"], unfollowed := true, recurses := true, named := ["math/bits.deBruijn32tab"], apart := false, laid := [("math/bits.deBruijn32tab", laid_math_bits_deBruijn32tab)] }
def BinsAlikeSaid : Prop := binsAlikeRow.holds Tryd.pinned (OpenSpec.ofChange binsAlikeSpec)

/-- ITS FALSE NEIGHBOUR: 'it returns false'. Refute it at one input. -/
def binsAlikeWrong : ChangeSpec := { name := "binsAlike", fn := fun _ => fun
  | [d1, d2, d3] => { results := [.lit (.bool false)], args := [d1, d2, d3] }
  | _ => none }
def BinsAlikeWrongFalsely : Prop := binsAlikeRow.holds Tryd.pinned (OpenSpec.ofChange binsAlikeWrong)

/-- 'steelyardlaw07.SuperOrder': WHATEVER THE INPUT: true; the input reads as it did. -/
def superOrderSpec : ChangeSpec := { name := "superOrder", fn := fun _ => fun
  | [d1, d2, d3, d4] => { results := [.lit (.bool true)], args := [d1, d2, d3, d4] }
  | _ => none }
def superOrderRow : OpenClaim := { program := "ythdbapibbdkclaadoor", sum := "99d8c218b297248eec540ebc6a4d5a5a26550e29a2a86acc723aa19049065b0b", func := "steelyard/steelyardlaw07.SuperOrder", spec := "superOrder", inPlace := ["math.Float64bits", "math.Float64frombits", "math/bits.Sub64", "math/bits.Add64"], named := ["math/bits.deBruijn32tab"], apart := false, laid := [("math/bits.deBruijn32tab", laid_math_bits_deBruijn32tab)] }
def SuperOrderSaid : Prop := superOrderRow.holds Tryd.pinned (OpenSpec.ofChange superOrderSpec)

/-- ITS FALSE NEIGHBOUR: 'it returns false'. Refute it at one input. -/
def superOrderWrong : ChangeSpec := { name := "superOrder", fn := fun _ => fun
  | [d1, d2, d3, d4] => { results := [.lit (.bool false)], args := [d1, d2, d3, d4] }
  | _ => none }
def SuperOrderWrongFalsely : Prop := superOrderRow.holds Tryd.pinned (OpenSpec.ofChange superOrderWrong)

/-- 'steelyardlaw07.SuperUndone': WHATEVER THE INPUT: true; the input reads as it did. -/
def superUndoneSpec : ChangeSpec := { name := "superUndone", fn := fun _ => fun
  | [d1, d2, d3, d4] => { results := [.lit (.bool true)], args := [d1, d2, d3, d4] }
  | _ => none }
def superUndoneRow : OpenClaim := { program := "ythdbapibbdkclaadoor", sum := "99d8c218b297248eec540ebc6a4d5a5a26550e29a2a86acc723aa19049065b0b", func := "steelyard/steelyardlaw07.SuperUndone", spec := "superUndone", inPlace := ["math.Float64bits", "math.Float64frombits", "math/bits.Sub64", "math/bits.Add64"], named := ["math/bits.deBruijn32tab"], apart := false, laid := [("math/bits.deBruijn32tab", laid_math_bits_deBruijn32tab)] }
def SuperUndoneSaid : Prop := superUndoneRow.holds Tryd.pinned (OpenSpec.ofChange superUndoneSpec)

/-- ITS FALSE NEIGHBOUR: 'it returns false'. Refute it at one input. -/
def superUndoneWrong : ChangeSpec := { name := "superUndone", fn := fun _ => fun
  | [d1, d2, d3, d4] => { results := [.lit (.bool false)], args := [d1, d2, d3, d4] }
  | _ => none }
def SuperUndoneWrongFalsely : Prop := superUndoneRow.holds Tryd.pinned (OpenSpec.ofChange superUndoneWrong)

/-- 'steelyardlaw10.SumsNumbers': WHATEVER THE INPUT: true; the input reads as it did. -/
def sumsNumbersSpec : ChangeSpec := { name := "sumsNumbers", fn := fun _ => fun
  | [] => { results := [.lit (.bool true)], args := [] }
  | _ => none }
def sumsNumbersRow : OpenClaim := { program := "ythdbapibbdkclaadoor", sum := "99d8c218b297248eec540ebc6a4d5a5a26550e29a2a86acc723aa19049065b0b", func := "steelyard/steelyardlaw10.SumsNumbers", spec := "sumsNumbers", inPlace := ["math.Float64bits", "math.Float64frombits", "math/bits.Sub64", "math/bits.Add64"], unfollowed := true, recurses := true, named := ["math/bits.deBruijn32tab"], apart := false, laid := [("math/bits.deBruijn32tab", laid_math_bits_deBruijn32tab)] }
def SumsNumbersSaid : Prop := sumsNumbersRow.holds Tryd.pinned (OpenSpec.ofChange sumsNumbersSpec)

/-- ITS FALSE NEIGHBOUR: 'it returns false'. Refute it at one input. -/
def sumsNumbersWrong : ChangeSpec := { name := "sumsNumbers", fn := fun _ => fun
  | [] => { results := [.lit (.bool false)], args := [] }
  | _ => none }
def SumsNumbersWrongFalsely : Prop := sumsNumbersRow.holds Tryd.pinned (OpenSpec.ofChange sumsNumbersWrong)

/-- 'steelyardlaw10.SumsWhole': WHATEVER THE INPUT: true; the input reads as it did. -/
def sumsWholeSpec : ChangeSpec := { name := "sumsWhole", fn := fun _ => fun
  | [d1, d2] => { results := [.lit (.bool true)], args := [d1, d2] }
  | _ => none }
def sumsWholeRow : OpenClaim := { program := "ythdbapibbdkclaadoor", sum := "99d8c218b297248eec540ebc6a4d5a5a26550e29a2a86acc723aa19049065b0b", func := "steelyard/steelyardlaw10.SumsWhole", spec := "sumsWhole", inPlace := ["math.Float64bits", "math.Float64frombits", "math/bits.Sub64", "math/bits.Add64"], unfollowed := true, recurses := true, named := ["math/bits.deBruijn32tab"], apart := false, laid := [("math/bits.deBruijn32tab", laid_math_bits_deBruijn32tab)] }
def SumsWholeSaid : Prop := sumsWholeRow.holds Tryd.pinned (OpenSpec.ofChange sumsWholeSpec)

/-- ITS FALSE NEIGHBOUR: 'it returns false'. Refute it at one input. -/
def sumsWholeWrong : ChangeSpec := { name := "sumsWhole", fn := fun _ => fun
  | [d1, d2] => { results := [.lit (.bool false)], args := [d1, d2] }
  | _ => none }
def SumsWholeWrongFalsely : Prop := sumsWholeRow.holds Tryd.pinned (OpenSpec.ofChange sumsWholeWrong)

/-- 'steelyardlaw07.SuperBetween': WHATEVER THE INPUT: true; the input reads as it did. -/
def superBetweenSpec : ChangeSpec := { name := "superBetween", fn := fun _ => fun
  | [d1, d2] => { results := [.lit (.bool true)], args := [d1, d2] }
  | _ => none }
def superBetweenRow : OpenClaim := { program := "ythdbapibbdkclaadoor", sum := "99d8c218b297248eec540ebc6a4d5a5a26550e29a2a86acc723aa19049065b0b", func := "steelyard/steelyardlaw07.SuperBetween", spec := "superBetween", inPlace := ["math.Float64bits", "math.Float64frombits", "math/bits.Sub64", "math/bits.Add64"], recurses := true, named := ["math/bits.deBruijn32tab"], apart := false, laid := [("math/bits.deBruijn32tab", laid_math_bits_deBruijn32tab)] }
def SuperBetweenSaid : Prop := superBetweenRow.holds Tryd.pinned (OpenSpec.ofChange superBetweenSpec)

/-- ITS FALSE NEIGHBOUR: 'it returns false'. Refute it at one input. -/
def superBetweenWrong : ChangeSpec := { name := "superBetween", fn := fun _ => fun
  | [d1, d2] => { results := [.lit (.bool false)], args := [d1, d2] }
  | _ => none }
def SuperBetweenWrongFalsely : Prop := superBetweenRow.holds Tryd.pinned (OpenSpec.ofChange superBetweenWrong)

/-- 'steelyardlaw10.SumsOrder': WHATEVER THE INPUT: true; the input reads as it did. -/
def sumsOrderSpec : ChangeSpec := { name := "sumsOrder", fn := fun _ => fun
  | [d1, d2, d3, d4, d5] => { results := [.lit (.bool true)], args := [d1, d2, d3, d4, d5] }
  | _ => none }
def sumsOrderRow : OpenClaim := { program := "ythdbapibbdkclaadoor", sum := "99d8c218b297248eec540ebc6a4d5a5a26550e29a2a86acc723aa19049065b0b", func := "steelyard/steelyardlaw10.SumsOrder", spec := "sumsOrder", inPlace := ["math.Float64bits", "math.Float64frombits", "math/bits.Sub64", "math/bits.Add64"], unfollowed := true, recurses := true, named := ["math/bits.deBruijn32tab"], apart := false, laid := [("math/bits.deBruijn32tab", laid_math_bits_deBruijn32tab)] }
def SumsOrderSaid : Prop := sumsOrderRow.holds Tryd.pinned (OpenSpec.ofChange sumsOrderSpec)

/-- ITS FALSE NEIGHBOUR: 'it returns false'. Refute it at one input. -/
def sumsOrderWrong : ChangeSpec := { name := "sumsOrder", fn := fun _ => fun
  | [d1, d2, d3, d4, d5] => { results := [.lit (.bool false)], args := [d1, d2, d3, d4, d5] }
  | _ => none }
def SumsOrderWrongFalsely : Prop := sumsOrderRow.holds Tryd.pinned (OpenSpec.ofChange sumsOrderWrong)

/-- 'steelyardlaw10.SumsLong': WHATEVER THE INPUT: true; the input reads as it did. -/
def sumsLongSpec : ChangeSpec := { name := "sumsLong", fn := fun _ => fun
  | [d1, d2] => { results := [.lit (.bool true)], args := [d1, d2] }
  | _ => none }
def sumsLongRow : OpenClaim := { program := "ythdbapibbdkclaadoor", sum := "99d8c218b297248eec540ebc6a4d5a5a26550e29a2a86acc723aa19049065b0b", func := "steelyard/steelyardlaw10.SumsLong", spec := "sumsLong", inPlace := ["math.Float64bits", "math.Float64frombits", "math/bits.Sub64", "math/bits.Add64"], unfollowed := true, recurses := true, named := ["math/bits.deBruijn32tab"], apart := false, laid := [("math/bits.deBruijn32tab", laid_math_bits_deBruijn32tab)] }
def SumsLongSaid : Prop := sumsLongRow.holds Tryd.pinned (OpenSpec.ofChange sumsLongSpec)

/-- ITS FALSE NEIGHBOUR: 'it returns false'. Refute it at one input. -/
def sumsLongWrong : ChangeSpec := { name := "sumsLong", fn := fun _ => fun
  | [d1, d2] => { results := [.lit (.bool false)], args := [d1, d2] }
  | _ => none }
def SumsLongWrongFalsely : Prop := sumsLongRow.holds Tryd.pinned (OpenSpec.ofChange sumsLongWrong)

/-- 'steelyardlaw10.SumsNear': WHATEVER THE INPUT: true; the input reads as it did. -/
def sumsNearSpec : ChangeSpec := { name := "sumsNear", fn := fun _ => fun
  | [d1, d2] => { results := [.lit (.bool true)], args := [d1, d2] }
  | _ => none }
def sumsNearRow : OpenClaim := { program := "ythdbapibbdkclaadoor", sum := "99d8c218b297248eec540ebc6a4d5a5a26550e29a2a86acc723aa19049065b0b", func := "steelyard/steelyardlaw10.SumsNear", spec := "sumsNear", inPlace := ["math.Float64bits", "math.Float64frombits", "math/bits.Sub64", "math/bits.Add64"], unfollowed := true, recurses := true, named := ["math/bits.deBruijn32tab"], apart := false, laid := [("math/bits.deBruijn32tab", laid_math_bits_deBruijn32tab)] }
def SumsNearSaid : Prop := sumsNearRow.holds Tryd.pinned (OpenSpec.ofChange sumsNearSpec)

/-- ITS FALSE NEIGHBOUR: 'it returns false'. Refute it at one input. -/
def sumsNearWrong : ChangeSpec := { name := "sumsNear", fn := fun _ => fun
  | [d1, d2] => { results := [.lit (.bool false)], args := [d1, d2] }
  | _ => none }
def SumsNearWrongFalsely : Prop := sumsNearRow.holds Tryd.pinned (OpenSpec.ofChange sumsNearWrong)

/- THE SECOND FORM. 'bulk': how many values and letters a reading holds, each counted each time it is reached (what is shared counts as often as it is met; a slice's spare places count too). A statement '..UptoSaid' is the law's where the arguments, and the package variables that the reading takes, are together of bulk at most 1048576: NARROWER than '..Said'. Prove '..Said' where nothing that the law and all that it calls make is longer than what came in: it says more and counts as full. Else prove '..UptoSaid'. A law counts once. -/
mutual
def uptoBulk {H : Type} : DataW H → Nat
  | .lit (.string bytes) => bytes.length + 1
  | .lit _ => 1
  | .nil => 1
  | .ptr d => uptoBulk d + 1
  | .slice elems spare => uptoBulkAll elems + uptoBulkAll spare + 1
  | .agg parts => uptoBulkAll parts + 1
  | .iface _ d => uptoBulk d + 1
  | .map entries => uptoBulkEntries entries + 1
  | .held _ => 1
def uptoBulkAll {H : Type} : List (DataW H) → Nat
  | [] => 0
  | d :: r => uptoBulk d + uptoBulkAll r
def uptoBulkEntries {H : Type} : List (Lit × DataW H) → Nat
  | [] => 0
  | x :: r => uptoBulkEntry x + uptoBulkEntries r
def uptoBulkEntry {H : Type} : Lit × DataW H → Nat
  | (.string bytes, d) => bytes.length + uptoBulk d + 1
  | (_, d) => uptoBulk d + 1
 end
def uptoSmall : (H : Type) → List (DataW H) → Bool := fun _ ds => decide (uptoBulkAll ds ≤ 1048576)
def OpenSpec.upto (s : _root_.Go.ChangeSpec) : _root_.Go.OpenSpec := { _root_.Go.OpenSpec.ofChange s with cond := some uptoSmall }

/-- 'steelyardlaw07.SuperNumbers', WHERE WHAT IT READS IS OF BULK AT MOST 1048576: true; the input reads as it did. -/
def superNumbersUptoRow : OpenClaim := { program := "ythdbapibbdkclaadoor", sum := "99d8c218b297248eec540ebc6a4d5a5a26550e29a2a86acc723aa19049065b0b", func := "steelyard/steelyardlaw07.SuperNumbers", spec := "superNumbers", inPlace := ["math.Float64bits", "math.Float64frombits", "math/bits.Sub64", "math/bits.Add64"], named := ["math/bits.deBruijn32tab"], apart := false, laid := [("math/bits.deBruijn32tab", laid_math_bits_deBruijn32tab)], narrowed := true }
def SuperNumbersUptoSaid : Prop := superNumbersUptoRow.holds Tryd.pinned (OpenSpec.upto superNumbersSpec)

/-- 'steelyardlaw09.BinsAlike', WHERE WHAT IT READS IS OF BULK AT MOST 1048576: true; the input reads as it did. -/
def binsAlikeUptoRow : OpenClaim := { program := "ythdbapibbdkclaadoor", sum := "99d8c218b297248eec540ebc6a4d5a5a26550e29a2a86acc723aa19049065b0b", func := "steelyard/steelyardlaw09.BinsAlike", spec := "binsAlike", inPlace := ["math.Float64bits", "math/bits.Add64", "math/bits.Sub64", "math.Float64frombits"], unfollowed := true, recurses := true, named := ["math/bits.deBruijn32tab"], apart := false, laid := [("math/bits.deBruijn32tab", laid_math_bits_deBruijn32tab)], narrowed := true }
def BinsAlikeUptoSaid : Prop := binsAlikeUptoRow.holds Tryd.pinned (OpenSpec.upto binsAlikeSpec)

/-- 'steelyardlaw07.SuperOrder', WHERE WHAT IT READS IS OF BULK AT MOST 1048576: true; the input reads as it did. -/
def superOrderUptoRow : OpenClaim := { program := "ythdbapibbdkclaadoor", sum := "99d8c218b297248eec540ebc6a4d5a5a26550e29a2a86acc723aa19049065b0b", func := "steelyard/steelyardlaw07.SuperOrder", spec := "superOrder", inPlace := ["math.Float64bits", "math.Float64frombits", "math/bits.Sub64", "math/bits.Add64"], named := ["math/bits.deBruijn32tab"], apart := false, laid := [("math/bits.deBruijn32tab", laid_math_bits_deBruijn32tab)], narrowed := true }
def SuperOrderUptoSaid : Prop := superOrderUptoRow.holds Tryd.pinned (OpenSpec.upto superOrderSpec)

/-- 'steelyardlaw07.SuperUndone', WHERE WHAT IT READS IS OF BULK AT MOST 1048576: true; the input reads as it did. -/
def superUndoneUptoRow : OpenClaim := { program := "ythdbapibbdkclaadoor", sum := "99d8c218b297248eec540ebc6a4d5a5a26550e29a2a86acc723aa19049065b0b", func := "steelyard/steelyardlaw07.SuperUndone", spec := "superUndone", inPlace := ["math.Float64bits", "math.Float64frombits", "math/bits.Sub64", "math/bits.Add64"], named := ["math/bits.deBruijn32tab"], apart := false, laid := [("math/bits.deBruijn32tab", laid_math_bits_deBruijn32tab)], narrowed := true }
def SuperUndoneUptoSaid : Prop := superUndoneUptoRow.holds Tryd.pinned (OpenSpec.upto superUndoneSpec)

/-- 'steelyardlaw10.SumsNumbers', WHERE WHAT IT READS IS OF BULK AT MOST 1048576: true; the input reads as it did. -/
def sumsNumbersUptoRow : OpenClaim := { program := "ythdbapibbdkclaadoor", sum := "99d8c218b297248eec540ebc6a4d5a5a26550e29a2a86acc723aa19049065b0b", func := "steelyard/steelyardlaw10.SumsNumbers", spec := "sumsNumbers", inPlace := ["math.Float64bits", "math.Float64frombits", "math/bits.Sub64", "math/bits.Add64"], unfollowed := true, recurses := true, named := ["math/bits.deBruijn32tab"], apart := false, laid := [("math/bits.deBruijn32tab", laid_math_bits_deBruijn32tab)], narrowed := true }
def SumsNumbersUptoSaid : Prop := sumsNumbersUptoRow.holds Tryd.pinned (OpenSpec.upto sumsNumbersSpec)

/-- 'steelyardlaw10.SumsWhole', WHERE WHAT IT READS IS OF BULK AT MOST 1048576: true; the input reads as it did. -/
def sumsWholeUptoRow : OpenClaim := { program := "ythdbapibbdkclaadoor", sum := "99d8c218b297248eec540ebc6a4d5a5a26550e29a2a86acc723aa19049065b0b", func := "steelyard/steelyardlaw10.SumsWhole", spec := "sumsWhole", inPlace := ["math.Float64bits", "math.Float64frombits", "math/bits.Sub64", "math/bits.Add64"], unfollowed := true, recurses := true, named := ["math/bits.deBruijn32tab"], apart := false, laid := [("math/bits.deBruijn32tab", laid_math_bits_deBruijn32tab)], narrowed := true }
def SumsWholeUptoSaid : Prop := sumsWholeUptoRow.holds Tryd.pinned (OpenSpec.upto sumsWholeSpec)

/-- 'steelyardlaw07.SuperBetween', WHERE WHAT IT READS IS OF BULK AT MOST 1048576: true; the input reads as it did. -/
def superBetweenUptoRow : OpenClaim := { program := "ythdbapibbdkclaadoor", sum := "99d8c218b297248eec540ebc6a4d5a5a26550e29a2a86acc723aa19049065b0b", func := "steelyard/steelyardlaw07.SuperBetween", spec := "superBetween", inPlace := ["math.Float64bits", "math.Float64frombits", "math/bits.Sub64", "math/bits.Add64"], recurses := true, named := ["math/bits.deBruijn32tab"], apart := false, laid := [("math/bits.deBruijn32tab", laid_math_bits_deBruijn32tab)], narrowed := true }
def SuperBetweenUptoSaid : Prop := superBetweenUptoRow.holds Tryd.pinned (OpenSpec.upto superBetweenSpec)

/-- 'steelyardlaw10.SumsOrder', WHERE WHAT IT READS IS OF BULK AT MOST 1048576: true; the input reads as it did. -/
def sumsOrderUptoRow : OpenClaim := { program := "ythdbapibbdkclaadoor", sum := "99d8c218b297248eec540ebc6a4d5a5a26550e29a2a86acc723aa19049065b0b", func := "steelyard/steelyardlaw10.SumsOrder", spec := "sumsOrder", inPlace := ["math.Float64bits", "math.Float64frombits", "math/bits.Sub64", "math/bits.Add64"], unfollowed := true, recurses := true, named := ["math/bits.deBruijn32tab"], apart := false, laid := [("math/bits.deBruijn32tab", laid_math_bits_deBruijn32tab)], narrowed := true }
def SumsOrderUptoSaid : Prop := sumsOrderUptoRow.holds Tryd.pinned (OpenSpec.upto sumsOrderSpec)

/-- 'steelyardlaw10.SumsLong', WHERE WHAT IT READS IS OF BULK AT MOST 1048576: true; the input reads as it did. -/
def sumsLongUptoRow : OpenClaim := { program := "ythdbapibbdkclaadoor", sum := "99d8c218b297248eec540ebc6a4d5a5a26550e29a2a86acc723aa19049065b0b", func := "steelyard/steelyardlaw10.SumsLong", spec := "sumsLong", inPlace := ["math.Float64bits", "math.Float64frombits", "math/bits.Sub64", "math/bits.Add64"], unfollowed := true, recurses := true, named := ["math/bits.deBruijn32tab"], apart := false, laid := [("math/bits.deBruijn32tab", laid_math_bits_deBruijn32tab)], narrowed := true }
def SumsLongUptoSaid : Prop := sumsLongUptoRow.holds Tryd.pinned (OpenSpec.upto sumsLongSpec)

/-- 'steelyardlaw10.SumsNear', WHERE WHAT IT READS IS OF BULK AT MOST 1048576: true; the input reads as it did. -/
def sumsNearUptoRow : OpenClaim := { program := "ythdbapibbdkclaadoor", sum := "99d8c218b297248eec540ebc6a4d5a5a26550e29a2a86acc723aa19049065b0b", func := "steelyard/steelyardlaw10.SumsNear", spec := "sumsNear", inPlace := ["math.Float64bits", "math.Float64frombits", "math/bits.Sub64", "math/bits.Add64"], unfollowed := true, recurses := true, named := ["math/bits.deBruijn32tab"], apart := false, laid := [("math/bits.deBruijn32tab", laid_math_bits_deBruijn32tab)], narrowed := true }
def SumsNearUptoSaid : Prop := sumsNearUptoRow.holds Tryd.pinned (OpenSpec.upto sumsNearSpec)

end Rows
end Go.Proofs.YthdbapibbdkclaaDoor
