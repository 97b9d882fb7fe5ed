/-
  NARROWER THAN 'FOR EVERY INPUT', by the rows' own cells (each row's printed sentence says how): BinsPlays: laid · SuperScript: laid · MomentNumbers: laid · MomentVars: laid · MomentTwo: laid · MomentOf: laid · MomentLaws: laid · DotDots: laid · DotNorms: laid · DotPolys: laid · DotNear: laid · DotOrder: laid.
  DERIVED. THE GIVEN ROWS OF THIS SEAT. 12 by the template 'for every input the law returns true; each argument reads behind the call as it read before'; 0 by the template 'total and deterministic' (their statements: YteahdgbokjbgcaaGreatDoorTotals.lean).
  GIVEN WITH THE SEED: the statements are not yours to turn. If you find one false, say at which input.
  Laid BY PROGRAM, IN A SANDBOX (cutbox-rows.mjs): the forced cells as the released guide's own fill.sh prints them over the translation 4a14507fec85f89e… (all of the seat's roots in one cut). By AI agents, Wed Nov 11 2026. No macro, syntax, notation, axiom, sorry.
-/
import Derived.Test.YteahdgbokjbgcaaGreatDoorChecked
import GoSem.Claim
import GoSem.ClaimJoined
import GoSem.ClaimMapViews
import Derived.JoinedTies
import Derived.KernelRfl
namespace Go.Proofs.YteahdgbokjbgcaaGreatDoor
/- THE CELL 'sum', in the pinned program and in every row, IS THE sha256 OF THE DUMP (.gsa) THAT YteahdgbokjbgcaaGreatDoorProg.lean LOADS. Nothing in Lean hashes anything: it is a label: what it is worth is what the hold of that sum in a sandbox is worth. -/
noncomputable def Tryz.pinned : Pinned := { name := "yteahdgbokjbgcaagreatdoor", sum := "4a14507fec85f89e8d44e05188da9107e8aef143fd5cdfa651f89ff622641ce9", checked := Tryz.checked }
namespace Rows
def none {H : Type} : Left H := { results := [], args := [] }

/- WHAT THE LISTED PACKAGE-LEVEL VARIABLES READ AS WHEN THE CALL BEGINS. Each datum BY PROGRAM (the guide's laid-datum.mjs) off the statement by which the dump's own 'gosem.cut.vars' lays the variable. In a bare row this is a premise. The card (YteahdgbokjbgcaaGreatDoorCards.lean) ties it to the program's text. -/
def laid_math_bits_deBruijn32tab {H : Type} : DataW H := .agg [.lit (.int .u8 0), .lit (.int .u8 1), .lit (.int .u8 28), .lit (.int .u8 2), .lit (.int .u8 29), .lit (.int .u8 14), .lit (.int .u8 24), .lit (.int .u8 3), .lit (.int .u8 30), .lit (.int .u8 22), .lit (.int .u8 20), .lit (.int .u8 15), .lit (.int .u8 25), .lit (.int .u8 17), .lit (.int .u8 4), .lit (.int .u8 8), .lit (.int .u8 31), .lit (.int .u8 27), .lit (.int .u8 13), .lit (.int .u8 23), .lit (.int .u8 21), .lit (.int .u8 19), .lit (.int .u8 16), .lit (.int .u8 7), .lit (.int .u8 26), .lit (.int .u8 12), .lit (.int .u8 18), .lit (.int .u8 6), .lit (.int .u8 11), .lit (.int .u8 5), .lit (.int .u8 10), .lit (.int .u8 9)]

/-- 'steelyardlaw09.BinsPlays': WHATEVER THE INPUT: true; the input reads as it did. -/
def binsPlaysSpec : ChangeSpec := { name := "binsPlays", fn := fun _ => fun
  | [d1, d2] => { results := [.lit (.bool true)], args := [d1, d2] }
  | _ => none }
def binsPlaysRow : OpenClaim := { program := "yteahdgbokjbgcaagreatdoor", sum := "4a14507fec85f89e8d44e05188da9107e8aef143fd5cdfa651f89ff622641ce9", func := "steelyard/steelyardlaw09.BinsPlays", spec := "binsPlays", inPlace := ["math.Float64bits", "math/bits.Add64", "math/bits.Sub64", "math.Float64frombits"], unfollowed := true, recurses := true, named := ["math/bits.deBruijn32tab"], apart := false, laid := [("math/bits.deBruijn32tab", laid_math_bits_deBruijn32tab)] }
def BinsPlaysSaid : Prop := binsPlaysRow.holds Tryz.pinned (OpenSpec.ofChange binsPlaysSpec)

/-- ITS FALSE NEIGHBOUR: 'it returns false'. Refute it at one input. -/
def binsPlaysWrong : ChangeSpec := { name := "binsPlays", fn := fun _ => fun
  | [d1, d2] => { results := [.lit (.bool false)], args := [d1, d2] }
  | _ => none }
def BinsPlaysWrongFalsely : Prop := binsPlaysRow.holds Tryz.pinned (OpenSpec.ofChange binsPlaysWrong)

/-- 'steelyardlaw07.SuperScript': WHATEVER THE INPUT: true; the input reads as it did. -/
def superScriptSpec : ChangeSpec := { name := "superScript", fn := fun _ => fun
  | [d] => { results := [.lit (.bool true)], args := [d] }
  | _ => none }
def superScriptRow : OpenClaim := { program := "yteahdgbokjbgcaagreatdoor", sum := "4a14507fec85f89e8d44e05188da9107e8aef143fd5cdfa651f89ff622641ce9", func := "steelyard/steelyardlaw07.SuperScript", spec := "superScript", inPlace := ["math.Float64bits", "math.Float64frombits", "math/bits.Sub64", "math/bits.Add64", "math.Float32frombits", "math.Float32bits"], recurses := true, named := ["math/bits.deBruijn32tab"], apart := false, laid := [("math/bits.deBruijn32tab", laid_math_bits_deBruijn32tab)] }
def SuperScriptSaid : Prop := superScriptRow.holds Tryz.pinned (OpenSpec.ofChange superScriptSpec)

/-- ITS FALSE NEIGHBOUR: 'it returns false'. Refute it at one input. -/
def superScriptWrong : ChangeSpec := { name := "superScript", fn := fun _ => fun
  | [d] => { results := [.lit (.bool false)], args := [d] }
  | _ => none }
def SuperScriptWrongFalsely : Prop := superScriptRow.holds Tryz.pinned (OpenSpec.ofChange superScriptWrong)

/-- 'steelyardlaw14.MomentNumbers': WHATEVER THE INPUT: true; the input reads as it did. -/
def momentNumbersSpec : ChangeSpec := { name := "momentNumbers", fn := fun _ => fun
  | [] => { results := [.lit (.bool true)], args := [] }
  | _ => none }
def momentNumbersRow : OpenClaim := { program := "yteahdgbokjbgcaagreatdoor", sum := "4a14507fec85f89e8d44e05188da9107e8aef143fd5cdfa651f89ff622641ce9", func := "steelyard/steelyardlaw14.MomentNumbers", spec := "momentNumbers", inPlace := ["math.Float64bits", "math.Float64frombits"], unfollowed := true, recurses := true, named := ["math/bits.deBruijn32tab"], apart := false, laid := [("math/bits.deBruijn32tab", laid_math_bits_deBruijn32tab)] }
def MomentNumbersSaid : Prop := momentNumbersRow.holds Tryz.pinned (OpenSpec.ofChange momentNumbersSpec)

/-- ITS FALSE NEIGHBOUR: 'it returns false'. Refute it at one input. -/
def momentNumbersWrong : ChangeSpec := { name := "momentNumbers", fn := fun _ => fun
  | [] => { results := [.lit (.bool false)], args := [] }
  | _ => none }
def MomentNumbersWrongFalsely : Prop := momentNumbersRow.holds Tryz.pinned (OpenSpec.ofChange momentNumbersWrong)

/-- 'steelyardlaw14.MomentVars': WHATEVER THE INPUT: true; the input reads as it did. -/
def momentVarsSpec : ChangeSpec := { name := "momentVars", fn := fun _ => fun
  | [d1, d2, d3, d4] => { results := [.lit (.bool true)], args := [d1, d2, d3, d4] }
  | _ => none }
def momentVarsRow : OpenClaim := { program := "yteahdgbokjbgcaagreatdoor", sum := "4a14507fec85f89e8d44e05188da9107e8aef143fd5cdfa651f89ff622641ce9", func := "steelyard/steelyardlaw14.MomentVars", spec := "momentVars", inPlace := ["math.Float64bits", "math.Float64frombits"], unfollowed := true, recurses := true, named := ["math/bits.deBruijn32tab"], apart := false, laid := [("math/bits.deBruijn32tab", laid_math_bits_deBruijn32tab)] }
def MomentVarsSaid : Prop := momentVarsRow.holds Tryz.pinned (OpenSpec.ofChange momentVarsSpec)

/-- ITS FALSE NEIGHBOUR: 'it returns false'. Refute it at one input. -/
def momentVarsWrong : ChangeSpec := { name := "momentVars", fn := fun _ => fun
  | [d1, d2, d3, d4] => { results := [.lit (.bool false)], args := [d1, d2, d3, d4] }
  | _ => none }
def MomentVarsWrongFalsely : Prop := momentVarsRow.holds Tryz.pinned (OpenSpec.ofChange momentVarsWrong)

/-- 'steelyardlaw14.MomentTwo': WHATEVER THE INPUT: true; the input reads as it did. -/
def momentTwoSpec : ChangeSpec := { name := "momentTwo", fn := fun _ => fun
  | [d1, d2, d3, d4, d5] => { results := [.lit (.bool true)], args := [d1, d2, d3, d4, d5] }
  | _ => none }
def momentTwoRow : OpenClaim := { program := "yteahdgbokjbgcaagreatdoor", sum := "4a14507fec85f89e8d44e05188da9107e8aef143fd5cdfa651f89ff622641ce9", func := "steelyard/steelyardlaw14.MomentTwo", spec := "momentTwo", inPlace := ["math.Float64bits", "math.Float64frombits"], unfollowed := true, recurses := true, named := ["math/bits.deBruijn32tab"], apart := false, laid := [("math/bits.deBruijn32tab", laid_math_bits_deBruijn32tab)] }
def MomentTwoSaid : Prop := momentTwoRow.holds Tryz.pinned (OpenSpec.ofChange momentTwoSpec)

/-- ITS FALSE NEIGHBOUR: 'it returns false'. Refute it at one input. -/
def momentTwoWrong : ChangeSpec := { name := "momentTwo", fn := fun _ => fun
  | [d1, d2, d3, d4, d5] => { results := [.lit (.bool false)], args := [d1, d2, d3, d4, d5] }
  | _ => none }
def MomentTwoWrongFalsely : Prop := momentTwoRow.holds Tryz.pinned (OpenSpec.ofChange momentTwoWrong)

/-- 'steelyardlaw14.MomentOf': WHATEVER THE INPUT: true; the input reads as it did. -/
def momentOfSpec : ChangeSpec := { name := "momentOf", fn := fun _ => fun
  | [d1, d2, d3, d4, d5] => { results := [.lit (.bool true)], args := [d1, d2, d3, d4, d5] }
  | _ => none }
def momentOfRow : OpenClaim := { program := "yteahdgbokjbgcaagreatdoor", sum := "4a14507fec85f89e8d44e05188da9107e8aef143fd5cdfa651f89ff622641ce9", func := "steelyard/steelyardlaw14.MomentOf", spec := "momentOf", inPlace := ["math.Float64bits", "math.Float64frombits"], unfollowed := true, recurses := true, named := ["math/bits.deBruijn32tab"], apart := false, laid := [("math/bits.deBruijn32tab", laid_math_bits_deBruijn32tab)] }
def MomentOfSaid : Prop := momentOfRow.holds Tryz.pinned (OpenSpec.ofChange momentOfSpec)

/-- ITS FALSE NEIGHBOUR: 'it returns false'. Refute it at one input. -/
def momentOfWrong : ChangeSpec := { name := "momentOf", fn := fun _ => fun
  | [d1, d2, d3, d4, d5] => { results := [.lit (.bool false)], args := [d1, d2, d3, d4, d5] }
  | _ => none }
def MomentOfWrongFalsely : Prop := momentOfRow.holds Tryz.pinned (OpenSpec.ofChange momentOfWrong)

/-- 'steelyardlaw14.MomentLaws': WHATEVER THE INPUT: true; the input reads as it did. -/
def momentLawsSpec : ChangeSpec := { name := "momentLaws", fn := fun _ => fun
  | [d1, d2, d3, d4, d5] => { results := [.lit (.bool true)], args := [d1, d2, d3, d4, d5] }
  | _ => none }
def momentLawsRow : OpenClaim := { program := "yteahdgbokjbgcaagreatdoor", sum := "4a14507fec85f89e8d44e05188da9107e8aef143fd5cdfa651f89ff622641ce9", func := "steelyard/steelyardlaw14.MomentLaws", spec := "momentLaws", inPlace := ["math.Float64bits", "math.Float64frombits"], unfollowed := true, recurses := true, named := ["math/bits.deBruijn32tab"], apart := false, laid := [("math/bits.deBruijn32tab", laid_math_bits_deBruijn32tab)] }
def MomentLawsSaid : Prop := momentLawsRow.holds Tryz.pinned (OpenSpec.ofChange momentLawsSpec)

/-- ITS FALSE NEIGHBOUR: 'it returns false'. Refute it at one input. -/
def momentLawsWrong : ChangeSpec := { name := "momentLaws", fn := fun _ => fun
  | [d1, d2, d3, d4, d5] => { results := [.lit (.bool false)], args := [d1, d2, d3, d4, d5] }
  | _ => none }
def MomentLawsWrongFalsely : Prop := momentLawsRow.holds Tryz.pinned (OpenSpec.ofChange momentLawsWrong)

/-- 'steelyardlaw12.DotDots': WHATEVER THE INPUT: true; the input reads as it did. -/
def dotDotsSpec : ChangeSpec := { name := "dotDots", fn := fun _ => fun
  | [d1, d2, d3, d4] => { results := [.lit (.bool true)], args := [d1, d2, d3, d4] }
  | _ => none }
def dotDotsRow : OpenClaim := { program := "yteahdgbokjbgcaagreatdoor", sum := "4a14507fec85f89e8d44e05188da9107e8aef143fd5cdfa651f89ff622641ce9", func := "steelyard/steelyardlaw12.DotDots", spec := "dotDots", inPlace := ["math.Float64bits", "math/bits.Sub64", "math/bits.Add64", "math.Float64frombits"], unfollowed := true, recurses := true, named := ["math/bits.deBruijn32tab"], apart := false, laid := [("math/bits.deBruijn32tab", laid_math_bits_deBruijn32tab)] }
def DotDotsSaid : Prop := dotDotsRow.holds Tryz.pinned (OpenSpec.ofChange dotDotsSpec)

/-- ITS FALSE NEIGHBOUR: 'it returns false'. Refute it at one input. -/
def dotDotsWrong : ChangeSpec := { name := "dotDots", fn := fun _ => fun
  | [d1, d2, d3, d4] => { results := [.lit (.bool false)], args := [d1, d2, d3, d4] }
  | _ => none }
def DotDotsWrongFalsely : Prop := dotDotsRow.holds Tryz.pinned (OpenSpec.ofChange dotDotsWrong)

/-- 'steelyardlaw12.DotNorms': WHATEVER THE INPUT: true; the input reads as it did. -/
def dotNormsSpec : ChangeSpec := { name := "dotNorms", fn := fun _ => fun
  | [d1, d2, d3] => { results := [.lit (.bool true)], args := [d1, d2, d3] }
  | _ => none }
def dotNormsRow : OpenClaim := { program := "yteahdgbokjbgcaagreatdoor", sum := "4a14507fec85f89e8d44e05188da9107e8aef143fd5cdfa651f89ff622641ce9", func := "steelyard/steelyardlaw12.DotNorms", spec := "dotNorms", inPlace := ["math.Float64bits", "math/bits.Sub64", "math/bits.Add64", "math.Float64frombits"], unfollowed := true, recurses := true, named := ["math/bits.deBruijn32tab"], apart := false, laid := [("math/bits.deBruijn32tab", laid_math_bits_deBruijn32tab)] }
def DotNormsSaid : Prop := dotNormsRow.holds Tryz.pinned (OpenSpec.ofChange dotNormsSpec)

/-- ITS FALSE NEIGHBOUR: 'it returns false'. Refute it at one input. -/
def dotNormsWrong : ChangeSpec := { name := "dotNorms", fn := fun _ => fun
  | [d1, d2, d3] => { results := [.lit (.bool false)], args := [d1, d2, d3] }
  | _ => none }
def DotNormsWrongFalsely : Prop := dotNormsRow.holds Tryz.pinned (OpenSpec.ofChange dotNormsWrong)

/-- 'steelyardlaw12.DotPolys': WHATEVER THE INPUT: true; the input reads as it did. -/
def dotPolysSpec : ChangeSpec := { name := "dotPolys", fn := fun _ => fun
  | [d1, d2, d3] => { results := [.lit (.bool true)], args := [d1, d2, d3] }
  | _ => none }
def dotPolysRow : OpenClaim := { program := "yteahdgbokjbgcaagreatdoor", sum := "4a14507fec85f89e8d44e05188da9107e8aef143fd5cdfa651f89ff622641ce9", func := "steelyard/steelyardlaw12.DotPolys", spec := "dotPolys", inPlace := ["math.Float64bits", "math/bits.Sub64", "math/bits.Add64", "math.Float64frombits"], unfollowed := true, recurses := true, named := ["math/bits.deBruijn32tab"], apart := false, laid := [("math/bits.deBruijn32tab", laid_math_bits_deBruijn32tab)] }
def DotPolysSaid : Prop := dotPolysRow.holds Tryz.pinned (OpenSpec.ofChange dotPolysSpec)

/-- ITS FALSE NEIGHBOUR: 'it returns false'. Refute it at one input. -/
def dotPolysWrong : ChangeSpec := { name := "dotPolys", fn := fun _ => fun
  | [d1, d2, d3] => { results := [.lit (.bool false)], args := [d1, d2, d3] }
  | _ => none }
def DotPolysWrongFalsely : Prop := dotPolysRow.holds Tryz.pinned (OpenSpec.ofChange dotPolysWrong)

/-- 'steelyardlaw12.DotNear': WHATEVER THE INPUT: true; the input reads as it did. -/
def dotNearSpec : ChangeSpec := { name := "dotNear", fn := fun _ => fun
  | [d1, d2] => { results := [.lit (.bool true)], args := [d1, d2] }
  | _ => none }
def dotNearRow : OpenClaim := { program := "yteahdgbokjbgcaagreatdoor", sum := "4a14507fec85f89e8d44e05188da9107e8aef143fd5cdfa651f89ff622641ce9", func := "steelyard/steelyardlaw12.DotNear", spec := "dotNear", inPlace := ["math.Float64bits", "math/bits.Sub64", "math/bits.Add64", "math.Float64frombits"], unfollowed := true, recurses := true, named := ["math/bits.deBruijn32tab"], apart := false, laid := [("math/bits.deBruijn32tab", laid_math_bits_deBruijn32tab)] }
def DotNearSaid : Prop := dotNearRow.holds Tryz.pinned (OpenSpec.ofChange dotNearSpec)

/-- ITS FALSE NEIGHBOUR: 'it returns false'. Refute it at one input. -/
def dotNearWrong : ChangeSpec := { name := "dotNear", fn := fun _ => fun
  | [d1, d2] => { results := [.lit (.bool false)], args := [d1, d2] }
  | _ => none }
def DotNearWrongFalsely : Prop := dotNearRow.holds Tryz.pinned (OpenSpec.ofChange dotNearWrong)

/-- 'steelyardlaw12.DotOrder': WHATEVER THE INPUT: true; the input reads as it did. -/
def dotOrderSpec : ChangeSpec := { name := "dotOrder", fn := fun _ => fun
  | [d1, d2, d3, d4] => { results := [.lit (.bool true)], args := [d1, d2, d3, d4] }
  | _ => none }
def dotOrderRow : OpenClaim := { program := "yteahdgbokjbgcaagreatdoor", sum := "4a14507fec85f89e8d44e05188da9107e8aef143fd5cdfa651f89ff622641ce9", func := "steelyard/steelyardlaw12.DotOrder", spec := "dotOrder", inPlace := ["math.Float64bits", "math/bits.Sub64", "math/bits.Add64", "math.Float64frombits"], unfollowed := true, recurses := true, named := ["math/bits.deBruijn32tab"], apart := false, laid := [("math/bits.deBruijn32tab", laid_math_bits_deBruijn32tab)] }
def DotOrderSaid : Prop := dotOrderRow.holds Tryz.pinned (OpenSpec.ofChange dotOrderSpec)

/-- ITS FALSE NEIGHBOUR: 'it returns false'. Refute it at one input. -/
def dotOrderWrong : ChangeSpec := { name := "dotOrder", fn := fun _ => fun
  | [d1, d2, d3, d4] => { results := [.lit (.bool false)], args := [d1, d2, d3, d4] }
  | _ => none }
def DotOrderWrongFalsely : Prop := dotOrderRow.holds Tryz.pinned (OpenSpec.ofChange dotOrderWrong)

/- THE SECOND FORM. 'bulk': how many values and letters a reading holds, each counted each time it is reached (what is shared counts as often as it is met; a slice's spare places count too). A statement '..UptoSaid' is the law's where the arguments, and the package variables that the reading takes, are together of bulk at most 1048576: NARROWER than '..Said'. Prove '..Said' where nothing that the law and all that it calls make is longer than what came in: it says more and counts as full. Else prove '..UptoSaid'. A law counts once. -/
mutual
def uptoBulk {H : Type} : DataW H → Nat
  | .lit (.string bytes) => bytes.length + 1
  | .lit _ => 1
  | .nil => 1
  | .ptr d => uptoBulk d + 1
  | .slice elems spare => uptoBulkAll elems + uptoBulkAll spare + 1
  | .agg parts => uptoBulkAll parts + 1
  | .iface _ d => uptoBulk d + 1
  | .map entries => uptoBulkEntries entries + 1
  | .held _ => 1
def uptoBulkAll {H : Type} : List (DataW H) → Nat
  | [] => 0
  | d :: r => uptoBulk d + uptoBulkAll r
def uptoBulkEntries {H : Type} : List (Lit × DataW H) → Nat
  | [] => 0
  | x :: r => uptoBulkEntry x + uptoBulkEntries r
def uptoBulkEntry {H : Type} : Lit × DataW H → Nat
  | (.string bytes, d) => bytes.length + uptoBulk d + 1
  | (_, d) => uptoBulk d + 1
 end
def uptoSmall : (H : Type) → List (DataW H) → Bool := fun _ ds => decide (uptoBulkAll ds ≤ 1048576)
def OpenSpec.upto (s : _root_.Go.ChangeSpec) : _root_.Go.OpenSpec := { _root_.Go.OpenSpec.ofChange s with cond := some uptoSmall }

/-- 'steelyardlaw09.BinsPlays', WHERE WHAT IT READS IS OF BULK AT MOST 1048576: true; the input reads as it did. -/
def binsPlaysUptoRow : OpenClaim := { program := "yteahdgbokjbgcaagreatdoor", sum := "4a14507fec85f89e8d44e05188da9107e8aef143fd5cdfa651f89ff622641ce9", func := "steelyard/steelyardlaw09.BinsPlays", spec := "binsPlays", inPlace := ["math.Float64bits", "math/bits.Add64", "math/bits.Sub64", "math.Float64frombits"], unfollowed := true, recurses := true, named := ["math/bits.deBruijn32tab"], apart := false, laid := [("math/bits.deBruijn32tab", laid_math_bits_deBruijn32tab)], narrowed := true }
def BinsPlaysUptoSaid : Prop := binsPlaysUptoRow.holds Tryz.pinned (OpenSpec.upto binsPlaysSpec)

/-- 'steelyardlaw07.SuperScript', WHERE WHAT IT READS IS OF BULK AT MOST 1048576: true; the input reads as it did. -/
def superScriptUptoRow : OpenClaim := { program := "yteahdgbokjbgcaagreatdoor", sum := "4a14507fec85f89e8d44e05188da9107e8aef143fd5cdfa651f89ff622641ce9", func := "steelyard/steelyardlaw07.SuperScript", spec := "superScript", inPlace := ["math.Float64bits", "math.Float64frombits", "math/bits.Sub64", "math/bits.Add64", "math.Float32frombits", "math.Float32bits"], recurses := true, named := ["math/bits.deBruijn32tab"], apart := false, laid := [("math/bits.deBruijn32tab", laid_math_bits_deBruijn32tab)], narrowed := true }
def SuperScriptUptoSaid : Prop := superScriptUptoRow.holds Tryz.pinned (OpenSpec.upto superScriptSpec)

/-- 'steelyardlaw14.MomentNumbers', WHERE WHAT IT READS IS OF BULK AT MOST 1048576: true; the input reads as it did. -/
def momentNumbersUptoRow : OpenClaim := { program := "yteahdgbokjbgcaagreatdoor", sum := "4a14507fec85f89e8d44e05188da9107e8aef143fd5cdfa651f89ff622641ce9", func := "steelyard/steelyardlaw14.MomentNumbers", spec := "momentNumbers", inPlace := ["math.Float64bits", "math.Float64frombits"], unfollowed := true, recurses := true, named := ["math/bits.deBruijn32tab"], apart := false, laid := [("math/bits.deBruijn32tab", laid_math_bits_deBruijn32tab)], narrowed := true }
def MomentNumbersUptoSaid : Prop := momentNumbersUptoRow.holds Tryz.pinned (OpenSpec.upto momentNumbersSpec)

/-- 'steelyardlaw14.MomentVars', WHERE WHAT IT READS IS OF BULK AT MOST 1048576: true; the input reads as it did. -/
def momentVarsUptoRow : OpenClaim := { program := "yteahdgbokjbgcaagreatdoor", sum := "4a14507fec85f89e8d44e05188da9107e8aef143fd5cdfa651f89ff622641ce9", func := "steelyard/steelyardlaw14.MomentVars", spec := "momentVars", inPlace := ["math.Float64bits", "math.Float64frombits"], unfollowed := true, recurses := true, named := ["math/bits.deBruijn32tab"], apart := false, laid := [("math/bits.deBruijn32tab", laid_math_bits_deBruijn32tab)], narrowed := true }
def MomentVarsUptoSaid : Prop := momentVarsUptoRow.holds Tryz.pinned (OpenSpec.upto momentVarsSpec)

/-- 'steelyardlaw14.MomentTwo', WHERE WHAT IT READS IS OF BULK AT MOST 1048576: true; the input reads as it did. -/
def momentTwoUptoRow : OpenClaim := { program := "yteahdgbokjbgcaagreatdoor", sum := "4a14507fec85f89e8d44e05188da9107e8aef143fd5cdfa651f89ff622641ce9", func := "steelyard/steelyardlaw14.MomentTwo", spec := "momentTwo", inPlace := ["math.Float64bits", "math.Float64frombits"], unfollowed := true, recurses := true, named := ["math/bits.deBruijn32tab"], apart := false, laid := [("math/bits.deBruijn32tab", laid_math_bits_deBruijn32tab)], narrowed := true }
def MomentTwoUptoSaid : Prop := momentTwoUptoRow.holds Tryz.pinned (OpenSpec.upto momentTwoSpec)

/-- 'steelyardlaw14.MomentOf', WHERE WHAT IT READS IS OF BULK AT MOST 1048576: true; the input reads as it did. -/
def momentOfUptoRow : OpenClaim := { program := "yteahdgbokjbgcaagreatdoor", sum := "4a14507fec85f89e8d44e05188da9107e8aef143fd5cdfa651f89ff622641ce9", func := "steelyard/steelyardlaw14.MomentOf", spec := "momentOf", inPlace := ["math.Float64bits", "math.Float64frombits"], unfollowed := true, recurses := true, named := ["math/bits.deBruijn32tab"], apart := false, laid := [("math/bits.deBruijn32tab", laid_math_bits_deBruijn32tab)], narrowed := true }
def MomentOfUptoSaid : Prop := momentOfUptoRow.holds Tryz.pinned (OpenSpec.upto momentOfSpec)

/-- 'steelyardlaw14.MomentLaws', WHERE WHAT IT READS IS OF BULK AT MOST 1048576: true; the input reads as it did. -/
def momentLawsUptoRow : OpenClaim := { program := "yteahdgbokjbgcaagreatdoor", sum := "4a14507fec85f89e8d44e05188da9107e8aef143fd5cdfa651f89ff622641ce9", func := "steelyard/steelyardlaw14.MomentLaws", spec := "momentLaws", inPlace := ["math.Float64bits", "math.Float64frombits"], unfollowed := true, recurses := true, named := ["math/bits.deBruijn32tab"], apart := false, laid := [("math/bits.deBruijn32tab", laid_math_bits_deBruijn32tab)], narrowed := true }
def MomentLawsUptoSaid : Prop := momentLawsUptoRow.holds Tryz.pinned (OpenSpec.upto momentLawsSpec)

/-- 'steelyardlaw12.DotDots', WHERE WHAT IT READS IS OF BULK AT MOST 1048576: true; the input reads as it did. -/
def dotDotsUptoRow : OpenClaim := { program := "yteahdgbokjbgcaagreatdoor", sum := "4a14507fec85f89e8d44e05188da9107e8aef143fd5cdfa651f89ff622641ce9", func := "steelyard/steelyardlaw12.DotDots", spec := "dotDots", inPlace := ["math.Float64bits", "math/bits.Sub64", "math/bits.Add64", "math.Float64frombits"], unfollowed := true, recurses := true, named := ["math/bits.deBruijn32tab"], apart := false, laid := [("math/bits.deBruijn32tab", laid_math_bits_deBruijn32tab)], narrowed := true }
def DotDotsUptoSaid : Prop := dotDotsUptoRow.holds Tryz.pinned (OpenSpec.upto dotDotsSpec)

/-- 'steelyardlaw12.DotNorms', WHERE WHAT IT READS IS OF BULK AT MOST 1048576: true; the input reads as it did. -/
def dotNormsUptoRow : OpenClaim := { program := "yteahdgbokjbgcaagreatdoor", sum := "4a14507fec85f89e8d44e05188da9107e8aef143fd5cdfa651f89ff622641ce9", func := "steelyard/steelyardlaw12.DotNorms", spec := "dotNorms", inPlace := ["math.Float64bits", "math/bits.Sub64", "math/bits.Add64", "math.Float64frombits"], unfollowed := true, recurses := true, named := ["math/bits.deBruijn32tab"], apart := false, laid := [("math/bits.deBruijn32tab", laid_math_bits_deBruijn32tab)], narrowed := true }
def DotNormsUptoSaid : Prop := dotNormsUptoRow.holds Tryz.pinned (OpenSpec.upto dotNormsSpec)

/-- 'steelyardlaw12.DotPolys', WHERE WHAT IT READS IS OF BULK AT MOST 1048576: true; the input reads as it did. -/
def dotPolysUptoRow : OpenClaim := { program := "yteahdgbokjbgcaagreatdoor", sum := "4a14507fec85f89e8d44e05188da9107e8aef143fd5cdfa651f89ff622641ce9", func := "steelyard/steelyardlaw12.DotPolys", spec := "dotPolys", inPlace := ["math.Float64bits", "math/bits.Sub64", "math/bits.Add64", "math.Float64frombits"], unfollowed := true, recurses := true, named := ["math/bits.deBruijn32tab"], apart := false, laid := [("math/bits.deBruijn32tab", laid_math_bits_deBruijn32tab)], narrowed := true }
def DotPolysUptoSaid : Prop := dotPolysUptoRow.holds Tryz.pinned (OpenSpec.upto dotPolysSpec)

/-- 'steelyardlaw12.DotNear', WHERE WHAT IT READS IS OF BULK AT MOST 1048576: true; the input reads as it did. -/
def dotNearUptoRow : OpenClaim := { program := "yteahdgbokjbgcaagreatdoor", sum := "4a14507fec85f89e8d44e05188da9107e8aef143fd5cdfa651f89ff622641ce9", func := "steelyard/steelyardlaw12.DotNear", spec := "dotNear", inPlace := ["math.Float64bits", "math/bits.Sub64", "math/bits.Add64", "math.Float64frombits"], unfollowed := true, recurses := true, named := ["math/bits.deBruijn32tab"], apart := false, laid := [("math/bits.deBruijn32tab", laid_math_bits_deBruijn32tab)], narrowed := true }
def DotNearUptoSaid : Prop := dotNearUptoRow.holds Tryz.pinned (OpenSpec.upto dotNearSpec)

/-- 'steelyardlaw12.DotOrder', WHERE WHAT IT READS IS OF BULK AT MOST 1048576: true; the input reads as it did. -/
def dotOrderUptoRow : OpenClaim := { program := "yteahdgbokjbgcaagreatdoor", sum := "4a14507fec85f89e8d44e05188da9107e8aef143fd5cdfa651f89ff622641ce9", func := "steelyard/steelyardlaw12.DotOrder", spec := "dotOrder", inPlace := ["math.Float64bits", "math/bits.Sub64", "math/bits.Add64", "math.Float64frombits"], unfollowed := true, recurses := true, named := ["math/bits.deBruijn32tab"], apart := false, laid := [("math/bits.deBruijn32tab", laid_math_bits_deBruijn32tab)], narrowed := true }
def DotOrderUptoSaid : Prop := dotOrderUptoRow.holds Tryz.pinned (OpenSpec.upto dotOrderSpec)

end Rows
end Go.Proofs.YteahdgbokjbgcaaGreatDoor
