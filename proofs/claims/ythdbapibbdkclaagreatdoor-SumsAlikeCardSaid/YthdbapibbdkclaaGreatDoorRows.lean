/-
  NARROWER THAN 'FOR EVERY INPUT', by the rows' own cells (each row's printed sentence says how): BinsPlays: laid · SumsExacts: laid · SumsBlocks: laid · SumsUsual: laid · SuperScript: laid · SumsShort: laid · SumsAlike: laid.
  DERIVED. THE GIVEN ROWS OF THIS SEAT. 7 by the template 'for every input the law returns true; each argument reads behind the call as it read before'; 0 by the template 'total and deterministic' (their statements: YthdbapibbdkclaaGreatDoorTotals.lean).
  GIVEN WITH THE SEED: the statements are not yours to turn. If you find one false, say at which input.
  Laid BY PROGRAM, IN A SANDBOX (cutbox-rows.mjs): the forced cells as the released guide's own fill.sh prints them over the translation 896134fcd31608be… (all of the seat's roots in one cut). By AI agents, Wed Nov 11 2026. No macro, syntax, notation, axiom, sorry.
-/
import Derived.Test.YthdbapibbdkclaaGreatDoorChecked
import GoSem.Claim
import GoSem.ClaimJoined
import GoSem.ClaimMapViews
import Derived.JoinedTies
import Derived.KernelRfl
namespace Go.Proofs.YthdbapibbdkclaaGreatDoor
/- THE CELL 'sum', in the pinned program and in every row, IS THE sha256 OF THE DUMP (.gsa) THAT YthdbapibbdkclaaGreatDoorProg.lean LOADS. Nothing in Lean hashes anything: it is a label: what it is worth is what the hold of that sum in a sandbox is worth. -/
noncomputable def Tryz.pinned : Pinned := { name := "ythdbapibbdkclaagreatdoor", sum := "896134fcd31608bea9cff4886b74bbb89eb6455624fab8dee312f1a26ae2a1b6", checked := Tryz.checked }
namespace Rows
def none {H : Type} : Left H := { results := [], args := [] }

/- WHAT THE LISTED PACKAGE-LEVEL VARIABLES READ AS WHEN THE CALL BEGINS. Each datum BY PROGRAM (the guide's laid-datum.mjs) off the statement by which the dump's own 'gosem.cut.vars' lays the variable. In a bare row this is a premise. The card (YthdbapibbdkclaaGreatDoorCards.lean) ties it to the program's text. -/
def laid_math_bits_deBruijn32tab {H : Type} : DataW H := .agg [.lit (.int .u8 0), .lit (.int .u8 1), .lit (.int .u8 28), .lit (.int .u8 2), .lit (.int .u8 29), .lit (.int .u8 14), .lit (.int .u8 24), .lit (.int .u8 3), .lit (.int .u8 30), .lit (.int .u8 22), .lit (.int .u8 20), .lit (.int .u8 15), .lit (.int .u8 25), .lit (.int .u8 17), .lit (.int .u8 4), .lit (.int .u8 8), .lit (.int .u8 31), .lit (.int .u8 27), .lit (.int .u8 13), .lit (.int .u8 23), .lit (.int .u8 21), .lit (.int .u8 19), .lit (.int .u8 16), .lit (.int .u8 7), .lit (.int .u8 26), .lit (.int .u8 12), .lit (.int .u8 18), .lit (.int .u8 6), .lit (.int .u8 11), .lit (.int .u8 5), .lit (.int .u8 10), .lit (.int .u8 9)]
def laid_steelyard_bits_turns {H : Type} : DataW H := .agg [.agg [.lit (.int .i64 0), .lit (.int .i64 0)], .agg [.lit (.int .i64 1), .lit (.int .i64 1)], .agg [.lit (.int .i64 2), .lit (.int .i64 1)], .agg [.lit (.int .i64 1), .lit (.int .i64 2)], .agg [.lit (.int .i64 0), .lit (.int .i64 0)]]

/-- 'steelyardlaw09.BinsPlays': WHATEVER THE INPUT: true; the input reads as it did. -/
def binsPlaysSpec : ChangeSpec := { name := "binsPlays", fn := fun _ => fun
  | [d1, d2] => { results := [.lit (.bool true)], args := [d1, d2] }
  | _ => none }
def binsPlaysRow : OpenClaim := { program := "ythdbapibbdkclaagreatdoor", sum := "896134fcd31608bea9cff4886b74bbb89eb6455624fab8dee312f1a26ae2a1b6", func := "steelyard/steelyardlaw09.BinsPlays", spec := "binsPlays", inPlace := ["math.Float64bits", "math/bits.Add64", "math/bits.Sub64", "math.Float64frombits"], unfollowed := true, recurses := true, named := ["math/bits.deBruijn32tab"], apart := false, laid := [("math/bits.deBruijn32tab", laid_math_bits_deBruijn32tab)] }
def BinsPlaysSaid : Prop := binsPlaysRow.holds Tryz.pinned (OpenSpec.ofChange binsPlaysSpec)

/-- ITS FALSE NEIGHBOUR: 'it returns false'. Refute it at one input. -/
def binsPlaysWrong : ChangeSpec := { name := "binsPlays", fn := fun _ => fun
  | [d1, d2] => { results := [.lit (.bool false)], args := [d1, d2] }
  | _ => none }
def BinsPlaysWrongFalsely : Prop := binsPlaysRow.holds Tryz.pinned (OpenSpec.ofChange binsPlaysWrong)

/-- 'steelyardlaw10.SumsExacts': WHATEVER THE INPUT: true; the input reads as it did. -/
def sumsExactsSpec : ChangeSpec := { name := "sumsExacts", fn := fun _ => fun
  | [d1, d2, d3] => { results := [.lit (.bool true)], args := [d1, d2, d3] }
  | _ => none }
def sumsExactsRow : OpenClaim := { program := "ythdbapibbdkclaagreatdoor", sum := "896134fcd31608bea9cff4886b74bbb89eb6455624fab8dee312f1a26ae2a1b6", func := "steelyard/steelyardlaw10.SumsExacts", spec := "sumsExacts", inPlace := ["math.Float64bits", "math.Float64frombits", "math/bits.Sub64", "math/bits.Add64"], unfollowed := true, recurses := true, named := ["math/bits.deBruijn32tab"], apart := false, laid := [("math/bits.deBruijn32tab", laid_math_bits_deBruijn32tab)] }
def SumsExactsSaid : Prop := sumsExactsRow.holds Tryz.pinned (OpenSpec.ofChange sumsExactsSpec)

/-- ITS FALSE NEIGHBOUR: 'it returns false'. Refute it at one input. -/
def sumsExactsWrong : ChangeSpec := { name := "sumsExacts", fn := fun _ => fun
  | [d1, d2, d3] => { results := [.lit (.bool false)], args := [d1, d2, d3] }
  | _ => none }
def SumsExactsWrongFalsely : Prop := sumsExactsRow.holds Tryz.pinned (OpenSpec.ofChange sumsExactsWrong)

/-- 'steelyardlaw10.SumsBlocks': WHATEVER THE INPUT: true; the input reads as it did. -/
def sumsBlocksSpec : ChangeSpec := { name := "sumsBlocks", fn := fun _ => fun
  | [d1, d2] => { results := [.lit (.bool true)], args := [d1, d2] }
  | _ => none }
def sumsBlocksRow : OpenClaim := { program := "ythdbapibbdkclaagreatdoor", sum := "896134fcd31608bea9cff4886b74bbb89eb6455624fab8dee312f1a26ae2a1b6", func := "steelyard/steelyardlaw10.SumsBlocks", spec := "sumsBlocks", inPlace := ["math.Float64bits", "math.Float64frombits", "math/bits.Sub64", "math/bits.Add64"], unfollowed := true, recurses := true, named := ["math/bits.deBruijn32tab"], apart := false, laid := [("math/bits.deBruijn32tab", laid_math_bits_deBruijn32tab)] }
def SumsBlocksSaid : Prop := sumsBlocksRow.holds Tryz.pinned (OpenSpec.ofChange sumsBlocksSpec)

/-- ITS FALSE NEIGHBOUR: 'it returns false'. Refute it at one input. -/
def sumsBlocksWrong : ChangeSpec := { name := "sumsBlocks", fn := fun _ => fun
  | [d1, d2] => { results := [.lit (.bool false)], args := [d1, d2] }
  | _ => none }
def SumsBlocksWrongFalsely : Prop := sumsBlocksRow.holds Tryz.pinned (OpenSpec.ofChange sumsBlocksWrong)

/-- 'steelyardlaw10.SumsUsual': WHATEVER THE INPUT: true; the input reads as it did. -/
def sumsUsualSpec : ChangeSpec := { name := "sumsUsual", fn := fun _ => fun
  | [d] => { results := [.lit (.bool true)], args := [d] }
  | _ => none }
def sumsUsualRow : OpenClaim := { program := "ythdbapibbdkclaagreatdoor", sum := "896134fcd31608bea9cff4886b74bbb89eb6455624fab8dee312f1a26ae2a1b6", func := "steelyard/steelyardlaw10.SumsUsual", spec := "sumsUsual", inPlace := ["math.Float64bits", "math.Float64frombits", "math/bits.Sub64", "math/bits.Add64"], unfollowed := true, recurses := true, named := ["math/bits.deBruijn32tab"], apart := false, laid := [("math/bits.deBruijn32tab", laid_math_bits_deBruijn32tab)] }
def SumsUsualSaid : Prop := sumsUsualRow.holds Tryz.pinned (OpenSpec.ofChange sumsUsualSpec)

/-- ITS FALSE NEIGHBOUR: 'it returns false'. Refute it at one input. -/
def sumsUsualWrong : ChangeSpec := { name := "sumsUsual", fn := fun _ => fun
  | [d] => { results := [.lit (.bool false)], args := [d] }
  | _ => none }
def SumsUsualWrongFalsely : Prop := sumsUsualRow.holds Tryz.pinned (OpenSpec.ofChange sumsUsualWrong)

/-- 'steelyardlaw07.SuperScript': WHATEVER THE INPUT: true; the input reads as it did. -/
def superScriptSpec : ChangeSpec := { name := "superScript", fn := fun _ => fun
  | [d] => { results := [.lit (.bool true)], args := [d] }
  | _ => none }
def superScriptRow : OpenClaim := { program := "ythdbapibbdkclaagreatdoor", sum := "896134fcd31608bea9cff4886b74bbb89eb6455624fab8dee312f1a26ae2a1b6", func := "steelyard/steelyardlaw07.SuperScript", spec := "superScript", inPlace := ["math.Float64bits", "math.Float64frombits", "math/bits.Sub64", "math/bits.Add64", "math.Float32frombits", "math.Float32bits"], recurses := true, named := ["math/bits.deBruijn32tab"], apart := false, laid := [("math/bits.deBruijn32tab", laid_math_bits_deBruijn32tab)] }
def SuperScriptSaid : Prop := superScriptRow.holds Tryz.pinned (OpenSpec.ofChange superScriptSpec)

/-- ITS FALSE NEIGHBOUR: 'it returns false'. Refute it at one input. -/
def superScriptWrong : ChangeSpec := { name := "superScript", fn := fun _ => fun
  | [d] => { results := [.lit (.bool false)], args := [d] }
  | _ => none }
def SuperScriptWrongFalsely : Prop := superScriptRow.holds Tryz.pinned (OpenSpec.ofChange superScriptWrong)

/-- 'steelyardlaw10.SumsShort': WHATEVER THE INPUT: true; the input reads as it did. -/
def sumsShortSpec : ChangeSpec := { name := "sumsShort", fn := fun _ => fun
  | [d] => { results := [.lit (.bool true)], args := [d] }
  | _ => none }
def sumsShortRow : OpenClaim := { program := "ythdbapibbdkclaagreatdoor", sum := "896134fcd31608bea9cff4886b74bbb89eb6455624fab8dee312f1a26ae2a1b6", func := "steelyard/steelyardlaw10.SumsShort", spec := "sumsShort", inPlace := ["math.Float64bits", "math.Float64frombits", "math/bits.Sub64", "math/bits.Add64", "math.Float32frombits", "math.Float32bits"], unfollowed := true, recurses := true, named := ["math/bits.deBruijn32tab", "steelyard/bits.turns"], apart := false, laid := [("math/bits.deBruijn32tab", laid_math_bits_deBruijn32tab), ("steelyard/bits.turns", laid_steelyard_bits_turns)] }
def SumsShortSaid : Prop := sumsShortRow.holds Tryz.pinned (OpenSpec.ofChange sumsShortSpec)

/-- ITS FALSE NEIGHBOUR: 'it returns false'. Refute it at one input. -/
def sumsShortWrong : ChangeSpec := { name := "sumsShort", fn := fun _ => fun
  | [d] => { results := [.lit (.bool false)], args := [d] }
  | _ => none }
def SumsShortWrongFalsely : Prop := sumsShortRow.holds Tryz.pinned (OpenSpec.ofChange sumsShortWrong)

/-- 'steelyardlaw10.SumsAlike': WHATEVER THE INPUT: true; the input reads as it did. -/
def sumsAlikeSpec : ChangeSpec := { name := "sumsAlike", fn := fun _ => fun
  | [d1, d2] => { results := [.lit (.bool true)], args := [d1, d2] }
  | _ => none }
def sumsAlikeRow : OpenClaim := { program := "ythdbapibbdkclaagreatdoor", sum := "896134fcd31608bea9cff4886b74bbb89eb6455624fab8dee312f1a26ae2a1b6", func := "steelyard/steelyardlaw10.SumsAlike", spec := "sumsAlike", inPlace := ["math.Float64bits", "math.Float64frombits", "math/bits.Sub64", "math/bits.Add64"], unfollowed := true, recurses := true, named := ["math/bits.deBruijn32tab"], apart := false, laid := [("math/bits.deBruijn32tab", laid_math_bits_deBruijn32tab)] }
def SumsAlikeSaid : Prop := sumsAlikeRow.holds Tryz.pinned (OpenSpec.ofChange sumsAlikeSpec)

/-- ITS FALSE NEIGHBOUR: 'it returns false'. Refute it at one input. -/
def sumsAlikeWrong : ChangeSpec := { name := "sumsAlike", fn := fun _ => fun
  | [d1, d2] => { results := [.lit (.bool false)], args := [d1, d2] }
  | _ => none }
def SumsAlikeWrongFalsely : Prop := sumsAlikeRow.holds Tryz.pinned (OpenSpec.ofChange sumsAlikeWrong)

/- THE SECOND FORM. 'bulk': how many values and letters a reading holds, each counted each time it is reached (what is shared counts as often as it is met; a slice's spare places count too). A statement '..UptoSaid' is the law's where the arguments, and the package variables that the reading takes, are together of bulk at most 1048576: NARROWER than '..Said'. Prove '..Said' where nothing that the law and all that it calls make is longer than what came in: it says more and counts as full. Else prove '..UptoSaid'. A law counts once. -/
mutual
def uptoBulk {H : Type} : DataW H → Nat
  | .lit (.string bytes) => bytes.length + 1
  | .lit _ => 1
  | .nil => 1
  | .ptr d => uptoBulk d + 1
  | .slice elems spare => uptoBulkAll elems + uptoBulkAll spare + 1
  | .agg parts => uptoBulkAll parts + 1
  | .iface _ d => uptoBulk d + 1
  | .map entries => uptoBulkEntries entries + 1
  | .held _ => 1
def uptoBulkAll {H : Type} : List (DataW H) → Nat
  | [] => 0
  | d :: r => uptoBulk d + uptoBulkAll r
def uptoBulkEntries {H : Type} : List (Lit × DataW H) → Nat
  | [] => 0
  | x :: r => uptoBulkEntry x + uptoBulkEntries r
def uptoBulkEntry {H : Type} : Lit × DataW H → Nat
  | (.string bytes, d) => bytes.length + uptoBulk d + 1
  | (_, d) => uptoBulk d + 1
 end
def uptoSmall : (H : Type) → List (DataW H) → Bool := fun _ ds => decide (uptoBulkAll ds ≤ 1048576)
def OpenSpec.upto (s : _root_.Go.ChangeSpec) : _root_.Go.OpenSpec := { _root_.Go.OpenSpec.ofChange s with cond := some uptoSmall }

/-- 'steelyardlaw09.BinsPlays', WHERE WHAT IT READS IS OF BULK AT MOST 1048576: true; the input reads as it did. -/
def binsPlaysUptoRow : OpenClaim := { program := "ythdbapibbdkclaagreatdoor", sum := "896134fcd31608bea9cff4886b74bbb89eb6455624fab8dee312f1a26ae2a1b6", func := "steelyard/steelyardlaw09.BinsPlays", spec := "binsPlays", inPlace := ["math.Float64bits", "math/bits.Add64", "math/bits.Sub64", "math.Float64frombits"], unfollowed := true, recurses := true, named := ["math/bits.deBruijn32tab"], apart := false, laid := [("math/bits.deBruijn32tab", laid_math_bits_deBruijn32tab)], narrowed := true }
def BinsPlaysUptoSaid : Prop := binsPlaysUptoRow.holds Tryz.pinned (OpenSpec.upto binsPlaysSpec)

/-- 'steelyardlaw10.SumsExacts', WHERE WHAT IT READS IS OF BULK AT MOST 1048576: true; the input reads as it did. -/
def sumsExactsUptoRow : OpenClaim := { program := "ythdbapibbdkclaagreatdoor", sum := "896134fcd31608bea9cff4886b74bbb89eb6455624fab8dee312f1a26ae2a1b6", func := "steelyard/steelyardlaw10.SumsExacts", spec := "sumsExacts", inPlace := ["math.Float64bits", "math.Float64frombits", "math/bits.Sub64", "math/bits.Add64"], unfollowed := true, recurses := true, named := ["math/bits.deBruijn32tab"], apart := false, laid := [("math/bits.deBruijn32tab", laid_math_bits_deBruijn32tab)], narrowed := true }
def SumsExactsUptoSaid : Prop := sumsExactsUptoRow.holds Tryz.pinned (OpenSpec.upto sumsExactsSpec)

/-- 'steelyardlaw10.SumsBlocks', WHERE WHAT IT READS IS OF BULK AT MOST 1048576: true; the input reads as it did. -/
def sumsBlocksUptoRow : OpenClaim := { program := "ythdbapibbdkclaagreatdoor", sum := "896134fcd31608bea9cff4886b74bbb89eb6455624fab8dee312f1a26ae2a1b6", func := "steelyard/steelyardlaw10.SumsBlocks", spec := "sumsBlocks", inPlace := ["math.Float64bits", "math.Float64frombits", "math/bits.Sub64", "math/bits.Add64"], unfollowed := true, recurses := true, named := ["math/bits.deBruijn32tab"], apart := false, laid := [("math/bits.deBruijn32tab", laid_math_bits_deBruijn32tab)], narrowed := true }
def SumsBlocksUptoSaid : Prop := sumsBlocksUptoRow.holds Tryz.pinned (OpenSpec.upto sumsBlocksSpec)

/-- 'steelyardlaw10.SumsUsual', WHERE WHAT IT READS IS OF BULK AT MOST 1048576: true; the input reads as it did. -/
def sumsUsualUptoRow : OpenClaim := { program := "ythdbapibbdkclaagreatdoor", sum := "896134fcd31608bea9cff4886b74bbb89eb6455624fab8dee312f1a26ae2a1b6", func := "steelyard/steelyardlaw10.SumsUsual", spec := "sumsUsual", inPlace := ["math.Float64bits", "math.Float64frombits", "math/bits.Sub64", "math/bits.Add64"], unfollowed := true, recurses := true, named := ["math/bits.deBruijn32tab"], apart := false, laid := [("math/bits.deBruijn32tab", laid_math_bits_deBruijn32tab)], narrowed := true }
def SumsUsualUptoSaid : Prop := sumsUsualUptoRow.holds Tryz.pinned (OpenSpec.upto sumsUsualSpec)

/-- 'steelyardlaw07.SuperScript', WHERE WHAT IT READS IS OF BULK AT MOST 1048576: true; the input reads as it did. -/
def superScriptUptoRow : OpenClaim := { program := "ythdbapibbdkclaagreatdoor", sum := "896134fcd31608bea9cff4886b74bbb89eb6455624fab8dee312f1a26ae2a1b6", func := "steelyard/steelyardlaw07.SuperScript", spec := "superScript", inPlace := ["math.Float64bits", "math.Float64frombits", "math/bits.Sub64", "math/bits.Add64", "math.Float32frombits", "math.Float32bits"], recurses := true, named := ["math/bits.deBruijn32tab"], apart := false, laid := [("math/bits.deBruijn32tab", laid_math_bits_deBruijn32tab)], narrowed := true }
def SuperScriptUptoSaid : Prop := superScriptUptoRow.holds Tryz.pinned (OpenSpec.upto superScriptSpec)

/-- 'steelyardlaw10.SumsShort', WHERE WHAT IT READS IS OF BULK AT MOST 1048576: true; the input reads as it did. -/
def sumsShortUptoRow : OpenClaim := { program := "ythdbapibbdkclaagreatdoor", sum := "896134fcd31608bea9cff4886b74bbb89eb6455624fab8dee312f1a26ae2a1b6", func := "steelyard/steelyardlaw10.SumsShort", spec := "sumsShort", inPlace := ["math.Float64bits", "math.Float64frombits", "math/bits.Sub64", "math/bits.Add64", "math.Float32frombits", "math.Float32bits"], unfollowed := true, recurses := true, named := ["math/bits.deBruijn32tab", "steelyard/bits.turns"], apart := false, laid := [("math/bits.deBruijn32tab", laid_math_bits_deBruijn32tab), ("steelyard/bits.turns", laid_steelyard_bits_turns)], narrowed := true }
def SumsShortUptoSaid : Prop := sumsShortUptoRow.holds Tryz.pinned (OpenSpec.upto sumsShortSpec)

/-- 'steelyardlaw10.SumsAlike', WHERE WHAT IT READS IS OF BULK AT MOST 1048576: true; the input reads as it did. -/
def sumsAlikeUptoRow : OpenClaim := { program := "ythdbapibbdkclaagreatdoor", sum := "896134fcd31608bea9cff4886b74bbb89eb6455624fab8dee312f1a26ae2a1b6", func := "steelyard/steelyardlaw10.SumsAlike", spec := "sumsAlike", inPlace := ["math.Float64bits", "math.Float64frombits", "math/bits.Sub64", "math/bits.Add64"], unfollowed := true, recurses := true, named := ["math/bits.deBruijn32tab"], apart := false, laid := [("math/bits.deBruijn32tab", laid_math_bits_deBruijn32tab)], narrowed := true }
def SumsAlikeUptoSaid : Prop := sumsAlikeUptoRow.holds Tryz.pinned (OpenSpec.upto sumsAlikeSpec)

end Rows
end Go.Proofs.YthdbapibbdkclaaGreatDoor
