/-
  DERIVED. GIVEN WITH THE SEED: THE CARDS: each row of YteahdgbokjbgcaaGreatDoorRows.lean that lists a variable, with what it lists TIED to the program's text (the seventh form; the later family's looks); each row that meets fmt, with fmt's text TOLD by the authors' own Lean function (tested against real Go, not proved from fmt's source: count such statements apart). THE CARD IS WHAT COUNTS. Prove the row's statement (the work); the ties are given (YteahdgbokjbgcaaGreatDoorTie.lean); close each card by the builder's one call (the guide's Derived/Test/ToyasCard.lean, 'card_holds'). Laid BY PROGRAM, IN A SANDBOX (cutbox-door.mjs). By AI agents, Wed Nov 11 2026. No macro, syntax, notation, axiom, sorry.
-/
import Derived.Test.YteahdgbokjbgcaaGreatDoorRows
import GoSem.ClaimSeven
namespace Go.Proofs.YteahdgbokjbgcaaGreatDoor
namespace Rows

/-- THE TIED CARD OF 'steelyardlaw09.BinsPlays'. -/
def binsPlaysCard : Claim7 := { stood := { row := binsPlaysRow, standIns := [], harness := (true, "eb51090fe3e9614ef25e0dbe3faec450643c64e1a2a67be32737cc9de3e8c021"), looks := false }, kinds := [], alts := [], laidByText := true, laidKinds := [.data], laidTests := true, laidLooks := .later }
def BinsPlaysCardSaid : Prop := Claim7.holds Tryz.pinned (.plain (OpenSpec.ofChange binsPlaysSpec)) binsPlaysCard

/-- THE TIED CARD OF 'steelyardlaw07.SuperScript'. -/
def superScriptCard : Claim7 := { stood := { row := superScriptRow, standIns := [], harness := (true, "eb51090fe3e9614ef25e0dbe3faec450643c64e1a2a67be32737cc9de3e8c021"), looks := false }, kinds := [], alts := [], laidByText := true, laidKinds := [.data], laidTests := true, laidLooks := .later }
def SuperScriptCardSaid : Prop := Claim7.holds Tryz.pinned (.plain (OpenSpec.ofChange superScriptSpec)) superScriptCard

/-- THE TIED CARD OF 'steelyardlaw14.MomentNumbers'. -/
def momentNumbersCard : Claim7 := { stood := { row := momentNumbersRow, standIns := [], harness := (true, "eb51090fe3e9614ef25e0dbe3faec450643c64e1a2a67be32737cc9de3e8c021"), looks := false }, kinds := [], alts := [], laidByText := true, laidKinds := [.data], laidTests := true, laidLooks := .later }
def MomentNumbersCardSaid : Prop := Claim7.holds Tryz.pinned (.plain (OpenSpec.ofChange momentNumbersSpec)) momentNumbersCard

/-- THE TIED CARD OF 'steelyardlaw14.MomentVars'. -/
def momentVarsCard : Claim7 := { stood := { row := momentVarsRow, standIns := [], harness := (true, "eb51090fe3e9614ef25e0dbe3faec450643c64e1a2a67be32737cc9de3e8c021"), looks := false }, kinds := [], alts := [], laidByText := true, laidKinds := [.data], laidTests := true, laidLooks := .later }
def MomentVarsCardSaid : Prop := Claim7.holds Tryz.pinned (.plain (OpenSpec.ofChange momentVarsSpec)) momentVarsCard

/-- THE TIED CARD OF 'steelyardlaw14.MomentTwo'. -/
def momentTwoCard : Claim7 := { stood := { row := momentTwoRow, standIns := [], harness := (true, "eb51090fe3e9614ef25e0dbe3faec450643c64e1a2a67be32737cc9de3e8c021"), looks := false }, kinds := [], alts := [], laidByText := true, laidKinds := [.data], laidTests := true, laidLooks := .later }
def MomentTwoCardSaid : Prop := Claim7.holds Tryz.pinned (.plain (OpenSpec.ofChange momentTwoSpec)) momentTwoCard

/-- THE TIED CARD OF 'steelyardlaw14.MomentOf'. -/
def momentOfCard : Claim7 := { stood := { row := momentOfRow, standIns := [], harness := (true, "eb51090fe3e9614ef25e0dbe3faec450643c64e1a2a67be32737cc9de3e8c021"), looks := false }, kinds := [], alts := [], laidByText := true, laidKinds := [.data], laidTests := true, laidLooks := .later }
def MomentOfCardSaid : Prop := Claim7.holds Tryz.pinned (.plain (OpenSpec.ofChange momentOfSpec)) momentOfCard

/-- THE TIED CARD OF 'steelyardlaw14.MomentLaws'. -/
def momentLawsCard : Claim7 := { stood := { row := momentLawsRow, standIns := [], harness := (true, "eb51090fe3e9614ef25e0dbe3faec450643c64e1a2a67be32737cc9de3e8c021"), looks := false }, kinds := [], alts := [], laidByText := true, laidKinds := [.data], laidTests := true, laidLooks := .later }
def MomentLawsCardSaid : Prop := Claim7.holds Tryz.pinned (.plain (OpenSpec.ofChange momentLawsSpec)) momentLawsCard

/-- THE TIED CARD OF 'steelyardlaw12.DotDots'. -/
def dotDotsCard : Claim7 := { stood := { row := dotDotsRow, standIns := [], harness := (true, "eb51090fe3e9614ef25e0dbe3faec450643c64e1a2a67be32737cc9de3e8c021"), looks := false }, kinds := [], alts := [], laidByText := true, laidKinds := [.data], laidTests := true, laidLooks := .later }
def DotDotsCardSaid : Prop := Claim7.holds Tryz.pinned (.plain (OpenSpec.ofChange dotDotsSpec)) dotDotsCard

/-- THE TIED CARD OF 'steelyardlaw12.DotNorms'. -/
def dotNormsCard : Claim7 := { stood := { row := dotNormsRow, standIns := [], harness := (true, "eb51090fe3e9614ef25e0dbe3faec450643c64e1a2a67be32737cc9de3e8c021"), looks := false }, kinds := [], alts := [], laidByText := true, laidKinds := [.data], laidTests := true, laidLooks := .later }
def DotNormsCardSaid : Prop := Claim7.holds Tryz.pinned (.plain (OpenSpec.ofChange dotNormsSpec)) dotNormsCard

/-- THE TIED CARD OF 'steelyardlaw12.DotPolys'. -/
def dotPolysCard : Claim7 := { stood := { row := dotPolysRow, standIns := [], harness := (true, "eb51090fe3e9614ef25e0dbe3faec450643c64e1a2a67be32737cc9de3e8c021"), looks := false }, kinds := [], alts := [], laidByText := true, laidKinds := [.data], laidTests := true, laidLooks := .later }
def DotPolysCardSaid : Prop := Claim7.holds Tryz.pinned (.plain (OpenSpec.ofChange dotPolysSpec)) dotPolysCard

/-- THE TIED CARD OF 'steelyardlaw12.DotNear'. -/
def dotNearCard : Claim7 := { stood := { row := dotNearRow, standIns := [], harness := (true, "eb51090fe3e9614ef25e0dbe3faec450643c64e1a2a67be32737cc9de3e8c021"), looks := false }, kinds := [], alts := [], laidByText := true, laidKinds := [.data], laidTests := true, laidLooks := .later }
def DotNearCardSaid : Prop := Claim7.holds Tryz.pinned (.plain (OpenSpec.ofChange dotNearSpec)) dotNearCard

/-- THE TIED CARD OF 'steelyardlaw12.DotOrder'. -/
def dotOrderCard : Claim7 := { stood := { row := dotOrderRow, standIns := [], harness := (true, "eb51090fe3e9614ef25e0dbe3faec450643c64e1a2a67be32737cc9de3e8c021"), looks := false }, kinds := [], alts := [], laidByText := true, laidKinds := [.data], laidTests := true, laidLooks := .later }
def DotOrderCardSaid : Prop := Claim7.holds Tryz.pinned (.plain (OpenSpec.ofChange dotOrderSpec)) dotOrderCard

/-- THE SECOND FORM's CARD OF 'steelyardlaw09.BinsPlays'. -/
def binsPlaysUptoCard : Claim7 := { stood := { row := binsPlaysUptoRow, standIns := [], harness := (true, "eb51090fe3e9614ef25e0dbe3faec450643c64e1a2a67be32737cc9de3e8c021"), looks := false }, kinds := [], alts := [], laidByText := true, laidKinds := [.data], laidTests := true, laidLooks := .later }
def BinsPlaysUptoCardSaid : Prop := Claim7.holds Tryz.pinned (.plain (OpenSpec.upto binsPlaysSpec)) binsPlaysUptoCard

/-- THE SECOND FORM's CARD OF 'steelyardlaw07.SuperScript'. -/
def superScriptUptoCard : Claim7 := { stood := { row := superScriptUptoRow, standIns := [], harness := (true, "eb51090fe3e9614ef25e0dbe3faec450643c64e1a2a67be32737cc9de3e8c021"), looks := false }, kinds := [], alts := [], laidByText := true, laidKinds := [.data], laidTests := true, laidLooks := .later }
def SuperScriptUptoCardSaid : Prop := Claim7.holds Tryz.pinned (.plain (OpenSpec.upto superScriptSpec)) superScriptUptoCard

/-- THE SECOND FORM's CARD OF 'steelyardlaw14.MomentNumbers'. -/
def momentNumbersUptoCard : Claim7 := { stood := { row := momentNumbersUptoRow, standIns := [], harness := (true, "eb51090fe3e9614ef25e0dbe3faec450643c64e1a2a67be32737cc9de3e8c021"), looks := false }, kinds := [], alts := [], laidByText := true, laidKinds := [.data], laidTests := true, laidLooks := .later }
def MomentNumbersUptoCardSaid : Prop := Claim7.holds Tryz.pinned (.plain (OpenSpec.upto momentNumbersSpec)) momentNumbersUptoCard

/-- THE SECOND FORM's CARD OF 'steelyardlaw14.MomentVars'. -/
def momentVarsUptoCard : Claim7 := { stood := { row := momentVarsUptoRow, standIns := [], harness := (true, "eb51090fe3e9614ef25e0dbe3faec450643c64e1a2a67be32737cc9de3e8c021"), looks := false }, kinds := [], alts := [], laidByText := true, laidKinds := [.data], laidTests := true, laidLooks := .later }
def MomentVarsUptoCardSaid : Prop := Claim7.holds Tryz.pinned (.plain (OpenSpec.upto momentVarsSpec)) momentVarsUptoCard

/-- THE SECOND FORM's CARD OF 'steelyardlaw14.MomentTwo'. -/
def momentTwoUptoCard : Claim7 := { stood := { row := momentTwoUptoRow, standIns := [], harness := (true, "eb51090fe3e9614ef25e0dbe3faec450643c64e1a2a67be32737cc9de3e8c021"), looks := false }, kinds := [], alts := [], laidByText := true, laidKinds := [.data], laidTests := true, laidLooks := .later }
def MomentTwoUptoCardSaid : Prop := Claim7.holds Tryz.pinned (.plain (OpenSpec.upto momentTwoSpec)) momentTwoUptoCard

/-- THE SECOND FORM's CARD OF 'steelyardlaw14.MomentOf'. -/
def momentOfUptoCard : Claim7 := { stood := { row := momentOfUptoRow, standIns := [], harness := (true, "eb51090fe3e9614ef25e0dbe3faec450643c64e1a2a67be32737cc9de3e8c021"), looks := false }, kinds := [], alts := [], laidByText := true, laidKinds := [.data], laidTests := true, laidLooks := .later }
def MomentOfUptoCardSaid : Prop := Claim7.holds Tryz.pinned (.plain (OpenSpec.upto momentOfSpec)) momentOfUptoCard

/-- THE SECOND FORM's CARD OF 'steelyardlaw14.MomentLaws'. -/
def momentLawsUptoCard : Claim7 := { stood := { row := momentLawsUptoRow, standIns := [], harness := (true, "eb51090fe3e9614ef25e0dbe3faec450643c64e1a2a67be32737cc9de3e8c021"), looks := false }, kinds := [], alts := [], laidByText := true, laidKinds := [.data], laidTests := true, laidLooks := .later }
def MomentLawsUptoCardSaid : Prop := Claim7.holds Tryz.pinned (.plain (OpenSpec.upto momentLawsSpec)) momentLawsUptoCard

/-- THE SECOND FORM's CARD OF 'steelyardlaw12.DotDots'. -/
def dotDotsUptoCard : Claim7 := { stood := { row := dotDotsUptoRow, standIns := [], harness := (true, "eb51090fe3e9614ef25e0dbe3faec450643c64e1a2a67be32737cc9de3e8c021"), looks := false }, kinds := [], alts := [], laidByText := true, laidKinds := [.data], laidTests := true, laidLooks := .later }
def DotDotsUptoCardSaid : Prop := Claim7.holds Tryz.pinned (.plain (OpenSpec.upto dotDotsSpec)) dotDotsUptoCard

/-- THE SECOND FORM's CARD OF 'steelyardlaw12.DotNorms'. -/
def dotNormsUptoCard : Claim7 := { stood := { row := dotNormsUptoRow, standIns := [], harness := (true, "eb51090fe3e9614ef25e0dbe3faec450643c64e1a2a67be32737cc9de3e8c021"), looks := false }, kinds := [], alts := [], laidByText := true, laidKinds := [.data], laidTests := true, laidLooks := .later }
def DotNormsUptoCardSaid : Prop := Claim7.holds Tryz.pinned (.plain (OpenSpec.upto dotNormsSpec)) dotNormsUptoCard

/-- THE SECOND FORM's CARD OF 'steelyardlaw12.DotPolys'. -/
def dotPolysUptoCard : Claim7 := { stood := { row := dotPolysUptoRow, standIns := [], harness := (true, "eb51090fe3e9614ef25e0dbe3faec450643c64e1a2a67be32737cc9de3e8c021"), looks := false }, kinds := [], alts := [], laidByText := true, laidKinds := [.data], laidTests := true, laidLooks := .later }
def DotPolysUptoCardSaid : Prop := Claim7.holds Tryz.pinned (.plain (OpenSpec.upto dotPolysSpec)) dotPolysUptoCard

/-- THE SECOND FORM's CARD OF 'steelyardlaw12.DotNear'. -/
def dotNearUptoCard : Claim7 := { stood := { row := dotNearUptoRow, standIns := [], harness := (true, "eb51090fe3e9614ef25e0dbe3faec450643c64e1a2a67be32737cc9de3e8c021"), looks := false }, kinds := [], alts := [], laidByText := true, laidKinds := [.data], laidTests := true, laidLooks := .later }
def DotNearUptoCardSaid : Prop := Claim7.holds Tryz.pinned (.plain (OpenSpec.upto dotNearSpec)) dotNearUptoCard

/-- THE SECOND FORM's CARD OF 'steelyardlaw12.DotOrder'. -/
def dotOrderUptoCard : Claim7 := { stood := { row := dotOrderUptoRow, standIns := [], harness := (true, "eb51090fe3e9614ef25e0dbe3faec450643c64e1a2a67be32737cc9de3e8c021"), looks := false }, kinds := [], alts := [], laidByText := true, laidKinds := [.data], laidTests := true, laidLooks := .later }
def DotOrderUptoCardSaid : Prop := Claim7.holds Tryz.pinned (.plain (OpenSpec.upto dotOrderSpec)) dotOrderUptoCard
end Rows
end Go.Proofs.YteahdgbokjbgcaaGreatDoor
