/-
  DERIVED. GIVEN WITH THE SEED: THE CARDS: each row of YthdbapibbdkclaaGreatDoorRows.lean that lists a variable, with what it lists TIED to the program's text (the seventh form; the later family's looks); each row that meets fmt, with fmt's text TOLD by the authors' own Lean function (tested against real Go, not proved from fmt's source: count such statements apart). THE CARD IS WHAT COUNTS. Prove the row's statement (the work); the ties are given (YthdbapibbdkclaaGreatDoorTie.lean); close each card by the builder's one call (the guide's Derived/Test/ToyasCard.lean, 'card_holds'). Laid BY PROGRAM, IN A SANDBOX (cutbox-door.mjs). By AI agents, Wed Nov 11 2026. No macro, syntax, notation, axiom, sorry.
-/
import Derived.Test.YthdbapibbdkclaaGreatDoorRows
import GoSem.ClaimSeven
namespace Go.Proofs.YthdbapibbdkclaaGreatDoor
namespace Rows

/-- THE TIED CARD OF 'steelyardlaw09.BinsPlays'. -/
def binsPlaysCard : Claim7 := { stood := { row := binsPlaysRow, standIns := [], harness := (true, "edad0d8009929320f2e59a5e937b6ebb55fe05617d35ce198dc38eb00ea44875"), looks := false }, kinds := [], alts := [], laidByText := true, laidKinds := [.data], laidTests := true, laidLooks := .later }
def BinsPlaysCardSaid : Prop := Claim7.holds Tryz.pinned (.plain (OpenSpec.ofChange binsPlaysSpec)) binsPlaysCard

/-- THE TIED CARD OF 'steelyardlaw10.SumsExacts'. -/
def sumsExactsCard : Claim7 := { stood := { row := sumsExactsRow, standIns := [], harness := (true, "edad0d8009929320f2e59a5e937b6ebb55fe05617d35ce198dc38eb00ea44875"), looks := false }, kinds := [], alts := [], laidByText := true, laidKinds := [.data], laidTests := true, laidLooks := .later }
def SumsExactsCardSaid : Prop := Claim7.holds Tryz.pinned (.plain (OpenSpec.ofChange sumsExactsSpec)) sumsExactsCard

/-- THE TIED CARD OF 'steelyardlaw10.SumsBlocks'. -/
def sumsBlocksCard : Claim7 := { stood := { row := sumsBlocksRow, standIns := [], harness := (true, "edad0d8009929320f2e59a5e937b6ebb55fe05617d35ce198dc38eb00ea44875"), looks := false }, kinds := [], alts := [], laidByText := true, laidKinds := [.data], laidTests := true, laidLooks := .later }
def SumsBlocksCardSaid : Prop := Claim7.holds Tryz.pinned (.plain (OpenSpec.ofChange sumsBlocksSpec)) sumsBlocksCard

/-- THE TIED CARD OF 'steelyardlaw10.SumsUsual'. -/
def sumsUsualCard : Claim7 := { stood := { row := sumsUsualRow, standIns := [], harness := (true, "edad0d8009929320f2e59a5e937b6ebb55fe05617d35ce198dc38eb00ea44875"), looks := false }, kinds := [], alts := [], laidByText := true, laidKinds := [.data], laidTests := true, laidLooks := .later }
def SumsUsualCardSaid : Prop := Claim7.holds Tryz.pinned (.plain (OpenSpec.ofChange sumsUsualSpec)) sumsUsualCard

/-- THE TIED CARD OF 'steelyardlaw07.SuperScript'. -/
def superScriptCard : Claim7 := { stood := { row := superScriptRow, standIns := [], harness := (true, "edad0d8009929320f2e59a5e937b6ebb55fe05617d35ce198dc38eb00ea44875"), looks := false }, kinds := [], alts := [], laidByText := true, laidKinds := [.data], laidTests := true, laidLooks := .later }
def SuperScriptCardSaid : Prop := Claim7.holds Tryz.pinned (.plain (OpenSpec.ofChange superScriptSpec)) superScriptCard

/-- THE TIED CARD OF 'steelyardlaw10.SumsShort'. -/
def sumsShortCard : Claim7 := { stood := { row := sumsShortRow, standIns := [], harness := (true, "edad0d8009929320f2e59a5e937b6ebb55fe05617d35ce198dc38eb00ea44875"), looks := false }, kinds := [], alts := [], laidByText := true, laidKinds := [.data, .data], laidTests := true, laidLooks := .later }
def SumsShortCardSaid : Prop := Claim7.holds Tryz.pinned (.plain (OpenSpec.ofChange sumsShortSpec)) sumsShortCard

/-- THE TIED CARD OF 'steelyardlaw10.SumsAlike'. -/
def sumsAlikeCard : Claim7 := { stood := { row := sumsAlikeRow, standIns := [], harness := (true, "edad0d8009929320f2e59a5e937b6ebb55fe05617d35ce198dc38eb00ea44875"), looks := false }, kinds := [], alts := [], laidByText := true, laidKinds := [.data], laidTests := true, laidLooks := .later }
def SumsAlikeCardSaid : Prop := Claim7.holds Tryz.pinned (.plain (OpenSpec.ofChange sumsAlikeSpec)) sumsAlikeCard

/-- THE SECOND FORM's CARD OF 'steelyardlaw09.BinsPlays'. -/
def binsPlaysUptoCard : Claim7 := { stood := { row := binsPlaysUptoRow, standIns := [], harness := (true, "edad0d8009929320f2e59a5e937b6ebb55fe05617d35ce198dc38eb00ea44875"), looks := false }, kinds := [], alts := [], laidByText := true, laidKinds := [.data], laidTests := true, laidLooks := .later }
def BinsPlaysUptoCardSaid : Prop := Claim7.holds Tryz.pinned (.plain (OpenSpec.upto binsPlaysSpec)) binsPlaysUptoCard

/-- THE SECOND FORM's CARD OF 'steelyardlaw10.SumsExacts'. -/
def sumsExactsUptoCard : Claim7 := { stood := { row := sumsExactsUptoRow, standIns := [], harness := (true, "edad0d8009929320f2e59a5e937b6ebb55fe05617d35ce198dc38eb00ea44875"), looks := false }, kinds := [], alts := [], laidByText := true, laidKinds := [.data], laidTests := true, laidLooks := .later }
def SumsExactsUptoCardSaid : Prop := Claim7.holds Tryz.pinned (.plain (OpenSpec.upto sumsExactsSpec)) sumsExactsUptoCard

/-- THE SECOND FORM's CARD OF 'steelyardlaw10.SumsBlocks'. -/
def sumsBlocksUptoCard : Claim7 := { stood := { row := sumsBlocksUptoRow, standIns := [], harness := (true, "edad0d8009929320f2e59a5e937b6ebb55fe05617d35ce198dc38eb00ea44875"), looks := false }, kinds := [], alts := [], laidByText := true, laidKinds := [.data], laidTests := true, laidLooks := .later }
def SumsBlocksUptoCardSaid : Prop := Claim7.holds Tryz.pinned (.plain (OpenSpec.upto sumsBlocksSpec)) sumsBlocksUptoCard

/-- THE SECOND FORM's CARD OF 'steelyardlaw10.SumsUsual'. -/
def sumsUsualUptoCard : Claim7 := { stood := { row := sumsUsualUptoRow, standIns := [], harness := (true, "edad0d8009929320f2e59a5e937b6ebb55fe05617d35ce198dc38eb00ea44875"), looks := false }, kinds := [], alts := [], laidByText := true, laidKinds := [.data], laidTests := true, laidLooks := .later }
def SumsUsualUptoCardSaid : Prop := Claim7.holds Tryz.pinned (.plain (OpenSpec.upto sumsUsualSpec)) sumsUsualUptoCard

/-- THE SECOND FORM's CARD OF 'steelyardlaw07.SuperScript'. -/
def superScriptUptoCard : Claim7 := { stood := { row := superScriptUptoRow, standIns := [], harness := (true, "edad0d8009929320f2e59a5e937b6ebb55fe05617d35ce198dc38eb00ea44875"), looks := false }, kinds := [], alts := [], laidByText := true, laidKinds := [.data], laidTests := true, laidLooks := .later }
def SuperScriptUptoCardSaid : Prop := Claim7.holds Tryz.pinned (.plain (OpenSpec.upto superScriptSpec)) superScriptUptoCard

/-- THE SECOND FORM's CARD OF 'steelyardlaw10.SumsShort'. -/
def sumsShortUptoCard : Claim7 := { stood := { row := sumsShortUptoRow, standIns := [], harness := (true, "edad0d8009929320f2e59a5e937b6ebb55fe05617d35ce198dc38eb00ea44875"), looks := false }, kinds := [], alts := [], laidByText := true, laidKinds := [.data, .data], laidTests := true, laidLooks := .later }
def SumsShortUptoCardSaid : Prop := Claim7.holds Tryz.pinned (.plain (OpenSpec.upto sumsShortSpec)) sumsShortUptoCard

/-- THE SECOND FORM's CARD OF 'steelyardlaw10.SumsAlike'. -/
def sumsAlikeUptoCard : Claim7 := { stood := { row := sumsAlikeUptoRow, standIns := [], harness := (true, "edad0d8009929320f2e59a5e937b6ebb55fe05617d35ce198dc38eb00ea44875"), looks := false }, kinds := [], alts := [], laidByText := true, laidKinds := [.data], laidTests := true, laidLooks := .later }
def SumsAlikeUptoCardSaid : Prop := Claim7.holds Tryz.pinned (.plain (OpenSpec.upto sumsAlikeSpec)) sumsAlikeUptoCard
end Rows
end Go.Proofs.YthdbapibbdkclaaGreatDoor
