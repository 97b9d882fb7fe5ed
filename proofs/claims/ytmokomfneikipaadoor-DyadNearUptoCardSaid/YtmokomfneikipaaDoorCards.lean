/-
  DERIVED. GIVEN WITH THE SEED: THE CARDS: each row of YtmokomfneikipaaDoorRows.lean that lists a variable, with what it lists TIED to the program's text (the seventh form; the later family's looks); each row that meets fmt, with fmt's text TOLD by the authors' own Lean function (tested against real Go, not proved from fmt's source: count such statements apart). THE CARD IS WHAT COUNTS. Prove the row's statement (the work); the ties are given (YtmokomfneikipaaDoorTie.lean); close each card by the builder's one call (the guide's Derived/Test/ToyasCard.lean, 'card_holds'). Laid BY PROGRAM, IN A SANDBOX (cutbox-door.mjs). By AI agents, Wed Nov 11 2026. No macro, syntax, notation, axiom, sorry.
-/
import Derived.Test.YtmokomfneikipaaDoorRows
import GoSem.ClaimSeven
namespace Go.Proofs.YtmokomfneikipaaDoor
namespace Rows

/-- THE TIED CARD OF 'steelyardlaw03.DyadMakes'. -/
def dyadMakesCard : Claim7 := { stood := { row := dyadMakesRow, standIns := [], harness := (true, "93719dc8c85d94d7b5954939bd856a270d6de4b89022f819374ac454ca4de009"), looks := false }, kinds := [], alts := [], laidByText := true, laidKinds := [.data], laidTests := true, laidLooks := .later }
def DyadMakesCardSaid : Prop := Claim7.holds Tryd.pinned (.plain (OpenSpec.ofChange dyadMakesSpec)) dyadMakesCard

/-- THE TIED CARD OF 'steelyardlaw03.DyadSums'. -/
def dyadSumsCard : Claim7 := { stood := { row := dyadSumsRow, standIns := [], harness := (true, "93719dc8c85d94d7b5954939bd856a270d6de4b89022f819374ac454ca4de009"), looks := false }, kinds := [], alts := [], laidByText := true, laidKinds := [.data], laidTests := true, laidLooks := .later }
def DyadSumsCardSaid : Prop := Claim7.holds Tryd.pinned (.plain (OpenSpec.ofChange dyadSumsSpec)) dyadSumsCard

/-- THE TIED CARD OF 'steelyardlaw03.DyadRounds'. -/
def dyadRoundsCard : Claim7 := { stood := { row := dyadRoundsRow, standIns := [], harness := (true, "93719dc8c85d94d7b5954939bd856a270d6de4b89022f819374ac454ca4de009"), looks := false }, kinds := [], alts := [], laidByText := true, laidKinds := [.data], laidTests := true, laidLooks := .later }
def DyadRoundsCardSaid : Prop := Claim7.holds Tryd.pinned (.plain (OpenSpec.ofChange dyadRoundsSpec)) dyadRoundsCard

/-- THE TIED CARD OF 'steelyardlaw03.DyadProducts'. -/
def dyadProductsCard : Claim7 := { stood := { row := dyadProductsRow, standIns := [], harness := (true, "93719dc8c85d94d7b5954939bd856a270d6de4b89022f819374ac454ca4de009"), looks := false }, kinds := [], alts := [], laidByText := true, laidKinds := [.data], laidTests := true, laidLooks := .later }
def DyadProductsCardSaid : Prop := Claim7.holds Tryd.pinned (.plain (OpenSpec.ofChange dyadProductsSpec)) dyadProductsCard

/-- THE TIED CARD OF 'steelyardlaw03.DyadCompares'. -/
def dyadComparesCard : Claim7 := { stood := { row := dyadComparesRow, standIns := [], harness := (true, "93719dc8c85d94d7b5954939bd856a270d6de4b89022f819374ac454ca4de009"), looks := false }, kinds := [], alts := [], laidByText := true, laidKinds := [.data], laidTests := true, laidLooks := .later }
def DyadComparesCardSaid : Prop := Claim7.holds Tryd.pinned (.plain (OpenSpec.ofChange dyadComparesSpec)) dyadComparesCard

/-- THE TIED CARD OF 'steelyardlaw03.DyadNear'. -/
def dyadNearCard : Claim7 := { stood := { row := dyadNearRow, standIns := [], harness := (true, "93719dc8c85d94d7b5954939bd856a270d6de4b89022f819374ac454ca4de009"), looks := false }, kinds := [], alts := [], laidByText := true, laidKinds := [.data], laidTests := true, laidLooks := .later }
def DyadNearCardSaid : Prop := Claim7.holds Tryd.pinned (.plain (OpenSpec.ofChange dyadNearSpec)) dyadNearCard

/-- THE TIED CARD OF 'steelyardlaw03.DyadRing'. -/
def dyadRingCard : Claim7 := { stood := { row := dyadRingRow, standIns := [], harness := (true, "93719dc8c85d94d7b5954939bd856a270d6de4b89022f819374ac454ca4de009"), looks := false }, kinds := [], alts := [], laidByText := true, laidKinds := [.data], laidTests := true, laidLooks := .later }
def DyadRingCardSaid : Prop := Claim7.holds Tryd.pinned (.plain (OpenSpec.ofChange dyadRingSpec)) dyadRingCard

/-- THE SECOND FORM's CARD OF 'steelyardlaw03.DyadMakes'. -/
def dyadMakesUptoCard : Claim7 := { stood := { row := dyadMakesUptoRow, standIns := [], harness := (true, "93719dc8c85d94d7b5954939bd856a270d6de4b89022f819374ac454ca4de009"), looks := false }, kinds := [], alts := [], laidByText := true, laidKinds := [.data], laidTests := true, laidLooks := .later }
def DyadMakesUptoCardSaid : Prop := Claim7.holds Tryd.pinned (.plain (OpenSpec.upto dyadMakesSpec)) dyadMakesUptoCard

/-- THE SECOND FORM's CARD OF 'steelyardlaw03.DyadSums'. -/
def dyadSumsUptoCard : Claim7 := { stood := { row := dyadSumsUptoRow, standIns := [], harness := (true, "93719dc8c85d94d7b5954939bd856a270d6de4b89022f819374ac454ca4de009"), looks := false }, kinds := [], alts := [], laidByText := true, laidKinds := [.data], laidTests := true, laidLooks := .later }
def DyadSumsUptoCardSaid : Prop := Claim7.holds Tryd.pinned (.plain (OpenSpec.upto dyadSumsSpec)) dyadSumsUptoCard

/-- THE SECOND FORM's CARD OF 'steelyardlaw03.DyadRounds'. -/
def dyadRoundsUptoCard : Claim7 := { stood := { row := dyadRoundsUptoRow, standIns := [], harness := (true, "93719dc8c85d94d7b5954939bd856a270d6de4b89022f819374ac454ca4de009"), looks := false }, kinds := [], alts := [], laidByText := true, laidKinds := [.data], laidTests := true, laidLooks := .later }
def DyadRoundsUptoCardSaid : Prop := Claim7.holds Tryd.pinned (.plain (OpenSpec.upto dyadRoundsSpec)) dyadRoundsUptoCard

/-- THE SECOND FORM's CARD OF 'steelyardlaw03.DyadProducts'. -/
def dyadProductsUptoCard : Claim7 := { stood := { row := dyadProductsUptoRow, standIns := [], harness := (true, "93719dc8c85d94d7b5954939bd856a270d6de4b89022f819374ac454ca4de009"), looks := false }, kinds := [], alts := [], laidByText := true, laidKinds := [.data], laidTests := true, laidLooks := .later }
def DyadProductsUptoCardSaid : Prop := Claim7.holds Tryd.pinned (.plain (OpenSpec.upto dyadProductsSpec)) dyadProductsUptoCard

/-- THE SECOND FORM's CARD OF 'steelyardlaw03.DyadCompares'. -/
def dyadComparesUptoCard : Claim7 := { stood := { row := dyadComparesUptoRow, standIns := [], harness := (true, "93719dc8c85d94d7b5954939bd856a270d6de4b89022f819374ac454ca4de009"), looks := false }, kinds := [], alts := [], laidByText := true, laidKinds := [.data], laidTests := true, laidLooks := .later }
def DyadComparesUptoCardSaid : Prop := Claim7.holds Tryd.pinned (.plain (OpenSpec.upto dyadComparesSpec)) dyadComparesUptoCard

/-- THE SECOND FORM's CARD OF 'steelyardlaw03.DyadNear'. -/
def dyadNearUptoCard : Claim7 := { stood := { row := dyadNearUptoRow, standIns := [], harness := (true, "93719dc8c85d94d7b5954939bd856a270d6de4b89022f819374ac454ca4de009"), looks := false }, kinds := [], alts := [], laidByText := true, laidKinds := [.data], laidTests := true, laidLooks := .later }
def DyadNearUptoCardSaid : Prop := Claim7.holds Tryd.pinned (.plain (OpenSpec.upto dyadNearSpec)) dyadNearUptoCard

/-- THE SECOND FORM's CARD OF 'steelyardlaw03.DyadRing'. -/
def dyadRingUptoCard : Claim7 := { stood := { row := dyadRingUptoRow, standIns := [], harness := (true, "93719dc8c85d94d7b5954939bd856a270d6de4b89022f819374ac454ca4de009"), looks := false }, kinds := [], alts := [], laidByText := true, laidKinds := [.data], laidTests := true, laidLooks := .later }
def DyadRingUptoCardSaid : Prop := Claim7.holds Tryd.pinned (.plain (OpenSpec.upto dyadRingSpec)) dyadRingUptoCard
end Rows
end Go.Proofs.YtmokomfneikipaaDoor
