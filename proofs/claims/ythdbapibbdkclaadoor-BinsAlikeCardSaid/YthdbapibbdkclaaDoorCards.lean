/-
  DERIVED. GIVEN WITH THE SEED: THE CARDS: each row of YthdbapibbdkclaaDoorRows.lean that lists a variable, with what it lists TIED to the program's text (the seventh form; the later family's looks); each row that meets fmt, with fmt's text TOLD by the authors' own Lean function (tested against real Go, not proved from fmt's source: count such statements apart). THE CARD IS WHAT COUNTS. Prove the row's statement (the work); the ties are given (YthdbapibbdkclaaDoorTie.lean); close each card by the builder's one call (the guide's Derived/Test/ToyasCard.lean, 'card_holds'). Laid BY PROGRAM, IN A SANDBOX (cutbox-door.mjs). By AI agents, Wed Nov 11 2026. No macro, syntax, notation, axiom, sorry.
-/
import Derived.Test.YthdbapibbdkclaaDoorRows
import GoSem.ClaimSeven
namespace Go.Proofs.YthdbapibbdkclaaDoor
namespace Rows

/-- THE TIED CARD OF 'steelyardlaw07.SuperNumbers'. -/
def superNumbersCard : Claim7 := { stood := { row := superNumbersRow, standIns := [], harness := (true, "60cf208ebc53e237e7ea57e3c526f3f38643d28d093d7a4baaecb2427f82e735"), looks := false }, kinds := [], alts := [], laidByText := true, laidKinds := [.data], laidTests := true, laidLooks := .later }
def SuperNumbersCardSaid : Prop := Claim7.holds Tryd.pinned (.plain (OpenSpec.ofChange superNumbersSpec)) superNumbersCard

/-- THE TIED CARD OF 'steelyardlaw09.BinsAlike'. -/
def binsAlikeCard : Claim7 := { stood := { row := binsAlikeRow, standIns := [], harness := (true, "60cf208ebc53e237e7ea57e3c526f3f38643d28d093d7a4baaecb2427f82e735"), looks := false }, kinds := [], alts := [], laidByText := true, laidKinds := [.data], laidTests := true, laidLooks := .later }
def BinsAlikeCardSaid : Prop := Claim7.holds Tryd.pinned (.plain (OpenSpec.ofChange binsAlikeSpec)) binsAlikeCard

/-- THE TIED CARD OF 'steelyardlaw07.SuperOrder'. -/
def superOrderCard : Claim7 := { stood := { row := superOrderRow, standIns := [], harness := (true, "60cf208ebc53e237e7ea57e3c526f3f38643d28d093d7a4baaecb2427f82e735"), looks := false }, kinds := [], alts := [], laidByText := true, laidKinds := [.data], laidTests := true, laidLooks := .later }
def SuperOrderCardSaid : Prop := Claim7.holds Tryd.pinned (.plain (OpenSpec.ofChange superOrderSpec)) superOrderCard

/-- THE TIED CARD OF 'steelyardlaw07.SuperUndone'. -/
def superUndoneCard : Claim7 := { stood := { row := superUndoneRow, standIns := [], harness := (true, "60cf208ebc53e237e7ea57e3c526f3f38643d28d093d7a4baaecb2427f82e735"), looks := false }, kinds := [], alts := [], laidByText := true, laidKinds := [.data], laidTests := true, laidLooks := .later }
def SuperUndoneCardSaid : Prop := Claim7.holds Tryd.pinned (.plain (OpenSpec.ofChange superUndoneSpec)) superUndoneCard

/-- THE TIED CARD OF 'steelyardlaw10.SumsNumbers'. -/
def sumsNumbersCard : Claim7 := { stood := { row := sumsNumbersRow, standIns := [], harness := (true, "60cf208ebc53e237e7ea57e3c526f3f38643d28d093d7a4baaecb2427f82e735"), looks := false }, kinds := [], alts := [], laidByText := true, laidKinds := [.data], laidTests := true, laidLooks := .later }
def SumsNumbersCardSaid : Prop := Claim7.holds Tryd.pinned (.plain (OpenSpec.ofChange sumsNumbersSpec)) sumsNumbersCard

/-- THE TIED CARD OF 'steelyardlaw10.SumsWhole'. -/
def sumsWholeCard : Claim7 := { stood := { row := sumsWholeRow, standIns := [], harness := (true, "60cf208ebc53e237e7ea57e3c526f3f38643d28d093d7a4baaecb2427f82e735"), looks := false }, kinds := [], alts := [], laidByText := true, laidKinds := [.data], laidTests := true, laidLooks := .later }
def SumsWholeCardSaid : Prop := Claim7.holds Tryd.pinned (.plain (OpenSpec.ofChange sumsWholeSpec)) sumsWholeCard

/-- THE TIED CARD OF 'steelyardlaw07.SuperBetween'. -/
def superBetweenCard : Claim7 := { stood := { row := superBetweenRow, standIns := [], harness := (true, "60cf208ebc53e237e7ea57e3c526f3f38643d28d093d7a4baaecb2427f82e735"), looks := false }, kinds := [], alts := [], laidByText := true, laidKinds := [.data], laidTests := true, laidLooks := .later }
def SuperBetweenCardSaid : Prop := Claim7.holds Tryd.pinned (.plain (OpenSpec.ofChange superBetweenSpec)) superBetweenCard

/-- THE TIED CARD OF 'steelyardlaw10.SumsOrder'. -/
def sumsOrderCard : Claim7 := { stood := { row := sumsOrderRow, standIns := [], harness := (true, "60cf208ebc53e237e7ea57e3c526f3f38643d28d093d7a4baaecb2427f82e735"), looks := false }, kinds := [], alts := [], laidByText := true, laidKinds := [.data], laidTests := true, laidLooks := .later }
def SumsOrderCardSaid : Prop := Claim7.holds Tryd.pinned (.plain (OpenSpec.ofChange sumsOrderSpec)) sumsOrderCard

/-- THE TIED CARD OF 'steelyardlaw10.SumsLong'. -/
def sumsLongCard : Claim7 := { stood := { row := sumsLongRow, standIns := [], harness := (true, "60cf208ebc53e237e7ea57e3c526f3f38643d28d093d7a4baaecb2427f82e735"), looks := false }, kinds := [], alts := [], laidByText := true, laidKinds := [.data], laidTests := true, laidLooks := .later }
def SumsLongCardSaid : Prop := Claim7.holds Tryd.pinned (.plain (OpenSpec.ofChange sumsLongSpec)) sumsLongCard

/-- THE TIED CARD OF 'steelyardlaw10.SumsNear'. -/
def sumsNearCard : Claim7 := { stood := { row := sumsNearRow, standIns := [], harness := (true, "60cf208ebc53e237e7ea57e3c526f3f38643d28d093d7a4baaecb2427f82e735"), looks := false }, kinds := [], alts := [], laidByText := true, laidKinds := [.data], laidTests := true, laidLooks := .later }
def SumsNearCardSaid : Prop := Claim7.holds Tryd.pinned (.plain (OpenSpec.ofChange sumsNearSpec)) sumsNearCard

/-- THE SECOND FORM's CARD OF 'steelyardlaw07.SuperNumbers'. -/
def superNumbersUptoCard : Claim7 := { stood := { row := superNumbersUptoRow, standIns := [], harness := (true, "60cf208ebc53e237e7ea57e3c526f3f38643d28d093d7a4baaecb2427f82e735"), looks := false }, kinds := [], alts := [], laidByText := true, laidKinds := [.data], laidTests := true, laidLooks := .later }
def SuperNumbersUptoCardSaid : Prop := Claim7.holds Tryd.pinned (.plain (OpenSpec.upto superNumbersSpec)) superNumbersUptoCard

/-- THE SECOND FORM's CARD OF 'steelyardlaw09.BinsAlike'. -/
def binsAlikeUptoCard : Claim7 := { stood := { row := binsAlikeUptoRow, standIns := [], harness := (true, "60cf208ebc53e237e7ea57e3c526f3f38643d28d093d7a4baaecb2427f82e735"), looks := false }, kinds := [], alts := [], laidByText := true, laidKinds := [.data], laidTests := true, laidLooks := .later }
def BinsAlikeUptoCardSaid : Prop := Claim7.holds Tryd.pinned (.plain (OpenSpec.upto binsAlikeSpec)) binsAlikeUptoCard

/-- THE SECOND FORM's CARD OF 'steelyardlaw07.SuperOrder'. -/
def superOrderUptoCard : Claim7 := { stood := { row := superOrderUptoRow, standIns := [], harness := (true, "60cf208ebc53e237e7ea57e3c526f3f38643d28d093d7a4baaecb2427f82e735"), looks := false }, kinds := [], alts := [], laidByText := true, laidKinds := [.data], laidTests := true, laidLooks := .later }
def SuperOrderUptoCardSaid : Prop := Claim7.holds Tryd.pinned (.plain (OpenSpec.upto superOrderSpec)) superOrderUptoCard

/-- THE SECOND FORM's CARD OF 'steelyardlaw07.SuperUndone'. -/
def superUndoneUptoCard : Claim7 := { stood := { row := superUndoneUptoRow, standIns := [], harness := (true, "60cf208ebc53e237e7ea57e3c526f3f38643d28d093d7a4baaecb2427f82e735"), looks := false }, kinds := [], alts := [], laidByText := true, laidKinds := [.data], laidTests := true, laidLooks := .later }
def SuperUndoneUptoCardSaid : Prop := Claim7.holds Tryd.pinned (.plain (OpenSpec.upto superUndoneSpec)) superUndoneUptoCard

/-- THE SECOND FORM's CARD OF 'steelyardlaw10.SumsNumbers'. -/
def sumsNumbersUptoCard : Claim7 := { stood := { row := sumsNumbersUptoRow, standIns := [], harness := (true, "60cf208ebc53e237e7ea57e3c526f3f38643d28d093d7a4baaecb2427f82e735"), looks := false }, kinds := [], alts := [], laidByText := true, laidKinds := [.data], laidTests := true, laidLooks := .later }
def SumsNumbersUptoCardSaid : Prop := Claim7.holds Tryd.pinned (.plain (OpenSpec.upto sumsNumbersSpec)) sumsNumbersUptoCard

/-- THE SECOND FORM's CARD OF 'steelyardlaw10.SumsWhole'. -/
def sumsWholeUptoCard : Claim7 := { stood := { row := sumsWholeUptoRow, standIns := [], harness := (true, "60cf208ebc53e237e7ea57e3c526f3f38643d28d093d7a4baaecb2427f82e735"), looks := false }, kinds := [], alts := [], laidByText := true, laidKinds := [.data], laidTests := true, laidLooks := .later }
def SumsWholeUptoCardSaid : Prop := Claim7.holds Tryd.pinned (.plain (OpenSpec.upto sumsWholeSpec)) sumsWholeUptoCard

/-- THE SECOND FORM's CARD OF 'steelyardlaw07.SuperBetween'. -/
def superBetweenUptoCard : Claim7 := { stood := { row := superBetweenUptoRow, standIns := [], harness := (true, "60cf208ebc53e237e7ea57e3c526f3f38643d28d093d7a4baaecb2427f82e735"), looks := false }, kinds := [], alts := [], laidByText := true, laidKinds := [.data], laidTests := true, laidLooks := .later }
def SuperBetweenUptoCardSaid : Prop := Claim7.holds Tryd.pinned (.plain (OpenSpec.upto superBetweenSpec)) superBetweenUptoCard

/-- THE SECOND FORM's CARD OF 'steelyardlaw10.SumsOrder'. -/
def sumsOrderUptoCard : Claim7 := { stood := { row := sumsOrderUptoRow, standIns := [], harness := (true, "60cf208ebc53e237e7ea57e3c526f3f38643d28d093d7a4baaecb2427f82e735"), looks := false }, kinds := [], alts := [], laidByText := true, laidKinds := [.data], laidTests := true, laidLooks := .later }
def SumsOrderUptoCardSaid : Prop := Claim7.holds Tryd.pinned (.plain (OpenSpec.upto sumsOrderSpec)) sumsOrderUptoCard

/-- THE SECOND FORM's CARD OF 'steelyardlaw10.SumsLong'. -/
def sumsLongUptoCard : Claim7 := { stood := { row := sumsLongUptoRow, standIns := [], harness := (true, "60cf208ebc53e237e7ea57e3c526f3f38643d28d093d7a4baaecb2427f82e735"), looks := false }, kinds := [], alts := [], laidByText := true, laidKinds := [.data], laidTests := true, laidLooks := .later }
def SumsLongUptoCardSaid : Prop := Claim7.holds Tryd.pinned (.plain (OpenSpec.upto sumsLongSpec)) sumsLongUptoCard

/-- THE SECOND FORM's CARD OF 'steelyardlaw10.SumsNear'. -/
def sumsNearUptoCard : Claim7 := { stood := { row := sumsNearUptoRow, standIns := [], harness := (true, "60cf208ebc53e237e7ea57e3c526f3f38643d28d093d7a4baaecb2427f82e735"), looks := false }, kinds := [], alts := [], laidByText := true, laidKinds := [.data], laidTests := true, laidLooks := .later }
def SumsNearUptoCardSaid : Prop := Claim7.holds Tryd.pinned (.plain (OpenSpec.upto sumsNearSpec)) sumsNearUptoCard
end Rows
end Go.Proofs.YthdbapibbdkclaaDoor
