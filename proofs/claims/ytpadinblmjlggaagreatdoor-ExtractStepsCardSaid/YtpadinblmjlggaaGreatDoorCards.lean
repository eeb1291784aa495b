/-
  DERIVED. GIVEN WITH THE SEED: THE CARDS: each row of YtpadinblmjlggaaGreatDoorRows.lean that lists a variable, with what it lists TIED to the program's text (the seventh form; the later family's looks); each row that meets fmt, with fmt's text TOLD by the authors' own Lean function (tested against real Go, not proved from fmt's source: count such statements apart). THE CARD IS WHAT COUNTS. Prove the row's statement (the work); the ties are given (YtpadinblmjlggaaGreatDoorTie.lean); close each card by the builder's one call (the guide's Derived/Test/ToyasCard.lean, 'card_holds'). Laid BY PROGRAM, IN A SANDBOX (cutbox-door.mjs). By AI agents, Wed Nov 11 2026. No macro, syntax, notation, axiom, sorry.
-/
import Derived.Test.YtpadinblmjlggaaGreatDoorRows
import GoSem.ClaimSeven
namespace Go.Proofs.YtpadinblmjlggaaGreatDoor
namespace Rows

/-- THE TIED CARD OF 'pneumaticlaw30.ExtractPlaces'. -/
def extractPlacesCard : Claim7 := { stood := { row := extractPlacesRow, standIns := [], harness := (true, "dc8314e5905d02f0ad659679b15d69ba92bdb744870fad194334e9a7c08d2aba"), looks := false }, kinds := [], alts := [], laidByText := true, laidKinds := [.data, .data, .data, .data], laidTests := true, laidLooks := .later }
def ExtractPlacesCardSaid : Prop := Claim7.holds Tryz.pinned (.plain (OpenSpec.ofChange extractPlacesSpec)) extractPlacesCard

/-- THE TIED CARD OF 'pneumaticlaw30.ExtractReturns'. -/
def extractReturnsCard : Claim7 := { stood := { row := extractReturnsRow, standIns := [], harness := (true, "dc8314e5905d02f0ad659679b15d69ba92bdb744870fad194334e9a7c08d2aba"), looks := false }, kinds := [], alts := [], laidByText := true, laidKinds := [.data, .data, .data, .data], laidTests := true, laidLooks := .later }
def ExtractReturnsCardSaid : Prop := Claim7.holds Tryz.pinned (.plain (OpenSpec.ofChange extractReturnsSpec)) extractReturnsCard

/-- THE TIED CARD OF 'pneumaticlaw30.ExtractStates'. -/
def extractStatesCard : Claim7 := { stood := { row := extractStatesRow, standIns := [], harness := (true, "dc8314e5905d02f0ad659679b15d69ba92bdb744870fad194334e9a7c08d2aba"), looks := false }, kinds := [], alts := [], laidByText := true, laidKinds := [.data, .data, .data, .data], laidTests := true, laidLooks := .later }
def ExtractStatesCardSaid : Prop := Claim7.holds Tryz.pinned (.plain (OpenSpec.ofChange extractStatesSpec)) extractStatesCard

/-- THE TIED CARD OF 'pneumaticlaw30.ExtractPressure'. -/
def extractPressureCard : Claim7 := { stood := { row := extractPressureRow, standIns := [], harness := (true, "dc8314e5905d02f0ad659679b15d69ba92bdb744870fad194334e9a7c08d2aba"), looks := false }, kinds := [], alts := [], laidByText := true, laidKinds := [.data, .data, .data, .data], laidTests := true, laidLooks := .later }
def ExtractPressureCardSaid : Prop := Claim7.holds Tryz.pinned (.plain (OpenSpec.ofChange extractPressureSpec)) extractPressureCard

/-- THE TIED CARD OF 'pneumaticlaw30.ExtractSteps'. -/
def extractStepsCard : Claim7 := { stood := { row := extractStepsRow, standIns := [], harness := (true, "dc8314e5905d02f0ad659679b15d69ba92bdb744870fad194334e9a7c08d2aba"), looks := false }, kinds := [], alts := [], laidByText := true, laidKinds := [.data, .data, .data, .data], laidTests := true, laidLooks := .later }
def ExtractStepsCardSaid : Prop := Claim7.holds Tryz.pinned (.plain (OpenSpec.ofChange extractStepsSpec)) extractStepsCard

/-- THE SECOND FORM's CARD OF 'pneumaticlaw30.ExtractPlaces'. -/
def extractPlacesUptoCard : Claim7 := { stood := { row := extractPlacesUptoRow, standIns := [], harness := (true, "dc8314e5905d02f0ad659679b15d69ba92bdb744870fad194334e9a7c08d2aba"), looks := false }, kinds := [], alts := [], laidByText := true, laidKinds := [.data, .data, .data, .data], laidTests := true, laidLooks := .later }
def ExtractPlacesUptoCardSaid : Prop := Claim7.holds Tryz.pinned (.plain (OpenSpec.upto extractPlacesSpec)) extractPlacesUptoCard

/-- THE SECOND FORM's CARD OF 'pneumaticlaw30.ExtractReturns'. -/
def extractReturnsUptoCard : Claim7 := { stood := { row := extractReturnsUptoRow, standIns := [], harness := (true, "dc8314e5905d02f0ad659679b15d69ba92bdb744870fad194334e9a7c08d2aba"), looks := false }, kinds := [], alts := [], laidByText := true, laidKinds := [.data, .data, .data, .data], laidTests := true, laidLooks := .later }
def ExtractReturnsUptoCardSaid : Prop := Claim7.holds Tryz.pinned (.plain (OpenSpec.upto extractReturnsSpec)) extractReturnsUptoCard

/-- THE SECOND FORM's CARD OF 'pneumaticlaw30.ExtractStates'. -/
def extractStatesUptoCard : Claim7 := { stood := { row := extractStatesUptoRow, standIns := [], harness := (true, "dc8314e5905d02f0ad659679b15d69ba92bdb744870fad194334e9a7c08d2aba"), looks := false }, kinds := [], alts := [], laidByText := true, laidKinds := [.data, .data, .data, .data], laidTests := true, laidLooks := .later }
def ExtractStatesUptoCardSaid : Prop := Claim7.holds Tryz.pinned (.plain (OpenSpec.upto extractStatesSpec)) extractStatesUptoCard

/-- THE SECOND FORM's CARD OF 'pneumaticlaw30.ExtractPressure'. -/
def extractPressureUptoCard : Claim7 := { stood := { row := extractPressureUptoRow, standIns := [], harness := (true, "dc8314e5905d02f0ad659679b15d69ba92bdb744870fad194334e9a7c08d2aba"), looks := false }, kinds := [], alts := [], laidByText := true, laidKinds := [.data, .data, .data, .data], laidTests := true, laidLooks := .later }
def ExtractPressureUptoCardSaid : Prop := Claim7.holds Tryz.pinned (.plain (OpenSpec.upto extractPressureSpec)) extractPressureUptoCard

/-- THE SECOND FORM's CARD OF 'pneumaticlaw30.ExtractSteps'. -/
def extractStepsUptoCard : Claim7 := { stood := { row := extractStepsUptoRow, standIns := [], harness := (true, "dc8314e5905d02f0ad659679b15d69ba92bdb744870fad194334e9a7c08d2aba"), looks := false }, kinds := [], alts := [], laidByText := true, laidKinds := [.data, .data, .data, .data], laidTests := true, laidLooks := .later }
def ExtractStepsUptoCardSaid : Prop := Claim7.holds Tryz.pinned (.plain (OpenSpec.upto extractStepsSpec)) extractStepsUptoCard
end Rows
end Go.Proofs.YtpadinblmjlggaaGreatDoor
