/-
  DERIVED. GIVEN WITH THE SEED: THE CARDS: each row of YtafamcbdaeppoaaGreatDoorRows.lean that lists a variable, with what it lists TIED to the program's text (the seventh form; the later family's looks); each row that meets fmt, with fmt's text TOLD by the authors' own Lean function (tested against real Go, not proved from fmt's source: count such statements apart). THE CARD IS WHAT COUNTS. Prove the row's statement (the work); the ties are given (YtafamcbdaeppoaaGreatDoorTie.lean); close each card by the builder's one call (the guide's Derived/Test/ToyasCard.lean, 'card_holds'). Laid BY PROGRAM, IN A SANDBOX (cutbox-door.mjs). By AI agents, Wed Nov 11 2026. No macro, syntax, notation, axiom, sorry.
-/
import Derived.Test.YtafamcbdaeppoaaGreatDoorRows
import GoSem.ClaimSeven
namespace Go.Proofs.YtafamcbdaeppoaaGreatDoor
namespace Rows

/-- THE TIED CARD OF 'pneumaticlaw37.RealizePressure'. -/
def realizePressureCard : Claim7 := { stood := { row := realizePressureRow, standIns := [], harness := (true, "04a0b887d1dab2692e8adf912645d5d046cb656fe16444e2b7a964dcd7b7da5c"), looks := false }, kinds := [], alts := [], laidByText := true, laidKinds := [.data, .data, .data, .data], laidTests := true, laidLooks := .later }
def RealizePressureCardSaid : Prop := Claim7.holds Tryz.pinned (.plain (OpenSpec.ofChange realizePressureSpec)) realizePressureCard

/-- THE TIED CARD OF 'pneumaticlaw37.RealizeSteps'. -/
def realizeStepsCard : Claim7 := { stood := { row := realizeStepsRow, standIns := [], harness := (true, "04a0b887d1dab2692e8adf912645d5d046cb656fe16444e2b7a964dcd7b7da5c"), looks := false }, kinds := [], alts := [], laidByText := true, laidKinds := [.data, .data, .data, .data], laidTests := true, laidLooks := .later }
def RealizeStepsCardSaid : Prop := Claim7.holds Tryz.pinned (.plain (OpenSpec.ofChange realizeStepsSpec)) realizeStepsCard

/-- THE TIED CARD OF 'pneumatictop.TopExtractPushes'. -/
def topExtractPushesCard : Claim7 := { stood := { row := topExtractPushesRow, standIns := [], harness := (true, "04a0b887d1dab2692e8adf912645d5d046cb656fe16444e2b7a964dcd7b7da5c"), looks := false }, kinds := [], alts := [], laidByText := true, laidKinds := [.data, .data, .data, .data], laidTests := true, laidLooks := .later }
def TopExtractPushesCardSaid : Prop := Claim7.holds Tryz.pinned (.plain (OpenSpec.ofChange topExtractPushesSpec)) topExtractPushesCard

/-- THE TIED CARD OF 'pneumatictop.TopExtractRests'. -/
def topExtractRestsCard : Claim7 := { stood := { row := topExtractRestsRow, standIns := [], harness := (true, "04a0b887d1dab2692e8adf912645d5d046cb656fe16444e2b7a964dcd7b7da5c"), looks := false }, kinds := [], alts := [], laidByText := true, laidKinds := [.data, .data, .data, .data], laidTests := true, laidLooks := .later }
def TopExtractRestsCardSaid : Prop := Claim7.holds Tryz.pinned (.plain (OpenSpec.ofChange topExtractRestsSpec)) topExtractRestsCard

/-- THE TIED CARD OF 'pneumatictop.TopRealizeExtract'. -/
def topRealizeExtractCard : Claim7 := { stood := { row := topRealizeExtractRow, standIns := [], harness := (true, "04a0b887d1dab2692e8adf912645d5d046cb656fe16444e2b7a964dcd7b7da5c"), looks := false }, kinds := [], alts := [], laidByText := true, laidKinds := [.data, .data, .data, .data], laidTests := true, laidLooks := .later }
def TopRealizeExtractCardSaid : Prop := Claim7.holds Tryz.pinned (.plain (OpenSpec.ofChange topRealizeExtractSpec)) topRealizeExtractCard

/-- THE SECOND FORM's CARD OF 'pneumaticlaw37.RealizePressure'. -/
def realizePressureUptoCard : Claim7 := { stood := { row := realizePressureUptoRow, standIns := [], harness := (true, "04a0b887d1dab2692e8adf912645d5d046cb656fe16444e2b7a964dcd7b7da5c"), looks := false }, kinds := [], alts := [], laidByText := true, laidKinds := [.data, .data, .data, .data], laidTests := true, laidLooks := .later }
def RealizePressureUptoCardSaid : Prop := Claim7.holds Tryz.pinned (.plain (OpenSpec.upto realizePressureSpec)) realizePressureUptoCard

/-- THE SECOND FORM's CARD OF 'pneumaticlaw37.RealizeSteps'. -/
def realizeStepsUptoCard : Claim7 := { stood := { row := realizeStepsUptoRow, standIns := [], harness := (true, "04a0b887d1dab2692e8adf912645d5d046cb656fe16444e2b7a964dcd7b7da5c"), looks := false }, kinds := [], alts := [], laidByText := true, laidKinds := [.data, .data, .data, .data], laidTests := true, laidLooks := .later }
def RealizeStepsUptoCardSaid : Prop := Claim7.holds Tryz.pinned (.plain (OpenSpec.upto realizeStepsSpec)) realizeStepsUptoCard

/-- THE SECOND FORM's CARD OF 'pneumatictop.TopExtractPushes'. -/
def topExtractPushesUptoCard : Claim7 := { stood := { row := topExtractPushesUptoRow, standIns := [], harness := (true, "04a0b887d1dab2692e8adf912645d5d046cb656fe16444e2b7a964dcd7b7da5c"), looks := false }, kinds := [], alts := [], laidByText := true, laidKinds := [.data, .data, .data, .data], laidTests := true, laidLooks := .later }
def TopExtractPushesUptoCardSaid : Prop := Claim7.holds Tryz.pinned (.plain (OpenSpec.upto topExtractPushesSpec)) topExtractPushesUptoCard

/-- THE SECOND FORM's CARD OF 'pneumatictop.TopExtractRests'. -/
def topExtractRestsUptoCard : Claim7 := { stood := { row := topExtractRestsUptoRow, standIns := [], harness := (true, "04a0b887d1dab2692e8adf912645d5d046cb656fe16444e2b7a964dcd7b7da5c"), looks := false }, kinds := [], alts := [], laidByText := true, laidKinds := [.data, .data, .data, .data], laidTests := true, laidLooks := .later }
def TopExtractRestsUptoCardSaid : Prop := Claim7.holds Tryz.pinned (.plain (OpenSpec.upto topExtractRestsSpec)) topExtractRestsUptoCard

/-- THE SECOND FORM's CARD OF 'pneumatictop.TopRealizeExtract'. -/
def topRealizeExtractUptoCard : Claim7 := { stood := { row := topRealizeExtractUptoRow, standIns := [], harness := (true, "04a0b887d1dab2692e8adf912645d5d046cb656fe16444e2b7a964dcd7b7da5c"), looks := false }, kinds := [], alts := [], laidByText := true, laidKinds := [.data, .data, .data, .data], laidTests := true, laidLooks := .later }
def TopRealizeExtractUptoCardSaid : Prop := Claim7.holds Tryz.pinned (.plain (OpenSpec.upto topRealizeExtractSpec)) topRealizeExtractUptoCard
end Rows
end Go.Proofs.YtafamcbdaeppoaaGreatDoor
