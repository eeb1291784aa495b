/-
  DERIVED. GIVEN WITH THE SEED: THE CARDS: each row of YtbcjnmifflflfaaGreatDoorRows.lean that lists a variable, with what it lists TIED to the program's text (the seventh form; the later family's looks); each row that meets fmt, with fmt's text TOLD by the authors' own Lean function (tested against real Go, not proved from fmt's source: count such statements apart). THE CARD IS WHAT COUNTS. Prove the row's statement (the work); the ties are given (YtbcjnmifflflfaaGreatDoorTie.lean); close each card by the builder's one call (the guide's Derived/Test/ToyasCard.lean, 'card_holds'). Laid BY PROGRAM, IN A SANDBOX (cutbox-door.mjs). By AI agents, Wed Nov 11 2026. No macro, syntax, notation, axiom, sorry.
-/
import Derived.Test.YtbcjnmifflflfaaGreatDoorRows
import GoSem.ClaimSeven
namespace Go.Proofs.YtbcjnmifflflfaaGreatDoor
namespace Rows

/-- THE TIED CARD OF 'pneumatictop.TopReduceCount'. -/
def topReduceCountCard : Claim7 := { stood := { row := topReduceCountRow, standIns := [], harness := (true, "a671a0e2403373ed7d9ea9e58a0d75141390e37b63ebfc69f74535bd91b0a6b9"), looks := false }, kinds := [], alts := [], laidByText := true, laidKinds := [.data, .data, .data], laidTests := true, laidLooks := .later }
def TopReduceCountCardSaid : Prop := Claim7.holds Tryz.pinned (.plain (OpenSpec.ofChange topReduceCountSpec)) topReduceCountCard

/-- THE TIED CARD OF 'pneumaticlaw37.RealizeCircuits'. -/
def realizeCircuitsCard : Claim7 := { stood := { row := realizeCircuitsRow, standIns := [], harness := (true, "a671a0e2403373ed7d9ea9e58a0d75141390e37b63ebfc69f74535bd91b0a6b9"), looks := false }, kinds := [], alts := [], laidByText := true, laidKinds := [.data, .data, .data, .data], laidTests := true, laidLooks := .later }
def RealizeCircuitsCardSaid : Prop := Claim7.holds Tryz.pinned (.plain (OpenSpec.ofChange realizeCircuitsSpec)) realizeCircuitsCard

/-- THE TIED CARD OF 'pneumaticlaw37.RealizePorts'. -/
def realizePortsCard : Claim7 := { stood := { row := realizePortsRow, standIns := [], harness := (true, "a671a0e2403373ed7d9ea9e58a0d75141390e37b63ebfc69f74535bd91b0a6b9"), looks := false }, kinds := [], alts := [], laidByText := true, laidKinds := [.data, .data, .data, .data], laidTests := true, laidLooks := .later }
def RealizePortsCardSaid : Prop := Claim7.holds Tryz.pinned (.plain (OpenSpec.ofChange realizePortsSpec)) realizePortsCard

/-- THE TIED CARD OF 'pneumaticlaw37.RealizePositions'. -/
def realizePositionsCard : Claim7 := { stood := { row := realizePositionsRow, standIns := [], harness := (true, "a671a0e2403373ed7d9ea9e58a0d75141390e37b63ebfc69f74535bd91b0a6b9"), looks := false }, kinds := [], alts := [], laidByText := true, laidKinds := [.data, .data, .data, .data], laidTests := true, laidLooks := .later }
def RealizePositionsCardSaid : Prop := Claim7.holds Tryz.pinned (.plain (OpenSpec.ofChange realizePositionsSpec)) realizePositionsCard

/-- THE TIED CARD OF 'pneumaticlaw37.RealizeParts'. -/
def realizePartsCard : Claim7 := { stood := { row := realizePartsRow, standIns := [], harness := (true, "a671a0e2403373ed7d9ea9e58a0d75141390e37b63ebfc69f74535bd91b0a6b9"), looks := false }, kinds := [], alts := [], laidByText := true, laidKinds := [.data, .data, .data, .data], laidTests := true, laidLooks := .later }
def RealizePartsCardSaid : Prop := Claim7.holds Tryz.pinned (.plain (OpenSpec.ofChange realizePartsSpec)) realizePartsCard

/-- THE TIED CARD OF 'pneumaticlaw37.RealizePressure'. -/
def realizePressureCard : Claim7 := { stood := { row := realizePressureRow, standIns := [], harness := (true, "a671a0e2403373ed7d9ea9e58a0d75141390e37b63ebfc69f74535bd91b0a6b9"), looks := false }, kinds := [], alts := [], laidByText := true, laidKinds := [.data, .data, .data, .data], laidTests := true, laidLooks := .later }
def RealizePressureCardSaid : Prop := Claim7.holds Tryz.pinned (.plain (OpenSpec.ofChange realizePressureSpec)) realizePressureCard

/-- THE TIED CARD OF 'pneumaticlaw37.RealizeSteps'. -/
def realizeStepsCard : Claim7 := { stood := { row := realizeStepsRow, standIns := [], harness := (true, "a671a0e2403373ed7d9ea9e58a0d75141390e37b63ebfc69f74535bd91b0a6b9"), looks := false }, kinds := [], alts := [], laidByText := true, laidKinds := [.data, .data, .data, .data], laidTests := true, laidLooks := .later }
def RealizeStepsCardSaid : Prop := Claim7.holds Tryz.pinned (.plain (OpenSpec.ofChange realizeStepsSpec)) realizeStepsCard

/-- THE TIED CARD OF 'pneumatictop.TopReduceWants'. -/
def topReduceWantsCard : Claim7 := { stood := { row := topReduceWantsRow, standIns := [], harness := (true, "a671a0e2403373ed7d9ea9e58a0d75141390e37b63ebfc69f74535bd91b0a6b9"), looks := false }, kinds := [], alts := [], laidByText := true, laidKinds := [.data, .data, .data], laidTests := true, laidLooks := .later }
def TopReduceWantsCardSaid : Prop := Claim7.holds Tryz.pinned (.plain (OpenSpec.ofChange topReduceWantsSpec)) topReduceWantsCard

/-- THE SECOND FORM's CARD OF 'pneumatictop.TopReduceCount'. -/
def topReduceCountUptoCard : Claim7 := { stood := { row := topReduceCountUptoRow, standIns := [], harness := (true, "a671a0e2403373ed7d9ea9e58a0d75141390e37b63ebfc69f74535bd91b0a6b9"), looks := false }, kinds := [], alts := [], laidByText := true, laidKinds := [.data, .data, .data], laidTests := true, laidLooks := .later }
def TopReduceCountUptoCardSaid : Prop := Claim7.holds Tryz.pinned (.plain (OpenSpec.upto topReduceCountSpec)) topReduceCountUptoCard

/-- THE SECOND FORM's CARD OF 'pneumaticlaw37.RealizeCircuits'. -/
def realizeCircuitsUptoCard : Claim7 := { stood := { row := realizeCircuitsUptoRow, standIns := [], harness := (true, "a671a0e2403373ed7d9ea9e58a0d75141390e37b63ebfc69f74535bd91b0a6b9"), looks := false }, kinds := [], alts := [], laidByText := true, laidKinds := [.data, .data, .data, .data], laidTests := true, laidLooks := .later }
def RealizeCircuitsUptoCardSaid : Prop := Claim7.holds Tryz.pinned (.plain (OpenSpec.upto realizeCircuitsSpec)) realizeCircuitsUptoCard

/-- THE SECOND FORM's CARD OF 'pneumaticlaw37.RealizePorts'. -/
def realizePortsUptoCard : Claim7 := { stood := { row := realizePortsUptoRow, standIns := [], harness := (true, "a671a0e2403373ed7d9ea9e58a0d75141390e37b63ebfc69f74535bd91b0a6b9"), looks := false }, kinds := [], alts := [], laidByText := true, laidKinds := [.data, .data, .data, .data], laidTests := true, laidLooks := .later }
def RealizePortsUptoCardSaid : Prop := Claim7.holds Tryz.pinned (.plain (OpenSpec.upto realizePortsSpec)) realizePortsUptoCard

/-- THE SECOND FORM's CARD OF 'pneumaticlaw37.RealizePositions'. -/
def realizePositionsUptoCard : Claim7 := { stood := { row := realizePositionsUptoRow, standIns := [], harness := (true, "a671a0e2403373ed7d9ea9e58a0d75141390e37b63ebfc69f74535bd91b0a6b9"), looks := false }, kinds := [], alts := [], laidByText := true, laidKinds := [.data, .data, .data, .data], laidTests := true, laidLooks := .later }
def RealizePositionsUptoCardSaid : Prop := Claim7.holds Tryz.pinned (.plain (OpenSpec.upto realizePositionsSpec)) realizePositionsUptoCard

/-- THE SECOND FORM's CARD OF 'pneumaticlaw37.RealizeParts'. -/
def realizePartsUptoCard : Claim7 := { stood := { row := realizePartsUptoRow, standIns := [], harness := (true, "a671a0e2403373ed7d9ea9e58a0d75141390e37b63ebfc69f74535bd91b0a6b9"), looks := false }, kinds := [], alts := [], laidByText := true, laidKinds := [.data, .data, .data, .data], laidTests := true, laidLooks := .later }
def RealizePartsUptoCardSaid : Prop := Claim7.holds Tryz.pinned (.plain (OpenSpec.upto realizePartsSpec)) realizePartsUptoCard

/-- THE SECOND FORM's CARD OF 'pneumaticlaw37.RealizePressure'. -/
def realizePressureUptoCard : Claim7 := { stood := { row := realizePressureUptoRow, standIns := [], harness := (true, "a671a0e2403373ed7d9ea9e58a0d75141390e37b63ebfc69f74535bd91b0a6b9"), looks := false }, kinds := [], alts := [], laidByText := true, laidKinds := [.data, .data, .data, .data], laidTests := true, laidLooks := .later }
def RealizePressureUptoCardSaid : Prop := Claim7.holds Tryz.pinned (.plain (OpenSpec.upto realizePressureSpec)) realizePressureUptoCard

/-- THE SECOND FORM's CARD OF 'pneumaticlaw37.RealizeSteps'. -/
def realizeStepsUptoCard : Claim7 := { stood := { row := realizeStepsUptoRow, standIns := [], harness := (true, "a671a0e2403373ed7d9ea9e58a0d75141390e37b63ebfc69f74535bd91b0a6b9"), looks := false }, kinds := [], alts := [], laidByText := true, laidKinds := [.data, .data, .data, .data], laidTests := true, laidLooks := .later }
def RealizeStepsUptoCardSaid : Prop := Claim7.holds Tryz.pinned (.plain (OpenSpec.upto realizeStepsSpec)) realizeStepsUptoCard

/-- THE SECOND FORM's CARD OF 'pneumatictop.TopReduceWants'. -/
def topReduceWantsUptoCard : Claim7 := { stood := { row := topReduceWantsUptoRow, standIns := [], harness := (true, "a671a0e2403373ed7d9ea9e58a0d75141390e37b63ebfc69f74535bd91b0a6b9"), looks := false }, kinds := [], alts := [], laidByText := true, laidKinds := [.data, .data, .data], laidTests := true, laidLooks := .later }
def TopReduceWantsUptoCardSaid : Prop := Claim7.holds Tryz.pinned (.plain (OpenSpec.upto topReduceWantsSpec)) topReduceWantsUptoCard
end Rows
end Go.Proofs.YtbcjnmifflflfaaGreatDoor
