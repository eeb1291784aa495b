/-
  DERIVED. GIVEN WITH THE SEED: THE CARDS: each row of YtdnkpogfcpjkpaaGreatDoorRows.lean that lists a variable, with what it lists TIED to the program's text (the seventh form; the later family's looks); each row that meets fmt, with fmt's text TOLD by the authors' own Lean function (tested against real Go, not proved from fmt's source: count such statements apart). THE CARD IS WHAT COUNTS. Prove the row's statement (the work); the ties are given (YtdnkpogfcpjkpaaGreatDoorTie.lean); close each card by the builder's one call (the guide's Derived/Test/ToyasCard.lean, 'card_holds'). Laid BY PROGRAM, IN A SANDBOX (cutbox-door.mjs). By AI agents, Wed Nov 11 2026. No macro, syntax, notation, axiom, sorry.
-/
import Derived.Test.YtdnkpogfcpjkpaaGreatDoorRows
import GoSem.ClaimSeven
namespace Go.Proofs.YtdnkpogfcpjkpaaGreatDoor
namespace Rows

/-- THE TIED CARD OF 'pneumaticlaw37.RealizeCircuits'. -/
def realizeCircuitsCard : Claim7 := { stood := { row := realizeCircuitsRow, standIns := [], harness := (true, "0f9bc8a966bfa003debb31d45d023ac2c1c59beda5525ba2e7e9cc0a79cbf15c"), looks := false }, kinds := [], alts := [], laidByText := true, laidKinds := [.data, .data, .data, .data], laidTests := true, laidLooks := .later }
def RealizeCircuitsCardSaid : Prop := Claim7.holds Tryz.pinned (.plain (OpenSpec.ofChange realizeCircuitsSpec)) realizeCircuitsCard

/-- THE TIED CARD OF 'pneumaticlaw37.RealizePorts'. -/
def realizePortsCard : Claim7 := { stood := { row := realizePortsRow, standIns := [], harness := (true, "0f9bc8a966bfa003debb31d45d023ac2c1c59beda5525ba2e7e9cc0a79cbf15c"), looks := false }, kinds := [], alts := [], laidByText := true, laidKinds := [.data, .data, .data, .data], laidTests := true, laidLooks := .later }
def RealizePortsCardSaid : Prop := Claim7.holds Tryz.pinned (.plain (OpenSpec.ofChange realizePortsSpec)) realizePortsCard

/-- THE TIED CARD OF 'pneumaticlaw37.RealizePositions'. -/
def realizePositionsCard : Claim7 := { stood := { row := realizePositionsRow, standIns := [], harness := (true, "0f9bc8a966bfa003debb31d45d023ac2c1c59beda5525ba2e7e9cc0a79cbf15c"), looks := false }, kinds := [], alts := [], laidByText := true, laidKinds := [.data, .data, .data, .data], laidTests := true, laidLooks := .later }
def RealizePositionsCardSaid : Prop := Claim7.holds Tryz.pinned (.plain (OpenSpec.ofChange realizePositionsSpec)) realizePositionsCard

/-- THE TIED CARD OF 'pneumaticlaw37.RealizeParts'. -/
def realizePartsCard : Claim7 := { stood := { row := realizePartsRow, standIns := [], harness := (true, "0f9bc8a966bfa003debb31d45d023ac2c1c59beda5525ba2e7e9cc0a79cbf15c"), looks := false }, kinds := [], alts := [], laidByText := true, laidKinds := [.data, .data, .data, .data], laidTests := true, laidLooks := .later }
def RealizePartsCardSaid : Prop := Claim7.holds Tryz.pinned (.plain (OpenSpec.ofChange realizePartsSpec)) realizePartsCard

/-- THE SECOND FORM's CARD OF 'pneumaticlaw37.RealizeCircuits'. -/
def realizeCircuitsUptoCard : Claim7 := { stood := { row := realizeCircuitsUptoRow, standIns := [], harness := (true, "0f9bc8a966bfa003debb31d45d023ac2c1c59beda5525ba2e7e9cc0a79cbf15c"), looks := false }, kinds := [], alts := [], laidByText := true, laidKinds := [.data, .data, .data, .data], laidTests := true, laidLooks := .later }
def RealizeCircuitsUptoCardSaid : Prop := Claim7.holds Tryz.pinned (.plain (OpenSpec.upto realizeCircuitsSpec)) realizeCircuitsUptoCard

/-- THE SECOND FORM's CARD OF 'pneumaticlaw37.RealizePorts'. -/
def realizePortsUptoCard : Claim7 := { stood := { row := realizePortsUptoRow, standIns := [], harness := (true, "0f9bc8a966bfa003debb31d45d023ac2c1c59beda5525ba2e7e9cc0a79cbf15c"), looks := false }, kinds := [], alts := [], laidByText := true, laidKinds := [.data, .data, .data, .data], laidTests := true, laidLooks := .later }
def RealizePortsUptoCardSaid : Prop := Claim7.holds Tryz.pinned (.plain (OpenSpec.upto realizePortsSpec)) realizePortsUptoCard

/-- THE SECOND FORM's CARD OF 'pneumaticlaw37.RealizePositions'. -/
def realizePositionsUptoCard : Claim7 := { stood := { row := realizePositionsUptoRow, standIns := [], harness := (true, "0f9bc8a966bfa003debb31d45d023ac2c1c59beda5525ba2e7e9cc0a79cbf15c"), looks := false }, kinds := [], alts := [], laidByText := true, laidKinds := [.data, .data, .data, .data], laidTests := true, laidLooks := .later }
def RealizePositionsUptoCardSaid : Prop := Claim7.holds Tryz.pinned (.plain (OpenSpec.upto realizePositionsSpec)) realizePositionsUptoCard

/-- THE SECOND FORM's CARD OF 'pneumaticlaw37.RealizeParts'. -/
def realizePartsUptoCard : Claim7 := { stood := { row := realizePartsUptoRow, standIns := [], harness := (true, "0f9bc8a966bfa003debb31d45d023ac2c1c59beda5525ba2e7e9cc0a79cbf15c"), looks := false }, kinds := [], alts := [], laidByText := true, laidKinds := [.data, .data, .data, .data], laidTests := true, laidLooks := .later }
def RealizePartsUptoCardSaid : Prop := Claim7.holds Tryz.pinned (.plain (OpenSpec.upto realizePartsSpec)) realizePartsUptoCard
end Rows
end Go.Proofs.YtdnkpogfcpjkpaaGreatDoor
