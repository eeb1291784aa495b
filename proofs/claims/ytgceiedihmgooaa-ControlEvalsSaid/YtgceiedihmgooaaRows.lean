/-
  NARROWER THAN 'FOR EVERY INPUT', by the rows' own cells (each row's printed sentence says how): ControlStates: loops · ControlEvals: loops · ControlFollows: loops · ControlValues: loops · ControlBelongs: loops · ControlChecks: loops.
  DERIVED. THE GIVEN ROWS OF THIS SEAT. 6 by the template 'for every input the law returns true; each argument reads behind the call as it read before'; 0 by the template 'total and deterministic' (their statements: YtgceiedihmgooaaTotals.lean).
  GIVEN WITH THE SEED: the statements are not yours to turn. If you find one false, say at which input.
  Laid BY PROGRAM, IN A SANDBOX (cutbox-rows.mjs): the forced cells as the released guide's own fill.sh prints them over the translation 8f435b934cf9f5c0… (all of the seat's roots in one cut). By AI agents, Wed Nov 11 2026. No macro, syntax, notation, axiom, sorry.
-/
import Derived.Test.YtgceiedihmgooaaChecked
import GoSem.Claim
import GoSem.ClaimJoined
import GoSem.ClaimMapViews
import Derived.JoinedTies
import Derived.KernelRfl
namespace Go.Proofs.Ytgceiedihmgooaa
/- THE CELL 'sum', in the pinned program and in every row, IS THE sha256 OF THE DUMP (.gsa) THAT YtgceiedihmgooaaProg.lean LOADS. Nothing in Lean hashes anything: it is a label: what it is worth is what the hold of that sum in a sandbox is worth. -/
noncomputable def Try.pinned : Pinned := { name := "ytgceiedihmgooaa", sum := "8f435b934cf9f5c08dd0dbeb9a59888f59e221be430260e21c780a65c3e39085", checked := Try.checked }
namespace Rows
def none {H : Type} : Left H := { results := [], args := [] }

/-- 'pneumaticlaw27.ControlStates': WHATEVER THE INPUT: true; the input reads as it did. -/
def controlStatesSpec : ChangeSpec := { name := "controlStates", fn := fun _ => fun
  | [d1, d2, d3] => { results := [.lit (.bool true)], args := [d1, d2, d3] }
  | _ => none }
def controlStatesRow : OpenClaim := { program := "ytgceiedihmgooaa", sum := "8f435b934cf9f5c08dd0dbeb9a59888f59e221be430260e21c780a65c3e39085", func := "pneumatic/pneumaticlaw27.ControlStates", spec := "controlStates", unfollowed := true, recurses := true, loops := true, apart := false }
def ControlStatesSaid : Prop := controlStatesRow.holds Try.pinned (OpenSpec.ofChange controlStatesSpec)

/-- ITS FALSE NEIGHBOUR: 'it returns false'. Refute it at one input. -/
def controlStatesWrong : ChangeSpec := { name := "controlStates", fn := fun _ => fun
  | [d1, d2, d3] => { results := [.lit (.bool false)], args := [d1, d2, d3] }
  | _ => none }
def ControlStatesWrongFalsely : Prop := controlStatesRow.holds Try.pinned (OpenSpec.ofChange controlStatesWrong)

/-- 'pneumaticlaw27.ControlEvals': WHATEVER THE INPUT: true; the input reads as it did. -/
def controlEvalsSpec : ChangeSpec := { name := "controlEvals", fn := fun _ => fun
  | [d1, d2, d3] => { results := [.lit (.bool true)], args := [d1, d2, d3] }
  | _ => none }
def controlEvalsRow : OpenClaim := { program := "ytgceiedihmgooaa", sum := "8f435b934cf9f5c08dd0dbeb9a59888f59e221be430260e21c780a65c3e39085", func := "pneumatic/pneumaticlaw27.ControlEvals", spec := "controlEvals", unfollowed := true, recurses := true, loops := true, apart := false }
def ControlEvalsSaid : Prop := controlEvalsRow.holds Try.pinned (OpenSpec.ofChange controlEvalsSpec)

/-- ITS FALSE NEIGHBOUR: 'it returns false'. Refute it at one input. -/
def controlEvalsWrong : ChangeSpec := { name := "controlEvals", fn := fun _ => fun
  | [d1, d2, d3] => { results := [.lit (.bool false)], args := [d1, d2, d3] }
  | _ => none }
def ControlEvalsWrongFalsely : Prop := controlEvalsRow.holds Try.pinned (OpenSpec.ofChange controlEvalsWrong)

/-- 'pneumaticlaw27.ControlFollows': WHATEVER THE INPUT: true; the input reads as it did. -/
def controlFollowsSpec : ChangeSpec := { name := "controlFollows", fn := fun _ => fun
  | [d1, d2] => { results := [.lit (.bool true)], args := [d1, d2] }
  | _ => none }
def controlFollowsRow : OpenClaim := { program := "ytgceiedihmgooaa", sum := "8f435b934cf9f5c08dd0dbeb9a59888f59e221be430260e21c780a65c3e39085", func := "pneumatic/pneumaticlaw27.ControlFollows", spec := "controlFollows", unfollowed := true, recurses := true, loops := true, apart := false }
def ControlFollowsSaid : Prop := controlFollowsRow.holds Try.pinned (OpenSpec.ofChange controlFollowsSpec)

/-- ITS FALSE NEIGHBOUR: 'it returns false'. Refute it at one input. -/
def controlFollowsWrong : ChangeSpec := { name := "controlFollows", fn := fun _ => fun
  | [d1, d2] => { results := [.lit (.bool false)], args := [d1, d2] }
  | _ => none }
def ControlFollowsWrongFalsely : Prop := controlFollowsRow.holds Try.pinned (OpenSpec.ofChange controlFollowsWrong)

/-- 'pneumaticlaw27.ControlValues': WHATEVER THE INPUT: true; the input reads as it did. -/
def controlValuesSpec : ChangeSpec := { name := "controlValues", fn := fun _ => fun
  | [d1, d2, d3] => { results := [.lit (.bool true)], args := [d1, d2, d3] }
  | _ => none }
def controlValuesRow : OpenClaim := { program := "ytgceiedihmgooaa", sum := "8f435b934cf9f5c08dd0dbeb9a59888f59e221be430260e21c780a65c3e39085", func := "pneumatic/pneumaticlaw27.ControlValues", spec := "controlValues", unfollowed := true, recurses := true, loops := true, apart := false }
def ControlValuesSaid : Prop := controlValuesRow.holds Try.pinned (OpenSpec.ofChange controlValuesSpec)

/-- ITS FALSE NEIGHBOUR: 'it returns false'. Refute it at one input. -/
def controlValuesWrong : ChangeSpec := { name := "controlValues", fn := fun _ => fun
  | [d1, d2, d3] => { results := [.lit (.bool false)], args := [d1, d2, d3] }
  | _ => none }
def ControlValuesWrongFalsely : Prop := controlValuesRow.holds Try.pinned (OpenSpec.ofChange controlValuesWrong)

/-- 'pneumaticlaw27.ControlBelongs': WHATEVER THE INPUT: true; the input reads as it did. -/
def controlBelongsSpec : ChangeSpec := { name := "controlBelongs", fn := fun _ => fun
  | [d] => { results := [.lit (.bool true)], args := [d] }
  | _ => none }
def controlBelongsRow : OpenClaim := { program := "ytgceiedihmgooaa", sum := "8f435b934cf9f5c08dd0dbeb9a59888f59e221be430260e21c780a65c3e39085", func := "pneumatic/pneumaticlaw27.ControlBelongs", spec := "controlBelongs", unfollowed := true, recurses := true, loops := true, apart := false }
def ControlBelongsSaid : Prop := controlBelongsRow.holds Try.pinned (OpenSpec.ofChange controlBelongsSpec)

/-- ITS FALSE NEIGHBOUR: 'it returns false'. Refute it at one input. -/
def controlBelongsWrong : ChangeSpec := { name := "controlBelongs", fn := fun _ => fun
  | [d] => { results := [.lit (.bool false)], args := [d] }
  | _ => none }
def ControlBelongsWrongFalsely : Prop := controlBelongsRow.holds Try.pinned (OpenSpec.ofChange controlBelongsWrong)

/-- 'pneumaticlaw27.ControlChecks': WHATEVER THE INPUT: true; the input reads as it did. -/
def controlChecksSpec : ChangeSpec := { name := "controlChecks", fn := fun _ => fun
  | [d1, d2] => { results := [.lit (.bool true)], args := [d1, d2] }
  | _ => none }
def controlChecksRow : OpenClaim := { program := "ytgceiedihmgooaa", sum := "8f435b934cf9f5c08dd0dbeb9a59888f59e221be430260e21c780a65c3e39085", func := "pneumatic/pneumaticlaw27.ControlChecks", spec := "controlChecks", unfollowed := true, recurses := true, loops := true, apart := false }
def ControlChecksSaid : Prop := controlChecksRow.holds Try.pinned (OpenSpec.ofChange controlChecksSpec)

/-- ITS FALSE NEIGHBOUR: 'it returns false'. Refute it at one input. -/
def controlChecksWrong : ChangeSpec := { name := "controlChecks", fn := fun _ => fun
  | [d1, d2] => { results := [.lit (.bool false)], args := [d1, d2] }
  | _ => none }
def ControlChecksWrongFalsely : Prop := controlChecksRow.holds Try.pinned (OpenSpec.ofChange controlChecksWrong)

/- THE SECOND FORM. 'bulk': how many values and letters a reading holds, each counted each time it is reached (what is shared counts as often as it is met; a slice's spare places count too). A statement '..UptoSaid' is the law's where the arguments, and the package variables that the reading takes, are together of bulk at most 1048576: NARROWER than '..Said'. Prove '..Said' where nothing that the law and all that it calls make is longer than what came in: it says more and counts as full. Else prove '..UptoSaid'. A law counts once. -/
mutual
def uptoBulk {H : Type} : DataW H → Nat
  | .lit (.string bytes) => bytes.length + 1
  | .lit _ => 1
  | .nil => 1
  | .ptr d => uptoBulk d + 1
  | .slice elems spare => uptoBulkAll elems + uptoBulkAll spare + 1
  | .agg parts => uptoBulkAll parts + 1
  | .iface _ d => uptoBulk d + 1
  | .map entries => uptoBulkEntries entries + 1
  | .held _ => 1
def uptoBulkAll {H : Type} : List (DataW H) → Nat
  | [] => 0
  | d :: r => uptoBulk d + uptoBulkAll r
def uptoBulkEntries {H : Type} : List (Lit × DataW H) → Nat
  | [] => 0
  | x :: r => uptoBulkEntry x + uptoBulkEntries r
def uptoBulkEntry {H : Type} : Lit × DataW H → Nat
  | (.string bytes, d) => bytes.length + uptoBulk d + 1
  | (_, d) => uptoBulk d + 1
 end
def uptoSmall : (H : Type) → List (DataW H) → Bool := fun _ ds => decide (uptoBulkAll ds ≤ 1048576)
def OpenSpec.upto (s : _root_.Go.ChangeSpec) : _root_.Go.OpenSpec := { _root_.Go.OpenSpec.ofChange s with cond := some uptoSmall }

/-- 'pneumaticlaw27.ControlStates', WHERE WHAT IT READS IS OF BULK AT MOST 1048576: true; the input reads as it did. -/
def controlStatesUptoRow : OpenClaim := { program := "ytgceiedihmgooaa", sum := "8f435b934cf9f5c08dd0dbeb9a59888f59e221be430260e21c780a65c3e39085", func := "pneumatic/pneumaticlaw27.ControlStates", spec := "controlStates", unfollowed := true, recurses := true, loops := true, apart := false, narrowed := true }
def ControlStatesUptoSaid : Prop := controlStatesUptoRow.holds Try.pinned (OpenSpec.upto controlStatesSpec)

/-- 'pneumaticlaw27.ControlEvals', WHERE WHAT IT READS IS OF BULK AT MOST 1048576: true; the input reads as it did. -/
def controlEvalsUptoRow : OpenClaim := { program := "ytgceiedihmgooaa", sum := "8f435b934cf9f5c08dd0dbeb9a59888f59e221be430260e21c780a65c3e39085", func := "pneumatic/pneumaticlaw27.ControlEvals", spec := "controlEvals", unfollowed := true, recurses := true, loops := true, apart := false, narrowed := true }
def ControlEvalsUptoSaid : Prop := controlEvalsUptoRow.holds Try.pinned (OpenSpec.upto controlEvalsSpec)

/-- 'pneumaticlaw27.ControlFollows', WHERE WHAT IT READS IS OF BULK AT MOST 1048576: true; the input reads as it did. -/
def controlFollowsUptoRow : OpenClaim := { program := "ytgceiedihmgooaa", sum := "8f435b934cf9f5c08dd0dbeb9a59888f59e221be430260e21c780a65c3e39085", func := "pneumatic/pneumaticlaw27.ControlFollows", spec := "controlFollows", unfollowed := true, recurses := true, loops := true, apart := false, narrowed := true }
def ControlFollowsUptoSaid : Prop := controlFollowsUptoRow.holds Try.pinned (OpenSpec.upto controlFollowsSpec)

/-- 'pneumaticlaw27.ControlValues', WHERE WHAT IT READS IS OF BULK AT MOST 1048576: true; the input reads as it did. -/
def controlValuesUptoRow : OpenClaim := { program := "ytgceiedihmgooaa", sum := "8f435b934cf9f5c08dd0dbeb9a59888f59e221be430260e21c780a65c3e39085", func := "pneumatic/pneumaticlaw27.ControlValues", spec := "controlValues", unfollowed := true, recurses := true, loops := true, apart := false, narrowed := true }
def ControlValuesUptoSaid : Prop := controlValuesUptoRow.holds Try.pinned (OpenSpec.upto controlValuesSpec)

/-- 'pneumaticlaw27.ControlBelongs', WHERE WHAT IT READS IS OF BULK AT MOST 1048576: true; the input reads as it did. -/
def controlBelongsUptoRow : OpenClaim := { program := "ytgceiedihmgooaa", sum := "8f435b934cf9f5c08dd0dbeb9a59888f59e221be430260e21c780a65c3e39085", func := "pneumatic/pneumaticlaw27.ControlBelongs", spec := "controlBelongs", unfollowed := true, recurses := true, loops := true, apart := false, narrowed := true }
def ControlBelongsUptoSaid : Prop := controlBelongsUptoRow.holds Try.pinned (OpenSpec.upto controlBelongsSpec)

/-- 'pneumaticlaw27.ControlChecks', WHERE WHAT IT READS IS OF BULK AT MOST 1048576: true; the input reads as it did. -/
def controlChecksUptoRow : OpenClaim := { program := "ytgceiedihmgooaa", sum := "8f435b934cf9f5c08dd0dbeb9a59888f59e221be430260e21c780a65c3e39085", func := "pneumatic/pneumaticlaw27.ControlChecks", spec := "controlChecks", unfollowed := true, recurses := true, loops := true, apart := false, narrowed := true }
def ControlChecksUptoSaid : Prop := controlChecksUptoRow.holds Try.pinned (OpenSpec.upto controlChecksSpec)

end Rows
end Go.Proofs.Ytgceiedihmgooaa
