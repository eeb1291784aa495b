/-
  NARROWER THAN 'FOR EVERY INPUT', by the rows' own cells (each row's printed sentence says how): TopSettleKnown: loops · RaceEnds: loops · RaceWays: loops · RaceMoves: loops · RaceSteps: loops · RaceRests: loops · RaceAbstracts: loops.
  DERIVED. THE GIVEN ROWS OF THIS SEAT. 8 by the template 'for every input the law returns true; each argument reads behind the call as it read before'; 0 by the template 'total and deterministic' (their statements: YtakndgpdolfenaaGreatTotals.lean).
  GIVEN WITH THE SEED: the statements are not yours to turn. If you find one false, say at which input.
  Laid BY PROGRAM, IN A SANDBOX (cutbox-rows.mjs): the forced cells as the released guide's own fill.sh prints them over the translation adb6292ab1a42374… (all of the seat's roots in one cut). By AI agents, Wed Nov 11 2026. No macro, syntax, notation, axiom, sorry.
-/
import Derived.Test.YtakndgpdolfenaaGreatChecked
import GoSem.Claim
import GoSem.ClaimJoined
import GoSem.ClaimMapViews
import Derived.JoinedTies
import Derived.KernelRfl
namespace Go.Proofs.YtakndgpdolfenaaGreat
/- THE CELL 'sum', in the pinned program and in every row, IS THE sha256 OF THE DUMP (.gsa) THAT YtakndgpdolfenaaGreatProg.lean LOADS. Nothing in Lean hashes anything: it is a label: what it is worth is what the hold of that sum in a sandbox is worth. -/
noncomputable def Tryz.pinned : Pinned := { name := "ytakndgpdolfenaagreat", sum := "adb6292ab1a42374efb660828a43c494852683cf5f46020b3c9b25349bd45a6a", checked := Tryz.checked }
namespace Rows
def none {H : Type} : Left H := { results := [], args := [] }

/-- 'pneumatictop.TopSettleKnown': WHATEVER THE INPUT: true; the input reads as it did. -/
def topSettleKnownSpec : ChangeSpec := { name := "topSettleKnown", fn := fun _ => fun
  | [d1, d2] => { results := [.lit (.bool true)], args := [d1, d2] }
  | _ => none }
def topSettleKnownRow : OpenClaim := { program := "ytakndgpdolfenaagreat", sum := "adb6292ab1a42374efb660828a43c494852683cf5f46020b3c9b25349bd45a6a", func := "pneumatic/pneumatictop.TopSettleKnown", spec := "topSettleKnown", inPlace := ["internal/abi.NoEscape"], unfollowed := true, recurses := true, loops := true, apart := false }
def TopSettleKnownSaid : Prop := topSettleKnownRow.holds Tryz.pinned (OpenSpec.ofChange topSettleKnownSpec)

/-- ITS FALSE NEIGHBOUR: 'it returns false'. Refute it at one input. -/
def topSettleKnownWrong : ChangeSpec := { name := "topSettleKnown", fn := fun _ => fun
  | [d1, d2] => { results := [.lit (.bool false)], args := [d1, d2] }
  | _ => none }
def TopSettleKnownWrongFalsely : Prop := topSettleKnownRow.holds Tryz.pinned (OpenSpec.ofChange topSettleKnownWrong)

/-- 'pneumaticlaw29.RaceEnds': WHATEVER THE INPUT: true; the input reads as it did. -/
def raceEndsSpec : ChangeSpec := { name := "raceEnds", fn := fun _ => fun
  | [d1, d2] => { results := [.lit (.bool true)], args := [d1, d2] }
  | _ => none }
def raceEndsRow : OpenClaim := { program := "ytakndgpdolfenaagreat", sum := "adb6292ab1a42374efb660828a43c494852683cf5f46020b3c9b25349bd45a6a", func := "pneumatic/pneumaticlaw29.RaceEnds", spec := "raceEnds", inPlace := ["internal/abi.NoEscape"], unfollowed := true, recurses := true, loops := true, apart := false }
def RaceEndsSaid : Prop := raceEndsRow.holds Tryz.pinned (OpenSpec.ofChange raceEndsSpec)

/-- ITS FALSE NEIGHBOUR: 'it returns false'. Refute it at one input. -/
def raceEndsWrong : ChangeSpec := { name := "raceEnds", fn := fun _ => fun
  | [d1, d2] => { results := [.lit (.bool false)], args := [d1, d2] }
  | _ => none }
def RaceEndsWrongFalsely : Prop := raceEndsRow.holds Tryz.pinned (OpenSpec.ofChange raceEndsWrong)

/-- 'pneumaticlaw29.RaceWays': WHATEVER THE INPUT: true; the input reads as it did. -/
def raceWaysSpec : ChangeSpec := { name := "raceWays", fn := fun _ => fun
  | [d1, d2, d3] => { results := [.lit (.bool true)], args := [d1, d2, d3] }
  | _ => none }
def raceWaysRow : OpenClaim := { program := "ytakndgpdolfenaagreat", sum := "adb6292ab1a42374efb660828a43c494852683cf5f46020b3c9b25349bd45a6a", func := "pneumatic/pneumaticlaw29.RaceWays", spec := "raceWays", inPlace := ["internal/abi.NoEscape"], unfollowed := true, recurses := true, loops := true, apart := false }
def RaceWaysSaid : Prop := raceWaysRow.holds Tryz.pinned (OpenSpec.ofChange raceWaysSpec)

/-- ITS FALSE NEIGHBOUR: 'it returns false'. Refute it at one input. -/
def raceWaysWrong : ChangeSpec := { name := "raceWays", fn := fun _ => fun
  | [d1, d2, d3] => { results := [.lit (.bool false)], args := [d1, d2, d3] }
  | _ => none }
def RaceWaysWrongFalsely : Prop := raceWaysRow.holds Tryz.pinned (OpenSpec.ofChange raceWaysWrong)

/-- 'pneumaticlaw29.RaceOrders': WHATEVER THE INPUT: true; the input reads as it did. -/
def raceOrdersSpec : ChangeSpec := { name := "raceOrders", fn := fun _ => fun
  | [d1, d2] => { results := [.lit (.bool true)], args := [d1, d2] }
  | _ => none }
def raceOrdersRow : OpenClaim := { program := "ytakndgpdolfenaagreat", sum := "adb6292ab1a42374efb660828a43c494852683cf5f46020b3c9b25349bd45a6a", func := "pneumatic/pneumaticlaw29.RaceOrders", spec := "raceOrders", inPlace := ["internal/abi.NoEscape"], unfollowed := true, recurses := true, apart := false }
def RaceOrdersSaid : Prop := raceOrdersRow.holds Tryz.pinned (OpenSpec.ofChange raceOrdersSpec)

/-- ITS FALSE NEIGHBOUR: 'it returns false'. Refute it at one input. -/
def raceOrdersWrong : ChangeSpec := { name := "raceOrders", fn := fun _ => fun
  | [d1, d2] => { results := [.lit (.bool false)], args := [d1, d2] }
  | _ => none }
def RaceOrdersWrongFalsely : Prop := raceOrdersRow.holds Tryz.pinned (OpenSpec.ofChange raceOrdersWrong)

/-- 'pneumaticlaw29.RaceMoves': WHATEVER THE INPUT: true; the input reads as it did. -/
def raceMovesSpec : ChangeSpec := { name := "raceMoves", fn := fun _ => fun
  | [d1, d2, d3] => { results := [.lit (.bool true)], args := [d1, d2, d3] }
  | _ => none }
def raceMovesRow : OpenClaim := { program := "ytakndgpdolfenaagreat", sum := "adb6292ab1a42374efb660828a43c494852683cf5f46020b3c9b25349bd45a6a", func := "pneumatic/pneumaticlaw29.RaceMoves", spec := "raceMoves", inPlace := ["internal/abi.NoEscape"], unfollowed := true, recurses := true, loops := true, apart := false }
def RaceMovesSaid : Prop := raceMovesRow.holds Tryz.pinned (OpenSpec.ofChange raceMovesSpec)

/-- ITS FALSE NEIGHBOUR: 'it returns false'. Refute it at one input. -/
def raceMovesWrong : ChangeSpec := { name := "raceMoves", fn := fun _ => fun
  | [d1, d2, d3] => { results := [.lit (.bool false)], args := [d1, d2, d3] }
  | _ => none }
def RaceMovesWrongFalsely : Prop := raceMovesRow.holds Tryz.pinned (OpenSpec.ofChange raceMovesWrong)

/-- 'pneumaticlaw29.RaceSteps': WHATEVER THE INPUT: true; the input reads as it did. -/
def raceStepsSpec : ChangeSpec := { name := "raceSteps", fn := fun _ => fun
  | [d1, d2] => { results := [.lit (.bool true)], args := [d1, d2] }
  | _ => none }
def raceStepsRow : OpenClaim := { program := "ytakndgpdolfenaagreat", sum := "adb6292ab1a42374efb660828a43c494852683cf5f46020b3c9b25349bd45a6a", func := "pneumatic/pneumaticlaw29.RaceSteps", spec := "raceSteps", inPlace := ["internal/abi.NoEscape"], unfollowed := true, recurses := true, loops := true, apart := false }
def RaceStepsSaid : Prop := raceStepsRow.holds Tryz.pinned (OpenSpec.ofChange raceStepsSpec)

/-- ITS FALSE NEIGHBOUR: 'it returns false'. Refute it at one input. -/
def raceStepsWrong : ChangeSpec := { name := "raceSteps", fn := fun _ => fun
  | [d1, d2] => { results := [.lit (.bool false)], args := [d1, d2] }
  | _ => none }
def RaceStepsWrongFalsely : Prop := raceStepsRow.holds Tryz.pinned (OpenSpec.ofChange raceStepsWrong)

/-- 'pneumaticlaw29.RaceRests': WHATEVER THE INPUT: true; the input reads as it did. -/
def raceRestsSpec : ChangeSpec := { name := "raceRests", fn := fun _ => fun
  | [d1, d2] => { results := [.lit (.bool true)], args := [d1, d2] }
  | _ => none }
def raceRestsRow : OpenClaim := { program := "ytakndgpdolfenaagreat", sum := "adb6292ab1a42374efb660828a43c494852683cf5f46020b3c9b25349bd45a6a", func := "pneumatic/pneumaticlaw29.RaceRests", spec := "raceRests", inPlace := ["internal/abi.NoEscape"], unfollowed := true, recurses := true, loops := true, apart := false }
def RaceRestsSaid : Prop := raceRestsRow.holds Tryz.pinned (OpenSpec.ofChange raceRestsSpec)

/-- ITS FALSE NEIGHBOUR: 'it returns false'. Refute it at one input. -/
def raceRestsWrong : ChangeSpec := { name := "raceRests", fn := fun _ => fun
  | [d1, d2] => { results := [.lit (.bool false)], args := [d1, d2] }
  | _ => none }
def RaceRestsWrongFalsely : Prop := raceRestsRow.holds Tryz.pinned (OpenSpec.ofChange raceRestsWrong)

/-- 'pneumaticlaw29.RaceAbstracts': WHATEVER THE INPUT: true; the input reads as it did. -/
def raceAbstractsSpec : ChangeSpec := { name := "raceAbstracts", fn := fun _ => fun
  | [d1, d2] => { results := [.lit (.bool true)], args := [d1, d2] }
  | _ => none }
def raceAbstractsRow : OpenClaim := { program := "ytakndgpdolfenaagreat", sum := "adb6292ab1a42374efb660828a43c494852683cf5f46020b3c9b25349bd45a6a", func := "pneumatic/pneumaticlaw29.RaceAbstracts", spec := "raceAbstracts", inPlace := ["internal/abi.NoEscape"], unfollowed := true, recurses := true, loops := true, apart := false }
def RaceAbstractsSaid : Prop := raceAbstractsRow.holds Tryz.pinned (OpenSpec.ofChange raceAbstractsSpec)

/-- ITS FALSE NEIGHBOUR: 'it returns false'. Refute it at one input. -/
def raceAbstractsWrong : ChangeSpec := { name := "raceAbstracts", fn := fun _ => fun
  | [d1, d2] => { results := [.lit (.bool false)], args := [d1, d2] }
  | _ => none }
def RaceAbstractsWrongFalsely : Prop := raceAbstractsRow.holds Tryz.pinned (OpenSpec.ofChange raceAbstractsWrong)

/- THE SECOND FORM. 'bulk': how many values and letters a reading holds, each counted each time it is reached (what is shared counts as often as it is met; a slice's spare places count too). A statement '..UptoSaid' is the law's where the arguments, and the package variables that the reading takes, are together of bulk at most 1048576: NARROWER than '..Said'. Prove '..Said' where nothing that the law and all that it calls make is longer than what came in: it says more and counts as full. Else prove '..UptoSaid'. A law counts once. -/
mutual
def uptoBulk {H : Type} : DataW H → Nat
  | .lit (.string bytes) => bytes.length + 1
  | .lit _ => 1
  | .nil => 1
  | .ptr d => uptoBulk d + 1
  | .slice elems spare => uptoBulkAll elems + uptoBulkAll spare + 1
  | .agg parts => uptoBulkAll parts + 1
  | .iface _ d => uptoBulk d + 1
  | .map entries => uptoBulkEntries entries + 1
  | .held _ => 1
def uptoBulkAll {H : Type} : List (DataW H) → Nat
  | [] => 0
  | d :: r => uptoBulk d + uptoBulkAll r
def uptoBulkEntries {H : Type} : List (Lit × DataW H) → Nat
  | [] => 0
  | x :: r => uptoBulkEntry x + uptoBulkEntries r
def uptoBulkEntry {H : Type} : Lit × DataW H → Nat
  | (.string bytes, d) => bytes.length + uptoBulk d + 1
  | (_, d) => uptoBulk d + 1
 end
def uptoSmall : (H : Type) → List (DataW H) → Bool := fun _ ds => decide (uptoBulkAll ds ≤ 1048576)
def OpenSpec.upto (s : _root_.Go.ChangeSpec) : _root_.Go.OpenSpec := { _root_.Go.OpenSpec.ofChange s with cond := some uptoSmall }

/-- 'pneumatictop.TopSettleKnown', WHERE WHAT IT READS IS OF BULK AT MOST 1048576: true; the input reads as it did. -/
def topSettleKnownUptoRow : OpenClaim := { program := "ytakndgpdolfenaagreat", sum := "adb6292ab1a42374efb660828a43c494852683cf5f46020b3c9b25349bd45a6a", func := "pneumatic/pneumatictop.TopSettleKnown", spec := "topSettleKnown", inPlace := ["internal/abi.NoEscape"], unfollowed := true, recurses := true, loops := true, apart := false, narrowed := true }
def TopSettleKnownUptoSaid : Prop := topSettleKnownUptoRow.holds Tryz.pinned (OpenSpec.upto topSettleKnownSpec)

/-- 'pneumaticlaw29.RaceEnds', WHERE WHAT IT READS IS OF BULK AT MOST 1048576: true; the input reads as it did. -/
def raceEndsUptoRow : OpenClaim := { program := "ytakndgpdolfenaagreat", sum := "adb6292ab1a42374efb660828a43c494852683cf5f46020b3c9b25349bd45a6a", func := "pneumatic/pneumaticlaw29.RaceEnds", spec := "raceEnds", inPlace := ["internal/abi.NoEscape"], unfollowed := true, recurses := true, loops := true, apart := false, narrowed := true }
def RaceEndsUptoSaid : Prop := raceEndsUptoRow.holds Tryz.pinned (OpenSpec.upto raceEndsSpec)

/-- 'pneumaticlaw29.RaceWays', WHERE WHAT IT READS IS OF BULK AT MOST 1048576: true; the input reads as it did. -/
def raceWaysUptoRow : OpenClaim := { program := "ytakndgpdolfenaagreat", sum := "adb6292ab1a42374efb660828a43c494852683cf5f46020b3c9b25349bd45a6a", func := "pneumatic/pneumaticlaw29.RaceWays", spec := "raceWays", inPlace := ["internal/abi.NoEscape"], unfollowed := true, recurses := true, loops := true, apart := false, narrowed := true }
def RaceWaysUptoSaid : Prop := raceWaysUptoRow.holds Tryz.pinned (OpenSpec.upto raceWaysSpec)

/-- 'pneumaticlaw29.RaceOrders', WHERE WHAT IT READS IS OF BULK AT MOST 1048576: true; the input reads as it did. -/
def raceOrdersUptoRow : OpenClaim := { program := "ytakndgpdolfenaagreat", sum := "adb6292ab1a42374efb660828a43c494852683cf5f46020b3c9b25349bd45a6a", func := "pneumatic/pneumaticlaw29.RaceOrders", spec := "raceOrders", inPlace := ["internal/abi.NoEscape"], unfollowed := true, recurses := true, apart := false, narrowed := true }
def RaceOrdersUptoSaid : Prop := raceOrdersUptoRow.holds Tryz.pinned (OpenSpec.upto raceOrdersSpec)

/-- 'pneumaticlaw29.RaceMoves', WHERE WHAT IT READS IS OF BULK AT MOST 1048576: true; the input reads as it did. -/
def raceMovesUptoRow : OpenClaim := { program := "ytakndgpdolfenaagreat", sum := "adb6292ab1a42374efb660828a43c494852683cf5f46020b3c9b25349bd45a6a", func := "pneumatic/pneumaticlaw29.RaceMoves", spec := "raceMoves", inPlace := ["internal/abi.NoEscape"], unfollowed := true, recurses := true, loops := true, apart := false, narrowed := true }
def RaceMovesUptoSaid : Prop := raceMovesUptoRow.holds Tryz.pinned (OpenSpec.upto raceMovesSpec)

/-- 'pneumaticlaw29.RaceSteps', WHERE WHAT IT READS IS OF BULK AT MOST 1048576: true; the input reads as it did. -/
def raceStepsUptoRow : OpenClaim := { program := "ytakndgpdolfenaagreat", sum := "adb6292ab1a42374efb660828a43c494852683cf5f46020b3c9b25349bd45a6a", func := "pneumatic/pneumaticlaw29.RaceSteps", spec := "raceSteps", inPlace := ["internal/abi.NoEscape"], unfollowed := true, recurses := true, loops := true, apart := false, narrowed := true }
def RaceStepsUptoSaid : Prop := raceStepsUptoRow.holds Tryz.pinned (OpenSpec.upto raceStepsSpec)

/-- 'pneumaticlaw29.RaceRests', WHERE WHAT IT READS IS OF BULK AT MOST 1048576: true; the input reads as it did. -/
def raceRestsUptoRow : OpenClaim := { program := "ytakndgpdolfenaagreat", sum := "adb6292ab1a42374efb660828a43c494852683cf5f46020b3c9b25349bd45a6a", func := "pneumatic/pneumaticlaw29.RaceRests", spec := "raceRests", inPlace := ["internal/abi.NoEscape"], unfollowed := true, recurses := true, loops := true, apart := false, narrowed := true }
def RaceRestsUptoSaid : Prop := raceRestsUptoRow.holds Tryz.pinned (OpenSpec.upto raceRestsSpec)

/-- 'pneumaticlaw29.RaceAbstracts', WHERE WHAT IT READS IS OF BULK AT MOST 1048576: true; the input reads as it did. -/
def raceAbstractsUptoRow : OpenClaim := { program := "ytakndgpdolfenaagreat", sum := "adb6292ab1a42374efb660828a43c494852683cf5f46020b3c9b25349bd45a6a", func := "pneumatic/pneumaticlaw29.RaceAbstracts", spec := "raceAbstracts", inPlace := ["internal/abi.NoEscape"], unfollowed := true, recurses := true, loops := true, apart := false, narrowed := true }
def RaceAbstractsUptoSaid : Prop := raceAbstractsUptoRow.holds Tryz.pinned (OpenSpec.upto raceAbstractsSpec)

end Rows
end Go.Proofs.YtakndgpdolfenaaGreat
