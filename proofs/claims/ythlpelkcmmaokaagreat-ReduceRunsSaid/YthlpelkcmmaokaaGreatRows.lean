/-
  NARROWER THAN 'FOR EVERY INPUT', by the rows' own cells (each row's printed sentence says how): ReduceClasses: loops · ReduceReduces: loops · ReduceVerifies: loops · ReduceProves: loops · ReduceCarries: loops · ReduceFirst: loops · ReduceRuns: loops.
  DERIVED. THE GIVEN ROWS OF THIS SEAT. 7 by the template 'for every input the law returns true; each argument reads behind the call as it read before'; 0 by the template 'total and deterministic' (their statements: YthlpelkcmmaokaaGreatTotals.lean).
  GIVEN WITH THE SEED: the statements are not yours to turn. If you find one false, say at which input.
  Laid BY PROGRAM, IN A SANDBOX (cutbox-rows.mjs): the forced cells as the released guide's own fill.sh prints them over the translation a196748658c2d1da… (all of the seat's roots in one cut). By AI agents, Wed Nov 11 2026. No macro, syntax, notation, axiom, sorry.
-/
import Derived.Test.YthlpelkcmmaokaaGreatChecked
import GoSem.Claim
import GoSem.ClaimJoined
import GoSem.ClaimMapViews
import Derived.JoinedTies
import Derived.KernelRfl
namespace Go.Proofs.YthlpelkcmmaokaaGreat
/- THE CELL 'sum', in the pinned program and in every row, IS THE sha256 OF THE DUMP (.gsa) THAT YthlpelkcmmaokaaGreatProg.lean LOADS. Nothing in Lean hashes anything: it is a label: what it is worth is what the hold of that sum in a sandbox is worth. -/
noncomputable def Tryz.pinned : Pinned := { name := "ythlpelkcmmaokaagreat", sum := "a196748658c2d1da88e198390c15e3a3b6a90d6d785729e01ac6c241a8638c2e", checked := Tryz.checked }
namespace Rows
def none {H : Type} : Left H := { results := [], args := [] }

/-- 'pneumaticlaw38.ReduceClasses': WHATEVER THE INPUT: true; the input reads as it did. -/
def reduceClassesSpec : ChangeSpec := { name := "reduceClasses", fn := fun _ => fun
  | [d1, d2] => { results := [.lit (.bool true)], args := [d1, d2] }
  | _ => none }
def reduceClassesRow : OpenClaim := { program := "ythlpelkcmmaokaagreat", sum := "a196748658c2d1da88e198390c15e3a3b6a90d6d785729e01ac6c241a8638c2e", func := "pneumatic/pneumaticlaw38.ReduceClasses", spec := "reduceClasses", unfollowed := true, recurses := true, loops := true, plainKeys := false, apart := false }
def ReduceClassesSaid : Prop := reduceClassesRow.holds Tryz.pinned (OpenSpec.ofChange reduceClassesSpec)

/-- ITS FALSE NEIGHBOUR: 'it returns false'. Refute it at one input. -/
def reduceClassesWrong : ChangeSpec := { name := "reduceClasses", fn := fun _ => fun
  | [d1, d2] => { results := [.lit (.bool false)], args := [d1, d2] }
  | _ => none }
def ReduceClassesWrongFalsely : Prop := reduceClassesRow.holds Tryz.pinned (OpenSpec.ofChange reduceClassesWrong)

/-- 'pneumaticlaw38.ReduceReduces': WHATEVER THE INPUT: true; the input reads as it did. -/
def reduceReducesSpec : ChangeSpec := { name := "reduceReduces", fn := fun _ => fun
  | [d] => { results := [.lit (.bool true)], args := [d] }
  | _ => none }
def reduceReducesRow : OpenClaim := { program := "ythlpelkcmmaokaagreat", sum := "a196748658c2d1da88e198390c15e3a3b6a90d6d785729e01ac6c241a8638c2e", func := "pneumatic/pneumaticlaw38.ReduceReduces", spec := "reduceReduces", unfollowed := true, recurses := true, loops := true, plainKeys := false, apart := false }
def ReduceReducesSaid : Prop := reduceReducesRow.holds Tryz.pinned (OpenSpec.ofChange reduceReducesSpec)

/-- ITS FALSE NEIGHBOUR: 'it returns false'. Refute it at one input. -/
def reduceReducesWrong : ChangeSpec := { name := "reduceReduces", fn := fun _ => fun
  | [d] => { results := [.lit (.bool false)], args := [d] }
  | _ => none }
def ReduceReducesWrongFalsely : Prop := reduceReducesRow.holds Tryz.pinned (OpenSpec.ofChange reduceReducesWrong)

/-- 'pneumaticlaw38.ReduceVerifies': WHATEVER THE INPUT: true; the input reads as it did. -/
def reduceVerifiesSpec : ChangeSpec := { name := "reduceVerifies", fn := fun _ => fun
  | [d1, d2, d3] => { results := [.lit (.bool true)], args := [d1, d2, d3] }
  | _ => none }
def reduceVerifiesRow : OpenClaim := { program := "ythlpelkcmmaokaagreat", sum := "a196748658c2d1da88e198390c15e3a3b6a90d6d785729e01ac6c241a8638c2e", func := "pneumatic/pneumaticlaw38.ReduceVerifies", spec := "reduceVerifies", unfollowed := true, recurses := true, loops := true, plainKeys := false, apart := false }
def ReduceVerifiesSaid : Prop := reduceVerifiesRow.holds Tryz.pinned (OpenSpec.ofChange reduceVerifiesSpec)

/-- ITS FALSE NEIGHBOUR: 'it returns false'. Refute it at one input. -/
def reduceVerifiesWrong : ChangeSpec := { name := "reduceVerifies", fn := fun _ => fun
  | [d1, d2, d3] => { results := [.lit (.bool false)], args := [d1, d2, d3] }
  | _ => none }
def ReduceVerifiesWrongFalsely : Prop := reduceVerifiesRow.holds Tryz.pinned (OpenSpec.ofChange reduceVerifiesWrong)

/-- 'pneumaticlaw38.ReduceProves': WHATEVER THE INPUT: true; the input reads as it did. -/
def reduceProvesSpec : ChangeSpec := { name := "reduceProves", fn := fun _ => fun
  | [d] => { results := [.lit (.bool true)], args := [d] }
  | _ => none }
def reduceProvesRow : OpenClaim := { program := "ythlpelkcmmaokaagreat", sum := "a196748658c2d1da88e198390c15e3a3b6a90d6d785729e01ac6c241a8638c2e", func := "pneumatic/pneumaticlaw38.ReduceProves", spec := "reduceProves", unfollowed := true, recurses := true, loops := true, plainKeys := false, apart := false }
def ReduceProvesSaid : Prop := reduceProvesRow.holds Tryz.pinned (OpenSpec.ofChange reduceProvesSpec)

/-- ITS FALSE NEIGHBOUR: 'it returns false'. Refute it at one input. -/
def reduceProvesWrong : ChangeSpec := { name := "reduceProves", fn := fun _ => fun
  | [d] => { results := [.lit (.bool false)], args := [d] }
  | _ => none }
def ReduceProvesWrongFalsely : Prop := reduceProvesRow.holds Tryz.pinned (OpenSpec.ofChange reduceProvesWrong)

/-- 'pneumaticlaw38.ReduceCarries': WHATEVER THE INPUT: true; the input reads as it did. -/
def reduceCarriesSpec : ChangeSpec := { name := "reduceCarries", fn := fun _ => fun
  | [d1, d2] => { results := [.lit (.bool true)], args := [d1, d2] }
  | _ => none }
def reduceCarriesRow : OpenClaim := { program := "ythlpelkcmmaokaagreat", sum := "a196748658c2d1da88e198390c15e3a3b6a90d6d785729e01ac6c241a8638c2e", func := "pneumatic/pneumaticlaw38.ReduceCarries", spec := "reduceCarries", unfollowed := true, recurses := true, loops := true, plainKeys := false, apart := false }
def ReduceCarriesSaid : Prop := reduceCarriesRow.holds Tryz.pinned (OpenSpec.ofChange reduceCarriesSpec)

/-- ITS FALSE NEIGHBOUR: 'it returns false'. Refute it at one input. -/
def reduceCarriesWrong : ChangeSpec := { name := "reduceCarries", fn := fun _ => fun
  | [d1, d2] => { results := [.lit (.bool false)], args := [d1, d2] }
  | _ => none }
def ReduceCarriesWrongFalsely : Prop := reduceCarriesRow.holds Tryz.pinned (OpenSpec.ofChange reduceCarriesWrong)

/-- 'pneumaticlaw38.ReduceFirst': WHATEVER THE INPUT: true; the input reads as it did. -/
def reduceFirstSpec : ChangeSpec := { name := "reduceFirst", fn := fun _ => fun
  | [d1, d2] => { results := [.lit (.bool true)], args := [d1, d2] }
  | _ => none }
def reduceFirstRow : OpenClaim := { program := "ythlpelkcmmaokaagreat", sum := "a196748658c2d1da88e198390c15e3a3b6a90d6d785729e01ac6c241a8638c2e", func := "pneumatic/pneumaticlaw38.ReduceFirst", spec := "reduceFirst", unfollowed := true, recurses := true, loops := true, plainKeys := false, apart := false }
def ReduceFirstSaid : Prop := reduceFirstRow.holds Tryz.pinned (OpenSpec.ofChange reduceFirstSpec)

/-- ITS FALSE NEIGHBOUR: 'it returns false'. Refute it at one input. -/
def reduceFirstWrong : ChangeSpec := { name := "reduceFirst", fn := fun _ => fun
  | [d1, d2] => { results := [.lit (.bool false)], args := [d1, d2] }
  | _ => none }
def ReduceFirstWrongFalsely : Prop := reduceFirstRow.holds Tryz.pinned (OpenSpec.ofChange reduceFirstWrong)

/-- 'pneumaticlaw38.ReduceRuns': WHATEVER THE INPUT: true; the input reads as it did. -/
def reduceRunsSpec : ChangeSpec := { name := "reduceRuns", fn := fun _ => fun
  | [d1, d2] => { results := [.lit (.bool true)], args := [d1, d2] }
  | _ => none }
def reduceRunsRow : OpenClaim := { program := "ythlpelkcmmaokaagreat", sum := "a196748658c2d1da88e198390c15e3a3b6a90d6d785729e01ac6c241a8638c2e", func := "pneumatic/pneumaticlaw38.ReduceRuns", spec := "reduceRuns", unfollowed := true, recurses := true, loops := true, plainKeys := false, apart := false }
def ReduceRunsSaid : Prop := reduceRunsRow.holds Tryz.pinned (OpenSpec.ofChange reduceRunsSpec)

/-- ITS FALSE NEIGHBOUR: 'it returns false'. Refute it at one input. -/
def reduceRunsWrong : ChangeSpec := { name := "reduceRuns", fn := fun _ => fun
  | [d1, d2] => { results := [.lit (.bool false)], args := [d1, d2] }
  | _ => none }
def ReduceRunsWrongFalsely : Prop := reduceRunsRow.holds Tryz.pinned (OpenSpec.ofChange reduceRunsWrong)

/- THE SECOND FORM. 'bulk': how many values and letters a reading holds, each counted each time it is reached (what is shared counts as often as it is met; a slice's spare places count too). A statement '..UptoSaid' is the law's where the arguments, and the package variables that the reading takes, are together of bulk at most 1048576: NARROWER than '..Said'. Prove '..Said' where nothing that the law and all that it calls make is longer than what came in: it says more and counts as full. Else prove '..UptoSaid'. A law counts once. -/
mutual
def uptoBulk {H : Type} : DataW H → Nat
  | .lit (.string bytes) => bytes.length + 1
  | .lit _ => 1
  | .nil => 1
  | .ptr d => uptoBulk d + 1
  | .slice elems spare => uptoBulkAll elems + uptoBulkAll spare + 1
  | .agg parts => uptoBulkAll parts + 1
  | .iface _ d => uptoBulk d + 1
  | .map entries => uptoBulkEntries entries + 1
  | .held _ => 1
def uptoBulkAll {H : Type} : List (DataW H) → Nat
  | [] => 0
  | d :: r => uptoBulk d + uptoBulkAll r
def uptoBulkEntries {H : Type} : List (Lit × DataW H) → Nat
  | [] => 0
  | x :: r => uptoBulkEntry x + uptoBulkEntries r
def uptoBulkEntry {H : Type} : Lit × DataW H → Nat
  | (.string bytes, d) => bytes.length + uptoBulk d + 1
  | (_, d) => uptoBulk d + 1
 end
def uptoSmall : (H : Type) → List (DataW H) → Bool := fun _ ds => decide (uptoBulkAll ds ≤ 1048576)
def OpenSpec.upto (s : _root_.Go.ChangeSpec) : _root_.Go.OpenSpec := { _root_.Go.OpenSpec.ofChange s with cond := some uptoSmall }

/-- 'pneumaticlaw38.ReduceClasses', WHERE WHAT IT READS IS OF BULK AT MOST 1048576: true; the input reads as it did. -/
def reduceClassesUptoRow : OpenClaim := { program := "ythlpelkcmmaokaagreat", sum := "a196748658c2d1da88e198390c15e3a3b6a90d6d785729e01ac6c241a8638c2e", func := "pneumatic/pneumaticlaw38.ReduceClasses", spec := "reduceClasses", unfollowed := true, recurses := true, loops := true, plainKeys := false, apart := false, narrowed := true }
def ReduceClassesUptoSaid : Prop := reduceClassesUptoRow.holds Tryz.pinned (OpenSpec.upto reduceClassesSpec)

/-- 'pneumaticlaw38.ReduceReduces', WHERE WHAT IT READS IS OF BULK AT MOST 1048576: true; the input reads as it did. -/
def reduceReducesUptoRow : OpenClaim := { program := "ythlpelkcmmaokaagreat", sum := "a196748658c2d1da88e198390c15e3a3b6a90d6d785729e01ac6c241a8638c2e", func := "pneumatic/pneumaticlaw38.ReduceReduces", spec := "reduceReduces", unfollowed := true, recurses := true, loops := true, plainKeys := false, apart := false, narrowed := true }
def ReduceReducesUptoSaid : Prop := reduceReducesUptoRow.holds Tryz.pinned (OpenSpec.upto reduceReducesSpec)

/-- 'pneumaticlaw38.ReduceVerifies', WHERE WHAT IT READS IS OF BULK AT MOST 1048576: true; the input reads as it did. -/
def reduceVerifiesUptoRow : OpenClaim := { program := "ythlpelkcmmaokaagreat", sum := "a196748658c2d1da88e198390c15e3a3b6a90d6d785729e01ac6c241a8638c2e", func := "pneumatic/pneumaticlaw38.ReduceVerifies", spec := "reduceVerifies", unfollowed := true, recurses := true, loops := true, plainKeys := false, apart := false, narrowed := true }
def ReduceVerifiesUptoSaid : Prop := reduceVerifiesUptoRow.holds Tryz.pinned (OpenSpec.upto reduceVerifiesSpec)

/-- 'pneumaticlaw38.ReduceProves', WHERE WHAT IT READS IS OF BULK AT MOST 1048576: true; the input reads as it did. -/
def reduceProvesUptoRow : OpenClaim := { program := "ythlpelkcmmaokaagreat", sum := "a196748658c2d1da88e198390c15e3a3b6a90d6d785729e01ac6c241a8638c2e", func := "pneumatic/pneumaticlaw38.ReduceProves", spec := "reduceProves", unfollowed := true, recurses := true, loops := true, plainKeys := false, apart := false, narrowed := true }
def ReduceProvesUptoSaid : Prop := reduceProvesUptoRow.holds Tryz.pinned (OpenSpec.upto reduceProvesSpec)

/-- 'pneumaticlaw38.ReduceCarries', WHERE WHAT IT READS IS OF BULK AT MOST 1048576: true; the input reads as it did. -/
def reduceCarriesUptoRow : OpenClaim := { program := "ythlpelkcmmaokaagreat", sum := "a196748658c2d1da88e198390c15e3a3b6a90d6d785729e01ac6c241a8638c2e", func := "pneumatic/pneumaticlaw38.ReduceCarries", spec := "reduceCarries", unfollowed := true, recurses := true, loops := true, plainKeys := false, apart := false, narrowed := true }
def ReduceCarriesUptoSaid : Prop := reduceCarriesUptoRow.holds Tryz.pinned (OpenSpec.upto reduceCarriesSpec)

/-- 'pneumaticlaw38.ReduceFirst', WHERE WHAT IT READS IS OF BULK AT MOST 1048576: true; the input reads as it did. -/
def reduceFirstUptoRow : OpenClaim := { program := "ythlpelkcmmaokaagreat", sum := "a196748658c2d1da88e198390c15e3a3b6a90d6d785729e01ac6c241a8638c2e", func := "pneumatic/pneumaticlaw38.ReduceFirst", spec := "reduceFirst", unfollowed := true, recurses := true, loops := true, plainKeys := false, apart := false, narrowed := true }
def ReduceFirstUptoSaid : Prop := reduceFirstUptoRow.holds Tryz.pinned (OpenSpec.upto reduceFirstSpec)

/-- 'pneumaticlaw38.ReduceRuns', WHERE WHAT IT READS IS OF BULK AT MOST 1048576: true; the input reads as it did. -/
def reduceRunsUptoRow : OpenClaim := { program := "ythlpelkcmmaokaagreat", sum := "a196748658c2d1da88e198390c15e3a3b6a90d6d785729e01ac6c241a8638c2e", func := "pneumatic/pneumaticlaw38.ReduceRuns", spec := "reduceRuns", unfollowed := true, recurses := true, loops := true, plainKeys := false, apart := false, narrowed := true }
def ReduceRunsUptoSaid : Prop := reduceRunsUptoRow.holds Tryz.pinned (OpenSpec.upto reduceRunsSpec)

end Rows
end Go.Proofs.YthlpelkcmmaokaaGreat
