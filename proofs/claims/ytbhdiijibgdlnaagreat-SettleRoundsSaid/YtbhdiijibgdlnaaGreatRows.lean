/-
  NARROWER THAN 'FOR EVERY INPUT', by the rows' own cells (each row's printed sentence says how): ControlNames: loops · ControlKeeps: loops · SettleSettles: loops · SettleUnknown: loops · SettleIgnores: loops · SettleAbstracts: loops · SettleRounds: loops · SettleRests: loops · SettleObeys: loops.
  DERIVED. THE GIVEN ROWS OF THIS SEAT. 9 by the template 'for every input the law returns true; each argument reads behind the call as it read before'; 0 by the template 'total and deterministic' (their statements: YtbhdiijibgdlnaaGreatTotals.lean).
  GIVEN WITH THE SEED: the statements are not yours to turn. If you find one false, say at which input.
  Laid BY PROGRAM, IN A SANDBOX (cutbox-rows.mjs): the forced cells as the released guide's own fill.sh prints them over the translation f2fe70cba61b4cca… (all of the seat's roots in one cut). By AI agents, Wed Nov 11 2026. No macro, syntax, notation, axiom, sorry.
-/
import Derived.Test.YtbhdiijibgdlnaaGreatChecked
import GoSem.Claim
import GoSem.ClaimJoined
import GoSem.ClaimMapViews
import Derived.JoinedTies
import Derived.KernelRfl
namespace Go.Proofs.YtbhdiijibgdlnaaGreat
/- THE CELL 'sum', in the pinned program and in every row, IS THE sha256 OF THE DUMP (.gsa) THAT YtbhdiijibgdlnaaGreatProg.lean LOADS. Nothing in Lean hashes anything: it is a label: what it is worth is what the hold of that sum in a sandbox is worth. -/
noncomputable def Tryz.pinned : Pinned := { name := "ytbhdiijibgdlnaagreat", sum := "f2fe70cba61b4cca02e82f53775a9a44b9ce81a4e219b5b007a6cd2665d7e040", checked := Tryz.checked }
namespace Rows
def none {H : Type} : Left H := { results := [], args := [] }

/-- 'pneumaticlaw27.ControlNames': WHATEVER THE INPUT: true; the input reads as it did. -/
def controlNamesSpec : ChangeSpec := { name := "controlNames", fn := fun _ => fun
  | [d1, d2, d3] => { results := [.lit (.bool true)], args := [d1, d2, d3] }
  | _ => none }
def controlNamesRow : OpenClaim := { program := "ytbhdiijibgdlnaagreat", sum := "f2fe70cba61b4cca02e82f53775a9a44b9ce81a4e219b5b007a6cd2665d7e040", func := "pneumatic/pneumaticlaw27.ControlNames", spec := "controlNames", unfollowed := true, recurses := true, loops := true, apart := false }
def ControlNamesSaid : Prop := controlNamesRow.holds Tryz.pinned (OpenSpec.ofChange controlNamesSpec)

/-- ITS FALSE NEIGHBOUR: 'it returns false'. Refute it at one input. -/
def controlNamesWrong : ChangeSpec := { name := "controlNames", fn := fun _ => fun
  | [d1, d2, d3] => { results := [.lit (.bool false)], args := [d1, d2, d3] }
  | _ => none }
def ControlNamesWrongFalsely : Prop := controlNamesRow.holds Tryz.pinned (OpenSpec.ofChange controlNamesWrong)

/-- 'pneumaticlaw27.ControlKeeps': WHATEVER THE INPUT: true; the input reads as it did. -/
def controlKeepsSpec : ChangeSpec := { name := "controlKeeps", fn := fun _ => fun
  | [d1, d2, d3] => { results := [.lit (.bool true)], args := [d1, d2, d3] }
  | _ => none }
def controlKeepsRow : OpenClaim := { program := "ytbhdiijibgdlnaagreat", sum := "f2fe70cba61b4cca02e82f53775a9a44b9ce81a4e219b5b007a6cd2665d7e040", func := "pneumatic/pneumaticlaw27.ControlKeeps", spec := "controlKeeps", unfollowed := true, recurses := true, loops := true, apart := false }
def ControlKeepsSaid : Prop := controlKeepsRow.holds Tryz.pinned (OpenSpec.ofChange controlKeepsSpec)

/-- ITS FALSE NEIGHBOUR: 'it returns false'. Refute it at one input. -/
def controlKeepsWrong : ChangeSpec := { name := "controlKeeps", fn := fun _ => fun
  | [d1, d2, d3] => { results := [.lit (.bool false)], args := [d1, d2, d3] }
  | _ => none }
def ControlKeepsWrongFalsely : Prop := controlKeepsRow.holds Tryz.pinned (OpenSpec.ofChange controlKeepsWrong)

/-- 'pneumaticlaw28.SettleSettles': WHATEVER THE INPUT: true; the input reads as it did. -/
def settleSettlesSpec : ChangeSpec := { name := "settleSettles", fn := fun _ => fun
  | [d1, d2] => { results := [.lit (.bool true)], args := [d1, d2] }
  | _ => none }
def settleSettlesRow : OpenClaim := { program := "ytbhdiijibgdlnaagreat", sum := "f2fe70cba61b4cca02e82f53775a9a44b9ce81a4e219b5b007a6cd2665d7e040", func := "pneumatic/pneumaticlaw28.SettleSettles", spec := "settleSettles", unfollowed := true, recurses := true, loops := true, apart := false }
def SettleSettlesSaid : Prop := settleSettlesRow.holds Tryz.pinned (OpenSpec.ofChange settleSettlesSpec)

/-- ITS FALSE NEIGHBOUR: 'it returns false'. Refute it at one input. -/
def settleSettlesWrong : ChangeSpec := { name := "settleSettles", fn := fun _ => fun
  | [d1, d2] => { results := [.lit (.bool false)], args := [d1, d2] }
  | _ => none }
def SettleSettlesWrongFalsely : Prop := settleSettlesRow.holds Tryz.pinned (OpenSpec.ofChange settleSettlesWrong)

/-- 'pneumaticlaw28.SettleUnknown': WHATEVER THE INPUT: true; the input reads as it did. -/
def settleUnknownSpec : ChangeSpec := { name := "settleUnknown", fn := fun _ => fun
  | [d1, d2, d3] => { results := [.lit (.bool true)], args := [d1, d2, d3] }
  | _ => none }
def settleUnknownRow : OpenClaim := { program := "ytbhdiijibgdlnaagreat", sum := "f2fe70cba61b4cca02e82f53775a9a44b9ce81a4e219b5b007a6cd2665d7e040", func := "pneumatic/pneumaticlaw28.SettleUnknown", spec := "settleUnknown", unfollowed := true, recurses := true, loops := true, apart := false }
def SettleUnknownSaid : Prop := settleUnknownRow.holds Tryz.pinned (OpenSpec.ofChange settleUnknownSpec)

/-- ITS FALSE NEIGHBOUR: 'it returns false'. Refute it at one input. -/
def settleUnknownWrong : ChangeSpec := { name := "settleUnknown", fn := fun _ => fun
  | [d1, d2, d3] => { results := [.lit (.bool false)], args := [d1, d2, d3] }
  | _ => none }
def SettleUnknownWrongFalsely : Prop := settleUnknownRow.holds Tryz.pinned (OpenSpec.ofChange settleUnknownWrong)

/-- 'pneumaticlaw28.SettleIgnores': WHATEVER THE INPUT: true; the input reads as it did. -/
def settleIgnoresSpec : ChangeSpec := { name := "settleIgnores", fn := fun _ => fun
  | [d1, d2, d3] => { results := [.lit (.bool true)], args := [d1, d2, d3] }
  | _ => none }
def settleIgnoresRow : OpenClaim := { program := "ytbhdiijibgdlnaagreat", sum := "f2fe70cba61b4cca02e82f53775a9a44b9ce81a4e219b5b007a6cd2665d7e040", func := "pneumatic/pneumaticlaw28.SettleIgnores", spec := "settleIgnores", unfollowed := true, recurses := true, loops := true, apart := false }
def SettleIgnoresSaid : Prop := settleIgnoresRow.holds Tryz.pinned (OpenSpec.ofChange settleIgnoresSpec)

/-- ITS FALSE NEIGHBOUR: 'it returns false'. Refute it at one input. -/
def settleIgnoresWrong : ChangeSpec := { name := "settleIgnores", fn := fun _ => fun
  | [d1, d2, d3] => { results := [.lit (.bool false)], args := [d1, d2, d3] }
  | _ => none }
def SettleIgnoresWrongFalsely : Prop := settleIgnoresRow.holds Tryz.pinned (OpenSpec.ofChange settleIgnoresWrong)

/-- 'pneumaticlaw28.SettleAbstracts': WHATEVER THE INPUT: true; the input reads as it did. -/
def settleAbstractsSpec : ChangeSpec := { name := "settleAbstracts", fn := fun _ => fun
  | [d1, d2, d3] => { results := [.lit (.bool true)], args := [d1, d2, d3] }
  | _ => none }
def settleAbstractsRow : OpenClaim := { program := "ytbhdiijibgdlnaagreat", sum := "f2fe70cba61b4cca02e82f53775a9a44b9ce81a4e219b5b007a6cd2665d7e040", func := "pneumatic/pneumaticlaw28.SettleAbstracts", spec := "settleAbstracts", unfollowed := true, recurses := true, loops := true, apart := false }
def SettleAbstractsSaid : Prop := settleAbstractsRow.holds Tryz.pinned (OpenSpec.ofChange settleAbstractsSpec)

/-- ITS FALSE NEIGHBOUR: 'it returns false'. Refute it at one input. -/
def settleAbstractsWrong : ChangeSpec := { name := "settleAbstracts", fn := fun _ => fun
  | [d1, d2, d3] => { results := [.lit (.bool false)], args := [d1, d2, d3] }
  | _ => none }
def SettleAbstractsWrongFalsely : Prop := settleAbstractsRow.holds Tryz.pinned (OpenSpec.ofChange settleAbstractsWrong)

/-- 'pneumaticlaw28.SettleRounds': WHATEVER THE INPUT: true; the input reads as it did. -/
def settleRoundsSpec : ChangeSpec := { name := "settleRounds", fn := fun _ => fun
  | [d1, d2] => { results := [.lit (.bool true)], args := [d1, d2] }
  | _ => none }
def settleRoundsRow : OpenClaim := { program := "ytbhdiijibgdlnaagreat", sum := "f2fe70cba61b4cca02e82f53775a9a44b9ce81a4e219b5b007a6cd2665d7e040", func := "pneumatic/pneumaticlaw28.SettleRounds", spec := "settleRounds", unfollowed := true, recurses := true, loops := true, apart := false }
def SettleRoundsSaid : Prop := settleRoundsRow.holds Tryz.pinned (OpenSpec.ofChange settleRoundsSpec)

/-- ITS FALSE NEIGHBOUR: 'it returns false'. Refute it at one input. -/
def settleRoundsWrong : ChangeSpec := { name := "settleRounds", fn := fun _ => fun
  | [d1, d2] => { results := [.lit (.bool false)], args := [d1, d2] }
  | _ => none }
def SettleRoundsWrongFalsely : Prop := settleRoundsRow.holds Tryz.pinned (OpenSpec.ofChange settleRoundsWrong)

/-- 'pneumaticlaw28.SettleRests': WHATEVER THE INPUT: true; the input reads as it did. -/
def settleRestsSpec : ChangeSpec := { name := "settleRests", fn := fun _ => fun
  | [d1, d2] => { results := [.lit (.bool true)], args := [d1, d2] }
  | _ => none }
def settleRestsRow : OpenClaim := { program := "ytbhdiijibgdlnaagreat", sum := "f2fe70cba61b4cca02e82f53775a9a44b9ce81a4e219b5b007a6cd2665d7e040", func := "pneumatic/pneumaticlaw28.SettleRests", spec := "settleRests", unfollowed := true, recurses := true, loops := true, apart := false }
def SettleRestsSaid : Prop := settleRestsRow.holds Tryz.pinned (OpenSpec.ofChange settleRestsSpec)

/-- ITS FALSE NEIGHBOUR: 'it returns false'. Refute it at one input. -/
def settleRestsWrong : ChangeSpec := { name := "settleRests", fn := fun _ => fun
  | [d1, d2] => { results := [.lit (.bool false)], args := [d1, d2] }
  | _ => none }
def SettleRestsWrongFalsely : Prop := settleRestsRow.holds Tryz.pinned (OpenSpec.ofChange settleRestsWrong)

/-- 'pneumaticlaw28.SettleObeys': WHATEVER THE INPUT: true; the input reads as it did. -/
def settleObeysSpec : ChangeSpec := { name := "settleObeys", fn := fun _ => fun
  | [d1, d2] => { results := [.lit (.bool true)], args := [d1, d2] }
  | _ => none }
def settleObeysRow : OpenClaim := { program := "ytbhdiijibgdlnaagreat", sum := "f2fe70cba61b4cca02e82f53775a9a44b9ce81a4e219b5b007a6cd2665d7e040", func := "pneumatic/pneumaticlaw28.SettleObeys", spec := "settleObeys", unfollowed := true, recurses := true, loops := true, apart := false }
def SettleObeysSaid : Prop := settleObeysRow.holds Tryz.pinned (OpenSpec.ofChange settleObeysSpec)

/-- ITS FALSE NEIGHBOUR: 'it returns false'. Refute it at one input. -/
def settleObeysWrong : ChangeSpec := { name := "settleObeys", fn := fun _ => fun
  | [d1, d2] => { results := [.lit (.bool false)], args := [d1, d2] }
  | _ => none }
def SettleObeysWrongFalsely : Prop := settleObeysRow.holds Tryz.pinned (OpenSpec.ofChange settleObeysWrong)

/- THE SECOND FORM. 'bulk': how many values and letters a reading holds, each counted each time it is reached (what is shared counts as often as it is met; a slice's spare places count too). A statement '..UptoSaid' is the law's where the arguments, and the package variables that the reading takes, are together of bulk at most 1048576: NARROWER than '..Said'. Prove '..Said' where nothing that the law and all that it calls make is longer than what came in: it says more and counts as full. Else prove '..UptoSaid'. A law counts once. -/
mutual
def uptoBulk {H : Type} : DataW H → Nat
  | .lit (.string bytes) => bytes.length + 1
  | .lit _ => 1
  | .nil => 1
  | .ptr d => uptoBulk d + 1
  | .slice elems spare => uptoBulkAll elems + uptoBulkAll spare + 1
  | .agg parts => uptoBulkAll parts + 1
  | .iface _ d => uptoBulk d + 1
  | .map entries => uptoBulkEntries entries + 1
  | .held _ => 1
def uptoBulkAll {H : Type} : List (DataW H) → Nat
  | [] => 0
  | d :: r => uptoBulk d + uptoBulkAll r
def uptoBulkEntries {H : Type} : List (Lit × DataW H) → Nat
  | [] => 0
  | x :: r => uptoBulkEntry x + uptoBulkEntries r
def uptoBulkEntry {H : Type} : Lit × DataW H → Nat
  | (.string bytes, d) => bytes.length + uptoBulk d + 1
  | (_, d) => uptoBulk d + 1
 end
def uptoSmall : (H : Type) → List (DataW H) → Bool := fun _ ds => decide (uptoBulkAll ds ≤ 1048576)
def OpenSpec.upto (s : _root_.Go.ChangeSpec) : _root_.Go.OpenSpec := { _root_.Go.OpenSpec.ofChange s with cond := some uptoSmall }

/-- 'pneumaticlaw27.ControlNames', WHERE WHAT IT READS IS OF BULK AT MOST 1048576: true; the input reads as it did. -/
def controlNamesUptoRow : OpenClaim := { program := "ytbhdiijibgdlnaagreat", sum := "f2fe70cba61b4cca02e82f53775a9a44b9ce81a4e219b5b007a6cd2665d7e040", func := "pneumatic/pneumaticlaw27.ControlNames", spec := "controlNames", unfollowed := true, recurses := true, loops := true, apart := false, narrowed := true }
def ControlNamesUptoSaid : Prop := controlNamesUptoRow.holds Tryz.pinned (OpenSpec.upto controlNamesSpec)

/-- 'pneumaticlaw27.ControlKeeps', WHERE WHAT IT READS IS OF BULK AT MOST 1048576: true; the input reads as it did. -/
def controlKeepsUptoRow : OpenClaim := { program := "ytbhdiijibgdlnaagreat", sum := "f2fe70cba61b4cca02e82f53775a9a44b9ce81a4e219b5b007a6cd2665d7e040", func := "pneumatic/pneumaticlaw27.ControlKeeps", spec := "controlKeeps", unfollowed := true, recurses := true, loops := true, apart := false, narrowed := true }
def ControlKeepsUptoSaid : Prop := controlKeepsUptoRow.holds Tryz.pinned (OpenSpec.upto controlKeepsSpec)

/-- 'pneumaticlaw28.SettleSettles', WHERE WHAT IT READS IS OF BULK AT MOST 1048576: true; the input reads as it did. -/
def settleSettlesUptoRow : OpenClaim := { program := "ytbhdiijibgdlnaagreat", sum := "f2fe70cba61b4cca02e82f53775a9a44b9ce81a4e219b5b007a6cd2665d7e040", func := "pneumatic/pneumaticlaw28.SettleSettles", spec := "settleSettles", unfollowed := true, recurses := true, loops := true, apart := false, narrowed := true }
def SettleSettlesUptoSaid : Prop := settleSettlesUptoRow.holds Tryz.pinned (OpenSpec.upto settleSettlesSpec)

/-- 'pneumaticlaw28.SettleUnknown', WHERE WHAT IT READS IS OF BULK AT MOST 1048576: true; the input reads as it did. -/
def settleUnknownUptoRow : OpenClaim := { program := "ytbhdiijibgdlnaagreat", sum := "f2fe70cba61b4cca02e82f53775a9a44b9ce81a4e219b5b007a6cd2665d7e040", func := "pneumatic/pneumaticlaw28.SettleUnknown", spec := "settleUnknown", unfollowed := true, recurses := true, loops := true, apart := false, narrowed := true }
def SettleUnknownUptoSaid : Prop := settleUnknownUptoRow.holds Tryz.pinned (OpenSpec.upto settleUnknownSpec)

/-- 'pneumaticlaw28.SettleIgnores', WHERE WHAT IT READS IS OF BULK AT MOST 1048576: true; the input reads as it did. -/
def settleIgnoresUptoRow : OpenClaim := { program := "ytbhdiijibgdlnaagreat", sum := "f2fe70cba61b4cca02e82f53775a9a44b9ce81a4e219b5b007a6cd2665d7e040", func := "pneumatic/pneumaticlaw28.SettleIgnores", spec := "settleIgnores", unfollowed := true, recurses := true, loops := true, apart := false, narrowed := true }
def SettleIgnoresUptoSaid : Prop := settleIgnoresUptoRow.holds Tryz.pinned (OpenSpec.upto settleIgnoresSpec)

/-- 'pneumaticlaw28.SettleAbstracts', WHERE WHAT IT READS IS OF BULK AT MOST 1048576: true; the input reads as it did. -/
def settleAbstractsUptoRow : OpenClaim := { program := "ytbhdiijibgdlnaagreat", sum := "f2fe70cba61b4cca02e82f53775a9a44b9ce81a4e219b5b007a6cd2665d7e040", func := "pneumatic/pneumaticlaw28.SettleAbstracts", spec := "settleAbstracts", unfollowed := true, recurses := true, loops := true, apart := false, narrowed := true }
def SettleAbstractsUptoSaid : Prop := settleAbstractsUptoRow.holds Tryz.pinned (OpenSpec.upto settleAbstractsSpec)

/-- 'pneumaticlaw28.SettleRounds', WHERE WHAT IT READS IS OF BULK AT MOST 1048576: true; the input reads as it did. -/
def settleRoundsUptoRow : OpenClaim := { program := "ytbhdiijibgdlnaagreat", sum := "f2fe70cba61b4cca02e82f53775a9a44b9ce81a4e219b5b007a6cd2665d7e040", func := "pneumatic/pneumaticlaw28.SettleRounds", spec := "settleRounds", unfollowed := true, recurses := true, loops := true, apart := false, narrowed := true }
def SettleRoundsUptoSaid : Prop := settleRoundsUptoRow.holds Tryz.pinned (OpenSpec.upto settleRoundsSpec)

/-- 'pneumaticlaw28.SettleRests', WHERE WHAT IT READS IS OF BULK AT MOST 1048576: true; the input reads as it did. -/
def settleRestsUptoRow : OpenClaim := { program := "ytbhdiijibgdlnaagreat", sum := "f2fe70cba61b4cca02e82f53775a9a44b9ce81a4e219b5b007a6cd2665d7e040", func := "pneumatic/pneumaticlaw28.SettleRests", spec := "settleRests", unfollowed := true, recurses := true, loops := true, apart := false, narrowed := true }
def SettleRestsUptoSaid : Prop := settleRestsUptoRow.holds Tryz.pinned (OpenSpec.upto settleRestsSpec)

/-- 'pneumaticlaw28.SettleObeys', WHERE WHAT IT READS IS OF BULK AT MOST 1048576: true; the input reads as it did. -/
def settleObeysUptoRow : OpenClaim := { program := "ytbhdiijibgdlnaagreat", sum := "f2fe70cba61b4cca02e82f53775a9a44b9ce81a4e219b5b007a6cd2665d7e040", func := "pneumatic/pneumaticlaw28.SettleObeys", spec := "settleObeys", unfollowed := true, recurses := true, loops := true, apart := false, narrowed := true }
def SettleObeysUptoSaid : Prop := settleObeysUptoRow.holds Tryz.pinned (OpenSpec.upto settleObeysSpec)

end Rows
end Go.Proofs.YtbhdiijibgdlnaaGreat
