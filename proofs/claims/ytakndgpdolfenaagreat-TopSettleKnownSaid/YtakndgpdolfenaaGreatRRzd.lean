/- Texts joined by a program: Rzd. -/
import Derived.Test.YtakndgpdolfenaaGreatRows
import Derived.WalkKit
import Derived.ProofKit
import Derived.OpenShut
import Derived.JoinedOf
import Derived.Handed
import Derived.Test.YtakndgpdolfenaaGreatG9
import Derived.Test.YtakndgpdolfenaaGreatG1
set_option linter.unusedSimpArgs false
set_option linter.unusedVariables false

/- top.TopSettleKnown answers true, whatever its arguments. -/
section
namespace Go.Proofs.YtakndgpdolfenaaGreat.topSettleKnown
open Go.ChangeShapes Go.WideShapes Go.ChangeAt Go.RowKit
set_option maxRecDepth 100000

theorem own : ownKnob Tryz.prog.godebug = none := by kernel_rfl
theorem lifted (os : Os) (started : os.Started) (H : Type) (enc : TypeId × Value → H) :
    ReturnsInHanded {} Tryz.checked os 3 .any (Rows.topSettleKnownSpec.pre6 enc Tryz.prog Tryz.f3 Rows.topSettleKnownRow.domain false) (Rows.topSettleKnownSpec.post enc Tryz.prog Tryz.f3 false true false false) := by
  refine returnsInHanded_of_change (C := Tryz.checked) own started (by kernel_rfl) Tryz.func3
    (ChangeSpec.witness6 (enc := enc) (C := Tryz.checked) false ⟨#[], #[.agg #[.int .i64 0, .slice none 0 0, .slice none 0 0, .slice none 0 0, .slice none 0 0], .agg #[.slice none 0 0, .slice none 0 0, .slice none 0 0, .slice none 0 0, .slice none 0 0]], []⟩ 8 (by kernel_rfl) (by kernel_rfl) (by kernel_rfl) (by kernel_rfl)) ?_
  intro W base args ds gs before hval0 hW hcnd _
  have hval : ∀ (j : Nat) t v, Tryz.f3.params[j]? = some t → args[j]? = some v → Value.okWide Tryz.prog W .any base t v := hval0
  have hW' := hW
  obtain ⟨p, q, hA0, hV, rfl, hfz, hnd⟩ := hW
  have hA : DataW.TrodAll enc Tryz.prog W 0 (fun _ => true) true Tryz.f3.params.toList args.toList ds p := hA0
  rw [Tryz.params3] at hA hval
  obtain ⟨v0, vs0, d0, ds0, p0, q0, hargs, rfl, rfl, h0, r0⟩ := trodAll_cons hA
  obtain ⟨v1, vs1, d1, ds1, p1, q1, rfl, rfl, rfl, h1, r1⟩ := trodAll_cons r0
  obtain ⟨rfl, rfl, rfl⟩ := trodAll_nil r1
  obtain rfl : args = #[v0, v1] := by cases args; simp_all
  obtain ⟨rfl, rfl⟩ := trodVars_none hV
  obtain ⟨x0, e0, k0⟩ := read_C (hval 0 26 v0 rfl rfl) h0
  obtain ⟨x1, e1, k1⟩ := read_St (hval 1 29 v1 rfl rfl) h1
  simp only [List.append_nil] at hW'
  exact law_of (az := [aC x0, aSt x1]) (tb := 4) facts.1 facts.2.1 facts.2.2 (by decide +kernel) (by kernel_rfl) Tryz.underlying4 hW' rfl rfl rfl rfl ⟨e0, e1, trivial⟩ (TopSettleKnown_fn x0 x1 k0 k1)
theorem over : Rows.topSettleKnownRow.holds Tryz.pinned (OpenSpec.ofChange Rows.topSettleKnownSpec) :=
  OpenClaim.holds_of_wide 3 Tryz.f3 rfl rfl rfl rfl rfl rfl rfl ⟨rfl, rfl, rfl, rfl, rfl⟩ rfl rfl rfl rfl rfl (by kernel_rfl) Tryz.func3 (by kernel_rfl)
    (of_decide_eq_true (by kernel_rfl)) (by unfold Func.isWrapper; first | (rw [if_pos (by decide +kernel)]; kernel_rfl) | (rw [if_neg (by decide +kernel)]; exact ⟨rfl, rfl⟩))
    (fun os started H enc _ => lifted os started H enc)
theorem proved : Rows.TopSettleKnownSaid := over
end Go.Proofs.YtakndgpdolfenaaGreat.topSettleKnown
end
