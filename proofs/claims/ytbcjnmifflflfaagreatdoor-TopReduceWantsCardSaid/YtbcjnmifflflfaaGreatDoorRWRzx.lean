/- Texts joined by a program: Rzx. -/
import Derived.Test.YtbcjnmifflflfaaGreatDoorCards
import Derived.Test.YtbcjnmifflflfaaGreatDoorTie
import Derived.SevenTiedAt
import Derived.Test.YtbcjnmifflflfaaGreatDoorW26
set_option linter.unusedSimpArgs false
set_option linter.unusedVariables false

section
namespace Go.Proofs.YtbcjnmifflflfaaGreatDoor.topReduceWantsCard
set_option maxRecDepth 100000
set_option maxHeartbeats 0 in
theorem proved : Rows.TopReduceWantsCardSaid :=
  Claim7.holds_tied_plain_at .later [] [.data, .data, .data] true (true, "a671a0e2403373ed7d9ea9e58a0d75141390e37b63ebfc69f74535bd91b0a6b9") false
    topReduceWants.over (fun _ h => by cases h) (by as_aux_lemma => kernel_rfl) (fun _ h => by cases h) topReduceWants_row_tie rfl ⟨rfl, rfl⟩ (by as_aux_lemma => kernel_rfl) rfl
    (fun f fn hf hfn => by
      obtain rfl : f = 10 := Option.some.inj ((show Tryz.prog.funcNamed "pneumatic/pneumatictop.TopReduceWants" = some 10 by kernel_rfl).symm.trans hf) |>.symm
      obtain rfl : fn = Tryz.f10 := (Option.some.inj (Tryz.func10.symm.trans hfn)).symm
      exact ⟨by as_aux_lemma => kernel_rfl, fun j t ht => by
        rw [Tryz.params10] at ht
        have hm : t ∈ [26, 60] := by simpa using Array.mem_of_getElem? ht
        have hall : ([26, 60].all fun u => !Tryz.prog.wantsStandIn u) = true := by kernel_rfl
        exact (show Tryz.prog.wantsStandIn t = false by simpa using List.all_eq_true.1 hall t hm)⟩)
    (by as_aux_lemma => kernel_rfl)
end Go.Proofs.YtbcjnmifflflfaaGreatDoor.topReduceWantsCard
end
