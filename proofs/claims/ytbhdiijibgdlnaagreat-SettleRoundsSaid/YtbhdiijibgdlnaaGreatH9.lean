/- Texts joined by a program: Vi. -/
import Derived.Test.YtbhdiijibgdlnaaGreatH5
import Derived.Test.YtbhdiijibgdlnaaGreatHX
set_option linter.unusedSimpArgs false
set_option linter.unusedVariables false

/- Law of chapter 28: Round, Rests, Rounds. -/
section
namespace Go.Proofs.YtbhdiijibgdlnaaGreat
set_option maxHeartbeats 4000000
set_option maxRecDepth 10000

theorem rounds_rest {b5 b8 : Nat} {c : Control} {s x : State} {l : List Int} {e : Int} {q : Bool} {e2 n e3 : Int} (c5 : CallFn Tryz.prog 45 [aC c, aSt s] (.tuple [aI n, aI e3])) (c6 : CallFn Tryz.prog 46 [aC c, aSt s] (.tuple [aI n, aI e3]))
    (c7 : CallFn Tryz.prog 31 [aSt x, aSt x] (aB true)) (c8 : CallFn Tryz.prog 20 [aIs l, aIs l] (aB true)) :
    vcC ⟨Tryz.prog, none, 98⟩ (restC Tryz.f9 6) (hdE [(2, .rptr (encC c)), (3, .rptr (encSt s)), (4, aB false), (5, .ptr 5 b5 0), (6, aIs l), (7, aI e), (8, .ptr 8 b8 0), (9, aIs l), (10, aI e), (11, aB q), (12, aI e2), (13, aB q), (14, aI e2)] [])
      [(8, .box b8 ((encSt x).map A.dat)), (5, .box b5 ((encSt x).map A.dat))] (RetV Tryz.prog [.tmp 4] fun r' H' => (frz H' r').1 ∧ (frz H' r').2 = aB true) := by
  refine vc_rest rfl ?_
  simp [encSt]
  refine c5.s ?_
  simp
  refine c6.s ?_
  simp
  refine c7.s ?_
  simp
  refine GCall.fn (aB true) (fun h => ⟨trivial, c8⟩) ?_
  simp
  refine GCall.fn (aB true) (fun h => ⟨trivial, awake28_fn⟩) ?_
  simp

theorem rounds_mid {b5 b8 : Nat} {c : Control} {s x : State} {l : List Int} {e : Int} {q : Bool} {e2 n e3 : Int} (c3 : CallFn Tryz.prog 43 [aC c, aSt s] (.tuple [aB q, aI e2])) (c4 : CallFn Tryz.prog 44 [aC c, aSt s] (.tuple [aB q, aI e2]))
    (c5 : CallFn Tryz.prog 45 [aC c, aSt s] (.tuple [aI n, aI e3])) (c6 : CallFn Tryz.prog 46 [aC c, aSt s] (.tuple [aI n, aI e3]))
    (c7 : CallFn Tryz.prog 31 [aSt x, aSt x] (aB true)) (c8 : CallFn Tryz.prog 20 [aIs l, aIs l] (aB true)) :
    vcN ⟨Tryz.prog, none, 98⟩ 2 (restC Tryz.f9 4) (hdE [(2, .rptr (encC c)), (3, .rptr (encSt s)), (4, aB false), (5, .ptr 5 b5 0), (6, aIs l), (7, aI e), (8, .ptr 8 b8 0), (9, aIs l), (10, aI e)] [])
      [(8, .box b8 ((encSt x).map A.dat)), (5, .box b5 ((encSt x).map A.dat))] (RetV Tryz.prog [.tmp 4] fun r' H' => (frz H' r').1 ∧ (frz H' r').2 = aB true) := by
  refine vcN_rest rfl ?_
  simp
  refine c3.s ?_
  simp
  refine c4.s ?_
  simp
  refine V.cut [(2, .rptr (encC c)), (3, .rptr (encSt s)), (4, aB false), (5, .ptr 5 b5 0), (6, aIs l), (7, aI e), (8, .ptr 8 b8 0), (9, aIs l), (10, aI e), (11, aB q), (12, aI e2), (13, aB q), (14, aI e2)] (by simp) (by simp) (vc_of_rest rfl (rounds_rest (b5 := b5) (b8 := b8) (x := x) c5 c6 c7 c8))

theorem lawRounds_fn (c : Control) (s : State) (hc : OkC c) (hs : OkSt s) : CallFn Tryz.prog 9 [aC c, aSt s] (aB true) := by
  refine callFz_cut 4 Tryz.func9 rfl Tryz.ntmps9 (rs := [.tmp 4]) rfl (by kernel_rfl) (by simp) (by kernel_rfl) ?_
  simp
  refine (Few28_fn c s hc hs).s ?_
  by_cases hfw : (fewC c && fewS s) = true
  · obtain ⟨f1, f2⟩ := Bool.and_eq_true_iff.1 hfw
    have hsm := few_sm f2
    have hpm := few_c f1
    have c1 := Round_fn c s hc hsm
    have c2 := RoundR_fn c s hc hpm.1 hpm.2 hsm
    have c3 := Rests_fn c s hc hsm
    have c4 := RestsR_fn c s hc hpm.1 hpm.2 hsm
    have c5 := Rounds_fn c s hc hsm
    have c6 := RoundsR_fn c s hc hpm.1 hpm.2 hsm
    obtain ⟨g1, g2⟩ := roundR_sm (c := c) hsm
    have c7 := SameStatesR_l _ _ g1 g1
    rw [sameSt_self] at c7
    have c8 := eqI_fn (roundR c s).2.1 (roundR c s).2.1 (by unfold Sh; omega) (by unfold Sh; omega)
    rw [decide_eq_true rfl] at c8
    generalize roundR c s = p at *
    generalize restsR c s = q at *
    generalize roundsR c s = r at *
    obtain ⟨p1, p2, p3⟩ := p
    obtain ⟨q1, q2⟩ := q
    obtain ⟨r1, r2⟩ := r
    simp [hfw]
    refine c1.s ?_
    simp
    intro b5
    refine c2.s ?_
    simp
    intro b8
    refine V.cutN 2 [(2, .rptr (encC c)), (3, .rptr (encSt s)), (4, aB false), (5, .ptr 5 b5 0), (6, aIs p2), (7, aI p3), (8, .ptr 8 b8 0), (9, aIs p2), (10, aI p3)] (by simp) (by simp [encSt]) (vcN_of_rest rfl (rounds_mid (b5 := b5) (b8 := b8) (x := p1) c3 c4 c5 c6 c7 c8))
  · simp [hfw]
    exact awake28_fn.s (by simp)

end Go.Proofs.YtbhdiijibgdlnaaGreat
end
