/- Texts joined by a program: Bt, Bz, Bza, Bzb, Bzc. -/
import Derived.Test.YtakndgpdolfenaaGreatG8
import Derived.Test.YtakndgpdolfenaaGreatG6
import Derived.Test.YtakndgpdolfenaaGreatG2
set_option linter.unusedSimpArgs false
set_option linter.unusedVariables false

/- The laws of race: orders, ends, ways. -/
section
namespace Go.Proofs.YtakndgpdolfenaaGreat
set_option maxHeartbeats 4000000
set_option maxRecDepth 10000

theorem cmpR29_back (a b : State) : cmpR29 b a = (-(cmpR29 a b).1, (cmpR29 a b).2) := by
  unfold cmpR29
  by_cases h : b.values.length ≠ a.values.length ∨ a.timers.length ≠ a.values.length ∨ b.timers.length ≠ a.values.length
  · rw [if_pos h, if_pos (by omega)]
    rfl
  · rw [if_neg h, if_neg (by omega)]
    rw [ord_key (by omega), ord_key (by omega), cmpI_anti]
theorem RaceOrders_fn (a b : State) (ha : OkSt a) (hb : OkSt b) : CallFn Tryz.prog 6 [aSt a, aSt b] (aB true) := by
  have c1 := Compare_fn a b ha.values ha.timers hb.values hb.timers
  have c2 := CompareR_fn a b ha.values ha.timers hb.values hb.timers
  have c3 := Compare_fn b a hb.values hb.timers ha.values ha.timers
  rw [cmpR29_back] at c3
  have hrg : (cmpR29 a b).1 = -1 ∨ (cmpR29 a b).1 = 0 ∨ (cmpR29 a b).1 = 1 := by
    unfold cmpR29
    split
    · exact .inr (.inl rfl)
    · exact ordS_range a b
  generalize cmpR29 a b = p at *
  obtain ⟨p1, p2⟩ := p
  simp only at hrg
  refine callFz_of Tryz.func6 rfl Tryz.ntmps6 (rs := [.tmp 4]) rfl (by kernel_rfl) (by simp) (by kernel_rfl) ?_
  simp
  refine (FewStates_fn a ha).s ?_
  simp
  refine GCall.fn (aB (fewS b)) (fun h => ⟨by first | trivial | exact h, FewStates_fn b hb⟩) ?_
  simp
  refine ⟨fun h => awake29_fn.s (by simp), fun h1 h2 => ?_⟩
  refine c1.s ?_
  simp
  refine c2.s ?_
  simp
  refine c3.s ?_
  simp
  refine ⟨by omega, ?_⟩
  refine GCall.fn (aB true) (fun h => ⟨by first | trivial | exact h, awake29_fn⟩) ?_
  simp
end Go.Proofs.YtakndgpdolfenaaGreat
end

/- The laws of race: ends. -/
section
namespace Go.Proofs.YtakndgpdolfenaaGreat
set_option maxHeartbeats 8000000
set_option maxRecDepth 10000

theorem few_parts {c : Control} {s : State} (h : few29 c s = true) : (fewC c = true ∧ fewS s = true) ∧ MetSm c s := by
  unfold few29 at h
  simp only [Bool.and_eq_true, Bool.or_eq_true, decide_eq_true_eq] at h
  refine ⟨h.1, fun hr => ?_⟩
  have h2 : freeN c c.signals.length ≤ 5 := by
    rcases h.2 with h3 | h3
    · exact h3.1
    · exact absurd hr h3
  have h3 := nodes_le (calm_of hr) (3 ^ freeN c c.signals.length)
  have h4 : 3 ^ freeN c c.signals.length ≤ 3 ^ 5 := Nat.pow_le_pow_right (by decide) h2
  show (nodesAt c (gatesP c s) _).length ≤ _
  omega
theorem gatesP_okst {c : Control} {s : State} (hs : OkSt s) (hr : rightC c s = 0) : OkSt (gatesP c s) := by
  have hcalm := calm_of hr
  obtain ⟨t1, t2, t3⟩ := calm_txt hcalm
  have hsg := hcalm.fine.sig
  exact ⟨hs.ends, hs.valves, hs.inputs, by show (gatesP c s).values.length ≤ _; omega, hs.timers, hs.endsI, hs.timersI⟩
theorem endsR_ok {c : Control} {s : State} (hs : OkSt s) (hm : MetSm c s) : (∀ x ∈ (endsR c s).1, OkSt x) ∧ (endsR c s).1.length ≤ 1000000 := by
  unfold endsR
  by_cases hr : rightC c s = 0
  · rw [if_neg (by simp [hr])]
    have hcalm := calm_of hr
    have hml := hm hr
    refine ⟨fun x hx => met_okst hcalm (gatesP_okst hs hr) (mem_endsS.1 hx).1, ?_⟩
    have h1 := (ends_perm c (gatesP c s)).length_eq
    have h2 := endsAt_len c (gatesP c s) (metL c (gatesP c s)).length
    rw [endsAt_all] at h2
    show (endsS c (gatesP c s)).length ≤ _
    omega
  · rw [if_pos hr]
    exact ⟨by simp, by simp⟩
theorem RaceEnds_fn (c : Control) (s : State) (hc : OkC c) (hs : OkSt s) : CallFn Tryz.prog 4 [aC c, aSt s] (aB true) := by
  have h1 := few29_fn c s hc hs
  cases hfew : few29 c s with
  | false =>
    rw [hfew] at h1
    refine callFz_of Tryz.func4 rfl Tryz.ntmps4 (rs := [.tmp 4]) rfl (by kernel_rfl) (by simp) (by kernel_rfl) ?_
    simp
    refine h1.s ?_
    simp
    refine awake29_fn.s ?_
    simp
  | true =>
    rw [hfew] at h1
    obtain ⟨⟨hfc, hfs⟩, hmet⟩ := few_parts hfew
    have hsm := few_sm hfs
    have hpm := few_c hfc
    have c1 := Ends_fn c s hc hsm hmet
    have c2 := EndsR29_fn c s hc hpm.1 hpm.2 hsm hmet
    have c3 := Critical_fn c s hc hsm hmet
    have c4 := CriticalR_fn c s hc hpm.1 hpm.2 hsm hmet
    have c5 := Endless_fn c s hc hsm hmet
    have c6 := EndlessR_fn c s hc hpm.1 hpm.2 hsm hmet
    have c7 := Safe_fn c s hc hsm hmet
    have c8 := SafeR29_fn c s hc hpm.1 hpm.2 hsm hmet
    obtain ⟨e1, e2⟩ := endsR_ok hs hmet
    have c9 := sameL29_fn _ _ e1 e1 e2 e2
    rw [show sameL (endsR c s).1 (endsR c s).1 = true by simp [sameL]] at c9
    generalize endsR c s = E at *
    generalize turnsR c s = T at *
    generalize safeR29 c s = F at *
    obtain ⟨E1, E2⟩ := E
    obtain ⟨T1, T2⟩ := T
    obtain ⟨F1, F2⟩ := F
    simp only at c1 c2 c3 c4 c5 c6 c7 c8 c9
    generalize decide (E1.length > 1) = D at *
    refine callFz_of Tryz.func4 rfl Tryz.ntmps4 (rs := [.tmp 4]) rfl (by kernel_rfl) (by simp) (by kernel_rfl) ?_
    simp
    refine h1.s ?_
    simp
    refine c1.s ?_
    simp
    refine c2.s ?_
    simp
    refine c3.s ?_
    simp
    refine c4.s ?_
    simp
    refine c9.s ?_
    simp
    refine c5.s ?_
    simp
    refine c6.s ?_
    simp
    refine c7.s ?_
    simp
    refine c8.s ?_
    simp
    refine GCall.fn (aB true) (fun h => ⟨by first | trivial | exact h, awake29_fn⟩) ?_
    simp
end Go.Proofs.YtakndgpdolfenaaGreat
end

/- The laws of race: ways, moves. -/
section
namespace Go.Proofs.YtakndgpdolfenaaGreat
set_option maxHeartbeats 8000000
set_option maxRecDepth 10000

theorem RaceWays_fn (c : Control) (s t : State) (hc : OkC c) (hs : OkSt s) (ht : OkSt t) : CallFn Tryz.prog 5 [aC c, aSt s, aSt t] (aB true) := by
  have h1 := few29_fn c s hc hs
  have h2 := FewStates_fn t ht
  cases hfew : few29 c s with
  | false =>
    rw [hfew] at h1
    refine callFz_of Tryz.func5 rfl Tryz.ntmps5 (rs := [.tmp 6]) rfl (by kernel_rfl) (by simp) (by kernel_rfl) ?_
    simp
    refine h1.s ?_
    simp
    refine GCall.fn (aB false) (fun h => h.elim) ?_
    simp
    refine awake29_fn.s ?_
    simp
  | true =>
    rw [hfew] at h1
    cases hft : fewS t with
    | false =>
      rw [hft] at h2
      refine callFz_of Tryz.func5 rfl Tryz.ntmps5 (rs := [.tmp 6]) rfl (by kernel_rfl) (by simp) (by kernel_rfl) ?_
      simp
      refine h1.s ?_
      simp
      refine GCall.fn (aB false) (fun _ => ⟨trivial, h2⟩) ?_
      simp
      refine awake29_fn.s ?_
      simp
    | true =>
      rw [hft] at h2
      obtain ⟨⟨hfc, hfs⟩, hmet⟩ := few_parts hfew
      have hsm := few_sm hfs
      have htm := few_sm hft
      have hpm := few_c hfc
      have c1 := Way_fn c s t hc hs hsm ht htm hmet
      have c2 := WayR_fn c s t hc hpm.1 hpm.2 hs hsm ht htm hmet
      have hwl : (wayR c s t).1.length ≤ 16385 := by
        unfold wayR
        split
        · simp
        · split
          · simp
          · rename_i hr _
            have hr0 : rightC c s = 0 := Classical.byContradiction hr
            have hml := hmet hr0
            cases hk : wayK c (gatesP c s) t with
            | none => simp [wayV]
            | some k =>
              have hkl : k < (metL c (gatesP c s)).length := by
                unfold wayK at hk
                exact (List.findIdx?_eq_some_iff_getElem.1 hk).1
              have : (wayL (metL c (gatesP c s)) k).length ≤ k + 1 := wayN_len _ _ _
              show (wayL (metL c (gatesP c s)) k).length ≤ _
              omega
      have c3 := eqI_fn (wayR c s t).1 (wayR c s t).1 (by show _ ≤ _; omega) (by show _ ≤ _; omega)
      rw [show decide ((wayR c s t).1 = (wayR c s t).1) = true by simp] at c3
      generalize wayR c s t = p at *
      obtain ⟨W, e⟩ := p
      simp only at c1 c2 c3
      refine callFz_of Tryz.func5 rfl Tryz.ntmps5 (rs := [.tmp 6]) rfl (by kernel_rfl) (by simp) (by kernel_rfl) ?_
      simp
      refine h1.s ?_
      simp
      refine GCall.fn (aB true) (fun _ => ⟨trivial, h2⟩) ?_
      simp
      refine c1.s ?_
      simp
      refine c2.s ?_
      simp
      refine c3.s ?_
      simp
      refine GCall.fn (aB true) (fun h => ⟨by first | trivial | exact h, awake29_fn⟩) ?_
      simp
end Go.Proofs.YtakndgpdolfenaaGreat
end

/- The laws of race: moves. -/
section
namespace Go.Proofs.YtakndgpdolfenaaGreat
set_option maxHeartbeats 8000000
set_option maxRecDepth 10000

theorem moveR_ok {c : Control} {s : State} (hs : OkSt s) (line : Int) : OkSt (moveR c s line).1 := by
  have h0 : OkSt noSt := ⟨by decide, by decide, by decide, by decide, by decide, by decide, by decide⟩
  unfold moveR
  by_cases hr : rightC c s = 0
  · rw [if_neg (by simp [hr])]
    split
    · exact h0
    · rename_i hl
      split
      · have hcalm := calm_of hr
        have hk : (line - firstC c).toNat < c.signals.length := by
          have : ¬ (line < firstC c ∨ line ≥ firstC c + c.signals.length) := hl
          omega
        have h1 := move_calm hcalm hk
        obtain ⟨t1, t2, t3⟩ := calm_txt h1
        have hsg := h1.fine.sig
        refine ⟨hs.ends, hs.valves, hs.inputs, ?_, ?_, hs.endsI, ?_⟩
        · show (moveS c (gatesP c s) (line - firstC c).toNat).values.length ≤ _
          omega
        · show (moveS c (gatesP c s) (line - firstC c).toNat).timers.length ≤ _
          omega
        · intro n hn
          have := t3 n hn
          show _ ∧ _
          omega
      · exact h0
  · rw [if_pos hr]
    exact h0
theorem RaceMoves_fn (c : Control) (s : State) (k : Int) (hc : OkC c) (hs : OkSt s) (hk : I64 k) : CallFn Tryz.prog 7 [aC c, aSt s, aI k] (aB true) := by
  have h1 := Few28_fn c s hc hs
  cases hfew : (fewC c && fewS s) with
  | false =>
    rw [hfew] at h1
    refine callFz_of Tryz.func7 rfl Tryz.ntmps7 (rs := [.tmp 6]) rfl (by kernel_rfl) (by simp) (by kernel_rfl) ?_
    simp
    refine h1.s ?_
    simp
    refine awake29_fn.s ?_
    simp
  | true =>
    rw [hfew] at h1
    rw [Bool.and_eq_true] at hfew
    have hsm := few_sm hfew.2
    have hpm := few_c hfew.1
    have hk2 : -9223372036854775808 ≤ k ∧ k < 9223372036854775808 := by
      have := hk
      omega
    have c1 := Wants29_fn c s hc hsm
    have c2 := WantsR_fn c s hc hpm.1 hpm.2 hsm
    have c3 := Move_fn c s k hc hsm hk2
    have c4 := MoveR_fn c s k hc hpm.1 hpm.2 hsm hk2
    have hwl : (wantsR29 c s).1.length ≤ 64 := by
      unfold wantsR29
      by_cases hr : rightC c s = 0
      · rw [if_neg (by simp [hr])]
        have hsg := (calm_of hr).fine.sig
        show (lineL c (gatesP c s)).length ≤ _
        unfold lineL wantsL
        rw [List.length_map]
        have := List.length_filter_le (wantAt c (gatesP c s)) (List.range c.signals.length)
        rw [List.length_range] at this
        omega
      · rw [if_pos hr]
        simp
    have c5 := eqI_fn (wantsR29 c s).1 (wantsR29 c s).1 (by show _ ≤ _; omega) (by show _ ≤ _; omega)
    rw [show decide ((wantsR29 c s).1 = (wantsR29 c s).1) = true by simp] at c5
    have hmo := moveR_ok (c := c) hs k
    have c6 := SameStatesR_fn _ _ hmo hmo
    rw [sameSt_eq] at c6
    rw [show decide ((moveR c s k).1 = (moveR c s k).1) = true by simp] at c6
    generalize wantsR29 c s = p at *
    generalize moveR c s k = q at *
    obtain ⟨p1, p2⟩ := p
    obtain ⟨q1, q2⟩ := q
    simp only at c1 c2 c3 c4 c5 c6
    refine callFz_of Tryz.func7 rfl Tryz.ntmps7 (rs := [.tmp 6]) rfl (by kernel_rfl) (by simp) (by kernel_rfl) ?_
    simp
    refine h1.s ?_
    simp
    refine c1.s ?_
    simp
    refine c2.s ?_
    simp
    refine c3.s ?_
    simp
    intro b11
    refine c4.s ?_
    simp
    intro b13
    refine c5.s ?_
    simp
    refine GCall.fn (aB true) (fun h => ⟨by first | trivial | exact h, c6⟩) ?_
    simp
    refine GCall.fn (aB true) (fun h => ⟨by first | trivial | exact h, awake29_fn⟩) ?_
    simp
end Go.Proofs.YtakndgpdolfenaaGreat
end

/- The laws of race: steps. -/
section
namespace Go.Proofs.YtakndgpdolfenaaGreat
set_option maxHeartbeats 8000000
set_option maxRecDepth 10000

theorem few_free {c : Control} {s : State} (h : few29 c s = true) (hr : rightC c s = 0) : freeN c c.signals.length ≤ 5 := by
  unfold few29 at h
  simp only [Bool.and_eq_true, Bool.or_eq_true, decide_eq_true_eq] at h
  rcases h.2 with h3 | h3
  · exact h3.1
  · exact absurd hr h3
theorem met_243 {c : Control} {s : State} (h : freeN c c.signals.length ≤ 5) (hs : Calm c s) : (metL c s).length ≤ 243 := by
  have h3 := nodes_le hs (3 ^ freeN c c.signals.length)
  have h4 : 3 ^ freeN c c.signals.length ≤ 3 ^ 5 := Nat.pow_le_pow_right (by decide) h
  show (nodesAt c s _).length ≤ _
  omega
theorem met_free {c : Control} (h : freeN c c.signals.length ≤ 5) (s : State) : MetSm c s := fun hr => by
  have := met_243 h (calm_of hr)
  omega
theorem calm_sm {c : Control} {s : State} (h : Calm c s) : SmS s := sm_of h.fine h.shape
theorem rightL29_fn (c : Control) (s : State) (hc : OkC c) (hs : OkSt s) : CallFn Tryz.prog 42 [aC c, aSt s] (aB (few29 c s && decide (rightC c s = 0))) := by
  have h1 := few29_fn c s hc hs
  cases hfew : few29 c s with
  | false =>
    rw [hfew] at h1
    refine callFz_of Tryz.func42 rfl Tryz.ntmps42 (rs := [.tmp 4]) rfl (by kernel_rfl) (by simp) (by kernel_rfl) ?_
    simp
    refine h1.s ?_
    simp
    refine GCall.fn (aI 0) (fun h => h.elim) ?_
    simp
  | true =>
    rw [hfew] at h1
    obtain ⟨⟨hfc, hfs⟩, hmet⟩ := few_parts hfew
    have hsm := few_sm hfs
    have hpm := few_c hfc
    have h2 := RightR_fn c s hc hpm.1 hpm.2 hsm
    generalize rightC c s = e at *
    refine callFz_of Tryz.func42 rfl Tryz.ntmps42 (rs := [.tmp 4]) rfl (by kernel_rfl) (by simp) (by kernel_rfl) ?_
    simp
    refine h1.s ?_
    simp
    refine GCall.fn (aI e) (fun h => ⟨by first | trivial | exact h, h2⟩) ?_
    simp
    exact Bool.beq_eq_decide_eq e 0
/-- What the inner loop of the law of steps asks of each signal. -/
theorem move_ask {c : Control} {s : State} (hr : rightC c s = 0) {i : Nat} (hw : i ∈ wantsL c (gatesP c s)) {k : Nat} {y : Signal} (hy : c.signals[k]? = some y) : ∃ xv sv xt st,
    (moveS c (gatesP c s) i).values[k]? = some xv ∧ s.values[k]? = some sv ∧ (moveS c (gatesP c s) i).timers[k]? = some xt ∧ s.timers[k]? = some st ∧ (y.kind ≠ 0 → ((xv ≠ sv ∨ xt ≠ st) ↔ k = i)) := by
  have hcalm := calm_of hr
  have hi := (mem_wants.1 hw).1
  have hx := move_calm hcalm hi
  have hk := (List.getElem?_eq_some_iff.1 hy).1
  obtain ⟨_, xv, xt, _, e1, e2⟩ := sig_have hx.shape hk
  obtain ⟨_, sv, st, _, e3, e4⟩ := sig_have (right_zero hr).2.1 hk
  refine ⟨xv, sv, xt, st, e1, e3, e2, e4, fun hk0 => ?_⟩
  have h1 := move_one hcalm hw hy hk0
  have h2 : (gatesP c s).values[k]? = some sv := by rw [gates_keep (by rw [kindAt_at hy]; exact hk0), e3]
  have h3 : (gatesP c s).timers[k]? = some st := e4
  simpa only [List.getD_eq_getElem?_getD, e1, e2, h2, h3, Option.getD_some] using h1
theorem RaceSteps_fn (c : Control) (s : State) (hc : OkC c) (hs : OkSt s) : CallFn Tryz.prog 8 [aC c, aSt s] (aB true) := by
  have h1 := rightL29_fn c s hc hs
  by_cases hz : few29 c s = true ∧ rightC c s = 0
  · obtain ⟨hfew, hr⟩ := hz
    rw [show (few29 c s && decide (rightC c s = 0)) = true by simp [hfew, hr]] at h1
    obtain ⟨⟨hfc, hfs⟩, hmet⟩ := few_parts hfew
    have hfree := few_free hfew hr
    have hsm := few_sm hfs
    have hpm := few_c hfc
    have hcalm := calm_of hr
    have hoG := gatesP_okst hs hr
    have c1 := Wants29_fn c s hc hsm
    have c2 := Safe_fn c s hc hsm hmet
    have c3 := Ends_fn c s hc hsm hmet
    have c4 := signals_fn c hcalm.fine.sm
    rw [show wantsR29 c s = (lineL c (gatesP c s), 0) by unfold wantsR29; rw [if_neg (by simp [hr])]] at c1
    rw [show safeR29 c s = (safeP c (gatesP c s), 0) by unfold safeR29; rw [if_neg (by simp [hr])]] at c2
    rw [show endsR c s = (endsS c (gatesP c s), 0) by unfold endsR; rw [if_neg (by simp [hr])]] at c3
    have hsafe : safeP c (gatesP c s) = true → (endsS c (gatesP c s)).length = 1 := by
      intro h
      simp only [safeP, Bool.and_eq_true, decide_eq_true_eq] at h
      exact h.1
    have step : ∀ i, i < c.signals.length → (wantAt c (gatesP c s) i = false ∧ moveR c s (firstC c + i) = (noSt, 14) ∧ firstC c + (i : Int) ∉ lineL c (gatesP c s)) ∨
        (∃ x, i ∈ wantsL c (gatesP c s) ∧ x = moveS c (gatesP c s) i ∧ moveR c s (firstC c + i) = (x, 0) ∧ firstC c + (i : Int) ∈ lineL c (gatesP c s) ∧ Calm c x ∧ OkSt x ∧
          (safeP c (gatesP c s) = true → safeP c x = true ∧ endsS c x = endsS c (gatesP c s)) ∧ (endsS c x).length ≤ (endsS c (gatesP c s)).length) := by
      intro i hi
      have hm : moveR c s (firstC c + i) = if wantAt c (gatesP c s) i = true then (moveS c (gatesP c s) i, 0) else (noSt, 14) := by
        unfold moveR
        rw [if_neg (by simp [hr]), if_neg (by omega), show (firstC c + (i : Int) - firstC c).toNat = i by omega]
      have hmem : firstC c + (i : Int) ∈ lineL c (gatesP c s) ↔ i ∈ wantsL c (gatesP c s) := by
        unfold lineL
        rw [List.mem_map]
        constructor
        · rintro ⟨j, hj, e⟩
          rw [show i = j by omega]
          exact hj
        · intro h
          exact ⟨i, h, rfl⟩
      cases hw : wantAt c (gatesP c s) i
      · refine .inl ⟨rfl, by rw [hm, hw]; rfl, ?_⟩
        rw [hmem, mem_wants, hw]
        simp
      · have hin : i ∈ wantsL c (gatesP c s) := mem_wants.2 ⟨hi, hw⟩
        have hx := move_calm hcalm hi
        have hmet2 := met_move hcalm (met_self hcalm) hin
        refine .inr ⟨_, hin, rfl, by rw [hm, hw]; rfl, hmem.2 hin, hx, met_okst hcalm hoG hmet2, fun h => safe_met hcalm h hmet2, ends_fewer hcalm hmet2⟩
    have hWl : (lineL c (gatesP c s)).length ≤ 64 := by
      have hsg := hcalm.fine.sig
      unfold lineL wantsL
      rw [List.length_map]
      have := List.length_filter_le (wantAt c (gatesP c s)) (List.range c.signals.length)
      rw [List.length_range] at this
      omega
    have hEok : ∀ x ∈ endsS c (gatesP c s), OkSt x := fun x hx => met_okst hcalm hoG (mem_endsS.1 hx).1
    have hElen : (endsS c (gatesP c s)).length ≤ 1000000 := by
      have h1 := (ends_perm c (gatesP c s)).length_eq
      have h2 := endsAt_len c (gatesP c s) (metL c (gatesP c s)).length
      rw [endsAt_all] at h2
      have := met_243 hfree hcalm
      omega
    have hask := fun (i k : Nat) (y : Signal) => move_ask (c := c) (s := s) hr (i := i) (k := k) (y := y)
    have hfc0 : 0 ≤ firstC c ∧ firstC c ≤ 100 := by
      have := hcalm.fine.act
      have := hcalm.fine.inp
      unfold firstC
      omega
    have hsl := hcalm.fine.sig
    generalize hGe : gatesP c s = G at *
    generalize lineL c G = W at *
    generalize hEe : endsS c G = E at *
    generalize hSe : safeP c G = S at *
    refine callFz_of Tryz.func8 rfl Tryz.ntmps8 (rs := [.tmp 4]) rfl (by kernel_rfl) (by simp) (by kernel_rfl) ?_
    simp
    refine h1.s ?_
    simp
    refine c1.s ?_
    simp
    refine c2.s ?_
    simp
    refine c3.s ?_
    simp
    refine ⟨fun h => by have := hsafe h; omega, fun _ => c4.s ?_⟩
    simp
    refine V.forI (σ := Unit) c.signals.length [2, 3, 5, 7, 9, 11, 61] (by simp; exact rfl) (fun i _ => [(4, .dat (.bool false)), (62, aI i)]) (fun _ _ => []) (fun _ _ => True) () trivial (by simp) ⟨by simp; exact rfl, by simp⟩ ?_ ?_
    · rintro i - hi -
      have m1 := Move_fn c s (firstC c + i) hc hsm (by omega)
      have m2 := containsI_fn W (firstC c + i) (by unfold Sh; omega)
      simp [hi]
      refine ⟨by omega, ?_⟩
      rcases step i hi with ⟨s1, s2, s3⟩ | ⟨x, s1, s2, s3, s4, s5, s6, s7, s8⟩
      · rw [s2] at m1
        rw [decide_eq_false s3] at m2
        refine m1.s ?_
        simp
        intro b13
        refine ⟨by omega, ?_⟩
        refine m2.s ?_
        simp
        omega
      · rw [s3] at m1
        rw [decide_eq_true s4] at m2
        have hxsm := calm_sm s5
        have n1 := RightR_fn c x hc hpm.1 hpm.2 hxsm
        have n2 := Safe_fn c x hc hxsm (met_free hfree x)
        have n3 := Ends_fn c x hc hxsm (met_free hfree x)
        rw [s5.right] at n1
        rw [show safeR29 c x = (safeP c x, 0) by unfold safeR29; rw [if_neg (by simp [s5.right]), s5.gates]] at n2
        rw [show endsR c x = (endsS c x, 0) by unfold endsR; rw [if_neg (by simp [s5.right]), s5.gates]] at n3
        have ask : ∀ k y, c.signals[k]? = some y → _ := fun k y hy => hask i k y s1 hy
        rw [← s2] at ask
        generalize safeP c x = Sx at *
        generalize endsS c x = Ex at *
        have n4 : S = true → CallFn Tryz.prog 27 [.dat (.sl (Ex.map encSt)), .dat (.sl (E.map encSt))] (aB true) := by
          intro h
          have n4 := sameL29_fn E E hEok hEok hElen hElen
          rw [show sameL E E = true by simp [sameL]] at n4
          rw [(s7 h).2]
          exact n4
        refine m1.s ?_
        simp
        intro b13
        refine ⟨by omega, ?_⟩
        refine m2.s ?_
        simp
        refine n1.s ?_
        simp
        refine V.forI (σ := Unit) c.signals.length [2, 3, 5, 7, 9, 11, 12, 13, 14, 61, 62, 63, 64, 65, 66, 67, 68, 69, 70, 71, 72, 73, 74, 75, 76, 77, 78, 79, 80, 81, 82, 83, 84, 85, 86, 87, 88, 89, 90] (by simp; exact rfl) (fun k _ => [(4, .dat (.bool false)), (91, aI k)]) (fun _ _ => [(13, .box b13 ((encSt x).map A.dat))]) (fun _ _ => True) () trivial (by simp) ⟨by simp; exact rfl, by simp⟩ ?_ ?_
        · rintro k - hk -
          obtain ⟨y, hy⟩ : ∃ y, c.signals[k]? = some y := ⟨_, List.getElem?_eq_getElem hk⟩
          obtain ⟨xv, sv, xt, st, a1, a2, a3, a4, a5⟩ := ask k y hy
          have hyk : c.signals[k] = y := by rw [List.getElem?_eq_getElem hk] at hy; exact Option.some.inj hy
          obtain ⟨b1, b1'⟩ := List.getElem?_eq_some_iff.1 a1
          obtain ⟨b2, b2'⟩ := List.getElem?_eq_some_iff.1 a2
          obtain ⟨b3, b3'⟩ := List.getElem?_eq_some_iff.1 a3
          obtain ⟨b4, b4'⟩ := List.getElem?_eq_some_iff.1 a4
          simp [hk, hy, hyk]
          intro b16
          refine V.drawX (fun _ => none) (by kernel_rfl) (by kernel_rfl) (by simp) ?_
          simp [b1, b1', b2, b2', b3, b3', b4, b4']
          refine ⟨fun h => ⟨h, fun h2 => ⟨h, h2⟩⟩, fun h => ?_, fun _ => by omega⟩
          have h5 := a5 h
          rw [Bool.eq_iff_iff, Bool.or_eq_true, bne_iff_ne, bne_iff_ne, h5, beq_iff_eq]
          omega
        · rintro - -
          simp
          refine n2.s ?_
          simp
          refine n3.s ?_
          simp
          refine GCall.fn (aB true) (fun h => ⟨by first | trivial | exact h, n4 (by first | exact h.1 | exact h)⟩) ?_
          simp
          exact ⟨fun h => ⟨h, fun h2 => ⟨h, h2⟩⟩, ⟨fun h => (s7 h).1, s8⟩, fun _ _ => by omega⟩
    · rintro - -
      simp
      exact awake29_fn.s (by simp)
  · rw [show (few29 c s && decide (rightC c s = 0)) = false by simp only [Bool.and_eq_false_iff, decide_eq_false_iff_not]; exact Classical.or_iff_not_imp_left.2 fun h => fun h2 => hz ⟨by simpa using h, h2⟩] at h1
    refine callFz_of Tryz.func8 rfl Tryz.ntmps8 (rs := [.tmp 4]) rfl (by kernel_rfl) (by simp) (by kernel_rfl) ?_
    simp
    refine h1.s ?_
    simp
    refine awake29_fn.s ?_
    simp
end Go.Proofs.YtakndgpdolfenaaGreat
end
