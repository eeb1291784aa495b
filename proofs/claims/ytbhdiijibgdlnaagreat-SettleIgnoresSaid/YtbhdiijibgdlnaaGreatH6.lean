/- Texts joined by a program: Vb, Ve, Vf. -/
import Derived.Test.YtbhdiijibgdlnaaGreatH5
set_option linter.unusedSimpArgs false
set_option linter.unusedVariables false

/- Plain: what is at rest; a course of rounds. -/
section
namespace Go.Proofs.YtbhdiijibgdlnaaGreat
set_option maxHeartbeats 1000000

theorem courseP_zero {c : Control} {n : Int} {s : State} {acc : List Int} : courseP c 0 n s acc = none := rfl
theorem once_right {c : Control} {s : State} (h : rightC c s = 0) : rightC c (onceS c s) = 0 := by
  obtain ⟨z1, z2, z3⟩ := right_zero h
  have hf := fine_of z1
  have hsh := once_shape z2
  unfold fitsSt at z3
  rw [if_neg (by simpa using z2)] at z3
  split at z3
  · cases z3
  · rename_i hout
    have hz := firstErr_zero z3
    simp only [Bool.or_eq_true, not_or, Bool.not_eq_true] at hout
    obtain ⟨hlv, hlt⟩ : s.values.length = c.signals.length ∧ s.timers.length = c.signals.length := ⟨z2.2.2.2.1, z2.2.2.2.2⟩
    have hstep : ∀ i, i < c.signals.length → ∃ x v t, c.signals[i]? = some x ∧ s.values[i]? = some v ∧ s.timers[i]? = some t ∧ (newV c s)[i]? = some (stepV x.kind v t (evalE x.on (valuesOf s)) (x.kind == 1 && evalE x.off (valuesOf s))).1 ∧ (newT c s)[i]? = some (stepV x.kind v t (evalE x.on (valuesOf s)) (x.kind == 1 && evalE x.off (valuesOf s))).2.1 := by
      intro i hi
      have hx : c.signals[i]? = some c.signals[i] := List.getElem?_eq_getElem (by omega)
      have hv : s.values[i]? = some s.values[i] := List.getElem?_eq_getElem (by omega)
      have ht : s.timers[i]? = some s.timers[i] := List.getElem?_eq_getElem (by omega)
      refine ⟨_, _, _, hx, hv, ht, ?_, ?_⟩
      · rw [newV_at hi, sigStep_at hx hv ht]
      · rw [newT_at hi, sigStep_at hx hv ht]
    have hout2 : (onceS c s).timers.any (outR 3) = false := by
      rw [List.any_eq_false]
      intro t' ht'
      obtain ⟨i, hi, e⟩ := List.getElem_of_mem ht'
      have hi2 : i < c.signals.length := by rw [show (onceS c s).timers = newT c s from rfl, newT_len] at hi; exact hi
      obtain ⟨x, v, t, hx, hv, ht, h1, h2⟩ := hstep i hi2
      have h3 : (onceS c s).timers[i]? = some t' := by rw [List.getElem?_eq_getElem hi, e]
      rw [show (onceS c s).timers = newT c s from rfl, h2] at h3
      have h4 := List.any_eq_false.1 hout.2 t (List.mem_of_getElem? ht)
      cases h3
      simp only [outR] at h4 ⊢
      unfold stepV
      split
      · exact h4
      · split
        · split
          · decide
          · simp only
            split
            · decide
            · exact h4
        · exact h4
    have e : fitsSt c (onceS c s) = firstErr (tsE c (onceS c s)) (List.range c.signals.length) := by
      unfold fitsSt
      rw [if_neg (by simpa using hsh), if_neg]
      · rw [show (onceS c s).timers = newT c s from rfl, newT_len]
      · rw [hout2]
        have : (onceS c s).ends.any (outR 4) = false := hout.1
        rw [this]
        simp
    have hn : NoE (tsE c (onceS c s)) c.signals.length := by
      intro i hi
      have h0 := hz i (by omega)
      obtain ⟨x, v, t, hx, hv, ht, h1, h2⟩ := hstep i hi
      unfold tsE at h0 ⊢
      rw [hx, hv, ht] at h0
      rw [hx, show (onceS c s).values = newV c s from rfl, show (onceS c s).timers = newT c s from rfl, h1, h2]
      simp only at h0 ⊢
      unfold tstE at h0 ⊢
      by_cases hk : x.kind = 2
      · simp only [hk, ne_eq, not_true_eq_false, false_and, true_and, false_or] at h0 ⊢
        have h0' : v = (t == 2) := by
          by_cases hv2 : v = (t == 2)
          · exact hv2
          · rw [if_pos hv2] at h0
            exact absurd h0 (by decide)
        refine if_neg ?_
        rw [Classical.not_not]
        unfold stepV
        rw [if_neg (by decide), if_pos rfl]
        by_cases ho : evalE x.on (valuesOf s) = false
        · rw [if_pos ho]; rfl
        · rw [if_neg ho]
          simp only
          by_cases ht0 : t = 0
          · rw [if_pos ht0, h0', ht0]; rfl
          · rw [if_neg ht0, h0']
      · simp only [hk, ne_eq, not_false_eq_true, true_and, false_and, or_false] at h0 ⊢
        refine if_neg ?_
        rw [Classical.not_not]
        have ht0 : t = 0 := by
          by_cases ht0 : t = 0
          · exact ht0
          · rw [if_pos ht0] at h0
            exact absurd h0 (by decide)
        unfold stepV
        split
        · exact ht0
        · exact ht0
    rw [rightC, if_neg (by simpa using z1), e]
    exact firstErr_all hn
theorem round_right {c : Control} {s : State} (h : rightC c s = 0) : rightC c (roundS c s) = 0 := once_right (gates_right h)

/-- After n rounds. -/
def afterN (c : Control) (s : State) : Nat → State
  | 0 => s
  | n + 1 => afterN c (roundS c s) n
theorem after_snoc (c : Control) : ∀ (n : Nat) (s : State), afterN c s (n + 1) = roundS c (afterN c s n)
  | 0, _ => rfl
  | n + 1, s => after_snoc c n (roundS c s)
theorem after_right {c : Control} {s : State} (h : rightC c s = 0) : ∀ n, rightC c (afterN c s n) = 0
  | 0 => h
  | n + 1 => by rw [after_snoc]; exact round_right (after_right h n)
theorem after_keep (c : Control) (s : State) (n : Nat) : (afterN c s n).ends = s.ends ∧ (afterN c s n).valves = s.valves ∧ (afterN c s n).inputs = s.inputs := by
  induction n with
  | zero => exact ⟨rfl, rfl, rfl⟩
  | succ n ih => rw [after_snoc]; exact ih
/-- What a course of rounds is. -/
theorem course_spec {c : Control} : ∀ (k : Nat) (n : Int) (s : State) (acc : List Int) {x : State} {bad : List Int} {m : Int}, courseP c k n s acc = some (x, bad, m) →
    ∃ j : Nat, j < k ∧ m = n + j ∧ x = afterN c s j ∧ roundS c x = x ∧ (∀ i, i < j → afterN c s (i + 1) ≠ afterN c s i) ∧ (∀ z ∈ acc, z ∈ bad) ∧ (∀ z, z ∈ roundB c x → z ∈ bad)
  | 0, _, _, _, _, _, _, h => by cases h
  | k + 1, n, s, acc, x, bad, m, h => by
    rw [courseP_step] at h
    split at h
    · rename_i hr
      cases h
      exact ⟨0, by omega, by simp, rfl, hr, fun i hi => absurd hi (Nat.not_lt_zero _), fun z hz => by simp [hz], fun z hz => by simp [hz]⟩
    · rename_i hr
      obtain ⟨j, h1, h2, h3, h4, h5, h6, h7⟩ := course_spec k _ _ _ h
      refine ⟨j + 1, by omega, by omega, h3, h4, ?_, fun z hz => h6 z (by simp [hz]), h7⟩
      intro i hi
      cases i with
      | zero => exact hr
      | succ i => exact h5 i (by omega)
theorem course_rest {c : Control} {k : Nat} {n : Int} {x : State} {acc : List Int} (h : roundS c x = x) : courseP c (k + 1) n x acc = some (x, acc ++ roundB c x, n) := by rw [courseP_step, if_pos h]
/-- A course that ends, if a state is at rest somewhere. -/
theorem course_some {c : Control} : ∀ (j k : Nat) (n : Int) (s : State) (acc : List Int), j < k → roundS c (afterN c s j) = afterN c s j → ∃ r, courseP c k n s acc = some r
  | _, 0, _, _, _, h, _ => absurd h (Nat.not_lt_zero _)
  | j, k + 1, n, s, acc, h, hr => by
    rw [courseP_step]
    split
    · exact ⟨_, rfl⟩
    · rename_i hne
      cases j with
      | zero => exact absurd hr hne
      | succ j => exact course_some j k _ _ _ (by omega) hr

theorem gates_at {c : Control} {s : State} (hsh : shapeS c s) (hr : roundS c s = s) : gatesP c s = s := by
  have hg := gates_shape hsh
  have e : (gatesP c s).values = s.values := by
    apply List.ext_getElem?
    intro i
    rcases Nat.lt_or_ge i c.signals.length with hi | hi
    · have hx : c.signals[i]? = some c.signals[i] := List.getElem?_eq_getElem hi
      by_cases hk : c.signals[i].kind = 0
      · have hl1 := hg.2.2.2.1
        have hl2 := hg.2.2.2.2
        have hv : (gatesP c s).values[i]? = some (gatesP c s).values[i] := List.getElem?_eq_getElem (by omega)
        have ht : (gatesP c s).timers[i]? = some (gatesP c s).timers[i] := List.getElem?_eq_getElem (by omega)
        have h1 : s.values[i]? = (newV c (gatesP c s))[i]? := by
          conv => lhs; rw [← hr]
          rfl
        rw [h1, newV_at hi, sigStep_at hx hv ht, hv, hk]
        rfl
      · exact gates_keep (by simpa [kindAt, hx] using hk)
    · rw [List.getElem?_eq_none (by rw [hg.2.2.2.1]; exact hi), List.getElem?_eq_none (by rw [hsh.2.2.2.1]; exact hi)]
  show { s with values := gvals c s c.signals.length } = s
  have e2 : gvals c s c.signals.length = s.values := e
  rw [e2]
/-- At rest each signal obeys. -/
theorem rest_step {c : Control} {s : State} (hsh : shapeS c s) (hr : roundS c s = s) {i : Nat} {x : Signal} {v : Bool} {t : Int} (hx : c.signals[i]? = some x) (hv : s.values[i]? = some v) (ht : s.timers[i]? = some t) :
    (stepV x.kind v t (evalE x.on (valuesOf s)) (x.kind == 1 && evalE x.off (valuesOf s))).1 = v ∧ (stepV x.kind v t (evalE x.on (valuesOf s)) (x.kind == 1 && evalE x.off (valuesOf s))).2.1 = t ∧ (x.kind = 0 → Fine c → v = evalE x.on (valuesOf s)) ∧ ((stepV x.kind v t (evalE x.on (valuesOf s)) (x.kind == 1 && evalE x.off (valuesOf s))).2.2 = true → firstC c + i ∈ roundB c s) := by
  obtain ⟨hi, _⟩ := List.getElem?_eq_some_iff.1 hx
  have hg := gates_at hsh hr
  have e : onceS c s = s := by
    have h1 := hr
    unfold roundS at h1
    rwa [hg] at h1
  refine ⟨?_, ?_, ?_, ?_⟩
  · have h1 : (newV c s)[i]? = s.values[i]? := by
      conv => rhs; rw [← e]
      rfl
    rw [newV_at hi, sigStep_at hx hv ht, hv] at h1
    exact Option.some.inj h1
  · have h1 : (newT c s)[i]? = s.timers[i]? := by
      conv => rhs; rw [← e]
      rfl
    rw [newT_at hi, sigStep_at hx hv ht, ht] at h1
    exact Option.some.inj h1
  · intro hk hf
    have h1 := gates_gate hf hsh hx hk
    rw [hg, hv] at h1
    exact Option.some.inj h1
  · intro hb
    unfold roundB onceB
    rw [hg]
    simp only [List.mem_map, List.mem_filter, List.mem_range]
    exact ⟨i, ⟨hi, by rw [sigStep_at hx hv ht]; exact hb⟩, rfl⟩

end Go.Proofs.YtbhdiijibgdlnaaGreat
end

/- Law of chapter 28: what is at rest obeys. -/
section
namespace Go.Proofs.YtbhdiijibgdlnaaGreat
set_option maxHeartbeats 4000000
set_option maxRecDepth 10000

theorem idxI_fn (xs : List Int) (v : Int) (hx : Sh xs) : CallFn Tryz.prog 83 [aIs xs, aI v] (aI (idxI (xs.findIdx? (v == ·)))) := by
  refine callFz_of Tryz.func83 rfl Tryz.ntmps83 (rs := [.tmp 4]) rfl (by kernel_rfl) (by simp) (by kernel_rfl) ?_
  simp
  refine V.forI (σ := Unit) xs.length [0, 1, 7] (by simp; exact rfl) (fun i _ => [(8, aI i)]) (fun _ _ => []) (fun i _ => NoF (v == ·) (xs.take i)) () (by simp) (by simp) ⟨by simp; exact rfl, by simp⟩ ?_ ?_
  · rintro i - hi hI
    have h1 := List.getElem?_eq_getElem hi
    have hs := findIdx_step (p := (v == ·)) hI h1
    simp [hi, h1]
    cases e : (v == xs[i])
    · simp at e
      simp [e]
      exact ⟨by omega, hs.1 (by simp [e])⟩
    · have e2 := hs.2 e
      simp at e
      rw [e2]
      simp [e]
  · rintro - hI
    rw [findIdx_none hI]
    simp
theorem containsI_fn (xs : List Int) (v : Int) (hx : Sh xs) : CallFn Tryz.prog 37 [aIs xs, aI v] (aB (decide (v ∈ xs))) := by
  refine callFz_of Tryz.func37 rfl Tryz.ntmps37 (rs := [.tmp 4]) rfl (by kernel_rfl) (by simp) (by kernel_rfl) ?_
  simp
  refine (idxI_fn xs v hx).s ?_
  simp
  rw [← decide_eq_true_iff (p := 0 ≤ _), idxI_ge, List.findIdx?_isSome]
  simp

theorem settle_none {c : Control} {s : State} (h : rightC c s = 0) (hR : courseP c 65 0 s [] = none) : settleR c s = (noSt, [], 21) := by
  unfold settleR courseR
  rw [if_neg (by simp [h]), hR]
theorem settle_some {c : Control} {s x : State} {bad : List Int} {m : Int} (h : rightC c s = 0) (hR : courseP c 65 0 s [] = some (x, bad, m)) : settleR c s = (x, compI (sortI bad), 0) := by
  unfold settleR courseR
  rw [if_neg (by simp [h]), hR]
theorem comp_mem {l : List Int} {z : Int} : z ∈ compI (sortI l) ↔ z ∈ l := by
  rw [(comp_sorted (sortI_sorted l)).2]
  simp [sortI, List.mem_mergeSort]
theorem comp_len {c : Control} (hf : Fine c) {s x : State} {bad : List Int} {m : Int} (hR : courseP c 65 0 s [] = some (x, bad, m)) : (compI (sortI bad)).length ≤ 1000 := by
  have h3 := metB_len (countC c).toNat (fun k : Nat => decide ((k : Int) ∈ bad))
  rw [← course_met hf hR] at h3
  have hcn : countC c = 2 * c.actuators + c.inputs.length + c.signals.length := rfl
  have := hf.act
  have := hf.inp
  have := hf.sig
  omega

theorem lawObeys_fn (c : Control) (s : State) (hc : OkC c) (hs : OkSt s) : CallFn Tryz.prog 11 [aC c, aSt s] (aB true) := by
  refine callFz_of Tryz.func11 rfl Tryz.ntmps11 (rs := [.tmp 4]) rfl (by kernel_rfl) (by simp) (by kernel_rfl) ?_
  simp
  refine (right28_fn c s hc hs).s ?_
  simp
  refine ⟨fun h => awake28_fn.s (by simp), fun h => ?_⟩
  simp only [rightB, Bool.and_eq_true, beq_iff_eq] at h
  obtain ⟨⟨h1, h2⟩, h3⟩ := h
  have hsm := few_sm h2
  have hpm := few_c h1
  obtain ⟨z1, z2, z3⟩ := right_zero h3
  have hf := fine_of z1
  have c1 := Settle_fn c s hc hsm
  obtain ⟨R, hR⟩ : ∃ R, courseP c 65 0 s [] = R := ⟨_, rfl⟩
  cases R with
  | none =>
    rw [settle_none h3 hR] at c1
    refine c1.s ?_
    simp
    intro b5
    refine GCall.fn (aB true) (fun h => ⟨by first | trivial | exact h, awake28_fn⟩) ?_
    simp
  | some p =>
    obtain ⟨x, bad, m⟩ := p
    rw [settle_some h3 hR] at c1
    obtain ⟨j, g1, g2, g3, g4, g5, g6, g7⟩ := course_spec 65 0 s [] hR
    have hxr : rightC c x = 0 := by rw [g3]; exact after_right h3 j
    have hxs := (right_zero hxr).2.1
    have hxm : SmS x := sm_of hf hxs
    have c2 := RightR_fn c x hc hpm.1 hpm.2 hxm
    rw [hxr] at c2
    have c3 : ∀ y : Expr, OkE y → checkE y (countC c) = 0 → CallFn Tryz.prog 48 [aC c, aSt x, aE y] (.tuple [aB (evalE y (valuesOf x)), aI 0]) := by
      intro y hy he
      have := EvalC_fn c x y hc hxm hy
      rw [show evalP c x y = (evalE y (valuesOf x), 0) by simp [evalP, hxr, he]] at this
      exact this
    have hbl := comp_len hf hR
    have hbad : ∀ z, z ∈ roundB c x → z ∈ compI (sortI bad) := fun z hz => comp_mem.2 (g7 z hz)
    have hobey : ∀ (i : Nat) (y : Signal) (v : Bool) (t : Int), c.signals[i]? = some y → x.values[i]? = some v → x.timers[i]? = some t → _ := fun i y v t hy hv ht => rest_step hxs g4 hy hv ht
    have l4 := hxs.2.2.2.1
    have l5 := hxs.2.2.2.2
    have hon : ∀ (i : Nat) (y : Signal), c.signals[i]? = some y → checkE y.on (countC c) = 0 ∧ 0 ≤ y.kind ∧ y.kind ≤ 2 := fun i y hy => hf.on hy
    have hoff : ∀ (i : Nat) (y : Signal), c.signals[i]? = some y → y.kind = 1 → checkE y.off (countC c) = 0 := fun i y hy hk => off_ok hf hy hk
    have hsig := signals_fn c hf.sm
    have hfc : 0 ≤ firstC c ∧ firstC c ≤ 100 := by have := hf.act; have := hf.inp; unfold firstC; omega
    generalize compI (sortI bad) = B at *
    have c4 : ∀ n : Int, CallFn Tryz.prog 37 [aIs B, aI n] (aB (decide (n ∈ B))) := fun n => containsI_fn B n (by unfold Sh; omega)
    clear g3 g5 g6 g7
    refine c1.s ?_
    simp
    intro b5
    refine c2.s ?_
    simp
    refine V.forI (σ := Unit) c.signals.length [2, 5, 6, 38, 39] (by simp; exact rfl) (fun i _ => [(40, aI i)]) (fun _ _ => []) (fun _ _ => True) () trivial (by simp) ⟨by simp; exact rfl, by simp⟩ ?_ ?_
    · rintro i - hi -
      obtain ⟨y, hy⟩ : ∃ y, c.signals[i] = y := ⟨_, rfl⟩
      have hyo : c.signals[i]? = some y := by rw [List.getElem?_eq_getElem hi, hy]
      have hcl := hf.sig
      have hvi : i < x.values.length := by omega
      have hti : i < x.timers.length := by omega
      obtain ⟨v, hv⟩ : ∃ v, x.values[i] = v := ⟨_, rfl⟩
      obtain ⟨t, ht⟩ : ∃ t, x.timers[i] = t := ⟨_, rfl⟩
      have hvo : x.values[i]? = some v := by rw [List.getElem?_eq_getElem hvi, hv]
      have hto : x.timers[i]? = some t := by rw [List.getElem?_eq_getElem hti, ht]
      obtain ⟨r1, r2, r3, r4⟩ := hobey i y v t hyo hvo hto
      have hoy := hc.sigs y (List.mem_of_getElem? hyo)
      have ck := hon i y hyo
      have cE := c3 y.on hoy.on ck.1
      simp [hi, hy]
      intro b9
      rcases (show y.kind = 0 ∨ y.kind = 2 ∨ y.kind = 1 by omega) with hk | hk | hk
      · have r5 := r3 hk hf
        generalize evalE y.on (valuesOf x) = on at *
        refine cE.s ?_
        simp [hk, hvo, hvi]
        rw [hv]
        exact ⟨r5, fun _ => by omega⟩
      · generalize evalE y.on (valuesOf x) = on at *
        refine cE.s ?_
        simp [hk, hto, hti]
        rw [ht]
        refine ⟨?_, fun _ => by omega⟩
        simp only [stepV, hk] at r2
        cases on
        · simp at r2 ⊢
          exact r2.symm
        · simp at r2 ⊢
          intro h0
          have := r2 h0
          omega
      · have cO := c3 y.off hoy.off (hoff i y hyo hk)
        generalize evalE y.on (valuesOf x) = on at *
        generalize evalE y.off (valuesOf x) = off at *
        refine cE.s ?_
        simp [hk]
        refine cO.s ?_
        simp
        simp only [stepV, hk] at r1 r4
        have c5 := c4 (firstC c + i)
        have hin : on = true → off = true → decide (firstC c + (i : Int) ∈ B) = true := by
          rintro rfl rfl
          exact decide_eq_true (hbad _ (r4 rfl))
        generalize decide (firstC c + (i : Int) ∈ B) = inB at *
        clear r3 r4 hbad hobey
        cases on <;> cases off <;> simp at r1 hin <;> (try rw [hin] at c5) <;> (try rw [← r1] at hv) <;> simp [hvo, hvi, hv]
        all_goals
          refine GCall.fn (aI (firstC c)) (fun h => ⟨by first | trivial | exact h, hsig⟩) ?_
          simp
          try refine ⟨by omega, ?_⟩
          refine GCall.fn (aB _) (fun h => ⟨by first | trivial | exact h, c5⟩) ?_
          simp
          first | omega | exact ⟨r1, fun _ => by omega⟩
    · rintro - -
      simp
      refine awake28_fn.s ?_
      simp

end Go.Proofs.YtbhdiijibgdlnaaGreat
end

/- Law of chapter 28: signals at rest. -/
section
namespace Go.Proofs.YtbhdiijibgdlnaaGreat
set_option maxHeartbeats 4000000
set_option maxRecDepth 10000

theorem rests1_s (b6 : Nat) (B : List Int) (n : Int) (hB : B.length ≤ 1000) : CallS Tryz.prog 47 [aI n, .ptr 6 b6 0] [(6, .box b6 [.dat (.sl (B.map encI))])]
    fun rr H' => rr = aB (!decide (n ∈ B)) ∧ H' = [(6, .box b6 [.dat (.sl (B.map encI))])] := by
  refine callS_of Tryz.func47 rfl Tryz.ntmps47 (rs := [.tmp 3]) rfl (by kernel_rfl) (by simp) (by kernel_rfl) ?_
  simp
  refine (containsI_fn B n (by unfold Sh; omega)).s ?_
  simp
theorem restsH_s (b6 : Nat) (B : List Int) (n : Int) (hB : B.length ≤ 1000) (e : Nat × Ent) (R : Heap) : CallS Tryz.prog 47 [aI n, .ptr 6 b6 0] (e :: (6, .box b6 [.dat (.sl (B.map encI))]) :: R)
    fun rr H' => rr = aB (!decide (n ∈ B)) ∧ H' = e :: (6, .box b6 [.dat (.sl (B.map encI))]) :: R := by
  refine CallS.dropP ((CallS.frame (H1 := e :: R) (rests1_s b6 B n hB)).perm (List.Perm.swap e _ R)) ?_
  rintro rr H' ⟨H2, ⟨rfl, rfl⟩, rfl⟩
  exact ⟨_, ⟨_, List.Sublist.refl _, List.Perm.swap e _ R⟩, rfl, rfl⟩

theorem rounds_none {c : Control} {s : State} (h : rightC c s = 0) (hR : courseP c 65 0 s [] = none) : roundsR c s = (0, 21) := by
  unfold roundsR courseR
  rw [if_neg (by simp [h]), hR]
theorem rounds_some {c : Control} {s x : State} {bad : List Int} {m : Int} (h : rightC c s = 0) (hR : courseP c 65 0 s [] = some (x, bad, m)) : roundsR c s = (m, 0) := by
  unfold roundsR courseR
  rw [if_neg (by simp [h]), hR]
theorem sameSt_ne {a b : State} (h : a ≠ b) : sameSt a b = false := by rw [same_eq, decide_eq_false h]
theorem sm_right {c : Control} {s : State} (h : rightC c s = 0) : SmS s := sm_of (fine_of (right_zero h).1) (right_zero h).2.1
/-- A round of a right state. -/
theorem Round_r (c : Control) (s : State) (hc : OkC c) (h : rightC c s = 0) : CallFn Tryz.prog 41 [aC c, aSt s] (.tuple [aSt (roundS c s), aIs (roundB c s), aI 0]) := by
  have h1 := Round_fn c s hc (sm_right h)
  rw [show roundR c s = (roundS c s, roundB c s, 0) by unfold roundR; rw [if_neg (by simp [h])]] at h1
  exact h1

theorem lawRests_fn (c : Control) (s : State) (hc : OkC c) (hs : OkSt s) : CallFn Tryz.prog 10 [aC c, aSt s] (aB true) := by
  refine callFz_of Tryz.func10 rfl Tryz.ntmps10 (rs := [.tmp 4]) rfl (by kernel_rfl) (by simp) (by kernel_rfl) ?_
  simp
  refine (right28_fn c s hc hs).s ?_
  simp
  refine ⟨fun h => awake28_fn.s (by simp), fun h => ?_⟩
  simp only [rightB, Bool.and_eq_true, beq_iff_eq] at h
  obtain ⟨⟨h1, h2⟩, h3⟩ := h
  have hsm := few_sm h2
  have hpm := few_c h1
  obtain ⟨z1, z2, z3⟩ := right_zero h3
  have hf := fine_of z1
  have c1 := Settle_fn c s hc hsm
  have c2 := Rounds_fn c s hc hsm
  obtain ⟨R, hR⟩ : ∃ R, courseP c 65 0 s [] = R := ⟨_, rfl⟩
  cases R with
  | none =>
    rw [settle_none h3 hR] at c1
    rw [rounds_none h3 hR] at c2
    refine c1.s ?_
    simp
    intro b5 b6
    refine c2.s ?_
    simp
    refine GCall.fn (aB true) (fun h => ⟨by first | trivial | exact h, awake28_fn⟩) ?_
    simp
  | some p =>
    obtain ⟨x, bad, m⟩ := p
    rw [settle_some h3 hR] at c1
    rw [rounds_some h3 hR] at c2
    obtain ⟨j, g1, g2, g3, g4, g5, g6, g7⟩ := course_spec 65 0 s [] hR
    have hxr : rightC c x = 0 := by rw [g3]; exact after_right h3 j
    have hxs := (right_zero hxr).2.1
    have hxm : SmS x := sm_of hf hxs
    have c3 := Rests_fn c x hc hxm
    rw [show restsR c x = (true, 0) by unfold restsR; rw [if_neg (by simp [hxr]), decide_eq_true g4]] at c3
    have hRx : courseP c 65 0 x [] = some (x, [] ++ roundB c x, 0) := course_rest g4
    have c4 := Settle_fn c x hc hxm
    rw [settle_some hxr hRx] at c4
    have c5 := SameStatesR_l x x hxm hxm
    rw [sameSt_self] at c5
    have hbl := comp_len hf hR
    have hml := comp_len hf hRx
    have hmem : ∀ z ∈ compI (sortI ([] ++ roundB c x)), z ∈ compI (sortI bad) := fun z hz => comp_mem.2 (g7 z (by simpa using comp_mem.1 hz))
    have hk := after_keep c s j
    rw [← g3] at hk
    have hm : m = j := by omega
    have hle : (0 : Int) ≤ m ∧ m ≤ 64 := by omega
    have hst : ∀ i, i < j → CallFn Tryz.prog 41 [aC c, aSt (afterN c s i)] (.tuple [aSt (afterN c s (i + 1)), aIs (roundB c (afterN c s i)), aI 0]) := fun i hi => by
      rw [after_snoc]; exact Round_r c _ hc (after_right h3 i)
    have hsi : ∀ i, SmS (afterN c s i) := fun i => sm_right (after_right h3 i)
    have hne : ∀ i, i < j → CallFn Tryz.prog 31 [aSt (afterN c s (i + 1)), aSt (afterN c s i)] (aB false) := fun i hi => by
      have := SameStatesR_l _ _ (hsi (i + 1)) (hsi i)
      rw [sameSt_ne (g5 i hi)] at this
      exact this
    have e1 := eqI_fn x.ends s.ends (sh_of hxm.ends) (sh_of hsm.ends)
    have e2 := eqB_fn x.valves s.valves (sh_of hxm.valves) (sh_of hsm.valves)
    have e3 := eqB_fn x.inputs s.inputs (sh_of hxm.inputs) (sh_of hsm.inputs)
    rw [decide_eq_true hk.1] at e1
    rw [decide_eq_true hk.2.1] at e2
    rw [decide_eq_true hk.2.2] at e3
    have hj : j < 65 := g1
    generalize hB1 : compI (sortI bad) = B at *
    generalize hB2 : compI (sortI ([] ++ roundB c x)) = M at *
    refine c1.s ?_
    simp
    intro b5 b6
    refine c2.s ?_
    simp
    refine c3.s ?_
    simp
    refine c4.s ?_
    simp [hle.1, hle.2]
    intro b11
    refine GCall.fn (aB true) (fun h => ⟨by first | trivial | exact h, c5⟩) ?_
    simp
    refine GCall.ways (fun h => ⟨by first | trivial | exact h, (containsH_s M (fun z => !decide (z ∈ B)) 47 [] [.ptr 6 b6 0] _ (by unfold Sh; omega) (fun n _ => restsH_s b6 B n hbl _ _)).mono ?_⟩) (fun hn => absurd hle hn)
    rintro rr H' ⟨rfl, rfl⟩
    rw [show M.any (fun z => !decide (z ∈ B)) = false by rw [List.any_eq_false]; intro z hz; simp [hmem z hz]]
    simp [hle.1, hle.2]
    intro b13
    rw [hm]
    refine V.forI (σ := Unit) j [2, 3, 5, 13, 95] (by simp; exact rfl) (fun i _ => [(4, aB false), (96, aI i)]) (fun i _ => [(13, .box b13 ((encSt (afterN c s i)).map A.dat))]) (fun _ _ => True) () trivial (by simp) ⟨by simp [encSt, afterN]; exact rfl, by simp [afterN, encSt]⟩ ?_ ?_
    · rintro i - hi -
      have d1 := hst i hi
      have d2 := hne i hi
      generalize afterN c s i = S0 at *
      generalize afterN c s (i + 1) = S1 at *
      simp [hi, encSt]
      refine d1.s ?_
      simp
      intro b14
      refine GCall.fn (aB false) (fun h => ⟨by first | trivial | exact h, d2⟩) ?_
      simp
      omega
    · rintro - -
      rw [← g3]
      simp [encSt]
      refine c5.s ?_
      simp
      refine GCall.fn (aB true) (fun h => ⟨by first | trivial | exact h, e1⟩) ?_
      simp
      refine GCall.fn (aB true) (fun h => ⟨by first | trivial | exact h, e2⟩) ?_
      simp
      refine GCall.fn (aB true) (fun h => ⟨by first | trivial | exact h, e3⟩) ?_
      simp
      refine GCall.fn (aB true) (fun h => ⟨by first | trivial | exact h, awake28_fn⟩) ?_
      simp

end Go.Proofs.YtbhdiijibgdlnaaGreat
end
