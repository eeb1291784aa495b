/- Texts joined by a program: Pb, Ma, Mb, El, Mc, Md, Me. -/
import Derived.Test.YtgceiedihmgooaaH2
set_option linter.unusedSimpArgs false
set_option linter.unusedVariables false

/- Plain laws: gates; names and lines; the first state. -/
section
namespace Go.Proofs.Ytgceiedihmgooaa
set_option maxHeartbeats 1000000

/-- The value of an expression depends on its variables. -/
theorem evalE_congr {vs ws : List Bool} : ∀ (N : Nat) (x : Expr), SizeOf.sizeOf x < N → (∀ k ∈ varsE x, vs[k.toNat]? = ws[k.toNat]?) → evalE x vs = evalE x ws
  | 0, _, h, _ => absurd h (Nat.not_lt_zero _)
  | N + 1, x, hN, h => by
    have hL : ∀ l : List Expr, (∀ y ∈ l, y ∈ x.args) → (∀ k ∈ varsL l, vs[k.toNat]? = ws[k.toNat]?) → evalL l vs = evalL l ws := by
      intro l
      induction l with
      | nil => intro _ _; rfl
      | cons y l ih =>
        intro hl hk
        have hm := hl y (by simp)
        simp only [evalL]
        rw [ih (fun z hz => hl z (by simp [hz])) (fun k hkk => hk k (by simp [varsL, hkk])), evalE_congr N y (by have := Expr.lt_of_mem hm; omega) (fun k hkk => hk k (by simp [varsL, hkk]))]
    rw [evalE_eq, evalE_eq, hL x.args (fun _ h => h) (fun k hk => h k (by rw [varsE_eq]; simp [hk]))]
    by_cases hop : x.op = 1
    · have := h x.index (by rw [varsE_eq]; simp [hop])
      simp [hop, List.getD_eq_getElem?_getD, this]
    · simp [hop]

theorem gvals_keep {c : Control} {s : State} {k : Nat} : ∀ j : Nat, (kindAt c k ≠ 0 ∨ j ≤ k ∨ c.signals.length ≤ k) → (gvals c s j)[k]? = s.values[k]?
  | 0, _ => rfl
  | j + 1, h => by
    simp only [gvals]
    split
    · rename_i x hx
      split
      · rename_i hk0
        have hne : j ≠ k := by
          rintro rfl
          obtain ⟨hlt, _⟩ := List.getElem?_eq_some_iff.1 hx
          rcases h with h | h | h
          · apply h; simp [kindAt, hx, hk0]
          · omega
          · omega
        rw [List.getElem?_set_ne hne]
        exact gvals_keep j (by rcases h with h | h | h; exact .inl h; exact .inr (.inl (by omega)); exact .inr (.inr h))
      · exact gvals_keep j (by rcases h with h | h | h; exact .inl h; exact .inr (.inl (by omega)); exact .inr (.inr h))
    · exact gvals_keep j (by rcases h with h | h | h; exact .inl h; exact .inr (.inl (by omega)); exact .inr (.inr h))
theorem gvals_stay {c : Control} {s : State} {k : Nat} : ∀ j : Nat, k < j → (gvals c s j)[k]? = (gvals c s (k + 1))[k]?
  | 0, h => absurd h (Nat.not_lt_zero _)
  | j + 1, h => by
    rcases Nat.lt_or_ge k j with h1 | h1
    · rw [← gvals_stay j h1]
      conv => lhs; unfold gvals
      split
      · split
        · rw [List.getElem?_set_ne (by omega)]
        · rfl
      · rfl
    · obtain rfl : k = j := by omega
      rfl
theorem late_not {c : Control} (hf : Fine c) {i : Nat} {x : Signal} (hx : c.signals[i]? = some x) (hk : x.kind = 0) : ∀ n ∈ varsE x.on, n - firstC c < i ∨ kindAt c (n - firstC c) ≠ 0 := by
  have h := hf.sigs i x hx
  unfold signalE at h
  split at h
  · rename_i h1; exact absurd h h1
  · split at h
    · cases h
    · split at h
      · rename_i h1; exact absurd h h1
      · have hl : lateC c i x.on = false := by
          cases hl : lateC c i x.on
          · rfl
          · simp [gateE, hl, hk] at h
        intro n hn
        rw [lateC_any, List.any_eq_false] at hl
        have := hl n hn
        simp only [Bool.and_eq_true, decide_eq_true_eq, beq_iff_eq, not_and] at this
        rcases Classical.em (n - firstC c < i) with h | h
        · exact .inl h
        · exact .inr (this (by omega))
theorem gate_same {c : Control} (hf : Fine c) {s : State} (hsh : shapeS c s) {i : Nat} {x : Signal} (hx : c.signals[i]? = some x) (hk : x.kind = 0) {m : Nat} (hm : i ≤ m) :
    evalE x.on (preV s ++ gvals c s i) = evalE x.on (preV s ++ gvals c s m) := by
  have hpl := preV_length hsh
  refine evalE_congr (SizeOf.sizeOf x.on + 1) x.on (by omega) fun k hk2 => ?_
  have hv := vars_check (hf.on hx).1 k hk2
  have hl := late_not hf hx hk k hk2
  by_cases h1 : k.toNat < (preV s).length
  · rw [List.getElem?_append_left h1, List.getElem?_append_left h1]
  · rw [List.getElem?_append_right (by omega), List.getElem?_append_right (by omega)]
    obtain ⟨q, hq⟩ : ∃ q : Nat, k - firstC c = q := ⟨(k - firstC c).toNat, by omega⟩
    have e : k.toNat - (preV s).length = q := by omega
    rw [e]
    rw [hq] at hl
    by_cases h2 : kindAt c q ≠ 0
    · rw [gvals_keep i (.inl h2), gvals_keep m (.inl h2)]
    · have h3 : q < i := by rcases hl with h | h; omega; exact absurd h h2
      rw [gvals_stay i h3, gvals_stay m (by omega)]
theorem gates_gate {c : Control} (hf : Fine c) {s : State} (hsh : shapeS c s) {i : Nat} {x : Signal} (hx : c.signals[i]? = some x) (hk : x.kind = 0) : (gatesP c s).values[i]? = some (evalE x.on (valuesOf (gatesP c s))) := by
  obtain ⟨hlt, _⟩ := List.getElem?_eq_some_iff.1 hx
  show (gvals c s c.signals.length)[i]? = some (evalE x.on (preV s ++ gvals c s c.signals.length))
  rw [gvals_stay _ hlt, gvals_at hx, if_pos hk, ← gate_same hf hsh hx hk (Nat.le_of_lt hlt), valuesOf_with]
  rw [List.getElem?_set_self]
  rw [gvals_length, hsh.2.2.2.1]
  exact hlt
theorem gates_keep {c : Control} {s : State} {i : Nat} (h : kindAt c i ≠ 0) : (gatesP c s).values[i]? = s.values[i]? := gvals_keep _ (.inl h)
theorem gates_shape {c : Control} {s : State} (hsh : shapeS c s) : shapeS c (gatesP c s) := by
  obtain ⟨h1, h2, h3, h4, h5⟩ := hsh
  exact ⟨h1, h2, h3, by simp only [gatesP, gvals_length]; exact h4, h5⟩
theorem gates_twice {c : Control} (hf : Fine c) {s : State} (hsh : shapeS c s) : gatesP c (gatesP c s) = gatesP c s := by
  have h : ∀ j, j ≤ c.signals.length → gvals c (gatesP c s) j = (gatesP c s).values := by
    intro j
    induction j with
    | zero => intro _; rfl
    | succ j ih =>
      intro hj
      simp only [gvals]
      split
      · rename_i x hx
        split
        · rename_i hk
          rw [ih (by omega)]
          have := gates_gate hf hsh hx hk
          apply List.ext_getElem?
          intro k
          by_cases e : j = k
          · subst e
            rw [this, List.getElem?_set_self (List.getElem?_eq_some_iff.1 this).1]
          · rw [List.getElem?_set_ne e]
        · exact ih (by omega)
      · exact ih (by omega)
  show { gatesP c s with values := gvals c (gatesP c s) c.signals.length } = gatesP c s
  rw [h _ (Nat.le_refl _)]
theorem gates_right {c : Control} {s : State} (h : rightC c s = 0) : rightC c (gatesP c s) = 0 := by
  obtain ⟨z1, z2, z3⟩ := right_zero h
  have hsh := gates_shape z2
  unfold fitsSt at z3
  rw [if_neg (by simpa using z2)] at z3
  split at z3
  · cases z3
  · rename_i hout
    have hz := firstErr_zero z3
    have e : fitsSt c (gatesP c s) = firstErr (tsE c (gatesP c s)) (List.range s.timers.length) := by
      unfold fitsSt
      rw [if_neg (by simpa using hsh)]
      exact if_neg hout
    have hn : NoE (tsE c (gatesP c s)) s.timers.length := by
      intro i hi
      have h0 := hz i hi
      unfold tsE at h0 ⊢
      obtain ⟨hlv, hlt⟩ : s.values.length = c.signals.length ∧ s.timers.length = c.signals.length := ⟨z2.2.2.2.1, z2.2.2.2.2⟩
      have hx : c.signals[i]? = some c.signals[i] := List.getElem?_eq_getElem (by omega)
      have hv : s.values[i]? = some s.values[i] := List.getElem?_eq_getElem (by omega)
      have ht : s.timers[i]? = some s.timers[i] := List.getElem?_eq_getElem (by omega)
      rw [hx, hv, ht] at h0
      have ht' : (gatesP c s).timers[i]? = some s.timers[i] := ht
      have hlg : (gatesP c s).values.length = c.signals.length := hsh.2.2.2.1
      have hv' : (gatesP c s).values[i]? = some (gatesP c s).values[i] := List.getElem?_eq_getElem (by omega)
      rw [hx, hv', ht']
      simp only at h0 ⊢
      unfold tstE at h0 ⊢
      by_cases hk : c.signals[i].kind = 2
      · have hka : kindAt c i ≠ 0 := by simp [kindAt, hx, hk]
        have hg := gates_keep (s := s) hka
        rw [hv', hv] at hg
        rw [Option.some.inj hg]
        exact h0
      · simp only [hk, ne_eq, not_false_eq_true, true_and, false_and, or_false] at h0 ⊢
        exact h0
    rw [rightC, if_neg (by simpa using z1), e]
    exact firstErr_all hn

/-! ### Names and lines -/
theorem fine_names {c : Control} (h : checkC c = 0) : ∀ k : Nat, (k : Int) < countC c → namedC c k ∉ namesB c k := by
  have hf := fine_of h
  have ha := hf.act
  have hN : ∀ s names, nameE s names = 0 → s ∉ names := by
    intro s names hz hm
    unfold nameE at hz
    split at hz
    · cases hz
    · split at hz
      · cases hz
      · simp [hm] at hz
  have hin : NoE (inpE c) c.inputs.length := by
    unfold checkC at h
    split at h
    · cases h
    · split at h
      · cases h
      · split at h
        · rename_i h1; exact absurd h h1
        · rename_i h1; exact firstErr_zero (Classical.not_not.1 h1)
  obtain ⟨N, hNN⟩ : ∃ N : Nat, c.actuators = N := ⟨c.actuators.toNat, by omega⟩
  have hNt : c.actuators.toNat = N := by omega
  intro k hk
  have hcn : countC c = 2 * c.actuators + c.inputs.length + c.signals.length := rfl
  have hfc : firstC c = 2 * c.actuators + c.inputs.length := rfl
  by_cases h1 : (k : Int) < 2 * c.actuators
  · exact line_notin h1 (by omega)
  · by_cases h2 : (k : Int) < firstC c
    · obtain ⟨i, hi⟩ : ∃ i : Nat, k = 2 * N + i := ⟨k - 2 * N, by omega⟩
      have hz := hin i (by omega)
      unfold inpE at hz
      rw [hNt, ← hi] at hz
      exact hN _ _ hz
    · obtain ⟨i, hi⟩ : ∃ i : Nat, k = 2 * N + c.inputs.length + i := ⟨k - (2 * N + c.inputs.length), by omega⟩
      have hil : i < c.signals.length := by omega
      have hx : c.signals[i]? = some c.signals[i] := List.getElem?_eq_getElem hil
      have hz := hf.sigs i _ hx
      rw [hNt, ← hi] at hz
      have hn : namedC c k = c.signals[i].name := by
        refine named_sig (s := c.signals[i]) (by omega) (by omega) ?_
        rw [show ((k : Int) - firstC c).toNat = i by omega]
        exact hx
      rw [hn]
      refine hN _ _ ?_
      unfold signalE at hz
      split at hz
      · rename_i h3; exact absurd hz h3
      · rename_i h3; exact Classical.not_not.1 h3
theorem findIdx_named {c : Control} (h : checkC c = 0) {k : Nat} (hk : (k : Int) < countC c) : (namesB c (countC c).toNat).findIdx? (· == namedC c k) = some k := by
  rw [List.findIdx?_eq_some_iff_getElem]
  refine ⟨by simp; omega, by simp [namesB], fun j hj => ?_⟩
  have := fine_names h k hk
  simp only [namesB, List.getElem_map, List.getElem_range, beq_iff_eq]
  intro e
  exact this (List.mem_map.2 ⟨j, by simpa using hj, e⟩)
theorem line_name {c : Control} (h : checkC c = 0) {k : Nat} (hk : (k : Int) < countC c) : nameP c k = (namedC c k, 0) ∧ lineP c (namedC c k) = ((k : Int), 0) := by
  constructor
  · unfold nameP
    rw [if_neg (by simpa using h), if_neg (by omega)]
  · unfold lineP
    rw [if_neg (by simpa using h), findIdx_named h hk]

/-! ### The first state -/
theorem new_right {c : Control} (h : checkC c = 0) (hi : ∀ (i : Nat) (x : Signal), c.signals[i]? = some x → x.kind = 2 → x.init = false) : rightC c (newSt c c.signals.length) = 0 := by
  have hf := fine_of h
  have hsh := newSt_shape hf
  rw [rightC, if_neg (by simpa using h)]
  unfold fitsSt
  rw [if_neg (by simpa using hsh)]
  have e1 : (newSt c c.signals.length).ends.any (outR 4) = false := by
    rw [List.any_eq_false]
    intro x hx
    have := List.eq_of_mem_replicate hx
    subst this
    decide
  have e2 : (newSt c c.signals.length).timers.any (outR 3) = false := by
    rw [List.any_eq_false]
    intro x hx
    have := List.eq_of_mem_replicate hx
    subst this
    decide
  rw [e1, e2]
  simp only [Bool.or_self, Bool.false_eq_true, if_false]
  refine firstErr_all ?_
  intro i hlt
  have hil : i < c.signals.length := by simpa [newSt] using hlt
  have hx : c.signals[i]? = some c.signals[i] := List.getElem?_eq_getElem hil
  have ht : (newSt c c.signals.length).timers[i]? = some 0 := by simp [newSt, hil]
  have hv : (newSt c c.signals.length).values[i]? = some c.signals[i].init := by
    simp [newSt, initV, hil]
  unfold tsE
  rw [hx, ht, hv]
  simp only
  unfold tstE
  rw [if_neg]
  rintro (⟨_, h1⟩ | ⟨h1, h2⟩)
  · exact h1 rfl
  · rw [hi i _ hx h1] at h2
    exact h2 rfl
theorem fine_init {c : Control} (hf : Fine c) : ∀ (i : Nat) (x : Signal), c.signals[i]? = some x → x.kind = 2 → x.init = false := by
  intro i x hx hk
  have h := hf.sigs i x hx
  unfold signalE at h
  split at h
  · rename_i h1; exact absurd h h1
  · split at h
    · cases h
    · split at h
      · rename_i h1; exact absurd h h1
      · simp only [hk] at h
        simp [timE] at h
        cases hi : x.init
        · rfl
        · rw [hi] at h
          simp at h
          split at h <;> simp at h
theorem first_right {c : Control} (h : checkC c = 0) : rightC c (firstSt c) = 0 := gates_right (new_right h (fine_init (fine_of h)))
theorem first_values {c : Control} (h : checkC c = 0) {i : Nat} (hi : (i : Int) < c.actuators) : valueP c (firstSt c) (2 * i) = (true, 0) ∧ valueP c (firstSt c) (2 * i + 1) = (false, 0) := by
  have hr := first_right h
  have hcn : countC c = 2 * c.actuators + c.inputs.length + c.signals.length := rfl
  have he : (firstSt c).ends = List.replicate c.actuators.toNat 0 := rfl
  have hE : ∀ n : Nat, ∀ k : Nat, k < n → (endsV (List.replicate n 0))[2 * k]? = some true ∧ (endsV (List.replicate n 0))[2 * k + 1]? = some false := by
    intro n
    induction n with
    | zero => intro k h; omega
    | succ n ih =>
      intro k hk
      have e : endsV (List.replicate (n + 1) 0) = true :: false :: endsV (List.replicate n 0) := by
        rw [List.replicate_succ]; rfl
      rw [e]
      cases k with
      | zero => simp
      | succ k =>
        have := ih k (by omega)
        rw [show 2 * (k + 1) = (2 * k + 1) + 1 by omega]
        simpa using this
  have hk := hE c.actuators.toNat i (by omega)
  have hlen : (endsV (List.replicate c.actuators.toNat 0)).length = 2 * c.actuators.toNat := by rw [endsV_length]; simp
  have hv : ∀ j, j < 2 * c.actuators.toNat → (valuesOf (firstSt c))[j]? = (endsV (List.replicate c.actuators.toNat 0))[j]? := by
    intro j hj
    unfold valuesOf
    rw [he, List.append_assoc, List.getElem?_append_left (by omega)]
  constructor
  · unfold valueP
    rw [if_neg (by simpa using hr), if_neg (by omega), show ((2 * (i : Int))).toNat = 2 * i by omega, hv _ (by omega), hk.1]
    rfl
  · unfold valueP
    rw [if_neg (by simpa using hr), if_neg (by omega), show ((2 * (i : Int) + 1)).toNat = 2 * i + 1 by omega, hv _ (by omega), hk.2]
    rfl

end Go.Proofs.Ytgceiedihmgooaa
end

/- The laws of values, expressions, states. -/
section
namespace Go.Proofs.Ytgceiedihmgooaa
set_option maxHeartbeats 4000000
set_option maxRecDepth 10000

theorem Values_fn (c : Control) (s : State) (k : Int) (hc : OkC c) (hs : OkSt s) (_ : (Lit.int .i64 k).wf = true) : CallFn Try.prog 6 [aC c, aSt s, aI k] (aB true) := by
  refine callFz_of Try.func6 rfl Try.ntmps6 (rs := [.tmp 6]) rfl (by kernel_rfl) (by simp) (by kernel_rfl) ?_
  simp
  refine (Few_fn c hc).s ?_
  simp
  refine GCall.fn (aB (fewS s)) (fun h => ⟨by first | trivial | exact h, FewStates_fn s hs⟩) ?_
  simp
  refine ⟨fun h => awake_fn.s (by simp), fun h1 h2 => ?_⟩
  have c1 := Value_fn c s k hc (few_sm h2)
  have c2 := ValueR_fn c s k hc (few_c h1).1 (few_c h1).2 (few_sm h2)
  generalize valueP c s k = r at *
  refine c1.s ?_
  simp
  refine c2.s ?_
  simp
  refine GCall.fn (aB true) (fun h => ⟨by first | trivial | exact h, awake_fn⟩) ?_
  simp

theorem Evals_fn (c : Control) (s : State) (x : Expr) (hc : OkC c) (hs : OkSt s) (hx : OkE x) : CallFn Try.prog 4 [aC c, aSt s, aE x] (aB true) := by
  refine callFz_of Try.func4 rfl Try.ntmps4 (rs := [.tmp 6]) rfl (by kernel_rfl) (by simp) (by kernel_rfl) ?_
  simp
  refine (Few_fn c hc).s ?_
  simp
  refine GCall.fn (aB (fewS s)) (fun h => ⟨by first | trivial | exact h, FewStates_fn s hs⟩) ?_
  simp
  refine GCall.fn (aB (lightE x)) (fun h => ⟨by first | trivial | exact h, light_fn x hx⟩) ?_
  simp
  refine ⟨fun h => awake_fn.s (by simp), fun h1 h2 h3 => ?_⟩
  have c1 := EvalC_fn c s x hc (few_sm h2) hx
  have c2 := EvalR_fn c s x hc (few_c h1).1 (few_c h1).2 (few_sm h2) hx
  generalize evalP c s x = r at *
  refine c1.s ?_
  simp
  refine c2.s ?_
  simp
  refine GCall.fn (aB true) (fun h => ⟨by first | trivial | exact h, awake_fn⟩) ?_
  simp

end Go.Proofs.Ytgceiedihmgooaa
end

/- The laws of states. -/
section
namespace Go.Proofs.Ytgceiedihmgooaa
set_option maxHeartbeats 4000000
set_option maxRecDepth 10000

theorem noSt_ok : OkSt noSt := ⟨by decide, by decide, by decide, by decide, by decide, by decide, by decide⟩
theorem gatesP_ok {c : Control} {s : State} (h : OkSt s) : OkSt (gatesP c s) := ⟨h.ends, h.valves, h.inputs, by have := h.values; show (gvals c s c.signals.length).length ≤ _; rw [gvals_length]; exact this, h.timers, h.endsI, h.timersI⟩
theorem gatesR_ok {c : Control} {s : State} (h : OkSt s) : OkSt (gatesR c s).1 := by
  unfold gatesR
  split
  · exact noSt_ok
  · exact gatesP_ok h
theorem newSt_ok {c : Control} (h : Fine c) : OkSt (newSt c c.signals.length) := by
  obtain ⟨h1, h2, h3, h4, h5⟩ := newSt_sm h
  refine ⟨by unfold Sh; omega, by unfold Sh; omega, by unfold Sh; omega, by unfold Sh; omega, by unfold Sh; omega, ?_, ?_⟩
  · intro n hn
    have := List.eq_of_mem_replicate hn
    subst this
    decide
  · intro n hn
    have := List.eq_of_mem_replicate hn
    subst this
    decide
theorem firstSt_ok {c : Control} : OkSt (if checkC c = 0 then firstSt c else noSt) := by
  split
  · rename_i h; exact gatesP_ok (newSt_ok (fine_of h))
  · exact noSt_ok
theorem sameSt_refl (s : State) : sameSt s s = true := by simp [sameSt]

theorem States_fn (c : Control) (s t : State) (hc : OkC c) (hs : OkSt s) (ht : OkSt t) : CallFn Try.prog 3 [aC c, aSt s, aSt t] (aB true) := by
  refine callFz_of Try.func3 rfl Try.ntmps3 (rs := [.tmp 6]) rfl (by kernel_rfl) (by simp) (by kernel_rfl) ?_
  simp
  refine (Few_fn c hc).s ?_
  simp
  refine GCall.fn (aB (fewS s)) (fun h => ⟨by first | trivial | exact h, FewStates_fn s hs⟩) ?_
  simp
  refine GCall.fn (aB (fewS t)) (fun h => ⟨by first | trivial | exact h, FewStates_fn t ht⟩) ?_
  simp
  refine ⟨fun h => awake_fn.s (by simp), fun h1 h2 h3 => ?_⟩
  have c1 := Gates_fn c s hc (few_sm h2)
  have c2 := GatesR_fn c s hc (few_c h1).1 (few_c h1).2 (few_sm h2)
  have c3 := First_fn c hc
  have c4 := FirstR_fn c hc (few_c h1).1 (few_c h1).2
  have c5 := Right_fn c s hc (few_sm h2)
  have c6 := RightR_fn c s hc (few_c h1).1 (few_c h1).2 (few_sm h2)
  have c7 := SameStatesR_fn _ _ (gatesR_ok (c := c) hs) (gatesR_ok (c := c) hs)
  have c8 := SameStatesR_fn _ _ (firstSt_ok (c := c)) (firstSt_ok (c := c))
  have c9 := SameStates_fn s t hs ht
  have c10 := SameStatesR_fn s t hs ht
  have c11 := SameStates_fn s s hs hs
  rw [sameSt_refl] at c7 c8 c11
  generalize gatesR c s = g at *
  generalize (if checkC c = 0 then firstSt c else noSt) = f at *
  generalize rightC c s = r at *
  generalize checkC c = e at *
  generalize sameSt s t = q at *
  refine c1.s ?_
  simp
  intro b7
  refine c2.s ?_
  simp
  intro b9
  refine c3.s ?_
  simp
  intro b11
  refine c4.s ?_
  simp
  intro b13
  refine V.draw (fun t => if t = 53 then some (.fn (aI r)) else if t = 56 then some (.fn (aI r)) else if t = 61 then some (.fn (aB true)) else if t = 71 then some (.fn (aB true)) else if t = 81 then some (.fn (aB q)) else if t = 84 then some (.fn (aB q)) else if t = 90 then some (.fn (aB true)) else if t = 93 then some (.fn (aB true)) else none) (by kernel_rfl) (by kernel_rfl) (by simp) ?_
  simp
  trace_state
  exact ⟨c5, c6, c7, c8, c9, c10, c11, awake_fn⟩

end Go.Proofs.Ytgceiedihmgooaa
end

/- Contracts: the same expressions, signals, controls. -/
section
namespace Go.Proofs.Ytgceiedihmgooaa
set_option maxHeartbeats 4000000
set_option maxRecDepth 10000

def allEq {α : Type} (f : α → α → Bool) : List α → List α → Bool
  | [], [] => true
  | a :: us, b :: ws => f a b && allEq f us ws
  | _, _ => false
mutual
def eqE : Expr → Expr → Bool
  | ⟨o, i, us⟩, ⟨p, j, ws⟩ => o == p && i == j && eqL us ws
def eqL : List Expr → List Expr → Bool
  | [], [] => true
  | a :: us, b :: ws => eqE a b && eqL us ws
  | _, _ => false
end
theorem eqL_all : ∀ us ws : List Expr, eqL us ws = allEq eqE us ws
  | [], [] => rfl
  | a :: us, b :: ws => by simp only [eqL, allEq, eqL_all us ws]
  | [], _ :: _ => rfl
  | _ :: _, [] => rfl
theorem eqE_eq (x y : Expr) : eqE x y = (x.op == y.op && x.index == y.index && allEq eqE x.args y.args) := by cases x; cases y; simp [eqE, eqL_all]
theorem allEq_len {α : Type} {f : α → α → Bool} : ∀ {us ws : List α}, allEq f us ws = true → us.length = ws.length
  | [], [], _ => rfl
  | a :: us, b :: ws, h => by simp only [allEq, Bool.and_eq_true] at h; simp [allEq_len h.2]
  | [], _ :: _, h => by simp [allEq] at h
  | _ :: _, [], h => by simp [allEq] at h
theorem allEq_ne {α : Type} {f : α → α → Bool} {us ws : List α} (h : us.length ≠ ws.length) : allEq f us ws = false := by
  cases he : allEq f us ws
  · rfl
  · exact absurd (allEq_len he) h
theorem allEq_drop {α : Type} {f : α → α → Bool} {us ws : List α} {i : Nat} {x y : α} (hx : us[i]? = some x) (hy : ws[i]? = some y) : allEq f (us.drop i) (ws.drop i) = (f x y && allEq f (us.drop (i + 1)) (ws.drop (i + 1))) := by
  obtain ⟨h1, rfl⟩ := List.getElem?_eq_some_iff.1 hx
  obtain ⟨h2, rfl⟩ := List.getElem?_eq_some_iff.1 hy
  rw [List.drop_eq_getElem_cons h1, List.drop_eq_getElem_cons h2, allEq]
theorem allEq_refl {α : Type} {f : α → α → Bool} : ∀ {us : List α}, (∀ a ∈ us, f a a = true) → allEq f us us = true
  | [], _ => rfl
  | a :: us, h => by simp only [allEq, h a (by simp), allEq_refl (us := us) fun b hb => h b (by simp [hb]), Bool.and_self]
theorem eqE_refl : ∀ (N : Nat) (x : Expr), SizeOf.sizeOf x < N → eqE x x = true
  | 0, _, h => absurd h (Nat.not_lt_zero _)
  | N + 1, x, hN => by
    rw [eqE_eq, allEq_refl fun a ha => eqE_refl N a (by have := Expr.lt_of_mem ha; omega)]
    simp

theorem EqualFuncE_fn (xs ys : List Expr) (hx : Sh xs) (hy : Sh ys) (eq : Expr → Expr → Bool) (f : FuncId) (hf : ∀ x ∈ xs, ∀ y ∈ ys, CallFn Try.prog f [aE x, aE y] (aB (eq x y))) :
    CallFn Try.prog 112 [.dat (.sl (xs.map encE)), .dat (.sl (ys.map encE)), .fn f [] []] (aB (allEq eq xs ys)) := by
  refine callFz_of Try.func112 rfl Try.ntmps112 (rs := [.tmp 6]) rfl (by kernel_rfl) (by simp) (by kernel_rfl) ?_
  by_cases hl : xs.length = ys.length
  · simp [hl]
    refine V.forI (σ := Unit) xs.length [1, 2, 15, 16] (by simp; exact rfl) (fun i _ => [(17, aI i)]) (fun _ _ => []) (fun i _ => allEq eq xs ys = allEq eq (xs.drop i) (ys.drop i)) () (by simp) (by simp) ⟨by simp; exact rfl, by simp⟩ ?_ ?_
    · rintro i - hi hI
      obtain ⟨x, hx1⟩ : ∃ x, xs[i] = x := ⟨_, rfl⟩
      obtain ⟨y, hy1⟩ : ∃ y, ys[i]'(by omega) = y := ⟨_, rfl⟩
      have hxo : xs[i]? = some x := by rw [List.getElem?_eq_getElem hi, hx1]
      have hyo : ys[i]? = some y := by rw [List.getElem?_eq_getElem (by omega), hy1]
      have hc := hf x (List.mem_of_getElem? hxo) y (List.mem_of_getElem? hyo)
      rw [allEq_drop hxo hyo] at hI
      have hi2 : i < ys.length := by omega
      simp [← hl, hi, hx1, hy1, hi2, encE_eq]
      intro b8 b9
      refine hc.s ?_
      cases e : eq x y
      · rw [e] at hI
        simp at hI
        simp [hI]
      · rw [e] at hI
        simp at hI
        simp [hI]
        omega
    · rintro - hI
      rw [List.drop_length, hl, List.drop_length] at hI
      simp [hl, hI, allEq]
  · have hl' : ¬ (xs.length : Int) = ys.length := by omega
    rw [allEq_ne hl]
    simp [hl']

theorem equal_fn : ∀ (N : Nat) (x : Expr), SizeOf.sizeOf x < N → OkE x → ∀ y : Expr, OkE y → CallFn Try.prog 104 [aE x, aE y] (aB (eqE x y))
  | 0, _, h, _, _, _ => absurd h (Nat.not_lt_zero _)
  | N + 1, x, hN, hx, y, hy => by
    have ih := EqualFuncE_fn x.args y.args hx.len hy.len eqE 104 fun a ha b hb => equal_fn N a (by have := Expr.lt_of_mem ha; omega) (hx.args a ha) b (hy.args b hb)
    refine callFz_of Try.func104 rfl Try.ntmps104 (rs := [.tmp 4]) rfl (by kernel_rfl) (by simp) (by kernel_rfl) ?_
    rw [eqE_eq]
    generalize allEq eqE x.args y.args = b at ih ⊢
    simp
    refine GCall.fn (aB b) (fun h => ⟨by first | trivial | exact h, ih⟩) ?_
    simp

theorem EqualR_fn : ∀ (N : Nat) (x : Expr), SizeOf.sizeOf x < N → OkE x → ∀ y : Expr, OkE y → CallFn Try.prog 105 [aE x, aE y] (aB (eqE x y))
  | 0, _, h, _, _, _ => absurd h (Nat.not_lt_zero _)
  | N + 1, x, hN, hx, y, hy => by
    refine callFz_of Try.func105 rfl Try.ntmps105 (rs := [.tmp 4]) rfl (by kernel_rfl) (by simp) (by kernel_rfl) ?_
    rw [eqE_eq]
    by_cases hc : x.op = y.op ∧ x.index = y.index ∧ x.args.length = y.args.length
    · obtain ⟨h1, h2, hl⟩ := hc
      have hlen := hx.len
      simp [h1, h2, hl]
      refine V.forI (σ := Unit) x.args.length [2, 3] (by simp; exact rfl) (fun i _ => [(5, aI i)]) (fun _ _ => []) (fun i _ => allEq eqE x.args y.args = allEq eqE (x.args.drop i) (y.args.drop i)) () (by simp) (by simp) ⟨by simp; exact rfl, by simp⟩ ?_ ?_
      · rintro i - hi hI
        obtain ⟨a, ha⟩ : ∃ a, x.args[i] = a := ⟨_, rfl⟩
        obtain ⟨b, hb⟩ : ∃ b, y.args[i]'(by omega) = b := ⟨_, rfl⟩
        have hao : x.args[i]? = some a := by rw [List.getElem?_eq_getElem hi, ha]
        have hbo : y.args[i]? = some b := by rw [List.getElem?_eq_getElem (by omega), hb]
        have hm := List.mem_of_getElem? hao
        have hi2 : i < y.args.length := by omega
        rw [allEq_drop hao hbo] at hI
        have hc := EqualR_fn N a (by have := Expr.lt_of_mem hm; omega) (hx.args a hm) b (hy.args b (List.mem_of_getElem? hbo))
        simp [← hl, hi]
        refine V.draw (fun t => if t = 44 then some (.fn (aB (eqE a b))) else none) (by kernel_rfl) (by kernel_rfl) (by simp) ?_
        simp [← hl, hi, ha, hb, hi2, encE_eq]
        refine ⟨hc, ?_⟩
        cases e : eqE a b
        · rw [e] at hI
          simp at hI
          simp [hI]
        · rw [e] at hI
          simp at hI
          simp [hI]
          omega
      · rintro - hI
        rw [List.drop_length, hl, List.drop_length] at hI
        simp [hl, hI, allEq, h1, h2]
    · have e : (x.op == y.op && x.index == y.index && allEq eqE x.args y.args) = false := by
        by_cases h1 : x.op = y.op
        · by_cases h2 : x.index = y.index
          · rw [allEq_ne (fun h => hc ⟨h1, h2, h⟩)]
            simp
          · simp [h2]
        · simp [h1]
      rw [e]
      simp
      intros
      omega

def sameX (x y : Expr) : Bool := lightE x && lightE y && eqE x y
theorem sameR_fn (x y : Expr) (hx : OkE x) (hy : OkE y) : CallFn Try.prog 88 [aE x, aE y] (aB (sameX x y)) := by
  refine callFz_of Try.func88 rfl Try.ntmps88 (rs := [.tmp 4]) rfl (by kernel_rfl) (by simp) (by kernel_rfl) ?_
  unfold sameX
  have c1 := light_fn x hx
  have c2 := light_fn y hy
  have c3 := EqualR_fn (SizeOf.sizeOf x + 1) x (by omega) hx y hy
  generalize lightE x = b1 at *
  generalize lightE y = b2 at *
  generalize eqE x y = b3 at *
  simp
  refine c1.s ?_
  simp
  refine GCall.fn (aB b2) (fun h => ⟨by first | trivial | exact h, c2⟩) ?_
  simp
  refine GCall.fn (aB b3) (fun h => ⟨by first | trivial | exact h, c3⟩) ?_
  simp

theorem meas_light (x : Expr) : lightE x = true ↔ ∃ s, meas x = .ok s := (light_iff x).trans (meas_iff x).symm
theorem sameE_fn (x y : Expr) (hx : OkE x) (hy : OkE y) : CallFn Try.prog 87 [aE x, aE y] (aB (sameX x y)) := by
  have c1 := measure_fn x hx
  have c2 := measure_fn y hy
  have c3 := equal_fn (SizeOf.sizeOf x + 1) x (by omega) hx y hy
  have l1 := meas_light x
  have l2 := meas_light y
  refine callFz_of Try.func87 rfl Try.ntmps87 (rs := [.tmp 4]) rfl (by kernel_rfl) (by simp) (by kernel_rfl) ?_
  simp
  refine V.forI (σ := Unit) 2 [2, 3, 12, 13] (by simp; exact rfl) (fun i _ => [(14, aI i)]) (fun _ _ => []) (fun i _ => (0 < i → lightE x = true) ∧ (1 < i → lightE y = true)) () (by simp) (by simp) ⟨by simp; exact rfl, by simp⟩ ?_ ?_
  · rintro i - hi hI
    have hi' : (i : Int) < 2 := by omega
    obtain rfl | rfl : i = 0 ∨ i = 1 := by omega
    · simp
      intro b6
      refine c1.s ?_
      cases hm : meas x with
      | ok s =>
        have hl := l1.2 ⟨s, hm⟩
        obtain ⟨n, d⟩ := s
        simp [hl]
      | error e =>
        have hl : lightE x = false := by
          cases h : lightE x
          · rfl
          · obtain ⟨s, hs⟩ := l1.1 h; rw [hm] at hs; cases hs
        simp [sameX, hl]
    · simp at hI
      simp
      intro b6
      refine c2.s ?_
      cases hm : meas y with
      | ok s =>
        have hl := l2.2 ⟨s, hm⟩
        obtain ⟨n, d⟩ := s
        simp [hl, hI]
      | error e =>
        have hl : lightE y = false := by
          cases h : lightE y
          · rfl
          · obtain ⟨s, hs⟩ := l2.1 h; rw [hm] at hs; cases hs
        simp [sameX, hl]
  · rintro - hI
    simp at hI
    simp
    refine c3.s ?_
    simp [sameX, hI]

/-! ### Signals and controls -/
def sameSig (a b : Signal) : Bool := a.name == b.name && a.kind == b.kind && sameX a.on b.on && sameX a.off b.off && a.delay == b.delay && (a.init == b.init)
theorem SameSignal_fn (a b : Signal) (ha : OkS a) (hb : OkS b) : CallFn Try.prog 63 [aS a, aS b] (aB (sameSig a b)) := by
  have c1 := sameR_fn a.on b.on ha.on hb.on
  have c2 := sameR_fn a.off b.off ha.off hb.off
  refine callFz_of Try.func63 rfl Try.ntmps63 (rs := [.tmp 4]) rfl (by kernel_rfl) (by simp) (by kernel_rfl) ?_
  unfold sameSig
  generalize sameX a.on b.on = b1 at *
  generalize sameX a.off b.off = b2 at *
  simp
  refine GCall.fn (aB b1) (fun h => ⟨by first | trivial | exact h, c1⟩) ?_
  simp
  refine GCall.fn (aB b2) (fun h => ⟨by first | trivial | exact h, c2⟩) ?_
  simp
theorem same_c (a b : Signal) (ha : OkS a) (hb : OkS b) : CallFn Try.prog 61 [aS a, aS b] (aB (sameSig a b)) := by
  have c1 := sameE_fn a.on b.on ha.on hb.on
  have c2 := sameE_fn a.off b.off ha.off hb.off
  refine callFz_of Try.func61 rfl Try.ntmps61 (rs := [.tmp 4]) rfl (by kernel_rfl) (by simp) (by kernel_rfl) ?_
  unfold sameSig
  generalize sameX a.on b.on = b1 at *
  generalize sameX a.off b.off = b2 at *
  simp
  refine GCall.fn (aB b1) (fun h => ⟨by first | trivial | exact h, c1⟩) ?_
  simp
  refine GCall.fn (aB b2) (fun h => ⟨by first | trivial | exact h, c2⟩) ?_
  simp
  rw [Bool.eq_iff_iff]
  simp
  constructor <;> intro h <;> simp_all

theorem EqualFuncS_fn (xs ys : List Signal) (hx : Sh xs) (hy : Sh ys) (eq : Signal → Signal → Bool) (f : FuncId) (hf : ∀ x ∈ xs, ∀ y ∈ ys, CallFn Try.prog f [aS x, aS y] (aB (eq x y))) :
    CallFn Try.prog 60 [.dat (.sl (xs.map encS)), .dat (.sl (ys.map encS)), .fn f [] []] (aB (allEq eq xs ys)) := by
  refine callFz_of Try.func60 rfl Try.ntmps60 (rs := [.tmp 6]) rfl (by kernel_rfl) (by simp) (by kernel_rfl) ?_
  by_cases hl : xs.length = ys.length
  · simp [hl]
    refine V.forI (σ := Unit) xs.length [1, 2, 15, 16] (by simp; exact rfl) (fun i _ => [(17, aI i)]) (fun _ _ => []) (fun i _ => allEq eq xs ys = allEq eq (xs.drop i) (ys.drop i)) () (by simp) (by simp) ⟨by simp; exact rfl, by simp⟩ ?_ ?_
    · rintro i - hi hI
      obtain ⟨x, hx1⟩ : ∃ x, xs[i] = x := ⟨_, rfl⟩
      obtain ⟨y, hy1⟩ : ∃ y, ys[i]'(by omega) = y := ⟨_, rfl⟩
      have hxo : xs[i]? = some x := by rw [List.getElem?_eq_getElem hi, hx1]
      have hyo : ys[i]? = some y := by rw [List.getElem?_eq_getElem (by omega), hy1]
      have hc := hf x (List.mem_of_getElem? hxo) y (List.mem_of_getElem? hyo)
      rw [allEq_drop hxo hyo] at hI
      have hi2 : i < ys.length := by omega
      simp [← hl, hi, hx1, hy1, hi2]
      intro b8 b9
      refine hc.s ?_
      cases e : eq x y
      · rw [e] at hI
        simp at hI
        simp [hI]
      · rw [e] at hI
        simp at hI
        simp [hI]
        omega
    · rintro - hI
      rw [List.drop_length, hl, List.drop_length] at hI
      simp [hl, hI, allEq]
  · have hl' : ¬ (xs.length : Int) = ys.length := by omega
    rw [allEq_ne hl]
    simp [hl']

def sameC (a b : Control) : Bool := a.actuators == b.actuators && decide (a.inputs = b.inputs) && allEq sameSig a.signals b.signals && decide (a.plus = b.plus) && decide (a.minus = b.minus)
theorem Same_fn (a b : Control) (ha : OkC a) (hb : OkC b) : CallFn Try.prog 32 [aC a, aC b] (aB (sameC a b)) := by
  have c1 := eqT_fn a.inputs b.inputs ha.inputs hb.inputs
  have c2 := EqualFuncS_fn a.signals b.signals ha.signals hb.signals sameSig 61 fun x hx y hy => same_c x y (ha.sigs x hx) (hb.sigs y hy)
  have c3 := eqI_fn a.plus b.plus ha.plus hb.plus
  have c4 := eqI_fn a.minus b.minus ha.minus hb.minus
  refine callFz_of Try.func32 rfl Try.ntmps32 (rs := [.tmp 4]) rfl (by kernel_rfl) (by simp) (by kernel_rfl) ?_
  unfold sameC
  generalize decide (a.inputs = b.inputs) = b1 at *
  generalize allEq sameSig a.signals b.signals = b2 at *
  generalize decide (a.plus = b.plus) = b3 at *
  generalize decide (a.minus = b.minus) = b4 at *
  simp
  refine GCall.fn (aB b1) (fun h => ⟨by first | trivial | exact h, c1⟩) ?_
  simp
  refine GCall.fn (aB b2) (fun h => ⟨by first | trivial | exact h, c2⟩) ?_
  simp
  refine GCall.fn (aB b3) (fun h => ⟨by first | trivial | exact h, c3⟩) ?_
  simp
  refine GCall.fn (aB b4) (fun h => ⟨by first | trivial | exact h, c4⟩) ?_
  simp

theorem SameR_fn (a b : Control) (ha : OkC a) (hb : OkC b) : CallFn Try.prog 33 [aC a, aC b] (aB (sameC a b)) := by
  have c1 := sameT_fn a.inputs b.inputs ha.inputs hb.inputs
  have c3 := sameI_fn a.plus b.plus ha.plus hb.plus
  have c4 := sameI_fn a.minus b.minus ha.minus hb.minus
  refine callFz_of Try.func33 rfl Try.ntmps33 (rs := [.tmp 4]) rfl (by kernel_rfl) (by simp) (by kernel_rfl) ?_
  unfold sameC
  generalize decide (a.inputs = b.inputs) = b1 at *
  generalize decide (a.plus = b.plus) = b3 at *
  generalize decide (a.minus = b.minus) = b4 at *
  have hlen := ha.signals
  by_cases hcond : a.actuators = b.actuators ∧ b1 = true ∧ a.signals.length = b.signals.length
  · obtain ⟨h1, rfl, hl⟩ := hcond
    simp
    refine GCall.fn (aB true) (fun h => ⟨by first | trivial | exact h, c1⟩) ?_
    simp [h1, hl]
    refine V.forI (σ := Unit) a.signals.length [2, 3] (by simp; exact rfl) (fun i _ => [(5, aI i)]) (fun _ _ => []) (fun i _ => allEq sameSig a.signals b.signals = allEq sameSig (a.signals.drop i) (b.signals.drop i)) () (by simp) (by simp) ⟨by simp; exact rfl, by simp⟩ ?_ ?_
    · rintro i - hi hI
      obtain ⟨x, hx1⟩ : ∃ x, a.signals[i] = x := ⟨_, rfl⟩
      obtain ⟨y, hy1⟩ : ∃ y, b.signals[i]'(by omega) = y := ⟨_, rfl⟩
      have hxo : a.signals[i]? = some x := by rw [List.getElem?_eq_getElem hi, hx1]
      have hyo : b.signals[i]? = some y := by rw [List.getElem?_eq_getElem (by omega), hy1]
      have hc := SameSignal_fn x y (ha.sigs x (List.mem_of_getElem? hxo)) (hb.sigs y (List.mem_of_getElem? hyo))
      rw [allEq_drop hxo hyo] at hI
      have hi2 : i < b.signals.length := by omega
      generalize sameSig x y = e at hI hc
      simp [← hl, hi]
      refine V.draw (fun t => if t = 45 then some (.fn (aB e)) else none) (by kernel_rfl) (by kernel_rfl) (by simp) ?_
      simp [← hl, hi, hx1, hy1, hi2]
      refine ⟨hc, ?_⟩
      cases e
      · simp at hI
        simp [hI]
      · simp at hI
        simp [hI]
        omega
    · rintro - hI
      rw [List.drop_length, hl, List.drop_length] at hI
      simp [hl, hI, allEq, h1]
      refine c3.s ?_
      simp
      refine GCall.fn (aB b4) (fun h => ⟨by first | trivial | exact h, c4⟩) ?_
      simp [hI, allEq, h1]
  · have e : (a.actuators == b.actuators && b1 && allEq sameSig a.signals b.signals && b3 && b4) = false := by
      by_cases h1 : a.actuators = b.actuators
      · cases b1
        · simp
        · rw [allEq_ne (fun h => hcond ⟨h1, rfl, h⟩)]
          simp
      · simp [h1]
    rw [e]
    simp
    refine GCall.fn (aB b1) (fun h => ⟨by first | trivial | exact h, c1⟩) ?_
    simp
    intro h1 h2 h3
    exact absurd ⟨h1, h2, by omega⟩ hcond

end Go.Proofs.Ytgceiedihmgooaa
end

/- The law of checks. -/
section
namespace Go.Proofs.Ytgceiedihmgooaa
set_option maxHeartbeats 4000000
set_option maxRecDepth 10000

theorem light_check {x : Expr} {n : Int} (h : checkE x n = 0) : lightE x = true := by
  rw [← check_same] at h
  unfold refCheckE at h
  cases hl : lightE x
  · rw [hl] at h
    split at h
    · cases h
    · simp at h
  · rfl
theorem light_zero {x : Expr} (h : zeroE x = true) : lightE x = true := by
  have ha : x.args = [] := by
    simp [zeroE] at h
    exact h.2
  rw [light_iff, szE_eq, dpE_eq, ha]
  simp [szL, dpL]
theorem sameX_refl {x : Expr} (h : lightE x = true) : sameX x x = true := by
  rw [sameX, h, eqE_refl (SizeOf.sizeOf x + 1) x (by omega)]
  rfl
theorem fine_off {c : Control} (hf : Fine c) {i : Nat} {s : Signal} (hi : c.signals[i]? = some s) : lightE s.off = true := by
  have h := hf.sigs i s hi
  have hk := (hf.on hi).2
  unfold signalE at h
  split at h
  · rename_i h1; exact absurd h h1
  · split at h
    · cases h
    · split at h
      · rename_i h1; exact absurd h h1
      · split at h
        · refine light_zero ?_
          cases hz : zeroE s.off
          · unfold gateE at h
            split at h
            · cases h
            · simp [hz] at h
          · rfl
        · split at h
          · unfold memE at h
            split at h
            · rename_i h1; exact absurd h h1
            · rename_i h1; exact light_check (Classical.not_not.1 h1)
          · refine light_zero ?_
            cases hz : zeroE s.off
            · unfold timE at h
              split at h
              · cases h
              · simp [hz] at h
            · rfl
theorem sameC_refl {c : Control} (h : checkC c = 0) : sameC c c = true := by
  have hf := fine_of h
  unfold sameC
  rw [allEq_refl]
  · simp
  · intro s hs
    obtain ⟨i, hi⟩ := List.getElem?_of_mem hs
    have h1 := sameX_refl (light_check (hf.on hi).1)
    have h2 := sameX_refl (fine_off hf hi)
    simp [sameSig, h1, h2]

theorem Checks_fn (c d : Control) (hc : OkC c) (hd : OkC d) : CallFn Try.prog 8 [aC c, aC d] (aB true) := by
  refine callFz_of Try.func8 rfl Try.ntmps8 (rs := [.tmp 4]) rfl (by kernel_rfl) (by simp) (by kernel_rfl) ?_
  simp
  refine (Few_fn c hc).s ?_
  simp
  refine GCall.fn (aB (fewC d)) (fun h => ⟨by first | trivial | exact h, Few_fn d hd⟩) ?_
  simp
  refine ⟨fun h => awake_fn.s (by simp), fun h1 h2 => ?_⟩
  have c1 := Check_fn c hc
  have c2 := CheckR_fn c hc (few_c h1).1 (few_c h1).2
  have c3 := Same_fn c d hc hd
  have c4 := SameR_fn c d hc hd
  have c5 := Same_fn c c hc hc
  have e : checkC c = 0 → sameC c c = true := sameC_refl
  generalize checkC c = r at *
  generalize sameC c d = q at *
  generalize sameC c c = p at *
  refine V.draw (fun t => if t = 15 then some (.fn (aI r)) else if t = 17 then some (.fn (aI r)) else if t = 22 then some (.fn (aB q)) else if t = 25 then some (.fn (aB q)) else if t = 30 then some (.fn (aI r)) else if t = 35 then some (.fn (aB p)) else if t = 39 then some (.fn (aB true)) else none) (by kernel_rfl) (by kernel_rfl) (by simp) ?_
  simp
  exact ⟨c1, c2, c3, c4, c2, fun h => ⟨h, c5⟩, fun _ => awake_fn, by
    by_cases h : r = 0
    · exact .inr (e h)
    · exact .inl h⟩

end Go.Proofs.Ytgceiedihmgooaa
end

/- The law of what follows. -/
section
namespace Go.Proofs.Ytgceiedihmgooaa
set_option maxHeartbeats 4000000
set_option maxRecDepth 10000

theorem Follows_fn (c : Control) (s : State) (hc : OkC c) (hs : OkSt s) : CallFn Try.prog 5 [aC c, aSt s] (aB true) := by
  refine callFz_of Try.func5 rfl Try.ntmps5 (rs := [.tmp 4]) rfl (by kernel_rfl) (by simp) (by kernel_rfl) ?_
  simp
  refine (right_fn c s hc hs).s ?_
  simp
  refine ⟨fun h => awake_fn.s (by simp), fun h => ?_⟩
  simp only [rightB, Bool.and_eq_true, beq_iff_eq] at h
  obtain ⟨⟨h1, h2⟩, h3⟩ := h
  have hsm := few_sm h2
  obtain ⟨z1, z2, z3⟩ := right_zero h3
  have hf := fine_of z1
  have hT3 := gates_right h3
  have hT4 := gates_twice hf z2
  have hTo := gatesP_ok (c := c) hs
  have hTs := gates_shape z2
  have f1 : ∀ (i : Nat) (x : Signal), c.signals[i]? = some x → x.kind ≠ 0 → (gatesP c s).values[i]? = s.values[i]? := fun i x hx hk => gates_keep (by simpa [kindAt, hx] using hk)
  have f2 : ∀ (i : Nat) (x : Signal), c.signals[i]? = some x → x.kind = 0 → (gatesP c s).values[i]? = some (evalE x.on (valuesOf (gatesP c s))) := fun i x hx hk => gates_gate hf z2 hx hk
  have hE : (gatesP c s).ends = s.ends ∧ (gatesP c s).valves = s.valves ∧ (gatesP c s).inputs = s.inputs ∧ (gatesP c s).timers = s.timers := ⟨rfl, rfl, rfl, rfl⟩
  have c1 := Gates_fn c s hc hsm
  rw [show gatesR c s = (gatesP c s, 0) by simp [gatesR, h3]] at c1
  have hTm : SmS (gatesP c s) := by
    obtain ⟨g1, g2, g3, g4, g5⟩ := hsm
    obtain ⟨e1, e2, e3, e4⟩ := hE
    obtain ⟨k1, k2, k3, k4, k5⟩ := hTs
    obtain ⟨l1, l2, l3, l4, l5⟩ := z2
    exact ⟨by rw [e1]; exact g1, by rw [e2]; exact g2, by rw [e3]; exact g3, by omega, by rw [e4]; exact g5⟩
  have c2 := Gates_fn c (gatesP c s) hc hTm
  rw [show gatesR c (gatesP c s) = (gatesP c s, 0) by simp [gatesR, hT3, hT4]] at c2
  have c3 := SameStatesR_fn _ _ hTo hTo
  rw [sameSt_refl] at c3
  have c4 := Right_fn c (gatesP c s) hc hTm
  rw [hT3] at c4
  have c5 := SameStatesR_fn s s hs hs
  rw [sameSt_refl] at c5
  have c6 : ∀ x : Expr, OkE x → checkE x (countC c) = 0 → CallFn Try.prog 21 [aC c, aSt (gatesP c s), aE x] (.tuple [aB (evalE x (valuesOf (gatesP c s))), aI 0]) := by
    intro x hx he
    have := EvalC_fn c (gatesP c s) x hc hTm hx
    rw [show evalP c (gatesP c s) x = (evalE x (valuesOf (gatesP c s)), 0) by simp [evalP, hT3, he]] at this
    exact this
  have hl : (gatesP c s).values.length = s.values.length := hTs.2.2.2.1.trans z2.2.2.2.1.symm
  have hl2 : s.values.length = c.signals.length := z2.2.2.2.1
  clear hT3 hT4 hTo hTs hTm
  generalize gatesP c s = T at *
  obtain ⟨e1, e2, e3, e4⟩ := hE
  refine c1.s ?_
  simp
  intro b5
  refine c2.s ?_
  simp
  intro b7
  refine GCall.fn (aB true) (fun h => ⟨by first | trivial | exact h, c3⟩) ?_
  simp
  refine GCall.fn (aI 0) (fun h => ⟨by first | trivial | exact h, c4⟩) ?_
  simp [hl]
  refine V.forI (σ := Unit) c.signals.length [2, 3, 5, 56, 57] (by simp; exact rfl) (fun i _ => [(58, aI i)]) (fun _ _ => []) (fun _ _ => True) () trivial (by simp) ⟨by simp; exact rfl, by simp⟩ ?_ ?_
  · rintro i - hi -
    obtain ⟨x, hx⟩ : ∃ x, c.signals[i] = x := ⟨_, rfl⟩
    have hxo : c.signals[i]? = some x := by rw [List.getElem?_eq_getElem hi, hx]
    have hcl := hf.sig
    have hTi : i < T.values.length := by omega
    have hsi : i < s.values.length := by omega
    simp [hi, hx]
    intro b10
    by_cases hk : x.kind = 0
    · have hv := f2 i x hxo hk
      have cE := c6 x.on (hc.sigs x (List.mem_of_getElem? hxo)).on (hf.on hxo).1
      generalize evalE x.on (valuesOf T) = v at *
      simp [hk]
      refine cE.s ?_
      simp [hv, hTi]
      obtain ⟨_, hvv⟩ := List.getElem?_eq_some_iff.1 hv
      exact ⟨hvv.symm, fun _ => by omega⟩
    · have hv := f1 i x hxo hk
      have hso : s.values[i]? = some s.values[i] := List.getElem?_eq_getElem hsi
      rw [hso] at hv
      simp [hk]
      refine V.draw (fun _ => none) (by kernel_rfl) (by kernel_rfl) (by simp) ?_
      simp [hv, hso, hTi, hsi]
      obtain ⟨_, hvv⟩ := List.getElem?_eq_some_iff.1 hv
      exact ⟨hvv, fun _ => by omega⟩
  · rintro - -
    simp
    rw [e1, e2, e3, e4]
    refine c5.s ?_
    simp
    refine GCall.fn (aB true) (fun h => ⟨by first | trivial | exact h, awake_fn⟩) ?_
    simp

end Go.Proofs.Ytgceiedihmgooaa
end

/- The law of what belongs together. -/
section
namespace Go.Proofs.Ytgceiedihmgooaa
set_option maxHeartbeats 4000000
set_option maxRecDepth 10000

theorem Belongs_fn (c : Control) (hc : OkC c) : CallFn Try.prog 7 [aC c] (aB true) := by
  refine callFz_of Try.func7 rfl Try.ntmps7 (rs := [.tmp 2]) rfl (by kernel_rfl) (by simp) (by kernel_rfl) ?_
  simp
  refine (Few_fn c hc).s ?_
  simp
  refine GCall.fn (aI (checkC c)) (fun h => ⟨by first | trivial | exact h, CheckR_fn c hc (few_c h).1 (few_c h).2⟩) ?_
  simp
  refine ⟨fun h => awake_fn.s (by simp), fun h1 h2 => ?_⟩
  have hf := fine_of h2
  have hsm := hf.sm
  have hcn : countC c = 2 * c.actuators + c.inputs.length + c.signals.length := rfl
  have ha := hf.act
  have hin := hf.inp
  have hsg := hf.sig
  obtain ⟨M, hM⟩ : ∃ M : Nat, countC c = M := ⟨(countC c).toNat, by omega⟩
  obtain ⟨A0, hA⟩ : ∃ A0 : Nat, c.actuators = A0 := ⟨c.actuators.toNat, by omega⟩
  refine (lines_fn c hsm).s ?_
  rw [hM]
  simp
  refine V.forI (σ := Unit) M [1, 25] (by simp; exact rfl) (fun i _ => [(26, aI i)]) (fun _ _ => []) (fun _ _ => True) () trivial (by simp) ⟨by simp; exact rfl, by simp⟩ ?_ ?_
  · rintro i - hi -
    have hln := line_name h2 (k := i) (by omega)
    have c1 := Name_fn c i hc
    have c2 := Line_fn c hc (namedC c i)
    rw [hln.1] at c1
    rw [hln.2] at c2
    simp [hi]
    refine c1.s ?_
    simp
    refine c2.s ?_
    simp
    omega
  · rintro - -
    simp
    have c3 := First_fn c hc
    rw [if_pos h2, h2] at c3
    have hfr := first_right h2
    have hfv : ∀ i : Nat, (i : Int) < c.actuators → valueP c (firstSt c) (2 * i) = (true, 0) ∧ valueP c (firstSt c) (2 * i + 1) = (false, 0) := fun i hi => first_values h2 hi
    have hi1 : (firstSt c).inputs = List.replicate c.inputs.length false := rfl
    have hi2 : (firstSt c).valves = List.replicate c.actuators.toNat false := rfl
    have hfs : SmS (firstSt c) := by
      have := newSt_sm hf
      obtain ⟨g1, g2, g3, g4, g5⟩ := this
      exact ⟨g1, g2, g3, by show (gvals c _ _).length ≤ _; rw [gvals_length]; exact g4, g5⟩
    have c4 := Right_fn c (firstSt c) hc hfs
    rw [hfr] at c4
    have hS1 : Sh (firstSt c).inputs := by have := hfs.inputs; unfold Sh; omega
    have hS2 : Sh (firstSt c).valves := by have := hfs.valves; unfold Sh; omega
    have c5 := containsB_fn (firstSt c).inputs true hS1
    have c6 := containsB_fn (firstSt c).valves true hS2
    have e5 : (firstSt c).inputs.any (true == ·) = false := by rw [hi1, List.any_eq_false]; intro b hb; rw [List.eq_of_mem_replicate hb]; decide
    have e6 : (firstSt c).valves.any (true == ·) = false := by rw [hi2, List.any_eq_false]; intro b hb; rw [List.eq_of_mem_replicate hb]; decide
    rw [e5] at c5
    rw [e6] at c6
    have c7 : ∀ k : Int, CallFn Try.prog 24 [aC c, aSt (firstSt c), aI k] (.tuple [aB (valueP c (firstSt c) k).1, aI (valueP c (firstSt c) k).2]) := fun k => Value_fn c (firstSt c) k hc hfs
    clear hi1 hi2 e5 e6 hfr hS1 hS2 hfs
    generalize firstSt c = F at *
    refine c3.s ?_
    simp
    intro b8
    refine GCall.fn (aI 0) (fun h => ⟨by first | trivial | exact h, c4⟩) ?_
    simp
    refine GCall.fn (aB false) (fun h => ⟨by first | trivial | exact h, c5⟩) ?_
    simp
    refine GCall.fn (aB false) (fun h => ⟨by first | trivial | exact h, c6⟩) ?_
    simp
    refine V.forI (σ := Unit) A0 [1, 8, 75] (by simp; exact rfl) (fun i _ => [(76, aI i)]) (fun _ _ => []) (fun _ _ => True) () trivial (by simp) ⟨by simp; exact rfl, by simp⟩ ?_ ?_
    · rintro i - hi -
      have hi' : (i : Int) < c.actuators := by omega
      obtain ⟨v1, v2⟩ := hfv i hi'
      have d1 := c7 (2 * i)
      have d2 := c7 (2 * i + 1)
      rw [v1] at d1
      rw [v2] at d2
      simp [hi', hi]
      refine ⟨by omega, d1.s ?_⟩
      simp
      refine ⟨by omega, by omega, d2.s ?_⟩
      simp
      omega
    · rintro - -
      have hn : ¬ (A0 : Int) < c.actuators ∧ c.actuators ≤ A0 := by omega
      simp [hn.1, hn.2]
      refine awake_fn.s ?_
      simp

end Go.Proofs.Ytgceiedihmgooaa
end
