/- Texts joined by a program: Vc, Vd, Vg. -/
import Derived.Test.YtbhdiijibgdlnaaGreatH6
set_option linter.unusedSimpArgs false
set_option linter.unusedVariables false

/- Plain: what gates were does not matter; a signal that no other uses. -/
section
namespace Go.Proofs.YtbhdiijibgdlnaaGreat
set_option maxHeartbeats 1000000

theorem gates_same {c : Control} (hf : Fine c) {s t : State} (hs : shapeS c s) (ht : shapeS c t) (he : t.ends = s.ends) (hvv : t.valves = s.valves) (hi : t.inputs = s.inputs) (htm : t.timers = s.timers)
    (hv : ∀ k : Nat, kindAt c k ≠ 0 → t.values[k]? = s.values[k]?) : gatesP c t = gatesP c s := by
  have hp : preV t = preV s := by unfold preV; rw [he, hi]
  have hpl := preV_length hs
  have key : ∀ j, j ≤ c.signals.length → ∀ k : Nat, (k < j ∨ kindAt c k ≠ 0) → (gvals c t j)[k]? = (gvals c s j)[k]? := by
    intro j
    induction j with
    | zero =>
      intro _ k hk
      rcases hk with h | h
      · omega
      · exact hv k h
    | succ j ih =>
      intro hj k hk
      have hx : c.signals[j]? = some c.signals[j] := List.getElem?_eq_getElem (by omega)
      rw [gvals_at hx, gvals_at hx]
      by_cases h0 : c.signals[j].kind = 0
      · rw [if_pos h0, if_pos h0]
        have he2 : evalE c.signals[j].on (valuesOf { t with values := gvals c t j }) = evalE c.signals[j].on (valuesOf { s with values := gvals c s j }) := by
          rw [valuesOf_with, valuesOf_with, hp]
          refine evalE_congr (SizeOf.sizeOf c.signals[j].on + 1) _ (by omega) fun n hn => ?_
          have hvn := vars_check (hf.on hx).1 n hn
          have hl := late_not hf hx h0 n hn
          by_cases h1 : n.toNat < (preV s).length
          · rw [List.getElem?_append_left h1, List.getElem?_append_left h1]
          · rw [List.getElem?_append_right (by omega), List.getElem?_append_right (by omega)]
            obtain ⟨q, hq⟩ : ∃ q : Nat, n - firstC c = q := ⟨(n - firstC c).toNat, by omega⟩
            have e : n.toNat - (preV s).length = q := by omega
            rw [e]
            rw [hq] at hl
            refine ih (by omega) q ?_
            rcases hl with h | h
            · exact .inl (by omega)
            · exact .inr h
        by_cases hkj : j = k
        · subst hkj
          rw [he2, List.getElem?_set, List.getElem?_set, gvals_length, gvals_length, ht.2.2.2.1, hs.2.2.2.1, if_pos rfl, if_pos rfl]
        · rw [List.getElem?_set_ne hkj, List.getElem?_set_ne hkj]
          refine ih (by omega) k ?_
          rcases hk with h | h
          · exact .inl (by omega)
          · exact .inr h
      · rw [if_neg h0, if_neg h0]
        refine ih (by omega) k ?_
        by_cases hkj : k = j
        · right
          rw [hkj]
          simpa [kindAt, hx] using h0
        · rcases hk with h | h
          · exact .inl (by omega)
          · exact .inr h
  have e : gvals c t c.signals.length = gvals c s c.signals.length := by
    apply List.ext_getElem?
    intro k
    rcases Nat.lt_or_ge k c.signals.length with h | h
    · exact key _ (Nat.le_refl _) k (.inl h)
    · rw [List.getElem?_eq_none (by rw [gvals_length, ht.2.2.2.1]; exact h), List.getElem?_eq_none (by rw [gvals_length, hs.2.2.2.1]; exact h)]
  unfold gatesP
  rw [e]
  obtain ⟨a1, a2, a3, a4, a5⟩ := s
  obtain ⟨b1, b2, b3, b4, b5⟩ := t
  simp only at he hvv hi htm
  subst he hvv hi htm
  rfl

theorem comp_set {a b : List Int} (h : ∀ z, z ∈ a ↔ z ∈ b) : compI (sortI a) = compI (sortI b) := by
  obtain ⟨c1, c2⟩ := comp_sorted (sortI_sorted a)
  obtain ⟨d1, d2⟩ := comp_sorted (sortI_sorted b)
  refine lt_ext c1 d1 fun z => ?_
  rw [c2, d2]
  simpa [sortI, List.mem_mergeSort] using h z

/-- The same gates: the same course, but for a round. -/
theorem course_same {c : Control} {s t : State} (hg : gatesP c t = gatesP c s) :
    (courseP c 65 0 s [] = none ∧ courseP c 65 0 t [] = none) ∨ ∃ x bad bad' n n', courseP c 65 0 s [] = some (x, bad, n) ∧ courseP c 65 0 t [] = some (x, bad', n') ∧ ∀ z, z ∈ bad ↔ z ∈ bad' := by
  have hr : roundS c t = roundS c s := by unfold roundS; rw [hg]
  have hb : roundB c t = roundB c s := by unfold roundB; rw [hg]
  rw [courseP_step (s := s), courseP_step (s := t), hr, hb]
  by_cases h1 : roundS c s = s
  · rw [if_pos h1]
    by_cases h2 : roundS c s = t
    · rw [if_pos h2]
      have : s = t := by rw [← h1, h2]
      subst this
      exact .inr ⟨_, _, _, _, _, rfl, rfl, fun z => Iff.rfl⟩
    · rw [if_neg h2, h1, course_rest h1]
      exact .inr ⟨_, _, _, _, _, rfl, rfl, fun z => by simp⟩
  · rw [if_neg h1]
    by_cases h2 : roundS c s = t
    · rw [if_pos h2]
      have h3 : roundS c t = t := by rw [hr, h2]
      rw [h2, course_rest h3]
      exact .inr ⟨_, _, _, _, _, rfl, rfl, fun z => by simp [hb]⟩
    · rw [if_neg h2]
      cases hq : courseP c 64 (0 + 1) (roundS c s) ([] ++ roundB c s) with
      | none => exact .inl ⟨rfl, rfl⟩
      | some p =>
        obtain ⟨x, bad, n⟩ := p
        exact .inr ⟨_, _, _, _, _, rfl, rfl, fun z => Iff.rfl⟩

/-! ### Without the last signal -/
def cutC (c : Control) (n : Nat) : Control := { c with signals := c.signals.take n }
def cutS (s : State) (n : Nat) : State := { s with values := s.values.take n, timers := s.timers.take n }
/-- The last signal, number n, is not used by the others, and no pilot. -/
structure Loose (c : Control) (n : Nat) : Prop where
  len : c.signals.length = n + 1
  sig : ∀ (i : Nat) (x : Signal), i < n → c.signals[i]? = some x → occE x.on (firstC c + n) = false ∧ occE x.off (firstC c + n) = false
  plus : firstC c + n ∉ c.plus
  minus : firstC c + n ∉ c.minus
theorem cut_first (c : Control) (n : Nat) : firstC (cutC c n) = firstC c := rfl
theorem cut_count {c : Control} {n : Nat} (h : Loose c n) : countC (cutC c n) = firstC c + n ∧ countC c = firstC c + n + 1 := by
  have := h.len
  unfold countC firstC
  simp [cutC]
  omega
theorem cut_at {c : Control} {n i : Nat} (h : i < n) : (cutC c n).signals[i]? = c.signals[i]? := by simp [cutC, List.getElem?_take, h]
theorem right_less {m : Int} (hm : 0 ≤ m) : ∀ (N : Nat) (x : Expr), SizeOf.sizeOf x < N → RightE (m + 1) x → m ∉ varsE x → RightE m x
  | 0, _, h, _, _ => absurd h (Nat.not_lt_zero _)
  | N + 1, x, hN, hr, hv => by
    have hL : ∀ l : List Expr, (∀ k, k ∈ varsL l → k ∈ varsL x.args) → ∀ y ∈ l, m ∉ varsE y := by
      intro l
      induction l with
      | nil => intro _ y hy; cases hy
      | cons z l ih =>
        intro hl y hy hm
        rcases List.mem_cons.1 hy with rfl | hy
        · have := hl m (by simp [varsL, hm])
          exact hv (by rw [varsE_eq]; simp [this])
        · exact ih (fun k hk => hl k (by simp [varsL, hk])) y hy hm
    refine .mk x ?_ fun a ha => right_less hm N a (by have := Expr.lt_of_mem ha; omega) (hr.args a ha) (hL x.args (fun _ h => h) a ha)
    have hn := hr.node
    by_cases h1 : x.op = 1
    · have h2 : x.index ≠ m := by
        intro e
        exact hv (by rw [varsE_eq]; simp [h1, e])
      unfold nodeR at hn ⊢
      simp [h1] at hn ⊢
      split at hn
      · cases hn
      · rename_i h3
        rw [if_neg h3]
        omega
    · unfold nodeR at hn ⊢
      simp only [h1, if_false] at hn ⊢
      exact hn
theorem node_all {m : Int} : ∀ (N : Nat) (x : Expr), SizeOf.sizeOf x < N → RightE m x → ∀ d p, p ∈ preE x d → nodeR p.2 m = 0
  | 0, _, h, _, _, _, _ => absurd h (Nat.not_lt_zero _)
  | N + 1, x, hN, hr, d, p, hp => by
    rw [preE_eq] at hp
    rcases List.mem_cons.1 hp with rfl | hp
    · exact hr.node
    · split at hp
      · have hL : ∀ l : List Expr, (∀ y ∈ l, y ∈ x.args) → p ∈ preL l (d + 1) → nodeR p.2 m = 0 := by
          intro l
          induction l with
          | nil => intro _ h; cases h
          | cons z l ih =>
            intro hl h
            simp only [preL, List.mem_append] at h
            rcases h with h | h
            · have hz := hl z (by simp)
              exact node_all N z (by have := Expr.lt_of_mem hz; omega) (hr.args z hz) _ _ h
            · exact ih (fun y hy => hl y (by simp [hy])) h
        exact hL x.args (fun _ h => h) hp
      · cases hp
theorem check_of {x : Expr} {m : Int} (hr : RightE m x) (h0 : 0 ≤ m) (h1 : m ≤ 256) {n : Int} (hx : checkE x n = 0) : checkE x m = 0 := by
  have hm : ∃ p, meas x = .ok p := by
    unfold checkE at hx
    split at hx
    · cases hx
    · cases hme : meas x with
      | error e => rw [hme] at hx; simp at hx
      | ok p => exact ⟨p, rfl⟩
  obtain ⟨p, hp⟩ := hm
  have hall : ∀ l : List (Int × Expr), (∀ q ∈ l, nodeR q.2 m = 0) → l.foldlM (nodeS m) () = .ok () := by
    intro l
    induction l with
    | nil => intro _; rfl
    | cons q l ih =>
      intro h
      rw [List.foldlM_cons]
      simp only [nodeS, h q (by simp), ne_eq, not_true_eq_false, if_false]
      exact ih fun y hy => h y (by simp [hy])
  unfold checkE
  rw [if_neg (by omega), hp, hall _ (fun q hq => node_all (SizeOf.sizeOf x + 1) x (by omega) hr 1 q hq)]
theorem check_less {x : Expr} {m : Int} (hm : 0 ≤ m) (h : checkE x (m + 1) = 0) (ho : occE x m = false) : checkE x m = 0 := by
  obtain ⟨h1, h2, h3⟩ := right_of_check h
  have hv : m ∉ varsE x := by
    rw [occ_vars (SizeOf.sizeOf x + 1) x (by omega) h1 m, List.any_eq_false] at ho
    intro hm
    have := ho m hm
    simp at this
  exact check_of (right_less hm (SizeOf.sizeOf x + 1) x (by omega) h1 hv) hm (by omega) h
theorem occ_less {x : Expr} {m : Int} {n : Int} (h : checkE x n = 0) (ho : occE x m = false) : m ∉ varsE x := by
  obtain ⟨h1, h2, h3⟩ := right_of_check h
  rw [occ_vars (SizeOf.sizeOf x + 1) x (by omega) h1 m, List.any_eq_false] at ho
  intro hm
  have := ho m hm
  simp at this
theorem cut_named {c : Control} {n : Nat} (h : Loose c n) {k : Nat} (hk : (k : Int) < firstC c + n) : namedC (cutC c n) k = namedC c k := by
  unfold namedC
  rw [cut_first]
  show (if (k : Int) < 2 * c.actuators then _ else _) = _
  by_cases h1 : (k : Int) < 2 * c.actuators
  · rw [if_pos h1, if_pos h1]
  · rw [if_neg h1, if_neg h1]
    by_cases h2 : (k : Int) < firstC c
    · rw [if_pos h2, if_pos h2]; rfl
    · rw [if_neg h2, if_neg h2, cut_at (by omega)]
theorem cut_names {c : Control} {n : Nat} (h : Loose c n) {m : Nat} (hm : (m : Int) ≤ firstC c + n) : namesB (cutC c n) m = namesB c m := by
  unfold namesB
  apply List.map_congr_left
  intro k hk
  simp only [List.mem_range] at hk
  exact cut_named h (by omega)
theorem cut_kind {c : Control} {n : Nat} {k : Int} (h : k.toNat < n) : kindAt (cutC c n) k = kindAt c k := by
  unfold kindAt
  rw [cut_at h]
theorem cut_check {c : Control} {n : Nat} (h : Loose c n) (hc : checkC c = 0) : checkC (cutC c n) = 0 := by
  have hf := fine_of hc
  have ha := hf.act
  have hlen := h.len
  obtain ⟨e1, e2⟩ := cut_count h
  have h0 : 0 ≤ firstC c := by unfold firstC; omega
  have hfc : firstC c = 2 * c.actuators + c.inputs.length := rfl
  unfold checkC at hc ⊢
  split at hc
  · cases hc
  · rename_i ha1
    rw [if_neg (by exact ha1)]
    split at hc
    · cases hc
    · rename_i hb1
      have hlt : (cutC c n).signals.length = n := by simp [cutC]; omega
      rw [if_neg (by rw [hlt]; show ¬(c.inputs.length > 16 ∨ _); omega)]
      split at hc
      · rename_i h1; exact absurd hc h1
      · rename_i hi1
        have hi2 := firstErr_zero (Classical.not_not.1 hi1)
        have hi3 : firstErr (inpE (cutC c n)) (List.range (cutC c n).inputs.length) = 0 := by
          refine firstErr_all fun i hi => ?_
          rw [← hi2 i hi]
          have hi' : i < c.inputs.length := hi
          unfold inpE
          show nameE (namedC (cutC c n) ((2 * c.actuators.toNat + i : Nat) : Int)) (namesB (cutC c n) (2 * c.actuators.toNat + i)) = _
          rw [cut_named h (by omega), cut_names h (by omega)]
        rw [if_neg (by rw [hi3]; simp)]
        split at hc
        · rename_i h1; exact absurd hc h1
        · rename_i hs1
          have hs2 := firstErr_zero (Classical.not_not.1 hs1)
          have hs3 : firstErr (sigE (cutC c n)) (List.range (cutC c n).signals.length) = 0 := by
            refine firstErr_all fun i hi => ?_
            rw [hlt] at hi
            have hz := hs2 i (by omega)
            have hx : c.signals[i]? = some c.signals[i] := List.getElem?_eq_getElem (by omega)
            unfold sigE at hz ⊢
            rw [cut_at hi]
            rw [hx] at hz ⊢
            obtain ⟨o1, o2⟩ := h.sig i _ hi hx
            generalize c.signals[i] = x at *
            simp only at hz ⊢
            show signalE (cutC c n) i x (namesB (cutC c n) (2 * c.actuators.toNat + c.inputs.length + i)) = 0
            rw [cut_names h (by omega)]
            unfold signalE at hz ⊢
            by_cases g1 : nameE x.name (namesB c (2 * c.actuators.toNat + c.inputs.length + i)) ≠ 0
            · rw [if_pos g1] at hz; exact absurd hz g1
            · rw [if_neg g1] at hz ⊢
              by_cases g2 : x.kind < 0 ∨ x.kind ≥ 3
              · rw [if_pos g2] at hz; cases hz
              · rw [if_neg g2] at hz ⊢
                by_cases g3 : checkE x.on (countC c) ≠ 0
                · rw [if_pos g3] at hz; exact absurd hz g3
                · rw [if_neg g3] at hz
                  have g4 := Classical.not_not.1 g3
                  have g5 : checkE x.on (countC (cutC c n)) = 0 := by
                    rw [e1]
                    rw [e2] at g4
                    exact check_less (by omega) g4 o1
                  rw [if_neg (by rw [g5]; simp)]
                  by_cases k0 : x.kind = 0
                  · rw [if_pos k0] at hz ⊢
                    have hl : lateC (cutC c n) i x.on = lateC c i x.on := by
                      rw [lateC_any, lateC_any, cut_first]
                      have key : ∀ l : List Int, (∀ k ∈ l, k ∈ varsE x.on) → (l.any fun k => decide ((i : Int) ≤ k - firstC c) && kindAt (cutC c n) (k - firstC c) == 0) = (l.any fun k => decide ((i : Int) ≤ k - firstC c) && kindAt c (k - firstC c) == 0) := by
                        intro l
                        induction l with
                        | nil => intro _; rfl
                        | cons k l ih =>
                          intro hl
                          rw [List.any_cons, List.any_cons, ih fun y hy => hl y (by simp [hy])]
                          congr 1
                          have h1 := vars_check g5 k (hl k (by simp))
                          rw [cut_kind (by omega)]
                      exact key _ fun _ h => h
                    unfold gateE at hz ⊢
                    rw [hl]
                    exact hz
                  · rw [if_neg k0] at hz ⊢
                    by_cases k1 : x.kind = 1
                    · rw [if_pos k1] at hz ⊢
                      unfold memE at hz ⊢
                      by_cases g6 : checkE x.off (countC c) ≠ 0
                      · rw [if_pos g6] at hz; exact absurd hz g6
                      · rw [if_neg g6] at hz
                        have g7 := Classical.not_not.1 g6
                        have g8 : checkE x.off (countC (cutC c n)) = 0 := by
                          rw [e1]
                          rw [e2] at g7
                          exact check_less (by omega) g7 o2
                        rw [if_neg (by rw [g8]; simp)]
                        exact hz
                    · rw [if_neg k1] at hz ⊢
                      exact hz
          rw [if_neg (by rw [hs3]; simp)]
          unfold pilotE at hc ⊢
          split at hc
          · cases hc
          · rename_i hp1
            rw [if_neg (by exact hp1)]
            split at hc
            · cases hc
            · rename_i hp2
              rw [if_neg]
              rw [Bool.not_eq_true, List.any_eq_false] at hp2 ⊢
              intro l hl
              have h1 := hp2 l hl
              simp only [Bool.or_eq_true, decide_eq_true_eq, not_or] at h1 ⊢
              have h2 : l ≠ firstC c + n := by
                rintro rfl
                rcases List.mem_append.1 hl with h3 | h3
                · exact h.plus h3
                · exact h.minus h3
              rw [e1]
              rw [e2] at h1
              omega
theorem cut_shape {c : Control} {n : Nat} (h : Loose c n) {s : State} (hs : shapeS c s) : shapeS (cutC c n) (cutS s n) := by
  obtain ⟨h1, h2, h3, h4, h5⟩ := hs
  have := h.len
  refine ⟨h1, h2, h3, ?_, ?_⟩
  · simp [cutC, cutS]; omega
  · simp [cutC, cutS]; omega
theorem cut_right {c : Control} {n : Nat} (h : Loose c n) {s : State} (hs : rightC c s = 0) : rightC (cutC c n) (cutS s n) = 0 := by
  obtain ⟨z1, z2, z3⟩ := right_zero hs
  have hsh := cut_shape h z2
  have hlen := h.len
  have hl4 := z2.2.2.2.1
  have hl5 := z2.2.2.2.2
  unfold fitsSt at z3
  rw [if_neg (by simpa using z2)] at z3
  split at z3
  · cases z3
  · rename_i hout
    simp only [Bool.or_eq_true, not_or, Bool.not_eq_true] at hout
    have hz := firstErr_zero z3
    rw [rightC, if_neg (by simpa using cut_check h z1)]
    unfold fitsSt
    rw [if_neg (by simpa using hsh), if_neg]
    · refine firstErr_all fun i hi => ?_
      have hi2 : i < n := by simp [cutS] at hi; omega
      have h0 := hz i (by omega)
      unfold tsE at h0 ⊢
      rw [cut_at hi2]
      simp only [cutS, List.getElem?_take, hi2, if_true]
      exact h0
    · have h2 : (cutS s n).timers.any (outR 3) = false := by
        rw [List.any_eq_false]
        intro t ht
        exact List.any_eq_false.1 hout.2 t (List.mem_of_mem_take ht)
      have h1 : (cutS s n).ends.any (outR 4) = false := hout.1
      rw [h1, h2]
      simp
theorem cut_pre (s : State) (n : Nat) : preV (cutS s n) = preV s := rfl
/-- An expression that does not use the last line. -/
theorem cut_eval {c : Control} {n : Nat} (h : Loose c n) {s : State} (hs : shapeS c s) {x : Expr} (hx : checkE x (countC c) = 0) (ho : occE x (firstC c + n) = false) {l m : List Bool} (hl : ∀ k, k < n → l[k]? = m[k]?) :
    evalE x (preV s ++ l) = evalE x (preV s ++ m) := by
  have hpl := preV_length hs
  obtain ⟨e1, e2⟩ := cut_count h
  refine evalE_congr (SizeOf.sizeOf x + 1) _ (by omega) fun k hk => ?_
  have hv := vars_check hx k hk
  have hne : k ≠ firstC c + n := fun e => occ_less hx ho (e ▸ hk)
  by_cases h1 : k.toNat < (preV s).length
  · rw [List.getElem?_append_left h1, List.getElem?_append_left h1]
  · rw [List.getElem?_append_right (by omega), List.getElem?_append_right (by omega)]
    exact hl _ (by omega)
theorem cut_gvals {c : Control} {n : Nat} (h : Loose c n) (hf : Fine c) {s : State} (hs : shapeS c s) : ∀ i, i ≤ n → gvals (cutC c n) (cutS s n) i = (gvals c s i).take n := by
  intro i
  induction i with
  | zero => intro _; rfl
  | succ i ih =>
    intro hi
    have hlen := h.len
    have hx : c.signals[i]? = some c.signals[i] := List.getElem?_eq_getElem (by omega)
    have hx2 : (cutC c n).signals[i]? = some c.signals[i] := by rw [cut_at (by omega)]; exact hx
    rw [gvals_at hx, gvals_at hx2, ih (by omega)]
    by_cases h0 : c.signals[i].kind = 0
    · rw [if_pos h0, if_pos h0, valuesOf_with, valuesOf_with, cut_pre, List.take_set]
      rw [cut_eval h hs (hf.on hx).1 (h.sig i _ (by omega) hx).1 (l := (gvals c s i).take n) (m := gvals c s i)]
      intro k hk
      rw [List.getElem?_take, if_pos hk]
    · rw [if_neg h0, if_neg h0]
theorem cut_gates {c : Control} {n : Nat} (h : Loose c n) (hf : Fine c) {s : State} (hs : shapeS c s) : gatesP (cutC c n) (cutS s n) = cutS (gatesP c s) n := by
  have hlen := h.len
  have hx : c.signals[n]? = some c.signals[n] := List.getElem?_eq_getElem (by omega)
  have hl : (cutC c n).signals.length = n := by simp [cutC]; omega
  unfold gatesP
  rw [hl, cut_gvals h hf hs n (Nat.le_refl _), hlen, gvals_at hx]
  split
  · unfold cutS
    simp only
    rw [List.take_set_of_le (Nat.le_refl _)]
  · rfl
theorem cut_sig {c : Control} {n : Nat} (h : Loose c n) (hf : Fine c) {s : State} (hs : shapeS c s) {i : Nat} (hi : i < n) : sigStep (cutC c n) (cutS s n) (valuesOf (cutS s n)) i = sigStep c s (valuesOf s) i := by
  have hlen := h.len
  have hx : c.signals[i]? = some c.signals[i] := List.getElem?_eq_getElem (by omega)
  have hx2 : (cutC c n).signals[i]? = some c.signals[i] := by rw [cut_at (by omega)]; exact hx
  have h4 := hs.2.2.2.1
  have h5 := hs.2.2.2.2
  have hv : s.values[i]? = some s.values[i] := List.getElem?_eq_getElem (by omega)
  have ht : s.timers[i]? = some s.timers[i] := List.getElem?_eq_getElem (by omega)
  have hv2 : (cutS s n).values[i]? = some s.values[i] := by simp only [cutS, List.getElem?_take, hi, if_true]; exact hv
  have ht2 : (cutS s n).timers[i]? = some s.timers[i] := by simp only [cutS, List.getElem?_take, hi, if_true]; exact ht
  obtain ⟨o1, o2⟩ := h.sig i _ hi hx
  have hcut : ∀ k, k < n → (cutS s n).values[k]? = s.values[k]? := by intro k hk; simp only [cutS, List.getElem?_take, hk, if_true]
  rw [sigStep_at hx hv ht, sigStep_at hx2 hv2 ht2, valuesOf_eq, valuesOf_eq, cut_pre, cut_eval h hs (hf.on hx).1 o1 hcut]
  by_cases hk : c.signals[i].kind = 1
  · rw [cut_eval h hs (off_ok hf hx hk) o2 hcut]
  · have : (c.signals[i].kind == 1) = false := by simpa using hk
    rw [this]
    rfl
theorem cut_once {c : Control} {n : Nat} (h : Loose c n) (hf : Fine c) {s : State} (hs : shapeS c s) : onceS (cutC c n) (cutS s n) = cutS (onceS c s) n := by
  have hlen := h.len
  have hl : (cutC c n).signals.length = n := by simp [cutC]; omega
  have e1 : newV (cutC c n) (cutS s n) = (newV c s).take n := by
    unfold newV
    rw [hl, ← List.map_take, List.take_range, Nat.min_eq_left (by omega)]
    apply List.map_congr_left
    intro i hi
    simp only [List.mem_range] at hi
    rw [cut_sig h hf hs hi]
  have e2 : newT (cutC c n) (cutS s n) = (newT c s).take n := by
    unfold newT
    rw [hl, ← List.map_take, List.take_range, Nat.min_eq_left (by omega)]
    apply List.map_congr_left
    intro i hi
    simp only [List.mem_range] at hi
    rw [cut_sig h hf hs hi]
  unfold onceS
  rw [e1, e2]
  rfl
theorem cut_round {c : Control} {n : Nat} (h : Loose c n) (hf : Fine c) {s : State} (hs : shapeS c s) : roundS (cutC c n) (cutS s n) = cutS (roundS c s) n := by
  unfold roundS
  rw [cut_gates h hf hs, cut_once h hf (gates_shape hs)]
theorem after_shape {c : Control} {s : State} (hs : shapeS c s) : ∀ j, shapeS c (afterN c s j)
  | 0 => hs
  | j + 1 => by rw [after_snoc]; exact round_shape (after_shape hs j)
theorem cut_after {c : Control} {n : Nat} (h : Loose c n) (hf : Fine c) {s : State} (hs : shapeS c s) : ∀ j, afterN (cutC c n) (cutS s n) j = cutS (afterN c s j) n
  | 0 => rfl
  | j + 1 => by rw [after_snoc, after_snoc, cut_after h hf hs j, cut_round h hf (after_shape hs j)]
theorem after_rest {c : Control} {s : State} {j : Nat} (h : roundS c (afterN c s j) = afterN c s j) : ∀ m, j ≤ m → afterN c s m = afterN c s j := by
  intro m hm
  induction m with
  | zero => obtain rfl : j = 0 := by omega
            rfl
  | succ m ih =>
    rcases Nat.lt_or_ge j (m + 1) with h1 | h1
    · rw [after_snoc, ih (by omega)]; exact h
    · obtain rfl : j = m + 1 := by omega
      rfl
theorem cut_course {c : Control} {n : Nat} (h : Loose c n) (hf : Fine c) {s : State} (hs : shapeS c s) {x : State} {bad : List Int} {m : Int} (hc : courseP c 65 0 s [] = some (x, bad, m)) :
    ∃ bad' m', courseP (cutC c n) 65 0 (cutS s n) [] = some (cutS x n, bad', m') := by
  obtain ⟨j, h1, h2, h3, h4, h5, h6, h7⟩ := course_spec 65 0 s [] hc
  have hr : roundS (cutC c n) (afterN (cutC c n) (cutS s n) j) = afterN (cutC c n) (cutS s n) j := by
    rw [cut_after h hf hs j, cut_round h hf (after_shape hs j), ← h3, h4]
  obtain ⟨⟨x', bad', m'⟩, hp⟩ := course_some j 65 0 (cutS s n) [] h1 hr
  obtain ⟨j', g1, g2, g3, g4, g5, g6, g7⟩ := course_spec 65 0 _ [] hp
  rw [hp]
  refine ⟨bad', m', ?_⟩
  have : x' = cutS x n := by
    rw [h3, ← cut_after h hf hs j, g3]
    rcases Nat.lt_or_ge j j' with hlt | hge
    · exact absurd (by rw [after_snoc]; exact hr) (g5 j hlt)
    · exact (after_rest (by rw [← g3]; exact g4) j hge).symm
  rw [this]

end Go.Proofs.YtbhdiijibgdlnaaGreat
end

/- Plain: what Unknown does not call unknown has its value. -/
section
namespace Go.Proofs.YtbhdiijibgdlnaaGreat
set_option maxHeartbeats 1000000

/-- A value 0, 1 or 2 (unknown) tells a truth value. -/
def cov (n : Int) (b : Bool) : Prop := n = 2 ∨ n = if b then 1 else 0
theorem cov_t3 {n : Int} {b : Bool} (h : cov n b) : T3 n := by
  unfold cov at h
  unfold T3
  cases b <;> simp at h <;> omega
theorem thF_cond (s : Int) (us : List Int) : thF s us = bif us.any (· == s) then s else bif us.any (· == 2) then 2 else 1 - s := by
  unfold thF
  cases h1 : us.any (· == s)
  · rw [if_neg (by simp)]
    cases h2 : us.any (· == 2)
    · rw [if_neg (by simp)]; rfl
    · rw [if_pos rfl]; rfl
  · rw [if_pos rfl]; rfl
theorem aux_and (u : Int) (p q r b : Bool) (h0 : cov u b) (ih : cov (bif p then 0 else bif q then 2 else 1 - 0) r) : cov (bif (u == 0 || p) then 0 else bif (u == 2 || q) then 2 else 1 - 0) (b && r) := by
  unfold cov at h0 ih ⊢
  rcases h0 with rfl | rfl <;> cases p <;> cases q <;> cases r <;> cases b <;> simp at ih ⊢
theorem aux_or (u : Int) (p q r b : Bool) (h0 : cov u b) (ih : cov (bif p then 1 else bif q then 2 else 1 - 1) (!r)) : cov (bif (u == 1 || p) then 1 else bif (u == 2 || q) then 2 else 1 - 1) (!(!b && r)) := by
  unfold cov at h0 ih ⊢
  rcases h0 with rfl | rfl <;> cases p <;> cases q <;> cases r <;> cases b <;> simp at ih ⊢
theorem cov_and : ∀ {us : List Int} {bs : List Bool}, us.length = bs.length → (∀ (i : Nat) (u : Int) (b : Bool), us[i]? = some u → bs[i]? = some b → cov u b) → cov (thF 0 us) (bs.all (· == true))
  | [], [], _, _ => by right; simp [thF]
  | [], _ :: _, h, _ => by simp at h
  | _ :: _, [], h, _ => by simp at h
  | u :: us, b :: bs, hl, h => by
    have ih := cov_and (us := us) (bs := bs) (by simpa using hl) (fun i u' b' h1 h2 => h (i + 1) u' b' (by simpa using h1) (by simpa using h2))
    have h0 := h 0 u b rfl rfl
    rw [thF_cond] at ih ⊢
    simp only [List.any_cons, List.all_cons]
    rw [show (b == true) = b by cases b <;> rfl]
    exact aux_and u _ _ _ b h0 ih
theorem cov_or : ∀ {us : List Int} {bs : List Bool}, us.length = bs.length → (∀ (i : Nat) (u : Int) (b : Bool), us[i]? = some u → bs[i]? = some b → cov u b) → cov (thF 1 us) (!bs.all (· == false))
  | [], [], _, _ => by right; simp [thF]
  | [], _ :: _, h, _ => by simp at h
  | _ :: _, [], h, _ => by simp at h
  | u :: us, b :: bs, hl, h => by
    have ih := cov_or (us := us) (bs := bs) (by simpa using hl) (fun i u' b' h1 h2 => h (i + 1) u' b' (by simpa using h1) (by simpa using h2))
    have h0 := h 0 u b rfl rfl
    rw [thF_cond] at ih ⊢
    simp only [List.any_cons, List.all_cons]
    rw [show (b == false) = !b by cases b <;> rfl]
    exact aux_or u _ _ _ b h0 ih
theorem node_op {x : Expr} {n : Int} (h : nodeR x n = 0) : 0 ≤ x.op ∧ x.op < 5 ∧ (x.op = 0 → x.index = 0 ∨ x.index = 1) ∧ (x.op = 1 → 0 ≤ x.index ∧ x.index < n) ∧ (x.op = 2 → ∃ y, x.args = [y]) := by
  unfold nodeR at h
  split at h
  · cases h
  · rename_i h1
    refine ⟨by omega, by omega, ?_, ?_, ?_⟩
    · intro ho
      simp [ho] at h
      split at h
      · cases h
      · omega
    · intro ho
      simp [ho] at h
      split at h
      · cases h
      · omega
    · intro ho
      simp [ho] at h
      have : x.args.length = 1 := by omega
      exact List.length_eq_one_iff.1 this
theorem th_cov {n : Int} {l : List Int} {vs : List Bool} : ∀ (N : Nat) (x : Expr), SizeOf.sizeOf x < N → RightE n x → (∀ k ∈ varsE x, cov (l.getD k.toNat 0) (vs.getD k.toNat false)) → cov (thE x l) (evalE x vs)
  | 0, _, h, _, _ => absurd h (Nat.not_lt_zero _)
  | N + 1, x, hN, hr, hv => by
    obtain ⟨n1, n2, n3, n4, n5⟩ := node_op hr.node
    have hL : ∀ q : List Expr, (∀ k, k ∈ varsL q → k ∈ varsE x) → ∀ y ∈ q, ∀ k ∈ varsE y, k ∈ varsE x := by
      intro q
      induction q with
      | nil => intro _ y hy; cases hy
      | cons z q ih =>
        intro hq y hy k hk
        rcases List.mem_cons.1 hy with rfl | hy
        · exact hq k (by simp [varsL, hk])
        · exact ih (fun k hk => hq k (by simp [varsL, hk])) y hy k hk
    have hargs : ∀ y ∈ x.args, cov (thE y l) (evalE y vs) := fun y hy =>
      th_cov N y (by have := Expr.lt_of_mem hy; omega) (hr.args y hy) fun k hk => hv k (hL x.args (fun k hk => by rw [varsE_eq]; simp [hk]) y hy k hk)
    have hidx : ∀ (i : Nat) (u : Int) (b : Bool), (x.args.map fun y => thE y l)[i]? = some u → (x.args.map fun y => evalE y vs)[i]? = some b → cov u b := by
      intro i u b h1 h2
      rw [List.getElem?_map] at h1 h2
      cases hy : x.args[i]? with
      | none => rw [hy] at h1; cases h1
      | some y =>
        rw [hy] at h1 h2
        cases h1
        cases h2
        exact hargs y (List.mem_of_getElem? hy)
    rw [thE_eq, evalE_eq, thL_map, evalL_map]
    by_cases h0 : x.op = 0
    · rw [if_pos h0, if_pos h0]
      right
      rcases n3 h0 with e | e <;> simp [e]
    · rw [if_neg h0, if_neg h0]
      by_cases h1 : x.op = 1
      · rw [if_pos h1, if_pos h1]
        exact hv _ (by rw [varsE_eq]; simp [h1])
      · rw [if_neg h1, if_neg h1]
        by_cases h2 : x.op = 2
        · rw [if_pos h2, if_pos h2]
          obtain ⟨y, hy⟩ := n5 h2
          have h3 := hargs y (by rw [hy]; simp)
          rw [hy]
          simp only [List.map_cons, List.map_nil, List.all_cons, List.all_nil, Bool.and_true]
          unfold cov at h3 ⊢
          generalize evalE y vs = b at *
          rcases h3 with e | e
          · left; rw [e]; rfl
          · right; rw [e]; cases b <;> simp
        · rw [if_neg h2, if_neg h2]
          by_cases h3 : x.op = 3
          · rw [if_pos h3, if_neg (by omega)]
            exact cov_and (by simp) hidx
          · rw [if_neg h3, if_pos (by omega)]
            exact cov_or (by simp) hidx
theorem cov_join {l : List Int} {u : Int} {b : Bool} (h : u ∈ l) (hc : cov u b) : cov (joinL l) b := by
  cases l with
  | nil => cases h
  | cons v r =>
    simp only [joinL]
    by_cases ha : r.all (· == v) = true
    · rw [if_pos ha]
      rcases List.mem_cons.1 h with rfl | h
      · exact hc
      · have := List.all_eq_true.1 ha u h
        simp only [beq_iff_eq] at this
        rwa [← this]
    · rw [if_neg ha]
      exact .inl rfl
theorem cov_known {n : Int} {b : Bool} (h : cov n b) : (if b then 1 else 0 : Int) ∈ knownL n := by
  unfold knownL
  rcases h with e | e
  · rw [if_pos e]; cases b <;> simp
  · rw [if_neg (by rw [e]; cases b <;> simp), e]; simp
/-- What a signal becomes is among what it might become. -/
theorem cov_might {x : Signal} (hk : x.kind = 1 ∨ x.kind = 2) {own : Int} {v : Bool} {t : Int} {l : List Int} {L : List Bool} (ho : cov own v) (hon : cov (thE x.on l) (evalE x.on L)) (hoff : x.kind = 1 → cov (thE x.off l) (evalE x.off L)) :
    cov (mightP x own l) (stepV x.kind v t (evalE x.on L) (x.kind == 1 && evalE x.off L)).1 := by
  unfold mightP mightL stepV
  rcases hk with hk | hk
  · rw [if_neg (by omega), if_pos hk]
    have h1 := cov_known hon
    have h2 := cov_known (hoff hk)
    refine cov_join (u := if (if evalE x.on L then 1 else 0 : Int) ≠ (if evalE x.off L then 1 else 0) then (if evalE x.on L then 1 else 0) else own) ?_ ?_
    · refine List.mem_flatMap.2 ⟨_, h1, ?_⟩
      exact List.mem_map.2 ⟨_, h2, rfl⟩
    · have e : (x.kind == 1) = true := by simp [hk]
      rw [e]
      cases evalE x.on L <;> cases evalE x.off L <;> simp [cov] at ho ⊢ <;> exact ho
  · rw [if_pos hk, if_neg (by omega), if_pos hk]
    have h1 := cov_known hon
    refine cov_join (u := if (if evalE x.on L then 1 else 0 : Int) = 0 then 0 else own) ?_ ?_
    · exact List.mem_map.2 ⟨_, h1, rfl⟩
    · cases evalE x.on L
      · right; simp
      · simpa using ho

/-! ### What has come to rest -/
structure Fix (c : Control) (F : List Int) : Prop where
  len : (F.length : Int) = countC c
  gate : ∀ (i : Nat) (x : Signal), c.signals[i]? = some x → x.kind = 0 → F[atP c i]? = some (thE x.on F)
  sig : ∀ (i : Nat) (x : Signal), c.signals[i]? = some x → x.kind ≠ 0 → F[atP c i]? = some (joinL [F.getD (atP c i) 0, mightP x (F.getD (atP c i) 0) F])
theorem final_rest {c : Control} (hf : Fine c) {l : List Int} (hl : (l.length : Int) = countC c) : againP c (finalP c l) = finalP c l := by
  have h := it_rest hf hl
  have h1 : finalP c l = itP c l (c.signals.length + 1) ∨ c.signals.length = 0 := by
    rcases Nat.eq_zero_or_pos c.signals.length with h0 | h0
    · exact .inr h0
    · exact .inl (it_fix h _ (by omega))
  have h2 : finalP c l = itP c l (c.signals.length + 1) := it_fix h _ (by omega)
  rw [h2]
  exact h
theorem fix_of {c : Control} (hf : Fine c) {F : List Int} (hl : (F.length : Int) = countC c) (h : againP c F = F) : Fix c F := by
  have h0 : 0 ≤ firstC c := by have := hf.act; unfold firstC; omega
  have hcn : countC c = firstC c + c.signals.length := rfl
  have hg : gateT c F c.signals.length = F := by
    apply List.ext_getElem?
    intro k
    by_cases hst : stillK c k
    · rw [gateT_keep h0 _ (.inl hst)]
    · rw [← nextT_keep (l := gateT c F c.signals.length) h0 c.signals.length (.inl hst)]
      exact congrArg (fun l : List Int => l[k]?) h
  have hat : ∀ i, i < c.signals.length → atP c i < F.length := fun i hi => by simp only [atP]; omega
  have hgi : ∀ i, i ≤ c.signals.length → gateT c F i = F := by
    intro i
    induction i with
    | zero => intro _; rfl
    | succ i ih =>
      intro hi
      have hx : c.signals[i]? = some c.signals[i] := List.getElem?_eq_getElem (by omega)
      apply List.ext_getElem?
      intro k
      by_cases hk : k = atP c i
      · subst hk
        rw [← gateT_stay h0 c.signals.length (by omega), hg]
      · rw [gateT_at hx, ih (by omega)]
        split
        · rw [List.getElem?_set_ne (by omega)]
        · rfl
  refine ⟨hl, fun i x hx hk => ?_, fun i x hx hk => ?_⟩
  · obtain ⟨hi, _⟩ := List.getElem?_eq_some_iff.1 hx
    have h1 := hgi (i + 1) (by omega)
    rw [gateT_at hx, if_pos hk, hgi i (by omega)] at h1
    conv => lhs; rw [← h1]
    rw [List.getElem?_set_self (hat i hi)]
  · obtain ⟨hi, _⟩ := List.getElem?_eq_some_iff.1 hx
    have h1 := nextT_value (l := gateT c F c.signals.length) h0 hx hk (by rw [hg]; exact hat i hi) c.signals.length hi
    rw [hg] at h1
    have h2 : nextT c F c.signals.length = F := by
      have := h
      unfold againP at this
      rwa [hg] at this
    rw [h2] at h1
    exact h1
/-- The lines that are no gates begin with their values. -/
def CovS (c : Control) (F : List Int) (s : State) : Prop := ∀ k : Nat, stillK c k → ∀ (n : Int) (b : Bool), F[k]? = some n → (valuesOf s)[k]? = some b → cov n b
def CovL (F : List Int) (vs : List Bool) : Prop := ∀ (k : Nat) (n : Int) (b : Bool), F[k]? = some n → vs[k]? = some b → cov n b
theorem it_still {c : Control} (hf : Fine c) {l : List Int} (hl : (l.length : Int) = countC c) {k : Nat} (hk : stillK c k) : ∀ i, (itP c l i)[k]? = l[k]? ∨ (itP c l i)[k]? = some 2
  | 0 => .inl rfl
  | i + 1 => by
    have h0 : 0 ≤ firstC c := by have := hf.act; unfold firstC; omega
    have hcn : countC c = firstC c + c.signals.length := rfl
    have ih := it_still hf hl hk i
    have hstep : (againP c (itP c l i))[k]? = (itP c l i)[k]? ∨ (againP c (itP c l i))[k]? = some 2 := by
      by_cases h1 : (k : Int) < firstC c ∨ firstC c + c.signals.length ≤ k
      · exact .inl (again_line h0 h1)
      · have e : k = atP c (k - (firstC c).toNat) := by simp only [atP]; omega
        have hil : k - (firstC c).toNat < c.signals.length := by omega
        rw [e]
        refine again_sig h0 (List.getElem?_eq_getElem hil) ?_ (by rw [itP_len]; simp only [atP]; omega)
        rcases hk with h | h | h
        · omega
        · rw [show (k : Int) - firstC c = ((k - (firstC c).toNat : Nat) : Int) by omega] at h
          simpa [kindAt, List.getElem?_eq_getElem hil] using h
        · omega
    rw [itP]
    rcases hstep with h | h
    · rw [h]; exact ih
    · exact .inr h
theorem final_cov {c : Control} (hf : Fine c) {l : List Int} (hl : (l.length : Int) = countC c) {s : State} (h : CovS c l s) : CovS c (finalP c l) s := by
  intro k hk n b h1 h2
  rcases it_still hf hl hk (2 * c.signals.length + 2) with h3 | h3
  · unfold finalP at h1
    rw [h3] at h1
    exact h k hk n b h1 h2
  · unfold finalP at h1
    rw [h3] at h1
    cases h1
    exact .inl rfl
theorem getD_cov {F : List Int} {vs : List Bool} {k : Nat} (hl : F.length = vs.length) (hk : k < F.length) (h : ∀ (n : Int) (b : Bool), F[k]? = some n → vs[k]? = some b → cov n b) : cov (F.getD k 0) (vs.getD k false) := by
  have h1 : F[k]? = some F[k] := List.getElem?_eq_getElem hk
  have h2 : vs[k]? = some vs[k] := List.getElem?_eq_getElem (by omega)
  have := h _ _ h1 h2
  rw [List.getD_eq_getElem?_getD, List.getD_eq_getElem?_getD, h1, h2]
  exact this
/-- A gate's line. -/
theorem sig_line {c : Control} {s : State} (hsh : shapeS c s) (i : Nat) : (valuesOf s)[atP c i]? = s.values[i]? := by
  have hpl := preV_length hsh
  rw [valuesOf_eq, List.getElem?_append_right (by simp only [atP]; omega)]
  congr 1
  simp only [atP]
  omega
theorem pre_line {c : Control} {s t : State} (hs : shapeS c s) (ht : shapeS c t) (he : t.ends = s.ends) (hi : t.inputs = s.inputs) {k : Nat} (hk : (k : Int) < firstC c) : (valuesOf t)[k]? = (valuesOf s)[k]? := by
  have hp : preV t = preV s := by unfold preV; rw [he, hi]
  have hpl := preV_length hs
  rw [valuesOf_eq, valuesOf_eq, hp, List.getElem?_append_left (by omega), List.getElem?_append_left (by omega)]
theorem gates_cov {c : Control} (hf : Fine c) {F : List Int} (hF : Fix c F) {s : State} (hsh : shapeS c s) (h : CovS c F s) : CovL F (valuesOf (gatesP c s)) := by
  have h0 : 0 ≤ firstC c := by have := hf.act; unfold firstC; omega
  have hcn : countC c = firstC c + c.signals.length := rfl
  have hg := gates_shape hsh
  have hlen := valuesOf_length hg
  have hFl := hF.len
  have hstill : ∀ k, stillK c k → (valuesOf (gatesP c s))[k]? = (valuesOf s)[k]? := by
    intro k hk
    by_cases h1 : (k : Int) < firstC c
    · exact pre_line hsh hg rfl rfl h1
    · have e : k = atP c (k - (firstC c).toNat) := by simp only [atP]; omega
      rw [e, sig_line hg, sig_line hsh]
      rcases hk with h2 | h2 | h2
      · omega
      · refine gates_keep ?_
        rw [show (k : Int) - firstC c = ((k - (firstC c).toNat : Nat) : Int) by omega] at h2
        exact h2
      · rw [List.getElem?_eq_none (by rw [hg.2.2.2.1]; omega), List.getElem?_eq_none (by rw [hsh.2.2.2.1]; omega)]
  have key : ∀ m : Nat, ∀ k : Nat, (stillK c k ∨ (k : Int) < firstC c + m) → ∀ n b, F[k]? = some n → (valuesOf (gatesP c s))[k]? = some b → cov n b := by
    intro m
    induction m with
    | zero =>
      intro k hk n b h1 h2
      have hst : stillK c k := by
        rcases hk with hk | hk
        · exact hk
        · exact .inl (by omega)
      rw [hstill k hst] at h2
      exact h k hst n b h1 h2
    | succ m ih =>
      intro k hk n b h1 h2
      by_cases hst : stillK c k
      · exact ih k (.inl hst) n b h1 h2
      · by_cases hlt : (k : Int) < firstC c + m
        · exact ih k (.inr hlt) n b h1 h2
        · have hkm : (k : Int) = firstC c + m := by
            rcases hk with hk | hk
            · exact absurd hk hst
            · omega
          have e : k = atP c m := by simp only [atP]; omega
          have hml : m < c.signals.length := by
            rcases Nat.lt_or_ge m c.signals.length with h3 | h3
            · exact h3
            · exact absurd (.inr (.inr (by omega))) hst
          have hx : c.signals[m]? = some c.signals[m] := List.getElem?_eq_getElem hml
          have hk0 : c.signals[m].kind = 0 := by
            by_cases h3 : c.signals[m].kind = 0
            · exact h3
            · refine absurd (.inr (.inl ?_)) hst
              rw [show (k : Int) - firstC c = (m : Int) by omega]
              simpa [kindAt, hx] using h3
          subst e
          rw [hF.gate m _ hx hk0] at h1
          rw [sig_line hg, gates_gate hf hsh hx hk0] at h2
          cases h1
          cases h2
          have hr := right_of_check (hf.on hx).1
          refine th_cov (SizeOf.sizeOf c.signals[m].on + 1) _ (by omega) hr.1 fun v hv => ?_
          have hvr := vars_check (hf.on hx).1 v hv
          have hlate := late_not hf hx hk0 v hv
          refine getD_cov (by omega) (by omega) (ih v.toNat ?_)
          rcases hlate with h3 | h3
          · exact .inr (by omega)
          · left
            refine .inr (.inl ?_)
            rw [show ((v.toNat : Nat) : Int) = v by omega]
            exact h3
  intro k n b h1 h2
  refine key c.signals.length k ?_ n b h1 h2
  obtain ⟨hk, _⟩ := List.getElem?_eq_some_iff.1 h1
  exact .inr (by omega)
theorem cov_vars {c : Control} {F : List Int} {vs : List Bool} (hl : F.length = vs.length) (hFl : (F.length : Int) = countC c) (h : CovL F vs) {x : Expr} (hx : checkE x (countC c) = 0) : cov (thE x F) (evalE x vs) := by
  refine th_cov (SizeOf.sizeOf x + 1) _ (by omega) (right_of_check hx).1 fun v hv => ?_
  have hvr := vars_check hx v hv
  exact getD_cov hl (by omega) (h v.toNat)
theorem kind_two {c : Control} (hf : Fine c) {i : Nat} {x : Signal} (hx : c.signals[i]? = some x) (h : x.kind ≠ 0) : x.kind = 1 ∨ x.kind = 2 := by
  have := (hf.on hx).2
  omega
theorem once_cov {c : Control} (hf : Fine c) {F : List Int} (hF : Fix c F) {s : State} (hsh : shapeS c s) (h : CovL F (valuesOf s)) : CovS c F (onceS c s) := by
  have h0 : 0 ≤ firstC c := by have := hf.act; unfold firstC; omega
  have hcn : countC c = firstC c + c.signals.length := rfl
  have hlen := valuesOf_length hsh
  have hFl := hF.len
  have ho := once_shape hsh
  intro k hk n b h1 h2
  by_cases h3 : (k : Int) < firstC c
  · rw [pre_line hsh ho rfl rfl h3] at h2
    exact h k n b h1 h2
  · obtain ⟨hkl, _⟩ := List.getElem?_eq_some_iff.1 h1
    have e : k = atP c (k - (firstC c).toNat) := by simp only [atP]; omega
    obtain ⟨i, hi⟩ : ∃ i, k - (firstC c).toNat = i := ⟨_, rfl⟩
    rw [hi] at e
    have hil : i < c.signals.length := by omega
    have hx : c.signals[i]? = some c.signals[i] := List.getElem?_eq_getElem hil
    have hk0 : c.signals[i].kind ≠ 0 := by
      rcases hk with h4 | h4 | h4
      · omega
      · rw [show (k : Int) - firstC c = (i : Int) by omega] at h4
        simpa [kindAt, hx] using h4
      · omega
    have hlv := hsh.2.2.2.1
    have hlt := hsh.2.2.2.2
    have hv : s.values[i]? = some s.values[i] := List.getElem?_eq_getElem (by omega)
    have ht : s.timers[i]? = some s.timers[i] := List.getElem?_eq_getElem (by omega)
    subst e
    rw [sig_line ho, show (onceS c s).values = newV c s from rfl, newV_at hil, sigStep_at hx hv ht] at h2
    rw [hF.sig i _ hx hk0] at h1
    cases h1
    cases h2
    have hown : cov (F.getD (atP c i) 0) s.values[i] := by
      have h5 : F[atP c i]? = some F[atP c i] := List.getElem?_eq_getElem hkl
      rw [List.getD_eq_getElem?_getD, h5]
      exact h (atP c i) _ _ h5 (by rw [sig_line hsh]; exact hv)
    refine cov_join (u := mightP c.signals[i] (F.getD (atP c i) 0) F) (by simp) ?_
    refine cov_might (kind_two hf hx hk0) hown (cov_vars (by omega) hFl h (hf.on hx).1) fun hk1 => cov_vars (by omega) hFl h (off_ok hf hx hk1)
theorem round_cov {c : Control} (hf : Fine c) {F : List Int} (hF : Fix c F) {s : State} (hsh : shapeS c s) (h : CovS c F s) : CovS c F (roundS c s) := once_cov hf hF (gates_shape hsh) (gates_cov hf hF hsh h)
theorem after_cov {c : Control} (hf : Fine c) {F : List Int} (hF : Fix c F) {s : State} (hsh : shapeS c s) (h : CovS c F s) : ∀ j, CovS c F (afterN c s j)
  | 0 => h
  | j + 1 => by rw [after_snoc]; exact round_cov hf hF (after_shape hsh j) (after_cov hf hF hsh h j)
/-- What is told about a state at rest. -/
theorem rest_cov {c : Control} (hf : Fine c) {F : List Int} (hF : Fix c F) {s x : State} (hsh : shapeS c s) (h : CovS c F s) {bad : List Int} {m : Int} (hc : courseP c 65 0 s [] = some (x, bad, m)) : CovL F (valuesOf x) := by
  obtain ⟨j, h1, h2, h3, h4, h5, h6, h7⟩ := course_spec 65 0 s [] hc
  have hx : shapeS c x := by rw [h3]; exact after_shape hsh j
  have h8 := gates_cov hf hF hx (by rw [h3]; exact after_cov hf hF hsh h j)
  rwa [gates_at hx h4] at h8
theorem cov_eq {F : List Int} {vs ws : List Bool} (h2 : (2 : Int) ∉ F) (hv : F.length = vs.length) (hw : F.length = ws.length) (h : CovL F vs) (g : CovL F ws) : vs = ws := by
  apply List.ext_getElem?
  intro k
  rcases Nat.lt_or_ge k F.length with hk | hk
  · have e1 : F[k]? = some F[k] := List.getElem?_eq_getElem hk
    have e2 : vs[k]? = some vs[k] := List.getElem?_eq_getElem (by omega)
    have e3 : ws[k]? = some ws[k] := List.getElem?_eq_getElem (by omega)
    have a := h k _ _ e1 e2
    have b := g k _ _ e1 e3
    have hne : F[k] ≠ 2 := fun e => h2 (e ▸ List.getElem_mem hk)
    rw [e2, e3]
    unfold cov at a b
    congr 1
    generalize vs[k] = p at *
    generalize ws[k] = q at *
    cases p <;> cases q <;> simp at a b ⊢ <;> omega
  · rw [List.getElem?_eq_none (by omega), List.getElem?_eq_none (by omega)]
theorem values_eq {c : Control} {s t : State} (hs : shapeS c s) (ht : shapeS c t) (h : valuesOf s = valuesOf t) : s.values = t.values := by
  apply List.ext_getElem?
  intro i
  rw [← sig_line hs, ← sig_line ht, h]
/-- Where nothing is unknown, all is at rest behind a round. -/
theorem known_rest {c : Control} (hf : Fine c) {F : List Int} (hF : Fix c F) (h2 : (2 : Int) ∉ F) {s : State} (hsh : shapeS c s) (h : CovS c F s) : roundS c (roundS c s) = roundS c s := by
  have h0 : 0 ≤ firstC c := by have := hf.act; unfold firstC; omega
  have hcn : countC c = firstC c + c.signals.length := rfl
  have hFl := hF.len
  have hg0 := gates_shape hsh
  have hs1 := round_shape hsh
  have hg1 := gates_shape hs1
  have c0 := gates_cov hf hF hsh h
  have c1 := gates_cov hf hF hs1 (round_cov hf hF hsh h)
  have l0 := valuesOf_length hg0
  have l1 := valuesOf_length hg1
  have hve := cov_eq h2 (by omega) (by omega) c0 c1
  have hvv := values_eq hg0 hg1 hve
  -- the values of the round are those of the gates' state
  have hnew : ∀ {g : State}, shapeS c g → CovL F (valuesOf g) → newV c g = g.values := by
    intro g hg hcg
    apply List.ext_getElem?
    intro i
    rcases Nat.lt_or_ge i c.signals.length with hi | hi
    · have hx : c.signals[i]? = some c.signals[i] := List.getElem?_eq_getElem hi
      have hlv := hg.2.2.2.1
      have hlt := hg.2.2.2.2
      have hv : g.values[i]? = some g.values[i] := List.getElem?_eq_getElem (by omega)
      have ht : g.timers[i]? = some g.timers[i] := List.getElem?_eq_getElem (by omega)
      by_cases hk : c.signals[i].kind = 0
      · rw [newV_at hi, sigStep_at hx hv ht, hv, hk]; rfl
      · have hst : stillK c (atP c i) := .inr (.inl (by rw [show ((atP c i : Nat) : Int) - firstC c = i by simp only [atP]; omega]; simpa [kindAt, hx] using hk))
        have hat : atP c i < F.length := by simp only [atP]; omega
        have hFa : F[atP c i]? = some F[atP c i] := List.getElem?_eq_getElem hat
        have ha := once_cov hf hF hg hcg (atP c i) hst _ _ hFa (by rw [sig_line (once_shape hg)]; exact newV_at hi)
        have hb := hcg (atP c i) _ _ hFa (by rw [sig_line hg]; exact hv)
        have hne : F[atP c i] ≠ 2 := fun e => h2 (e ▸ List.getElem_mem hat)
        rw [newV_at hi, hv]
        unfold cov at ha hb
        congr 1
        generalize (sigStep c g (valuesOf g) i).1 = p at *
        generalize g.values[i] = q at *
        cases p <;> cases q <;> simp at ha hb ⊢ <;> omega
    · rw [List.getElem?_eq_none (by rw [newV_len]; exact hi), List.getElem?_eq_none (by rw [hg.2.2.2.1]; exact hi)]
  have e0 : newV c (gatesP c s) = (gatesP c s).values := hnew hg0 c0
  have e1 : newV c (gatesP c (roundS c s)) = (gatesP c (roundS c s)).values := hnew hg1 c1
  have et : newT c (gatesP c (roundS c s)) = newT c (gatesP c s) := by
    apply List.ext_getElem?
    intro i
    rcases Nat.lt_or_ge i c.signals.length with hi | hi
    · have hx : c.signals[i]? = some c.signals[i] := List.getElem?_eq_getElem hi
      have hlv := hg0.2.2.2.1
      have hlt := hg0.2.2.2.2
      have hv : (gatesP c s).values[i]? = some (gatesP c s).values[i] := List.getElem?_eq_getElem (by omega)
      have ht : (gatesP c s).timers[i]? = some (gatesP c s).timers[i] := List.getElem?_eq_getElem (by omega)
      have hv1 : (gatesP c (roundS c s)).values[i]? = some (gatesP c s).values[i] := by rw [← hvv]; exact hv
      have ht1 : (gatesP c (roundS c s)).timers[i]? = some (stepV c.signals[i].kind (gatesP c s).values[i] (gatesP c s).timers[i] (evalE c.signals[i].on (valuesOf (gatesP c s))) (c.signals[i].kind == 1 && evalE c.signals[i].off (valuesOf (gatesP c s)))).2.1 := by
        show (newT c (gatesP c s))[i]? = _
        rw [newT_at hi, sigStep_at hx hv ht]
      rw [newT_at hi, newT_at hi, sigStep_at hx hv ht, sigStep_at hx hv1 ht1, ← hve]
      congr 1
      unfold stepV
      split
      · rfl
      · split
        · split
          · rfl
          · simp only
            by_cases e6 : (gatesP c s).timers[i] = 0
            · simp [e6]
            · simp [e6]
        · rfl
    · rw [List.getElem?_eq_none (by rw [newT_len]; exact hi), List.getElem?_eq_none (by rw [newT_len]; exact hi)]
  show { gatesP c (roundS c s) with values := newV c (gatesP c (roundS c s)), timers := newT c (gatesP c (roundS c s)) } = { gatesP c s with values := newV c (gatesP c s), timers := newT c (gatesP c s) }
  rw [e1, et, ← hvv, e0]
  rfl

end Go.Proofs.YtbhdiijibgdlnaaGreat
end

/- Law of chapter 28: what does not matter. -/
section
namespace Go.Proofs.YtbhdiijibgdlnaaGreat
set_option maxHeartbeats 4000000
set_option maxRecDepth 10000

theorem right_gates {c : Control} {s t : State} (h : rightC c s = 0) (he : t.ends = s.ends) (hv : t.valves = s.valves) (hi : t.inputs = s.inputs) (hl : t.values.length = s.values.length) (ht : t.timers = s.timers)
    (hk : ∀ k : Nat, kindAt c k ≠ 0 → t.values[k]? = s.values[k]?) : rightC c t = 0 := by
  obtain ⟨z1, z2, z3⟩ := right_zero h
  have hsh : shapeS c t := by
    obtain ⟨h1, h2, h3, h4, h5⟩ := z2
    exact ⟨by rw [he]; exact h1, by rw [hv]; exact h2, by rw [hi]; exact h3, by rw [hl]; exact h4, by rw [ht]; exact h5⟩
  unfold fitsSt at z3
  rw [if_neg (by simpa using z2)] at z3
  split at z3
  · cases z3
  · rename_i hout
    have hz := firstErr_zero z3
    have e : fitsSt c t = firstErr (tsE c t) (List.range s.timers.length) := by
      unfold fitsSt
      rw [if_neg (by simpa using hsh), he, ht]
      exact if_neg hout
    have hn : NoE (tsE c t) s.timers.length := by
      intro i hlt
      have h0 := hz i hlt
      unfold tsE at h0 ⊢
      rw [ht]
      obtain ⟨h4, h5⟩ : s.values.length = c.signals.length ∧ s.timers.length = c.signals.length := ⟨z2.2.2.2.1, z2.2.2.2.2⟩
      have hx : c.signals[i]? = some c.signals[i] := List.getElem?_eq_getElem (by omega)
      have hv0 : s.values[i]? = some s.values[i] := List.getElem?_eq_getElem (by omega)
      have hv1 : t.values[i]? = some t.values[i] := List.getElem?_eq_getElem (by omega)
      have ht0 : s.timers[i]? = some s.timers[i] := List.getElem?_eq_getElem (by omega)
      rw [hx, hv0, ht0] at h0
      rw [hx, hv1, ht0]
      simp only at h0 ⊢
      by_cases hk0 : c.signals[i].kind = 0
      · unfold tstE at h0 ⊢
        simp only [hk0] at h0 ⊢
        simpa using h0
      · have := hk i (by simpa [kindAt, hx] using hk0)
        rw [hv0, hv1] at this
        rw [Option.some.inj this]
        exact h0
    rw [rightC, if_neg (by simpa using z1), e]
    exact firstErr_all hn

theorem sh_take {α : Type} {l : List α} (h : Sh l) (n : Nat) : Sh (l.take n) := by
  unfold Sh at h ⊢
  rw [List.length_take]
  omega
theorem cut_ok {c : Control} (hc : OkC c) (n : Nat) : OkC (cutC c n) :=
  ⟨hc.actuators, hc.inputs, hc.names, sh_take hc.signals n, fun s hs => hc.sigs s (List.mem_of_mem_take hs), hc.plus, hc.minus, hc.plusI, hc.minusI⟩

theorem lawIgnores_fn (c : Control) (s : State) (w : Int) (hc : OkC c) (hs : OkSt s) (hw : (Lit.int .u8 w).wf = true) : CallFn Tryz.prog 7 [aC c, aSt s, .dat (.int .u8 w)] (aB true) := by
  refine callFz_of Tryz.func7 rfl Tryz.ntmps7 (rs := [.tmp 6]) rfl (by kernel_rfl) (by simp) (by kernel_rfl) ?_
  simp
  refine (right28_fn c s hc hs).s ?_
  simp
  refine ⟨fun h => awake28_fn.s (by simp), fun h hn0 => ?_⟩
  simp only [rightB, Bool.and_eq_true, beq_iff_eq] at h
  obtain ⟨⟨h1, h2⟩, h3⟩ := h
  have hsm := few_sm h2
  have hpm := few_c h1
  obtain ⟨z1, z2, z3⟩ := right_zero h3
  have hf := fine_of z1
  have hcl := hf.sig
  obtain ⟨n, hn⟩ : ∃ n, c.signals.length = n + 1 := ⟨c.signals.length - 1, by
    rcases Nat.eq_zero_or_pos c.signals.length with h | h
    · exact absurd (by simpa using h) hn0
    · omega⟩
  simp [hn0]
  refine (copyR_o s hsm).s 60 fun hd => ?_
  simp [stA, stH]
  intro b7
  have hvl : s.values.length = c.signals.length := z2.2.2.2.1
  refine V.forI (σ := List Bool) c.signals.length [2, 3, 4, 6, 7, 39, 40] (by simp; exact rfl) (fun i _ => [(41, aI i)]) (fun i vs => [(63, .seq (hd 3) 4 1 (vs.map rB))]) (fun i vs => vs.length = s.values.length ∧ ∀ k : Nat, kindAt c k ≠ 0 → vs[k]? = s.values[k]?) s.values ⟨rfl, fun _ _ => rfl⟩ (by simp) ⟨by simp; exact rfl, by simp⟩ ?_ ?_
  · rintro i vs hi ⟨hl, hv⟩
    obtain ⟨x, hx⟩ : ∃ x, c.signals[i] = x := ⟨_, rfl⟩
    have hxo : c.signals[i]? = some x := by rw [List.getElem?_eq_getElem hi, hx]
    have hvi : i < vs.length := by omega
    obtain ⟨v, hvv⟩ : ∃ v, vs[i]? = some v := ⟨_, List.getElem?_eq_getElem hvi⟩
    simp [hi, hx]
    intro b9
    by_cases hk : x.kind = 0
    · simp [hk]
      refine ⟨Int.tmod_nonneg _ (by omega), fun hb => ?_, fun hb => ?_⟩
      · refine V.drawX (fun _ => none) (by kernel_rfl) (by kernel_rfl) (by simp) ?_
        simp [hvv, hvi]
        refine ⟨by kernel_rfl, by omega, vs.set i (!vs[i]), ⟨by simpa using hl, fun k hk2 => ?_⟩, by rw [List.map_set]⟩
        rw [List.getElem?_set_ne]
        · exact hv k hk2
        · rintro rfl
          exact hk2 (by simp [kindAt, hxo, hk])
      · exact ⟨by omega, vs, ⟨hl, hv⟩, rfl⟩
    · simp [hk]
      exact ⟨by omega, vs, ⟨hl, hv⟩, rfl⟩
  · rintro vs ⟨hl, hv⟩
    obtain ⟨T, hT⟩ : ∃ T : State, T = { s with values := vs } := ⟨_, rfl⟩
    have hTr : rightC c T = 0 := right_gates h3 (by rw [hT]) (by rw [hT]) (by rw [hT]) (by rw [hT]; exact hl) (by rw [hT]) (by rw [hT]; exact hv)
    have hTm : SmS T := sm_right hTr
    have hTs := (right_zero hTr).2.1
    have hg : gatesP c T = gatesP c s := gates_same hf z2 hTs (by rw [hT]) (by rw [hT]) (by rw [hT]) (by rw [hT]) (by rw [hT]; exact hv)
    have c1 := Settle_fn c s hc hsm
    have c2 := Settle_fn c T hc hTm
    rcases course_same hg with ⟨r1, r2⟩ | ⟨x, bad, bad', m, m', r1, r2, r3⟩
    · rw [settle_none h3 r1] at c1
      rw [settle_none hTr r2] at c2
      have c3 := eqI_fn [] [] (by unfold Sh; simp) (by unfold Sh; simp)
      rw [decide_eq_true rfl] at c3
      have c4 := SameStatesR_l noSt noSt noSt_sm noSt_sm
      rw [sameSt_self] at c4
      simp
      refine c1.s ?_
      simp
      intro b10
      refine CallS.perm (CallS.freeze (az' := [aC c, aSt T]) (Hf := [(63, .seq (hd 3) 4 1 (vs.map rB)), (7, .box b7 [.own 60 (hd 0), .own 61 (hd 1), .own 62 (hd 2), .own 63 (hd 3), .own 64 (hd 4)]), (60, .seq (hd 0) 3 1 (s.ends.map rI)), (61, .seq (hd 1) 4 1 (s.valves.map rB)), (62, .seq (hd 2) 4 1 (s.inputs.map rB)), (64, .seq (hd 4) 3 1 (s.timers.map rI))]) (c2.s ?_) ?_) (List.perm_append_comm (l₂ := [(10, _)]))
      · simp
        intro b13
        refine GCall.fn (aB true) (fun h => ⟨by first | trivial | exact h, c3⟩) ?_
        simp
        refine GCall.fn (aB true) (fun h => ⟨by first | trivial | exact h, c4⟩) ?_
        simp
        refine GCall.fn (aB true) (fun h => ⟨by first | trivial | exact h, awake28_fn⟩) ?_
        simp
      · rw [hT]
        simp [hget, packA, encSt]
    · rw [settle_some h3 r1] at c1
      rw [settle_some hTr r2, ← comp_set r3] at c2
      obtain ⟨j, g1, g2, g3, g4, g5, g6, g7⟩ := course_spec 65 0 s [] r1
      have hxr : rightC c x = 0 := by rw [g3]; exact after_right h3 j
      have hxs := (right_zero hxr).2.1
      have hxm : SmS x := sm_right hxr
      have hbl := comp_len hf r1
      generalize hB : compI (sortI bad) = B at *
      have c3 := eqI_fn B B (by unfold Sh; omega) (by unfold Sh; omega)
      rw [decide_eq_true rfl] at c3
      have c4 := SameStatesR_l x x hxm hxm
      rw [sameSt_self] at c4
      have c5 := RightR_fn c x hc hpm.1 hpm.2 hxm
      rw [hxr] at c5
      have c6 := signals_fn c hf.sm
      have hfc : 0 ≤ firstC c ∧ firstC c ≤ 100 := by have := hf.act; have := hf.inp; unfold firstC; omega
      simp
      refine c1.s ?_
      simp
      intro b10
      refine CallS.perm (CallS.freeze (az' := [aC c, aSt T]) (Hf := [(63, .seq (hd 3) 4 1 (vs.map rB)), (7, .box b7 [.own 60 (hd 0), .own 61 (hd 1), .own 62 (hd 2), .own 63 (hd 3), .own 64 (hd 4)]), (60, .seq (hd 0) 3 1 (s.ends.map rI)), (61, .seq (hd 1) 4 1 (s.valves.map rB)), (62, .seq (hd 2) 4 1 (s.inputs.map rB)), (64, .seq (hd 4) 3 1 (s.timers.map rI))]) (c2.s ?_) ?_) (List.perm_append_comm (l₂ := [(10, _)]))
      · clear c1 c2
        simp
        intro b13
        refine GCall.fn (aB true) (fun h => ⟨by first | trivial | exact h, c3⟩) ?_
        simp
        refine GCall.fn (aB true) (fun h => ⟨by first | trivial | exact h, c4⟩) ?_
        simp
        refine c5.s ?_
        simp [hn]
        refine ⟨by omega, ?_⟩
        refine c6.s ?_
        simp [hn]
        refine ⟨by omega, V.forI (σ := Unit) n [3, 4, 10, 16, 17, 129, 130] (by simp; exact rfl) (fun i _ => [(6, .dat (.bool false)), (131, aI i)]) (fun _ _ => []) (fun i _ => ∀ (k : Nat) (y : Signal), k < i → c.signals[k]? = some y → occE y.on (firstC c + n) = false ∧ occE y.off (firstC c + n) = false) () (fun k y hk => absurd hk (Nat.not_lt_zero k)) (by simp) ⟨by simp; exact rfl, by simp⟩ ?_ ?_⟩
        · rintro i - hi hI
          obtain ⟨y, hy⟩ : ∃ y, c.signals[i]? = some y := ⟨_, List.getElem?_eq_getElem (by omega)⟩
          have hoy := hc.sigs y (List.mem_of_getElem? hy)
          have o1 := occurs_fn (SizeOf.sizeOf y.on + 1) y.on (by omega) hoy.on (firstC c + n)
          have o2 := occurs_fn (SizeOf.sizeOf y.off + 1) y.off (by omega) hoy.off (firstC c + n)
          have hnext : occE y.on (firstC c + n) = false → occE y.off (firstC c + n) = false → ∀ (k : Nat) (y : Signal), k < i + 1 → c.signals[k]? = some y → occE y.on (firstC c + n) = false ∧ occE y.off (firstC c + n) = false := by
            intro e1 e2 k z hk hz
            rcases Nat.lt_or_ge k i with h | h
            · exact hI k z h hz
            · obtain rfl : k = i := by omega
              rw [hy] at hz
              cases hz
              exact ⟨e1, e2⟩
          generalize occE y.on (firstC c + n) = q1 at *
          generalize occE y.off (firstC c + n) = q2 at *
          have hi1 : i < n + 1 := by omega
          have hyi : c.signals[i] = y := by rw [List.getElem?_eq_getElem (by omega)] at hy; exact Option.some.inj hy
          simp [hi, hy, hn, hi1, hyi]
          intro b19
          refine o1.s ?_
          simp
          refine GCall.fn (aB q2) (fun h => ⟨by first | trivial | exact h, o2⟩) ?_
          simp
          refine ⟨fun h => awake28_fn.s (by simp), fun e1 e2 => ⟨by omega, fun k z hk hz => hnext e1 e2 k z hk hz⟩⟩
        · rintro - hI
          have p1 := containsI_fn c.plus (firstC c + n) hc.plus
          have p2 := containsI_fn c.minus (firstC c + n) hc.minus
          simp
          refine p1.s ?_
          simp
          refine GCall.fn (aB (decide (firstC c + (n : Int) ∈ c.minus))) (fun h => ⟨by first | trivial | exact h, p2⟩) ?_
          simp
          refine ⟨fun h => awake28_fn.s (by simp), fun e1 e2 => ?_⟩
          have hL : Loose c n := ⟨hn, fun i y hi hy => hI i y hi hy, e1, e2⟩
          have hless := cut_right hL h3
          obtain ⟨bad2, m2, hc2⟩ := cut_course hL hf z2 r1
          have cp := (copyR_o s hsm).fn
          refine V.drawX (fun t => if t = 160 then some (.fn (aSt s)) else none) (by kernel_rfl) (by kernel_rfl) (by simp) ?_
          simp
          refine ⟨cp, fun b20 b21 => ⟨by kernel_rfl, ?_⟩⟩
          have hvn : n ≤ s.values.length := by omega
          have htn : n ≤ s.timers.length := by have := z2.2.2.2.2; omega
          refine V.drawX (fun _ => none) (by kernel_rfl) (by kernel_rfl) (by simp) ?_
          simp [hn, hvn, htn]
          refine ⟨by kernel_rfl, ?_⟩
          have c7 := Settle_fn (cutC c n) (cutS s n) (cut_ok hc n) (sm_right hless)
          rw [settle_some hless hc2, show aC (cutC c n) = .record [.int .i64 c.actuators, .sl (c.inputs.map encT), .sl ((c.signals.map encS).take n), .sl (c.plus.map encI), .sl (c.minus.map encI)] by simp [aC, encC, cutC, List.map_take],
            show aSt (cutS s n) = .record [.sl (s.ends.map encI), .sl (s.valves.map encB), .sl (s.inputs.map encB), .sl ((s.values.map encB).take n), .sl ((s.timers.map encI).take n)] by simp [aSt, encSt, cutS, List.map_take]] at c7
          refine c7.s ?_
          have hxv : n ≤ x.values.length := by have := hxs.2.2.2.1; omega
          have hxt : n ≤ x.timers.length := by have := hxs.2.2.2.2; omega
          have q1 := eqB_fn (x.values.take n) (x.values.take n) (sh_take (sh_of hxm.values) n) (sh_take (sh_of hxm.values) n)
          have q2 := eqI_fn (x.timers.take n) (x.timers.take n) (sh_take (sh_of hxm.timers) n) (sh_take (sh_of hxm.timers) n)
          rw [decide_eq_true rfl] at q1 q2
          generalize compI (sortI bad2) = B2 at *
          simp
          intro b22
          refine V.drawX (fun t => if t = 192 then some (.fn (aB true)) else if t = 201 then some (.fn (aB true)) else if t = 204 then some (.fn (aB true)) else none) (by kernel_rfl) (by kernel_rfl) (by simp) ?_
          simp [hxv, hxt, cutS]
          exact ⟨by simpa only [aBs, List.map_take] using q1, by simpa only [aIs, List.map_take] using q2, awake28_fn⟩
      · rw [hT]
        simp [hget, packA, encSt]

end Go.Proofs.YtbhdiijibgdlnaaGreat
end
