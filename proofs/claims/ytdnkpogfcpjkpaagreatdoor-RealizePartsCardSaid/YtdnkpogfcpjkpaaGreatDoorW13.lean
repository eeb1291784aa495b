/- Texts joined by a program: Df, Pa, Ea, Eb, Ec, Ed, Ee. -/
import Derived.Test.YtdnkpogfcpjkpaaGreatDoorW12
set_option linter.unusedSimpArgs false
set_option linter.unusedVariables false
set_option linter.unnecessarySimpa false

section
namespace Go.Proofs.YtdnkpogfcpjkpaaGreatDoor
set_option maxHeartbeats 4000000
set_option maxRecDepth 10000
theorem vars_right {n : Int} : ∀ (N : Nat) (x : Expr), SizeOf.sizeOf x < N → RightE n x → ∀ k ∈ varsE x, 0 ≤ k ∧ k < n
  | 0, _, h, _, _, _ => absurd h (Nat.not_lt_zero _)
  | N + 1, x, hN, hr, k, hk => by
    rw [varsE_eq] at hk
    rcases List.mem_append.1 hk with hk | hk
    · split at hk
      · rename_i hop
        simp only [List.mem_singleton] at hk
        subst hk
        have := hr.node
        unfold nodeR at this
        simp only [hop] at this
        split at this <;> try omega
        split at this <;> try omega
        simp at this
        omega
      · simp at hk
    · have hL : ∀ l : List Expr, (∀ y ∈ l, y ∈ x.args) → k ∈ varsL l → 0 ≤ k ∧ k < n := by
        intro l
        induction l with
        | nil => intro _ h; simp [varsL] at h
        | cons y l ih =>
          intro hl h
          simp only [varsL, List.mem_append] at h
          rcases h with h | h
          · have hm := hl y (by simp)
            exact vars_right N y (by have := Expr.lt_of_mem hm; omega) (hr.args y hm) k h
          · exact ih (fun z hz => hl z (by simp [hz])) h
      exact hL x.args (fun _ h => h) hk
theorem vars_check {x : Expr} {n : Int} (h : checkE x n = 0) : ∀ k ∈ varsE x, 0 ≤ k ∧ k < n := vars_right (SizeOf.sizeOf x + 1) x (by omega) (right_of_check h).1
theorem line_notin {c : Control} {k : Nat} (h : (k : Int) < 2 * c.actuators) (ha : c.actuators ≤ 6) : namedC c k ∉ namesB c k := by
  intro hm
  obtain ⟨j, hj, e⟩ := List.mem_map.1 hm
  simp only [List.mem_range] at hj
  rw [named_line (c := c) (k := j) (by omega), named_line h] at e
  have := lineName_inj (by omega) (by omega) e
  omega
theorem check_s (c : Control) (hc : OkC c) : CallS Tryz.prog 104 [aC c] [] fun r H' => (checkC c = 0 → ∃ m, r = .tuple [.map 30 m, aI 0] ∧ H' = [chkMap m (namesB c (countC c).toNat)]) ∧ (checkC c ≠ 0 → r = .tuple [.any, aI (checkC c)] ∧ H' = []) := by
  refine CallS.dropP (callS_of Tryz.func104 rfl Tryz.ntmps104 (rs := [.tmp 2, .tmp 3]) rfl (by kernel_rfl) (by simp) (by kernel_rfl) (K := fun r H' => (checkC c = 0 → ∃ m, r = .tuple [.map 30 m, aI 0] ∧ subP [chkMap m (namesB c (countC c).toNat)] H') ∧ (checkC c ≠ 0 → r = .tuple [.any, aI (checkC c)])) ?_) ?_
  · by_cases ha : c.actuators < 1 ∨ c.actuators > 6
    · have e : checkC c = 2 := by simp [checkC, ha]
      rw [e]
      simp
      intro h1 h2
      omega
    · have ha' : 1 ≤ c.actuators ∧ c.actuators ≤ 6 ∧ ¬ c.actuators < 1 ∧ ¬ 6 < c.actuators := by omega
      by_cases hm : c.inputs.length > 16 ∨ c.signals.length > 64
      · have e : checkC c = 5 := by simp only [checkC]; rw [if_neg ha, if_pos hm]
        rw [e]
        simp [ha'.1, ha'.2]
        intro h1 h2
        omega
      · have hsm : Sm c := ⟨by omega, by omega, by omega⟩
        obtain ⟨N, hN⟩ : ∃ N : Nat, c.actuators = N := ⟨c.actuators.toNat, by omega⟩
        have hNN : c.actuators.toNat = N := by omega
        have hm' : (c.inputs.length : Int) ≤ 16 ∧ (c.signals.length : Int) ≤ 64 ∧ ¬ 16 < (c.inputs.length : Int) ∧ ¬ 64 < (c.signals.length : Int) := by omega
        have hcn : countC c = 2 * c.actuators + c.inputs.length + c.signals.length := rfl
        have e : checkC c = if firstErr (inpE c) (List.range c.inputs.length) ≠ 0 then firstErr (inpE c) (List.range c.inputs.length)
            else if firstErr (sigE c) (List.range c.signals.length) ≠ 0 then firstErr (sigE c) (List.range c.signals.length) else pilotE c := by
          simp only [checkC]; rw [if_neg ha, if_neg hm]
        simp [ha'.1, ha'.2, hm'.1, hm'.2]
        intro m b
        refine ⟨by omega, ?_⟩
        refine V.forI (σ := Unit) (2 * N) [1, 2, 3, 4, 45] (by simp; exact rfl) (fun i _ => [(46, aI i)]) (fun i _ => [chkMap m (namesB c i)]) (fun _ _ => True) () trivial (by simp) ⟨by simp; exact rfl, by simp [namesB, mapOf]⟩ ?_ ?_
        · rintro i - hi -
          have hin : (i : Int) < 2 * c.actuators := by omega
          simp [hin]
          refine V.draw (fun t => if t = 55 then some (.fn (aT (namedC c i))) else none) (by kernel_rfl) (by kernel_rfl) (by simp) ?_
          have e1 := named_fn c hsm ⟨by omega, by omega⟩ i (by omega) (by omega)
          have e2 := mput_of (line_notin (c := c) (k := i) hin (by omega))
          simp at e1 e2 ⊢
          rw [e2, ← namesB_succ]
          exact ⟨e1, by omega, rfl⟩
        · rintro - -
          have hin : ¬ ((N : Int) < c.actuators) ∧ c.actuators ≤ N := by omega
          simp [hin.1, hin.2]
          refine V.forI (σ := Unit) c.inputs.length [1, 4, 59, 60] (by simp; exact rfl) (fun i _ => [(61, aI i)]) (fun i _ => [chkMap m (namesB c (2 * N + i))]) (fun i _ => NoE (inpE c) i) () (NoE.zero _) (by simp) ⟨by simp; exact rfl, by simp⟩ ?_ ?_
          · rintro i - hi hI
            obtain ⟨y, hy⟩ : ∃ y, c.inputs[i] = y := ⟨_, rfl⟩
            have hn : namedC c (2 * N + i : Nat) = y := by
              refine named_inp (by omega) (by simp only [firstC]; omega) ?_
              rw [← hy, show ((2 * N + i : Nat) - 2 * c.actuators : Int).toNat = i by omega]
              exact List.getElem?_eq_getElem hi
            have hin : inpE c i = nameE y (namesB c (2 * N + i)) := by rw [inpE, hNN, hn]
            simp [hi, hy]
            refine ((cname_s b m c y (hc.names y (hy ▸ List.getElem_mem hi)) (namesB c (2 * N + i)) (by simp; omega)).perm (List.Perm.swap _ _ _)).mono ?_
            rintro rr H' ⟨rfl, rfl⟩
            rw [← hin]
            by_cases hz : inpE c i = 0
            · have hs := namesB_succ c (2 * N + i)
              rw [hn] at hs
              simp [hz]
              exact ⟨by omega, hI.succ hz, by rw [← hs]; rfl⟩
            · have hf := firstErr_at hI hi hz
              have e' : checkC c = inpE c i := by rw [e, hf, if_pos hz]
              simp [hz, e']
          · rintro - hI
            have hf := firstErr_all hI
            rw [hf] at e
            simp at e
            simp
            refine V.forI (σ := Unit) c.signals.length [1, 4, 74] (by simp; exact rfl) (fun i _ => [(75, aI i)]) (fun i _ => [chkMap m (namesB c (2 * N + c.inputs.length + i))]) (fun i _ => NoE (sigE c) i) () (NoE.zero _) (by simp) ⟨by simp; exact rfl, by simp⟩ ?_ ?_
            · rintro i - hi hI2
              obtain ⟨y, hy⟩ : ∃ y, c.signals[i] = y := ⟨_, rfl⟩
              have hyo : c.signals[i]? = some y := by rw [List.getElem?_eq_getElem hi, hy]
              have hn : namedC c (2 * N + c.inputs.length + i : Nat) = y.name := by
                refine named_sig (s := y) (by simp only [firstC]; omega) (by simp only [firstC]; omega) ?_
                rw [show ((2 * N + c.inputs.length + i : Nat) - firstC c : Int).toNat = i by simp only [firstC]; omega]
                exact hyo
              have hsE : sigE c i = signalE c i y (namesB c (2 * N + c.inputs.length + i)) := by simp only [sigE, hyo, hNN]
              simp [hi]
              refine ((signal_s b m c hsm i y hyo (hc.sigs y (hy ▸ List.getElem_mem hi)) (namesB c (2 * N + c.inputs.length + i)) (by simp; omega) (fun h => vars_check h)).perm (List.Perm.swap _ _ _)).mono ?_
              rintro rr H' ⟨rfl, rfl⟩
              rw [← hsE]
              by_cases hz : sigE c i = 0
              · have hs := namesB_succ c (2 * N + c.inputs.length + i)
                rw [hn] at hs
                have hne : nameE y.name (namesB c (2 * N + c.inputs.length + i)) = 0 := by
                  rw [hsE] at hz
                  by_cases h0 : nameE y.name (namesB c (2 * N + c.inputs.length + i)) = 0
                  · exact h0
                  · simp [signalE, h0] at hz
                simp [hz, hne]
                exact ⟨by omega, hI2.succ hz, by rw [← hs]; rfl⟩
              · have hf := firstErr_at hI2 hi hz
                have e' : checkC c = sigE c i := by rw [e, hf, if_neg hz]
                simp [hz, e']
            · rintro - hI2
              have hf := firstErr_all hI2
              rw [hf] at e
              simp at e
              by_cases hpl : (c.plus.length : Int) ≠ c.actuators ∨ (c.minus.length : Int) ≠ c.actuators
              · have e' : checkC c = 8 := by rw [e, pilotE, if_pos hpl]
                rw [e']
                simp
                intro h1 h2
                omega
              · have h1 : (c.plus.length : Int) = c.actuators := by omega
                have h2 : (c.minus.length : Int) = c.actuators := by omega
                have e' : checkC c = if (c.plus ++ c.minus).any (fun l => decide (l < 0) || decide (countC c ≤ l)) then 6 else 0 := by rw [e, pilotE, if_neg hpl]
                have hcc := concat_fn [c.plus, c.minus] (by simp [sumL]; omega) (by simp)
                simp at hcc
                simp [h1, h2]
                refine hcc.s ?_
                simp
                refine (containsF_fn (c.plus ++ c.minus) (fun l => decide (l < 0) || decide (countC c ≤ l)) 145 [] [.rptr (encC c)] (by simp; omega) (fun n _ => by simpa using closure1_fn c hsm n)).s ?_
                cases hany : (c.plus ++ c.minus).any (fun l => decide (l < 0) || decide (countC c ≤ l))
                · rw [hany] at e'
                  simp at e'
                  rw [e']
                  simp
                  rw [show (countC c).toNat = 2 * N + c.inputs.length + c.signals.length by omega]
                  exact ⟨_, List.singleton_sublist.2 (List.mem_cons_self), List.Perm.refl _⟩
                · rw [hany] at e'
                  simp at e'
                  rw [e']
                  simp
  · rintro r H' ⟨h1, h2⟩
    by_cases hz : checkC c = 0
    · obtain ⟨m, e1, e2⟩ := h1 hz
      exact ⟨_, e2, fun _ => ⟨m, e1, rfl⟩, fun h => absurd hz h⟩
    · exact ⟨[], ⟨[], List.nil_sublist _, List.Perm.refl _⟩, fun h => absurd h hz, fun _ => ⟨h2 hz, rfl⟩⟩
theorem Check_fn (c : Control) (hc : OkC c) : CallFn Tryz.prog 58 [aC c] (aI (checkC c)) := by
  refine callFz_of Tryz.func58 rfl Tryz.ntmps58 (rs := [.tmp 2]) rfl (by kernel_rfl) (by simp) (by kernel_rfl) ?_
  simp
  refine (CallS.frame (H1 := []) (check_s c hc)).mono ?_
  rintro r H' ⟨H2, ⟨h1, h2⟩, rfl⟩
  by_cases hz : checkC c = 0
  · obtain ⟨m, rfl, rfl⟩ := h1 hz
    simp [hz]
  · obtain ⟨rfl, rfl⟩ := h2 hz
    simp
end Go.Proofs.YtdnkpogfcpjkpaaGreatDoor
end

section
namespace Go.Proofs.YtdnkpogfcpjkpaaGreatDoor
set_option maxHeartbeats 1000000
mutual
def szE : Expr → Nat
  | ⟨_, _, args⟩ => 1 + szL args
def szL : List Expr → Nat
  | [] => 0
  | x :: xs => szE x + szL xs
end
mutual
def dpE : Expr → Nat
  | ⟨_, _, args⟩ => 1 + dpL args
def dpL : List Expr → Nat
  | [] => 0
  | x :: xs => max (dpE x) (dpL xs)
end
theorem szE_eq (x : Expr) : szE x = 1 + szL x.args := by cases x; simp [szE]
theorem dpE_eq (x : Expr) : dpE x = 1 + dpL x.args := by cases x; simp [dpE]
mutual
def ndE : Expr → List Expr
  | ⟨op, ix, args⟩ => ⟨op, ix, args⟩ :: ndL args
def ndL : List Expr → List Expr
  | [] => []
  | x :: xs => ndE x ++ ndL xs
end
mutual
theorem ndE_len : ∀ x : Expr, (ndE x).length = szE x
  | ⟨op, ix, args⟩ => by simp [ndE, szE, ndL_len args]; omega
theorem ndL_len : ∀ l : List Expr, (ndL l).length = szL l
  | [] => by simp [ndL, szL]
  | x :: xs => by simp [ndL, szL, ndE_len x, ndL_len xs]
end
mutual
theorem preE_all : ∀ (x : Expr) (d : Int), d + dpE x ≤ 17 → (preE x d).map (·.2) = ndE x ∧ ∀ p ∈ preE x d, p.1 ≤ 16
  | ⟨op, ix, args⟩, d, h => by
    simp only [dpE] at h
    have hd : d ≤ 16 := by omega
    obtain ⟨h1, h2⟩ := preL_all args (d + 1) (by omega)
    simp only [preE, hd, if_true, List.map_cons, ndE, h1, true_and]
    intro p hp
    rcases List.mem_cons.1 hp with rfl | hp
    · exact hd
    · exact h2 p hp
theorem preL_all : ∀ (l : List Expr) (d : Int), d + dpL l ≤ 17 → (preL l d).map (·.2) = ndL l ∧ ∀ p ∈ preL l d, p.1 ≤ 16
  | [], _, _ => by simp [preL, ndL]
  | x :: xs, d, h => by
    simp only [dpL] at h
    obtain ⟨h1, h2⟩ := preE_all x d (by omega)
    obtain ⟨h3, h4⟩ := preL_all xs d (by omega)
    simp only [preL, List.map_append, ndL, h1, h3, true_and]
    intro p hp
    rcases List.mem_append.1 hp with hp | hp
    · exact h2 p hp
    · exact h4 p hp
end
mutual
theorem preE_deep : ∀ (x : Expr) (d : Int), d ≤ 17 → 17 < d + dpE x → ∃ p ∈ preE x d, p.1 > 16
  | ⟨op, ix, args⟩, d, h0, h => by
    simp only [dpE] at h
    by_cases hd : d ≤ 16
    · obtain ⟨p, hp, h1⟩ := preL_deep args (d + 1) (by omega) (by omega)
      exact ⟨p, by simp only [preE, hd, if_true]; exact List.mem_cons_of_mem _ hp, h1⟩
    · exact ⟨(d, ⟨op, ix, args⟩), by simp [preE], by simp only; omega⟩
theorem preL_deep : ∀ (l : List Expr) (d : Int), d ≤ 17 → 17 < d + dpL l → ∃ p ∈ preL l d, p.1 > 16
  | [], d, h0, h => by simp only [dpL] at h; omega
  | x :: xs, d, h0, h => by
    simp only [dpL] at h
    by_cases hx : 17 < d + dpE x
    · obtain ⟨p, hp, h1⟩ := preE_deep x d h0 hx
      exact ⟨p, by simp only [preL]; exact List.mem_append.2 (.inl hp), h1⟩
    · obtain ⟨p, hp, h1⟩ := preL_deep xs d h0 (by omega)
      exact ⟨p, by simp only [preL]; exact List.mem_append.2 (.inr hp), h1⟩
end
theorem measFold_ok : ∀ (l : List (Int × Expr)) (s : Int × Int), (∀ p ∈ l, p.1 ≤ 16) → s.1 + l.length ≤ 256 → ∃ s', l.foldlM measS s = .ok s'
  | [], s, _, _ => ⟨s, rfl⟩
  | p :: l, s, h, hl => by
    have h0 := h p (by simp)
    simp only [List.length_cons] at hl
    simp only [List.foldlM_cons, measS]
    rw [if_neg (by omega)]
    exact measFold_ok l _ (fun q hq => h q (by simp [hq])) (by simp only; omega)
theorem measFold_err : ∀ (l : List (Int × Expr)) (s : Int × Int), ((∃ p ∈ l, p.1 > 16) ∨ s.1 + l.length > 256 ∧ l ≠ []) → s.1 ≤ 256 → l.foldlM measS s = .error ()
  | [], s, h, _ => by rcases h with ⟨p, hp, _⟩ | h; simp at hp; exact absurd rfl h.2
  | p :: l, s, h, hs => by
    simp only [List.foldlM_cons, measS]
    by_cases hc : s.1 + 1 > 256 ∨ p.1 > 16
    · rw [if_pos hc]; rfl
    · rw [if_neg hc]
      refine measFold_err l _ ?_ (by simp only; omega)
      rcases h with ⟨q, hq, h1⟩ | h
      · rcases List.mem_cons.1 hq with rfl | hq
        · omega
        · exact .inl ⟨q, hq, h1⟩
      · simp only [List.length_cons] at h
        refine .inr ⟨by simp only; omega, ?_⟩
        rintro rfl
        simp at h
        omega
theorem meas_iff (x : Expr) : (∃ s, meas x = .ok s) ↔ szE x ≤ 256 ∧ dpE x ≤ 16 := by
  constructor
  · rintro ⟨s, h⟩
    by_cases hd : dpE x ≤ 16
    · refine ⟨?_, hd⟩
      obtain ⟨h1, h2⟩ := preE_all x 1 (by omega)
      have hl : (preE x 1).length = szE x := by rw [← ndE_len, ← h1, List.length_map]
      rcases Nat.lt_or_ge 256 (szE x) with hg | hg
      · have := measFold_err (preE x 1) (0, 0) (.inr ⟨by simp only; omega, by rw [preE_eq]; simp⟩) (by simp)
        unfold meas at h
        rw [this] at h
        cases h
      · exact hg
    · obtain ⟨p, hp, h1⟩ := preE_deep x 1 (by omega) (by omega)
      have := measFold_err (preE x 1) (0, 0) (.inl ⟨p, hp, h1⟩) (by simp)
      unfold meas at h
      rw [this] at h
      cases h
  · rintro ⟨h1, h2⟩
    obtain ⟨h3, h4⟩ := preE_all x 1 (by omega)
    have hl : (preE x 1).length = szE x := by rw [← ndE_len, ← h3, List.length_map]
    exact measFold_ok _ _ h4 (by simp only; omega)
mutual
theorem deep_iff : ∀ (x : Expr) (m : Int), deepE x m = decide ((dpE x : Int) ≤ m)
  | ⟨op, ix, args⟩, m => by
    have e : dpE ⟨op, ix, args⟩ = 1 + dpL args := by simp [dpE]
    simp only [deepE]
    by_cases h1 : m < 1
    · rw [if_pos h1]
      exact (decide_eq_false (by rw [e]; omega)).symm
    · rw [if_neg h1]
      by_cases h2 : m = 1
      · rw [if_pos h2]
        subst h2
        cases args with
        | nil => exact (decide_eq_true (by rw [e]; simp [dpL])).symm
        | cons y l =>
          have : 1 ≤ dpE y := by rw [dpE_eq]; omega
          exact (decide_eq_false (by rw [e]; simp only [dpL]; omega)).symm
      · rw [if_neg h2, deepL_iff args (m - 1) (by omega)]
        exact decide_eq_decide.2 (by rw [e]; omega)
theorem deepL_iff : ∀ (l : List Expr) (m : Int), 0 ≤ m → deepL l m = decide ((dpL l : Int) ≤ m)
  | [], m, h => by simp [deepL, dpL, h]
  | x :: xs, m, h => by
    simp only [deepL, dpL, deep_iff x m, deepL_iff xs m h]
    rw [← Bool.decide_and]
    exact decide_eq_decide.2 (by omega)
end
mutual
theorem cnt_iff : ∀ (x : Expr) (m : Int), 0 ≤ m → ((szE x : Int) ≤ m → cntE x m = szE x) ∧ (m < szE x → m < cntE x m)
  | ⟨op, ix, args⟩, m, h => by
    simp only [cntE, szE]
    by_cases h0 : m = 0
    · subst h0
      refine ⟨fun h => by omega, fun _ => ?_⟩
      have := cntL_iff args 0 1 (by omega)
      by_cases hs : (1 : Int) + szL args ≤ 0
      · omega
      · exact this.2 (by omega)
    · have := cntL_iff args m 1 (by omega)
      refine ⟨fun h1 => ?_, fun h1 => this.2 (by omega)⟩
      have h2 := this.1 (by omega)
      omega
theorem cntL_iff : ∀ (l : List Expr) (m n : Int), 0 ≤ n → (n + szL l ≤ m → cntL l m n = n + szL l) ∧ (m < n + szL l → m < cntL l m n)
  | [], m, n, _ => by simp [cntL, szL]
  | x :: xs, m, n, hn => by
    simp only [cntL, szL]
    by_cases h : n ≤ m
    · rw [if_pos h]
      have h1 := cnt_iff x (m - n) (by omega)
      by_cases hx : (szE x : Int) ≤ m - n
      · have e := h1.1 hx
        have h2 := cntL_iff xs m (n + cntE x (m - n)) (by omega)
        rw [e] at h2 ⊢
        refine ⟨fun h3 => ?_, fun h3 => h2.2 (by omega)⟩
        have := h2.1 (by omega)
        omega
      · have e := h1.2 (by omega)
        have h2 := cntL_iff xs m (n + cntE x (m - n)) (by omega)
        exact ⟨fun h3 => by omega, fun _ => h2.2 (by omega)⟩
    · rw [if_neg h]
      exact ⟨fun h1 => by omega, fun _ => by omega⟩
end
theorem light_iff (x : Expr) : lightE x = true ↔ szE x ≤ 256 ∧ dpE x ≤ 16 := by
  unfold lightE
  rw [Bool.and_eq_true, deep_iff, decide_eq_true_eq, decide_eq_true_eq]
  have := cnt_iff x 256 (by omega)
  constructor
  · rintro ⟨h1, h2⟩
    refine ⟨?_, by omega⟩
    rcases Nat.lt_or_ge 256 (szE x) with h | h
    · have := this.2 (by omega); omega
    · exact h
  · rintro ⟨h1, h2⟩
    exact ⟨by have := this.1 (by omega); omega, by omega⟩
theorem szL_ge : ∀ l : List Expr, l.length ≤ szL l
  | [] => by simp [szL]
  | x :: xs => by have := szL_ge xs; have : 1 ≤ szE x := by rw [szE_eq]; omega
                  simp only [szL, List.length_cons]; omega
theorem node_same (x : Expr) (n : Int) (h : szE x ≤ 256) : nodeR x n = nodeT x n := by
  have hl := szL_ge x.args
  rw [szE_eq] at h
  unfold nodeR nodeT
  by_cases h1 : x.op < 0 ∨ x.op ≥ 5
  · rw [if_pos h1, if_pos h1]
  · rw [if_neg h1, if_neg h1]
    obtain ho | ho | ho | ho | ho : x.op = 0 ∨ x.op = 1 ∨ x.op = 2 ∨ x.op = 3 ∨ x.op = 4 := by omega
    all_goals
      simp only [ho]
      simp
      try simp only [← List.length_eq_zero_iff]
      repeat' split
      all_goals first | rfl | omega
mutual
theorem nodes_list : ∀ (x : Expr) (n : Int), nodesE x n = firstErr (fun y => nodeT y n) (ndE x)
  | ⟨op, ix, args⟩, n => by simp only [nodesE, ndE, firstErr, nodesL_list args n]
theorem nodesL_list : ∀ (l : List Expr) (n : Int), nodesL l n = firstErr (fun y => nodeT y n) (ndL l)
  | [], n => by simp [nodesL, ndL, firstErr]
  | x :: xs, n => by
    simp only [nodesL, ndL, nodes_list x n, nodesL_list xs n]
    generalize ndE x = a
    induction a with
    | nil => simp [firstErr]
    | cons y a ih =>
      simp only [List.cons_append, firstErr]
      by_cases h : nodeT y n = 0
      · simp only [h, ne_eq, not_true_eq_false, if_false]; exact ih
      · simp [h]
end
mutual
theorem ndE_sz : ∀ (x : Expr) (y : Expr), y ∈ ndE x → szE y ≤ szE x
  | ⟨op, ix, args⟩, y, h => by
    simp only [ndE] at h
    rcases List.mem_cons.1 h with rfl | h
    · exact Nat.le_refl _
    · have := ndL_sz args y h; simp only [szE]; omega
theorem ndL_sz : ∀ (l : List Expr) (y : Expr), y ∈ ndL l → szE y ≤ szL l
  | [], y, h => by simp [ndL] at h
  | x :: xs, y, h => by
    simp only [ndL] at h
    simp only [szL]
    rcases List.mem_append.1 h with h | h
    · have := ndE_sz x y h; omega
    · have := ndL_sz xs y h; omega
end
theorem nodeFold (n : Int) : ∀ l : List (Int × Expr), (match l.foldlM (nodeS n) () with | .ok _ => 0 | .error e => e) = firstErr (fun y => nodeR y n) (l.map (·.2))
  | [] => rfl
  | p :: l => by
    simp only [List.foldlM_cons, List.map_cons, firstErr, nodeS]
    by_cases h : nodeR p.2 n = 0
    · simp only [h, ne_eq, not_true_eq_false, if_false]
      exact nodeFold n l
    · simp only [h, ne_eq, not_false_eq_true, if_true]
      rfl
theorem firstErr_congr {ι : Type} {f g : ι → Int} : ∀ {l : List ι}, (∀ x ∈ l, f x = g x) → firstErr f l = firstErr g l
  | [], _ => rfl
  | x :: l, h => by
    have ih := firstErr_congr (l := l) fun y hy => h y (List.mem_cons_of_mem _ hy)
    simp only [firstErr, h x List.mem_cons_self, ih]
theorem check_same (x : Expr) (n : Int) : refCheckE x n = checkE x n := by
  unfold refCheckE checkE
  by_cases hn : n < 0 ∨ n > 256
  · rw [if_pos hn, if_pos hn]
  · rw [if_neg hn, if_neg hn]
    by_cases hl : szE x ≤ 256 ∧ dpE x ≤ 16
    · have h1 : lightE x = true := (light_iff x).2 hl
      obtain ⟨s, h2⟩ := (meas_iff x).2 hl
      rw [h1, h2]
      simp only [Bool.true_eq_false, if_false]
      have hk := nodeFold n (preE x 1)
      rw [(preE_all x 1 (by omega)).1, firstErr_congr fun y hy => node_same y n (Nat.le_trans (ndE_sz x y hy) hl.1), ← nodes_list] at hk
      cases hf : (preE x 1).foldlM (nodeS n) () with
      | ok u => rw [hf] at hk; simp only at hk ⊢; exact hk.symm
      | error e => rw [hf] at hk; simp only at hk ⊢; exact hk.symm
    · have h1 : lightE x = false := by
        cases h : lightE x
        · rfl
        · exact absurd ((light_iff x).1 h) hl
      have h2 : ∃ e, meas x = .error e := by
        cases h : meas x with
        | ok s => exact absurd ((meas_iff x).1 ⟨s, h⟩) hl
        | error e => exact ⟨e, rfl⟩
      obtain ⟨e, h2⟩ := h2
      rw [h1, h2]
      simp
end Go.Proofs.YtdnkpogfcpjkpaaGreatDoor
end

section
namespace Go.Proofs.YtdnkpogfcpjkpaaGreatDoor
set_option maxHeartbeats 4000000
set_option maxRecDepth 10000
theorem refCheckC_fn (x : Expr) (hx : OkE x) (n : Int) : CallFn Tryz.prog 94 [aE x, aI n] (aI (checkE x n)) := by
  rw [← check_same]; exact refCheck_fn x hx n
def okW (s : List UInt8) (i : Nat) : Prop := wordS (s.take i) = true ∨ i = 0
theorem okW_step {s : List UInt8} {i : Nat} {b : UInt8} (h : okW s i) (hb : s[i]? = some b) : (wordS (s.take (i + 1)) = true ↔ (partB b = true ∧ (i = 0 → 97 ≤ b.toNat ∧ b.toNat ≤ 122))) := by
  have e : s.take (i + 1) = s.take i ++ [b] := by rw [List.take_add_one, hb]; rfl
  rw [e]
  by_cases h0 : i = 0
  · subst h0
    simp [wordS]
    constructor
    · rintro ⟨⟨h1, h2⟩, h3⟩; exact ⟨h3, h1, h2⟩
    · rintro ⟨h3, h1, h2⟩; exact ⟨⟨h1, h2⟩, h3⟩
  · rcases h with h | h
    · cases ht : s.take i with
      | nil => rw [ht] at h; simp [wordS] at h
      | cons a t =>
        rw [ht] at h
        simp [wordS] at h ⊢
        simp [h, h0]
        intro _ x hx
        exact h.2.2 x hx
    · exact absurd h h0
theorem wordS_mono {s : List UInt8} {i : Nat} (h : wordS s = true) (hi : 0 < i) : wordS (s.take i) = true := by
  cases s with
  | nil => simp [wordS] at h
  | cons a t =>
    obtain ⟨j, rfl⟩ : ∃ j, i = j + 1 := ⟨i - 1, by omega⟩
    simp [wordS] at h ⊢
    exact ⟨h.1, h.2.1, fun x hx => h.2.2 x (List.mem_of_mem_take hx)⟩
theorem wordR_fn (s : List UInt8) (hs : Sh s) : CallFn Tryz.prog 93 [aT s] (aB (wordS s)) := by
  refine callFz_of Tryz.func93 rfl Tryz.ntmps93 (rs := [.tmp 2]) rfl (by kernel_rfl) (by simp) (by kernel_rfl) ?_
  simp
  refine V.forI (σ := Unit) s.length [0] (by simp; exact rfl) (fun i _ => [(3, aI i)]) (fun _ _ => []) (fun i _ => okW s i) () (.inr rfl) (by simp) ⟨by simp; exact rfl, by simp⟩ ?_ ?_
  · rintro i - hi hI
    obtain ⟨b, hb⟩ : ∃ b, s[i] = b := ⟨_, rfl⟩
    have hbo : s[i]? = some b := by rw [List.getElem?_eq_getElem hi, hb]
    have hstep := okW_step hI hbo
    have hlt := b.toNat_lt
    simp [hi]
    refine V.draw (fun _ => none) (by kernel_rfl) (by kernel_rfl) (by simp) ?_
    simp [hi, hb]
    refine ⟨by omega, by omega, by omega, ?_⟩
    have hp : partB b = true ↔ ((97 ≤ b.toNat ∧ b.toNat ≤ 122) ∨ (65 ≤ b.toNat ∧ b.toNat ≤ 90) ∨ (48 ≤ b.toNat ∧ b.toNat ≤ 57) ∨ b.toNat = 95) := by
      simp [partB]
      omega
    refine ⟨by omega, fun hbad => ?_, fun h1 h2 => ⟨by omega, .inl (hstep.2 ⟨hp.2 (by omega), fun h => by have := h1 h; omega⟩)⟩⟩
    cases hw : wordS s
    · rfl
    · obtain ⟨h3, h4⟩ := hstep.1 (wordS_mono hw (by omega))
      have h5 := hp.1 h3
      omega
  · rintro - hI
    have e : (s != []) = wordS s := by
      rcases hI with h | h
      · rw [List.take_length] at h
        rw [h]
        cases s <;> simp_all [wordS]
      · have : s = [] := List.length_eq_zero_iff.1 h
        subst this
        rfl
    simp
    exact e
theorem nameR_fn (c : Control) (h : Sm c) (hc : OkC c) (ha : 0 ≤ c.actuators ∧ c.actuators ≤ 6) (k : Nat) (h1 : (k : Int) < countC c) : CallFn Tryz.prog 46 [aC c, aI k] (aI (nameE (namedC c k) (namesB c k))) := by
  have hs := h
  obtain ⟨g1, g2, g3⟩ := h
  have hcn : countC c = 2 * c.actuators + c.inputs.length + c.signals.length := rfl
  have hSh : Sh (namedC c k) := by
    unfold namedC
    split
    · rename_i hk
      have : k < 12 := by omega
      rw [lineName_eq k this]
      simp
    · split
      · rw [List.getD_eq_getElem?_getD]
        cases hi : c.inputs[((k : Int) - 2 * c.actuators).toNat]? with
        | none => simp
        | some y => exact hc.names y (List.mem_of_getElem? hi)
      · cases hi : c.signals[((k : Int) - firstC c).toNat]? with
        | none => simp
        | some y => exact (hc.sigs y (List.mem_of_getElem? hi)).name
  refine callFz_of Tryz.func46 rfl Tryz.ntmps46 (rs := [.tmp 4]) rfl (by kernel_rfl) (by simp) (by kernel_rfl) ?_
  simp
  refine (NamedR_fn c hs ha k (by omega) h1).s ?_
  simp
  refine (wordR_fn (namedC c k) hSh).s ?_
  cases hw : wordS (namedC c k)
  · simp [nameE, hw]
  · by_cases hl : (namedC c k).length > 24
    · simp [nameE, hw, hl]
      intro h
      omega
    · have hl' : ¬ 24 < (namedC c k).length := hl
      have hl2 : ((namedC c k).length : Int) ≤ 24 := by omega
      simp [hl2, Int.not_lt.2 hl2]
      refine V.forI (σ := Unit) k [1, 2, 5] (by simp; exact rfl) (fun i _ => [(6, aI i)]) (fun _ _ => []) (fun i _ => ∀ j, j < i → namedC c j ≠ namedC c k) () (by simp) (by simp) ⟨by simp; exact rfl, by simp⟩ ?_ ?_
      · rintro i - hi hI
        simp [hi]
        refine (NamedR_fn c hs ha i (by omega) (by omega)).s ?_
        by_cases e : namedC c i = namedC c k
        · have hm : namedC c k ∈ namesB c k := List.mem_map.2 ⟨i, by simpa using hi, e⟩
          simp [nameE, hw, hl', hm, e]
        · simp [e]
          refine ⟨by omega, fun j hj => ?_⟩
          rcases Nat.lt_or_ge j i with h | h
          · exact hI j h
          · obtain rfl : j = i := by omega
            exact e
      · rintro - hI
        have hm : namedC c k ∉ namesB c k := by
          intro hm
          obtain ⟨j, hj, e⟩ := List.mem_map.1 hm
          exact hI j (by simpa using hj) e
        simp [nameE, hw, hl', hm]
mutual
def occE : Expr → Int → Bool
  | ⟨op, ix, args⟩, k => if op = 1 then ix == k else occL args k
def occL : List Expr → Int → Bool
  | [], _ => false
  | x :: xs, k => occE x k || occL xs k
end
theorem occE_eq (x : Expr) (k : Int) : occE x k = if x.op = 1 then x.index == k else occL x.args k := by cases x; simp [occE]
theorem occurs_fn : ∀ (N : Nat) (x : Expr), SizeOf.sizeOf x < N → OkE x → ∀ k : Int, CallFn Tryz.prog 125 [aE x, aI k] (aB (occE x k))
  | 0, _, h, _, _ => absurd h (Nat.not_lt_zero _)
  | N + 1, x, hN, hx, k => by
    refine callFz_of Tryz.func125 rfl Tryz.ntmps125 (rs := [.tmp 4]) rfl (by kernel_rfl) (by simp) (by kernel_rfl) ?_
    by_cases hop : x.op = 1
    · simp [hop, occE_eq]
    · have e : occE x k = occL x.args k := by rw [occE_eq, if_neg hop]
      simp [hop]
      refine V.forI (σ := Unit) x.args.length [1, 2] (by simp; exact rfl) (fun i _ => [(5, aI i)]) (fun _ _ => []) (fun i _ => occL (x.args.drop i) k = occE x k) () (by simp [e]) (by simp) ⟨by simp; exact rfl, by simp⟩ ?_ ?_
      · rintro i - hi hI
        obtain ⟨y, hy⟩ : ∃ y, x.args[i] = y := ⟨_, rfl⟩
        have hmem : y ∈ x.args := hy ▸ List.getElem_mem hi
        have hlen := hx.len
        rw [List.drop_eq_getElem_cons hi, hy, occL] at hI
        simp [hi, hy, encE_eq]
        refine (occurs_fn N y (by have := Expr.lt_of_mem hmem; omega) (hx.args y hmem) k).s ?_
        cases ho : occE y k
        · rw [ho] at hI
          simp at hI
          simp
          exact ⟨by omega, hI⟩
        · rw [ho] at hI
          simp at hI
          simp [hI]
      · rintro - hI
        simp [occL] at hI
        simp [← hI]
theorem foldl_or (f : Int → Bool) : ∀ (l : List Int) (b : Bool), l.foldl (fun b n => b || f n) b = (b || l.any f)
  | [], b => by simp
  | n :: l, b => by simp [foldl_or f l, Bool.or_assoc]
theorem lateC_any (c : Control) (i : Int) (x : Expr) : lateC c i x = (varsE x).any fun n => decide (i ≤ n - firstC c) && kindAt c (n - firstC c) == 0 := by
  unfold lateC
  have : lateStep c i = fun b n => b || (decide (i ≤ n - firstC c) && kindAt c (n - firstC c) == 0) := rfl
  rw [this, foldl_or]
  rfl
theorem occ_vars {n : Int} : ∀ (N : Nat) (x : Expr), SizeOf.sizeOf x < N → RightE n x → ∀ k, occE x k = (varsE x).any (· == k)
  | 0, _, h, _, _ => absurd h (Nat.not_lt_zero _)
  | N + 1, x, hN, hr, k => by
    have hL : ∀ l : List Expr, (∀ y ∈ l, y ∈ x.args) → occL l k = (varsL l).any (· == k) := by
      intro l
      induction l with
      | nil => intro _; rfl
      | cons y l ih =>
        intro hl
        have hm := hl y (by simp)
        simp only [occL, varsL, List.any_append]
        rw [ih (fun z hz => hl z (by simp [hz])), occ_vars N y (by have := Expr.lt_of_mem hm; omega) (hr.args y hm) k]
    rw [occE_eq, varsE_eq]
    by_cases hop : x.op = 1
    · have hn := hr.node
      have hargs : x.args = [] := by
        unfold nodeR at hn
        simp only [hop] at hn
        split at hn <;> try omega
        split at hn <;> try omega
        rename_i h
        simp at h
        exact List.length_eq_zero_iff.1 (by omega)
      simp [hop, hargs, varsL]
    · simp [hop]
      simpa using hL x.args fun _ h => h
theorem occ_check {x : Expr} {n : Int} (h : checkE x n = 0) (k : Int) : occE x k = (varsE x).any (· == k) := occ_vars (SizeOf.sizeOf x + 1) x (by omega) (right_of_check h).1 k
theorem late_fn (c : Control) (h : Sm c) (i : Nat) (s : Signal) (hi : c.signals[i]? = some s) (hx : OkS s) (hr : checkE s.on (countC c) = 0) : CallFn Tryz.prog 95 [aC c, aI i] (aB (lateC c i s.on)) := by
  have hs := h
  obtain ⟨g1, g2, g3⟩ := h
  obtain ⟨hlt, hy1⟩ := List.getElem?_eq_some_iff.1 hi
  have hcn : countC c = firstC c + c.signals.length := rfl
  have hfc : firstC c = 2 * c.actuators + c.inputs.length := rfl
  refine callFz_of Tryz.func95 rfl Tryz.ntmps95 (rs := [.tmp 4]) rfl (by kernel_rfl) (by simp) (by kernel_rfl) ?_
  simp
  refine V.forI (σ := Unit) (c.signals.length - i) [1, 2] (by simp; exact rfl) (fun m _ => [(5, aI (i + m : Nat))]) (fun _ _ => []) (fun m _ => ∀ j, i ≤ j → j < i + m → kindAt c j = 0 → occE s.on (firstC c + j) = false) () (by intro j h1 h2; omega) (by simp) ⟨by simp; exact rfl, by simp⟩ ?_ ?_
  · rintro m - hm hI
    have hj : i + m < c.signals.length := by omega
    have hji : (i : Int) + m < c.signals.length := by omega
    obtain ⟨y, hy⟩ : ∃ y, c.signals[i + m] = y := ⟨_, rfl⟩
    have hyo : c.signals[i + m]? = some y := by rw [List.getElem?_eq_getElem hj, hy]
    have hka : kindAt c ((i + m : Nat) : Int) = y.kind := by unfold kindAt; rw [Int.toNat_natCast, hyo]; rfl
    simp [hji]
    refine V.draw (fun t => if t = 29 then some (.fn (aI (firstC c))) else if t = 32 then some (.fn (aB (occE s.on (firstC c + (i + m : Nat))))) else none) (by kernel_rfl) (by kernel_rfl) (by simp) ?_
    have e1 := signals_fn c hs
    have e2 := occurs_fn (SizeOf.sizeOf s.on + 1) s.on (by omega) hx.on (firstC c + (i + m : Nat))
    simp at e1 e2
    have hti : ((i : Int) + m).toNat = i + m := by omega
    simp [hji, hti, hyo, hy1, hlt, e1, e2, hj, hy]
    refine ⟨by omega, fun h => ⟨h, by omega, by omega⟩, fun hk ho => ?_, fun hno => ⟨by omega, ?_, by omega⟩⟩
    · rw [occ_check hr, List.any_eq_true] at ho
      obtain ⟨n, hn, e⟩ := ho
      simp only [beq_iff_eq] at e
      rw [lateC_any, List.any_eq_true]
      refine ⟨n, hn, ?_⟩
      rw [show n - firstC c = ((i + m : Nat) : Int) by omega, hka, hk]
      simp
      omega
    · intro j h1 h2 h3
      rcases Nat.lt_or_ge j (i + m) with h | h
      · exact hI j h1 h h3
      · obtain rfl : j = i + m := by omega
        rw [hka] at h3
        have := hno h3
        simpa using this
  · rintro - hI
    have e : i + (c.signals.length - i) = c.signals.length := by omega
    rw [e]
    have hl : lateC c i s.on = false := by
      rw [lateC_any, List.any_eq_false]
      intro n hn
      have hv := vars_check hr n hn
      simp only [Bool.and_eq_true, decide_eq_true_eq, beq_iff_eq, not_and]
      intro h1 h2
      obtain ⟨j, hj⟩ : ∃ j : Nat, n - firstC c = j := ⟨(n - firstC c).toNat, by omega⟩
      rw [hj] at h1 h2
      have := hI j (by omega) (by omega) h2
      rw [occ_check hr, List.any_eq_false] at this
      exact this n hn (by simp; omega)
    simp [hl]
theorem signalR_fn (c : Control) (h : Sm c) (hc : OkC c) (ha : 0 ≤ c.actuators ∧ c.actuators ≤ 6) (i : Nat) (s : Signal) (hi : c.signals[i]? = some s) : CallFn Tryz.prog 47 [aC c, aI i] (aI (sigE c i)) := by
  have hs := h
  obtain ⟨g1, g2, g3⟩ := h
  obtain ⟨hlt, hy1⟩ := List.getElem?_eq_some_iff.1 hi
  have hcn : countC c = firstC c + c.signals.length := rfl
  have hfc : firstC c = 2 * c.actuators + c.inputs.length := rfl
  have hx : OkS s := hc.sigs s (List.mem_of_getElem? hi)
  obtain ⟨N, hN⟩ : ∃ N : Nat, c.actuators = N := ⟨c.actuators.toNat, by omega⟩
  have hNN : c.actuators.toNat = N := by omega
  have hk : firstC c + i = ((2 * N + c.inputs.length + i : Nat) : Int) := by omega
  have hn : namedC c (2 * N + c.inputs.length + i : Nat) = s.name := by
    refine named_sig (s := s) (by omega) (by omega) ?_
    rw [show ((2 * N + c.inputs.length + i : Nat) - firstC c : Int).toNat = i by omega]
    exact hi
  have e0 : sigE c i = signalE c i s (namesB c (2 * N + c.inputs.length + i)) := by simp only [sigE, hi, hNN]
  rw [e0]
  generalize hnm : namesB c (2 * N + c.inputs.length + i) = names
  have c1 := nameR_fn c hs hc ha (2 * N + c.inputs.length + i) (by omega)
  rw [hn, hnm, ← hk] at c1
  refine callFz_of Tryz.func47 rfl Tryz.ntmps47 (rs := [.tmp 4]) rfl (by kernel_rfl) (by simp) (by kernel_rfl) ?_
  simp [hy1, hlt]
  intro b5
  refine V.draw (fun t => if t = 18 then some (.fn (aI (firstC c))) else if t = 21 then some (.fn (aI (nameE s.name names))) else none) (by kernel_rfl) (by kernel_rfl) (by simp) ?_
  have c2 := signals_fn c hs
  try simp at c1
  try simp at c2
  simp [c1, c2]
  refine ⟨by omega, fun h1 => by simp [signalE, h1], fun h1 => ⟨fun h2 => ?_, fun h2 h3 => ?_⟩⟩
  · simp [signalE, h1]
    omega
  · refine V.draw (fun t => if t = 36 then some (.fn (aI (countC c))) else if t = 37 then some (.fn (aI (checkE s.on (countC c)))) else none) (by kernel_rfl) (by kernel_rfl) (by simp) ?_
    have c3 := lines_fn c hs
    have c4 := refCheckC_fn s.on hx.on (countC c)
    try simp at c3
    try simp at c4
    simp [c3, c4]
    have hk03 : ¬ (s.kind < 0 ∨ s.kind ≥ 3) := by omega
    refine ⟨fun h4 => by simp [signalE, h1, h4]; omega, fun h4 => ?_⟩
    have e1 : signalE c i s names = if s.kind = 0 then gateE c i s else if s.kind = 1 then memE c s else timE s := by
      unfold signalE; rw [if_neg (by simp [h1]), if_neg hk03, if_neg (by simp [h4])]
    rw [e1]
    have c5 := late_fn c hs i s hi hx h4
    have c6 := zeroR_fn s.off
    obtain hk | hk | hk : s.kind = 0 ∨ s.kind = 1 ∨ s.kind = 2 := by omega
    · simp only [hk, if_true]
      refine V.draw (fun _ => none) (by kernel_rfl) (by kernel_rfl) (by simp) ?_
      simp
      refine GCall.fn (aB (lateC c i s.on)) (fun _ => ⟨by first | trivial | assumption, c5⟩) ?_
      cases hl : lateC c i s.on
      · simp
        refine GCall.fn (aB (zeroE s.off)) (fun _ => ⟨by first | trivial | assumption, c6⟩) ?_
        simp
        cases hz : zeroE s.off <;> cases hin : s.init <;> simp [gateE, hl, hz, hin]
      · simp [gateE, hl]
    · simp only [hk]
      refine V.draw (fun _ => none) (by kernel_rfl) (by kernel_rfl) (by simp) ?_
      have c7 := refCheckC_fn s.off hx.off (countC c)
      simp
      refine V.draw (fun t => if t = 51 then some (.fn (aI (countC c))) else if t = 52 then some (.fn (aI (checkE s.off (countC c)))) else none) (by kernel_rfl) (by kernel_rfl) (by simp) ?_
      simp [c3, c7]
      refine ⟨fun h5 => by simp [memE, h5], fun h5 => ?_⟩
      refine GCall.fn (aB false) (by simp) ?_
      simp
      refine GCall.fn (aB false) (by simp) ?_
      simp [memE, h5]
    · simp only [hk]
      refine V.draw (fun _ => none) (by kernel_rfl) (by kernel_rfl) (by simp) ?_
      simp
      refine GCall.fn (aB false) (by simp) ?_
      simp
      refine ⟨fun h5 => by simp [timE]; omega, fun h5 h6 => ?_⟩
      refine GCall.fn (aB (zeroE s.off)) (fun _ => ⟨by first | trivial | assumption, c6⟩) ?_
      cases hz : zeroE s.off <;> cases hin : s.init <;> simp [timE, hz, hin] <;> omega
end Go.Proofs.YtdnkpogfcpjkpaaGreatDoor
end

section
namespace Go.Proofs.YtdnkpogfcpjkpaaGreatDoor
set_option maxHeartbeats 4000000
set_option maxRecDepth 10000
def badP (c : Control) (n : Int) : Bool := decide (n < 0) || decide (countC c ≤ n)
theorem NoF.any {α : Type} {p : α → Bool} {xs : List α} (h : NoF p xs) : xs.any p = false := by
  rw [List.any_eq_false]
  intro x hx
  simp [h x hx]
theorem pilotsR_fn (c : Control) (h : Sm c) (hp : c.plus.length ≤ 1000000) (hm : c.minus.length ≤ 1000000) : CallFn Tryz.prog 48 [aC c] (aI (pilotE c)) := by
  refine callFz_of Tryz.func48 rfl Tryz.ntmps48 (rs := [.tmp 2]) rfl (by kernel_rfl) (by simp) (by kernel_rfl) ?_
  by_cases hpl : (c.plus.length : Int) ≠ c.actuators ∨ (c.minus.length : Int) ≠ c.actuators
  · simp [pilotE, hpl]
    intro h1 h2
    omega
  · have h1 : (c.plus.length : Int) = c.actuators := by omega
    have h2 : (c.minus.length : Int) = c.actuators := by omega
    have e' : pilotE c = if (c.plus ++ c.minus).any (badP c) then 6 else 0 := by rw [pilotE, if_neg hpl]; rfl
    rw [List.any_append] at e'
    simp [h1, h2]
    refine V.forI (σ := Unit) 2 [1, 24, 25] (by simp; exact rfl) (fun i _ => [(26, aI i)]) (fun _ _ => []) (fun i _ => (1 ≤ i → NoF (badP c) c.plus) ∧ (2 ≤ i → NoF (badP c) c.minus)) () (by simp) (by simp) ⟨by simp; exact rfl, by simp⟩ ?_ ?_
    · rintro i - hi hI
      obtain ⟨ys, hys, hly, hbad, hgood⟩ : ∃ ys : List Int, ([[L.sl (c.plus.map encI)], [L.sl (c.minus.map encI)]] : List (List L))[i]? = some [L.sl (ys.map encI)] ∧ ys.length ≤ 1000000 ∧ (ys.any (badP c) = true → pilotE c = 6) ∧
          (NoF (badP c) ys → (1 ≤ i + 1 → NoF (badP c) c.plus) ∧ (2 ≤ i + 1 → NoF (badP c) c.minus)) := by
        obtain rfl | rfl : i = 0 ∨ i = 1 := by omega
        · exact ⟨c.plus, rfl, hp, fun h => by rw [e', h]; rfl, fun h => ⟨fun _ => h, fun h => by omega⟩⟩
        · exact ⟨c.minus, rfl, hm, fun h => by rw [e', h]; simp, fun h => ⟨fun _ => hI.1 (by omega), fun _ => h⟩⟩
      have hi' : (i : Int) < 2 := by omega
      simp [hi', hys]
      refine V.forI (σ := Unit) ys.length [1, 4, 24, 25, 26, 27, 28, 29] (by simp; exact rfl) (fun j _ => [(5, aI j)]) (fun _ _ => []) (fun j _ => NoF (badP c) (ys.take j)) () (by simp) (by simp) ⟨by simp; exact rfl, by simp⟩ ?_ ?_
      · rintro j - hj hJ
        obtain ⟨y, hy⟩ : ∃ y, ys[j] = y := ⟨_, rfl⟩
        have hs := findIdx_step hJ (List.getElem?_eq_getElem hj)
        rw [hy] at hs
        have c3 := lines_fn c h
        simp [hj]
        refine V.draw (fun t => if t = 47 then some (.fn (aI (countC c))) else none) (by kernel_rfl) (by kernel_rfl) (by simp) ?_
        try simp at c3
        simp [hj, hy, c3]
        refine ⟨fun hb => ?_, fun hb1 hb2 => ⟨by omega, hs.1 (by simp [badP]; omega)⟩⟩
        rw [hbad]
        rw [← List.findIdx?_isSome, hs.2 (by simp [badP]; omega)]
        rfl
      · rintro - hJ
        rw [List.take_length] at hJ
        obtain ⟨g1, g2⟩ := hgood hJ
        simp
        refine ⟨by omega, g1 (by omega), ?_⟩
        intro h
        exact g2 (by omega)
    · rintro - ⟨g1, g2⟩
      rw [e', (g1 (by omega)).any, (g2 (by omega)).any]
      simp
theorem CheckR_fn (c : Control) (hc : OkC c) (hp : c.plus.length ≤ 1000000) (hm : c.minus.length ≤ 1000000) : CallFn Tryz.prog 22 [aC c] (aI (checkC c)) := by
  refine callFz_of Tryz.func22 rfl Tryz.ntmps22 (rs := [.tmp 2]) rfl (by kernel_rfl) (by simp) (by kernel_rfl) ?_
  by_cases ha : c.actuators < 1 ∨ c.actuators > 6
  · have e : checkC c = 2 := by simp [checkC, ha]
    rw [e]
    simp
    intro h1 h2
    omega
  · have ha' : 1 ≤ c.actuators ∧ c.actuators ≤ 6 ∧ ¬ c.actuators < 1 ∧ ¬ 6 < c.actuators := by omega
    by_cases hmx : c.inputs.length > 16 ∨ c.signals.length > 64
    · have e : checkC c = 5 := by simp only [checkC]; rw [if_neg ha, if_pos hmx]
      rw [e]
      simp [ha'.1, ha'.2]
      intro h1 h2
      omega
    · have hsm : Sm c := ⟨by omega, by omega, by omega⟩
      obtain ⟨N, hN⟩ : ∃ N : Nat, c.actuators = N := ⟨c.actuators.toNat, by omega⟩
      have hNN : c.actuators.toNat = N := by omega
      have hm' : (c.inputs.length : Int) ≤ 16 ∧ (c.signals.length : Int) ≤ 64 ∧ ¬ 16 < (c.inputs.length : Int) ∧ ¬ 64 < (c.signals.length : Int) := by omega
      have hcn : countC c = 2 * c.actuators + c.inputs.length + c.signals.length := rfl
      have e : checkC c = if firstErr (inpE c) (List.range c.inputs.length) ≠ 0 then firstErr (inpE c) (List.range c.inputs.length)
          else if firstErr (sigE c) (List.range c.signals.length) ≠ 0 then firstErr (sigE c) (List.range c.signals.length) else pilotE c := by
        simp only [checkC]; rw [if_neg ha, if_neg hmx]
      simp [ha'.1, ha'.2, hm'.1, hm'.2]
      refine V.forI (σ := Unit) c.inputs.length [1] (by simp; exact rfl) (fun i _ => [(3, aI i)]) (fun _ _ => []) (fun i _ => NoE (inpE c) i) () (NoE.zero _) (by simp) ⟨by simp; exact rfl, by simp⟩ ?_ ?_
      · rintro i - hi hI
        have c1 := nameR_fn c hsm hc ⟨by omega, by omega⟩ (2 * N + i) (by omega)
        have hin : inpE c i = nameE (namedC c (2 * N + i : Nat)) (namesB c (2 * N + i)) := by rw [inpE, hNN]
        rw [← hin, show ((2 * N + i : Nat) : Int) = 2 * c.actuators + i by omega] at c1
        simp [hi]
        refine ⟨by omega, by omega, c1.s ?_⟩
        by_cases hz : inpE c i = 0
        · simp [hz]
          exact ⟨by omega, hI.succ hz⟩
        · have hf := firstErr_at hI hi hz
          have e' : checkC c = inpE c i := by rw [e, hf, if_pos hz]
          simp [hz, e']
      · rintro - hI
        have hf := firstErr_all hI
        rw [hf] at e
        simp at e
        simp
        refine V.forI (σ := Unit) c.signals.length [1] (by simp; exact rfl) (fun i _ => [(5, aI i)]) (fun _ _ => []) (fun i _ => NoE (sigE c) i) () (NoE.zero _) (by simp) ⟨by simp; exact rfl, by simp⟩ ?_ ?_
        · rintro i - hi hI2
          have c1 := signalR_fn c hsm hc ⟨by omega, by omega⟩ i _ (List.getElem?_eq_getElem hi)
          simp [hi]
          refine c1.s ?_
          by_cases hz : sigE c i = 0
          · simp [hz]
            exact ⟨by omega, hI2.succ hz⟩
          · have hf := firstErr_at hI2 hi hz
            have e' : checkC c = sigE c i := by rw [e, hf, if_neg hz]
            simp [hz, e']
        · rintro - hI2
          have hf := firstErr_all hI2
          rw [hf] at e
          simp at e
          rw [e]
          simp
          refine (pilotsR_fn c hsm hp hm).s ?_
          simp
end Go.Proofs.YtdnkpogfcpjkpaaGreatDoor
end

section
namespace Go.Proofs.YtdnkpogfcpjkpaaGreatDoor
set_option maxHeartbeats 4000000
set_option maxRecDepth 10000
theorem comp_B : ((fun x => List.map A.dat x) ∘ encB) = rB := rfl
theorem comp_I : ((fun x => List.map A.dat x) ∘ encI) = rI := rfl
attribute [simp] comp_B comp_I
def endsV (l : List Int) : List Bool := l.flatMap fun x => [x == 0, x == 2]
def valuesOf (s : State) : List Bool := endsV s.ends ++ s.inputs ++ s.values
theorem endsV_take {l : List Int} {i : Nat} {x : Int} (h : l[i]? = some x) : endsV (l.take (i + 1)) = endsV (l.take i) ++ [x == 0, x == 2] := by
  rw [List.take_add_one, h]
  simp [endsV]
theorem endsV_length (l : List Int) : (endsV l).length = 2 * l.length := by
  induction l with
  | nil => rfl
  | cons x l ih => simp only [endsV, List.flatMap_cons, List.length_append] at ih ⊢; rw [ih]; simp; omega
structure SmS (s : State) : Prop where
  ends : s.ends.length ≤ 1000000
  valves : s.valves.length ≤ 1000000
  inputs : s.inputs.length ≤ 1000000
  values : s.values.length ≤ 1000000
  timers : s.timers.length ≤ 1000000
theorem values_o (s : State) (h : SmS s) : CallOwn Tryz.prog 86 [aSt s] 4 1 ((valuesOf s).map rB) := by
  obtain ⟨h1, h2, h3, h4, h5⟩ := h
  refine callO_of Tryz.func86 rfl Tryz.ntmps86 (rs := [.tmp 2]) rfl (by kernel_rfl) (by simp) (by kernel_rfl) ?_
  simp
  refine V.forI (σ := Value) s.ends.length [1, 2, 7, 8] (by simp; exact rfl) (fun i g => [(9, aI i), (3, .own 50 g)]) (fun i g => [(50, .seq g 4 1 ((endsV (s.ends.take i)).map rB))]) (fun _ _ => True) (.slice none 0 0) trivial (by simp) ⟨by simp; exact rfl, by simp [endsV]⟩ ?_ ?_
  · rintro i g hi -
    obtain ⟨x, hx⟩ : ∃ x, s.ends[i] = x := ⟨_, rfl⟩
    have hs := endsV_take (show s.ends[i]? = some x by rw [List.getElem?_eq_getElem hi, hx])
    have hl := endsV_length (s.ends.take i)
    rw [List.length_take] at hl
    rw [hs]
    generalize endsV (s.ends.take i) = zs at hl ⊢
    simp [hi, hx]
    omega
  · rintro g -
    have hl := endsV_length s.ends
    rw [List.take_length]
    have hv : valuesOf s = endsV s.ends ++ s.inputs ++ s.values := rfl
    rw [hv]
    generalize endsV s.ends = zs at hl ⊢
    simp
    refine V.draw (fun _ => none) (by kernel_rfl) (by kernel_rfl) (by simp) ?_
    simp
    omega
theorem ValuesR_o (c : Control) (s : State) (h : SmS s) (ha : c.actuators = s.ends.length) : CallOwn Tryz.prog 89 [aC c, aSt s] 4 1 ((valuesOf s).map rB) := by
  obtain ⟨h1, h2, h3, h4, h5⟩ := h
  refine callO_of Tryz.func89 rfl Tryz.ntmps89 (rs := [.tmp 4]) rfl (by kernel_rfl) (by simp) (by kernel_rfl) ?_
  simp
  refine V.forI (σ := Value) s.ends.length [2, 3, 4] (by simp; exact rfl) (fun i g => [(6, aI i), (5, .own 50 g)]) (fun i g => [(50, .seq g 4 1 ((endsV (s.ends.take i)).map rB))]) (fun _ _ => True) (.slice none 0 0) trivial (by simp) ⟨by simp; exact rfl, by simp [endsV]⟩ ?_ ?_
  · rintro i g hi -
    obtain ⟨x, hx⟩ : ∃ x, s.ends[i] = x := ⟨_, rfl⟩
    have hs := endsV_take (show s.ends[i]? = some x by rw [List.getElem?_eq_getElem hi, hx])
    have hl := endsV_length (s.ends.take i)
    have hia : (i : Int) < c.actuators := by omega
    rw [List.length_take] at hl
    rw [hs]
    generalize endsV (s.ends.take i) = zs at hl ⊢
    simp [hi, hia]
    refine V.draw (fun _ => none) (by kernel_rfl) (by kernel_rfl) (by simp) ?_
    simp [hi, hx]
    omega
  · rintro g -
    have hl := endsV_length s.ends
    rw [List.take_length]
    have hv : valuesOf s = endsV s.ends ++ s.inputs ++ s.values := rfl
    rw [hv]
    generalize endsV s.ends = zs at hl ⊢
    simp [ha]
    omega
end Go.Proofs.YtdnkpogfcpjkpaaGreatDoor
end

section
namespace Go.Proofs.YtdnkpogfcpjkpaaGreatDoor
set_option maxHeartbeats 4000000
set_option maxRecDepth 10000
def outR (m n : Int) : Bool := decide (n < 0) || decide (m ≤ n)
theorem unknown_fn (m : Int) : CallFn Tryz.prog 166 [aI m] (.fn 167 [] [.rptr [.int .i64 m]]) := by
  refine callFz_of Tryz.func166 rfl Tryz.ntmps166 (rs := [.tmp 2]) rfl (by kernel_rfl) (by simp) (by kernel_rfl) ?_
  simp
theorem unknown1_fn (m n : Int) : CallFn Tryz.prog 167 [aI n, .rptr [.int .i64 m]] (aB (outR m n)) := by
  refine callFz_of Tryz.func167 rfl Tryz.ntmps167 (rs := [.tmp 3]) rfl (by kernel_rfl) (by simp) (by kernel_rfl) ?_
  simp [outR]
def tstE (x : Signal) (v : Bool) (t : Int) : Int := if (x.kind ≠ 2 ∧ t ≠ 0) ∨ (x.kind = 2 ∧ v ≠ (t == 2)) then 14 else 0
def tsE (c : Control) (s : State) (i : Nat) : Int := match c.signals[i]?, s.values[i]?, s.timers[i]? with
  | some x, some v, some t => tstE x v t
  | _, _, _ => 0
def shapeS (c : Control) (s : State) : Prop := (s.ends.length : Int) = c.actuators ∧ (s.valves.length : Int) = c.actuators ∧ s.inputs.length = c.inputs.length ∧ s.values.length = c.signals.length ∧ s.timers.length = c.signals.length
instance (c : Control) (s : State) : Decidable (shapeS c s) := by unfold shapeS; exact inferInstance
def fitsSt (c : Control) (s : State) : Int :=
  if ¬ shapeS c s then 8
  else if s.ends.any (outR 4) || s.timers.any (outR 3) then 1
  else firstErr (tsE c s) (List.range s.timers.length)
theorem fits_fn (c : Control) (s : State) (hs : SmS s) : CallFn Tryz.prog 118 [aC c, aSt s] (aI (fitsSt c s)) := by
  refine callFz_of Tryz.func118 rfl Tryz.ntmps118 (rs := [.tmp 4]) rfl (by kernel_rfl) (by simp) (by kernel_rfl) ?_
  have hsm := hs
  obtain ⟨g1, g2, g3, g4, g5⟩ := hs
  by_cases hsh : shapeS c s
  · have e : fitsSt c s = if s.ends.any (outR 4) || s.timers.any (outR 3) then 1 else firstErr (tsE c s) (List.range s.timers.length) := by rw [fitsSt, if_neg (by simpa using hsh)]
    obtain ⟨h1, h2, h3, h4, h5⟩ := hsh
    simp [h1, h2, h3, h4, h5]
    have c1 := unknown_fn 4
    have c2 := unknown_fn 3
    have c3 := containsF_fn s.ends (outR 4) 167 [] [.rptr [.int .i64 4]] (by omega) (fun n _ => by simpa using unknown1_fn 4 n)
    have c4 := containsF_fn s.timers (outR 3) 167 [] [.rptr [.int .i64 3]] (by omega) (fun n _ => by simpa using unknown1_fn 3 n)
    obtain ⟨be, hbe⟩ : ∃ b, s.ends.any (outR 4) = b := ⟨_, rfl⟩
    obtain ⟨bt, hbt⟩ : ∃ b, s.timers.any (outR 3) = b := ⟨_, rfl⟩
    rw [hbe] at c3 e
    rw [hbt] at c4 e
    refine V.draw (fun t => if t = 53 then some (.fn (.fn 167 [] [.rptr [.int .i64 4]])) else if t = 54 then some (.fn (aB be)) else if t = 59 then some (.fn (.fn 167 [] [.rptr [.int .i64 3]])) else if t = 60 then some (.fn (aB bt)) else none) (by kernel_rfl) (by kernel_rfl) (by simp) ?_
    simp [c1, c2, c3, c4]
    refine ⟨fun h => by rcases h with rfl | rfl <;> simp [e], ?_⟩
    rintro rfl rfl
    simp at e
    refine V.forI (σ := Unit) s.timers.length [2, 3, 63, 64] (by simp; exact rfl) (fun i _ => [(65, aI i)]) (fun _ _ => []) (fun i _ => NoE (tsE c s) i) () (NoE.zero _) (by simp [h5]) ⟨by simp; exact rfl, by simp⟩ ?_ ?_
    · rintro i - hi hI
      obtain ⟨x, hx⟩ : ∃ x, c.signals[i]'(by omega) = x := ⟨_, rfl⟩
      obtain ⟨v, hv⟩ : ∃ v, s.values[i]'(by omega) = v := ⟨_, rfl⟩
      obtain ⟨t, ht⟩ : ∃ t, s.timers[i] = t := ⟨_, rfl⟩
      have hxo : c.signals[i]? = some x := by rw [List.getElem?_eq_getElem (by omega), hx]
      have hvo : s.values[i]? = some v := by rw [List.getElem?_eq_getElem (by omega), hv]
      have hto : s.timers[i]? = some t := by rw [List.getElem?_eq_getElem (by omega), ht]
      have hE : tsE c s i = tstE x v t := by simp only [tsE, hxo, hvo, hto]
      have hic : i < c.signals.length := by omega
      have hiv : i < s.values.length := by omega
      by_cases hbad : (x.kind ≠ 2 ∧ t ≠ 0) ∨ (x.kind = 2 ∧ v ≠ (t == 2))
      · have hz : tsE c s i = 14 := by rw [hE, tstE, if_pos hbad]
        have hf := firstErr_at hI hi (by rw [hz]; decide)
        have e' : fitsSt c s = 14 := by rw [e, hf, hz]
        simp [← h5, hi, hx, hv, ht, hic, hiv, e', h4]
        exact ⟨fun h => ⟨h, fun h2 => ⟨h, h2⟩⟩, fun a b => by
          rcases hbad with ⟨p, q⟩ | ⟨p, q⟩
          · exact absurd (a p) q
          · exact absurd (b p) q⟩
      · have hz : tsE c s i = 0 := by rw [hE, tstE, if_neg hbad]
        simp [← h5, hi, hx, hv, ht, hic, hiv, h4]
        have hn := hI.succ hz
        exact ⟨fun h => ⟨h, fun h2 => ⟨h, h2⟩⟩, fun hb => absurd hb hbad, fun _ _ => ⟨by omega, hn⟩⟩
    · rintro - hI
      have hf := firstErr_all hI
      rw [hf] at e
      simp [e, h5]
  · have e : fitsSt c s = 8 := by rw [fitsSt, if_pos hsh]
    rw [e]
    simp
    unfold shapeS at hsh
    intros
    omega
end Go.Proofs.YtdnkpogfcpjkpaaGreatDoor
end

section
namespace Go.Proofs.YtdnkpogfcpjkpaaGreatDoor
set_option maxHeartbeats 4000000
set_option maxRecDepth 10000
theorem NoF.snoc' {α : Type} {p : α → Bool} {xs : List α} {i : Nat} {x : α} (h : NoF p (xs.take i)) (hx : xs[i]? = some x) (hp : p x = false) : NoF p (xs.take (i + 1)) := by
  rw [List.take_add_one, hx]
  intro y hy
  simp only [Option.toList_some, List.mem_append, List.mem_singleton] at hy
  rcases hy with hy | rfl
  · exact h y hy
  · exact hp
theorem any_at {α : Type} {p : α → Bool} {xs : List α} {i : Nat} {x : α} (hx : xs[i]? = some x) (hp : p x = true) : xs.any p = true := by
  rw [List.any_eq_true]
  exact ⟨x, List.mem_of_getElem? hx, hp⟩
structure Fine (c : Control) : Prop where
  act : 1 ≤ c.actuators ∧ c.actuators ≤ 6
  inp : c.inputs.length ≤ 16
  sig : c.signals.length ≤ 64
  sigs : ∀ (i : Nat) (s : Signal), c.signals[i]? = some s → signalE c i s (namesB c (2 * c.actuators.toNat + c.inputs.length + i)) = 0
theorem fine_of {c : Control} (h : checkC c = 0) : Fine c := by
  unfold checkC at h
  split at h
  · cases h
  · split at h
    · cases h
    · split at h
      · rename_i h1; exact absurd h h1
      · split at h
        · rename_i h1; exact absurd h h1
        · rename_i h1 h2 h3 h4
          have hz := firstErr_zero (Classical.not_not.1 h4)
          refine ⟨by omega, by omega, by omega, fun i s hi => ?_⟩
          obtain ⟨hlt, _⟩ := List.getElem?_eq_some_iff.1 hi
          have := hz i hlt
          simp only [sigE, hi] at this
          exact this
theorem Fine.sm {c : Control} (h : Fine c) : Sm c := by
  obtain ⟨h1, h2, h3, _⟩ := h
  exact ⟨by omega, by omega, by omega⟩
theorem Fine.on {c : Control} (h : Fine c) {i : Nat} {s : Signal} (hi : c.signals[i]? = some s) : checkE s.on (countC c) = 0 ∧ 0 ≤ s.kind ∧ s.kind ≤ 2 := by
  have := h.sigs i s hi
  unfold signalE at this
  split at this
  · rename_i h1; exact absurd this h1
  · split at this
    · cases this
    · split at this
      · rename_i h1; exact absurd this h1
      · rename_i h1 h2 h3
        exact ⟨Classical.not_not.1 h3, by omega⟩
def rightC (c : Control) (s : State) : Int := if checkC c ≠ 0 then checkC c else fitsSt c s
theorem Right_fn (c : Control) (s : State) (hc : OkC c) (hs : SmS s) : CallFn Tryz.prog 83 [aC c, aSt s] (aI (rightC c s)) := by
  refine callFz_of Tryz.func83 rfl Tryz.ntmps83 (rs := [.tmp 4]) rfl (by kernel_rfl) (by simp) (by kernel_rfl) ?_
  simp
  refine (Check_fn c hc).s ?_
  simp
  by_cases hz : checkC c = 0
  · simp [hz]
    refine (fits_fn c s hs).s ?_
    simp [rightC, hz]
  · simp [hz, rightC]
theorem right_zero {c : Control} {s : State} (h : rightC c s = 0) : checkC c = 0 ∧ shapeS c s ∧ fitsSt c s = 0 := by
  unfold rightC at h
  split at h
  · rename_i h1; exact absurd h h1
  · rename_i h1
    refine ⟨Classical.not_not.1 h1, ?_, h⟩
    unfold fitsSt at h
    split at h
    · cases h
    · rename_i h2; exact Classical.not_not.1 h2
theorem valuesOf_length {c : Control} {s : State} (h : shapeS c s) : ((valuesOf s).length : Int) = countC c := by
  obtain ⟨h1, h2, h3, h4, h5⟩ := h
  have := endsV_length s.ends
  simp [valuesOf, countC, this]
  omega
theorem values_fn (s : State) (h : SmS s) : CallFn Tryz.prog 86 [aSt s] (aBs (valuesOf s)) := by
  have := (values_o s h).fn (by simp)
  rwa [rowsD_B] at this
def valueP (c : Control) (s : State) (k : Int) : Bool × Int :=
  if rightC c s ≠ 0 then (false, rightC c s) else if k < 0 ∨ countC c ≤ k then (false, 6) else ((valuesOf s)[k.toNat]?.getD false, 0)
theorem Value_fn (c : Control) (s : State) (k : Int) (hc : OkC c) (hs : SmS s) : CallFn Tryz.prog 42 [aC c, aSt s, aI k] (.tuple [aB (valueP c s k).1, aI (valueP c s k).2]) := by
  refine callFz_of Tryz.func42 rfl Tryz.ntmps42 (rs := [.tmp 6, .tmp 7]) rfl (by kernel_rfl) (by simp) (by kernel_rfl) ?_
  simp
  refine (Right_fn c s hc hs).s ?_
  simp
  by_cases hz : rightC c s = 0
  · obtain ⟨z1, z2, z3⟩ := right_zero hz
    have hf := fine_of z1
    have hl := valuesOf_length z2
    simp [hz]
    refine GCall.fn (aI (countC c)) (fun h0 => ⟨h0, count_c c hf.sm⟩) ?_
    by_cases h0 : 0 ≤ k
    · by_cases h1 : k < countC c
      · simp [hz, h0, h1, Int.not_le.2 h1, Int.not_lt.2 h0]
        refine (values_fn s hs).s ?_
        have hk : k.toNat < (valuesOf s).length := by omega
        simp [h0, hk, hl, h1, valueP, hz, Int.not_le.2 h1, Int.not_lt.2 h0]
      · have h1' : countC c ≤ k := by omega
        simp [hz, h0, h1, h1', valueP]
    · have h0' : k < 0 := by omega
      simp [hz, h0, h0', valueP]
  · simp [hz, valueP]
end Go.Proofs.YtdnkpogfcpjkpaaGreatDoor
end
