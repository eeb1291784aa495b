/- Texts joined by a program: Zb, Zc, Hj, Hh, Ye, Yh. -/
import Derived.Test.YtbcjnmifflflfaaGreatDoorP17
import Derived.Test.YtbcjnmifflflfaaGreatDoorP16
import Derived.Test.YtbcjnmifflflfaaGreatDoorP12
import Derived.Test.YtbcjnmifflflfaaGreatDoorP13
set_option linter.unusedSimpArgs false
set_option linter.unusedVariables false

/- Plain laws: the reduced control. -/
section
namespace Go.Proofs.YtbcjnmifflflfaaGreatDoor
set_option maxHeartbeats 1000000
set_option maxRecDepth 10000

theorem sorted_pos : ∀ {l : List Int}, l.Pairwise (· < ·) → ∀ {i : Nat} {v : Int}, l[i]? = some v → (l.filter fun w => decide (w < v)).length = i
  | [], _, i, v, h => by simp at h
  | a :: l, hl, 0, v, h => by
    simp at h
    subst h
    have h2 := (List.pairwise_cons.1 hl).1
    have : (a :: l).filter (fun w => decide (w < a)) = [] := by
      rw [List.filter_eq_nil_iff]
      intro w hw
      rcases List.mem_cons.1 hw with rfl | hw
      · simp
      · have := h2 w hw
        simp
        omega
    rw [this]
    rfl
  | a :: l, hl, i + 1, v, h => by
    simp at h
    have h2 := List.pairwise_cons.1 hl
    have h3 := h2.1 v (List.mem_of_getElem? h)
    rw [List.filter_cons, if_pos (by simpa using h3), List.length_cons, sorted_pos h2.2 h]
/-- Where a needed line is among them. -/
noncomputable def posN (c : Control) (k : Int) : Nat := ((needL c).filter fun w => decide (w < k)).length
theorem pos_at {c : Control} {i : Nat} {v : Int} (h : (needL c)[i]? = some v) : posN c v = i := sorted_pos (need_sorted c) h
theorem pos_need {c : Control} (hf : Fine c) (hp : PilC c) {k : Int} (h : Need c k) : (needL c)[posN c k]? = some k ∧ posN c k < (needL c).length := by
  obtain ⟨i, hi⟩ := List.getElem?_of_mem ((mem_need hf hp).2 h)
  rw [pos_at hi]
  exact ⟨hi, (List.getElem?_eq_some_iff.1 hi).1⟩
theorem pos_lt {c : Control} (hf : Fine c) (hp : PilC c) {k j : Int} (hk : Need c k) (hj : Need c j) (h : k < j) : posN c k < posN c j := by
  obtain ⟨a1, a2⟩ := pos_need hf hp hk
  obtain ⟨b1, b2⟩ := pos_need hf hp hj
  have hs := List.pairwise_iff_getElem.1 (need_sorted c)
  obtain ⟨_, a3⟩ := List.getElem?_eq_some_iff.1 a1
  obtain ⟨_, b3⟩ := List.getElem?_eq_some_iff.1 b1
  rcases Nat.lt_trichotomy (posN c k) (posN c j) with h1 | h1 | h1
  · exact h1
  · rw [h1] at a1
    rw [a1] at b1
    cases b1
    omega
  · have := hs _ _ b2 a2 h1
    omega

/-! ### Where lines are -/
open Classical in
noncomputable def keepL (c : Control) (k : Int) : Int := if clsL c k < firstC c then clsL c k else if Need c (clsL c k) then firstC c + posN c (clsL c k) else noneV
noncomputable def keepP (c : Control) : List Int := (List.range (countC c).toNat).map fun k : Nat => keepL c k
theorem keep_at {c : Control} {k : Int} (hk : 0 ≤ k ∧ k < countC c) : (keepP c)[k.toNat]? = some (keepL c k) := by
  unfold keepP
  rw [List.getElem?_map, List.getElem?_range (by omega), Option.map_some, Int.toNat_of_nonneg hk.1]
theorem keep_getD {c : Control} {k : Int} (hk : 0 ≤ k ∧ k < countC c) : (keepP c).getD k.toNat 0 = keepL c k := by
  rw [List.getD_eq_getElem?_getD, keep_at hk]
  rfl
theorem keep_len {c : Control} (hf : Fine c) : ((keepP c).length : Int) = countC c := by
  have := hf.f0
  have := count_first c
  simp [keepP]
  omega
def dummyS : Signal := ⟨[], 0, ⟨0, 0, []⟩, ⟨0, 0, []⟩, 0, false⟩
def sigAt (c : Control) (k : Int) : Signal := (c.signals[(k - firstC c).toNat]?).getD dummyS
noncomputable def redX (c : Control) (x : Signal) : Signal := { x with on := repE x.on (keepP c), off := repE x.off (keepP c) }
noncomputable def redC (c : Control) : Control := ⟨c.actuators, c.inputs, (needL c).map fun k => redX c (sigAt c k), c.plus.map (keepL c), c.minus.map (keepL c)⟩
theorem red_first (c : Control) : firstC (redC c) = firstC c := rfl
theorem red_count (c : Control) : countC (redC c) = firstC c + (needL c).length := by
  rw [count_first, red_first]
  simp [redC]
theorem red_count_le {c : Control} (hf : Fine c) (hp : PilC c) : countC (redC c) ≤ countC c := by
  have := need_len hf hp
  rw [red_count, count_first]
  omega
/-- A signal that is needed. -/
theorem need_sig {c : Control} (hf : Fine c) (hp : PilC c) {k : Int} (h : Need c k) : ∃ (n : Nat) (x : Signal), k = firstC c + n ∧ c.signals[n]? = some x ∧ ownQ c n ∧ sigAt c k = x ∧ useL c k = usesL x := by
  have hr := need_range hf hp h
  have hcf := count_first c
  obtain ⟨n, hn⟩ : ∃ n : Nat, k = firstC c + n := ⟨(k - firstC c).toNat, by omega⟩
  have hx : c.signals[n]? = some c.signals[n] := List.getElem?_eq_getElem (by omega)
  have e : (k - firstC c).toNat = n := by omega
  refine ⟨n, c.signals[n]'(by omega), hn, hx, ?_, ?_, ?_⟩
  · unfold ownQ
    rw [← hn]
    have := cls_own hf (k := k) ⟨by have := hf.f0; omega, hr.2⟩
    rwa [need_cls hf hp h] at this
  · unfold sigAt
    rw [e, hx]
    rfl
  · unfold useL
    rw [e, hx]
theorem red_sig {c : Control} (hf : Fine c) (hp : PilC c) {i : Nat} {y : Signal} (h : (redC c).signals[i]? = some y) :
    ∃ (k : Int) (n : Nat) (x : Signal), (needL c)[i]? = some k ∧ Need c k ∧ k = firstC c + n ∧ c.signals[n]? = some x ∧ y = redX c x ∧ ownQ c n ∧ posN c k = i ∧ useL c k = usesL x := by
  simp only [redC, List.getElem?_map, Option.map_eq_some_iff] at h
  obtain ⟨k, hk, rfl⟩ := h
  have hn : Need c k := (mem_need hf hp).1 (List.mem_of_getElem? hk)
  obtain ⟨n, x, h1, h2, h3, h4, h5⟩ := need_sig hf hp hn
  exact ⟨k, n, x, hk, hn, h1, h2, by rw [h4], h3, pos_at hk, h5⟩
theorem red_at {c : Control} (hf : Fine c) (hp : PilC c) {k : Int} (h : Need c k) : ∃ (n : Nat) (x : Signal), k = firstC c + n ∧ c.signals[n]? = some x ∧ (redC c).signals[posN c k]? = some (redX c x) := by
  obtain ⟨n, x, h1, h2, h3, h4, h5⟩ := need_sig hf hp h
  refine ⟨n, x, h1, h2, ?_⟩
  simp only [redC, List.getElem?_map, (pos_need hf hp h).1, Option.map_some, h4]
/-- The lines that needed ones use are kept. -/
theorem keep_use {c : Control} (hf : Fine c) (hp : PilC c) {k u : Int} (h : Need c k) (hu : u ∈ useL c k) : 0 ≤ keepL c u ∧ keepL c u < countC (redC c) := by
  have hr := cls_range hf (use_range hf hu)
  have h0 := hf.f0
  rw [red_count]
  unfold keepL
  by_cases h1 : clsL c u < firstC c
  · rw [if_pos h1]
    omega
  · have hn : Need c (clsL c u) := .use h hu (by omega)
    rw [if_neg h1, if_pos hn]
    have := (pos_need hf hp hn).2
    omega
theorem keep_pilot {c : Control} (hf : Fine c) (hp : PilC c) {p : Int} (h : p ∈ c.plus ∨ p ∈ c.minus) : 0 ≤ keepL c p ∧ keepL c p < countC (redC c) := by
  have hr : 0 ≤ p ∧ p < countC c := by
    rcases h with h | h
    · exact hp.2.2.1 _ h
    · exact hp.2.2.2 _ h
  have hr2 := cls_range hf hr
  have h0 := hf.f0
  rw [red_count]
  unfold keepL
  by_cases h1 : clsL c p < firstC c
  · rw [if_pos h1]
    omega
  · have hn : Need c (clsL c p) := .pilot h (by omega)
    rw [if_neg h1, if_pos hn]
    have := (pos_need hf hp hn).2
    omega
theorem keep_range {c : Control} (hf : Fine c) (hp : PilC c) {k : Int} (hk : 0 ≤ k ∧ k < countC c) : keepL c k = noneV ∨ 0 ≤ keepL c k ∧ keepL c k < countC (redC c) := by
  have hr2 := cls_range hf hk
  have h0 := hf.f0
  rw [red_count]
  unfold keepL
  by_cases h1 : clsL c k < firstC c
  · rw [if_pos h1]
    right
    omega
  · rw [if_neg h1]
    by_cases hn : Need c (clsL c k)
    · rw [if_pos hn]
      have := (pos_need hf hp hn).2
      right
      omega
    · rw [if_neg hn]
      exact .inl rfl

/-! ### Expressions with other variables -/
theorem vars_rep {n : Int} (l : List Int) : ∀ (N : Nat) (x : Expr), SizeOf.sizeOf x < N → RightE n x → varsE (repE x l) = (varsE x).map fun u => l.getD u.toNat 0
  | 0, _, h, _ => absurd h (Nat.not_lt_zero _)
  | N + 1, x, hN, hr => by
    have hL : ∀ xs : List Expr, (∀ y ∈ xs, y ∈ x.args) → varsL (repL xs l) = (varsL xs).map fun u => l.getD u.toNat 0 := by
      intro xs
      induction xs with
      | nil => intro _; rfl
      | cons y xs ih =>
        intro h
        have hy := h y (by simp)
        simp only [repL, varsL, List.map_append]
        rw [vars_rep l N y (by have := Expr.lt_of_mem hy; omega) (hr.args y hy), ih fun z hz => h z (by simp [hz])]
    rw [repE_eq]
    by_cases ho : x.op = 1
    · rw [if_pos ho, varsE_eq, varsE_eq x, node_var hr.node ho]
      simp [ho, varsL]
    · rw [if_neg ho, varsE_eq, varsE_eq x]
      simp only [if_neg ho, List.nil_append]
      exact hL x.args fun _ h => h
theorem right_rep {n m : Int} {l : List Int} : ∀ (N : Nat) (x : Expr), SizeOf.sizeOf x < N → RightE n x → (∀ u ∈ varsE x, 0 ≤ l.getD u.toNat 0 ∧ l.getD u.toNat 0 < m) → RightE m (repE x l)
  | 0, _, h, _, _ => absurd h (Nat.not_lt_zero _)
  | N + 1, x, hN, hr, hu => by
    rw [repE_eq]
    by_cases ho : x.op = 1
    · rw [if_pos ho]
      have h1 := hu x.index (by rw [varsE_eq]; simp [ho])
      refine .mk _ ?_ (by intro a ha; cases ha)
      unfold nodeR
      generalize l.getD x.index.toNat 0 = v at *
      simp
      omega
    · rw [if_neg ho]
      refine .mk _ ?_ ?_
      · have h1 := hr.node
        unfold nodeR at h1 ⊢
        simp only [repL_map, List.length_map]
        simp only [if_neg ho] at h1 ⊢
        exact h1
      · intro a ha
        simp only [repL_map, List.mem_map] at ha
        obtain ⟨y, hy, rfl⟩ := ha
        refine right_rep N y (by have := Expr.lt_of_mem hy; omega) (hr.args y hy) ?_
        intro u huy
        refine hu u ?_
        rw [varsE_eq]
        exact List.mem_append.2 (.inr (varsL_mem huy hy))
mutual
theorem nd_right {n : Int} : ∀ x : Expr, RightE n x → ∀ y ∈ ndE x, nodeR y n = 0
  | ⟨op, ix, args⟩, h, y, hy => by
    simp only [ndE, List.mem_cons] at hy
    rcases hy with rfl | hy
    · exact h.node
    · exact ndL_right args h.args y hy
theorem ndL_right {n : Int} : ∀ l : List Expr, (∀ x ∈ l, RightE n x) → ∀ y ∈ ndL l, nodeR y n = 0
  | [], _, y, hy => by simp [ndL] at hy
  | x :: xs, h, y, hy => by
    simp only [ndL, List.mem_append] at hy
    rcases hy with hy | hy
    · exact nd_right x (h x (by simp)) y hy
    · exact ndL_right xs (fun z hz => h z (by simp [hz])) y hy
end
theorem check_of {x : Expr} {n : Int} (hn : 0 ≤ n ∧ n ≤ 256) (hs : szE x ≤ 256) (hd : dpE x ≤ 16) (hr : RightE n x) : checkE x n = 0 := by
  unfold checkE
  rw [if_neg (by omega)]
  obtain ⟨s, hm⟩ := (meas_iff x).2 ⟨hs, hd⟩
  rw [hm]
  have h := firstErr_app (fun y => nodeR y n) (ndE x) [] (nd_right x hr)
  have h2 := nodeFold n (preE x 1)
  rw [(preE_all x 1 (by omega)).1] at h2
  simp only [List.append_nil, firstErr] at h
  rw [h] at h2
  exact h2
theorem check_rep {x : Expr} {n m : Int} {l : List Int} (h : checkE x n = 0) (hm : 0 ≤ m ∧ m ≤ 256) (hu : ∀ u ∈ varsE x, 0 ≤ l.getD u.toNat 0 ∧ l.getD u.toNat 0 < m) : checkE (repE x l) m = 0 := by
  have hr := (right_of_check h).1
  have h1 := rep_size l _ x (Nat.lt_succ_self _) hr
  have h2 := (light_iff x).1 (light_check h)
  exact check_of hm (by omega) (by omega) (right_rep _ x (Nat.lt_succ_self _) hr hu)
theorem zero_rep {x : Expr} (h : zeroE x = true) (l : List Int) : repE x l = x := by
  simp [zeroE] at h
  obtain ⟨⟨h1, h2⟩, h3⟩ := h
  rw [repE_eq, if_neg (by omega), h3]
  cases x
  simp at h3
  simp [repL, h3]

end Go.Proofs.YtbcjnmifflflfaaGreatDoor
end

/- Plain laws: the reduced control is right. -/
section
namespace Go.Proofs.YtbcjnmifflflfaaGreatDoor
set_option maxHeartbeats 1000000
set_option maxRecDepth 10000

/-! ### What a check asks -/
theorem chk_parts {c : Control} (h : checkC c = 0) : (1 ≤ c.actuators ∧ c.actuators ≤ 6) ∧ (c.inputs.length ≤ 16 ∧ c.signals.length ≤ 64) ∧ (∀ i, i < c.inputs.length → inpE c i = 0) ∧ (∀ i, i < c.signals.length → sigE c i = 0) ∧ pilotE c = 0 := by
  unfold checkC at h
  split at h
  · cases h
  · split at h
    · cases h
    · split at h
      · rename_i h1; exact absurd h h1
      · split at h
        · rename_i h1; exact absurd h h1
        · rename_i h1 h2 h3 h4
          exact ⟨by omega, by omega, firstErr_zero (Classical.not_not.1 h3), firstErr_zero (Classical.not_not.1 h4), h⟩
theorem chk_of {c : Control} (h1 : 1 ≤ c.actuators ∧ c.actuators ≤ 6) (h2 : c.inputs.length ≤ 16 ∧ c.signals.length ≤ 64) (h3 : ∀ i, i < c.inputs.length → inpE c i = 0) (h4 : ∀ i, i < c.signals.length → sigE c i = 0) (h5 : pilotE c = 0) : checkC c = 0 := by
  unfold checkC
  rw [if_neg (by omega), if_neg (by omega), firstErr_all h3, firstErr_all h4]
  simpa using h5
theorem sig_parts {c : Control} {i : Int} {s : Signal} {names : List (List UInt8)} (h : signalE c i s names = 0) :
    nameE s.name names = 0 ∧ (0 ≤ s.kind ∧ s.kind < 3) ∧ checkE s.on (countC c) = 0 ∧ (s.kind = 0 → lateC c i s.on = false ∧ zeroE s.off = true ∧ s.init = false ∧ s.delay = 0) ∧ (s.kind = 1 → checkE s.off (countC c) = 0 ∧ s.delay = 0) ∧ (s.kind = 2 → (1 ≤ s.delay ∧ s.delay ≤ 1000000) ∧ zeroE s.off = true ∧ s.init = false) := by
  unfold signalE at h
  split at h
  · rename_i h1; exact absurd h h1
  · rename_i h1
    split at h
    · cases h
    · rename_i h2
      split at h
      · rename_i h3; exact absurd h h3
      · rename_i h3
        refine ⟨Classical.not_not.1 h1, by omega, Classical.not_not.1 h3, fun k => ?_, fun k => ?_, fun k => ?_⟩
        · rw [if_pos k] at h
          unfold gateE at h
          split at h
          · cases h
          · rename_i h4
            split at h
            · cases h
            · rename_i h5
              simp at h4 h5
              exact ⟨h4, h5.1.1, h5.1.2, h5.2⟩
        · rw [if_neg (by omega), if_pos k] at h
          unfold memE at h
          split at h
          · rename_i h4; exact absurd h h4
          · rename_i h4
            split at h
            · cases h
            · rename_i h5
              exact ⟨Classical.not_not.1 h4, Classical.not_not.1 h5⟩
        · rw [if_neg (by omega), if_neg (by omega)] at h
          unfold timE at h
          split at h
          · cases h
          · split at h
            · cases h
            · rename_i h4 h5
              simp at h5
              exact ⟨by omega, h5.1, h5.2⟩
theorem sig_of {c : Control} {i : Int} {s : Signal} {names : List (List UInt8)} (h1 : nameE s.name names = 0) (h2 : 0 ≤ s.kind ∧ s.kind < 3) (h3 : checkE s.on (countC c) = 0) (h4 : s.kind = 0 → lateC c i s.on = false ∧ zeroE s.off = true ∧ s.init = false ∧ s.delay = 0)
    (h5 : s.kind = 1 → checkE s.off (countC c) = 0 ∧ s.delay = 0) (h6 : s.kind = 2 → (1 ≤ s.delay ∧ s.delay ≤ 1000000) ∧ zeroE s.off = true ∧ s.init = false) : signalE c i s names = 0 := by
  unfold signalE
  rw [if_neg (by rw [h1]; simp), if_neg (by omega), if_neg (by rw [h3]; simp)]
  by_cases k0 : s.kind = 0
  · rw [if_pos k0]
    obtain ⟨a, b, d, e⟩ := h4 k0
    unfold gateE
    simp [a, b, d, e]
  · rw [if_neg k0]
    by_cases k1 : s.kind = 1
    · rw [if_pos k1]
      obtain ⟨a, b⟩ := h5 k1
      unfold memE
      simp [a, b]
    · rw [if_neg k1]
      obtain ⟨a, b, d⟩ := h6 (by omega)
      unfold timE
      rw [if_neg (by omega)]
      simp [b, d]
theorem name_parts {s : List UInt8} {names : List (List UInt8)} (h : nameE s names = 0) : wordS s ≠ false ∧ s.length ≤ 24 ∧ s ∉ names := by
  unfold nameE at h
  split at h
  · cases h
  · rename_i h1
    split at h
    · cases h
    · rename_i h2
      split at h
      · cases h
      · rename_i h3
        exact ⟨h1, by omega, h3⟩
theorem name_of {s : List UInt8} {names : List (List UInt8)} (h1 : wordS s ≠ false) (h2 : s.length ≤ 24) (h3 : s ∉ names) : nameE s names = 0 := by
  unfold nameE
  rw [if_neg h1, if_neg (by omega), if_neg h3]

/-! ### Gates use gates ahead of them -/
theorem root_far {c : Control} (hf : Fine c) : ∀ (k : Nat) (l : Int), farL c l ≤ k → 0 ≤ l ∧ l < countC c → farL c (rootP c l) ≤ farL c l := by
  intro k
  induction k with
  | zero =>
    intro l hk hl
    have := far_zero hf.f0 (by omega) hl.2
    rw [root_step hf hl, if_neg (by simp [this])]
    exact Nat.le_refl _
  | succ k ih =>
    intro l hk hl
    rw [root_step hf hl]
    by_cases h : (repP c l).2 = true
    · rw [if_pos h]
      obtain ⟨a, b, d⟩ := rep_far hf hl h
      have := ih _ (by omega) ⟨a, b⟩
      omega
    · rw [if_neg h]
      exact Nat.le_refl _
theorem kindAt_sig {c : Control} {n : Nat} {x : Signal} (h : c.signals[n]? = some x) : kindAt c n = x.kind := by
  unfold kindAt
  rw [Int.toNat_natCast, h]
  rfl
theorem gate_before {c : Control} (hf : Fine c) {n : Nat} {x : Signal} (hx : c.signals[n]? = some x) (hk : x.kind = 0) {u : Int} (hu : u ∈ varsE x.on) (h1 : firstC c ≤ clsL c u) (h2 : kindAt c (clsL c u - firstC c) = 0) : clsL c u < firstC c + n := by
  have hur := vars_check (hf.on hx).1 u hu
  have hcf := count_first c
  have h0 := hf.f0
  obtain ⟨hr, _⟩ := cls_le hf hur h1
  obtain ⟨m, n', a1, a2, a3, a4, a5, a6, a7⟩ := cls_lead hf hur hr
  have hxm : c.signals[m]? = some c.signals[m] := List.getElem?_eq_getElem (by omega)
  have hxn : c.signals[n']? = some c.signals[n'] := List.getElem?_eq_getElem (by omega)
  have hid := class_id hxm hxn a7
  rw [a2, show firstC c + (m : Int) - firstC c = m by omega, kindAt_sig hxm] at h2
  have hfar := root_far hf _ u (Nat.le_refl _) hur
  have h3 : farL c (rootP c u) = n' + 1 := by
    unfold farL
    rw [if_pos ⟨by omega, by rw [a1, show firstC c + (n' : Int) - firstC c = n' by omega, kindAt_sig hxn, ← hid.1]; exact h2⟩, a1]
    omega
  have h4 : firstC c ≤ u ∧ kindAt c (u - firstC c) = 0 ∧ farL c u = (u - firstC c).toNat + 1 := by
    by_cases h : firstC c ≤ u ∧ kindAt c (u - firstC c) = 0
    · exact ⟨h.1, h.2, by unfold farL; rw [if_pos h]⟩
    · unfold farL at hfar
      rw [if_neg h] at hfar
      unfold farL at h3
      omega
  rcases late_not hf hx hk u hu with h | h
  · omega
  · exact absurd h4.2.1 h

/-! ### The reduced control is right -/
theorem kind_red {c : Control} (hf : Fine c) (hp : PilC c) {k : Int} (h : Need c k) : kindAt (redC c) (posN c k) = kindAt c (k - firstC c) := by
  obtain ⟨n, x, h1, h2, h3⟩ := red_at hf hp h
  rw [kindAt_sig h3, h1, show firstC c + (n : Int) - firstC c = n by omega, kindAt_sig h2]
  rfl
theorem named_low {c : Control} {k : Int} (hk : k < firstC c) : namedC (redC c) k = namedC c k := by
  unfold namedC
  rw [red_first]
  simp only [redC, hk, if_true]
theorem mem_names {c : Control} {n : Nat} {s : List UInt8} : s ∈ namesB c n ↔ ∃ j : Nat, j < n ∧ namedC c j = s := by
  unfold namesB
  simp
theorem red_names {c : Control} (hf : Fine c) (hp : PilC c) {k : Int} (h : Need c k) {s : List UInt8} (hs : s ∈ namesB (redC c) (2 * c.actuators.toNat + c.inputs.length + posN c k)) : s ∈ namesB c (2 * c.actuators.toNat + c.inputs.length + (k - firstC c).toNat) := by
  have hact := hf.act
  have hfd : firstC c = 2 * c.actuators + c.inputs.length := rfl
  have hkr := need_range hf hp h
  obtain ⟨j, hj, rfl⟩ := mem_names.1 hs
  rcases Int.lt_or_le (j : Int) (firstC c) with h1 | h1
  · exact mem_names.2 ⟨j, by omega, (named_low h1).symm⟩
  · obtain ⟨i, hi⟩ : ∃ i : Nat, (j : Int) = firstC c + i := ⟨((j : Int) - firstC c).toNat, by omega⟩
    have hip : i < posN c k := by omega
    have hpl := (pos_need hf hp h).2
    obtain ⟨k', hk'⟩ : ∃ k', (needL c)[i]? = some k' := ⟨_, List.getElem?_eq_getElem (by omega)⟩
    have hn' : Need c k' := (mem_need hf hp).1 (List.mem_of_getElem? hk')
    have hpos := pos_at hk'
    obtain ⟨n, x, e1, e2, e3⟩ := red_at hf hp hn'
    rw [hpos] at e3
    have hlt : k' < k := by
      rcases Int.lt_trichotomy k' k with h2 | h2 | h2
      · exact h2
      · subst h2; omega
      · have := pos_lt hf hp h hn' h2
        omega
    have e4 : namedC (redC c) j = x.name := by
      have := named_sig (c := redC c) (k := (j : Int)) (s := redX c x) (by rw [red_first]; omega) (by rw [red_first]; simp [redC]; omega) (by rw [red_first, show ((j : Int) - firstC c).toNat = i by omega]; exact e3)
      rw [this]
      rfl
    have e5 : namedC c k' = x.name := named_sig (by omega) (by omega) (by rw [e1, show (firstC c + (n : Int) - firstC c).toNat = n by omega]; exact e2)
    refine mem_names.2 ⟨k'.toNat, by omega, ?_⟩
    rw [Int.toNat_of_nonneg (by omega), e5, e4]
theorem count_le {c : Control} (hf : Fine c) : countC c ≤ 92 := by
  have := hf.act
  have := hf.inp
  have := hf.sig
  unfold countC
  omega
theorem red_check {c : Control} (hz : checkC c = 0) (hp : PilC c) : checkC (redC c) = 0 := by
  have hf := fine_of hz
  obtain ⟨p1, p2, p3, p4, p5⟩ := chk_parts hz
  have hact := hf.act
  have h0 := hf.f0
  have hfd : firstC c = 2 * c.actuators + c.inputs.length := rfl
  have hnl := need_len hf hp
  have hrc : 0 ≤ countC (redC c) ∧ countC (redC c) ≤ 256 := by
    have := red_count_le hf hp
    have := count_le hf
    have := red_count c
    omega
  refine chk_of p1 ⟨p2.1, ?_⟩ ?_ ?_ ?_
  · simp [redC]
    omega
  · intro i hi
    have hi' : i < c.inputs.length := hi
    have := p3 i hi'
    have ha : (redC c).actuators = c.actuators := rfl
    unfold inpE at this ⊢
    have e1 : namedC (redC c) ((2 * (redC c).actuators.toNat + i : Nat) : Int) = namedC c ((2 * c.actuators.toNat + i : Nat) : Int) := named_low (by omega)
    have e2 : namesB (redC c) (2 * (redC c).actuators.toNat + i) = namesB c (2 * c.actuators.toNat + i) := by
      unfold namesB
      apply List.map_congr_left
      intro k hk
      have hk2 : k < 2 * c.actuators.toNat + i := List.mem_range.1 hk
      exact named_low (by omega)
    rw [e1, e2]
    exact this
  · intro i hi
    have hy : (redC c).signals[i]? = some (redC c).signals[i] := List.getElem?_eq_getElem hi
    generalize (redC c).signals[i] = y at *
    obtain ⟨k, n, x, e1, e2, e3, e4, e5, e6, e7, e8⟩ := red_sig hf hp hy
    unfold sigE
    rw [hy]
    simp only
    obtain ⟨s1, s2, s3, s4, s5, s6⟩ := sig_parts (hf.sigs n x e4)
    have hon : ∀ u ∈ varsE x.on, 0 ≤ (keepP c).getD u.toNat 0 ∧ (keepP c).getD u.toNat 0 < countC (redC c) := by
      intro u hu
      rw [keep_getD (vars_check s3 u hu)]
      exact keep_use hf hp e2 (by rw [e8]; exact (met_uses hf e4 u).2 (.inl hu))
    subst e5
    refine sig_of ?_ s2 (check_rep s3 hrc hon) (fun hk => ?_) (fun hk => ?_) (fun hk => ?_)
    · obtain ⟨a1, a2, a3⟩ := name_parts s1
      refine name_of a1 a2 fun hm => a3 ?_
      have := red_names hf hp e2 (s := x.name) (by rw [e7]; exact hm)
      rwa [show (k - firstC c).toNat = n by omega] at this
    · obtain ⟨a1, a2, a3, a4⟩ := s4 hk
      refine ⟨?_, by show zeroE (repE x.off (keepP c)) = true; rw [zero_rep a2]; exact a2, a3, a4⟩
      rw [lateC_any]
      rw [List.any_eq_false]
      intro v hv
      have hv' : v ∈ varsE (repE x.on (keepP c)) := hv
      rw [vars_rep (keepP c) _ x.on (Nat.lt_succ_self _) (right_of_check s3).1] at hv'
      obtain ⟨u, hu, rfl⟩ := List.mem_map.1 hv'
      have hur := vars_check s3 u hu
      rw [keep_getD hur, red_first]
      simp only [Bool.and_eq_true, decide_eq_true_eq, beq_iff_eq, not_and]
      intro h1 h2
      unfold keepL at h1 h2
      by_cases h3 : clsL c u < firstC c
      · rw [if_pos h3] at h1
        omega
      · have hn : Need c (clsL c u) := .use e2 (by rw [e8]; exact (met_uses hf e4 u).2 (.inl hu)) (by omega)
        rw [if_neg h3, if_pos hn] at h1 h2
        rw [show firstC c + (posN c (clsL c u) : Int) - firstC c = posN c (clsL c u) by omega, kind_red hf hp hn] at h2
        have h4 := gate_before hf e4 hk hu (by omega) h2
        have h5 := pos_lt hf hp hn e2 (by omega)
        omega
    · obtain ⟨a1, a2⟩ := s5 hk
      refine ⟨check_rep a1 hrc fun u hu => ?_, a2⟩
      rw [keep_getD (vars_check a1 u hu)]
      exact keep_use hf hp e2 (by rw [e8]; exact (met_uses hf e4 u).2 (.inr hu))
    · obtain ⟨a1, a2, a3⟩ := s6 hk
      exact ⟨a1, by show zeroE (repE x.off (keepP c)) = true; rw [zero_rep a2]; exact a2, a3⟩
  · unfold pilotE
    have e1 : ((redC c).plus.length : Int) = (redC c).actuators := by simp [redC]; exact hp.1
    have e2 : ((redC c).minus.length : Int) = (redC c).actuators := by simp [redC]; exact hp.2.1
    rw [if_neg (by omega), if_neg]
    simp only [List.any_append, Bool.or_eq_true, List.any_eq_true, decide_eq_true_eq, not_or, not_exists, not_and]
    refine ⟨fun v hv => ?_, fun v hv => ?_⟩
    · have hv' : v ∈ c.plus.map (keepL c) := hv
      obtain ⟨p, h1, rfl⟩ := List.mem_map.1 hv'
      have := keep_pilot hf hp (.inl h1)
      omega
    · have hv' : v ∈ c.minus.map (keepL c) := hv
      obtain ⟨p, h1, rfl⟩ := List.mem_map.1 hv'
      have := keep_pilot hf hp (.inr h1)
      omega
end Go.Proofs.YtbcjnmifflflfaaGreatDoor
end

/- Plain: how many parts a control's circuit has; a reduced control has no more. -/
section
namespace Go.Proofs.YtbcjnmifflflfaaGreatDoor
set_option maxHeartbeats 1000000

mutual
/-- The parts of an expression. -/
def opsE : Expr → Nat
  | ⟨op, _, args⟩ => if op = 0 then 0 else if op = 1 then 0 else if op = 2 then opsL args + min args.length 1 else opsL args + (args.length - 1)
def opsL : List Expr → Nat
  | [] => 0
  | x :: xs => opsE x + opsL xs
end
theorem opsE_eq (x : Expr) : opsE x = if x.op = 0 then 0 else if x.op = 1 then 0 else if x.op = 2 then opsL x.args + min x.args.length 1 else opsL x.args + (x.args.length - 1) := by cases x; rw [opsE]
theorem twin_parts {sg kind : Int} {letter : UInt8} : ∀ (ps : List Pin) (d : Dl), (ps.foldl (twinD sg kind letter) d).parts.length = d.parts.length + ps.length
  | [], d => by simp
  | p :: ps, d => by
    rw [List.foldl_cons, twin_parts ps]
    simp [twinD]
    omega
mutual
theorem ops_len (fl : Bool) (pf : Int → Pin) (sg : Int) : ∀ (x : Expr) (k : Nat), (exprD fl pf sg x k).parts.length = opsE x
  | ⟨op, ix, args⟩, k => by
    have h := opsL_len fl pf sg args k
    have hl := argsD_len fl pf sg args k
    rw [exprD_eq, opsE_eq]
    dsimp only
    split
    · rfl
    · split
      · rfl
      · generalize argsD fl pf sg args k = r at *
        obtain ⟨r1, r2, r3, r4⟩ := r
        dsimp only at h hl ⊢
        split
        · cases args with
          | nil => simpa [notsD] using h
          | cons y ys =>
            simp only [List.head?_cons, notsD, notD, List.length_append, List.length_cons, List.length_nil]
            omega
        · unfold foldD
          dsimp only
          cases r4 with
          | nil =>
            simp only [List.length_nil] at hl
            dsimp only
            omega
          | cons p ps =>
            rw [twin_parts]
            simp only [List.length_cons] at hl
            dsimp only
            omega
theorem opsL_len (fl : Bool) (pf : Int → Pin) (sg : Int) : ∀ (xs : List Expr) (k : Nat), (argsD fl pf sg xs k).parts.length = opsL xs
  | [], k => rfl
  | x :: xs, k => by
    rw [argsD, opsL]
    simp only [List.length_append]
    rw [ops_len fl pf sg x, opsL_len fl pf sg xs]
end
/-- The parts of a signal. -/
def costS (x : Signal) : Nat := if x.kind = 0 then opsE x.on else if x.kind = 1 then 1 + opsE x.on + opsE x.off else if x.kind = 2 then 1 + opsE x.on else 0
def countM (c : Control) : Nat := 1 + 4 * c.actuators.toNat + c.inputs.length + (c.signals.map costS).sum

@[simp] theorem add_parts (m : Mk) (kind : Int) (name : List UInt8) (delay line : Int) : (m.add kind name delay line).parts.length = m.parts.length + 1 := by simp [Mk.add]
@[simp] theorem join_parts (m : Mk) (a b : Pin) : (m.join a b).parts = m.parts := rfl
@[simp] theorem feed_parts (m : Mk) (name : List UInt8) : (m.feed name).parts = m.parts := rfl
@[simp] theorem valve_parts (m : Mk) (a : Int) : (m.valve a).parts.length = m.parts.length := by simp [Mk.valve]
theorem expr_parts (c : Control) (m : Mk) (x : Expr) : (m.expr c x).parts.length = opsE x := ops_len _ _ _ _ _
@[simp] theorem app_parts (m : Mk) (d : Dl) : (m.app d).parts.length = m.parts.length + d.parts.length := by simp [Mk.app]
@[simp] theorem to_parts (c : Control) (m : Mk) (x : Expr) (p : Pin) : (m.to c x p).parts.length = m.parts.length + opsE x := by
  rw [Mk.to, join_parts, app_parts, expr_parts]
@[simp] theorem sigm_parts (m : Mk) (i : Nat) : (m.sig i).parts = m.parts := rfl
theorem fold_len {α : Type} {f : Mk → α → Mk} {g : α → Nat} (h : ∀ m a, (f m a).parts.length = m.parts.length + g a) : ∀ (l : List α) (m : Mk), (l.foldl f m).parts.length = m.parts.length + (l.map g).sum
  | [], m => by simp
  | a :: l, m => by
    rw [List.foldl_cons, fold_len h l, h]
    simp
    omega
theorem sum_const {α : Type} (k : Nat) : ∀ l : List α, (l.map fun _ => k).sum = l.length * k
  | [] => by simp
  | _ :: l => by
    have := sum_const k l
    simp only [List.map_cons, List.sum_cons, List.length_cons, this, Nat.succ_mul]
    omega
theorem act_len (m : Mk) (a : Nat) : (actM m a).parts.length = m.parts.length + 4 := by simp [actM]
theorem in_len (c : Control) (m : Mk) (i : Nat) : (inM c m i).parts.length = m.parts.length + 1 := by simp [inM]
theorem machine_len (c : Control) : (machineM c).parts.length = 1 + 4 * c.actuators.toNat + c.inputs.length := by
  unfold machineM
  rw [fold_len (g := fun _ => 1) (in_len c), fold_len (g := fun _ => 4) act_len, sum_const, sum_const]
  simp [Mk.add]
  omega
def gCost (c : Control) (i : Nat) : Nat := match c.signals[i]? with
  | some x => if x.kind = 0 then opsE x.on else 0
  | none => 0
def sCost (c : Control) (i : Nat) : Nat := match c.signals[i]? with
  | some x => if x.kind = 1 then 1 + opsE x.on + opsE x.off else if x.kind = 2 then 1 + opsE x.on else 0
  | none => 0
theorem gate_len {c : Control} (m : Mk) {i : Nat} (hi : i < c.signals.length) : (gateM c m i).parts.length = m.parts.length + gCost c i := by
  have hx : c.signals[i]? = some c.signals[i] := List.getElem?_eq_getElem hi
  have hk : kindAt c i = c.signals[i].kind := by simp [kindAt, hx]
  unfold gateM gCost
  rw [hk, hx]
  dsimp only [Option.map_some, Option.getD_some]
  split
  · rw [app_parts, expr_parts, sigm_parts]
  · rw [sigm_parts, Nat.add_zero]
theorem sig_len (c : Control) (m : Mk) (i : Nat) : (sigM c m i).parts.length = m.parts.length + sCost c i := by
  unfold sigM sCost
  cases c.signals[i]? with
  | none => rfl
  | some x =>
    dsimp only
    split
    · simp
      omega
    · split
      · simp
        omega
      · simp
theorem pil_len (c : Control) (m : Mk) (i : Nat) : (pilM c m i).parts.length = m.parts.length + 0 := by simp [pilM]
theorem fold_lenI {f : Mk → Nat → Mk} {g : Nat → Nat} {n : Nat} (h : ∀ m i, i < n → (f m i).parts.length = m.parts.length + g i) : ∀ (k : Nat), k ≤ n → ∀ (m : Mk), ((List.range k).foldl f m).parts.length = m.parts.length + ((List.range k).map g).sum
  | 0, _, m => by simp
  | k + 1, hk, m => by
    rw [List.range_succ, List.foldl_append, List.map_append, List.sum_append]
    simp only [List.foldl_cons, List.foldl_nil, List.map_cons, List.map_nil, List.sum_cons, List.sum_nil]
    rw [h _ _ (by omega), fold_lenI h k (by omega)]
    omega
theorem cost_sum (l : List Signal) : ((List.range l.length).map fun i => (match l[i]? with
    | some x => if x.kind = 0 then opsE x.on else 0
    | none => 0)).sum + ((List.range l.length).map fun i => (match l[i]? with
    | some x => if x.kind = 1 then 1 + opsE x.on + opsE x.off else if x.kind = 2 then 1 + opsE x.on else 0
    | none => 0)).sum = (l.map costS).sum := by
  induction l with
  | nil => rfl
  | cons x l ih =>
    rw [List.length_cons, List.range_succ_eq_map]
    simp only [List.map_cons, List.map_map, List.sum_cons, List.getElem?_cons_zero, Function.comp_def, List.getElem?_cons_succ]
    have : costS x = (if x.kind = 0 then opsE x.on else 0) + (if x.kind = 1 then 1 + opsE x.on + opsE x.off else if x.kind = 2 then 1 + opsE x.on else 0) := by
      unfold costS
      by_cases h0 : x.kind = 0
      · simp [h0]
      · simp [h0]
    rw [this]
    omega
theorem whole_len (c : Control) : (wholeM c).parts.length = countM c := by
  unfold wholeM
  rw [fold_len (g := fun _ => 0) (pil_len c), fold_len (sig_len c), fold_lenI (f := gateM c) (n := c.signals.length) (fun m i hi => gate_len m hi) c.signals.length (Nat.le_refl _), machine_len, sum_const]
  have := cost_sum c.signals
  unfold countM
  rw [← this]
  unfold gCost sCost
  omega

/-! ### Reduced -/
theorem ops_rep (l : List Int) : ∀ (N : Nat) (x : Expr), SizeOf.sizeOf x < N → opsE (repE x l) = opsE x
  | 0, _, h => absurd h (Nat.not_lt_zero _)
  | N + 1, x, hN => by
    have key : ∀ xs : List Expr, (∀ y ∈ xs, y ∈ x.args) → opsL (repL xs l) = opsL xs := by
      intro xs
      induction xs with
      | nil => intro _; rfl
      | cons y xs ih =>
        intro hl
        have hy := hl y (by simp)
        rw [repL, opsL, opsL, ih fun z hz => hl z (by simp [hz]), ops_rep l N y (by have := Expr.lt_of_mem hy; omega)]
    rw [repE_eq, opsE_eq x]
    by_cases h1 : x.op = 1
    · rw [if_pos h1, opsE_eq]
      simp [h1]
    · rw [if_neg h1, opsE_eq]
      dsimp only
      rw [key x.args fun _ h => h, repL_map, List.length_map]
theorem cost_red (c : Control) (x : Signal) : costS (redX c x) = costS x := by
  unfold costS redX
  dsimp only
  rw [ops_rep _ _ _ (Nat.lt_succ_self _), ops_rep _ _ _ (Nat.lt_succ_self _)]
theorem sum_filter {α : Type} (p : α → Bool) (f g : α → Nat) (h : ∀ a, p a = true → f a ≤ g a) : ∀ l : List α, ((l.filter p).map f).sum ≤ (l.map g).sum
  | [] => by simp
  | a :: l => by
    have := sum_filter p f g h l
    by_cases ha : p a = true
    · have := h a ha
      simp [ha]
      omega
    · simp [ha]
      omega
theorem sum_shift (first : Nat) (f : Nat → Nat) : ∀ n : Nat, ((List.range (first + n)).map fun k => if k < first then 0 else f (k - first)).sum = ((List.range n).map f).sum
  | 0 => by
    rw [Nat.add_zero]
    have : ∀ k, k ≤ first → ((List.range k).map fun k => if k < first then 0 else f (k - first)).sum = 0 := by
      intro k
      induction k with
      | zero => simp
      | succ k ih =>
        intro hk
        rw [List.range_succ, List.map_append, List.sum_append, ih (by omega)]
        simp
        intro h
        omega
    rw [this first (Nat.le_refl _)]
    rfl
  | n + 1 => by
    rw [← Nat.add_assoc, List.range_succ, List.range_succ, List.map_append, List.map_append, List.sum_append, List.sum_append, sum_shift first f n]
    simp
    intro h
    omega
theorem range_get (l : List Signal) (f : Signal → Nat) : ((List.range l.length).map fun i => match l[i]? with
    | some x => f x
    | none => 0).sum = (l.map f).sum := by
  induction l with
  | nil => rfl
  | cons x l ih =>
    rw [List.length_cons, List.range_succ_eq_map]
    simp only [List.map_cons, List.map_map, List.sum_cons, List.getElem?_cons_zero, Function.comp_def, List.getElem?_cons_succ]
    rw [ih]
theorem count_red {c : Control} (hf : Fine c) (hp : PilC c) : countM (redC c) ≤ countM c := by
  have h0 := hf.f0
  have hc := count_first c
  unfold countM
  have key : ((redC c).signals.map costS).sum ≤ (c.signals.map costS).sum := by
    obtain ⟨pr, hpr, e1⟩ : ∃ pr : Nat → Bool, (∀ k : Nat, pr k = true → Need c k) ∧ (redC c).signals.map costS = (((List.range (countC c).toNat).filter pr).map fun k : Nat => costS (sigAt c k)) := by
      classical
      refine ⟨fun k => decide (Need c k), fun k hk => of_decide_eq_true hk, ?_⟩
      simp only [redC, needL, metB, List.map_map]
      apply List.map_congr_left
      intro k hk
      exact cost_red c _
    rw [e1, ← range_get c.signals costS, ← sum_shift (firstC c).toNat, show (firstC c).toNat + c.signals.length = (countC c).toNat by omega]
    refine sum_filter _ _ _ (fun k hk => ?_) _
    have hn := hpr k hk
    obtain ⟨n, x, e1, e2, e3, e4, e5⟩ := need_sig hf hp hn
    rw [e4, if_neg (by omega), show k - (firstC c).toNat = n by omega, e2]
    exact Nat.le_refl _
  have e : (redC c).actuators = c.actuators := rfl
  have e' : (redC c).inputs = c.inputs := rfl
  rw [e, e']
  omega
theorem red_sigs {c : Control} (hf : Fine c) (hp : PilC c) : (redC c).signals.length ≤ c.signals.length := by
  have := need_len hf hp
  simpa [redC] using this
end Go.Proofs.YtbcjnmifflflfaaGreatDoor
end

/- Contracts of realize: the machine. -/
section
namespace Go.Proofs.YtbcjnmifflflfaaGreatDoor
set_option maxHeartbeats 8000000
set_option maxRecDepth 10000

def sideM (m : Mk) (a : Nat) (i : Nat) : Mk := (List.range i).foldl (fun m s => (m.add 6 (letterT a ++ numT s) 0 (2 * a + s)).feed (letterT a ++ numT s)) m
def portsM (m : Mk) (a : Nat) (i : Nat) : Mk := (List.range i).foldl (fun m s => m.join ⟨86 :: letterT a, [if s = 0 then 50 else 52]⟩ ⟨letterT a, [if s = 0 then 50 else 52]⟩) m
theorem side_succ (m : Mk) (a i : Nat) : sideM m a (i + 1) = ((sideM m a i).add 6 (letterT a ++ numT i) 0 (2 * a + i)).feed (letterT a ++ numT i) := by unfold sideM; rw [List.range_succ, List.foldl_append]; rfl
theorem ports_succ (m : Mk) (a i : Nat) : portsM m a (i + 1) = (portsM m a i).join ⟨86 :: letterT a, [if i = 0 then 50 else 52]⟩ ⟨letterT a, [if i = 0 then 50 else 52]⟩ := by unfold portsM; rw [List.range_succ, List.foldl_append]; rfl
theorem valve_add (m : Mk) (kind : Int) (name : List UInt8) (delay line a : Int) : (m.add kind name delay line).valve a = { m with parts := m.parts ++ [⟨kind, name, delay, m.signal, none, a, line⟩] } := by
  unfold Mk.valve Mk.add
  dsimp only
  rw [set_last]
  simp
theorem act_parts (m : Mk) (a : Nat) : actM m a = portsM ((((sideM (m.add 1 (letterT a) 0 (-1)) a 2).add 2 (86 :: letterT a) 0 (-1)).valve a).feed (86 :: letterT a)) a 2 := by
  rw [ports_succ, ports_succ, side_succ, side_succ, num0, num1]
  rfl
/-- How much there is at most. -/
def FewM (m : Mk) (n : Nat) : Prop := m.parts.length ≤ n ∧ m.joins.length ≤ 3 * n
theorem FewM.add {m : Mk} {n : Nat} (h : FewM m n) (kind : Int) (name : List UInt8) (delay line : Int) : FewM (m.add kind name delay line) (n + 1) := by
  obtain ⟨h1, h2⟩ := h
  refine ⟨by simp [Mk.add]; omega, by show m.joins.length ≤ _; omega⟩
theorem FewM.join {m : Mk} {n : Nat} (h : FewM m n) (a b : Pin) : FewM (m.join a b) (n + 1) := by
  obtain ⟨h1, h2⟩ := h
  have := joinD_len a b
  refine ⟨by show m.parts.length ≤ _; omega, by simp only [Mk.join, List.length_append]; omega⟩
theorem FewM.feed {m : Mk} {n : Nat} (h : FewM m n) (name : List UInt8) : FewM (m.feed name) (n + 1) := h.join _ _
theorem FewM.valve {m : Mk} {n : Nat} (h : FewM m n) (a : Int) : FewM (m.valve a) n := ⟨by rw [valve_parts]; exact h.1, h.2⟩
theorem FewM.mono {m : Mk} {n k : Nat} (h : FewM m n) (hk : n ≤ k) : FewM m k := ⟨by have := h.1; omega, by have := h.2; omega⟩
theorem few_side {m : Mk} {n : Nat} (h : FewM m n) (a : Nat) : ∀ i, FewM (sideM m a i) (n + 2 * i)
  | 0 => h
  | i + 1 => by
    rw [side_succ]
    exact ((few_side h a i).add _ _ _ _).feed _
theorem few_ports {m : Mk} {n : Nat} (h : FewM m n) (a : Nat) : ∀ i, FewM (portsM m a i) (n + i)
  | 0 => h
  | i + 1 => by
    rw [ports_succ]
    exact (few_ports h a i).join _ _

theorem side_row {c : Control} {b b4 b5 bg : Nat} {hp hj : Value} {m : Mk} {a i : Nat} {n : Nat} {Q : PostQ} (ha : a < 26) (hi : i < 2) (hf : FewM m n) (hn : n ≤ 100000) :
    vcC ⟨Tryz.prog, none, 98⟩ (loopC Tryz.f117 1) (hdE [(0, .ptr 70 b 0), (2, aI a), (3, .dat (.str (letterT a))), (19, aI c.actuators), (20, aI a)] [(28, aI i)]) (hcat (mkrH c b b4 b5 bg hp hj (sideM m a i)) [])
      (LoopQ Q fun E' H' => ∃ g : Value × Value, True ∧ (∀ p ∈ [(28, aI (i + 1 : Nat))], wk (E' p.1) p.2) ∧ (∀ p ∈ [(0, A.ptr 70 b 0), (2, aI a), (3, .dat (.str (letterT a))), (19, aI c.actuators), (20, aI a)], E' p.1 = p.2) ∧
        subN (hcat (mkrH c b b4 b5 bg g.1 g.2 (sideM m a (i + 1))) []) H') := by
  have h1 := few_side hf a i
  have hadd := add37_s (c := c) (b := b) (b4 := b4) (b5 := b5) (bg := bg) (hp := hp) (hj := hj) (m := sideM m a i) 6 (letterT a ++ numT i) 0 (2 * a + i) (by have := h1.1; omega)
  have hfd := fun hp' => feed37_s (c := c) (b := b) (b4 := b4) (b5 := b5) (bg := bg) (hp := hp') (hj := hj) (m := (sideM m a i).add 6 (letterT a ++ numT i) 0 (2 * a + i)) (letterT a ++ numT i) (by have := (h1.add 6 (letterT a ++ numT i) 0 (2 * a + i)).2; omega)
  have hnl := numT_len i
  have hla : (letterT a).length = 1 := rfl
  rw [side_succ]
  refine vc_part rfl ?_
  have hi' : (i : Int) < 2 := by omega
  simp [hi']
  refine (Itoa_fn i (by omega)).s ?_
  simp
  refine ⟨by omega, by omega, by omega, (hadd.on0 rfl).mono ?_⟩
  rintro _ _ ⟨hp1, rfl, rfl⟩
  simp
  refine ((hfd hp1).on0 rfl).mono ?_
  rintro _ _ ⟨rfl, hj1, rfl⟩
  simp
  omega
abbrev pkv (c : Control) (b a : Nat) : List (Nat × A) := [(0, .ptr 70 b 0), (2, aI a), (3, .dat (.str (letterT a))), (19, aI c.actuators), (20, aI a), (57, .record [.str [50], .str [52]])]
theorem ports_row {c : Control} {b b4 b5 bg : Nat} {hp hj : Value} {m : Mk} {a i : Nat} {n : Nat} {Q : PostQ} (hi : i < 2) (hf : FewM m n) (hn : n ≤ 100000) :
    vcC ⟨Tryz.prog, none, 98⟩ (loopC Tryz.f117 2) (hdE (pkv c b a) [(58, aI i)]) (hcat (mkrH c b b4 b5 bg hp hj (portsM m a i)) [])
      (LoopQ Q fun E' H' => ∃ g : Value × Value, True ∧ (∀ p ∈ [(58, aI (i + 1 : Nat))], wk (E' p.1) p.2) ∧ (∀ p ∈ pkv c b a, E' p.1 = p.2) ∧ subN (hcat (mkrH c b b4 b5 bg g.1 g.2 (portsM m a (i + 1))) []) H') := by
  have h1 := few_ports hf a i
  have hjn := join37_s (c := c) (b := b) (b4 := b4) (b5 := b5) (bg := bg) (hp := hp) (hj := hj) (m := portsM m a i) ⟨86 :: letterT a, [if i = 0 then 50 else 52]⟩ ⟨letterT a, [if i = 0 then 50 else 52]⟩ (by have := h1.2; omega)
  have hla : (letterT a).length = 1 := rfl
  rw [ports_succ]
  refine vc_part rfl ?_
  have hi' : (i : Int) < 2 := by omega
  obtain rfl | rfl : i = 0 ∨ i = 1 := by omega
  all_goals
    simp at hjn
    simp [hla]
    refine (hjn.on0 rfl).mono ?_
    rintro _ _ ⟨rfl, hj1, rfl⟩
    simp
theorem act_row {c : Control} {b b4 b5 bg : Nat} {hp hj : Value} {m : Mk} {a : Nat} {n : Nat} {Q : PostQ} (hc : Sm c) (ha : (a : Int) < c.actuators) (hac : c.actuators ≤ 12) (hf : FewM m n) (hn : n ≤ 50000) :
    vcC ⟨Tryz.prog, none, 98⟩ (loopC Tryz.f117 0) (hdE [(0, .ptr 70 b 0), (19, aI c.actuators)] [(20, aI a)]) (hcat (mkrH c b b4 b5 bg hp hj m) [])
      (LoopQ Q fun E' H' => ∃ g : Value × Value, True ∧ (∀ p ∈ [(20, aI (a + 1 : Nat))], wk (E' p.1) p.2) ∧ (∀ p ∈ [(0, A.ptr 70 b 0), (19, aI c.actuators)], E' p.1 = p.2) ∧
        subN (hcat (mkrH c b b4 b5 bg g.1 g.2 (actM m a)) []) H') := by
  have hla : (letterT a).length = 1 := rfl
  have hadd := add37_s (c := c) (b := b) (b4 := b4) (b5 := b5) (bg := bg) (hp := hp) (hj := hj) (m := m) 1 (letterT a) 0 (-1) (by have := hf.1; omega)
  refine vc_part rfl ?_
  simp [ha]
  refine (letter_fn a (by omega)).s ?_
  simp
  refine (hadd.on0 rfl).mono ?_
  rintro _ _ ⟨hp1, rfl, rfl⟩
  simp
  have hf1 : FewM (m.add 1 (letterT a) 0 (-1)) (n + 1) := hf.add _ _ _ _
  obtain ⟨m1, hm1⟩ : ∃ m1, m.add 1 (letterT a) 0 (-1) = m1 := ⟨_, rfl⟩
  rw [hm1] at hf1
  have hs0 : sideM m1 a 0 = m1 := rfl
  have hact : actM m a = portsM ((((sideM m1 a 2).add 2 (86 :: letterT a) 0 (-1)).valve a).feed (86 :: letterT a)) a 2 := by rw [← hm1]; exact act_parts m a
  have hs2 := few_side hf1 a 2
  rw [hm1, hact]
  refine V.forI (σ := Value × Value) (kv := [(0, .ptr 70 b 0), (2, aI a), (3, .dat (.str (letterT a))), (19, aI c.actuators), (20, aI a)]) 2 [0, 2, 3, 19, 20] (by simp) (fun i _ => [(28, aI i)]) (fun i g => mkrH c b b4 b5 bg g.1 g.2 (sideM m1 a i)) (fun _ _ => True) (hp1, hj) trivial (by simp) ⟨by simp; exact rfl, by simp [hs0]⟩ ?_ ?_
  · rintro i ⟨hp2, hj2⟩ hi -
    exact vc_of_part rfl (side_row (by omega) hi hf1 (by omega))
  · rintro ⟨hp2, hj2⟩ -
    generalize sideM m1 a 2 = m2 at *
    have hadd2 := add37_s (c := c) (b := b) (b4 := b4) (b5 := b5) (bg := bg) (hp := hp2) (hj := hj2) (m := m2) 2 (86 :: letterT a) 0 (-1) (by have := hs2.1; omega)
    have hf3 : FewM ((m2.add 2 (86 :: letterT a) 0 (-1)).valve a) (n + 6) := (hs2.add 2 (86 :: letterT a) 0 (-1)).valve a
    have hv := valve_add m2 2 (86 :: letterT a) 0 (-1) a
    obtain ⟨m3, hm3⟩ : ∃ m3, (m2.add 2 (86 :: letterT a) 0 (-1)).valve a = m3 := ⟨_, rfl⟩
    rw [hm3] at hf3 hv ⊢
    have hfd := fun hp' => feed37_s (c := c) (b := b) (b4 := b4) (b5 := b5) (bg := bg) (hp := hp') (hj := hj2) (m := m3) (86 :: letterT a) (by have := hf3.2; omega)
    have hf4 := hf3.feed (86 :: letterT a)
    simp [hla]
    refine (hadd2.on0 rfl).mono ?_
    rintro _ _ ⟨hp3, rfl, rfl⟩
    simp [Mk.add, hla]
    refine ((hfd hp3).on0 (by simp [hv, argA])).mono ?_
    rintro _ _ ⟨rfl, hj3, rfl⟩
    simp
    have hp0 : portsM (m3.feed (86 :: letterT a)) a 0 = m3.feed (86 :: letterT a) := rfl
    refine V.forI (σ := Value × Value) (kv := pkv c b a) 2 [0, 2, 3, 19, 20, 57] (by simp) (fun i _ => [(58, aI i)]) (fun i g => mkrH c b b4 b5 bg g.1 g.2 (portsM (m3.feed (86 :: letterT a)) a i)) (fun _ _ => True) (hp3, hj3) trivial (by simp) ⟨by simp; exact rfl, by simp [hp0]⟩ ?_ ?_
    · rintro i ⟨hp4, hj4⟩ hi -
      exact vc_of_part rfl (ports_row hi hf4 (by omega))
    · rintro ⟨hp4, hj4⟩ -
      simp
      omega
theorem in_row {c : Control} {b b4 b5 bg : Nat} {hp hj : Value} {m : Mk} {i : Nat} {n : Nat} {Q : PostQ} (hc : Sm c) (hi : i < c.inputs.length) (hf : FewM m n) (hn : n ≤ 100000) :
    vcC ⟨Tryz.prog, none, 98⟩ (loopC Tryz.f117 3) (hdE [(0, .ptr 70 b 0), (76, aTs c.inputs), (77, aI c.inputs.length)] [(78, aI i)]) (hcat (mkrH c b b4 b5 bg hp hj m) [])
      (LoopQ Q fun E' H' => ∃ g : Value × Value, True ∧ (∀ p ∈ [(78, aI (i + 1 : Nat))], wk (E' p.1) p.2) ∧ (∀ p ∈ [(0, A.ptr 70 b 0), (76, aTs c.inputs), (77, aI c.inputs.length)], E' p.1 = p.2) ∧
        subN (hcat (mkrH c b b4 b5 bg g.1 g.2 (inM c m i)) []) H') := by
  obtain ⟨h1, h2, h3⟩ := hc
  obtain ⟨s, hs⟩ : ∃ s, c.inputs[i] = s := ⟨_, rfl⟩
  have hso : c.inputs[i]? = some s := by rw [List.getElem?_eq_getElem hi, hs]
  have hsd : c.inputs.getD i [] = s := by rw [List.getD_eq_getElem?_getD, hso]; rfl
  have hadd := add37_s (c := c) (b := b) (b4 := b4) (b5 := b5) (bg := bg) (hp := hp) (hj := hj) (m := m) 7 s 0 (2 * c.actuators + i) (by have := hf.1; omega)
  have hfd := fun hp' => feed37_s (c := c) (b := b) (b4 := b4) (b5 := b5) (bg := bg) (hp := hp') (hj := hj) (m := m.add 7 s 0 (2 * c.actuators + i)) s (by have := (hf.add 7 s 0 (2 * c.actuators + i)).2; omega)
  have hin : inM c m i = (m.add 7 s 0 (2 * c.actuators + i)).feed s := by unfold inM; rw [hsd]
  rw [hin]
  refine vc_part rfl ?_
  simp [hi, hs, hso]
  refine ⟨by omega, by omega, (hadd.on0 rfl).mono ?_⟩
  rintro _ _ ⟨hp1, rfl, rfl⟩
  simp
  refine ((hfd hp1).on0 rfl).mono ?_
  rintro _ _ ⟨rfl, hj1, rfl⟩
  simp
  omega
theorem few_act {m : Mk} {n : Nat} (h : FewM m n) (a : Nat) : FewM (actM m a) (n + 9) := by
  rw [act_parts]
  exact few_ports ((((few_side (h.add 1 (letterT a) 0 (-1)) a 2).add _ _ _ _).valve _).feed _) a 2
theorem few_in {c : Control} {m : Mk} {n : Nat} (h : FewM m n) (i : Nat) : FewM (inM c m i) (n + 2) := (h.add _ _ _ _).feed _
theorem few_fold {f : Mk → Nat → Mk} {k : Nat} (hf : ∀ m n i, FewM m n → FewM (f m i) (n + k)) {m : Mk} {n : Nat} (h : FewM m n) : ∀ i, FewM ((List.range i).foldl f m) (n + k * i)
  | 0 => h
  | i + 1 => by
    rw [List.range_succ, List.foldl_append]
    exact (hf _ _ i (few_fold hf h i)).mono (by rw [Nat.mul_succ]; omega)
def mk0 : Mk := ⟨[], [], 0, 0, []⟩
theorem fold_succ {α : Type} (f : α → Nat → α) (m : α) (i : Nat) : (List.range (i + 1)).foldl f m = f ((List.range i).foldl f m) i := by rw [List.range_succ, List.foldl_append]; rfl
theorem few_machine (c : Control) : FewM (machineM c) (1 + 9 * c.actuators.toNat + 2 * c.inputs.length) :=
  few_fold (fun m n i h => few_in h i) (few_fold (fun m n i h => few_act h i) (n := 1) ⟨by simp [Mk.add], by simp [Mk.add]⟩ _) _
theorem machine37_s {c : Control} (hc : Sm c) (h0 : 0 ≤ c.actuators ∧ c.actuators ≤ 12) (hin : c.inputs.length ≤ 1000) {b b4 b5 bg : Nat} {hp hj : Value} :
    CallS Tryz.prog 117 [.ptr 70 b 0] (mkrH c b b4 b5 bg hp hj mk0) fun r H' => r = .tuple [] ∧ ∃ hp' hj', H' = mkrH c b b4 b5 bg hp' hj' (machineM c) := by
  obtain ⟨mb, hmb⟩ : ∃ mb, (⟨[], [], 0, -1, []⟩ : Mk).add 0 [83] 0 (-1) = mb := ⟨_, rfl⟩
  have hfb : FewM mb 1 := by rw [← hmb]; exact ⟨by simp [Mk.add], by simp [Mk.add]⟩
  have hfa : ∀ i, FewM ((List.range i).foldl actM mb) (1 + 9 * i) := few_fold (fun m n i h => few_act h i) hfb
  have hma : machineM c = (List.range c.inputs.length).foldl (inM c) ((List.range c.actuators.toNat).foldl actM mb) := by rw [← hmb]; rfl
  have hfi : ∀ i, FewM ((List.range i).foldl (inM c) ((List.range c.actuators.toNat).foldl actM mb)) (1 + 9 * c.actuators.toNat + 2 * i) := few_fold (fun m n i h => few_in h i) (hfa _)
  have hadd := add37_s (c := c) (b := b) (b4 := b4) (b5 := b5) (bg := bg) (hp := hp) (hj := hj) (m := ⟨[], [], 0, -1, []⟩) 0 [83] 0 (-1) (by simp)
  rw [hmb] at hadd
  have hz1 : (List.range 0).foldl actM mb = mb := rfl
  have hz2 : (List.range 0).foldl (inM c) ((List.range c.actuators.toNat).foldl actM mb) = (List.range c.actuators.toNat).foldl actM mb := rfl
  have hcc := hc
  obtain ⟨h1, h2, h3⟩ := hc
  refine callS_of Tryz.func117 rfl Tryz.ntmps117 (rs := []) rfl (by kernel_rfl) (by simp) (by kernel_rfl) ?_
  simp [mk0]
  simp at hadd
  refine (hadd.on0 rfl).mono ?_
  rintro _ _ ⟨hp1, rfl, rfl⟩
  simp
  refine V.forI (σ := Value × Value) (kv := [(0, .ptr 70 b 0), (19, aI c.actuators)]) c.actuators.toNat [0, 19] (by simp) (fun i _ => [(20, aI i)]) (fun i g => mkrH c b b4 b5 bg g.1 g.2 ((List.range i).foldl actM mb)) (fun _ _ => True) (hp1, hj) trivial (by simp) ⟨by simp; exact rfl, by simp [hz1]⟩ ?_ ?_
  · rintro i ⟨hp2, hj2⟩ hi -
    rw [fold_succ]
    exact vc_of_part rfl (act_row hcc (by omega) (by omega) (hfa i) (by omega))
  · rintro ⟨hp2, hj2⟩ -
    have hmx : max c.actuators 0 = c.actuators := by omega
    simp [hmx]
    refine V.forI (σ := Value × Value) (kv := [(0, .ptr 70 b 0), (76, aTs c.inputs), (77, aI c.inputs.length)]) c.inputs.length [0, 76, 77] (by simp) (fun i _ => [(78, aI i)]) (fun i g => mkrH c b b4 b5 bg g.1 g.2 ((List.range i).foldl (inM c) ((List.range c.actuators.toNat).foldl actM mb))) (fun _ _ => True) (hp2, hj2) trivial (by simp) ⟨by simp; exact rfl, by simp [hz2]⟩ ?_ ?_
    · rintro i ⟨hp3, hj3⟩ hi -
      rw [fold_succ]
      exact vc_of_part rfl (in_row hcc hi (hfi i) (by omega))
    · rintro ⟨hp3, hj3⟩ -
      simp
      exact ⟨hp3, hj3, by rw [hma]; simp⟩
end Go.Proofs.YtbcjnmifflflfaaGreatDoor
end

/- Contracts: the reference's classes. -/
section
namespace Go.Proofs.YtbcjnmifflflfaaGreatDoor
set_option maxHeartbeats 4000000
set_option maxRecDepth 10000

/-- Lists of lines that are in order for a control. -/
def OkO (c : Control) (o : Option (List Int)) : Prop := ∀ l, o = some l → (l.length : Int) = countC c ∧ ∀ v ∈ l, I64 v
abbrev oA : Option (List Int) → A
  | none => .nils
  | some l => aIs l
theorem zero_right {x : Expr} (h : zeroE x = true) (n : Int) : RightE n x := by
  simp [zeroE] at h
  obtain ⟨⟨h1, h2⟩, h3⟩ := h
  refine .mk x ?_ (by rw [h3]; intro a ha; cases ha)
  unfold nodeR
  simp [h1, h2, h3]
theorem sig_right {c : Control} (hf : Fine c) {i : Nat} {x : Signal} (hx : c.signals[i]? = some x) : RightE (countC c) x.on ∧ RightE (countC c) x.off := by
  have ho := hf.on hx
  refine ⟨(right_of_check ho.1).1, ?_⟩
  have h := hf.sigs i x hx
  unfold signalE at h
  split at h
  · rename_i h1; exact absurd h h1
  · split at h
    · cases h
    · split at h
      · rename_i h1; exact absurd h h1
      · split at h
        · refine zero_right ?_ _
          cases hz : zeroE x.off
          · unfold gateE at h
            split at h
            · cases h
            · simp [hz] at h
          · rfl
        · split at h
          · unfold memE at h
            split at h
            · rename_i h1; exact absurd h h1
            · rename_i h1; exact (right_of_check (Classical.not_not.1 h1)).1
          · refine zero_right ?_ _
            cases hz : zeroE x.off
            · unfold timE at h
              split at h
              · cases h
              · simp [hz] at h
            · rfl
/-- Do two signals look alike, but for what was before? -/
def alikeX (o : Option (List Int)) (x y : Signal) : Bool := (x.kind == y.kind && x.delay == y.delay && x.init == y.init) && match o with
  | none => true
  | some l => eqE (repE x.on l) (repE y.on l) && eqE (repE x.off l) (repE y.off l)

end Go.Proofs.YtbcjnmifflflfaaGreatDoor
end

/- Contracts: reduce's closure that compares two signals. -/
section
namespace Go.Proofs.YtbcjnmifflflfaaGreatDoor
set_option maxHeartbeats 4000000
set_option maxRecDepth 10000

theorem like_none (c : Control) (n : Nat) (x y : Signal) (b3 : Nat) (hf : Fine c) (hn : c.signals[n]? = some y) :
    CallS Tryz.prog 190 [aI (firstC c + n), .rptr (encC c), .ptr 3 b3 0, .rptr (encS x)] [(3, .box b3 [.nils])] fun r H' => r = aB true ∧ H' = [(3, .box b3 [.nils])] := by
  obtain ⟨hl, hy⟩ := List.getElem?_eq_some_iff.1 hn
  have e1 : firstC c + (n : Int) - firstC c = n := by omega
  refine CallS.dropP (K := fun r H' => r = aB true ∧ subP [(3, .box b3 [.nils])] H') (callS_of Tryz.func190 rfl Tryz.ntmps190 (rs := [.tmp 5]) rfl (by kernel_rfl) (by simp) (by kernel_rfl) ?_) ?_
  rotate_left
  · rintro r H' ⟨rfl, h⟩
    exact ⟨_, h, rfl, rfl⟩
  simp
  refine V.draw (fun s => if s = 19 then some (.fn (aI (firstC c))) else none) (by kernel_rfl) (by kernel_rfl) (by simp) ?_
  simp [hn, hl, hy, e1]
  have hsg := hf.sig
  refine ⟨firstQ_fn c hf.sm, by omega, fun b => (subP.refl _).c _⟩

theorem like_end {x y : Signal} {p q r s : Expr} {l : List Int} {b6 b7 b9 : Nat} {e1 e2 : Bool} (c3 : CallFn Tryz.prog 59 [aE x.off, aIs l] (.tuple [aE r, aB e1])) (c4 : CallFn Tryz.prog 59 [aE y.off, aIs l] (.tuple [aE s, aB e2]))
    (c5 : CallFn Tryz.prog 191 [aE p, aE q] (aB (sameX p q))) (c6 : CallFn Tryz.prog 191 [aE r, aE s] (aB (sameX r s))) :
    vcC ⟨Tryz.prog, none, 61⟩ (restC Tryz.f190 5) (hdE [(2, .rptr [.sl (l.map encI)]), (3, .rptr (encS x)), (6, .ptr 6 b6 0), (7, .ptr 7 b7 0), (9, .ptr 9 b9 0)] [])
      [(9, .box b9 ((encE q).map A.dat)), (7, .box b7 ((encE p).map A.dat)), (6, .box b6 (sigA y))] (RetV Tryz.prog [.tmp 5] fun r' H' => (frz H' r').1 ∧ (frz H' r').2 = aB (sameX p q && sameX r s)) := by
  refine vc_rest rfl ?_
  simp [encE_eq]
  refine c3.s ?_
  simp
  intro b11
  refine c4.s ?_
  simp
  intro b13
  refine c5.s ?_
  simp
  refine GCall.fn (aB (sameX r s)) (fun h => ⟨h, c6⟩) ?_
  cases sameX p q <;> simp

theorem like_mid {x y : Signal} {p q r s : Expr} {l : List Int} {b6 : Nat} {e1 e2 e3 e4 : Bool} (c1 : CallFn Tryz.prog 59 [aE x.on, aIs l] (.tuple [aE p, aB e3])) (c2 : CallFn Tryz.prog 59 [aE y.on, aIs l] (.tuple [aE q, aB e4]))
    (c3 : CallFn Tryz.prog 59 [aE x.off, aIs l] (.tuple [aE r, aB e1])) (c4 : CallFn Tryz.prog 59 [aE y.off, aIs l] (.tuple [aE s, aB e2]))
    (c5 : CallFn Tryz.prog 191 [aE p, aE q] (aB (sameX p q))) (c6 : CallFn Tryz.prog 191 [aE r, aE s] (aB (sameX r s))) :
    vcN ⟨Tryz.prog, none, 61⟩ 2 (restC Tryz.f190 3) (hdE [(2, .rptr [.sl (l.map encI)]), (3, .rptr (encS x)), (6, .ptr 6 b6 0)] [])
      [(6, .box b6 (sigA y))] (RetV Tryz.prog [.tmp 5] fun r' H' => (frz H' r').1 ∧ (frz H' r').2 = aB (sameX p q && sameX r s)) := by
  refine vcN_rest rfl ?_
  simp
  refine c1.s ?_
  simp
  intro b7
  refine c2.s ?_
  simp
  intro b9
  refine V.cut [(2, .rptr [.sl (l.map encI)]), (3, .rptr (encS x)), (6, .ptr 6 b6 0), (7, .ptr 7 b7 0), (9, .ptr 9 b9 0)] (by simp) (by simp [encE_eq]) (vc_of_rest rfl (like_end (b6 := b6) (b7 := b7) (b9 := b9) c3 c4 c5 c6))

theorem like_some (c : Control) (l : List Int) (a n : Nat) (x y : Signal) (hf : Fine c) (hc : OkC c) (hx : c.signals[a]? = some x) (hn : c.signals[n]? = some y) (ho : OkO c (some l)) :
    CallFn Tryz.prog 190 [aI (firstC c + n), .rptr (encC c), .rptr [.sl (l.map encI)], .rptr (encS x)] (aB (sameX (repE x.on l) (repE y.on l) && sameX (repE x.off l) (repE y.off l))) := by
  obtain ⟨ha, hx1⟩ := List.getElem?_eq_some_iff.1 hx
  obtain ⟨hb, hy1⟩ := List.getElem?_eq_some_iff.1 hn
  have hsm := hf.sm
  have rx := sig_right hf hx
  have ry := sig_right hf hn
  have ox := hc.sigs x (List.mem_of_getElem? hx)
  have oy := hc.sigs y (List.mem_of_getElem? hn)
  obtain ⟨h1, hI⟩ := ho l rfl
  have r5 : l.length ≤ 1000000 := by
    have := hf.act
    have := hf.inp
    have := hf.sig
    unfold countC at h1
    omega
  have r6 : l ≠ [] := by
    intro e
    rw [e] at h1
    have := hf.act
    unfold countC at h1
    simp at h1
    omega
  rw [← h1] at rx ry
  have o1 := rep_ok hI _ x.on (Nat.lt_succ_self _) ox.on
  have o2 := rep_ok hI _ y.on (Nat.lt_succ_self _) oy.on
  have o3 := rep_ok hI _ x.off (Nat.lt_succ_self _) ox.off
  have o4 := rep_ok hI _ y.off (Nat.lt_succ_self _) oy.off
  have c1 := replaced_fn l r5 _ x.on (Nat.lt_succ_self _) ox.on rx.1
  have c2 := replaced_fn l r5 _ y.on (Nat.lt_succ_self _) oy.on ry.1
  have c3 := replaced_fn l r5 _ x.off (Nat.lt_succ_self _) ox.off rx.2
  have c4 := replaced_fn l r5 _ y.off (Nat.lt_succ_self _) oy.off ry.2
  have c5 := sameE_fn _ _ o1 o2
  have c6 := sameE_fn _ _ o3 o4
  generalize repE x.on l = p at *
  generalize repE y.on l = q at *
  generalize repE x.off l = r at *
  generalize repE y.off l = s at *
  refine callFz_cut 3 Tryz.func190 rfl Tryz.ntmps190 (rs := [.tmp 5]) rfl (by kernel_rfl) (by simp) (by kernel_rfl) ?_
  simp
  refine V.draw (fun s => if s = 19 then some (.fn (aI (firstC c))) else none) (by kernel_rfl) (by kernel_rfl) (by simp) ?_
  have e1 : firstC c + (n : Int) - firstC c = n := by omega
  simp [hn, hb, hy1, e1]
  have hsg := hf.sig
  refine ⟨firstQ_fn c hf.sm, by omega, fun b6 => ⟨r6, V.cutN 2 [(2, .rptr [.sl (l.map encI)]), (3, .rptr (encS x)), (6, .ptr 6 b6 0)] (by simp) (by simp) (vcN_of_rest rfl (like_mid (b6 := b6) c1 c2 c3 c4 c5 c6))⟩⟩

end Go.Proofs.YtbcjnmifflflfaaGreatDoor
end
