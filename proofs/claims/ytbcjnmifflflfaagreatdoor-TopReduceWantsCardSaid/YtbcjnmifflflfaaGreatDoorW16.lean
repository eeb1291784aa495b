/- Texts joined by a program: Za, Zb, Zc, Ye, Zd, Pc. -/
import Derived.Test.YtbcjnmifflflfaaGreatDoorW15
import Derived.Test.YtbcjnmifflflfaaGreatDoorW14
import Derived.Test.YtbcjnmifflflfaaGreatDoorW13
set_option linter.unusedSimpArgs false
set_option linter.unusedVariables false

section
namespace Go.Proofs.YtbcjnmifflflfaaGreatDoor
set_option maxHeartbeats 1000000
set_option maxRecDepth 10000
theorem Fine.f0 {c : Control} (hf : Fine c) : 0 ≤ firstC c := by have := hf.act; unfold firstC; omega
theorem count_first (c : Control) : countC c = firstC c + c.signals.length := rfl
noncomputable def clsL (c : Control) (k : Int) : Int := divL c (some (alikeC c)) k
theorem cls_at {c : Control} (hf : Fine c) {k : Int} (hk : 0 ≤ k ∧ k < countC c) : (alikeC c)[k.toNat]? = some (clsL c k) := by
  have := div_at (c := c) (o := some (alikeC c)) hk
  rwa [alike_stay hf] at this
theorem cls_getD {c : Control} (hf : Fine c) {k : Int} (hk : 0 ≤ k ∧ k < countC c) : (alikeC c).getD k.toNat 0 = clsL c k := by
  rw [List.getD_eq_getElem?_getD, cls_at hf hk]
  rfl
theorem alike_len {c : Control} (hf : Fine c) : ((alikeC c).length : Int) = countC c := cls_length hf.f0 _
theorem root_low {c : Control} (hf : Fine c) {k : Int} (hk : 0 ≤ k ∧ k < firstC c) : rootP c k = k := by
  have := count_first c
  rw [root_step hf ⟨hk.1, by omega⟩]
  unfold repP
  rw [if_pos hk.2]
  simp
theorem root_root {c : Control} (hf : Fine c) {k : Int} (hk : 0 ≤ k ∧ k < countC c) : rootP c (rootP c k) = rootP c k := by
  have hr := root_range hf _ k (Nat.le_refl _) hk
  rw [root_step hf hr.1, if_neg (by rw [hr.2]; decide)]
theorem cls_low {c : Control} (hf : Fine c) {k : Int} (hk : 0 ≤ k ∧ k < firstC c) : clsL c k = k := by
  unfold clsL divL
  rw [root_low hf hk, if_pos hk.2]
theorem cls_root {c : Control} (hf : Fine c) {k : Int} (hk : 0 ≤ k ∧ k < countC c) : clsL c (rootP c k) = clsL c k := by
  unfold clsL divL
  rw [root_root hf hk]
theorem cls_range {c : Control} (hf : Fine c) {k : Int} (hk : 0 ≤ k ∧ k < countC c) : 0 ≤ clsL c k ∧ clsL c k < countC c := divL_range hf hk
theorem cls_lead {c : Control} (hf : Fine c) {k : Int} (hk : 0 ≤ k ∧ k < countC c) (hr : firstC c ≤ rootP c k) :
    ∃ m n : Nat, rootP c k = firstC c + n ∧ clsL c k = firstC c + m ∧ m ≤ n ∧ n < c.signals.length ∧ ownQ c m ∧ ownQ c n ∧ idK c (some (alikeC c)) m = idK c (some (alikeC c)) n := by
  have hrr := root_root hf hk
  have hrg := (root_range hf _ k (Nat.le_refl _) hk).1
  have hcf := count_first c
  obtain ⟨n, hn⟩ : ∃ n : Nat, rootP c k = firstC c + n := ⟨(rootP c k - firstC c).toNat, by omega⟩
  have ho : ownQ c n := by
    unfold ownQ
    rw [← hn]
    exact hrr
  obtain ⟨a, b, d, e⟩ := lead_spec c (some (alikeC c)) n
  refine ⟨leadN c (some (alikeC c)) n, n, hn, ?_, a, by omega, lead_own ho, ho, d⟩
  unfold clsL divL
  rw [if_neg (by omega), hn, show (firstC c + (n : Int) - firstC c).toNat = n by omega]
theorem cls_small {c : Control} (hf : Fine c) {k : Int} (hk : 0 ≤ k ∧ k < countC c) (hr : rootP c k < firstC c) : clsL c k = rootP c k := by
  unfold clsL divL
  rw [if_pos hr]
theorem cls_own {c : Control} (hf : Fine c) {k : Int} (hk : 0 ≤ k ∧ k < countC c) : rootP c (clsL c k) = clsL c k := by
  rcases Int.lt_or_le (rootP c k) (firstC c) with h | h
  · rw [cls_small hf hk h]
    exact root_root hf hk
  · obtain ⟨m, n, h1, h2, h3, h4, h5, h6, h7⟩ := cls_lead hf hk h
    rw [h2]
    exact h5
theorem cls_cls {c : Control} (hf : Fine c) {k : Int} (hk : 0 ≤ k ∧ k < countC c) : clsL c (clsL c k) = clsL c k := by
  have hr := cls_range hf hk
  rcases Int.lt_or_le (rootP c k) (firstC c) with h | h
  · have := cls_small hf hk h
    rw [this] at hr ⊢
    exact cls_low hf ⟨hr.1, h⟩
  · obtain ⟨m, n, h1, h2, h3, h4, h5, h6, h7⟩ := cls_lead hf hk h
    have ho : rootP c (clsL c k) = clsL c k := cls_own hf hk
    have e1 : clsL c (clsL c k) = firstC c + leadN c (some (alikeC c)) m := by
      show (if rootP c (clsL c k) < firstC c then rootP c (clsL c k) else firstC c + leadN c (some (alikeC c)) (rootP c (clsL c k) - firstC c).toNat) = _
      rw [ho, if_neg (by omega), h2, show (firstC c + (m : Int) - firstC c).toNat = m by omega]
    have e2 : clsL c k = firstC c + leadN c (some (alikeC c)) n := by
      unfold clsL divL
      rw [if_neg (by omega), h1, show (firstC c + (n : Int) - firstC c).toNat = n by omega]
    rw [e1, e2, lead_same h7 h5 h6]
theorem cls_le {c : Control} (hf : Fine c) {k : Int} (hk : 0 ≤ k ∧ k < countC c) (h : firstC c ≤ clsL c k) : firstC c ≤ rootP c k ∧ clsL c k ≤ rootP c k := by
  rcases Int.lt_or_le (rootP c k) (firstC c) with h1 | h1
  · rw [cls_small hf hk h1] at h
    omega
  · obtain ⟨m, n, h2, h3, h4, _⟩ := cls_lead hf hk h1
    omega
theorem class_id {c : Control} {o : Option (List Int)} {m n : Nat} {x y : Signal} (hx : c.signals[m]? = some x) (hy : c.signals[n]? = some y) (h : idK c o m = idK c o n) :
    x.kind = y.kind ∧ x.delay = y.delay ∧ x.init = y.init ∧ ∀ l, o = some l → l.getD (firstC c + m).toNat 0 = l.getD (firstC c + n).toNat 0 ∧ repE x.on l = repE y.on l ∧ repE x.off l = repE y.off l := by
  unfold idK at h
  rw [hx, hy, Option.map_some, Option.map_some, Option.some.injEq] at h
  unfold lookK at h
  rw [Look.mk.injEq] at h
  obtain ⟨h1, h2, h3, h4, h5, h6⟩ := h
  refine ⟨h1, h2, h3, ?_⟩
  rintro l rfl
  simp only [Option.map_some, Option.some.injEq] at h5 h6 h4
  exact ⟨h4, h5, h6⟩
def useL (c : Control) (k : Int) : List Int := match c.signals[(k - firstC c).toNat]? with
  | some x => usesL x
  | none => []
inductive Need (c : Control) : Int → Prop
  | pilot {p : Int} (h : p ∈ c.plus ∨ p ∈ c.minus) (h1 : firstC c ≤ clsL c p) : Need c (clsL c p)
  | use {k u : Int} (h : Need c k) (hu : u ∈ useL c k) (h1 : firstC c ≤ clsL c u) : Need c (clsL c u)
theorem met_uses {c : Control} (hf : Fine c) {i : Nat} {x : Signal} (hx : c.signals[i]? = some x) : ∀ u, u ∈ usesL x ↔ u ∈ varsE x.on ∨ u ∈ varsE x.off := by
  intro u
  unfold usesL
  rw [(comp_sorted (sortI_sorted _)).2]
  unfold sortI
  rw [List.mem_mergeSort, List.mem_append]
theorem uses_range {c : Control} (hf : Fine c) {i : Nat} {x : Signal} (hx : c.signals[i]? = some x) : ∀ u ∈ usesL x, 0 ≤ u ∧ u < countC c := by
  intro u hu
  rcases (met_uses hf hx u).1 hu with h | h
  · exact vars_check (hf.on hx).1 u h
  · exact (occ_off hf hx).2 u h
theorem use_range {c : Control} (hf : Fine c) {k u : Int} (hu : u ∈ useL c k) : 0 ≤ u ∧ u < countC c := by
  unfold useL at hu
  split at hu
  · rename_i x hx
    exact uses_range hf hx u hu
  · cases hu
def PilC (c : Control) : Prop := (c.plus.length : Int) = c.actuators ∧ (c.minus.length : Int) = c.actuators ∧ (∀ p ∈ c.plus, 0 ≤ p ∧ p < countC c) ∧ ∀ p ∈ c.minus, 0 ≤ p ∧ p < countC c
theorem need_range {c : Control} (hf : Fine c) (hp : PilC c) {k : Int} (h : Need c k) : firstC c ≤ k ∧ k < countC c := by
  cases h with
  | pilot h h1 =>
    refine ⟨h1, (cls_range hf ?_).2⟩
    rcases h with h | h
    · exact hp.2.2.1 _ h
    · exact hp.2.2.2 _ h
  | use h hu h1 => exact ⟨h1, (cls_range hf (use_range hf hu)).2⟩
theorem need_cls {c : Control} (hf : Fine c) (hp : PilC c) {k : Int} (h : Need c k) : clsL c k = k := by
  cases h with
  | pilot h h1 =>
    refine cls_cls hf ?_
    rcases h with h | h
    · exact hp.2.2.1 _ h
    · exact hp.2.2.2 _ h
  | use h hu h1 => exact cls_cls hf (use_range hf hu)
open Classical in
noncomputable def needL (c : Control) : List Int := metB (countC c).toNat fun k => decide (Need c k)
theorem mem_met {M : Nat} {p : Nat → Bool} {v : Int} : v ∈ metB M p ↔ ∃ k : Nat, v = k ∧ k < M ∧ p k = true := by
  unfold metB
  simp only [List.mem_map, List.mem_filter, List.mem_range]
  constructor
  · rintro ⟨k, ⟨h1, h2⟩, rfl⟩; exact ⟨k, rfl, h1, h2⟩
  · rintro ⟨k, rfl, h1, h2⟩; exact ⟨k, ⟨h1, h2⟩, rfl⟩
theorem mem_need {c : Control} (hf : Fine c) (hp : PilC c) {v : Int} : v ∈ needL c ↔ Need c v := by
  unfold needL
  rw [mem_met]
  constructor
  · rintro ⟨k, rfl, _, h⟩
    simpa using h
  · intro h
    have h1 := need_range hf hp h
    have := hf.f0
    refine ⟨v.toNat, by omega, by omega, ?_⟩
    rw [Int.toNat_of_nonneg (by omega)]
    simpa using h
theorem need_sorted (c : Control) : (needL c).Pairwise (· < ·) := metB_sorted _ _
theorem need_len {c : Control} (hf : Fine c) (hp : PilC c) : (needL c).length ≤ c.signals.length := by
  have h0 := hf.f0
  have hcf := count_first c
  have hm : ∀ (l : List Int) (a : Int) (n : Nat), l.Pairwise (· < ·) → (∀ v ∈ l, a ≤ v ∧ v < a + n) → l.length ≤ n := by
    intro l
    induction l with
    | nil => intro a n _ _; exact Nat.zero_le _
    | cons v l ih =>
      intro a n hl hv
      have h1 := hv v (by simp)
      have h2 := List.pairwise_cons.1 hl
      have h3 := ih (v + 1) (a + n - (v + 1)).toNat h2.2 (by
        intro w hw
        have h4 := h2.1 w hw
        have h5 := hv w (by simp [hw])
        omega)
      simp only [List.length_cons]
      omega
  refine hm _ (firstC c) _ (need_sorted c) ?_
  intro v hv
  have := need_range hf hp ((mem_need hf hp).1 hv)
  omega
end Go.Proofs.YtbcjnmifflflfaaGreatDoor
end

section
namespace Go.Proofs.YtbcjnmifflflfaaGreatDoor
set_option maxHeartbeats 1000000
set_option maxRecDepth 10000
theorem sorted_pos : ∀ {l : List Int}, l.Pairwise (· < ·) → ∀ {i : Nat} {v : Int}, l[i]? = some v → (l.filter fun w => decide (w < v)).length = i
  | [], _, i, v, h => by simp at h
  | a :: l, hl, 0, v, h => by
    simp at h
    subst h
    have h2 := (List.pairwise_cons.1 hl).1
    have : (a :: l).filter (fun w => decide (w < a)) = [] := by
      rw [List.filter_eq_nil_iff]
      intro w hw
      rcases List.mem_cons.1 hw with rfl | hw
      · simp
      · have := h2 w hw
        simp
        omega
    rw [this]
    rfl
  | a :: l, hl, i + 1, v, h => by
    simp at h
    have h2 := List.pairwise_cons.1 hl
    have h3 := h2.1 v (List.mem_of_getElem? h)
    rw [List.filter_cons, if_pos (by simpa using h3), List.length_cons, sorted_pos h2.2 h]
noncomputable def posN (c : Control) (k : Int) : Nat := ((needL c).filter fun w => decide (w < k)).length
theorem pos_at {c : Control} {i : Nat} {v : Int} (h : (needL c)[i]? = some v) : posN c v = i := sorted_pos (need_sorted c) h
theorem pos_need {c : Control} (hf : Fine c) (hp : PilC c) {k : Int} (h : Need c k) : (needL c)[posN c k]? = some k ∧ posN c k < (needL c).length := by
  obtain ⟨i, hi⟩ := List.getElem?_of_mem ((mem_need hf hp).2 h)
  rw [pos_at hi]
  exact ⟨hi, (List.getElem?_eq_some_iff.1 hi).1⟩
theorem pos_lt {c : Control} (hf : Fine c) (hp : PilC c) {k j : Int} (hk : Need c k) (hj : Need c j) (h : k < j) : posN c k < posN c j := by
  obtain ⟨a1, a2⟩ := pos_need hf hp hk
  obtain ⟨b1, b2⟩ := pos_need hf hp hj
  have hs := List.pairwise_iff_getElem.1 (need_sorted c)
  obtain ⟨_, a3⟩ := List.getElem?_eq_some_iff.1 a1
  obtain ⟨_, b3⟩ := List.getElem?_eq_some_iff.1 b1
  rcases Nat.lt_trichotomy (posN c k) (posN c j) with h1 | h1 | h1
  · exact h1
  · rw [h1] at a1
    rw [a1] at b1
    cases b1
    omega
  · have := hs _ _ b2 a2 h1
    omega
open Classical in
noncomputable def keepL (c : Control) (k : Int) : Int := if clsL c k < firstC c then clsL c k else if Need c (clsL c k) then firstC c + posN c (clsL c k) else noneV
noncomputable def keepP (c : Control) : List Int := (List.range (countC c).toNat).map fun k : Nat => keepL c k
theorem keep_at {c : Control} {k : Int} (hk : 0 ≤ k ∧ k < countC c) : (keepP c)[k.toNat]? = some (keepL c k) := by
  unfold keepP
  rw [List.getElem?_map, List.getElem?_range (by omega), Option.map_some, Int.toNat_of_nonneg hk.1]
theorem keep_getD {c : Control} {k : Int} (hk : 0 ≤ k ∧ k < countC c) : (keepP c).getD k.toNat 0 = keepL c k := by
  rw [List.getD_eq_getElem?_getD, keep_at hk]
  rfl
theorem keep_len {c : Control} (hf : Fine c) : ((keepP c).length : Int) = countC c := by
  have := hf.f0
  have := count_first c
  simp [keepP]
  omega
theorem keep_low {c : Control} (hf : Fine c) {k : Int} (hk : 0 ≤ k ∧ k < firstC c) : keepL c k = k := by
  unfold keepL
  rw [cls_low hf hk, if_pos hk.2]
def dummyS : Signal := ⟨[], 0, ⟨0, 0, []⟩, ⟨0, 0, []⟩, 0, false⟩
def sigAt (c : Control) (k : Int) : Signal := (c.signals[(k - firstC c).toNat]?).getD dummyS
noncomputable def redX (c : Control) (x : Signal) : Signal := { x with on := repE x.on (keepP c), off := repE x.off (keepP c) }
noncomputable def redC (c : Control) : Control := ⟨c.actuators, c.inputs, (needL c).map fun k => redX c (sigAt c k), c.plus.map (keepL c), c.minus.map (keepL c)⟩
theorem red_first (c : Control) : firstC (redC c) = firstC c := rfl
theorem red_count (c : Control) : countC (redC c) = firstC c + (needL c).length := by
  rw [count_first, red_first]
  simp [redC]
theorem red_count_le {c : Control} (hf : Fine c) (hp : PilC c) : countC (redC c) ≤ countC c := by
  have := need_len hf hp
  rw [red_count, count_first]
  omega
theorem need_sig {c : Control} (hf : Fine c) (hp : PilC c) {k : Int} (h : Need c k) : ∃ (n : Nat) (x : Signal), k = firstC c + n ∧ c.signals[n]? = some x ∧ ownQ c n ∧ sigAt c k = x ∧ useL c k = usesL x := by
  have hr := need_range hf hp h
  have hcf := count_first c
  obtain ⟨n, hn⟩ : ∃ n : Nat, k = firstC c + n := ⟨(k - firstC c).toNat, by omega⟩
  have hx : c.signals[n]? = some c.signals[n] := List.getElem?_eq_getElem (by omega)
  have e : (k - firstC c).toNat = n := by omega
  refine ⟨n, c.signals[n]'(by omega), hn, hx, ?_, ?_, ?_⟩
  · unfold ownQ
    rw [← hn]
    have := cls_own hf (k := k) ⟨by have := hf.f0; omega, hr.2⟩
    rwa [need_cls hf hp h] at this
  · unfold sigAt
    rw [e, hx]
    rfl
  · unfold useL
    rw [e, hx]
theorem red_sig {c : Control} (hf : Fine c) (hp : PilC c) {i : Nat} {y : Signal} (h : (redC c).signals[i]? = some y) :
    ∃ (k : Int) (n : Nat) (x : Signal), (needL c)[i]? = some k ∧ Need c k ∧ k = firstC c + n ∧ c.signals[n]? = some x ∧ y = redX c x ∧ ownQ c n ∧ posN c k = i ∧ useL c k = usesL x := by
  simp only [redC, List.getElem?_map, Option.map_eq_some_iff] at h
  obtain ⟨k, hk, rfl⟩ := h
  have hn : Need c k := (mem_need hf hp).1 (List.mem_of_getElem? hk)
  obtain ⟨n, x, h1, h2, h3, h4, h5⟩ := need_sig hf hp hn
  exact ⟨k, n, x, hk, hn, h1, h2, by rw [h4], h3, pos_at hk, h5⟩
theorem red_at {c : Control} (hf : Fine c) (hp : PilC c) {k : Int} (h : Need c k) : ∃ (n : Nat) (x : Signal), k = firstC c + n ∧ c.signals[n]? = some x ∧ (redC c).signals[posN c k]? = some (redX c x) := by
  obtain ⟨n, x, h1, h2, h3, h4, h5⟩ := need_sig hf hp h
  refine ⟨n, x, h1, h2, ?_⟩
  simp only [redC, List.getElem?_map, (pos_need hf hp h).1, Option.map_some, h4]
theorem keep_use {c : Control} (hf : Fine c) (hp : PilC c) {k u : Int} (h : Need c k) (hu : u ∈ useL c k) : 0 ≤ keepL c u ∧ keepL c u < countC (redC c) := by
  have hr := cls_range hf (use_range hf hu)
  have h0 := hf.f0
  rw [red_count]
  unfold keepL
  by_cases h1 : clsL c u < firstC c
  · rw [if_pos h1]
    omega
  · have hn : Need c (clsL c u) := .use h hu (by omega)
    rw [if_neg h1, if_pos hn]
    have := (pos_need hf hp hn).2
    omega
theorem keep_pilot {c : Control} (hf : Fine c) (hp : PilC c) {p : Int} (h : p ∈ c.plus ∨ p ∈ c.minus) : 0 ≤ keepL c p ∧ keepL c p < countC (redC c) := by
  have hr : 0 ≤ p ∧ p < countC c := by
    rcases h with h | h
    · exact hp.2.2.1 _ h
    · exact hp.2.2.2 _ h
  have hr2 := cls_range hf hr
  have h0 := hf.f0
  rw [red_count]
  unfold keepL
  by_cases h1 : clsL c p < firstC c
  · rw [if_pos h1]
    omega
  · have hn : Need c (clsL c p) := .pilot h (by omega)
    rw [if_neg h1, if_pos hn]
    have := (pos_need hf hp hn).2
    omega
theorem none_neg : noneV < 0 := by decide
theorem keep_range {c : Control} (hf : Fine c) (hp : PilC c) {k : Int} (hk : 0 ≤ k ∧ k < countC c) : keepL c k = noneV ∨ 0 ≤ keepL c k ∧ keepL c k < countC (redC c) := by
  have hr2 := cls_range hf hk
  have h0 := hf.f0
  rw [red_count]
  unfold keepL
  by_cases h1 : clsL c k < firstC c
  · rw [if_pos h1]
    right
    omega
  · rw [if_neg h1]
    by_cases hn : Need c (clsL c k)
    · rw [if_pos hn]
      have := (pos_need hf hp hn).2
      right
      omega
    · rw [if_neg hn]
      exact .inl rfl
theorem vars_rep {n : Int} (l : List Int) : ∀ (N : Nat) (x : Expr), SizeOf.sizeOf x < N → RightE n x → varsE (repE x l) = (varsE x).map fun u => l.getD u.toNat 0
  | 0, _, h, _ => absurd h (Nat.not_lt_zero _)
  | N + 1, x, hN, hr => by
    have hL : ∀ xs : List Expr, (∀ y ∈ xs, y ∈ x.args) → varsL (repL xs l) = (varsL xs).map fun u => l.getD u.toNat 0 := by
      intro xs
      induction xs with
      | nil => intro _; rfl
      | cons y xs ih =>
        intro h
        have hy := h y (by simp)
        simp only [repL, varsL, List.map_append]
        rw [vars_rep l N y (by have := Expr.lt_of_mem hy; omega) (hr.args y hy), ih fun z hz => h z (by simp [hz])]
    rw [repE_eq]
    by_cases ho : x.op = 1
    · rw [if_pos ho, varsE_eq, varsE_eq x, node_var hr.node ho]
      simp [ho, varsL]
    · rw [if_neg ho, varsE_eq, varsE_eq x]
      simp only [if_neg ho, List.nil_append]
      exact hL x.args fun _ h => h
theorem right_rep {n m : Int} {l : List Int} : ∀ (N : Nat) (x : Expr), SizeOf.sizeOf x < N → RightE n x → (∀ u ∈ varsE x, 0 ≤ l.getD u.toNat 0 ∧ l.getD u.toNat 0 < m) → RightE m (repE x l)
  | 0, _, h, _, _ => absurd h (Nat.not_lt_zero _)
  | N + 1, x, hN, hr, hu => by
    rw [repE_eq]
    by_cases ho : x.op = 1
    · rw [if_pos ho]
      have h1 := hu x.index (by rw [varsE_eq]; simp [ho])
      refine .mk _ ?_ (by intro a ha; cases ha)
      unfold nodeR
      generalize l.getD x.index.toNat 0 = v at *
      simp
      omega
    · rw [if_neg ho]
      refine .mk _ ?_ ?_
      · have h1 := hr.node
        unfold nodeR at h1 ⊢
        simp only [repL_map, List.length_map]
        simp only [if_neg ho] at h1 ⊢
        exact h1
      · intro a ha
        simp only [repL_map, List.mem_map] at ha
        obtain ⟨y, hy, rfl⟩ := ha
        refine right_rep N y (by have := Expr.lt_of_mem hy; omega) (hr.args y hy) ?_
        intro u huy
        refine hu u ?_
        rw [varsE_eq]
        exact List.mem_append.2 (.inr (varsL_mem huy hy))
mutual
theorem nd_right {n : Int} : ∀ x : Expr, RightE n x → ∀ y ∈ ndE x, nodeR y n = 0
  | ⟨op, ix, args⟩, h, y, hy => by
    simp only [ndE, List.mem_cons] at hy
    rcases hy with rfl | hy
    · exact h.node
    · exact ndL_right args h.args y hy
theorem ndL_right {n : Int} : ∀ l : List Expr, (∀ x ∈ l, RightE n x) → ∀ y ∈ ndL l, nodeR y n = 0
  | [], _, y, hy => by simp [ndL] at hy
  | x :: xs, h, y, hy => by
    simp only [ndL, List.mem_append] at hy
    rcases hy with hy | hy
    · exact nd_right x (h x (by simp)) y hy
    · exact ndL_right xs (fun z hz => h z (by simp [hz])) y hy
end
theorem check_of {x : Expr} {n : Int} (hn : 0 ≤ n ∧ n ≤ 256) (hs : szE x ≤ 256) (hd : dpE x ≤ 16) (hr : RightE n x) : checkE x n = 0 := by
  unfold checkE
  rw [if_neg (by omega)]
  obtain ⟨s, hm⟩ := (meas_iff x).2 ⟨hs, hd⟩
  rw [hm]
  have h := firstErr_app (fun y => nodeR y n) (ndE x) [] (nd_right x hr)
  have h2 := nodeFold n (preE x 1)
  rw [(preE_all x 1 (by omega)).1] at h2
  simp only [List.append_nil, firstErr] at h
  rw [h] at h2
  exact h2
theorem check_rep {x : Expr} {n m : Int} {l : List Int} (h : checkE x n = 0) (hm : 0 ≤ m ∧ m ≤ 256) (hu : ∀ u ∈ varsE x, 0 ≤ l.getD u.toNat 0 ∧ l.getD u.toNat 0 < m) : checkE (repE x l) m = 0 := by
  have hr := (right_of_check h).1
  have h1 := rep_size l _ x (Nat.lt_succ_self _) hr
  have h2 := (light_iff x).1 (light_check h)
  exact check_of hm (by omega) (by omega) (right_rep _ x (Nat.lt_succ_self _) hr hu)
theorem ok_rep {n : Int} {l : List Int} : ∀ (N : Nat) (x : Expr), SizeOf.sizeOf x < N → RightE n x → (okX x l = true ↔ ∀ u ∈ varsE x, l.getD u.toNat 0 ≠ noneV)
  | 0, _, h, _ => absurd h (Nat.not_lt_zero _)
  | N + 1, x, hN, hr => by
    have hL : ∀ xs : List Expr, (∀ y ∈ xs, y ∈ x.args) → (okXs xs l = true ↔ ∀ u ∈ varsL xs, l.getD u.toNat 0 ≠ noneV) := by
      intro xs
      induction xs with
      | nil => intro _; simp [okXs, varsL]
      | cons y xs ih =>
        intro h
        have hy := h y (by simp)
        simp only [okXs, varsL, Bool.and_eq_true, List.mem_append]
        rw [ok_rep N y (by have := Expr.lt_of_mem hy; omega) (hr.args y hy), ih fun z hz => h z (by simp [hz])]
        constructor
        · rintro ⟨h1, h2⟩ u (h3 | h3)
          · exact h1 u h3
          · exact h2 u h3
        · intro h3
          exact ⟨fun u hu => h3 u (.inl hu), fun u hu => h3 u (.inr hu)⟩
    rw [okX_eq, varsE_eq]
    by_cases ho : x.op = 1
    · rw [node_var hr.node ho]
      simp [ho, varsL]
    · simp only [if_neg ho, List.nil_append]
      exact hL x.args fun _ h => h
theorem zero_rep {x : Expr} (h : zeroE x = true) (l : List Int) : repE x l = x := by
  simp [zeroE] at h
  obtain ⟨⟨h1, h2⟩, h3⟩ := h
  rw [repE_eq, if_neg (by omega), h3]
  cases x
  simp at h3
  simp [repL, h3]
end Go.Proofs.YtbcjnmifflflfaaGreatDoor
end

section
namespace Go.Proofs.YtbcjnmifflflfaaGreatDoor
set_option maxHeartbeats 1000000
set_option maxRecDepth 10000
theorem chk_parts {c : Control} (h : checkC c = 0) : (1 ≤ c.actuators ∧ c.actuators ≤ 6) ∧ (c.inputs.length ≤ 16 ∧ c.signals.length ≤ 64) ∧ (∀ i, i < c.inputs.length → inpE c i = 0) ∧ (∀ i, i < c.signals.length → sigE c i = 0) ∧ pilotE c = 0 := by
  unfold checkC at h
  split at h
  · cases h
  · split at h
    · cases h
    · split at h
      · rename_i h1; exact absurd h h1
      · split at h
        · rename_i h1; exact absurd h h1
        · rename_i h1 h2 h3 h4
          exact ⟨by omega, by omega, firstErr_zero (Classical.not_not.1 h3), firstErr_zero (Classical.not_not.1 h4), h⟩
theorem chk_of {c : Control} (h1 : 1 ≤ c.actuators ∧ c.actuators ≤ 6) (h2 : c.inputs.length ≤ 16 ∧ c.signals.length ≤ 64) (h3 : ∀ i, i < c.inputs.length → inpE c i = 0) (h4 : ∀ i, i < c.signals.length → sigE c i = 0) (h5 : pilotE c = 0) : checkC c = 0 := by
  unfold checkC
  rw [if_neg (by omega), if_neg (by omega), firstErr_all h3, firstErr_all h4]
  simpa using h5
theorem sig_parts {c : Control} {i : Int} {s : Signal} {names : List (List UInt8)} (h : signalE c i s names = 0) :
    nameE s.name names = 0 ∧ (0 ≤ s.kind ∧ s.kind < 3) ∧ checkE s.on (countC c) = 0 ∧ (s.kind = 0 → lateC c i s.on = false ∧ zeroE s.off = true ∧ s.init = false ∧ s.delay = 0) ∧ (s.kind = 1 → checkE s.off (countC c) = 0 ∧ s.delay = 0) ∧ (s.kind = 2 → (1 ≤ s.delay ∧ s.delay ≤ 1000000) ∧ zeroE s.off = true ∧ s.init = false) := by
  unfold signalE at h
  split at h
  · rename_i h1; exact absurd h h1
  · rename_i h1
    split at h
    · cases h
    · rename_i h2
      split at h
      · rename_i h3; exact absurd h h3
      · rename_i h3
        refine ⟨Classical.not_not.1 h1, by omega, Classical.not_not.1 h3, fun k => ?_, fun k => ?_, fun k => ?_⟩
        · rw [if_pos k] at h
          unfold gateE at h
          split at h
          · cases h
          · rename_i h4
            split at h
            · cases h
            · rename_i h5
              simp at h4 h5
              exact ⟨h4, h5.1.1, h5.1.2, h5.2⟩
        · rw [if_neg (by omega), if_pos k] at h
          unfold memE at h
          split at h
          · rename_i h4; exact absurd h h4
          · rename_i h4
            split at h
            · cases h
            · rename_i h5
              exact ⟨Classical.not_not.1 h4, Classical.not_not.1 h5⟩
        · rw [if_neg (by omega), if_neg (by omega)] at h
          unfold timE at h
          split at h
          · cases h
          · split at h
            · cases h
            · rename_i h4 h5
              simp at h5
              exact ⟨by omega, h5.1, h5.2⟩
theorem sig_of {c : Control} {i : Int} {s : Signal} {names : List (List UInt8)} (h1 : nameE s.name names = 0) (h2 : 0 ≤ s.kind ∧ s.kind < 3) (h3 : checkE s.on (countC c) = 0) (h4 : s.kind = 0 → lateC c i s.on = false ∧ zeroE s.off = true ∧ s.init = false ∧ s.delay = 0)
    (h5 : s.kind = 1 → checkE s.off (countC c) = 0 ∧ s.delay = 0) (h6 : s.kind = 2 → (1 ≤ s.delay ∧ s.delay ≤ 1000000) ∧ zeroE s.off = true ∧ s.init = false) : signalE c i s names = 0 := by
  unfold signalE
  rw [if_neg (by rw [h1]; simp), if_neg (by omega), if_neg (by rw [h3]; simp)]
  by_cases k0 : s.kind = 0
  · rw [if_pos k0]
    obtain ⟨a, b, d, e⟩ := h4 k0
    unfold gateE
    simp [a, b, d, e]
  · rw [if_neg k0]
    by_cases k1 : s.kind = 1
    · rw [if_pos k1]
      obtain ⟨a, b⟩ := h5 k1
      unfold memE
      simp [a, b]
    · rw [if_neg k1]
      obtain ⟨a, b, d⟩ := h6 (by omega)
      unfold timE
      rw [if_neg (by omega)]
      simp [b, d]
theorem name_parts {s : List UInt8} {names : List (List UInt8)} (h : nameE s names = 0) : wordS s ≠ false ∧ s.length ≤ 24 ∧ s ∉ names := by
  unfold nameE at h
  split at h
  · cases h
  · rename_i h1
    split at h
    · cases h
    · rename_i h2
      split at h
      · cases h
      · rename_i h3
        exact ⟨h1, by omega, h3⟩
theorem name_of {s : List UInt8} {names : List (List UInt8)} (h1 : wordS s ≠ false) (h2 : s.length ≤ 24) (h3 : s ∉ names) : nameE s names = 0 := by
  unfold nameE
  rw [if_neg h1, if_neg (by omega), if_neg h3]
theorem root_far {c : Control} (hf : Fine c) : ∀ (k : Nat) (l : Int), farL c l ≤ k → 0 ≤ l ∧ l < countC c → farL c (rootP c l) ≤ farL c l := by
  intro k
  induction k with
  | zero =>
    intro l hk hl
    have := far_zero hf.f0 (by omega) hl.2
    rw [root_step hf hl, if_neg (by simp [this])]
    exact Nat.le_refl _
  | succ k ih =>
    intro l hk hl
    rw [root_step hf hl]
    by_cases h : (repP c l).2 = true
    · rw [if_pos h]
      obtain ⟨a, b, d⟩ := rep_far hf hl h
      have := ih _ (by omega) ⟨a, b⟩
      omega
    · rw [if_neg h]
      exact Nat.le_refl _
theorem kindAt_sig {c : Control} {n : Nat} {x : Signal} (h : c.signals[n]? = some x) : kindAt c n = x.kind := by
  unfold kindAt
  rw [Int.toNat_natCast, h]
  rfl
theorem gate_before {c : Control} (hf : Fine c) {n : Nat} {x : Signal} (hx : c.signals[n]? = some x) (hk : x.kind = 0) {u : Int} (hu : u ∈ varsE x.on) (h1 : firstC c ≤ clsL c u) (h2 : kindAt c (clsL c u - firstC c) = 0) : clsL c u < firstC c + n := by
  have hur := vars_check (hf.on hx).1 u hu
  have hcf := count_first c
  have h0 := hf.f0
  obtain ⟨hr, _⟩ := cls_le hf hur h1
  obtain ⟨m, n', a1, a2, a3, a4, a5, a6, a7⟩ := cls_lead hf hur hr
  have hxm : c.signals[m]? = some c.signals[m] := List.getElem?_eq_getElem (by omega)
  have hxn : c.signals[n']? = some c.signals[n'] := List.getElem?_eq_getElem (by omega)
  have hid := class_id hxm hxn a7
  rw [a2, show firstC c + (m : Int) - firstC c = m by omega, kindAt_sig hxm] at h2
  have hfar := root_far hf _ u (Nat.le_refl _) hur
  have h3 : farL c (rootP c u) = n' + 1 := by
    unfold farL
    rw [if_pos ⟨by omega, by rw [a1, show firstC c + (n' : Int) - firstC c = n' by omega, kindAt_sig hxn, ← hid.1]; exact h2⟩, a1]
    omega
  have h4 : firstC c ≤ u ∧ kindAt c (u - firstC c) = 0 ∧ farL c u = (u - firstC c).toNat + 1 := by
    by_cases h : firstC c ≤ u ∧ kindAt c (u - firstC c) = 0
    · exact ⟨h.1, h.2, by unfold farL; rw [if_pos h]⟩
    · unfold farL at hfar
      rw [if_neg h] at hfar
      unfold farL at h3
      omega
  rcases late_not hf hx hk u hu with h | h
  · omega
  · exact absurd h4.2.1 h
theorem kind_red {c : Control} (hf : Fine c) (hp : PilC c) {k : Int} (h : Need c k) : kindAt (redC c) (posN c k) = kindAt c (k - firstC c) := by
  obtain ⟨n, x, h1, h2, h3⟩ := red_at hf hp h
  rw [kindAt_sig h3, h1, show firstC c + (n : Int) - firstC c = n by omega, kindAt_sig h2]
  rfl
theorem named_low {c : Control} {k : Int} (hk : k < firstC c) : namedC (redC c) k = namedC c k := by
  unfold namedC
  rw [red_first]
  simp only [redC, hk, if_true]
theorem mem_names {c : Control} {n : Nat} {s : List UInt8} : s ∈ namesB c n ↔ ∃ j : Nat, j < n ∧ namedC c j = s := by
  unfold namesB
  simp
theorem red_names {c : Control} (hf : Fine c) (hp : PilC c) {k : Int} (h : Need c k) {s : List UInt8} (hs : s ∈ namesB (redC c) (2 * c.actuators.toNat + c.inputs.length + posN c k)) : s ∈ namesB c (2 * c.actuators.toNat + c.inputs.length + (k - firstC c).toNat) := by
  have hact := hf.act
  have hfd : firstC c = 2 * c.actuators + c.inputs.length := rfl
  have hkr := need_range hf hp h
  obtain ⟨j, hj, rfl⟩ := mem_names.1 hs
  rcases Int.lt_or_le (j : Int) (firstC c) with h1 | h1
  · exact mem_names.2 ⟨j, by omega, (named_low h1).symm⟩
  · obtain ⟨i, hi⟩ : ∃ i : Nat, (j : Int) = firstC c + i := ⟨((j : Int) - firstC c).toNat, by omega⟩
    have hip : i < posN c k := by omega
    have hpl := (pos_need hf hp h).2
    obtain ⟨k', hk'⟩ : ∃ k', (needL c)[i]? = some k' := ⟨_, List.getElem?_eq_getElem (by omega)⟩
    have hn' : Need c k' := (mem_need hf hp).1 (List.mem_of_getElem? hk')
    have hpos := pos_at hk'
    obtain ⟨n, x, e1, e2, e3⟩ := red_at hf hp hn'
    rw [hpos] at e3
    have hlt : k' < k := by
      rcases Int.lt_trichotomy k' k with h2 | h2 | h2
      · exact h2
      · subst h2; omega
      · have := pos_lt hf hp h hn' h2
        omega
    have e4 : namedC (redC c) j = x.name := by
      have := named_sig (c := redC c) (k := (j : Int)) (s := redX c x) (by rw [red_first]; omega) (by rw [red_first]; simp [redC]; omega) (by rw [red_first, show ((j : Int) - firstC c).toNat = i by omega]; exact e3)
      rw [this]
      rfl
    have e5 : namedC c k' = x.name := named_sig (by omega) (by omega) (by rw [e1, show (firstC c + (n : Int) - firstC c).toNat = n by omega]; exact e2)
    refine mem_names.2 ⟨k'.toNat, by omega, ?_⟩
    rw [Int.toNat_of_nonneg (by omega), e5, e4]
theorem count_le {c : Control} (hf : Fine c) : countC c ≤ 92 := by
  have := hf.act
  have := hf.inp
  have := hf.sig
  unfold countC
  omega
theorem red_check {c : Control} (hz : checkC c = 0) (hp : PilC c) : checkC (redC c) = 0 := by
  have hf := fine_of hz
  obtain ⟨p1, p2, p3, p4, p5⟩ := chk_parts hz
  have hact := hf.act
  have h0 := hf.f0
  have hfd : firstC c = 2 * c.actuators + c.inputs.length := rfl
  have hnl := need_len hf hp
  have hrc : 0 ≤ countC (redC c) ∧ countC (redC c) ≤ 256 := by
    have := red_count_le hf hp
    have := count_le hf
    have := red_count c
    omega
  refine chk_of p1 ⟨p2.1, ?_⟩ ?_ ?_ ?_
  · simp [redC]
    omega
  · intro i hi
    have hi' : i < c.inputs.length := hi
    have := p3 i hi'
    have ha : (redC c).actuators = c.actuators := rfl
    unfold inpE at this ⊢
    have e1 : namedC (redC c) ((2 * (redC c).actuators.toNat + i : Nat) : Int) = namedC c ((2 * c.actuators.toNat + i : Nat) : Int) := named_low (by omega)
    have e2 : namesB (redC c) (2 * (redC c).actuators.toNat + i) = namesB c (2 * c.actuators.toNat + i) := by
      unfold namesB
      apply List.map_congr_left
      intro k hk
      have hk2 : k < 2 * c.actuators.toNat + i := List.mem_range.1 hk
      exact named_low (by omega)
    rw [e1, e2]
    exact this
  · intro i hi
    have hy : (redC c).signals[i]? = some (redC c).signals[i] := List.getElem?_eq_getElem hi
    generalize (redC c).signals[i] = y at *
    obtain ⟨k, n, x, e1, e2, e3, e4, e5, e6, e7, e8⟩ := red_sig hf hp hy
    unfold sigE
    rw [hy]
    simp only
    obtain ⟨s1, s2, s3, s4, s5, s6⟩ := sig_parts (hf.sigs n x e4)
    have hon : ∀ u ∈ varsE x.on, 0 ≤ (keepP c).getD u.toNat 0 ∧ (keepP c).getD u.toNat 0 < countC (redC c) := by
      intro u hu
      rw [keep_getD (vars_check s3 u hu)]
      exact keep_use hf hp e2 (by rw [e8]; exact (met_uses hf e4 u).2 (.inl hu))
    subst e5
    refine sig_of ?_ s2 (check_rep s3 hrc hon) (fun hk => ?_) (fun hk => ?_) (fun hk => ?_)
    · obtain ⟨a1, a2, a3⟩ := name_parts s1
      refine name_of a1 a2 fun hm => a3 ?_
      have := red_names hf hp e2 (s := x.name) (by rw [e7]; exact hm)
      rwa [show (k - firstC c).toNat = n by omega] at this
    · obtain ⟨a1, a2, a3, a4⟩ := s4 hk
      refine ⟨?_, by show zeroE (repE x.off (keepP c)) = true; rw [zero_rep a2]; exact a2, a3, a4⟩
      rw [lateC_any]
      rw [List.any_eq_false]
      intro v hv
      have hv' : v ∈ varsE (repE x.on (keepP c)) := hv
      rw [vars_rep (keepP c) _ x.on (Nat.lt_succ_self _) (right_of_check s3).1] at hv'
      obtain ⟨u, hu, rfl⟩ := List.mem_map.1 hv'
      have hur := vars_check s3 u hu
      rw [keep_getD hur, red_first]
      simp only [Bool.and_eq_true, decide_eq_true_eq, beq_iff_eq, not_and]
      intro h1 h2
      unfold keepL at h1 h2
      by_cases h3 : clsL c u < firstC c
      · rw [if_pos h3] at h1
        omega
      · have hn : Need c (clsL c u) := .use e2 (by rw [e8]; exact (met_uses hf e4 u).2 (.inl hu)) (by omega)
        rw [if_neg h3, if_pos hn] at h1 h2
        rw [show firstC c + (posN c (clsL c u) : Int) - firstC c = posN c (clsL c u) by omega, kind_red hf hp hn] at h2
        have h4 := gate_before hf e4 hk hu (by omega) h2
        have h5 := pos_lt hf hp hn e2 (by omega)
        omega
    · obtain ⟨a1, a2⟩ := s5 hk
      refine ⟨check_rep a1 hrc fun u hu => ?_, a2⟩
      rw [keep_getD (vars_check a1 u hu)]
      exact keep_use hf hp e2 (by rw [e8]; exact (met_uses hf e4 u).2 (.inr hu))
    · obtain ⟨a1, a2, a3⟩ := s6 hk
      exact ⟨a1, by show zeroE (repE x.off (keepP c)) = true; rw [zero_rep a2]; exact a2, a3⟩
  · unfold pilotE
    have e1 : ((redC c).plus.length : Int) = (redC c).actuators := by simp [redC]; exact hp.1
    have e2 : ((redC c).minus.length : Int) = (redC c).actuators := by simp [redC]; exact hp.2.1
    rw [if_neg (by omega), if_neg]
    simp only [List.any_append, Bool.or_eq_true, List.any_eq_true, decide_eq_true_eq, not_or, not_exists, not_and]
    refine ⟨fun v hv => ?_, fun v hv => ?_⟩
    · have hv' : v ∈ c.plus.map (keepL c) := hv
      obtain ⟨p, h1, rfl⟩ := List.mem_map.1 hv'
      have := keep_pilot hf hp (.inl h1)
      omega
    · have hv' : v ∈ c.minus.map (keepL c) := hv
      obtain ⟨p, h1, rfl⟩ := List.mem_map.1 hv'
      have := keep_pilot hf hp (.inr h1)
      omega
end Go.Proofs.YtbcjnmifflflfaaGreatDoor
end

section
namespace Go.Proofs.YtbcjnmifflflfaaGreatDoor
set_option maxHeartbeats 4000000
set_option maxRecDepth 10000
def OkO (c : Control) (o : Option (List Int)) : Prop := ∀ l, o = some l → (l.length : Int) = countC c ∧ ∀ v ∈ l, I64 v
theorem zero_right {x : Expr} (h : zeroE x = true) (n : Int) : RightE n x := by
  simp [zeroE] at h
  obtain ⟨⟨h1, h2⟩, h3⟩ := h
  refine .mk x ?_ (by rw [h3]; intro a ha; cases ha)
  unfold nodeR
  simp [h1, h2, h3]
theorem sig_right {c : Control} (hf : Fine c) {i : Nat} {x : Signal} (hx : c.signals[i]? = some x) : RightE (countC c) x.on ∧ RightE (countC c) x.off := by
  have ho := hf.on hx
  refine ⟨(right_of_check ho.1).1, ?_⟩
  have h := hf.sigs i x hx
  unfold signalE at h
  split at h
  · rename_i h1; exact absurd h h1
  · split at h
    · cases h
    · split at h
      · rename_i h1; exact absurd h h1
      · split at h
        · refine zero_right ?_ _
          cases hz : zeroE x.off
          · unfold gateE at h
            split at h
            · cases h
            · simp [hz] at h
          · rfl
        · split at h
          · unfold memE at h
            split at h
            · rename_i h1; exact absurd h h1
            · rename_i h1; exact (right_of_check (Classical.not_not.1 h1)).1
          · refine zero_right ?_ _
            cases hz : zeroE x.off
            · unfold timE at h
              split at h
              · cases h
              · simp [hz] at h
            · rfl
end Go.Proofs.YtbcjnmifflflfaaGreatDoor
end

section
namespace Go.Proofs.YtbcjnmifflflfaaGreatDoor
set_option maxHeartbeats 1000000
set_option maxRecDepth 10000
def frameB (a b : Control) (ks : List Int) : Bool := a.actuators == b.actuators && decide (a.inputs = b.inputs) && (List.range (firstC a).toNat).all (fun k : Nat => ks.getD k 0 == k) &&
  (List.range a.actuators.toNat).all fun i : Nat => ks.getD (a.plus.getD i 0).toNat 0 == b.plus.getD i 0 && ks.getD (a.minus.getD i 0).toNat 0 == b.minus.getD i 0
def fitX (a b : Control) (ks : List Int) (x : Signal) (y : Int) : Bool :=
  if y = noneV then true else if x.kind = 0 ∧ x.on.op = 1 ∧ ks.getD x.on.index.toNat 0 = y then true else if y < firstC b then false else match b.signals[(y - firstC b).toNat]? with
    | none => false
    | some z => okX x.on ks && okX x.off ks && x.kind == z.kind && x.delay == z.delay && x.init == z.init && eqE (repE x.on ks) z.on && eqE (repE x.off ks) z.off
def fitB (a b : Control) (ks : List Int) (i : Nat) : Bool := match a.signals[i]? with
  | none => true
  | some x => fitX a b ks x (ks.getD (firstC a + i).toNat 0)
def farB (b : Control) (k : Int) : Bool := decide (k ≠ noneV) && (decide (k < 0) || decide (countC b ≤ k))
def provesB (a b : Control) (ks : List Int) : Bool := frameB a b ks && (List.range a.signals.length).all (fitB a b ks)
def verifyQ (a b : Control) (ks : List Int) : Int :=
  if checkC a ≠ 0 then checkC a else if checkC b ≠ 0 then checkC b else if (ks.length : Int) ≠ countC a then 8 else if ks.any (farB b) = true then 2 else if provesB a b ks = true then 0 else 15
theorem rep_lift {n : Int} {l1 l2 : List Int} : ∀ (N : Nat) (x y : Expr), SizeOf.sizeOf x < N → RightE n x → RightE n y → (∀ u ∈ varsE x, ∀ v ∈ varsE y, l1.getD u.toNat 0 = l1.getD v.toNat 0 → l2.getD u.toNat 0 = l2.getD v.toNat 0) → repE x l1 = repE y l1 → repE x l2 = repE y l2
  | 0, _, _, h, _, _, _, _ => absurd h (Nat.not_lt_zero _)
  | N + 1, x, y, hN, hx, hy, hu, he => by
    have hL : ∀ xs ys : List Expr, (∀ z ∈ xs, z ∈ x.args) → (∀ z ∈ ys, z ∈ y.args) → repL xs l1 = repL ys l1 → repL xs l2 = repL ys l2 := by
      intro xs
      induction xs with
      | nil =>
        intro ys _ _ h
        cases ys with
        | nil => rfl
        | cons z ys => simp [repL] at h
      | cons z xs ih =>
        intro ys h1 h2 h
        cases ys with
        | nil => simp [repL] at h
        | cons w ys =>
          simp only [repL, List.cons.injEq] at h ⊢
          have hz := h1 z (by simp)
          have hw := h2 w (by simp)
          refine ⟨rep_lift N z w (by have := Expr.lt_of_mem hz; omega) (hx.args z hz) (hy.args w hw) (fun u huz v hvw => hu u ?_ v ?_) h.1, ih ys (fun a ha => h1 a (by simp [ha])) (fun a ha => h2 a (by simp [ha])) h.2⟩
          · rw [varsE_eq]; exact List.mem_append.2 (.inr (varsL_mem huz hz))
          · rw [varsE_eq]; exact List.mem_append.2 (.inr (varsL_mem hvw hw))
    rw [repE_eq x l1, repE_eq y l1] at he
    rw [repE_eq x l2, repE_eq y l2]
    by_cases ho : x.op = 1 <;> by_cases ho' : y.op = 1
    · rw [if_pos ho, if_pos ho'] at he ⊢
      simp at he
      have := hu x.index (by rw [varsE_eq]; simp [ho]) y.index (by rw [varsE_eq]; simp [ho']) (by simpa using he)
      rw [this]
    · rw [if_pos ho, if_neg ho'] at he
      simp at he
      exact absurd he.1.symm ho'
    · rw [if_neg ho, if_pos ho'] at he
      simp at he
      exact absurd he.1 ho
    · rw [if_neg ho, if_neg ho'] at he ⊢
      simp at he ⊢
      exact ⟨he.1, he.2.1, hL _ _ (fun _ h => h) (fun _ h => h) he.2.2⟩
theorem keep_same {c : Control} {u v : Int} (h : clsL c u = clsL c v) : keepL c u = keepL c v := by
  unfold keepL
  rw [h]
theorem rep_keep {c : Control} (hf : Fine c) {x y : Expr} (hx : RightE (countC c) x) (hy : RightE (countC c) y) (hvx : ∀ u ∈ varsE x, 0 ≤ u ∧ u < countC c) (hvy : ∀ u ∈ varsE y, 0 ≤ u ∧ u < countC c) (h : repE x (alikeC c) = repE y (alikeC c)) : repE x (keepP c) = repE y (keepP c) := by
  refine rep_lift _ x y (Nat.lt_succ_self _) hx hy (fun u hu v hv e => ?_) h
  rw [cls_getD hf (hvx u hu), cls_getD hf (hvy v hv)] at e
  rw [keep_getD (hvx u hu), keep_getD (hvy v hv), keep_same e]
theorem ok_keep {c : Control} (hf : Fine c) {x y : Expr} (hx : RightE (countC c) x) (hy : RightE (countC c) y) (hvx : ∀ u ∈ varsE x, 0 ≤ u ∧ u < countC c) (hvy : ∀ u ∈ varsE y, 0 ≤ u ∧ u < countC c) (h : repE x (alikeC c) = repE y (alikeC c)) (hk : ∀ u ∈ varsE y, keepL c u ≠ noneV) : okX x (keepP c) = true := by
  rw [ok_rep _ x (Nat.lt_succ_self _) hx]
  intro u hu
  rw [keep_getD (hvx u hu)]
  have h1 := vars_rep (alikeC c) _ x (Nat.lt_succ_self _) hx
  have h2 := vars_rep (alikeC c) _ y (Nat.lt_succ_self _) hy
  rw [h, h2] at h1
  have h3 : (alikeC c).getD u.toNat 0 ∈ (varsE y).map fun u => (alikeC c).getD u.toNat 0 := by
    rw [h1]
    exact List.mem_map.2 ⟨u, hu, rfl⟩
  obtain ⟨v, hv, e⟩ := List.mem_map.1 h3
  rw [cls_getD hf (hvx u hu), cls_getD hf (hvy v hv)] at e
  rw [← keep_same e]
  exact hk v hv
theorem off_range {c : Control} (hf : Fine c) {n : Nat} {x : Signal} (hx : c.signals[n]? = some x) : ∀ u ∈ varsE x.off, 0 ≤ u ∧ u < countC c := (occ_off hf hx).2
theorem red_fit {c : Control} (hz : checkC c = 0) (hp : PilC c) {i : Nat} (hi : i < c.signals.length) : fitB c (redC c) (keepP c) i = true := by
  have hf := fine_of hz
  have h0 := hf.f0
  have hcf := count_first c
  have hx : c.signals[i]? = some c.signals[i] := List.getElem?_eq_getElem hi
  generalize c.signals[i] = x at *
  have hkr : 0 ≤ firstC c + (i : Int) ∧ firstC c + (i : Int) < countC c := by omega
  unfold fitB
  rw [hx]
  simp only
  rw [keep_getD hkr]
  unfold fitX
  by_cases h1 : keepL c (firstC c + i) = noneV
  · rw [if_pos h1]
  · rw [if_neg h1]
    have hrep : repP c (firstC c + i) = (x.on.index, x.kind == 0 && x.on.op == 1) := by
      unfold repP
      rw [if_neg (by omega), show (firstC c + (i : Int) - firstC c).toNat = i by omega, hx]
    have hst := root_step hf hkr
    rw [hrep] at hst
    by_cases h2 : x.kind = 0 ∧ x.on.op = 1
    · have hix := vars_check (hf.on hx).1 x.on.index (by rw [varsE_eq]; simp [h2.2])
      have e : keepL c x.on.index = keepL c (firstC c + i) := by
        refine keep_same ?_
        rw [← cls_root hf hix, ← cls_root hf hkr, hst, if_pos (by simp [h2.1, h2.2])]
      rw [if_pos ⟨h2.1, h2.2, by rw [keep_getD hix]; exact e⟩]
    · rw [if_neg (fun h => h2 ⟨h.1, h.2.1⟩)]
      have hroot : rootP c (firstC c + i) = firstC c + i := by
        rw [hst, if_neg]
        simp
        intro a b
        exact h2 ⟨a, b⟩
      obtain ⟨m, n, a1, a2, a3, a4, a5, a6, a7⟩ := cls_lead hf hkr (by rw [hroot]; omega)
      rw [hroot] at a1
      obtain rfl : i = n := by omega
      have hneed : Need c (clsL c (firstC c + i)) := by
        refine Classical.byContradiction fun hn => h1 ?_
        unfold keepL
        rw [if_neg (by omega), if_neg hn]
      have hkl : keepL c (firstC c + i) = firstC c + posN c (clsL c (firstC c + i)) := by
        unfold keepL
        rw [if_neg (by omega), if_pos hneed]
      rw [hkl, red_first, if_neg (by omega)]
      obtain ⟨m', z, b1, b2, b3⟩ := red_at hf hp hneed
      obtain rfl : m = m' := by omega
      rw [show (firstC c + (posN c (clsL c (firstC c + i)) : Int) - firstC c).toNat = posN c (clsL c (firstC c + i)) by omega, b3]
      simp only
      have hid := class_id b2 hx a7
      obtain ⟨i1, i2, i3⟩ := hid.2.2.2 _ rfl
      have rx := sig_right hf hx
      have rz := sig_right hf b2
      have vx := vars_check (hf.on hx).1
      have vz := vars_check (hf.on b2).1
      have wx := off_range hf hx
      have wz := off_range hf b2
      have hus : ∀ u, u ∈ varsE z.on ∨ u ∈ varsE z.off → keepL c u ≠ noneV := by
        intro u hu
        have hu2 : u ∈ useL c (clsL c (firstC c + i)) := by
          unfold useL
          rw [b1, show (firstC c + (m : Int) - firstC c).toNat = m by omega, b2]
          exact (met_uses hf b2 u).2 hu
        have := keep_use hf hp hneed hu2
        intro e
        rw [e] at this
        exact absurd this.1 (by decide)
      rw [ok_keep hf rx.1 rz.1 vx vz i2.symm fun u hu => hus u (.inl hu), ok_keep hf rx.2 rz.2 wx wz i3.symm fun u hu => hus u (.inr hu)]
      have e1 : repE x.on (keepP c) = (redX c z).on := rep_keep hf rx.1 rz.1 vx vz i2.symm
      have e2 : repE x.off (keepP c) = (redX c z).off := rep_keep hf rx.2 rz.2 wx wz i3.symm
      rw [e1, e2, (eqE_true _ _).2 rfl, (eqE_true _ _).2 rfl]
      simp [redX, hid.1, hid.2.1, hid.2.2.1]
theorem red_proves {c : Control} (hz : checkC c = 0) (hp : PilC c) : verifyQ c (redC c) (keepP c) = 0 := by
  have hf := fine_of hz
  have h0 := hf.f0
  have hcf := count_first c
  unfold verifyQ
  rw [if_neg (by rw [hz]; simp), if_neg (by rw [red_check hz hp]; simp), if_neg (by rw [keep_len hf]; simp), if_neg, if_pos]
  · unfold provesB frameB
    simp only [Bool.and_eq_true, List.all_eq_true, List.mem_range, beq_iff_eq, decide_eq_true_eq]
    refine ⟨⟨⟨⟨rfl, rfl⟩, fun k hk => ?_⟩, fun i hi => ?_⟩, fun i hi => red_fit hz hp hi⟩
    · have := keep_getD (c := c) (k := (k : Int)) (by omega)
      rw [Int.toNat_natCast] at this
      rw [this, keep_low hf (by omega)]
    · have hpl := hp.1
      have hml := hp.2.1
      have hact := hf.act
      have g1 : c.plus[i]? = some c.plus[i] := List.getElem?_eq_getElem (by omega)
      have g2 : c.minus[i]? = some c.minus[i] := List.getElem?_eq_getElem (by omega)
      generalize c.plus[i] = p at *
      generalize c.minus[i] = m at *
      have r1 := hp.2.2.1 p (List.mem_of_getElem? g1)
      have r2 := hp.2.2.2 m (List.mem_of_getElem? g2)
      have e1 : c.plus.getD i 0 = p := by rw [List.getD_eq_getElem?_getD, g1]; rfl
      have e2 : c.minus.getD i 0 = m := by rw [List.getD_eq_getElem?_getD, g2]; rfl
      have e3 : (redC c).plus.getD i 0 = keepL c p := by rw [List.getD_eq_getElem?_getD]; simp [redC, g1]
      have e4 : (redC c).minus.getD i 0 = keepL c m := by rw [List.getD_eq_getElem?_getD]; simp [redC, g2]
      rw [e1, e2, e3, e4, keep_getD r1, keep_getD r2]
      exact ⟨rfl, rfl⟩
  · simp only [List.any_eq_true, not_exists, not_and]
    intro v hv
    unfold keepP at hv
    obtain ⟨k, hk, rfl⟩ := List.mem_map.1 hv
    have hk2 := List.mem_range.1 hk
    have := keep_range hf hp (k := (k : Int)) (by omega)
    unfold farB
    rcases this with h | h
    · simp [h]
    · simp
      intro _
      omega
end Go.Proofs.YtbcjnmifflflfaaGreatDoor
end

section
namespace Go.Proofs.YtbcjnmifflflfaaGreatDoor
set_option maxHeartbeats 1000000
set_option maxRecDepth 10000
theorem tst_zero (z : Signal) : tstE z false 0 = 0 := by
  unfold tstE
  refine if_neg ?_
  rintro (h | h)
  · exact h.2 rfl
  · exact h.2 rfl
theorem tst_kind {x z : Signal} (h : x.kind = z.kind) (v : Bool) (t : Int) : tstE x v t = tstE z v t := by unfold tstE; rw [h]
theorem fits_parts {c : Control} {s : State} (h : rightC c s = 0) : (∀ e ∈ s.ends, outR 4 e = false) ∧ (∀ e ∈ s.timers, outR 3 e = false) ∧ ∀ (i : Nat) (x : Signal), c.signals[i]? = some x → tstE x (s.values.getD i false) (s.timers.getD i 0) = 0 := by
  obtain ⟨z1, z2, z3⟩ := right_zero h
  unfold fitsSt at z3
  rw [if_neg (by simpa using z2)] at z3
  split at z3
  · cases z3
  · rename_i hout
    rw [Bool.or_eq_true, not_or, Bool.not_eq_true, Bool.not_eq_true] at hout
    have hz := firstErr_zero z3
    obtain ⟨h4, h5⟩ : s.values.length = c.signals.length ∧ s.timers.length = c.signals.length := ⟨z2.2.2.2.1, z2.2.2.2.2⟩
    refine ⟨fun e he => ?_, fun e he => ?_, fun i x hx => ?_⟩
    · have := List.any_eq_false.1 hout.1 e he
      simpa using this
    · have := List.any_eq_false.1 hout.2 e he
      simpa using this
    · have hi : i < c.signals.length := (List.getElem?_eq_some_iff.1 hx).1
      have h0 := hz i (by omega)
      have hv0 : s.values[i]? = some s.values[i] := List.getElem?_eq_getElem (by omega)
      have ht0 : s.timers[i]? = some s.timers[i] := List.getElem?_eq_getElem (by omega)
      unfold tsE at h0
      rw [hx, hv0, ht0] at h0
      rw [List.getD_eq_getElem?_getD, List.getD_eq_getElem?_getD, hv0, ht0]
      exact h0
theorem right_made {c : Control} {s : State} (h1 : checkC c = 0) (h2 : shapeS c s) (h3 : ∀ e ∈ s.ends, outR 4 e = false) (h4 : ∀ e ∈ s.timers, outR 3 e = false) (h5 : ∀ (i : Nat) (x : Signal), c.signals[i]? = some x → tstE x (s.values.getD i false) (s.timers.getD i 0) = 0) : rightC c s = 0 := by
  rw [rightC, if_neg (by simpa using h1), fitsSt, if_neg (by simpa using h2), if_neg]
  · refine firstErr_all fun i hi => ?_
    unfold tsE
    have hc : i < c.signals.length := by have := h2.2.2.2.2; omega
    have hx : c.signals[i]? = some c.signals[i] := List.getElem?_eq_getElem hc
    have hv0 : s.values[i]? = some (s.values[i]'(by have := h2.2.2.2.1; omega)) := List.getElem?_eq_getElem _
    have ht0 : s.timers[i]? = some s.timers[i] := List.getElem?_eq_getElem hi
    have := h5 i _ hx
    rw [List.getD_eq_getElem?_getD, List.getD_eq_getElem?_getD, hv0, ht0] at this
    rw [hx, hv0, ht0]
    exact this
  · rw [Bool.or_eq_true, not_or, Bool.not_eq_true, Bool.not_eq_true]
    exact ⟨List.any_eq_false.2 fun e he => by simp [h3 e he], List.any_eq_false.2 fun e he => by simp [h4 e he]⟩
end Go.Proofs.YtbcjnmifflflfaaGreatDoor
end
