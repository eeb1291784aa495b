/- Texts joined by a program: Zj, Xc, Xd. -/
import Derived.Test.YthlpelkcmmaokaaGreatP8
import Derived.Test.YthlpelkcmmaokaaGreatP9
set_option linter.unusedSimpArgs false
set_option linter.unusedVariables false

/- Plain: what is at rest; a course of rounds; what belongs comes to rest in what belongs. -/
section
namespace Go.Proofs.YthlpelkcmmaokaaGreat
set_option maxHeartbeats 1000000
set_option maxRecDepth 10000

theorem zT_len (c : Control) (s : State) : (newT c s).length = c.signals.length := by simp [newT]
theorem courseZ_step {c : Control} {k : Nat} {n : Int} {s : State} {acc : List Int} : courseP c (k + 1) n s acc = if roundS c s = s then some (s, acc ++ roundB c s, n) else courseP c k (n + 1) (roundS c s) (acc ++ roundB c s) := rfl

theorem once_right {c : Control} {s : State} (h : rightC c s = 0) : rightC c (onceS c s) = 0 := by
  obtain ⟨z1, z2, z3⟩ := right_zero h
  have hf := fine_of z1
  have hsh := once_shape z2
  unfold fitsSt at z3
  rw [if_neg (by simpa using z2)] at z3
  split at z3
  · cases z3
  · rename_i hout
    have hz := firstErr_zero z3
    simp only [Bool.or_eq_true, not_or, Bool.not_eq_true] at hout
    obtain ⟨hlv, hlt⟩ : s.values.length = c.signals.length ∧ s.timers.length = c.signals.length := ⟨z2.2.2.2.1, z2.2.2.2.2⟩
    have hstep : ∀ i, i < c.signals.length → ∃ x v t, c.signals[i]? = some x ∧ s.values[i]? = some v ∧ s.timers[i]? = some t ∧ (newV c s)[i]? = some (stepV x.kind v t (evalE x.on (valuesOf s)) (x.kind == 1 && evalE x.off (valuesOf s))).1 ∧ (newT c s)[i]? = some (stepV x.kind v t (evalE x.on (valuesOf s)) (x.kind == 1 && evalE x.off (valuesOf s))).2.1 := by
      intro i hi
      have hx : c.signals[i]? = some c.signals[i] := List.getElem?_eq_getElem (by omega)
      have hv : s.values[i]? = some s.values[i] := List.getElem?_eq_getElem (by omega)
      have ht : s.timers[i]? = some s.timers[i] := List.getElem?_eq_getElem (by omega)
      refine ⟨_, _, _, hx, hv, ht, ?_, ?_⟩
      · rw [zV_at hi, zStep_at hx hv ht]
      · rw [zT_at hi, zStep_at hx hv ht]
    have hout2 : (onceS c s).timers.any (outR 3) = false := by
      rw [List.any_eq_false]
      intro t' ht'
      obtain ⟨i, hi, e⟩ := List.getElem_of_mem ht'
      have hi2 : i < c.signals.length := by rw [show (onceS c s).timers = newT c s from rfl, zT_len] at hi; exact hi
      obtain ⟨x, v, t, hx, hv, ht, h1, h2⟩ := hstep i hi2
      have h3 : (onceS c s).timers[i]? = some t' := by rw [List.getElem?_eq_getElem hi, e]
      rw [show (onceS c s).timers = newT c s from rfl, h2] at h3
      have h4 := List.any_eq_false.1 hout.2 t (List.mem_of_getElem? ht)
      cases h3
      simp only [outR] at h4 ⊢
      unfold stepV
      split
      · exact h4
      · split
        · split
          · decide
          · simp only
            split
            · decide
            · exact h4
        · exact h4
    have e : fitsSt c (onceS c s) = firstErr (tsE c (onceS c s)) (List.range c.signals.length) := by
      unfold fitsSt
      rw [if_neg (by simpa using hsh), if_neg]
      · rw [show (onceS c s).timers = newT c s from rfl, zT_len]
      · rw [hout2]
        have : (onceS c s).ends.any (outR 4) = false := hout.1
        rw [this]
        simp
    have hn : NoE (tsE c (onceS c s)) c.signals.length := by
      intro i hi
      have h0 := hz i (by omega)
      obtain ⟨x, v, t, hx, hv, ht, h1, h2⟩ := hstep i hi
      unfold tsE at h0 ⊢
      rw [hx, hv, ht] at h0
      rw [hx, show (onceS c s).values = newV c s from rfl, show (onceS c s).timers = newT c s from rfl, h1, h2]
      simp only at h0 ⊢
      unfold tstE at h0 ⊢
      by_cases hk : x.kind = 2
      · simp only [hk, ne_eq, not_true_eq_false, false_and, true_and, false_or] at h0 ⊢
        have h0' : v = (t == 2) := by
          by_cases hv2 : v = (t == 2)
          · exact hv2
          · rw [if_pos hv2] at h0
            exact absurd h0 (by decide)
        refine if_neg ?_
        rw [Classical.not_not]
        unfold stepV
        rw [if_neg (by decide), if_pos rfl]
        by_cases ho : evalE x.on (valuesOf s) = false
        · rw [if_pos ho]; rfl
        · rw [if_neg ho]
          simp only
          by_cases ht0 : t = 0
          · rw [if_pos ht0, h0', ht0]; rfl
          · rw [if_neg ht0, h0']
      · simp only [hk, ne_eq, not_false_eq_true, true_and, false_and, or_false] at h0 ⊢
        refine if_neg ?_
        rw [Classical.not_not]
        have ht0 : t = 0 := by
          by_cases ht0 : t = 0
          · exact ht0
          · rw [if_pos ht0] at h0
            exact absurd h0 (by decide)
        unfold stepV
        split
        · exact ht0
        · exact ht0
    rw [rightC, if_neg (by simpa using z1), e]
    exact firstErr_all hn
theorem round_right {c : Control} {s : State} (h : rightC c s = 0) : rightC c (roundS c s) = 0 := once_right (gates_right h)

/-- After n rounds. -/
def afterN (c : Control) (s : State) : Nat → State
  | 0 => s
  | n + 1 => afterN c (roundS c s) n
theorem after_snoc (c : Control) : ∀ (n : Nat) (s : State), afterN c s (n + 1) = roundS c (afterN c s n)
  | 0, _ => rfl
  | n + 1, s => after_snoc c n (roundS c s)
theorem after_right {c : Control} {s : State} (h : rightC c s = 0) : ∀ n, rightC c (afterN c s n) = 0
  | 0 => h
  | n + 1 => by rw [after_snoc]; exact round_right (after_right h n)
/-- What a course of rounds is. -/
theorem course_spec {c : Control} : ∀ (k : Nat) (n : Int) (s : State) (acc : List Int) {x : State} {bad : List Int} {m : Int}, courseP c k n s acc = some (x, bad, m) →
    ∃ j : Nat, j < k ∧ m = n + j ∧ x = afterN c s j ∧ roundS c x = x ∧ (∀ i, i < j → afterN c s (i + 1) ≠ afterN c s i) ∧ (∀ z ∈ acc, z ∈ bad) ∧ (∀ z, z ∈ roundB c x → z ∈ bad)
  | 0, _, _, _, _, _, _, h => by cases h
  | k + 1, n, s, acc, x, bad, m, h => by
    rw [courseZ_step] at h
    split at h
    · rename_i hr
      cases h
      exact ⟨0, by omega, by simp, rfl, hr, fun i hi => absurd hi (Nat.not_lt_zero _), fun z hz => by simp [hz], fun z hz => by simp [hz]⟩
    · rename_i hr
      obtain ⟨j, h1, h2, h3, h4, h5, h6, h7⟩ := course_spec k _ _ _ h
      refine ⟨j + 1, by omega, by omega, h3, h4, ?_, fun z hz => h6 z (by simp [hz]), h7⟩
      intro i hi
      cases i with
      | zero => exact hr
      | succ i => exact h5 i (by omega)
/-- A course that ends, if a state is at rest somewhere. -/
theorem course_some {c : Control} : ∀ (j k : Nat) (n : Int) (s : State) (acc : List Int), j < k → roundS c (afterN c s j) = afterN c s j → ∃ r, courseP c k n s acc = some r
  | _, 0, _, _, _, h, _ => absurd h (Nat.not_lt_zero _)
  | j, k + 1, n, s, acc, h, hr => by
    rw [courseZ_step]
    split
    · exact ⟨_, rfl⟩
    · rename_i hne
      cases j with
      | zero => exact absurd hr hne
      | succ j => exact course_some j k _ _ _ (by omega) hr

theorem gates_at {c : Control} {s : State} (hsh : shapeS c s) (hr : roundS c s = s) : gatesP c s = s := by
  have hg := gates_shape hsh
  have e : (gatesP c s).values = s.values := by
    apply List.ext_getElem?
    intro i
    rcases Nat.lt_or_ge i c.signals.length with hi | hi
    · have hx : c.signals[i]? = some c.signals[i] := List.getElem?_eq_getElem hi
      by_cases hk : c.signals[i].kind = 0
      · have hl1 := hg.2.2.2.1
        have hl2 := hg.2.2.2.2
        have hv : (gatesP c s).values[i]? = some (gatesP c s).values[i] := List.getElem?_eq_getElem (by omega)
        have ht : (gatesP c s).timers[i]? = some (gatesP c s).timers[i] := List.getElem?_eq_getElem (by omega)
        have h1 : s.values[i]? = (newV c (gatesP c s))[i]? := by
          conv => lhs; rw [← hr]
          rfl
        rw [h1, zV_at hi, zStep_at hx hv ht, hv, hk]
        rfl
      · exact gates_keep (by simpa [kindAt, hx] using hk)
    · rw [List.getElem?_eq_none (by rw [hg.2.2.2.1]; exact hi), List.getElem?_eq_none (by rw [hsh.2.2.2.1]; exact hi)]
  show { s with values := gvals c s c.signals.length } = s
  have e2 : gvals c s c.signals.length = s.values := e
  rw [e2]
theorem after_stay {c : Control} {s : State} {i : Nat} (h : roundS c (afterN c s i) = afterN c s i) : ∀ d, afterN c s (i + d) = afterN c s i
  | 0 => rfl
  | d + 1 => by rw [← Nat.add_assoc, after_snoc, after_stay h d, h]
theorem st_same2 {d : Control} {t u : State} (ht : shapeS d t) (hu : shapeS d u) (e1 : t.ends = u.ends) (e2 : t.valves = u.valves) (e3 : t.inputs = u.inputs) (e4 : ∀ (j : Nat) (z : Signal), d.signals[j]? = some z → t.values.getD j false = u.values.getD j false ∧ t.timers.getD j 0 = u.timers.getD j 0) : t = u := by
  obtain ⟨a1, a2, a3, a4, a5⟩ := t
  obtain ⟨b1, b2, b3, b4, b5⟩ := u
  obtain ⟨-, -, -, k1, k2⟩ := ht
  obtain ⟨-, -, -, k3, k4⟩ := hu
  simp only at e1 e2 e3 e4 k1 k2 k3 k4
  subst e1 e2 e3
  have h4 : a4 = b4 := by
    apply List.ext_getElem (by omega)
    intro j h1 h2
    have := (e4 j _ (List.getElem?_eq_getElem (by omega))).1
    rwa [List.getD_eq_getElem?_getD, List.getD_eq_getElem?_getD, List.getElem?_eq_getElem h1, List.getElem?_eq_getElem h2] at this
  have h5 : a5 = b5 := by
    apply List.ext_getElem (by omega)
    intro j h1 h2
    have := (e4 j _ (List.getElem?_eq_getElem (by omega))).2
    rwa [List.getD_eq_getElem?_getD, List.getD_eq_getElem?_getD, List.getElem?_eq_getElem h1, List.getElem?_eq_getElem h2] at this
  rw [h4, h5]
/-- What a round does to a gate. -/
theorem round_gate {d : Control} {s : State} (hs : shapeS d s) {i : Nat} {x : Signal} (hx : d.signals[i]? = some x) (hk : x.kind = 0) : (roundS d s).values.getD i false = (gatesP d s).values.getD i false ∧ (roundS d s).timers.getD i 0 = s.timers.getD i 0 := by
  have hi : i < d.signals.length := (List.getElem?_eq_some_iff.1 hx).1
  have hg := gates_shape hs
  have g1 : (gatesP d s).values[i]? = some ((gatesP d s).values[i]'(by rw [hg.2.2.2.1]; exact hi)) := List.getElem?_eq_getElem _
  have g2 : (gatesP d s).timers[i]? = some ((gatesP d s).timers[i]'(by rw [hg.2.2.2.2]; exact hi)) := List.getElem?_eq_getElem _
  have s1 := zStep_at (L := valuesOf (gatesP d s)) hx g1 g2
  rw [hk] at s1
  constructor
  · show (newV d (gatesP d s)).getD i false = _
    rw [List.getD_eq_getElem?_getD, zV_at hi, s1, List.getD_eq_getElem?_getD, g1]
    rfl
  · show (newT d (gatesP d s)).getD i 0 = (gatesP d s).timers.getD i 0
    rw [List.getD_eq_getElem?_getD, zT_at hi, s1, List.getD_eq_getElem?_getD, g2]
    rfl
section red
variable {c : Control} (hz : checkC c = 0)
include hz
theorem after_bel {s t : State} (B : Bel c s t) : ∀ n, Bel c (afterN c s n) (afterN (redC c) t n)
  | 0 => B
  | n + 1 => by rw [after_snoc, after_snoc]; exact Bel.round hz (pil_of hz) (after_bel B n)
/-- The value of a gate of the reduced control, its gates reckoned out. -/
theorem gate_val {s t : State} (B : Bel c s t) {i j : Nat} (hi : i < c.signals.length) (hk : keepL c (firstC c + i) = firstC c + j) (hn : keepL c (firstC c + i) ≠ noneV) : (gatesP (redC c) t).values.getD j false = (gatesP c s).values.getD i false := by
  have hp := pil_of hz
  have h0 := (fine_of hz).f0
  have h := val_kept hz hp B (k := firstC c + i) ⟨by omega, by rw [count_first]; omega⟩ hn
  rw [hk] at h
  have v1 := vals_sig (gates_shape B.hs) i
  have v2 := vals_sig (gates_shape B.ht) j
  rw [red_first] at v2
  rw [v1, v2] at h
  exact h
theorem rest_gates {s t : State} (B : Bel c s t) (hg : gatesP (redC c) t = t) : ∀ n, roundS c (afterN c s n) = afterN c s n → gatesP (redC c) (afterN (redC c) t n) = afterN (redC c) t n
  | 0, _ => hg
  | n + 1, hr => by
    have B1 := after_bel hz B n
    have B2 := after_bel hz B (n + 1)
    have hga := gates_at B2.hs hr
    refine st_same2 (gates_shape B2.ht) B2.ht rfl rfl rfl fun j z hj => ⟨?_, rfl⟩
    obtain ⟨i, x, hx, rfl, hk, hn⟩ := red_src hz hj
    have hi : i < c.signals.length := (List.getElem?_eq_some_iff.1 hx).1
    by_cases h0 : x.kind = 0
    · rw [gate_val hz B2 hi hk hn, hga, after_snoc, after_snoc, (round_gate B1.hs hx h0).1, (round_gate B1.ht hj h0).1, gate_val hz B1 hi hk hn]
    · exact gate_getD (d := redC c) (by rw [kindAt_sig hj]; exact h0)
theorem bel_sig {s t u : State} (B : Bel c s t) (B' : Bel c s u) {j : Nat} {z : Signal} (hj : (redC c).signals[j]? = some z) (h0 : z.kind ≠ 0) : t.values.getD j false = u.values.getD j false ∧ t.timers.getD j 0 = u.timers.getD j 0 := by
  obtain ⟨i, x, hx, rfl, hk, hn⟩ := red_src hz hj
  have b1 := B.sig i x hx h0 hn
  have b2 := B'.sig i x hx h0 hn
  rw [hk, show (firstC c + (j : Int) - firstC c).toNat = j by omega] at b1 b2
  exact ⟨b1.1.trans b2.1.symm, b1.2.trans b2.2.symm⟩
theorem rest_bel {s t : State} (B : Bel c s t) (hr : roundS c s = s) (hg : gatesP (redC c) t = t) : roundS (redC c) t = t := by
  have B2 := Bel.round hz (pil_of hz) B
  rw [hr] at B2
  refine st_same2 B2.ht B.ht rfl rfl rfl fun j z hj => ?_
  by_cases h0 : z.kind = 0
  · have := round_gate B.ht hj h0
    rw [hg] at this
    exact this
  · exact bel_sig hz B2 B hj h0
/-- What belongs comes to rest in what belongs. -/
theorem course_bel {s t : State} (B : Bel c s t) (hg : gatesP (redC c) t = t) {a : State} {bad : List Int} {m : Int} (h : courseP c 65 0 s [] = some (a, bad, m)) :
    ∃ b bad' m', courseP (redC c) 65 0 t [] = some (b, bad', m') ∧ Bel c a b ∧ gatesP c a = a ∧ gatesP (redC c) b = b ∧ ∃ n, a = afterN c s n ∧ b = afterN (redC c) t n := by
  obtain ⟨j, h1, h2, rfl, h4, h5, h6, h7⟩ := course_spec _ _ _ _ h
  have B1 := after_bel hz B j
  have g1 := rest_gates hz B hg j h4
  have r1 := rest_bel hz B1 h4 g1
  obtain ⟨⟨b, bad', m'⟩, hb⟩ := course_some j 65 0 t [] h1 r1
  obtain ⟨i, k1, k2, k3, k4, k5, k6, k7⟩ := course_spec _ _ _ _ hb
  have e : b = afterN (redC c) t j := by
    rw [k3]
    rcases Nat.lt_trichotomy i j with hij | hij | hij
    · rw [k3] at k4
      obtain ⟨d, rfl⟩ : ∃ d, j = i + d := ⟨j - i, by omega⟩
      exact (after_stay k4 d).symm
    · rw [hij]
    · exact absurd (by rw [after_snoc]; exact r1) (k5 j hij)
  subst e
  exact ⟨_, bad', m', hb, B1, gates_at B1.hs h4, g1, j, rfl, rfl⟩
theorem carry_back {a b : State} (hr : rightC c a = 0) (hr2 : rightC (redC c) b = 0) (B : Bel c a b) (hg : gatesP (redC c) b = b) : carryQ c (redC c) (keepP c) a = (b, 0) := by
  have hp := pil_of hz
  have hv := red_proves hz hp
  obtain ⟨q, hq⟩ := carry_goes hv hr (fun j => (b.values.getD j false, b.timers.getD j 0)) (fun i x hx hk j hj => by
    have hcj := car_at hz hx
    have hne : keepL c (firstC c + i) ≠ noneV := by
      intro e
      rw [hcj, e] at hj
      have := none_neg
      have := (fine_of hz).f0
      omega
    have hb := B.sig i x hx hk hne
    rw [hcj] at hj
    rw [hj, Int.toNat_natCast] at hb
    rw [hb.1, hb.2]) _ (Nat.le_refl _)
  have hok := carry_ok hv hr _ (Nat.le_refl _) hq
  have e := bel_gates hz (carry_bel hz hr hq) B (carry_right hv hr hok) hr2
  rw [carryQ, if_neg (by simp [hv]), if_neg (by simp [hr]), hq]
  show (gatesP (redC c) (carrySt a q), (0 : Int)) = _
  rw [e, hg]
theorem value_bel {a b : State} (hr : rightC c a = 0) (hr2 : rightC (redC c) b = 0) (B : Bel c a b) (hg : gatesP (redC c) b = b) (hga : gatesP c a = a) {k : Int} (hk : k ∈ c.plus ∨ k ∈ c.minus) :
    ∃ v, valueP c a k = (v, 0) ∧ valueP (redC c) b (keepL c k) = (v, 0) := by
  have hp := pil_of hz
  have hf := fine_of hz
  have hkr : 0 ≤ k ∧ k < countC c := hk.elim (hp.2.2.1 k) (hp.2.2.2 k)
  have hkk := keep_pilot hf hp hk
  have hn : keepL c k ≠ noneV := by have := none_neg; omega
  have h := val_kept hz hp B hkr hn
  rw [hg, hga, List.getD_eq_getElem?_getD, List.getD_eq_getElem?_getD] at h
  refine ⟨(valuesOf a)[k.toNat]?.getD false, ?_, ?_⟩
  · rw [valueP, if_neg (by simp [hr]), if_neg (by omega)]
  · rw [valueP, if_neg (by simp [hr2]), if_neg (by omega), h]
end red

end Go.Proofs.YthlpelkcmmaokaaGreat
end

/- Law of chapter 38: Runs. -/
section
namespace Go.Proofs.YthlpelkcmmaokaaGreat
set_option maxHeartbeats 4000000
set_option maxRecDepth 10000

theorem runs_e {c x : Control} {a b : State} {b5 b10 b13 : Nat} {f : Int → Int} (ha : 0 ≤ c.actuators ∧ c.actuators ≤ 1000) (h1 : (c.plus.length : Int) = c.actuators) (h2 : (c.minus.length : Int) = c.actuators) (hx1 : x.plus = c.plus.map f) (hx2 : x.minus = c.minus.map f)
    (hV : ∀ p, p ∈ c.plus ∨ p ∈ c.minus → ∃ v, CallFn Tryz.prog 37 [aC c, aSt a, aI p] (.tuple [aB v, aI 0]) ∧ CallFn Tryz.prog 37 [aC x, aSt b, aI (f p)] (.tuple [aB v, aI 0])) :
    vcC ⟨Tryz.prog, none, 172⟩ (restC Tryz.f9 13) (hdE [(2, .rptr (encC c)), (4, aB false), (5, .ptr 5 b5 0), (10, .ptr 10 b10 0), (13, .ptr 13 b13 0)] [])
      [(13, .box b13 ((encSt b).map A.dat)), (10, .box b10 ((encSt a).map A.dat)), (5, .box b5 ((encC x).map A.dat))] (RetV Tryz.prog [.tmp 4] fun r' H' => (frz H' r').1 ∧ (frz H' r').2 = aB true) := by
  obtain ⟨M, hM⟩ : ∃ M : Nat, c.actuators = M := ⟨c.actuators.toNat, by omega⟩
  refine vc_rest rfl ?_
  simp [encC, encSt]
  refine V.forI (σ := Unit) (kv := [(2, .rptr (encC c)), (5, .ptr 5 b5 0), (10, .ptr 10 b10 0), (13, .ptr 13 b13 0), (110, aI c.actuators)]) M [2, 5, 10, 13, 110] (by simp [encC]) (fun i _ => [(4, aB false), (111, aI i)]) (fun _ _ => []) (fun _ _ => True) () trivial (by simp) ⟨by simp; exact rfl, by simp⟩ ?_ ?_
  · rintro i - hi -
    have hia : (i : Int) < c.actuators := by omega
    have hip : i < c.plus.length := by omega
    have him : i < c.minus.length := by omega
    obtain ⟨p, hp1⟩ : ∃ p, c.plus[i]'hip = p := ⟨_, rfl⟩
    obtain ⟨m, hm1⟩ : ∃ m, c.minus[i]'him = m := ⟨_, rfl⟩
    have hpo : c.plus[i]? = some p := by rw [List.getElem?_eq_getElem hip, hp1]
    have hmo : c.minus[i]? = some m := by rw [List.getElem?_eq_getElem him, hm1]
    obtain ⟨v, hv1, hv2⟩ := hV p (.inl (List.mem_of_getElem? hpo))
    obtain ⟨w, hw1, hw2⟩ := hV m (.inr (List.mem_of_getElem? hmo))
    have hip2 : i < x.plus.length := by rw [hx1, List.length_map]; omega
    have him2 : i < x.minus.length := by rw [hx2, List.length_map]; omega
    have hpo2 : x.plus[i]? = some (f p) := by rw [hx1, List.getElem?_map, hpo]; rfl
    have hmo2 : x.minus[i]? = some (f m) := by rw [hx2, List.getElem?_map, hmo]; rfl
    have hp2 : x.plus[i]'hip2 = f p := by rw [List.getElem?_eq_getElem hip2] at hpo2; exact Option.some.inj hpo2
    have hm2 : x.minus[i]'him2 = f m := by rw [List.getElem?_eq_getElem him2] at hmo2; exact Option.some.inj hmo2
    simp [hia, encC]
    refine V.drawX (fun _ => none) (by kernel_rfl) (by kernel_rfl) (by simp) ?_
    simp [hip, him, hip2, him2, hp1, hm1, hp2, hm2, hpo, hmo, hpo2, hmo2]
    refine V.forI (σ := Unit) (kv := [(2, .rptr (encC c)), (5, .ptr 5 b5 0), (10, .ptr 10 b10 0), (13, .ptr 13 b13 0), (110, aI c.actuators), (111, aI i), (136, .dat (.sl [[.int .i64 p, .int .i64 (f p)], [.int .i64 m, .int .i64 (f m)]])), (137, aI 2)]) 2 [2, 5, 10, 13, 110, 111, 136, 137] (by simp) (fun j _ => [(4, aB false), (138, aI j)]) (fun _ _ => []) (fun _ _ => True) () trivial (by simp) ⟨by simp; exact rfl, by simp⟩ ?_ ?_
    · rintro j - hj -
      rcases (show j = 0 ∨ j = 1 by omega) with rfl | rfl
      · simp
        intro b20
        refine hv1.s ?_
        simp
        refine hv2.s ?_
        simp
      · simp
        intro b20
        refine hw1.s ?_
        simp
        refine hw2.s ?_
        simp
    · rintro - -
      simp
      omega
  · rintro - -
    simp [hM]
    exact awake38_fn.s (by simp)

theorem runs_d {c x : Control} {a b : State} {b5 b8 b10 b13 : Nat} {ks : List Int} (h1 : CallFn Tryz.prog 27 [aRel c x ks, aSt a] (.tuple [aSt b, aI 0])) (h2 : CallFn Tryz.prog 29 [aSt b, aSt b] (aB true))
    (hv : vcC ⟨Tryz.prog, none, 172⟩ (restC Tryz.f9 13) (hdE [(2, .rptr (encC c)), (4, aB false), (5, .ptr 5 b5 0), (10, .ptr 10 b10 0), (13, .ptr 13 b13 0)] [])
      [(13, .box b13 ((encSt b).map A.dat)), (10, .box b10 ((encSt a).map A.dat)), (5, .box b5 ((encC x).map A.dat))] (RetV Tryz.prog [.tmp 4] fun r' H' => (frz H' r').1 ∧ (frz H' r').2 = aB true)) :
    vcN ⟨Tryz.prog, none, 172⟩ 2 (restC Tryz.f9 11) (hdE [(2, .rptr (encC c)), (4, aB false), (5, .ptr 5 b5 0), (8, .ptr 8 b8 0), (10, .ptr 10 b10 0), (13, .ptr 13 b13 0)] [])
      [(13, .box b13 ((encSt b).map A.dat)), (10, .box b10 ((encSt a).map A.dat)), (8, .box b8 ((encRel c x ks).map A.dat)), (5, .box b5 ((encC x).map A.dat))] (RetV Tryz.prog [.tmp 4] fun r' H' => (frz H' r').1 ∧ (frz H' r').2 = aB true) := by
  refine vcN_rest rfl ?_
  simp [encC, encSt]
  refine h1.s ?_
  simp
  intro b16
  refine GCall.fn (aB true) (fun h => ⟨trivial, h2⟩) ?_
  simp
  exact V.cut [(2, .rptr (encC c)), (4, aB false), (5, .ptr 5 b5 0), (10, .ptr 10 b10 0), (13, .ptr 13 b13 0)] (by simp [encC]) (by simp [encC, encSt]) (vc_of_rest rfl hv)
theorem runs_c {c x : Control} {a b : State} {b5 b8 b10 b13 : Nat} {ks : List Int} (h1 : CallFn Tryz.prog 34 [aC c, aSt a] (aI 0)) (h2 : CallFn Tryz.prog 34 [aC x, aSt b] (aI 0))
    (hv : vcN ⟨Tryz.prog, none, 172⟩ 2 (restC Tryz.f9 11) (hdE [(2, .rptr (encC c)), (4, aB false), (5, .ptr 5 b5 0), (8, .ptr 8 b8 0), (10, .ptr 10 b10 0), (13, .ptr 13 b13 0)] [])
      [(13, .box b13 ((encSt b).map A.dat)), (10, .box b10 ((encSt a).map A.dat)), (8, .box b8 ((encRel c x ks).map A.dat)), (5, .box b5 ((encC x).map A.dat))] (RetV Tryz.prog [.tmp 4] fun r' H' => (frz H' r').1 ∧ (frz H' r').2 = aB true)) :
    vcN ⟨Tryz.prog, none, 172⟩ 1 (restC Tryz.f9 10) (hdE [(2, .rptr (encC c)), (4, aB false), (5, .ptr 5 b5 0), (8, .ptr 8 b8 0), (10, .ptr 10 b10 0), (13, .ptr 13 b13 0), (15, aI 0)] [])
      [(13, .box b13 ((encSt b).map A.dat)), (10, .box b10 ((encSt a).map A.dat)), (8, .box b8 ((encRel c x ks).map A.dat)), (5, .box b5 ((encC x).map A.dat))] (RetV Tryz.prog [.tmp 4] fun r' H' => (frz H' r').1 ∧ (frz H' r').2 = aB true) := by
  refine vcN_rest rfl ?_
  simp [encC, encSt]
  refine GCall.fn (aI 0) (fun h => ⟨trivial, h1⟩) ?_
  simp
  refine GCall.fn (aI 0) (fun h => ⟨trivial, h2⟩) ?_
  simp
  exact V.cutN 2 [(2, .rptr (encC c)), (4, aB false), (5, .ptr 5 b5 0), (8, .ptr 8 b8 0), (10, .ptr 10 b10 0), (13, .ptr 13 b13 0)] (by simp [encC]) (by simp [encC, encSt]) (vcN_of_rest rfl hv)
theorem runs_b {c x : Control} {s t a b : State} {b5 b8 b9 : Nat} {ks l1 l2 : List Int} {e1 e2 : Int} (h1 : CallFn Tryz.prog 36 [aC c, aSt s] (.tuple [aSt a, aIs l1, aI e1])) (h2 : CallFn Tryz.prog 36 [aC x, aSt t] (.tuple [aSt b, aIs l2, aI e2]))
    (he1 : e1 ≠ 0 → e1 = 21) (he2 : e1 = 0 → e2 = 0)
    (hv : e1 = 0 → ∀ b10 b13, vcN ⟨Tryz.prog, none, 172⟩ 1 (restC Tryz.f9 10) (hdE [(2, .rptr (encC c)), (4, aB false), (5, .ptr 5 b5 0), (8, .ptr 8 b8 0), (10, .ptr 10 b10 0), (13, .ptr 13 b13 0), (15, aI 0)] [])
      [(13, .box b13 ((encSt b).map A.dat)), (10, .box b10 ((encSt a).map A.dat)), (8, .box b8 ((encRel c x ks).map A.dat)), (5, .box b5 ((encC x).map A.dat))] (RetV Tryz.prog [.tmp 4] fun r' H' => (frz H' r').1 ∧ (frz H' r').2 = aB true)) :
    vcN ⟨Tryz.prog, none, 172⟩ 3 (restC Tryz.f9 7) (hdE [(2, .rptr (encC c)), (3, .rptr (encSt s)), (4, aB false), (5, .ptr 5 b5 0), (8, .ptr 8 b8 0), (9, .ptr 9 b9 0)] [])
      [(9, .box b9 ((encSt t).map A.dat)), (8, .box b8 ((encRel c x ks).map A.dat)), (5, .box b5 ((encC x).map A.dat))] (RetV Tryz.prog [.tmp 4] fun r' H' => (frz H' r').1 ∧ (frz H' r').2 = aB true) := by
  refine vcN_rest rfl ?_
  simp [encC, encSt]
  refine h1.s ?_
  simp
  intro b10
  refine h2.s ?_
  simp
  intro b13
  by_cases h0 : e1 = 0
  · have h3 := he2 h0
    subst h0
    subst h3
    simp
    exact V.cutN 1 [(2, .rptr (encC c)), (4, aB false), (5, .ptr 5 b5 0), (8, .ptr 8 b8 0), (10, .ptr 10 b10 0), (13, .ptr 13 b13 0), (15, aI 0)] (by simp [encC]) (by simp [encC, encSt]) (vcN_of_rest rfl (hv rfl b10 b13))
  · have h3 := he1 h0
    subst h3
    simp
    refine GCall.fn (aB true) (fun h => ⟨trivial, awake38_fn⟩) ?_
    simp
theorem runs_a {c x : Control} {s t : State} {b5 : Nat} {ks : List Int} {e : Int} (h1 : CallFn Tryz.prog 27 [aRel c x ks, aSt s] (.tuple [aSt t, aI e])) (he : e ≠ 0 → e = 16)
    (hv : e = 0 → ∀ b8 b9, vcN ⟨Tryz.prog, none, 172⟩ 3 (restC Tryz.f9 7) (hdE [(2, .rptr (encC c)), (3, .rptr (encSt s)), (4, aB false), (5, .ptr 5 b5 0), (8, .ptr 8 b8 0), (9, .ptr 9 b9 0)] [])
      [(9, .box b9 ((encSt t).map A.dat)), (8, .box b8 ((encRel c x ks).map A.dat)), (5, .box b5 ((encC x).map A.dat))] (RetV Tryz.prog [.tmp 4] fun r' H' => (frz H' r').1 ∧ (frz H' r').2 = aB true)) :
    vcN ⟨Tryz.prog, none, 172⟩ 3 (restC Tryz.f9 4) (hdE [(2, .rptr (encC c)), (3, .rptr (encSt s)), (4, aB false), (5, .ptr 5 b5 0), (6, aIs ks)] [])
      [(5, .box b5 ((encC x).map A.dat))] (RetV Tryz.prog [.tmp 4] fun r' H' => (frz H' r').1 ∧ (frz H' r').2 = aB true) := by
  refine vcN_rest rfl ?_
  simp [encC, encSt]
  intro b8
  refine h1.s ?_
  simp
  intro b9
  by_cases h0 : e = 0
  · subst h0
    simp
    exact V.cutN 3 [(2, .rptr (encC c)), (3, .rptr (encSt s)), (4, aB false), (5, .ptr 5 b5 0), (8, .ptr 8 b8 0), (9, .ptr 9 b9 0)] (by simp [encC, encSt]) (by simp [encC, encSt]) (vcN_of_rest rfl (hv rfl b8 b9))
  · have h3 := he h0
    subst h3
    simp
    refine GCall.fn (aB true) (fun h => ⟨trivial, awake38_fn⟩) ?_
    simp

end Go.Proofs.YthlpelkcmmaokaaGreat
end

/- Law of chapter 38: Runs, joined. -/
section
namespace Go.Proofs.YthlpelkcmmaokaaGreat
set_option maxHeartbeats 4000000
set_option maxRecDepth 10000

theorem bel_half {c : Control} (hz : checkC c = 0) {s t : State} (B : Bel c s t) : Bel c s (gatesP (redC c) t) := by
  refine ⟨B.hs, gates_shape B.ht, B.ends, B.valves, B.inputs, fun i y hy hk hkk => ?_⟩
  have h := (Bel.gates hz (pil_of hz) B).sig i y hy hk hkk
  rw [gate_getD (d := c) (by rw [kindAt_sig hy]; exact hk)] at h
  exact h
theorem settle_none {c : Control} {s : State} (hr : rightC c s = 0) (h : courseP c 65 0 s [] = none) : settleR c s = (noSt, [], 21) := by
  rw [settleR, if_neg (by simp [hr]), courseR, h]
theorem settle_some {c : Control} {s a : State} {bad : List Int} {m : Int} (hr : rightC c s = 0) (h : courseP c 65 0 s [] = some (a, bad, m)) : settleR c s = (a, compI (sortI bad), 0) := by
  rw [settleR, if_neg (by simp [hr]), courseR, h]
theorem lawRuns_fn (c : Control) (s : State) (hc : OkC c) (hs : OkSt s) : CallFn Tryz.prog 9 [aC c, aSt s] (aB true) := by
  have r1 := right38_fn c s hc hs
  refine callFz_cut 4 Tryz.func9 rfl Tryz.ntmps9 (rs := [.tmp 4]) rfl (by kernel_rfl) (by simp) (by kernel_rfl) ?_
  simp
  refine r1.s ?_
  by_cases hB : rightB c s = true
  · have hB2 := hB
    simp only [rightB, Bool.and_eq_true, beq_iff_eq] at hB2
    obtain ⟨⟨f1, f2⟩, hr⟩ := hB2
    have hsm := few_sm f2
    obtain ⟨hz, z2, z3⟩ := right_zero hr
    have hf := fine_of hz
    have hp := pil_of hz
    have hz2 := red_check hz hp
    have hf2 := fine_of hz2
    have hw2 := red_few hz hp f1
    have ho := red_ok hz hc
    have hcl := count_le hf
    have hkl := keep_len hf
    have c1 := Reduce_fn c hc
    rw [show reduceQ c = (redC c, keepP c, 0) by simp [reduceQ, hz]] at c1
    have c2 := CheckR_fn (redC c) ho (few_c hw2).1 (few_c hw2).2
    rw [hz2] at c2
    have c8 := Carry_fn c (redC c) (keepP c) s hc ho (by omega) hsm
    have e8 := carry_err hz hr
    have v8 : ∀ t, carryQ c (redC c) (keepP c) s = (t, 0) → _ := fun t h => carry_some hz h hr
    have c9 := Settle_fn c s hc hsm
    have hstep : ∀ b5, vcN ⟨Tryz.prog, none, 172⟩ 3 (restC Tryz.f9 4) (hdE [(2, .rptr (encC c)), (3, .rptr (encSt s)), (4, aB false), (5, .ptr 5 b5 0), (6, aIs (keepP c))] [])
        [(5, .box b5 ((encC (redC c)).map A.dat))] (RetV Tryz.prog [.tmp 4] fun r' H' => (frz H' r').1 ∧ (frz H' r').2 = aB true) := by
      intro b5
      generalize carryQ c (redC c) (keepP c) s = q at *
      obtain ⟨t, e⟩ := q
      refine runs_a c8 e8 fun h0 b8 b9 => ?_
      simp only at h0
      subst h0
      obtain ⟨p, B0, hr0, e0⟩ := v8 t rfl
      have B := bel_half hz B0
      rw [← e0] at B
      have hrt : rightC (redC c) t = 0 := by rw [e0]; exact gates_right hr0
      have hgt : gatesP (redC c) t = t := by rw [e0]; exact gates_twice hf2 B0.ht
      have c10 := Settle_fn (redC c) t ho (sm_of hf2 B.ht)
      cases hR : courseP c 65 0 s [] with
      | none =>
        rw [settle_none hr hR] at c9
        exact runs_b c9 c10 (fun _ => rfl) (fun h => absurd h (by decide)) (fun h => absurd h (by decide))
      | some res =>
        obtain ⟨a, bad, m⟩ := res
        obtain ⟨b, bad', m', hRb, Bab, hga, hgb, n, ea, eb⟩ := course_bel hz B hgt hR
        rw [settle_some hr hR] at c9
        rw [settle_some hrt hRb] at c10
        have hra : rightC c a = 0 := by rw [ea]; exact after_right hr n
        have hrb : rightC (redC c) b = 0 := by rw [eb]; exact after_right hrt n
        have sa := sm_of hf Bab.hs
        have sb := sm_of hf2 Bab.ht
        have d1 := RightR_fn c a hc (few_c f1).1 (few_c f1).2 sa
        rw [hra] at d1
        have d2 := RightR_fn (redC c) b ho (few_c hw2).1 (few_c hw2).2 sb
        rw [hrb] at d2
        have d3 := Carry_fn c (redC c) (keepP c) a hc ho (by omega) sa
        rw [carry_back hz hra hrb Bab hgb] at d3
        have d4 := SameStatesR_fn _ _ (okSt_right hrb) (okSt_right hrb)
        rw [sameSt_refl] at d4
        refine runs_b c9 c10 (fun h => absurd rfl h) (fun _ => rfl) fun _ b10 b13 => runs_c d1 d2 (runs_d d3 d4 (runs_e (f := keepL c) ⟨by have := hf.act; omega, by have := hf.act; omega⟩ hp.1 hp.2.1 rfl rfl fun k hk => ?_))
        obtain ⟨v, k1, k2⟩ := value_bel hz hra hrb Bab hgb hga hk
        have w1 := Value_fn c a k hc sa
        have w2 := Value_fn (redC c) b (keepL c k) ho sb
        rw [k1] at w1
        rw [k2] at w2
        exact ⟨v, w1, w2⟩
    simp [hB]
    refine c1.s ?_
    simp
    intro b5
    refine GCall.fn (aI 0) (fun h => ⟨trivial, c2⟩) ?_
    simp
    exact V.cutN 3 [(2, .rptr (encC c)), (3, .rptr (encSt s)), (4, aB false), (5, .ptr 5 b5 0), (6, aIs (keepP c))] (by simp [encC, encSt]) (by simp [encC]) (vcN_of_rest rfl (hstep b5))
  · simp [hB]
    exact awake38_fn.s (by simp)

end Go.Proofs.YthlpelkcmmaokaaGreat
end
