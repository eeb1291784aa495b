/- Texts joined by a program: Zh, Zf, Ze, Fxb, Fxe, Yh, Yg. -/
import Derived.Test.YtbcjnmifflflfaaGreatDoorW16
import Derived.Test.YtbcjnmifflflfaaGreatDoorW13
import Derived.Test.YtbcjnmifflflfaaGreatDoorW14
set_option linter.unusedSimpArgs false
set_option linter.unusedVariables false

section
namespace Go.Proofs.YtbcjnmifflflfaaGreatDoor
set_option maxHeartbeats 1000000
set_option maxRecDepth 10000
abbrev CarT := List Bool × List Bool × List Int
def carryJ (a b : Control) (ks : List Int) (i : Nat) : Int := ks.getD (firstC a + i).toNat 0 - firstC b
def carryStep (a b : Control) (ks : List Int) (s : State) (i : Nat) (p : CarT) : Option CarT :=
  if kindAt a i = 0 ∨ carryJ a b ks i < 0 then some p
  else if p.1.getD (carryJ a b ks i).toNat false && (p.2.1.getD (carryJ a b ks i).toNat false != s.values.getD i false || p.2.2.getD (carryJ a b ks i).toNat 0 != s.timers.getD i 0) then none
  else some (p.1.set (carryJ a b ks i).toNat true, p.2.1.set (carryJ a b ks i).toNat (s.values.getD i false), p.2.2.set (carryJ a b ks i).toNat (s.timers.getD i 0))
def carryP (a b : Control) (ks : List Int) (s : State) : Nat → Option CarT
  | 0 => some (List.replicate b.signals.length false, List.replicate b.signals.length false, List.replicate b.signals.length 0)
  | i + 1 => (carryP a b ks s i).bind (carryStep a b ks s i)
def carrySt (s : State) (p : CarT) : State := ⟨s.ends, s.valves, s.inputs, p.2.1, p.2.2⟩
noncomputable def carryQ (a b : Control) (ks : List Int) (s : State) : State × Int :=
  if verifyQ a b ks ≠ 0 then (noSt, verifyQ a b ks) else if rightC a s ≠ 0 then (noSt, rightC a s) else match carryP a b ks s a.signals.length with
    | none => (noSt, 16)
    | some p => (gatesP b (carrySt s p), 0)
theorem carryP_succ {a b : Control} {ks : List Int} {s : State} {i : Nat} {p : CarT} (h : carryP a b ks s i = some p) : carryP a b ks s (i + 1) = carryStep a b ks s i p := by rw [carryP, h]; rfl
theorem carryP_none {a b : Control} {ks : List Int} {s : State} {i : Nat} (h : carryP a b ks s i = none) : ∀ n, i ≤ n → carryP a b ks s n = none := by
  intro n hn
  obtain ⟨d, rfl⟩ : ∃ d, n = i + d := ⟨n - i, by omega⟩
  clear hn
  induction d with
  | zero => exact h
  | succ d ih => rw [← Nat.add_assoc, carryP, ih]; rfl
theorem verify_zero {a b : Control} {ks : List Int} (h : verifyQ a b ks = 0) : checkC a = 0 ∧ checkC b = 0 ∧ (ks.length : Int) = countC a ∧ ks.any (farB b) = false ∧ provesB a b ks = true := by
  unfold verifyQ at h
  split at h
  · rename_i h1; exact absurd h h1
  rename_i h1
  split at h
  · rename_i h2; exact absurd h h2
  rename_i h2
  split at h
  · exact absurd h (by decide)
  rename_i h3
  split at h
  · exact absurd h (by decide)
  rename_i h4
  split at h
  · rename_i h5
    exact ⟨Classical.not_not.1 h1, Classical.not_not.1 h2, Classical.not_not.1 h3, by simpa using h4, h5⟩
  · exact absurd h (by decide)
theorem frame_eq {a b : Control} {ks : List Int} (h : verifyQ a b ks = 0) : a.actuators = b.actuators ∧ a.inputs = b.inputs := by
  obtain ⟨-, -, -, -, h5⟩ := verify_zero h
  simp only [provesB, frameB, Bool.and_eq_true, beq_iff_eq, decide_eq_true_eq] at h5
  exact ⟨h5.1.1.1.1, h5.1.1.1.2⟩
theorem carry_in {a b : Control} {ks : List Int} (h : verifyQ a b ks = 0) {i : Nat} {x : Signal} (hx : a.signals[i]? = some x) (hk : x.kind ≠ 0) :
    ∃ y, ks[(firstC a + i).toNat]? = some y ∧ ks.getD (firstC a + i).toNat 0 = y ∧ (y = noneV ∨ ∃ (j : Nat) (z : Signal), y = firstC b + j ∧ b.signals[j]? = some z ∧ x.kind = z.kind ∧ x.delay = z.delay ∧ x.init = z.init) := by
  obtain ⟨h1, h2, h3, h4, h5⟩ := verify_zero h
  have hf := fine_of h1
  have h0 := hf.f0
  have hb0 := (fine_of h2).f0
  have hi : i < a.signals.length := (List.getElem?_eq_some_iff.1 hx).1
  have hcn := count_first a
  have hlt : (firstC a + i).toNat < ks.length := by omega
  obtain ⟨y, hy⟩ : ∃ y, ks[(firstC a + i).toNat] = y := ⟨_, rfl⟩
  have hyo : ks[(firstC a + i).toNat]? = some y := by rw [List.getElem?_eq_getElem hlt, hy]
  have hyd : ks.getD (firstC a + i).toNat 0 = y := by rw [List.getD_eq_getElem?_getD, hyo]; rfl
  refine ⟨y, hyo, hyd, ?_⟩
  simp only [provesB, Bool.and_eq_true, List.all_eq_true, List.mem_range] at h5
  have h6 := h5.2 i hi
  rw [fitB, hx] at h6
  simp only [hyd] at h6
  unfold fitX at h6
  by_cases hn : y = noneV
  · exact .inl hn
  rw [if_neg hn, if_neg (fun h => hk h.1)] at h6
  split at h6
  · cases h6
  rename_i hge
  split at h6
  · cases h6
  rename_i z hz
  simp only [Bool.and_eq_true, beq_iff_eq] at h6
  obtain ⟨⟨⟨⟨⟨⟨-, -⟩, k1⟩, k2⟩, k3⟩, -⟩, -⟩ := h6
  exact .inr ⟨(y - firstC b).toNat, z, by omega, hz, k1, k2, k3⟩
structure CarOK (b : Control) (p : CarT) : Prop where
  l1 : p.1.length = b.signals.length
  l2 : p.2.1.length = b.signals.length
  l3 : p.2.2.length = b.signals.length
  out : ∀ t ∈ p.2.2, outR 3 t = false
  tst : ∀ (j : Nat) (z : Signal), b.signals[j]? = some z → tstE z (p.2.1.getD j false) (p.2.2.getD j 0) = 0
theorem carry_zero (a b : Control) (ks : List Int) (s : State) : ∃ p, carryP a b ks s 0 = some p ∧ CarOK b p := by
  refine ⟨_, rfl, by simp, by simp, by simp, ?_, ?_⟩
  · intro t ht
    rw [List.eq_of_mem_replicate ht]
    decide
  · intro j z hz
    have hj : j < b.signals.length := (List.getElem?_eq_some_iff.1 hz).1
    rw [List.getD_eq_getElem?_getD, List.getD_eq_getElem?_getD, List.getElem?_replicate, List.getElem?_replicate, if_pos hj, if_pos hj]
    exact tst_zero z
theorem carry_step {a b : Control} {ks : List Int} {s : State} (hv : verifyQ a b ks = 0) (hr : rightC a s = 0) {i : Nat} {x : Signal} (hx : a.signals[i]? = some x) {p : CarT} (hp : CarOK b p) :
    (x.kind = 0 ∨ ks.getD (firstC a + i).toNat 0 = noneV) ∧ carryStep a b ks s i p = some p ∨
    x.kind ≠ 0 ∧ ∃ (j : Nat) (t : Int) (v : Bool), j < b.signals.length ∧ ks[(firstC a + i).toNat]? = some (firstC b + j) ∧ s.values[i]? = some v ∧ s.timers[i]? = some t ∧
      carryStep a b ks s i p = (if p.1.getD j false && (p.2.1.getD j false != v || p.2.2.getD j 0 != t) then none else some (p.1.set j true, p.2.1.set j v, p.2.2.set j t)) ∧ CarOK b (p.1.set j true, p.2.1.set j v, p.2.2.set j t) := by
  have hka := kindAt_sig hx
  by_cases hk : x.kind = 0
  · exact .inl ⟨.inl hk, by unfold carryStep; rw [if_pos (.inl (hka.trans hk))]⟩
  obtain ⟨y, hyo, hyd, hy⟩ := carry_in hv hx hk
  obtain ⟨h1, h2, h3, h4, h5⟩ := verify_zero hv
  have hb0 := (fine_of h2).f0
  rcases hy with rfl | ⟨j, z, rfl, hz, k1, k2, k3⟩
  · refine .inl ⟨.inr hyd, ?_⟩
    unfold carryStep
    rw [if_pos (.inr (by unfold carryJ; rw [hyd]; have := none_neg; omega))]
  · have hj : j < b.signals.length := (List.getElem?_eq_some_iff.1 hz).1
    obtain ⟨z1, z2, z3⟩ := right_zero hr
    obtain ⟨f1, f2, f3⟩ := fits_parts hr
    have hi : i < a.signals.length := (List.getElem?_eq_some_iff.1 hx).1
    have hv0 : s.values[i]? = some (s.values[i]'(by have := z2.2.2.2.1; omega)) := List.getElem?_eq_getElem _
    have ht0 : s.timers[i]? = some (s.timers[i]'(by have := z2.2.2.2.2; omega)) := List.getElem?_eq_getElem _
    have hvd : s.values.getD i false = s.values[i]'(by have := z2.2.2.2.1; omega) := by rw [List.getD_eq_getElem?_getD, hv0]; rfl
    have htd : s.timers.getD i 0 = s.timers[i]'(by have := z2.2.2.2.2; omega) := by rw [List.getD_eq_getElem?_getD, ht0]; rfl
    have hcj : carryJ a b ks i = j := by unfold carryJ; rw [hyd]; omega
    have h6 := f3 i x hx
    have htm : s.timers[i]'(by have := z2.2.2.2.2; omega) ∈ s.timers := List.getElem_mem _
    refine .inr ⟨hk, j, _, _, hj, hyo, hv0, ht0, ?_, ?_⟩
    · unfold carryStep
      rw [if_neg (by rw [hka, hcj]; omega), hcj, Int.toNat_natCast, hvd, htd]
    · rw [hvd, htd] at h6
      generalize s.values[i]'(by have := z2.2.2.2.1; omega) = v at *
      generalize s.timers[i]'(by have := z2.2.2.2.2; omega) = t at *
      refine ⟨by simp [hp.l1], by simp [hp.l2], by simp [hp.l3], ?_, ?_⟩
      · intro e he
        rcases List.mem_or_eq_of_mem_set he with h | h
        · exact hp.out e h
        · rw [h]; exact f2 t htm
      · intro m w hw
        have hl2 := hp.l2
        have hl3 := hp.l3
        show tstE w ((p.2.1.set j v).getD m false) ((p.2.2.set j t).getD m 0) = 0
        by_cases hm : j = m
        · subst hm
          rw [hz] at hw
          cases hw
          rw [List.getD_eq_getElem?_getD, List.getD_eq_getElem?_getD, List.getElem?_set_self (by omega), List.getElem?_set_self (by omega)]
          rw [tst_kind k1] at h6
          exact h6
        · rw [List.getD_eq_getElem?_getD, List.getD_eq_getElem?_getD, List.getElem?_set_ne hm, List.getElem?_set_ne hm]
          have := hp.tst m w hw
          rwa [List.getD_eq_getElem?_getD, List.getD_eq_getElem?_getD] at this
theorem carry_right {a b : Control} {ks : List Int} {s : State} (hv : verifyQ a b ks = 0) (hr : rightC a s = 0) {p : CarT} (hp : CarOK b p) : rightC b (carrySt s p) = 0 := by
  obtain ⟨h1, h2, h3, h4, h5⟩ := verify_zero hv
  obtain ⟨e1, e2⟩ := frame_eq hv
  obtain ⟨z1, z2, z3⟩ := right_zero hr
  obtain ⟨f1, f2, f3⟩ := fits_parts hr
  obtain ⟨g1, g2, g3, g4, g5⟩ := z2
  exact right_made h2 ⟨by rw [← e1]; exact g1, by rw [← e1]; exact g2, by rw [← e2]; exact g3, hp.l2, hp.l3⟩ f1 hp.out hp.tst
theorem carry_ok {a b : Control} {ks : List Int} {s : State} (hv : verifyQ a b ks = 0) (hr : rightC a s = 0) : ∀ n, n ≤ a.signals.length → ∀ {p}, carryP a b ks s n = some p → CarOK b p
  | 0, _, p, h => by
    obtain ⟨q, h1, h2⟩ := carry_zero a b ks s
    rw [h] at h1
    cases h1
    exact h2
  | n + 1, hn, p, h => by
    rw [carryP] at h
    cases hq : carryP a b ks s n with
    | none => rw [hq] at h; cases h
    | some q =>
      have hq2 := carry_ok hv hr n (by omega) hq
      rw [hq] at h
      have hx : a.signals[n]? = some a.signals[n] := List.getElem?_eq_getElem (by omega)
      rcases carry_step hv hr hx hq2 with ⟨-, k⟩ | ⟨-, j, t, v, -, -, -, -, k, k2⟩
      · rw [show (some q : Option CarT).bind (carryStep a b ks s n) = carryStep a b ks s n q from rfl, k] at h
        cases h
        exact hq2
      · rw [show (some q : Option CarT).bind (carryStep a b ks s n) = carryStep a b ks s n q from rfl, k] at h
        split at h
        · cases h
        · cases h
          exact k2
end Go.Proofs.YtbcjnmifflflfaaGreatDoor
end

section
namespace Go.Proofs.YtbcjnmifflflfaaGreatDoor
set_option maxHeartbeats 1000000
set_option maxRecDepth 10000
theorem zV_at {c : Control} {s : State} {i : Nat} (h : i < c.signals.length) : (newV c s)[i]? = some (sigStep c s (valuesOf s) i).1 := by simp [newV, h]
theorem zT_at {c : Control} {s : State} {i : Nat} (h : i < c.signals.length) : (newT c s)[i]? = some (sigStep c s (valuesOf s) i).2.1 := by simp [newT, h]
theorem zStep_at {c : Control} {s : State} {L : List Bool} {i : Nat} {x : Signal} {v : Bool} {t : Int} (hx : c.signals[i]? = some x) (hv : s.values[i]? = some v) (ht : s.timers[i]? = some t) : sigStep c s L i = stepV x.kind v t (evalE x.on L) (x.kind == 1 && evalE x.off L) := by
  unfold sigStep
  rw [hx, hv, ht]
theorem evalE_rep {n : Int} {l : List Int} {vs ws : List Bool} : ∀ (N : Nat) (x : Expr), SizeOf.sizeOf x < N → RightE n x → (∀ u ∈ varsE x, ws.getD (l.getD u.toNat 0).toNat false = vs.getD u.toNat false) → evalE (repE x l) ws = evalE x vs
  | 0, _, h, _, _ => absurd h (Nat.not_lt_zero _)
  | N + 1, x, hN, hr, hu => by
    have hL : ∀ xs : List Expr, (∀ y ∈ xs, y ∈ x.args) → evalL (repL xs l) ws = evalL xs vs := by
      intro xs
      induction xs with
      | nil => intro _; rfl
      | cons y xs ih =>
        intro h
        have hy := h y (by simp)
        simp only [repL, evalL]
        rw [evalE_rep N y (by have := Expr.lt_of_mem hy; omega) (hr.args y hy) (fun u huy => hu u (by rw [varsE_eq]; exact List.mem_append.2 (.inr (varsL_mem huy hy)))), ih fun z hz => h z (by simp [hz])]
    rw [repE_eq, evalE_eq x vs]
    by_cases ho : x.op = 1
    · rw [if_pos ho, evalE_eq]
      have := hu x.index (by rw [varsE_eq]; simp [ho])
      simp only [ho]
      simpa using this
    · rw [if_neg ho, evalE_eq]
      simp only
      rw [hL x.args fun _ h => h, if_neg ho, if_neg ho]
theorem vals_low {c : Control} {s t : State} (hs : shapeS c s) (he : t.ends = s.ends) (hi : t.inputs = s.inputs) {k : Int} (hk : 0 ≤ k ∧ k < firstC c) : (valuesOf t).getD k.toNat false = (valuesOf s).getD k.toNat false := by
  unfold valuesOf
  rw [he, hi, List.getD_eq_getElem?_getD, List.getD_eq_getElem?_getD]
  have hl : (endsV s.ends ++ s.inputs).length = (firstC c).toNat := by
    rw [List.length_append, endsV_length]
    have h1 := hs.1
    have h2 := hs.2.2.1
    unfold firstC
    omega
  have hlt : k.toNat < (endsV s.ends ++ s.inputs).length := by omega
  rw [List.getElem?_append_left hlt, List.getElem?_append_left hlt]
theorem vals_sig {c : Control} {s : State} (hs : shapeS c s) (i : Nat) : (valuesOf s).getD (firstC c + i).toNat false = s.values.getD i false := by
  unfold valuesOf
  have hl : (endsV s.ends ++ s.inputs).length = (firstC c).toNat := by
    rw [List.length_append, endsV_length]
    have h1 := hs.1
    have h2 := hs.2.2.1
    unfold firstC
    omega
  have h0 : 0 ≤ firstC c := by
    have h1 := hs.1
    unfold firstC
    omega
  rw [List.getD_eq_getElem?_getD, List.getElem?_append_right (by omega), hl, show (firstC c + (i : Int)).toNat - (firstC c).toNat = i by omega, List.getD_eq_getElem?_getD]
structure Bel (c : Control) (s t : State) : Prop where
  hs : shapeS c s
  ht : shapeS (redC c) t
  ends : t.ends = s.ends
  valves : t.valves = s.valves
  inputs : t.inputs = s.inputs
  sig : ∀ (i : Nat) (y : Signal), c.signals[i]? = some y → y.kind ≠ 0 → keepL c (firstC c + i) ≠ noneV → t.values.getD (keepL c (firstC c + i) - firstC c).toNat false = s.values.getD i false ∧ t.timers.getD (keepL c (firstC c + i) - firstC c).toNat 0 = s.timers.getD i 0
theorem gate_getD {d : Control} {s : State} {i : Nat} (h : kindAt d i ≠ 0) : (gatesP d s).values.getD i false = s.values.getD i false := by
  rw [List.getD_eq_getElem?_getD, gates_keep h, List.getD_eq_getElem?_getD]
section sim
variable {c : Control} (hz : checkC c = 0) (hp : PilC c)
include hz hp
theorem kept_sig {i : Nat} {x : Signal} (hx : c.signals[i]? = some x) (hk : keepL c (firstC c + i) ≠ noneV) (hn : ¬ (x.kind = 0 ∧ x.on.op = 1)) :
    ∃ (q : Int) (m : Nat) (z : Signal), Need c q ∧ q = clsL c (firstC c + i) ∧ keepL c (firstC c + i) = firstC c + posN c q ∧ q = firstC c + m ∧ c.signals[m]? = some z ∧ (redC c).signals[posN c q]? = some (redX c z) ∧ x.kind = z.kind ∧ x.delay = z.delay ∧ x.init = z.init ∧
      repE x.on (keepP c) = repE z.on (keepP c) ∧ repE x.off (keepP c) = repE z.off (keepP c) ∧ (∀ u, u ∈ varsE x.on ∨ u ∈ varsE x.off → keepL c u ≠ noneV) := by
  have hf := fine_of hz
  have h0 := hf.f0
  have hcf := count_first c
  have hi : i < c.signals.length := (List.getElem?_eq_some_iff.1 hx).1
  have hkr : 0 ≤ firstC c + (i : Int) ∧ firstC c + (i : Int) < countC c := by omega
  have hrep : repP c (firstC c + i) = (x.on.index, x.kind == 0 && x.on.op == 1) := by
    unfold repP
    rw [if_neg (by omega), show (firstC c + (i : Int) - firstC c).toNat = i by omega, hx]
  have hroot : rootP c (firstC c + i) = firstC c + i := by
    rw [root_step hf hkr, hrep, if_neg]
    simp
    intro a b
    exact hn ⟨a, b⟩
  obtain ⟨m, n, a1, a2, a3, a4, a5, a6, a7⟩ := cls_lead hf hkr (by rw [hroot]; omega)
  rw [hroot] at a1
  obtain rfl : i = n := by omega
  have hneed : Need c (clsL c (firstC c + i)) := by
    refine Classical.byContradiction fun hn => hk ?_
    unfold keepL
    rw [if_neg (by omega), if_neg hn]
  have hkl : keepL c (firstC c + i) = firstC c + posN c (clsL c (firstC c + i)) := by
    unfold keepL
    rw [if_neg (by omega), if_pos hneed]
  obtain ⟨m', z, b1, b2, b3⟩ := red_at hf hp hneed
  obtain rfl : m = m' := by omega
  have hid := class_id b2 hx a7
  obtain ⟨i1, i2, i3⟩ := hid.2.2.2 _ rfl
  have rx := sig_right hf hx
  have rz := sig_right hf b2
  have vx := vars_check (hf.on hx).1
  have vz := vars_check (hf.on b2).1
  have wx := off_range hf hx
  have wz := off_range hf b2
  have hus : ∀ u, u ∈ varsE z.on ∨ u ∈ varsE z.off → keepL c u ≠ noneV := by
    intro u hu
    have hu2 : u ∈ useL c (clsL c (firstC c + i)) := by
      unfold useL
      rw [b1, show (firstC c + (m : Int) - firstC c).toNat = m by omega, b2]
      exact (met_uses hf b2 u).2 hu
    have := keep_use hf hp hneed hu2
    intro e
    rw [e] at this
    exact absurd this.1 (by decide)
  refine ⟨_, m, z, hneed, rfl, hkl, a2, b2, b3, hid.1.symm, hid.2.1.symm, hid.2.2.1.symm, rep_keep hf rx.1 rz.1 vx vz i2.symm, rep_keep hf rx.2 rz.2 wx wz i3.symm, ?_⟩
  rintro u (hu | hu)
  · have := (ok_rep _ x.on (Nat.lt_succ_self _) rx.1).1 (ok_keep hf rx.1 rz.1 vx vz i2.symm fun u hu => hus u (.inl hu)) u hu
    rwa [keep_getD (vx u hu)] at this
  · have := (ok_rep _ x.off (Nat.lt_succ_self _) rx.2).1 (ok_keep hf rx.2 rz.2 wx wz i3.symm fun u hu => hus u (.inr hu)) u hu
    rwa [keep_getD (wx u hu)] at this
theorem val_keep {s t : State} (B : Bel c s t) : ∀ (N : Nat) (k : Int), farL c k < N → 0 ≤ k ∧ k < countC c → keepL c k ≠ noneV → (valuesOf (gatesP (redC c) t)).getD (keepL c k).toNat false = (valuesOf (gatesP c s)).getD k.toNat false := by
  have hf := fine_of hz
  have hf2 := fine_of (red_check hz hp)
  have h0 := hf.f0
  have hcf := count_first c
  have hgs := gates_shape B.hs
  have hgt := gates_shape B.ht
  have hrd : ∀ j : Nat, (valuesOf (gatesP (redC c) t)).getD (firstC c + (j : Int)).toNat false = (gatesP (redC c) t).values.getD j false := fun j => vals_sig hgt j
  intro N
  induction N with
  | zero => intro k h; exact absurd h (Nat.not_lt_zero _)
  | succ N ih =>
    intro k hN hk hkk
    rcases Int.lt_or_le k (firstC c) with h1 | h1
    · rw [keep_low hf ⟨hk.1, h1⟩]
      exact vals_low (t := gatesP (redC c) t) hgs B.ends B.inputs ⟨hk.1, h1⟩
    · obtain ⟨i, hi⟩ : ∃ i : Nat, k = firstC c + i := ⟨(k - firstC c).toNat, by omega⟩
      subst hi
      have hil : i < c.signals.length := by omega
      have hx : c.signals[i]? = some c.signals[i] := List.getElem?_eq_getElem hil
      generalize c.signals[i] = x at *
      rw [vals_sig hgs i]
      by_cases hk0 : x.kind = 0
      · have hfar : farL c (firstC c + i) = i + 1 := by
          unfold farL
          rw [if_pos ⟨h1, by rw [show firstC c + (i : Int) - firstC c = i by omega, kindAt_sig hx]; exact hk0⟩]
          omega
        have hlate : ∀ u ∈ varsE x.on, farL c u < N := by
          intro u hu
          unfold farL
          split
          · rename_i h2
            rcases late_not hf hx hk0 u hu with h3 | h3
            · omega
            · exact absurd h2.2 h3
          · omega
        have hge := gates_gate hf B.hs hx hk0
        have hge2 : (gatesP c s).values.getD i false = evalE x.on (valuesOf (gatesP c s)) := by
          rw [List.getD_eq_getElem?_getD, hge]
          rfl
        rw [hge2]
        by_cases hrp : x.on.op = 1
        · have hv : x.on.index ∈ varsE x.on := by rw [varsE_eq]; simp [hrp]
          have hix := vars_check (hf.on hx).1 x.on.index hv
          have hrep : repP c (firstC c + i) = (x.on.index, x.kind == 0 && x.on.op == 1) := by
            unfold repP
            rw [if_neg (by omega), show (firstC c + (i : Int) - firstC c).toNat = i by omega, hx]
          have e : keepL c x.on.index = keepL c (firstC c + i) := by
            refine keep_same ?_
            rw [← cls_root hf hix, ← cls_root hf hk, root_step hf hk, hrep, if_pos (by simp [hk0, hrp])]
          rw [← e, ih x.on.index (hlate _ hv) hix (by rw [e]; exact hkk), evalE_eq, if_neg (by omega), if_pos hrp]
        · obtain ⟨q, m, z, q1, q2, q3, q4, q5, q6, q7, q8, q9, q10, q11, q12⟩ := kept_sig hz hp hx hkk (fun h => hrp h.2)
          rw [q3, hrd]
          have hgx := gates_gate hf2 B.ht q6 (by show z.kind = 0; rw [← q7]; exact hk0)
          rw [List.getD_eq_getElem?_getD, hgx, Option.getD_some]
          show evalE (repE z.on (keepP c)) _ = _
          rw [← q10]
          refine evalE_rep _ x.on (Nat.lt_succ_self _) (sig_right hf hx).1 fun u hu => ?_
          have hur := vars_check (hf.on hx).1 u hu
          rw [keep_getD hur]
          exact ih u (hlate u hu) hur (q12 u (.inl hu))
      · obtain ⟨q, m, z, q1, q2, q3, q4, q5, q6, q7, q8, q9, q10, q11, q12⟩ := kept_sig hz hp hx hkk (fun h => hk0 h.1)
        have hb := (B.sig i x hx hk0 hkk).1
        rw [q3, show (firstC c + (posN c q : Int) - firstC c).toNat = posN c q by omega] at hb
        rw [q3, hrd]
        rw [gate_getD (d := redC c) (by rw [kindAt_sig q6]; show z.kind ≠ 0; rw [← q7]; exact hk0), gate_getD (d := c) (by rw [kindAt_sig hx]; exact hk0)]
        exact hb
theorem val_kept {s t : State} (B : Bel c s t) {k : Int} (hk : 0 ≤ k ∧ k < countC c) (hkk : keepL c k ≠ noneV) : (valuesOf (gatesP (redC c) t)).getD (keepL c k).toNat false = (valuesOf (gatesP c s)).getD k.toNat false := val_keep hz hp B _ k (Nat.lt_succ_self _) hk hkk
theorem Bel.gates {s t : State} (B : Bel c s t) : Bel c (gatesP c s) (gatesP (redC c) t) := by
  have hf := fine_of hz
  refine ⟨gates_shape B.hs, gates_shape B.ht, B.ends, B.valves, B.inputs, fun i y hy hk hkk => ?_⟩
  obtain ⟨q, m, z, q1, q2, q3, q4, q5, q6, q7, q8, q9, q10, q11, q12⟩ := kept_sig hz hp hy hkk (fun h => hk h.1)
  have hb := B.sig i y hy hk hkk
  refine ⟨?_, hb.2⟩
  rw [q3, show (firstC c + (posN c q : Int) - firstC c).toNat = posN c q by omega] at hb ⊢
  rw [gate_getD (d := redC c) (by rw [kindAt_sig q6]; show z.kind ≠ 0; rw [← q7]; exact hk), gate_getD (d := c) (by rw [kindAt_sig hy]; exact hk)]
  exact hb.1
theorem Bel.once {s t : State} (B : Bel c s t) (hv : ∀ k : Int, 0 ≤ k ∧ k < countC c → keepL c k ≠ noneV → (valuesOf t).getD (keepL c k).toNat false = (valuesOf s).getD k.toNat false) : Bel c (onceS c s) (onceS (redC c) t) := by
  have hf := fine_of hz
  refine ⟨once_shape B.hs, once_shape B.ht, B.ends, B.valves, B.inputs, fun i y hy hk hkk => ?_⟩
  obtain ⟨q, m, z, q1, q2, q3, q4, q5, q6, q7, q8, q9, q10, q11, q12⟩ := kept_sig hz hp hy hkk (fun h => hk h.1)
  have hb := B.sig i y hy hk hkk
  rw [q3, show (firstC c + (posN c q : Int) - firstC c).toNat = posN c q by omega] at hb ⊢
  have hi : i < c.signals.length := (List.getElem?_eq_some_iff.1 hy).1
  have hj : posN c q < (redC c).signals.length := (List.getElem?_eq_some_iff.1 q6).1
  have hl1 : s.values.length = c.signals.length := B.hs.2.2.2.1
  have hl2 : s.timers.length = c.signals.length := B.hs.2.2.2.2
  have hl3 : t.values.length = (redC c).signals.length := B.ht.2.2.2.1
  have hl4 : t.timers.length = (redC c).signals.length := B.ht.2.2.2.2
  have g1 : s.values[i]? = some s.values[i] := List.getElem?_eq_getElem (by omega)
  have g2 : s.timers[i]? = some s.timers[i] := List.getElem?_eq_getElem (by omega)
  have g3 : t.values[posN c q]? = some t.values[posN c q] := List.getElem?_eq_getElem (by omega)
  have g4 : t.timers[posN c q]? = some t.timers[posN c q] := List.getElem?_eq_getElem (by omega)
  have e1 : t.values[posN c q] = s.values[i] := by
    have := hb.1
    rwa [List.getD_eq_getElem?_getD, List.getD_eq_getElem?_getD, g1, g3] at this
  have e2 : t.timers[posN c q] = s.timers[i] := by
    have := hb.2
    rwa [List.getD_eq_getElem?_getD, List.getD_eq_getElem?_getD, g2, g4] at this
  have rx := sig_right hf hy
  have ev : ∀ e : Expr, RightE (countC c) e → (∀ u ∈ varsE e, (0 ≤ u ∧ u < countC c) ∧ keepL c u ≠ noneV) → evalE (repE e (keepP c)) (valuesOf t) = evalE e (valuesOf s) := by
    intro e re he
    refine evalE_rep _ e (Nat.lt_succ_self _) re fun u hu => ?_
    obtain ⟨h1, h2⟩ := he u hu
    rw [keep_getD h1]
    exact hv u h1 h2
  have ev1 : evalE (redX c z).on (valuesOf t) = evalE y.on (valuesOf s) := by
    show evalE (repE z.on (keepP c)) _ = _
    rw [← q10]
    exact ev y.on rx.1 fun u hu => ⟨vars_check (hf.on hy).1 u hu, q12 u (.inl hu)⟩
  have ev2 : evalE (redX c z).off (valuesOf t) = evalE y.off (valuesOf s) := by
    show evalE (repE z.off (keepP c)) _ = _
    rw [← q11]
    exact ev y.off rx.2 fun u hu => ⟨off_range hf hy u hu, q12 u (.inr hu)⟩
  have s1 := zStep_at (L := valuesOf s) hy g1 g2
  have s2 := zStep_at (L := valuesOf t) q6 g3 g4
  have hst : sigStep (redC c) t (valuesOf t) (posN c q) = sigStep c s (valuesOf s) i := by
    rw [s1, s2, e1, e2, ev1, ev2, show (redX c z).kind = y.kind from q7.symm]
  show (newV (redC c) t).getD _ false = (newV c s).getD i false ∧ (newT (redC c) t).getD _ 0 = (newT c s).getD i 0
  rw [List.getD_eq_getElem?_getD, List.getD_eq_getElem?_getD, List.getD_eq_getElem?_getD, List.getD_eq_getElem?_getD, zV_at hj, zV_at hi, zT_at hj, zT_at hi, hst]
  exact ⟨rfl, rfl⟩
theorem Bel.round {s t : State} (B : Bel c s t) : Bel c (roundS c s) (roundS (redC c) t) :=
  Bel.once hz hp (Bel.gates hz hp B) fun _ hk hkk => val_kept hz hp B hk hkk
end sim
end Go.Proofs.YtbcjnmifflflfaaGreatDoor
end

section
namespace Go.Proofs.YtbcjnmifflflfaaGreatDoor
set_option maxHeartbeats 1000000
set_option maxRecDepth 10000
section red
variable {c : Control} (hz : checkC c = 0) (hp : PilC c)
include hz hp
theorem keep_kept {u : Int} (hu : 0 ≤ u ∧ u < countC c) (hk : keepL c u ≠ noneV) : 0 ≤ keepL c u ∧ keepL c u < countC (redC c) := by
  rcases keep_range (fine_of hz) hp hu with h | h
  · exact absurd h hk
  · exact h
theorem keep_self {k : Int} (h : Need c k) : keepL c k = firstC c + posN c k ∧ keepL c k ≠ noneV := by
  have hf := fine_of hz
  have hr := need_range hf hp h
  have h0 := hf.f0
  have hc := need_cls hf hp h
  have e : keepL c k = firstC c + posN c k := by
    unfold keepL
    rw [hc, if_neg (by omega), if_pos h]
  refine ⟨e, ?_⟩
  rw [e]
  have := none_neg
  omega
end red
end Go.Proofs.YtbcjnmifflflfaaGreatDoor
end

section
namespace Go.Proofs.YtbcjnmifflflfaaGreatDoor
variable {P : Program}
abbrev Sq := Value × TypeId × Nat × List (List A)
def sq (q : Sq) : Ent := .seq q.1 q.2.1 q.2.2.1 q.2.2.2
theorem inv_shut {x : X} {t u : Nat} {q : Sq} {l : List Sq} {H : Heap} (h : Inv x ((u, sq q) :: (t, .seqs l) :: H)) : Inv x ((t, .seqs (q :: l)) :: H) := by
  have s1 : Ent.sat x (sq q) := h.sat (u, sq q) (by simp)
  have s2 : Ent.sat x (.seqs l) := h.sat (t, .seqs l) (by simp)
  have ap := List.pairwise_cons.1 h.apart
  have ap2 := List.pairwise_cons.1 ap.2
  refine ⟨h.bd, ?_, ?_, ?_⟩
  · intro p hp
    rcases List.mem_cons.1 hp with rfl | hp
    · refine ⟨fun q' hq' => ?_, List.pairwise_cons.2 ⟨fun q' hq' b hb => ?_, s2.2⟩⟩
      · rcases List.mem_cons.1 hq' with rfl | hq'
        · exact s1
        · exact s2.1 q' hq'
      · intro hb2
        exact ap.1 (t, .seqs l) (by simp) b hb ⟨q', hq', hb2⟩
    · exact h.sat p (by simp [hp])
  · intro p hp b hb
    rcases List.mem_cons.1 hp with rfl | hp
    · obtain ⟨q', hq', hb2⟩ := hb
      rcases List.mem_cons.1 hq' with rfl | hq'
      · exact h.own (u, sq q') (by simp) b hb2
      · exact h.own (t, .seqs l) (by simp) b ⟨q', hq', hb2⟩
    · exact h.own p (by simp [hp]) b hb
  · refine List.pairwise_cons.2 ⟨fun p hp b hb => ?_, ap2.2⟩
    obtain ⟨q', hq', hb2⟩ := hb
    rcases List.mem_cons.1 hq' with rfl | hq'
    · exact ap.1 p (by simp [hp]) b hb2
    · exact ap2.1 p hp b ⟨q', hq', hb2⟩
theorem inv_open {x : X} {t u : Nat} {q : Sq} {l : List Sq} {H : Heap} (h : Inv x ((t, .seqs (q :: l)) :: H)) : Inv x ((u, sq q) :: (t, .seqs l) :: H) := by
  have s : Ent.sat x (.seqs (q :: l)) := h.sat (t, .seqs (q :: l)) (by simp)
  obtain ⟨s1, s2⟩ := s
  have s3 := List.pairwise_cons.1 s2
  have ap := List.pairwise_cons.1 h.apart
  refine ⟨h.bd, ?_, ?_, ?_⟩
  · intro p hp
    rcases List.mem_cons.1 hp with rfl | hp
    · exact s1 q (by simp)
    · rcases List.mem_cons.1 hp with rfl | hp
      · exact ⟨fun q' hq' => s1 q' (by simp [hq']), s3.2⟩
      · exact h.sat p (by simp [hp])
  · intro p hp b hb
    rcases List.mem_cons.1 hp with rfl | hp
    · exact h.own (t, .seqs (q :: l)) (by simp) b ⟨q, by simp, hb⟩
    · rcases List.mem_cons.1 hp with rfl | hp
      · obtain ⟨q', hq', hb2⟩ := hb
        exact h.own (t, .seqs (q :: l)) (by simp) b ⟨q', by simp [hq'], hb2⟩
      · exact h.own p (by simp [hp]) b hb
  · refine List.pairwise_cons.2 ⟨fun p hp b hb hb2 => ?_, List.pairwise_cons.2 ⟨fun p hp b hb => ?_, ap.2⟩⟩
    · rcases List.mem_cons.1 hp with rfl | hp
      · obtain ⟨q', hq', hb3⟩ := hb2
        exact s3.1 q' hq' b hb hb3
      · exact ap.1 p hp b ⟨q, by simp, hb⟩ hb2
    · obtain ⟨q', hq', hb3⟩ := hb
      exact ap.1 p hp b ⟨q', by simp [hq'], hb3⟩
theorem inv_shuffle {x : X} {t : Nat} {l l' : List Sq} {H : Heap} (hp : l.Perm l') (h : Inv x ((t, .seqs l) :: H)) : Inv x ((t, .seqs l') :: H) := by
  have ap := List.pairwise_cons.1 h.apart
  have s : Ent.sat x (.seqs l) := h.sat (t, .seqs l) (by simp)
  refine ⟨h.bd, ?_, ?_, List.pairwise_cons.2 ⟨?_, ap.2⟩⟩
  · intro p hpp
    rcases List.mem_cons.1 hpp with rfl | hpp
    · refine ⟨fun q hq => s.1 q (hp.mem_iff.2 hq), (hp.pairwise_iff ?_).1 s.2⟩
      intro a b hab k h1 h2
      exact hab k h2 h1
    · exact h.sat p (by simp [hpp])
  · intro p hpp b hb
    rcases List.mem_cons.1 hpp with rfl | hpp
    · obtain ⟨q, hq, hb2⟩ := hb
      exact h.own (t, .seqs l) (by simp) b ⟨q, hp.mem_iff.2 hq, hb2⟩
    · exact h.own p (by simp [hpp]) b hb
  · intro p hpp b hb
    obtain ⟨q, hq, hb2⟩ := hb
    exact ap.1 p hpp b ⟨q, hp.mem_iff.2 hq, hb2⟩
theorem inv_other {x : X} {t u : Nat} {a b : Sq} {l l' : List Sq} {H : Heap} (hp : (a :: l).Perm (b :: l')) (h : Inv x ((u, sq a) :: (t, .seqs l) :: H)) : Inv x ((u, sq b) :: (t, .seqs l') :: H) :=
  inv_open (inv_shuffle hp (inv_shut h))
theorem CallS.inv {g : FuncId} {az az' : List A} {H H' : Heap} {K : A → Heap → Prop} (hi : ∀ x H0, Inv x (H ++ H0) → Inv x (H' ++ H0)) (ha : ∀ x vs, Ds x az vs → Ds x az' vs) (h : CallS P g az' H' K) : CallS P g az H K :=
  ⟨h.1, fun x args H0 hx hd => h.2 x args H0 (hi x H0 hx) (ha x _ hd)⟩
theorem V.inv {C : Cfg} {c : Code} {E : Env} {H H' : Heap} {Q : PostQ} (hi : ∀ x H0, Inv x (H ++ H0) → Inv x (H' ++ H0)) (h : V C c E H' Q) : V C c E H Q := by
  intro hf x act H0 ms hx he
  exact h hf x act H0 ms (hi x _ hx) he
end Go.Proofs.YtbcjnmifflflfaaGreatDoor
end

section
namespace Go.Proofs.YtbcjnmifflflfaaGreatDoor
variable {P : Program}
def flatB : Ent → Bool
  | .seq _ _ _ rows => rows.all (·.all flatV)
  | .box _ cs => cs.all flatV
  | _ => false
theorem flatB_ok {x y : X} {e : Ent} (h : flatB e = true) (hw : ∀ b, e.own b → y.w.heap[b]? = x.w.heap[b]?) (hs : e.sat x) : e.sat y := by
  cases e <;> simp only [flatB, Bool.false_eq_true] at h
  · rename_i b cs
    obtain ⟨c, ty, h1, h2⟩ := hs
    refine ⟨c, ty, by rw [hw b rfl]; exact h1, flatDs_ok (f := flatV) (fun a v ha hd => flatV_ok ha hd) h h2⟩
  · exact flatE_ok (by simpa [flatE] using h) hw hs
theorem Inv.rawsR {x : X} {A B : Heap} (hi : Inv x (A ++ B)) : Inv x (A ++ rawsOf x B) := by
  have hb : Inv x B := ⟨hi.bd, fun p hp => hi.sat p (List.mem_append.2 (.inr hp)), fun p hp => hi.own p (List.mem_append.2 (.inr hp)), (List.pairwise_append.1 hi.apart).2.1⟩
  have hr := hb.raws
  have ha := List.pairwise_append.1 hi.apart
  refine ⟨hi.bd, ?_, ?_, List.pairwise_append.2 ⟨ha.1, hr.apart, ?_⟩⟩
  · intro p hp
    rcases List.mem_append.1 hp with hp | hp
    · exact hi.sat p (List.mem_append.2 (.inl hp))
    · exact hr.sat p hp
  · intro p hp
    rcases List.mem_append.1 hp with hp | hp
    · exact hi.own p (List.mem_append.2 (.inl hp))
    · exact hr.own p hp
  · intro p hp q hq b h1 h2
    obtain ⟨q', hq', b', hb', rfl⟩ := rawsOf_mem hq
    simp only [Ent.own] at h2
    subst h2
    exact ha.2.2 p hp q' hq' _ h1 hb'
theorem CallS.lendF {g : FuncId} {az az' : List A} {H1 H2 : Heap} {K K' : A → Heap → Prop} (h : CallS P g az' H2 K')
    (hz : ∀ (x y : X) (H0 : Heap) (vs : List Value), Inv x (H1 ++ (H2 ++ H0)) → x.le y → y.w = x.w → (∀ b, (∃ p ∈ H1, p.2.own b) → y.ok b) → Ds x az vs → Ds y az' vs)
    (hk : ∀ r H', K' r H' → flatV r = true ∧ (∀ p ∈ H', flatB p.2 = true) ∧ K r (H' ++ H1)) : CallS P g az (H1 ++ H2) K := by
  refine ⟨h.1, fun x args H0 hi hd => ?_⟩
  have hi' : Inv x (H1 ++ (H2 ++ H0)) := by rwa [List.append_assoc] at hi
  obtain ⟨x', hw, hle, hi0, hok, hok'⟩ := hi'.freeze
  have hd' := hz x x' H0 _ hi' hle hw hok hd
  have hr := hi0.rawsR
  have := h.2 x' args (rawsOf x' H0) hr hd'
  rw [hw] at this
  refine this.mono ?_
  rintro _ _ ⟨y', v, r, H', rfl, rfl, hley, hiy, hv, hkk⟩
  obtain ⟨k1, k2, k3⟩ := hk r H' hkk
  let y : X := ⟨y'.w, fun b => y'.ok b ∧ ¬ ∃ p ∈ H1, p.2.own b⟩
  have hown : ∀ p ∈ H1, ∀ b, p.2.own b → b < x.w.heap.size ∧ ¬ x.ok b := fun p hp b hb => hi'.own p (List.mem_append.2 (.inl hp)) b hb
  have hlexy : x.le y := by
    refine ⟨fun b hb => ⟨⟨(hley.keep b (hle.keep b hb).1).1, fun ⟨p, hp, ho⟩ => (hown p hp b ho).2 hb⟩, ?_⟩, ?_, ?_, ?_, ?_, ?_⟩
    · exact ((hley.keep b (hle.keep b hb).1).2).trans (hle.keep b hb).2
    · exact hley.os.trans hle.os
    · exact hley.output.trans hle.output
    · exact hley.tape.trans hle.tape
    · exact Nat.le_trans hle.size hley.size
    · exact Nat.le_trans hle.drawn hley.drawn
  have hH : ∀ p ∈ H1, ∀ b, p.2.own b → y'.ok b ∧ y'.w.heap[b]? = x.w.heap[b]? := fun p hp b hb => by
    have h1 := hley.keep b (hok b ⟨p, hp, hb⟩)
    exact ⟨h1.1, by rw [h1.2, hw]⟩
  have hH0 : ∀ p ∈ H0, ∀ b, p.2.own b → y'.w.heap[b]? = x.w.heap[b]? ∧ ¬ y'.ok b := fun p hp b hb => by
    have hm := rawsOf_of (x := x') hp hb
    have h1 : y'.w.heap[b]? = some _ := hiy.sat _ (List.mem_append.2 (.inr hm))
    have hlt := (hi0.own p (List.mem_append.2 (.inr hp)) b hb).1
    refine ⟨by rw [h1, ← hw]; simp [hlt], (hiy.own _ (List.mem_append.2 (.inr hm)) b rfl).2⟩
  have hsub : Inv x (H1 ++ H0) := by
    have hs : (H1 ++ H0).Sublist (H1 ++ (H2 ++ H0)) := (List.sublist_append_right H2 H0).append_left H1
    exact ⟨hi'.bd, fun p hp => hi'.sat p (hs.subset hp), fun p hp => hi'.own p (hs.subset hp), hi'.apart.sublist hs⟩
  refine ⟨y, v, r, H' ++ H1, rfl, rfl, hlexy, ?_, flatV_ok k1 hv, k3⟩
  rw [List.append_assoc]
  have sz : ∀ b, b < x.w.heap.size → b < y.w.heap.size := fun b hb => Nat.lt_of_lt_of_le hb hlexy.size
  refine ⟨⟨fun b hb => hiy.bd b hb.1, hi'.bd.tab.mono hlexy⟩, ?_, ?_, ?_⟩
  · intro p hp
    rcases List.mem_append.1 hp with hp | hp
    · exact flatB_ok (x := y') (y := y) (k2 p hp) (fun _ _ => rfl) (hiy.sat p (List.mem_append.2 (.inl hp)))
    · refine Ent.sat_step hlexy (fun b hb => ?_) (hsub.sat p hp)
      rcases List.mem_append.1 hp with hp | hp
      · exact (hH p hp b hb).2
      · exact (hH0 p hp b hb).1
  · intro p hp b hb
    rcases List.mem_append.1 hp with hp | hp
    · have := hiy.own p (List.mem_append.2 (.inl hp)) b hb
      exact ⟨this.1, fun hh => this.2 hh.1⟩
    · rcases List.mem_append.1 hp with hp | hp
      · exact ⟨sz b (hown p hp b hb).1, fun hh => hh.2 ⟨p, hp, hb⟩⟩
      · exact ⟨sz b (hsub.own p (List.mem_append.2 (.inr hp)) b hb).1, fun hh => (hH0 p hp b hb).2 hh.1⟩
  · refine List.pairwise_append.2 ⟨(List.pairwise_append.1 hiy.apart).1, hsub.apart, ?_⟩
    intro p hp q hq b h1 h2
    have hpn := hiy.own p (List.mem_append.2 (.inl hp)) b h1
    rcases List.mem_append.1 hq with hq | hq
    · exact hpn.2 (hH q hq b h2).1
    · exact (List.pairwise_append.1 hiy.apart).2.2 p hp _ (rawsOf_of (x := x') hq h2) b h1 rfl
theorem own_dat {x y : X} {H H0 : Heap} (hi : Inv x (H ++ H0)) (hle : x.le y) (hw : y.w = x.w) (hok : ∀ b, (∃ p ∈ H, p.2.own b) → y.ok b) {t e sz : Nat} {h v : Value} {rows : List (List A)}
    (hg : (t, Ent.seq h e sz rows) ∈ H) (hd : allD rows = true) (hv : D x (.own t h) v) : D y (.dat (.sl (rowsD rows))) v := by
  simp only [D] at hv ⊢
  rw [hv.1]
  exact seq_data (Ent.sat_step hle (fun b _ => by rw [hw]) (hi.sat _ (List.mem_append.2 (.inl hg)))) (fun b hb => hok b ⟨_, hg, hb⟩) hd
theorem Ds_ls {x : X} : ∀ {ls : List L} {vs : List Value}, Ds x (ls.map A.dat) vs → RdLs x ls vs
  | [], [], _ => by simp [RdLs]
  | l :: ls, v :: vs, h => by
    simp only [List.map_cons, Ds, D] at h
    simp only [RdLs]
    exact ⟨h.1, Ds_ls h.2⟩
  | [], _ :: _, h => by simp [Ds] at h
  | _ :: _, [], h => by simp [Ds] at h
theorem ptr_rptr {x y : X} {H H0 : Heap} (hi : Inv x (H ++ H0)) (hle : x.le y) (hw : y.w = x.w) (hok : ∀ b, (∃ p ∈ H, p.2.own b) → y.ok b) {t b : Nat} {ls : List L} {v : Value}
    (hg : (t, Ent.box b (ls.map A.dat)) ∈ H) (hv : D x (.ptr t b 0) v) : D y (.rptr ls) v := by
  obtain ⟨c, ty, k1, k2⟩ := hi.sat _ (List.mem_append.2 (.inl hg))
  simp only [D] at hv ⊢
  subst hv
  refine ⟨b, 0, rfl, rdCells_vals (hok b ⟨_, hg, rfl⟩) ls _ 0 (RdLs.mono hle _ _ (Ds_ls k2)) ?_⟩
  intro j u hj
  rw [hw]
  simp only [World.cell?, k1, Nat.zero_add]
  simpa using hj
end Go.Proofs.YtbcjnmifflflfaaGreatDoor
end

section
namespace Go.Proofs.YtbcjnmifflflfaaGreatDoor
set_option maxHeartbeats 4000000
set_option maxRecDepth 10000
theorem like_none (c : Control) (n : Nat) (x y : Signal) (b3 : Nat) (hf : Fine c) (hn : c.signals[n]? = some y) :
    CallS Tryz.prog 190 [aI (firstC c + n), .rptr (encC c), .ptr 3 b3 0, .rptr (encS x)] [(3, .box b3 [.nils])] fun r H' => r = aB true ∧ H' = [(3, .box b3 [.nils])] := by
  obtain ⟨hl, hy⟩ := List.getElem?_eq_some_iff.1 hn
  have e1 : firstC c + (n : Int) - firstC c = n := by omega
  refine CallS.dropP (K := fun r H' => r = aB true ∧ subP [(3, .box b3 [.nils])] H') (callS_of Tryz.func190 rfl Tryz.ntmps190 (rs := [.tmp 5]) rfl (by kernel_rfl) (by simp) (by kernel_rfl) ?_) ?_
  rotate_left
  · rintro r H' ⟨rfl, h⟩
    exact ⟨_, h, rfl, rfl⟩
  simp
  refine V.draw (fun s => if s = 19 then some (.fn (aI (firstC c))) else none) (by kernel_rfl) (by kernel_rfl) (by simp) ?_
  simp [hn, hl, hy, e1]
  have hsg := hf.sig
  refine ⟨firstQ_fn c hf.sm, by omega, fun b => (subP.refl _).c _⟩
theorem like_end {x y : Signal} {p q r s : Expr} {l : List Int} {b6 b7 b9 : Nat} {e1 e2 : Bool} (c3 : CallFn Tryz.prog 59 [aE x.off, aIs l] (.tuple [aE r, aB e1])) (c4 : CallFn Tryz.prog 59 [aE y.off, aIs l] (.tuple [aE s, aB e2]))
    (c5 : CallFn Tryz.prog 191 [aE p, aE q] (aB (sameX p q))) (c6 : CallFn Tryz.prog 191 [aE r, aE s] (aB (sameX r s))) :
    vcC ⟨Tryz.prog, none, 61⟩ (restC Tryz.f190 5) (hdE [(2, .rptr [.sl (l.map encI)]), (3, .rptr (encS x)), (6, .ptr 6 b6 0), (7, .ptr 7 b7 0), (9, .ptr 9 b9 0)] [])
      [(9, .box b9 ((encE q).map A.dat)), (7, .box b7 ((encE p).map A.dat)), (6, .box b6 (sigA y))] (RetV Tryz.prog [.tmp 5] fun r' H' => (frz H' r').1 ∧ (frz H' r').2 = aB (sameX p q && sameX r s)) := by
  refine vc_rest rfl ?_
  simp [encE_eq]
  refine c3.s ?_
  simp
  intro b11
  refine c4.s ?_
  simp
  intro b13
  refine c5.s ?_
  simp
  refine GCall.fn (aB (sameX r s)) (fun h => ⟨h, c6⟩) ?_
  cases sameX p q <;> simp
theorem like_mid {x y : Signal} {p q r s : Expr} {l : List Int} {b6 : Nat} {e1 e2 e3 e4 : Bool} (c1 : CallFn Tryz.prog 59 [aE x.on, aIs l] (.tuple [aE p, aB e3])) (c2 : CallFn Tryz.prog 59 [aE y.on, aIs l] (.tuple [aE q, aB e4]))
    (c3 : CallFn Tryz.prog 59 [aE x.off, aIs l] (.tuple [aE r, aB e1])) (c4 : CallFn Tryz.prog 59 [aE y.off, aIs l] (.tuple [aE s, aB e2]))
    (c5 : CallFn Tryz.prog 191 [aE p, aE q] (aB (sameX p q))) (c6 : CallFn Tryz.prog 191 [aE r, aE s] (aB (sameX r s))) :
    vcN ⟨Tryz.prog, none, 61⟩ 2 (restC Tryz.f190 3) (hdE [(2, .rptr [.sl (l.map encI)]), (3, .rptr (encS x)), (6, .ptr 6 b6 0)] [])
      [(6, .box b6 (sigA y))] (RetV Tryz.prog [.tmp 5] fun r' H' => (frz H' r').1 ∧ (frz H' r').2 = aB (sameX p q && sameX r s)) := by
  refine vcN_rest rfl ?_
  simp
  refine c1.s ?_
  simp
  intro b7
  refine c2.s ?_
  simp
  intro b9
  refine V.cut [(2, .rptr [.sl (l.map encI)]), (3, .rptr (encS x)), (6, .ptr 6 b6 0), (7, .ptr 7 b7 0), (9, .ptr 9 b9 0)] (by simp) (by simp [encE_eq]) (vc_of_rest rfl (like_end (b6 := b6) (b7 := b7) (b9 := b9) c3 c4 c5 c6))
theorem like_some (c : Control) (l : List Int) (a n : Nat) (x y : Signal) (hf : Fine c) (hc : OkC c) (hx : c.signals[a]? = some x) (hn : c.signals[n]? = some y) (ho : OkO c (some l)) :
    CallFn Tryz.prog 190 [aI (firstC c + n), .rptr (encC c), .rptr [.sl (l.map encI)], .rptr (encS x)] (aB (sameX (repE x.on l) (repE y.on l) && sameX (repE x.off l) (repE y.off l))) := by
  obtain ⟨ha, hx1⟩ := List.getElem?_eq_some_iff.1 hx
  obtain ⟨hb, hy1⟩ := List.getElem?_eq_some_iff.1 hn
  have hsm := hf.sm
  have rx := sig_right hf hx
  have ry := sig_right hf hn
  have ox := hc.sigs x (List.mem_of_getElem? hx)
  have oy := hc.sigs y (List.mem_of_getElem? hn)
  obtain ⟨h1, hI⟩ := ho l rfl
  have r5 : l.length ≤ 1000000 := by
    have := hf.act
    have := hf.inp
    have := hf.sig
    unfold countC at h1
    omega
  have r6 : l ≠ [] := by
    intro e
    rw [e] at h1
    have := hf.act
    unfold countC at h1
    simp at h1
    omega
  rw [← h1] at rx ry
  have o1 := rep_ok hI _ x.on (Nat.lt_succ_self _) ox.on
  have o2 := rep_ok hI _ y.on (Nat.lt_succ_self _) oy.on
  have o3 := rep_ok hI _ x.off (Nat.lt_succ_self _) ox.off
  have o4 := rep_ok hI _ y.off (Nat.lt_succ_self _) oy.off
  have c1 := replaced_fn l r5 _ x.on (Nat.lt_succ_self _) ox.on rx.1
  have c2 := replaced_fn l r5 _ y.on (Nat.lt_succ_self _) oy.on ry.1
  have c3 := replaced_fn l r5 _ x.off (Nat.lt_succ_self _) ox.off rx.2
  have c4 := replaced_fn l r5 _ y.off (Nat.lt_succ_self _) oy.off ry.2
  have c5 := sameE_fn _ _ o1 o2
  have c6 := sameE_fn _ _ o3 o4
  generalize repE x.on l = p at *
  generalize repE y.on l = q at *
  generalize repE x.off l = r at *
  generalize repE y.off l = s at *
  refine callFz_cut 3 Tryz.func190 rfl Tryz.ntmps190 (rs := [.tmp 5]) rfl (by kernel_rfl) (by simp) (by kernel_rfl) ?_
  simp
  refine V.draw (fun s => if s = 19 then some (.fn (aI (firstC c))) else none) (by kernel_rfl) (by kernel_rfl) (by simp) ?_
  have e1 : firstC c + (n : Int) - firstC c = n := by omega
  simp [hn, hb, hy1, e1]
  have hsg := hf.sig
  refine ⟨firstQ_fn c hf.sm, by omega, fun b6 => ⟨r6, V.cutN 2 [(2, .rptr [.sl (l.map encI)]), (3, .rptr (encS x)), (6, .ptr 6 b6 0)] (by simp) (by simp) (vcN_of_rest rfl (like_mid (b6 := b6) c1 c2 c3 c4 c5 c6))⟩⟩
end Go.Proofs.YtbcjnmifflflfaaGreatDoor
end

section
namespace Go.Proofs.YtbcjnmifflflfaaGreatDoor
set_option maxHeartbeats 1000000
set_option maxRecDepth 10000
variable {P : Program}
abbrev Grp := Value × Value × List Int
def msL : List Grp → Nat → List MapEntry
  | [], _ => []
  | g :: r, n => { key := g.1, val := g.2.1, born := n } :: msL r (n + 1)
def msF (l : List Grp) : Array MapEntry := (msL l 0).toArray
theorem msL_app : ∀ (a b : List Grp) (n : Nat), msL (a ++ b) n = msL a n ++ msL b (n + a.length)
  | [], b, n => by simp [msL]
  | g :: a, b, n => by
    simp only [List.cons_append, msL, msL_app a b (n + 1), List.length_cons]
    rw [show n + 1 + a.length = n + (a.length + 1) by omega]
theorem msL_len : ∀ (a : List Grp) (n : Nat), (msL a n).length = a.length
  | [], _ => rfl
  | _ :: a, n => by simp [msL, msL_len a (n + 1)]
theorem msL_mem : ∀ (a : List Grp) (n : Nat) (e : MapEntry), e ∈ msL a n → n ≤ e.born ∧ e.born < n + a.length ∧ ∃ g ∈ a, e.key = g.1 ∧ e.val = g.2.1
  | [], _, e, h => by simp [msL] at h
  | g :: a, n, e, h => by
    simp only [msL, List.mem_cons] at h
    rcases h with rfl | h
    · exact ⟨Nat.le_refl _, by simp, g, by simp, rfl, rfl⟩
    · obtain ⟨h1, h2, g', h3, h4⟩ := msL_mem a (n + 1) e h
      exact ⟨by omega, by simp; omega, g', by simp [h3], h4⟩
theorem msL_born : ∀ (a : List Grp) (n : Nat), ((msL a n).map (·.born)).Nodup
  | [], _ => by simp [msL]
  | g :: a, n => by
    simp only [msL, List.map_cons, List.nodup_cons]
    refine ⟨?_, msL_born a (n + 1)⟩
    intro h
    obtain ⟨e, he, h1⟩ := List.mem_map.1 h
    have := (msL_mem a (n + 1) e he).1
    omega
theorem msL_keys : ∀ (a : List Grp) (n : Nat), (msL a n).map (·.key) = a.map (·.1)
  | [], _ => rfl
  | g :: a, n => by simp [msL, msL_keys a (n + 1)]
structure GoodG (P : Program) (kt : TypeId) (l : List Grp) : Prop where
  nodup : (l.map (·.1)).Nodup
  good : ∀ g ∈ l, goodK P kt g.1
theorem GoodG.map {kt : TypeId} {l : List Grp} (h : GoodG P kt l) : goodM P kt (msF l) l.length := by
  refine ⟨⟨?_, ?_, ?_⟩, ?_⟩
  · intro e he
    have := (msL_mem l 0 e (by simpa [msF] using he)).2.1
    omega
  · simpa [msF] using msL_born l 0
  · simpa [msF, msL_keys] using h.nodup
  · intro e he
    obtain ⟨g, hg, h1, h2⟩ := (msL_mem l 0 e (by simpa [msF] using he)).2.2
    rw [h1]
    exact h.good g hg
theorem find_none {kt : TypeId} (K : WideMaps.KeyLaw P kt) {l : List Grp} {key : Value} (hk : goodK P kt key) (hg : ∀ g ∈ l, goodK P kt g.1) (hn : key ∉ l.map (·.1)) (n : Nat) : findM P kt (msL l n) key = none := by
  unfold findM
  rw [List.find?_eq_none]
  intro e he
  obtain ⟨g, hgm, h1, h2⟩ := (msL_mem l n e he).2.2
  simp only [decide_eq_true_eq, h1]
  intro h
  have := (keyBs_eq K (hg g hgm) hk).1 h
  exact hn (List.mem_map.2 ⟨g, hgm, this⟩)
theorem find_at {kt : TypeId} (K : WideMaps.KeyLaw P kt) {a b : List Grp} {key h : Value} {xs : List Int} (hk : goodK P kt key) (hg : ∀ g ∈ a, goodK P kt g.1) (hn : key ∉ a.map (·.1)) : findM P kt (msF (a ++ (key, h, xs) :: b)).toList key = some { key := key, val := h, born := a.length } := by
  have h1 := find_none K hk hg hn 0
  unfold findM at h1 ⊢
  simp only [msF, msL_app, List.find?_append, h1, msL, Nat.zero_add]
  simp
theorem ent_at {kt : TypeId} (K : WideMaps.KeyLaw P kt) {a b : List Grp} {key h : Value} {xs : List Int} (hk : goodK P kt key) (hg : ∀ g ∈ a, goodK P kt g.1) (hn : key ∉ a.map (·.1)) :
    entM P kt (msF (a ++ (key, h, xs) :: b)) (a ++ (key, h, xs) :: b).length key = (msF (a ++ (key, h, xs) :: b), (a ++ (key, h, xs) :: b).length, h, a.length) := by
  unfold entM
  rw [find_at K hk hg hn]
theorem ent_new {kt : TypeId} (K : WideMaps.KeyLaw P kt) {a : List Grp} {key : Value} (hk : goodK P kt key) (hg : ∀ g ∈ a, goodK P kt g.1) (hn : key ∉ a.map (·.1)) :
    entM P kt (msF a) a.length key = (msF (a ++ [(key, .slice none 0 0, [])]), a.length + 1, .slice none 0 0, a.length) := by
  unfold entM
  rw [show (msF a).toList = msL a 0 from rfl, find_none K hk hg hn 0]
  simp [msF, msL_app, msL]
theorem born_idx : ∀ (l : List Grp) (n j : Nat), j < l.length → ((msL l n).findIdx? fun e => (e.born : Int) == ((n + j : Nat) : Int)) = some j
  | [], _, _, h => absurd h (Nat.not_lt_zero _)
  | g :: l, n, 0, _ => by simp [msL, List.findIdx?_cons]
  | g :: l, n, j + 1, h => by
    have ih := born_idx l (n + 1) j (by simpa using h)
    rw [show n + 1 + j = n + (j + 1) by omega] at ih
    have hne : ((n : Int) == ((n + (j + 1) : Nat) : Int)) = false := by
      rw [beq_eq_false_iff_ne]
      omega
    simp only [msL, List.findIdx?_cons, hne, ih]
    rfl
theorem modify_mid {α : Type} (f : α → α) (x : α) (b : List α) : ∀ a : List α, (a ++ x :: b).modify a.length f = a ++ f x :: b
  | [] => by simp
  | y :: a => by simp [modify_mid f x b a]
theorem set_at {a b : List Grp} {key h h' : Value} {xs xs' : List Int} : hasB (msF (a ++ (key, h, xs) :: b)) a.length ∧ setB (msF (a ++ (key, h, xs) :: b)) a.length h' = msF (a ++ (key, h', xs') :: b) := by
  have hi := born_idx (a ++ (key, h, xs) :: b) 0 a.length (by simp)
  rw [Nat.zero_add] at hi
  have e : ((msF (a ++ (key, h, xs) :: b)).findIdx? fun e => (e.born : Int) == (a.length : Int)) = some a.length := by
    unfold msF
    rw [List.findIdx?_toArray]
    exact hi
  refine ⟨by unfold hasB; rw [e]; rfl, ?_⟩
  unfold setB
  rw [e]
  unfold msF
  simp only [List.modify_toArray, msL_app, msL]
  have := modify_mid (fun e : MapEntry => { e with val := h' }) { key := key, val := h, born := 0 + a.length } (msL b (0 + a.length + 1)) (msL a 0)
  rw [msL_len] at this
  rw [this]
def keyV (k d : Int) (i : Bool) (o : Int) : Value := .agg #[.int .i64 k, .int .i64 d, .bool i, .int .i64 o]
theorem keyV_inj {k d k' d' : Int} {i i' : Bool} {o o' : Int} : keyV k d i o = keyV k' d' i' o' ↔ k = k' ∧ d = d' ∧ i = i' ∧ o = o' := by
  simp [keyV]
theorem wf64 {n : Int} (h : I64 n) : (Lit.int .i64 n).wf = true := by
  unfold Lit.wf
  have h1 : IntKind.min .i64 = -9223372036854775808 := by decide
  have h2 : IntKind.max .i64 = 9223372036854775807 := by decide
  simp [h1, h2]
  exact h
theorem look_good {k d o : Int} (i : Bool) (hk : I64 k) (hd : I64 d) (ho : I64 o) : goodK Tryz.prog 261 (keyV k d i o) := by
  have h0 : (match Tryz.prog.underlying 261 with
    | some (.struct fs) => decide (fs.toList.map (fun f : Field => (f.type, f.offset)) = [(3, 0), (3, 1), (4, 2), (3, 3)]) && fs.all (fun f : Field => f.name != "_")
    | _ => false) = true := by kernel_rfl
  split at h0 <;> try (cases h0; done)
  rename_i fs hu
  simp only [Bool.and_eq_true, decide_eq_true_eq] at h0
  obtain ⟨h1, h2⟩ := h0
  have hkt : Tryz.prog.keyType 261 = true := by kernel_rfl
  have hc : Tryz.prog.cellsOf 261 = 4 := by kernel_rfl
  have hci : Tryz.prog.cellsOf 3 = 1 := by kernel_rfl
  have hcb : Tryz.prog.cellsOf 4 = 1 := by kernel_rfl
  have hi : Tryz.prog.underlying 3 = some (.int .i64) := by kernel_rfl
  have hb : Tryz.prog.underlying 4 = some .bool := by kernel_rfl
  have hpos : decide (0 < Tryz.prog.types.size) = true := by kernel_rfl
  obtain ⟨m, hm⟩ : ∃ m, Tryz.prog.types.size = m + 1 := ⟨Tryz.prog.types.size - 1, by
    have := of_decide_eq_true hpos
    omega⟩
  have hI : ∀ n, I64 n → Tryz.prog.keyLits (m + 1) 3 [.int .i64 n] = some [.int .i64 n] := by
    intro n hn
    simp [Program.keyLits, hi, wf64 hn]
  have hB : Tryz.prog.keyLits (m + 1) 4 [.bool i] = some [.bool i] := by simp [Program.keyLits, hb]
  have hl : Tryz.prog.keyLits (Tryz.prog.types.size + 1) 261 [.int .i64 k, .int .i64 d, .bool i, .int .i64 o] = some [.int .i64 k, .int .i64 d, .bool i, .int .i64 o] := by
    rw [hm]
    unfold Program.keyLits
    rw [hu]
    simp only [hc, h2]
    have hmm : ∀ l : List (TypeId × Nat), l = fs.toList.map (fun f : Field => (f.type, f.offset)) → (fs.toList.mapM fun f : Field => Tryz.prog.keyLits (m + 1) f.type ((([.int .i64 k, .int .i64 d, .bool i, .int .i64 o] : List Value).drop f.offset).take (Tryz.prog.cellsOf f.type))) = l.mapM fun p => Tryz.prog.keyLits (m + 1) p.1 ((([.int .i64 k, .int .i64 d, .bool i, .int .i64 o] : List Value).drop p.2).take (Tryz.prog.cellsOf p.1)) := by
      rintro l rfl
      rw [List.mapM_map]
      rfl
    rw [hmm _ h1.symm]
    simp [hci, hcb, hI _ hk, hI _ hd, hI _ ho, hB]
  unfold goodK keyBs keyOf
  rw [hu]
  simp only [hkt]
  have hf : (keyV k d i o).formed Tryz.prog 261 = true := by
    simp [keyV, Value.formed, hu, hc]
  have hcs : (keyV k d i o).cells.toList = [.int .i64 k, .int .i64 d, .bool i, .int .i64 o] := rfl
  rw [hf, hcs, hl]
  rfl
theorem look_law : WideMaps.KeyLaw Tryz.prog 261 := by
  have h0 : rmT Tryz.prog 259 = some 261 := by kernel_rfl
  obtain ⟨et, i, fs, h1, h2, h3, h4, K⟩ := rmT_und h0
  exact K
end Go.Proofs.YtbcjnmifflflfaaGreatDoor
end
