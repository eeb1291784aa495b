/- Texts joined by a program: Zf, Zi, Xb. -/
import Derived.Test.YthlpelkcmmaokaaGreatP6
import Derived.Test.YthlpelkcmmaokaaGreatP7
import Derived.Test.YthlpelkcmmaokaaGreatP5
set_option linter.unusedSimpArgs false
set_option linter.unusedVariables false

/- Plain laws: a reduced control does what the control does. -/
section
namespace Go.Proofs.YthlpelkcmmaokaaGreat
set_option maxHeartbeats 1000000
set_option maxRecDepth 10000

theorem zV_at {c : Control} {s : State} {i : Nat} (h : i < c.signals.length) : (newV c s)[i]? = some (sigStep c s (valuesOf s) i).1 := by simp [newV, h]
theorem zT_at {c : Control} {s : State} {i : Nat} (h : i < c.signals.length) : (newT c s)[i]? = some (sigStep c s (valuesOf s) i).2.1 := by simp [newT, h]
theorem zStep_at {c : Control} {s : State} {L : List Bool} {i : Nat} {x : Signal} {v : Bool} {t : Int} (hx : c.signals[i]? = some x) (hv : s.values[i]? = some v) (ht : s.timers[i]? = some t) : sigStep c s L i = stepV x.kind v t (evalE x.on L) (x.kind == 1 && evalE x.off L) := by
  unfold sigStep
  rw [hx, hv, ht]
theorem evalE_rep {n : Int} {l : List Int} {vs ws : List Bool} : ∀ (N : Nat) (x : Expr), SizeOf.sizeOf x < N → RightE n x → (∀ u ∈ varsE x, ws.getD (l.getD u.toNat 0).toNat false = vs.getD u.toNat false) → evalE (repE x l) ws = evalE x vs
  | 0, _, h, _, _ => absurd h (Nat.not_lt_zero _)
  | N + 1, x, hN, hr, hu => by
    have hL : ∀ xs : List Expr, (∀ y ∈ xs, y ∈ x.args) → evalL (repL xs l) ws = evalL xs vs := by
      intro xs
      induction xs with
      | nil => intro _; rfl
      | cons y xs ih =>
        intro h
        have hy := h y (by simp)
        simp only [repL, evalL]
        rw [evalE_rep N y (by have := Expr.lt_of_mem hy; omega) (hr.args y hy) (fun u huy => hu u (by rw [varsE_eq]; exact List.mem_append.2 (.inr (varsL_mem huy hy)))), ih fun z hz => h z (by simp [hz])]
    rw [repE_eq, evalE_eq x vs]
    by_cases ho : x.op = 1
    · rw [if_pos ho, evalE_eq]
      have := hu x.index (by rw [varsE_eq]; simp [ho])
      simp only [ho]
      simpa using this
    · rw [if_neg ho, evalE_eq]
      simp only
      rw [hL x.args fun _ h => h, if_neg ho, if_neg ho]
theorem vals_low {c : Control} {s t : State} (hs : shapeS c s) (he : t.ends = s.ends) (hi : t.inputs = s.inputs) {k : Int} (hk : 0 ≤ k ∧ k < firstC c) : (valuesOf t).getD k.toNat false = (valuesOf s).getD k.toNat false := by
  unfold valuesOf
  rw [he, hi, List.getD_eq_getElem?_getD, List.getD_eq_getElem?_getD]
  have hl : (endsV s.ends ++ s.inputs).length = (firstC c).toNat := by
    rw [List.length_append, endsV_length]
    have h1 := hs.1
    have h2 := hs.2.2.1
    unfold firstC
    omega
  have hlt : k.toNat < (endsV s.ends ++ s.inputs).length := by omega
  rw [List.getElem?_append_left hlt, List.getElem?_append_left hlt]
theorem vals_sig {c : Control} {s : State} (hs : shapeS c s) (i : Nat) : (valuesOf s).getD (firstC c + i).toNat false = s.values.getD i false := by
  unfold valuesOf
  have hl : (endsV s.ends ++ s.inputs).length = (firstC c).toNat := by
    rw [List.length_append, endsV_length]
    have h1 := hs.1
    have h2 := hs.2.2.1
    unfold firstC
    omega
  have h0 : 0 ≤ firstC c := by
    have h1 := hs.1
    unfold firstC
    omega
  rw [List.getD_eq_getElem?_getD, List.getElem?_append_right (by omega), hl, show (firstC c + (i : Int)).toNat - (firstC c).toNat = i by omega, List.getD_eq_getElem?_getD]

/-- A state of the reduced control that belongs to a state of the control. -/
structure Bel (c : Control) (s t : State) : Prop where
  hs : shapeS c s
  ht : shapeS (redC c) t
  ends : t.ends = s.ends
  valves : t.valves = s.valves
  inputs : t.inputs = s.inputs
  sig : ∀ (i : Nat) (y : Signal), c.signals[i]? = some y → y.kind ≠ 0 → keepL c (firstC c + i) ≠ noneV → t.values.getD (keepL c (firstC c + i) - firstC c).toNat false = s.values.getD i false ∧ t.timers.getD (keepL c (firstC c + i) - firstC c).toNat 0 = s.timers.getD i 0

theorem gate_getD {d : Control} {s : State} {i : Nat} (h : kindAt d i ≠ 0) : (gatesP d s).values.getD i false = s.values.getD i false := by
  rw [List.getD_eq_getElem?_getD, gates_keep h, List.getD_eq_getElem?_getD]
section sim
variable {c : Control} (hz : checkC c = 0) (hp : PilC c)
include hz hp
/-- What a signal that is kept is in the reduced control, unless it repeats a line. -/
theorem kept_sig {i : Nat} {x : Signal} (hx : c.signals[i]? = some x) (hk : keepL c (firstC c + i) ≠ noneV) (hn : ¬ (x.kind = 0 ∧ x.on.op = 1)) :
    ∃ (q : Int) (m : Nat) (z : Signal), Need c q ∧ q = clsL c (firstC c + i) ∧ keepL c (firstC c + i) = firstC c + posN c q ∧ q = firstC c + m ∧ c.signals[m]? = some z ∧ (redC c).signals[posN c q]? = some (redX c z) ∧ x.kind = z.kind ∧ x.delay = z.delay ∧ x.init = z.init ∧
      repE x.on (keepP c) = repE z.on (keepP c) ∧ repE x.off (keepP c) = repE z.off (keepP c) ∧ (∀ u, u ∈ varsE x.on ∨ u ∈ varsE x.off → keepL c u ≠ noneV) := by
  have hf := fine_of hz
  have h0 := hf.f0
  have hcf := count_first c
  have hi : i < c.signals.length := (List.getElem?_eq_some_iff.1 hx).1
  have hkr : 0 ≤ firstC c + (i : Int) ∧ firstC c + (i : Int) < countC c := by omega
  have hrep : repP c (firstC c + i) = (x.on.index, x.kind == 0 && x.on.op == 1) := by
    unfold repP
    rw [if_neg (by omega), show (firstC c + (i : Int) - firstC c).toNat = i by omega, hx]
  have hroot : rootP c (firstC c + i) = firstC c + i := by
    rw [root_step hf hkr, hrep, if_neg]
    simp
    intro a b
    exact hn ⟨a, b⟩
  obtain ⟨m, n, a1, a2, a3, a4, a5, a6, a7⟩ := cls_lead hf hkr (by rw [hroot]; omega)
  rw [hroot] at a1
  obtain rfl : i = n := by omega
  have hneed : Need c (clsL c (firstC c + i)) := by
    refine Classical.byContradiction fun hn => hk ?_
    unfold keepL
    rw [if_neg (by omega), if_neg hn]
  have hkl : keepL c (firstC c + i) = firstC c + posN c (clsL c (firstC c + i)) := by
    unfold keepL
    rw [if_neg (by omega), if_pos hneed]
  obtain ⟨m', z, b1, b2, b3⟩ := red_at hf hp hneed
  obtain rfl : m = m' := by omega
  have hid := class_id b2 hx a7
  obtain ⟨i1, i2, i3⟩ := hid.2.2.2 _ rfl
  have rx := sig_right hf hx
  have rz := sig_right hf b2
  have vx := vars_check (hf.on hx).1
  have vz := vars_check (hf.on b2).1
  have wx := off_range hf hx
  have wz := off_range hf b2
  have hus : ∀ u, u ∈ varsE z.on ∨ u ∈ varsE z.off → keepL c u ≠ noneV := by
    intro u hu
    have hu2 : u ∈ useL c (clsL c (firstC c + i)) := by
      unfold useL
      rw [b1, show (firstC c + (m : Int) - firstC c).toNat = m by omega, b2]
      exact (met_uses hf b2 u).2 hu
    have := keep_use hf hp hneed hu2
    intro e
    rw [e] at this
    exact absurd this.1 (by decide)
  refine ⟨_, m, z, hneed, rfl, hkl, a2, b2, b3, hid.1.symm, hid.2.1.symm, hid.2.2.1.symm, rep_keep hf rx.1 rz.1 vx vz i2.symm, rep_keep hf rx.2 rz.2 wx wz i3.symm, ?_⟩
  rintro u (hu | hu)
  · have := (ok_rep _ x.on (Nat.lt_succ_self _) rx.1).1 (ok_keep hf rx.1 rz.1 vx vz i2.symm fun u hu => hus u (.inl hu)) u hu
    rwa [keep_getD (vx u hu)] at this
  · have := (ok_rep _ x.off (Nat.lt_succ_self _) rx.2).1 (ok_keep hf rx.2 rz.2 wx wz i3.symm fun u hu => hus u (.inr hu)) u hu
    rwa [keep_getD (wx u hu)] at this
/-- A line that is kept has the value of its image, when gates are computed. -/
theorem val_keep {s t : State} (B : Bel c s t) : ∀ (N : Nat) (k : Int), farL c k < N → 0 ≤ k ∧ k < countC c → keepL c k ≠ noneV → (valuesOf (gatesP (redC c) t)).getD (keepL c k).toNat false = (valuesOf (gatesP c s)).getD k.toNat false := by
  have hf := fine_of hz
  have hf2 := fine_of (red_check hz hp)
  have h0 := hf.f0
  have hcf := count_first c
  have hgs := gates_shape B.hs
  have hgt := gates_shape B.ht
  have hrd : ∀ j : Nat, (valuesOf (gatesP (redC c) t)).getD (firstC c + (j : Int)).toNat false = (gatesP (redC c) t).values.getD j false := fun j => vals_sig hgt j
  intro N
  induction N with
  | zero => intro k h; exact absurd h (Nat.not_lt_zero _)
  | succ N ih =>
    intro k hN hk hkk
    rcases Int.lt_or_le k (firstC c) with h1 | h1
    · rw [keep_low hf ⟨hk.1, h1⟩]
      exact vals_low (t := gatesP (redC c) t) hgs B.ends B.inputs ⟨hk.1, h1⟩
    · obtain ⟨i, hi⟩ : ∃ i : Nat, k = firstC c + i := ⟨(k - firstC c).toNat, by omega⟩
      subst hi
      have hil : i < c.signals.length := by omega
      have hx : c.signals[i]? = some c.signals[i] := List.getElem?_eq_getElem hil
      generalize c.signals[i] = x at *
      rw [vals_sig hgs i]
      by_cases hk0 : x.kind = 0
      · have hfar : farL c (firstC c + i) = i + 1 := by
          unfold farL
          rw [if_pos ⟨h1, by rw [show firstC c + (i : Int) - firstC c = i by omega, kindAt_sig hx]; exact hk0⟩]
          omega
        have hlate : ∀ u ∈ varsE x.on, farL c u < N := by
          intro u hu
          unfold farL
          split
          · rename_i h2
            rcases late_not hf hx hk0 u hu with h3 | h3
            · omega
            · exact absurd h2.2 h3
          · omega
        have hge := gates_gate hf B.hs hx hk0
        have hge2 : (gatesP c s).values.getD i false = evalE x.on (valuesOf (gatesP c s)) := by
          rw [List.getD_eq_getElem?_getD, hge]
          rfl
        rw [hge2]
        by_cases hrp : x.on.op = 1
        · have hv : x.on.index ∈ varsE x.on := by rw [varsE_eq]; simp [hrp]
          have hix := vars_check (hf.on hx).1 x.on.index hv
          have hrep : repP c (firstC c + i) = (x.on.index, x.kind == 0 && x.on.op == 1) := by
            unfold repP
            rw [if_neg (by omega), show (firstC c + (i : Int) - firstC c).toNat = i by omega, hx]
          have e : keepL c x.on.index = keepL c (firstC c + i) := by
            refine keep_same ?_
            rw [← cls_root hf hix, ← cls_root hf hk, root_step hf hk, hrep, if_pos (by simp [hk0, hrp])]
          rw [← e, ih x.on.index (hlate _ hv) hix (by rw [e]; exact hkk), evalE_eq, if_neg (by omega), if_pos hrp]
        · obtain ⟨q, m, z, q1, q2, q3, q4, q5, q6, q7, q8, q9, q10, q11, q12⟩ := kept_sig hz hp hx hkk (fun h => hrp h.2)
          rw [q3, hrd]
          have hgx := gates_gate hf2 B.ht q6 (by show z.kind = 0; rw [← q7]; exact hk0)
          rw [List.getD_eq_getElem?_getD, hgx, Option.getD_some]
          show evalE (repE z.on (keepP c)) _ = _
          rw [← q10]
          refine evalE_rep _ x.on (Nat.lt_succ_self _) (sig_right hf hx).1 fun u hu => ?_
          have hur := vars_check (hf.on hx).1 u hu
          rw [keep_getD hur]
          exact ih u (hlate u hu) hur (q12 u (.inl hu))
      · obtain ⟨q, m, z, q1, q2, q3, q4, q5, q6, q7, q8, q9, q10, q11, q12⟩ := kept_sig hz hp hx hkk (fun h => hk0 h.1)
        have hb := (B.sig i x hx hk0 hkk).1
        rw [q3, show (firstC c + (posN c q : Int) - firstC c).toNat = posN c q by omega] at hb
        rw [q3, hrd]
        rw [gate_getD (d := redC c) (by rw [kindAt_sig q6]; show z.kind ≠ 0; rw [← q7]; exact hk0), gate_getD (d := c) (by rw [kindAt_sig hx]; exact hk0)]
        exact hb
theorem val_kept {s t : State} (B : Bel c s t) {k : Int} (hk : 0 ≤ k ∧ k < countC c) (hkk : keepL c k ≠ noneV) : (valuesOf (gatesP (redC c) t)).getD (keepL c k).toNat false = (valuesOf (gatesP c s)).getD k.toNat false := val_keep hz hp B _ k (Nat.lt_succ_self _) hk hkk
theorem Bel.gates {s t : State} (B : Bel c s t) : Bel c (gatesP c s) (gatesP (redC c) t) := by
  have hf := fine_of hz
  refine ⟨gates_shape B.hs, gates_shape B.ht, B.ends, B.valves, B.inputs, fun i y hy hk hkk => ?_⟩
  obtain ⟨q, m, z, q1, q2, q3, q4, q5, q6, q7, q8, q9, q10, q11, q12⟩ := kept_sig hz hp hy hkk (fun h => hk h.1)
  have hb := B.sig i y hy hk hkk
  refine ⟨?_, hb.2⟩
  rw [q3, show (firstC c + (posN c q : Int) - firstC c).toNat = posN c q by omega] at hb ⊢
  rw [gate_getD (d := redC c) (by rw [kindAt_sig q6]; show z.kind ≠ 0; rw [← q7]; exact hk), gate_getD (d := c) (by rw [kindAt_sig hy]; exact hk)]
  exact hb.1
theorem Bel.once {s t : State} (B : Bel c s t) (hv : ∀ k : Int, 0 ≤ k ∧ k < countC c → keepL c k ≠ noneV → (valuesOf t).getD (keepL c k).toNat false = (valuesOf s).getD k.toNat false) : Bel c (onceS c s) (onceS (redC c) t) := by
  have hf := fine_of hz
  refine ⟨once_shape B.hs, once_shape B.ht, B.ends, B.valves, B.inputs, fun i y hy hk hkk => ?_⟩
  obtain ⟨q, m, z, q1, q2, q3, q4, q5, q6, q7, q8, q9, q10, q11, q12⟩ := kept_sig hz hp hy hkk (fun h => hk h.1)
  have hb := B.sig i y hy hk hkk
  rw [q3, show (firstC c + (posN c q : Int) - firstC c).toNat = posN c q by omega] at hb ⊢
  have hi : i < c.signals.length := (List.getElem?_eq_some_iff.1 hy).1
  have hj : posN c q < (redC c).signals.length := (List.getElem?_eq_some_iff.1 q6).1
  have hl1 : s.values.length = c.signals.length := B.hs.2.2.2.1
  have hl2 : s.timers.length = c.signals.length := B.hs.2.2.2.2
  have hl3 : t.values.length = (redC c).signals.length := B.ht.2.2.2.1
  have hl4 : t.timers.length = (redC c).signals.length := B.ht.2.2.2.2
  have g1 : s.values[i]? = some s.values[i] := List.getElem?_eq_getElem (by omega)
  have g2 : s.timers[i]? = some s.timers[i] := List.getElem?_eq_getElem (by omega)
  have g3 : t.values[posN c q]? = some t.values[posN c q] := List.getElem?_eq_getElem (by omega)
  have g4 : t.timers[posN c q]? = some t.timers[posN c q] := List.getElem?_eq_getElem (by omega)
  have e1 : t.values[posN c q] = s.values[i] := by
    have := hb.1
    rwa [List.getD_eq_getElem?_getD, List.getD_eq_getElem?_getD, g1, g3] at this
  have e2 : t.timers[posN c q] = s.timers[i] := by
    have := hb.2
    rwa [List.getD_eq_getElem?_getD, List.getD_eq_getElem?_getD, g2, g4] at this
  have rx := sig_right hf hy
  have ev : ∀ e : Expr, RightE (countC c) e → (∀ u ∈ varsE e, (0 ≤ u ∧ u < countC c) ∧ keepL c u ≠ noneV) → evalE (repE e (keepP c)) (valuesOf t) = evalE e (valuesOf s) := by
    intro e re he
    refine evalE_rep _ e (Nat.lt_succ_self _) re fun u hu => ?_
    obtain ⟨h1, h2⟩ := he u hu
    rw [keep_getD h1]
    exact hv u h1 h2
  have ev1 : evalE (redX c z).on (valuesOf t) = evalE y.on (valuesOf s) := by
    show evalE (repE z.on (keepP c)) _ = _
    rw [← q10]
    exact ev y.on rx.1 fun u hu => ⟨vars_check (hf.on hy).1 u hu, q12 u (.inl hu)⟩
  have ev2 : evalE (redX c z).off (valuesOf t) = evalE y.off (valuesOf s) := by
    show evalE (repE z.off (keepP c)) _ = _
    rw [← q11]
    exact ev y.off rx.2 fun u hu => ⟨off_range hf hy u hu, q12 u (.inr hu)⟩
  have s1 := zStep_at (L := valuesOf s) hy g1 g2
  have s2 := zStep_at (L := valuesOf t) q6 g3 g4
  have hst : sigStep (redC c) t (valuesOf t) (posN c q) = sigStep c s (valuesOf s) i := by
    rw [s1, s2, e1, e2, ev1, ev2, show (redX c z).kind = y.kind from q7.symm]
  show (newV (redC c) t).getD _ false = (newV c s).getD i false ∧ (newT (redC c) t).getD _ 0 = (newT c s).getD i 0
  rw [List.getD_eq_getElem?_getD, List.getD_eq_getElem?_getD, List.getD_eq_getElem?_getD, List.getD_eq_getElem?_getD, zV_at hj, zV_at hi, zT_at hj, zT_at hi, hst]
  exact ⟨rfl, rfl⟩
theorem Bel.round {s t : State} (B : Bel c s t) : Bel c (roundS c s) (roundS (redC c) t) :=
  Bel.once hz hp (Bel.gates hz hp B) fun _ hk hkk => val_kept hz hp B hk hkk
end sim

end Go.Proofs.YthlpelkcmmaokaaGreat
end

/- Plain laws: a state that was carried belongs; the first state. -/
section
namespace Go.Proofs.YthlpelkcmmaokaaGreat
set_option maxHeartbeats 1000000
set_option maxRecDepth 10000

theorem gates_like {c : Control} (hf : Fine c) {s t : State} (hs : shapeS c s) (ht : shapeS c t) (he : t.ends = s.ends) (hvv : t.valves = s.valves) (hi : t.inputs = s.inputs) (htm : t.timers = s.timers)
    (hv : ∀ k : Nat, kindAt c k ≠ 0 → t.values[k]? = s.values[k]?) : gatesP c t = gatesP c s := by
  have hp : preV t = preV s := by unfold preV; rw [he, hi]
  have hpl := preV_length hs
  have key : ∀ j, j ≤ c.signals.length → ∀ k : Nat, (k < j ∨ kindAt c k ≠ 0) → (gvals c t j)[k]? = (gvals c s j)[k]? := by
    intro j
    induction j with
    | zero =>
      intro _ k hk
      rcases hk with h | h
      · omega
      · exact hv k h
    | succ j ih =>
      intro hj k hk
      have hx : c.signals[j]? = some c.signals[j] := List.getElem?_eq_getElem (by omega)
      rw [gvals_at hx, gvals_at hx]
      by_cases h0 : c.signals[j].kind = 0
      · rw [if_pos h0, if_pos h0]
        have he2 : evalE c.signals[j].on (valuesOf { t with values := gvals c t j }) = evalE c.signals[j].on (valuesOf { s with values := gvals c s j }) := by
          rw [valuesOf_with, valuesOf_with, hp]
          refine evalE_congr (SizeOf.sizeOf c.signals[j].on + 1) _ (by omega) fun n hn => ?_
          have hvn := vars_check (hf.on hx).1 n hn
          have hl := late_not hf hx h0 n hn
          by_cases h1 : n.toNat < (preV s).length
          · rw [List.getElem?_append_left h1, List.getElem?_append_left h1]
          · rw [List.getElem?_append_right (by omega), List.getElem?_append_right (by omega)]
            obtain ⟨q, hq⟩ : ∃ q : Nat, n - firstC c = q := ⟨(n - firstC c).toNat, by omega⟩
            have e : n.toNat - (preV s).length = q := by omega
            rw [e]
            rw [hq] at hl
            refine ih (by omega) q ?_
            rcases hl with h | h
            · exact .inl (by omega)
            · exact .inr h
        by_cases hkj : j = k
        · subst hkj
          rw [he2, List.getElem?_set, List.getElem?_set, gvals_length, gvals_length, ht.2.2.2.1, hs.2.2.2.1, if_pos rfl, if_pos rfl]
        · rw [List.getElem?_set_ne hkj, List.getElem?_set_ne hkj]
          refine ih (by omega) k ?_
          rcases hk with h | h
          · exact .inl (by omega)
          · exact .inr h
      · rw [if_neg h0, if_neg h0]
        refine ih (by omega) k ?_
        by_cases hkj : k = j
        · right
          rw [hkj]
          simpa [kindAt, hx] using h0
        · rcases hk with h | h
          · exact .inl (by omega)
          · exact .inr h
  have e : gvals c t c.signals.length = gvals c s c.signals.length := by
    apply List.ext_getElem?
    intro k
    rcases Nat.lt_or_ge k c.signals.length with h | h
    · exact key _ (Nat.le_refl _) k (.inl h)
    · rw [List.getElem?_eq_none (by rw [gvals_length, ht.2.2.2.1]; exact h), List.getElem?_eq_none (by rw [gvals_length, hs.2.2.2.1]; exact h)]
  unfold gatesP
  rw [e]
  obtain ⟨a1, a2, a3, a4, a5⟩ := s
  obtain ⟨b1, b2, b3, b4, b5⟩ := t
  simp only at he hvv hi htm
  subst he hvv hi htm
  rfl

/-- What is known of what was carried. -/
structure CarB (a b : Control) (ks : List Int) (s : State) (n : Nat) (p : CarT) : Prop where
  fits : ∀ (i : Nat) (x : Signal), i < n → a.signals[i]? = some x → x.kind ≠ 0 → ∀ j : Nat, carryJ a b ks i = j → p.1.getD j false = true ∧ p.2.1.getD j false = s.values.getD i false ∧ p.2.2.getD j 0 = s.timers.getD i 0
  known : ∀ j : Nat, p.1.getD j false = true → ∃ (i : Nat) (x : Signal), i < n ∧ a.signals[i]? = some x ∧ x.kind ≠ 0 ∧ carryJ a b ks i = j
theorem carry_char {a b : Control} {ks : List Int} {s : State} (hv : verifyQ a b ks = 0) (hr : rightC a s = 0) : ∀ n, n ≤ a.signals.length → ∀ {p}, carryP a b ks s n = some p → CarB a b ks s n p
  | 0, _, p, h => by
    obtain ⟨q, h1, h2⟩ := carry_zero a b ks s
    refine ⟨fun i x hi => absurd hi (Nat.not_lt_zero i), fun j hj => ?_⟩
    have : p = (List.replicate b.signals.length false, List.replicate b.signals.length false, List.replicate b.signals.length 0) := (Option.some.inj h).symm
    rw [this] at hj
    simp only [List.getD_eq_getElem?_getD, List.getElem?_replicate] at hj
    split at hj <;> cases hj
  | n + 1, hn, p, h => by
    cases hq : carryP a b ks s n with
    | none => rw [carryP, hq] at h; cases h
    | some q =>
      have ih := carry_char hv hr n (by omega) hq
      have hok := carry_ok hv hr n (by omega) hq
      rw [carryP_succ hq] at h
      have hx : a.signals[n]? = some a.signals[n] := List.getElem?_eq_getElem (by omega)
      rcases carry_step hv hr hx hok with ⟨k1, k⟩ | ⟨k1, j, t, v, hj, hks, hv0, ht0, k, k2⟩
      · rw [k] at h
        cases h
        refine ⟨fun i x hi hxi hk j hcj => ?_, fun j hj => ?_⟩
        · by_cases e : i = n
          · subst e
            rw [hx] at hxi
            cases hxi
            rcases k1 with k1 | k1
            · exact absurd k1 hk
            · unfold carryJ at hcj
              have := none_neg
              have := (fine_of (verify_zero hv).2.1).f0
              omega
          · exact ih.fits i x (by omega) hxi hk j hcj
        · obtain ⟨i, x, h1, h2⟩ := ih.known j hj
          exact ⟨i, x, by omega, h2⟩
      · rw [k] at h
        split at h
        · cases h
        rename_i hno
        cases h
        have hcj : carryJ a b ks n = j := by
          unfold carryJ
          rw [List.getD_eq_getElem?_getD, hks]
          show firstC b + (j : Int) - firstC b = j
          omega
        have hvd : s.values.getD n false = v := by rw [List.getD_eq_getElem?_getD, hv0]; rfl
        have htd : s.timers.getD n 0 = t := by rw [List.getD_eq_getElem?_getD, ht0]; rfl
        have hl1 := hok.l1
        have hl2 := hok.l2
        have hl3 := hok.l3
        have e1 : (q.1.set j true).getD j false = true := by rw [List.getD_eq_getElem?_getD, List.getElem?_set_self (by omega)]; rfl
        have e2 : (q.2.1.set j v).getD j false = v := by rw [List.getD_eq_getElem?_getD, List.getElem?_set_self (by omega)]; rfl
        have e3 : (q.2.2.set j t).getD j 0 = t := by rw [List.getD_eq_getElem?_getD, List.getElem?_set_self (by omega)]; rfl
        have g1 : ∀ m, j ≠ m → (q.1.set j true).getD m false = q.1.getD m false := fun m h => by rw [List.getD_eq_getElem?_getD, List.getElem?_set_ne h, ← List.getD_eq_getElem?_getD]
        have g2 : ∀ m, j ≠ m → (q.2.1.set j v).getD m false = q.2.1.getD m false := fun m h => by rw [List.getD_eq_getElem?_getD, List.getElem?_set_ne h, ← List.getD_eq_getElem?_getD]
        have g3 : ∀ m, j ≠ m → (q.2.2.set j t).getD m 0 = q.2.2.getD m 0 := fun m h => by rw [List.getD_eq_getElem?_getD, List.getElem?_set_ne h, ← List.getD_eq_getElem?_getD]
        refine ⟨fun i x hi hxi hk m hcm => ?_, fun m hm => ?_⟩
        · show (q.1.set j true).getD m false = true ∧ (q.2.1.set j v).getD m false = _ ∧ (q.2.2.set j t).getD m 0 = _
          by_cases e : i = n
          · subst e
            obtain rfl : j = m := by rw [hcj] at hcm; omega
            exact ⟨e1, by rw [e2, hvd], by rw [e3, htd]⟩
          · obtain ⟨f1, f2, f3⟩ := ih.fits i x (by omega) hxi hk m hcm
            by_cases hjm : j = m
            · subst hjm
              rw [f1, f2, f3, Bool.true_and, Bool.not_eq_true, Bool.or_eq_false_iff, bne_eq_false_iff_eq, bne_eq_false_iff_eq] at hno
              exact ⟨e1, by rw [e2, hno.1], by rw [e3, hno.2]⟩
            · exact ⟨by rw [g1 m hjm]; exact f1, by rw [g2 m hjm]; exact f2, by rw [g3 m hjm]; exact f3⟩
        · by_cases hjm : j = m
          · subst hjm
            exact ⟨n, _, by omega, hx, k1, hcj⟩
          · have hm2 : q.1.getD m false = true := by rw [← g1 m hjm]; exact hm
            obtain ⟨i, x, h1, h2⟩ := ih.known m hm2
            exact ⟨i, x, by omega, h2⟩
/-- Where what is carried to one place is the same, all is carried. -/
theorem carry_goes {a b : Control} {ks : List Int} {s : State} (hv : verifyQ a b ks = 0) (hr : rightC a s = 0) (W : Nat → Bool × Int) (hW : ∀ (i : Nat) (x : Signal), a.signals[i]? = some x → x.kind ≠ 0 → ∀ j : Nat, carryJ a b ks i = j → (s.values.getD i false, s.timers.getD i 0) = W j) :
    ∀ n, n ≤ a.signals.length → ∃ p, carryP a b ks s n = some p
  | 0, _ => ⟨_, rfl⟩
  | n + 1, hn => by
    obtain ⟨q, hq⟩ := carry_goes hv hr W hW n (by omega)
    have ih := carry_char hv hr n (by omega) hq
    have hok := carry_ok hv hr n (by omega) hq
    have hx : a.signals[n]? = some a.signals[n] := List.getElem?_eq_getElem (by omega)
    rw [carryP_succ hq]
    rcases carry_step hv hr hx hok with ⟨k1, k⟩ | ⟨k1, j, t, v, hj, hks, hv0, ht0, k, k2⟩
    · exact ⟨q, k⟩
    · rw [k]
      have hcj : carryJ a b ks n = j := by
        unfold carryJ
        rw [List.getD_eq_getElem?_getD, hks]
        show firstC b + (j : Int) - firstC b = j
        omega
      have hvd : s.values.getD n false = v := by rw [List.getD_eq_getElem?_getD, hv0]; rfl
      have htd : s.timers.getD n 0 = t := by rw [List.getD_eq_getElem?_getD, ht0]; rfl
      have hw := hW n _ hx k1 j hcj
      rw [hvd, htd] at hw
      refine ⟨_, if_neg ?_⟩
      intro hc
      rw [Bool.and_eq_true] at hc
      obtain ⟨i, x, h1, h2, h3, h4⟩ := ih.known j hc.1
      obtain ⟨f1, f2, f3⟩ := ih.fits i x h1 h2 h3 j h4
      have hw2 := hW i x h2 h3 j h4
      rw [← hw, Prod.mk.injEq] at hw2
      rw [f2, f3, hw2.1, hw2.2] at hc
      simp at hc

section red
variable {c : Control} (hz : checkC c = 0)
include hz
theorem car_at {i : Nat} {x : Signal} (hx : c.signals[i]? = some x) : carryJ c (redC c) (keepP c) i = keepL c (firstC c + i) - firstC c := by
  have hi : i < c.signals.length := (List.getElem?_eq_some_iff.1 hx).1
  have h0 := (fine_of hz).f0
  unfold carryJ
  rw [keep_getD ⟨by omega, by rw [count_first]; omega⟩, red_first]
theorem carry_bel {s : State} (hr : rightC c s = 0) {p : CarT} (h : carryP c (redC c) (keepP c) s c.signals.length = some p) : Bel c s (carrySt s p) := by
  have hp := pil_of hz
  have hv := red_proves hz hp
  have hc := carry_char hv hr _ (Nat.le_refl _) h
  have hk := carry_ok hv hr _ (Nat.le_refl _) h
  obtain ⟨z1, z2, z3⟩ := right_zero hr
  refine ⟨z2, (right_zero (carry_right hv hr hk)).2.1, rfl, rfl, rfl, fun i y hy h1 h2 => ?_⟩
  have hi : i < c.signals.length := (List.getElem?_eq_some_iff.1 hy).1
  obtain ⟨w, -, hw, hw2⟩ := carry_in hv hy h1
  have hcj := car_at hz hy
  have hkd := keep_getD (c := c) (k := firstC c + i) ⟨by have := (fine_of hz).f0; omega, by rw [count_first]; omega⟩
  rw [hkd] at hw
  subst hw
  rcases hw2 with hw2 | ⟨j, z, hw2, -⟩
  · exact absurd hw2 h2
  · rw [red_first] at hw2
    exact (hc.fits i y hi hy h1 (keepL c (firstC c + i) - firstC c).toNat (by omega)).2
/-- Where a signal of the reduced control comes from. -/
theorem red_src {j : Nat} {z : Signal} (hj : (redC c).signals[j]? = some z) : ∃ (i : Nat) (x : Signal), c.signals[i]? = some x ∧ z = redX c x ∧ keepL c (firstC c + i) = firstC c + j ∧ keepL c (firstC c + i) ≠ noneV := by
  have hf := fine_of hz
  have hp := pil_of hz
  have hj2 : ((needL c).map fun k => redX c (sigAt c k))[j]? = some z := hj
  rw [List.getElem?_map] at hj2
  cases hk : (needL c)[j]? with
  | none => rw [hk] at hj2; cases hj2
  | some k =>
    rw [hk] at hj2
    have hn := (mem_need hf hp).1 (List.mem_of_getElem? hk)
    obtain ⟨i, x, e, hx, -, hs, -⟩ := need_sig hf hp hn
    obtain ⟨k1, k2⟩ := keep_self hz hp hn
    have hpj := pos_at hk
    rw [hpj] at k1
    subst e
    refine ⟨i, x, hx, ?_, k1, k2⟩
    rw [Option.map_some, hs] at hj2
    exact (Option.some.inj hj2).symm
theorem bel_gates {s t u : State} (B : Bel c s t) (B' : Bel c s u) (ht : rightC (redC c) t = 0) (hu : rightC (redC c) u = 0) : gatesP (redC c) t = gatesP (redC c) u := by
  have hf := fine_of hz
  have hp := pil_of hz
  have hf2 := fine_of (red_check hz hp)
  have key : ∀ (j : Nat) (z : Signal), (redC c).signals[j]? = some z → (z.kind ≠ 0 → t.values.getD j false = u.values.getD j false) ∧ t.timers.getD j 0 = u.timers.getD j 0 := by
    intro j z hj
    obtain ⟨i, x, hx, rfl, hk, hk2⟩ := red_src hz hj
    by_cases h0 : x.kind = 0
    · refine ⟨fun h => absurd h0 h, ?_⟩
      have h1 := (fits_parts ht).2.2 j _ hj
      have h2 := (fits_parts hu).2.2 j _ hj
      have hz0 : ∀ {v : Bool} {m : Int}, tstE (redX c x) v m = 0 → m = 0 := by
        intro v m h
        unfold tstE at h
        split at h
        · cases h
        · rename_i h3
          have hk0 : (redX c x).kind = 0 := h0
          rw [hk0] at h3
          by_cases hm : m = 0
          · exact hm
          · exact absurd (.inl ⟨by decide, hm⟩) h3
      rw [hz0 h1, hz0 h2]
    · have b1 := B.sig i x hx h0 hk2
      have b2 := B'.sig i x hx h0 hk2
      rw [hk, show (firstC c + (j : Int) - firstC c).toNat = j by omega] at b1 b2
      exact ⟨fun _ => b1.1.trans b2.1.symm, b1.2.trans b2.2.symm⟩
  have hlt : t.timers.length = u.timers.length := B.ht.2.2.2.2.trans B'.ht.2.2.2.2.symm
  refine gates_like hf2 B'.ht B.ht (B.ends.trans B'.ends.symm) (B.valves.trans B'.valves.symm) (B.inputs.trans B'.inputs.symm) ?_ ?_
  · apply List.ext_getElem?
    intro j
    rcases Nat.lt_or_ge j (redC c).signals.length with h | h
    · have k := (key j _ (List.getElem?_eq_getElem h)).2
      have l1 : j < t.timers.length := by rw [B.ht.2.2.2.2]; exact h
      have l2 : j < u.timers.length := by rw [B'.ht.2.2.2.2]; exact h
      rw [List.getD_eq_getElem?_getD, List.getD_eq_getElem?_getD, List.getElem?_eq_getElem l1, List.getElem?_eq_getElem l2] at k
      rw [List.getElem?_eq_getElem l1, List.getElem?_eq_getElem l2]
      exact congrArg some k
    · rw [List.getElem?_eq_none (by rw [B.ht.2.2.2.2]; exact h), List.getElem?_eq_none (by rw [B'.ht.2.2.2.2]; exact h)]
  · intro j hj
    rcases Nat.lt_or_ge j (redC c).signals.length with h | h
    · have hz1 := List.getElem?_eq_getElem h
      have k := (key j _ hz1).1 (by simpa [kindAt, hz1] using hj)
      have l1 : j < t.values.length := by rw [B.ht.2.2.2.1]; exact h
      have l2 : j < u.values.length := by rw [B'.ht.2.2.2.1]; exact h
      rw [List.getD_eq_getElem?_getD, List.getD_eq_getElem?_getD, List.getElem?_eq_getElem l1, List.getElem?_eq_getElem l2] at k
      rw [List.getElem?_eq_getElem l1, List.getElem?_eq_getElem l2]
      exact congrArg some k
    · rw [List.getElem?_eq_none (by rw [B.ht.2.2.2.1]; exact h), List.getElem?_eq_none (by rw [B'.ht.2.2.2.1]; exact h)]
theorem carry_err {s : State} (hr : rightC c s = 0) (h : (carryQ c (redC c) (keepP c) s).2 ≠ 0) : (carryQ c (redC c) (keepP c) s).2 = 16 := by
  have hv := red_proves hz (pil_of hz)
  rw [carryQ, if_neg (by simp [hv]), if_neg (by simp [hr])] at h ⊢
  split
  · rfl
  · rename_i hp
    rw [hp] at h
    exact absurd rfl h
theorem carry_some {s t : State} (h : carryQ c (redC c) (keepP c) s = (t, 0)) (hr : rightC c s = 0) : ∃ p, Bel c s (carrySt s p) ∧ rightC (redC c) (carrySt s p) = 0 ∧ t = gatesP (redC c) (carrySt s p) := by
  have hv := red_proves hz (pil_of hz)
  rw [carryQ, if_neg (by simp [hv]), if_neg (by simp [hr])] at h
  split at h
  · cases h
  · rename_i p hp
    have hok := carry_ok hv hr _ (Nat.le_refl _) hp
    exact ⟨p, carry_bel hz hr hp, carry_right hv hr hok, (congrArg Prod.fst h).symm⟩
end red

end Go.Proofs.YthlpelkcmmaokaaGreat
end

/- Law of chapter 38: First. -/
section
namespace Go.Proofs.YthlpelkcmmaokaaGreat
set_option maxHeartbeats 4000000
set_option maxRecDepth 10000

theorem Few28b_fn (c : Control) (s : State) (hc : OkC c) (hs : OkSt s) : CallFn Tryz.prog 68 [aC c, aSt s] (aB (fewC c && fewS s)) := by
  refine callFz_of Tryz.func68 rfl Tryz.ntmps68 (rs := [.tmp 4]) rfl (by kernel_rfl) (by simp) (by kernel_rfl) ?_
  simp
  refine (Few_fn c hc).s ?_
  simp
  refine GCall.fn (aB (fewS s)) (fun h => ⟨by first | trivial | exact h, FewStates_fn s hs⟩) ?_
  simp
theorem right38_fn (c : Control) (s : State) (hc : OkC c) (hs : OkSt s) : CallFn Tryz.prog 30 [aC c, aSt s] (aB (rightB c s)) := by
  refine callFz_of Tryz.func30 rfl Tryz.ntmps30 (rs := [.tmp 4]) rfl (by kernel_rfl) (by simp) (by kernel_rfl) ?_
  simp
  refine (Few28b_fn c s hc hs).s ?_
  simp
  refine GCall.fn (aI (rightC c s)) (fun h => ⟨by first | trivial | exact h, RightR_fn c s hc (few_c h.1).1 (few_c h.1).2 (few_sm h.2)⟩) ?_
  simp [rightB]
end Go.Proofs.YthlpelkcmmaokaaGreat
end
