/- Texts joined by a program: Zh, Yx, Yz, Ln, Xa. -/
import Derived.Test.YthlpelkcmmaokaaGreatP6
import Derived.Test.YthlpelkcmmaokaaGreatP2
import Derived.Test.YthlpelkcmmaokaaGreatP1
set_option linter.unusedSimpArgs false
set_option linter.unusedVariables false

/- Plain laws: what Carry answers. -/
section
namespace Go.Proofs.YthlpelkcmmaokaaGreat
set_option maxHeartbeats 1000000
set_option maxRecDepth 10000

/-- What has been carried: the signals that are known, their values, their timers. -/
abbrev CarT := List Bool × List Bool × List Int
def carryJ (a b : Control) (ks : List Int) (i : Nat) : Int := ks.getD (firstC a + i).toNat 0 - firstC b
def carryStep (a b : Control) (ks : List Int) (s : State) (i : Nat) (p : CarT) : Option CarT :=
  if kindAt a i = 0 ∨ carryJ a b ks i < 0 then some p
  else if p.1.getD (carryJ a b ks i).toNat false && (p.2.1.getD (carryJ a b ks i).toNat false != s.values.getD i false || p.2.2.getD (carryJ a b ks i).toNat 0 != s.timers.getD i 0) then none
  else some (p.1.set (carryJ a b ks i).toNat true, p.2.1.set (carryJ a b ks i).toNat (s.values.getD i false), p.2.2.set (carryJ a b ks i).toNat (s.timers.getD i 0))
def carryP (a b : Control) (ks : List Int) (s : State) : Nat → Option CarT
  | 0 => some (List.replicate b.signals.length false, List.replicate b.signals.length false, List.replicate b.signals.length 0)
  | i + 1 => (carryP a b ks s i).bind (carryStep a b ks s i)
def carrySt (s : State) (p : CarT) : State := ⟨s.ends, s.valves, s.inputs, p.2.1, p.2.2⟩
noncomputable def carryQ (a b : Control) (ks : List Int) (s : State) : State × Int :=
  if verifyQ a b ks ≠ 0 then (noSt, verifyQ a b ks) else if rightC a s ≠ 0 then (noSt, rightC a s) else match carryP a b ks s a.signals.length with
    | none => (noSt, 16)
    | some p => (gatesP b (carrySt s p), 0)
theorem carryP_succ {a b : Control} {ks : List Int} {s : State} {i : Nat} {p : CarT} (h : carryP a b ks s i = some p) : carryP a b ks s (i + 1) = carryStep a b ks s i p := by rw [carryP, h]; rfl
theorem carryP_none {a b : Control} {ks : List Int} {s : State} {i : Nat} (h : carryP a b ks s i = none) : ∀ n, i ≤ n → carryP a b ks s n = none := by
  intro n hn
  obtain ⟨d, rfl⟩ : ∃ d, n = i + d := ⟨n - i, by omega⟩
  clear hn
  induction d with
  | zero => exact h
  | succ d ih => rw [← Nat.add_assoc, carryP, ih]; rfl
theorem verify_zero {a b : Control} {ks : List Int} (h : verifyQ a b ks = 0) : checkC a = 0 ∧ checkC b = 0 ∧ (ks.length : Int) = countC a ∧ ks.any (farB b) = false ∧ provesB a b ks = true := by
  unfold verifyQ at h
  split at h
  · rename_i h1; exact absurd h h1
  rename_i h1
  split at h
  · rename_i h2; exact absurd h h2
  rename_i h2
  split at h
  · exact absurd h (by decide)
  rename_i h3
  split at h
  · exact absurd h (by decide)
  rename_i h4
  split at h
  · rename_i h5
    exact ⟨Classical.not_not.1 h1, Classical.not_not.1 h2, Classical.not_not.1 h3, by simpa using h4, h5⟩
  · exact absurd h (by decide)
theorem frame_eq {a b : Control} {ks : List Int} (h : verifyQ a b ks = 0) : a.actuators = b.actuators ∧ a.inputs = b.inputs := by
  obtain ⟨-, -, -, -, h5⟩ := verify_zero h
  simp only [provesB, frameB, Bool.and_eq_true, beq_iff_eq, decide_eq_true_eq] at h5
  exact ⟨h5.1.1.1.1, h5.1.1.1.2⟩
theorem carry_in {a b : Control} {ks : List Int} (h : verifyQ a b ks = 0) {i : Nat} {x : Signal} (hx : a.signals[i]? = some x) (hk : x.kind ≠ 0) :
    ∃ y, ks[(firstC a + i).toNat]? = some y ∧ ks.getD (firstC a + i).toNat 0 = y ∧ (y = noneV ∨ ∃ (j : Nat) (z : Signal), y = firstC b + j ∧ b.signals[j]? = some z ∧ x.kind = z.kind ∧ x.delay = z.delay ∧ x.init = z.init) := by
  obtain ⟨h1, h2, h3, h4, h5⟩ := verify_zero h
  have hf := fine_of h1
  have h0 := hf.f0
  have hb0 := (fine_of h2).f0
  have hi : i < a.signals.length := (List.getElem?_eq_some_iff.1 hx).1
  have hcn := count_first a
  have hlt : (firstC a + i).toNat < ks.length := by omega
  obtain ⟨y, hy⟩ : ∃ y, ks[(firstC a + i).toNat] = y := ⟨_, rfl⟩
  have hyo : ks[(firstC a + i).toNat]? = some y := by rw [List.getElem?_eq_getElem hlt, hy]
  have hyd : ks.getD (firstC a + i).toNat 0 = y := by rw [List.getD_eq_getElem?_getD, hyo]; rfl
  refine ⟨y, hyo, hyd, ?_⟩
  simp only [provesB, Bool.and_eq_true, List.all_eq_true, List.mem_range] at h5
  have h6 := h5.2 i hi
  rw [fitB, hx] at h6
  simp only [hyd] at h6
  unfold fitX at h6
  by_cases hn : y = noneV
  · exact .inl hn
  rw [if_neg hn, if_neg (fun h => hk h.1)] at h6
  split at h6
  · cases h6
  rename_i hge
  split at h6
  · cases h6
  rename_i z hz
  simp only [Bool.and_eq_true, beq_iff_eq] at h6
  obtain ⟨⟨⟨⟨⟨⟨-, -⟩, k1⟩, k2⟩, k3⟩, -⟩, -⟩ := h6
  exact .inr ⟨(y - firstC b).toNat, z, by omega, hz, k1, k2, k3⟩
/-- What holds of what has been carried. -/
structure CarOK (b : Control) (p : CarT) : Prop where
  l1 : p.1.length = b.signals.length
  l2 : p.2.1.length = b.signals.length
  l3 : p.2.2.length = b.signals.length
  out : ∀ t ∈ p.2.2, outR 3 t = false
  tst : ∀ (j : Nat) (z : Signal), b.signals[j]? = some z → tstE z (p.2.1.getD j false) (p.2.2.getD j 0) = 0
theorem tst_zero (z : Signal) : tstE z false 0 = 0 := by
  unfold tstE
  refine if_neg ?_
  rintro (h | h)
  · exact h.2 rfl
  · exact h.2 rfl
theorem tst_kind {x z : Signal} (h : x.kind = z.kind) (v : Bool) (t : Int) : tstE x v t = tstE z v t := by unfold tstE; rw [h]
theorem carry_zero (a b : Control) (ks : List Int) (s : State) : ∃ p, carryP a b ks s 0 = some p ∧ CarOK b p := by
  refine ⟨_, rfl, by simp, by simp, by simp, ?_, ?_⟩
  · intro t ht
    rw [List.eq_of_mem_replicate ht]
    decide
  · intro j z hz
    have hj : j < b.signals.length := (List.getElem?_eq_some_iff.1 hz).1
    rw [List.getD_eq_getElem?_getD, List.getD_eq_getElem?_getD, List.getElem?_replicate, List.getElem?_replicate, if_pos hj, if_pos hj]
    exact tst_zero z
theorem fits_parts {c : Control} {s : State} (h : rightC c s = 0) : (∀ e ∈ s.ends, outR 4 e = false) ∧ (∀ e ∈ s.timers, outR 3 e = false) ∧ ∀ (i : Nat) (x : Signal), c.signals[i]? = some x → tstE x (s.values.getD i false) (s.timers.getD i 0) = 0 := by
  obtain ⟨z1, z2, z3⟩ := right_zero h
  unfold fitsSt at z3
  rw [if_neg (by simpa using z2)] at z3
  split at z3
  · cases z3
  · rename_i hout
    rw [Bool.or_eq_true, not_or, Bool.not_eq_true, Bool.not_eq_true] at hout
    have hz := firstErr_zero z3
    obtain ⟨h4, h5⟩ : s.values.length = c.signals.length ∧ s.timers.length = c.signals.length := ⟨z2.2.2.2.1, z2.2.2.2.2⟩
    refine ⟨fun e he => ?_, fun e he => ?_, fun i x hx => ?_⟩
    · have := List.any_eq_false.1 hout.1 e he
      simpa using this
    · have := List.any_eq_false.1 hout.2 e he
      simpa using this
    · have hi : i < c.signals.length := (List.getElem?_eq_some_iff.1 hx).1
      have h0 := hz i (by omega)
      have hv0 : s.values[i]? = some s.values[i] := List.getElem?_eq_getElem (by omega)
      have ht0 : s.timers[i]? = some s.timers[i] := List.getElem?_eq_getElem (by omega)
      unfold tsE at h0
      rw [hx, hv0, ht0] at h0
      rw [List.getD_eq_getElem?_getD, List.getD_eq_getElem?_getD, hv0, ht0]
      exact h0
theorem right_made {c : Control} {s : State} (h1 : checkC c = 0) (h2 : shapeS c s) (h3 : ∀ e ∈ s.ends, outR 4 e = false) (h4 : ∀ e ∈ s.timers, outR 3 e = false) (h5 : ∀ (i : Nat) (x : Signal), c.signals[i]? = some x → tstE x (s.values.getD i false) (s.timers.getD i 0) = 0) : rightC c s = 0 := by
  rw [rightC, if_neg (by simpa using h1), fitsSt, if_neg (by simpa using h2), if_neg]
  · refine firstErr_all fun i hi => ?_
    unfold tsE
    have hc : i < c.signals.length := by have := h2.2.2.2.2; omega
    have hx : c.signals[i]? = some c.signals[i] := List.getElem?_eq_getElem hc
    have hv0 : s.values[i]? = some (s.values[i]'(by have := h2.2.2.2.1; omega)) := List.getElem?_eq_getElem _
    have ht0 : s.timers[i]? = some s.timers[i] := List.getElem?_eq_getElem hi
    have := h5 i _ hx
    rw [List.getD_eq_getElem?_getD, List.getD_eq_getElem?_getD, hv0, ht0] at this
    rw [hx, hv0, ht0]
    exact this
  · rw [Bool.or_eq_true, not_or, Bool.not_eq_true, Bool.not_eq_true]
    exact ⟨List.any_eq_false.2 fun e he => by simp [h3 e he], List.any_eq_false.2 fun e he => by simp [h4 e he]⟩
/-- What one signal does: it is left out, it does not agree, or it is carried. -/
theorem carry_step {a b : Control} {ks : List Int} {s : State} (hv : verifyQ a b ks = 0) (hr : rightC a s = 0) {i : Nat} {x : Signal} (hx : a.signals[i]? = some x) {p : CarT} (hp : CarOK b p) :
    (x.kind = 0 ∨ ks.getD (firstC a + i).toNat 0 = noneV) ∧ carryStep a b ks s i p = some p ∨
    x.kind ≠ 0 ∧ ∃ (j : Nat) (t : Int) (v : Bool), j < b.signals.length ∧ ks[(firstC a + i).toNat]? = some (firstC b + j) ∧ s.values[i]? = some v ∧ s.timers[i]? = some t ∧
      carryStep a b ks s i p = (if p.1.getD j false && (p.2.1.getD j false != v || p.2.2.getD j 0 != t) then none else some (p.1.set j true, p.2.1.set j v, p.2.2.set j t)) ∧ CarOK b (p.1.set j true, p.2.1.set j v, p.2.2.set j t) := by
  have hka := kindAt_sig hx
  by_cases hk : x.kind = 0
  · exact .inl ⟨.inl hk, by unfold carryStep; rw [if_pos (.inl (hka.trans hk))]⟩
  obtain ⟨y, hyo, hyd, hy⟩ := carry_in hv hx hk
  obtain ⟨h1, h2, h3, h4, h5⟩ := verify_zero hv
  have hb0 := (fine_of h2).f0
  rcases hy with rfl | ⟨j, z, rfl, hz, k1, k2, k3⟩
  · refine .inl ⟨.inr hyd, ?_⟩
    unfold carryStep
    rw [if_pos (.inr (by unfold carryJ; rw [hyd]; have := none_neg; omega))]
  · have hj : j < b.signals.length := (List.getElem?_eq_some_iff.1 hz).1
    obtain ⟨z1, z2, z3⟩ := right_zero hr
    obtain ⟨f1, f2, f3⟩ := fits_parts hr
    have hi : i < a.signals.length := (List.getElem?_eq_some_iff.1 hx).1
    have hv0 : s.values[i]? = some (s.values[i]'(by have := z2.2.2.2.1; omega)) := List.getElem?_eq_getElem _
    have ht0 : s.timers[i]? = some (s.timers[i]'(by have := z2.2.2.2.2; omega)) := List.getElem?_eq_getElem _
    have hvd : s.values.getD i false = s.values[i]'(by have := z2.2.2.2.1; omega) := by rw [List.getD_eq_getElem?_getD, hv0]; rfl
    have htd : s.timers.getD i 0 = s.timers[i]'(by have := z2.2.2.2.2; omega) := by rw [List.getD_eq_getElem?_getD, ht0]; rfl
    have hcj : carryJ a b ks i = j := by unfold carryJ; rw [hyd]; omega
    have h6 := f3 i x hx
    have htm : s.timers[i]'(by have := z2.2.2.2.2; omega) ∈ s.timers := List.getElem_mem _
    refine .inr ⟨hk, j, _, _, hj, hyo, hv0, ht0, ?_, ?_⟩
    · unfold carryStep
      rw [if_neg (by rw [hka, hcj]; omega), hcj, Int.toNat_natCast, hvd, htd]
    · rw [hvd, htd] at h6
      generalize s.values[i]'(by have := z2.2.2.2.1; omega) = v at *
      generalize s.timers[i]'(by have := z2.2.2.2.2; omega) = t at *
      refine ⟨by simp [hp.l1], by simp [hp.l2], by simp [hp.l3], ?_, ?_⟩
      · intro e he
        rcases List.mem_or_eq_of_mem_set he with h | h
        · exact hp.out e h
        · rw [h]; exact f2 t htm
      · intro m w hw
        have hl2 := hp.l2
        have hl3 := hp.l3
        show tstE w ((p.2.1.set j v).getD m false) ((p.2.2.set j t).getD m 0) = 0
        by_cases hm : j = m
        · subst hm
          rw [hz] at hw
          cases hw
          rw [List.getD_eq_getElem?_getD, List.getD_eq_getElem?_getD, List.getElem?_set_self (by omega), List.getElem?_set_self (by omega)]
          rw [tst_kind k1] at h6
          exact h6
        · rw [List.getD_eq_getElem?_getD, List.getD_eq_getElem?_getD, List.getElem?_set_ne hm, List.getElem?_set_ne hm]
          have := hp.tst m w hw
          rwa [List.getD_eq_getElem?_getD, List.getD_eq_getElem?_getD] at this
theorem carry_right {a b : Control} {ks : List Int} {s : State} (hv : verifyQ a b ks = 0) (hr : rightC a s = 0) {p : CarT} (hp : CarOK b p) : rightC b (carrySt s p) = 0 := by
  obtain ⟨h1, h2, h3, h4, h5⟩ := verify_zero hv
  obtain ⟨e1, e2⟩ := frame_eq hv
  obtain ⟨z1, z2, z3⟩ := right_zero hr
  obtain ⟨f1, f2, f3⟩ := fits_parts hr
  obtain ⟨g1, g2, g3, g4, g5⟩ := z2
  exact right_made h2 ⟨by rw [← e1]; exact g1, by rw [← e1]; exact g2, by rw [← e2]; exact g3, hp.l2, hp.l3⟩ f1 hp.out hp.tst
theorem carry_ok {a b : Control} {ks : List Int} {s : State} (hv : verifyQ a b ks = 0) (hr : rightC a s = 0) : ∀ n, n ≤ a.signals.length → ∀ {p}, carryP a b ks s n = some p → CarOK b p
  | 0, _, p, h => by
    obtain ⟨q, h1, h2⟩ := carry_zero a b ks s
    rw [h] at h1
    cases h1
    exact h2
  | n + 1, hn, p, h => by
    rw [carryP] at h
    cases hq : carryP a b ks s n with
    | none => rw [hq] at h; cases h
    | some q =>
      have hq2 := carry_ok hv hr n (by omega) hq
      rw [hq] at h
      have hx : a.signals[n]? = some a.signals[n] := List.getElem?_eq_getElem (by omega)
      rcases carry_step hv hr hx hq2 with ⟨-, k⟩ | ⟨-, j, t, v, -, -, -, -, k, k2⟩
      · rw [show (some q : Option CarT).bind (carryStep a b ks s n) = carryStep a b ks s n q from rfl, k] at h
        cases h
        exact hq2
      · rw [show (some q : Option CarT).bind (carryStep a b ks s n) = carryStep a b ks s n q from rfl, k] at h
        split at h
        · cases h
        · cases h
          exact k2

end Go.Proofs.YthlpelkcmmaokaaGreat
end

/- Contracts: Carry. -/
section
namespace Go.Proofs.YthlpelkcmmaokaaGreat
set_option maxHeartbeats 4000000
set_option maxRecDepth 10000

theorem mput_same {n : Int} : ∀ {ns : List Int}, n ∈ ns → mput (mapK ns) (.int .i64 n) (.bool true) = mapK ns
  | [], h => by cases h
  | m :: ns, h => by
    by_cases h1 : m = n
    · simp [mapK, mput, leq, h1]
    · have ih := mput_same (n := n) (ns := ns) (by simpa [Ne.symm (a := m) (b := n) h1, fun e : n = m => h1 e.symm] using h)
      simp only [mapK, List.map_cons, mput, leq] at ih ⊢
      simp [h1]
      simpa using ih
abbrev encRel (a b : Control) (ks : List Int) : List L := [.int .i64 a.actuators, .sl (a.inputs.map encT), .sl (a.signals.map encS), .sl (a.plus.map encI), .sl (a.minus.map encI),
  .int .i64 b.actuators, .sl (b.inputs.map encT), .sl (b.signals.map encS), .sl (b.plus.map encI), .sl (b.minus.map encI), .sl (ks.map encI)]
abbrev aRel (a b : Control) (ks : List Int) : A := .record (encRel a b ks)
abbrev crH (b4 b9 r : Nat) (u0 u1 u2 u3 u4 : Value) (s : State) (ns : List Int) (v : List Bool) (t : List Int) : Heap := [(51, .map r (.int .i64) (mapK ns)), (49, .seq u4 3 1 (t.map rI)), (47, .seq u3 4 1 (v.map rB)),
  (9, .box b9 [.own 39 u0, .own 42 u1, .own 45 u2, .own 47 u3, .own 49 u4]), (45, .seq u2 4 1 (s.inputs.map rB)), (42, .seq u1 4 1 (s.valves.map rB)), (39, .seq u0 3 1 (s.ends.map rI)), (4, .box b4 [A.nils, A.nils, A.nils, A.nils, A.nils])]
abbrev ckv (a b : Control) (ks : List Int) (s : State) (b4 b9 r : Nat) : List (Nat × A) := [(2, .rptr (encRel a b ks)), (3, .rptr (encSt s)), (4, .ptr 4 b4 0), (5, aI 0), (9, .ptr 9 b9 0), (10, .map 51 r)]
/-- Memory that is given up, seen as data. -/
theorem CallFn.give {g : FuncId} {az az' : List A} {Hc Hr H : Heap} {K : A → Heap → Prop} {r : A} (h : CallFn Tryz.prog g az' r) (hH : H = Hc ++ Hr) (hz : (frzs Hc az).1 ∧ (frzs Hc az).2 = az') (hk : K r Hr) : CallS Tryz.prog g az H K := by
  subst hH
  obtain ⟨hz1, rfl⟩ := hz
  refine ⟨h.1, fun x args H0 hi hd => ?_⟩
  rw [List.append_assoc] at hi
  obtain ⟨x', hw, hle, hi0, hok, _⟩ := hi.freeze
  have hd' := frzs_ok hi hle hw hok az _ hd hz1
  have := (CallS.frame (H1 := Hr) h).2 x' args H0 (by simpa using hi0) hd'
  rw [hw] at this
  refine this.mono ?_
  rintro _ _ ⟨y, v, r', H', rfl, rfl, hley, hiy, hv, H2, ⟨rfl, rfl⟩, rfl⟩
  exact ⟨y, v, _, _, rfl, rfl, hle.trans hley, by simpa using hiy, hv, hk⟩
abbrev cgH (b4 b9 : Nat) (u0 u1 u2 u3 u4 : Value) (s : State) (v : List Bool) (t : List Int) : Heap := [(49, .seq u4 3 1 (t.map rI)), (47, .seq u3 4 1 (v.map rB)),
  (9, .box b9 [.own 39 u0, .own 42 u1, .own 45 u2, .own 47 u3, .own 49 u4]), (45, .seq u2 4 1 (s.inputs.map rB)), (42, .seq u1 4 1 (s.valves.map rB)), (39, .seq u0 3 1 (s.ends.map rI)), (4, .box b4 [A.nils, A.nils, A.nils, A.nils, A.nils])]
theorem carry_e {a b : Control} {ks : List Int} {s : State} {b4 b9 : Nat} {u0 u1 u2 u3 u4 : Value} {v kn : List Bool} {t : List Int} {g : State} (hg : CallFn Tryz.prog 33 [aC b, aSt (carrySt s (kn, v, t))] (.tuple [aSt g, aI 0])) :
    vcC ⟨Tryz.prog, none, 138⟩ (restC Tryz.f27 7) (hdE [(2, .rptr (encRel a b ks)), (4, .ptr 4 b4 0), (5, aI 0), (9, .ptr 9 b9 0)] []) (cgH b4 b9 u0 u1 u2 u3 u4 s v t)
      (RetV Tryz.prog [.cell 4 53, .tmp 5] fun r' H' => (frz H' r').1 ∧ (frz H' r').2 = A.tuple [aSt g, aI 0]) := by
  refine vc_rest rfl ?_
  simp
  refine hg.give (Hc := [(49, .seq u4 3 1 (t.map rI)), (47, .seq u3 4 1 (v.map rB)), (9, .box b9 [.own 39 u0, .own 42 u1, .own 45 u2, .own 47 u3, .own 49 u4]), (45, .seq u2 4 1 (s.inputs.map rB)), (42, .seq u1 4 1 (s.valves.map rB)), (39, .seq u0 3 1 (s.ends.map rI))]) (Hr := [(4, .box b4 [A.nils, A.nils, A.nils, A.nils, A.nils])]) rfl ?_ ?_
  · simp [hget, packA, encSt, carrySt, encC]
  · simp [encSt]
theorem carry_l {a b : Control} {ks : List Int} {s : State} {b4 b9 r : Nat} {u0 u1 u2 u3 u4 : Value} (ha : OkC a) (hb : OkC b) (hv : verifyQ a b ks = 0) (hr : rightC a s = 0) (hs : SmS s) :
    vcN ⟨Tryz.prog, none, 138⟩ 1 (restC Tryz.f27 6) (hdE (ckv a b ks s b4 b9 r) []) (crH b4 b9 r u0 u1 u2 u3 u4 s [] (List.replicate b.signals.length false) (List.replicate b.signals.length 0))
      (RetV Tryz.prog [.cell 4 53, .tmp 5] fun r' H' => (frz H' r').1 ∧ (frz H' r').2 = A.tuple [aSt (carryQ a b ks s).1, aI (carryQ a b ks s).2]) := by
  obtain ⟨h1, h2, h3, h4, h5⟩ := verify_zero hv
  have hf := fine_of h1
  have hfb := fine_of h2
  have hfs := hf.sig
  have hfs2 := hfb.sig
  have ha1 := hf.act
  have hb1 := hfb.act
  have h0 := hf.f0
  have hb0 := hfb.f0
  have hcn := count_first a
  have hcn2 := count_first b
  have hcl := count_le hf
  have hcb := count_le hfb
  refine vcN_rest rfl ?_
  simp
  refine V.forI (σ := List Int × CarT) (kv := [(2, .rptr (encRel a b ks)), (3, .rptr (encSt s)), (4, .ptr 4 b4 0), (9, .ptr 9 b9 0), (10, .map 51 r), (54, .dat (.sl (a.signals.map encS))), (55, aI a.signals.length)]) a.signals.length [2, 3, 4, 9, 10, 54, 55] (by simp) (fun i _ => [(5, aI 0), (56, aI i)])
    (fun i q => [(51, .map r (.int .i64) (mapK q.1)), (49, .seq u4 3 1 (q.2.2.2.map rI)), (47, .seq u3 4 1 (q.2.2.1.map rB))]) (fun i q => carryP a b ks s i = some q.2 ∧ CarOK b q.2 ∧ ∀ j : Nat, q.2.1.getD j false = true ↔ (j : Int) ∈ q.1)
    ([], (List.replicate b.signals.length false, List.replicate b.signals.length false, List.replicate b.signals.length 0)) ?_ (by simp) ⟨by simp; exact rfl, by simp⟩ ?_ ?_
  · obtain ⟨p, e, k⟩ := carry_zero a b ks s
    have e2 : carryP a b ks s 0 = some (List.replicate b.signals.length false, List.replicate b.signals.length false, List.replicate b.signals.length 0) := rfl
    refine ⟨rfl, ?_, ?_⟩
    · rw [e2] at e
      cases e
      exact k
    · intro j
      simp [List.getElem?_replicate]
      split <;> simp
  · rintro i ⟨ns, kn, v, t⟩ hi ⟨hI1, hI2, hI3⟩
    obtain ⟨x, hx⟩ : ∃ x, a.signals[i] = x := ⟨_, rfl⟩
    have hxo : a.signals[i]? = some x := by rw [List.getElem?_eq_getElem hi, hx]
    have hlt : (firstC a + i).toNat < ks.length := by omega
    obtain ⟨y, hy⟩ : ∃ y, ks[(firstC a + i).toNat] = y := ⟨_, rfl⟩
    have hyo : ks[(firstC a + i).toNat]? = some y := by rw [List.getElem?_eq_getElem hlt, hy]
    have hyd : ks.getD (firstC a + i).toNat 0 = y := by rw [List.getD_eq_getElem?_getD, hyo]; rfl
    have hstep := carry_step hv hr hxo hI2
    have hnext := carryP_succ hI1
    have hyr : y = noneV ∨ 0 ≤ y ∧ y < countC b := by
      have := List.any_eq_false.1 h4 y (List.mem_of_getElem? hyo)
      simp only [farB, Bool.and_eq_true, Bool.or_eq_true, decide_eq_true_eq, not_and, not_or] at this
      by_cases hn : y = noneV
      · exact .inl hn
      · have := this hn
        exact .inr (by omega)
    have hnv : noneV = -1099511627776 := rfl
    simp [hi, hx]
    intro b12
    refine V.drawX (fun t => if t = 65 then some (.fn (aI (firstC a))) else if t = 72 then some (.fn (aI (firstC b))) else none) (by kernel_rfl) (by kernel_rfl) (by simp) ?_
    simp [hyo, hy]
    refine ⟨firstQ_fn a hf.sm, by omega, by omega, firstQ_fn b hfb.sm, by omega, ?_⟩
    rcases hstep with ⟨hsk, hst⟩ | ⟨hk, j, t', v', hj, hyj, hv0, ht0, hst, hok⟩
    · refine ⟨fun _ => ⟨by omega, ns, kn, v, t, ⟨hnext.trans hst, hI2, by simpa using hI3⟩, rfl, rfl, rfl⟩, fun k1 k2 => ?_⟩
      rw [hyd] at hsk
      omega
    · rw [hyo] at hyj
      obtain rfl : y = firstC b + j := Option.some.inj hyj
      refine ⟨fun h => by omega, fun _ _ => ?_⟩
      rw [show firstC b + (j : Int) - firstC b = j by omega]
      have hjm : (j : Int) ∈ ns ↔ kn.getD j false = true := (hI3 j).symm
      have hl2 : v.length = b.signals.length := hI2.l2
      have hl3 : t.length = b.signals.length := hI2.l3
      obtain ⟨w, hw⟩ : ∃ w, v[j]'(by omega) = w := ⟨_, rfl⟩
      obtain ⟨q, hq⟩ : ∃ q, t[j]'(by omega) = q := ⟨_, rfl⟩
      have hwo : v[j]? = some w := by rw [List.getElem?_eq_getElem (by omega), hw]
      have hqo : t[j]? = some q := by rw [List.getElem?_eq_getElem (by omega), hq]
      have hil : i < s.values.length := (List.getElem?_eq_some_iff.1 hv0).1
      have hil2 : i < s.timers.length := (List.getElem?_eq_some_iff.1 ht0).1
      have hv1 : s.values[i] = v' := by rw [List.getElem?_eq_getElem hil] at hv0; exact Option.some.inj hv0
      have ht1 : s.timers[i] = t' := by rw [List.getElem?_eq_getElem hil2] at ht0; exact Option.some.inj ht0
      have hj1 : j < v.length := by omega
      have hj2 : j < t.length := by omega
      have hgd1 : v.getD j false = w := by rw [List.getD_eq_getElem?_getD, hwo]; rfl
      have hgd2 : t.getD j 0 = q := by rw [List.getD_eq_getElem?_getD, hqo]; rfl
      rw [hst] at hnext
      simp only [hgd1, hgd2] at hnext
      have hset1 : ∀ e : Bool, (List.map rB v).set j [A.dat (.bool e)] = List.map rB (v.set j e) := fun e => by rw [List.map_set]
      have hset2 : ∀ e : Int, (List.map rI t).set j [A.dat (.int .i64 e)] = List.map rI (t.set j e) := fun e => by rw [List.map_set]
      have hlk : kn.length = b.signals.length := hI2.l1
      have hkn : ∀ m : Nat, (kn.set j true).getD m false = true ↔ m = j ∨ (m : Int) ∈ ns := by
        intro m
        by_cases hm : j = m
        · subst hm
          rw [List.getD_eq_getElem?_getD, List.getElem?_set_self (by omega)]
          simp
        · rw [List.getD_eq_getElem?_getD, List.getElem?_set_ne hm, ← List.getD_eq_getElem?_getD, hI3 m]
          constructor
          · exact .inr
          · rintro (h | h)
            · exact absurd h.symm hm
            · exact h
      by_cases hin : (j : Int) ∈ ns
      · have hkj : kn.getD j false = true := hjm.1 hin
        rw [hkj] at hnext
        have hbad : ¬ w = v' ∨ ¬ q = t' → carryQ a b ks s = (noSt, 16) := by
          intro h
          have h2 : carryP a b ks s (i + 1) = none := by
            rw [hnext, if_pos]
            simpa [bne_iff_ne] using h
          rw [carryQ, if_neg (by simp [hv]), if_neg (by simp [hr]), carryP_none h2 _ (by omega)]
        refine V.drawX (fun _ => none) (by kernel_rfl) (by kernel_rfl) (by simp) ?_
        simp [mget_K, hin, hwo, hw, hqo, hq, hv0, hv1, ht0, ht1, rB, rI, encSt, hil, hil2, hj1, hj2]
        refine ⟨fun h => by rw [hbad h]; simp [noSt], fun hw2 hq2 => ?_⟩
        rw [hw2, hq2] at hnext
        refine V.drawX (fun _ => none) (by kernel_rfl) (by kernel_rfl) (by simp) ?_
        simp [mput_same hin, hv0, hv1, ht0, ht1, hil, hil2, hj1, hj2]
        refine ⟨by kernel_rfl, by omega, ns, kn.set j true, v.set j v', t.set j t', ⟨hnext.trans (if_neg (by simp)), hok, fun m => ?_⟩, rfl, hset2 t', hset1 v'⟩
        rw [← List.getD_eq_getElem?_getD, hkn m]
        exact ⟨fun h => h.elim (fun e => by rw [e]; exact hin) id, .inr⟩
      · refine V.drawX (fun _ => none) (by kernel_rfl) (by kernel_rfl) (by simp) ?_
        simp [mget_K, hin, hwo, hw, hqo, hq, hv0, hv1, ht0, ht1, rB, rI, encSt, hil, hil2, hj1, hj2]
        refine V.drawX (fun _ => none) (by kernel_rfl) (by kernel_rfl) (by simp) ?_
        simp [mput_K hin, hv0, hv1, ht0, ht1, hil, hil2, hj1, hj2]
        have hkj : kn.getD j false = false := by
          cases hc : kn.getD j false with
          | false => rfl
          | true => exact absurd (hjm.2 hc) hin
        rw [hkj] at hnext
        refine ⟨by kernel_rfl, by omega, ns ++ [(j : Int)], kn.set j true, v.set j v', t.set j t', ⟨hnext.trans (if_neg (by simp)), hok, fun m => ?_⟩, rfl, hset2 t', hset1 v'⟩
        rw [← List.getD_eq_getElem?_getD, hkn m, List.mem_append, List.mem_singleton]
        constructor
        · rintro (h | h)
          · exact .inr (by rw [h])
          · exact .inl h
        · rintro (h | h)
          · exact .inr h
          · exact .inl (by omega)
  · rintro ⟨ns, kn, v, t⟩ ⟨hI1, hI2, hI3⟩
    have hq : carryQ a b ks s = (gatesP b (carrySt s (kn, v, t)), 0) := by rw [carryQ, if_neg (by simp [hv]), if_neg (by simp [hr]), hI1]
    have hrr := carry_right hv hr hI2
    have hsm : SmS (carrySt s (kn, v, t)) := ⟨hs.ends, hs.valves, hs.inputs, by show v.length ≤ _; have := hI2.l2; simp only at this; omega, by show t.length ≤ _; have := hI2.l3; simp only at this; omega⟩
    have hg := Gates_fn b (carrySt s (kn, v, t)) hb hsm
    rw [show gatesR b (carrySt s (kn, v, t)) = (gatesP b (carrySt s (kn, v, t)), 0) by rw [gatesR, if_neg (by simp [hrr])]] at hg
    rw [hq]
    simp
    exact V.cut [(2, .rptr (encRel a b ks)), (4, .ptr 4 b4 0), (5, aI 0), (9, .ptr 9 b9 0)] (Hs := cgH b4 b9 u0 u1 u2 u3 u4 s v t) (by simp) (by simp) (vc_of_rest rfl (carry_e hg))
theorem carry_a {a b : Control} {ks : List Int} {s : State} {b4 : Nat} (hb : checkC b = 0) (hs : SmS s)
    (hl : ∀ b9 r u0 u1 u2 u3 u4, vcN ⟨Tryz.prog, none, 138⟩ 1 (restC Tryz.f27 6) (hdE (ckv a b ks s b4 b9 r) []) (crH b4 b9 r u0 u1 u2 u3 u4 s [] (List.replicate b.signals.length false) (List.replicate b.signals.length 0))
      (RetV Tryz.prog [.cell 4 53, .tmp 5] fun r' H' => (frz H' r').1 ∧ (frz H' r').2 = A.tuple [aSt (carryQ a b ks s).1, aI (carryQ a b ks s).2])) :
    vcN ⟨Tryz.prog, none, 138⟩ 2 (restC Tryz.f27 4) (hdE [(2, .rptr (encRel a b ks)), (3, .rptr (encSt s)), (4, .ptr 4 b4 0), (5, aI 0), (8, aI b.signals.length)] []) [(4, .box b4 [A.nils, A.nils, A.nils, A.nils, A.nils])]
      (RetV Tryz.prog [.cell 4 53, .tmp 5] fun r' H' => (frz H' r').1 ∧ (frz H' r').2 = A.tuple [aSt (carryQ a b ks s).1, aI (carryQ a b ks s).2]) := by
  obtain ⟨s1, s2, s3, s4, s5⟩ := hs
  have hsg := (fine_of hb).sig
  refine vcN_rest rfl ?_
  simp [encSt]
  refine V.drawX (fun t => if t = 39 then some (.own 3 1 (s.ends.map rI)) else if t = 42 then some (.own 4 1 (s.valves.map rB)) else if t = 45 then some (.own 4 1 (s.inputs.map rB)) else none) (by kernel_rfl) (by kernel_rfl) (by simp) ?_
  simp
  exact fun u0 => ⟨cloneI_o s.ends (by omega), fun u1 => ⟨cloneB_o s.valves (by omega), fun u2 => ⟨cloneB_o s.inputs (by omega), fun u3 => ⟨by omega, fun u4 => ⟨by omega, fun b9 => ⟨by kernel_rfl, fun r => V.cutN 1 (ckv a b ks s b4 b9 r) (Hs := crH b4 b9 r u0 u1 u2 u3 u4 s [] (List.replicate b.signals.length false) (List.replicate b.signals.length 0)) (by simp [encSt]) (by simp [mapK, rB, rI]) (vcN_of_rest rfl (hl b9 r u0 u1 u2 u3 u4))⟩⟩⟩⟩⟩⟩
theorem Carry_fn (a b : Control) (ks : List Int) (s : State) (ha : OkC a) (hb : OkC b) (hk : ks.length ≤ 1000000) (hs : SmS s) : CallFn Tryz.prog 27 [aRel a b ks, aSt s] (.tuple [aSt (carryQ a b ks s).1, aI (carryQ a b ks s).2]) := by
  refine callFz_cut 4 Tryz.func27 rfl Tryz.ntmps27 (rs := [.cell 4 53, .tmp 5]) rfl (by kernel_rfl) (by simp) (by kernel_rfl) ?_
  simp
  intro b4
  refine (Verify_fn a b ks ha hb hk).s ?_
  simp
  by_cases hv : verifyQ a b ks = 0
  · simp [hv]
    refine (Right_fn a s ha hs).s ?_
    simp
    by_cases hr : rightC a s = 0
    · simp [hr]
      exact V.cutN 2 [(2, .rptr (encRel a b ks)), (3, .rptr (encSt s)), (4, .ptr 4 b4 0), (5, aI 0), (8, aI b.signals.length)] (by simp) (by simp [encSt]) (vcN_of_rest rfl (carry_a (verify_zero hv).2.1 hs fun b9 r u0 u1 u2 u3 u4 => carry_l ha hb hv hr hs))
    · simp [hr, carryQ, hv, noSt, packA, encSt]
  · simp [hv, carryQ, noSt, packA, encSt]

end Go.Proofs.YthlpelkcmmaokaaGreat
end

/- Contracts: Carry of the reference. -/
section
namespace Go.Proofs.YthlpelkcmmaokaaGreat
set_option maxHeartbeats 4000000
set_option maxRecDepth 10000

abbrev rkw (a b : Control) (ks : List Int) (s : State) (b8 b12 : Nat) (u5 : Value) : List (Nat × A) := [(2, aIs ks), (4, .rptr (encC a)), (5, .rptr (encC b)), (7, .rptr (encSt s)), (8, .ptr 8 b8 0), (9, aI 0), (12, .ptr 12 b12 0), (13, .own 56 u5)]
abbrev rrH (b8 b12 : Nat) (u0 u1 u2 u3 u4 u5 : Value) (s : State) (kn v : List Bool) (t : List Int) : Heap := [(56, .seq u5 4 1 (kn.map rB)), (51, .seq u4 3 1 (t.map rI)), (47, .seq u3 4 1 (v.map rB)),
  (12, .box b12 [.own 32 u0, .own 36 u1, .own 40 u2, .own 47 u3, .own 51 u4]), (40, .seq u2 4 1 (s.inputs.map rB)), (36, .seq u1 4 1 (s.valves.map rB)), (32, .seq u0 3 1 (s.ends.map rI)), (8, .box b8 [A.nils, A.nils, A.nils, A.nils, A.nils])]
abbrev rgH (b8 b12 : Nat) (u0 u1 u2 u3 u4 : Value) (s : State) (v : List Bool) (t : List Int) : Heap := [(51, .seq u4 3 1 (t.map rI)), (47, .seq u3 4 1 (v.map rB)),
  (12, .box b12 [.own 32 u0, .own 36 u1, .own 40 u2, .own 47 u3, .own 51 u4]), (40, .seq u2 4 1 (s.inputs.map rB)), (36, .seq u1 4 1 (s.valves.map rB)), (32, .seq u0 3 1 (s.ends.map rI)), (8, .box b8 [A.nils, A.nils, A.nils, A.nils, A.nils])]
end Go.Proofs.YthlpelkcmmaokaaGreat
end

/- What came in, as data: relations. -/
section
namespace Go.Proofs.YthlpelkcmmaokaaGreat
open Go.ChangeShapes Go.WideShapes Go.ChangeAt Go.RowKit
set_option maxRecDepth 100000

abbrev encRelT (x : Control × Control × List Int) : List L := [.int .i64 x.1.actuators, .sl (x.1.inputs.map encT), .sl (x.1.signals.map encS), .sl (x.1.plus.map encI), .sl (x.1.minus.map encI),
  .int .i64 x.2.1.actuators, .sl (x.2.1.inputs.map encT), .sl (x.2.1.signals.map encS), .sl (x.2.1.plus.map encI), .sl (x.2.1.minus.map encI), .sl (x.2.2.map encI)]
abbrev aRelT (x : Control × Control × List Int) : A := .record (encRelT x)
abbrev lfR : List Lf := [.int .i64, .sl 9, .sl 76, .sl 3, .sl 3, .int .i64, .sl 9, .sl 76, .sl 3, .sl 3, .sl 3]
end Go.Proofs.YthlpelkcmmaokaaGreat
end

/- Law of chapter 38: Carries. -/
section
namespace Go.Proofs.YthlpelkcmmaokaaGreat
set_option maxHeartbeats 4000000
set_option maxRecDepth 10000

theorem okSt_right {c : Control} {s : State} (h : rightC c s = 0) : OkSt s := by
  obtain ⟨z1, z2, z3⟩ := right_zero h
  obtain ⟨f1, f2, f3⟩ := fits_parts h
  obtain ⟨g1, g2, g3, g4, g5⟩ := z2
  have hf := fine_of z1
  have := hf.act
  have := hf.inp
  have := hf.sig
  have ho : ∀ {m n : Int}, outR m n = false → 0 ≤ n ∧ n < m := fun h => by
    simp only [outR, Bool.or_eq_false_iff, decide_eq_false_iff_not] at h
    omega
  refine ⟨?_, ?_, ?_, ?_, ?_, fun n hn => ?_, fun n hn => ?_⟩
  · unfold Sh; omega
  · unfold Sh; omega
  · unfold Sh; omega
  · unfold Sh; omega
  · unfold Sh; omega
  · have := ho (f1 n hn); constructor <;> omega
  · have := ho (f2 n hn); constructor <;> omega
theorem sameSt_refl (s : State) : sameSt s s = true := by simp [sameSt]
end Go.Proofs.YthlpelkcmmaokaaGreat
end
