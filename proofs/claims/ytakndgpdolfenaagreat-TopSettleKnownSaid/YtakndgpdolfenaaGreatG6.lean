/- Texts joined by a program: Aa, Ab, Ac, Ad, Ae, Af, Ag, Ah, Ai, Aj, Ak, Al. -/
import Derived.Test.YtakndgpdolfenaaGreatG3
import Derived.Test.YtakndgpdolfenaaGreatGV
set_option linter.unusedSimpArgs false
set_option linter.unusedVariables false

/- Plain laws of race: a signal that changes alone. -/
section
namespace Go.Proofs.YtakndgpdolfenaaGreat
set_option maxHeartbeats 1000000
set_option maxRecDepth 10000

/-- The signals that want to change, ascending. -/
def wantsL (c : Control) (s : State) : List Nat := (List.range c.signals.length).filter (wantAt c s)
/-- The state behind the move of a signal. -/
def moveS (c : Control) (s : State) (i : Nat) : State := gatesP c (turnS c s i)
/-- A right state whose gates follow. -/
structure Calm (c : Control) (s : State) : Prop where
  right : rightC c s = 0
  gates : gatesP c s = s
theorem Calm.shape {c : Control} {s : State} (h : Calm c s) : shapeS c s := (right_zero h.right).2.1
theorem Calm.fine {c : Control} {s : State} (h : Calm c s) : Fine c := fine_of (right_zero h.right).1
theorem calm_of {c : Control} {s : State} (h : rightC c s = 0) : Calm c (gatesP c s) := ⟨gates_right h, gates_twice (fine_of (right_zero h).1) (right_zero h).2.1⟩
theorem sigS_at {c : Control} {s : State} {L : List Bool} {i : Nat} {x : Signal} {v : Bool} {t : Int} (hx : c.signals[i]? = some x) (hv : s.values[i]? = some v) (ht : s.timers[i]? = some t) :
    sigStep c s L i = stepV x.kind v t (evalE x.on L) (x.kind == 1 && evalE x.off L) := by simp only [sigStep, hx, hv, ht]
theorem sig_have {c : Control} {s : State} (h : shapeS c s) {i : Nat} (hi : i < c.signals.length) : ∃ x v t, c.signals[i]? = some x ∧ s.values[i]? = some v ∧ s.timers[i]? = some t :=
  ⟨_, _, _, List.getElem?_eq_getElem hi, List.getElem?_eq_getElem (by rw [h.2.2.2.1]; exact hi), List.getElem?_eq_getElem (by rw [h.2.2.2.2]; exact hi)⟩
theorem turn_shape {c : Control} {s : State} (h : shapeS c s) (i : Nat) : shapeS c (turnS c s i) := by
  obtain ⟨h1, h2, h3, h4, h5⟩ := h
  exact ⟨h1, h2, h3, by simp [turnS, h4], by simp [turnS, h5]⟩
/-- What a signal that fits becomes fits. -/
theorem step_fits {x : Signal} {v : Bool} {t : Int} {on off : Bool} (h : tstE x v t = 0) (ho : outR 3 t = false) : tstE x (stepV x.kind v t on off).1 (stepV x.kind v t on off).2.1 = 0 ∧ outR 3 (stepV x.kind v t on off).2.1 = false := by
  have h0 : ¬ ((x.kind ≠ 2 ∧ t ≠ 0) ∨ (x.kind = 2 ∧ v ≠ (t == 2))) := by
    intro hc
    unfold tstE at h
    rw [if_pos hc] at h
    cases h
  unfold tstE stepV
  by_cases k1 : x.kind = 1
  · rw [if_pos k1, if_neg]
    · exact ⟨rfl, ho⟩
    · simp only [k1] at h0 ⊢
      intro hc
      rcases hc with hc | hc
      · exact h0 (.inl hc)
      · exact absurd hc.1 (by decide)
  · rw [if_neg k1]
    by_cases k2 : x.kind = 2
    · rw [if_pos k2]
      by_cases hn : on = false
      · rw [if_pos hn]
        refine ⟨if_neg ?_, by decide⟩
        rintro (hc | hc)
        · exact hc.1 k2
        · exact hc.2 rfl
      · rw [if_neg hn]
        have hv : v = (t == 2) := Classical.byContradiction fun hc => h0 (.inr ⟨k2, hc⟩)
        by_cases ht : t = 0
        · simp only [ht, if_true]
          refine ⟨if_neg ?_, by decide⟩
          rintro (hc | hc)
          · exact hc.1 k2
          · rw [hv, ht] at hc
            exact hc.2 rfl
        · simp only [ht, if_false]
          refine ⟨if_neg ?_, ho⟩
          rintro (hc | hc)
          · exact hc.1 k2
          · exact hc.2 hv
    · rw [if_neg k2]
      exact ⟨if_neg h0, ho⟩
theorem set_getD {α : Type} (l : List α) (i j : Nat) (a d : α) : (l.set i a).getD j d = if i = j ∧ i < l.length then a else l.getD j d := by
  rw [List.getD_eq_getElem?_getD, List.getElem?_set]
  by_cases h : i = j
  · subst h
    by_cases h2 : i < l.length
    · rw [if_pos rfl, if_pos h2, if_pos ⟨rfl, h2⟩]; rfl
    · rw [if_pos rfl, if_neg h2, if_neg (fun h => h2 h.2), List.getD_eq_getElem?_getD, List.getElem?_eq_none (by omega)]
  · rw [if_neg h, if_neg (fun h2 => h h2.1), List.getD_eq_getElem?_getD]
theorem turn_right {c : Control} {s : State} (h : rightC c s = 0) {i : Nat} (hi : i < c.signals.length) : rightC c (turnS c s i) = 0 := by
  obtain ⟨z1, z2, z3⟩ := right_zero h
  obtain ⟨f1, f2, f3⟩ := fits_parts h
  obtain ⟨x, v, t, hx, hv, ht⟩ := sig_have z2 hi
  have hvd : s.values.getD i false = v := by rw [List.getD_eq_getElem?_getD, hv]; rfl
  have htd : s.timers.getD i 0 = t := by rw [List.getD_eq_getElem?_getD, ht]; rfl
  have hfit := f3 i x hx
  rw [hvd, htd] at hfit
  have hs := step_fits (on := evalE x.on (valuesOf s)) (off := x.kind == 1 && evalE x.off (valuesOf s)) hfit (f2 t (List.mem_of_getElem? ht))
  have e := sigS_at (L := valuesOf s) hx hv ht
  refine right_made z1 (turn_shape z2 i) f1 ?_ ?_
  · intro m hm
    rcases List.mem_or_eq_of_mem_set (show m ∈ s.timers.set i _ from hm) with h1 | h1
    · exact f2 m h1
    · rw [h1, e]; exact hs.2
  · intro j y hy
    show tstE y ((s.values.set i _).getD j false) ((s.timers.set i _).getD j 0) = 0
    rw [set_getD, set_getD]
    by_cases hj : i = j
    · subst hj
      rw [if_pos ⟨rfl, by rw [z2.2.2.2.1]; exact hi⟩, if_pos ⟨rfl, by rw [z2.2.2.2.2]; exact hi⟩, e]
      rw [hx] at hy
      cases hy
      exact hs.1
    · rw [if_neg (fun h => hj h.1), if_neg (fun h => hj h.1)]
      exact f3 j y hy
theorem move_calm {c : Control} {s : State} (h : Calm c s) {i : Nat} (hi : i < c.signals.length) : Calm c (moveS c s i) := calm_of (turn_right h.right hi)
theorem move_keep (c : Control) (s : State) (i : Nat) : (moveS c s i).ends = s.ends ∧ (moveS c s i).valves = s.valves ∧ (moveS c s i).inputs = s.inputs := ⟨rfl, rfl, rfl⟩
theorem mem_wants {c : Control} {s : State} {i : Nat} : i ∈ wantsL c s ↔ i < c.signals.length ∧ wantAt c s i = true := by
  unfold wantsL
  rw [List.mem_filter, List.mem_range]
/-- Who wants is no gate, and becomes something else. -/
theorem want_else {x : Signal} {v : Bool} {t : Int} {on off : Bool} (hw : wantV x.kind v t on off = true) : x.kind ≠ 0 ∧ ((stepV x.kind v t on off).1 ≠ v ∨ (stepV x.kind v t on off).2.1 ≠ t) := by
  unfold wantV at hw
  unfold stepV
  by_cases k1 : x.kind = 1
  · rw [if_pos k1] at hw ⊢
    rw [Bool.and_eq_true, bne_iff_ne, bne_iff_ne] at hw
    refine ⟨by omega, .inl ?_⟩
    have : (on != off) = true := by rw [bne_iff_ne]; exact hw.1
    simp only [this, if_true]
    exact fun h => hw.2 h.symm
  · rw [if_neg k1] at hw ⊢
    by_cases k2 : x.kind = 2
    · rw [if_pos k2] at hw ⊢
      refine ⟨by omega, .inr ?_⟩
      by_cases hn : on = false
      · rw [if_pos hn] at hw ⊢
        exact fun h => (of_decide_eq_true hw) h.symm
      · rw [if_neg hn] at hw ⊢
        have ht := of_decide_eq_true hw
        simp only [ht, if_true]
        decide
    · rw [if_neg k2] at hw
      cases hw
/-- And the other way round. -/
theorem want_same {x : Signal} {v : Bool} {t : Int} {on off : Bool} (hw : wantV x.kind v t on off = false) (hf : tstE x v t = 0) : (stepV x.kind v t on off).1 = v ∧ (stepV x.kind v t on off).2.1 = t := by
  unfold wantV at hw
  unfold stepV
  by_cases k1 : x.kind = 1
  · rw [if_pos k1] at hw ⊢
    by_cases h1 : (on != off) = true
    · rw [h1, Bool.true_and] at hw
      simp only [h1, if_true]
      exact ⟨(bne_eq_false_iff_eq.1 hw).symm, trivial⟩
    · rw [Bool.not_eq_true] at h1
      simp [h1]
  · rw [if_neg k1] at hw ⊢
    by_cases k2 : x.kind = 2
    · rw [if_pos k2] at hw ⊢
      by_cases hn : on = false
      · rw [if_pos hn] at hw ⊢
        have ht : t = 0 := Classical.byContradiction fun h => of_decide_eq_false hw h
        have hv : v = (t == 2) := Classical.byContradiction fun h => by
          unfold tstE at hf
          rw [if_pos (.inr ⟨k2, h⟩)] at hf
          cases hf
        subst ht
        exact ⟨hv.symm, rfl⟩
      · rw [if_neg hn] at hw ⊢
        simp [of_decide_eq_false hw]
    · rw [if_neg k2]
      exact ⟨rfl, rfl⟩

end Go.Proofs.YtakndgpdolfenaaGreat
end

/- Plain laws of race: how many states there are. -/
section
namespace Go.Proofs.YtakndgpdolfenaaGreat
set_option maxHeartbeats 1000000
set_option maxRecDepth 10000

theorem kind_range {c : Control} (hf : Fine c) {i : Nat} {x : Signal} (hx : c.signals[i]? = some x) : 0 ≤ x.kind ∧ x.kind < 3 := by
  have h := hf.sigs i x hx
  unfold signalE at h
  split at h
  · rename_i h1; exact absurd h h1
  · split at h
    · cases h
    · omega
theorem kindAt_at {c : Control} {n : Nat} {x : Signal} (h : c.signals[n]? = some x) : kindAt c n = x.kind := by
  unfold kindAt
  rw [Int.toNat_natCast, h]
  rfl
/-- How many memories and timers stand before a signal. -/
def freeN (c : Control) : Nat → Nat
  | 0 => 0
  | i + 1 => if kindAt c i = 0 then freeN c i else freeN c i + 1
def digN (c : Control) (s : State) (i : Nat) : Nat := if kindAt c i = 1 then (if s.values.getD i false = true then 1 else 0) else (s.timers.getD i 0).toNat
/-- The memories and timers as a number. -/
def codeN (c : Control) (s : State) : Nat → Nat
  | 0 => 0
  | i + 1 => if kindAt c i = 0 then codeN c s i else codeN c s i * 3 + digN c s i
theorem timer_range {c : Control} {s : State} (h : rightC c s = 0) (i : Nat) : 0 ≤ s.timers.getD i 0 ∧ s.timers.getD i 0 < 3 := by
  obtain ⟨f1, f2, f3⟩ := fits_parts h
  rw [List.getD_eq_getElem?_getD]
  cases ht : s.timers[i]? with
  | none => decide
  | some t =>
    have := f2 t (List.mem_of_getElem? ht)
    simp only [outR, Bool.or_eq_false_iff, decide_eq_false_iff_not] at this
    show 0 ≤ t ∧ t < 3
    omega
theorem dig_lt {c : Control} {s : State} (h : rightC c s = 0) (i : Nat) : digN c s i < 3 := by
  have := timer_range h i
  unfold digN
  split
  · split <;> omega
  · omega
theorem code_lt {c : Control} {s : State} (h : rightC c s = 0) : ∀ i, codeN c s i < 3 ^ freeN c i
  | 0 => by show 0 < 3 ^ 0; decide
  | i + 1 => by
    have ih := code_lt h i
    have hd := dig_lt h i
    unfold codeN freeN
    split
    · exact ih
    · rw [Nat.pow_succ]
      omega
theorem code_dig {c : Control} {s t : State} (hs : rightC c s = 0) (ht : rightC c t = 0) : ∀ n, codeN c s n = codeN c t n → ∀ i, i < n → kindAt c i ≠ 0 → digN c s i = digN c t i
  | 0, _, i, hi, _ => absurd hi (Nat.not_lt_zero i)
  | n + 1, h, i, hi, hk => by
    have d1 := dig_lt hs n
    have d2 := dig_lt ht n
    unfold codeN at h
    by_cases hn : kindAt c n = 0
    · rw [if_pos hn, if_pos hn] at h
      exact code_dig hs ht n h i (by
        rcases Nat.lt_or_ge i n with h1 | h1
        · exact h1
        · have : i = n := by omega
          subst this
          exact absurd hn hk) hk
    · rw [if_neg hn, if_neg hn] at h
      have h1 : digN c s n = digN c t n := by omega
      have h2 : codeN c s n = codeN c t n := by omega
      rcases Nat.lt_or_ge i n with h3 | h3
      · exact code_dig hs ht n h2 i h3 hk
      · have : i = n := by omega
        subst this
        exact h1
/-- A number belongs to one state. -/
theorem code_one {c : Control} {s t : State} (hs : Calm c s) (ht : Calm c t) (e1 : t.ends = s.ends) (e2 : t.valves = s.valves) (e3 : t.inputs = s.inputs) (h : codeN c s c.signals.length = codeN c t c.signals.length) : t = s := by
  have hf := hs.fine
  have hd := code_dig hs.right ht.right _ h
  obtain ⟨-, -, f3⟩ := fits_parts hs.right
  obtain ⟨-, -, g3⟩ := fits_parts ht.right
  have key : ∀ (i : Nat) (x : Signal), c.signals[i]? = some x → s.timers.getD i 0 = t.timers.getD i 0 ∧ (x.kind ≠ 0 → s.values.getD i false = t.values.getD i false) := by
    intro i x hx
    have hi := (List.getElem?_eq_some_iff.1 hx).1
    have hk := kindAt_at hx
    have hr := kind_range hf hx
    have a1 := f3 i x hx
    have a2 := g3 i x hx
    have t1 := timer_range hs.right i
    have t2 := timer_range ht.right i
    have z : ∀ {v : Bool} {m : Int}, x.kind ≠ 2 → tstE x v m = 0 → m = 0 := by
      intro v m h2 h3
      unfold tstE at h3
      by_cases hm : m = 0
      · exact hm
      · rw [if_pos (.inl ⟨h2, hm⟩)] at h3
        cases h3
    have z2 : ∀ {v : Bool} {m : Int}, x.kind = 2 → tstE x v m = 0 → v = (m == 2) := by
      intro v m h2 h3
      refine Classical.byContradiction fun hc => ?_
      unfold tstE at h3
      rw [if_pos (.inr ⟨h2, hc⟩)] at h3
      cases h3
    by_cases k2 : x.kind = 2
    · have h1 := hd i hi (by rw [hk, k2]; decide)
      unfold digN at h1
      rw [if_neg (by rw [hk, k2]; decide), if_neg (by rw [hk, k2]; decide)] at h1
      have h2 : s.timers.getD i 0 = t.timers.getD i 0 := by omega
      refine ⟨h2, fun _ => ?_⟩
      rw [z2 k2 a1, z2 k2 a2, h2]
    · refine ⟨by rw [z k2 a1, z k2 a2], fun k0 => ?_⟩
      have k1 : x.kind = 1 := by omega
      have h1 := hd i hi (by rw [hk]; exact k0)
      unfold digN at h1
      have hk1 : kindAt c i = 1 := hk.trans k1
      simp only [hk1, if_true] at h1
      cases hv : s.values.getD i false <;> cases hw : t.values.getD i false <;> rw [hv, hw] at h1 <;> first | rfl | (simp at h1)
  have hs4 := hs.shape.2.2.2
  have ht4 := ht.shape.2.2.2
  have := gates_like hf hs.shape ht.shape e1 e2 e3 (by
    apply List.ext_getElem (by omega)
    intro i h1 h2
    have k := (key i _ (List.getElem?_eq_getElem (by omega))).1
    rw [List.getD_eq_getElem?_getD, List.getD_eq_getElem?_getD, List.getElem?_eq_getElem h1, List.getElem?_eq_getElem h2] at k
    exact k.symm) (by
    intro i hi
    rcases Nat.lt_or_ge i c.signals.length with h1 | h1
    · have hx := List.getElem?_eq_getElem h1
      have k := (key i _ hx).2 (by rw [← kindAt_at hx]; exact hi)
      have l1 : i < s.values.length := by omega
      have l2 : i < t.values.length := by omega
      rw [List.getD_eq_getElem?_getD, List.getD_eq_getElem?_getD, List.getElem?_eq_getElem l1, List.getElem?_eq_getElem l2] at k
      rw [List.getElem?_eq_getElem l1, List.getElem?_eq_getElem l2]
      exact congrArg some k.symm
    · rw [List.getElem?_eq_none (by omega), List.getElem?_eq_none (by omega)])
  rw [ht.gates, hs.gates] at this
  exact this
theorem nodup_le : ∀ {l m : List Nat}, l.Nodup → (∀ v ∈ l, v ∈ m) → l.length ≤ m.length
  | [], _, _, _ => Nat.zero_le _
  | v :: l, m, hn, hs => by
    have h1 := List.nodup_cons.1 hn
    have h2 := nodup_le (l := l) (m := m.erase v) h1.2 (by
      intro w hw
      have hne : w ≠ v := fun e => h1.1 (e ▸ hw)
      exact (List.mem_erase_of_ne hne).2 (hs w (by simp [hw])))
    have h3 := hs v (by simp)
    rw [List.length_erase_of_mem h3] at h2
    have : 0 < m.length := List.length_pos_of_mem h3
    simp only [List.length_cons]
    omega
/-- So many different states there are at most. -/
theorem states_le {c : Control} {s : State} {l : List State} (hl : l.Nodup) (hc : ∀ t ∈ l, Calm c t ∧ t.ends = s.ends ∧ t.valves = s.valves ∧ t.inputs = s.inputs) : l.length ≤ 3 ^ freeN c c.signals.length := by
  have h1 : (l.map fun t => codeN c t c.signals.length).Nodup := by
    induction l with
    | nil => exact List.nodup_nil
    | cons a l ih =>
      rw [List.map_cons, List.nodup_cons]
      obtain ⟨k1, k2⟩ := List.nodup_cons.1 hl
      refine ⟨fun hm => ?_, ih k2 fun t ht => hc t (by simp [ht])⟩
      obtain ⟨b, hb, e⟩ := List.mem_map.1 hm
      obtain ⟨b1, b2, b3, b4⟩ := hc b (by simp [hb])
      obtain ⟨a1, a2, a3, a4⟩ := hc a (by simp)
      have := code_one a1 b1 (b2.trans a2.symm) (b3.trans a3.symm) (b4.trans a4.symm) e.symm
      exact k1 (this ▸ hb)
  have h2 := nodup_le h1 (m := List.range (3 ^ freeN c c.signals.length)) (by
    intro v hv
    obtain ⟨b, hb, rfl⟩ := List.mem_map.1 hv
    exact List.mem_range.2 (code_lt (hc b hb).1.right _))
  rwa [List.length_map, List.length_range] at h2

end Go.Proofs.YtakndgpdolfenaaGreat
end

/- Plain laws of race: the search. -/
section
namespace Go.Proofs.YtakndgpdolfenaaGreat
set_option maxHeartbeats 1000000
set_option maxRecDepth 10000

/-- A state that is met, with the index of the one before, and the line that changed. -/
structure Nod where
  st : State
  bef : Int
  line : Int
def idxN (l : List Nod) (t : State) : Option Nat := l.findIdx? fun n => decide (n.st = t)
/-- A move from the state s with the index i: what it leads to is met, if it was not. -/
def visitN (c : Control) (i : Nat) (s : State) (l : List Nod) (w : Nat) : List Nod := match idxN l (moveS c s w) with
  | some _ => l
  | none => l ++ [⟨moveS c s w, i, firstC c + w⟩]
def visitL (c : Control) (i : Nat) (s : State) (l : List Nod) (ws : List Nat) : List Nod := ws.foldl (visitN c i s) l
/-- What is met when the states before the i-th one are done. -/
def nodesAt (c : Control) (s : State) : Nat → List Nod
  | 0 => [⟨s, -1, 0⟩]
  | i + 1 => match (nodesAt c s i)[i]? with
    | none => nodesAt c s i
    | some n => visitL c i n.st (nodesAt c s i) (wantsL c n.st)

theorem idx_none {l : List Nod} {t : State} : idxN l t = none ↔ ∀ n ∈ l, n.st ≠ t := by
  unfold idxN
  rw [List.findIdx?_eq_none_iff]
  constructor
  · intro h n hn e
    have := h n hn
    rw [decide_eq_true e] at this
    cases this
  · intro h n hn
    exact decide_eq_false (h n hn)
theorem idx_some {l : List Nod} {t : State} {k : Nat} (h : idxN l t = some k) : ∃ n, l[k]? = some n ∧ n.st = t := by
  unfold idxN at h
  obtain ⟨h1, h2, -⟩ := List.findIdx?_eq_some_iff_getElem.1 h
  exact ⟨l[k], List.getElem?_eq_getElem h1, of_decide_eq_true h2⟩
theorem visitN_pre (c : Control) (i : Nat) (s : State) (l : List Nod) (w : Nat) : ∃ r, visitN c i s l w = l ++ r := by
  unfold visitN
  split
  · exact ⟨[], by simp⟩
  · exact ⟨_, rfl⟩
theorem visitL_pre (c : Control) (i : Nat) (s : State) : ∀ (ws : List Nat) (l : List Nod), ∃ r, visitL c i s l ws = l ++ r
  | [], l => ⟨[], by simp [visitL]⟩
  | w :: ws, l => by
    obtain ⟨r, hr⟩ := visitN_pre c i s l w
    obtain ⟨q, hq⟩ := visitL_pre c i s ws (visitN c i s l w)
    refine ⟨r ++ q, ?_⟩
    show visitL c i s (visitN c i s l w) ws = _
    rw [hq, hr, List.append_assoc]
theorem nodes_pre (c : Control) (s : State) (i : Nat) : ∃ r, nodesAt c s (i + 1) = nodesAt c s i ++ r := by
  rw [nodesAt]
  split
  · exact ⟨[], by simp⟩
  · exact visitL_pre ..
theorem nodes_mono (c : Control) (s : State) (i : Nat) : ∀ d, ∃ r, nodesAt c s (i + d) = nodesAt c s i ++ r
  | 0 => ⟨[], by simp⟩
  | d + 1 => by
    obtain ⟨r, hr⟩ := nodes_mono c s i d
    obtain ⟨q, hq⟩ := nodes_pre c s (i + d)
    exact ⟨r ++ q, by rw [← Nat.add_assoc, hq, hr, List.append_assoc]⟩
theorem nodes_at {c : Control} {s : State} {i j k : Nat} {n : Nod} (hij : i ≤ j) (h : (nodesAt c s i)[k]? = some n) : (nodesAt c s j)[k]? = some n := by
  obtain ⟨r, hr⟩ := nodes_mono c s i (j - i)
  rw [show i + (j - i) = j by omega] at hr
  rw [hr, List.getElem?_append_left (List.getElem?_eq_some_iff.1 h).1]
  exact h
/-- Where nothing is left to be done, nothing more is met. -/
theorem nodes_stay {c : Control} {s : State} {i : Nat} (h : (nodesAt c s i).length ≤ i) : ∀ d, nodesAt c s (i + d) = nodesAt c s i
  | 0 => rfl
  | d + 1 => by
    have ih := nodes_stay h d
    rw [← Nat.add_assoc, nodesAt, ih, List.getElem?_eq_none (by omega)]

/-- What is true of all that is met. -/
structure NodOK (c : Control) (s : State) (l : List Nod) : Prop where
  nodup : (l.map Nod.st).Nodup
  calm : ∀ n ∈ l, Calm c n.st ∧ n.st.ends = s.ends ∧ n.st.valves = s.valves ∧ n.st.inputs = s.inputs
  head : l[0]? = some ⟨s, -1, 0⟩
  from_ : ∀ (k : Nat) (n : Nod), l[k]? = some n → k ≠ 0 → ∃ (j w : Nat) (m : Nod), j < k ∧ n.bef = j ∧ n.line = firstC c + w ∧ l[j]? = some m ∧ w ∈ wantsL c m.st ∧ n.st = moveS c m.st w
theorem visitN_ok {c : Control} {s : State} {l : List Nod} (h : NodOK c s l) {i w : Nat} {n : Nod} (hn : l[i]? = some n) (hw : w ∈ wantsL c n.st) : NodOK c s (visitN c i n.st l w) := by
  unfold visitN
  split
  · exact h
  · rename_i hno
    have hc := h.calm n (List.mem_of_getElem? hn)
    have hm := mem_wants.1 hw
    have hi := (List.getElem?_eq_some_iff.1 hn).1
    refine ⟨?_, ?_, ?_, ?_⟩
    · rw [List.map_append, List.nodup_append]
      refine ⟨h.nodup, by simp, ?_⟩
      intro a ha b hb e
      obtain ⟨m, hm1, rfl⟩ := List.mem_map.1 ha
      simp only [List.map_cons, List.map_nil, List.mem_singleton] at hb
      exact idx_none.1 hno m hm1 (e.trans hb)
    · intro m hm2
      rcases List.mem_append.1 hm2 with h1 | h1
      · exact h.calm m h1
      · rw [List.mem_singleton] at h1
        subst h1
        exact ⟨move_calm hc.1 hm.1, hc.2⟩
    · rw [List.getElem?_append_left (by omega)]
      exact h.head
    · intro k m hk h0
      rcases Nat.lt_or_ge k l.length with h1 | h1
      · rw [List.getElem?_append_left h1] at hk
        obtain ⟨j, v, q, e1, e2, e3, e4, e5⟩ := h.from_ k m hk h0
        exact ⟨j, v, q, e1, e2, e3, by rw [List.getElem?_append_left (by omega)]; exact e4, e5⟩
      · rw [List.getElem?_append_right h1] at hk
        have hk0 : k - l.length = 0 := by
          have := (List.getElem?_eq_some_iff.1 hk).1
          simp at this
          omega
        rw [hk0] at hk
        simp at hk
        subst hk
        exact ⟨i, w, n, by omega, rfl, rfl, by rw [List.getElem?_append_left hi]; exact hn, hw, rfl⟩
theorem visitL_ok {c : Control} {s : State} : ∀ {ws : List Nat} {l : List Nod} {i : Nat} {n : Nod}, NodOK c s l → l[i]? = some n → (∀ w ∈ ws, w ∈ wantsL c n.st) → NodOK c s (visitL c i n.st l ws)
  | [], _, _, _, h, _, _ => h
  | w :: ws, l, i, n, h, hn, hw => by
    obtain ⟨r, hr⟩ := visitN_pre c i n.st l w
    have h1 := visitN_ok h hn (hw w (by simp))
    refine visitL_ok (ws := ws) h1 ?_ fun v hv => hw v (by simp [hv])
    rw [hr, List.getElem?_append_left (List.getElem?_eq_some_iff.1 hn).1]
    exact hn
theorem nodes_ok {c : Control} {s : State} (hs : Calm c s) : ∀ i, NodOK c s (nodesAt c s i)
  | 0 => by
    refine ⟨by simp [nodesAt], ?_, rfl, ?_⟩
    · intro n hn
      simp only [nodesAt, List.mem_singleton] at hn
      subst hn
      exact ⟨hs, rfl, rfl, rfl⟩
    · intro k n hk h0
      have := (List.getElem?_eq_some_iff.1 hk).1
      simp [nodesAt] at this
      exact absurd this h0
  | i + 1 => by
    have ih := nodes_ok hs i
    rw [nodesAt]
    split
    · exact ih
    · rename_i n hn
      exact visitL_ok ih hn fun w hw => hw
theorem nodes_le {c : Control} {s : State} (hs : Calm c s) (i : Nat) : (nodesAt c s i).length ≤ 3 ^ freeN c c.signals.length := by
  have h := nodes_ok hs i
  have := states_le (s := s) h.nodup (by
    intro t ht
    obtain ⟨n, hn, rfl⟩ := List.mem_map.1 ht
    exact h.calm n hn)
  rwa [List.length_map] at this
/-- All that is met. -/
def metL (c : Control) (s : State) : List Nod := nodesAt c s (3 ^ freeN c c.signals.length)
theorem nodes_more {c : Control} {s : State} {i : Nat} (hi : i < (metL c s).length) (hs : Calm c s) : i < (nodesAt c s i).length := by
  have hb := nodes_le hs (3 ^ freeN c c.signals.length)
  rcases Nat.lt_or_ge i (nodesAt c s i).length with h | h
  · exact h
  · have hlt : i < 3 ^ freeN c c.signals.length := Nat.lt_of_lt_of_le hi hb
    obtain ⟨d, hd⟩ : ∃ d, 3 ^ freeN c c.signals.length = i + d := ⟨3 ^ freeN c c.signals.length - i, by omega⟩
    have e := nodes_stay h d
    rw [← hd] at e
    have : (metL c s).length = (nodesAt c s i).length := congrArg List.length e
    omega
theorem nodes_all {c : Control} {s : State} (hs : Calm c s) {i : Nat} (hi : (metL c s).length ≤ i) : nodesAt c s i = metL c s := by
  have hb := nodes_le hs i
  unfold metL at hi ⊢
  rcases Nat.lt_or_ge i (3 ^ freeN c c.signals.length) with h | h
  · obtain ⟨d, hd⟩ : ∃ d, 3 ^ freeN c c.signals.length = i + d := ⟨3 ^ freeN c c.signals.length - i, by omega⟩
    obtain ⟨r, hr⟩ := nodes_mono c s i d
    rw [← hd] at hr
    have hl : (nodesAt c s i).length ≤ i := by
      rw [hr, List.length_append] at hi
      omega
    have e := nodes_stay hl d
    rw [← hd] at e
    exact e.symm
  · have hb2 := nodes_le hs (3 ^ freeN c c.signals.length)
    obtain ⟨d, hd⟩ : ∃ d, i = 3 ^ freeN c c.signals.length + d := ⟨i - 3 ^ freeN c c.signals.length, by omega⟩
    rw [hd]
    exact nodes_stay hb2 d

end Go.Proofs.YtakndgpdolfenaaGreat
end

/- Plain laws of race: where moves lead; what ends. -/
section
namespace Go.Proofs.YtakndgpdolfenaaGreat
set_option maxHeartbeats 1000000
set_option maxRecDepth 10000

theorem idx_pre {l r : List Nod} {t : State} {k : Nat} (h : idxN l t = some k) : idxN (l ++ r) t = some k := by
  unfold idxN at h ⊢
  rw [List.findIdx?_append, h]
  rfl
theorem idx_new {l : List Nod} {n : Nod} (h : idxN l n.st = none) : idxN (l ++ [n]) n.st = some l.length := by
  unfold idxN at h ⊢
  rw [List.findIdx?_append, h, List.findIdx?_singleton]
  simp
theorem idx_visit (c : Control) (i : Nat) (s : State) (l : List Nod) (w : Nat) : idxN (visitN c i s l w) (moveS c s w) = some ((idxN l (moveS c s w)).getD l.length) := by
  unfold visitN
  split
  · rename_i k hk
    rw [hk]
    rfl
  · rename_i hk
    rw [hk]
    exact idx_new (n := ⟨moveS c s w, i, firstC c + w⟩) hk
theorem idx_visitL {c : Control} {i : Nat} {s : State} : ∀ {ws : List Nat} {l : List Nod} {w : Nat}, w ∈ ws → ∃ k, idxN (visitL c i s l ws) (moveS c s w) = some k
  | v :: ws, l, w, h => by
    show ∃ k, idxN (visitL c i s (visitN c i s l v) ws) (moveS c s w) = some k
    rcases List.mem_cons.1 h with rfl | h
    · obtain ⟨r, hr⟩ := visitL_pre c i s ws (visitN c i s l w)
      rw [hr]
      exact ⟨_, idx_pre (idx_visit c i s l w)⟩
    · exact idx_visitL h
/-- All that a state that is met leads to is met. -/
theorem met_closed {c : Control} {s : State} (hs : Calm c s) {i : Nat} {n : Nod} (hn : (metL c s)[i]? = some n) {w : Nat} (hw : w ∈ wantsL c n.st) : ∃ k, idxN (metL c s) (moveS c n.st w) = some k ∧ k < (metL c s).length := by
  have hi := (List.getElem?_eq_some_iff.1 hn).1
  have h1 := nodes_more hi hs
  have h2 : (nodesAt c s i)[i]? = some n := by
    have h3 := List.getElem?_eq_getElem h1
    have h4 := nodes_at (show i ≤ (metL c s).length by omega) h3
    rw [nodes_all hs (Nat.le_refl _), hn] at h4
    rw [h3, ← h4]
  have h5 : nodesAt c s (i + 1) = visitL c i n.st (nodesAt c s i) (wantsL c n.st) := by rw [nodesAt, h2]
  obtain ⟨k, hk⟩ := idx_visitL (c := c) (i := i) (s := n.st) (l := nodesAt c s i) hw
  rw [← h5] at hk
  obtain ⟨r, hr⟩ := nodes_mono c s (i + 1) ((metL c s).length - (i + 1))
  rw [show i + 1 + ((metL c s).length - (i + 1)) = (metL c s).length by omega, nodes_all hs (Nat.le_refl _)] at hr
  have hk2 : idxN (metL c s) (moveS c n.st w) = some k := by
    rw [hr]
    exact idx_pre hk
  obtain ⟨m, hm, -⟩ := idx_some hk2
  exact ⟨k, hk2, (List.getElem?_eq_some_iff.1 hm).1⟩
/-- Where the moves of the i-th state lead. -/
def nextN (c : Control) (s : State) (i : Nat) : List Nat := match (metL c s)[i]? with
  | none => []
  | some n => (wantsL c n.st).map fun w => (idxN (metL c s) (moveS c n.st w)).getD 0
theorem next_lt {c : Control} {s : State} (hs : Calm c s) {i j : Nat} (h : j ∈ nextN c s i) : j < (metL c s).length := by
  unfold nextN at h
  split at h
  · cases h
  · rename_i n hn
    obtain ⟨w, hw, rfl⟩ := List.mem_map.1 h
    obtain ⟨k, hk, hlt⟩ := met_closed hs hn hw
    rw [hk]
    exact hlt
theorem idx_at {l : List Nod} (h : (l.map Nod.st).Nodup) {k : Nat} {n : Nod} (hn : l[k]? = some n) : idxN l n.st = some k := by
  unfold idxN
  rw [List.findIdx?_eq_some_iff_getElem]
  obtain ⟨h1, h2⟩ := List.getElem?_eq_some_iff.1 hn
  refine ⟨h1, by rw [h2]; exact decide_eq_true rfl, fun j hj => ?_⟩
  rw [decide_eq_true_eq]
  intro e
  have hp := List.pairwise_iff_getElem.1 h j k (by rw [List.length_map]; omega) (by rw [List.length_map]; exact h1) hj
  rw [List.getElem_map, List.getElem_map, h2] at hp
  exact hp e
/-- Each state but the first one is led to by one that was met before. -/
theorem met_from {c : Control} {s : State} (hs : Calm c s) {k : Nat} (hk : k < (metL c s).length) (h0 : k ≠ 0) : ∃ j, j < k ∧ k ∈ nextN c s j := by
  have hok : NodOK c s (metL c s) := nodes_ok hs _
  have hn := List.getElem?_eq_getElem hk
  obtain ⟨j, w, m, h1, h2, h3, h4, h5, h6⟩ := hok.from_ k _ hn h0
  refine ⟨j, h1, ?_⟩
  unfold nextN
  rw [h4]
  refine List.mem_map.2 ⟨w, h5, ?_⟩
  rw [← h6, idx_at hok.nodup hn]
  rfl
/-- What comes to an end, whatever is done. -/
inductive DiesN (nx : Nat → List Nat) : Nat → Prop
  | mk {k : Nat} (h : ∀ j ∈ nx k, DiesN nx j) : DiesN nx k
theorem dies_next {nx : Nat → List Nat} {k j : Nat} (h : DiesN nx k) (hj : j ∈ nx k) : DiesN nx j := by
  cases h with
  | mk h => exact h j hj
theorem dies_all {c : Control} {s : State} (hs : Calm c s) (h : DiesN (nextN c s) 0) : ∀ n k, k ≤ n → k < (metL c s).length → DiesN (nextN c s) k
  | n, k, hn, hk => by
    by_cases h0 : k = 0
    · rw [h0]; exact h
    · obtain ⟨j, hj, hm⟩ := met_from hs hk h0
      cases n with
      | zero => omega
      | succ n => exact dies_next (dies_all hs h n j (by omega) (by omega)) hm
/-- The reference's way to find out: n times over all. -/
def goneStep (nx : Nat → List Nat) (g : List Bool) (k : Nat) : List Bool := g.set k ((nx k).all fun j => g.getD j false)
def goneSweep (nx : Nat → List Nat) (N : Nat) (g : List Bool) : List Bool := (List.range N).foldl (goneStep nx) g
def goneN (nx : Nat → List Nat) (N : Nat) : Nat → List Bool
  | 0 => List.replicate N false
  | n + 1 => goneSweep nx N (goneN nx N n)
end Go.Proofs.YtakndgpdolfenaaGreat
end

/- Plain laws of race: the reference finds what dies. -/
section
namespace Go.Proofs.YtakndgpdolfenaaGreat
set_option maxHeartbeats 1000000
set_option maxRecDepth 10000

abbrev isG (g : List Bool) (k : Nat) : Prop := g.getD k false = true
structure GoneOK (nx : Nat → List Nat) (g : List Bool) : Prop where
  dies : ∀ k, isG g k → DiesN nx k
  shut : ∀ k, isG g k → ∀ j ∈ nx k, isG g j
end Go.Proofs.YtakndgpdolfenaaGreat
end

/- Plain laws of race: the order of states; the ends in order. -/
section
namespace Go.Proofs.YtakndgpdolfenaaGreat
set_option maxHeartbeats 1000000
set_option maxRecDepth 10000

def cmpI : List Int → List Int → Int
  | [], [] => 0
  | [], _ :: _ => -1
  | _ :: _, [] => 1
  | a :: l, b :: m => if a < b then -1 else if b < a then 1 else cmpI l m
def cmpB : List Bool → List Bool → Int
  | a :: l, b :: m => if a = b then cmpB l m else if a = true then 1 else -1
  | _, _ => 0
/-- The order of two states: -1, 0 or 1. -/
def ordS (a b : State) : Int := if cmpB a.values b.values ≠ 0 then cmpB a.values b.values else cmpI a.timers b.timers
theorem cmpI_range : ∀ l m : List Int, cmpI l m = -1 ∨ cmpI l m = 0 ∨ cmpI l m = 1
  | [], [] => .inr (.inl rfl)
  | [], _ :: _ => .inl rfl
  | _ :: _, [] => .inr (.inr rfl)
  | a :: l, b :: m => by
    have := cmpI_range l m
    unfold cmpI
    split
    · exact .inl rfl
    · split
      · exact .inr (.inr rfl)
      · exact this
theorem cmpI_anti : ∀ l m : List Int, cmpI m l = - cmpI l m
  | [], [] => rfl
  | [], _ :: _ => rfl
  | _ :: _, [] => rfl
  | a :: l, b :: m => by
    have := cmpI_anti l m
    unfold cmpI
    by_cases h1 : a < b
    · have h2 : ¬ b < a := by omega
      simp [h1, h2]
    · by_cases h2 : b < a
      · simp [h1, h2]
      · simp [h1, h2, this]
theorem cmpI_zero : ∀ l m : List Int, cmpI l m = 0 ↔ l = m
  | [], [] => by simp [cmpI]
  | [], _ :: _ => by simp [cmpI]
  | _ :: _, [] => by simp [cmpI]
  | a :: l, b :: m => by
    have := cmpI_zero l m
    unfold cmpI
    rw [List.cons.injEq]
    by_cases h1 : a < b
    · rw [if_pos h1]
      constructor
      · intro h; cases h
      · rintro ⟨h, -⟩; omega
    · by_cases h2 : b < a
      · rw [if_neg h1, if_pos h2]
        constructor
        · intro h; cases h
        · rintro ⟨h, -⟩; omega
      · rw [if_neg h1, if_neg h2, this]
        constructor
        · intro h; exact ⟨by omega, h⟩
        · intro h; exact h.2
theorem cmpI_trans : ∀ l m n : List Int, cmpI l m < 0 → cmpI m n < 0 → cmpI l n < 0
  | [], [], _, h, _ => by simp [cmpI] at h
  | _ :: _, [], _, h, _ => by simp [cmpI] at h
  | _, _ :: _, [], _, h => by simp [cmpI] at h
  | [], _ :: _, _ :: _, _, _ => by simp [cmpI]
  | a :: l, b :: m, c :: n, h1, h2 => by
    have ih := cmpI_trans l m n
    unfold cmpI at h1 h2 ⊢
    by_cases k1 : a < b
    · by_cases k2 : b < c
      · rw [if_pos (by omega)]; decide
      · rw [if_neg k2] at h2
        by_cases k3 : c < b
        · rw [if_pos k3] at h2
          exact absurd h2 (by decide)
        · rw [if_pos (by omega)]; decide
    · rw [if_neg k1] at h1
      by_cases k4 : b < a
      · rw [if_pos k4] at h1
        exact absurd h1 (by decide)
      · rw [if_neg k4] at h1
        by_cases k2 : b < c
        · rw [if_pos (by omega)]; decide
        · rw [if_neg k2] at h2
          by_cases k3 : c < b
          · rw [if_pos k3] at h2
            exact absurd h2 (by decide)
          · rw [if_neg k3] at h2
            rw [if_neg (by omega), if_neg (by omega)]
            exact ih h1 h2
def bI (b : Bool) : Int := if b = true then 1 else 0
/-- A state's signals in a row. -/
def keyS (s : State) : List Int := s.values.map bI ++ s.timers
theorem cmpB_key : ∀ (l m : List Bool), l.length = m.length → ∀ u v : List Int, cmpI (l.map bI ++ u) (m.map bI ++ v) = if cmpB l m ≠ 0 then cmpB l m else cmpI u v
  | [], [], _, u, v => by simp [cmpB]
  | [], _ :: _, h, _, _ => by simp at h
  | _ :: _, [], h, _, _ => by simp at h
  | a :: l, b :: m, h, u, v => by
    have ih := cmpB_key l m (by simpa using h) u v
    cases a <;> cases b
    · simpa [cmpI, cmpB, bI] using ih
    · simp [cmpI, cmpB, bI]
    · simp [cmpI, cmpB, bI]
    · simpa [cmpI, cmpB, bI] using ih
theorem ord_key {a b : State} (h : a.values.length = b.values.length) : ordS a b = cmpI (keyS a) (keyS b) := (cmpB_key _ _ h _ _).symm
theorem bI_inj {a b : Bool} (h : bI a = bI b) : a = b := by
  cases a <;> cases b <;> simp [bI] at h ⊢
theorem key_inj {a b : State} (h : a.values.length = b.values.length) (e : keyS a = keyS b) : a.values = b.values ∧ a.timers = b.timers := by
  have h1 := List.append_inj e (by simp [h])
  refine ⟨?_, h1.2⟩
  have h2 := h1.1
  apply List.ext_getElem h
  intro i k1 k2
  have := congrArg (fun l : List Int => l[i]?) h2
  simp only [List.getElem?_map, List.getElem?_eq_getElem k1, List.getElem?_eq_getElem k2, Option.map_some] at this
  exact bI_inj (Option.some.inj this)
/-- Ordered one behind the other. -/
abbrev SortS (l : List State) : Prop := l.Pairwise fun a b => ordS a b < 0
def insS : List State → State → List State
  | [], s => [s]
  | a :: l, s => if ordS a s < 0 then a :: insS l s else s :: a :: l
theorem ins_perm : ∀ (l : List State) (s : State), (insS l s).Perm (s :: l)
  | [], s => List.Perm.refl _
  | a :: l, s => by
    unfold insS
    split
    · exact ((ins_perm l s).cons a).trans (List.Perm.swap s a l)
    · exact List.Perm.refl _
/-- States of one kind: their order is one. -/
structure Kin (n : Nat) (l : List State) : Prop where
  len : ∀ a ∈ l, a.values.length = n
  one : ∀ a ∈ l, ∀ b ∈ l, a.values = b.values → a.timers = b.timers → a = b
theorem kin_lt {n : Nat} {l : List State} (h : Kin n l) {a b : State} (ha : a ∈ l) (hb : b ∈ l) (hne : a ≠ b) (hn : ¬ ordS a b < 0) : ordS b a < 0 := by
  have hl := h.len a ha
  have hl2 := h.len b hb
  rw [ord_key (by omega)] at hn ⊢
  rw [cmpI_anti]
  have h0 : cmpI (keyS a) (keyS b) ≠ 0 := by
    intro e
    obtain ⟨e1, e2⟩ := key_inj (by omega) ((cmpI_zero _ _).1 e)
    exact hne (h.one a ha b hb e1 e2)
  rcases cmpI_range (keyS a) (keyS b) with h1 | h1 | h1 <;> omega
theorem ord_trans {n : Nat} {a b c : State} (ha : a.values.length = n) (hb : b.values.length = n) (hc : c.values.length = n) (h1 : ordS a b < 0) (h2 : ordS b c < 0) : ordS a c < 0 := by
  rw [ord_key (by omega)] at h1 h2 ⊢
  exact cmpI_trans _ _ _ h1 h2
theorem ins_sort {n : Nat} : ∀ {l : List State} {s : State}, Kin n (s :: l) → s ∉ l → SortS l → SortS (insS l s)
  | [], s, _, _, _ => List.pairwise_singleton _ _
  | a :: l, s, hk, hn, h => by
    obtain ⟨h1, h2⟩ := List.pairwise_cons.1 h
    unfold insS
    split
    · rename_i hlt
      have sub : ∀ b, b ∈ s :: l → b ∈ s :: a :: l := fun b hb => by
        rcases List.mem_cons.1 hb with rfl | hb
        · simp
        · simp [hb]
      refine List.pairwise_cons.2 ⟨?_, ins_sort (n := n) ⟨fun b hb => hk.len b (sub b hb), fun b hb c hc => hk.one b (sub b hb) c (sub c hc)⟩ (fun hm => hn (by simp [hm])) h2⟩
      intro b hb
      rcases List.mem_cons.1 ((ins_perm l s).mem_iff.1 hb) with rfl | hb
      · exact hlt
      · exact h1 b hb
    · rename_i hge
      have hsa := kin_lt hk (a := a) (b := s) (by simp) (by simp) (fun e => hn (by simp [e])) hge
      refine List.pairwise_cons.2 ⟨?_, h⟩
      intro b hb
      rcases List.mem_cons.1 hb with rfl | hb2
      · exact hsa
      · exact ord_trans (hk.len s (by simp)) (hk.len a (by simp)) (hk.len b (by simp [hb2])) hsa (h1 b hb2)

end Go.Proofs.YtakndgpdolfenaaGreat
end

/- Plain laws of race: the ends in order, ways. -/
section
namespace Go.Proofs.YtakndgpdolfenaaGreat
set_option maxHeartbeats 1000000
set_option maxRecDepth 10000

theorem ord_irrefl (a : State) : ¬ ordS a a < 0 := by
  rw [ord_key rfl, (cmpI_zero _ _).2 rfl]
  decide
theorem ord_asym {a b : State} (hl : a.values.length = b.values.length) (h : ordS a b < 0) : ¬ ordS b a < 0 := by
  rw [ord_key hl] at h
  rw [ord_key hl.symm, cmpI_anti]
  omega
/-- There is one order only. -/
theorem sort_uniq {n : Nat} : ∀ {l m : List State}, (∀ a ∈ l, a.values.length = n) → SortS l → SortS m → l.Perm m → l = m
  | [], m, _, _, _, hp => by rw [List.nil_perm.1 hp]
  | a :: l, [], _, _, _, hp => absurd hp.length_eq (by simp)
  | a :: l, b :: m, hn, h1, h2, hp => by
    obtain ⟨p1, p2⟩ := List.pairwise_cons.1 h1
    obtain ⟨q1, q2⟩ := List.pairwise_cons.1 h2
    have hb : b ∈ a :: l := hp.mem_iff.2 (by simp)
    have ha : a ∈ b :: m := hp.mem_iff.1 (by simp)
    have e : a = b := by
      rcases List.mem_cons.1 hb with e | hb2
      · exact e.symm
      · rcases List.mem_cons.1 ha with e | ha2
        · exact e
        · exact absurd (q1 a ha2) (ord_asym ((hn a (by simp)).trans (hn b (by simp [hb2])).symm) (p1 b hb2))
    subst e
    rw [sort_uniq (fun c hc => hn c (by simp [hc])) p2 q2 ((List.perm_cons a).1 hp)]
theorem insF_perm : ∀ (l m : List State), (l.foldl insS m).Perm (m ++ l)
  | [], m => by simp
  | a :: l, m => by
    rw [List.foldl_cons]
    refine (insF_perm l (insS m a)).trans ?_
    refine ((ins_perm m a).append_right l).trans ?_
    exact List.perm_middle.symm
theorem insF_sort {n : Nat} : ∀ (l m : List State), Kin n (m ++ l) → (m ++ l).Nodup → SortS m → SortS (l.foldl insS m)
  | [], _, _, _, h => h
  | a :: l, m, hk, hn, h => by
    rw [List.foldl_cons]
    have hp : (insS m a ++ l).Perm (m ++ a :: l) := ((ins_perm m a).append_right l).trans List.perm_middle.symm
    have sub : ∀ b, b ∈ a :: m → b ∈ m ++ a :: l := fun b hb => by
      rcases List.mem_cons.1 hb with rfl | hb
      · simp
      · simp [hb]
    refine insF_sort l _ ⟨fun b hb => hk.len b (hp.mem_iff.1 hb), fun b hb c hc => hk.one b (hp.mem_iff.1 hb) c (hp.mem_iff.1 hc)⟩ (hp.nodup_iff.2 hn) (ins_sort (n := n) ⟨fun b hb => hk.len b (sub b hb), fun b hb c hc => hk.one b (sub b hb) c (sub c hc)⟩ ?_ h)
    intro hm
    have := (List.nodup_append.1 hn).2.2 a hm a (by simp)
    exact this rfl
/-- The ends as they are met. -/
def stillB (c : Control) (n : Nod) : Bool := (wantsL c n.st).isEmpty
def endsB (c : Control) (s : State) : List State := ((metL c s).filter (stillB c)).map Nod.st
/-- The ends in order. -/
def endsS (c : Control) (s : State) : List State := (endsB c s).foldl insS []
theorem met_ok {c : Control} {s : State} (hs : Calm c s) : NodOK c s (metL c s) := nodes_ok hs _
theorem met_kin {c : Control} {s : State} (hs : Calm c s) : Kin c.signals.length ((metL c s).map Nod.st) := by
  have h := met_ok hs
  have get : ∀ a ∈ (metL c s).map Nod.st, Calm c a ∧ a.ends = s.ends ∧ a.valves = s.valves ∧ a.inputs = s.inputs := by
    intro a ha
    obtain ⟨n, hn, rfl⟩ := List.mem_map.1 ha
    exact h.calm n hn
  refine ⟨fun a ha => (get a ha).1.shape.2.2.2.1, fun a ha b hb e1 e2 => ?_⟩
  obtain ⟨-, a1, a2, a3⟩ := get a ha
  obtain ⟨-, b1, b2, b3⟩ := get b hb
  obtain ⟨x1, x2, x3, x4, x5⟩ := a
  obtain ⟨y1, y2, y3, y4, y5⟩ := b
  simp only at a1 a2 a3 b1 b2 b3 e1 e2
  rw [a1, a2, a3, b1, b2, b3, e1, e2]
theorem ends_sub (c : Control) (s : State) : (endsB c s).Sublist ((metL c s).map Nod.st) := List.Sublist.map _ (List.filter_sublist)
theorem ends_kin {c : Control} {s : State} (hs : Calm c s) : Kin c.signals.length (endsB c s) :=
  ⟨fun a ha => (met_kin hs).len a ((ends_sub c s).subset ha), fun a ha b hb => (met_kin hs).one a ((ends_sub c s).subset ha) b ((ends_sub c s).subset hb)⟩
theorem ends_nodup {c : Control} {s : State} (hs : Calm c s) : (endsB c s).Nodup := (met_ok hs).nodup.sublist (ends_sub c s)
theorem ends_sort {c : Control} {s : State} (hs : Calm c s) : SortS (endsS c s) := insF_sort (n := c.signals.length) _ [] (by simpa using ends_kin hs) (by simpa using ends_nodup hs) List.Pairwise.nil
theorem ends_perm (c : Control) (s : State) : (endsS c s).Perm (endsB c s) := by
  have h := insF_perm (endsB c s) []
  rwa [List.nil_append] at h
/-- The lines that change on the way to the k-th state. -/
def wayN (l : List Nod) : Nat → Nat → List Int
  | 0, _ => []
  | f + 1, k => match l[k]? with
    | none => []
    | some n => if n.bef < 0 then [] else wayN l f n.bef.toNat ++ [n.line]
def wayL (l : List Nod) (k : Nat) : List Int := wayN l (k + 1) k
theorem wayN_fuel {c : Control} {s : State} {l : List Nod} (h : NodOK c s l) : ∀ (f k : Nat), k < f → k < l.length → wayN l f k = wayL l k
  | 0, k, hk, _ => absurd hk (Nat.not_lt_zero k)
  | f + 1, k, hk, hl => by
    unfold wayL
    rw [wayN, wayN]
    have hn := List.getElem?_eq_getElem hl
    rw [hn]
    simp only
    by_cases h0 : k = 0
    · subst h0
      have := h.head
      rw [hn] at this
      rw [Option.some.inj this]
      rfl
    · obtain ⟨j, w, m, h1, h2, h3, h4, h5, h6⟩ := h.from_ k _ hn h0
      rw [h2, if_neg (by omega), if_neg (by omega), Int.toNat_natCast, wayN_fuel h f j (by omega) (by omega), wayN_fuel h k j (by omega) (by omega)]
theorem way_step {c : Control} {s : State} {l : List Nod} (h : NodOK c s l) {k j : Nat} {n : Nod} (hn : l[k]? = some n) (hj : n.bef = j) (h0 : k ≠ 0) : wayL l k = wayL l j ++ [n.line] := by
  obtain ⟨i, w, m, h1, h2, h3, h4, h5, h6⟩ := h.from_ k n hn h0
  have hk := (List.getElem?_eq_some_iff.1 hn).1
  obtain rfl : i = j := by omega
  conv => lhs; unfold wayL; rw [wayN, hn]
  simp only
  rw [h2, if_neg (by omega), Int.toNat_natCast, wayN_fuel h k i h1 (by omega)]
theorem way_first {c : Control} {s : State} {l : List Nod} (h : NodOK c s l) : wayL l 0 = [] := by
  unfold wayL
  rw [wayN, h.head]
  rfl
end Go.Proofs.YtakndgpdolfenaaGreat
end

/- Plain laws of race: the program finds what dies. -/
section
namespace Go.Proofs.YtakndgpdolfenaaGreat
set_option maxHeartbeats 1000000
set_option maxRecDepth 10000

/-- How many next ones are left, and what is ready to be taken away. -/
abbrev KahT := List Int × List Nat
def kStep (p : KahT) (k : Nat) : KahT := (p.1.set k (p.1.getD k 0 - 1), if p.1.getD k 0 - 1 = 0 then p.2 ++ [k] else p.2)
/-- Whom a state is next to, as often as it is. -/
def befN (nx : Nat → List Nat) (N k : Nat) : List Nat := (List.range N).flatMap fun i => ((nx i).filter fun j => decide (j = k)).map fun _ => i
def kahAt (nx : Nat → List Nat) (N : Nat) : Nat → KahT
  | 0 => ((List.range N).map fun i => ((nx i).length : Int), (List.range N).filter fun i => (nx i).isEmpty)
  | n + 1 => match (kahAt nx N n).2[n]? with
    | none => kahAt nx N n
    | some r => (befN nx N r).foldl kStep (kahAt nx N n)
theorem bef_count (nx : Nat → List Nat) (k i : Nat) : ∀ N, (befN nx N k).count i = if i < N then (nx i).count k else 0
  | 0 => by simp [befN]
  | N + 1 => by
    have ih := bef_count nx k i N
    unfold befN at ih ⊢
    rw [List.range_succ, List.flatMap_append, List.count_append, ih]
    have h1 : (((nx N).filter fun j => decide (j = k)).map fun _ => N).count i = if i = N then (nx N).count k else 0 := by
      by_cases h : i = N
      · subst h
        rw [if_pos rfl, List.count_eq_length.2 (by simp), List.length_map, List.count_eq_countP, List.countP_eq_length_filter]
        congr 1
      · rw [if_neg h, List.count_eq_zero]
        intro hm
        obtain ⟨_, _, e⟩ := List.mem_map.1 hm
        exact h e.symm
    rw [List.flatMap_singleton, h1]
    by_cases h : i = N
    · subst h
      simp
    · by_cases h2 : i < N
      · rw [if_pos h2, if_neg h, if_pos (by omega), Nat.add_zero]
      · rw [if_neg h2, if_neg h, if_neg (by omega)]
theorem bef_lt {nx : Nat → List Nat} {N k i : Nat} (h : i ∈ befN nx N k) : i < N := by
  unfold befN at h
  obtain ⟨a, h1, h2⟩ := List.mem_flatMap.1 h
  obtain ⟨_, _, e⟩ := List.mem_map.1 h2
  rw [← e]
  exact List.mem_range.1 h1
/-- What steps do. -/
theorem kFold : ∀ (ps : List Nat) (p : KahT), (∀ k ∈ ps, k < p.1.length) → (∀ k, (ps.count k : Int) ≤ p.1.getD k 0 ∨ ps.count k = 0) →
    (ps.foldl kStep p).1.length = p.1.length ∧ (∀ k, (ps.foldl kStep p).1.getD k 0 = p.1.getD k 0 - ps.count k) ∧
      ∃ r, (ps.foldl kStep p).2 = p.2 ++ r ∧ r.Nodup ∧ ∀ k, k ∈ r ↔ ps.count k ≠ 0 ∧ p.1.getD k 0 = ps.count k
  | [], p, _, _ => ⟨rfl, fun k => by simp, [], by simp, List.nodup_nil, fun k => by simp⟩
  | a :: ps, p, hl, hc => by
    have ha := hl a (by simp)
    have hca : ((a :: ps).count a : Int) ≤ p.1.getD a 0 := by
      rcases hc a with h | h
      · exact h
      · simp at h
    rw [List.count_cons_self] at hca
    have hget : ∀ k, (kStep p a).1.getD k 0 = if k = a then p.1.getD a 0 - 1 else p.1.getD k 0 := by
      intro k
      show (p.1.set a _).getD k 0 = _
      rw [set_getD]
      by_cases h : k = a
      · subst h
        rw [if_pos ⟨rfl, ha⟩, if_pos rfl]
      · rw [if_neg (fun e => h e.1.symm), if_neg h]
    obtain ⟨k1, k2, r, k3, k4, k5⟩ := kFold ps (kStep p a) (fun k hk => by
      have := hl k (by simp [hk])
      simpa [kStep] using this) (fun k => by
      rw [hget]
      by_cases h : k = a
      · subst h
        rw [if_pos rfl]
        left
        omega
      · rw [if_neg h]
        rcases hc k with h1 | h1
        · rw [List.count_cons_of_ne (fun e => h e.symm)] at h1
          exact .inl h1
        · rw [List.count_cons_of_ne (fun e => h e.symm)] at h1
          exact .inr h1)
    rw [List.foldl_cons]
    refine ⟨k1.trans (by simp [kStep]), fun k => ?_, ?_⟩
    · rw [k2, hget]
      by_cases h : k = a
      · subst h
        rw [if_pos rfl, List.count_cons_self]
        omega
      · rw [if_neg h, List.count_cons_of_ne (fun e => h e.symm)]
    · by_cases h0 : p.1.getD a 0 - 1 = 0
      · refine ⟨a :: r, ?_, ?_, fun k => ?_⟩
        · rw [k3]
          show (if p.1.getD a 0 - 1 = 0 then p.2 ++ [a] else p.2) ++ r = _
          rw [if_pos h0]
          simp
        · refine List.nodup_cons.2 ⟨fun hm => ?_, k4⟩
          have := (k5 a).1 hm
          rw [hget, if_pos rfl] at this
          omega
        · rw [List.mem_cons, k5, hget]
          by_cases h : k = a
          · subst h
            rw [if_pos rfl, List.count_cons_self]
            constructor
            · intro _
              exact ⟨by omega, by omega⟩
            · intro _
              exact .inl rfl
          · rw [if_neg h, List.count_cons_of_ne (fun e => h e.symm)]
            constructor
            · rintro (e | e)
              · exact absurd e h
              · exact e
            · exact .inr
      · refine ⟨r, ?_, k4, fun k => ?_⟩
        · rw [k3]
          show (if p.1.getD a 0 - 1 = 0 then p.2 ++ [a] else p.2) ++ r = _
          rw [if_neg h0]
        · rw [k5, hget]
          by_cases h : k = a
          · subst h
            rw [if_pos rfl, List.count_cons_self]
            constructor
            · rintro ⟨e1, e2⟩
              exact ⟨by omega, by omega⟩
            · rintro ⟨e1, e2⟩
              exact ⟨by omega, by omega⟩
          · rw [if_neg h, List.count_cons_of_ne (fun e => h e.symm)]

/-- What holds when n are taken away. -/
structure KahOK (nx : Nat → List Nat) (N n : Nat) (p : KahT) : Prop where
  len : p.1.length = N
  left : ∀ k, k < N → p.1.getD k 0 = ((nx k).countP fun j => decide (j ∉ p.2.take n) : Nat)
  nodup : p.2.Nodup
  lt : ∀ k ∈ p.2, k < N
  ready : ∀ k, k < N → (k ∈ p.2 ↔ p.1.getD k 0 = 0)
  dies : ∀ k ∈ p.2, DiesN nx k
  shut : ∀ k ∈ p.2, ∀ j ∈ nx k, j ∈ p.2
theorem kah_zero (nx : Nat → List Nat) (N : Nat) : KahOK nx N 0 (kahAt nx N 0) := by
  have hg : ∀ k, k < N → (kahAt nx N 0).1.getD k 0 = ((nx k).length : Int) := by
    intro k hk
    show ((List.range N).map _).getD k 0 = _
    rw [List.getD_eq_getElem?_getD, List.getElem?_map, List.getElem?_range hk]
    rfl
  have hm : ∀ k, k ∈ (kahAt nx N 0).2 ↔ k < N ∧ nx k = [] := by
    intro k
    show k ∈ (List.range N).filter _ ↔ _
    rw [List.mem_filter, List.mem_range, List.isEmpty_iff]
  refine ⟨by simp [kahAt], fun k hk => ?_, List.Pairwise.filter _ List.nodup_range, fun k hk => ((hm k).1 hk).1, fun k hk => ?_, fun k hk => ?_, fun k hk j hj => ?_⟩
  · rw [hg k hk]
    simp
  · rw [hm, hg k hk]
    constructor
    · rintro ⟨-, h⟩
      rw [h]
      rfl
    · intro h
      exact ⟨hk, List.eq_nil_of_length_eq_zero (by omega)⟩
  · refine .mk fun j hj => ?_
    rw [((hm k).1 hk).2] at hj
    cases hj
  · rw [((hm k).1 hk).2] at hj
    cases hj
theorem kah_step {nx : Nat → List Nat} {N n : Nat} {p : KahT} (h : KahOK nx N n p) {r : Nat} (hr : p.2[n]? = some r) : KahOK nx N (n + 1) ((befN nx N r).foldl kStep p) := by
  obtain ⟨hn, hr2⟩ := List.getElem?_eq_some_iff.1 hr
  have htk : p.2.take (n + 1) = p.2.take n ++ [r] := by rw [List.take_add_one, hr]; rfl
  have hnr : r ∉ p.2.take n := by
    intro hm
    have := h.nodup
    rw [← List.take_append_drop n p.2, List.nodup_append] at this
    refine this.2.2 r hm r ?_ rfl
    rw [List.drop_eq_getElem_cons hn, hr2]
    simp
  have split : ∀ l : List Nat, (l.countP fun j => decide (j ∉ p.2.take n)) = (l.countP fun j => decide (j ∉ p.2.take (n + 1))) + l.count r := by
    intro l
    induction l with
    | nil => rfl
    | cons a l ih =>
      rw [List.countP_cons, List.countP_cons, List.count_cons, ih, htk]
      by_cases ha : a = r
      · subst ha
        simp [hnr]
        omega
      · simp [ha]
        split <;> omega
  have hcnt : ∀ k, (befN nx N r).count k = if k < N then (nx k).count r else 0 := fun k => bef_count nx r k N
  obtain ⟨k1, k2, q, k3, k4, k5⟩ := kFold (befN nx N r) p (fun k hk => by rw [h.len]; exact bef_lt hk) (fun k => by
    rw [hcnt]
    by_cases hk : k < N
    · left
      rw [if_pos hk, h.left k hk, split]
      omega
    · right
      rw [if_neg hk])
  have hq : ∀ k ∈ q, k < N ∧ (nx k).count r ≠ 0 ∧ p.1.getD k 0 = ((nx k).count r : Nat) := by
    intro k hk
    obtain ⟨e1, e2⟩ := (k5 k).1 hk
    rw [hcnt] at e1 e2
    by_cases hkN : k < N
    · rw [if_pos hkN] at e1 e2
      exact ⟨hkN, e1, e2⟩
    · rw [if_neg hkN] at e1
      exact absurd rfl e1
  have hnew : ∀ k ∈ q, ∀ j ∈ nx k, j ∈ p.2 := by
    intro k hk j hj
    obtain ⟨e1, e2, e3⟩ := hq k hk
    rw [h.left k e1, split] at e3
    have e4 : (nx k).countP (fun j => decide (j ∉ p.2.take (n + 1))) = 0 := by omega
    have e5 := List.countP_eq_zero.1 e4 j hj
    have e6 : j ∈ p.2.take (n + 1) := by simpa using e5
    exact List.mem_of_mem_take e6
  have htake : ((befN nx N r).foldl kStep p).2.take (n + 1) = p.2.take (n + 1) := by
    rw [k3, List.take_append_of_le_length (by omega)]
  refine ⟨k1.trans h.len, fun k hk => ?_, ?_, ?_, fun k hk => ?_, ?_, ?_⟩
  · rw [k2, h.left k hk, htake, hcnt, if_pos hk, split]
    omega
  · rw [k3, List.nodup_append]
    refine ⟨h.nodup, k4, fun a ha b hb e => ?_⟩
    subst e
    obtain ⟨e1, e2, e3⟩ := hq a hb
    have := (h.ready a e1).1 ha
    omega
  · intro k hk
    rw [k3] at hk
    rcases List.mem_append.1 hk with hk | hk
    · exact h.lt k hk
    · exact (hq k hk).1
  · rw [k2, hcnt, if_pos hk, k3, List.mem_append, h.ready k hk]
    have hle : ((nx k).count r : Int) ≤ p.1.getD k 0 := by rw [h.left k hk, split]; omega
    constructor
    · rintro (e | e)
      · omega
      · have := (hq k e).2.2
        omega
    · intro e
      by_cases h0 : (nx k).count r = 0
      · left; omega
      · right
        rw [k5, hcnt, if_pos hk]
        exact ⟨h0, by omega⟩
  · intro k hk
    rw [k3] at hk
    rcases List.mem_append.1 hk with hk | hk
    · exact h.dies k hk
    · exact .mk fun j hj => h.dies j (hnew k hk j hj)
  · intro k hk j hj
    rw [k3] at hk ⊢
    rcases List.mem_append.1 hk with hk | hk
    · exact List.mem_append.2 (.inl (h.shut k hk j hj))
    · exact List.mem_append.2 (.inl (hnew k hk j hj))

theorem kah_ok (nx : Nat → List Nat) (N : Nat) : ∀ n, KahOK nx N n (kahAt nx N n)
  | 0 => kah_zero nx N
  | n + 1 => by
    have ih := kah_ok nx N n
    rw [kahAt]
    split
    · rename_i hno
      have hl := List.getElem?_eq_none_iff.1 hno
      refine ⟨ih.len, fun k hk => ?_, ih.nodup, ih.lt, ih.ready, ih.dies, ih.shut⟩
      have := ih.left k hk
      rw [List.take_of_length_le hl] at this
      rw [List.take_of_length_le (by omega)]
      exact this
    · rename_i r hr
      exact kah_step ih hr
theorem kah_le (nx : Nat → List Nat) (N n : Nat) : (kahAt nx N n).2.length ≤ N := by
  have h := kah_ok nx N n
  have := nodup_le h.nodup (m := List.range N) fun v hv => List.mem_range.2 (h.lt v hv)
  rwa [List.length_range] at this
theorem kah_pre (nx : Nat → List Nat) (N n : Nat) : ∃ r, (kahAt nx N (n + 1)).2 = (kahAt nx N n).2 ++ r := by
  have h := kah_ok nx N n
  rw [kahAt]
  split
  · exact ⟨[], by simp⟩
  · rename_i r hr
    obtain ⟨-, -, q, k3, -⟩ := kFold (befN nx N r) (kahAt nx N n) (fun k hk => by rw [h.len]; exact bef_lt hk) (fun k => by
      rw [bef_count]
      by_cases hk : k < N
      · left
        rw [if_pos hk, h.left k hk]
        have hr3 : r ∉ (kahAt nx N n).2.take n := by
          intro hm
          obtain ⟨hn, hr2⟩ := List.getElem?_eq_some_iff.1 hr
          have := h.nodup
          rw [← List.take_append_drop n (kahAt nx N n).2, List.nodup_append] at this
          refine this.2.2 r hm r ?_ rfl
          rw [List.drop_eq_getElem_cons hn, hr2]
          simp
        have hle : (nx k).count r ≤ (nx k).countP fun j => decide (j ∉ (kahAt nx N n).2.take n) := by
          rw [List.count_eq_countP]
          refine List.countP_mono_left fun x _ hx => ?_
          have : x = r := by simpa using hx
          rw [this]
          simpa using hr3
        omega
      · right
        rw [if_neg hk])
    exact ⟨q, k3⟩
theorem kah_mono (nx : Nat → List Nat) (N n : Nat) : ∀ d, ∃ r, (kahAt nx N (n + d)).2 = (kahAt nx N n).2 ++ r
  | 0 => ⟨[], by simp⟩
  | d + 1 => by
    obtain ⟨r, hr⟩ := kah_mono nx N n d
    obtain ⟨q, hq⟩ := kah_pre nx N (n + d)
    exact ⟨r ++ q, by rw [← Nat.add_assoc, hq, hr, List.append_assoc]⟩
theorem kah_stay {nx : Nat → List Nat} {N n : Nat} (h : (kahAt nx N n).2.length ≤ n) : ∀ d, kahAt nx N (n + d) = kahAt nx N n
  | 0 => rfl
  | d + 1 => by
    have ih := kah_stay h d
    rw [← Nat.add_assoc, kahAt, ih, List.getElem?_eq_none (by omega)]
/-- How many are taken away. -/
def kahN (nx : Nat → List Nat) (N : Nat) : Nat := (kahAt nx N N).2.length
theorem kah_more {nx : Nat → List Nat} {N i : Nat} (hi : i < kahN nx N) : i < (kahAt nx N i).2.length := by
  have hb := kah_le nx N N
  rcases Nat.lt_or_ge i (kahAt nx N i).2.length with h | h
  · exact h
  · unfold kahN at hi
    obtain ⟨d, hd⟩ : ∃ d, N = i + d := ⟨N - i, by omega⟩
    have e := kah_stay h d
    rw [← hd] at e
    rw [e] at hi
    omega
theorem kah_all {nx : Nat → List Nat} {N : Nat} : kahAt nx N (kahN nx N) = kahAt nx N N := by
  have hb := kah_le nx N N
  obtain ⟨d, hd⟩ : ∃ d, N = kahN nx N + d := ⟨N - kahN nx N, by unfold kahN; omega⟩
  obtain ⟨r, hr⟩ := kah_mono nx N (kahN nx N) d
  rw [← hd] at hr
  have hl : (kahAt nx N (kahN nx N)).2.length ≤ kahN nx N := by
    have := congrArg List.length hr
    rw [List.length_append] at this
    show _ ≤ (kahAt nx N N).2.length
    omega
  have e := kah_stay hl d
  rw [← hd] at e
  exact e.symm
theorem kah_mem {nx : Nat → List Nat} {N k : Nat} (hb : ∀ i j, j ∈ nx i → j < N) (h : DiesN nx k) : k < N → k ∈ (kahAt nx N N).2 := by
  have hok := kah_ok nx N N
  have hle := kah_le nx N N
  induction h with
  | @mk k hk ih =>
    intro hkN
    rw [hok.ready k hkN, hok.left k hkN, List.take_of_length_le hle]
    have : ((nx k).countP fun j => decide (j ∉ (kahAt nx N N).2)) = 0 := by
      rw [List.countP_eq_zero]
      intro j hj
      have := ih j hj (hb k j hj)
      simpa using this
    omega
/-- Something is left exactly if not all dies. -/
theorem kah_dies {nx : Nat → List Nat} {N : Nat} (hb : ∀ i j, j ∈ nx i → j < N) : kahN nx N < N ↔ ¬ ∀ k, k < N → DiesN nx k := by
  have hok := kah_ok nx N N
  have hle := kah_le nx N N
  constructor
  · intro h ha
    have := nodup_le (l := List.range N) (m := (kahAt nx N N).2) List.nodup_range fun v hv => kah_mem hb (ha v (List.mem_range.1 hv)) (List.mem_range.1 hv)
    rw [List.length_range] at this
    unfold kahN at h
    omega
  · intro h
    rcases Nat.lt_or_ge (kahN nx N) N with h1 | h1
    · exact h1
    · refine absurd (fun k hk => ?_) h
      have hk2 : k ∈ (kahAt nx N N).2 := by
        refine Classical.byContradiction fun hn => ?_
        have := nodup_le (l := k :: (kahAt nx N N).2) (m := List.range N) (List.nodup_cons.2 ⟨hn, hok.nodup⟩) fun v hv => by
          rcases List.mem_cons.1 hv with rfl | hv
          · exact List.mem_range.2 hk
          · exact List.mem_range.2 (hok.lt v hv)
        rw [List.length_range, List.length_cons] at this
        unfold kahN at h1
        omega
      exact hok.dies k hk2

/-- Whether the signals may change without end. -/
def turnsP (c : Control) (s : State) : Bool := decide (kahN (nextN c s) (metL c s).length < (metL c s).length)
end Go.Proofs.YtakndgpdolfenaaGreat
end

/- Plain laws of race: what is met again, what is at rest. -/
section
namespace Go.Proofs.YtakndgpdolfenaaGreat
set_option maxHeartbeats 1000000
set_option maxRecDepth 10000

theorem met_ind {c : Control} {s : State} (hs : Calm c s) {P : State → Prop} (h0 : P s) (hstep : ∀ t w, Calm c t → P t → w ∈ wantsL c t → P (moveS c t w)) : ∀ (f k : Nat) (n : Nod), k < f → (metL c s)[k]? = some n → P n.st
  | 0, k, _, hk, _ => absurd hk (Nat.not_lt_zero k)
  | f + 1, k, n, hk, hn => by
    have hok := met_ok hs
    by_cases hk0 : k = 0
    · subst hk0
      have := hok.head
      rw [hn] at this
      rw [Option.some.inj this]
      exact h0
    · obtain ⟨j, w, m, h1, h2, h3, h4, h5, h6⟩ := hok.from_ k n hn hk0
      rw [h6]
      exact hstep m.st w (hok.calm m (List.mem_of_getElem? h4)).1 (met_ind hs h0 hstep f j m (by omega) h4) h5
theorem met_all {c : Control} {s : State} (hs : Calm c s) {P : State → Prop} (h0 : P s) (hstep : ∀ t w, Calm c t → P t → w ∈ wantsL c t → P (moveS c t w)) {t : State} (ht : t ∈ (metL c s).map Nod.st) : P t := by
  obtain ⟨n, hn, rfl⟩ := List.mem_map.1 ht
  obtain ⟨k, hk⟩ := List.getElem?_of_mem hn
  exact met_ind hs h0 hstep (k + 1) k n (by omega) hk
theorem met_calm {c : Control} {s t : State} (hs : Calm c s) (ht : t ∈ (metL c s).map Nod.st) : Calm c t ∧ t.ends = s.ends ∧ t.valves = s.valves ∧ t.inputs = s.inputs := by
  obtain ⟨n, hn, rfl⟩ := List.mem_map.1 ht
  exact (met_ok hs).calm n hn
theorem mem_ends {c : Control} {s t : State} : t ∈ endsB c s ↔ t ∈ (metL c s).map Nod.st ∧ wantsL c t = [] := by
  unfold endsB
  rw [List.mem_map, List.mem_map]
  constructor
  · rintro ⟨n, hn, rfl⟩
    rw [List.mem_filter] at hn
    exact ⟨⟨n, hn.1, rfl⟩, List.isEmpty_iff.1 hn.2⟩
  · rintro ⟨⟨n, hn, rfl⟩, h⟩
    exact ⟨n, List.mem_filter.2 ⟨hn, List.isEmpty_iff.2 h⟩, rfl⟩
theorem mem_endsS {c : Control} {s t : State} : t ∈ endsS c s ↔ t ∈ (metL c s).map Nod.st ∧ wantsL c t = [] := by rw [(ends_perm c s).mem_iff, mem_ends]
/-- What wants nothing meets itself alone. -/
theorem met_still {c : Control} {s : State} (hs : Calm c s) (hw : wantsL c s = []) : metL c s = [⟨s, -1, 0⟩] := by
  have h1 : nodesAt c s 1 = [⟨s, -1, 0⟩] := by
    show (match (nodesAt c s 0)[0]? with | none => nodesAt c s 0 | some n => visitL c 0 n.st (nodesAt c s 0) (wantsL c n.st)) = _
    show visitL c 0 s (nodesAt c s 0) (wantsL c s) = _
    rw [hw]
    rfl
  have h2 := nodes_stay (c := c) (s := s) (i := 1) (by rw [h1]; exact Nat.le_refl 1)
  have hpos : 1 ≤ 3 ^ freeN c c.signals.length := Nat.one_le_pow _ _ (by decide)
  obtain ⟨d, hd⟩ : ∃ d, 3 ^ freeN c c.signals.length = 1 + d := ⟨3 ^ freeN c c.signals.length - 1, by omega⟩
  unfold metL
  rw [hd, h2, h1]
theorem still_rest {c : Control} {s : State} (hs : Calm c s) (hw : wantsL c s = []) : roundS c s = s := by
  have hsh := hs.shape
  obtain ⟨f1, f2, f3⟩ := fits_parts hs.right
  have key : ∀ i, i < c.signals.length → (sigStep c s (valuesOf s) i).1 = s.values.getD i false ∧ (sigStep c s (valuesOf s) i).2.1 = s.timers.getD i 0 := by
    intro i hi
    obtain ⟨x, v, t, hx, hv, ht⟩ := sig_have hsh hi
    have hvd : s.values.getD i false = v := by rw [List.getD_eq_getElem?_getD, hv]; rfl
    have htd : s.timers.getD i 0 = t := by rw [List.getD_eq_getElem?_getD, ht]; rfl
    have hfit := f3 i x hx
    rw [hvd, htd] at hfit
    have hwn : wantAt c s i = false := by
      cases h : wantAt c s i with
      | false => rfl
      | true =>
        have := mem_wants.2 ⟨hi, h⟩
        rw [hw] at this
        cases this
    have : wantV x.kind v t (evalE x.on (valuesOf s)) (x.kind == 1 && evalE x.off (valuesOf s)) = false := by simpa only [wantAt, hx, hv, ht] using hwn
    rw [sigS_at hx hv ht, hvd, htd]
    exact want_same this hfit
  obtain ⟨h1, h2, h3, h4, h5⟩ := hsh
  have e1 : newV c s = s.values := by
    apply List.ext_getElem (by simp [newV, h4])
    intro i k1 k2
    have := (key i (by omega)).1
    rw [List.getD_eq_getElem?_getD, List.getElem?_eq_getElem k2] at this
    simpa [newV] using this
  have e2 : newT c s = s.timers := by
    apply List.ext_getElem (by simp [newT, h5])
    intro i k1 k2
    have := (key i (by omega)).2
    rw [List.getD_eq_getElem?_getD, List.getElem?_eq_getElem k2] at this
    simpa [newT] using this
  unfold roundS
  rw [hs.gates]
  unfold onceS
  rw [e1, e2]
/-- Without an end the signals change without end. -/
theorem dies_still {nx : Nat → List Nat} {k : Nat} (h : DiesN nx k) : ∀ {N}, (∀ i j, j ∈ nx i → j < N) → k < N → ∃ m, m < N ∧ nx m = [] := by
  induction h with
  | @mk k hk ih =>
    intro N hb hN
    cases hx : nx k with
    | nil => exact ⟨k, hN, hx⟩
    | cons a l =>
      have ha : a ∈ nx k := by rw [hx]; simp
      exact ih a ha hb (hb k a ha)
theorem no_end {c : Control} {s : State} (hs : Calm c s) (h : endsS c s = []) : turnsP c s = true := by
  have hb : ∀ i j, j ∈ nextN c s i → j < (metL c s).length := fun i j h => next_lt hs h
  have h0 : 0 < (metL c s).length := (List.getElem?_eq_some_iff.1 (met_ok hs).head).1
  refine decide_eq_true ((kah_dies hb).2 fun hd => ?_)
  obtain ⟨m, hm, e⟩ := dies_still (hd 0 h0) hb h0
  have hn := List.getElem?_eq_getElem hm
  have hw : wantsL c (metL c s)[m].st = [] := by
    unfold nextN at e
    rw [hn] at e
    exact List.map_eq_nil_iff.1 e
  have : (metL c s)[m].st ∈ endsS c s := mem_endsS.2 ⟨List.mem_map.2 ⟨_, List.getElem_mem hm, rfl⟩, hw⟩
  rw [h] at this
  cases this

end Go.Proofs.YtakndgpdolfenaaGreat
end

/- Plain laws of race: behind a move. -/
section
namespace Go.Proofs.YtakndgpdolfenaaGreat
set_option maxHeartbeats 1000000
set_option maxRecDepth 10000

/-- A state that comes to rest, whatever changes. -/
inductive DiesS (c : Control) : State → Prop
  | mk {s : State} (h : ∀ w ∈ wantsL c s, DiesS c (moveS c s w)) : DiesS c s
theorem next_idx {c : Control} {s : State} (hs : Calm c s) {k j : Nat} {n : Nod} (hn : (metL c s)[k]? = some n) : j ∈ nextN c s k ↔ ∃ w, w ∈ wantsL c n.st ∧ idxN (metL c s) (moveS c n.st w) = some j := by
  unfold nextN
  rw [hn, List.mem_map]
  constructor
  · rintro ⟨w, hw, rfl⟩
    obtain ⟨i, hi, -⟩ := met_closed hs hn hw
    exact ⟨w, hw, by rw [hi]; rfl⟩
  · rintro ⟨w, hw, e⟩
    exact ⟨w, hw, by rw [e]; rfl⟩
theorem dies_to {c : Control} {s : State} (hs : Calm c s) {k : Nat} (h : DiesN (nextN c s) k) : ∀ {n : Nod}, (metL c s)[k]? = some n → DiesS c n.st := by
  induction h with
  | @mk k hk ih =>
    intro n hn
    refine .mk fun w hw => ?_
    obtain ⟨j, hj, -⟩ := met_closed hs hn hw
    obtain ⟨m, hm, e⟩ := idx_some hj
    rw [← e]
    exact ih j ((next_idx hs hn).2 ⟨w, hw, hj⟩) hm
theorem dies_from {c : Control} {s t : State} (hs : Calm c s) (h : DiesS c t) : ∀ {k : Nat} {n : Nod}, (metL c s)[k]? = some n → n.st = t → DiesN (nextN c s) k := by
  induction h with
  | @mk t ht ih =>
    rintro k n hn rfl
    refine .mk fun j hj => ?_
    obtain ⟨w, hw, e⟩ := (next_idx hs hn).1 hj
    obtain ⟨m, hm, e2⟩ := idx_some e
    exact ih w hw hm e2
theorem turns_iff {c : Control} {s : State} (hs : Calm c s) : turnsP c s = true ↔ ¬ DiesS c s := by
  have hb : ∀ i j, j ∈ nextN c s i → j < (metL c s).length := fun i j h => next_lt hs h
  have hh := (met_ok hs).head
  unfold turnsP
  rw [decide_eq_true_eq, kah_dies hb]
  constructor
  · intro h hd
    have h0 := dies_from hs hd hh rfl
    exact h fun k hk => dies_all hs h0 k k (Nat.le_refl _) hk
  · intro h ha
    exact h (dies_to hs (ha 0 (List.getElem?_eq_some_iff.1 hh).1) hh)
theorem endsS_nodup {c : Control} {s : State} (hs : Calm c s) : (endsS c s).Nodup := (ends_perm c s).nodup_iff.2 (ends_nodup hs)
/-- Safe: one end, and none of the ways turns. -/
def safeP (c : Control) (s : State) : Bool := decide ((endsS c s).length = 1) && !turnsP c s
/-- Who wants, of those with a kind, is no gate. -/
theorem want_kind {c : Control} {s : State} {i : Nat} {x : Signal} (hs : Calm c s) (hx : c.signals[i]? = some x) (hw : wantAt c s i = true) : x.kind ≠ 0 := by
  obtain ⟨y, v, t, hy, hv, ht⟩ := sig_have hs.shape (List.getElem?_eq_some_iff.1 hx).1
  rw [hx] at hy
  cases hy
  have hwv : wantV x.kind v t (evalE x.on (valuesOf s)) (x.kind == 1 && evalE x.off (valuesOf s)) = true := by simpa only [wantAt, hx, hv, ht] using hw
  exact (want_else hwv).1
/-- Along a way. -/
def walkS (c : Control) : State → List Int → Option State
  | s, [] => some s
  | s, k :: l => if (k - firstC c).toNat ∈ wantsL c s ∧ 0 ≤ k - firstC c then walkS c (moveS c s (k - firstC c).toNat) l else none
theorem walk_app (c : Control) : ∀ (l m : List Int) (s : State), walkS c s (l ++ m) = (walkS c s l).bind fun t => walkS c t m
  | [], m, s => rfl
  | k :: l, m, s => by
    rw [List.cons_append, walkS, walkS]
    split
    · exact walk_app c l m _
    · rfl
/-- The way to a state that is met leads there. -/
theorem way_leads {c : Control} {s : State} (hs : Calm c s) : ∀ (f k : Nat) (n : Nod), k < f → (metL c s)[k]? = some n → walkS c s (wayL (metL c s) k) = some n.st
  | 0, k, _, hk, _ => absurd hk (Nat.not_lt_zero k)
  | f + 1, k, n, hk, hn => by
    have hok := met_ok hs
    by_cases h0 : k = 0
    · subst h0
      have := hok.head
      rw [hn] at this
      rw [Option.some.inj this, way_first hok]
      rfl
    · obtain ⟨j, w, m, h1, h2, h3, h4, h5, h6⟩ := hok.from_ k n hn h0
      rw [way_step hok hn h2 h0, walk_app, way_leads hs f j m (by omega) h4]
      show walkS c m.st [n.line] = _
      rw [walkS, h3, show firstC c + (w : Int) - firstC c = w by omega, Int.toNat_natCast, if_pos ⟨h5, by omega⟩, h6]
      rfl

end Go.Proofs.YtakndgpdolfenaaGreat
end

/- Plain: what Unknown knows is kept by moves. -/
section
namespace Go.Proofs.YtakndgpdolfenaaGreat
set_option maxHeartbeats 1000000
set_option maxRecDepth 10000

theorem turn_cov {c : Control} (hf : Fine c) {F : List Int} (hF : Fix c F) {s : State} (hsh : shapeS c s) (h : CovL F (valuesOf s)) (j : Nat) : CovS c F (turnS c s j) := by
  have h0 : 0 ≤ firstC c := by have := hf.act; unfold firstC; omega
  have hcn : countC c = firstC c + c.signals.length := rfl
  have hlen := valuesOf_length hsh
  have hFl := hF.len
  have ho := turn_shape hsh j
  intro k hk n b h1 h2
  by_cases h3 : (k : Int) < firstC c
  · rw [pre_line hsh ho rfl rfl h3] at h2
    exact h k n b h1 h2
  · obtain ⟨hkl, _⟩ := List.getElem?_eq_some_iff.1 h1
    have e : k = atP c (k - (firstC c).toNat) := by simp only [atP]; omega
    obtain ⟨i, hi⟩ : ∃ i, k - (firstC c).toNat = i := ⟨_, rfl⟩
    rw [hi] at e
    have hil : i < c.signals.length := by omega
    have hx : c.signals[i]? = some c.signals[i] := List.getElem?_eq_getElem hil
    have hk0 : c.signals[i].kind ≠ 0 := by
      rcases hk with h4 | h4 | h4
      · omega
      · rw [show (k : Int) - firstC c = (i : Int) by omega] at h4
        simpa [kindAt, hx] using h4
      · omega
    have hlv := hsh.2.2.2.1
    have hlt := hsh.2.2.2.2
    have hv : s.values[i]? = some s.values[i] := List.getElem?_eq_getElem (by omega)
    have ht : s.timers[i]? = some s.timers[i] := List.getElem?_eq_getElem (by omega)
    subst e
    rw [sig_line ho] at h2
    have hvals : (turnS c s j).values = s.values.set j (sigStep c s (valuesOf s) j).1 := rfl
    rw [hvals, List.getElem?_set] at h2
    split at h2
    · rename_i hij
      subst hij
      rw [if_pos (by omega), sigStep_at hx hv ht] at h2
      rw [hF.sig j _ hx hk0] at h1
      cases h1
      cases h2
      have hown : cov (F.getD (atP c j) 0) s.values[j] := by
        have h5 : F[atP c j]? = some F[atP c j] := List.getElem?_eq_getElem hkl
        rw [List.getD_eq_getElem?_getD, h5]
        exact h (atP c j) _ _ h5 (by rw [sig_line hsh]; exact hv)
      refine cov_join (u := mightP c.signals[j] (F.getD (atP c j) 0) F) (by simp) ?_
      refine cov_might (kind_two hf hx hk0) hown (cov_vars (by omega) hFl h (hf.on hx).1) fun hk1 => cov_vars (by omega) hFl h (off_ok hf hx hk1)
    · exact h (atP c i) n b h1 (by rw [sig_line hsh]; exact h2)
theorem ends_cov {c : Control} {s : State} (hr : rightC c s = 0) {F : List Int} (hF : Fix c F) (h : CovS c F s) {t : State} (ht : t ∈ endsS c (gatesP c s)) : CovL F (valuesOf t) := by
  have hcalm := calm_of hr
  have hf := hcalm.fine
  refine met_all (P := fun t => CovL F (valuesOf t)) hcalm (gates_cov hf hF (right_zero hr).2.1 h) ?_ (mem_endsS.1 ht).1
  intro t w htc hP hw
  exact gates_cov hf hF (turn_shape htc.shape w) (turn_cov hf hF htc.shape hP w)
/-- What Unknown tells of the ends. -/
theorem unk_ends {c : Control} {s : State} (hr : rightC c s = 0) : ((finalP c (startU c s [])).length : Int) = countC c ∧ A3 (finalP c (startU c s [])) ∧ unknownR c s [] = (finalP c (startU c s []), 0) ∧
    ∀ t ∈ endsS c (gatesP c s), CovL (finalP c (startU c s [])) (valuesOf t) := by
  have hsh := (right_zero hr).2.1
  have hf := fine_of (right_zero hr).1
  have hl0 : ((startU c s []).length : Int) = countC c := by
    unfold startU
    rw [setU_len, numL_len]
    exact valuesOf_length hsh
  have hl : ((finalP c (startU c s [])).length : Int) = countC c := by rw [finalP_len]; exact hl0
  have hF := fix_of hf hl (final_rest hf hl0)
  have hcs : CovS c (finalP c (startU c s [])) s := final_cov hf hl0 fun k _ n b h1 h2 => start_cov hsh hsh rfl rfl (fun _ _ => rfl) k n b h1 h2
  refine ⟨hl, itP_a3 hf (setU_a3 c [] _ (numL_a3 _)) _, ?_, fun t ht => ends_cov hr hF hcs ht⟩
  have he : inputsE c.inputs.length (-1) [] = 0 := rfl
  unfold unknownR
  rw [if_neg (by simp [hr]), if_neg (by simp), if_neg (by simp [he])]
theorem rest_wants {c : Control} {s : State} (hs : Calm c s) (h : roundS c s = s) : wantsL c s = [] := by
  have ho : onceS c s = s := by
    have := h
    unfold roundS at this
    rwa [hs.gates] at this
  refine List.eq_nil_iff_forall_not_mem.2 fun i hi => ?_
  obtain ⟨hil, hw⟩ := mem_wants.1 hi
  obtain ⟨x, v, t, hx, hv, ht⟩ := sig_have hs.shape hil
  have hwv : wantV x.kind v t (evalE x.on (valuesOf s)) (x.kind == 1 && evalE x.off (valuesOf s)) = true := by simpa only [wantAt, hx, hv, ht] using hw
  have h1 := newV_at (c := c) (s := s) hil
  have h2 := newT_at (c := c) (s := s) hil
  rw [show newV c s = (onceS c s).values from rfl, ho, hv, sigStep_at hx hv ht] at h1
  rw [show newT c s = (onceS c s).timers from rfl, ho, ht, sigStep_at hx hv ht] at h2
  rcases (want_else hwv).2 with h3 | h3
  · exact h3 (Option.some.inj h1).symm
  · exact h3 (Option.some.inj h2).symm
/-- What wants nothing is its own only end, and safe. -/
theorem still_ends {c : Control} {s : State} (hs : Calm c s) (hw : wantsL c s = []) : safeP c s = true ∧ endsS c s = [s] := by
  have hm := met_still hs hw
  have hb : endsB c s = [s] := by
    unfold endsB stillB
    rw [hm]
    simp [hw]
  have he : endsS c s = [s] := by
    unfold endsS
    rw [hb]
    rfl
  refine ⟨?_, he⟩
  unfold safeP
  rw [he]
  cases ht : turnsP c s with
  | false => rfl
  | true => exact absurd (DiesS.mk fun w hw2 => by rw [hw] at hw2; cases hw2) ((turns_iff hs).1 ht)
/-- Signals at rest have themselves as their only end. -/
theorem rest_ends {c : Control} {s : State} (hr : rightC c s = 0) (h : roundS c s = s) : safeP c (gatesP c s) = true ∧ endsS c (gatesP c s) = [s] := by
  have hg := gates_at (right_zero hr).2.1 h
  rw [hg]
  have hs : Calm c s := ⟨hr, hg⟩
  exact still_ends hs (rest_wants hs h)
end Go.Proofs.YtakndgpdolfenaaGreat
end

/- Plain: where Unknown knows all lines, only timers want to change, and there is one end. -/
section
namespace Go.Proofs.YtakndgpdolfenaaGreat
set_option maxHeartbeats 1000000
set_option maxRecDepth 10000

theorem step_twice (k : Int) (v v' : Bool) (t : Int) (on off : Bool) : (stepV k v' (stepV k v t on off).2.1 on off).2.1 = (stepV k v t on off).2.1 := by
  unfold stepV
  by_cases k1 : k = 1
  · simp only [if_pos k1]
  · simp only [if_neg k1]
    by_cases k2 : k = 2
    · simp only [if_pos k2]
      cases on
      · simp
      · by_cases h : t = 0
        · simp [h]
        · simp [h]
    · simp only [if_neg k2]
theorem want_twice (k : Int) (v : Bool) (t : Int) (on off : Bool) : wantV k (stepV k v t on off).1 (stepV k v t on off).2.1 on off = false := by
  unfold stepV wantV
  by_cases k1 : k = 1
  · simp only [if_pos k1]
    cases on <;> cases off <;> simp
  · simp only [if_neg k1]
    by_cases k2 : k = 2
    · simp only [if_pos k2]
      cases on
      · simp
      · by_cases h : t = 0
        · simp [h]
        · simp [h]
    · simp only [if_neg k2]
theorem step_mem (v : Bool) (t : Int) (on off : Bool) : (stepV 1 v t on off).2.1 = t := by simp [stepV]
/-- A state whose values are known. -/
structure Knows (c : Control) (F : List Int) (t : State) : Prop where
  calm : Calm c t
  cov : CovL F (valuesOf t)
theorem knows_same {c : Control} {F : List Int} (hF : Fix c F) (h2 : (2 : Int) ∉ F) {t u : State} (ht : Knows c F t) (hu : Knows c F u) : valuesOf t = valuesOf u ∧ t.values = u.values := by
  have hl := hF.len
  have l1 := valuesOf_length ht.calm.shape
  have l2 := valuesOf_length hu.calm.shape
  have e := cov_eq h2 (by omega) (by omega) ht.cov hu.cov
  exact ⟨e, values_eq ht.calm.shape hu.calm.shape e⟩
theorem knows_move {c : Control} {F : List Int} (hF : Fix c F) {t : State} (ht : Knows c F t) {w : Nat} (hw : w ∈ wantsL c t) : Knows c F (moveS c t w) :=
  ⟨move_calm ht.calm (mem_wants.1 hw).1, gates_cov ht.calm.fine hF (turn_shape ht.calm.shape w) (turn_cov ht.calm.fine hF ht.calm.shape ht.cov w)⟩
/-- What a signal is behind a move, where all values are known. -/
theorem known_at {c : Control} {F : List Int} (hF : Fix c F) (h2 : (2 : Int) ∉ F) {t : State} (ht : Knows c F t) {w : Nat} (hw : w ∈ wantsL c t) {i : Nat} (hi : i < c.signals.length) :
    ∃ x v τ τ', c.signals[i]? = some x ∧ t.values[i]? = some v ∧ t.timers[i]? = some τ ∧ (moveS c t w).values[i]? = some v ∧ (moveS c t w).timers[i]? = some τ' ∧ valuesOf (moveS c t w) = valuesOf t ∧
      (i ≠ w → τ' = τ) ∧ (i = w → τ' = (stepV x.kind v τ (evalE x.on (valuesOf t)) (x.kind == 1 && evalE x.off (valuesOf t))).2.1 ∧ v = (stepV x.kind v τ (evalE x.on (valuesOf t)) (x.kind == 1 && evalE x.off (valuesOf t))).1 ∧ x.kind ≠ 0) := by
  obtain ⟨x, v, τ, hx, hv, hτ⟩ := sig_have ht.calm.shape hi
  have hm := knows_move hF ht hw
  obtain ⟨e1, e2⟩ := knows_same hF h2 hm ht
  obtain ⟨_, _, τ', _, _, hτ'⟩ := sig_have hm.calm.shape hi
  obtain ⟨hwl, hwt⟩ := mem_wants.1 hw
  refine ⟨x, v, τ, τ', hx, hv, hτ, by rw [e2]; exact hv, hτ', e1, fun hne => ?_, fun he => ?_⟩
  · have h3 : (t.timers.set w (sigStep c t (valuesOf t) w).2.1)[i]? = some τ' := hτ'
    rw [List.getElem?_set_ne (fun e => hne e.symm), hτ] at h3
    exact (Option.some.inj h3).symm
  · subst he
    have hk := want_kind ht.calm hx hwt
    have h3 : (t.timers.set i (sigStep c t (valuesOf t) i).2.1)[i]? = some τ' := hτ'
    rw [List.getElem?_set_self (List.getElem?_eq_some_iff.1 hτ).1, sigStep_at hx hv hτ] at h3
    have h4 : (gatesP c (turnS c t i)).values[i]? = some v := by
      have : (moveS c t i).values[i]? = some v := by rw [e2]; exact hv
      exact this
    rw [gates_keep (by rw [kindAt_at hx]; exact hk)] at h4
    have h5 : (t.values.set i (sigStep c t (valuesOf t) i).1)[i]? = some v := h4
    rw [List.getElem?_set_self (List.getElem?_eq_some_iff.1 hv).1, sigStep_at hx hv hτ] at h5
    exact ⟨(Option.some.inj h3).symm, (Option.some.inj h5).symm, hk⟩
theorem known_want {c : Control} {F : List Int} (hF : Fix c F) (h2 : (2 : Int) ∉ F) {t : State} (ht : Knows c F t) {w : Nat} (hw : w ∈ wantsL c t) : kindAt c w = 2 := by
  obtain ⟨hwl, hwt⟩ := mem_wants.1 hw
  obtain ⟨x, v, τ, τ', hx, hv, hτ, -, -, -, -, h⟩ := known_at hF h2 ht hw hwl
  obtain ⟨h3, h4, h5⟩ := h rfl
  have hwv : wantV x.kind v τ (evalE x.on (valuesOf t)) (x.kind == 1 && evalE x.off (valuesOf t)) = true := by simpa only [wantAt, hx, hv, hτ] using hwt
  rw [kindAt_at hx]
  rcases kind_two ht.calm.fine hx h5 with h6 | h6
  · exfalso
    rcases (want_else hwv).2 with h7 | h7
    · exact h7 h4.symm
    · rw [h6] at h7
      exact h7 (step_mem _ _ _ _)
  · exact h6
theorem known_wants {c : Control} {F : List Int} (hF : Fix c F) (h2 : (2 : Int) ∉ F) {t : State} (ht : Knows c F t) {w : Nat} (hw : w ∈ wantsL c t) {i : Nat} (hi : i ∈ wantsL c (moveS c t w)) : i ≠ w ∧ i ∈ wantsL c t := by
  obtain ⟨hil, hit⟩ := mem_wants.1 hi
  obtain ⟨x, v, τ, τ', hx, hv, hτ, hv', hτ', hval, hne, heq⟩ := known_at hF h2 ht hw hil
  have hwv : wantV x.kind v τ' (evalE x.on (valuesOf t)) (x.kind == 1 && evalE x.off (valuesOf t)) = true := by
    have : wantAt c (moveS c t w) i = true := hit
    simp only [wantAt, hx, hv', hτ', hval] at this
    exact this
  by_cases e : i = w
  · exfalso
    obtain ⟨h3, h4, h5⟩ := heq e
    have h6 := want_twice x.kind v τ (evalE x.on (valuesOf t)) (x.kind == 1 && evalE x.off (valuesOf t))
    rw [← h4, ← h3, hwv] at h6
    cases h6
  · refine ⟨e, mem_wants.2 ⟨hil, ?_⟩⟩
    rw [hne e] at hwv
    simp only [wantAt, hx, hv, hτ]
    exact hwv
theorem known_newT {c : Control} {F : List Int} (hF : Fix c F) (h2 : (2 : Int) ∉ F) {t : State} (ht : Knows c F t) {w : Nat} (hw : w ∈ wantsL c t) : newT c (moveS c t w) = newT c t := by
  apply List.ext_getElem?
  intro i
  rcases Nat.lt_or_ge i c.signals.length with hi | hi
  · obtain ⟨x, v, τ, τ', hx, hv, hτ, hv', hτ', hval, hne, heq⟩ := known_at hF h2 ht hw hi
    rw [newT_at hi, newT_at hi, sigStep_at hx hv' hτ', sigStep_at hx hv hτ, hval]
    by_cases e : i = w
    · rw [(heq e).1, step_twice]
    · rw [hne e]
  · rw [List.getElem?_eq_none (by rw [newT_len]; exact hi), List.getElem?_eq_none (by rw [newT_len]; exact hi)]
theorem wants_nodup (c : Control) (t : State) : (wantsL c t).Nodup := List.nodup_range.filter _
theorem known_dies {c : Control} {F : List Int} (hF : Fix c F) (h2 : (2 : Int) ∉ F) : ∀ (n : Nat) {t : State}, (wantsL c t).length ≤ n → Knows c F t → DiesS c t
  | 0, t, hn, _ => .mk fun w hw => by
    rw [List.eq_nil_of_length_eq_zero (Nat.le_zero.1 hn)] at hw
    cases hw
  | n + 1, t, hn, ht => .mk fun w hw => by
    refine known_dies hF h2 n ?_ (knows_move hF ht hw)
    have h3 : (w :: wantsL c (moveS c t w)).length ≤ (wantsL c t).length := by
      refine nodup_le (List.nodup_cons.2 ⟨fun h => (known_wants hF h2 ht hw h).1 rfl, wants_nodup c _⟩) ?_
      intro v hv
      rcases List.mem_cons.1 hv with rfl | hv
      · exact hw
      · exact (known_wants hF h2 ht hw hv).2
    rw [List.length_cons] at h3
    omega
/-- Where Unknown knows all lines, there is one end, with the same values, and the state is safe. -/
theorem known_safe {c : Control} {s : State} (hr : rightC c s = 0) (h2 : (2 : Int) ∉ finalP c (startU c s [])) :
    (∀ w ∈ wantsL c (gatesP c s), kindAt c w = 2) ∧ safeP c (gatesP c s) = true ∧ ∃ x, endsS c (gatesP c s) = [x] ∧ x.values = (gatesP c s).values := by
  have hsh := (right_zero hr).2.1
  have hcalm := calm_of hr
  have hf := hcalm.fine
  have hl0 : ((startU c s []).length : Int) = countC c := by
    unfold startU
    rw [setU_len, numL_len]
    exact valuesOf_length hsh
  have hl : ((finalP c (startU c s [])).length : Int) = countC c := by rw [finalP_len]; exact hl0
  have hF := fix_of hf hl (final_rest hf hl0)
  have hcs : CovS c (finalP c (startU c s [])) s := final_cov hf hl0 fun k _ n b h1 h2 => start_cov hsh hsh rfl rfl (fun _ _ => rfl) k n b h1 h2
  have hG : Knows c (finalP c (startU c s [])) (gatesP c s) := ⟨hcalm, gates_cov hf hF hsh hcs⟩
  generalize finalP c (startU c s []) = F at *
  generalize gatesP c s = G at *
  have hd := known_dies hF h2 _ (Nat.le_refl _) hG
  have ht : turnsP c G = false := by
    cases h : turnsP c G
    · rfl
    · exact absurd hd ((turns_iff hcalm).1 h)
  have hall : ∀ t ∈ (metL c G).map Nod.st, Knows c F t ∧ newT c t = newT c G := fun t hm => by
    refine met_all (P := fun t => Knows c F t ∧ newT c t = newT c G) hcalm ⟨hG, rfl⟩ ?_ hm
    intro t w _ hP hw
    exact ⟨knows_move hF hP.1 hw, (known_newT hF h2 hP.1 hw).trans hP.2⟩
  have hend : ∀ t ∈ endsS c G, t.values = G.values ∧ t = { G with timers := newT c G } := fun t hm => by
    obtain ⟨m1, m2⟩ := mem_endsS.1 hm
    obtain ⟨k1, k2⟩ := hall t m1
    obtain ⟨c1, c2, c3, c4⟩ := met_calm hcalm m1
    have hv := (knows_same hF h2 k1 hG).2
    have hrs := still_rest c1 m2
    unfold roundS at hrs
    rw [c1.gates] at hrs
    have htm : t.timers = newT c G := by
      rw [← k2]
      exact (congrArg State.timers hrs).symm
    refine ⟨hv, ?_⟩
    cases t
    simp only at c2 c3 c4 hv htm
    subst c2 c3 c4 hv htm
    rfl
  have hne : endsS c G ≠ [] := fun h => by
    rw [no_end hcalm h] at ht
    cases ht
  have hnd := endsS_nodup hcalm
  have hone : ∃ x, endsS c G = [x] := by
    cases hE : endsS c G with
    | nil => exact absurd hE hne
    | cons a l =>
      cases l with
      | nil => exact ⟨a, rfl⟩
      | cons b l =>
        rw [hE] at hnd hend
        have ha := (hend a (by simp)).2
        have hb := (hend b (by simp)).2
        have := (List.nodup_cons.1 hnd).1
        rw [ha, hb] at this
        simp at this
  obtain ⟨x, hx⟩ := hone
  refine ⟨fun w hw => known_want hF h2 hG hw, ?_, x, hx, (hend x (by rw [hx]; simp)).1⟩
  unfold safeP
  rw [hx, ht]
  rfl
end Go.Proofs.YtakndgpdolfenaaGreat
end
