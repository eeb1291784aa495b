/- Texts joined by a program: Pb, So, Sp, Sr, Pc, Sh, Ga, Na, Nb. -/
import Derived.Shelf.Sort.Plain
import Derived.Shelf.Slices.CompactI
import Derived.Shelf.Slices.In.SortNone
import Derived.Test.YtakndgpdolfenaaGreatProg
import Derived.KernelRfl
import Derived.Test.YtakndgpdolfenaaGreatG2
import Derived.Test.YtakndgpdolfenaaGreatG1
set_option linter.unusedSimpArgs false
set_option linter.unusedVariables false

/- Plain laws: gates; names and lines; the first state. -/
section
namespace Go.Proofs.YtakndgpdolfenaaGreat
set_option maxHeartbeats 1000000

/-- The value of an expression depends on its variables. -/
theorem evalE_congr {vs ws : List Bool} : ∀ (N : Nat) (x : Expr), SizeOf.sizeOf x < N → (∀ k ∈ varsE x, vs[k.toNat]? = ws[k.toNat]?) → evalE x vs = evalE x ws
  | 0, _, h, _ => absurd h (Nat.not_lt_zero _)
  | N + 1, x, hN, h => by
    have hL : ∀ l : List Expr, (∀ y ∈ l, y ∈ x.args) → (∀ k ∈ varsL l, vs[k.toNat]? = ws[k.toNat]?) → evalL l vs = evalL l ws := by
      intro l
      induction l with
      | nil => intro _ _; rfl
      | cons y l ih =>
        intro hl hk
        have hm := hl y (by simp)
        simp only [evalL]
        rw [ih (fun z hz => hl z (by simp [hz])) (fun k hkk => hk k (by simp [varsL, hkk])), evalE_congr N y (by have := Expr.lt_of_mem hm; omega) (fun k hkk => hk k (by simp [varsL, hkk]))]
    rw [evalE_eq, evalE_eq, hL x.args (fun _ h => h) (fun k hk => h k (by rw [varsE_eq]; simp [hk]))]
    by_cases hop : x.op = 1
    · have := h x.index (by rw [varsE_eq]; simp [hop])
      simp [hop, List.getD_eq_getElem?_getD, this]
    · simp [hop]

theorem gvals_keep {c : Control} {s : State} {k : Nat} : ∀ j : Nat, (kindAt c k ≠ 0 ∨ j ≤ k ∨ c.signals.length ≤ k) → (gvals c s j)[k]? = s.values[k]?
  | 0, _ => rfl
  | j + 1, h => by
    simp only [gvals]
    split
    · rename_i x hx
      split
      · rename_i hk0
        have hne : j ≠ k := by
          rintro rfl
          obtain ⟨hlt, _⟩ := List.getElem?_eq_some_iff.1 hx
          rcases h with h | h | h
          · apply h; simp [kindAt, hx, hk0]
          · omega
          · omega
        rw [List.getElem?_set_ne hne]
        exact gvals_keep j (by rcases h with h | h | h; exact .inl h; exact .inr (.inl (by omega)); exact .inr (.inr h))
      · exact gvals_keep j (by rcases h with h | h | h; exact .inl h; exact .inr (.inl (by omega)); exact .inr (.inr h))
    · exact gvals_keep j (by rcases h with h | h | h; exact .inl h; exact .inr (.inl (by omega)); exact .inr (.inr h))
theorem gvals_stay {c : Control} {s : State} {k : Nat} : ∀ j : Nat, k < j → (gvals c s j)[k]? = (gvals c s (k + 1))[k]?
  | 0, h => absurd h (Nat.not_lt_zero _)
  | j + 1, h => by
    rcases Nat.lt_or_ge k j with h1 | h1
    · rw [← gvals_stay j h1]
      conv => lhs; unfold gvals
      split
      · split
        · rw [List.getElem?_set_ne (by omega)]
        · rfl
      · rfl
    · obtain rfl : k = j := by omega
      rfl
theorem late_not {c : Control} (hf : Fine c) {i : Nat} {x : Signal} (hx : c.signals[i]? = some x) (hk : x.kind = 0) : ∀ n ∈ varsE x.on, n - firstC c < i ∨ kindAt c (n - firstC c) ≠ 0 := by
  have h := hf.sigs i x hx
  unfold signalE at h
  split at h
  · rename_i h1; exact absurd h h1
  · split at h
    · cases h
    · split at h
      · rename_i h1; exact absurd h h1
      · have hl : lateC c i x.on = false := by
          cases hl : lateC c i x.on
          · rfl
          · simp [gateE, hl, hk] at h
        intro n hn
        rw [lateC_any, List.any_eq_false] at hl
        have := hl n hn
        simp only [Bool.and_eq_true, decide_eq_true_eq, beq_iff_eq, not_and] at this
        rcases Classical.em (n - firstC c < i) with h | h
        · exact .inl h
        · exact .inr (this (by omega))
theorem gate_same {c : Control} (hf : Fine c) {s : State} (hsh : shapeS c s) {i : Nat} {x : Signal} (hx : c.signals[i]? = some x) (hk : x.kind = 0) {m : Nat} (hm : i ≤ m) :
    evalE x.on (preV s ++ gvals c s i) = evalE x.on (preV s ++ gvals c s m) := by
  have hpl := preV_length hsh
  refine evalE_congr (SizeOf.sizeOf x.on + 1) x.on (by omega) fun k hk2 => ?_
  have hv := vars_check (hf.on hx).1 k hk2
  have hl := late_not hf hx hk k hk2
  by_cases h1 : k.toNat < (preV s).length
  · rw [List.getElem?_append_left h1, List.getElem?_append_left h1]
  · rw [List.getElem?_append_right (by omega), List.getElem?_append_right (by omega)]
    obtain ⟨q, hq⟩ : ∃ q : Nat, k - firstC c = q := ⟨(k - firstC c).toNat, by omega⟩
    have e : k.toNat - (preV s).length = q := by omega
    rw [e]
    rw [hq] at hl
    by_cases h2 : kindAt c q ≠ 0
    · rw [gvals_keep i (.inl h2), gvals_keep m (.inl h2)]
    · have h3 : q < i := by rcases hl with h | h; omega; exact absurd h h2
      rw [gvals_stay i h3, gvals_stay m (by omega)]
theorem gates_gate {c : Control} (hf : Fine c) {s : State} (hsh : shapeS c s) {i : Nat} {x : Signal} (hx : c.signals[i]? = some x) (hk : x.kind = 0) : (gatesP c s).values[i]? = some (evalE x.on (valuesOf (gatesP c s))) := by
  obtain ⟨hlt, _⟩ := List.getElem?_eq_some_iff.1 hx
  show (gvals c s c.signals.length)[i]? = some (evalE x.on (preV s ++ gvals c s c.signals.length))
  rw [gvals_stay _ hlt, gvals_at hx, if_pos hk, ← gate_same hf hsh hx hk (Nat.le_of_lt hlt), valuesOf_with]
  rw [List.getElem?_set_self]
  rw [gvals_length, hsh.2.2.2.1]
  exact hlt
theorem gates_keep {c : Control} {s : State} {i : Nat} (h : kindAt c i ≠ 0) : (gatesP c s).values[i]? = s.values[i]? := gvals_keep _ (.inl h)
theorem gates_shape {c : Control} {s : State} (hsh : shapeS c s) : shapeS c (gatesP c s) := by
  obtain ⟨h1, h2, h3, h4, h5⟩ := hsh
  exact ⟨h1, h2, h3, by simp only [gatesP, gvals_length]; exact h4, h5⟩
theorem gates_twice {c : Control} (hf : Fine c) {s : State} (hsh : shapeS c s) : gatesP c (gatesP c s) = gatesP c s := by
  have h : ∀ j, j ≤ c.signals.length → gvals c (gatesP c s) j = (gatesP c s).values := by
    intro j
    induction j with
    | zero => intro _; rfl
    | succ j ih =>
      intro hj
      simp only [gvals]
      split
      · rename_i x hx
        split
        · rename_i hk
          rw [ih (by omega)]
          have := gates_gate hf hsh hx hk
          apply List.ext_getElem?
          intro k
          by_cases e : j = k
          · subst e
            rw [this, List.getElem?_set_self (List.getElem?_eq_some_iff.1 this).1]
          · rw [List.getElem?_set_ne e]
        · exact ih (by omega)
      · exact ih (by omega)
  show { gatesP c s with values := gvals c (gatesP c s) c.signals.length } = gatesP c s
  rw [h _ (Nat.le_refl _)]
theorem gates_right {c : Control} {s : State} (h : rightC c s = 0) : rightC c (gatesP c s) = 0 := by
  obtain ⟨z1, z2, z3⟩ := right_zero h
  have hsh := gates_shape z2
  unfold fitsSt at z3
  rw [if_neg (by simpa using z2)] at z3
  split at z3
  · cases z3
  · rename_i hout
    have hz := firstErr_zero z3
    have e : fitsSt c (gatesP c s) = firstErr (tsE c (gatesP c s)) (List.range s.timers.length) := by
      unfold fitsSt
      rw [if_neg (by simpa using hsh)]
      exact if_neg hout
    have hn : NoE (tsE c (gatesP c s)) s.timers.length := by
      intro i hi
      have h0 := hz i hi
      unfold tsE at h0 ⊢
      obtain ⟨hlv, hlt⟩ : s.values.length = c.signals.length ∧ s.timers.length = c.signals.length := ⟨z2.2.2.2.1, z2.2.2.2.2⟩
      have hx : c.signals[i]? = some c.signals[i] := List.getElem?_eq_getElem (by omega)
      have hv : s.values[i]? = some s.values[i] := List.getElem?_eq_getElem (by omega)
      have ht : s.timers[i]? = some s.timers[i] := List.getElem?_eq_getElem (by omega)
      rw [hx, hv, ht] at h0
      have ht' : (gatesP c s).timers[i]? = some s.timers[i] := ht
      have hlg : (gatesP c s).values.length = c.signals.length := hsh.2.2.2.1
      have hv' : (gatesP c s).values[i]? = some (gatesP c s).values[i] := List.getElem?_eq_getElem (by omega)
      rw [hx, hv', ht']
      simp only at h0 ⊢
      unfold tstE at h0 ⊢
      by_cases hk : c.signals[i].kind = 2
      · have hka : kindAt c i ≠ 0 := by simp [kindAt, hx, hk]
        have hg := gates_keep (s := s) hka
        rw [hv', hv] at hg
        rw [Option.some.inj hg]
        exact h0
      · simp only [hk, ne_eq, not_false_eq_true, true_and, false_and, or_false] at h0 ⊢
        exact h0
    rw [rightC, if_neg (by simpa using z1), e]
    exact firstErr_all hn

/-! ### Names and lines -/
/-! ### The first state -/
/-! ### Right expressions are light -/
end Go.Proofs.YtakndgpdolfenaaGreat
end

/- Contracts out of the kit's shelf: slices.Sort, slices.Compact at []int, on owned slices. -/
section
namespace Go.Proofs.YtakndgpdolfenaaGreat
open Go.Sort
variable {P : Program} {ρ : Go.Shelf.Ren}

theorem unit_D (y : X) : D y (.tuple []) (.tuple #[]) := by simp [D, Ds]

def sortI (zs : List Int) : List Int := zs.mergeSort fun x y => decide (x ≤ y)
def compI (zs : List Int) : List Int := Go.Lib.compact zs
end Go.Proofs.YtakndgpdolfenaaGreat
end

/- Plain laws: sorted lists without twins; rounds. -/
section
namespace Go.Proofs.YtakndgpdolfenaaGreat
set_option maxHeartbeats 1000000

/-- What is sorted and has no twins, out of the numbers below M: those that are met, in order. -/
def metB (M : Nat) (p : Nat → Bool) : List Int := ((List.range M).filter p).map fun k : Nat => (k : Int)
/-! ### Rounds -/
/-- What a signal becomes: its value, its timer, and whether On and Off contradict each other. -/
def stepV (k : Int) (v : Bool) (t : Int) (on off : Bool) : Bool × Int × Bool :=
  if k = 1 then (if on != off then on else v, t, on && off)
  else if k = 2 then (if on = false then (false, 0, false) else (v, if t = 0 then 1 else t, false))
  else (v, t, false)
def sigStep (c : Control) (s : State) (L : List Bool) (i : Nat) : Bool × Int × Bool := match c.signals[i]?, s.values[i]?, s.timers[i]? with
  | some x, some v, some t => stepV x.kind v t (evalE x.on L) (x.kind == 1 && evalE x.off L)
  | _, _, _ => (false, 0, false)
def newV (c : Control) (s : State) : List Bool := (List.range c.signals.length).map fun i => (sigStep c s (valuesOf s) i).1
def newT (c : Control) (s : State) : List Int := (List.range c.signals.length).map fun i => (sigStep c s (valuesOf s) i).2.1
def onceS (c : Control) (s : State) : State := { s with values := newV c s, timers := newT c s }
def onceB (c : Control) (s : State) (n : Nat) : List Int := ((List.range n).filter fun i => (sigStep c s (valuesOf s) i).2.2).map fun i : Nat => firstC c + i
def roundS (c : Control) (s : State) : State := onceS c (gatesP c s)
def roundB (c : Control) (s : State) : List Int := onceB c (gatesP c s) c.signals.length
/-- The rounds until rest: k rounds are left. -/
def courseP (c : Control) : Nat → Int → State → List Int → Option (State × List Int × Int)
  | 0, _, _, _ => none
  | k + 1, n, s, acc => if roundS c s = s then some (s, acc ++ roundB c s, n) else courseP c k (n + 1) (roundS c s) (acc ++ roundB c s)

theorem sm_of {c : Control} {s : State} (hf : Fine c) (h : shapeS c s) : SmS s := by
  obtain ⟨h1, h2, h3, h4, h5⟩ := h
  have := hf.act
  have := hf.inp
  have := hf.sig
  exact ⟨by omega, by omega, by omega, by omega, by omega⟩
end Go.Proofs.YtakndgpdolfenaaGreat
end

/- Plain: what a signal wants. -/
section
namespace Go.Proofs.YtakndgpdolfenaaGreat
set_option maxHeartbeats 1000000
set_option maxRecDepth 10000

/-- What a signal wants: to become something else. -/
def wantV (k : Int) (v : Bool) (t : Int) (on off : Bool) : Bool :=
  if k = 1 then (on != off) && (v != on) else if k = 2 then (if on = false then decide (t ≠ 0) else decide (t = 0)) else false
def wantAt (c : Control) (s : State) (i : Nat) : Bool := match c.signals[i]?, s.values[i]?, s.timers[i]? with
  | some x, some v, some t => wantV x.kind v t (evalE x.on (valuesOf s)) (x.kind == 1 && evalE x.off (valuesOf s))
  | _, _, _ => false
def turnS (c : Control) (s : State) (i : Nat) : State := { s with values := s.values.set i (sigStep c s (valuesOf s) i).1, timers := s.timers.set i (sigStep c s (valuesOf s) i).2.1 }

end Go.Proofs.YtakndgpdolfenaaGreat
end

/- Plain laws: what it is to fit. -/
section
namespace Go.Proofs.YtakndgpdolfenaaGreat
set_option maxHeartbeats 1000000
set_option maxRecDepth 10000

theorem fits_parts {c : Control} {s : State} (h : rightC c s = 0) : (∀ e ∈ s.ends, outR 4 e = false) ∧ (∀ e ∈ s.timers, outR 3 e = false) ∧ ∀ (i : Nat) (x : Signal), c.signals[i]? = some x → tstE x (s.values.getD i false) (s.timers.getD i 0) = 0 := by
  obtain ⟨z1, z2, z3⟩ := right_zero h
  unfold fitsSt at z3
  rw [if_neg (by simpa using z2)] at z3
  split at z3
  · cases z3
  · rename_i hout
    rw [Bool.or_eq_true, not_or, Bool.not_eq_true, Bool.not_eq_true] at hout
    have hz := firstErr_zero z3
    obtain ⟨h4, h5⟩ : s.values.length = c.signals.length ∧ s.timers.length = c.signals.length := ⟨z2.2.2.2.1, z2.2.2.2.2⟩
    refine ⟨fun e he => ?_, fun e he => ?_, fun i x hx => ?_⟩
    · have := List.any_eq_false.1 hout.1 e he
      simpa using this
    · have := List.any_eq_false.1 hout.2 e he
      simpa using this
    · have hi : i < c.signals.length := (List.getElem?_eq_some_iff.1 hx).1
      have h0 := hz i (by omega)
      have hv0 : s.values[i]? = some s.values[i] := List.getElem?_eq_getElem (by omega)
      have ht0 : s.timers[i]? = some s.timers[i] := List.getElem?_eq_getElem (by omega)
      unfold tsE at h0
      rw [hx, hv0, ht0] at h0
      rw [List.getD_eq_getElem?_getD, List.getD_eq_getElem?_getD, hv0, ht0]
      exact h0
theorem right_made {c : Control} {s : State} (h1 : checkC c = 0) (h2 : shapeS c s) (h3 : ∀ e ∈ s.ends, outR 4 e = false) (h4 : ∀ e ∈ s.timers, outR 3 e = false) (h5 : ∀ (i : Nat) (x : Signal), c.signals[i]? = some x → tstE x (s.values.getD i false) (s.timers.getD i 0) = 0) : rightC c s = 0 := by
  rw [rightC, if_neg (by simpa using h1), fitsSt, if_neg (by simpa using h2), if_neg]
  · refine firstErr_all fun i hi => ?_
    unfold tsE
    have hc : i < c.signals.length := by have := h2.2.2.2.2; omega
    have hx : c.signals[i]? = some c.signals[i] := List.getElem?_eq_getElem hc
    have hv0 : s.values[i]? = some (s.values[i]'(by have := h2.2.2.2.1; omega)) := List.getElem?_eq_getElem _
    have ht0 : s.timers[i]? = some s.timers[i] := List.getElem?_eq_getElem hi
    have := h5 i _ hx
    rw [List.getD_eq_getElem?_getD, List.getD_eq_getElem?_getD, hv0, ht0] at this
    rw [hx, hv0, ht0]
    exact this
  · rw [Bool.or_eq_true, not_or, Bool.not_eq_true, Bool.not_eq_true]
    exact ⟨List.any_eq_false.2 fun e he => by simp [h3 e he], List.any_eq_false.2 fun e he => by simp [h4 e he]⟩

theorem gates_like {c : Control} (hf : Fine c) {s t : State} (hs : shapeS c s) (ht : shapeS c t) (he : t.ends = s.ends) (hvv : t.valves = s.valves) (hi : t.inputs = s.inputs) (htm : t.timers = s.timers)
    (hv : ∀ k : Nat, kindAt c k ≠ 0 → t.values[k]? = s.values[k]?) : gatesP c t = gatesP c s := by
  have hp : preV t = preV s := by unfold preV; rw [he, hi]
  have hpl := preV_length hs
  have key : ∀ j, j ≤ c.signals.length → ∀ k : Nat, (k < j ∨ kindAt c k ≠ 0) → (gvals c t j)[k]? = (gvals c s j)[k]? := by
    intro j
    induction j with
    | zero =>
      intro _ k hk
      rcases hk with h | h
      · omega
      · exact hv k h
    | succ j ih =>
      intro hj k hk
      have hx : c.signals[j]? = some c.signals[j] := List.getElem?_eq_getElem (by omega)
      rw [gvals_at hx, gvals_at hx]
      by_cases h0 : c.signals[j].kind = 0
      · rw [if_pos h0, if_pos h0]
        have he2 : evalE c.signals[j].on (valuesOf { t with values := gvals c t j }) = evalE c.signals[j].on (valuesOf { s with values := gvals c s j }) := by
          rw [valuesOf_with, valuesOf_with, hp]
          refine evalE_congr (SizeOf.sizeOf c.signals[j].on + 1) _ (by omega) fun n hn => ?_
          have hvn := vars_check (hf.on hx).1 n hn
          have hl := late_not hf hx h0 n hn
          by_cases h1 : n.toNat < (preV s).length
          · rw [List.getElem?_append_left h1, List.getElem?_append_left h1]
          · rw [List.getElem?_append_right (by omega), List.getElem?_append_right (by omega)]
            obtain ⟨q, hq⟩ : ∃ q : Nat, n - firstC c = q := ⟨(n - firstC c).toNat, by omega⟩
            have e : n.toNat - (preV s).length = q := by omega
            rw [e]
            rw [hq] at hl
            refine ih (by omega) q ?_
            rcases hl with h | h
            · exact .inl (by omega)
            · exact .inr h
        by_cases hkj : j = k
        · subst hkj
          rw [he2, List.getElem?_set, List.getElem?_set, gvals_length, gvals_length, ht.2.2.2.1, hs.2.2.2.1, if_pos rfl, if_pos rfl]
        · rw [List.getElem?_set_ne hkj, List.getElem?_set_ne hkj]
          refine ih (by omega) k ?_
          rcases hk with h | h
          · exact .inl (by omega)
          · exact .inr h
      · rw [if_neg h0, if_neg h0]
        refine ih (by omega) k ?_
        by_cases hkj : k = j
        · right
          rw [hkj]
          simpa [kindAt, hx] using h0
        · rcases hk with h | h
          · exact .inl (by omega)
          · exact .inr h
  have e : gvals c t c.signals.length = gvals c s c.signals.length := by
    apply List.ext_getElem?
    intro k
    rcases Nat.lt_or_ge k c.signals.length with h | h
    · exact key _ (Nat.le_refl _) k (.inl h)
    · rw [List.getElem?_eq_none (by rw [gvals_length, ht.2.2.2.1]; exact h), List.getElem?_eq_none (by rw [gvals_length, hs.2.2.2.1]; exact h)]
  unfold gatesP
  rw [e]
  obtain ⟨a1, a2, a3, a4, a5⟩ := s
  obtain ⟨b1, b2, b3, b4, b5⟩ := t
  simp only at he hvv hi htm
  subst he hvv hi htm
  rfl

end Go.Proofs.YtakndgpdolfenaaGreat
end

/- Two contracts of the kit's shelf at this program: the tables of numbers. Written by a program (wip/gen_shelf.py). -/
section
namespace Go.Proofs.YtakndgpdolfenaaGreat
set_option maxRecDepth 100000
set_option maxHeartbeats 4000000
def sortRen : Go.Shelf.Ren := ⟨fun | 125 => 128 | 128 => 168 | 129 => 169 | 189 => 116 | 215 => 104 | 216 => 179 | 257 => 142 | 294 => 173 | 295 => 174 | 296 => 175 | 297 => 176 | 298 => 177 | 299 => 178 | 300 => 180 | 301 => 181 | 328 => 200 | 329 => 195 | 330 => 196 | 331 => 201 | 332 => 202 | 343 => 208 | n => n, fun | 0 => 0 | 3 => 3 | 4 => 4 | 5 => 5 | 9 => 9 | 28 => 24 | 46 => 165 | 51 => 209 | 53 => 211 | 131 => 162 | 182 => 202 | 183 => 203 | 218 => 229 | 222 => 233 | 228 => 241 | 229 => 64 | n => n, fun n => n⟩
def compRen : Go.Shelf.Ren := ⟨fun | 20 => 117 | n => n, fun | 0 => 0 | 3 => 3 | 4 => 4 | 22 => 24 | n => n, fun n => n⟩
end Go.Proofs.YtakndgpdolfenaaGreat
end

/- Contracts: iteration of variables over memory that grows; Uses, names, lines. -/
section
namespace Go.Proofs.YtakndgpdolfenaaGreat
set_option maxHeartbeats 2000000
set_option maxRecDepth 10000

theorem Inv.same {x : X} {H : Heap} {t : Nat} {e e' : Ent} (hi : Inv x ((t, e) :: H)) (ho : ∀ b, e'.own b → e.own b) (hs : e.sat x → e'.sat x) : Inv x ((t, e') :: H) := by
  have hap := List.pairwise_cons.1 hi.apart
  refine ⟨hi.bd, ?_, ?_, List.pairwise_cons.2 ⟨fun p hp b h1 h2 => hap.1 p hp b (ho b h1) h2, hap.2⟩⟩
  · intro p hp
    rcases List.mem_cons.1 hp with rfl | hp
    · exact hs (hi.sat (t, e) (by simp))
    · exact hi.sat p (by simp [hp])
  · intro p hp b hb
    rcases List.mem_cons.1 hp with rfl | hp
    · exact hi.own (t, e) (by simp) b (ho b hb)
    · exact hi.own p (by simp [hp]) b hb
def usesL (x : Signal) : List Int := compI (sortI (varsE x.on ++ varsE x.off))
def usesP (c : Control) (k : Int) : List Int × Int :=
  if checkC c ≠ 0 then ([], checkC c) else if k < 0 ∨ countC c ≤ k then ([], 6) else if k < firstC c then ([], 0)
  else (((c.signals[(k - firstC c).toNat]?).map usesL).getD [], 0)
/-! ### The reference -/
@[simp] theorem metB_zero (p : Nat → Bool) : metB 0 p = [] := by simp [metB]
theorem metB_len (M : Nat) (p : Nat → Bool) : (metB M p).length ≤ M := by
  unfold metB
  rw [List.length_map]
  exact Nat.le_trans (List.length_filter_le _ _) (by simp)

end Go.Proofs.YtakndgpdolfenaaGreat
end

/- The law of names, lines and uses. -/
section
namespace Go.Proofs.YtakndgpdolfenaaGreat
set_option maxHeartbeats 4000000
set_option maxRecDepth 10000

end Go.Proofs.YtakndgpdolfenaaGreat
end

/- The law of what inputs keep. -/
section
namespace Go.Proofs.YtakndgpdolfenaaGreat
set_option maxHeartbeats 4000000
set_option maxRecDepth 10000

/-! ### Numbers that were met, as a map -/
def mapM (ns : List Int) : List (L × L) := ns.map fun n => (.int .i64 n, .bool true)
/-- Memory that is given up for good when a call takes what lies in it. -/
theorem CallS.freeze {P : Program} {g : FuncId} {az az' : List A} {Hf Hk : Heap} {K : A → Heap → Prop} (h : CallS P g az' Hk K) (hz : (frzs Hf az).1 ∧ (frzs Hf az).2 = az') : CallS P g az (Hf ++ Hk) K := by
  obtain ⟨hz1, rfl⟩ := hz
  refine ⟨h.1, fun x args H0 hi hd => ?_⟩
  rw [List.append_assoc] at hi
  obtain ⟨x', hw, hle, hi0, hok, _⟩ := hi.freeze
  have hd' := frzs_ok hi hle hw hok az _ hd hz1
  have := h.2 x' args H0 hi0 hd'
  rw [hw] at this
  refine this.mono ?_
  rintro _ _ ⟨y, v, r, H', rfl, hyw, hley, hiy, hv, hkk⟩
  exact ⟨y, v, r, H', rfl, hyw, hle.trans hley, hiy, hv, hkk⟩

def flipAt (s : State) (k : Nat) : State := { s with inputs := s.inputs.set k (!(s.inputs.getD k false)) }
/-- The lines that may change, ahead of signal i. -/
def movedP (c : Control) (k : Nat) : Nat → List Int
  | 0 => [2 * c.actuators + k]
  | i + 1 => match c.signals[i]? with
    | some x => if x.kind = 0 ∧ (usesL x).any (fun n => decide (n ∈ movedP c k i)) = true then movedP c k i ++ [firstC c + i] else movedP c k i
    | none => movedP c k i

end Go.Proofs.YtakndgpdolfenaaGreat
end
