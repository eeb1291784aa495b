/- Texts joined by a program: Pb, So, Sp, Sr, Pc, Sh, Ga, Na, Nb. -/
import Derived.Shelf.Sort.Plain
import Derived.Shelf.Slices.CompactI
import Derived.Shelf.Slices.In.SortNone
import Derived.Test.YtakndgpdolfenaaGreatProg
import Derived.KernelRfl
import Derived.Test.YtakndgpdolfenaaGreatG2
import Derived.Test.YtakndgpdolfenaaGreatG1
set_option linter.unusedSimpArgs false
set_option linter.unusedVariables false

/- Plain laws: gates; names and lines; the first state. -/
section
namespace Go.Proofs.YtakndgpdolfenaaGreat
set_option maxHeartbeats 1000000

/-- The value of an expression depends on its variables. -/
theorem evalE_congr {vs ws : List Bool} : ∀ (N : Nat) (x : Expr), SizeOf.sizeOf x < N → (∀ k ∈ varsE x, vs[k.toNat]? = ws[k.toNat]?) → evalE x vs = evalE x ws
  | 0, _, h, _ => absurd h (Nat.not_lt_zero _)
  | N + 1, x, hN, h => by
    have hL : ∀ l : List Expr, (∀ y ∈ l, y ∈ x.args) → (∀ k ∈ varsL l, vs[k.toNat]? = ws[k.toNat]?) → evalL l vs = evalL l ws := by
      intro l
      induction l with
      | nil => intro _ _; rfl
      | cons y l ih =>
        intro hl hk
        have hm := hl y (by simp)
        simp only [evalL]
        rw [ih (fun z hz => hl z (by simp [hz])) (fun k hkk => hk k (by simp [varsL, hkk])), evalE_congr N y (by have := Expr.lt_of_mem hm; omega) (fun k hkk => hk k (by simp [varsL, hkk]))]
    rw [evalE_eq, evalE_eq, hL x.args (fun _ h => h) (fun k hk => h k (by rw [varsE_eq]; simp [hk]))]
    by_cases hop : x.op = 1
    · have := h x.index (by rw [varsE_eq]; simp [hop])
      simp [hop, List.getD_eq_getElem?_getD, this]
    · simp [hop]

theorem gvals_keep {c : Control} {s : State} {k : Nat} : ∀ j : Nat, (kindAt c k ≠ 0 ∨ j ≤ k ∨ c.signals.length ≤ k) → (gvals c s j)[k]? = s.values[k]?
  | 0, _ => rfl
  | j + 1, h => by
    simp only [gvals]
    split
    · rename_i x hx
      split
      · rename_i hk0
        have hne : j ≠ k := by
          rintro rfl
          obtain ⟨hlt, _⟩ := List.getElem?_eq_some_iff.1 hx
          rcases h with h | h | h
          · apply h; simp [kindAt, hx, hk0]
          · omega
          · omega
        rw [List.getElem?_set_ne hne]
        exact gvals_keep j (by rcases h with h | h | h; exact .inl h; exact .inr (.inl (by omega)); exact .inr (.inr h))
      · exact gvals_keep j (by rcases h with h | h | h; exact .inl h; exact .inr (.inl (by omega)); exact .inr (.inr h))
    · exact gvals_keep j (by rcases h with h | h | h; exact .inl h; exact .inr (.inl (by omega)); exact .inr (.inr h))
theorem gvals_stay {c : Control} {s : State} {k : Nat} : ∀ j : Nat, k < j → (gvals c s j)[k]? = (gvals c s (k + 1))[k]?
  | 0, h => absurd h (Nat.not_lt_zero _)
  | j + 1, h => by
    rcases Nat.lt_or_ge k j with h1 | h1
    · rw [← gvals_stay j h1]
      conv => lhs; unfold gvals
      split
      · split
        · rw [List.getElem?_set_ne (by omega)]
        · rfl
      · rfl
    · obtain rfl : k = j := by omega
      rfl
theorem late_not {c : Control} (hf : Fine c) {i : Nat} {x : Signal} (hx : c.signals[i]? = some x) (hk : x.kind = 0) : ∀ n ∈ varsE x.on, n - firstC c < i ∨ kindAt c (n - firstC c) ≠ 0 := by
  have h := hf.sigs i x hx
  unfold signalE at h
  split at h
  · rename_i h1; exact absurd h h1
  · split at h
    · cases h
    · split at h
      · rename_i h1; exact absurd h h1
      · have hl : lateC c i x.on = false := by
          cases hl : lateC c i x.on
          · rfl
          · simp [gateE, hl, hk] at h
        intro n hn
        rw [lateC_any, List.any_eq_false] at hl
        have := hl n hn
        simp only [Bool.and_eq_true, decide_eq_true_eq, beq_iff_eq, not_and] at this
        rcases Classical.em (n - firstC c < i) with h | h
        · exact .inl h
        · exact .inr (this (by omega))
theorem gate_same {c : Control} (hf : Fine c) {s : State} (hsh : shapeS c s) {i : Nat} {x : Signal} (hx : c.signals[i]? = some x) (hk : x.kind = 0) {m : Nat} (hm : i ≤ m) :
    evalE x.on (preV s ++ gvals c s i) = evalE x.on (preV s ++ gvals c s m) := by
  have hpl := preV_length hsh
  refine evalE_congr (SizeOf.sizeOf x.on + 1) x.on (by omega) fun k hk2 => ?_
  have hv := vars_check (hf.on hx).1 k hk2
  have hl := late_not hf hx hk k hk2
  by_cases h1 : k.toNat < (preV s).length
  · rw [List.getElem?_append_left h1, List.getElem?_append_left h1]
  · rw [List.getElem?_append_right (by omega), List.getElem?_append_right (by omega)]
    obtain ⟨q, hq⟩ : ∃ q : Nat, k - firstC c = q := ⟨(k - firstC c).toNat, by omega⟩
    have e : k.toNat - (preV s).length = q := by omega
    rw [e]
    rw [hq] at hl
    by_cases h2 : kindAt c q ≠ 0
    · rw [gvals_keep i (.inl h2), gvals_keep m (.inl h2)]
    · have h3 : q < i := by rcases hl with h | h; omega; exact absurd h h2
      rw [gvals_stay i h3, gvals_stay m (by omega)]
theorem gates_gate {c : Control} (hf : Fine c) {s : State} (hsh : shapeS c s) {i : Nat} {x : Signal} (hx : c.signals[i]? = some x) (hk : x.kind = 0) : (gatesP c s).values[i]? = some (evalE x.on (valuesOf (gatesP c s))) := by
  obtain ⟨hlt, _⟩ := List.getElem?_eq_some_iff.1 hx
  show (gvals c s c.signals.length)[i]? = some (evalE x.on (preV s ++ gvals c s c.signals.length))
  rw [gvals_stay _ hlt, gvals_at hx, if_pos hk, ← gate_same hf hsh hx hk (Nat.le_of_lt hlt), valuesOf_with]
  rw [List.getElem?_set_self]
  rw [gvals_length, hsh.2.2.2.1]
  exact hlt
theorem gates_keep {c : Control} {s : State} {i : Nat} (h : kindAt c i ≠ 0) : (gatesP c s).values[i]? = s.values[i]? := gvals_keep _ (.inl h)
theorem gates_shape {c : Control} {s : State} (hsh : shapeS c s) : shapeS c (gatesP c s) := by
  obtain ⟨h1, h2, h3, h4, h5⟩ := hsh
  exact ⟨h1, h2, h3, by simp only [gatesP, gvals_length]; exact h4, h5⟩
theorem gates_twice {c : Control} (hf : Fine c) {s : State} (hsh : shapeS c s) : gatesP c (gatesP c s) = gatesP c s := by
  have h : ∀ j, j ≤ c.signals.length → gvals c (gatesP c s) j = (gatesP c s).values := by
    intro j
    induction j with
    | zero => intro _; rfl
    | succ j ih =>
      intro hj
      simp only [gvals]
      split
      · rename_i x hx
        split
        · rename_i hk
          rw [ih (by omega)]
          have := gates_gate hf hsh hx hk
          apply List.ext_getElem?
          intro k
          by_cases e : j = k
          · subst e
            rw [this, List.getElem?_set_self (List.getElem?_eq_some_iff.1 this).1]
          · rw [List.getElem?_set_ne e]
        · exact ih (by omega)
      · exact ih (by omega)
  show { gatesP c s with values := gvals c (gatesP c s) c.signals.length } = gatesP c s
  rw [h _ (Nat.le_refl _)]
theorem gates_right {c : Control} {s : State} (h : rightC c s = 0) : rightC c (gatesP c s) = 0 := by
  obtain ⟨z1, z2, z3⟩ := right_zero h
  have hsh := gates_shape z2
  unfold fitsSt at z3
  rw [if_neg (by simpa using z2)] at z3
  split at z3
  · cases z3
  · rename_i hout
    have hz := firstErr_zero z3
    have e : fitsSt c (gatesP c s) = firstErr (tsE c (gatesP c s)) (List.range s.timers.length) := by
      unfold fitsSt
      rw [if_neg (by simpa using hsh)]
      exact if_neg hout
    have hn : NoE (tsE c (gatesP c s)) s.timers.length := by
      intro i hi
      have h0 := hz i hi
      unfold tsE at h0 ⊢
      obtain ⟨hlv, hlt⟩ : s.values.length = c.signals.length ∧ s.timers.length = c.signals.length := ⟨z2.2.2.2.1, z2.2.2.2.2⟩
      have hx : c.signals[i]? = some c.signals[i] := List.getElem?_eq_getElem (by omega)
      have hv : s.values[i]? = some s.values[i] := List.getElem?_eq_getElem (by omega)
      have ht : s.timers[i]? = some s.timers[i] := List.getElem?_eq_getElem (by omega)
      rw [hx, hv, ht] at h0
      have ht' : (gatesP c s).timers[i]? = some s.timers[i] := ht
      have hlg : (gatesP c s).values.length = c.signals.length := hsh.2.2.2.1
      have hv' : (gatesP c s).values[i]? = some (gatesP c s).values[i] := List.getElem?_eq_getElem (by omega)
      rw [hx, hv', ht']
      simp only at h0 ⊢
      unfold tstE at h0 ⊢
      by_cases hk : c.signals[i].kind = 2
      · have hka : kindAt c i ≠ 0 := by simp [kindAt, hx, hk]
        have hg := gates_keep (s := s) hka
        rw [hv', hv] at hg
        rw [Option.some.inj hg]
        exact h0
      · simp only [hk, ne_eq, not_false_eq_true, true_and, false_and, or_false] at h0 ⊢
        exact h0
    rw [rightC, if_neg (by simpa using z1), e]
    exact firstErr_all hn

/-! ### Names and lines -/
/-! ### The first state -/
/-! ### Right expressions are light -/
theorem node_op {x : Expr} {n : Int} (h : nodeR x n = 0) : 0 ≤ x.op ∧ x.op < 5 ∧ (x.op = 0 → x.index = 0 ∨ x.index = 1) ∧ (x.op = 1 → 0 ≤ x.index ∧ x.index < n) ∧ (x.op = 2 → ∃ y, x.args = [y]) := by
  unfold nodeR at h
  split at h
  · cases h
  · rename_i h1
    refine ⟨by omega, by omega, ?_, ?_, ?_⟩
    · intro ho
      simp [ho] at h
      split at h
      · cases h
      · omega
    · intro ho
      simp [ho] at h
      split at h
      · cases h
      · omega
    · intro ho
      simp [ho] at h
      have : x.args.length = 1 := by omega
      exact List.length_eq_one_iff.1 this

end Go.Proofs.YtakndgpdolfenaaGreat
end

/- Contracts out of the kit's shelf: slices.Sort, slices.Compact at []int, on owned slices. -/
section
namespace Go.Proofs.YtakndgpdolfenaaGreat
open Go.Sort
variable {P : Program} {ρ : Go.Shelf.Ren}

theorem rI_vals {x : X} : ∀ {zs : List Int} {vs : List Value}, Ds x (zs.map rI).flatten vs → vs = zs.map (Value.int .i64)
  | [], [], _ => rfl
  | z :: zs, v :: vs, h => by
    simp only [List.map_cons, List.flatten_cons, List.cons_append, List.nil_append, rI, Ds, D, RdL] at h
    rw [h.1, rI_vals h.2, List.map_cons]
  | [], _ :: _, h => by simp [Ds] at h
  | _ :: _, [], h => by simp [Ds, rI] at h
theorem rI_Ds {x : X} : ∀ (zs : List Int), Ds x (zs.map rI).flatten (zs.map (Value.int .i64))
  | [] => by simp [Ds]
  | z :: zs => by
    simp only [List.map_cons, List.flatten_cons, List.cons_append, List.nil_append, rI, Ds, D, RdL]
    exact ⟨trivial, rI_Ds zs⟩
theorem rI_len {zs : List Int} : ∀ r ∈ zs.map rI, r.length = 1 := by
  intro r hr
  obtain ⟨z, _, rfl⟩ := List.mem_map.1 hr
  rfl

/-- What an owned slice of numbers is. -/
theorem ints_own {x : X} {h : Value} {e : TypeId} {zs : List Int} (hs : Ent.sat x (.seq h e 1 (zs.map rI))) :
    (h = .slice none 0 0 ∧ zs = []) ∨ ∃ g cap cur, h = .slice (some ⟨g, 0, none⟩) zs.length cap ∧ x.w.heap[g]? = some (.cells cur e (0, 0)) ∧ zs.length ≤ cap ∧ cap ≤ maxLen ∧ cur.size = cap ∧ cur.toList.take zs.length = zs.map (Value.int .i64) := by
  obtain ⟨xs, ⟨h1, h2⟩, h3, h4⟩ := hs
  have hx := rI_vals h4
  subst hx
  rcases h2 with ⟨rfl, h0⟩ | ⟨g, cap, cur, rfl, _, h5, h6, h7, h8, h9⟩
  · exact .inl ⟨rfl, by simpa using h0⟩
  · refine .inr ⟨g, cap, cur, by simp, h5, by simpa using h6, h7, by simpa using h8, by simpa using h9⟩
theorem ints_holds {x : X} {g : Nat} {cur : Array Value} {e : TypeId} {zs : List Int} (h5 : x.w.heap[g]? = some (.cells cur e (0, 0))) (h9 : cur.toList.take zs.length = zs.map (Value.int .i64)) :
    Holds (Value.int .i64) x.w g 0 zs.toArray := by
  intro j hj
  have hj' : j < zs.length := by simpa using hj
  have hc : cur[j]? = some (.int .i64 zs[j]) := by
    have : (cur.toList.take zs.length)[j]? = some (.int .i64 zs[j]) := by rw [h9]; simp [hj']
    rw [List.getElem?_take] at this
    simpa [hj'] using this
  constructor
  · have hz : zs.toArray[j]! = zs[j] := by simp [hj']
    rw [hz]
    simp [World.cell?, h5, hc]
  · simp [World.frozen?, h5]

theorem putRow_block {w : World} {g n : Nat} {cur : Array Value} {e : TypeId} (h5 : w.heap[g]? = some (.cells cur e (0, 0))) (d : Array Int) (os : Array Obj) :
    (grow (putRow (Value.int .i64) (Sort.ahead w n) g 0 d) os).heap[g]? = some (.cells (putCells (Value.int .i64) 0 d cur) e (0, 0)) ∧ ∀ k, k < w.heap.size → k ≠ g → (grow (putRow (Value.int .i64) (Sort.ahead w n) g 0 d) os).heap[k]? = w.heap[k]? := by
  have hlt := (Array.getElem?_eq_some_iff.1 h5).1
  have hsz : (putRow (Value.int .i64) (Sort.ahead w n) g 0 d).heap.size = w.heap.size := by simp [putRow, mapBlock, Sort.ahead]
  have hgr : ∀ k, k < w.heap.size → (grow (putRow (Value.int .i64) (Sort.ahead w n) g 0 d) os).heap[k]? = (putRow (Value.int .i64) (Sort.ahead w n) g 0 d).heap[k]? := by
    intro k hk
    simp only [grow]
    rw [Array.getElem?_append_left (by rw [hsz]; exact hk)]
  constructor
  · rw [hgr g hlt]
    simp [putRow, mapBlock, Sort.ahead, Array.getElem?_modify, h5, onCells]
  · intro k hk hne
    rw [hgr k hk]
    simp [putRow, mapBlock, Sort.ahead, Array.getElem?_modify, Ne.symm hne]
theorem putCells_take (d : Array Int) (cur : Array Value) (m : Nat) (hm : m ≤ d.size) (hd : d.size ≤ cur.size) : (putCells (Value.int .i64) 0 d cur).toList.take m = (d.toList.take m).map (Value.int .i64) := by
  apply List.ext_getElem?
  intro k
  rw [List.getElem?_take, List.getElem?_map, List.getElem?_take]
  split
  · rename_i hk
    have h1 : k < cur.size := by omega
    have h2 : k < d.size := by omega
    simp [putCells, h1, h2]
  · simp

theorem seq_putRow {x : X} {H : Heap} {t g cap q : Nat} {e : TypeId} {zs : List Int} (hi : Inv x ((t, .seq (.slice (some ⟨g, 0, none⟩) zs.length cap) e 1 (zs.map rI)) :: H)) (d : List Int) (hd : d.length = zs.length) (m : Nat) (hm : m ≤ d.length) (os : Array Obj) :
    ∃ y : X, y.w = grow (putRow (Value.int .i64) (Sort.ahead x.w q) g 0 d.toArray) os ∧ x.le y ∧ Inv y ((t, .seq (.slice (some ⟨g, 0, none⟩) m cap) e 1 ((d.take m).map rI)) :: H) := by
  have hs := hi.sat _ (List.mem_cons_self)
  rcases ints_own hs with ⟨h, _⟩ | ⟨g', cap', cur, h, h5, h6, h7, h8, h9⟩
  · cases h
  · cases h
    obtain ⟨b1, b2⟩ := putRow_block (n := q) h5 d.toArray os
    have hlt := (Array.getElem?_eq_some_iff.1 h5).1
    have hsz : x.w.heap.size ≤ (grow (putRow (Value.int .i64) (Sort.ahead x.w q) g 0 d.toArray) os).heap.size := by simp [grow, putRow, mapBlock, Sort.ahead]
    let y : X := ⟨grow (putRow (Value.int .i64) (Sort.ahead x.w q) g 0 d.toArray) os, x.ok⟩
    have hfin : x.le y ∧ Inv y ((t, .seq (.slice (some ⟨g, 0, none⟩) m cap) e 1 ((d.take m).map rI)) :: H) := by
     refine hi.ofOwn (y := y) (g' := t) (h' := .slice (some ⟨g, 0, none⟩) m cap) (rows' := (d.take m).map rI) rfl ?_ ?_ ?_ ?_
     · have hrl : ((d.take m).map rI).length = m := by rw [List.length_map, List.length_take]; omega
       have hrv : ((d.take m).map (Value.int .i64)).length = m * 1 := by rw [List.length_map, List.length_take]; omega
       have hpt := putCells_take d.toArray cur m (by simpa using hm) (by rw [List.size_toArray]; omega)
       have hps : (putCells (Value.int .i64) 0 d.toArray cur).size = cap * 1 := by simp [putCells, h8]
       refine ⟨(d.take m).map (Value.int .i64), ⟨by rw [hrl]; exact hrv, .inr ⟨g, cap, _, by rw [hrl], Nat.zero_le _, b1, by rw [hrl]; omega, h7, hps, ?_⟩⟩, rI_len, rI_Ds _⟩
       rw [hrl, Nat.mul_one]
       exact hpt
     · refine ⟨rfl, rfl, rfl, hsz, ?_⟩
       intro k hk hne
       exact b2 k hk fun e => hne (by simp [Value.ownBlock, e])
     · show x.w.drawn ≤ (grow (putRow (Value.int .i64) (Sort.ahead x.w q) g 0 d.toArray) os).drawn
       simp [grow, putRow, mapBlock, Sort.ahead]
     · intro k hk
       simp only [Value.ownBlock, Option.some.injEq] at hk
       subst hk
       exact ⟨.inl rfl, Nat.lt_of_lt_of_le hlt hsz⟩
    exact ⟨y, rfl, hfin⟩

theorem Ds_one {x : X} {t : Nat} {h : Value} {args : Array Value} (hd : Ds x [.own t h] args.toList) : args = #[h] := by
  rcases args with ⟨l⟩
  rcases l with _ | ⟨a, _ | ⟨b, l⟩⟩ <;> simp [Ds, D] at hd
  rw [hd.1]
theorem unit_D (y : X) : D y (.tuple []) (.tuple #[]) := by simp [D, Ds]

def sortI (zs : List Int) : List Int := zs.mergeSort fun x y => decide (x ≤ y)
theorem sortI_len (zs : List Int) : (sortI zs).length = zs.length := by simp [sortI]
theorem sortI_s (Ly : Go.Proofs.Lays.n189 P ρ) (hc : Callable P (ρ.f 189)) {e t : Nat} {h : Value} {zs : List Int} (hz : zs.length < 4611686018427387904) :
    CallS P (ρ.f 189) [.own t h] [(t, .seq h e 1 (zs.map rI))] fun r H' => r = .tuple [] ∧ H' = [(t, .seq h e 1 ((sortI zs).map rI))] := by
  refine ⟨hc, fun x args H0 hi hd => ?_⟩
  obtain rfl := Ds_one hd
  have hs := hi.sat _ (List.mem_cons_self)
  rcases ints_own hs with ⟨rfl, rfl⟩ | ⟨g, cap, cur, rfl, h5, h6, h7, h8, h9⟩
  · refine (Any.slices_Sort_int_none Ly none 0 x.w).mono ?_
    rintro _ _ ⟨rfl, rfl⟩
    exact ⟨x, _, .tuple [], _, rfl, rfl, .refl x, by simpa [sortI] using hi, unit_D x, rfl, rfl⟩
  · refine (Any.slices_Sort_int Ly g 0 cap zs x.w (ints_holds h5 h9) (Array.getElem?_eq_some_iff.1 h5).1 hz).mono ?_
    rintro _ _ ⟨rfl, n, os, rfl⟩
    obtain ⟨y, k1, k2, k3⟩ := seq_putRow hi (q := n) (sortI zs) (sortI_len zs) (sortI zs).length (Nat.le_refl _) os
    rw [List.take_length, sortI_len] at k3
    exact ⟨y, _, .tuple [], _, rfl, k1, k2, k3, unit_D y, rfl, rfl⟩

def compI (zs : List Int) : List Int := Go.Lib.compact zs
theorem compI_le (zs : List Int) : (compI zs).length ≤ zs.length := by
  unfold compI Go.Lib.compact Go.Lib.compactUpTo
  rw [List.length_map]
  exact Nat.le_trans (List.length_filter_le _ _) (by simp)
/-- Compact: what comes back is the same slice, shorter. -/
theorem compI_s (Ly : Go.Proofs.Lays2.n20 P ρ) (hc : Callable P (ρ.f 20)) {e t : Nat} {h : Value} {zs : List Int} (hz : zs.length ≤ 9223372036854775807) :
    CallS P (ρ.f 20) [.own t h] [(t, .seq h e 1 (zs.map rI))] fun r H' => ∃ h2, r = .own t h2 ∧ H' = [(t, .seq h2 e 1 ((compI zs).map rI))] := by
  refine ⟨hc, fun x args H0 hi hd => ?_⟩
  obtain rfl := Ds_one hd
  have hs := hi.sat _ (List.mem_cons_self)
  rcases ints_own hs with ⟨rfl, rfl⟩ | ⟨g, cap, cur, rfl, h5, h6, h7, h8, h9⟩
  · refine (Any.slices_Compact_int_empty Ly none 0 x.w).mono ?_
    rintro _ _ ⟨rfl, rfl⟩
    exact ⟨x, _, .own t _, _, rfl, rfl, .refl x, hi, by simp only [D]; exact ⟨rfl, _, _, _, rfl⟩, _, rfl, by simp [compI, Go.Lib.compact, Go.Lib.compactUpTo]⟩
  · refine (Any.slices_Compact_int Ly g 0 cap zs x.w (ints_holds h5 h9) hz h6).mono ?_
    rintro _ _ ⟨rfl, q, rfl⟩
    have hle := compI_le zs
    obtain ⟨y, k1, k2, k3⟩ := seq_putRow hi (q := q) (compI zs ++ List.replicate (zs.length - (compI zs).length) 0) (by simp; omega) (compI zs).length (by simp) #[]
    rw [List.take_left] at k3
    refine ⟨y, _, .own t (.slice (some ⟨g, 0, none⟩) (compI zs).length cap), _, rfl, by rw [k1, grow_empty]; rfl, k2, k3, by simp [D, compI], _, rfl, rfl⟩

end Go.Proofs.YtakndgpdolfenaaGreat
end

/- Plain laws: sorted lists without twins; rounds. -/
section
namespace Go.Proofs.YtakndgpdolfenaaGreat
set_option maxHeartbeats 1000000

theorem lt_ext : ∀ {l r : List Int}, l.Pairwise (· < ·) → r.Pairwise (· < ·) → (∀ z, z ∈ l ↔ z ∈ r) → l = r
  | [], [], _, _, _ => rfl
  | [], b :: r, _, _, h => by have := (h b).2 (by simp); simp at this
  | a :: l, [], _, _, h => by have := (h a).1 (by simp); simp at this
  | a :: l, b :: r, h1, h2, h => by
    obtain ⟨a1, a2⟩ := List.pairwise_cons.1 h1
    obtain ⟨b1, b2⟩ := List.pairwise_cons.1 h2
    have e : a = b := by
      have h3 := (h a).1 (by simp)
      have h4 := (h b).2 (by simp)
      rcases List.mem_cons.1 h3 with e | h3
      · exact e
      · rcases List.mem_cons.1 h4 with e | h4
        · exact e.symm
        · have := b1 a h3; have := a1 b h4; omega
    subst e
    rw [lt_ext a2 b2 fun z => ?_]
    constructor
    · intro hz
      have hne := a1 z hz
      rcases List.mem_cons.1 ((h z).1 (by simp [hz])) with e | e
      · omega
      · exact e
    · intro hz
      have hne := b1 z hz
      rcases List.mem_cons.1 ((h z).2 (by simp [hz])) with e | e
      · omega
      · exact e
theorem comp_sorted {zs : List Int} (h : zs.Pairwise (· ≤ ·)) : (compI zs).Pairwise (· < ·) ∧ ∀ z, z ∈ compI zs ↔ z ∈ zs := by
  have hd : ∀ j, j < zs.length → zs.toArray[j]! = zs[j]! := fun j hj => by simp [hj]
  have key : ∀ m, m ≤ zs.length → (Go.Lib.compactUpTo zs.toArray m).Pairwise (· < ·) ∧ (∀ z ∈ Go.Lib.compactUpTo zs.toArray m, ∃ j, j < m ∧ z = zs[j]!) ∧ (∀ j, j < m → zs[j]! ∈ Go.Lib.compactUpTo zs.toArray m) := by
    intro m
    induction m with
    | zero => intro _; simp [Go.Lib.compactUpTo]
    | succ m ih =>
      intro hm
      obtain ⟨i1, i2, i3⟩ := ih (by omega)
      have hle : ∀ j, j ≤ m → zs[j]! ≤ zs[m]! := by
        intro j hj
        rcases Nat.lt_or_ge j m with h1 | h1
        · have := List.pairwise_iff_getElem.1 h j m (by omega) (by omega) h1
          simpa [show j < zs.length by omega, show m < zs.length by omega] using this
        · obtain rfl : j = m := by omega
          exact Int.le_refl _
      rw [Go.Lib.compactUpTo_succ]
      by_cases hk : Go.Lib.keeps zs.toArray m = true
      · rw [if_pos hk, hd m (by omega)]
        refine ⟨?_, ?_, ?_⟩
        · refine List.pairwise_append.2 ⟨i1, by simp, ?_⟩
          intro a ha b hb
          simp only [List.mem_singleton] at hb
          subst hb
          obtain ⟨j, hj, rfl⟩ := i2 a ha
          have h1 := hle j (by omega)
          by_cases he : zs[j]! = zs[m]!
          · exfalso
            have h0 : 0 < m := by omega
            have hlow : zs[j]! ≤ zs[m - 1]! := by
              rcases Nat.lt_or_ge j (m - 1) with h2 | h2
              · have := List.pairwise_iff_getElem.1 h j (m - 1) (by omega) (by omega) h2
                simpa [show j < zs.length by omega, show m - 1 < zs.length by omega] using this
              · obtain rfl : j = m - 1 := by omega
                exact Int.le_refl _
            have hup := hle (m - 1) (by omega)
            simp only [Go.Lib.keeps, decide_eq_true_eq] at hk
            rcases hk with hk | hk
            · omega
            · rw [hd m (by omega), hd (m - 1) (by omega)] at hk
              omega
          · omega
        · intro z hz
          rcases List.mem_append.1 hz with hz | hz
          · obtain ⟨j, hj, e⟩ := i2 z hz; exact ⟨j, by omega, e⟩
          · simp only [List.mem_singleton] at hz; exact ⟨m, by omega, hz⟩
        · intro j hj
          rcases Nat.lt_or_ge j m with h1 | h1
          · exact List.mem_append.2 (.inl (i3 j h1))
          · obtain rfl : j = m := by omega
            simp
      · rw [if_neg hk, List.append_nil]
        refine ⟨i1, fun z hz => ?_, fun j hj => ?_⟩
        · obtain ⟨j, hj, e⟩ := i2 z hz; exact ⟨j, by omega, e⟩
        · rcases Nat.lt_or_ge j m with h1 | h1
          · exact i3 j h1
          · obtain rfl : j = m := by omega
            simp only [Go.Lib.keeps, decide_eq_true_eq, not_or, Classical.not_not] at hk
            rw [hd j (by omega), hd (j - 1) (by omega)] at hk
            rw [hk.2]
            exact i3 (j - 1) (by omega)
  obtain ⟨k1, k2, k3⟩ := key zs.length (Nat.le_refl _)
  refine ⟨by simpa [compI, Go.Lib.compact] using k1, fun z => ⟨fun hz => ?_, fun hz => ?_⟩⟩
  · obtain ⟨j, hj, rfl⟩ := k2 z (by simpa [compI, Go.Lib.compact] using hz)
    simp [hj]
  · obtain ⟨j, hj, rfl⟩ := List.getElem_of_mem hz
    have := k3 j hj
    simpa [compI, Go.Lib.compact, hj] using this
theorem sortI_sorted (zs : List Int) : (sortI zs).Pairwise (· ≤ ·) := by
  have := List.pairwise_mergeSort (le := fun x y : Int => decide (x ≤ y)) (by intro a b c; simp; omega) (by intro a b; simp; omega) zs
  simpa [sortI] using this
/-- What is sorted and has no twins, out of the numbers below M: those that are met, in order. -/
def metB (M : Nat) (p : Nat → Bool) : List Int := ((List.range M).filter p).map fun k : Nat => (k : Int)
theorem metB_sorted (M : Nat) (p : Nat → Bool) : (metB M p).Pairwise (· < ·) := by
  unfold metB
  rw [List.pairwise_map]
  refine List.Pairwise.filter _ ?_
  refine List.Pairwise.imp ?_ (List.pairwise_lt_range)
  intro a b h
  omega
theorem uniq_met {zs : List Int} {M : Nat} {p : Nat → Bool} (h : ∀ z ∈ zs, 0 ≤ z ∧ z < M) (hp : ∀ k : Nat, k < M → (p k = true ↔ (k : Int) ∈ zs)) : compI (sortI zs) = metB M p := by
  obtain ⟨c1, c2⟩ := comp_sorted (sortI_sorted zs)
  refine lt_ext c1 (metB_sorted M p) fun z => ?_
  rw [c2]
  have hm : z ∈ sortI zs ↔ z ∈ zs := by simp [sortI, List.mem_mergeSort]
  rw [hm]
  simp only [metB, List.mem_map, List.mem_filter, List.mem_range]
  constructor
  · intro hz
    obtain ⟨h1, h2⟩ := h z hz
    exact ⟨z.toNat, ⟨by omega, (hp z.toNat (by omega)).2 (by rw [show ((z.toNat : Nat) : Int) = z by omega]; exact hz)⟩, by omega⟩
  · rintro ⟨k, ⟨h1, h2⟩, rfl⟩
    exact (hp k h1).1 h2

/-! ### Rounds -/
/-- What a signal becomes: its value, its timer, and whether On and Off contradict each other. -/
def stepV (k : Int) (v : Bool) (t : Int) (on off : Bool) : Bool × Int × Bool :=
  if k = 1 then (if on != off then on else v, t, on && off)
  else if k = 2 then (if on = false then (false, 0, false) else (v, if t = 0 then 1 else t, false))
  else (v, t, false)
def sigStep (c : Control) (s : State) (L : List Bool) (i : Nat) : Bool × Int × Bool := match c.signals[i]?, s.values[i]?, s.timers[i]? with
  | some x, some v, some t => stepV x.kind v t (evalE x.on L) (x.kind == 1 && evalE x.off L)
  | _, _, _ => (false, 0, false)
def newV (c : Control) (s : State) : List Bool := (List.range c.signals.length).map fun i => (sigStep c s (valuesOf s) i).1
def newT (c : Control) (s : State) : List Int := (List.range c.signals.length).map fun i => (sigStep c s (valuesOf s) i).2.1
def onceS (c : Control) (s : State) : State := { s with values := newV c s, timers := newT c s }
def onceB (c : Control) (s : State) (n : Nat) : List Int := ((List.range n).filter fun i => (sigStep c s (valuesOf s) i).2.2).map fun i : Nat => firstC c + i
def roundS (c : Control) (s : State) : State := onceS c (gatesP c s)
def roundB (c : Control) (s : State) : List Int := onceB c (gatesP c s) c.signals.length
/-- The rounds until rest: k rounds are left. -/
def courseP (c : Control) : Nat → Int → State → List Int → Option (State × List Int × Int)
  | 0, _, _, _ => none
  | k + 1, n, s, acc => if roundS c s = s then some (s, acc ++ roundB c s, n) else courseP c k (n + 1) (roundS c s) (acc ++ roundB c s)

theorem sm_of {c : Control} {s : State} (hf : Fine c) (h : shapeS c s) : SmS s := by
  obtain ⟨h1, h2, h3, h4, h5⟩ := h
  have := hf.act
  have := hf.inp
  have := hf.sig
  exact ⟨by omega, by omega, by omega, by omega, by omega⟩
theorem once_shape {c : Control} {s : State} (h : shapeS c s) : shapeS c (onceS c s) := by
  obtain ⟨h1, h2, h3, h4, h5⟩ := h
  exact ⟨h1, h2, h3, by simp [onceS, newV], by simp [onceS, newT]⟩
theorem round_shape {c : Control} {s : State} (h : shapeS c s) : shapeS c (roundS c s) := once_shape (gates_shape h)
theorem onceB_succ (c : Control) (s : State) (n : Nat) : onceB c s (n + 1) = onceB c s n ++ (if (sigStep c s (valuesOf s) n).2.2 then [firstC c + n] else []) := by
  unfold onceB
  rw [List.range_succ, List.filter_append, List.map_append]
  congr 1
  by_cases h : (sigStep c s (valuesOf s) n).2.2 = true <;> simp [h]
theorem onceB_len (c : Control) (s : State) (n : Nat) : (onceB c s n).length ≤ n := by
  unfold onceB
  rw [List.length_map]
  exact Nat.le_trans (List.length_filter_le _ _) (by simp)

end Go.Proofs.YtakndgpdolfenaaGreat
end

/- Plain: what a signal wants. -/
section
namespace Go.Proofs.YtakndgpdolfenaaGreat
set_option maxHeartbeats 1000000
set_option maxRecDepth 10000

/-- What a signal wants: to become something else. -/
def wantV (k : Int) (v : Bool) (t : Int) (on off : Bool) : Bool :=
  if k = 1 then (on != off) && (v != on) else if k = 2 then (if on = false then decide (t ≠ 0) else decide (t = 0)) else false
def wantAt (c : Control) (s : State) (i : Nat) : Bool := match c.signals[i]?, s.values[i]?, s.timers[i]? with
  | some x, some v, some t => wantV x.kind v t (evalE x.on (valuesOf s)) (x.kind == 1 && evalE x.off (valuesOf s))
  | _, _, _ => false
def turnS (c : Control) (s : State) (i : Nat) : State := { s with values := s.values.set i (sigStep c s (valuesOf s) i).1, timers := s.timers.set i (sigStep c s (valuesOf s) i).2.1 }

end Go.Proofs.YtakndgpdolfenaaGreat
end

/- Plain laws: what it is to fit. -/
section
namespace Go.Proofs.YtakndgpdolfenaaGreat
set_option maxHeartbeats 1000000
set_option maxRecDepth 10000

theorem fits_parts {c : Control} {s : State} (h : rightC c s = 0) : (∀ e ∈ s.ends, outR 4 e = false) ∧ (∀ e ∈ s.timers, outR 3 e = false) ∧ ∀ (i : Nat) (x : Signal), c.signals[i]? = some x → tstE x (s.values.getD i false) (s.timers.getD i 0) = 0 := by
  obtain ⟨z1, z2, z3⟩ := right_zero h
  unfold fitsSt at z3
  rw [if_neg (by simpa using z2)] at z3
  split at z3
  · cases z3
  · rename_i hout
    rw [Bool.or_eq_true, not_or, Bool.not_eq_true, Bool.not_eq_true] at hout
    have hz := firstErr_zero z3
    obtain ⟨h4, h5⟩ : s.values.length = c.signals.length ∧ s.timers.length = c.signals.length := ⟨z2.2.2.2.1, z2.2.2.2.2⟩
    refine ⟨fun e he => ?_, fun e he => ?_, fun i x hx => ?_⟩
    · have := List.any_eq_false.1 hout.1 e he
      simpa using this
    · have := List.any_eq_false.1 hout.2 e he
      simpa using this
    · have hi : i < c.signals.length := (List.getElem?_eq_some_iff.1 hx).1
      have h0 := hz i (by omega)
      have hv0 : s.values[i]? = some s.values[i] := List.getElem?_eq_getElem (by omega)
      have ht0 : s.timers[i]? = some s.timers[i] := List.getElem?_eq_getElem (by omega)
      unfold tsE at h0
      rw [hx, hv0, ht0] at h0
      rw [List.getD_eq_getElem?_getD, List.getD_eq_getElem?_getD, hv0, ht0]
      exact h0
theorem right_made {c : Control} {s : State} (h1 : checkC c = 0) (h2 : shapeS c s) (h3 : ∀ e ∈ s.ends, outR 4 e = false) (h4 : ∀ e ∈ s.timers, outR 3 e = false) (h5 : ∀ (i : Nat) (x : Signal), c.signals[i]? = some x → tstE x (s.values.getD i false) (s.timers.getD i 0) = 0) : rightC c s = 0 := by
  rw [rightC, if_neg (by simpa using h1), fitsSt, if_neg (by simpa using h2), if_neg]
  · refine firstErr_all fun i hi => ?_
    unfold tsE
    have hc : i < c.signals.length := by have := h2.2.2.2.2; omega
    have hx : c.signals[i]? = some c.signals[i] := List.getElem?_eq_getElem hc
    have hv0 : s.values[i]? = some (s.values[i]'(by have := h2.2.2.2.1; omega)) := List.getElem?_eq_getElem _
    have ht0 : s.timers[i]? = some s.timers[i] := List.getElem?_eq_getElem hi
    have := h5 i _ hx
    rw [List.getD_eq_getElem?_getD, List.getD_eq_getElem?_getD, hv0, ht0] at this
    rw [hx, hv0, ht0]
    exact this
  · rw [Bool.or_eq_true, not_or, Bool.not_eq_true, Bool.not_eq_true]
    exact ⟨List.any_eq_false.2 fun e he => by simp [h3 e he], List.any_eq_false.2 fun e he => by simp [h4 e he]⟩

theorem gates_like {c : Control} (hf : Fine c) {s t : State} (hs : shapeS c s) (ht : shapeS c t) (he : t.ends = s.ends) (hvv : t.valves = s.valves) (hi : t.inputs = s.inputs) (htm : t.timers = s.timers)
    (hv : ∀ k : Nat, kindAt c k ≠ 0 → t.values[k]? = s.values[k]?) : gatesP c t = gatesP c s := by
  have hp : preV t = preV s := by unfold preV; rw [he, hi]
  have hpl := preV_length hs
  have key : ∀ j, j ≤ c.signals.length → ∀ k : Nat, (k < j ∨ kindAt c k ≠ 0) → (gvals c t j)[k]? = (gvals c s j)[k]? := by
    intro j
    induction j with
    | zero =>
      intro _ k hk
      rcases hk with h | h
      · omega
      · exact hv k h
    | succ j ih =>
      intro hj k hk
      have hx : c.signals[j]? = some c.signals[j] := List.getElem?_eq_getElem (by omega)
      rw [gvals_at hx, gvals_at hx]
      by_cases h0 : c.signals[j].kind = 0
      · rw [if_pos h0, if_pos h0]
        have he2 : evalE c.signals[j].on (valuesOf { t with values := gvals c t j }) = evalE c.signals[j].on (valuesOf { s with values := gvals c s j }) := by
          rw [valuesOf_with, valuesOf_with, hp]
          refine evalE_congr (SizeOf.sizeOf c.signals[j].on + 1) _ (by omega) fun n hn => ?_
          have hvn := vars_check (hf.on hx).1 n hn
          have hl := late_not hf hx h0 n hn
          by_cases h1 : n.toNat < (preV s).length
          · rw [List.getElem?_append_left h1, List.getElem?_append_left h1]
          · rw [List.getElem?_append_right (by omega), List.getElem?_append_right (by omega)]
            obtain ⟨q, hq⟩ : ∃ q : Nat, n - firstC c = q := ⟨(n - firstC c).toNat, by omega⟩
            have e : n.toNat - (preV s).length = q := by omega
            rw [e]
            rw [hq] at hl
            refine ih (by omega) q ?_
            rcases hl with h | h
            · exact .inl (by omega)
            · exact .inr h
        by_cases hkj : j = k
        · subst hkj
          rw [he2, List.getElem?_set, List.getElem?_set, gvals_length, gvals_length, ht.2.2.2.1, hs.2.2.2.1, if_pos rfl, if_pos rfl]
        · rw [List.getElem?_set_ne hkj, List.getElem?_set_ne hkj]
          refine ih (by omega) k ?_
          rcases hk with h | h
          · exact .inl (by omega)
          · exact .inr h
      · rw [if_neg h0, if_neg h0]
        refine ih (by omega) k ?_
        by_cases hkj : k = j
        · right
          rw [hkj]
          simpa [kindAt, hx] using h0
        · rcases hk with h | h
          · exact .inl (by omega)
          · exact .inr h
  have e : gvals c t c.signals.length = gvals c s c.signals.length := by
    apply List.ext_getElem?
    intro k
    rcases Nat.lt_or_ge k c.signals.length with h | h
    · exact key _ (Nat.le_refl _) k (.inl h)
    · rw [List.getElem?_eq_none (by rw [gvals_length, ht.2.2.2.1]; exact h), List.getElem?_eq_none (by rw [gvals_length, hs.2.2.2.1]; exact h)]
  unfold gatesP
  rw [e]
  obtain ⟨a1, a2, a3, a4, a5⟩ := s
  obtain ⟨b1, b2, b3, b4, b5⟩ := t
  simp only at he hvv hi htm
  subst he hvv hi htm
  rfl

end Go.Proofs.YtakndgpdolfenaaGreat
end

/- Two contracts of the kit's shelf at this program: the tables of numbers. Written by a program (wip/gen_shelf.py). -/
section
namespace Go.Proofs.YtakndgpdolfenaaGreat
set_option maxRecDepth 100000
set_option maxHeartbeats 4000000
def sortRen : Go.Shelf.Ren := ⟨fun | 125 => 128 | 128 => 168 | 129 => 169 | 189 => 116 | 215 => 104 | 216 => 179 | 257 => 142 | 294 => 173 | 295 => 174 | 296 => 175 | 297 => 176 | 298 => 177 | 299 => 178 | 300 => 180 | 301 => 181 | 328 => 200 | 329 => 195 | 330 => 196 | 331 => 201 | 332 => 202 | 343 => 208 | n => n, fun | 0 => 0 | 3 => 3 | 4 => 4 | 5 => 5 | 9 => 9 | 28 => 24 | 46 => 165 | 51 => 209 | 53 => 211 | 131 => 162 | 182 => 202 | 183 => 203 | 218 => 229 | 222 => 233 | 228 => 241 | 229 => 64 | n => n, fun n => n⟩
theorem sortLays : Go.Proofs.Lays.n189 Tryz.prog sortRen := {
  mixed := by kernel_rfl,
  f125 := by kernel_rfl,
  f128 := by kernel_rfl,
  f129 := by kernel_rfl,
  f189 := by kernel_rfl,
  f215 := by kernel_rfl,
  f216 := by kernel_rfl,
  f257 := by kernel_rfl,
  f294 := by kernel_rfl,
  f295 := by kernel_rfl,
  f296 := by kernel_rfl,
  f297 := by kernel_rfl,
  f298 := by kernel_rfl,
  f299 := by kernel_rfl,
  f300 := by kernel_rfl,
  f301 := by kernel_rfl,
  f328 := by kernel_rfl,
  f329 := by kernel_rfl,
  f330 := by kernel_rfl,
  f331 := by kernel_rfl,
  f332 := by kernel_rfl,
  f343 := by kernel_rfl,
  t0 := Tryz.underlying0,
  a0 := Tryz.isAgg0,
  z0 := Tryz.sizeOf0,
  v0 := Tryz.zeroValue0,
  t3 := Tryz.underlying3,
  a3 := Tryz.isAgg3,
  z3 := Tryz.sizeOf3,
  v3 := Tryz.zeroValue3,
  t4 := Tryz.underlying4,
  a4 := Tryz.isAgg4,
  z4 := Tryz.sizeOf4,
  v4 := Tryz.zeroValue4,
  t5 := Tryz.underlying5,
  a5 := Tryz.isAgg5,
  z5 := Tryz.sizeOf5,
  v5 := Tryz.zeroValue5,
  t9 := Tryz.underlying9,
  a9 := Tryz.isAgg9,
  z9 := Tryz.sizeOf9,
  v9 := Tryz.zeroValue9,
  t28 := Tryz.underlying24,
  a28 := Tryz.isAgg24,
  z28 := Tryz.sizeOf24,
  v28 := Tryz.zeroValue24,
  t46 := Tryz.underlying165,
  a46 := Tryz.isAgg165,
  z46 := Tryz.sizeOf165,
  v46 := Tryz.zeroValue165,
  t51 := Tryz.underlying209,
  a51 := Tryz.isAgg209,
  z51 := Tryz.sizeOf209,
  v51 := Tryz.zeroValue209,
  t53 := Tryz.underlying211,
  a53 := Tryz.isAgg211,
  z53 := Tryz.sizeOf211,
  v53 := Tryz.zeroValue211,
  t131 := Tryz.underlying162,
  a131 := Tryz.isAgg162,
  z131 := Tryz.sizeOf162,
  v131 := Tryz.zeroValue162,
  t182 := Tryz.underlying202,
  a182 := Tryz.isAgg202,
  z182 := Tryz.sizeOf202,
  v182 := Tryz.zeroValue202,
  t183 := Tryz.underlying203,
  a183 := Tryz.isAgg203,
  z183 := Tryz.sizeOf203,
  v183 := Tryz.zeroValue203,
  t218 := Tryz.underlying229,
  a218 := Tryz.isAgg229,
  z218 := Tryz.sizeOf229,
  v218 := Tryz.zeroValue229,
  t222 := Tryz.underlying233,
  a222 := Tryz.isAgg233,
  z222 := Tryz.sizeOf233,
  v222 := Tryz.zeroValue233,
  t228 := Tryz.underlying241,
  a228 := Tryz.isAgg241,
  z228 := Tryz.sizeOf241,
  v228 := Tryz.zeroValue241,
  t229 := Tryz.underlying64,
  a229 := Tryz.isAgg64,
  z229 := Tryz.sizeOf64,
  v229 := Tryz.zeroValue64 }
def compRen : Go.Shelf.Ren := ⟨fun | 20 => 117 | n => n, fun | 0 => 0 | 3 => 3 | 4 => 4 | 22 => 24 | n => n, fun n => n⟩
theorem compLays : Go.Proofs.Lays2.n20 Tryz.prog compRen := {
  mixed := by kernel_rfl,
  f20 := by kernel_rfl,
  t0 := Tryz.underlying0,
  a0 := Tryz.isAgg0,
  z0 := Tryz.sizeOf0,
  v0 := Tryz.zeroValue0,
  t3 := Tryz.underlying3,
  a3 := Tryz.isAgg3,
  z3 := Tryz.sizeOf3,
  v3 := Tryz.zeroValue3,
  t4 := Tryz.underlying4,
  a4 := Tryz.isAgg4,
  z4 := Tryz.sizeOf4,
  v4 := Tryz.zeroValue4,
  t22 := Tryz.underlying24,
  a22 := Tryz.isAgg24,
  z22 := Tryz.sizeOf24,
  v22 := Tryz.zeroValue24,
  i3 := by kernel_rfl }
end Go.Proofs.YtakndgpdolfenaaGreat
end

/- Contracts: iteration of variables over memory that grows; Uses, names, lines. -/
section
namespace Go.Proofs.YtakndgpdolfenaaGreat
set_option maxHeartbeats 2000000
set_option maxRecDepth 10000

theorem Inv.same {x : X} {H : Heap} {t : Nat} {e e' : Ent} (hi : Inv x ((t, e) :: H)) (ho : ∀ b, e'.own b → e.own b) (hs : e.sat x → e'.sat x) : Inv x ((t, e') :: H) := by
  have hap := List.pairwise_cons.1 hi.apart
  refine ⟨hi.bd, ?_, ?_, List.pairwise_cons.2 ⟨fun p hp b h1 h2 => hap.1 p hp b (ho b h1) h2, hap.2⟩⟩
  · intro p hp
    rcases List.mem_cons.1 hp with rfl | hp
    · exact hs (hi.sat (t, e) (by simp))
    · exact hi.sat p (by simp [hp])
  · intro p hp b hb
    rcases List.mem_cons.1 hp with rfl | hp
    · exact hi.own (t, e) (by simp) b (ho b hb)
    · exact hi.own p (by simp [hp]) b hb
def usesL (x : Signal) : List Int := compI (sortI (varsE x.on ++ varsE x.off))
theorem sort_call : Callable Tryz.prog 116 := ⟨_, Tryz.func116, by kernel_rfl, by kernel_rfl⟩
theorem comp_call : Callable Tryz.prog 117 := ⟨_, Tryz.func117, by kernel_rfl, by kernel_rfl⟩
theorem sort_c {t e : Nat} {h : Value} {zs : List Int} (hz : zs.length < 4611686018427387904) : CallS Tryz.prog 116 [.own t h] [(t, .seq h e 1 (zs.map rI))] fun r H' => r = .tuple [] ∧ H' = [(t, .seq h e 1 ((sortI zs).map rI))] :=
  sortI_s sortLays sort_call hz
theorem comp_c {t e : Nat} {h : Value} {zs : List Int} (hz : zs.length ≤ 9223372036854775807) : CallS Tryz.prog 117 [.own t h] [(t, .seq h e 1 (zs.map rI))] fun r H' => ∃ h2, r = .own t h2 ∧ H' = [(t, .seq h2 e 1 ((compI zs).map rI))] :=
  compI_s compLays comp_call hz

def usesP (c : Control) (k : Int) : List Int × Int :=
  if checkC c ≠ 0 then ([], checkC c) else if k < 0 ∨ countC c ≤ k then ([], 6) else if k < firstC c then ([], 0)
  else (((c.signals[(k - firstC c).toNat]?).map usesL).getD [], 0)
/-! ### The reference -/
@[simp] theorem metB_zero (p : Nat → Bool) : metB 0 p = [] := by simp [metB]
theorem metB_len (M : Nat) (p : Nat → Bool) : (metB M p).length ≤ M := by
  unfold metB
  rw [List.length_map]
  exact Nat.le_trans (List.length_filter_le _ _) (by simp)

end Go.Proofs.YtakndgpdolfenaaGreat
end

/- The law of names, lines and uses. -/
section
namespace Go.Proofs.YtakndgpdolfenaaGreat
set_option maxHeartbeats 4000000
set_option maxRecDepth 10000

end Go.Proofs.YtakndgpdolfenaaGreat
end

/- The law of what inputs keep. -/
section
namespace Go.Proofs.YtakndgpdolfenaaGreat
set_option maxHeartbeats 4000000
set_option maxRecDepth 10000

/-! ### Numbers that were met, as a map -/
def mapM (ns : List Int) : List (L × L) := ns.map fun n => (.int .i64 n, .bool true)
/-- Memory that is given up for good when a call takes what lies in it. -/
theorem CallS.freeze {P : Program} {g : FuncId} {az az' : List A} {Hf Hk : Heap} {K : A → Heap → Prop} (h : CallS P g az' Hk K) (hz : (frzs Hf az).1 ∧ (frzs Hf az).2 = az') : CallS P g az (Hf ++ Hk) K := by
  obtain ⟨hz1, rfl⟩ := hz
  refine ⟨h.1, fun x args H0 hi hd => ?_⟩
  rw [List.append_assoc] at hi
  obtain ⟨x', hw, hle, hi0, hok, _⟩ := hi.freeze
  have hd' := frzs_ok hi hle hw hok az _ hd hz1
  have := h.2 x' args H0 hi0 hd'
  rw [hw] at this
  refine this.mono ?_
  rintro _ _ ⟨y, v, r, H', rfl, hyw, hley, hiy, hv, hkk⟩
  exact ⟨y, v, r, H', rfl, hyw, hle.trans hley, hiy, hv, hkk⟩

def flipAt (s : State) (k : Nat) : State := { s with inputs := s.inputs.set k (!(s.inputs.getD k false)) }
/-- The lines that may change, ahead of signal i. -/
def movedP (c : Control) (k : Nat) : Nat → List Int
  | 0 => [2 * c.actuators + k]
  | i + 1 => match c.signals[i]? with
    | some x => if x.kind = 0 ∧ (usesL x).any (fun n => decide (n ∈ movedP c k i)) = true then movedP c k i ++ [firstC c + i] else movedP c k i
    | none => movedP c k i

end Go.Proofs.YtakndgpdolfenaaGreat
end
