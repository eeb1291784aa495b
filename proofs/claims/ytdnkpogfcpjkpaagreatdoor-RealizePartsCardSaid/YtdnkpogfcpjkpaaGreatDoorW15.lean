/- Texts joined by a program: Hn, Ho, Ib, Ic, Jl. -/
import Derived.Lib.Bytealg
import Derived.Test.YtdnkpogfcpjkpaaGreatDoorW14
set_option linter.unusedSimpArgs false
set_option linter.unusedVariables false
set_option linter.unnecessarySimpa false

section
namespace Go.Proofs.YtdnkpogfcpjkpaaGreatDoor
set_option maxHeartbeats 1000000
theorem numT_ne (n : Nat) : numT n ≠ [] := by
  unfold numT
  rw [Go.Lib.decDigits]
  split <;> simp
theorem dig_inj {a b : Nat} (ha : a < 10) (hb : b < 10) (h : UInt8.ofNat (48 + a) = UInt8.ofNat (48 + b)) : a = b := by
  have := congrArg UInt8.toNat h
  simp only [UInt8.toNat_ofNat'] at this
  omega
theorem numT_inj : ∀ (a b : Nat), numT a = numT b → a = b := by
  intro a
  induction a using Nat.strongRecOn with
  | _ a ih =>
    intro b h
    have ha : numT a = if a < 10 then [UInt8.ofNat (48 + a)] else numT (a / 10) ++ [UInt8.ofNat (48 + a % 10)] := by unfold numT; rw [Go.Lib.decDigits]; split <;> rfl
    have hb : numT b = if b < 10 then [UInt8.ofNat (48 + b)] else numT (b / 10) ++ [UInt8.ofNat (48 + b % 10)] := by unfold numT; rw [Go.Lib.decDigits]; split <;> rfl
    rw [ha, hb] at h
    have hl : ∀ n, 0 < (numT n).length := fun n => List.length_pos_iff.2 (numT_ne n)
    by_cases h1 : a < 10
    · by_cases h2 : b < 10
      · rw [if_pos h1, if_pos h2] at h
        exact dig_inj h1 h2 (List.cons.inj h).1
      · rw [if_pos h1, if_neg h2] at h
        have h3 := congrArg List.length h
        rw [List.length_append] at h3
        simp only [List.length_cons, List.length_nil] at h3
        have := hl (b / 10)
        omega
    · by_cases h2 : b < 10
      · rw [if_neg h1, if_pos h2] at h
        have h3 := congrArg List.length h
        rw [List.length_append] at h3
        simp only [List.length_cons, List.length_nil] at h3
        have := hl (a / 10)
        omega
      · rw [if_neg h1, if_neg h2] at h
        obtain ⟨e1, e2⟩ := List.append_inj' h rfl
        have := ih (a / 10) (by omega) (b / 10) e1
        have := dig_inj (Nat.mod_lt _ (by omega)) (Nat.mod_lt _ (by omega)) (List.cons.inj e2).1
        omega
def opLet (l : UInt8) : Prop := l = 78 ∨ l = 80 ∨ l = 81
def ownLet (l : UInt8) : Prop := l = 77 ∨ l = 84
def Numd (k : Nat) (ps : List Made) : Prop := ∀ (t : Nat) (p : Made), ps[t]? = some p → ∃ l, opLet l ∧ p.name = l :: numT (k + t)
theorem Numd.nil (k : Nat) : Numd k [] := fun t p h => by simp at h
theorem Numd.app {k j : Nat} {a b : List Made} (h : Numd k a) (h2 : Numd j b) (hj : j = k + a.length) : Numd k (a ++ b) := by
  intro t p hp
  by_cases ht : t < a.length
  · rw [List.getElem?_append_left ht] at hp
    exact h t p hp
  · rw [List.getElem?_append_right (by omega)] at hp
    obtain ⟨l, h3, h4⟩ := h2 _ p hp
    exact ⟨l, h3, by rw [h4, hj]; congr 2; omega⟩
theorem Numd.one {k : Nat} {p : Made} {l : UInt8} (hl : opLet l) (hn : p.name = l :: numT k) : Numd k [p] := by
  intro t q hq
  cases t with
  | zero =>
    simp at hq
    subst hq
    exact ⟨l, hl, hn⟩
  | succ t => simp at hq
theorem twin_numd {sg kind : Int} {letter : UInt8} (hl : opLet letter) {k : Nat} : ∀ (ps : List Pin) {d : Dl}, Numd k d.parts → d.num = k + d.parts.length →
    Numd k (ps.foldl (twinD sg kind letter) d).parts ∧ (ps.foldl (twinD sg kind letter) d).num = k + (ps.foldl (twinD sg kind letter) d).parts.length
  | [], d, h, hn => ⟨h, hn⟩
  | p :: ps, d, h, hn => by
    rw [List.foldl_cons]
    refine twin_numd hl ps ?_ ?_
    · exact h.app (Numd.one (l := letter) hl rfl) hn
    · simp only [twinD, List.length_append, List.length_cons, List.length_nil]
      omega
mutual
theorem expr_numd (fl : Bool) (pf : Int → Pin) (sg : Int) : ∀ (x : Expr) (k : Nat), Numd k (exprD fl pf sg x k).parts ∧ (exprD fl pf sg x k).num = k + (exprD fl pf sg x k).parts.length
  | ⟨op, ix, args⟩, k => by
    have h := args_numd fl pf sg args k
    rw [exprD_eq]
    dsimp only
    split
    · exact ⟨.nil k, rfl⟩
    · split
      · exact ⟨.nil k, rfl⟩
      · generalize argsD fl pf sg args k = r at *
        obtain ⟨r1, r2, r3, r4⟩ := r
        obtain ⟨h1, h2⟩ := h
        dsimp only at h1 h2 ⊢
        split
        · unfold notsD
          cases args.head? with
          | none => exact ⟨h1, h2⟩
          | some y =>
            refine ⟨h1.app (Numd.one (l := 78) (.inl rfl) rfl) h2, ?_⟩
            simp only [notD, List.length_append, List.length_cons, List.length_nil]
            omega
        · unfold foldD
          dsimp only
          cases r4 with
          | nil => exact ⟨h1, h2⟩
          | cons p ps =>
            refine twin_numd ?_ ps h1 h2
            split
            · exact .inr (.inl rfl)
            · exact .inr (.inr rfl)
theorem args_numd (fl : Bool) (pf : Int → Pin) (sg : Int) : ∀ (xs : List Expr) (k : Nat), Numd k (argsD fl pf sg xs k).parts ∧ (argsD fl pf sg xs k).num = k + (argsD fl pf sg xs k).parts.length
  | [], k => ⟨.nil k, rfl⟩
  | x :: xs, k => by
    obtain ⟨a1, a2⟩ := expr_numd fl pf sg x k
    obtain ⟨b1, b2⟩ := args_numd fl pf sg xs (exprD fl pf sg x k).num
    rw [argsD]
    refine ⟨a1.app b1 a2, ?_⟩
    simp only [List.length_append]
    omega
end
def NameK (B : List (List UInt8)) (k n : Nat) (s : List UInt8) : Prop :=
  s ∈ B ∨ (∃ l i, ownLet l ∧ i < k ∧ s = l :: numT i) ∨ ∃ l j, opLet l ∧ j < n ∧ s = l :: numT j
def Base (B : List (List UInt8)) : Prop := ∀ s ∈ B, ∀ l r, s = l :: r → ¬ opLet l ∧ ¬ ownLet l
structure NmOK (B : List (List UInt8)) (m : Mk) (k : Nat) : Prop where
  nod : (m.parts.map Made.name).Nodup
  cls : ∀ s ∈ m.parts.map Made.name, NameK B k m.number s
theorem op_own {l : UInt8} (h1 : opLet l) (h2 : ownLet l) : False := by
  rcases h1 with rfl | rfl | rfl <;> rcases h2 with h | h <;> exact absurd h (by decide)
theorem app_names {B : List (List UInt8)} (hB : Base B) {m : Mk} {k : Nat} (h : NmOK B m k) {ps : List Made} {n : Nat} (hp : Numd m.number ps) (hn : n = m.number + ps.length) (js : List (Pin × Pin)) : NmOK B { m with parts := m.parts ++ ps, joins := js, number := n } k := by
  obtain ⟨h1, h2⟩ := h
  have hnew : ∀ s ∈ ps.map Made.name, ∃ l t, opLet l ∧ m.number ≤ t ∧ t < n ∧ s = l :: numT t := by
    intro s hs
    obtain ⟨p, hp1, rfl⟩ := List.mem_map.1 hs
    obtain ⟨t, ht, he⟩ := List.getElem_of_mem hp1
    obtain ⟨l, h3, h4⟩ := hp t p (by rw [List.getElem?_eq_getElem ht, he])
    exact ⟨l, m.number + t, h3, by omega, by omega, h4⟩
  constructor
  · dsimp only
    rw [List.map_append, List.nodup_append]
    refine ⟨h1, ?_, ?_⟩
    · rw [List.Nodup, List.pairwise_iff_getElem]
      intro i j hi hj hij e
      rw [List.length_map] at hi hj
      rw [List.getElem_map, List.getElem_map] at e
      obtain ⟨l, _, a1⟩ := hp i ps[i] (List.getElem?_eq_getElem hi)
      obtain ⟨l', _, a2⟩ := hp j ps[j] (List.getElem?_eq_getElem hj)
      rw [a1, a2] at e
      have := numT_inj _ _ (List.cons.inj e).2
      omega
    · intro a ha b hb e
      subst e
      obtain ⟨l, t, b1, b2, b3, rfl⟩ := hnew a hb
      rcases h2 _ ha with c1 | ⟨l', i, c1, c2, c3⟩ | ⟨l', j, c1, c2, c3⟩
      · exact (hB _ c1 l _ rfl).1 b1
      · rw [(List.cons.inj c3).1] at b1
        exact op_own b1 c1
      · have := numT_inj _ _ (List.cons.inj c3).2
        omega
  · intro s hs
    dsimp only at hs ⊢
    rw [List.map_append] at hs
    rcases List.mem_append.1 hs with hs | hs
    · rcases h2 s hs with c1 | c1 | ⟨l, j, c1, c2, c3⟩
      · exact .inl c1
      · exact .inr (.inl c1)
      · exact .inr (.inr ⟨l, j, c1, by omega, c3⟩)
    · obtain ⟨l, t, b1, b2, b3, b4⟩ := hnew s hs
      exact .inr (.inr ⟨l, t, b1, b3, b4⟩)
theorem expr_names {B : List (List UInt8)} (hB : Base B) {c : Control} {m : Mk} {k : Nat} (h : NmOK B m k) (x : Expr) : NmOK B (m.app (m.expr c x)) k := by
  obtain ⟨h1, h2⟩ := expr_numd false (portM c m.gates) m.signal x m.number
  exact app_names hB h h1 h2 _
theorem more_names {B : List (List UInt8)} {m : Mk} {k : Nat} (h : NmOK B m k) : NmOK B m (k + 1) := by
  refine ⟨h.nod, fun s hs => ?_⟩
  rcases h.cls s hs with c1 | ⟨l, i, c1, c2, c3⟩ | c1
  · exact .inl c1
  · exact .inr (.inl ⟨l, i, c1, by omega, c3⟩)
  · exact .inr (.inr c1)
theorem own_names {B : List (List UInt8)} (hB : Base B) {m : Mk} {k : Nat} (h : NmOK B m k) {p : Made} {l : UInt8} (hl : ownLet l) (hp : p.name = l :: numT k) (js : List (Pin × Pin)) : NmOK B { m with parts := m.parts ++ [p], joins := js } (k + 1) := by
  obtain ⟨h1, h2⟩ := h
  constructor
  · dsimp only
    rw [List.map_append, List.nodup_append]
    refine ⟨h1, by simp, ?_⟩
    intro a ha b hb e
    subst e
    simp only [List.map_cons, List.map_nil, List.mem_singleton] at hb
    rw [hp] at hb
    subst hb
    rcases h2 _ ha with c1 | ⟨l', i, c1, c2, c3⟩ | ⟨l', j, c1, c2, c3⟩
    · exact (hB _ c1 l _ rfl).2 hl
    · have := numT_inj _ _ (List.cons.inj c3).2
      omega
    · rw [(List.cons.inj c3).1] at hl
      exact op_own c1 hl
  · intro s hs
    dsimp only at hs ⊢
    rw [List.map_append] at hs
    rcases List.mem_append.1 hs with hs | hs
    · rcases h2 s hs with c1 | ⟨l', i, c1, c2, c3⟩ | c1
      · exact .inl c1
      · exact .inr (.inl ⟨l', i, c1, by omega, c3⟩)
      · exact .inr (.inr c1)
    · simp only [List.map_cons, List.map_nil, List.mem_singleton] at hs
      exact .inr (.inl ⟨l, k, hl, by omega, by rw [hs, hp]⟩)
theorem to_names {B : List (List UInt8)} (hB : Base B) {c : Control} {m : Mk} {k : Nat} (h : NmOK B m k) (x : Expr) (p : Pin) : NmOK B (m.to c x p) k := by
  have := expr_names hB (c := c) h x
  exact ⟨this.nod, this.cls⟩
theorem sigM_names {B : List (List UInt8)} (hB : Base B) {c : Control} {m : Mk} {k : Nat} (h : NmOK B m k) : NmOK B (sigM c m k) (k + 1) := by
  have hs : NmOK B (m.sig k) k := ⟨h.nod, h.cls⟩
  unfold sigM
  cases hx : c.signals[k]? with
  | none => exact more_names h
  | some x =>
    have hk : kindAt c k = x.kind := by simp [kindAt, hx]
    dsimp only
    split
    · rename_i h1
      refine to_names hB (to_names hB (own_names hB hs (l := 77) (.inl rfl) ?_ _) _ _) _ _
      simp [ownT, hk, h1]
    · split
      · rename_i h1
        refine to_names hB (own_names hB hs (l := 84) (.inr rfl) ?_ _) _ _
        simp [ownT, hk, h1]
      · exact more_names hs
theorem gateM_names {B : List (List UInt8)} (hB : Base B) {c : Control} {m : Mk} {k : Nat} (h : NmOK B m k) (i : Nat) : NmOK B (gateM c m i) k := by
  have hs : NmOK B (m.sig i) k := ⟨h.nod, h.cls⟩
  unfold gateM
  split
  · have := expr_names hB (c := c) hs (((c.signals[i]?).map (·.on)).getD ⟨0, 0, []⟩)
    exact ⟨this.nod, this.cls⟩
  · exact hs
theorem pilM_names {B : List (List UInt8)} {c : Control} {m : Mk} {k : Nat} (h : NmOK B m k) (i : Nat) : NmOK B (pilM c m i) k := ⟨h.nod, h.cls⟩
def actN (n : Nat) : List (List UInt8) := (List.range n).flatMap fun a => [letterT a, letterT a ++ [48], letterT a ++ [49], 86 :: letterT a]
theorem valve_names (m : Mk) (a : Int) : (m.valve a).parts.map Made.name = m.parts.map Made.name := by
  unfold Mk.valve
  dsimp only
  cases hp : m.parts[m.parts.length - 1]? with
  | none =>
    have h0 : m.parts = [] := by
      cases hl : m.parts with
      | nil => rfl
      | cons a l =>
        rw [List.getElem?_eq_none_iff, hl] at hp
        simp at hp
        omega
    rw [h0]
    rfl
  | some p =>
    obtain ⟨hlt, he⟩ := List.getElem?_eq_some_iff.1 hp
    rw [List.map_set]
    dsimp only
    rw [← he]
    apply List.ext_getElem?
    intro n
    rw [List.getElem?_set]
    split
    · rename_i e
      subst e
      simp [hlt]
    · rfl
theorem act_names (m : Mk) (a : Nat) : (actM m a).parts.map Made.name = m.parts.map Made.name ++ [letterT a, letterT a ++ [48], letterT a ++ [49], 86 :: letterT a] := by
  unfold actM
  simp only [Mk.feed, Mk.join, valve_names]
  simp [Mk.add]
theorem acts_names (m : Mk) : ∀ n, ((List.range n).foldl actM m).parts.map Made.name = m.parts.map Made.name ++ actN n
  | 0 => by simp [actN]
  | n + 1 => by
    rw [List.range_succ, List.foldl_append, List.foldl_cons, List.foldl_nil, act_names, acts_names m n, actN, actN, List.range_succ, List.flatMap_append]
    simp
theorem ins_names (c : Control) (m : Mk) : ∀ n, n ≤ c.inputs.length → ((List.range n).foldl (inM c) m).parts.map Made.name = m.parts.map Made.name ++ c.inputs.take n
  | 0, _ => by simp
  | n + 1, hn => by
    rw [List.range_succ, List.foldl_append, List.foldl_cons, List.foldl_nil, List.take_add_one, ← List.append_assoc, ← ins_names c m n (by omega)]
    simp [inM, Mk.add, Mk.feed, Mk.join, List.getD_eq_getElem?_getD, List.getElem?_eq_getElem (show n < c.inputs.length by omega)]
theorem machine_names (c : Control) : (machineM c).parts.map Made.name = [83] :: (actN c.actuators.toNat ++ c.inputs) := by
  unfold machineM
  rw [ins_names c _ _ (Nat.le_refl _), acts_names, List.take_length]
  simp [Mk.add]
def headB (s : List UInt8) : Bool := match s with
  | [] => false
  | b :: _ => decide (b.toNat ≤ 70) || decide (b.toNat = 83) || decide (b.toNat = 86)
theorem acts_ok : ∀ n, n ≤ 6 → ([83] :: actN n).Nodup ∧ ([83] :: actN n).all headB = true := by
  intro n hn
  have : n = 0 ∨ n = 1 ∨ n = 2 ∨ n = 3 ∨ n = 4 ∨ n = 5 ∨ n = 6 := by omega
  rcases this with rfl | rfl | rfl | rfl | rfl | rfl | rfl <;> decide
theorem word_head {s : List UInt8} (h : wordS s ≠ false) : ∃ b r, s = b :: r ∧ 97 ≤ b.toNat ∧ b.toNat ≤ 122 := by
  cases s with
  | nil => exact absurd rfl h
  | cons b r =>
    have : wordS (b :: r) = true := by simpa using h
    simp only [wordS, Bool.and_eq_true, decide_eq_true_eq] at this
    exact ⟨b, r, rfl, this.1.1, this.1.2⟩
theorem ins_word {c : Control} (h : checkC c = 0) : ∀ s ∈ c.inputs, wordS s ≠ false := by
  obtain ⟨h1, h2, h3, h4, h5⟩ := chk_parts h
  intro s hs
  obtain ⟨i, hi, rfl⟩ := List.getElem_of_mem hs
  have := h3 i hi
  unfold inpE at this
  rw [named_inp (s := c.inputs[i]) (by omega) (by unfold firstC; omega) (by rw [show ((2 * c.actuators.toNat + i : Nat) - 2 * c.actuators : Int).toNat = i by omega, List.getElem?_eq_getElem hi])] at this
  exact (name_parts this).1
theorem ins_nodup {c : Control} (h : checkC c = 0) : c.inputs.Nodup := by
  obtain ⟨h1, h2, h3, h4, h5⟩ := chk_parts h
  rw [List.Nodup, List.pairwise_iff_getElem]
  intro i j hi hj hij e
  have hn : ∀ k (hk : k < c.inputs.length), namedC c (2 * c.actuators.toNat + k : Nat) = c.inputs[k] := fun k hk =>
    named_inp (by omega) (by unfold firstC; omega) (by rw [show ((2 * c.actuators.toNat + k : Nat) - 2 * c.actuators : Int).toNat = k by omega, List.getElem?_eq_getElem hk])
  have := fine_names h (2 * c.actuators.toNat + j) (by unfold countC; omega)
  rw [hn j hj, ← e, ← hn i hi] at this
  refine this ?_
  unfold namesB
  exact List.mem_map.2 ⟨_, List.mem_range.2 (by omega), rfl⟩
theorem machine_ok {c : Control} (h : checkC c = 0) : Base ((machineM c).parts.map Made.name) ∧ NmOK ((machineM c).parts.map Made.name) (machineM c) 0 := by
  obtain ⟨h1, h2, h3, h4, h5⟩ := chk_parts h
  obtain ⟨a1, a2⟩ := acts_ok c.actuators.toNat (by omega)
  have hw := ins_word h
  have hb : ∀ s ∈ [83] :: actN c.actuators.toNat, headB s = true := fun s hs => List.all_eq_true.1 a2 s hs
  have hm : (machineM c).parts.map Made.name = ([83] :: actN c.actuators.toNat) ++ c.inputs := machine_names c
  refine ⟨?_, ?_, fun s hs => .inl hs⟩
  · intro s hs l r e
    rw [hm] at hs
    subst e
    have hl : l.toNat ≤ 70 ∨ l.toNat = 83 ∨ l.toNat = 86 ∨ 97 ≤ l.toNat := by
      rcases List.mem_append.1 hs with hs | hs
      · have := hb _ hs
        simp only [headB, Bool.or_eq_true, decide_eq_true_eq] at this
        omega
      · obtain ⟨b, r', e, e1, e2⟩ := word_head (hw _ hs)
        rw [(List.cons.inj e).1]
        omega
    constructor
    · rintro (rfl | rfl | rfl) <;> exact absurd hl (by decide)
    · rintro (rfl | rfl) <;> exact absurd hl (by decide)
  · rw [hm, List.nodup_append]
    refine ⟨a1, ins_nodup h, ?_⟩
    intro a ha b hb2 e
    subst e
    obtain ⟨b, r, rfl, e1, e2⟩ := word_head (hw _ hb2)
    have := hb _ ha
    simp only [headB, Bool.or_eq_true, decide_eq_true_eq] at this
    omega
theorem whole_names {c : Control} (h : checkC c = 0) : ((wholeM c).parts.map Made.name).Nodup := by
  obtain ⟨hB, h0⟩ := machine_ok h
  have h1 : ∀ n, NmOK ((machineM c).parts.map Made.name) ((List.range n).foldl (gateM c) (machineM c)) 0 := by
    intro n
    induction n with
    | zero => exact h0
    | succ n ih =>
      rw [List.range_succ, List.foldl_append]
      exact gateM_names hB ih n
  have h2 : ∀ n, NmOK ((machineM c).parts.map Made.name) ((List.range n).foldl (sigM c) ((List.range c.signals.length).foldl (gateM c) (machineM c))) n := by
    intro n
    induction n with
    | zero => exact h1 _
    | succ n ih =>
      rw [List.range_succ, List.foldl_append]
      exact sigM_names hB ih
  have h3 : ∀ n, NmOK ((machineM c).parts.map Made.name) ((List.range n).foldl (pilM c) ((List.range c.signals.length).foldl (sigM c) ((List.range c.signals.length).foldl (gateM c) (machineM c)))) c.signals.length := by
    intro n
    induction n with
    | zero => exact h2 _
    | succ n ih =>
      rw [List.range_succ, List.foldl_append]
      exact pilM_names ih n
  exact (h3 _).nod
end Go.Proofs.YtdnkpogfcpjkpaaGreatDoor
end

section
namespace Go.Proofs.YtdnkpogfcpjkpaaGreatDoor
set_option maxHeartbeats 1000000
abbrev ltB (a b : List UInt8) : Bool := Go.Op.bytesLess a b
theorem ltB_irrefl : ∀ a, ltB a a = false
  | [] => rfl
  | a :: x => by simp [ltB, Go.Op.bytesLess, UInt8.lt_irrefl, ltB_irrefl x]
theorem ltB_trans : ∀ {a b c}, ltB a b = true → ltB b c = true → ltB a c = true
  | _, _, [], _, h => by simp [ltB, Go.Op.bytesLess] at h
  | [], _, _ :: _, _, _ => rfl
  | _ :: _, [], _ :: _, h, _ => by simp [ltB, Go.Op.bytesLess] at h
  | a :: x, b :: y, c :: z, h1, h2 => by
    simp only [ltB, Go.Op.bytesLess, Bool.or_eq_true, decide_eq_true_eq, Bool.and_eq_true, beq_iff_eq] at h1 h2 ⊢
    rcases h1 with h1 | ⟨rfl, h1⟩
    · rcases h2 with h2 | ⟨rfl, h2⟩
      · exact .inl (UInt8.lt_trans h1 h2)
      · exact .inl h1
    · rcases h2 with h2 | ⟨rfl, h2⟩
      · exact .inl h2
      · exact .inr ⟨rfl, ltB_trans h1 h2⟩
theorem ltB_total : ∀ {a b}, ltB a b = false → ltB b a = false → a = b
  | [], [], _, _ => rfl
  | [], _ :: _, h, _ => by simp [ltB, Go.Op.bytesLess] at h
  | _ :: _, [], _, h => by simp [ltB, Go.Op.bytesLess] at h
  | a :: x, b :: y, h1, h2 => by
    simp only [ltB, Go.Op.bytesLess, Bool.or_eq_false_iff, decide_eq_false_iff_not, Bool.and_eq_false_iff, beq_eq_false_iff_ne] at h1 h2
    have e : a = b := UInt8.le_antisymm (UInt8.not_lt.1 h2.1) (UInt8.not_lt.1 h1.1)
    subst e
    rw [ltB_total (a := x) (b := y) (h1.2.resolve_left fun h => h rfl) (h2.2.resolve_left fun h => h rfl)]
theorem ltB_asymm {a b : List UInt8} (h : ltB a b = true) : ltB b a = false := by
  cases h2 : ltB b a with
  | false => rfl
  | true => have := ltB_trans h h2; rw [ltB_irrefl] at this; cases this
theorem cmpT_eq : ∀ a b : List UInt8, Go.Lib.compareBytes a b = if ltB a b = true then -1 else if ltB b a = true then 1 else 0
  | [], [] => rfl
  | [], _ :: _ => rfl
  | _ :: _, [] => rfl
  | a :: x, b :: y => by
    rw [Go.Lib.compareBytes, cmpT_eq x y]
    by_cases h1 : a < b
    · have : ltB (a :: x) (b :: y) = true := by simp [ltB, Go.Op.bytesLess, h1]
      rw [if_pos h1, if_pos this]
    · by_cases h2 : b < a
      · have e1 : ltB (a :: x) (b :: y) = false := by
          simp only [ltB, Go.Op.bytesLess, Bool.or_eq_false_iff, decide_eq_false_iff_not, Bool.and_eq_false_iff, beq_eq_false_iff_ne]
          exact ⟨h1, .inl fun e => by subst e; exact h1 h2⟩
        have e2 : ltB (b :: y) (a :: x) = true := by simp [ltB, Go.Op.bytesLess, h2]
        rw [if_neg h1, if_pos h2, if_neg (by simp [e1]), if_pos e2]
      · have e : a = b := UInt8.le_antisymm (UInt8.not_lt.1 h2) (UInt8.not_lt.1 h1)
        subst e
        have e1 : ltB (a :: x) (a :: y) = ltB x y := by simp [ltB, Go.Op.bytesLess, UInt8.lt_irrefl]
        have e2 : ltB (a :: y) (a :: x) = ltB y x := by simp [ltB, Go.Op.bytesLess, UInt8.lt_irrefl]
        rw [if_neg h1, if_neg h2, e1, e2]
theorem cmpT_lt (a b : List UInt8) : Go.Lib.compareBytes a b < 0 ↔ ltB a b = true := by
  rw [cmpT_eq]
  split
  · rename_i h; simp [h]
  · rename_i h
    split
    · simp [h]
    · simp [h]
theorem cmpT_zero (a b : List UInt8) : Go.Lib.compareBytes a b = 0 ↔ a = b := by
  rw [cmpT_eq]
  split
  · rename_i h
    constructor
    · intro e; omega
    · rintro rfl; rw [ltB_irrefl] at h; cases h
  · rename_i h
    split
    · rename_i h2
      constructor
      · intro e; omega
      · rintro rfl; rw [ltB_irrefl] at h2; cases h2
    · rename_i h2
      simp only [true_iff]
      exact ltB_total (by simpa using h) (by simpa using h2)
section sort
variable {α : Type}
def insB (lt : α → α → Bool) (g : α) (l : List α) : List α := l.takeWhile (fun x => lt x g) ++ g :: l.dropWhile (fun x => lt x g)
def sortB (lt : α → α → Bool) (l : List α) : List α := l.foldl (fun out g => insB lt g out) []
theorem insB_perm (lt : α → α → Bool) (g : α) (l : List α) : (insB lt g l).Perm (l ++ [g]) := by
  have h : l.takeWhile (fun x => lt x g) ++ l.dropWhile (fun x => lt x g) = l := List.takeWhile_append_dropWhile
  unfold insB
  refine List.perm_middle.trans ?_
  rw [h]
  exact (List.perm_append_singleton g l).symm
theorem sortB_gen (lt : α → α → Bool) : ∀ (l out : List α), (l.foldl (fun out g => insB lt g out) out).Perm (out ++ l)
  | [], out => by simp
  | g :: l, out => by
    rw [List.foldl_cons]
    refine (sortB_gen lt l _).trans ?_
    refine ((insB_perm lt g out).append_right l).trans ?_
    simp
theorem sortB_perm (lt : α → α → Bool) (l : List α) : (sortB lt l).Perm l := by simpa [sortB] using sortB_gen lt l []
structure OrdB (lt : α → α → Bool) : Prop where
  asymm : ∀ a b, lt a b = true → lt b a = false
  ntrans : ∀ a b c, lt b a = false → lt c b = false → lt c a = false
theorem insB_sorted {lt : α → α → Bool} (ho : OrdB lt) (g : α) : ∀ {l : List α}, l.Pairwise (fun a b => lt b a = false) → (insB lt g l).Pairwise (fun a b => lt b a = false)
  | [], _ => by simp [insB]
  | a :: l, h => by
    obtain ⟨h1, h2⟩ := List.pairwise_cons.1 h
    cases hc : lt a g with
    | true =>
      have e : insB lt g (a :: l) = a :: insB lt g l := by simp [insB, hc]
      rw [e, List.pairwise_cons]
      refine ⟨fun b hb => ?_, insB_sorted ho g h2⟩
      rcases List.mem_append.1 ((insB_perm lt g l).mem_iff.1 hb) with hb | hb
      · exact h1 b hb
      · rw [List.mem_singleton.1 hb]
        exact ho.asymm _ _ hc
    | false =>
      have e : insB lt g (a :: l) = g :: a :: l := by simp [insB, hc]
      rw [e, List.pairwise_cons]
      refine ⟨fun b hb => ?_, h⟩
      rcases List.mem_cons.1 hb with rfl | hb
      · exact hc
      · exact ho.ntrans _ _ _ hc (h1 b hb)
theorem sortB_sorted {lt : α → α → Bool} (ho : OrdB lt) (l : List α) : (sortB lt l).Pairwise (fun a b => lt b a = false) := by
  have : ∀ (l out : List α), out.Pairwise (fun a b => lt b a = false) → (l.foldl (fun out g => insB lt g out) out).Pairwise (fun a b => lt b a = false) := by
    intro l
    induction l with
    | nil => intro out h; exact h
    | cons g l ih => intro out h; exact ih _ (insB_sorted ho g h)
  exact this l [] .nil
theorem sorted_same {R : α → α → Prop} : ∀ {l m : List α}, (∀ a b, a ∈ l → b ∈ l → R a b → R b a → a = b) → l.Pairwise R → m.Pairwise R → l.Perm m → l = m
  | [], m, _, _, _, hp => by simpa using hp.symm
  | a :: l, [], _, _, _, hp => by simp at hp
  | a :: l, b :: m, hx, hl, hm, hp => by
    obtain ⟨l1, l2⟩ := List.pairwise_cons.1 hl
    obtain ⟨m1, m2⟩ := List.pairwise_cons.1 hm
    have e : a = b := by
      have ha : a ∈ b :: m := hp.mem_iff.1 (by simp)
      have hb : b ∈ a :: l := hp.mem_iff.2 (by simp)
      rcases List.mem_cons.1 ha with e | ha
      · exact e
      · rcases List.mem_cons.1 hb with e | hb
        · exact e.symm
        · exact hx a b (by simp) (by simp [hb]) (l1 b hb) (m1 a ha)
    subst e
    rw [sorted_same (fun x y hx1 hy1 => hx x y (by simp [hx1]) (by simp [hy1])) l2 m2 ((List.perm_cons a).1 hp)]
end sort
theorem ltB_ord {α : Type} (f : α → List UInt8) : OrdB fun a b : α => ltB (f a) (f b) := by
  refine ⟨fun a b h => ltB_asymm h, fun a b c h1 h2 => ?_⟩
  cases h : ltB (f c) (f a) with
  | false => rfl
  | true =>
    exfalso
    cases h3 : ltB (f b) (f c) with
    | true => rw [ltB_trans h3 h] at h1; cases h1
    | false =>
      rw [ltB_total h3 h2] at h1
      rw [h] at h1
      cases h1
def byName (a b : Made) : Bool := ltB a.name b.name
def partsL (l : List Made) : List Made := sortB byName l
theorem parts_same {l m : List Made} (hn : (l.map Made.name).Nodup) (hp : l.Perm m) {l' : List Made} (hp' : l'.Perm l) (hs : l'.Pairwise fun a b => byName b a = false) : l' = partsL m := by
  refine sorted_same (fun a b ha hb h1 h2 => ?_) hs (sortB_sorted (ltB_ord Made.name) m) (hp'.trans (hp.trans (sortB_perm _ m).symm))
  have e := ltB_total h2 h1
  obtain ⟨i, hi, rfl⟩ := List.getElem_of_mem (hp'.mem_iff.1 ha)
  obtain ⟨j, hj, rfl⟩ := List.getElem_of_mem (hp'.mem_iff.1 hb)
  have hij : i = j := by
    rw [List.Nodup, List.pairwise_iff_getElem] at hn
    rcases Nat.lt_trichotomy i j with h | h | h
    · exact absurd (by rw [List.getElem_map, List.getElem_map]; exact e) (hn i j (by simpa using hi) (by simpa using hj) h)
    · exact h
    · exact absurd (by rw [List.getElem_map, List.getElem_map]; exact e.symm) (hn j i (by simpa using hj) (by simpa using hi) h)
  subst hij
  rfl
end Go.Proofs.YtdnkpogfcpjkpaaGreatDoor
end

section
namespace Go.Proofs.YtdnkpogfcpjkpaaGreatDoor
set_option maxHeartbeats 4000000
def posL (ps : List Made) (t : List UInt8) : Nat := (ps.takeWhile fun p => ltB p.name t).length
theorem posL_le (ps : List Made) (t : List UInt8) : posL ps t ≤ ps.length := (List.takeWhile_prefix _).length_le
theorem pos_iff {t : List UInt8} : ∀ {ps : List Made}, ps.Pairwise (fun a b => byName b a = false) → ∀ {i : Nat} (hi : i < ps.length), ltB ps[i].name t = true ↔ i < posL ps t
  | [], _, i, hi => absurd hi (by simp)
  | p :: ps, h, i, hi => by
    rw [List.pairwise_cons] at h
    cases e : ltB p.name t with
    | true =>
      have e2 : posL (p :: ps) t = posL ps t + 1 := by simp [posL, e]
      cases i with
      | zero => simp [e, e2]
      | succ i =>
        have := pos_iff (t := t) h.2 (i := i) (by simpa using hi)
        simp only [List.getElem_cons_succ, e2]
        rw [this]
        omega
    | false =>
      have e2 : posL (p :: ps) t = 0 := by simp [posL, e]
      rw [e2]
      cases i with
      | zero => simp [e]
      | succ i =>
        have hi' : i < ps.length := by simpa using hi
        simp only [List.getElem_cons_succ, Nat.not_lt_zero, iff_false]
        intro h2
        have h3 := h.1 ps[i] (List.getElem_mem _)
        unfold byName at h3
        cases h4 : ltB p.name ps[i].name with
        | true => rw [ltB_trans h4 h2] at e; cases e
        | false =>
          rw [ltB_total h4 h3, h2] at e
          cases e
def seekL (ps : List Made) (t : List UInt8) : Option Nat := ps.findIdx? fun p => p.name == t
theorem seek_pos {ps : List Made} {t : List UInt8} (hs : ps.Pairwise (fun a b => byName b a = false)) (hn : (ps.map Made.name).Nodup) (h : t ∈ ps.map Made.name) : seekL ps t = some (posL ps t) := by
  obtain ⟨i, hi, e⟩ := List.getElem_of_mem h
  rw [List.length_map] at hi
  rw [List.getElem_map] at e
  have h1 : ¬ i < posL ps t := fun hl => by
    have := (pos_iff (t := t) hs hi).2 hl
    rw [e, ltB_irrefl] at this
    cases this
  have hlt : posL ps t < ps.length := by omega
  have h2 := mt (pos_iff (t := t) hs hlt).1 (Nat.lt_irrefl _)
  rw [Bool.not_eq_true] at h2
  have hpi : posL ps t = i := by
    rcases Nat.lt_or_ge (posL ps t) i with hl | hl
    · have h3 := List.pairwise_iff_getElem.1 hs _ _ hlt hi hl
      unfold byName at h3
      rw [e] at h3
      have h4 := ltB_total h2 h3
      rw [List.Nodup, List.pairwise_iff_getElem] at hn
      exact absurd (by rw [List.getElem_map, List.getElem_map, h4, e]) (hn _ _ (by simpa using hlt) (by simpa using hi) hl)
    · omega
  unfold seekL
  rw [List.findIdx?_eq_some_iff_getElem]
  refine ⟨hlt, ?_, fun j hj => ?_⟩
  · subst hpi
    simp [e]
  · have h5 := (pos_iff (t := t) hs (by omega : j < ps.length)).2 hj
    simp only [beq_iff_eq]
    intro h6
    rw [h6, ltB_irrefl] at h5
    cases h5
def KnownP (F : List (List UInt8)) (p : Pin) : Prop := p = noPin ∨ p.part ∈ F
def JoinsIn (F : List (List UInt8)) (js : List (Pin × Pin)) : Prop := ∀ q ∈ js, q.1.part ∈ F ∧ q.2.part ∈ F
theorem JoinsIn.nil (F : List (List UInt8)) : JoinsIn F [] := fun _ h => nomatch h
theorem JoinsIn.app {F : List (List UInt8)} {a b : List (Pin × Pin)} (h : JoinsIn F a) (h2 : JoinsIn F b) : JoinsIn F (a ++ b) := fun q hq => (List.mem_append.1 hq).elim (h q) (h2 q)
def PartsIn (F : List (List UInt8)) (ps : List Made) : Prop := ∀ p ∈ ps, p.name ∈ F
theorem twin_mono {sg kind : Int} {letter : UInt8} : ∀ (ps : List Pin) (d : Dl), ∃ l, (ps.foldl (twinD sg kind letter) d).parts = d.parts ++ l
  | [], d => ⟨[], by simp⟩
  | p :: ps, d => by
    obtain ⟨l, h⟩ := twin_mono ps (twinD sg kind letter d p)
    rw [List.foldl_cons, h]
    simp only [twinD, List.append_assoc]
    exact ⟨_, rfl⟩
end Go.Proofs.YtdnkpogfcpjkpaaGreatDoor
end

section
namespace Go.Proofs.YtdnkpogfcpjkpaaGreatDoor
set_option maxHeartbeats 4000000
structure FullF (F : List (List UInt8)) (c : Control) : Prop where
  sup : [83] ∈ F
  act : ∀ a : Nat, (a : Int) < c.actuators → letterT a ∈ F ∧ letterT a ++ [48] ∈ F ∧ letterT a ++ [49] ∈ F ∧ 86 :: letterT a ∈ F
  inp : ∀ i : Nat, i < c.inputs.length → c.inputs.getD i [] ∈ F
  own : ∀ i : Nat, i < c.signals.length → kindAt c i = 1 ∨ kindAt c i = 2 → ownT c i ∈ F
structure InF (F : List (List UInt8)) (m : Mk) : Prop where
  joins : JoinsIn F m.joins
  gates : ∀ q ∈ m.gates, KnownP F q.2
section steps
variable {F : List (List UInt8)} {c : Control} (hF : FullF F c) (h0 : 0 ≤ c.actuators)
include hF h0
omit h0
end steps
theorem fold_mono {f : Mk → Nat → Mk} (hm : ∀ m i, ∃ l, (f m i).parts = m.parts ++ l) (m : Mk) : ∀ k : Nat, ∃ l, ((List.range k).foldl f m).parts = m.parts ++ l
  | 0 => ⟨[], by simp⟩
  | k + 1 => by
    rw [List.range_succ, List.foldl_append]
    obtain ⟨l, h⟩ := fold_mono hm m k
    obtain ⟨l2, h2⟩ := hm ((List.range k).foldl f m) k
    exact ⟨l ++ l2, by rw [← List.append_assoc, ← h]; exact h2⟩
theorem PartsIn.left {F : List (List UInt8)} {a b : List Made} (h : PartsIn F (a ++ b)) : PartsIn F a := fun q hq => h q (by simp [hq])
theorem gateM_mono (c : Control) (m : Mk) (i : Nat) : ∃ l, (gateM c m i).parts = m.parts ++ l := by
  unfold gateM
  split
  · exact ⟨_, rfl⟩
  · exact ⟨[], by simp [Mk.sig]⟩
theorem mono_trans {a b d : List Made} (h1 : ∃ l, b = a ++ l) (h2 : ∃ l, d = b ++ l) : ∃ l, d = a ++ l := by
  obtain ⟨l1, rfl⟩ := h1
  obtain ⟨l2, rfl⟩ := h2
  exact ⟨l1 ++ l2, by rw [List.append_assoc]⟩
theorem to_mono (c : Control) (m : Mk) (x : Expr) (p : Pin) : ∃ l, (m.to c x p).parts = m.parts ++ l := ⟨_, rfl⟩
theorem addf_mono (m : Mk) (i : Nat) (k d l : Int) (n : List UInt8) : ∃ z, (((m.sig i).add k n d l).feed n).parts = m.parts ++ z := ⟨_, rfl⟩
theorem sigM_mono (c : Control) (m : Mk) (i : Nat) : ∃ l, (sigM c m i).parts = m.parts ++ l := by
  unfold sigM
  cases c.signals[i]? with
  | none => exact ⟨[], by simp⟩
  | some x =>
    dsimp only
    split
    · exact mono_trans (addf_mono m i _ _ _ _) (mono_trans (to_mono c _ x.on _) (to_mono c _ x.off _))
    · split
      · exact mono_trans (addf_mono m i _ _ _ _) (to_mono c _ x.on _)
      · exact ⟨[], by simp [Mk.sig]⟩
theorem pilM_mono (c : Control) (m : Mk) (a : Nat) : ∃ l, (pilM c m a).parts = m.parts ++ l := ⟨[], by simp [pilM, Mk.join]⟩
end Go.Proofs.YtdnkpogfcpjkpaaGreatDoor
end

section
namespace Go.Proofs.YtdnkpogfcpjkpaaGreatDoor
set_option maxHeartbeats 4000000
abbrev KN := Int × List UInt8
abbrev knOf (p : Made) : KN := (p.kind, p.name)
def outsK (k : Int) : List (List UInt8) := if k = 0 then [[49]] else if k = 2 then [[50], [52]] else if k = 1 then [] else [[50]]
def insK (k : Int) : List (List UInt8) := if k = 1 then [[50], [52]] else if k = 2 then [[49], [49, 52], [49, 50]] else if k = 5 then [[49], [49, 48]] else if k = 6 then [[49]] else if k = 7 then [[49]] else if k = 8 then [[49], [49, 49]] else if k = 9 then [[49], [49, 49]] else if k = 12 then [[49], [49, 50]] else []
def OutP (F : List KN) (p : Pin) : Prop := ∃ k, (k, p.part) ∈ F ∧ p.port ∈ outsK k
def InP (F : List KN) (p : Pin) : Prop := ∃ k, (k, p.part) ∈ F ∧ p.port ∈ insK k
def KnownQ (F : List KN) (p : Pin) : Prop := p = noPin ∨ OutP F p
def JoinsT (F : List KN) (js : List (Pin × Pin)) : Prop := ∀ q ∈ js, OutP F q.1 ∧ InP F q.2
theorem JoinsT.nil (F : List KN) : JoinsT F [] := fun _ h => nomatch h
theorem JoinsT.app {F : List KN} {a b : List (Pin × Pin)} (h : JoinsT F a) (h2 : JoinsT F b) : JoinsT F (a ++ b) := fun q hq => (List.mem_append.1 hq).elim (h q) (h2 q)
theorem joinT {F : List KN} {a b : Pin} (ha : KnownQ F a) (hb : InP F b) : JoinsT F (joinD a b) := by
  unfold joinD
  split
  · exact .nil F
  · rename_i h
    rw [not_or] at h
    intro q hq
    rw [List.mem_singleton.1 hq]
    exact ⟨ha.resolve_left h.1, hb⟩
theorem supT {F : List KN} (hS : (0, [83]) ∈ F) : KnownQ F supPin := .inr ⟨0, hS, by simp [outsK, insK, twinD, notD]⟩
theorem airT {F : List KN} {p : Pin} (hS : (0, [83]) ∈ F) (hp : InP F p) : JoinsT F (airD false p) := by
  unfold airD
  rw [if_neg (by decide)]
  exact joinT (supT hS) hp
def PartsT (F : List KN) (ps : List Made) : Prop := ∀ p ∈ ps, knOf p ∈ F
theorem twin_t {F : List KN} {sg kind : Int} (hk : kind = 8 ∨ kind = 9) {letter : UInt8} : ∀ (ps : List Pin) {d : Dl}, (∀ p ∈ ps, KnownQ F p) → JoinsT F d.joins → KnownQ F d.pin → PartsT F (ps.foldl (twinD sg kind letter) d).parts →
    JoinsT F (ps.foldl (twinD sg kind letter) d).joins ∧ KnownQ F (ps.foldl (twinD sg kind letter) d).pin
  | [], d, _, h1, h2, _ => ⟨h1, h2⟩
  | p :: ps, d, hp, h1, h2, h3 => by
    rw [List.foldl_cons] at h3 ⊢
    obtain ⟨l, e⟩ := twin_mono (sg := sg) (kind := kind) (letter := letter) ps (twinD sg kind letter d p)
    have hn : (kind, letter :: numT d.num) ∈ F := h3 ⟨kind, letter :: numT d.num, 0, sg, none, -1, -1⟩ (by rw [e]; simp [twinD])
    have hi : ∀ s, s ∈ ([[49], [49, 49]] : List (List UInt8)) → InP F ⟨letter :: numT d.num, s⟩ := fun s hs => ⟨kind, hn, by rcases hk with rfl | rfl <;> exact hs⟩
    refine twin_t hk ps (fun q hq => hp q (by simp [hq])) ?_ (.inr ⟨kind, hn, by rcases hk with rfl | rfl <;> simp [outsK, twinD]⟩) h3
    exact (h1.app (joinT h2 (hi _ (by simp)))).app (joinT (hp p (by simp)) (hi _ (by simp)))
mutual
theorem expr_t {F : List KN} (hS : (0, [83]) ∈ F) (pf : Int → Pin) (sg : Int) : ∀ (x : Expr) (k : Nat), (∀ v ∈ varsE x, KnownQ F (pf v)) → PartsT F (exprD false pf sg x k).parts → JoinsT F (exprD false pf sg x k).joins ∧ KnownQ F (exprD false pf sg x k).pin
  | ⟨op, ix, args⟩, k => by
    have h := args_t hS pf sg args k
    intro hv
    rw [varsE] at hv
    rw [exprD_eq]
    dsimp only
    have hva : ∀ v ∈ varsL args, KnownQ F (pf v) := fun v hm => hv v (List.mem_append.2 (.inr hm))
    by_cases h0 : op = 0
    · rw [if_pos h0]
      intro _
      refine ⟨.nil F, ?_⟩
      dsimp only
      split
      · exact supT hS
      · exact .inl rfl
    · rw [if_neg h0]
      by_cases h1 : op = 1
      · rw [if_pos h1]
        exact fun _ => ⟨.nil F, hv ix (by rw [if_pos h1]; simp)⟩
      · rw [if_neg h1]
        have h2 := h hva
        generalize argsD false pf sg args k = r at *
        obtain ⟨r1, r2, r3, r4⟩ := r
        dsimp only at h2 ⊢
        by_cases hop : op = 2
        · rw [if_pos hop]
          unfold notsD
          cases args.head? with
          | none => exact fun hp => ⟨(h2 hp).1, .inl rfl⟩
          | some y =>
            intro hp
            have hn : ((5 : Int), 78 :: numT r3) ∈ F := hp ⟨5, 78 :: numT r3, 0, sg, some y, -1, -1⟩ (by simp [notD])
            obtain ⟨a1, a2⟩ := h2 fun q hq => hp q (by simp [notD, hq])
            refine ⟨(a1.app (airT hS ⟨5, hn, by simp [outsK, insK, twinD, notD]⟩)).app (joinT ?_ ⟨5, hn, by simp [outsK, insK, twinD, notD]⟩), .inr ⟨5, hn, by simp [outsK, insK, twinD, notD]⟩⟩
            cases r4 with
            | nil => exact .inl rfl
            | cons p ps => exact a2 p (by simp)
        · rw [if_neg hop]
          unfold foldD
          dsimp only
          cases r4 with
          | nil => exact fun hp => ⟨(h2 hp).1, .inl rfl⟩
          | cons p ps =>
            intro hp
            obtain ⟨l, e⟩ := twin_mono (sg := sg) (kind := if op = 3 then 9 else 8) (letter := if op = 3 then 80 else 81) ps ⟨r1, r2, r3, p⟩
            dsimp only at hp e
            obtain ⟨a1, a2⟩ := h2 fun q hq => hp q (by rw [e]; simp [hq])
            exact twin_t (by split <;> simp) ps (fun q hq => a2 q (by simp [hq])) a1 (a2 p (by simp)) hp
theorem args_t {F : List KN} (hS : (0, [83]) ∈ F) (pf : Int → Pin) (sg : Int) : ∀ (xs : List Expr) (k : Nat), (∀ v ∈ varsL xs, KnownQ F (pf v)) → PartsT F (argsD false pf sg xs k).parts → JoinsT F (argsD false pf sg xs k).joins ∧ ∀ p ∈ (argsD false pf sg xs k).pins, KnownQ F p
  | [], k => fun _ _ => ⟨.nil F, fun _ h => nomatch h⟩
  | x :: xs, k => by
    intro hv hp
    rw [varsL] at hv
    rw [argsD] at hp ⊢
    dsimp only at hp ⊢
    obtain ⟨a1, a2⟩ := expr_t hS pf sg x k (fun v h => hv v (by simp [h])) fun q hq => hp q (by simp [hq])
    obtain ⟨b1, b2⟩ := args_t hS pf sg xs (exprD false pf sg x k).num (fun v h => hv v (by simp [h])) fun q hq => hp q (by simp [hq])
    refine ⟨a1.app b1, fun p h => ?_⟩
    rcases List.mem_cons.1 h with rfl | h
    · exact a2
    · exact b2 p h
end
structure FullT (F : List KN) (c : Control) : Prop where
  sup : (0, [83]) ∈ F
  act : ∀ a : Nat, (a : Int) < c.actuators → (1, letterT a) ∈ F ∧ (6, letterT a ++ [48]) ∈ F ∧ (6, letterT a ++ [49]) ∈ F ∧ (2, 86 :: letterT a) ∈ F
  inp : ∀ i : Nat, i < c.inputs.length → (7, c.inputs.getD i []) ∈ F
  mem : ∀ i : Nat, i < c.signals.length → kindAt c i = 1 → (2, ownT c i) ∈ F
  tim : ∀ i : Nat, i < c.signals.length → kindAt c i = 2 → (12, ownT c i) ∈ F
structure InT (F : List KN) (m : Mk) : Prop where
  joins : JoinsT F m.joins
  gates : ∀ q ∈ m.gates, KnownQ F q.2
theorem get_t {F : List KN} (k : Int) : ∀ {g : List (Int × Pin)}, (∀ q ∈ g, KnownQ F q.2) → KnownQ F ((getG g k).getD noPin)
  | [], _ => .inl rfl
  | q :: g, h => by
    rw [getG]
    split
    · exact h q (by simp)
    · exact get_t k fun p hp => h p (by simp [hp])
theorem put_t {F : List KN} {k : Int} {p : Pin} (hp : KnownQ F p) : ∀ {g : List (Int × Pin)}, (∀ q ∈ g, KnownQ F q.2) → ∀ q ∈ putG g k p, KnownQ F q.2
  | [], _ => fun q hq => by
    rw [putG, List.mem_singleton] at hq
    rw [hq]
    exact hp
  | r :: g, h => fun q hq => by
    rw [putG] at hq
    split at hq
    · rcases List.mem_cons.1 hq with rfl | hq
      · exact hp
      · exact h q (by simp [hq])
    · rcases List.mem_cons.1 hq with rfl | hq
      · exact h q (by simp)
      · exact put_t hp (fun p hp => h p (by simp [hp])) q hq
theorem port_t {F : List KN} {c : Control} (hF : FullT F c) (h0 : 0 ≤ c.actuators) {g : List (Int × Pin)} (hg : ∀ q ∈ g, KnownQ F q.2) {l : Int} (hl : 0 ≤ l ∧ l < countC c) : KnownQ F (portM c g l) := by
  have hcn : countC c = 2 * c.actuators + c.inputs.length + c.signals.length := rfl
  have hfc : firstC c = 2 * c.actuators + c.inputs.length := rfl
  unfold portM
  split
  · rename_i h1
    obtain ⟨_, a1, a2, _⟩ := hF.act (l.toNat / 2) (by omega)
    rcases Nat.mod_two_eq_zero_or_one l.toNat with e | e
    · rw [e, num0]
      exact .inr ⟨6, a1, by simp [outsK, insK, twinD, notD]⟩
    · rw [e, num1]
      exact .inr ⟨6, a2, by simp [outsK, insK, twinD, notD]⟩
  · split
    · exact .inr ⟨7, hF.inp _ (by omega), by simp [outsK, insK, twinD, notD]⟩
    · rename_i h1 h2
      have e : ((l - firstC c).toNat : Int) = l - firstC c := by omega
      split
      · rename_i h3
        exact .inr ⟨2, hF.mem _ (by omega) (by rw [e]; exact h3), by simp [outsK]⟩
      · split
        · rename_i h3
          exact .inr ⟨12, hF.tim _ (by omega) (by rw [e]; exact h3), by simp [outsK]⟩
        · exact get_t l hg
section steps
variable {F : List KN} {c : Control} (hF : FullT F c) (h0 : 0 ≤ c.actuators)
include hF h0
theorem mexpr_t {m : Mk} (h : InT F m) {x : Expr} (hx : ∀ v ∈ varsE x, 0 ≤ v ∧ v < countC c) (hp : PartsT F (m.expr c x).parts) : JoinsT F (m.expr c x).joins ∧ KnownQ F (m.expr c x).pin :=
  expr_t hF.sup (portM c m.gates) m.signal x m.number (fun v hv => port_t hF h0 h.gates (hx v hv)) hp
theorem to_t {m : Mk} (h : InT F m) {x : Expr} (hx : ∀ v ∈ varsE x, 0 ≤ v ∧ v < countC c) {p : Pin} (hk : InP F p) (hp : PartsT F (m.to c x p).parts) : InT F (m.to c x p) := by
  obtain ⟨a1, a2⟩ := mexpr_t hF h0 h hx fun q hq => hp q (by simp [Mk.to, Mk.app, Mk.join, hq])
  exact ⟨(h.joins.app a1).app (joinT a2 hk), h.gates⟩
theorem gateM_t {m : Mk} (h : InT F m) (i : Nat) (hx : ∀ x, c.signals[i]? = some x → ∀ v ∈ varsE x.on, 0 ≤ v ∧ v < countC c) (hp : PartsT F (gateM c m i).parts) : InT F (gateM c m i) := by
  unfold gateM at hp ⊢
  split at hp
  · rename_i hk
    rw [if_pos hk]
    have hs : InT F (m.sig i) := ⟨h.joins, h.gates⟩
    obtain ⟨a1, a2⟩ := mexpr_t hF h0 hs (x := ((c.signals[i]?).map (·.on)).getD ⟨0, 0, []⟩) (fun v hv => by
      cases e : c.signals[i]? with
      | none => rw [e] at hv; simp [varsE, varsL] at hv
      | some x => rw [e] at hv; exact hx x e v hv) fun q hq => hp q (by simp [Mk.app, hq])
    exact ⟨h.joins.app a1, put_t a2 h.gates⟩
  · rename_i hk
    rw [if_neg hk]
    exact ⟨h.joins, h.gates⟩
theorem sigM_t {m : Mk} (h : InT F m) (i : Nat) (hx : ∀ x, c.signals[i]? = some x → (∀ v ∈ varsE x.on, 0 ≤ v ∧ v < countC c) ∧ ∀ v ∈ varsE x.off, 0 ≤ v ∧ v < countC c) (hp : PartsT F (sigM c m i).parts) : InT F (sigM c m i) := by
  unfold sigM at hp ⊢
  cases e : c.signals[i]? with
  | none => exact h
  | some x =>
    rw [e] at hp
    dsimp only at hp ⊢
    obtain ⟨x1, x2⟩ := hx x e
    have hi : i < c.signals.length := (List.getElem?_eq_some_iff.1 e).1
    have hk : kindAt c i = x.kind := by simp [kindAt, e]
    have hs : ∀ k d l, InT F ((((m.sig i).add k (ownT c i) d l).feed (ownT c i))) ↔ JoinsT F (m.joins ++ joinD supPin ⟨ownT c i, [49]⟩) := fun k d l => ⟨fun h => h.joins, fun h2 => ⟨h2, h.gates⟩⟩
    split
    · rename_i h1
      rw [if_pos h1] at hp
      have ho := hF.mem i hi (hk.trans h1)
      refine to_t hF h0 (to_t hF h0 ((hs _ _ _).2 (h.joins.app (joinT (supT hF.sup) ⟨2, ho, by simp [insK]⟩))) x1 ⟨2, ho, by simp [insK]⟩ ?_) x2 ⟨2, ho, by simp [insK]⟩ hp
      exact fun q hq => hp q (List.mem_append.2 (.inl hq))
    · rename_i h1
      rw [if_neg h1] at hp
      split
      · rename_i h2
        rw [if_pos h2] at hp
        have ho := hF.tim i hi (hk.trans h2)
        exact to_t hF h0 ((hs _ _ _).2 (h.joins.app (joinT (supT hF.sup) ⟨12, ho, by simp [insK]⟩))) x1 ⟨12, ho, by simp [insK]⟩ hp
      · exact ⟨h.joins, h.gates⟩
theorem pilM_t {m : Mk} (h : InT F m) (a : Nat) (ha : (a : Int) < c.actuators) (hp : (0 ≤ c.plus.getD a 0 ∧ c.plus.getD a 0 < countC c) ∧ 0 ≤ c.minus.getD a 0 ∧ c.minus.getD a 0 < countC c) : InT F (pilM c m a) := by
  obtain ⟨_, _, _, hv⟩ := hF.act a ha
  exact ⟨(h.joins.app (joinT (port_t hF h0 h.gates hp.1) ⟨2, hv, by simp [insK]⟩)).app (joinT (port_t hF h0 h.gates hp.2) ⟨2, hv, by simp [insK]⟩), h.gates⟩
omit h0
theorem actM_t {m : Mk} (h : InT F m) (a : Nat) (ha : (a : Int) < c.actuators) : InT F (actM m a) := by
  obtain ⟨h1, h2, h3, h4⟩ := hF.act a ha
  have hs := supT hF.sup
  have i6 : ∀ s, (6, s) ∈ F → InP F ⟨s, [49]⟩ := fun s hs => ⟨6, hs, by simp [insK]⟩
  exact ⟨((((h.joins.app (joinT hs (i6 _ h2))).app (joinT hs (i6 _ h3))).app (joinT hs ⟨2, h4, by simp [insK]⟩)).app (joinT (.inr ⟨2, h4, by simp [outsK]⟩) ⟨1, h1, by simp [insK]⟩)).app (joinT (.inr ⟨2, h4, by simp [outsK]⟩) ⟨1, h1, by simp [insK]⟩), h.gates⟩
theorem inM_t {m : Mk} (h : InT F m) (i : Nat) (hi : i < c.inputs.length) : InT F (inM c m i) :=
  ⟨h.joins.app (joinT (supT hF.sup) ⟨7, hF.inp i hi, by simp [insK]⟩), h.gates⟩
theorem machine_t (h0 : 0 ≤ c.actuators) : InT F (machineM c) := by
  have h1 : ∀ n : Nat, (n : Int) ≤ c.actuators → InT F ((List.range n).foldl actM ((⟨[], [], 0, -1, []⟩ : Mk).add 0 [83] 0 (-1))) := by
    intro n
    induction n with
    | zero => exact fun _ => ⟨.nil F, fun _ h => nomatch h⟩
    | succ n ih =>
      intro hn
      rw [List.range_succ, List.foldl_append]
      exact actM_t hF (ih (by omega)) n (by omega)
  have h2 : ∀ n : Nat, n ≤ c.inputs.length → ∀ {m : Mk}, InT F m → InT F ((List.range n).foldl (inM c) m) := by
    intro n
    induction n with
    | zero => exact fun _ _ h => h
    | succ n ih =>
      intro hn m h
      rw [List.range_succ, List.foldl_append]
      exact inM_t hF (ih (by omega) h) n (by omega)
  exact h2 _ (Nat.le_refl _) (h1 _ (by omega))
end steps
theorem PartsT.left {F : List KN} {a b : List Made} (h : PartsT F (a ++ b)) : PartsT F a := fun q hq => h q (by simp [hq])
theorem fold_t {F : List KN} {f : Mk → Nat → Mk} {n : Nat} (hm : ∀ m i, ∃ l, (f m i).parts = m.parts ++ l) (hs : ∀ m i, i < n → PartsT F (f m i).parts → InT F m → InT F (f m i)) (m : Mk) (h : InT F m) : ∀ k : Nat, k ≤ n → PartsT F ((List.range k).foldl f m).parts → InT F ((List.range k).foldl f m)
  | 0, _, _ => h
  | k + 1, hk, hp => by
    rw [List.range_succ, List.foldl_append] at hp ⊢
    refine hs _ k (by omega) hp (fold_t hm hs m h k (by omega) ?_)
    obtain ⟨l, e⟩ := hm ((List.range k).foldl f m) k
    have hp' : PartsT F (f ((List.range k).foldl f m) k).parts := hp
    rw [e] at hp'
    exact hp'.left
theorem valve_kn (m : Mk) (a : Int) : (m.valve a).parts.map knOf = m.parts.map knOf := by
  unfold Mk.valve
  dsimp only
  cases hp : m.parts[m.parts.length - 1]? with
  | none =>
    have h0 : m.parts = [] := by
      cases hl : m.parts with
      | nil => rfl
      | cons a l =>
        rw [List.getElem?_eq_none_iff, hl] at hp
        simp at hp
        omega
    rw [h0]
    rfl
  | some p =>
    obtain ⟨hlt, he⟩ := List.getElem?_eq_some_iff.1 hp
    rw [List.map_set]
    dsimp only
    rw [← he]
    apply List.ext_getElem?
    intro n
    rw [List.getElem?_set]
    split
    · rename_i e
      subst e
      simp [hlt, knOf]
    · rfl
def actKN (n : Nat) : List KN := (List.range n).flatMap fun a => [(1, letterT a), (6, letterT a ++ [48]), (6, letterT a ++ [49]), (2, 86 :: letterT a)]
theorem act_kn (m : Mk) (a : Nat) : (actM m a).parts.map knOf = m.parts.map knOf ++ [(1, letterT a), (6, letterT a ++ [48]), (6, letterT a ++ [49]), (2, 86 :: letterT a)] := by
  unfold actM
  simp only [Mk.feed, Mk.join, valve_kn]
  simp [Mk.add, knOf]
theorem acts_kn (m : Mk) : ∀ n, ((List.range n).foldl actM m).parts.map knOf = m.parts.map knOf ++ actKN n
  | 0 => by simp [actKN]
  | n + 1 => by
    rw [List.range_succ, List.foldl_append, List.foldl_cons, List.foldl_nil, act_kn, acts_kn m n, actKN, actKN, List.range_succ, List.flatMap_append]
    simp
theorem ins_kn (c : Control) (m : Mk) : ∀ n, n ≤ c.inputs.length → ((List.range n).foldl (inM c) m).parts.map knOf = m.parts.map knOf ++ (c.inputs.take n).map fun s => (7, s)
  | 0, _ => by simp
  | n + 1, hn => by
    rw [List.range_succ, List.foldl_append, List.foldl_cons, List.foldl_nil, List.take_add_one, List.map_append, ← List.append_assoc, ← ins_kn c m n (by omega)]
    simp [inM, Mk.add, Mk.feed, Mk.join, knOf, List.getD_eq_getElem?_getD, List.getElem?_eq_getElem (show n < c.inputs.length by omega)]
theorem machine_kn (c : Control) : (machineM c).parts.map knOf = (0, [83]) :: (actKN c.actuators.toNat ++ c.inputs.map fun s => (7, s)) := by
  unfold machineM
  rw [ins_kn c _ _ (Nat.le_refl _), acts_kn, List.take_length]
  simp [Mk.add, knOf]
theorem own_kn (c : Control) (m : Mk) {i : Nat} (hk : kindAt c i = 1 ∨ kindAt c i = 2) (hi : i < c.signals.length) : ∀ k : Nat, i < k → (if kindAt c i = 1 then (2, ownT c i) else (12, ownT c i) : KN) ∈ ((List.range k).foldl (sigM c) m).parts.map knOf
  | 0, h => absurd h (by omega)
  | k + 1, h => by
    rw [List.range_succ, List.foldl_append]
    rcases Nat.lt_or_ge i k with hl | hl
    · have ih := own_kn c m hk hi k hl
      obtain ⟨l, e⟩ := sigM_mono c ((List.range k).foldl (sigM c) m) k
      show _ ∈ (sigM c _ k).parts.map knOf
      rw [e, List.map_append]
      exact List.mem_append.2 (.inl ih)
    · obtain rfl : i = k := by omega
      show _ ∈ (sigM c _ i).parts.map knOf
      generalize (List.range i).foldl (sigM c) m = m'
      have hx := List.getElem?_eq_getElem hi
      generalize c.signals[i] = x at hx
      have hkx : kindAt c i = x.kind := by simp [kindAt, hx]
      rw [hkx] at hk ⊢
      unfold sigM
      rw [hx]
      dsimp only
      rcases hk with hk | hk
      · rw [if_pos hk, if_pos hk]
        simp [Mk.to, Mk.app, Mk.join, Mk.feed, Mk.add, Mk.sig, knOf]
      · have h1 : ¬ x.kind = 1 := by omega
        rw [if_neg h1, if_neg h1, if_pos hk]
        simp [Mk.to, Mk.app, Mk.join, Mk.feed, Mk.add, Mk.sig, knOf]
theorem whole_fullT {c : Control} (h0 : 0 ≤ c.actuators) : FullT ((wholeM c).parts.map knOf) c := by
  obtain ⟨l1, e1⟩ := fold_mono (gateM_mono c) (machineM c) c.signals.length
  obtain ⟨l2, e2⟩ := fold_mono (sigM_mono c) ((List.range c.signals.length).foldl (gateM c) (machineM c)) c.signals.length
  obtain ⟨l3, e3⟩ := fold_mono (pilM_mono c) ((List.range c.signals.length).foldl (sigM c) ((List.range c.signals.length).foldl (gateM c) (machineM c))) c.actuators.toNat
  have hm : ∀ s, s ∈ (machineM c).parts.map knOf → s ∈ (wholeM c).parts.map knOf := fun s hs => by
    unfold wholeM
    rw [e3, e2, e1]
    simp only [List.map_append, List.mem_append]
    exact .inl (.inl (.inl hs))
  have hn := machine_kn c
  have ho : ∀ i : Nat, i < c.signals.length → kindAt c i = 1 ∨ kindAt c i = 2 → (if kindAt c i = 1 then (2, ownT c i) else (12, ownT c i) : KN) ∈ (wholeM c).parts.map knOf := fun i hi hk => by
    have := own_kn c ((List.range c.signals.length).foldl (gateM c) (machineM c)) hk hi c.signals.length hi
    unfold wholeM
    rw [e3, List.map_append]
    exact List.mem_append.2 (.inl this)
  refine ⟨hm _ (by rw [hn]; simp), fun a ha => ?_, fun i hi => hm _ ?_, fun i hi hk => ?_, fun i hi hk => ?_⟩
  · have hmem : ∀ s, s ∈ ([(1, letterT a), (6, letterT a ++ [48]), (6, letterT a ++ [49]), (2, 86 :: letterT a)] : List KN) → s ∈ (wholeM c).parts.map knOf := fun s hs => hm s (by
      rw [hn]
      refine List.mem_cons_of_mem _ (List.mem_append.2 (.inl ?_))
      unfold actKN
      exact List.mem_flatMap.2 ⟨a, List.mem_range.2 (by omega), hs⟩)
    exact ⟨hmem _ (by simp), hmem _ (by simp), hmem _ (by simp), hmem _ (by simp)⟩
  · rw [hn]
    refine List.mem_cons_of_mem _ (List.mem_append.2 (.inr ?_))
    rw [List.getD_eq_getElem?_getD, List.getElem?_eq_getElem hi]
    exact List.mem_map.2 ⟨_, List.getElem_mem hi, rfl⟩
  · have := ho i hi (.inl hk)
    rwa [if_pos hk] at this
  · have := ho i hi (.inr hk)
    rwa [if_neg (by omega)] at this
theorem whole_t {c : Control} (hc : InC c) : JoinsT ((wholeM c).parts.map knOf) (wholeM c).joins ∧ ∀ l : Int, 0 ≤ l ∧ l < countC c → KnownQ ((wholeM c).parts.map knOf) (portM c (wholeM c).gates l) := by
  have hF := whole_fullT hc.act
  have hp : PartsT ((wholeM c).parts.map knOf) (wholeM c).parts := fun q hq => List.mem_map.2 ⟨q, hq, rfl⟩
  have h1 := machine_t hF hc.act
  have key : InT ((wholeM c).parts.map knOf) (wholeM c) := by
    generalize (wholeM c).parts.map knOf = F at *
    unfold wholeM at hp ⊢
    obtain ⟨l2, e2⟩ := fold_mono (sigM_mono c) ((List.range c.signals.length).foldl (gateM c) (machineM c)) c.signals.length
    obtain ⟨l3, e3⟩ := fold_mono (pilM_mono c) ((List.range c.signals.length).foldl (sigM c) ((List.range c.signals.length).foldl (gateM c) (machineM c))) c.actuators.toNat
    have hp3 := hp
    rw [e3] at hp3
    have hp2 := hp3.left
    have hp1 := hp2
    rw [e2] at hp1
    have h2 := fold_t (gateM_mono c) (n := c.signals.length) (fun m i _ hp h => gateM_t hF hc.act h i (fun x hx => (hc.sig i x hx).2.1) hp) _ h1 _ (Nat.le_refl _) hp1.left
    have h3 := fold_t (sigM_mono c) (n := c.signals.length) (fun m i _ hp h => sigM_t hF hc.act h i (fun x hx => (hc.sig i x hx).2) hp) _ h2 _ (Nat.le_refl _) hp2
    exact fold_t (pilM_mono c) (n := c.actuators.toNat) (fun m a ha _ h => pilM_t hF hc.act h a (by omega) (hc.pil a (by omega))) _ h3 _ (Nat.le_refl _) hp
  exact ⟨key.joins, fun l hl => port_t hF hc.act key.gates hl⟩
end Go.Proofs.YtdnkpogfcpjkpaaGreatDoor
end
