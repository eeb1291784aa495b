/- Texts joined by a program: Ib, Ic, Id, Ia, Ie, Sm, If, Ig. -/
import Derived.Shelf.SlSortCmp.WholeK
import Derived.Shelf.SlSortCmp.NoneTotal
import Derived.Test.YtdnkpogfcpjkpaaGreatDoorProg
import Derived.KernelRfl
import Derived.Test.YtdnkpogfcpjkpaaGreatDoorP18
import Derived.Test.YtdnkpogfcpjkpaaGreatDoorP17
import Derived.Test.YtdnkpogfcpjkpaaGreatDoorP19
import Derived.Test.YtdnkpogfcpjkpaaGreatDoorP12
set_option linter.unusedSimpArgs false
set_option linter.unusedVariables false
set_option linter.unnecessarySimpa false

section
namespace Go.Proofs.YtdnkpogfcpjkpaaGreatDoor
set_option maxHeartbeats 4000000
def posL (ps : List Made) (t : List UInt8) : Nat := (ps.takeWhile fun p => ltB p.name t).length
theorem posL_le (ps : List Made) (t : List UInt8) : posL ps t ≤ ps.length := (List.takeWhile_prefix _).length_le
theorem pos_iff {t : List UInt8} : ∀ {ps : List Made}, ps.Pairwise (fun a b => byName b a = false) → ∀ {i : Nat} (hi : i < ps.length), ltB ps[i].name t = true ↔ i < posL ps t
  | [], _, i, hi => absurd hi (by simp)
  | p :: ps, h, i, hi => by
    rw [List.pairwise_cons] at h
    cases e : ltB p.name t with
    | true =>
      have e2 : posL (p :: ps) t = posL ps t + 1 := by simp [posL, e]
      cases i with
      | zero => simp [e, e2]
      | succ i =>
        have := pos_iff (t := t) h.2 (i := i) (by simpa using hi)
        simp only [List.getElem_cons_succ, e2]
        rw [this]
        omega
    | false =>
      have e2 : posL (p :: ps) t = 0 := by simp [posL, e]
      rw [e2]
      cases i with
      | zero => simp [e]
      | succ i =>
        have hi' : i < ps.length := by simpa using hi
        simp only [List.getElem_cons_succ, Nat.not_lt_zero, iff_false]
        intro h2
        have h3 := h.1 ps[i] (List.getElem_mem _)
        unfold byName at h3
        cases h4 : ltB p.name ps[i].name with
        | true => rw [ltB_trans h4 h2] at e; cases e
        | false =>
          rw [ltB_total h4 h3, h2] at e
          cases e
def seekL (ps : List Made) (t : List UInt8) : Option Nat := ps.findIdx? fun p => p.name == t
theorem seek_pos {ps : List Made} {t : List UInt8} (hs : ps.Pairwise (fun a b => byName b a = false)) (hn : (ps.map Made.name).Nodup) (h : t ∈ ps.map Made.name) : seekL ps t = some (posL ps t) := by
  obtain ⟨i, hi, e⟩ := List.getElem_of_mem h
  rw [List.length_map] at hi
  rw [List.getElem_map] at e
  have h1 : ¬ i < posL ps t := fun hl => by
    have := (pos_iff (t := t) hs hi).2 hl
    rw [e, ltB_irrefl] at this
    cases this
  have hlt : posL ps t < ps.length := by omega
  have h2 := mt (pos_iff (t := t) hs hlt).1 (Nat.lt_irrefl _)
  rw [Bool.not_eq_true] at h2
  have hpi : posL ps t = i := by
    rcases Nat.lt_or_ge (posL ps t) i with hl | hl
    · have h3 := List.pairwise_iff_getElem.1 hs _ _ hlt hi hl
      unfold byName at h3
      rw [e] at h3
      have h4 := ltB_total h2 h3
      rw [List.Nodup, List.pairwise_iff_getElem] at hn
      exact absurd (by rw [List.getElem_map, List.getElem_map, h4, e]) (hn _ _ (by simpa using hlt) (by simpa using hi) hl)
    · omega
  unfold seekL
  rw [List.findIdx?_eq_some_iff_getElem]
  refine ⟨hlt, ?_, fun j hj => ?_⟩
  · subst hpi
    simp [e]
  · have h5 := (pos_iff (t := t) hs (by omega : j < ps.length)).2 hj
    simp only [beq_iff_eq]
    intro h6
    rw [h6, ltB_irrefl] at h5
    cases h5
def KnownP (F : List (List UInt8)) (p : Pin) : Prop := p = noPin ∨ p.part ∈ F
def JoinsIn (F : List (List UInt8)) (js : List (Pin × Pin)) : Prop := ∀ q ∈ js, q.1.part ∈ F ∧ q.2.part ∈ F
theorem JoinsIn.nil (F : List (List UInt8)) : JoinsIn F [] := fun _ h => nomatch h
theorem JoinsIn.app {F : List (List UInt8)} {a b : List (Pin × Pin)} (h : JoinsIn F a) (h2 : JoinsIn F b) : JoinsIn F (a ++ b) := fun q hq => (List.mem_append.1 hq).elim (h q) (h2 q)
theorem joinD_in {F : List (List UInt8)} {a b : Pin} (ha : KnownP F a) (hb : KnownP F b) : JoinsIn F (joinD a b) := by
  unfold joinD
  split
  · exact .nil F
  · rename_i h
    rw [not_or] at h
    intro q hq
    rw [List.mem_singleton.1 hq]
    exact ⟨ha.resolve_left h.1, hb.resolve_left h.2⟩
theorem airD_in {F : List (List UInt8)} {fl : Bool} {a : Pin} (ha : KnownP F a) (hs : [83] ∈ F) : JoinsIn F (airD fl a) := by
  unfold airD
  split
  · exact joinD_in ha (.inr hs)
  · exact joinD_in (.inr hs) ha
def PartsIn (F : List (List UInt8)) (ps : List Made) : Prop := ∀ p ∈ ps, p.name ∈ F
theorem twin_mono {sg kind : Int} {letter : UInt8} : ∀ (ps : List Pin) (d : Dl), ∃ l, (ps.foldl (twinD sg kind letter) d).parts = d.parts ++ l
  | [], d => ⟨[], by simp⟩
  | p :: ps, d => by
    obtain ⟨l, h⟩ := twin_mono ps (twinD sg kind letter d p)
    rw [List.foldl_cons, h]
    simp only [twinD, List.append_assoc]
    exact ⟨_, rfl⟩
theorem twin_in {F : List (List UInt8)} {sg kind : Int} {letter : UInt8} : ∀ (ps : List Pin) {d : Dl}, (∀ p ∈ ps, KnownP F p) → JoinsIn F d.joins → KnownP F d.pin → PartsIn F (ps.foldl (twinD sg kind letter) d).parts →
    JoinsIn F (ps.foldl (twinD sg kind letter) d).joins ∧ KnownP F (ps.foldl (twinD sg kind letter) d).pin
  | [], d, _, h1, h2, _ => ⟨h1, h2⟩
  | p :: ps, d, hp, h1, h2, h3 => by
    rw [List.foldl_cons] at h3 ⊢
    obtain ⟨l, e⟩ := twin_mono (sg := sg) (kind := kind) (letter := letter) ps (twinD sg kind letter d p)
    have hn : letter :: numT d.num ∈ F := h3 ⟨kind, letter :: numT d.num, 0, sg, none, -1, -1⟩ (by rw [e]; simp [twinD])
    refine twin_in ps (fun q hq => hp q (by simp [hq])) ?_ (.inr hn) h3
    exact (h1.app (joinD_in h2 (.inr hn))).app (joinD_in (hp p (by simp)) (.inr hn))
mutual
theorem expr_in {F : List (List UInt8)} (hS : [83] ∈ F) (fl : Bool) (pf : Int → Pin) (sg : Int) : ∀ (x : Expr) (k : Nat), (∀ v ∈ varsE x, KnownP F (pf v)) → PartsIn F (exprD fl pf sg x k).parts → JoinsIn F (exprD fl pf sg x k).joins ∧ KnownP F (exprD fl pf sg x k).pin
  | ⟨op, ix, args⟩, k => by
    have h := args_in hS fl pf sg args k
    intro hv
    rw [varsE] at hv
    rw [exprD_eq]
    dsimp only
    have hva : ∀ v ∈ varsL args, KnownP F (pf v) := fun v hm => hv v (List.mem_append.2 (.inr hm))
    by_cases h0 : op = 0
    · rw [if_pos h0]
      intro _
      refine ⟨.nil F, ?_⟩
      dsimp only
      split
      · exact .inr hS
      · exact .inl rfl
    · rw [if_neg h0]
      by_cases h1 : op = 1
      · rw [if_pos h1]
        exact fun _ => ⟨.nil F, hv ix (by rw [if_pos h1]; simp)⟩
      · rw [if_neg h1]
        have h2 := h hva
        generalize argsD fl pf sg args k = r at *
        obtain ⟨r1, r2, r3, r4⟩ := r
        dsimp only at h2 ⊢
        by_cases hop : op = 2
        · rw [if_pos hop]
          unfold notsD
          cases args.head? with
          | none => exact fun hp => ⟨(h2 hp).1, .inl rfl⟩
          | some y =>
            intro hp
            have hn : 78 :: numT r3 ∈ F := hp ⟨5, 78 :: numT r3, 0, sg, some y, -1, -1⟩ (by simp [notD])
            obtain ⟨a1, a2⟩ := h2 fun q hq => hp q (by simp [notD, hq])
            refine ⟨(a1.app (airD_in (.inr hn) hS)).app (joinD_in ?_ (.inr hn)), .inr hn⟩
            cases r4 with
            | nil => exact .inl rfl
            | cons p ps => exact a2 p (by simp)
        · rw [if_neg hop]
          unfold foldD
          dsimp only
          cases r4 with
          | nil => exact fun hp => ⟨(h2 hp).1, .inl rfl⟩
          | cons p ps =>
            intro hp
            obtain ⟨l, e⟩ := twin_mono (sg := sg) (kind := if op = 3 then 9 else 8) (letter := if op = 3 then 80 else 81) ps ⟨r1, r2, r3, p⟩
            dsimp only at hp e
            obtain ⟨a1, a2⟩ := h2 fun q hq => hp q (by rw [e]; simp [hq])
            exact twin_in ps (fun q hq => a2 q (by simp [hq])) a1 (a2 p (by simp)) hp
theorem args_in {F : List (List UInt8)} (hS : [83] ∈ F) (fl : Bool) (pf : Int → Pin) (sg : Int) : ∀ (xs : List Expr) (k : Nat), (∀ v ∈ varsL xs, KnownP F (pf v)) → PartsIn F (argsD fl pf sg xs k).parts → JoinsIn F (argsD fl pf sg xs k).joins ∧ ∀ p ∈ (argsD fl pf sg xs k).pins, KnownP F p
  | [], k => fun _ _ => ⟨.nil F, fun _ h => nomatch h⟩
  | x :: xs, k => by
    intro hv hp
    rw [varsL] at hv
    rw [argsD] at hp ⊢
    dsimp only at hp ⊢
    obtain ⟨a1, a2⟩ := expr_in hS fl pf sg x k (fun v h => hv v (by simp [h])) fun q hq => hp q (by simp [hq])
    obtain ⟨b1, b2⟩ := args_in hS fl pf sg xs (exprD fl pf sg x k).num (fun v h => hv v (by simp [h])) fun q hq => hp q (by simp [hq])
    refine ⟨a1.app b1, fun p h => ?_⟩
    rcases List.mem_cons.1 h with rfl | h
    · exact a2
    · exact b2 p h
end
end Go.Proofs.YtdnkpogfcpjkpaaGreatDoor
end

section
namespace Go.Proofs.YtdnkpogfcpjkpaaGreatDoor
set_option maxHeartbeats 4000000
structure FullF (F : List (List UInt8)) (c : Control) : Prop where
  sup : [83] ∈ F
  act : ∀ a : Nat, (a : Int) < c.actuators → letterT a ∈ F ∧ letterT a ++ [48] ∈ F ∧ letterT a ++ [49] ∈ F ∧ 86 :: letterT a ∈ F
  inp : ∀ i : Nat, i < c.inputs.length → c.inputs.getD i [] ∈ F
  own : ∀ i : Nat, i < c.signals.length → kindAt c i = 1 ∨ kindAt c i = 2 → ownT c i ∈ F
structure InF (F : List (List UInt8)) (m : Mk) : Prop where
  joins : JoinsIn F m.joins
  gates : ∀ q ∈ m.gates, KnownP F q.2
theorem get_in {F : List (List UInt8)} (k : Int) : ∀ {g : List (Int × Pin)}, (∀ q ∈ g, KnownP F q.2) → KnownP F ((getG g k).getD noPin)
  | [], _ => .inl rfl
  | q :: g, h => by
    rw [getG]
    split
    · exact h q (by simp)
    · exact get_in k fun p hp => h p (by simp [hp])
theorem put_in {F : List (List UInt8)} {k : Int} {p : Pin} (hp : KnownP F p) : ∀ {g : List (Int × Pin)}, (∀ q ∈ g, KnownP F q.2) → ∀ q ∈ putG g k p, KnownP F q.2
  | [], _ => fun q hq => by
    rw [putG, List.mem_singleton] at hq
    rw [hq]
    exact hp
  | r :: g, h => fun q hq => by
    rw [putG] at hq
    split at hq
    · rcases List.mem_cons.1 hq with rfl | hq
      · exact hp
      · exact h q (by simp [hq])
    · rcases List.mem_cons.1 hq with rfl | hq
      · exact h q (by simp)
      · exact put_in hp (fun p hp => h p (by simp [hp])) q hq
theorem port_in {F : List (List UInt8)} {c : Control} (hF : FullF F c) (h0 : 0 ≤ c.actuators) {g : List (Int × Pin)} (hg : ∀ q ∈ g, KnownP F q.2) {l : Int} (hl : 0 ≤ l ∧ l < countC c) : KnownP F (portM c g l) := by
  have hcn : countC c = 2 * c.actuators + c.inputs.length + c.signals.length := rfl
  have hfc : firstC c = 2 * c.actuators + c.inputs.length := rfl
  unfold portM
  split
  · rename_i h1
    obtain ⟨_, a1, a2, _⟩ := hF.act (l.toNat / 2) (by omega)
    rcases Nat.mod_two_eq_zero_or_one l.toNat with e | e
    · rw [e, num0]
      exact .inr a1
    · rw [e, num1]
      exact .inr a2
  · split
    · exact .inr (hF.inp _ (by omega))
    · rename_i h1 h2
      have e : ((l - firstC c).toNat : Int) = l - firstC c := by omega
      split
      · rename_i h3
        exact .inr (hF.own _ (by omega) (.inl (by rw [e]; exact h3)))
      · split
        · rename_i h3
          exact .inr (hF.own _ (by omega) (.inr (by rw [e]; exact h3)))
        · exact get_in l hg
section steps
variable {F : List (List UInt8)} {c : Control} (hF : FullF F c) (h0 : 0 ≤ c.actuators)
include hF h0
theorem mexpr_in {m : Mk} (h : InF F m) {x : Expr} (hx : ∀ v ∈ varsE x, 0 ≤ v ∧ v < countC c) (hp : PartsIn F (m.expr c x).parts) : JoinsIn F (m.expr c x).joins ∧ KnownP F (m.expr c x).pin :=
  expr_in hF.sup false (portM c m.gates) m.signal x m.number (fun v hv => port_in hF h0 h.gates (hx v hv)) hp
theorem to_in {m : Mk} (h : InF F m) {x : Expr} (hx : ∀ v ∈ varsE x, 0 ≤ v ∧ v < countC c) {p : Pin} (hk : KnownP F p) (hp : PartsIn F (m.to c x p).parts) : InF F (m.to c x p) := by
  obtain ⟨a1, a2⟩ := mexpr_in hF h0 h hx fun q hq => hp q (by simp [Mk.to, Mk.app, Mk.join, hq])
  exact ⟨(h.joins.app a1).app (joinD_in a2 hk), h.gates⟩
theorem gateM_in {m : Mk} (h : InF F m) (i : Nat) (hx : ∀ x, c.signals[i]? = some x → ∀ v ∈ varsE x.on, 0 ≤ v ∧ v < countC c) (hp : PartsIn F (gateM c m i).parts) : InF F (gateM c m i) := by
  unfold gateM at hp ⊢
  split at hp
  · rename_i hk
    rw [if_pos hk]
    have hs : InF F (m.sig i) := ⟨h.joins, h.gates⟩
    obtain ⟨a1, a2⟩ := mexpr_in hF h0 hs (x := ((c.signals[i]?).map (·.on)).getD ⟨0, 0, []⟩) (fun v hv => by
      cases e : c.signals[i]? with
      | none => rw [e] at hv; simp [varsE, varsL] at hv
      | some x => rw [e] at hv; exact hx x e v hv) fun q hq => hp q (by simp [Mk.app, hq])
    exact ⟨h.joins.app a1, put_in a2 h.gates⟩
  · rename_i hk
    rw [if_neg hk]
    exact ⟨h.joins, h.gates⟩
theorem sigM_in {m : Mk} (h : InF F m) (i : Nat) (hx : ∀ x, c.signals[i]? = some x → (∀ v ∈ varsE x.on, 0 ≤ v ∧ v < countC c) ∧ ∀ v ∈ varsE x.off, 0 ≤ v ∧ v < countC c) (hp : PartsIn F (sigM c m i).parts) : InF F (sigM c m i) := by
  unfold sigM at hp ⊢
  cases e : c.signals[i]? with
  | none => exact h
  | some x =>
    rw [e] at hp
    dsimp only at hp ⊢
    obtain ⟨x1, x2⟩ := hx x e
    have hi : i < c.signals.length := (List.getElem?_eq_some_iff.1 e).1
    have hk : kindAt c i = x.kind := by simp [kindAt, e]
    have hs : ∀ k d l, InF F ((((m.sig i).add k (ownT c i) d l).feed (ownT c i))) ↔ JoinsIn F (m.joins ++ joinD supPin ⟨ownT c i, [49]⟩) := fun k d l => ⟨fun h => h.joins, fun h2 => ⟨h2, h.gates⟩⟩
    split
    · rename_i h1
      rw [if_pos h1] at hp
      have ho := hF.own i hi (.inl (hk.trans h1))
      refine to_in hF h0 (to_in hF h0 ((hs _ _ _).2 (h.joins.app (joinD_in (.inr hF.sup) (.inr ho)))) x1 (.inr ho) ?_) x2 (.inr ho) hp
      exact fun q hq => hp q (List.mem_append.2 (.inl hq))
    · rename_i h1
      rw [if_neg h1] at hp
      split
      · rename_i h2
        rw [if_pos h2] at hp
        have ho := hF.own i hi (.inr (hk.trans h2))
        exact to_in hF h0 ((hs _ _ _).2 (h.joins.app (joinD_in (.inr hF.sup) (.inr ho)))) x1 (.inr ho) hp
      · exact ⟨h.joins, h.gates⟩
theorem pilM_in {m : Mk} (h : InF F m) (a : Nat) (ha : (a : Int) < c.actuators) (hp : (0 ≤ c.plus.getD a 0 ∧ c.plus.getD a 0 < countC c) ∧ 0 ≤ c.minus.getD a 0 ∧ c.minus.getD a 0 < countC c) : InF F (pilM c m a) := by
  obtain ⟨_, _, _, hv⟩ := hF.act a ha
  exact ⟨(h.joins.app (joinD_in (port_in hF h0 h.gates hp.1) (.inr hv))).app (joinD_in (port_in hF h0 h.gates hp.2) (.inr hv)), h.gates⟩
omit h0
theorem actM_in {m : Mk} (h : InF F m) (a : Nat) (ha : (a : Int) < c.actuators) : InF F (actM m a) := by
  obtain ⟨h1, h2, h3, h4⟩ := hF.act a ha
  have hs := hF.sup
  exact ⟨((((h.joins.app (joinD_in (.inr hs) (.inr h2))).app (joinD_in (.inr hs) (.inr h3))).app (joinD_in (.inr hs) (.inr h4))).app (joinD_in (.inr h4) (.inr h1))).app (joinD_in (.inr h4) (.inr h1)), h.gates⟩
theorem inM_in {m : Mk} (h : InF F m) (i : Nat) (hi : i < c.inputs.length) : InF F (inM c m i) :=
  ⟨h.joins.app (joinD_in (.inr hF.sup) (.inr (hF.inp i hi))), h.gates⟩
theorem machine_in (h0 : 0 ≤ c.actuators) : InF F (machineM c) := by
  have h1 : ∀ n : Nat, (n : Int) ≤ c.actuators → InF F ((List.range n).foldl actM ((⟨[], [], 0, -1, []⟩ : Mk).add 0 [83] 0 (-1))) := by
    intro n
    induction n with
    | zero => exact fun _ => ⟨.nil F, fun _ h => nomatch h⟩
    | succ n ih =>
      intro hn
      rw [List.range_succ, List.foldl_append]
      exact actM_in hF (ih (by omega)) n (by omega)
  have h2 : ∀ n : Nat, n ≤ c.inputs.length → ∀ {m : Mk}, InF F m → InF F ((List.range n).foldl (inM c) m) := by
    intro n
    induction n with
    | zero => exact fun _ _ h => h
    | succ n ih =>
      intro hn m h
      rw [List.range_succ, List.foldl_append]
      exact inM_in hF (ih (by omega) h) n (by omega)
  exact h2 _ (Nat.le_refl _) (h1 _ (by omega))
end steps
theorem fold_mono {f : Mk → Nat → Mk} (hm : ∀ m i, ∃ l, (f m i).parts = m.parts ++ l) (m : Mk) : ∀ k : Nat, ∃ l, ((List.range k).foldl f m).parts = m.parts ++ l
  | 0 => ⟨[], by simp⟩
  | k + 1 => by
    rw [List.range_succ, List.foldl_append]
    obtain ⟨l, h⟩ := fold_mono hm m k
    obtain ⟨l2, h2⟩ := hm ((List.range k).foldl f m) k
    exact ⟨l ++ l2, by rw [← List.append_assoc, ← h]; exact h2⟩
theorem PartsIn.left {F : List (List UInt8)} {a b : List Made} (h : PartsIn F (a ++ b)) : PartsIn F a := fun q hq => h q (by simp [hq])
theorem fold_in {F : List (List UInt8)} {f : Mk → Nat → Mk} {n : Nat} (hm : ∀ m i, ∃ l, (f m i).parts = m.parts ++ l) (hs : ∀ m i, i < n → PartsIn F (f m i).parts → InF F m → InF F (f m i)) (m : Mk) (h : InF F m) : ∀ k : Nat, k ≤ n → PartsIn F ((List.range k).foldl f m).parts → InF F ((List.range k).foldl f m)
  | 0, _, _ => h
  | k + 1, hk, hp => by
    rw [List.range_succ, List.foldl_append] at hp ⊢
    refine hs _ k (by omega) hp (fold_in hm hs m h k (by omega) ?_)
    obtain ⟨l, e⟩ := hm ((List.range k).foldl f m) k
    have hp' : PartsIn F (f ((List.range k).foldl f m) k).parts := hp
    rw [e] at hp'
    exact hp'.left
theorem gateM_mono (c : Control) (m : Mk) (i : Nat) : ∃ l, (gateM c m i).parts = m.parts ++ l := by
  unfold gateM
  split
  · exact ⟨_, rfl⟩
  · exact ⟨[], by simp [Mk.sig]⟩
theorem mono_trans {a b d : List Made} (h1 : ∃ l, b = a ++ l) (h2 : ∃ l, d = b ++ l) : ∃ l, d = a ++ l := by
  obtain ⟨l1, rfl⟩ := h1
  obtain ⟨l2, rfl⟩ := h2
  exact ⟨l1 ++ l2, by rw [List.append_assoc]⟩
theorem to_mono (c : Control) (m : Mk) (x : Expr) (p : Pin) : ∃ l, (m.to c x p).parts = m.parts ++ l := ⟨_, rfl⟩
theorem addf_mono (m : Mk) (i : Nat) (k d l : Int) (n : List UInt8) : ∃ z, (((m.sig i).add k n d l).feed n).parts = m.parts ++ z := ⟨_, rfl⟩
theorem sigM_mono (c : Control) (m : Mk) (i : Nat) : ∃ l, (sigM c m i).parts = m.parts ++ l := by
  unfold sigM
  cases c.signals[i]? with
  | none => exact ⟨[], by simp⟩
  | some x =>
    dsimp only
    split
    · exact mono_trans (addf_mono m i _ _ _ _) (mono_trans (to_mono c _ x.on _) (to_mono c _ x.off _))
    · split
      · exact mono_trans (addf_mono m i _ _ _ _) (to_mono c _ x.on _)
      · exact ⟨[], by simp [Mk.sig]⟩
theorem pilM_mono (c : Control) (m : Mk) (a : Nat) : ∃ l, (pilM c m a).parts = m.parts ++ l := ⟨[], by simp [pilM, Mk.join]⟩
theorem own_made (c : Control) (m : Mk) {i : Nat} (hk : kindAt c i = 1 ∨ kindAt c i = 2) (hi : i < c.signals.length) : ∀ k : Nat, i < k → ownT c i ∈ ((List.range k).foldl (sigM c) m).parts.map Made.name
  | 0, h => absurd h (by omega)
  | k + 1, h => by
    rw [List.range_succ, List.foldl_append]
    rcases Nat.lt_or_ge i k with hl | hl
    · have ih := own_made c m hk hi k hl
      obtain ⟨l, e⟩ := sigM_mono c ((List.range k).foldl (sigM c) m) k
      show _ ∈ (sigM c _ k).parts.map Made.name
      rw [e, List.map_append]
      exact List.mem_append.2 (.inl ih)
    · obtain rfl : i = k := by omega
      show _ ∈ (sigM c _ i).parts.map Made.name
      generalize (List.range i).foldl (sigM c) m = m'
      have hx := List.getElem?_eq_getElem hi
      generalize c.signals[i] = x at hx
      have hkx : kindAt c i = x.kind := by simp [kindAt, hx]
      rw [hkx] at hk
      unfold sigM
      rw [hx]
      dsimp only
      rcases hk with hk | hk
      · rw [if_pos hk]
        simp [Mk.to, Mk.app, Mk.join, Mk.feed, Mk.add, Mk.sig]
      · rw [if_neg (by omega), if_pos hk]
        simp [Mk.to, Mk.app, Mk.join, Mk.feed, Mk.add, Mk.sig]
theorem whole_full {c : Control} (h0 : 0 ≤ c.actuators) : FullF ((wholeM c).parts.map Made.name) c := by
  obtain ⟨l1, e1⟩ := fold_mono (gateM_mono c) (machineM c) c.signals.length
  obtain ⟨l2, e2⟩ := fold_mono (sigM_mono c) ((List.range c.signals.length).foldl (gateM c) (machineM c)) c.signals.length
  obtain ⟨l3, e3⟩ := fold_mono (pilM_mono c) ((List.range c.signals.length).foldl (sigM c) ((List.range c.signals.length).foldl (gateM c) (machineM c))) c.actuators.toNat
  have hm : ∀ s, s ∈ (machineM c).parts.map Made.name → s ∈ (wholeM c).parts.map Made.name := fun s hs => by
    unfold wholeM
    rw [e3, e2, e1]
    simp only [List.map_append, List.mem_append]
    exact .inl (.inl (.inl hs))
  have hn := machine_names c
  refine ⟨hm _ (by rw [hn]; simp), fun a ha => ?_, fun i hi => hm _ ?_, fun i hi hk => ?_⟩
  · have hmem : ∀ s, s ∈ [letterT a, letterT a ++ [48], letterT a ++ [49], 86 :: letterT a] → s ∈ (wholeM c).parts.map Made.name := fun s hs => hm s (by
      rw [hn]
      refine List.mem_cons_of_mem _ (List.mem_append.2 (.inl ?_))
      unfold actN
      exact List.mem_flatMap.2 ⟨a, List.mem_range.2 (by omega), hs⟩)
    exact ⟨hmem _ (by simp), hmem _ (by simp), hmem _ (by simp), hmem _ (by simp)⟩
  · rw [hn]
    refine List.mem_cons_of_mem _ (List.mem_append.2 (.inr ?_))
    rw [List.getD_eq_getElem?_getD, List.getElem?_eq_getElem hi]
    exact List.getElem_mem hi
  · have := own_made c ((List.range c.signals.length).foldl (gateM c) (machineM c)) hk hi c.signals.length hi
    unfold wholeM
    rw [e3, List.map_append]
    exact List.mem_append.2 (.inl this)
theorem whole_in {c : Control} (hc : InC c) : JoinsIn ((wholeM c).parts.map Made.name) (wholeM c).joins ∧ ∀ l : Int, 0 ≤ l ∧ l < countC c → KnownP ((wholeM c).parts.map Made.name) (portM c (wholeM c).gates l) := by
  have hF := whole_full hc.act
  have hp : PartsIn ((wholeM c).parts.map Made.name) (wholeM c).parts := fun q hq => List.mem_map.2 ⟨q, hq, rfl⟩
  have h1 := machine_in hF hc.act
  have key : InF ((wholeM c).parts.map Made.name) (wholeM c) := by
    generalize (wholeM c).parts.map Made.name = F at *
    unfold wholeM at hp ⊢
    obtain ⟨l2, e2⟩ := fold_mono (sigM_mono c) ((List.range c.signals.length).foldl (gateM c) (machineM c)) c.signals.length
    obtain ⟨l3, e3⟩ := fold_mono (pilM_mono c) ((List.range c.signals.length).foldl (sigM c) ((List.range c.signals.length).foldl (gateM c) (machineM c))) c.actuators.toNat
    have hp3 := hp
    rw [e3] at hp3
    have hp2 := hp3.left
    have hp1 := hp2
    rw [e2] at hp1
    have h2 := fold_in (gateM_mono c) (n := c.signals.length) (fun m i _ hp h => gateM_in hF hc.act h i (fun x hx => (hc.sig i x hx).2.1) hp) _ h1 _ (Nat.le_refl _) hp1.left
    have h3 := fold_in (sigM_mono c) (n := c.signals.length) (fun m i _ hp h => sigM_in hF hc.act h i (fun x hx => (hc.sig i x hx).2) hp) _ h2 _ (Nat.le_refl _) hp2
    exact fold_in (pilM_mono c) (n := c.actuators.toNat) (fun m a ha _ h => pilM_in hF hc.act h a (by omega) (hc.pil a (by omega))) _ h3 _ (Nat.le_refl _) hp
  exact ⟨key.joins, fun l hl => port_in hF hc.act key.gates hl⟩
end Go.Proofs.YtdnkpogfcpjkpaaGreatDoor
end

section
namespace Go.Proofs.YtdnkpogfcpjkpaaGreatDoor
set_option maxHeartbeats 4000000
structure TotB {α : Type} (lt : α → α → Bool) : Prop where
  irr : ∀ a, lt a a = false
  trans : ∀ a b c, lt a b = true → lt b c = true → lt a c = true
  tot : ∀ a b, lt a b = false → lt b a = false → a = b
theorem TotB.asymm {α : Type} {lt : α → α → Bool} (h : TotB lt) {a b : α} (h1 : lt a b = true) : lt b a = false := by
  cases h2 : lt b a with
  | false => rfl
  | true => have := h.trans _ _ _ h1 h2; rw [h.irr] at this; cases this
theorem TotB.ord {α : Type} {lt : α → α → Bool} (h : TotB lt) : OrdB lt := by
  refine ⟨fun a b h1 => h.asymm h1, fun a b c h1 h2 => ?_⟩
  cases h3 : lt c a with
  | false => rfl
  | true =>
    exfalso
    cases h4 : lt a b with
    | true => rw [h.trans _ _ _ h3 h4] at h2; cases h2
    | false =>
      obtain rfl := h.tot _ _ h4 h1
      rw [h3] at h2
      cases h2
def lexB {α β : Type} [DecidableEq α] (lt1 : α → α → Bool) (lt2 : β → β → Bool) (a b : α × β) : Bool := if a.1 = b.1 then lt2 a.2 b.2 else lt1 a.1 b.1
theorem lexB_tot {α β : Type} [DecidableEq α] {lt1 : α → α → Bool} {lt2 : β → β → Bool} (h1 : TotB lt1) (h2 : TotB lt2) : TotB (lexB lt1 lt2) := by
  refine ⟨fun a => ?_, fun a b c ha hb => ?_, fun a b ha hb => ?_⟩
  · unfold lexB
    rw [if_pos rfl, h2.irr]
  · unfold lexB at *
    by_cases e1 : a.1 = b.1
    · rw [if_pos e1] at ha
      by_cases e2 : b.1 = c.1
      · rw [if_pos e2] at hb
        rw [if_pos (e1.trans e2)]
        exact h2.trans _ _ _ ha hb
      · rw [if_neg e2] at hb
        rw [if_neg (by rw [e1]; exact e2), e1]
        exact hb
    · rw [if_neg e1] at ha
      by_cases e2 : b.1 = c.1
      · rw [if_neg (by rw [← e2]; exact e1), ← e2]
        exact ha
      · rw [if_neg e2] at hb
        have h3 := h1.trans _ _ _ ha hb
        rw [if_neg (fun e => by rw [e, h1.irr] at h3; cases h3)]
        exact h3
  · unfold lexB at *
    by_cases e1 : a.1 = b.1
    · rw [if_pos e1] at ha
      rw [if_pos e1.symm] at hb
      exact Prod.ext e1 (h2.tot _ _ ha hb)
    · rw [if_neg e1] at ha
      rw [if_neg (fun e => e1 e.symm)] at hb
      exact absurd (h1.tot _ _ ha hb) e1
theorem nat_tot : TotB fun a b : Nat => decide (a < b) := ⟨fun a => by simp, fun a b c h1 h2 => by simp at *; omega, fun a b h1 h2 => by simp at *; omega⟩
theorem ltB_tot : TotB ltB := ⟨ltB_irrefl, fun _ _ _ => ltB_trans, fun _ _ => ltB_total⟩
theorem sort_unique {α : Type} {lt : α → α → Bool} (h : TotB lt) {l m l' : List α} (hp : l.Perm m) (hl : l'.Perm l) (hs : l'.Pairwise fun a b => lt b a = false) : l' = sortB lt m :=
  sorted_same (fun a b _ _ h1 h2 => h.tot a b h2 h1) hs (sortB_sorted h.ord m) (hl.trans (hp.trans (sortB_perm lt m).symm))
abbrev PortP := Nat × List UInt8
def beforeP : PortP → PortP → Bool := lexB (fun a b => decide (a < b)) ltB
def earlierP : PortP × PortP → PortP × PortP → Bool := lexB beforeP beforeP
theorem before_tot : TotB beforeP := lexB_tot nat_tot ltB_tot
theorem earlier_tot : TotB earlierP := lexB_tot before_tot before_tot
def pipeN (a b : PortP) : PortP × PortP := if beforeP b a = true then (b, a) else (a, b)
theorem pipeN_comm (a b : PortP) : pipeN a b = pipeN b a := by
  unfold pipeN
  cases h1 : beforeP b a with
  | true => rw [if_pos rfl, before_tot.asymm h1, if_neg (by simp)]
  | false =>
    cases h2 : beforeP a b with
    | true => rw [if_neg (by simp), if_pos rfl]
    | false =>
      obtain rfl := before_tot.tot _ _ h1 h2
      rfl
def portL (ps : List Made) (p : Pin) : PortP := (posL ps p.part, p.port)
def pipesL (ps : List Made) (js : List (Pin × Pin)) : List (PortP × PortP) := sortB earlierP (js.map fun j => pipeN (portL ps j.1) (portL ps j.2))
theorem inC_of {c : Control} (h : checkC c = 0) : InC c := by
  have hf := fine_of h
  have hR := okR_of h
  refine ⟨hR.act.1, fun i x hx => ?_, fun a ha => ?_⟩
  · obtain ⟨h1, h2, _⟩ := hR.sig i x hx
    exact ⟨h1, vars_right _ _ (Nat.lt_succ_self _) h2.1, (occ_off hf hx).2⟩
  · have hpl := hR.pil.1
    have hml := hR.pil.2.1
    have g1 : c.plus[a]? = some c.plus[a] := List.getElem?_eq_getElem (by omega)
    have g2 : c.minus[a]? = some c.minus[a] := List.getElem?_eq_getElem (by omega)
    have r1 := hR.pil.2.2.1 _ (List.mem_of_getElem? g1)
    have r2 := hR.pil.2.2.2 _ (List.mem_of_getElem? g2)
    rw [List.getD_eq_getElem?_getD, List.getD_eq_getElem?_getD, g1, g2]
    exact ⟨r1, r2⟩
theorem pipes_same {c : Control} (h : checkC c = 0) (ps : List Made) {l' : List (PortP × PortP)} (hp : l'.Perm ((wholeM c).joins.map fun j => pipeN (portL ps j.1) (portL ps j.2))) (hs : l'.Pairwise fun a b => earlierP b a = false) :
    l' = pipesL ps (wholeR c).links := by
  have hr := (whole_rel (inC_of h)).joins _ (fun j => pipeN (portL ps j.1) (portL ps j.2)) (fun a b => pipeN_comm _ _)
  rw [List.map_nil, List.append_nil] at hr
  exact sort_unique earlier_tot hr hp hs
end Go.Proofs.YtdnkpogfcpjkpaaGreatDoor
end

section
namespace Go.Proofs.YtdnkpogfcpjkpaaGreatDoor
set_option maxHeartbeats 4000000
set_option maxRecDepth 10000
theorem find1_fn (a : Made) (t : List UInt8) : CallFn Tryz.prog 82 [.agg (rMade a), .dat (.str t)] (aI (Go.Lib.compareBytes a.name t)) := by
  obtain ⟨ak, an, ad, asg, aa, av, al⟩ := a
  refine callFz_of Tryz.func82 rfl Tryz.ntmps82 (rs := [.tmp 4]) rfl (by kernel_rfl) (by simp) (by kernel_rfl) ?_
  cases aa
  all_goals
    simp [argA]
    intros
    refine (Compare_fnT an t).s ?_
    simp
theorem inR_u64' {n : Int} (h : 0 ≤ n) (h2 : n ≤ 18446744073709551615) : inR .u64 n := by
  unfold inR
  simp only [IntKind.wrap, IntKind.signed, IntKind.bits]
  simp
  omega
def metL (ps : List Made) (t : List UInt8) : Bool := match ps[posL ps t]? with
  | some q => Go.Lib.compareBytes q.name t == 0
  | none => false
theorem bsf_s {ps : List Made} {hp : Value} {t : List UInt8} (hs : ps.Pairwise (fun a b => byName b a = false)) (hl : ps.length ≤ 1000000) :
    CallS Tryz.prog 81 [.own 171 hp, .dat (.str t), .fn 82 [] []] [(171, .seq hp 107 7 (ps.map rMade))]
      fun r H' => r = .tuple [aI (posL ps t), aB (metL ps t)] ∧ H' = [(171, .seq hp 107 7 (ps.map rMade))] := by
  have hpl := posL_le ps t
  refine callS_of Tryz.func81 rfl Tryz.ntmps81 (rs := [.tmp 6, .tmp 7]) rfl (by kernel_rfl) (by simp) (by kernel_rfl) ?_
  simp
  refine V.for' [0, 1, 2, 6, 7, 8] (fun q : Nat × Nat => [(9, aI q.1), (10, aI q.2)]) (fun _ => [(171, .seq hp 107 7 (ps.map rMade))])
    (fun q => q.1 ≤ posL ps t ∧ posL ps t ≤ q.2 ∧ q.2 ≤ ps.length) (fun q => q.2 - q.1) (0, ps.length) ⟨⟨Nat.zero_le _, hpl, Nat.le_refl _⟩, by simp, subP.refl _⟩ ?_
  rintro ⟨lo, hi⟩ ⟨h1, h2, h3⟩
  simp only at h1 h2 h3
  by_cases hlt : lo < hi
  · obtain ⟨m, hmm⟩ : ∃ m, (lo + hi) / 2 = m := ⟨_, rfl⟩
    have hsh : shrI .u64 ((lo : Int) + hi) 1 = (m : Int) := by
      rw [← hmm]
      unfold shrI
      simp [IntKind.bits]
      rw [Int.fdiv_eq_ediv_of_nonneg _ (by omega)]
    have hin : inR .u64 ((lo : Int) + hi) := inR_u64' (by omega) (by omega)
    have hml : m < ps.length := by omega
    obtain ⟨q, hq⟩ : ∃ q, ps[m] = q := ⟨_, rfl⟩
    have hqo : ps[m]? = some q := by rw [List.getElem?_eq_getElem hml, hq]
    have hpi := pos_iff (t := t) hs hml
    rw [hq, ← cmpT_lt] at hpi
    have hf := find1_fn q t
    obtain ⟨ak, an, ad, asg, aa, av, al⟩ := q
    simp only at hpi hf
    simp [hlt, hsh, hin, hqo]
    refine ⟨by omega, by omega, by omega, ?_⟩
    cases aa
    all_goals
      simp [argA]
      refine hf.s ?_
      by_cases hc : Go.Lib.compareBytes an t < 0
      · have hc2 := hpi.1 hc
        simp [hc]
        refine ⟨by omega, m + 1, hi, ⟨by omega, by omega, by omega⟩, by omega, by simp, subP.refl _⟩
      · have hc2 := fun h => hc (hpi.2 h)
        simp [hc]
        refine ⟨lo, m, ⟨by omega, by omega, by omega⟩, by omega, by simp, subP.refl _⟩
  · obtain rfl : lo = posL ps t := by omega
    unfold metL
    cases hq : ps[posL ps t]? with
    | none =>
      have hge : ¬ posL ps t < ps.length := Nat.not_lt.2 (List.getElem?_eq_none_iff.1 hq)
      simp [hlt, hq, hge]
      refine GCall.fn (aI 0) (fun h => h.elim) ?_
      simp
    | some q =>
      obtain ⟨hlt2, hqe⟩ := List.getElem?_eq_some_iff.1 hq
      have hf := find1_fn q t
      obtain ⟨ak, an, ad, asg, aa, av, al⟩ := q
      simp only at hf
      cases aa
      all_goals
        simp [hlt, hq, hqe, hlt2, argA]
        refine GCall.fn _ (fun _ => ⟨trivial, hf⟩) ?_
        simp
abbrev fkC (c : Control) (bg : Nat) (hp hj : Value) (m : Mk) : List A :=
  [aI c.actuators, .dat (.sl (c.inputs.map encT)), .dat (.sl (c.signals.map encS)), .dat (.sl (c.plus.map encI)), .dat (.sl (c.minus.map encI)), .own 171 hp, .own 172 hj, aI m.number, aI m.signal, .map 173 bg, .any, .any, .any, .any, .any]
abbrev fkH (c : Control) (b bg : Nat) (hp hj : Value) (m : Mk) : Heap :=
  [(170, .box b (fkC c bg hp hj m)), (171, .seq hp 107 7 (m.parts.map rMade)), (172, .seq hj 132 4 (m.joins.map rJoin)), (173, .mapS bg (.int .i64) (m.gates.map eGate))]
theorem D_own {x : X} {t t' : Nat} {h : Value} : ∀ v, D x (.own t h) v → D x (.own t' h) v := fun v hv => by simpa only [D] using hv
theorem D_any {x : X} {a : A} : ∀ v, D x a v → D x .any v := fun v _ => by simp only [D]
theorem fk_inv {c : Control} {b b4 b5 bg : Nat} {hp hj : Value} {m : Mk} {x : X} {H0 : Heap} (hi : Inv x (mkrH c b b4 b5 bg hp hj m ++ H0)) : Inv x (fkH c b bg hp hj m ++ H0) := by
  have h1 := Inv.swap (g := 70) (e := .box b (mkrC c b b4 b5 bg hp hj m)) (e' := .box b (fkC c bg hp hj m)) rfl (box_sat (Ds_c D_i (Ds_c D_i (Ds_c D_i (Ds_c D_i (Ds_c D_i (Ds_c D_own (Ds_c D_own (Ds_c D_i (Ds_c D_i (Ds_c D_mtag
    (Ds_c D_any (Ds_c D_any (Ds_c D_any (Ds_c D_any (Ds_c D_any Ds_i)))))))))))))))) (fun _ h => h) hi
  simp only [hset, if_true] at h1
  have h2 : Inv x ([(70, .box b (fkC c bg hp hj m)), (71, .seq hp 107 7 (m.parts.map rMade)), (72, .seq hj 132 4 (m.joins.map rJoin)), (73, .mapS bg (.int .i64) (m.gates.map eGate))] ++ H0) :=
    Inv.sub h1 (List.Sublist.append_right (List.Sublist.cons_cons _ (List.Sublist.cons_cons _ (List.Sublist.cons_cons _ (List.Sublist.cons_cons _ (List.nil_sublist _))))) H0)
  exact h2.ents (by simp)
theorem drawnF_s (c : Control) (hc : OkC c) : CallS Tryz.prog 28 [aC c] [] fun r H' => (checkC c ≠ 0 ∧ r = .tuple [.nilp, aI (checkC c)] ∧ H' = []) ∨
    (checkC c = 0 ∧ ∃ b bg hp hj, r = .tuple [.ptr 170 b 0, aI 0] ∧ H' = fkH c b bg hp hj { wholeM c with parts := partsL (wholeR c).gears }) := by
  refine (drawn_s c hc).res ?_
  rintro r H' (⟨hz, rfl⟩ | ⟨hz, b, b4, b5, bg, hp, hj, ps, rfl, hperm, hs, rfl⟩)
  · exact ⟨_, [], fun _ _ h => h.sub (List.sublist_append_right _ _), fun _ _ h => h, .inl ⟨hz, rfl, rfl⟩⟩
  · have hr := (whole_rel (inC_of hz)).parts
    rw [List.append_nil] at hr
    obtain rfl := parts_same (whole_names hz) hr hperm hs
    refine ⟨.tuple [.ptr 170 b 0, aI 0], _, fun x H0 hi => fk_inv hi, fun x v hv => ?_, .inr ⟨hz, b, bg, hp, hj, rfl, rfl⟩⟩
    simp only [D] at hv ⊢
    obtain ⟨vs, e, hd⟩ := hv
    exact ⟨vs, e, Ds_c D_tag Ds_i _ hd⟩
section
variable {c : Control} {b bg : Nat} {hp hj : Value} {m : Mk}
theorem firstF_s (hc : Sm c) : CallS Tryz.prog 34 [.ptr 170 b 0] (fkH c b bg hp hj m) fun r H' => r = aI (firstC c) ∧ H' = fkH c b bg hp hj m := by
  obtain ⟨h1, h2, h3⟩ := hc
  refine callS_of Tryz.func34 rfl Tryz.ntmps34 (rs := [.tmp 2]) rfl (by kernel_rfl) (by simp) (by kernel_rfl) ?_
  simp
  refine V.drawX (fun _ => none) (by kernel_rfl) (by kernel_rfl) (by simp) ?_
  simp
  unfold firstC
  omega
theorem findF_s (p : Pin) (hs : m.parts.Pairwise (fun a b => byName b a = false)) (hl : m.parts.length ≤ 1000000) :
    CallS Tryz.prog 36 [.ptr 170 b 0, .record (encPin p)] (fkH c b bg hp hj m) fun r H' => r = .record [.int .i64 (posL m.parts p.part), .str p.port] ∧ H' = fkH c b bg hp hj m := by
  obtain ⟨p1, p2⟩ := p
  have hb := bsf_s (hp := hp) (t := p1) hs hl
  refine CallS.dropP (callS_of Tryz.func36 rfl Tryz.ntmps36 (rs := [.cell 4 44]) rfl (by kernel_rfl) (by simp) (by kernel_rfl) (K := fun r H' => r = .record [.int .i64 (posL m.parts p1), .str p2] ∧ subP (fkH c b bg hp hj m) H') ?_) (fun r H' ⟨e, h⟩ => ⟨_, h, e, rfl⟩)
  simp
  intro b4
  refine V.drawX (fun t => if t = 14 then some (.ro (.tuple [aI (posL m.parts p1), aB (metL m.parts p1)])) else none) (by kernel_rfl) (by kernel_rfl) (by simp) ?_
  simp
  exact ⟨hb, subP.c (subP.refl _) _⟩
end
end Go.Proofs.YtdnkpogfcpjkpaaGreatDoor
end

section
namespace Go.Proofs.YtdnkpogfcpjkpaaGreatDoor
set_option maxHeartbeats 4000000
set_option maxRecDepth 10000
theorem cmpOr_fn (a b : Int) : CallFn Tryz.prog 71 [aIs [a, b]] (aI (if a ≠ 0 then a else b)) := by
  refine callFz_of Tryz.func71 rfl Tryz.ntmps71 (rs := [.tmp 2]) rfl (by kernel_rfl) (by simp) (by kernel_rfl) ?_
  simp
  refine V.forI (σ := Unit) 2 [3, 6, 7] (by simp; exact rfl) (fun i _ => [(2, aI 0), (8, aI i)]) (fun _ _ => []) (fun i _ => (1 ≤ i → a = 0) ∧ (2 ≤ i → b = 0)) () (by simp) (by simp) ⟨by simp; exact rfl, by simp⟩ ?_ ?_
  · rintro i - hi ⟨h1, h2⟩
    have hc : i = 0 ∨ i = 1 := by omega
    rcases hc with rfl | rfl
    · simp
      by_cases h : a = 0 <;> simp [h]
    · have := h1 (by omega)
      simp
      by_cases h : b = 0 <;> simp [h, this]
  · rintro - ⟨h1, h2⟩
    have := h1 (by omega)
    have := h2 (by omega)
    simp [*]
theorem nanI_fn (a : Int) : CallFn Tryz.prog 136 [aI a] (aB false) := by
  refine callFz_of Tryz.func136 rfl Tryz.ntmps136 (rs := [.tmp 2]) rfl (by kernel_rfl) (by simp) (by kernel_rfl) ?_
  simp
def cmpI (a b : Int) : Int := if a < b then -1 else if b < a then 1 else 0
theorem cmpI_fn (a b : Int) : CallFn Tryz.prog 103 [aI a, aI b] (aI (cmpI a b)) := by
  have n1 := nanI_fn a
  have n2 := nanI_fn b
  refine callFz_of Tryz.func103 rfl Tryz.ntmps103 (rs := [.tmp 4]) rfl (by kernel_rfl) (by simp) (by kernel_rfl) ?_
  simp
  refine n1.s ?_
  simp
  refine n2.s ?_
  simp
  unfold cmpI
  by_cases h : a < b
  · simp [h]
    omega
  · by_cases h2 : b < a <;> simp [h, h2]
abbrev encPort (p : PortP) : List L := [.int .i64 p.1, .str p.2]
abbrev encPipe (p : PortP × PortP) : List L := [.int .i64 p.1.1, .str p.1.2, .int .i64 p.2.1, .str p.2.2]
def cmpP (a b : PortP) : Int := if cmpI a.1 b.1 ≠ 0 then cmpI a.1 b.1 else Go.Lib.compareBytes a.2 b.2
def cmpPP (a b : PortP × PortP) : Int := if cmpP a.1 b.1 ≠ 0 then cmpP a.1 b.1 else cmpP a.2 b.2
theorem compareP_fn (a b : PortP) : CallFn Tryz.prog 68 [.record (encPort a), .record (encPort b)] (aI (cmpP a b)) := by
  obtain ⟨a1, a2⟩ := a
  obtain ⟨b1, b2⟩ := b
  have h1 := cmpI_fn a1 b1
  have h2 := Compare_fnT a2 b2
  have h3 := cmpOr_fn (cmpI a1 b1) (Go.Lib.compareBytes a2 b2)
  refine callFz_of Tryz.func68 rfl Tryz.ntmps68 (rs := [.tmp 4]) rfl (by kernel_rfl) (by simp) (by kernel_rfl) ?_
  simp
  refine V.drawX (fun t => if t = 9 then some (.fn (aI (cmpI a1 b1))) else if t = 14 then some (.fn (aI (Go.Lib.compareBytes a2 b2))) else if t = 16 then some (.fn (aI (cmpP (a1, a2) (b1, b2)))) else none) (by kernel_rfl) (by kernel_rfl) (by simp) ?_
  simp
  exact ⟨h1, h2, h3⟩
theorem cmpI_lt (a b : Nat) : cmpI a b < 0 ↔ a < b := by
  unfold cmpI
  split
  · omega
  · split <;> omega
theorem cmpP_lt (a b : PortP) : cmpP a b < 0 ↔ beforeP a b = true := by
  unfold cmpP beforeP lexB
  by_cases h : a.1 = b.1
  · rw [if_pos h, if_neg (by rw [h]; simp [cmpI]), cmpT_lt]
  · have h0 : cmpI a.1 b.1 ≠ 0 := by unfold cmpI; split <;> (try split) <;> omega
    rw [if_neg h, if_pos h0, cmpI_lt]
    simp
theorem cmpP_zero (a b : PortP) : cmpP a b = 0 ↔ a = b := by
  unfold cmpP
  by_cases h : a.1 = b.1
  · rw [if_neg (by rw [h]; simp [cmpI]), cmpT_zero]
    exact ⟨fun h2 => Prod.ext h h2, fun h2 => by rw [h2]⟩
  · have h0 : cmpI a.1 b.1 ≠ 0 := by unfold cmpI; split <;> (try split) <;> omega
    rw [if_pos h0]
    exact ⟨fun h2 => absurd h2 h0, fun h2 => absurd (by rw [h2]) h⟩
theorem cmpPP_lt (a b : PortP × PortP) : cmpPP a b < 0 ↔ earlierP a b = true := by
  unfold cmpPP earlierP lexB
  by_cases h : a.1 = b.1
  · rw [if_pos h, if_neg (by rw [h]; simp [cmpP_zero]), cmpP_lt]
  · rw [if_neg h, if_pos (by rw [ne_eq, cmpP_zero]; exact h), cmpP_lt]
theorem cmpP_gt (a b : PortP) : 0 < cmpP a b ↔ beforeP b a = true := by
  unfold cmpP beforeP lexB
  by_cases h : a.1 = b.1
  · rw [if_pos h.symm, if_neg (by rw [h]; simp [cmpI]), cmpT_eq]
    cases h1 : ltB a.2 b.2 with
    | true => rw [if_pos rfl, ltB_asymm h1]; simp
    | false => cases h2 : ltB b.2 a.2 <;> simp
  · have h0 : cmpI a.1 b.1 ≠ 0 := by unfold cmpI; split <;> (try split) <;> omega
    rw [if_pos h0, if_neg (fun e : b.1 = a.1 => h e.symm)]
    simp only [decide_eq_true_eq]
    unfold cmpI
    split <;> (try split) <;> omega
theorem pipe_ord : OrdOK (fun _ : PortP × PortP => True) cmpPP := by
  have ho := earlier_tot.ord
  refine ⟨fun a _ => ?_, fun a b c _ _ _ h1 h2 => ?_, fun a b c _ _ _ h1 h2 => ?_⟩
  · rw [cmpPP_lt, earlier_tot.irr]
    simp
  · rw [cmpPP_lt] at *
    exact earlier_tot.trans _ _ _ h1 h2
  · rw [cmpPP_lt] at *
    have := ho.ntrans c b a (by simpa using h2) (by simpa using h1)
    simpa using this
end Go.Proofs.YtdnkpogfcpjkpaaGreatDoor
end

section
namespace Go.Proofs.YtdnkpogfcpjkpaaGreatDoor
set_option maxRecDepth 100000
set_option maxHeartbeats 4000000
def sfapiPipeRen : Go.Shelf.Ren := ⟨fun | 6 => 69 | 14 => 114 | 15 => 112 | 20 => 157 | 21 => 158 | 22 => 159 | 23 => 160 | 24 => 161 | 25 => 162 | 26 => 163 | 27 => 164 | 28 => 154 | 29 => 155 | 46 => 201 | 47 => 197 | 48 => 198 | 49 => 202 | 50 => 203 | 57 => 223 | n => n, fun | 0 => 0 | 3 => 3 | 4 => 4 | 5 => 5 | 9 => 9 | 22 => 30 | 24 => 95 | 25 => 123 | 39 => 182 | 45 => 212 | 46 => 213 | 50 => 143 | 53 => 219 | 55 => 221 | 66 => 258 | 70 => 262 | 76 => 283 | 77 => 40 | n => n, fun n => n⟩
theorem sfapiPipeLays : Go.Proofs.SlLaysF0.n6 Tryz.prog sfapiPipeRen := { 
  mixed := by kernel_rfl,
  f6 := ⟨ "slices.SortFunc[[]pneumatic/api.Pipe,pneumatic/api.Pipe]", by kernel_rfl, by kernel_rfl⟩,
  f14 := ⟨ "slices.pdqsortCmpFunc[pneumatic/api.Pipe]", by kernel_rfl, by kernel_rfl⟩,
  f15 := by kernel_rfl,
  f20 := ⟨ "slices.insertionSortCmpFunc[pneumatic/api.Pipe]", by kernel_rfl, by kernel_rfl⟩,
  f21 := ⟨ "slices.heapSortCmpFunc[pneumatic/api.Pipe]", by kernel_rfl, by kernel_rfl⟩,
  f22 := ⟨ "slices.breakPatternsCmpFunc[pneumatic/api.Pipe]", by kernel_rfl, by kernel_rfl⟩,
  f23 := ⟨ "slices.choosePivotCmpFunc[pneumatic/api.Pipe]", by kernel_rfl, by kernel_rfl⟩,
  f24 := ⟨ "slices.reverseRangeCmpFunc[pneumatic/api.Pipe]", by kernel_rfl, by kernel_rfl⟩,
  f25 := ⟨ "slices.partialInsertionSortCmpFunc[pneumatic/api.Pipe]", by kernel_rfl, by kernel_rfl⟩,
  f26 := ⟨ "slices.partitionEqualCmpFunc[pneumatic/api.Pipe]", by kernel_rfl, by kernel_rfl⟩,
  f27 := ⟨ "slices.partitionCmpFunc[pneumatic/api.Pipe]", by kernel_rfl, by kernel_rfl⟩,
  f28 := by kernel_rfl,
  f29 := by kernel_rfl,
  f46 := ⟨ "slices.siftDownCmpFunc[pneumatic/api.Pipe]", by kernel_rfl, by kernel_rfl⟩,
  f47 := by kernel_rfl,
  f48 := by kernel_rfl,
  f49 := ⟨ "slices.medianAdjacentCmpFunc[pneumatic/api.Pipe]", by kernel_rfl, by kernel_rfl⟩,
  f50 := ⟨ "slices.medianCmpFunc[pneumatic/api.Pipe]", by kernel_rfl, by kernel_rfl⟩,
  f57 := ⟨ "slices.order2CmpFunc[pneumatic/api.Pipe]", by kernel_rfl, by kernel_rfl⟩,
  t0 := Tryz.underlying0,
  a0 := Tryz.isAgg0,
  z0 := Tryz.sizeOf0,
  v0 := Tryz.zeroValue0,
  t3 := Tryz.underlying3,
  a3 := Tryz.isAgg3,
  z3 := Tryz.sizeOf3,
  v3 := Tryz.zeroValue3,
  t4 := Tryz.underlying4,
  a4 := Tryz.isAgg4,
  z4 := Tryz.sizeOf4,
  v4 := Tryz.zeroValue4,
  t5 := Tryz.underlying5,
  a5 := Tryz.isAgg5,
  z5 := Tryz.sizeOf5,
  v5 := Tryz.zeroValue5,
  t9 := Tryz.underlying9,
  a9 := Tryz.isAgg9,
  z9 := Tryz.sizeOf9,
  v9 := Tryz.zeroValue9,
  t22 := Tryz.underlying30,
  a22 := Tryz.isAgg30,
  z22 := Tryz.sizeOf30,
  v22 := Tryz.zeroValue30,
  t25 := Tryz.underlying123,
  a25 := Tryz.isAgg123,
  z25 := Tryz.sizeOf123,
  v25 := Tryz.zeroValue123,
  t39 := Tryz.underlying182,
  a39 := Tryz.isAgg182,
  z39 := Tryz.sizeOf182,
  v39 := Tryz.zeroValue182,
  t45 := Tryz.underlying212,
  a45 := Tryz.isAgg212,
  z45 := Tryz.sizeOf212,
  v45 := Tryz.zeroValue212,
  t46 := Tryz.underlying213,
  a46 := Tryz.isAgg213,
  z46 := Tryz.sizeOf213,
  v46 := Tryz.zeroValue213,
  t50 := Tryz.underlying143,
  a50 := Tryz.isAgg143,
  z50 := Tryz.sizeOf143,
  v50 := Tryz.zeroValue143,
  t53 := Tryz.underlying219,
  a53 := Tryz.isAgg219,
  z53 := Tryz.sizeOf219,
  v53 := Tryz.zeroValue219,
  t55 := Tryz.underlying221,
  a55 := Tryz.isAgg221,
  z55 := Tryz.sizeOf221,
  v55 := Tryz.zeroValue221,
  t66 := Tryz.underlying258,
  a66 := Tryz.isAgg258,
  z66 := Tryz.sizeOf258,
  v66 := Tryz.zeroValue258,
  t70 := Tryz.underlying262,
  a70 := Tryz.isAgg262,
  z70 := Tryz.sizeOf262,
  v70 := Tryz.zeroValue262,
  t76 := Tryz.underlying283,
  a76 := Tryz.isAgg283,
  z76 := Tryz.sizeOf283,
  v76 := Tryz.zeroValue283,
  t77 := Tryz.underlying40,
  a77 := Tryz.isAgg40,
  z77 := Tryz.sizeOf40,
  v77 := Tryz.zeroValue40 }
end Go.Proofs.YtdnkpogfcpjkpaaGreatDoor
end

section
namespace Go.Proofs.YtdnkpogfcpjkpaaGreatDoor
set_option maxHeartbeats 8000000
set_option maxRecDepth 10000
abbrev rPart (p : Made) : List A := [aI p.kind, .dat (.str p.name), aI p.delay]
abbrev rPipe (q : PortP × PortP) : List A := [aI q.1.1, .dat (.str q.1.2), aI q.2.1, .dat (.str q.2.2)]
theorem circuit1_agg (a b : PortP × PortP) : CallFn Tryz.prog 70 [.agg (rPipe a), .agg (rPipe b)] (aI (cmpPP a b)) := by
  obtain ⟨⟨a1, a2⟩, a3, a4⟩ := a
  obtain ⟨⟨b1, b2⟩, b3, b4⟩ := b
  have h1 := compareP_fn (a1, a2) (b1, b2)
  have h2 := compareP_fn (a3, a4) (b3, b4)
  have h3 := cmpOr_fn (cmpP (a1, a2) (b1, b2)) (cmpP (a3, a4) (b3, b4))
  refine callFz_of Tryz.func70 rfl Tryz.ntmps70 (rs := [.tmp 4]) rfl (by kernel_rfl) (by simp) (by kernel_rfl) ?_
  simp
  intros
  refine V.drawX (fun t => if t = 9 then some (.fn (aI (cmpP (a1, a2) (b1, b2)))) else if t = 14 then some (.fn (aI (cmpP (a3, a4) (b3, b4)))) else if t = 16 then some (.fn (aI (cmpPP ((a1, a2), a3, a4) ((b1, b2), b3, b4)))) else none) (by kernel_rfl) (by kernel_rfl) (by simp) ?_
  simp
  exact ⟨h1, h2, h3⟩
theorem sortP_s (l : List (PortP × PortP)) (hl : l.length ≤ 1000000) {h : Value} : CallS Tryz.prog 69 [.own 61 h, .fn 70 [] []] [(61, .seq h 95 4 (l.map rPipe))] fun r H' => r = .tuple [] ∧ H' = [(61, .seq h 95 4 ((sortB earlierP l).map rPipe))] := by
  refine (sortA_s sfapiPipeLays 4 (by exact Tryz.isAgg95) (by exact Tryz.sizeOf95) ⟨_, Tryz.func69, by kernel_rfl, by kernel_rfl⟩
    ⟨_, Tryz.func70, by kernel_rfl, by kernel_rfl⟩ rPipe (fun _ => rfl) (fun p => rfl) (fun _ => True) cmpPP (fun a b _ _ => circuit1_agg a b) pipe_ord l (fun _ _ => trivial) (by omega)).mono ?_
  rintro r H' ⟨rfl, l', h1, h2, rfl⟩
  refine ⟨rfl, ?_⟩
  rw [sort_unique earlier_tot (List.Perm.refl l) h1 (h2.imp fun {a b} hab => by rw [cmpPP_lt] at hab; simpa using hab)]
abbrev ciH (c : Control) (b bg : Nat) (hp hj : Value) (m : Mk) (b2 b4 : Nat) (g1 g2 : Value) (xs : List Made) (l : List (PortP × PortP)) : Heap :=
  (61, .seq g2 95 4 (l.map rPipe)) :: (60, .seq g1 65 3 (xs.map rPart)) :: (4, .box b4 [.own 60 g1, .own 61 g2]) :: (2, .box b2 [.nils, .nils]) :: fkH c b bg hp hj m
abbrev outH (c : Control) (b bg : Nat) (hp hj : Value) (m : Mk) (g1 g2 : Value) (xs : List Made) (l : List (PortP × PortP)) : Heap :=
  (61, .seq g2 95 4 (l.map rPipe)) :: (60, .seq g1 65 3 (xs.map rPart)) :: fkH c b bg hp hj m
section
variable {c : Control} {b bg : Nat} {hp hj : Value} {m : Mk}
theorem cir_c {K : A → Heap → Prop} {b2 b4 : Nat} {g1 g2 : Value} {xs : List Made} {l : List (PortP × PortP)} (hl : l.length ≤ 1000000) (hK : ∀ H', subP (outH c b bg hp hj m g1 g2 xs (sortB earlierP l)) H' → K (.tuple [.agg [.own 60 g1, .own 61 g2], aI 0]) H') :
    vcC ⟨Tryz.prog, none, 79⟩ (restC Tryz.f29 5) (hdE [(2, .ptr 2 b2 0), (3, aI 0), (4, .ptr 4 b4 0)] []) (ciH c b bg hp hj m b2 b4 g1 g2 xs l)
      (RetV Tryz.prog [.cell 2 32, .tmp 3] K) := by
  refine vc_rest rfl ?_
  simp
  refine ((sortP_s l hl).frame).mono ?_
  rintro _ _ ⟨_, ⟨rfl, rfl⟩, rfl⟩
  simp
  exact hK _ (subP.cc (subP.cc (subP.c (subP.c (subP.refl _) _) _) _) _)
theorem cir_b {K : A → Heap → Prop} {b2 b4 : Nat} {g1 : Value} {xs : List Made} (hs : m.parts.Pairwise (fun a b => byName b a = false)) (hl : m.parts.length ≤ 1000000) (hl2 : m.joins.length ≤ 1000000)
    (hK : ∀ g2 H', subP (outH c b bg hp hj m g1 g2 xs (sortB earlierP (m.joins.map fun j => pipeN (portL m.parts j.1) (portL m.parts j.2)))) H' → K (.tuple [.agg [.own 60 g1, .own 61 g2], aI 0]) H') :
    vcN ⟨Tryz.prog, none, 79⟩ 1 (restC Tryz.f29 4) (hdE [(0, .ptr 170 b 0), (2, .ptr 2 b2 0), (3, aI 0), (4, .ptr 4 b4 0)] []) (ciH c b bg hp hj m b2 b4 g1 (.slice none 0 0) xs [])
      (RetV Tryz.prog [.cell 2 32, .tmp 3] K) := by
  refine vcN_rest rfl ?_
  simp
  refine V.forI (σ := Value) m.joins.length [0, 2, 3, 4, 46, 47] (by simp; exact rfl) (fun i _ => [(48, aI i)])
    (fun i g => [(61, .seq g 95 4 (((m.joins.take i).map fun j => pipeN (portL m.parts j.1) (portL m.parts j.2)).map rPipe)), (4, .box b4 [.own 60 g1, .own 61 g])]) (fun _ _ => True) (.slice none 0 0) trivial (by simp) ⟨by simp; exact rfl, by simp⟩ ?_ ?_
  · rintro i g hi -
    obtain ⟨j, hj1⟩ : ∃ j, m.joins[i] = j := ⟨_, rfl⟩
    have hjo : m.joins[i]? = some j := by rw [List.getElem?_eq_getElem hi, hj1]
    have f1 := findF_s (c := c) (b := b) (bg := bg) (hp := hp) (hj := hj) (m := m) j.1 hs hl
    have f2 := findF_s (c := c) (b := b) (bg := bg) (hp := hp) (hj := hj) (m := m) j.2 hs hl
    obtain ⟨⟨p1, p2⟩, q1, q2⟩ := j
    have hst : ((m.joins.take (i + 1)).map fun j => pipeN (portL m.parts j.1) (portL m.parts j.2)).map rPipe = ((m.joins.take i).map fun j => pipeN (portL m.parts j.1) (portL m.parts j.2)).map rPipe ++ [rPipe (pipeN (posL m.parts p1, p2) (posL m.parts q1, q2))] := by
      rw [List.take_add_one, hjo]
      simp [portL]
    rw [hst]
    have hpn : pipeN (posL m.parts p1, p2) (posL m.parts q1, q2) = if 0 < cmpP (posL m.parts p1, p2) (posL m.parts q1, q2) then ((posL m.parts q1, q2), posL m.parts p1, p2) else ((posL m.parts p1, p2), posL m.parts q1, q2) := by
      unfold pipeN
      by_cases h : 0 < cmpP (posL m.parts p1, p2) (posL m.parts q1, q2)
      · rw [if_pos h, if_pos ((cmpP_gt _ _).1 h)]
      · rw [if_neg h, if_neg (fun h2 => h ((cmpP_gt _ _).2 h2))]
    simp [hi, hj1, hjo]
    intro b8
    refine V.drawX (fun t => if t = 55 then some (.ro (.record [.int .i64 (posL m.parts p1), .str p2])) else if t = 59 then some (.ro (.record [.int .i64 (posL m.parts q1), .str q2])) else none) (by kernel_rfl) (by kernel_rfl) (by simp) ?_
    simp
    refine ⟨f1, f2, ?_⟩
    intro u1 u2
    refine ⟨by kernel_rfl, (compareP_fn (posL m.parts p1, p2) (posL m.parts q1, q2)).s ?_⟩
    by_cases hc : 0 < cmpP (posL m.parts p1, p2) (posL m.parts q1, q2)
    · rw [if_pos hc] at hpn
      rw [hpn]
      simp [hc]
      omega
    · rw [if_neg hc] at hpn
      rw [hpn]
      simp [hc]
      omega
  · rintro g -
    simp
    exact V.cut [(2, .ptr 2 b2 0), (3, aI 0), (4, .ptr 4 b4 0)] (Hs := ciH c b bg hp hj m b2 b4 g1 g xs (m.joins.map fun j => pipeN (portL m.parts j.1) (portL m.parts j.2))) (by simp) (by simp) (vc_of_rest rfl (cir_c (by simp; omega) fun H' h => hK g H' h))
theorem cir_a {K : A → Heap → Prop} {b2 b4 : Nat} (hs : m.parts.Pairwise (fun a b => byName b a = false)) (hl : m.parts.length ≤ 1000000) (hl2 : m.joins.length ≤ 1000000)
    (hK : ∀ g1 g2 H', subP (outH c b bg hp hj m g1 g2 m.parts (sortB earlierP (m.joins.map fun j => pipeN (portL m.parts j.1) (portL m.parts j.2)))) H' → K (.tuple [.agg [.own 60 g1, .own 61 g2], aI 0]) H') :
    vcN ⟨Tryz.prog, none, 79⟩ 1 (restC Tryz.f29 3) (hdE [(0, .ptr 170 b 0), (2, .ptr 2 b2 0), (3, aI 0), (4, .ptr 4 b4 0)] []) (ciH c b bg hp hj m b2 b4 (.slice none 0 0) (.slice none 0 0) [] [])
      (RetV Tryz.prog [.cell 2 32, .tmp 3] K) := by
  refine vcN_rest rfl ?_
  simp
  refine V.forI (σ := Value) m.parts.length [0, 2, 3, 4, 29, 30] (by simp; exact rfl) (fun i _ => [(31, aI i)])
    (fun i g => [(60, .seq g 65 3 ((m.parts.take i).map rPart)), (4, .box b4 [.own 60 g, .own 61 (.slice none 0 0)])]) (fun _ _ => True) (.slice none 0 0) trivial (by simp) ⟨by simp; exact rfl, by simp⟩ ?_ ?_
  · rintro i g hi -
    obtain ⟨p, hp1⟩ : ∃ p, m.parts[i] = p := ⟨_, rfl⟩
    have hpo : m.parts[i]? = some p := by rw [List.getElem?_eq_getElem hi, hp1]
    obtain ⟨ak, an, ad, asg, aa, av, al⟩ := p
    have hst : (m.parts.take (i + 1)).map rPart = (m.parts.take i).map rPart ++ [rPart ⟨ak, an, ad, asg, aa, av, al⟩] := by rw [List.take_add_one, hpo]; simp
    rw [hst]
    cases aa
    all_goals
      simp [hi, hp1, hpo, argA]
      omega
  · rintro g -
    simp
    exact V.cutN 1 [(0, .ptr 170 b 0), (2, .ptr 2 b2 0), (3, aI 0), (4, .ptr 4 b4 0)] (Hs := ciH c b bg hp hj m b2 b4 g (.slice none 0 0) m.parts []) (by simp) (by simp) (vcN_of_rest rfl (cir_b hs hl hl2 fun g2 H' h => hK g g2 H' h))
end
end Go.Proofs.YtdnkpogfcpjkpaaGreatDoor
end

section
namespace Go.Proofs.YtdnkpogfcpjkpaaGreatDoor
set_option maxHeartbeats 4000000
set_option maxRecDepth 10000
theorem ownF_s {c : Control} (hc : Sm c) {i : Nat} (hi : i < c.signals.length) {b bg : Nat} {hp hj : Value} {m : Mk} : CallS Tryz.prog 80 [.ptr 170 b 0, aI i] (fkH c b bg hp hj m) fun r H' => r = .dat (.str (ownT c i)) ∧ H' = fkH c b bg hp hj m := by
  obtain ⟨h1, h2, h3⟩ := hc
  have hit := Itoa_fn i (by omega)
  obtain ⟨x, hx⟩ : ∃ x, c.signals[i] = x := ⟨_, rfl⟩
  have hxo : c.signals[i]? = some x := by rw [List.getElem?_eq_getElem hi, hx]
  have hk : kindAt c i = x.kind := by simp [kindAt, hxo]
  have hnl := numT_len i
  refine callS_of Tryz.func80 rfl Tryz.ntmps80 (rs := [.tmp 4]) rfl (by kernel_rfl) (by simp) (by kernel_rfl) ?_
  simp [hi, hx]
  refine ⟨fun e => hit.s ?_, fun e => hit.s ?_⟩
  · simp [ownT, hk, e]
    omega
  · simp [ownT, hk, e]
    omega
theorem portF_s {c : Control} (hc : Sm c) (h0 : 0 ≤ c.actuators ∧ c.actuators ≤ 12) {line : Int} (hl : 0 ≤ line ∧ line < countC c) {b bg : Nat} {hp' hj : Value} {m : Mk} :
    CallS Tryz.prog 35 [.ptr 170 b 0, aI line] (fkH c b bg hp' hj m) fun r H' => r = .record (encPin (portM c m.gates line)) ∧ H' = fkH c b bg hp' hj m := by
  have hfs := firstF_s (b := b) (bg := bg) (hp := hp') (hj := hj) (m := m) hc
  obtain ⟨h1, h2, h3⟩ := hc
  have hcn : countC c = firstC c + c.signals.length := rfl
  have hfc : firstC c = 2 * c.actuators + c.inputs.length := rfl
  refine CallS.dropP (callS_of Tryz.func35 rfl Tryz.ntmps35 (rs := [.cell 4 98]) rfl (by kernel_rfl) (by simp) (by kernel_rfl) (K := fun r H' => r = .record (encPin (portM c m.gates line)) ∧ subP (fkH c b bg hp' hj m) H') ?_) (fun r H' ⟨e, h⟩ => ⟨_, h, e, rfl⟩)
  have hc : Sm c := ⟨h1, h2, h3⟩
  simp
  intro b4'
  refine hfs.c1.mono ?_
  rintro _ _ ⟨_, ⟨rfl, rfl⟩, rfl⟩
  obtain ⟨l, rfl⟩ : ∃ l : Nat, line = l := ⟨line.toNat, by omega⟩
  have e1 : ((l : Int).tdiv 2) = ((l / 2 : Nat) : Int) := by rw [Int.tdiv_eq_ediv_of_nonneg (by omega)]; rfl
  have e2 : ((l : Int).tmod 2) = ((l % 2 : Nat) : Int) := by rw [Int.tmod_eq_emod_of_nonneg (by omega)]; rfl
  by_cases hA : (l : Int) < 2 * c.actuators
  · have hp : portM c m.gates l = ⟨letterT (l / 2) ++ numT (l % 2), [50]⟩ := by
      unfold portM
      rw [if_pos hA, Int.toNat_natCast]
    have hn1 := numT_len (l % 2)
    rw [hp]
    simp [hA]
    refine ⟨by omega, by omega, by omega, ?_⟩
    rw [show ((l : Int) / 2) = ((l / 2 : Nat) : Int) from rfl]
    refine (letter_fn (l / 2) (by omega)).s ?_
    simp
    rw [e2]
    refine (Itoa_fn (l % 2) (by omega)).s ?_
    simp
    refine ⟨?_, subP.c (subP.refl _) _⟩
    simp [letterT]
    omega
  · by_cases hB : (l : Int) < firstC c
    · have hp : portM c m.gates l = ⟨c.inputs.getD (l - 2 * c.actuators).toNat [], [50]⟩ := by
        unfold portM
        rw [if_neg hA, if_pos hB]
      have hi : ((l : Int) - 2 * c.actuators).toNat < c.inputs.length := by omega
      rw [hp, List.getD_eq_getElem?_getD, List.getElem?_eq_getElem hi]
      have hB2 : (l : Int) - firstC c < 0 := by omega
      simp [hA, hB2]
      refine ⟨by omega, by omega, ?_⟩
      refine V.drawX (fun _ => none) (by kernel_rfl) (by kernel_rfl) (by simp) ?_
      simp [hi]
      exact ⟨by omega, by omega, by omega, subP.c (subP.refl _) _⟩
    · have hi : ((l : Int) - firstC c).toNat < c.signals.length := by omega
      obtain ⟨x, hx⟩ : ∃ x, c.signals[((l : Int) - firstC c).toNat] = x := ⟨_, rfl⟩
      have hxo : c.signals[((l : Int) - firstC c).toNat]? = some x := by rw [List.getElem?_eq_getElem hi, hx]
      have hk : kindAt c ((l : Int) - firstC c) = x.kind := by simp [kindAt, hxo]
      have hB2 : ¬ (l : Int) - firstC c < 0 := by omega
      have hown := ownF_s (b := b) (bg := bg) (hp := hp') (hj := hj) (m := m) hc hi
      rw [show ((((l : Int) - firstC c).toNat : Nat) : Int) = l - firstC c by omega] at hown
      have hp : portM c m.gates l = if x.kind = 1 then ⟨ownT c ((l : Int) - firstC c).toNat, [52]⟩ else if x.kind = 2 then ⟨ownT c ((l : Int) - firstC c).toNat, [50]⟩ else (getG m.gates l).getD noPin := by
        unfold portM
        rw [if_neg hA, if_neg hB, hk]
      rw [hp]
      simp [hA, hB2, hi, hx, hxo]
      have hsub : ∀ l, subP (fkH c b bg hp' hj m) ((4, .box b4' l) :: fkH c b bg hp' hj m) := fun l => subP.c (subP.refl _) _
      refine ⟨by omega, by omega, by omega, fun h => ?_, fun h => ⟨by omega, fun h2 => ?_, fun h2 => ?_⟩⟩
      · refine hown.c1.mono ?_
        rintro _ _ ⟨_, ⟨rfl, rfl⟩, rfl⟩
        simp [h]
        exact hsub _
      · refine hown.c1.mono ?_
        rintro _ _ ⟨_, ⟨rfl, rfl⟩, rfl⟩
        simp [h, h2]
        exact hsub _
      · rw [if_neg h, if_neg h2]
        have hg := get_gate l m.gates
        cases hgg : getG m.gates l with
        | none =>
          rw [hgg] at hg
          simp at hg
          simp [hg]
          exact hsub _
        | some q =>
          rw [hgg] at hg
          simp at hg
          simp [hg]
          exact hsub _
end Go.Proofs.YtdnkpogfcpjkpaaGreatDoor
end
