/- Texts joined by a program: Yd, Ej, Ek, So, Sp, Sh, Ga. -/
import Derived.Shelf.Sort.Plain
import Derived.Shelf.Slices.CompactI
import Derived.Shelf.Slices.In.SortNone
import Derived.Test.YtbcjnmifflflfaaGreatDoorProg
import Derived.KernelRfl
import Derived.Test.YtbcjnmifflflfaaGreatDoorW14
import Derived.Test.YtbcjnmifflflfaaGreatDoorW13
import Derived.Test.YtbcjnmifflflfaaGreatDoorW10
set_option linter.unusedSimpArgs false
set_option linter.unusedVariables false

section
namespace Go.Proofs.YtbcjnmifflflfaaGreatDoor
set_option maxHeartbeats 1000000
theorem allEq_iff {α : Type} {f : α → α → Bool} : ∀ {us ws : List α}, (∀ a ∈ us, ∀ b, f a b = true ↔ a = b) → (allEq f us ws = true ↔ us = ws)
  | [], [], _ => by simp [allEq]
  | [], _ :: _, _ => by simp [allEq]
  | _ :: _, [], _ => by simp [allEq]
  | u :: us, w :: ws, h => by
    have ih := allEq_iff (us := us) (ws := ws) fun a ha => h a (by simp [ha])
    simp only [allEq, Bool.and_eq_true, ih, h u (by simp), List.cons.injEq]
theorem eqE_iff : ∀ (N : Nat) (x : Expr), SizeOf.sizeOf x < N → ∀ y, eqE x y = true ↔ x = y
  | 0, _, h, _ => absurd h (Nat.not_lt_zero _)
  | N + 1, x, hN, y => by
    rw [eqE_eq]
    have h := allEq_iff (us := x.args) (ws := y.args) fun a ha => eqE_iff N a (by have := Expr.lt_of_mem ha; omega)
    simp only [Bool.and_eq_true, beq_iff_eq, h]
    cases x; cases y
    simp
    constructor
    · rintro ⟨⟨a, b⟩, d⟩; exact ⟨a, b, d⟩
    · rintro ⟨a, b, d⟩; exact ⟨⟨a, b⟩, d⟩
theorem eqE_true (x y : Expr) : eqE x y = true ↔ x = y := eqE_iff _ x (Nat.lt_succ_self _) y
theorem node_var {x : Expr} {n : Int} (h : nodeR x n = 0) (ho : x.op = 1) : x.args = [] := by
  unfold nodeR at h
  simp [ho] at h
  split at h
  · cases h
  · rename_i h3
    exact List.length_eq_zero_iff.1 (by omega)
theorem rep_size {n : Int} (l : List Int) : ∀ (N : Nat) (x : Expr), SizeOf.sizeOf x < N → RightE n x → szE (repE x l) = szE x ∧ dpE (repE x l) = dpE x
  | 0, _, h, _ => absurd h (Nat.not_lt_zero _)
  | N + 1, x, hN, hr => by
    have hL : ∀ xs : List Expr, (∀ y ∈ xs, y ∈ x.args) → szL (repL xs l) = szL xs ∧ dpL (repL xs l) = dpL xs := by
      intro xs
      induction xs with
      | nil => intro _; exact ⟨rfl, rfl⟩
      | cons y xs ih =>
        intro h
        have hy := h y (by simp)
        have h1 := rep_size l N y (by have := Expr.lt_of_mem hy; omega) (hr.args y hy)
        have h2 := ih fun z hz => h z (by simp [hz])
        simp only [repL, szL, dpL, h1, h2]
        trivial
    rw [repE_eq]
    by_cases ho : x.op = 1
    · rw [if_pos ho, szE_eq, dpE_eq, szE_eq x, dpE_eq x, node_var hr.node ho]
      exact ⟨rfl, rfl⟩
    · rw [if_neg ho, szE_eq, dpE_eq, szE_eq x, dpE_eq x]
      have := hL x.args fun _ h => h
      exact ⟨by rw [this.1], by rw [this.2]⟩
theorem rep_light {n : Int} {l : List Int} {x : Expr} (h : RightE n x) : lightE (repE x l) = lightE x := by
  have h1 := rep_size l _ x (Nat.lt_succ_self _) h
  have h2 := light_iff (repE x l)
  rw [h1.1, h1.2, ← light_iff] at h2
  cases h3 : lightE (repE x l) <;> cases h4 : lightE x <;> simp_all
theorem rep_ok {l : List Int} (hl : ∀ v ∈ l, I64 v) : ∀ (N : Nat) (x : Expr), SizeOf.sizeOf x < N → OkE x → OkE (repE x l)
  | 0, _, h, _ => absurd h (Nat.not_lt_zero _)
  | N + 1, x, hN, hx => by
    rw [repE_eq]
    have ho : inR .i64 x.op := by cases hx; assumption
    have hi : inR .i64 x.index := by cases hx; assumption
    split
    · refine .mk _ (by simp) (by rename_i h; rw [← h]; exact ho) ?_ (by intro a ha; cases ha)
      refine (inR_i64 _).2 ?_
      show I64 (l.getD x.index.toNat 0)
      rcases Nat.lt_or_ge x.index.toNat l.length with h | h
      · rw [List.getD_eq_getElem?_getD, List.getElem?_eq_getElem h]
        exact hl _ (List.getElem_mem h)
      · rw [List.getD_eq_getElem?_getD, List.getElem?_eq_none h]
        exact ⟨by decide, by decide⟩
    · refine .mk _ ?_ ho hi ?_
      · simp only [repL_map, List.length_map]
        exact hx.len
      · intro a ha
        simp only [repL_map, List.mem_map] at ha
        obtain ⟨y, hy, rfl⟩ := ha
        exact rep_ok hl N y (by have := Expr.lt_of_mem hy; omega) (hx.args y hy)
structure Look where
  kind : Int
  delay : Int
  init : Bool
  old : Int
  on : Option Expr
  off : Option Expr
def lookK (o : Option (List Int)) (l : Int) (x : Signal) : Look := ⟨x.kind, x.delay, x.init, match o with
  | none => 0
  | some old => old.getD l.toNat 0, o.map (repE x.on), o.map (repE x.off)⟩
def idK (c : Control) (o : Option (List Int)) (n : Nat) : Option Look := (c.signals[n]?).map (lookK o (firstC c + n))
def ownQ (c : Control) (n : Nat) : Prop := rootP c (firstC c + n) = firstC c + n
noncomputable def leadN (c : Control) (o : Option (List Int)) (n : Nat) : Nat := ((List.range n).find? fun j => @decide (ownQ c j ∧ idK c o j = idK c o n) (Classical.propDecidable _)).getD n
theorem lead_spec (c : Control) (o : Option (List Int)) (n : Nat) : leadN c o n ≤ n ∧ (leadN c o n < n → ownQ c (leadN c o n)) ∧ idK c o (leadN c o n) = idK c o n ∧ ∀ j, j < leadN c o n → ownQ c j → idK c o j ≠ idK c o n := by
  unfold leadN
  cases h : (List.range n).find? fun j => @decide (ownQ c j ∧ idK c o j = idK c o n) (Classical.propDecidable _) with
  | none =>
    rw [List.find?_range_eq_none] at h
    refine ⟨Nat.le_refl _, fun h => absurd h (Nat.lt_irrefl _), rfl, fun j hj ho e => ?_⟩
    have := h j hj
    simp [ho, e] at this
  | some i =>
    rw [List.find?_range_eq_some] at h
    obtain ⟨h1, h2, h3⟩ := h
    simp at h1 h2
    refine ⟨Nat.le_of_lt h2, fun _ => h1.1, h1.2, fun j hj ho e => ?_⟩
    have := h3 j hj
    simp [ho, e] at this
theorem lead_is {c : Control} {o : Option (List Int)} {n m : Nat} (h1 : m ≤ n) (h2 : m < n → ownQ c m) (h3 : idK c o m = idK c o n) (h4 : ∀ j, j < m → ownQ c j → idK c o j ≠ idK c o n) : leadN c o n = m := by
  obtain ⟨a, b, d, e⟩ := lead_spec c o n
  rcases Nat.lt_trichotomy (leadN c o n) m with h | h | h
  · exact absurd d (h4 _ h (b (by omega)))
  · exact h
  · exact absurd h3 (e m h (h2 (by omega)))
theorem lead_own {c : Control} {o : Option (List Int)} {n : Nat} (h : ownQ c n) : ownQ c (leadN c o n) := by
  obtain ⟨a, b, d, e⟩ := lead_spec c o n
  rcases Nat.lt_or_ge (leadN c o n) n with h1 | h1
  · exact b h1
  · rwa [show leadN c o n = n by omega]
theorem lead_lead (c : Control) (o : Option (List Int)) (n : Nat) : leadN c o (leadN c o n) = leadN c o n := by
  obtain ⟨a, b, d, e⟩ := lead_spec c o n
  refine lead_is (Nat.le_refl _) (fun h => absurd h (Nat.lt_irrefl _)) rfl fun j hj ho h => e j hj ho (h.trans d)
theorem lead_same {c : Control} {o : Option (List Int)} {n m : Nat} (h : idK c o m = idK c o n) (hm : ownQ c m) (hn : ownQ c n) : leadN c o m = leadN c o n := by
  obtain ⟨a, b, d, e⟩ := lead_spec c o n
  obtain ⟨a', b', d', e'⟩ := lead_spec c o m
  have o1 := lead_own (o := o) hn
  have o2 := lead_own (o := o) hm
  rcases Nat.lt_trichotomy (leadN c o m) (leadN c o n) with h1 | h1 | h1
  · exact absurd (d'.trans h) (e _ h1 o2)
  · exact h1
  · exact absurd (d.trans h.symm) (e' _ h1 o1)
noncomputable def divL (c : Control) (o : Option (List Int)) (k : Int) : Int := if rootP c k < firstC c then rootP c k else firstC c + leadN c o (rootP c k - firstC c).toNat
noncomputable def divP (c : Control) (o : Option (List Int)) : List Int := (List.range (countC c).toNat).map fun k : Nat => divL c o k
theorem div_length {c : Control} {o : Option (List Int)} (h0 : 0 ≤ firstC c) : ((divP c o).length : Int) = countC c := by
  have hcn : countC c = firstC c + c.signals.length := rfl
  simp [divP]
  omega
theorem div_at {c : Control} {o : Option (List Int)} {k : Int} (hk : 0 ≤ k ∧ k < countC c) : (divP c o)[k.toNat]? = some (divL c o k) := by
  unfold divP
  rw [List.getElem?_map, List.getElem?_range (by omega), Option.map_some, Int.toNat_of_nonneg hk.1]
theorem div_getD {c : Control} {o : Option (List Int)} {k : Int} (hk : 0 ≤ k ∧ k < countC c) : (divP c o).getD k.toNat 0 = divL c o k := by
  rw [List.getD_eq_getElem?_getD, div_at hk]
  rfl
theorem divL_range {c : Control} (hf : Fine c) {o : Option (List Int)} {k : Int} (hk : 0 ≤ k ∧ k < countC c) : 0 ≤ divL c o k ∧ divL c o k < countC c := by
  have h0 : 0 ≤ firstC c := by have := hf.act; unfold firstC; omega
  have hcn : countC c = firstC c + c.signals.length := rfl
  have hr := (root_range hf _ k (Nat.le_refl _) hk).1
  unfold divL
  split
  · exact hr
  · have := (lead_spec c o (rootP c k - firstC c).toNat).1
    omega
theorem div_mem {c : Control} (hf : Fine c) {o : Option (List Int)} {v : Int} (hv : v ∈ divP c o) : 0 ≤ v ∧ v < countC c := by
  unfold divP at hv
  simp only [List.mem_map, List.mem_range] at hv
  obtain ⟨k, hk, rfl⟩ := hv
  exact divL_range hf (by omega)
noncomputable def leads (c : Control) (o : Option (List Int)) : Nat := ((List.range c.signals.length).filter fun n => @decide (ownQ c n ∧ leadN c o n = n) (Classical.propDecidable _)).length
theorem filter_le {α : Type} {p q : α → Bool} : ∀ {l : List α}, (∀ a ∈ l, p a = true → q a = true) → (l.filter p).length ≤ (l.filter q).length ∧ ((l.filter q).length ≤ (l.filter p).length → ∀ a ∈ l, q a = true → p a = true)
  | [], _ => by simp
  | a :: l, h => by
    obtain ⟨ih1, ih2⟩ := filter_le (l := l) fun b hb => h b (by simp [hb])
    have ha := h a (by simp)
    cases hp : p a <;> cases hq : q a
    · simp only [List.filter_cons, hp, hq]
      refine ⟨by simpa using ih1, fun hle b hb hqb => ?_⟩
      rcases List.mem_cons.1 hb with rfl | hb
      · rw [hq] at hqb; cases hqb
      · exact ih2 (by simpa using hle) b hb hqb
    · simp only [List.filter_cons, hp, hq]
      refine ⟨by simp; omega, fun hle => ?_⟩
      simp at hle
      omega
    · rw [ha hp] at hq; cases hq
    · simp only [List.filter_cons, hp, hq]
      refine ⟨by simpa using ih1, fun hle b hb hqb => ?_⟩
      rcases List.mem_cons.1 hb with rfl | hb
      · exact hp
      · exact ih2 (by simpa using hle) b hb hqb
theorem own_div {c : Control} {o : Option (List Int)} (h0 : 0 ≤ firstC c) {n : Nat} (hn : n < c.signals.length) (ho : ownQ c n) : (divP c o).getD (firstC c + n).toNat 0 = firstC c + leadN c o n := by
  have hcn : countC c = firstC c + c.signals.length := rfl
  rw [div_getD ⟨by omega, by omega⟩]
  unfold divL
  rw [ho, if_neg (by omega)]
  rw [show (firstC c + n - firstC c).toNat = n by omega]
theorem id_old {c : Control} {l : List Int} {j n : Nat} (hn : n < c.signals.length) (h : idK c (some l) j = idK c (some l) n) : l.getD (firstC c + j).toNat 0 = l.getD (firstC c + n).toNat 0 := by
  unfold idK at h
  rw [List.getElem?_eq_getElem hn] at h
  cases hj : c.signals[j]? with
  | none => rw [hj] at h; cases h
  | some x =>
    rw [hj] at h
    simp only [Option.map_some, Option.some.injEq, lookK] at h
    exact (Look.mk.inj h).2.2.2.1
theorem lead_grow {c : Control} {o : Option (List Int)} (h0 : 0 ≤ firstC c) {n : Nat} (hn : n < c.signals.length) (ho : ownQ c n) (hl : leadN c o n = n) : leadN c (some (divP c o)) n = n := by
  obtain ⟨a, b, d, e⟩ := lead_spec c (some (divP c o)) n
  rcases Nat.lt_or_ge (leadN c (some (divP c o)) n) n with h | h
  · have h1 := id_old hn d
    rw [own_div h0 (by omega) (b h), own_div h0 hn ho, hl] at h1
    have := (lead_spec c o (leadN c (some (divP c o)) n)).1
    omega
  · omega
theorem leads_grow {c : Control} (hf : Fine c) (o : Option (List Int)) : leads c o ≤ leads c (some (divP c o)) ∧ (leads c (some (divP c o)) ≤ leads c o → divP c (some (divP c o)) = divP c o) := by
  have h0 : 0 ≤ firstC c := by have := hf.act; unfold firstC; omega
  have hcn : countC c = firstC c + c.signals.length := rfl
  have h := filter_le (p := fun n => @decide (ownQ c n ∧ leadN c o n = n) (Classical.propDecidable _)) (q := fun n => @decide (ownQ c n ∧ leadN c (some (divP c o)) n = n) (Classical.propDecidable _)) (l := List.range c.signals.length) (by
    intro n hn hp
    simp only [decide_eq_true_eq, List.mem_range] at hn hp ⊢
    exact ⟨hp.1, lead_grow h0 hn hp.1 hp.2⟩)
  refine ⟨h.1, fun hle => ?_⟩
  have h2 := h.2 hle
  have h3 : ∀ n, n < c.signals.length → ownQ c n → leadN c (some (divP c o)) n = leadN c o n := by
    intro n hn ho
    obtain ⟨a, b, d, e⟩ := lead_spec c (some (divP c o)) n
    have o1 := lead_own (o := some (divP c o)) ho
    have h4 := h2 (leadN c (some (divP c o)) n) (List.mem_range.2 (by omega)) (by
      simp only [decide_eq_true_eq]
      exact ⟨o1, lead_lead c _ n⟩)
    simp only [decide_eq_true_eq] at h4
    have h5 := id_old hn d
    rw [own_div h0 (by omega) o1, own_div h0 hn ho, h4.2] at h5
    omega
  show ((List.range (countC c).toNat).map fun k : Nat => divL c (some (divP c o)) k) = (List.range (countC c).toNat).map fun k : Nat => divL c o k
  apply List.map_congr_left
  intro k hk
  have hk2 : k < (countC c).toNat := List.mem_range.1 hk
  have hr := root_range hf _ (k : Int) (Nat.le_refl _) ⟨by omega, by omega⟩
  unfold divL
  split
  · rfl
  · rename_i hge
    rw [h3 _ (by omega)]
    unfold ownQ
    rw [show firstC c + ((rootP c k - firstC c).toNat : Int) = rootP c k by omega]
    rw [root_step hf hr.1, if_neg (by rw [hr.2]; decide)]
noncomputable def clsO (c : Control) : Nat → Option (List Int)
  | 0 => none
  | k + 1 => some (divP c (clsO c k))
noncomputable def clsP (c : Control) (k : Nat) : List Int := divP c (clsO c k)
noncomputable def alikeC (c : Control) : List Int := clsP c (c.signals.length + 1)
theorem leads_le (c : Control) (o : Option (List Int)) : leads c o ≤ c.signals.length := by
  unfold leads
  exact Nat.le_trans (List.length_filter_le _ _) (by simp)
theorem cls_succ (c : Control) (k : Nat) : clsP c (k + 1) = divP c (some (clsP c k)) := rfl
theorem cls_stay {c : Control} {k : Nat} (h : clsP c (k + 1) = clsP c k) : ∀ m, k ≤ m → clsP c m = clsP c k := by
  intro m
  induction m with
  | zero => intro hk; rw [show k = 0 by omega]
  | succ m ih =>
    intro hk
    rcases Nat.lt_or_ge m k with h1 | h1
    · rw [show k = m + 1 by omega]
    · rw [cls_succ, ih h1, ← cls_succ, h]
theorem cls_more {c : Control} (hf : Fine c) {k : Nat} (hk : k ≤ leads c (clsO c k)) (h : clsP c (k + 1) ≠ clsP c k) : k + 1 ≤ leads c (clsO c (k + 1)) := by
  have h1 := leads_grow hf (clsO c k)
  by_cases h2 : leads c (some (divP c (clsO c k))) ≤ leads c (clsO c k)
  · exact absurd (h1.2 h2) h
  · show k + 1 ≤ leads c (some (divP c (clsO c k)))
    omega
theorem cls_alike {c : Control} {k : Nat} (hk : k ≤ leads c (clsO c k)) (h : clsP c (k + 1) = clsP c k) : clsP c k = alikeC c := by
  have := leads_le c (clsO c k)
  exact (cls_stay h _ (by omega)).symm
theorem alike_stay {c : Control} (hf : Fine c) : divP c (some (alikeC c)) = alikeC c := by
  have h : ∀ k, (∃ j, j ≤ k ∧ clsP c (j + 1) = clsP c j) ∨ k + 1 ≤ leads c (clsO c (k + 1)) := by
    intro k
    induction k with
    | zero =>
      by_cases h : clsP c 1 = clsP c 0
      · exact .inl ⟨0, Nat.le_refl _, h⟩
      · exact .inr (cls_more hf (Nat.zero_le _) h)
    | succ k ih =>
      rcases ih with ⟨j, hj, h⟩ | ih
      · exact .inl ⟨j, by omega, h⟩
      · by_cases h : clsP c (k + 1 + 1) = clsP c (k + 1)
        · exact .inl ⟨k + 1, Nat.le_refl _, h⟩
        · exact .inr (cls_more hf ih h)
  rcases h c.signals.length with ⟨j, hj, h⟩ | h
  · show clsP c (c.signals.length + 1 + 1) = clsP c (c.signals.length + 1)
    exact (cls_stay h _ (by omega)).trans (cls_stay h _ (by omega)).symm
  · have := leads_le c (clsO c (c.signals.length + 1))
    omega
theorem cls_length {c : Control} (h0 : 0 ≤ firstC c) (k : Nat) : ((clsP c k).length : Int) = countC c := div_length h0
theorem cls_mem {c : Control} (hf : Fine c) {k : Nat} {v : Int} (hv : v ∈ clsP c k) : 0 ≤ v ∧ v < countC c := div_mem hf hv
end Go.Proofs.YtbcjnmifflflfaaGreatDoor
end

section
namespace Go.Proofs.YtbcjnmifflflfaaGreatDoor
set_option maxHeartbeats 4000000
set_option maxRecDepth 10000
end Go.Proofs.YtbcjnmifflflfaaGreatDoor
end

section
namespace Go.Proofs.YtbcjnmifflflfaaGreatDoor
set_option maxHeartbeats 4000000
set_option maxRecDepth 10000
end Go.Proofs.YtbcjnmifflflfaaGreatDoor
end

section
namespace Go.Proofs.YtbcjnmifflflfaaGreatDoor
open Go.Sort
variable {P : Program} {ρ : Go.Shelf.Ren}
theorem rI_vals {x : X} : ∀ {zs : List Int} {vs : List Value}, Ds x (zs.map rI).flatten vs → vs = zs.map (Value.int .i64)
  | [], [], _ => rfl
  | z :: zs, v :: vs, h => by
    simp only [List.map_cons, List.flatten_cons, List.cons_append, List.nil_append, rI, Ds, D, RdL] at h
    rw [h.1, rI_vals h.2, List.map_cons]
  | [], _ :: _, h => by simp [Ds] at h
  | _ :: _, [], h => by simp [Ds, rI] at h
theorem rI_Ds {x : X} : ∀ (zs : List Int), Ds x (zs.map rI).flatten (zs.map (Value.int .i64))
  | [] => by simp [Ds]
  | z :: zs => by
    simp only [List.map_cons, List.flatten_cons, List.cons_append, List.nil_append, rI, Ds, D, RdL]
    exact ⟨trivial, rI_Ds zs⟩
theorem rI_len {zs : List Int} : ∀ r ∈ zs.map rI, r.length = 1 := by
  intro r hr
  obtain ⟨z, _, rfl⟩ := List.mem_map.1 hr
  rfl
theorem ints_own {x : X} {h : Value} {e : TypeId} {zs : List Int} (hs : Ent.sat x (.seq h e 1 (zs.map rI))) :
    (h = .slice none 0 0 ∧ zs = []) ∨ ∃ g cap cur, h = .slice (some ⟨g, 0, none⟩) zs.length cap ∧ x.w.heap[g]? = some (.cells cur e (0, 0)) ∧ zs.length ≤ cap ∧ cap ≤ maxLen ∧ cur.size = cap ∧ cur.toList.take zs.length = zs.map (Value.int .i64) := by
  obtain ⟨xs, ⟨h1, h2⟩, h3, h4⟩ := hs
  have hx := rI_vals h4
  subst hx
  rcases h2 with ⟨rfl, h0⟩ | ⟨g, cap, cur, rfl, _, h5, h6, h7, h8, h9⟩
  · exact .inl ⟨rfl, by simpa using h0⟩
  · refine .inr ⟨g, cap, cur, by simp, h5, by simpa using h6, h7, by simpa using h8, by simpa using h9⟩
theorem ints_holds {x : X} {g : Nat} {cur : Array Value} {e : TypeId} {zs : List Int} (h5 : x.w.heap[g]? = some (.cells cur e (0, 0))) (h9 : cur.toList.take zs.length = zs.map (Value.int .i64)) :
    Holds (Value.int .i64) x.w g 0 zs.toArray := by
  intro j hj
  have hj' : j < zs.length := by simpa using hj
  have hc : cur[j]? = some (.int .i64 zs[j]) := by
    have : (cur.toList.take zs.length)[j]? = some (.int .i64 zs[j]) := by rw [h9]; simp [hj']
    rw [List.getElem?_take] at this
    simpa [hj'] using this
  constructor
  · have hz : zs.toArray[j]! = zs[j] := by simp [hj']
    rw [hz]
    simp [World.cell?, h5, hc]
  · simp [World.frozen?, h5]
theorem putRow_block {w : World} {g n : Nat} {cur : Array Value} {e : TypeId} (h5 : w.heap[g]? = some (.cells cur e (0, 0))) (d : Array Int) (os : Array Obj) :
    (grow (putRow (Value.int .i64) (Sort.ahead w n) g 0 d) os).heap[g]? = some (.cells (putCells (Value.int .i64) 0 d cur) e (0, 0)) ∧ ∀ k, k < w.heap.size → k ≠ g → (grow (putRow (Value.int .i64) (Sort.ahead w n) g 0 d) os).heap[k]? = w.heap[k]? := by
  have hlt := (Array.getElem?_eq_some_iff.1 h5).1
  have hsz : (putRow (Value.int .i64) (Sort.ahead w n) g 0 d).heap.size = w.heap.size := by simp [putRow, mapBlock, Sort.ahead]
  have hgr : ∀ k, k < w.heap.size → (grow (putRow (Value.int .i64) (Sort.ahead w n) g 0 d) os).heap[k]? = (putRow (Value.int .i64) (Sort.ahead w n) g 0 d).heap[k]? := by
    intro k hk
    simp only [grow]
    rw [Array.getElem?_append_left (by rw [hsz]; exact hk)]
  constructor
  · rw [hgr g hlt]
    simp [putRow, mapBlock, Sort.ahead, Array.getElem?_modify, h5, onCells]
  · intro k hk hne
    rw [hgr k hk]
    simp [putRow, mapBlock, Sort.ahead, Array.getElem?_modify, Ne.symm hne]
theorem putCells_take (d : Array Int) (cur : Array Value) (m : Nat) (hm : m ≤ d.size) (hd : d.size ≤ cur.size) : (putCells (Value.int .i64) 0 d cur).toList.take m = (d.toList.take m).map (Value.int .i64) := by
  apply List.ext_getElem?
  intro k
  rw [List.getElem?_take, List.getElem?_map, List.getElem?_take]
  split
  · rename_i hk
    have h1 : k < cur.size := by omega
    have h2 : k < d.size := by omega
    simp [putCells, h1, h2]
  · simp
theorem seq_putRow {x : X} {H : Heap} {t g cap q : Nat} {e : TypeId} {zs : List Int} (hi : Inv x ((t, .seq (.slice (some ⟨g, 0, none⟩) zs.length cap) e 1 (zs.map rI)) :: H)) (d : List Int) (hd : d.length = zs.length) (m : Nat) (hm : m ≤ d.length) (os : Array Obj) :
    ∃ y : X, y.w = grow (putRow (Value.int .i64) (Sort.ahead x.w q) g 0 d.toArray) os ∧ x.le y ∧ Inv y ((t, .seq (.slice (some ⟨g, 0, none⟩) m cap) e 1 ((d.take m).map rI)) :: H) := by
  have hs := hi.sat _ (List.mem_cons_self)
  rcases ints_own hs with ⟨h, _⟩ | ⟨g', cap', cur, h, h5, h6, h7, h8, h9⟩
  · cases h
  · cases h
    obtain ⟨b1, b2⟩ := putRow_block (n := q) h5 d.toArray os
    have hlt := (Array.getElem?_eq_some_iff.1 h5).1
    have hsz : x.w.heap.size ≤ (grow (putRow (Value.int .i64) (Sort.ahead x.w q) g 0 d.toArray) os).heap.size := by simp [grow, putRow, mapBlock, Sort.ahead]
    let y : X := ⟨grow (putRow (Value.int .i64) (Sort.ahead x.w q) g 0 d.toArray) os, x.ok⟩
    have hfin : x.le y ∧ Inv y ((t, .seq (.slice (some ⟨g, 0, none⟩) m cap) e 1 ((d.take m).map rI)) :: H) := by
     refine hi.ofOwn (y := y) (g' := t) (h' := .slice (some ⟨g, 0, none⟩) m cap) (rows' := (d.take m).map rI) rfl ?_ ?_ ?_ ?_
     · have hrl : ((d.take m).map rI).length = m := by rw [List.length_map, List.length_take]; omega
       have hrv : ((d.take m).map (Value.int .i64)).length = m * 1 := by rw [List.length_map, List.length_take]; omega
       have hpt := putCells_take d.toArray cur m (by simpa using hm) (by rw [List.size_toArray]; omega)
       have hps : (putCells (Value.int .i64) 0 d.toArray cur).size = cap * 1 := by simp [putCells, h8]
       refine ⟨(d.take m).map (Value.int .i64), ⟨by rw [hrl]; exact hrv, .inr ⟨g, cap, _, by rw [hrl], Nat.zero_le _, b1, by rw [hrl]; omega, h7, hps, ?_⟩⟩, rI_len, rI_Ds _⟩
       rw [hrl, Nat.mul_one]
       exact hpt
     · refine ⟨rfl, rfl, rfl, hsz, ?_⟩
       intro k hk hne
       exact b2 k hk fun e => hne (by simp [Value.ownBlock, e])
     · show x.w.drawn ≤ (grow (putRow (Value.int .i64) (Sort.ahead x.w q) g 0 d.toArray) os).drawn
       simp [grow, putRow, mapBlock, Sort.ahead]
     · intro k hk
       simp only [Value.ownBlock, Option.some.injEq] at hk
       subst hk
       exact ⟨.inl rfl, Nat.lt_of_lt_of_le hlt hsz⟩
    exact ⟨y, rfl, hfin⟩
theorem Ds_one {x : X} {t : Nat} {h : Value} {args : Array Value} (hd : Ds x [.own t h] args.toList) : args = #[h] := by
  rcases args with ⟨l⟩
  rcases l with _ | ⟨a, _ | ⟨b, l⟩⟩ <;> simp [Ds, D] at hd
  rw [hd.1]
theorem unit_D (y : X) : D y (.tuple []) (.tuple #[]) := by simp [D, Ds]
def sortI (zs : List Int) : List Int := zs.mergeSort fun x y => decide (x ≤ y)
theorem sortI_len (zs : List Int) : (sortI zs).length = zs.length := by simp [sortI]
theorem sortI_s (Ly : Go.Proofs.Lays.n189 P ρ) (hc : Callable P (ρ.f 189)) {e t : Nat} {h : Value} {zs : List Int} (hz : zs.length < 4611686018427387904) :
    CallS P (ρ.f 189) [.own t h] [(t, .seq h e 1 (zs.map rI))] fun r H' => r = .tuple [] ∧ H' = [(t, .seq h e 1 ((sortI zs).map rI))] := by
  refine ⟨hc, fun x args H0 hi hd => ?_⟩
  obtain rfl := Ds_one hd
  have hs := hi.sat _ (List.mem_cons_self)
  rcases ints_own hs with ⟨rfl, rfl⟩ | ⟨g, cap, cur, rfl, h5, h6, h7, h8, h9⟩
  · refine (Any.slices_Sort_int_none Ly none 0 x.w).mono ?_
    rintro _ _ ⟨rfl, rfl⟩
    exact ⟨x, _, .tuple [], _, rfl, rfl, .refl x, by simpa [sortI] using hi, unit_D x, rfl, rfl⟩
  · refine (Any.slices_Sort_int Ly g 0 cap zs x.w (ints_holds h5 h9) (Array.getElem?_eq_some_iff.1 h5).1 hz).mono ?_
    rintro _ _ ⟨rfl, n, os, rfl⟩
    obtain ⟨y, k1, k2, k3⟩ := seq_putRow hi (q := n) (sortI zs) (sortI_len zs) (sortI zs).length (Nat.le_refl _) os
    rw [List.take_length, sortI_len] at k3
    exact ⟨y, _, .tuple [], _, rfl, k1, k2, k3, unit_D y, rfl, rfl⟩
def compI (zs : List Int) : List Int := Go.Lib.compact zs
theorem compI_le (zs : List Int) : (compI zs).length ≤ zs.length := by
  unfold compI Go.Lib.compact Go.Lib.compactUpTo
  rw [List.length_map]
  exact Nat.le_trans (List.length_filter_le _ _) (by simp)
theorem compI_s (Ly : Go.Proofs.Lays2.n20 P ρ) (hc : Callable P (ρ.f 20)) {e t : Nat} {h : Value} {zs : List Int} (hz : zs.length ≤ 9223372036854775807) :
    CallS P (ρ.f 20) [.own t h] [(t, .seq h e 1 (zs.map rI))] fun r H' => ∃ h2, r = .own t h2 ∧ H' = [(t, .seq h2 e 1 ((compI zs).map rI))] := by
  refine ⟨hc, fun x args H0 hi hd => ?_⟩
  obtain rfl := Ds_one hd
  have hs := hi.sat _ (List.mem_cons_self)
  rcases ints_own hs with ⟨rfl, rfl⟩ | ⟨g, cap, cur, rfl, h5, h6, h7, h8, h9⟩
  · refine (Any.slices_Compact_int_empty Ly none 0 x.w).mono ?_
    rintro _ _ ⟨rfl, rfl⟩
    exact ⟨x, _, .own t _, _, rfl, rfl, .refl x, hi, by simp only [D]; exact ⟨rfl, _, _, _, rfl⟩, _, rfl, by simp [compI, Go.Lib.compact, Go.Lib.compactUpTo]⟩
  · refine (Any.slices_Compact_int Ly g 0 cap zs x.w (ints_holds h5 h9) hz h6).mono ?_
    rintro _ _ ⟨rfl, q, rfl⟩
    have hle := compI_le zs
    obtain ⟨y, k1, k2, k3⟩ := seq_putRow hi (q := q) (compI zs ++ List.replicate (zs.length - (compI zs).length) 0) (by simp; omega) (compI zs).length (by simp) #[]
    rw [List.take_left] at k3
    refine ⟨y, _, .own t (.slice (some ⟨g, 0, none⟩) (compI zs).length cap), _, rfl, by rw [k1, grow_empty]; rfl, k2, k3, by simp [D, compI], _, rfl, rfl⟩
end Go.Proofs.YtbcjnmifflflfaaGreatDoor
end

section
namespace Go.Proofs.YtbcjnmifflflfaaGreatDoor
set_option maxHeartbeats 1000000
theorem lt_ext : ∀ {l r : List Int}, l.Pairwise (· < ·) → r.Pairwise (· < ·) → (∀ z, z ∈ l ↔ z ∈ r) → l = r
  | [], [], _, _, _ => rfl
  | [], b :: r, _, _, h => by have := (h b).2 (by simp); simp at this
  | a :: l, [], _, _, h => by have := (h a).1 (by simp); simp at this
  | a :: l, b :: r, h1, h2, h => by
    obtain ⟨a1, a2⟩ := List.pairwise_cons.1 h1
    obtain ⟨b1, b2⟩ := List.pairwise_cons.1 h2
    have e : a = b := by
      have h3 := (h a).1 (by simp)
      have h4 := (h b).2 (by simp)
      rcases List.mem_cons.1 h3 with e | h3
      · exact e
      · rcases List.mem_cons.1 h4 with e | h4
        · exact e.symm
        · have := b1 a h3; have := a1 b h4; omega
    subst e
    rw [lt_ext a2 b2 fun z => ?_]
    constructor
    · intro hz
      have hne := a1 z hz
      rcases List.mem_cons.1 ((h z).1 (by simp [hz])) with e | e
      · omega
      · exact e
    · intro hz
      have hne := b1 z hz
      rcases List.mem_cons.1 ((h z).2 (by simp [hz])) with e | e
      · omega
      · exact e
theorem comp_sorted {zs : List Int} (h : zs.Pairwise (· ≤ ·)) : (compI zs).Pairwise (· < ·) ∧ ∀ z, z ∈ compI zs ↔ z ∈ zs := by
  have hd : ∀ j, j < zs.length → zs.toArray[j]! = zs[j]! := fun j hj => by simp [hj]
  have key : ∀ m, m ≤ zs.length → (Go.Lib.compactUpTo zs.toArray m).Pairwise (· < ·) ∧ (∀ z ∈ Go.Lib.compactUpTo zs.toArray m, ∃ j, j < m ∧ z = zs[j]!) ∧ (∀ j, j < m → zs[j]! ∈ Go.Lib.compactUpTo zs.toArray m) := by
    intro m
    induction m with
    | zero => intro _; simp [Go.Lib.compactUpTo]
    | succ m ih =>
      intro hm
      obtain ⟨i1, i2, i3⟩ := ih (by omega)
      have hle : ∀ j, j ≤ m → zs[j]! ≤ zs[m]! := by
        intro j hj
        rcases Nat.lt_or_ge j m with h1 | h1
        · have := List.pairwise_iff_getElem.1 h j m (by omega) (by omega) h1
          simpa [show j < zs.length by omega, show m < zs.length by omega] using this
        · obtain rfl : j = m := by omega
          exact Int.le_refl _
      rw [Go.Lib.compactUpTo_succ]
      by_cases hk : Go.Lib.keeps zs.toArray m = true
      · rw [if_pos hk, hd m (by omega)]
        refine ⟨?_, ?_, ?_⟩
        · refine List.pairwise_append.2 ⟨i1, by simp, ?_⟩
          intro a ha b hb
          simp only [List.mem_singleton] at hb
          subst hb
          obtain ⟨j, hj, rfl⟩ := i2 a ha
          have h1 := hle j (by omega)
          by_cases he : zs[j]! = zs[m]!
          · exfalso
            have h0 : 0 < m := by omega
            have hlow : zs[j]! ≤ zs[m - 1]! := by
              rcases Nat.lt_or_ge j (m - 1) with h2 | h2
              · have := List.pairwise_iff_getElem.1 h j (m - 1) (by omega) (by omega) h2
                simpa [show j < zs.length by omega, show m - 1 < zs.length by omega] using this
              · obtain rfl : j = m - 1 := by omega
                exact Int.le_refl _
            have hup := hle (m - 1) (by omega)
            simp only [Go.Lib.keeps, decide_eq_true_eq] at hk
            rcases hk with hk | hk
            · omega
            · rw [hd m (by omega), hd (m - 1) (by omega)] at hk
              omega
          · omega
        · intro z hz
          rcases List.mem_append.1 hz with hz | hz
          · obtain ⟨j, hj, e⟩ := i2 z hz; exact ⟨j, by omega, e⟩
          · simp only [List.mem_singleton] at hz; exact ⟨m, by omega, hz⟩
        · intro j hj
          rcases Nat.lt_or_ge j m with h1 | h1
          · exact List.mem_append.2 (.inl (i3 j h1))
          · obtain rfl : j = m := by omega
            simp
      · rw [if_neg hk, List.append_nil]
        refine ⟨i1, fun z hz => ?_, fun j hj => ?_⟩
        · obtain ⟨j, hj, e⟩ := i2 z hz; exact ⟨j, by omega, e⟩
        · rcases Nat.lt_or_ge j m with h1 | h1
          · exact i3 j h1
          · obtain rfl : j = m := by omega
            simp only [Go.Lib.keeps, decide_eq_true_eq, not_or, Classical.not_not] at hk
            rw [hd j (by omega), hd (j - 1) (by omega)] at hk
            rw [hk.2]
            exact i3 (j - 1) (by omega)
  obtain ⟨k1, k2, k3⟩ := key zs.length (Nat.le_refl _)
  refine ⟨by simpa [compI, Go.Lib.compact] using k1, fun z => ⟨fun hz => ?_, fun hz => ?_⟩⟩
  · obtain ⟨j, hj, rfl⟩ := k2 z (by simpa [compI, Go.Lib.compact] using hz)
    simp [hj]
  · obtain ⟨j, hj, rfl⟩ := List.getElem_of_mem hz
    have := k3 j hj
    simpa [compI, Go.Lib.compact, hj] using this
theorem sortI_sorted (zs : List Int) : (sortI zs).Pairwise (· ≤ ·) := by
  have := List.pairwise_mergeSort (le := fun x y : Int => decide (x ≤ y)) (by intro a b c; simp; omega) (by intro a b; simp; omega) zs
  simpa [sortI] using this
def metB (M : Nat) (p : Nat → Bool) : List Int := ((List.range M).filter p).map fun k : Nat => (k : Int)
theorem metB_sorted (M : Nat) (p : Nat → Bool) : (metB M p).Pairwise (· < ·) := by
  unfold metB
  rw [List.pairwise_map]
  refine List.Pairwise.filter _ ?_
  refine List.Pairwise.imp ?_ (List.pairwise_lt_range)
  intro a b h
  omega
theorem uniq_met {zs : List Int} {M : Nat} {p : Nat → Bool} (h : ∀ z ∈ zs, 0 ≤ z ∧ z < M) (hp : ∀ k : Nat, k < M → (p k = true ↔ (k : Int) ∈ zs)) : compI (sortI zs) = metB M p := by
  obtain ⟨c1, c2⟩ := comp_sorted (sortI_sorted zs)
  refine lt_ext c1 (metB_sorted M p) fun z => ?_
  rw [c2]
  have hm : z ∈ sortI zs ↔ z ∈ zs := by simp [sortI, List.mem_mergeSort]
  rw [hm]
  simp only [metB, List.mem_map, List.mem_filter, List.mem_range]
  constructor
  · intro hz
    obtain ⟨h1, h2⟩ := h z hz
    exact ⟨z.toNat, ⟨by omega, (hp z.toNat (by omega)).2 (by rw [show ((z.toNat : Nat) : Int) = z by omega]; exact hz)⟩, by omega⟩
  · rintro ⟨k, ⟨h1, h2⟩, rfl⟩
    exact (hp k h1).1 h2
def stepV (k : Int) (v : Bool) (t : Int) (on off : Bool) : Bool × Int × Bool :=
  if k = 1 then (if on != off then on else v, t, on && off)
  else if k = 2 then (if on = false then (false, 0, false) else (v, if t = 0 then 1 else t, false))
  else (v, t, false)
def sigStep (c : Control) (s : State) (L : List Bool) (i : Nat) : Bool × Int × Bool := match c.signals[i]?, s.values[i]?, s.timers[i]? with
  | some x, some v, some t => stepV x.kind v t (evalE x.on L) (x.kind == 1 && evalE x.off L)
  | _, _, _ => (false, 0, false)
def newV (c : Control) (s : State) : List Bool := (List.range c.signals.length).map fun i => (sigStep c s (valuesOf s) i).1
def newT (c : Control) (s : State) : List Int := (List.range c.signals.length).map fun i => (sigStep c s (valuesOf s) i).2.1
def onceS (c : Control) (s : State) : State := { s with values := newV c s, timers := newT c s }
def roundS (c : Control) (s : State) : State := onceS c (gatesP c s)
theorem sm_of {c : Control} {s : State} (hf : Fine c) (h : shapeS c s) : SmS s := by
  obtain ⟨h1, h2, h3, h4, h5⟩ := h
  have := hf.act
  have := hf.inp
  have := hf.sig
  exact ⟨by omega, by omega, by omega, by omega, by omega⟩
theorem once_shape {c : Control} {s : State} (h : shapeS c s) : shapeS c (onceS c s) := by
  obtain ⟨h1, h2, h3, h4, h5⟩ := h
  exact ⟨h1, h2, h3, by simp [onceS, newV], by simp [onceS, newT]⟩
end Go.Proofs.YtbcjnmifflflfaaGreatDoor
end

section
namespace Go.Proofs.YtbcjnmifflflfaaGreatDoor
set_option maxRecDepth 100000
set_option maxHeartbeats 4000000
def sortRen : Go.Shelf.Ren := ⟨fun | 125 => 98 | 128 => 177 | 129 => 178 | 189 => 46 | 215 => 196 | 216 => 111 | 257 => 97 | 294 => 169 | 295 => 170 | 296 => 171 | 297 => 172 | 298 => 173 | 299 => 174 | 300 => 175 | 301 => 176 | 328 => 232 | 329 => 233 | 330 => 234 | 331 => 235 | 332 => 236 | 343 => 283 | n => n, fun | 0 => 0 | 3 => 3 | 4 => 4 | 5 => 5 | 9 => 9 | 28 => 24 | 46 => 169 | 51 => 250 | 53 => 252 | 131 => 98 | 182 => 243 | 183 => 244 | 218 => 303 | 222 => 307 | 228 => 347 | 229 => 43 | n => n, fun n => n⟩
theorem sortLays : Go.Proofs.Lays.n189 Tryz.prog sortRen := {
  mixed := by kernel_rfl,
  f125 := by kernel_rfl,
  f128 := by kernel_rfl,
  f129 := by kernel_rfl,
  f189 := by kernel_rfl,
  f215 := by kernel_rfl,
  f216 := by kernel_rfl,
  f257 := by kernel_rfl,
  f294 := by kernel_rfl,
  f295 := by kernel_rfl,
  f296 := by kernel_rfl,
  f297 := by kernel_rfl,
  f298 := by kernel_rfl,
  f299 := by kernel_rfl,
  f300 := by kernel_rfl,
  f301 := by kernel_rfl,
  f328 := by kernel_rfl,
  f329 := by kernel_rfl,
  f330 := by kernel_rfl,
  f331 := by kernel_rfl,
  f332 := by kernel_rfl,
  f343 := by kernel_rfl,
  t0 := Tryz.underlying0,
  a0 := Tryz.isAgg0,
  z0 := Tryz.sizeOf0,
  v0 := Tryz.zeroValue0,
  t3 := Tryz.underlying3,
  a3 := Tryz.isAgg3,
  z3 := Tryz.sizeOf3,
  v3 := Tryz.zeroValue3,
  t4 := Tryz.underlying4,
  a4 := Tryz.isAgg4,
  z4 := Tryz.sizeOf4,
  v4 := Tryz.zeroValue4,
  t5 := Tryz.underlying5,
  a5 := Tryz.isAgg5,
  z5 := Tryz.sizeOf5,
  v5 := Tryz.zeroValue5,
  t9 := Tryz.underlying9,
  a9 := Tryz.isAgg9,
  z9 := Tryz.sizeOf9,
  v9 := Tryz.zeroValue9,
  t28 := Tryz.underlying24,
  a28 := Tryz.isAgg24,
  z28 := Tryz.sizeOf24,
  v28 := Tryz.zeroValue24,
  t46 := Tryz.underlying169,
  a46 := Tryz.isAgg169,
  z46 := Tryz.sizeOf169,
  v46 := Tryz.zeroValue169,
  t51 := Tryz.underlying250,
  a51 := Tryz.isAgg250,
  z51 := Tryz.sizeOf250,
  v51 := Tryz.zeroValue250,
  t53 := Tryz.underlying252,
  a53 := Tryz.isAgg252,
  z53 := Tryz.sizeOf252,
  v53 := Tryz.zeroValue252,
  t131 := Tryz.underlying98,
  a131 := Tryz.isAgg98,
  z131 := Tryz.sizeOf98,
  v131 := Tryz.zeroValue98,
  t182 := Tryz.underlying243,
  a182 := Tryz.isAgg243,
  z182 := Tryz.sizeOf243,
  v182 := Tryz.zeroValue243,
  t183 := Tryz.underlying244,
  a183 := Tryz.isAgg244,
  z183 := Tryz.sizeOf244,
  v183 := Tryz.zeroValue244,
  t218 := Tryz.underlying303,
  a218 := Tryz.isAgg303,
  z218 := Tryz.sizeOf303,
  v218 := Tryz.zeroValue303,
  t222 := Tryz.underlying307,
  a222 := Tryz.isAgg307,
  z222 := Tryz.sizeOf307,
  v222 := Tryz.zeroValue307,
  t228 := Tryz.underlying347,
  a228 := Tryz.isAgg347,
  z228 := Tryz.sizeOf347,
  v228 := Tryz.zeroValue347,
  t229 := Tryz.underlying43,
  a229 := Tryz.isAgg43,
  z229 := Tryz.sizeOf43,
  v229 := Tryz.zeroValue43 }
def compRen : Go.Shelf.Ren := ⟨fun | 20 => 195 | n => n, fun | 0 => 0 | 3 => 3 | 4 => 4 | 22 => 24 | n => n, fun n => n⟩
theorem compLays : Go.Proofs.Lays2.n20 Tryz.prog compRen := {
  mixed := by kernel_rfl,
  f20 := by kernel_rfl,
  t0 := Tryz.underlying0,
  a0 := Tryz.isAgg0,
  z0 := Tryz.sizeOf0,
  v0 := Tryz.zeroValue0,
  t3 := Tryz.underlying3,
  a3 := Tryz.isAgg3,
  z3 := Tryz.sizeOf3,
  v3 := Tryz.zeroValue3,
  t4 := Tryz.underlying4,
  a4 := Tryz.isAgg4,
  z4 := Tryz.sizeOf4,
  v4 := Tryz.zeroValue4,
  t22 := Tryz.underlying24,
  a22 := Tryz.isAgg24,
  z22 := Tryz.sizeOf24,
  v22 := Tryz.zeroValue24,
  i3 := by kernel_rfl }
end Go.Proofs.YtbcjnmifflflfaaGreatDoor
end

section
namespace Go.Proofs.YtbcjnmifflflfaaGreatDoor
set_option maxHeartbeats 2000000
set_option maxRecDepth 10000
theorem Inv.same {x : X} {H : Heap} {t : Nat} {e e' : Ent} (hi : Inv x ((t, e) :: H)) (ho : ∀ b, e'.own b → e.own b) (hs : e.sat x → e'.sat x) : Inv x ((t, e') :: H) := by
  have hap := List.pairwise_cons.1 hi.apart
  refine ⟨hi.bd, ?_, ?_, List.pairwise_cons.2 ⟨fun p hp b h1 h2 => hap.1 p hp b (ho b h1) h2, hap.2⟩⟩
  · intro p hp
    rcases List.mem_cons.1 hp with rfl | hp
    · exact hs (hi.sat (t, e) (by simp))
    · exact hi.sat p (by simp [hp])
  · intro p hp b hb
    rcases List.mem_cons.1 hp with rfl | hp
    · exact hi.own (t, e) (by simp) b (ho b hb)
    · exact hi.own p (by simp [hp]) b hb
theorem CallS.nilbox {P : Program} {g : FuncId} {az : List A} {H : Heap} {K : A → Heap → Prop} {b t u : Nat} {e : TypeId} (h : CallS P g az ((t, .box b [.own u (.slice none 0 0)]) :: (u, .seq (.slice none 0 0) e 1 []) :: H) K) : CallS P g az ((t, .box b [.nils]) :: H) K := by
  refine ⟨h.1, fun x args H0 hi hd => h.2 x args H0 ?_ hd⟩
  have h1 : Inv x ((u, .seq (.slice none 0 0) e 1 []) :: (t, .box b [.nils]) :: (H ++ H0)) := Inv.nil hi ⟨rfl, rfl⟩
  have h2 := h1.perm (List.Perm.swap _ _ _)
  refine h2.same (fun _ h => h) ?_
  rintro ⟨c, ty, k1, k2⟩
  refine ⟨c, ty, k1, ?_⟩
  generalize c.toList = l at k2 ⊢
  rcases l with _ | ⟨v, _ | ⟨w, l⟩⟩ <;> simp [Ds, D] at k2 ⊢
  exact k2
theorem visitG_s {σ γ : Type} {b3 b4 : Nat} {f : FuncId} {first caps : List A} {Hc : σ → γ → Heap} {step : σ → Int → σ} {φ : σ → Nat} {B : Nat} (hφ : ∀ s n, φ (step s n) ≤ φ s + 1) : ∀ (N : Nat) (x : Expr), SizeOf.sizeOf x < N → OkE x → ∀ (s : σ) (g : γ), φ s + (varsE x).length ≤ B →
    (∀ s g, φ s < B → ∀ n ∈ varsE x, CallS Tryz.prog f (first ++ aI n :: caps) (Hc s g) fun _ H' => ∃ g', H' = Hc (step s n) g') →
    CallS Tryz.prog 246 [aE x, .ptr 3 b3 0, .ptr 4 b4 0] ((4, .box b4 [.fn 246 [] [.ptr 3 b3 0, .ptr 4 b4 0]]) :: (3, .box b3 [.fn f first caps]) :: rt 1000 (Hc s g))
      fun _ H' => ∃ g', H' = (4, .box b4 [.fn 246 [] [.ptr 3 b3 0, .ptr 4 b4 0]]) :: (3, .box b3 [.fn f first caps]) :: rt 1000 (Hc ((varsE x).foldl step s) g')
  | 0, _, h, _, _, _, _, _ => absurd h (Nat.not_lt_zero _)
  | N + 1, x, hN, hx, s, g, hB, hf => by
    refine CallS.dropP (callS_of Tryz.func246 rfl Tryz.ntmps246 (rs := []) rfl (by kernel_rfl) (by simp) (by kernel_rfl) (K := fun _ H' => ∃ g', subP ((4, .box b4 [.fn 246 [] [.ptr 3 b3 0, .ptr 4 b4 0]]) :: (3, .box b3 [.fn f first caps]) :: rt 1000 (Hc ((varsE x).foldl step s) g')) H') ?_) (fun _ _ ⟨g', h⟩ => ⟨_, h, g', rfl⟩)
    have hset : ∃ s1 : σ, s1 = (if x.op = 1 then step s x.index else s) ∧ (varsL x.args).foldl step s1 = (varsE x).foldl step s ∧ φ s1 + (varsL x.args).length ≤ B := by
      refine ⟨_, rfl, ?_⟩
      rw [varsE_eq] at hB ⊢
      have := hφ s x.index
      by_cases h : x.op = 1 <;> simp [h] at hB ⊢ <;> omega
    obtain ⟨s1, hs1, he, hB1⟩ := hset
    have loop : ∀ (g1 : γ) (E : Env) (H : Heap) (Q : PostQ) (c : Code), True := fun _ _ _ _ _ => trivial
    by_cases hop : x.op = 1
    all_goals simp [hop]
    · rw [if_pos hop] at hs1
      have hlt : φ s < B := by rw [varsE_eq] at hB; simp [hop] at hB; omega
      refine ((hf s g hlt x.index (by rw [varsE_eq]; simp [hop])).rt'.c1.c1).mono ?_
      rintro r H' ⟨_, ⟨_, ⟨H1, rfl, ⟨g1, rfl⟩⟩, rfl⟩, rfl⟩
      rw [← hs1]
      simp
      refine V.for' [2, 14, 15] (fun p => [(16, .dat (.int .i64 (p.1 : Nat)))]) (fun p => (4, .box b4 [.fn 246 [] [.ptr 3 b3 0, .ptr 4 b4 0]]) :: (3, .box b3 [.fn f first caps]) :: rt 1000 (Hc p.2.1 p.2.2))
        (fun p : Nat × σ × γ => p.1 ≤ x.args.length ∧ (varsL (x.args.drop p.1)).foldl step p.2.1 = (varsE x).foldl step s ∧ φ p.2.1 + (varsL (x.args.drop p.1)).length ≤ B) (fun p => x.args.length - p.1) (0, s1, g1) ⟨by simp [he, hB1], by simp, subP.refl _⟩ ?_
      rintro ⟨i, s2, g2⟩ ⟨hi, hinv, hB2⟩
      simp only at hi hinv hB2
      have hlen := hx.len
      by_cases hlt : i < x.args.length
      · obtain ⟨y, hy1⟩ : ∃ y, x.args[i]'hlt = y := ⟨_, rfl⟩
        have hmem : y ∈ x.args := by rw [← hy1]; exact List.getElem_mem hlt
        rw [List.drop_eq_getElem_cons hlt, hy1, varsL, List.foldl_append] at hinv
        rw [List.drop_eq_getElem_cons hlt, hy1, varsL, List.length_append] at hB2
        simp [hlt, hy1, encE_eq]
        intro b
        have ih := visitG_s (b3 := b3) (b4 := b4) (Hc := Hc) (step := step) (f := f) (first := first) (caps := caps) hφ N y (by have := Expr.lt_of_mem hmem; omega) (hx.args y hmem) s2 g2 (by omega) (fun s g hb n hn => hf s g hb n (by rw [varsE_eq]; exact List.mem_append.2 (.inr (varsL_mem hn hmem))))
        refine ih.c1.mono ?_
        rintro r H' ⟨H2, ⟨g3, rfl⟩, rfl⟩
        have hfl : ∀ (l : List Int) (s : σ), φ (l.foldl step s) ≤ φ s + l.length := by
          intro l
          induction l with
          | nil => intro s; simp
          | cons n l ih => intro s; have h1 := ih (step s n); have h2 := hφ s n; simp only [List.foldl_cons, List.length_cons]; omega
        have := hfl (varsE y) s2
        simp
        refine ⟨by omega, i + 1, _, ⟨hlt, hinv, by omega⟩, by omega, ?_⟩
        first | exact ⟨by simp, _, (subP.refl _).c _⟩ | exact ⟨_, by simp, (subP.refl _).c _⟩
      · have hie : i = x.args.length := by omega
        subst hie
        simp [varsL] at hinv
        simp [hinv]
        exact ⟨_, subP.refl _⟩
    · rw [if_neg hop] at hs1
      refine V.for' [2, 14, 15] (fun p => [(16, .dat (.int .i64 (p.1 : Nat)))]) (fun p => (4, .box b4 [.fn 246 [] [.ptr 3 b3 0, .ptr 4 b4 0]]) :: (3, .box b3 [.fn f first caps]) :: rt 1000 (Hc p.2.1 p.2.2))
        (fun p : Nat × σ × γ => p.1 ≤ x.args.length ∧ (varsL (x.args.drop p.1)).foldl step p.2.1 = (varsE x).foldl step s ∧ φ p.2.1 + (varsL (x.args.drop p.1)).length ≤ B) (fun p => x.args.length - p.1) (0, s1, g) ⟨by simp [he, hB1], by simp, by rw [hs1]; exact subP.refl _⟩ ?_
      rintro ⟨i, s2, g2⟩ ⟨hi, hinv, hB2⟩
      simp only at hi hinv hB2
      have hlen := hx.len
      by_cases hlt : i < x.args.length
      · obtain ⟨y, hy1⟩ : ∃ y, x.args[i]'hlt = y := ⟨_, rfl⟩
        have hmem : y ∈ x.args := by rw [← hy1]; exact List.getElem_mem hlt
        rw [List.drop_eq_getElem_cons hlt, hy1, varsL, List.foldl_append] at hinv
        rw [List.drop_eq_getElem_cons hlt, hy1, varsL, List.length_append] at hB2
        simp [hlt, hy1, encE_eq]
        intro b
        have ih := visitG_s (b3 := b3) (b4 := b4) (Hc := Hc) (step := step) (f := f) (first := first) (caps := caps) hφ N y (by have := Expr.lt_of_mem hmem; omega) (hx.args y hmem) s2 g2 (by omega) (fun s g hb n hn => hf s g hb n (by rw [varsE_eq]; exact List.mem_append.2 (.inr (varsL_mem hn hmem))))
        refine ih.c1.mono ?_
        rintro r H' ⟨H2, ⟨g3, rfl⟩, rfl⟩
        have hfl : ∀ (l : List Int) (s : σ), φ (l.foldl step s) ≤ φ s + l.length := by
          intro l
          induction l with
          | nil => intro s; simp
          | cons n l ih => intro s; have h1 := ih (step s n); have h2 := hφ s n; simp only [List.foldl_cons, List.length_cons]; omega
        have := hfl (varsE y) s2
        simp
        refine ⟨by omega, i + 1, _, ⟨hlt, hinv, by omega⟩, by omega, ?_⟩
        first | exact ⟨by simp, _, (subP.refl _).c _⟩ | exact ⟨_, by simp, (subP.refl _).c _⟩
      · have hie : i = x.args.length := by omega
        subst hie
        simp [varsL] at hinv
        simp [hinv]
        exact ⟨_, subP.refl _⟩
theorem each_g {σ γ : Type} {f : FuncId} {first caps : List A} {Hc : σ → γ → Heap} {step : σ → Int → σ} {φ : σ → Nat} {B : Nat} (hφ : ∀ s n, φ (step s n) ≤ φ s + 1) (x : Expr) (hx : OkE x) (s : σ) (g : γ) (hB : φ s + (varsE x).length ≤ B) (hf : ∀ s g, φ s < B → ∀ n ∈ varsE x, CallS Tryz.prog f (first ++ aI n :: caps) (Hc s g) fun _ H' => ∃ g', H' = Hc (step s n) g') :
    CallS Tryz.prog 194 [aE x, .fn f first caps] (Hc s g) fun _ H' => ∃ g', H' = Hc ((varsE x).foldl step s) g' := by
  refine CallS.rt (k := 1000) (CallS.dropP (callS_of Tryz.func194 rfl Tryz.ntmps194 (rs := []) rfl (by kernel_rfl) (by simp) (by kernel_rfl) (K := fun _ H' => ∃ g', subP (rt 1000 (Hc ((varsE x).foldl step s) g')) H') ?_) ?_)
  · simp
    intro b3 b4
    refine (visitG_s hφ (SizeOf.sizeOf x + 1) x (by omega) hx s g hB hf).mono ?_
    rintro r H' ⟨g', rfl⟩
    simp
    exact ⟨g', ((subP.refl _).c _).c _⟩
  · rintro r H' ⟨g', h⟩
    exact ⟨_, h, _, rfl, g', rfl⟩
theorem vars_le : ∀ (N : Nat) (x : Expr), SizeOf.sizeOf x < N → (varsE x).length ≤ szE x
  | 0, _, h => absurd h (Nat.not_lt_zero _)
  | N + 1, x, hN => by
    have hL : ∀ l : List Expr, (∀ y ∈ l, y ∈ x.args) → (varsL l).length ≤ szL l := by
      intro l
      induction l with
      | nil => intro _; simp [varsL, szL]
      | cons y l ih =>
        intro hl
        have h1 := vars_le N y (by have := Expr.lt_of_mem (hl y (by simp)); omega)
        have h2 := ih fun z hz => hl z (by simp [hz])
        simp only [varsL, szL, List.length_append]
        omega
    rw [varsE_eq, szE_eq, List.length_append]
    have := hL x.args fun _ h => h
    split <;> simp <;> omega
def usesL (x : Signal) : List Int := compI (sortI (varsE x.on ++ varsE x.off))
theorem uses1_s (b8 : Nat) (h : Value) (out : List Int) (n : Int) (hl : out.length ≤ 100000) : CallS Tryz.prog 193 [aI n, .ptr 8 b8 0] [(8, .box b8 [.own 60 h]), (60, .seq h 3 1 (out.map rI))]
    fun _ H' => ∃ h', H' = [(8, .box b8 [.own 60 h']), (60, .seq h' 3 1 ((out ++ [n]).map rI))] := by
  refine callS_of Tryz.func193 rfl Tryz.ntmps193 (rs := []) rfl (by kernel_rfl) (by simp) (by kernel_rfl) ?_
  simp
  omega
theorem foldl_app (l : List Int) : ∀ s : List Int, l.foldl (fun s n => s ++ [n]) s = s ++ l := by
  induction l with
  | nil => intro s; simp
  | cons n l ih => intro s; simp [ih]
theorem sort_call : Callable Tryz.prog 46 := ⟨_, Tryz.func46, by kernel_rfl, by kernel_rfl⟩
theorem comp_call : Callable Tryz.prog 195 := ⟨_, Tryz.func195, by kernel_rfl, by kernel_rfl⟩
theorem sort_c {t e : Nat} {h : Value} {zs : List Int} (hz : zs.length < 4611686018427387904) : CallS Tryz.prog 46 [.own t h] [(t, .seq h e 1 (zs.map rI))] fun r H' => r = .tuple [] ∧ H' = [(t, .seq h e 1 ((sortI zs).map rI))] :=
  sortI_s sortLays sort_call hz
theorem comp_c {t e : Nat} {h : Value} {zs : List Int} (hz : zs.length ≤ 9223372036854775807) : CallS Tryz.prog 195 [.own t h] [(t, .seq h e 1 (zs.map rI))] fun r H' => ∃ h2, r = .own t h2 ∧ H' = [(t, .seq h2 e 1 ((compI zs).map rI))] :=
  compI_s compLays comp_call hz
def usesP (c : Control) (k : Int) : List Int × Int :=
  if checkC c ≠ 0 then ([], checkC c) else if k < 0 ∨ countC c ≤ k then ([], 6) else if k < firstC c then ([], 0)
  else (((c.signals[(k - firstC c).toNat]?).map usesL).getD [], 0)
theorem usesP_sig {c : Control} {k : Int} {x : Signal} (h : checkC c = 0) (h0 : firstC c ≤ k) (h1 : k < countC c) (ha : 0 ≤ firstC c) (hx : c.signals[(k - firstC c).toNat]? = some x) : usesP c k = (usesL x, 0) := by
  unfold usesP
  rw [if_neg (by simpa using h), if_neg (by omega), if_neg (by omega), hx]
  rfl
theorem light_sz {x : Expr} (h : lightE x = true) : szE x ≤ 256 := ((light_iff x).1 h).1
theorem fine_light {c : Control} (hf : Fine c) {i : Nat} {s : Signal} (hi : c.signals[i]? = some s) : lightE s.on = true ∧ lightE s.off = true := ⟨light_check (hf.on hi).1, fine_off hf hi⟩
theorem Uses_fn (c : Control) (k : Int) (hc : OkC c) : CallFn Tryz.prog 110 [aC c, aI k] (.tuple [aIs (usesP c k).1, aI (usesP c k).2]) := by
  refine callFz_of Tryz.func110 rfl Tryz.ntmps110 (rs := [.tmp 4, .tmp 5]) rfl (by kernel_rfl) (by simp) (by kernel_rfl) ?_
  simp
  refine (Check_fn c hc).s ?_
  simp
  by_cases hz : checkC c = 0
  · have hf := fine_of hz
    have hsm := hf.sm
    have ha := hf.act
    have hin := hf.inp
    have hsg := hf.sig
    have hcn : countC c = firstC c + c.signals.length := rfl
    have hfc : firstC c = 2 * c.actuators + c.inputs.length := rfl
    simp [hz]
    refine GCall.fn (aI (countC c)) (fun h => ⟨by first | trivial | exact h, count_c c hsm⟩) ?_
    by_cases h0 : 0 ≤ k
    · by_cases h1 : k < countC c
      · simp [h0, h1, Int.not_lt.2 h0, Int.not_le.2 h1]
        refine (first_fn c hsm).s ?_
        by_cases h2 : k < firstC c
        · simp [h2, usesP, hz, Int.not_lt.2 h0, Int.not_le.2 h1]
        · obtain ⟨x, hx⟩ := getI (l := c.signals) (k := k - firstC c) (by omega) (by omega)
          rw [usesP_sig hz (by omega) h1 (by omega) hx]
          have hmem := List.mem_of_getElem? hx
          have hox := hc.sigs x hmem
          obtain ⟨l1, l2⟩ := fine_light hf hx
          have v1 := vars_le (SizeOf.sizeOf x.on + 1) x.on (by omega)
          have v2 := vars_le (SizeOf.sizeOf x.off + 1) x.off (by omega)
          have s1 := light_sz l1
          have s2 := light_sz l2
          simp [h2]
          refine V.draw (fun t => if t = 31 then some (.fn (aI (firstC c))) else none) (by kernel_rfl) (by kernel_rfl) (by simp) ?_
          have hfn := first_fn c hsm
          simp [hx]
          refine ⟨hfn, by omega, by omega, fun b7 b8 => ?_⟩
          let Hc : List Int → Value → Heap := fun out h => [(8, .box b8 [.own 60 h]), (60, .seq h 3 1 (out.map rI)), (7, .box b7 (sigA x))]
          have hstep : ∀ (s : List Int) (g : Value), s.length < 600 → ∀ n : Int, CallS Tryz.prog 193 ([] ++ aI n :: [.ptr 8 b8 0]) (Hc s g) fun _ H' => ∃ g', H' = Hc (s ++ [n]) g' := by
            intro s g hs n
            refine (CallS.frame (H1 := [(7, .box b7 (sigA x))]) (uses1_s b8 g s n (by omega))).mono ?_
            rintro r H' ⟨H2, ⟨h', rfl⟩, rfl⟩
            exact ⟨h', rfl⟩
          have e1 := each_g (Hc := Hc) (f := 193) (first := []) (caps := [.ptr 8 b8 0]) (step := fun s n => s ++ [n]) (φ := List.length) (B := 600) (by simp) x.on hox.on [] (.slice none 0 0) (by simp; omega) (fun s g hb n _ => hstep s g hb n)
          refine CallS.nilbox (u := 60) (e := 3) (e1.mono ?_)
          rintro r H' ⟨g1, rfl⟩
          rw [foldl_app, List.nil_append]
          have e2 := each_g (Hc := Hc) (f := 193) (first := []) (caps := [.ptr 8 b8 0]) (step := fun s n => s ++ [n]) (φ := List.length) (B := 600) (by simp) x.off hox.off (varsE x.on) g1 (by omega) (fun s g hb n _ => hstep s g hb n)
          simp [Hc]
          refine e2.mono ?_
          rintro r H' ⟨g2, rfl⟩
          rw [foldl_app]
          have hln : (varsE x.on ++ varsE x.off).length ≤ 600 := by rw [List.length_append]; omega
          have hus : usesL x = compI (sortI (varsE x.on ++ varsE x.off)) := rfl
          rw [hus]
          generalize varsE x.on ++ varsE x.off = vs at hln ⊢
          simp [Hc]
          refine ((CallS.frame (H1 := [(8, .box b8 [.own 60 g2]), (7, .box b7 (sigA x))]) (sort_c (t := 60) (e := 3) (h := g2) (zs := vs) (by omega))).perm (List.Perm.swap _ _ _)).mono ?_
          rintro r H' ⟨H2, ⟨rfl, rfl⟩, rfl⟩
          have hsl := sortI_len vs
          generalize sortI vs = ws at hsl ⊢
          simp
          refine (CallS.frame (H1 := [(8, .box b8 [.own 60 g2]), (7, .box b7 (sigA x))]) (comp_c (t := 60) (e := 3) (h := g2) (zs := ws) (by omega))).mono ?_
          rintro r H' ⟨H2, ⟨g3, rfl, rfl⟩, rfl⟩
          simp [hget]
      · have h1' : countC c ≤ k := by omega
        simp [h0, h1, h1', usesP, hz]
    · have h0' : k < 0 := by omega
      simp [h0, h0', usesP, hz]
  · simp [hz, usesP]
theorem occ_off {c : Control} (hf : Fine c) {i : Nat} {s : Signal} (hi : c.signals[i]? = some s) : (∀ k, occE s.off k = (varsE s.off).any (· == k)) ∧ ∀ k ∈ varsE s.off, 0 ≤ k ∧ k < countC c := by
  have hz0 : zeroE s.off = true → (∀ k, occE s.off k = (varsE s.off).any (· == k)) ∧ ∀ k ∈ varsE s.off, 0 ≤ k ∧ k < countC c := by
    intro hz
    simp [zeroE] at hz
    have e : varsE s.off = [] := by rw [varsE_eq, hz.2, hz.1.1]; simp [varsL]
    rw [e]
    refine ⟨fun k => ?_, by simp⟩
    rw [occE_eq, hz.2, hz.1.1]
    simp [occL]
  have h := hf.sigs i s hi
  unfold signalE at h
  split at h
  · rename_i h1; exact absurd h h1
  · split at h
    · cases h
    · split at h
      · rename_i h1; exact absurd h h1
      · split at h
        · refine hz0 ?_
          cases hz : zeroE s.off
          · unfold gateE at h
            split at h
            · cases h
            · simp [hz] at h
          · rfl
        · split at h
          · unfold memE at h
            split at h
            · rename_i h1; exact absurd h h1
            · rename_i h1
              have h2 := Classical.not_not.1 h1
              exact ⟨occ_check h2, vars_check h2⟩
          · refine hz0 ?_
            cases hz : zeroE s.off
            · unfold timE at h
              split at h
              · cases h
              · simp [hz] at h
            · rfl
theorem used_met {c : Control} (hf : Fine c) {i : Nat} {s : Signal} (hi : c.signals[i]? = some s) : usesL s = metB (countC c).toNat fun k => occE s.on k || occE s.off k := by
  obtain ⟨h1, h2⟩ := occ_off hf hi
  have h3 := occ_check (hf.on hi).1
  have h4 := vars_check (hf.on hi).1
  refine uniq_met ?_ ?_
  · intro z hz
    have : 0 ≤ z ∧ z < countC c := by
      rcases List.mem_append.1 hz with hz | hz
      · exact h4 z hz
      · exact h2 z hz
    omega
  · intro k _
    rw [h3, h1, Bool.or_eq_true, List.any_eq_true, List.any_eq_true, List.mem_append]
    constructor
    · rintro (⟨z, hz, e⟩ | ⟨z, hz, e⟩)
      · simp only [beq_iff_eq] at e; subst e; exact .inl hz
      · simp only [beq_iff_eq] at e; subst e; exact .inr hz
    · rintro (hz | hz)
      · exact .inl ⟨_, hz, by simp⟩
      · exact .inr ⟨_, hz, by simp⟩
@[simp] theorem metB_zero (p : Nat → Bool) : metB 0 p = [] := by simp [metB]
theorem metB_len (M : Nat) (p : Nat → Bool) : (metB M p).length ≤ M := by
  unfold metB
  rw [List.length_map]
  exact Nat.le_trans (List.length_filter_le _ _) (by simp)
end Go.Proofs.YtbcjnmifflflfaaGreatDoor
end
