/- Texts joined by a program: Fwm, Fwn, Fwo, Fwp, Fwq, Fwr, Fws, Fwt, Fwu, Fwv, Fwy, Fwx, Li, Lj, Lk. -/
import Derived.Orders
import Derived.Still
import Derived.ProofKit
import Derived.ReadAgain
import Derived.WalkKit
import Derived.OpenShut
import Derived.Deep.Frames
import Derived.ChangeMaps5
import Derived.Test.YtakndgpdolfenaaGreatGA
import Derived.Test.YtakndgpdolfenaaGreatGT
set_option linter.unusedSimpArgs false
set_option linter.unusedVariables false

/- Regions that draw their order: one look at the order of the text serves every order. -/
section
namespace Go.Proofs.YtakndgpdolfenaaGreat
variable {P : Program}

/-- What a call in such a region comes to: a value, or a new slice of the caller's own. -/
inductive CR where
  | fn (r : A)
  | own (e : TypeId) (sz : Nat) (rows : List (List A))
  | ro (r : A)
  | sts (qs : List (TypeId × Nat × List (List A)))
  | bld
  | clip
  | frz

/-- Several headers in one value. -/
def uf (u : Value) (i : Nat) : Value := match u with
  | .agg vs => vs.toList.getD i .nilIface
  | _ => .nilIface
def ownsL (u : Value) (τ i : Nat) : List (TypeId × Nat × List (List A)) → List A
  | [] => []
  | _ :: r => .own (τ + i) (uf u i) :: ownsL u τ (i + 1) r
def entsL (u : Value) (τ i : Nat) : List (TypeId × Nat × List (List A)) → Heap
  | [] => []
  | q :: r => (τ + i, .seq (uf u i) q.1 q.2.1 q.2.2) :: entsL u τ (i + 1) r
def hdrsL (u : Value) (i : Nat) : List (TypeId × Nat × List (List A)) → List (Value × TypeId × Nat × List (List A))
  | [] => []
  | q :: r => (uf u i, q) :: hdrsL u (i + 1) r
/-- The marks of what such a call gives. -/
def stB (d : Nat) : Nat := 100000 + 10 * d
/-- A call that gives a struct of slices of one's own. -/
def CallSts (P : Program) (g : FuncId) (az : List A) (qs : List (TypeId × Nat × List (List A))) : Prop :=
  CallS P g az [] fun r H' => ∃ u, r = .agg (ownsL u 0 0 qs) ∧ H' = entsL u 0 0 qs

def CallOwn (P : Program) (g : FuncId) (az : List A) (e : TypeId) (sz : Nat) (rows : List (List A)) : Prop :=
  CallS P g az [] fun r H' => ∃ t h, r = .own t h ∧ H' = [(t, .seq h e sz rows)]

def tag1 : A → List Nat
  | .ptr g _ _ => [g]
  | .eptr g _ _ _ _ => [g]
  | .own g _ => [g]
  | .map g _ => [g]
  | _ => []
def tagOf : A → List Nat
  | .ptr g _ _ => [g]
  | .eptr g _ _ _ _ => [g]
  | .own g _ => [g]
  | .map g _ => [g]
  | .agg az => az.flatMap tag1
  | _ => []
/-- The marks within a function value. -/
def fnT (E : Env) : Callee → List Nat
  | .value f => match (st (ev E f)).2 with
    | .fn _ first caps => ((first ++ caps).map tagOf).flatten
    | _ => []
  | _ => []
/-- The marks of the entries that a step looks at. -/
def rdT (E : Env) (o : Oper) : List Nat :=
  match o.op with
  | .load _ x => tagOf (st (ev E x)).2
  | .store _ x _ => tagOf (st (ev E x)).2
  | .indexAddr _ x _ => tagOf (st (ev E x)).2
  | .lookup _ x _ _ => tagOf (st (ev E x)).2
  | .mapUpdate _ x _ _ => tagOf (st (ev E x)).2
  | .insert _ x _ _ => tagOf (st (ev E x)).2
  | .mapEntry _ x _ => tagOf (st (ev E x)).2
  | .entryStore _ x _ _ => tagOf (st (ev E x)).2
  | .next x _ => tagOf (st (ev E x)).2
  | .range _ x => tagOf (st (ev E x)).2
  | .entry x => 89 :: tagOf (st (ev E x)).2
  | .slice _ x _ _ _ => tagOf (st (ev E x)).2
  | .call c => fnT E c.callee ++ (c.args.toList.map fun x => tagOf (st (ev E x)).2).flatten
  | _ => []

def entsOf (G : Nat → Option Ent) : List Nat → Heap
  | [] => []
  | t :: l => match G t with
    | some e => (t, e) :: entsOf G l
    | none => entsOf G l

def fStep0 (P : Program) (ρ : Nat → Option CR) (u : Value) (b : Nat) (ops : List Oper) (o : Oper) (E : Env) (G : Nat → Option Ent) : Option (Prop × A × Option (Nat × Ent)) :=
  match o.guard with
  | none => match pureA P E o.op with
    | some (p, a) => some (p, a, none)
    | none => match callA E o.op with
      | some (p, g, az) => match ρ (o.dst.getD 0) with
        | some (.fn r) => some (p ∧ CallFn P g az r, r, none)
        | some (.own e sz rows) => some (p ∧ CallOwn P g az e sz rows, .own (o.dst.getD 0) u, some (o.dst.getD 0, .seq u e sz rows))
        | some (.ro r) => some (p ∧ (rdT E o).Nodup ∧ CallS P g az (entsOf G (rdT E o)) (fun r' H' => r' = r ∧ H' = entsOf G (rdT E o)), r, none)
        | some (.sts qs) => some (p ∧ CallSts P g az qs, .agg (ownsL u (stB (o.dst.getD 0)) 0 qs), some (o.dst.getD 0, .seqs (hdrsL u 0 qs)))
        | _ => none
      | none => heapF P u b (o.dst.getD 0) E G o.op
  | some (j, want) => match gq E ops j want with
    | none => none
    | some q => match pureA P E o.op with
      | some (p, a) => some (q → p, .cond q a, none)
      | none => match callA E o.op, ρ (o.dst.getD 0) with
        | some (p, g, az), some (.fn r) => some (q → p ∧ CallFn P g az r, .cond q r, none)
        | some (p, g, az), some (.ro r) => some (q → p ∧ (rdT E o).Nodup ∧ CallS P g az (entsOf G (rdT E o)) (fun r' H' => r' = r ∧ H' = entsOf G (rdT E o)), .cond q r, none)
        | none, _ => match heapF P .nilIface 0 0 E G o.op, reads o.op with
          | some (p, a, none), true => some (q → p, .cond q a, none)
          | _, _ => some (¬ q, .cond q (.dat (.bool false)), none)
        | _, _ => none

/-- What is given up behind a step. -/
def frzF (P : Program) (u : Value) (b τ : Nat) (E : Env) (G : Nat → Option Ent) (op : Op) : Option (Prop × A × Option (Nat × Ent)) := match heapF P u b τ E G op with
  | some (p, .own g h, some (g', .seq h' _ _ rows)) => some (p ∧ g' = g ∧ h' = h ∧ allD rows = true, .dat (.sl (rowsD rows)), some (g', .seqs []))
  | _ => none
def fStep (P : Program) (ρ : Nat → Option CR) (u : Value) (b : Nat) (ops : List Oper) (o : Oper) (E : Env) (G : Nat → Option Ent) : Option (Prop × A × Option (Nat × Ent)) :=
  match o.guard, ρ (o.dst.getD 0) with
  | none, some .bld => bldF P E u (o.dst.getD 0) o.op
  | none, some .clip => match clipF P E o.op with
    | some (p, a) => some (p, a, none)
    | none => none
  | none, some .frz => frzF P u b (o.dst.getD 0) E G o.op
  | _, _ => fStep0 P ρ u b ops o E G
def opsT (o : Op) : List Tmp := o.operands.toList.filterMap fun | .tmp t => some t | _ => none

theorem evs_congr {E E' : Env} {ps : List (Nat × Operand)} (h : ∀ p ∈ ps, ev E p.2 = ev E' p.2) : evs E ps = evs E' ps ∧ evp E ps = evp E' ps := by
  constructor
  · exact List.map_congr_left fun p hp => by obtain ⟨i, o⟩ := p; simp only [h (i, o) hp]
  · apply propext
    exact ⟨fun k p hp => by rw [← h p hp]; exact k p hp, fun k p hp => by rw [h p hp]; exact k p hp⟩
theorem evl_congr {E E' : Env} {ps : List Operand} (h : ∀ p ∈ ps, ev E p = ev E' p) : evl E ps = evl E' ps ∧ evlp E ps = evlp E' ps := by
  constructor
  · exact List.map_congr_left fun p hp => by simp only [h p hp]
  · apply propext
    exact ⟨fun k p hp => by rw [← h p hp]; exact k p hp, fun k p hp => by rw [h p hp]; exact k p hp⟩
theorem opt_congr {E E' : Env} {o : Option Operand} (h : ∀ p ∈ o.toArray.toList, ev E p = ev E' p) : opt E o = opt E' o ∧ optp E o = optp E' o := by
  cases o with
  | none => exact ⟨rfl, rfl⟩
  | some x => have := h x (by simp); exact ⟨by simp only [opt, Option.map_some, this], by simp only [optp, this]⟩

theorem pureA_congr {E E' : Env} {o : Op} (h : ∀ x ∈ o.operands.toList, ev E x = ev E' x) : pureA P E o = pureA P E' o := by
  cases o <;> simp only [pureA] <;> simp only [Op.operands] at h
  case move x => rw [h x (by simp)]
  case assign x => rw [h x (by simp)]
  case pick c a b => rw [h c (by simp), h a (by simp), h b (by simp)]
  case box t x => rw [h x (by simp)]
  case build t ps =>
    obtain ⟨h1, h2⟩ := evs_congr (E := E) (E' := E') (ps := ps.toList) fun p hp => h p.2 (by simp; exact ⟨p.1, by simpa using hp⟩)
    rw [h1, h2]
  case buildSlice t n ps =>
    obtain ⟨h1, h2⟩ := evs_congr (E := E) (E' := E') (ps := ps.toList) fun p hp => h p.2 (by simp; exact ⟨p.1, by simpa using hp⟩)
    rw [h1, h2]
  case load t x => rw [h x (by simp)]
  case nilCheck x => rw [h x (by simp)]
  case binOp op t x y ty => rw [h x (by simp), h y (by simp)]
  case unOp op t x => rw [h x (by simp)]
  case convert s d x => rw [h x (by simp)]
  case makeFunc fn first caps =>
    cases fn <;> simp only []
    obtain ⟨h1, h2⟩ := evl_congr (E := E) (E' := E') (ps := first.toList) fun p hp => h p (by simp; exact .inl (by simpa using hp))
    obtain ⟨h3, h4⟩ := evl_congr (E := E) (E' := E') (ps := caps.toList) fun p hp => h p (by simp; exact .inr (by simpa using hp))
    rw [h1, h2, h3, h4]
  case slice t x lo hi mx =>
    cases mx <;> simp only []
    obtain ⟨h1, h2⟩ := opt_congr (E := E) (E' := E') (o := lo) fun p hp => h p (by simp at hp ⊢; simp [hp])
    obtain ⟨h3, h4⟩ := opt_congr (E := E) (E' := E') (o := hi) fun p hp => h p (by simp at hp ⊢; simp [hp])
    rw [h x (by simp), h1, h2, h3, h4]
  case fieldAddr t x k => rw [h x (by simp)]
  case field t x k => rw [h x (by simp)]
  case indexAddr t x i => rw [h x (by simp), h i (by simp)]
  case index t x i => rw [h x (by simp), h i (by simp)]
  case extract x i => rw [h x (by simp)]
  case call c =>
    cases hc : c.callee <;> simp only []
    obtain ⟨h1, h2⟩ := evl_congr (E := E) (E' := E') (ps := c.args.toList) fun p hp => h p (by simp [Call.operands]; exact .inr (by simpa using hp))
    rw [h1, h2]

theorem callA_congr {E E' : Env} {o : Op} (h : ∀ x ∈ o.operands.toList, ev E x = ev E' x) : callA E o = callA E' o := by
  cases o <;> simp only [callA] <;> simp only [Op.operands] at h
  rename_i c
  cases hc : c.callee <;> simp only []
  rename_i f
  obtain ⟨h1, h2⟩ := evl_congr (E := E) (E' := E') (ps := c.args.toList) fun p hp => h p (by simp [Call.operands]; exact .inr (by simpa using hp))
  rw [h f (by simp [Call.operands, hc]), h1, h2]

theorem heapF_congr {E E' : Env} {G G' : Nat → Option Ent} {o : Oper} {u : Value} {b τ : Nat} (h : ∀ x ∈ o.op.operands.toList, ev E x = ev E' x) (hg : ∀ t ∈ rdT E o, G t = G' t) :
    heapF P u b τ E G o.op = heapF P u b τ E' G' o.op := by
  obtain ⟨dst, op, type, pos, after, guard⟩ := o
  cases op <;> simp only [heapF] <;> simp only [Op.operands] at h <;> simp only [rdT] at hg
  case box t x => rw [h x (by simp)]
  case load t x =>
    rw [← h x (by simp)]
    generalize st (ev E x) = s at hg ⊢
    obtain ⟨p, a⟩ := s
    cases a <;> first | rfl | (have hk := hg _ (List.mem_singleton.2 rfl); dsimp only; rw [hk])
  case store t x v =>
    rw [← h x (by simp), ← h v (by simp)]
    generalize st (ev E x) = s at hg ⊢
    generalize stR (ev E v) = s2
    obtain ⟨p, a⟩ := s
    obtain ⟨q, a2⟩ := s2
    cases a <;> first | rfl | (have hk := hg _ (List.mem_singleton.2 rfl); first | (dsimp only; rw [hk]) | (rw [hk]) | (simp only [hk]) | (simp [hk]; done))
  case makeSlice t l c => rw [h l (by simp), h c (by simp)]
  case indexAddr t x i =>
    rw [← h x (by simp), ← h i (by simp)]
    generalize st (ev E x) = s at hg ⊢
    generalize st (ev E i) = s2
    obtain ⟨p, a⟩ := s
    obtain ⟨q, a2⟩ := s2
    cases slT P t <;> cases a <;> cases a2 <;> first | rfl | (have hk := hg _ (List.mem_singleton.2 rfl); first | (dsimp only; rw [hk]) | (rename_i l; cases l <;> first | rfl | (dsimp only; rw [hk])))
  case makeMap t r => cases r <;> rfl
  case lookup t x i ok =>
    rw [← h x (by simp), ← h i (by simp)]
    generalize st (ev E x) = s at hg ⊢
    obtain ⟨p, a⟩ := s
    cases mpT P t with
    | none =>
      generalize st (ev E i) = s2
      obtain ⟨q, a2⟩ := s2
      cases a <;> first | rfl | (have hk := hg _ (List.mem_singleton.2 rfl); simp only [hk])
    | some dz =>
      generalize st (ev E i) = s2
      obtain ⟨q, a2⟩ := s2
      cases a <;> first | rfl | (cases a2 <;> first | rfl | (have hk := hg _ (List.mem_singleton.2 rfl); simp only [hk]))
  case mapUpdate t x k v =>
    rw [← h x (by simp), ← h k (by simp), ← h v (by simp)]
    generalize st (ev E x) = s at hg ⊢
    obtain ⟨p, a⟩ := s
    cases mpT P t with
    | none =>
      generalize st (ev E k) = s2
      obtain ⟨q, a2⟩ := s2
      cases a <;> first | rfl | (have hk := hg _ (List.mem_singleton.2 rfl); simp only [hk])
    | some dz =>
      generalize st (ev E k) = s2
      obtain ⟨q, a2⟩ := s2
      cases a <;> first | rfl | (cases a2 <;> first | rfl | (have hk := hg _ (List.mem_singleton.2 rfl); simp only [hk]))
  case mapEntry t x k =>
    rw [← h x (by simp), ← h k (by simp)]
    generalize st (ev E x) = s at hg ⊢
    obtain ⟨p, a⟩ := s
    cases mpT P t with
    | none =>
      generalize st (ev E k) = s2
      obtain ⟨q, a2⟩ := s2
      cases a <;> first | rfl | (have hk := hg _ (List.mem_singleton.2 rfl); simp only [hk])
    | some dz => rfl
  case entryStore t x s v =>
    rw [← h x (by simp), ← h s (by simp), ← h v (by simp)]
    generalize st (ev E x) = s1 at hg ⊢
    obtain ⟨p, a⟩ := s1
    generalize st (ev E s) = s2
    obtain ⟨q, a2⟩ := s2
    cases a <;> first | rfl | (cases a2 <;> first | rfl | (rename_i l; cases l <;> first | rfl | (have hk := hg _ (List.mem_singleton.2 rfl); simp only [hk])))
  case insert t x k v =>
    rw [← h x (by simp), ← h k (by simp), ← h v (by simp)]
    generalize st (ev E x) = s at hg ⊢
    obtain ⟨p, a⟩ := s
    cases mpT P t with
    | none => rfl
    | some dz =>
      generalize st (ev E k) = s2
      obtain ⟨q, a2⟩ := s2
      cases a <;> first | rfl | (cases a2 <;> first | rfl | (have hk := hg _ (List.mem_singleton.2 rfl); simp only [hk]))
  case range t x =>
    rw [← h x (by simp)]
    generalize st (ev E x) = s at hg ⊢
    obtain ⟨p, a⟩ := s
    cases a <;> first | rfl | (have hk := hg _ (List.mem_singleton.2 rfl); simp only [hk]) | (rename_i l; cases l <;> rfl)
  case entry x =>
    have h89 := hg 89 (List.mem_cons_self ..)
    rw [← h x (by simp)]
    generalize st (ev E x) = s at hg ⊢
    obtain ⟨p, a⟩ := s
    cases a <;> first | rfl | (rename_i off; cases off <;> first | rfl | (have hk := hg _ (List.mem_cons_of_mem _ (List.mem_singleton.2 rfl)); simp only [hk, h89]))
  case next x isS =>
    rw [← h x (by simp)]
    generalize st (ev E x) = s at hg ⊢
    obtain ⟨p, a⟩ := s
    cases a <;> first | rfl | (rename_i off; cases off <;> first | rfl | (have hk := hg _ (List.mem_singleton.2 rfl); simp only [hk]))
  case slice t x lo hi mx =>
    cases mx with
    | some m => rfl
    | none =>
      obtain ⟨h1, h2⟩ := opt_congr (E := E) (E' := E') (o := lo) fun p hp => h p (by simp at hp ⊢; simp [hp])
      obtain ⟨h3, h4⟩ := opt_congr (E := E) (E' := E') (o := hi) fun p hp => h p (by simp at hp ⊢; simp [hp])
      simp only [heapF]
      rw [← h x (by simp), ← h1, ← h2, ← h3, ← h4]
      generalize st (ev E x) = s at hg ⊢
      obtain ⟨p, a⟩ := s
      cases slT P t <;> cases a <;> first | rfl | (have hk := hg _ (List.mem_singleton.2 rfl); simp only [hk])
  case call c =>
    have hc : ∀ x ∈ c.args.toList, ev E x = ev E' x := fun x hx => h x (by simp [Call.operands]; exact .inr (by simpa using hx))
    have hg' : ∀ x ∈ c.args.toList, ∀ t ∈ tagOf (st (ev E x)).2, G t = G' t := fun x hx t ht => hg t (List.mem_append.2 (.inr (List.mem_flatten.2 ⟨_, List.mem_map.2 ⟨x, hx, rfl⟩, ht⟩)))
    split
    · rename_i x t e1 e2 e3
      rw [e2] at hc hg'
      rw [← hc x (by simp)]
      have h2 := hg' x (by simp)
      generalize st (ev E x) = s at h2 ⊢
      obtain ⟨p, a⟩ := s
      cases a <;> cases slT P t <;> first | rfl | (have hk := h2 _ (List.mem_singleton.2 rfl); dsimp only; rw [hk])
    · rename_i x y t t' e1 e2 e3
      rw [e2] at hc hg'
      rw [← hc x (by simp), ← hc y (by simp)]
      have h2 := hg' x (by simp)
      have h3 := hg' y (by simp)
      generalize st (ev E x) = s at h2 ⊢
      generalize st (ev E y) = s2 at h3 ⊢
      obtain ⟨p, a⟩ := s
      obtain ⟨q, a2⟩ := s2
      cases slT P t with
      | none => rfl
      | some e => cases a <;> first | rfl | (cases a2 <;> first | rfl | (simp only [h2 _ (List.mem_singleton.2 rfl), h3 _ (List.mem_singleton.2 rfl)]; done) | (simp only [h3 _ (List.mem_singleton.2 rfl)]; done) | (simp only [h2 _ (List.mem_singleton.2 rfl)]; done) | (rename_i l; cases l <;> first | rfl | (simp only [h2 _ (List.mem_singleton.2 rfl)]; done)))
    · rfl

theorem gq_congr {E E' : Env} {ops : List Oper} {j : Nat} {want : Bool} (h : ∀ s, (ops[j]?).bind (·.dst) = some s → E s = E' s) : gq E ops j want = gq E' ops j want := by
  unfold gq
  cases hs : (ops[j]?).bind (·.dst) with
  | none => rfl
  | some s => simp only [h s hs]

theorem rdT_congr {E E' : Env} {o : Oper} (h : ∀ x ∈ o.op.operands.toList, ev E x = ev E' x) : rdT E o = rdT E' o := by
  obtain ⟨dst, op, type, pos, after, guard⟩ := o
  cases op <;> simp only [rdT] <;> simp only [Op.operands] at h
  case load t x => rw [h x (by simp)]
  case store t x v => rw [h x (by simp)]
  case indexAddr t x i => rw [h x (by simp)]
  case lookup t x i ok => rw [h x (by simp)]
  case mapUpdate t x k v => rw [h x (by simp)]
  case insert t x k v => rw [h x (by simp)]
  case mapEntry t x k => rw [h x (by simp)]
  case entryStore t x s v => rw [h x (by simp)]
  case next x isS => rw [h x (by simp)]
  case range t x => rw [h x (by simp)]
  case entry x => rw [h x (by simp)]
  case slice t x lo hi mx => rw [h x (by simp)]
  case call c =>
    have h1 : fnT E c.callee = fnT E' c.callee := by
      cases hc : c.callee <;> simp only [fnT]
      rename_i f
      rw [h f (by simp [Call.operands, hc])]
    rw [h1]
    congr 2
    exact List.map_congr_left fun x hx => by rw [h x (by simp [Call.operands]; exact .inr (by simpa using hx))]

theorem looks_op {ops : List Oper} {o : Oper} {E E' : Env} (h : ∀ t ∈ o.looksAt ops.toArray, E t = E' t) : ∀ x ∈ o.op.operands.toList, ev E x = ev E' x := by
  intro x hx
  cases x with
  | tmp t => exact h t (List.mem_append.2 (.inl (List.mem_filterMap.2 ⟨.tmp t, hx, rfl⟩)))
  | _ => rfl

theorem entsOf_congr {G G' : Nat → Option Ent} : ∀ {l : List Nat}, (∀ t ∈ l, G t = G' t) → entsOf G l = entsOf G' l
  | [], _ => rfl
  | t :: l, h => by
    have ih : entsOf G l = entsOf G' l := entsOf_congr fun s hs => h s (List.mem_cons_of_mem _ hs)
    simp only [entsOf, h t (List.mem_cons_self), ih]
theorem fStep0_congr {ρ : Nat → Option CR} {u : Value} {b : Nat} {ops : List Oper} {o : Oper} {E E' : Env} {G G' : Nat → Option Ent} (h : ∀ t ∈ o.looksAt ops.toArray, E t = E' t) (hg : ∀ t ∈ rdT E o, G t = G' t) :
    fStep0 P ρ u b ops o E G = fStep0 P ρ u b ops o E' G' := by
  have ho := looks_op h
  have hrd := rdT_congr ho
  have hent : entsOf G (rdT E' o) = entsOf G' (rdT E' o) := entsOf_congr fun t ht => hg t (by rw [hrd]; exact ht)
  unfold fStep0
  cases hgd : o.guard with
  | none => simp only [pureA_congr ho, callA_congr ho, heapF_congr ho hg, hrd, hent]
  | some jw =>
    obtain ⟨j, want⟩ := jw
    have hq : gq E ops j want = gq E' ops j want := gq_congr fun s hs => h s (List.mem_append.2 (.inr (by simp only [hgd, List.getElem?_toArray, hs]; simp)))
    simp only [pureA_congr ho, callA_congr ho, heapF_congr ho hg, hq, hrd, hent]

theorem evsR_congr {E E' : Env} {ps : List (Nat × Operand)} (h : ∀ p ∈ ps, ev E p.2 = ev E' p.2) : evsR E ps = evsR E' ps ∧ evpR E ps = evpR E' ps := by
  constructor
  · unfold evsR
    apply List.map_congr_left
    intro p hp
    obtain ⟨i, o⟩ := p
    simp only [h _ hp]
  · unfold evpR
    apply propext
    constructor
    · intro hh p hp; rw [← h p hp]; exact hh p hp
    · intro hh p hp; rw [h p hp]; exact hh p hp
theorem bldF_congr {E E' : Env} {o : Oper} {u : Value} {τ : Nat} (h : ∀ x ∈ o.op.operands.toList, ev E x = ev E' x) : bldF P E u τ o.op = bldF P E' u τ o.op := by
  obtain ⟨dst, op, type, pos, after, guard⟩ := o
  cases op <;> simp only [bldF] <;> simp only [Op.operands] at h
  rename_i t n ps
  obtain ⟨h1, h2⟩ := evsR_congr (E := E) (E' := E') (ps := ps.toList) fun p hp => h p.2 (by simp; exact ⟨_, by simpa using hp⟩)
  rw [h1, h2]
theorem clipF_congr {E E' : Env} {o : Oper} (h : ∀ x ∈ o.op.operands.toList, ev E x = ev E' x) : clipF P E o.op = clipF P E' o.op := by
  obtain ⟨dst, op, type, pos, after, guard⟩ := o
  cases op <;> simp only [clipF] <;> simp only [Op.operands] at h
  case buildSlice t n ps =>
    obtain ⟨h1, h2⟩ := evs_congr (E := E) (E' := E') (ps := ps.toList) fun p hp => h p.2 (by simp; exact ⟨_, by simpa using hp⟩)
    rw [h1, h2]
  case binOp op t x y ty => rw [h x (by simp), h y (by simp)]
  case slice t x lo hi mx =>
    cases mx with
    | none => rfl
    | some m =>
      obtain ⟨h1, h2⟩ := opt_congr (E := E) (E' := E') (o := lo) fun p hp => h p (by simp at hp ⊢; simp [hp])
      obtain ⟨h3, h4⟩ := opt_congr (E := E) (E' := E') (o := hi) fun p hp => h p (by simp at hp ⊢; simp [hp])
      simp only [clipF]
      rw [← h x (by simp), ← h m (by simp), ← h1, ← h2, ← h3, ← h4]
  case call c =>
    have hc : ∀ x ∈ c.args.toList, ev E x = ev E' x := fun x hx => h x (by simp [Call.operands]; exact .inr (by simpa using hx))
    split
    · rename_i x y t t' e1 e2 e3
      rw [e2] at hc
      rw [← hc x (by simp), ← hc y (by simp)]
    · rfl
theorem fStep_congr {ρ : Nat → Option CR} {u : Value} {b : Nat} {ops : List Oper} {o : Oper} {E E' : Env} {G G' : Nat → Option Ent} (h : ∀ t ∈ o.looksAt ops.toArray, E t = E' t) (hg : ∀ t ∈ rdT E o, G t = G' t) :
    fStep P ρ u b ops o E G = fStep P ρ u b ops o E' G' := by
  unfold fStep frzF
  rw [fStep0_congr h hg, bldF_congr (looks_op h), clipF_congr (looks_op h), heapF_congr (looks_op h) hg]

/-! ### The order of the text -/
section
variable (P) (ρ : Nat → Option CR) (ops : List Oper) (E0 : Env) (G0 : Nat → Option Ent)

def chG (G : Nat → Option Ent) : Option (Nat × Ent) → Nat → Option Ent
  | none => G
  | some (t, e) => fun s => if s = t then some e else G s

/-- The state ahead of operation i, where the steps marked in S alone are taken; 'r': what each step gives. -/
def eeS (r : Nat → Option (Prop × A × Option (Nat × Ent))) (S : Nat → Bool) : Nat → Env
  | 0 => E0
  | i + 1 => if S i then (match ops[i]?, r i with
    | some o, some (_, a, _) => put (eeS r S i) o.dst a
    | _, _ => eeS r S i) else eeS r S i
def ggS (r : Nat → Option (Prop × A × Option (Nat × Ent))) (S : Nat → Bool) : Nat → Nat → Option Ent
  | 0 => G0
  | i + 1 => if S i then (match ops[i]?, r i with
    | some _, some (_, _, ch) => chG (ggS r S i) ch
    | _, _ => ggS r S i) else ggS r S i
end

end Go.Proofs.YtakndgpdolfenaaGreat
end

/- Regions that draw their order: the theorem. -/
section
namespace Go.Proofs.YtakndgpdolfenaaGreat
variable {P : Program}

theorem hget_hset {g : Nat} {e e' : Ent} : ∀ {H : Heap}, hget g H = some e → ∀ t, hget t (hset g e' H) = if t = g then some e' else hget t H
  | [], h, _ => by simp [hget] at h
  | (s, e1) :: r, h, t => by
    simp only [hget] at h
    simp only [hset]
    split at h
    · rename_i hs
      subst hs
      simp only [if_true, hget]
      by_cases ht : t = s
      · subst ht; simp
      · simp [ht, Ne.symm ht]
    · rename_i hs
      simp only [hs, if_false, hget, hget_hset h t]
      by_cases ht : t = g
      · subst ht; simp [hs]
      · simp [ht]
theorem hget_happ (ch : Option (Nat × Ent)) (H : Heap) (t : Nat) : hget t (happ ch H) = chG (fun t => hget t H) ch t := by
  cases ch with
  | none => rfl
  | some p =>
    obtain ⟨s, e⟩ := p
    simp only [happ, chG]
    cases hs : hget s H with
    | some e' => simp only [hget_hset hs]
    | none =>
      simp only [hget]
      by_cases ht : t = s
      · subst ht; simp
      · simp [ht, Ne.symm ht]

theorem hget_hdel_ne {s t : Nat} (h : s ≠ t) : ∀ K : Heap, hget s (hdel t K) = hget s K
  | [] => rfl
  | (u, e) :: r => by
    simp only [hdel, hget]
    by_cases hu : u = t
    · subst hu; simp [Ne.symm h]
    · simp only [hu, if_false, hget, hget_hdel_ne h r]
theorem entsOf_perm : ∀ {l : List Nat} {H : Heap}, l.Nodup → ∃ R : Heap, H.Perm (entsOf (fun t => hget t H) l ++ R)
  | [], H, _ => ⟨H, by simp [entsOf]⟩
  | t :: l, H, h => by
    simp only [List.nodup_cons] at h
    simp only [entsOf]
    cases hg : hget t H with
    | none => exact entsOf_perm h.2
    | some e =>
      obtain ⟨R, hR⟩ := entsOf_perm (H := hdel t H) h.2
      have hc : entsOf (fun s => hget s (hdel t H)) l = entsOf (fun s => hget s H) l := entsOf_congr fun s hs => hget_hdel_ne (show s ≠ t from fun e => h.1 (by rw [← e]; exact hs)) H
      rw [hc] at hR
      exact ⟨R, (hdel_perm hg).trans (hR.cons _)⟩
/-- A call that only looks at some of what is owned. -/
theorem CallS.ro {g : FuncId} {az : List A} {H : Heap} {r : A} {l : List Nat} (hn : l.Nodup) (h : CallS P g az (entsOf (fun t => hget t H) l) (fun r' H' => r' = r ∧ H' = entsOf (fun t => hget t H) l)) : CallS P g az H fun r' H' => r' = r ∧ H' = H := by
  refine ⟨h.1, fun x args H0 hi hd => ?_⟩
  obtain ⟨R, hR⟩ := entsOf_perm (H := H) hn
  have hi' : Inv x (entsOf (fun t => hget t H) l ++ (R ++ H0)) := by
    rw [← List.append_assoc]
    exact hi.perm (hR.symm.append_right H0)
  refine (h.2 x args (R ++ H0) hi' hd).mono ?_
  rintro _ _ ⟨y, v, r', H', rfl, rfl, h3, h4, h5, rfl, rfl⟩
  refine ⟨y, v, _, H, rfl, rfl, h3, ?_, h5, rfl, rfl⟩
  rw [← List.append_assoc] at h4
  exact h4.perm (hR.append_right H0)

/-! ### Several slices under one mark -/
theorem Ds_owns {x : X} {u : Value} {τ τ' : Nat} : ∀ {qs : List (TypeId × Nat × List (List A))} {i : Nat} {vs : List Value}, Ds x (ownsL u τ i qs) vs → Ds x (ownsL u τ' i qs) vs
  | [], _, _, h => h
  | _ :: r, i, v :: vs, h => by
    simp only [ownsL, Ds, D] at h ⊢
    exact ⟨h.1, Ds_owns h.2⟩
  | _ :: _, _, [], h => by simp [ownsL, Ds] at h
theorem entsL_mem {u : Value} {τ : Nat} : ∀ {qs : List (TypeId × Nat × List (List A))} {i : Nat} {q : Value × TypeId × Nat × List (List A)}, q ∈ hdrsL u i qs → ∃ j, (τ + j, Ent.seq q.1 q.2.1 q.2.2.1 q.2.2.2) ∈ entsL u τ i qs
  | [], _, _, h => by simp [hdrsL] at h
  | p :: r, i, q, h => by
    simp only [hdrsL] at h
    rcases List.mem_cons.1 h with rfl | h
    · exact ⟨i, by simp [entsL]⟩
    · obtain ⟨j, hj⟩ := entsL_mem (τ := τ) h
      exact ⟨j, by simp only [entsL]; exact List.mem_cons_of_mem _ hj⟩
theorem hdrsL_mem {u : Value} {τ : Nat} : ∀ {qs : List (TypeId × Nat × List (List A))} {i : Nat} {p : Nat × Ent}, p ∈ entsL u τ i qs → ∃ q ∈ hdrsL u i qs, p.2 = Ent.seq q.1 q.2.1 q.2.2.1 q.2.2.2
  | [], _, _, h => by simp [entsL] at h
  | p0 :: r, i, p, h => by
    simp only [entsL] at h
    rcases List.mem_cons.1 h with rfl | h
    · exact ⟨_, List.mem_cons_self, rfl⟩
    · obtain ⟨q, hq, e⟩ := hdrsL_mem h
      exact ⟨q, by simp only [hdrsL]; exact List.mem_cons_of_mem _ hq, e⟩
theorem hdrsL_apart {u : Value} {τ : Nat} : ∀ {qs : List (TypeId × Nat × List (List A))} {i : Nat}, (entsL u τ i qs).Pairwise (fun p q => ∀ b, p.2.own b → ¬ q.2.own b) ↔ (hdrsL u i qs).Pairwise (fun p q => ∀ b, p.1.ownBlock = some b → q.1.ownBlock ≠ some b)
  | [], _ => by simp [entsL, hdrsL]
  | p :: r, i => by
    simp only [entsL, hdrsL, List.pairwise_cons]
    rw [hdrsL_apart (qs := r)]
    constructor
    · rintro ⟨h1, h2⟩
      refine ⟨fun q hq b hb => ?_, h2⟩
      obtain ⟨j, hj⟩ := entsL_mem (τ := τ) hq
      exact h1 _ hj b hb
    · rintro ⟨h1, h2⟩
      refine ⟨fun q hq b hb => ?_, h2⟩
      obtain ⟨q', hq', e⟩ := hdrsL_mem hq
      rw [e]
      exact h1 q' hq' b hb
theorem Inv.bundle {x : X} {u : Value} {τ t : Nat} {qs : List (TypeId × Nat × List (List A))} {H : Heap} (h : Inv x (entsL u τ 0 qs ++ H)) : Inv x ((t, .seqs (hdrsL u 0 qs)) :: H) := by
  have hap := List.pairwise_append.1 h.apart
  refine ⟨h.bd, ?_, ?_, List.pairwise_cons.2 ⟨?_, hap.2.1⟩⟩
  · intro p hp
    rcases List.mem_cons.1 hp with rfl | hp
    · refine ⟨fun q hq => ?_, hdrsL_apart.1 hap.1⟩
      obtain ⟨j, hj⟩ := entsL_mem (τ := τ) hq
      exact h.sat _ (List.mem_append.2 (.inl hj))
    · exact h.sat p (List.mem_append.2 (.inr hp))
  · intro p hp b hb
    rcases List.mem_cons.1 hp with rfl | hp
    · obtain ⟨q, hq, hqb⟩ := hb
      obtain ⟨j, hj⟩ := entsL_mem (τ := τ) hq
      exact h.own _ (List.mem_append.2 (.inl hj)) b hqb
    · exact h.own p (List.mem_append.2 (.inr hp)) b hb
  · intro p hp b hb
    obtain ⟨q, hq, hqb⟩ := hb
    obtain ⟨j, hj⟩ := entsL_mem (τ := τ) hq
    exact hap.2.2 _ hj p hp b hqb
/-- Slices under marks of their own. -/
def spreadL (τ : Nat) : Nat → List (Value × TypeId × Nat × List (List A)) → Heap
  | _, [] => []
  | i, q :: r => (τ + i, .seq q.1 q.2.1 q.2.2.1 q.2.2.2) :: spreadL τ (i + 1) r
theorem spread_mem {τ : Nat} : ∀ {l : List (Value × TypeId × Nat × List (List A))} {i : Nat} {p : Nat × Ent}, p ∈ spreadL τ i l → ∃ q ∈ l, p.2 = Ent.seq q.1 q.2.1 q.2.2.1 q.2.2.2
  | [], _, _, h => by simp [spreadL] at h
  | q :: r, i, p, h => by
    simp only [spreadL] at h
    rcases List.mem_cons.1 h with rfl | h
    · exact ⟨q, List.mem_cons_self, rfl⟩
    · obtain ⟨q', h1, h2⟩ := spread_mem h
      exact ⟨q', List.mem_cons_of_mem _ h1, h2⟩
theorem spread_apart {τ : Nat} : ∀ {l : List (Value × TypeId × Nat × List (List A))} {i : Nat}, l.Pairwise (fun p q => ∀ b, p.1.ownBlock = some b → q.1.ownBlock ≠ some b) → (spreadL τ i l).Pairwise (fun p q => ∀ b, p.2.own b → ¬ q.2.own b)
  | [], _, _ => by simp [spreadL]
  | q :: r, i, h => by
    obtain ⟨h1, h2⟩ := List.pairwise_cons.1 h
    simp only [spreadL]
    refine List.pairwise_cons.2 ⟨fun p hp b hb => ?_, spread_apart h2⟩
    obtain ⟨q', hq', e⟩ := spread_mem hp
    rw [e]
    exact h1 q' hq' b hb
theorem Inv.spread {x : X} {t τ : Nat} {l : List (Value × TypeId × Nat × List (List A))} {H : Heap} (h : Inv x ((t, .seqs l) :: H)) : Inv x (spreadL τ 0 l ++ H) := by
  have hs := h.sat (t, .seqs l) (by simp)
  have hap := List.pairwise_cons.1 h.apart
  refine ⟨h.bd, ?_, ?_, List.pairwise_append.2 ⟨spread_apart hs.2, hap.2, ?_⟩⟩
  · intro p hp
    rcases List.mem_append.1 hp with hp | hp
    · obtain ⟨q, hq, e⟩ := spread_mem hp
      rw [e]
      exact hs.1 q hq
    · exact h.sat p (List.mem_cons_of_mem _ hp)
  · intro p hp b hb
    rcases List.mem_append.1 hp with hp | hp
    · obtain ⟨q, hq, e⟩ := spread_mem hp
      rw [e] at hb
      exact h.own (t, .seqs l) (by simp) b ⟨q, hq, hb⟩
    · exact h.own p (List.mem_cons_of_mem _ hp) b hb
  · intro p hp r hr b hb
    obtain ⟨q, hq, e⟩ := spread_mem hp
    rw [e] at hb
    exact hap.1 r hr b ⟨q, hq, hb⟩
def xpE : Nat × Ent → Heap
  | (t, .seqs l) => spreadL (stB t) 0 l
  | p => [p]
def xpH : Heap → Heap
  | [] => []
  | p :: r => xpE p ++ xpH r
theorem Inv.xp {x : X} {H0 : Heap} : ∀ {H A0 : Heap}, Inv x (A0 ++ (H ++ H0)) → Inv x (A0 ++ (xpH H ++ H0))
  | [], _, h => h
  | (t, e) :: r, A0, h => by
    have key : Inv x ((A0 ++ xpE (t, e)) ++ (r ++ H0)) → Inv x (A0 ++ (xpH ((t, e) :: r) ++ H0)) := by
      intro h2
      have := Inv.xp (H := r) h2
      simpa [xpH, List.append_assoc] using this
    refine key ?_
    cases e with
    | seqs l =>
      have h1 : Inv x ((t, .seqs l) :: (A0 ++ (r ++ H0))) := h.perm (by simpa using (List.perm_middle (l₁ := A0) (l₂ := r ++ H0) (a := (t, Ent.seqs l))).symm)
      have h2 := h1.spread (τ := stB t)
      have e : ((A0 ++ spreadL (stB t) 0 l) ++ (r ++ H0)).Perm ((spreadL (stB t) 0 l ++ A0) ++ (r ++ H0)) := List.Perm.append_right _ List.perm_append_comm
      rw [List.append_assoc (spreadL (stB t) 0 l)] at e
      exact h2.perm e
    | _ => simpa [xpE, List.append_assoc] using h

theorem fStep0_ok {ρ : Nat → Option CR} {ops : List Oper} {o : Oper} {E : Env} {G : Nat → Option Ent} (h : ∀ u b, ∃ p a ch, fStep0 P ρ u b ops o E G = some (p, a, ch) ∧ p) {n : Nat} {ds : List Deferred} {x : X} {act : Act} {H H0 : Heap}
    (hG : ∀ t, G t = hget t H) (hi : Inv x (H ++ H0)) (he : EnvOK n ds x act E) {i : Nat} (ho : ops.toArray[i]? = some o) {K : Act → World → Prop} {Q : Exit → Act → World → Prop}
    (hk : ∀ u b p a ch v (y : X), fStep0 P ρ u b ops o E G = some (p, a, ch) → x.le y → Inv y (happ ch H ++ H0) → D y a v → K (act.put o.dst v) y.w) :
    wpOp P ops.toArray Q i K act x.w := by
  obtain ⟨p0, a0, c0, hh, hp0⟩ := h .nilIface 0
  have hh0 := hh
  unfold wpOp
  rw [ho]
  simp only
  unfold fStep0 at hh
  split at hh
  · rename_i hg
    have hw : Region.wanted o (yielded ops.toArray act.tmps) = true := by simp [Region.wanted, hg]
    rw [if_pos hw]
    left
    split at hh
    · rename_i p a hp
      simp only [Option.some.injEq, Prod.mk.injEq] at hh
      obtain ⟨rfl, rfl, rfl⟩ := hh
      obtain ⟨u, y, h1, h2, h3⟩ := pureA_ok hp hp0 _ _ x act he hi.bd
      show o.upon P act K Q _
      rw [h1]
      exact hk _ _ _ _ _ u y hh0 h2.le (hi.grow h2) h3
    · rename_i hpn
      split at hh
      · rename_i p g az hc
        split at hh <;> try (simp at hh; done)
        · rename_i r hr
          simp only [Option.some.injEq, Prod.mk.injEq] at hh
          obtain ⟨rfl, rfl, rfl⟩ := hh
          obtain ⟨args, h1, h2⟩ := callA_ok hc hp0.1 he hp0.2.1
          show o.upon P act K Q _
          rw [h1]
          have hcs : CallS P g az H (fun r' H' => r' = r ∧ H' = H) := hp0.2.s ⟨rfl, rfl⟩
          refine (hcs.2 x args H0 hi h2).mono ?_
          rintro e w' ⟨y, v, r', H', rfl, rfl, h3, h4, h5, rfl, rfl⟩
          exact hk _ _ _ _ _ v y hh0 h3 h4 h5
        · rename_i e sz rows hr
          simp only [Option.some.injEq, Prod.mk.injEq] at hh
          obtain ⟨rfl, _, _⟩ := hh
          obtain ⟨args, h1, h2⟩ := callA_ok hc hp0.1 he hp0.2.1
          show o.upon P act K Q _
          rw [h1]
          have hcs := CallS.frame (H1 := H) hp0.2
          refine (hcs.2 x args H0 hi h2).mono ?_
          rintro ee w' ⟨y, v, r', H', rfl, rfl, h3, h4, h5, H2, ⟨t, hv, rfl, rfl⟩, rfl⟩
          simp only [D] at h5
          refine hk hv 0 _ _ _ v y (by simp only [fStep0, hg, hpn, hc, hr]; rfl) h3 (happ_new ?_) (by simp only [D]; exact h5)
          have h6 : Inv y ((t, .seq hv e sz rows) :: (H ++ H0)) := by simpa using h4
          refine ⟨h6.bd, ?_, ?_, ?_⟩
          · intro q hq
            rcases List.mem_cons.1 hq with rfl | hq
            · exact h6.sat (t, .seq hv e sz rows) (by simp)
            · exact h6.sat q (by simp only [List.mem_cons]; exact .inr hq)
          · intro q hq b hb
            rcases List.mem_cons.1 hq with rfl | hq
            · exact h6.own (t, .seq hv e sz rows) (by simp) b hb
            · exact h6.own q (by simp only [List.mem_cons]; exact .inr hq) b hb
          · have := List.pairwise_cons.1 h6.apart
            exact List.pairwise_cons.2 ⟨fun q hq b hb => this.1 q hq b hb, this.2⟩
        · rename_i r hr
          simp only [Option.some.injEq, Prod.mk.injEq] at hh
          obtain ⟨rfl, rfl, rfl⟩ := hh
          obtain rfl : G = fun t => hget t H := funext hG
          obtain ⟨args, h1, h2⟩ := callA_ok hc hp0.1 he hp0.2.2.1
          show o.upon P act K Q _
          rw [h1]
          refine ((CallS.ro hp0.2.1 hp0.2.2).2 x args H0 hi h2).mono ?_
          rintro e w' ⟨y, v, r', H', rfl, rfl, h3, h4, h5, rfl, rfl⟩
          exact hk _ _ _ _ _ v y hh0 h3 h4 h5
        · rename_i qs hr
          simp only [Option.some.injEq, Prod.mk.injEq] at hh
          obtain ⟨rfl, _, _⟩ := hh
          obtain ⟨args, h1, h2⟩ := callA_ok hc hp0.1 he hp0.2.1
          show o.upon P act K Q _
          rw [h1]
          have hcs := CallS.frame (H1 := H) hp0.2
          refine (hcs.2 x args H0 hi h2).mono ?_
          rintro ee w' ⟨y, v, r', H', rfl, rfl, h3, h4, h5, H2, ⟨u, rfl, rfl⟩, rfl⟩
          simp only [D] at h5
          refine hk u 0 _ _ _ v y (by simp only [fStep0, hg, hpn, hc, hr]; rfl) h3 (happ_new ?_) ?_
          · rw [List.append_assoc] at h4
            exact h4.bundle
          · simp only [D]
            obtain ⟨vs, e, hds⟩ := h5
            exact ⟨vs, e, Ds_owns hds⟩
      · rename_i hcn
        have hF : ∀ u b, ∃ p a ch, heapF P u b (o.dst.getD 0) E G o.op = some (p, a, ch) ∧ p := by
          intro u b
          obtain ⟨p, a, ch, h1, h2⟩ := h u b
          simp only [fStep0, hg, hpn, hcn] at h1
          exact ⟨p, a, ch, h1, h2⟩
        obtain ⟨u, b, v, y, p, a, ch, h1, h2, h3, h4, h5, h6⟩ := heapF_ok hF hG hi he
        have h7 : fStep0 P ρ u b ops o E G = some (p, a, ch) := by simp only [fStep0, hg, hpn, hcn]; exact h1
        show o.upon P act K Q _
        rcases h3 with h3 | ⟨h3, rfl⟩
        · rw [h3]; exact hk _ _ _ _ _ v y h7 h4 h5 h6
        · rw [h3]; exact hk _ _ _ _ _ Go.undef y h7 h4 h5 h6
  · rename_i j want hg
    split at hh <;> try (simp at hh; done)
    rename_i q hgq
    obtain ⟨w1, w2⟩ := gq_ok he hg hgq
    split at hh
    · rename_i p a hp
      simp only [Option.some.injEq, Prod.mk.injEq] at hh
      obtain ⟨rfl, rfl, rfl⟩ := hh
      by_cases hqq : q
      · rw [if_pos (w1 hqq)]
        left
        obtain ⟨u, y, h1, h2, h3⟩ := pureA_ok hp (hp0 hqq) _ _ x act he hi.bd
        show o.upon P act K Q _
        rw [h1]
        exact hk _ _ _ _ _ u y hh0 h2.le (hi.grow h2) (by simp only [D]; exact ⟨fun _ => h3, fun hn => absurd hqq hn⟩)
      · rw [if_neg (by rw [w2 hqq]; simp)]
        exact hk _ _ _ _ _ Go.undef x hh0 (.refl x) hi (by simp only [D]; exact ⟨fun hn => absurd hn hqq, fun _ => by first | rfl | trivial⟩)
    · split at hh <;> try (simp at hh; done)
      · rename_i p g az r hc hr
        simp only [Option.some.injEq, Prod.mk.injEq] at hh
        obtain ⟨rfl, rfl, rfl⟩ := hh
        by_cases hqq : q
        · rw [if_pos (w1 hqq)]
          left
          obtain ⟨args, h1, h2⟩ := callA_ok hc (hp0 hqq).1 he (hp0 hqq).2.1
          show o.upon P act K Q _
          rw [h1]
          have hcs : CallS P g az H (fun r' H' => r' = r ∧ H' = H) := (hp0 hqq).2.s ⟨rfl, rfl⟩
          refine (hcs.2 x args H0 hi h2).mono ?_
          rintro e w' ⟨y, v, r', H', rfl, rfl, h3, h4, h5, rfl, rfl⟩
          exact hk _ _ _ _ _ v y hh0 h3 h4 (by simp only [D]; exact ⟨fun _ => h5, fun hn => absurd hqq hn⟩)
        · rw [if_neg (by rw [w2 hqq]; simp)]
          exact hk _ _ _ _ _ Go.undef x hh0 (.refl x) hi (by simp only [D]; exact ⟨fun hn => absurd hn hqq, fun _ => by first | rfl | trivial⟩)
      · rename_i p g az r hc hr
        simp only [Option.some.injEq, Prod.mk.injEq] at hh
        obtain ⟨rfl, rfl, rfl⟩ := hh
        obtain rfl : G = fun t => hget t H := funext hG
        by_cases hqq : q
        · rw [if_pos (w1 hqq)]
          left
          obtain ⟨g1, g2, g3⟩ := hp0 hqq
          obtain ⟨args, h1, h2⟩ := callA_ok hc g1 he g3.1
          show o.upon P act K Q _
          rw [h1]
          refine ((CallS.ro g2 g3).2 x args H0 hi h2).mono ?_
          rintro e w' ⟨y, v, r', H', rfl, rfl, h3, h4, h5, rfl, rfl⟩
          exact hk _ _ _ _ _ v y hh0 h3 h4 (by simp only [D]; exact ⟨fun _ => h5, fun hn => absurd hqq hn⟩)
        · rw [if_neg (by rw [w2 hqq]; simp)]
          exact hk _ _ _ _ _ Go.undef x hh0 (.refl x) hi (by simp only [D]; exact ⟨fun hn => absurd hn hqq, fun _ => by first | rfl | trivial⟩)
      · rename_i hc
        split at hh
        rotate_left
        · simp only [Option.some.injEq, Prod.mk.injEq] at hh
          obtain ⟨rfl, rfl, rfl⟩ := hh
          rw [if_neg (by rw [w2 hp0]; simp)]
          exact hk _ _ _ _ _ Go.undef x hh0 (.refl x) hi (by simp only [D]; exact ⟨fun hn => absurd hn hp0, fun _ => by first | rfl | trivial⟩)
        rename_i p a hhp hrd
        simp only [Option.some.injEq, Prod.mk.injEq] at hh
        obtain ⟨rfl, rfl, rfl⟩ := hh
        by_cases hqq : q
        · rw [if_pos (w1 hqq)]
          left
          obtain ⟨u, b, v, y, p', a', ch', h1, h2, h3, h4, h5, h6⟩ := heapF_ok (P := P) (o := o) (E := E) (τ := 0) (fun u b => ⟨p, a, none, by rw [reads_fix hrd, hhp], hp0 hqq⟩) hG hi he
          rw [reads_fix (u' := .nilIface) (b' := 0) (τ' := 0) hrd, hhp] at h1
          simp only [Option.some.injEq, Prod.mk.injEq] at h1
          obtain ⟨rfl, rfl, rfl⟩ := h1
          show o.upon P act K Q _
          rcases h3 with h3 | ⟨h3, rfl⟩
          · rw [h3]; exact hk _ _ _ _ _ v y hh0 h4 h5 (by simp only [D]; exact ⟨fun _ => h6, fun hn => absurd hqq hn⟩)
          · rw [h3]; exact hk _ _ _ _ _ Go.undef y hh0 h4 h5 (by simp only [D]; exact ⟨fun _ => h6, fun hn => absurd hqq hn⟩)
        · rw [if_neg (by rw [w2 hqq]; simp)]
          exact hk _ _ _ _ _ Go.undef x hh0 (.refl x) hi (by simp only [D]; exact ⟨fun hn => absurd hn hqq, fun _ => by first | rfl | trivial⟩)

theorem happ_perm (t : Nat) (H : Heap) : ∃ R : Heap, ∀ e, (happ (some (t, e)) H).Perm ((t, e) :: R) := by
  cases hg : hget t H with
  | none => exact ⟨H, fun e => by simp [happ, hg]⟩
  | some e' => exact ⟨hdel t H, fun e => by rw [happ_set hg]; exact (hset_perm hg).symm⟩
theorem Inv.gone {x : X} {t : Nat} {H : Heap} (h : Inv x H) : Inv x ((t, .seqs []) :: H) := by
  refine ⟨h.bd, ?_, ?_, ?_⟩
  · intro p hp
    rcases List.mem_cons.1 hp with rfl | hp
    · exact ⟨fun q hq => (by cases hq), List.Pairwise.nil⟩
    · exact h.sat p hp
  · intro p hp b hb
    rcases List.mem_cons.1 hp with rfl | hp
    · obtain ⟨q, hq, _⟩ := hb; cases hq
    · exact h.own p hp b hb
  · refine List.pairwise_cons.2 ⟨fun q _ b hb => ?_, h.apart⟩
    obtain ⟨q, hq, _⟩ := hb; cases hq
theorem fStep_ok {ρ : Nat → Option CR} {ops : List Oper} {o : Oper} {E : Env} {G : Nat → Option Ent} (h : ∀ u b, ∃ p a ch, fStep P ρ u b ops o E G = some (p, a, ch) ∧ p) {n : Nat} {ds : List Deferred} {x : X} {act : Act} {H H0 : Heap}
    (hG : ∀ t, G t = hget t H) (hi : Inv x (H ++ H0)) (he : EnvOK n ds x act E) {i : Nat} (ho : ops.toArray[i]? = some o) {K : Act → World → Prop} {Q : Exit → Act → World → Prop}
    (hk : ∀ u b p a ch v (y : X), fStep P ρ u b ops o E G = some (p, a, ch) → x.le y → Inv y (happ ch H ++ H0) → D y a v → K (act.put o.dst v) y.w) :
    wpOp P ops.toArray Q i K act x.w := by
  cases hgd : o.guard with
  | some jw =>
    have e : ∀ u b, fStep P ρ u b ops o E G = fStep0 P ρ u b ops o E G := fun u b => by simp [fStep, hgd]
    exact fStep0_ok (fun u b => by rw [← e]; exact h u b) hG hi he ho fun u b p a ch v y h1 => hk u b p a ch v y (by rw [e]; exact h1)
  | none =>
    have hw : Region.wanted o (yielded ops.toArray act.tmps) = true := by simp [Region.wanted, hgd]
    cases hr : ρ (o.dst.getD 0) with
    | none =>
      have e : ∀ u b, fStep P ρ u b ops o E G = fStep0 P ρ u b ops o E G := fun u b => by simp [fStep, hgd, hr]
      exact fStep0_ok (fun u b => by rw [← e]; exact h u b) hG hi he ho fun u b p a ch v y h1 => hk u b p a ch v y (by rw [e]; exact h1)
    | some c =>
      cases c
      case bld =>
        have e : ∀ u b, fStep P ρ u b ops o E G = bldF P E u (o.dst.getD 0) o.op := fun u b => by simp [fStep, hgd, hr]
        obtain ⟨u, v, y, p, a, ch, h1, h2, h3, h4, h5⟩ := bldF_ok (o := o) (τ := o.dst.getD 0) (fun u => by rw [← e u 0]; exact h u 0) hi he
        unfold wpOp
        rw [ho]
        simp only
        rw [if_pos hw]
        left
        show o.upon P act K Q _
        rw [h2]
        exact hk u 0 p a ch v y (by rw [e]; exact h1) h3 h4 h5
      case clip =>
        have e : ∀ u b, fStep P ρ u b ops o E G = match clipF P E o.op with
          | some (p, a) => some (p, a, none)
          | none => none := fun u b => by unfold fStep; rw [hgd, hr]; first | done | (cases clipF P E o.op <;> rfl)
        obtain ⟨p, a, ch, h1, hp⟩ := h .nilIface 0
        have h1' := h1
        rw [e] at h1
        split at h1 <;> try (simp at h1; done)
        rename_i p' a' hc
        simp only [Option.some.injEq, Prod.mk.injEq] at h1
        obtain ⟨rfl, rfl, rfl⟩ := h1
        obtain ⟨u, y, k1, k2, k3⟩ := clipF_ok hc hp _ _ x act he hi.bd
        unfold wpOp
        rw [ho]
        simp only
        rw [if_pos hw]
        left
        show o.upon P act K Q _
        rw [k1]
        exact hk _ _ _ _ _ u y h1' k2.le (hi.grow k2) k3
      case frz =>
        have e : ∀ u b, fStep P ρ u b ops o E G = frzF P u b (o.dst.getD 0) E G o.op := fun u b => by simp [fStep, hgd, hr]
        have hF : ∀ u b, ∃ p a ch, heapF P u b (o.dst.getD 0) E G o.op = some (p, a, ch) ∧ p := by
          intro u b
          obtain ⟨p, a, ch, h1, h2⟩ := h u b
          rw [e] at h1
          unfold frzF at h1
          split at h1 <;> try (simp at h1; done)
          rename_i q g hh g' h' e' sz rows hq
          simp only [Option.some.injEq, Prod.mk.injEq] at h1
          obtain ⟨rfl, _, _⟩ := h1
          exact ⟨_, _, _, hq, h2.1⟩
        obtain ⟨u, b, v, y, p, a, ch, h1, h2, h3, h4, h5, h6⟩ := heapF_ok hF hG hi he
        obtain ⟨p2, a2, ch2, k1, k2⟩ := h u b
        have k1' := k1
        rw [e] at k1
        unfold frzF at k1
        rw [h1] at k1
        split at k1 <;> try (simp at k1; done)
        rename_i q g hh g' h' e' sz rows hq
        simp only [Option.some.injEq, Prod.mk.injEq] at hq k1
        obtain ⟨rfl, rfl, rfl⟩ := hq
        obtain ⟨rfl, rfl, rfl⟩ := k1
        obtain ⟨_, rfl, rfl, hd⟩ := k2
        obtain ⟨R, hR⟩ := happ_perm g' H
        have i1 : Inv y ([(g', .seq h' e' sz rows)] ++ (R ++ H0)) := by
          have := h5.perm ((hR (.seq h' e' sz rows)).symm.append_right H0)
          simpa using this
        obtain ⟨z, z1, z2, z3, z4, _⟩ := i1.freeze
        have i2 : Inv z (happ (some (g', .seqs [])) H ++ H0) := by
          have := (z3.gone (t := g')).perm (((hR (.seqs [])).append_right H0).trans (by simp))
          exact this
        simp only [D] at h6
        obtain ⟨rfl, _⟩ := h6
        have hs : Ent.sat z (.seq v e' sz rows) := Ent.sat_step z2 (fun _ _ => by rw [z1]) (i1.sat (g', .seq v e' sz rows) (by simp))
        have hrd : RdL z (.sl (rowsD rows)) v := seq_data hs (fun b hb => z4 b ⟨_, List.mem_singleton.2 rfl, hb⟩) hd
        unfold wpOp
        rw [ho]
        simp only
        rw [if_pos hw]
        left
        show o.upon P act K Q _
        rcases h3 with h3 | ⟨h3, rfl⟩
        · rw [h3, ← z1]
          exact hk u b _ _ _ v z k1' (h4.trans z2) i2 (by simpa [D] using hrd)
        · rw [h3, ← z1]
          exact hk u b _ _ _ Go.undef z k1' (h4.trans z2) i2 (by simpa [D] using hrd)
      all_goals
        have e : ∀ u b, fStep P ρ u b ops o E G = fStep0 P ρ u b ops o E G := fun u b => by simp [fStep, hgd, hr]
        exact fStep0_ok (fun u b => by rw [← e]; exact h u b) hG hi he ho fun u b p a ch v y h1 => hk u b p a ch v y (by rw [e]; exact h1)

end Go.Proofs.YtakndgpdolfenaaGreat
end

/- Regions that draw their order: every order comes to the same. -/
section
namespace Go.Proofs.YtakndgpdolfenaaGreat
variable {P : Program}

section
variable (P : Program) (ρ : Nat → Option CR) (ops : List Oper) (E0 : Env) (G0 : Nat → Option Ent) (ν : Nat → Value × Nat)

def lexS : Nat → Env × (Nat → Option Ent)
  | 0 => (E0, G0)
  | i + 1 => match ops[i]? with
    | some o => match fStep P ρ (ν i).1 (ν i).2 ops o (lexS i).1 (lexS i).2 with
      | some (_, a, ch) => (put (lexS i).1 o.dst a, chG (lexS i).2 ch)
      | none => lexS i
    | none => lexS i
def resN (i : Nat) : Option (Prop × A × Option (Nat × Ent)) := match ops[i]? with
  | some o => fStep P ρ (ν i).1 (ν i).2 ops o (lexS P ρ ops E0 G0 ν i).1 (lexS P ρ ops E0 G0 ν i).2
  | none => none
end

theorem lexS_eq {ρ : Nat → Option CR} {ops : List Oper} {E0 : Env} {G0 : Nat → Option Ent} {ν : Nat → Value × Nat} : ∀ i, lexS P ρ ops E0 G0 ν i =
    (eeS ops E0 (resN P ρ ops E0 G0 ν) (fun _ => true) i, ggS ops G0 (resN P ρ ops E0 G0 ν) (fun _ => true) i)
  | 0 => rfl
  | i + 1 => by
    have ih := lexS_eq (ρ := ρ) (ops := ops) (E0 := E0) (G0 := G0) (ν := ν) i
    simp only [lexS, eeS, ggS, if_true]
    cases ho : ops[i]? with
    | none => simp only [ih]
    | some o =>
      have hr : resN P ρ ops E0 G0 ν i = fStep P ρ (ν i).1 (ν i).2 ops o (lexS P ρ ops E0 G0 ν i).1 (lexS P ρ ops E0 G0 ν i).2 := by simp only [resN, ho]
      dsimp only
      rw [← hr]
      cases hres : resN P ρ ops E0 G0 ν i with
      | none => simp only [ih]
      | some q => obtain ⟨p, a, ch⟩ := q; simp only [ih]

/-- The step of operation i writes slot t; it changes entry t. -/
def wrE (ops : List Oper) (i t : Nat) : Prop := ∃ o, ops[i]? = some o ∧ o.dst = some t
def wrG (r : Nat → Option (Prop × A × Option (Nat × Ent))) (i t : Nat) : Prop := ∃ p a e, r i = some (p, a, some (t, e))

theorem eeS_congr {ops : List Oper} {E0 : Env} {r r' : Nat → Option (Prop × A × Option (Nat × Ent))} {S T : Nat → Bool} {t : Nat} : ∀ n, (∀ k, k < n → wrE ops k t → S k = T k ∧ (S k = true → r k = r' k)) →
    eeS ops E0 r S n t = eeS ops E0 r' T n t
  | 0, _ => rfl
  | n + 1, h => by
    have ih := eeS_congr (E0 := E0) n fun k hk => h k (by omega)
    simp only [eeS]
    by_cases hw : wrE ops n t
    · obtain ⟨h1, h2⟩ := h n (by omega) hw
      rw [← h1]
      by_cases hs : S n = true
      · rw [if_pos hs, if_pos hs, ← h2 hs]
        cases ops[n]? with
        | none => exact ih
        | some o => cases r n with
          | none => exact ih
          | some q =>
            obtain ⟨p, a, ch⟩ := q
            dsimp only
            cases hd : o.dst with
            | none => exact ih
            | some s => simp only [put, upd]; rw [ih]
      · rw [if_neg hs, if_neg hs]; exact ih
    · have hne : ∀ (F : Env) (q : Nat → Option (Prop × A × Option (Nat × Ent))), (match ops[n]?, q n with
        | some o, some (_, a, _) => put F o.dst a
        | _, _ => F) t = F t := by
        intro F q
        cases ho : ops[n]? with
        | none => rfl
        | some o => cases q n with
          | none => rfl
          | some z =>
            obtain ⟨p, a, ch⟩ := z
            dsimp only
            cases hd : o.dst with
            | none => rfl
            | some s =>
              have : t ≠ s := fun e => hw ⟨o, ho, by rw [hd, e]⟩
              simp [put, upd, this]
      have e1 : ∀ (U : Bool) (F : Env) (q : Nat → Option (Prop × A × Option (Nat × Ent))), (if U = true then (match ops[n]?, q n with
        | some o, some (_, a, _) => put F o.dst a
        | _, _ => F) else F) t = F t := by
        intro U F q
        cases U
        · rfl
        · exact hne F q
      exact (e1 _ _ r).trans (ih.trans (e1 _ _ r').symm)

theorem ggS_congr {ops : List Oper} {G0 : Nat → Option Ent} {r r' : Nat → Option (Prop × A × Option (Nat × Ent))} {S T : Nat → Bool} {t : Nat} : ∀ n, (∀ k, k < n → (wrG r k t ∨ wrG r' k t) → S k = T k ∧ (S k = true → r k = r' k)) →
    ggS ops G0 r S n t = ggS ops G0 r' T n t
  | 0, _ => rfl
  | n + 1, h => by
    have ih := ggS_congr (G0 := G0) (ops := ops) n fun k hk => h k (by omega)
    simp only [ggS]
    have hne : ∀ (F : Nat → Option Ent) (q : Nat → Option (Prop × A × Option (Nat × Ent))) (U : Bool), ¬ wrG q n t → (if U = true then (match ops[n]?, q n with
        | some _, some (_, _, ch) => chG F ch
        | _, _ => F) else F) t = F t := by
      intro F q U hq
      cases U
      · rfl
      · cases ho : ops[n]? with
        | none => rfl
        | some o => cases hqn : q n with
          | none => simp
          | some z =>
            obtain ⟨p, a, ch⟩ := z
            cases ch with
            | none => rfl
            | some w =>
              obtain ⟨s, e⟩ := w
              have : t ≠ s := fun ee => hq ⟨p, a, e, by rw [hqn, ee]⟩
              simp [chG, this]
    by_cases hw : wrG r n t ∨ wrG r' n t
    · obtain ⟨h1, h2⟩ := h n (by omega) hw
      rw [← h1]
      by_cases hs : S n = true
      · rw [if_pos hs, if_pos hs, ← h2 hs]
        cases ops[n]? with
        | none => exact ih
        | some o => cases r n with
          | none => exact ih
          | some q =>
            obtain ⟨p, a, ch⟩ := q
            cases ch with
            | none => exact ih
            | some w => obtain ⟨s, e⟩ := w; simp only [chG]; rw [ih]
      · rw [if_neg hs, if_neg hs]; exact ih
    · have hw' := not_or.1 hw
      exact (hne _ _ _ hw'.1).trans (ih.trans (hne _ _ _ hw'.2).symm)

/-- Beyond what is marked nothing is taken. -/
theorem eeS_stop {ops : List Oper} {E0 : Env} {r : Nat → Option (Prop × A × Option (Nat × Ent))} {i : Nat} : ∀ n, i ≤ n → eeS ops E0 r (fun k => decide (k < i)) n = eeS ops E0 r (fun _ => true) i
  | n, h => by
    induction n with
    | zero => obtain rfl : i = 0 := by omega
              rfl
    | succ n ih =>
      by_cases he : i = n + 1
      · subst he
        funext t
        exact eeS_congr (n + 1) fun k hk _ => ⟨by simp [hk], fun _ => rfl⟩
      · simp only [eeS]
        rw [if_neg (by simp; omega)]
        exact ih (by omega)
theorem ggS_stop {ops : List Oper} {G0 : Nat → Option Ent} {r : Nat → Option (Prop × A × Option (Nat × Ent))} {i : Nat} : ∀ n, i ≤ n → ggS ops G0 r (fun k => decide (k < i)) n = ggS ops G0 r (fun _ => true) i
  | n, h => by
    induction n with
    | zero => obtain rfl : i = 0 := by omega
              rfl
    | succ n ih =>
      by_cases he : i = n + 1
      · subst he
        funext t
        exact ggS_congr (n + 1) fun k hk _ => ⟨by simp [hk], fun _ => rfl⟩
      · simp only [ggS]
        rw [if_neg (by simp; omega)]
        exact ih (by omega)

/-- One step more: it is the last at its slot, at its entry. -/
theorem eeS_more {ops : List Oper} {E0 : Env} {r : Nat → Option (Prop × A × Option (Nat × Ent))} {S : Nat → Bool} {i : Nat} {o : Oper} {p : Prop} {a : A} {ch : Option (Nat × Ent)} (ho : ops[i]? = some o)
    (hr : r i = some (p, a, ch)) (hS : S i = false) : ∀ n, (∀ t k, i < k → k < n → S k = true → wrE ops k t → ¬ wrE ops i t) → i < n →
      eeS ops E0 r (fun k => S k || decide (k = i)) n = put (eeS ops E0 r S n) o.dst a
  | 0, _, h => by omega
  | n + 1, hc, h => by
    by_cases he : i = n
    · subst he
      simp only [eeS, hS, Bool.false_or, decide_true, if_true, Bool.false_eq_true, if_false, ho, hr]
      congr 1
      funext t
      refine eeS_congr i fun k hk _ => ⟨?_, fun _ => rfl⟩
      have : k ≠ i := by omega
      simp [this]
    · have ih := eeS_more (E0 := E0) ho hr hS n (fun t k h1 h2 => hc t k h1 (by omega)) (by omega)
      simp only [eeS]
      rw [ih]
      have hni : n ≠ i := fun e => he e.symm
      simp only [hni, decide_false, Bool.or_false]
      by_cases hs : S n = true
      · simp only [hs, if_true]
        cases hn : ops[n]? with
        | none => rfl
        | some o' => cases r n with
          | none => rfl
          | some q =>
            obtain ⟨p', a', ch'⟩ := q
            simp only
            cases hd : o.dst with
            | none => rfl
            | some s => cases hd' : o'.dst with
              | none => rfl
              | some s' =>
                have hne : s ≠ s' := fun e => hc s' n (by omega) (by omega) hs ⟨o', hn, hd'⟩ ⟨o, ho, by rw [hd, e]⟩
                funext t
                simp only [put, upd]
                by_cases h1 : t = s'
                · subst h1; simp [Ne.symm hne]
                · simp [h1]
      · simp only [hs]; rfl
theorem ggS_more {ops : List Oper} {G0 : Nat → Option Ent} {r : Nat → Option (Prop × A × Option (Nat × Ent))} {S : Nat → Bool} {i : Nat} {o : Oper} {p : Prop} {a : A} {ch : Option (Nat × Ent)} (ho : ops[i]? = some o)
    (hr : r i = some (p, a, ch)) (hS : S i = false) : ∀ n, (∀ t k, i < k → k < n → S k = true → wrG r k t → ¬ wrG r i t) → i < n →
      ggS ops G0 r (fun k => S k || decide (k = i)) n = chG (ggS ops G0 r S n) ch
  | 0, _, h => by omega
  | n + 1, hc, h => by
    by_cases he : i = n
    · subst he
      simp only [ggS, hS, Bool.false_or, decide_true, if_true, Bool.false_eq_true, if_false, ho, hr]
      congr 1
      funext t
      refine ggS_congr i fun k hk _ => ⟨?_, fun _ => rfl⟩
      have : k ≠ i := by omega
      simp [this]
    · have ih := ggS_more (G0 := G0) ho hr hS n (fun t k h1 h2 => hc t k h1 (by omega)) (by omega)
      simp only [ggS]
      rw [ih]
      have hni : n ≠ i := fun e => he e.symm
      simp only [hni, decide_false, Bool.or_false]
      by_cases hs : S n = true
      · simp only [hs, if_true]
        cases hn : ops[n]? with
        | none => rfl
        | some o' => cases hrn : r n with
          | none => rfl
          | some q =>
            obtain ⟨p', a', ch'⟩ := q
            simp only
            cases ch with
            | none => rfl
            | some w => cases ch' with
              | none => rfl
              | some w' =>
                obtain ⟨s, e⟩ := w
                obtain ⟨s', e'⟩ := w'
                have hne : s ≠ s' := fun ee => hc s' n (by omega) (by omega) hs ⟨p', a', e', hrn⟩ ⟨p, a, e, by rw [hr, ee]⟩
                funext t
                simp only [chG]
                by_cases h1 : t = s'
                · subst h1; simp [Ne.symm hne]
                · simp [h1]
      · simp only [hs]; rfl

end Go.Proofs.YtakndgpdolfenaaGreat
end

/- Regions that draw their order: the rule. -/
section
namespace Go.Proofs.YtakndgpdolfenaaGreat
variable {P : Program}

def dirB (ops : List Oper) (j i : Nat) : Bool := match ops[j]? with
  | some o => o.after.any fun e => Region.binds .any e && e.on == i
  | none => false
/-- Ahead of it, over at most three edges. -/
def relN (ops : List Oper) : Nat → Nat → Nat → Bool
  | 0, j, i => dirB ops j i
  | n + 1, j, i => dirB ops j i || (List.range j).any fun m => dirB ops j m && relN ops n m i
def relB (ops : List Oper) (j i : Nat) : Bool := relN ops 3 j i
/-- The second is asked only where the first holds. -/
def dOr (t b : Bool) : Bool := !t || b
@[congr] theorem dOr_congr {t t' b : Bool} (h : t = t') : dOr t b = dOr t' b := by rw [h]
@[simp] theorem dOr_f (b : Bool) : dOr false b = true := rfl
@[simp] theorem dOr_t (b : Bool) : dOr true b = b := rfl
theorem relN_dir {ops : List Oper} {n j i : Nat} (h : dirB ops j i = true) : relN ops n j i = true := by
  cases n <;> simp [relN, h]
def slotC (ops : List Oper) (i j : Nat) : Bool := match ops[i]?, ops[j]? with
  | some oi, some oj => (match oi.dst with
      | some d => (oj.looksAt ops.toArray).contains d || oj.dst == some d
      | none => false) || (match oj.dst with
      | some d => (oi.looksAt ops.toArray).contains d
      | none => false)
  | _, _ => false
/-- The order of the text is kept wherever two operations meet at a temporary. -/
def depB (ops : List Oper) : Bool := (List.range ops.length).all fun j =>
  (match ops[j]? with
    | some o => o.after.all fun e => !Region.binds .any e || decide (e.on < j)
    | none => true) && (List.range j).all fun i => !slotC ops i j || dirB ops j i
def tagC (a b : List Nat × Option Nat) : Bool := (match a.2 with
    | some t => b.1.contains t || b.2 == some t
    | none => false) || (match b.2 with
    | some t => a.1.contains t
    | none => false)

def chT : Option (Nat × Ent) → Option Nat
  | some (t, _) => some t
  | none => none

def vcD (P : Program) (ρ : Nat → Option CR) (ops : List Oper) : Nat → List (Nat × List Nat × Option Nat) → List Oper → Env → Heap → (Env → Heap → Prop) → Prop
  | _, _, [], E, H, K => K E H
  | i, acc, o :: rest, E, H, K => ∀ u b, match fStep P ρ u b ops o E (fun t => hget t H) with
    | some (p, a, ch) => p ∧ (acc.all fun z => dOr (tagC z.2 (rdT E o, chT ch)) (dOr (!dirB ops i z.1) (relB ops i z.1))) = true ∧
        vcD P ρ ops (i + 1) ((i, rdT E o, chT ch) :: acc) rest (put E o.dst a) (happ ch H) K
    | none => False

theorem depB_edge {ops : List Oper} (h : depB ops = true) {j : Nat} {o : Oper} (ho : ops[j]? = some o) {e : Edge} (he : e ∈ o.after) (hb : Region.binds .any e = true) : e.on < j := by
  have hj : j < ops.length := (List.getElem?_eq_some_iff.1 ho).1
  have := List.all_eq_true.1 h j (List.mem_range.2 hj)
  simp only [ho, Bool.and_eq_true] at this
  have h2 := Array.all_eq_true_iff_forall_mem.1 this.1 e he
  simpa [hb] using h2
theorem depB_slot {ops : List Oper} (h : depB ops = true) {i j : Nat} (hij : i < j) (hj : j < ops.length) (hc : slotC ops i j = true) : dirB ops j i = true := by
  have := List.all_eq_true.1 h j (List.mem_range.2 hj)
  simp only [Bool.and_eq_true] at this
  have h2 := List.all_eq_true.1 this.2 i (List.mem_range.2 hij)
  simpa [hc] using h2
theorem dirB_edge {ops : List Oper} {i j : Nat} (h : dirB ops j i = true) : ∃ o e, ops[j]? = some o ∧ e ∈ o.after ∧ Region.binds .any e = true ∧ e.on = i := by
  unfold dirB at h
  split at h
  · rename_i o ho
    obtain ⟨q, hq, h2⟩ := Array.any_eq_true.1 h
    simp only [Bool.and_eq_true, beq_iff_eq] at h2
    exact ⟨o, o.after[q], ho, Array.getElem_mem hq, h2.1, h2.2⟩
  · cases h

/-- What holds of the order of the text, whatever is new in it. -/
structure LexOK (P : Program) (ρ : Nat → Option CR) (ops : List Oper) (E0 : Env) (G0 : Nat → Option Ent) : Prop where
  dep : depB ops = true
  val : ∀ ν i o, ops[i]? = some o → ∃ p a ch, resN P ρ ops E0 G0 ν i = some (p, a, ch) ∧ p
  tag : ∀ ν i j oi oj t, i < j → ops[i]? = some oi → ops[j]? = some oj →
    ((wrG (resN P ρ ops E0 G0 ν) i t ∧ (t ∈ rdT (lexS P ρ ops E0 G0 ν j).1 oj ∨ wrG (resN P ρ ops E0 G0 ν) j t)) ∨ (t ∈ rdT (lexS P ρ ops E0 G0 ν i).1 oi ∧ wrG (resN P ρ ops E0 G0 ν) j t)) → relB ops j i = true

section main
variable {ρ : Nat → Option CR} {ops : List Oper} {E0 : Env} {G0 : Nat → Option Ent}

/-- What is marked is marked with all that goes ahead of it. -/
def Closed (ops : List Oper) (S : Nat → Bool) : Prop := ∀ j i, S j = true → dirB ops j i = true → S i = true

theorem Closed.reln {S : Nat → Bool} (hc : Closed ops S) : ∀ (n j i : Nat), relN ops n j i = true → S j = true → S i = true
  | 0, j, i, h, hj => hc j i hj h
  | n + 1, j, i, h, hj => by
    simp only [relN, Bool.or_eq_true, List.any_eq_true, Bool.and_eq_true] at h
    rcases h with h | ⟨m, _, h1, h2⟩
    · exact hc j i hj h
    · exact Closed.reln hc n m i h2 (hc j m hj h1)
theorem Closed.rel {S : Nat → Bool} (hc : Closed ops S) {j i : Nat} (hj : S j = true) (h : relB ops j i = true) : S i = true := hc.reln 3 j i h hj
theorem Closed.ready {S : Nat → Bool} (hc : Closed ops S) {i : Nat} (hr : ∀ k, dirB ops i k = true → S k = true) {k : Nat} (h : relB ops i k = true) : S k = true := by
  simp only [relB, relN, Bool.or_eq_true, List.any_eq_true, Bool.and_eq_true] at h
  rcases h with h | ⟨m, _, h1, h2⟩
  · exact hr k h
  · refine hc.reln 2 m k ?_ (hr m h1)
    simpa only [relN, Bool.or_eq_true, List.any_eq_true, Bool.and_eq_true] using h2
theorem slot_raw {i j : Nat} {oj : Oper} {t : Nat} (hi : wrE ops i t) (hj : ops[j]? = some oj) (ht : t ∈ oj.looksAt ops.toArray) : slotC ops i j = true := by
  obtain ⟨oi, h1, h2⟩ := hi
  simp [slotC, h1, hj, h2, ht]
theorem slot_war {i j : Nat} {oi : Oper} {t : Nat} (hi : ops[i]? = some oi) (ht : t ∈ oi.looksAt ops.toArray) (hj : wrE ops j t) : slotC ops i j = true := by
  obtain ⟨oj, h1, h2⟩ := hj
  simp [slotC, h1, hi, h2, ht]
theorem slot_waw {i j : Nat} {t : Nat} (hi : wrE ops i t) (hj : wrE ops j t) : slotC ops i j = true := by
  obtain ⟨oi, h1, h2⟩ := hi
  obtain ⟨oj, h3, h4⟩ := hj
  simp [slotC, h1, h3, h2, h4]
theorem wrE_lt {k t : Nat} (h : wrE ops k t) : k < ops.length := by
  obtain ⟨o, h1, _⟩ := h
  exact (List.getElem?_eq_some_iff.1 h1).1
/-- What comes new at an operation that isn't marked makes no difference to what is. -/
theorem res_indep (L : LexOK P ρ ops E0 G0) {S : Nat → Bool} (hc : Closed ops S) {ν ν' : Nat → Value × Nat} (hν : ∀ k, S k = true → ν k = ν' k) :
    ∀ k, S k = true → resN P ρ ops E0 G0 ν k = resN P ρ ops E0 G0 ν' k := by
  intro k
  induction k using Nat.strongRecOn with
  | _ k ih =>
    intro hk
    cases ho : ops[k]? with
    | none => simp only [resN, ho]
    | some o =>
      have hkl : k < ops.length := (List.getElem?_eq_some_iff.1 ho).1
      have hE : ∀ t ∈ o.looksAt ops.toArray, (lexS P ρ ops E0 G0 ν k).1 t = (lexS P ρ ops E0 G0 ν' k).1 t := by
        intro t ht
        rw [lexS_eq, lexS_eq]
        refine eeS_congr k fun j hj hw => ⟨rfl, fun _ => ?_⟩
        exact ih j hj (hc k j hk (depB_slot L.dep hj hkl (slot_raw hw ho ht)))
      have hrd := rdT_congr (looks_op hE)
      have hG : ∀ t ∈ rdT (lexS P ρ ops E0 G0 ν k).1 o, (lexS P ρ ops E0 G0 ν k).2 t = (lexS P ρ ops E0 G0 ν' k).2 t := by
        intro t ht
        rw [lexS_eq (i := k) (ν := ν), lexS_eq (i := k) (ν := ν')]
        refine ggS_congr k fun j hj hw => ⟨rfl, fun _ => ?_⟩
        have hjl : j < ops.length := by omega
        rcases hw with hw | hw
        · exact ih j hj (hc.rel hk (L.tag ν j k _ o t hj (List.getElem?_eq_getElem hjl) ho (.inl ⟨hw, .inl ht⟩)))
        · exact ih j hj (hc.rel hk (L.tag ν' j k _ o t hj (List.getElem?_eq_getElem hjl) ho (.inl ⟨hw, .inl (by rw [← hrd]; exact ht)⟩)))
      simp only [resN, ho, hν k hk]
      exact fStep_congr hE hG

/-- An operation that is ready finds what it finds in the order of the text. -/
theorem step_same (L : LexOK P ρ ops E0 G0) {S : Nat → Bool} (hc : Closed ops S) {i : Nat} {o : Oper} (ho : ops[i]? = some o) (hi : S i = false) (hr : ∀ k, dirB ops i k = true → S k = true)
    {ν ν' : Nat → Value × Nat} (hν : ∀ k, S k = true → ν k = ν' k) (u : Value) (b : Nat) (hu : ν' i = (u, b)) :
    fStep P ρ u b ops o (eeS ops E0 (resN P ρ ops E0 G0 ν) S ops.length) (ggS ops G0 (resN P ρ ops E0 G0 ν) S ops.length) = resN P ρ ops E0 G0 ν' i := by
  have hil : i < ops.length := (List.getElem?_eq_some_iff.1 ho).1
  have hE : ∀ (μ : Nat → Value × Nat), (∀ k, S k = true → ν k = μ k) → ∀ t ∈ o.looksAt ops.toArray, eeS ops E0 (resN P ρ ops E0 G0 ν) S ops.length t = (lexS P ρ ops E0 G0 μ i).1 t := by
    intro μ hμ t ht
    rw [lexS_eq]
    simp only
    rw [← eeS_stop ops.length (by omega)]
    refine eeS_congr _ fun k hk hw => ⟨?_, fun hs => res_indep L hc hμ k hs⟩
    rcases Nat.lt_trichotomy k i with h | h | h
    · rw [hr k (depB_slot L.dep h hil (slot_raw hw ho ht))]; simp [h]
    · subst h; simp [hi]
    · have hd := depB_slot L.dep h (wrE_lt hw) (slot_war ho ht hw)
      have : S k = false := by
        cases hs : S k with
        | false => rfl
        | true => rw [hc k i hs hd] at hi; cases hi
      rw [this]
      have : ¬ k < i := by omega
      simp [this]
  have hrd : ∀ (μ : Nat → Value × Nat), (∀ k, S k = true → ν k = μ k) → rdT (eeS ops E0 (resN P ρ ops E0 G0 ν) S ops.length) o = rdT (lexS P ρ ops E0 G0 μ i).1 o := fun μ hμ => rdT_congr (looks_op (hE μ hμ))
  have hG : ∀ t ∈ rdT (eeS ops E0 (resN P ρ ops E0 G0 ν) S ops.length) o, ggS ops G0 (resN P ρ ops E0 G0 ν) S ops.length t = (lexS P ρ ops E0 G0 ν' i).2 t := by
    intro t ht
    rw [lexS_eq]
    simp only
    rw [← ggS_stop ops.length (by omega)]
    refine ggS_congr _ fun k hk hw => ⟨?_, fun hs => res_indep L hc hν k hs⟩
    have both : ∀ (μ : Nat → Value × Nat), (∀ k, S k = true → ν k = μ k) → wrG (resN P ρ ops E0 G0 μ) k t → S k = decide (k < i) := by
      intro μ hμ hwk
      have htr : t ∈ rdT (lexS P ρ ops E0 G0 μ i).1 o := by rw [← hrd μ hμ]; exact ht
      rcases Nat.lt_trichotomy k i with h | h | h
      · rw [hc.ready hr (L.tag μ k i _ o t h (List.getElem?_eq_getElem hk) ho (.inl ⟨hwk, .inl htr⟩))]; simp [h]
      · subst h; simp [hi]
      · have hd := L.tag μ i k o _ t h ho (List.getElem?_eq_getElem hk) (.inr ⟨htr, hwk⟩)
        have : S k = false := by
          cases hs : S k with
          | false => rfl
          | true => rw [hc.rel hs hd] at hi; cases hi
        rw [this]
        have : ¬ k < i := by omega
        simp [this]
    rcases hw with hw | hw
    · exact both ν (fun _ _ => rfl) hw
    · exact both ν' hν hw
  simp only [resN, ho, hu]
  exact fStep_congr (hE ν' hν) hG

/-- What a region must achieve, at the order of the text. -/
theorem region_any (L : LexOK P ρ ops E0 G0) {n : Nat} {ds : List Deferred} {H0 : Heap} {x0 : X} {Q : Exit → Act → World → Prop} (hfit : ∀ o ∈ ops, fits n o.dst)
    (hfin : ∀ ν x act Hc, x0.le x → Inv x (Hc ++ H0) → EnvOK n ds x act (lexS P ρ ops E0 G0 ν ops.length).1 → (∀ t, hget t Hc = (lexS P ρ ops E0 G0 ν ops.length).2 t) → Q .normal act x.w) :
    ∀ (fuel : Nat) (listed : Array Bool) (ν : Nat → Value × Nat) (x : X) (act : Act) (Hc : Heap) (l : List Nat), listed.size = ops.length → l.Nodup → (∀ k, k ∈ l ↔ k < ops.length ∧ listed.getD k false = false) → l.length = fuel →
      Closed ops (fun k => listed.getD k false) → x0.le x → Inv x (Hc ++ H0) → EnvOK n ds x act (eeS ops E0 (resN P ρ ops E0 G0 ν) (fun k => listed.getD k false) ops.length) →
      (∀ t, hget t Hc = ggS ops G0 (resN P ρ ops E0 G0 ν) (fun k => listed.getD k false) ops.length t) → wpAny P .any ops.toArray Q fuel listed act x.w := by
  have hdone : ∀ (listed : Array Bool) (ν : Nat → Value × Nat) (x : X) (act : Act) (Hc : Heap), (∀ k, k < ops.length → listed.getD k false = true) → x0.le x → Inv x (Hc ++ H0) →
      EnvOK n ds x act (eeS ops E0 (resN P ρ ops E0 G0 ν) (fun k => listed.getD k false) ops.length) → (∀ t, hget t Hc = ggS ops G0 (resN P ρ ops E0 G0 ν) (fun k => listed.getD k false) ops.length t) → Q .normal act x.w := by
    intro listed ν x act Hc hall hle hi he hg
    have e1 : eeS ops E0 (resN P ρ ops E0 G0 ν) (fun k => listed.getD k false) ops.length = (lexS P ρ ops E0 G0 ν ops.length).1 := by
      rw [lexS_eq]; funext t; exact eeS_congr _ fun k hk _ => ⟨hall k hk, fun _ => rfl⟩
    have e2 : ggS ops G0 (resN P ρ ops E0 G0 ν) (fun k => listed.getD k false) ops.length = (lexS P ρ ops E0 G0 ν ops.length).2 := by
      rw [lexS_eq]; funext t; exact ggS_congr _ fun k hk _ => ⟨hall k hk, fun _ => rfl⟩
    exact hfin ν x act Hc hle hi (by rw [← e1]; exact he) (by rw [← e2]; exact hg)
  have hready : ∀ (listed : Array Bool), listed.size = ops.length → Region.ready .any ops.toArray listed = [] → ∀ k, k < ops.length → listed.getD k false = true := by
    intro listed hsz hr k
    induction k using Nat.strongRecOn with
    | _ k ih =>
      intro hk
      cases hl : listed.getD k false with
      | true => rfl
      | false =>
        exfalso
        have hmem : k ∈ Region.ready .any ops.toArray listed := by
          refine mem_ready.2 ⟨?_, ops[k], by simp [hk], fun e he hb => ih e.on ?_ ?_⟩
          · rw [Array.getD_eq_getD_getElem?] at hl ⊢
            rw [Array.getElem?_eq_getElem (by omega)] at hl ⊢
            simpa using hl
          · exact depB_edge L.dep (List.getElem?_eq_getElem hk) he hb
          · exact Nat.lt_trans (depB_edge L.dep (List.getElem?_eq_getElem hk) he hb) hk
        rw [hr] at hmem
        cases hmem
  intro fuel
  induction fuel with
  | zero =>
    intro listed ν x act Hc l hsz hnd hl hlen hc hle hi he hg
    have hnil : l = [] := List.eq_nil_of_length_eq_zero hlen
    subst hnil
    have hall : ∀ k, k < ops.length → listed.getD k false = true := by
      intro k hk
      cases hh : listed.getD k false with
      | true => rfl
      | false => exact absurd ((hl k).2 ⟨hk, hh⟩) (by simp)
    refine ⟨?_, hdone listed ν x act Hc hall hle hi he hg⟩
    cases hr : Region.ready .any ops.toArray listed with
    | nil => rfl
    | cons k r =>
      have hm : k ∈ Region.ready .any ops.toArray listed := by rw [hr]; simp
      obtain ⟨h1, o, h2, _⟩ := mem_ready.1 hm
      have hk : k < ops.length := by simpa using (Array.getElem?_eq_some_iff.1 h2).1
      have := hall k hk
      rw [Array.getD_eq_getD_getElem?] at h1 this
      rw [Array.getElem?_eq_getElem (by omega)] at h1 this
      simp at h1 this
      rw [h1] at this; cases this
  | succ fuel ih =>
    intro listed ν x act Hc l hsz hnd hl hlen hc hle hi he hg
    refine ⟨fun hr => hdone listed ν x act Hc (hready listed hsz hr) hle hi he hg, fun i hir => ?_⟩
    obtain ⟨h1, o, h2, h3⟩ := mem_ready.1 hir
    have ho : ops[i]? = some o := by simpa using h2
    have hil : i < ops.length := (List.getElem?_eq_some_iff.1 ho).1
    have hSi : listed.getD i false = false := by
      rw [Array.getD_eq_getD_getElem?] at h1 ⊢
      rw [Array.getElem?_eq_getElem (by omega)] at h1 ⊢
      simpa using h1
    have hrd : ∀ k, dirB ops i k = true → listed.getD k false = true := by
      intro k hk
      obtain ⟨o', e, q1, q2, q3, q4⟩ := dirB_edge hk
      rw [ho] at q1; cases q1
      rw [← q4]; exact h3 e q2 q3
    let ν1 : Value → Nat → Nat → Value × Nat := fun u b k => if k = i then (u, b) else ν k
    have hν1 : ∀ u b k, listed.getD k false = true → ν k = ν1 u b k := by
      intro u b k hk
      have : k ≠ i := fun e => by rw [e, hSi] at hk; cases hk
      simp [ν1, this]
    have hstep : ∀ u b, fStep P ρ u b ops o (eeS ops E0 (resN P ρ ops E0 G0 ν) (fun k => listed.getD k false) ops.length) (ggS ops G0 (resN P ρ ops E0 G0 ν) (fun k => listed.getD k false) ops.length) = resN P ρ ops E0 G0 (ν1 u b) i :=
      fun u b => step_same L hc ho hSi hrd (hν1 u b) u b (by simp [ν1])
    refine fStep_ok (fun u b => by rw [hstep u b]; exact L.val (ν1 u b) i o ho) (fun t => (hg t).symm) hi he h2 ?_
    intro u b p a ch v y hf hle1 hi1 hd
    rw [hstep u b] at hf
    have hS' : ∀ k, (listed.setIfInBounds i true).getD k false = (listed.getD k false || decide (k = i)) := by
      intro k
      by_cases hk : k = i
      · subst hk
        have : k < listed.size := by omega
        simp [Array.getD_eq_getD_getElem?, this]
      · simp [Array.getD_eq_getD_getElem?, Array.getElem?_setIfInBounds_ne (Ne.symm hk), hk]
    have hfun : (fun k => (listed.setIfInBounds i true).getD k false) = fun k => (listed.getD k false || decide (k = i)) := funext hS'
    have eE : eeS ops E0 (resN P ρ ops E0 G0 (ν1 u b)) (fun k => listed.getD k false) ops.length = eeS ops E0 (resN P ρ ops E0 G0 ν) (fun k => listed.getD k false) ops.length := by
      funext t; exact (eeS_congr _ fun k _ _ => ⟨rfl, fun hs => res_indep L hc (hν1 u b) k hs⟩).symm
    have eG : ggS ops G0 (resN P ρ ops E0 G0 (ν1 u b)) (fun k => listed.getD k false) ops.length = ggS ops G0 (resN P ρ ops E0 G0 ν) (fun k => listed.getD k false) ops.length := by
      funext t; exact (ggS_congr _ fun k _ _ => ⟨rfl, fun hs => res_indep L hc (hν1 u b) k hs⟩).symm
    have hcl : ∀ k, i < k → listed.getD k false = true → dirB ops k i = true → False := by
      intro k _ hk hdk
      have := hc k i hk hdk
      simp only at this
      rw [hSi] at this; cases this
    have hclr : ∀ k, i < k → listed.getD k false = true → relB ops k i = true → False := by
      intro k _ hk hdk
      have := hc.rel (j := k) (i := i) hk hdk
      rw [hSi] at this; cases this
    refine ih (listed.setIfInBounds i true) (ν1 u b) y _ (happ ch Hc) (l.erase i) (by simpa using hsz) (hnd.erase i) ?_ ?_ ?_ (hle.trans hle1) hi1 ?_ ?_
    · intro k
      rw [hnd.mem_erase_iff, hl k, hS' k]
      by_cases hk : k = i
      · subst hk; simp
      · simp [hk]
    · rw [List.length_erase_of_mem ((hl i).2 ⟨hil, hSi⟩), hlen]; rfl
    · rw [hfun]
      intro j k hj hjk
      simp only [Bool.or_eq_true, decide_eq_true_eq] at hj ⊢
      rcases hj with hj | rfl
      · exact .inl (hc j k hj hjk)
      · exact .inl (hrd k hjk)
    · rw [hfun, eeS_more ho hf hSi ops.length (fun t k h1 h2 hs hw hw' => hcl k h1 hs (depB_slot L.dep h1 h2 (slot_waw hw' hw))) hil, eE]
      exact (he.mono hle1).put (hfit o (List.mem_of_getElem? ho)) hd
    · intro t
      rw [hfun, ggS_more ho hf hSi ops.length (fun t k h1 h2 hs hw hw' => hclr k h1 hs (L.tag (ν1 u b) i k o _ t h1 ho (List.getElem?_eq_getElem h2) (.inl ⟨hw', .inr hw⟩))) hil, eG, hget_happ]
      congr 1
      funext s
      exact hg s
end main

end Go.Proofs.YtakndgpdolfenaaGreat
end

/- Regions that draw their order: the rule as it is used. -/
section
namespace Go.Proofs.YtakndgpdolfenaaGreat
variable {P : Program}

theorem happ_tags {ch : Option (Nat × Ent)} {H : Heap} (h : (H.map (·.1)).Nodup) : ((happ ch H).map (·.1)).Nodup := by
  cases ch with
  | none => exact h
  | some p =>
    obtain ⟨t, e⟩ := p
    simp only [happ]
    cases hg : hget t H with
    | some e' =>
      simp only
      have : ∀ (K : Heap), (hset t e K).map (·.1) = K.map (·.1) := by
        intro K
        induction K with
        | nil => rfl
        | cons q r ih =>
          obtain ⟨s, e1⟩ := q
          simp only [hset]
          split
          · simp
          · simp [ih]
      rw [this]; exact h
    | none =>
      simp only [List.map_cons]
      refine List.nodup_cons.2 ⟨?_, h⟩
      intro hm
      obtain ⟨q, h1, h2⟩ := List.mem_map.1 hm
      have : ∀ (K : Heap), hget t K = none → ∀ q ∈ K, q.1 ≠ t := by
        intro K
        induction K with
        | nil => intro _ q hq; cases hq
        | cons z r ih =>
          obtain ⟨s, e1⟩ := z
          intro hk q hq
          simp only [hget] at hk
          split at hk
          · cases hk
          · rename_i hs
            rcases List.mem_cons.1 hq with rfl | hq
            · exact hs
            · exact ih hk q hq
      exact this H hg q h1 h2

theorem subH_of : ∀ {H' H : Heap}, (H'.map (·.1)).Nodup → (∀ t e, hget t H' = some e → hget t H = some e) → subH H' H
  | [], _, _, _ => trivial
  | (t, e) :: r, H, hn, h => by
    simp only [List.map_cons, List.nodup_cons] at hn
    refine ⟨h t e (by simp [hget]), subH_of hn.2 fun s e' hs => ?_⟩
    have hne : s ≠ t := by
      rintro rfl
      exact hn.1 (List.mem_map.2 ⟨_, hget_mem hs, rfl⟩)
    have h1 := h s e' (by simp [hget, Ne.symm hne, hs])
    have : ∀ (K : Heap), hget s (hdel t K) = hget s K := by
      intro K
      induction K with
      | nil => rfl
      | cons q r ih =>
        obtain ⟨u, e1⟩ := q
        simp only [hdel, hget]
        by_cases hu : u = t
        · subst hu; simp [Ne.symm hne]
        · simp only [hu, if_false, hget, ih]
    rw [this]; exact h1

theorem vcD_lex {ρ : Nat → Option CR} {ops : List Oper} {E0 : Env} {G0 : Nat → Option Ent} {K : Env → Heap → Prop} {ν : Nat → Value × Nat} : ∀ (l : List Oper) (i : Nat) (acc : List (Nat × List Nat × Option Nat)) (E : Env) (H : Heap),
    (∀ j, l[j]? = ops[i + j]?) → vcD P ρ ops i acc l E H K → lexS P ρ ops E0 G0 ν i = (E, fun t => hget t H) → (H.map (·.1)).Nodup →
    (∀ k o, k < i → ops[k]? = some o → ∃ z ∈ acc, z.1 = k ∧ z.2.1 = rdT (lexS P ρ ops E0 G0 ν k).1 o ∧ ∀ t, wrG (resN P ρ ops E0 G0 ν) k t → z.2.2 = some t) →
    (∀ j o, i ≤ j → ops[j]? = some o → ∃ p a ch, resN P ρ ops E0 G0 ν j = some (p, a, ch) ∧ p) ∧
    (∀ k j ok oj t, i ≤ j → k < j → ops[k]? = some ok → ops[j]? = some oj →
      ((wrG (resN P ρ ops E0 G0 ν) k t ∧ (t ∈ rdT (lexS P ρ ops E0 G0 ν j).1 oj ∨ wrG (resN P ρ ops E0 G0 ν) j t)) ∨ (t ∈ rdT (lexS P ρ ops E0 G0 ν k).1 ok ∧ wrG (resN P ρ ops E0 G0 ν) j t)) → relB ops j k = true) ∧
    ∃ Hn : Heap, K (lexS P ρ ops E0 G0 ν ops.length).1 Hn ∧ (lexS P ρ ops E0 G0 ν ops.length).2 = (fun t => hget t Hn) ∧ (Hn.map (·.1)).Nodup
  | [], i, acc, E, H, hl, h, hlex, hnd, hacc => by
    have hi : ops.length ≤ i := by
      rcases Nat.lt_or_ge i ops.length with hlt | hge
      · have := hl 0
        rw [Nat.add_zero, List.getElem?_eq_getElem hlt] at this
        simp at this
      · exact hge
    have hstop : ∀ m, lexS P ρ ops E0 G0 ν (ops.length + m) = lexS P ρ ops E0 G0 ν ops.length := by
      intro m
      induction m with
      | zero => rfl
      | succ m ih =>
        rw [Nat.add_succ]
        simp only [lexS]
        rw [List.getElem?_eq_none (by omega)]
        exact ih
    have e1 : lexS P ρ ops E0 G0 ν ops.length = (E, fun t => hget t H) := by
      rw [← hlex, ← hstop (i - ops.length)]
      congr 1
      omega
    refine ⟨fun j o hij ho => absurd (List.getElem?_eq_some_iff.1 ho).1 (by omega), fun k j ok oj t hij _ _ ho => absurd (List.getElem?_eq_some_iff.1 ho).1 (by omega), H, ?_, ?_, hnd⟩
    · rw [e1]; exact h
    · rw [e1]
  | o :: l, i, acc, E, H, hl, h, hlex, hnd, hacc => by
    have ho : ops[i]? = some o := by have := hl 0; simpa using this.symm
    simp only [vcD] at h
    have h0 := h (ν i).1 (ν i).2
    have hres : resN P ρ ops E0 G0 ν i = fStep P ρ (ν i).1 (ν i).2 ops o E (fun t => hget t H) := by
      simp only [resN, ho, hlex]
    split at h0 <;> try (exact h0.elim)
    rename_i p a ch hs
    obtain ⟨hp, htag, hv⟩ := h0
    rw [← hres] at hs
    have hlex' : lexS P ρ ops E0 G0 ν (i + 1) = (put E o.dst a, fun t => hget t (happ ch H)) := by
      simp only [lexS, ho]
      rw [hlex]
      simp only
      rw [← hres, hs]
      simp only [Prod.mk.injEq, true_and]
      funext t
      exact (hget_happ ch H t).symm
    have hwr : ∀ t, wrG (resN P ρ ops E0 G0 ν) i t → chT ch = some t := by
      rintro t ⟨p', a', e', hw⟩
      rw [hs] at hw
      cases hw
      rfl
    obtain ⟨k1, k2, k3⟩ := vcD_lex l (i + 1) _ _ _ (fun j => by have := hl (j + 1); simpa [Nat.add_assoc, Nat.add_comm 1 j] using this) hv hlex' (happ_tags hnd) (by
      intro k ok hk hok
      by_cases hki : k = i
      · subst hki
        rw [ho] at hok; cases hok
        exact ⟨_, List.mem_cons_self, rfl, by simp only [hlex], hwr⟩
      · obtain ⟨z, hz, h1, h2, h3⟩ := hacc k ok (by omega) hok
        exact ⟨z, List.mem_cons_of_mem _ hz, h1, h2, h3⟩)
    refine ⟨?_, ?_, k3⟩
    · intro j oj hij hoj
      by_cases hji : j = i
      · subst hji
        exact ⟨p, a, ch, hs, hp⟩
      · exact k1 j oj (by omega) hoj
    · intro k j ok oj t hij hkj hok hoj hc
      by_cases hji : j = i
      · subst hji
        rw [ho] at hoj; cases hoj
        obtain ⟨z, hz, h1, h2, h3⟩ := hacc k ok hkj hok
        have := List.all_eq_true.1 htag z hz
        rw [h1] at this
        have hconf : tagC z.2 (rdT E o, chT ch) = true := by
          simp only [tagC]
          rw [hlex] at hc
          rcases hc with ⟨hw, hr⟩ | ⟨hr, hw⟩
          · rw [h3 t hw]
            rcases hr with hr | hr
            · simp [hr]
            · simp [hwr t hr]
          · rw [hwr t hw, h2]
            simp [hr]
        rw [hconf, dOr_t] at this
        cases hd : dirB ops j k with
        | true => exact relN_dir hd
        | false => rw [hd] at this; simpa using this
      · exact k2 k j ok oj t (by omega) hkj hok hoj hc

/-- **The rule.** 'ρ': what the calls come to, by the slots of their results. -/
theorem V.draw {n : Nat} {id : Nat} {ops : Array Oper} {E : Env} {H : Heap} {Q : PostQ} (ρ : Nat → Option CR) (hm : P.follows .mixedOrders = true) (hd : depB ops.toList = true) (hn : (H.map (·.1)).Nodup)
    (h : vcD P ρ ops.toList 0 [] ops.toList E H fun E' H' => Q .normal E' H') : V ⟨P, none, n⟩ (.region id ops true) E H Q := by
  intro hf x act H00 ms hi he
  generalize hH0 : marks ms ++ H00 = H0 at hi
  generalize hds : ms.map mk = ds at he
  have hlex := fun ν => vcD_lex (P := P) (E0 := E) (G0 := fun t => hget t H) (ν := ν) ops.toList 0 [] E H (by simp) h rfl hn (fun k o hk => by omega)
  have L : LexOK P ρ ops.toList E (fun t => hget t H) := ⟨hd, fun ν i o ho => (hlex ν).1 i o (Nat.zero_le _) ho,
    fun ν i j oi oj t hij hoi hoj hc => (hlex ν).2.1 i j oi oj t (Nat.zero_le _) hij hoi hoj hc⟩
  refine wpIn_wide.2 (wp_region_any hm ?_)
  have hi' : Inv x.drew (H ++ H0) := hi.grow (X.drew_grow x)
  have he' : EnvOK n ds x.drew act E := he.mono (X.drew_grow x).le
  have hsz : ∀ k, (Array.replicate ops.size false).getD k false = false := by
    intro k
    rw [Array.getD_eq_getD_getElem?]
    by_cases hk : k < ops.size
    · simp [Array.getElem?_replicate, hk]
    · simp [Array.getElem?_replicate, hk]
  have hfun : (fun k => (Array.replicate ops.size false).getD k false) = fun _ => false := funext hsz
  have hee : ∀ (r : Nat → Option (Prop × A × Option (Nat × Ent))) m, eeS ops.toList E r (fun _ => false) m = E := by
    intro r m
    induction m with
    | zero => rfl
    | succ m ih => simp [eeS, ih]
  have hgg : ∀ (r : Nat → Option (Prop × A × Option (Nat × Ent))) m, ggS ops.toList (fun t => hget t H) r (fun _ => false) m = fun t => hget t H := by
    intro r m
    induction m with
    | zero => rfl
    | succ m ih => simp [ggS, ih]
  have key := region_any (H0 := H0) (x0 := x) (n := n) (ds := ds) (Q := Post n H00 Q x) L (fitsOps_ok hf) (by
      intro ν y a Hc hle hy hey hg
      obtain ⟨Hn, q1, q2, q3⟩ := (hlex ν).2.2
      have hsub : ∀ t e, hget t Hn = some e → hget t Hc = some e := fun t e ht => by rw [hg t, q2]; exact ht
      exact ⟨y, _, Hn, ms, rfl, hle, by rw [hH0]; exact subH_inv (subH_of q3 hsub) hy, by rw [hds]; exact hey, q1⟩)
    ops.size (Array.replicate ops.size false) (fun _ => (.nilIface, 0)) x.drew act H (List.range ops.size) (by simp) List.nodup_range (by intro k; rw [hsz k]; simp) (by simp) (by
      rw [hfun]; intro j i hj; cases hj) (X.drew_grow x).le hi' (by rw [hfun, hee]; exact he') (by intro t; rw [hfun, hgg])
  have key2 : wpAny P .any ops (Post n H00 Q x) ops.size (Array.replicate ops.size false) act x.drew.w := by simpa using key
  exact key2

attribute [simp] bldF rowsW evsR evpR clipF frzF asSl
attribute [simp] vcD fStep fStep0 rdT fnT entsOf tag1 tagOf tagC dirB chT Region.binds reads

end Go.Proofs.YtakndgpdolfenaaGreat
end

/- Ranges over functions: the statement, and a call of yield from the walk of its body. -/
section
namespace Go.Proofs.YtakndgpdolfenaaGreat
variable {P : Program}

/-- A new owned block of any kind. -/
theorem Inv.new {x : X} {H : Heap} (h : Inv x H) (g : Nat) {o : Obj} {e : Ent} (he : ∀ b, e.own b → b = x.w.heap.size) (hs : e.sat (x.mk' o)) : Inv (x.mk' o) ((g, e) :: H) := by
  have le := X.mk'_le x o h.bd
  refine h.fresh le (fun b hb => Nat.lt_of_lt_of_le (h.bd b hb) le.size) (fun b hb => .inl hb) hs ?_ fun b hb => heap_alloc_old _ _ hb
  intro b hb
  have := he b hb
  subst this
  exact ⟨Nat.le_refl _, fun hk => absurd (h.bd _ hk) (Nat.lt_irrefl _), by simp [X.mk']⟩

/-- An owned block turns. -/
def X.set (x : X) (b : Nat) (o : Obj) : X := ⟨x.w.putObj b o, x.ok⟩
theorem Inv.set_le {x : X} {H : Heap} {g b : Nat} {e : Ent} (h : Inv x ((g, e) :: H)) (hb : e.own b) (o : Obj) : x.le (x.set b o) := by
  have h1 := (h.own (g, e) (by simp) b hb).2
  exact ⟨fun k hk => ⟨hk, World.putObj_heap_other fun e => h1 (e ▸ hk)⟩, rfl, rfl, rfl, by simp [X.set], Nat.le_refl _⟩
theorem Inv.off {x : X} {H : Heap} {g b : Nat} {e : Ent} (h : Inv x ((g, e) :: H)) (hb : e.own b) (o : Obj) : Inv (x.set b o) H := by
  refine (h.sub (List.sublist_cons_self _ _)).step (h.set_le hb o) (fun k hk => by have := h.bd k hk; simpa [X.set] using this) (fun k hk => .inl hk) fun p hp k hk => World.putObj_heap_other ?_
  intro e
  subst e
  exact (List.pairwise_cons.1 h.apart).1 p hp k hb hk
theorem Inv.reset {x : X} {H : Heap} {g b : Nat} {e e' : Ent} (h : Inv x ((g, e) :: H)) (hb : e.own b) (o : Obj) (he' : ∀ k, e'.own k → k = b) (hs : e'.sat (x.set b o)) : Inv (x.set b o) ((g, e') :: H) := by
  have h0 := h.off hb o
  refine ⟨h0.bd, ?_, ?_, List.pairwise_cons.2 ⟨?_, h0.apart⟩⟩
  · intro p hp
    rcases List.mem_cons.1 hp with rfl | hp
    · exact hs
    · exact h0.sat p hp
  · intro p hp k hk
    rcases List.mem_cons.1 hp with rfl | hp
    · have := he' k hk
      subst this
      have := h.own (g, e) (by simp) k hb
      exact ⟨by simpa [X.set] using this.1, this.2⟩
    · exact h0.own p hp k hk
  · intro p hp k hk
    have := he' k hk
    subst this
    exact (List.pairwise_cons.1 h.apart).1 p hp k hb

/-- What the memory is behind the function that was ranged over, and how the statement is left. -/
def rangeQ (τ l n : Nat) (ps : Array Tmp) (asg body : Code) (E : Env) (Q : PostQ) (H' : Heap) : Prop :=
  (∃ H'', H' = (τ, .loop l n .ready none ps asg body E) :: H'' ∧ Q .normal E H'') ∨
  (∃ H'', H' = (τ, .loop l n .done (some .ret) ps asg body E) :: H'' ∧ Q .ret E H'') ∨
  (∃ H'' i, H' = (τ, .loop l n .done (some (.exit i)) ps asg body E) :: H'' ∧ Q (.exit i) E H'')

theorem calls_fw {r : Option Nat} {f : FuncId} {args : Array Value} {w : World} {R : Ending → World → Prop} (h : Calls P f args w R) (hr : ∀ e w', R e w' → ∃ v, e = .returned v) : CallsIn (fw r) 0 P f args w R := by
  refine ⟨trivial, fun cs _ => ?_⟩
  obtain ⟨e, w', fr, h1, hs, hx⟩ := h cs
  refine ⟨e, w', fr, h1, ?_, hx⟩
  obtain ⟨v, rfl⟩ := hr e w' h1
  exact (StepsIn.of_steps hs).mono fun m _ => fenced_wide P m

theorem V.rangeFunc {n : Nat} {E : Env} {H : Heap} {Q : PostQ} {g : Operand} {ps : Array Tmp} {asg body : Code} (τ : Nat) {p : Prop} {f : FuncId} {first caps : List A} (hg : st (ev E g) = (p, .fn f first caps)) (hp : p)
    (h : ∀ l, CallS P f (first ++ [.yld l] ++ caps) ((τ, .loop l n .ready none ps asg body E) :: H) fun _ H' => rangeQ τ l n ps asg body E Q H') : V ⟨P, none, n⟩ (.rangeFunc g ps asg body) E H Q := by
  intro hf x act H0 ms hi he
  have hgv := st_ok (ev_ok he g) (by rw [hg]; exact hp)
  rw [hg] at hgv
  simp only [D] at hgv
  obtain ⟨fs, cs, hgv, hfs, hcs⟩ := hgv
  refine wpIn_rangeFunc ?_
  intro fn _
  let m := x.w.heap.size
  let l := x.w.heap.size + 1
  let rec0 : Loop := { state := .ready, pending := none, fn, tmps := act.tmps, params := ps, assign := asg, body, defers := m }
  let y1 : X := x.mk' (.deferred (some []))
  let y2 : X := y1.mk' (.loop rec0)
  have hsz1 : y1.w.heap.size = l := by simp [y1, X.mk', l]
  have i1 : Inv y1 ((0, .raw m (.deferred (some []))) :: (H ++ (marks ms ++ H0))) := hi.new 0 (fun b hb => hb) (heap_alloc_new _ _)
  have le1 : x.le y1 := X.mk'_le x _ hi.bd
  have le2 : y1.le y2 := X.mk'_le y1 _ i1.bd
  have hloop : (Ent.loop l n .ready none ps asg body E).sat y2 := by
    refine ⟨rec0, ?_, rfl, rfl, rfl, rfl, rfl, he.size, fun t => ((he.slot t).mono le1).mono le2⟩
    rw [← hsz1]
    exact heap_alloc_new _ _
  have i2 : Inv y2 ((τ, .loop l n .ready none ps asg body E) :: (0, .raw m (.deferred (some []))) :: (H ++ (marks ms ++ H0))) :=
    i1.new τ (fun b hb => by rw [hsz1]; exact hb) hloop
  have hperm : (((τ, Ent.loop l n .ready none ps asg body E) :: H) ++ (marks (m :: ms) ++ H0)).Perm ((τ, .loop l n .ready none ps asg body E) :: (0, .raw m (.deferred (some []))) :: (H ++ (marks ms ++ H0))) := by
    simp only [marks, List.map_cons, List.cons_append]
    exact (List.perm_middle).cons _
  have i3 := i2.perm hperm
  have hds : Ds y2 (first ++ [.yld l] ++ caps) (fs ++ #[Value.func (.yield l) #[] #[]] ++ cs).toList := by
    simp only [Array.toList_append]
    exact (((hfs.mono le1).mono le2).append (by simp [Ds, D])).append ((hcs.mono le1).mono le2)
  have hcall := h l
  refine ⟨l, [{ target := .collected m, args := #[] }], y2.w, { target := .fn (.func f) cs, args := fs ++ #[.func (.yield l) #[] #[]] }, y2.w, f, fs ++ #[.func (.yield l) #[] #[]] ++ cs, y2.w, ?_, ?_, fun _ _ => trivial, ?_, fun hh => by simp [fw] at hh, ?_⟩
  · exact run_enterLoop_outer _ _ _ _ _
  · simp only [resolve, hgv]
    simp [go_sem]
  · exact Calls.run hcall.1 _ _
  · refine CallsIn.mono (calls_fw (hcall.2 y2 _ _ i3 hds) ?_) ?_
    · rintro e w' ⟨y, v, r, H', rfl, _⟩
      exact ⟨v, rfl⟩
    · rintro e w' ⟨y, v, r, H', rfl, rfl, hle, hi', _, hq⟩
      have lexy : x.le y := (le1.trans le2).trans hle
      have fin : ∀ {s : LoopState} {pe : Option Code} {H'' : Heap}, s ≠ .busy → Inv y (((τ, .loop l n s pe ps asg body E) :: H'') ++ (marks (m :: ms) ++ H0)) →
          ∃ z : X, (Instr.endLoop l).run P y.w = .ok pe z.w ∧ x.le z ∧ Inv z (H'' ++ (marks (m :: ms) ++ H0)) ∧ EnvOK n ((m :: ms).map mk) z { act with defers := [{ target := .collected m, args := #[] }] ++ act.defers } E := by
        intro s pe H'' hs hin
        obtain ⟨rr, k1, k2, k3, _⟩ := hin.sat (τ, .loop l n s pe ps asg body E) (by simp)
        have hrun := run_endLoop (P := P) k1 (by rw [k2]; exact hs)
        have hle2 := Inv.set_le (H := H'' ++ (marks (m :: ms) ++ H0)) hin (show (Ent.loop l n s pe ps asg body E).own l from rfl) (.loop { rr with state := .exhausted })
        refine ⟨y.set l (.loop { rr with state := .exhausted }), by rw [← k3]; exact hrun, lexy.trans hle2, Inv.off (H := H'' ++ (marks (m :: ms) ++ H0)) hin (show (Ent.loop l n s pe ps asg body E).own l from rfl) (.loop { rr with state := .exhausted }), ?_⟩
        refine ⟨?_, he.size, fun t => ((he.slot t).mono lexy).mono hle2⟩
        simp only [List.map_cons, List.cons_append, List.nil_append, he.defers, mk]
      rcases hq with ⟨H'', rfl, hq⟩ | ⟨H'', rfl, hq⟩ | ⟨H'', i, rfl, hq⟩
      · obtain ⟨z, h1, h2, h3, h4⟩ := fin (by simp) hi'
        exact ⟨none, z.w, h1, z, E, H'', m :: ms, rfl, h2, h3, h4, hq⟩
      · obtain ⟨z, h1, h2, h3, h4⟩ := fin (by simp) hi'
        exact ⟨some .ret, z.w, h1, wpIn_ret ⟨z, E, H'', m :: ms, rfl, h2, h3, h4, hq⟩⟩
      · obtain ⟨z, h1, h2, h3, h4⟩ := fin (by simp) hi'
        exact ⟨some (.exit i), z.w, h1, wpIn_exit ⟨z, E, H'', m :: ms, rfl, h2, h3, h4, hq⟩⟩

/-- The temporaries of a round. -/
def bindP : List Tmp → List A → Env → Env
  | t :: ts, a :: az, E => bindP ts az (upd E t a)
  | _, _, E => E

theorem bindP_ok {x : X} {n : Nat} : ∀ (ts : List Tmp) (az : List A) (vs : List Value) (E : Env) (tm : Array Value), (∀ t ∈ ts, t < n) → tm.size = n → Ds x az vs → (∀ t, D x (E t) (tm.getD t Go.undef)) →
    ((ts.zip vs).foldl (fun (tm : Array Value) (p : Tmp × Value) => tm.setIfInBounds p.1 p.2) tm).size = n ∧ ∀ t, D x (bindP ts az E t) (((ts.zip vs).foldl (fun (tm : Array Value) (p : Tmp × Value) => tm.setIfInBounds p.1 p.2) tm).getD t Go.undef)
  | [], _, _, E, tm, _, hs, _, h => by simpa [bindP, hs] using h
  | t :: ts, [], [], E, tm, _, hs, _, h => by simpa [bindP, hs] using h
  | t :: ts, a :: az, [], E, tm, _, hs, hd, h => by simp [Ds] at hd
  | t :: ts, [], v :: vs, E, tm, _, hs, hd, h => by simp [Ds] at hd
  | t :: ts, a :: az, v :: vs, E, tm, ht, hs, hd, h => by
    simp only [Ds] at hd
    simp only [bindP, List.zip_cons_cons, List.foldl_cons]
    refine bindP_ok ts az vs _ _ (fun t h => ht t (by simp [h])) (by simpa using hs) hd.2 fun s => ?_
    have htn : t < tm.size := by rw [hs]; exact ht t (by simp)
    by_cases e : s = t
    · subst e
      simpa [upd, Array.getD_eq_getD_getElem?, htn] using hd.1
    · have := h s
      simpa [upd, e, Array.getD_eq_getD_getElem?, Array.getElem?_setIfInBounds_ne (Ne.symm e)] using this

/-- How a round is left. -/
def roundQ (τ l n : Nat) (ps : Array Tmp) (asg body : Code) (E : Env) (K : A → Heap → Prop) : PostQ := fun e _ H' => match e with
  | .normal => K (.dat (.bool true)) ((τ, .loop l n .ready none ps asg body E) :: H')
  | .ret => K (.dat (.bool false)) ((τ, .loop l n .done (some .ret) ps asg body E) :: H')
  | .exit i => K (.dat (.bool false)) ((τ, .loop l n .done (some (.exit i)) ps asg body E) :: H')
  | _ => False

theorem callY_of {τ l n : Nat} {ps : Array Tmp} {asg body : Code} {E : Env} {az : List A} {H : Heap} {K : A → Heap → Prop} (hl : az.length = ps.size) (hf : fitsC n (.rangeFunc (.func 0) ps asg body) = true)
    (h : vcC ⟨P, some l, n⟩ asg (bindP ps.toList az E) H fun e E' H' => match e with
      | .normal => vcC ⟨P, some l, n⟩ body E' H' (roundQ τ l n ps asg body E K)
      | _ => False) : CallY P l az ((τ, .loop l n .ready none ps asg body E) :: H) K := by
  simp only [fitsC, Bool.and_eq_true] at hf
  intro x args H0 hi hd
  obtain ⟨rr, k1, k2, k3, k4, k5, k6, k7, k8⟩ := hi.sat (τ, .loop l n .ready none ps asg body E) (by simp)
  have hla := hd.length
  simp only [Array.length_toList] at hla
  have hy := run_yield (P := P) (args := args) k1 (by rw [k4]; omega)
  refine ⟨_, _, _, _, hy, roundIn_of_wpIn trivial ?_⟩
  rw [k4, k5, k6]
  have hb := bindP_ok (x := x) (n := n) ps.toList az args.toList E rr.tmps (by intro t ht; have := hf.1.1; rw [Array.all_eq_true_iff_forall_mem] at this; simpa using this t (by simpa using ht)) k7 hd k8
  have hfold : (ps.zip args).foldl (fun (tmps : Array Value) (x : Tmp × Value) => tmps.setIfInBounds x.1 x.2) rr.tmps = (ps.toList.zip args.toList).foldl (fun (tm : Array Value) (p : Tmp × Value) => tm.setIfInBounds p.1 p.2) rr.tmps := by
    rw [← Array.foldl_toList, Array.toList_zip]
  have he : EnvOK n (([] : List Nat).map mk) x { tmps := (ps.zip args).foldl (fun tmps (t, a) => tmps.setIfInBounds t a) rr.tmps, defers := [] } (bindP ps.toList az E) := by
    refine ⟨rfl, ?_, ?_⟩
    · show ((ps.zip args).foldl (fun (tmps : Array Value) (x : Tmp × Value) => tmps.setIfInBounds x.1 x.2) rr.tmps).size = n
      rw [hfold]; exact hb.1
    · intro t
      show D x _ (((ps.zip args).foldl (fun (tmps : Array Value) (x : Tmp × Value) => tmps.setIfInBounds x.1 x.2) rr.tmps).getD t Go.undef)
      rw [hfold]; exact hb.2 t
  have hown : ∀ (s : LoopState) (pe : Option Code), (Ent.loop l n s pe ps asg body E).own l := fun _ _ => rfl
  have hi1 : Inv x (H ++ (marks [] ++ ((τ, .loop l n .ready none ps asg body E) :: H0))) := by
    simp only [marks, List.map_nil, List.nil_append]
    exact hi.perm List.perm_middle
  refine wpIn_mono (vcC_ok (C := ⟨P, some l, n⟩) asg _ H _ hf.1.2 h x _ ((τ, .loop l n .ready none ps asg body E) :: H0) [] hi1 he) ?_
  rintro e a1 w1 ⟨y, E1, H1, ms, rfl, hle, hi2, he2, hq⟩
  cases e with
  | normal =>
    have hp2 : ((τ, Ent.loop l n .ready none ps asg body E) :: (H1 ++ (marks ms ++ H0))).Perm (H1 ++ (marks ms ++ ((τ, .loop l n .ready none ps asg body E) :: H0))) := by
      refine List.Perm.trans List.perm_middle.symm ?_
      exact (List.perm_middle.symm).append_left H1
    have hi3 := hi2.perm hp2
    obtain ⟨r1, q1, q2, q3, q4, q5, q6, q7, q8⟩ := hi3.sat (τ, .loop l n .ready none ps asg body E) (by simp)
    have hrun := run_beginRound (P := P) q1 q2
    have hle2 := hi3.set_le (hown _ _) (.loop { r1 with state := .busy })
    have hi4 : Inv (y.set l (.loop { r1 with state := .busy })) ((τ, .loop l n .busy none ps asg body E) :: (H1 ++ (marks ms ++ H0))) := by
      refine hi3.reset (hown _ _) _ (fun k hk => hk) ?_
      exact ⟨{ r1 with state := .busy }, World.putObj_heap_same (by simpa using (Array.getElem?_eq_some_iff.1 q1).1), rfl, q3, q4, q5, q6, q7, fun t => (q8 t).mono hle2⟩
    have hp3 : (H1 ++ (marks ms ++ ((τ, Ent.loop l n .busy none ps asg body E) :: H0))).Perm ((τ, .loop l n .busy none ps asg body E) :: (H1 ++ (marks ms ++ H0))) := by
      refine List.Perm.trans ?_ List.perm_middle
      exact (List.perm_middle).append_left H1
    refine ⟨_, hrun, ?_⟩
    refine wpIn_mono (vcC_ok (C := ⟨P, some l, n⟩) body _ H1 _ hf.2 hq (y.set l (.loop { r1 with state := .busy })) _ ((τ, .loop l n .busy none ps asg body E) :: H0) ms (hi4.perm hp3) (he2.mono hle2)) ?_
    rintro e a3 w3 ⟨z, E3, H3, ms3, rfl, hle3, hi5, he5, hq3⟩
    have hp5 : ((τ, Ent.loop l n .busy none ps asg body E) :: (H3 ++ (marks ms3 ++ H0))).Perm (H3 ++ (marks ms3 ++ ((τ, .loop l n .busy none ps asg body E) :: H0))) := by
      refine List.Perm.trans List.perm_middle.symm ?_
      exact (List.perm_middle.symm).append_left H3
    have hi6 := hi5.perm hp5
    obtain ⟨r3, u1, u2, u3, u4, u5, u6, u7, u8⟩ := hi6.sat (τ, .loop l n .busy none ps asg body E) (by simp)
    have fin : ∀ (jump : Option Code) {K' : A → Heap → Prop}, K' (.dat (.bool jump.isNone)) ((τ, .loop l n (if jump.isNone then .ready else .done) jump ps asg body E) :: H3) →
        ∃ v w', (Instr.endRound l jump).run P z.w = .ok v w' ∧ ∃ y' v' r' H', Ending.returned v = .returned v' ∧ y'.w = w' ∧ x.le y' ∧ Inv y' (H' ++ H0) ∧ D y' r' v' ∧ K' r' H' := by
      intro jump K' hk
      have hend := run_endRound (P := P) jump u1
      have hle6 := hi6.set_le (hown _ _) (.loop { r3 with state := if jump.isNone then .ready else .done, pending := jump })
      have hi7 : Inv (z.set l (.loop { r3 with state := if jump.isNone then .ready else .done, pending := jump })) ((τ, .loop l n (if jump.isNone then .ready else .done) jump ps asg body E) :: (H3 ++ (marks ms3 ++ H0))) := by
        refine hi6.reset (hown _ _) _ (fun k hk => hk) ?_
        exact ⟨{ r3 with state := if jump.isNone then .ready else .done, pending := jump }, World.putObj_heap_same (by simpa using (Array.getElem?_eq_some_iff.1 u1).1), rfl, rfl, u4, u5, u6, u7, fun t => (u8 t).mono hle6⟩
      refine ⟨_, _, hend, _, _, _, _, rfl, rfl, ((hle.trans hle2).trans hle3).trans hle6, ?_, ?_, hk⟩
      · refine hi7.sub ?_
        simp only [List.cons_append]
        refine List.Sublist.cons_cons _ ((List.Sublist.refl _).append ?_)
        exact List.sublist_append_right _ _
      · simp [D, RdL]
    cases e with
    | normal => exact fin none hq3
    | ret => exact fin (some .ret) hq3
    | exit i => exact fin (some (.exit i)) hq3
    | goto t => exact hq3.elim
    | panic c => exact hq3.elim
    | outgrown => exact hq3.elim
  | ret => exact hq.elim
  | exit i => exact hq.elim
  | goto t => exact hq.elim
  | panic c => exact hq.elim
  | outgrown => exact hq.elim

/-- What a code doesn't touch. -/
theorem V.frame {C : Cfg} {c : Code} {E : Env} {H1 H2 : Heap} {Q : PostQ} (h : V C c E H1 fun e E' H' => Q e E' (H' ++ H2)) : V C c E (H1 ++ H2) Q := by
  intro hf x act H0 ms hi he
  have hp : ∀ (K : Heap) (ms : List Nat), (K ++ (marks ms ++ (H2 ++ H0))).Perm ((K ++ H2) ++ (marks ms ++ H0)) := by
    intro K ms
    rw [List.append_assoc]
    refine List.Perm.append_left K ?_
    rw [← List.append_assoc, ← List.append_assoc]
    exact List.perm_append_comm.append_right H0
  refine wpIn_mono (h hf x act (H2 ++ H0) ms (hi.perm (hp H1 ms)) he) ?_
  rintro e a w ⟨y, E', H', ms', rfl, h1, h2, h3, h4⟩
  exact ⟨y, E', H' ++ H2, ms', rfl, h1, h2.perm (hp H' ms').symm, h3, h4⟩

attribute [simp] yldA bindP roundQ
@[congr] theorem CallY_congr {l : Nat} {az az' : List A} {H H' : Heap} {K : A → Heap → Prop} {z : Prop} (_ : (True ∧ True) = z) (h1 : az = az') (h2 : H = H') : CallY P l az H K = CallY P l az' H' K := by rw [h1, h2]

end Go.Proofs.YtakndgpdolfenaaGreat
end

/- Frames of calls, loops over opaque memory; the data types. -/
section
namespace Go.Proofs.YtakndgpdolfenaaGreat
variable {P : Program}

theorem CallY.c1 {l : Nat} {az : List A} {H : Heap} {K : A → Heap → Prop} {e : Nat × Ent} (h : CallY P l az H K) : CallY P l az (e :: H) fun r H' => ∃ H2, K r H2 ∧ H' = e :: H2 := h.frameL (H1 := [e])
theorem CallS.c1 {g : FuncId} {az : List A} {H : Heap} {K : A → Heap → Prop} {e : Nat × Ent} (h : CallS P g az H K) : CallS P g az (e :: H) fun r H' => ∃ H2, K r H2 ∧ H' = e :: H2 := h.frameL (H1 := [e])

/-- What is among what is owned. -/
def subP (H H' : Heap) : Prop := ∃ K : Heap, K.Sublist H' ∧ K.Perm H
theorem subP.refl (H : Heap) : subP H H := ⟨H, List.Sublist.refl H, List.Perm.refl H⟩
theorem subP.c {H H' : Heap} (h : subP H H') (e : Nat × Ent) : subP H (e :: H') := by
  obtain ⟨K, h1, h2⟩ := h
  exact ⟨K, h1.cons e, h2⟩
theorem subP.cc {H H' : Heap} (h : subP H H') (e : Nat × Ent) : subP (e :: H) (e :: H') := by
  obtain ⟨K, h1, h2⟩ := h
  exact ⟨e :: K, h1.cons_cons e, h2.cons e⟩
theorem subP_inv {x : X} {H H' H0 : Heap} (h : subP H H') (hi : Inv x (H' ++ H0)) : Inv x (H ++ H0) := by
  obtain ⟨K, h1, h2⟩ := h
  exact (hi.sub (h1.append (List.Sublist.refl H0))).perm (h2.symm.append_right H0)

theorem CallS.dropP {g : FuncId} {az : List A} {H : Heap} {K K' : A → Heap → Prop} (h : CallS P g az H K) (hk : ∀ r H', K r H' → ∃ H'' : Heap, subP H'' H' ∧ K' r H'') : CallS P g az H K' := by
  refine ⟨h.1, fun x args H0 hi hd => (h.2 x args H0 hi hd).mono ?_⟩
  rintro _ _ ⟨y, v, r, H', a, b, c, d, e, f⟩
  obtain ⟨H'', h1, h2⟩ := hk r H' f
  exact ⟨y, v, r, H'', a, b, c, subP_inv h1 d, e, h2⟩

/-- A loop whose state is told slot by slot; memory by what it is among. -/
theorem V.for' {C : Cfg} {E : Env} {H : Heap} {Q : PostQ} {c : Code} {ι : Type} (Lv : List Nat) (sl : ι → List (Nat × A)) (Hs : ι → Heap) (I : ι → Prop) (μ : ι → Nat) (i0 : ι)
    (h0 : I i0 ∧ (∀ p ∈ sl i0, E p.1 = p.2) ∧ subP (Hs i0) H)
    (hr : ∀ i, I i → vcC C c (headEnv E Lv (sl i)) (Hs i) fun e E' H' => match e with
      | .normal => ∃ j, I j ∧ μ j < μ i ∧ (∀ p ∈ sl j, E' p.1 = p.2) ∧ (∀ t ∈ Lv, E' t = E t) ∧ subP (Hs j) H'
      | .exit i => Q (.exit i) E' H'
      | .ret => Q .ret E' H'
      | _ => False) : V C (.loop c) E H Q := by
  intro hf x act H0 ms hi he
  have hhead : ∀ {i : ι} {E' : Env}, (∀ p ∈ sl i, E' p.1 = p.2) → (∀ t ∈ Lv, E' t = E t) → ∀ t, headEnv E Lv (sl i) t = .any ∨ headEnv E Lv (sl i) t = E' t := by
    intro i E' h1 h2
    refine sets_weak _ _ h1 (sets_weak _ _ ?_ fun t => .inl rfl)
    intro p hp
    obtain ⟨t, ht, rfl⟩ := List.mem_map.1 hp
    exact h2 t ht
  have key : W C (.loop c) (headEnv E Lv (sl i0)) (Hs i0) Q := by
    refine W.loop (fun m E' H' => ∃ i, I i ∧ μ i = m ∧ E' = headEnv E Lv (sl i) ∧ H' = Hs i) (μ i0) ⟨i0, h0.1, rfl, rfl, rfl⟩ ?_
    rintro m _ _ ⟨i, hI, rfl, rfl, rfl⟩
    have hw := vcC_ok c _ _ _ hf (hr i hI)
    intro x act H0 ms hi he
    refine wpIn_mono (hw x act H0 ms hi he) ?_
    rintro e a' w' ⟨y, E', H', ms', rfl, hle, hi', he', hq⟩
    cases e with
    | normal =>
      obtain ⟨j, h1, h2, h3, h4, h5⟩ := hq
      exact ⟨y, _, _, ms', rfl, hle, subP_inv h5 hi', he'.weak (hhead h3 h4), μ j, h2, j, h1, rfl, rfl, rfl⟩
    | exit k => exact ⟨y, E', H', ms', rfl, hle, hi', he', hq⟩
    | ret => exact ⟨y, E', H', ms', rfl, hle, hi', he', hq⟩
    | goto l => exact hq.elim
    | panic c => exact hq.elim
    | outgrown => exact hq.elim
  exact key x act H0 ms (subP_inv h0.2.2 hi) (he.weak (hhead h0.2.1 fun _ _ => rfl))

@[congr] theorem GCall_congr {q q' p p' : Prop} {g : FuncId} {az az' : List A} {H H' : Heap} {K : A → Heap → Prop} {z : Prop} (_ : (True ∧ True) = z) (h1 : q = q') (h2 : p = p') (h3 : az = az') (h4 : H = H') : GCall P q p g az H K = GCall P q' p' g az' H' K := by rw [h1, h2, h3, h4]

/-! ### Other marks for opaque memory: nothing but the look-ups asks for them -/
theorem Inv.ents {x : X} {H H' : Heap} (e : H.map Prod.snd = H'.map Prod.snd) (h : Inv x H) : Inv x H' := by
  have mem : ∀ p ∈ H', ∃ q ∈ H, q.2 = p.2 := by
    intro p hp
    have : p.2 ∈ H.map Prod.snd := by rw [e]; exact List.mem_map.2 ⟨p, hp, rfl⟩
    exact List.mem_map.1 this
  refine ⟨h.bd, ?_, ?_, ?_⟩
  · intro p hp
    obtain ⟨q, hq, e⟩ := mem p hp
    rw [← e]; exact h.sat q hq
  · intro p hp b hb
    obtain ⟨q, hq, e⟩ := mem p hp
    rw [← e] at hb; exact h.own q hq b hb
  · have h1 : (H.map Prod.snd).Pairwise fun (a c : Ent) => ∀ b, a.own b → ¬ c.own b := List.pairwise_map.2 h.apart
    rw [e] at h1
    exact List.pairwise_map.1 h1
def rt (k : Nat) (H : Heap) : Heap := H.map fun p => (p.1 + k, p.2)
@[simp] theorem rt_cons (k t : Nat) (e : Ent) (H : Heap) : rt k ((t, e) :: H) = (t + k, e) :: rt k H := rfl
theorem rt_snd (k : Nat) (H : Heap) : (rt k H).map Prod.snd = H.map Prod.snd := by simp [rt, Function.comp_def]
theorem hget_rt {k t : Nat} (h : t < k) : ∀ H : Heap, hget t (rt k H) = none
  | [] => rfl
  | (s, e) :: r => by
    simp only [rt_cons, hget]
    rw [if_neg (by omega)]
    exact hget_rt h r
@[simp] theorem hget_rt1000 {t : Nat} (H : Heap) (h : t < 1000) : hget t (rt 1000 H) = none := hget_rt h H
theorem CallY.rt {P : Program} {k l : Nat} {az : List A} {H : Heap} {K : A → Heap → Prop} (h : CallY P l az H K) : CallY P l az (rt k H) fun r H' => ∃ H2, H' = Go.Proofs.YtakndgpdolfenaaGreat.rt k H2 ∧ K r H2 := by
  intro x args H0 hi hd
  obtain ⟨f, t, a, b, h1, h2⟩ := h x args H0 (hi.ents (by simp [rt_snd])) hd
  refine ⟨f, t, a, b, h1, h2.mono ?_⟩
  rintro _ _ ⟨y, v, r, H', a, b, c, d, e, g⟩
  exact ⟨y, v, r, Go.Proofs.YtakndgpdolfenaaGreat.rt k H', a, b, c, d.ents (by simp [rt_snd]), e, H', rfl, g⟩
theorem CallS.rt {P : Program} {k : Nat} {g : FuncId} {az : List A} {H : Heap} {K : A → Heap → Prop} (h : CallS P g az (rt k H) fun r H' => ∃ H2, H' = Go.Proofs.YtakndgpdolfenaaGreat.rt k H2 ∧ K r H2) : CallS P g az H K := by
  refine ⟨h.1, fun x args H0 hi hd => (h.2 x args H0 (hi.ents (by simp [rt_snd])) hd).mono ?_⟩
  rintro _ _ ⟨y, v, r, H', a, b, c, d, e, H2, rfl, g⟩
  exact ⟨y, v, r, H2, a, b, c, d.ents (by simp [rt_snd]), e, g⟩

/-! ### Data -/
structure Expr where
  op : Int
  index : Int
  args : List Expr

def encE : Expr → List L
  | ⟨op, ix, args⟩ => [.int .i64 op, .int .i64 ix, .sl (args.map encE)]
theorem encE_eq (e : Expr) : encE e = [.int .i64 e.op, .int .i64 e.index, .sl (e.args.map encE)] := by
  cases e; simp [encE]

/-- Lengths that a machine has, and numbers. -/
inductive OkE : Expr → Prop
  | mk (e : Expr) (h : e.args.length ≤ 9223372036854775807) (ho : inR .i64 e.op) (hi : inR .i64 e.index) (hr : ∀ a ∈ e.args, OkE a) : OkE e
theorem OkE.len {e : Expr} (h : OkE e) : e.args.length ≤ 9223372036854775807 := by cases h; assumption
theorem OkE.args {e : Expr} (h : OkE e) : ∀ a ∈ e.args, OkE a := by cases h; assumption
abbrev aE (e : Expr) : A := .record [.int .i64 e.op, .int .i64 e.index, .sl (e.args.map encE)]

/-! The nodes in preorder, with their depths. -/
mutual
def preE : Expr → Int → List (Int × Expr)
  | ⟨op, ix, args⟩, d => (d, ⟨op, ix, args⟩) :: (if d ≤ 16 then preL args (d + 1) else [])
def preL : List Expr → Int → List (Int × Expr)
  | [], _ => []
  | x :: xs, d => preE x d ++ preL xs d
end
theorem preE_eq (e : Expr) (d : Int) : preE e d = (d, e) :: (if d ≤ 16 then preL e.args (d + 1) else []) := by
  cases e; simp [preE]
theorem Expr.lt_of_mem {e a : Expr} (h : a ∈ e.args) : SizeOf.sizeOf a < SizeOf.sizeOf e := by
  cases e
  have := List.sizeOf_lt_of_mem h
  simp only [Expr.mk.sizeOf_spec] at this ⊢
  omega

end Go.Proofs.YtakndgpdolfenaaGreat
end

/- Ranges over functions that have a contract as folds. -/
section
namespace Go.Proofs.YtakndgpdolfenaaGreat
variable {P : Program}

theorem vcOp_mono {op : Op} {d : Option Nat} {E : Env} {H : Heap} {K K' : Env → Heap → Prop} (hk : ∀ E H, K E H → K' E H) (h : vcOp P op d E H K) : vcOp P op d E H K' := by
  unfold vcOp at h ⊢
  cases h1 : pureA P E op with
  | some q =>
    obtain ⟨p, a⟩ := q
    simp only [h1] at h ⊢
    exact ⟨h.1, hk _ _ h.2⟩
  | none =>
    simp only [h1] at h ⊢
    cases h2 : callA E op with
    | some q =>
      obtain ⟨p, g, az⟩ := q
      simp only [h2] at h ⊢
      exact ⟨h.1, h.2.mono fun _ _ => hk _ _⟩
    | none =>
      simp only [h2] at h ⊢
      cases h3 : yldA E op with
      | some q =>
        obtain ⟨p, l, az⟩ := q
        simp only [h3] at h ⊢
        exact ⟨h.1, h.2.mono fun _ _ => hk _ _⟩
      | none =>
        simp only [h3] at h ⊢
        intro u b
        have := h u b
        cases h4 : heapF P u b (d.getD 0) E (fun t => hget t H) op with
        | some q =>
          obtain ⟨p, a, ch⟩ := q
          simp only [h4] at this ⊢
          exact ⟨this.1, hk _ _ this.2⟩
        | none => simp only [h4] at this

theorem vcOps_mono {ops : List Oper} : ∀ (l : List Oper) {E : Env} {H : Heap} {K K' : Env → Heap → Prop}, (∀ E H, K E H → K' E H) → vcOps P ops l E H K → vcOps P ops l E H K'
  | [], _, _, _, _, hk, h => hk _ _ h
  | o :: rest, E, H, K, K', hk, h => by
    simp only [vcOps] at h ⊢
    cases hg : o.guard with
    | none =>
      simp only [hg] at h ⊢
      exact vcOp_mono (fun _ _ => vcOps_mono rest hk) h
    | some jw =>
      obtain ⟨j, want⟩ := jw
      simp only [hg] at h ⊢
      cases hq : gq E ops j want with
      | none => simp only [hq] at h
      | some q =>
        simp only [hq] at h ⊢
        cases h1 : pureA P E o.op with
        | some pa =>
          obtain ⟨p, a⟩ := pa
          simp only [h1] at h ⊢
          exact ⟨h.1, vcOps_mono rest hk h.2⟩
        | none =>
          simp only [h1] at h ⊢
          cases h2 : callA E o.op with
          | some pg =>
            obtain ⟨p, g, az⟩ := pg
            simp only [h2] at h ⊢
            rcases h with ⟨r, h3, h4⟩ | ⟨h3, h4⟩
            · exact .inl ⟨r, h3, vcOps_mono rest hk h4⟩
            · exact .inr ⟨fun hq => ⟨(h3 hq).1, (h3 hq).2.mono fun _ _ => vcOps_mono rest hk⟩, fun hq => let ⟨r, h5⟩ := h4 hq; ⟨r, vcOps_mono rest hk h5⟩⟩
          | none =>
            simp only [h2] at h ⊢
            cases h3 : heapF P .nilIface 0 0 E (fun t => hget t H) o.op with
            | none =>
              simp only [h3] at h ⊢
              exact ⟨h.1, vcOps_mono rest hk h.2⟩
            | some pa =>
              obtain ⟨p, a, ch⟩ := pa
              simp only [h3] at h ⊢
              cases ch with
              | none => exact ⟨h.1, h.2.1, vcOps_mono rest hk h.2.2⟩
              | some c => exact ⟨h.1, vcOps_mono rest hk h.2⟩

theorem V.mono {C : Cfg} {c : Code} {E : Env} {H : Heap} {Q Q' : PostQ} (hq : ∀ e E H, Q e E H → Q' e E H) (h : V C c E H Q) : V C c E H Q' := fun hf => (h hf).mono hq

theorem vcC_mono {C : Cfg} : ∀ (c : Code) {E : Env} {H : Heap} {Q Q' : PostQ}, (∀ e E H, Q e E H → Q' e E H) → vcC C c E H Q → vcC C c E H Q'
  | .skip, _, _, _, _, hq, h => hq _ _ _ h
  | .seq a b, E, H, Q, Q', hq, h => by
    refine vcC_mono a ?_ h
    intro e E H h
    cases e with
    | normal => exact vcC_mono b hq h
    | exit i => exact hq _ _ _ h
    | ret => exact hq _ _ _ h
    | goto l => exact h
    | panic c => exact h
    | outgrown => exact h
  | .cond c a b, E, H, Q, Q', hq, h => by
    simp only [vcC] at h ⊢
    split at h
    · rename_i p t hst
      exact ⟨h.1, fun e => vcC_mono a hq (h.2.1 e), fun e => vcC_mono b hq (h.2.2 e)⟩
    · exact h.elim
  | .block id c, E, H, Q, Q', hq, h => by
    refine vcC_mono c ?_ h
    intro e E H h
    cases e with
    | normal => exact hq _ _ _ h
    | exit i =>
      simp only [blockQ] at h ⊢
      split
      · rename_i hi; simp only [hi, if_true] at h; exact hq _ _ _ h
      · rename_i hi; simp only [hi, if_false] at h; exact hq _ _ _ h
    | ret => exact hq _ _ _ h
    | goto l => exact h
    | panic c => exact h
    | outgrown => exact h
  | .exit _, _, _, _, _, hq, h => hq _ _ _ h
  | .ret, _, _, _, _, hq, h => hq _ _ _ h
  | .region id ops d, E, H, Q, Q', hq, h => by
    cases d with
    | false => exact vcOps_mono ops.toList (fun _ _ => hq _ _ _) h
    | true => exact V.mono hq h
  | .loop c, _, _, _, _, hq, h => V.mono hq h
  | .rangeFunc _ _ _ _, _, _, _, _, hq, h => V.mono hq h
  | .scope _, _, _, _, _, _, h => h.elim
  | .label _, _, _, _, _, _, h => h.elim
  | .goto _, _, _, _, _, _, h => h.elim
  | .refuse _, _, _, _, _, _, h => h.elim

/-- What yield comes to: the heap by a state, or by what stopped. -/
def yK {σ δ : Type} (Hc : σ → Heap) (Hd : δ → Heap) (o : Except δ σ) : A → Heap → Prop := fun r H' => match o with
  | .ok s => r = .dat (.bool true) ∧ H' = Hc s
  | .error d => r = .dat (.bool false) ∧ H' = Hd d

/-- The contract of an iterator: a fold over items. -/
def IterS (P : Program) (f : FuncId) (first caps : List A) {ι : Type} (items : List ι) (enc : ι → List A) : Prop :=
  ∀ {σ δ : Type} (l : Nat) (Hc : σ → Heap) (Hd : δ → Heap) (step : σ → ι → Except δ σ) (s : σ), (∀ s p, p ∈ items → CallY P l (enc p) (Hc s) (yK Hc Hd (step s p))) →
    CallS P f (first ++ [.yld l] ++ caps) (Hc s) fun _ H' => match items.foldlM step s with
      | .ok s' => H' = Hc s'
      | .error e => H' = Hd e

theorem CallY.dropP {l : Nat} {az : List A} {H : Heap} {K K' : A → Heap → Prop} (h : CallY P l az H K) (hk : ∀ r H', K r H' → ∃ H'' : Heap, subP H'' H' ∧ K' r H'') : CallY P l az H K' := by
  intro x args H0 hi hd
  obtain ⟨f, t, a, b, h1, h2⟩ := h x args H0 hi hd
  refine ⟨f, t, a, b, h1, h2.mono ?_⟩
  rintro _ _ ⟨y, v, r, H', a, b, c, d, e, f⟩
  obtain ⟨H'', h1, h2⟩ := hk r H' f
  exact ⟨y, v, r, H'', a, b, c, subP_inv h1 d, e, h2⟩

/-- How a round's way out leads on. -/
def jX : Option Nat → Exit
  | none => .ret
  | some i => .exit i
def jC : Option Nat → Code
  | none => .ret
  | some i => .exit i

theorem V.rangeFold {n : Nat} {E : Env} {H : Heap} {Q : PostQ} {g : Operand} {ps : Array Tmp} {asg body : Code} {p : Prop} {f : FuncId} {first caps : List A} {ι σ δ : Type} {items : List ι} {enc : ι → List A}
    (τ : Nat) (hg : st (ev E g) = (p, .fn f first caps)) (hp : p) (hit : IterS P f first caps items enc) (Hb : σ → Heap) (Hx : δ → Heap) (jump : δ → Option Nat) (step : σ → ι → Except δ σ) (I : σ → Prop) (s0 : σ) (hI0 : I s0)
    (hI : ∀ s p s', I s → step s p = .ok s' → I s') (hH : subP (Hb s0) H) (hlen : ∀ p ∈ items, (enc p).length = ps.size)
    (hbody : ∀ l s p, I s → p ∈ items → vcC ⟨P, some l, n⟩ asg (bindP ps.toList (enc p) E) (Hb s) fun e E' H' => match e with
      | .normal => vcC ⟨P, some l, n⟩ body E' H' fun e _ H'' => match step s p with
        | .ok s' => e = .normal ∧ subP (Hb s') H''
        | .error d => e = jX (jump d) ∧ subP (Hx d) H''
      | _ => False)
    (hend : ∀ o, items.foldlM step s0 = o → match (generalizing := false) o with
      | .ok s => Q .normal E (Hb s)
      | .error d => Q (jX (jump d)) E (Hx d)) : V ⟨P, none, n⟩ (.rangeFunc g ps asg body) E H Q := by
  intro hf
  have key : V ⟨P, none, n⟩ (.rangeFunc g ps asg body) E (Hb s0) Q := by
    refine V.rangeFunc τ hg hp fun l => ?_
    let step' : {s // I s} → ι → Except δ {s // I s} := fun s p => match h : step s.1 p with
      | .ok s' => .ok ⟨s', hI s.1 p s' s.2 h⟩
      | .error d => .error d
    have hs' : ∀ s p, (step' s p).map Subtype.val = step s.1 p := by
      intro s p
      show Except.map Subtype.val (match h : step s.1 p with | .ok s' => .ok ⟨s', hI s.1 p s' s.2 h⟩ | .error d => .error d) = _
      split <;> rename_i h <;> simp [Except.map, h]
    have hfold : ∀ (its : List ι) (s : {s // I s}), (its.foldlM step' s).map Subtype.val = its.foldlM step s.1 := by
      intro its
      induction its with
      | nil => intro s; rfl
      | cons q r ih =>
        intro s
        simp only [List.foldlM_cons]
        have := hs' s q
        cases h : step' s q with
        | error d => rw [h] at this; rw [← this]; rfl
        | ok s1 => rw [h] at this; rw [← this]; exact ih s1
    have hc := hit (σ := {s // I s}) (δ := δ) l (fun s => (τ, .loop l n .ready none ps asg body E) :: Hb s.1) (fun d => (τ, .loop l n .done (some (jC (jump d))) ps asg body E) :: Hx d) step' ⟨s0, hI0⟩ ?_
    · refine hc.mono ?_
      intro _ H' hk
      have h1 := hfold items ⟨s0, hI0⟩
      have h2 := hend _ rfl
      rw [← h1] at h2
      cases hr : items.foldlM step' ⟨s0, hI0⟩ with
      | ok s =>
        rw [hr] at hk h2
        subst hk
        exact .inl ⟨_, rfl, h2⟩
      | error d =>
        rw [hr] at hk h2
        subst hk
        simp only [Except.map] at h2
        cases hj : jump d with
        | none => rw [hj] at h2; exact .inr (.inl ⟨_, rfl, h2⟩)
        | some i => rw [hj] at h2; exact .inr (.inr ⟨_, i, rfl, h2⟩)
    · rintro ⟨s, hs⟩ q hq
      have hb := hbody l s q hs hq
      refine CallY.dropP (K := fun r H'' => match step s q with
        | .ok s' => r = .dat (.bool true) ∧ ∃ H3, H'' = (τ, .loop l n .ready none ps asg body E) :: H3 ∧ subP (Hb s') H3
        | .error d => r = .dat (.bool false) ∧ ∃ H3, H'' = (τ, .loop l n .done (some (jC (jump d))) ps asg body E) :: H3 ∧ subP (Hx d) H3) (callY_of (hlen q hq) hf ?_) ?_
      · have hf' := hf
        simp only [fitsC, Bool.and_eq_true] at hf'
        refine vcC_mono asg ?_ hb
        intro e E' H' h
        cases e with
        | normal =>
          refine vcC_mono body ?_ h
          intro e E'' H'' h
          cases hst : step s q with
          | ok s' =>
            rw [hst] at h
            obtain ⟨rfl, h⟩ := h
            simp only [roundQ, hst]
            exact ⟨by trivial, _, rfl, h⟩
          | error d =>
            rw [hst] at h
            obtain ⟨rfl, h⟩ := h
            cases hj : jump d with
            | none => simp only [jX, roundQ, hst]; exact ⟨by trivial, _, by rw [hj]; rfl, h⟩
            | some i => simp only [jX, roundQ, hst]; exact ⟨by trivial, _, by rw [hj]; rfl, h⟩
        | ret => exact h
        | exit i => exact h
        | goto t => exact h
        | panic c => exact h
        | outgrown => exact h
      · intro r H'' hk
        have h1 := hs' ⟨s, hs⟩ q
        cases hst : step' ⟨s, hs⟩ q with
        | ok s' =>
          rw [hst] at h1
          simp only [Except.map] at h1
          simp only [← h1] at hk
          obtain ⟨rfl, H3, rfl, h3⟩ := hk
          exact ⟨_, h3.cc _, rfl, rfl⟩
        | error d =>
          rw [hst] at h1
          simp only [Except.map] at h1
          simp only [← h1] at hk
          obtain ⟨rfl, H3, rfl, h3⟩ := hk
          exact ⟨_, h3.cc _, rfl, rfl⟩
  intro x act H0 ms hi he
  exact key hf x act H0 ms (subP_inv hH hi) he

end Go.Proofs.YtakndgpdolfenaaGreat
end

/- Loops by counting and as folds; what is owned, seen as data: at returns, and lent to calls. -/
section
namespace Go.Proofs.YtakndgpdolfenaaGreat
variable {P : Program}

/-! ### Weaker views: nil as data, or as an owned slice -/
def wk (a b : A) : Prop := a = b ∨ (a = .nils ∧ (b = .dat (.sl []) ∨ ∃ t, b = .own t (.slice none 0 0)))
@[simp] theorem wk_refl (a : A) : wk a a = True := by simp [wk]
@[simp] theorem wk_nil : wk .nils (.dat (.sl [])) = True := by simp [wk]
@[simp] theorem wk_own (t : Nat) : wk .nils (.own t (.slice none 0 0)) = True := by simp [wk]
@[simp] theorem wk_int (k : IntKind) (a b : Int) : wk (.dat (.int k a)) (.dat (.int k b)) = (a = b) := by simp [wk]
@[simp] theorem wk_bool (a b : Bool) : wk (.dat (.bool a)) (.dat (.bool b)) = (a = b) := by simp [wk]
@[simp] theorem wk_str (a b : List UInt8) : wk (.dat (.str a)) (.dat (.str b)) = (a = b) := by simp [wk]
@[simp] theorem wk_owno (t : Nat) (g h : Value) : wk (.own t g) (.own t h) = (g = h) := by simp [wk]
theorem wk_ok {x : X} {a b : A} (h : wk a b) {v : Value} (hv : D x a v) : D x b v := by
  rcases h with rfl | ⟨rfl, rfl | ⟨t, rfl⟩⟩
  · exact hv
  · simp only [D] at hv; subst hv; simp [D, RdL]
  · simp only [D] at hv; subst hv; simp [D]

def nilSeq : Ent → Prop
  | .seq h _ _ rows => h = .slice none 0 0 ∧ rows = []
  | _ => False
/-- What is wanted among what is owned; slices that are nil come for nothing. -/
def subN : Heap → Heap → Prop
  | [], _ => True
  | (t, e) :: r, H => match hget t H with
    | some e' => e' = e ∧ subN r (hdel t H)
    | none => nilSeq e ∧ subN r H

theorem Inv.nil {x : X} {H : Heap} (hi : Inv x H) {t : Nat} {e : Ent} (he : nilSeq e) : Inv x ((t, e) :: H) := by
  cases e <;> simp only [nilSeq] at he
  obtain ⟨rfl, rfl⟩ := he
  refine ⟨hi.bd, ?_, ?_, List.pairwise_cons.2 ⟨?_, hi.apart⟩⟩
  · intro r hr
    rcases List.mem_cons.1 hr with rfl | hr
    · exact ⟨[], World.ownsRow_nil _ _ _ _, by simp, by simp [Ds]⟩
    · exact hi.sat r hr
  · intro r hr b hb
    rcases List.mem_cons.1 hr with rfl | hr
    · simp [Ent.own, Value.ownBlock] at hb
    · exact hi.own r hr b hb
  · intro r _ b hb
    simp [Ent.own, Value.ownBlock] at hb

theorem subN_perm : ∀ {H' H H0 : Heap} {x : X}, subN H' H → Inv x (H ++ H0) → ∃ N R : Heap, (∀ p ∈ N, nilSeq p.2) ∧ (H' ++ R).Perm (N ++ H)
  | [], H, _, _, _, _ => ⟨[], H, by simp, by simp⟩
  | (t, e) :: r, H, H0, x, h, hi => by
    simp only [subN] at h
    split at h
    · rename_i e' hg
      obtain ⟨rfl, h⟩ := h
      have hp := hdel_perm hg
      have hi' : Inv x (hdel t H ++ ((t, e') :: H0)) := hi.perm (by
        refine List.Perm.trans ?_ (hp.symm.append_right H0)
        exact List.perm_middle)
      obtain ⟨N, R, hN, hpm⟩ := subN_perm h hi'
      refine ⟨N, R, hN, ?_⟩
      refine (List.Perm.cons _ hpm).trans ?_
      refine List.perm_middle.symm.trans ?_
      exact List.Perm.append_left N hp.symm
    · obtain ⟨hn, h⟩ := h
      obtain ⟨N, R, hN, hpm⟩ := subN_perm h hi
      refine ⟨(t, e) :: N, R, ?_, List.Perm.cons _ hpm⟩
      intro p hp
      rcases List.mem_cons.1 hp with rfl | hp
      · exact hn
      · exact hN p hp

theorem Inv.nils {x : X} {H : Heap} : ∀ {N : Heap}, (∀ p ∈ N, nilSeq p.2) → Inv x H → Inv x (N ++ H)
  | [], _, h => h
  | (t, e) :: N, hN, h => Inv.nil (Inv.nils (fun p hp => hN p (by simp [hp])) h) (hN (t, e) (by simp))

theorem subN_inv {x : X} {H H' H0 : Heap} (h : subN H' H) (hi : Inv x (H ++ H0)) : Inv x (H' ++ H0) := by
  obtain ⟨N, R, hN, hp⟩ := subN_perm h hi
  have h1 : Inv x ((N ++ H) ++ H0) := by rw [List.append_assoc]; exact Inv.nils hN hi
  have h2 : Inv x ((H' ++ R) ++ H0) := h1.perm (hp.append_right H0)
  refine h2.sub ?_
  rw [List.append_assoc]
  exact (List.Sublist.refl H').append (List.sublist_append_right R H0)

theorem sets_wk {x : X} {E : Env} {tv : Nat → Value} (hE : ∀ t, D x (E t) (tv t)) : ∀ (l : List (Nat × A)) (F : Env), (∀ p ∈ l, wk (E p.1) p.2) → (∀ t, D x (F t) (tv t)) → ∀ t, D x (sets l F t) (tv t)
  | [], F, _, hF, t => hF t
  | (s, a) :: r, F, hl, hF, t => by
    simp only [sets, upd]
    split
    · rename_i h; subst h; exact wk_ok (hl (t, a) (by simp)) (hE t)
    · exact sets_wk hE r F (fun p hp => hl p (by simp [hp])) hF t

/-- What stays of what is owned: all that the loop's own list doesn't name. -/
def kpH (own : Heap) (H : Heap) : Heap := H.filter fun p => !(own.map (·.1)).contains p.1
@[simp] theorem kpH_n (own : Heap) : kpH own [] = [] := id rfl
@[simp] theorem kpH_c (own : Heap) (p : Nat × Ent) (H : Heap) : kpH own (p :: H) = if (own.map (·.1)).contains p.1 then kpH own H else p :: kpH own H := by
  simp only [kpH, List.filter_cons]
  cases (own.map (·.1)).contains p.1 <;> simp

def LoopQ (Q : PostQ) (nx : Env → Heap → Prop) : PostQ := fun e E H => match e with
  | .normal => nx E H
  | .exit k => Q (.exit k) E H
  | .ret => Q .ret E H
  | _ => False
@[simp] theorem LoopQ_n (Q : PostQ) (nx : Env → Heap → Prop) (E : Env) (H : Heap) : LoopQ Q nx .normal E H = nx E H := rfl
@[simp] theorem LoopQ_e (Q : PostQ) (nx : Env → Heap → Prop) (E : Env) (H : Heap) (k : Nat) : LoopQ Q nx (.exit k) E H = Q (.exit k) E H := rfl
@[simp] theorem LoopQ_r (Q : PostQ) (nx : Env → Heap → Prop) (E : Env) (H : Heap) : LoopQ Q nx .ret E H = Q .ret E H := rfl

@[congr] theorem LoopQ_congr {Q : PostQ} {nx : Env → Heap → Prop} {e e' : Exit} {E : Env} {H : Heap} {z : Prop} (_ : (True ∧ True) = z) (h : e = e') : LoopQ Q nx e E H = LoopQ Q nx e' E H := by rw [h]
/-- The heap at a loop's head. -/
def hdH {σ : Type} (Hs : Nat → σ → Heap) (s0 : σ) (H : Heap) (i : Nat) (s : σ) : Heap := Hs i s ++ kpH (Hs 0 s0) H

/-- The slots at a loop's head: those that stay, and those that are told anew. -/
def hdE (kv : List (Nat × A)) (sl : List (Nat × A)) : Env := sets sl (sets kv anyE)
/-- Two lists of what is owned. -/
def hcat : Heap → Heap → Heap
  | [], K => K
  | e :: H, K => e :: hcat H K
@[simp] theorem hcat_n (K : Heap) : hcat [] K = K := id rfl
@[simp] theorem hcat_c (e : Nat × Ent) (H K : Heap) : hcat (e :: H) K = e :: hcat H K := id rfl
theorem V.forI {C : Cfg} {E : Env} {H : Heap} {Q : PostQ} {c : Code} {σ : Type} {kv : List (Nat × A)} {kh : Heap} (n : Nat) (Lv : List Nat) (hkv : kv = Lv.map fun t => (t, E t)) (sl : Nat → σ → List (Nat × A)) (Hs : Nat → σ → Heap) (I : Nat → σ → Prop) (s0 : σ)
    (hI0 : I 0 s0) (hE0 : ∀ p ∈ sl 0 s0, wk (E p.1) p.2) (hH0 : kh = kpH (Hs 0 s0) H ∧ subN (hcat (Hs 0 s0) kh) H)
    (hb : ∀ i s, i < n → I i s → vcC C c (hdE kv (sl i s)) (hcat (Hs i s) kh) (LoopQ Q fun E' H' =>
      ∃ s', I (i + 1) s' ∧ (∀ p ∈ sl (i + 1) s', wk (E' p.1) p.2) ∧ (∀ p ∈ kv, E' p.1 = p.2) ∧ subN (hcat (Hs (i + 1) s') kh) H'))
    (he : ∀ s, I n s → vcC C c (hdE kv (sl n s)) (hcat (Hs n s) kh) (LoopQ Q fun _ _ => False)) : V C (.loop c) E H Q := by
  intro hf x act H0 ms hi hen
  have hhead : ∀ {i : Nat} {s : σ} {E' : Env} {y : X} {a : Act} {ds : List Deferred}, EnvOK C.n ds y a E' → (∀ p ∈ sl i s, wk (E' p.1) p.2) → (∀ p ∈ kv, E' p.1 = p.2) → EnvOK C.n ds y a (hdE kv (sl i s)) := by
    intro i s E' y a ds h h1 h2
    refine ⟨h.defers, h.size, sets_wk h.slot _ _ h1 (sets_wk h.slot _ _ ?_ fun t => by simp [anyE, D])⟩
    intro p hp
    rw [h2 p hp]
    simp
  have h00 : ∀ p ∈ kv, E p.1 = p.2 := by
    intro p hp
    rw [hkv] at hp
    obtain ⟨t, _, rfl⟩ := List.mem_map.1 hp
    rfl
  have key : W C (.loop c) (hdE kv (sl 0 s0)) (hcat (Hs 0 s0) kh) Q := by
    refine W.loop (fun m E' H' => ∃ i s, i ≤ n ∧ I i s ∧ n - i = m ∧ E' = hdE kv (sl i s) ∧ H' = hcat (Hs i s) kh) n ⟨0, s0, Nat.zero_le _, hI0, rfl, rfl, rfl⟩ ?_
    rintro m _ _ ⟨i, s, hin, hI, rfl, rfl, rfl⟩
    rcases Nat.lt_or_ge i n with hlt | hge
    · have hw := vcC_ok c _ _ _ hf (hb i s hlt hI)
      intro x act H0 ms hi hen
      refine wpIn_mono (hw x act H0 ms hi hen) ?_
      rintro e a' w' ⟨y, E', H', ms', rfl, hle, hi', he', hq⟩
      cases e with
      | normal =>
        obtain ⟨s', h1, h3, h4, h5⟩ := hq
        exact ⟨y, _, _, ms', rfl, hle, subN_inv h5 hi', hhead he' h3 h4, n - (i + 1), by omega, i + 1, s', by omega, h1, rfl, rfl, rfl⟩
      | exit k => exact ⟨y, E', H', ms', rfl, hle, hi', he', hq⟩
      | ret => exact ⟨y, E', H', ms', rfl, hle, hi', he', hq⟩
      | goto k => exact hq.elim
      | panic k => exact hq.elim
      | outgrown => exact hq.elim
    · obtain rfl : i = n := by omega
      have hw := vcC_ok c _ _ _ hf (he s hI)
      intro x act H0 ms hi hen
      refine wpIn_mono (hw x act H0 ms hi hen) ?_
      rintro e a' w' ⟨y, E', H', ms', rfl, hle, hi', he', hq⟩
      cases e with
      | normal => exact hq.elim
      | exit k => exact ⟨y, E', H', ms', rfl, hle, hi', he', hq⟩
      | ret => exact ⟨y, E', H', ms', rfl, hle, hi', he', hq⟩
      | goto k => exact hq.elim
      | panic k => exact hq.elim
      | outgrown => exact hq.elim
  exact key x act H0 ms (subN_inv hH0.2 hi) (hhead hen hE0 h00)

/-- How a round of a fold is left. -/
def FoldQ {σ δ : Type} (Q : PostQ) (st : Except δ σ) (all : Except δ σ) (nx : σ → Env → Heap → Prop) : PostQ := fun e E H => match e with
  | .normal => ∃ s', st = .ok s' ∧ nx s' E H
  | .exit k => ∃ d, st = .error d ∧ (all = .error d → Q (.exit k) E H)
  | .ret => ∃ d, st = .error d ∧ (all = .error d → Q .ret E H)
  | _ => False
@[simp] theorem FoldQ_n {σ δ : Type} (Q : PostQ) (st all : Except δ σ) (nx : σ → Env → Heap → Prop) (E : Env) (H : Heap) : FoldQ Q st all nx .normal E H = ∃ s', st = .ok s' ∧ nx s' E H := rfl
@[simp] theorem FoldQ_e {σ δ : Type} (Q : PostQ) (st all : Except δ σ) (nx : σ → Env → Heap → Prop) (E : Env) (H : Heap) (k : Nat) : FoldQ Q st all nx (.exit k) E H = ∃ d, st = .error d ∧ (all = .error d → Q (.exit k) E H) := rfl
@[simp] theorem FoldQ_r {σ δ : Type} (Q : PostQ) (st all : Except δ σ) (nx : σ → Env → Heap → Prop) (E : Env) (H : Heap) : FoldQ Q st all nx .ret E H = ∃ d, st = .error d ∧ (all = .error d → Q .ret E H) := rfl

@[congr] theorem FoldQ_congr {σ δ : Type} {Q : PostQ} {st st' all : Except δ σ} {nx : σ → Env → Heap → Prop} {e e' : Exit} {E : Env} {H : Heap} {z : Prop} (_ : (True ∧ True) = z) (h : e = e') (h2 : st = st') : FoldQ Q st all nx e E H = FoldQ Q st' all nx e' E H := by rw [h, h2]
theorem foldlM_take {σ δ ι : Type} {step : σ → ι → Except δ σ} {items : List ι} {s0 s : σ} {i : Nat} (h : (items.take i).foldlM step s0 = .ok s) (hlt : i < items.length) :
    (items.take (i + 1)).foldlM step s0 = step s items[i] ∧ ∀ d, step s items[i] = .error d → items.foldlM step s0 = .error d := by
  have e1 : items.take (i + 1) = items.take i ++ [items[i]] := by rw [List.take_add_one, List.getElem?_eq_getElem hlt]; rfl
  have e2 : items = items.take i ++ (items[i] :: items.drop (i + 1)) := by
    rw [← List.drop_eq_getElem_cons hlt, List.take_append_drop]
  constructor
  · rw [e1, List.foldlM_append, h]
    simp only [bind, Except.bind, List.foldlM_cons, List.foldlM_nil]
    cases step s items[i] <;> rfl
  · intro d hd
    rw [e2, List.foldlM_append, h]
    simp only [bind, Except.bind, List.foldlM_cons, hd]

theorem V.forL {C : Cfg} {E : Env} {H : Heap} {Q : PostQ} {c : Code} {ι σ δ γ : Type} {kv : List (Nat × A)} {kh : Heap} (items : List ι) (Lv : List Nat) (hkv : kv = Lv.map fun t => (t, E t)) (sl : Nat → σ → γ → List (Nat × A)) (Hs : Nat → σ → γ → Heap) (step : σ → ι → Except δ σ) (I : Nat → σ → Prop) (s0 : σ) (g0 : γ)
    (hI0 : I 0 s0) (hE0 : ∀ p ∈ sl 0 s0 g0, wk (E p.1) p.2) (hH0 : kh = kpH (Hs 0 s0 g0) H ∧ subN (hcat (Hs 0 s0 g0) kh) H)
    (hb : ∀ i s g y (hlt : i < items.length), items[i] = y → I i s → (items.take i).foldlM step s0 = .ok s → vcC C c (hdE kv (sl i s g)) (hcat (Hs i s g) kh) (FoldQ Q (step s y) (items.foldlM step s0) fun s' E' H' =>
      I (i + 1) s' ∧ ∃ g', (∀ p ∈ sl (i + 1) s' g', wk (E' p.1) p.2) ∧ (∀ p ∈ kv, E' p.1 = p.2) ∧ subN (hcat (Hs (i + 1) s' g') kh) H'))
    (he : ∀ s g, I items.length s → items.foldlM step s0 = .ok s → vcC C c (hdE kv (sl items.length s g)) (hcat (Hs items.length s g) kh) (LoopQ Q fun _ _ => False)) : V C (.loop c) E H Q := by
  refine V.forI (σ := σ × γ) items.length Lv hkv (fun i p => sl i p.1 p.2) (fun i p => Hs i p.1 p.2) (fun i p => I i p.1 ∧ (items.take i).foldlM step s0 = .ok p.1) (s0, g0) ⟨hI0, rfl⟩ hE0 hH0 ?_ ?_
  · rintro i ⟨s, g⟩ hlt ⟨hI, hf⟩
    obtain ⟨h1, h2⟩ := foldlM_take hf hlt
    refine vcC_mono c ?_ (hb i s g _ hlt rfl hI hf)
    intro e E' H' hq
    cases e with
    | normal =>
      obtain ⟨s', h3, h4, g', h5⟩ := hq
      exact ⟨(s', g'), ⟨h4, by rw [h1]; exact h3⟩, h5⟩
    | exit k => obtain ⟨d, h3, h4⟩ := hq; exact h4 (h2 d h3)
    | ret => obtain ⟨d, h3, h4⟩ := hq; exact h4 (h2 d h3)
    | goto k => exact hq
    | panic k => exact hq
    | outgrown => exact hq
  · rintro ⟨s, g⟩ ⟨hI, hf⟩
    rw [List.take_length] at hf
    exact he s g hI hf

mutual
def frz (H : Heap) : A → Prop × A
  | .own t h => match hget t H with
    | some (.seq h' _ _ rows) => (h' = h ∧ allD rows = true, .dat (.sl (rowsD rows)))
    | _ => (True, .own t h)
  | .nils => (True, .dat (.sl []))
  | .agg az => ((frzs H az).1, packA (frzs H az).2)
  | .tuple az => ((frzs H az).1, .tuple (frzs H az).2)
  | a => (True, a)
def frzs (H : Heap) : List A → Prop × List A
  | [] => (True, [])
  | a :: az => ((frz H a).1 ∧ (frzs H az).1, (frz H a).2 :: (frzs H az).2)
end

mutual
theorem frz_ok {x : X} {H H0 : Heap} (hi : Inv x (H ++ H0)) {y : X} (hle : x.le y) (hw : y.w = x.w) (hok : ∀ b, (∃ p ∈ H, p.2.own b) → y.ok b) : ∀ (a : A) (v : Value), D x a v → (frz H a).1 → D y (frz H a).2 v
  | .own t h, v, hv, hp => by
    simp only [frz] at hp ⊢
    simp only [D] at hv
    split at hp
    · rename_i h' e sz rows hg
      obtain ⟨rfl, hd⟩ := hp
      simp only [D]
      have hs := hget_sat hi hg
      rw [hv.1]
      refine seq_data (Ent.sat_step hle (fun b _ => by rw [hw]) hs) (fun b hb => hok b ⟨_, hget_mem hg, hb⟩) hd
    · simpa [D] using hv
  | .nils, v, hv, _ => by simp only [D] at hv; subst hv; simp [frz, D, RdL]
  | .agg az, v, hv, hp => by
    simp only [frz] at hp ⊢
    simp only [D] at hv
    obtain ⟨vs, rfl, hds⟩ := hv
    exact packA_ok (frzs_ok hi hle hw hok az _ hds hp)
  | .tuple az, v, hv, hp => by
    simp only [frz] at hp ⊢
    simp only [D] at hv ⊢
    obtain ⟨vs, rfl, hds⟩ := hv
    exact ⟨vs, rfl, frzs_ok hi hle hw hok az _ hds hp⟩
  | .any, v, hv, _ => by simpa [frz] using hv.mono hle
  | .undef, v, hv, _ => by simpa [frz] using hv.mono hle
  | .dat _, v, hv, _ => by simpa [frz] using hv.mono hle
  | .nn _, v, hv, _ => by simpa [frz] using hv.mono hle
  | .clip _, v, hv, _ => by simpa [frz] using hv.mono hle
  | .owd _ _, v, hv, _ => by simpa [frz] using hv.mono hle
  | .record _, v, hv, _ => by simpa [frz] using hv.mono hle
  | .ptr _ _ _, v, hv, _ => by simpa [frz] using hv.mono hle
  | .rptr _, v, hv, _ => by simpa [frz] using hv.mono hle
  | .nilp, v, hv, _ => by simpa [frz] using hv.mono hle
  | .fn _ _ _, v, hv, _ => by simpa [frz] using hv.mono hle
  | .nilf, v, hv, _ => by simpa [frz] using hv.mono hle
  | .map _ _, v, hv, _ => by simpa [frz] using hv.mono hle
  | .yld _, v, hv, _ => by simpa [frz] using hv.mono hle
  | .cond _ _, v, hv, _ => by simpa [frz] using hv.mono hle
  | .eptr _ _ _ _ _, v, hv, _ => by simpa [frz] using hv.mono hle
theorem frzs_ok {x : X} {H H0 : Heap} (hi : Inv x (H ++ H0)) {y : X} (hle : x.le y) (hw : y.w = x.w) (hok : ∀ b, (∃ p ∈ H, p.2.own b) → y.ok b) : ∀ (az : List A) (vs : List Value), Ds x az vs → (frzs H az).1 → Ds y (frzs H az).2 vs
  | [], [], _, _ => by simp [frzs, Ds]
  | a :: az, v :: vs, hd, hp => by
    simp only [Ds] at hd
    simp only [frzs] at hp ⊢
    simp only [Ds]
    exact ⟨frz_ok hi hle hw hok a v hd.1 hp.1, frzs_ok hi hle hw hok az vs hd.2 hp.2⟩
  | [], _ :: _, h, _ => by simp [Ds] at h
  | _ :: _, [], h, _ => by simp [Ds] at h
end

theorem CallS.frz {g : FuncId} {az : List A} {H : Heap} {K : A → Heap → Prop} {r : A} (h : CallS P g az H K) (hk : ∀ r' H', K r' H' → (Go.Proofs.YtakndgpdolfenaaGreat.frz H' r').1 ∧ (Go.Proofs.YtakndgpdolfenaaGreat.frz H' r').2 = r) : CallS P g az H fun r' H' => r' = r ∧ H' = [] := by
  refine ⟨h.1, fun x args H0 hi hd => (h.2 x args H0 hi hd).mono ?_⟩
  rintro _ _ ⟨y, v, r', H', rfl, rfl, hle, hi', hv, hkk⟩
  obtain ⟨h1, rfl⟩ := hk r' H' hkk
  obtain ⟨z, hw, hle2, hi2, hok, _⟩ := hi'.freeze
  exact ⟨z, v, _, [], rfl, hw, hle.trans hle2, hi2, frz_ok hi' hle2 hw hok r' v hv h1, rfl, rfl⟩

/-- A function's result as data, from its body. -/
theorem callFz_of {g : FuncId} {fn : Func} {c : Code} {n : Nat} {rs : List ResultVar} {az : List A} {r : A} (hf : P.funcs[g]? = some fn) (hb : fn.body = some c) (hn : fn.ntmps = n)
    (hr : fn.results = rs.toArray) (hnm : (fn.name == "runtime.NumGoroutine") = false) (hl : az.length ≤ n) (hfit : fitsC n c = true)
    (h : vcC ⟨P, none, n⟩ c (envOf az) [] (RetV P rs fun r' H' => (frz H' r').1 ∧ (frz H' r').2 = r)) : CallFn P g az r :=
  (callS_of hf hb hn hr hnm hl hfit h).frz fun _ _ h => h

/-- A contract with owned results, seen as data. -/
theorem CallS.fn {g : FuncId} {az : List A} {K : A → Heap → Prop} {r : A} (h : CallS P g az [] K) (hk : ∀ r' H', K r' H' → (Go.Proofs.YtakndgpdolfenaaGreat.frz H' r').1 ∧ (Go.Proofs.YtakndgpdolfenaaGreat.frz H' r').2 = r) : CallFn P g az r := h.frz hk

/-! ### Owned results -/
def ownAt (H : Heap) (e : TypeId) (sz : Nat) (rows : List (List A)) : A → Prop
  | .own t h => hget t H = some (.seq h e sz rows)
  | .nils => rows = []
  | _ => False
theorem hget_sub {g : Nat} {e : Ent} : ∀ {H : Heap}, hget g H = some e → List.Sublist [(g, e)] H := fun h => List.singleton_sublist.2 (hget_mem h)
theorem CallS.own {g : FuncId} {az : List A} {e : TypeId} {sz : Nat} {rows : List (List A)} (h : CallS P g az [] fun r H' => ownAt H' e sz rows r) : CallOwn P g az e sz rows := by
  refine ⟨h.1, fun x args H0 hi hd => (h.2 x args H0 hi hd).mono ?_⟩
  rintro _ _ ⟨y, v, r, H', rfl, rfl, hle, hi', hv, hk⟩
  cases r <;> simp only [ownAt] at hk
  · subst hk
    simp only [D] at hv
    subst hv
    exact ⟨y, _, .own 0 (.slice none 0 0), [(0, .seq (.slice none 0 0) e sz [])], rfl, rfl, hle, Inv.nil (hi'.sub (List.sublist_append_right _ _)) ⟨rfl, rfl⟩, by simp [D], 0, _, rfl, rfl⟩
  · rename_i t hh
    exact ⟨y, v, .own t hh, [(t, .seq hh e sz rows)], rfl, rfl, hle, hi'.sub ((hget_sub hk).append (List.Sublist.refl _)), hv, t, hh, rfl, rfl⟩
theorem callO_of {g : FuncId} {fn : Func} {c : Code} {n : Nat} {rs : List ResultVar} {az : List A} {e : TypeId} {sz : Nat} {rows : List (List A)} (hf : P.funcs[g]? = some fn) (hb : fn.body = some c) (hn : fn.ntmps = n)
    (hr : fn.results = rs.toArray) (hnm : (fn.name == "runtime.NumGoroutine") = false) (hl : az.length ≤ n) (hfit : fitsC n c = true)
    (h : vcC ⟨P, none, n⟩ c (envOf az) [] (RetV P rs fun r H' => ownAt H' e sz rows r)) : CallOwn P g az e sz rows :=
  (callS_of hf hb hn hr hnm hl hfit h).own
/-- An owned result, under a mark of one's own. -/
theorem CallOwn.s {g : FuncId} {az : List A} {e : TypeId} {sz : Nat} {rows : List (List A)} (h : CallOwn P g az e sz rows) {H : Heap} {K : A → Heap → Prop} (τ : Nat) (hk : ∀ hd, K (.own τ hd) ((τ, .seq hd e sz rows) :: H)) : CallS P g az H K := by
  refine ⟨h.1, fun x args H0 hi hd => ((CallS.frame (H1 := H) h).2 x args H0 hi hd).mono ?_⟩
  rintro _ _ ⟨y, v, r, H', rfl, rfl, hle, hi', hv, H2, ⟨t, hh, rfl, rfl⟩, rfl⟩
  exact ⟨y, v, .own τ hh, _, rfl, rfl, hle, hi'.ents (H' := ((τ, .seq hh e sz rows) :: H) ++ H0) (by simp), by simpa [D] using hv, hk hh⟩
theorem CallOwn.fn {g : FuncId} {az : List A} {e : TypeId} {sz : Nat} {rows : List (List A)} (h : CallOwn P g az e sz rows) (hd : allD rows = true) : CallFn P g az (.dat (.sl (rowsD rows))) := by
  refine CallS.fn h ?_
  rintro r H' ⟨t, hh, rfl, rfl⟩
  simp [Go.Proofs.YtakndgpdolfenaaGreat.frz, hget, hd]
/-! ### Lending -/
mutual
def flatL : L → Bool
  | .sl [] => true
  | .sl _ => false
  | _ => true
end
def flatV : A → Bool
  | .dat l => flatL l
  | .record ls => ls.all flatL
  | .agg az => az.all fun a => match a with
    | .dat l => flatL l
    | .own _ _ => true
    | .nils => true
    | _ => false
  | .tuple az => az.all fun a => match a with
    | .dat l => flatL l
    | .own _ _ => true
    | .nils => true
    | .record ls => ls.all flatL
    | _ => false
  | .own _ _ => true
  | .nils => true
  | .undef => true
  | .nilp => true
  | .any => true
  | _ => false
theorem flatL_ok {x y : X} {l : L} {v : Value} (h : flatL l = true) (hv : RdL x l v) : RdL y l v := by
  cases l with
  | int k n => simpa [RdL] using hv
  | bool b => simpa [RdL] using hv
  | str s => simpa [RdL] using hv
  | sl xs =>
    cases xs with
    | nil =>
      simp only [RdL] at hv ⊢
      rcases hv with h1 | ⟨b, off, cap, e, hc, _⟩ | h1
      · exact .inl h1
      · exact .inr (.inl ⟨b, off, cap, e, hc, by simp [RdRows]⟩)
      · exact .inr (.inr h1)
    | cons a r => simp [flatL] at h
theorem flatLs_ok {x y : X} : ∀ {ls : List L} {vs : List Value}, ls.all flatL = true → RdLs x ls vs → RdLs y ls vs
  | [], [], _, _ => by simp [RdLs]
  | l :: ls, v :: vs, h, hv => by
    simp only [List.all_cons, Bool.and_eq_true] at h
    simp only [RdLs] at hv ⊢
    exact ⟨flatL_ok h.1 hv.1, flatLs_ok h.2 hv.2⟩
  | [], _ :: _, _, h => by simp [RdLs] at h
  | _ :: _, [], _, h => by simp [RdLs] at h
theorem flatDs_ok {x y : X} {f : A → Bool} (hf : ∀ a v, f a = true → D x a v → D y a v) : ∀ {az : List A} {vs : List Value}, az.all f = true → Ds x az vs → Ds y az vs
  | [], [], _, _ => by simp [Ds]
  | l :: ls, v :: vs, h, hv => by
    simp only [List.all_cons, Bool.and_eq_true] at h
    simp only [Ds] at hv ⊢
    exact ⟨hf _ _ h.1 hv.1, flatDs_ok hf h.2 hv.2⟩
  | [], _ :: _, _, h => by simp [Ds] at h
  | _ :: _, [], _, h => by simp [Ds] at h
theorem flatV_ok {x y : X} {a : A} {v : Value} (h : flatV a = true) (hv : D x a v) : D y a v := by
  cases a <;> simp only [flatV, Bool.false_eq_true] at h <;> simp only [D] at hv ⊢ <;> try exact hv
  · exact flatL_ok h hv
  · obtain ⟨vs, rfl, hr⟩ := hv
    exact ⟨vs, rfl, flatLs_ok h hr⟩
  · obtain ⟨vs, rfl, hr⟩ := hv
    refine ⟨vs, rfl, flatDs_ok ?_ h hr⟩
    intro a v ha hd
    split at ha <;> first | (simp only [D] at hd ⊢; first | exact hd | exact flatL_ok ha hd) | cases ha
  · obtain ⟨vs, rfl, hr⟩ := hv
    refine ⟨vs, rfl, flatDs_ok ?_ h hr⟩
    intro a v ha hd
    split at ha <;> first | (simp only [D] at hd ⊢; first | exact hd | exact flatL_ok ha hd | (obtain ⟨vs, rfl, hr⟩ := hd; exact ⟨vs, rfl, flatLs_ok ha hr⟩)) | cases ha
def flatE : Ent → Bool
  | .seq _ _ _ rows => rows.all (·.all flatV)
  | _ => false
theorem flatE_ok {x y : X} {e : Ent} (h : flatE e = true) (hw : ∀ b, e.own b → y.w.heap[b]? = x.w.heap[b]?) (hs : e.sat x) : e.sat y := by
  cases e <;> simp only [flatE, Bool.false_eq_true] at h
  rename_i v e sz rows
  obtain ⟨xs, ⟨h1, h2⟩, h3, h4⟩ := hs
  refine ⟨xs, ⟨h1, ?_⟩, h3, flatDs_ok (f := flatV) (fun a v ha hd => flatV_ok ha hd) ?_ h4⟩
  · rcases h2 with h2 | ⟨g, cap, cur, rfl, h5, h6, h7⟩
    · exact .inl h2
    · exact .inr ⟨g, cap, cur, rfl, h5, by rw [hw g rfl]; exact h6, h7⟩
  · rw [List.all_eq_true] at h ⊢
    intro a ha
    obtain ⟨r, hr, ha⟩ := List.mem_flatten.1 ha
    exact List.all_eq_true.1 (h r hr) a ha

def Ent.blks : Ent → List Nat
  | .box b _ => [b]
  | .seq h _ _ _ => h.ownBlock.toList
  | .raw b _ => [b]
  | .map b _ _ => [b]
  | .loop b _ _ _ _ _ _ _ => [b]
  | .seqs l => l.filterMap (·.1.ownBlock)
theorem Ent.blk_own {e : Ent} {b : Nat} : e.own b ↔ b ∈ e.blks := by
  cases e <;> simp [Ent.own, Ent.blks]
theorem Ent.blks_apart {x : X} {e : Ent} (h : e.sat x) : e.blks.Pairwise (· ≠ ·) := by
  cases e with
  | seq v e sz rows => simp only [Ent.blks]; cases v.ownBlock <;> simp
  | seqs l =>
    refine List.Pairwise.filterMap _ ?_ h.2
    intro p q hpq a ha c hc e
    subst e
    exact hpq a ha hc
  | box _ _ => simp [Ent.blks]
  | raw _ _ => simp [Ent.blks]
  | map _ _ _ => simp [Ent.blks]
  | loop _ _ _ _ _ _ _ _ => simp [Ent.blks]
/-- The very blocks. -/
def rawsOf (x : X) (H : Heap) : Heap := H.flatMap fun p => p.2.blks.map fun b => (0, .raw b ((x.w.heap[b]?).getD (.deferred none)))
theorem rawsOf_mem {x : X} {H : Heap} {q : Nat × Ent} (hq : q ∈ rawsOf x H) : ∃ p ∈ H, ∃ b, p.2.own b ∧ q = (0, .raw b ((x.w.heap[b]?).getD (.deferred none))) := by
  obtain ⟨p, hp, h⟩ := List.mem_flatMap.1 hq
  obtain ⟨b, hb, rfl⟩ := List.mem_map.1 h
  exact ⟨p, hp, b, Ent.blk_own.2 hb, rfl⟩
theorem rawsOf_of {x : X} {H : Heap} {p : Nat × Ent} {b : Nat} (hp : p ∈ H) (hb : p.2.own b) : ((0, .raw b ((x.w.heap[b]?).getD (.deferred none))) : Nat × Ent) ∈ rawsOf x H :=
  List.mem_flatMap.2 ⟨p, hp, List.mem_map.2 ⟨b, Ent.blk_own.1 hb, rfl⟩⟩
theorem Inv.raws {x : X} {H : Heap} (hi : Inv x H) : Inv x (rawsOf x H) := by
  refine ⟨hi.bd, ?_, ?_, ?_⟩
  · intro q hq
    obtain ⟨p, hp, b, hb, rfl⟩ := rawsOf_mem hq
    have hlt := (hi.own p hp b hb).1
    show x.w.heap[b]? = some _
    simp [hlt]
  · intro q hq b hb
    obtain ⟨p, hp, b', hb', rfl⟩ := rawsOf_mem hq
    simp only [Ent.own] at hb
    subst hb
    exact hi.own p hp b hb'
  · refine List.pairwise_flatMap.2 ⟨fun p hp => ?_, hi.apart.imp ?_⟩
    · rw [List.pairwise_map]
      refine (Ent.blks_apart (hi.sat p hp)).imp ?_
      intro a c hac b h1 h2
      simp only [Ent.own] at h1 h2
      exact hac (h1.symm.trans h2)
    · intro p q hpq r hr s hs b h1 h2
      obtain ⟨b1, hb1, rfl⟩ := List.mem_map.1 hr
      obtain ⟨b2, hb2, rfl⟩ := List.mem_map.1 hs
      simp only [Ent.own] at h1 h2
      subst h1
      subst h2
      exact hpq _ (Ent.blk_own.2 hb1) (Ent.blk_own.2 hb2)

theorem CallS.lend {g : FuncId} {az az' : List A} {H : Heap} {K K' : A → Heap → Prop} (h : CallS P g az' [] K') (hz : (frzs H az).1 ∧ (frzs H az).2 = az')
    (hk : ∀ r H', K' r H' → flatV r = true ∧ (∀ p ∈ H', flatE p.2 = true) ∧ K r (H' ++ H)) : CallS P g az H K := by
  obtain ⟨hz1, rfl⟩ := hz
  refine ⟨h.1, fun x args H0 hi hd => ?_⟩
  obtain ⟨x', hw, hle, hi0, hok, hok'⟩ := hi.freeze
  have hd' := frzs_ok hi hle hw hok az _ hd hz1
  have hr := hi0.raws
  have := h.2 x' args (rawsOf x' H0) (by simpa using hr) hd'
  rw [hw] at this
  refine this.mono ?_
  rintro _ _ ⟨y', v, r, H', rfl, rfl, hley, hiy, hv, hkk⟩
  obtain ⟨k1, k2, k3⟩ := hk r H' hkk
  let y : X := ⟨y'.w, fun b => y'.ok b ∧ ¬ ∃ p ∈ H, p.2.own b⟩
  have hown : ∀ p ∈ H, ∀ b, p.2.own b → b < x.w.heap.size ∧ ¬ x.ok b := fun p hp b hb => hi.own p (List.mem_append.2 (.inl hp)) b hb
  have hlexy : x.le y := by
    refine ⟨fun b hb => ⟨⟨(hley.keep b (hle.keep b hb).1).1, fun ⟨p, hp, ho⟩ => (hown p hp b ho).2 hb⟩, ?_⟩, ?_, ?_, ?_, ?_, ?_⟩
    · exact ((hley.keep b (hle.keep b hb).1).2).trans (hle.keep b hb).2
    · exact hley.os.trans hle.os
    · exact hley.output.trans hle.output
    · exact hley.tape.trans hle.tape
    · exact Nat.le_trans hle.size hley.size
    · exact Nat.le_trans hle.drawn hley.drawn
  have hH : ∀ p ∈ H, ∀ b, p.2.own b → y'.ok b ∧ y'.w.heap[b]? = x.w.heap[b]? := fun p hp b hb => by
    have h1 := hley.keep b (hok b ⟨p, hp, hb⟩)
    exact ⟨h1.1, by rw [h1.2, hw]⟩
  have hH0 : ∀ p ∈ H0, ∀ b, p.2.own b → y'.w.heap[b]? = x.w.heap[b]? ∧ ¬ y'.ok b := fun p hp b hb => by
    have hm := rawsOf_of (x := x') hp hb
    have h1 : y'.w.heap[b]? = some _ := hiy.sat _ (List.mem_append.2 (.inr hm))
    have hlt := (hi0.own p hp b hb).1
    refine ⟨by rw [h1, ← hw]; simp [hlt], (hiy.own _ (List.mem_append.2 (.inr hm)) b rfl).2⟩
  refine ⟨y, v, r, H' ++ H, rfl, rfl, hlexy, ?_, flatV_ok k1 hv, k3⟩
  rw [List.append_assoc]
  have sz : ∀ b, b < x.w.heap.size → b < y.w.heap.size := fun b hb => Nat.lt_of_lt_of_le hb hlexy.size
  refine ⟨fun b hb => hiy.bd b hb.1, ?_, ?_, ?_⟩
  · intro p hp
    rcases List.mem_append.1 hp with hp | hp
    · exact flatE_ok (x := y') (y := y) (k2 p hp) (fun _ _ => rfl) (hiy.sat p (List.mem_append.2 (.inl hp)))
    · refine Ent.sat_step hlexy (fun b hb => ?_) (hi.sat p hp)
      rcases List.mem_append.1 hp with hp | hp
      · exact (hH p hp b hb).2
      · exact (hH0 p hp b hb).1
  · intro p hp b hb
    rcases List.mem_append.1 hp with hp | hp
    · have := hiy.own p (List.mem_append.2 (.inl hp)) b hb
      exact ⟨this.1, fun hh => this.2 hh.1⟩
    · rcases List.mem_append.1 hp with hp | hp
      · exact ⟨sz b (hown p hp b hb).1, fun hh => hh.2 ⟨p, hp, hb⟩⟩
      · exact ⟨sz b (hi.own p (List.mem_append.2 (.inr hp)) b hb).1, fun hh => (hH0 p hp b hb).2 hh.1⟩
  · refine List.pairwise_append.2 ⟨(List.pairwise_append.1 hiy.apart).1, hi.apart, ?_⟩
    intro p hp q hq b h1 h2
    have hpn := hiy.own p (List.mem_append.2 (.inl hp)) b h1
    rcases List.mem_append.1 hq with hq | hq
    · exact hpn.2 (hH q hq b h2).1
    · exact (List.pairwise_append.1 hiy.apart).2.2 p hp _ (rawsOf_of (x := x') hq h2) b h1 rfl
theorem CallFn.lend {g : FuncId} {az az' : List A} {H : Heap} {K : A → Heap → Prop} {r : A} (h : CallFn P g az' r) (hz : (frzs H az).1 ∧ (frzs H az).2 = az') (hf : flatV r = true) (hk : K r H) : CallS P g az H K :=
  CallS.lend (K' := fun r' H' => r' = r ∧ H' = []) h hz (by rintro _ _ ⟨rfl, rfl⟩; exact ⟨hf, by simp, by simpa using hk⟩)

/-- Lent, with an owned result of flat data. -/
theorem CallOwn.lend {g : FuncId} {az az' : List A} {e : TypeId} {sz : Nat} {rows : List (List A)} (h : CallOwn P g az' e sz rows) {H : Heap} {K : A → Heap → Prop} (τ : Nat) (hz : (frzs H az).1 ∧ (frzs H az).2 = az') (hf : ∀ hd, flatE (.seq hd e sz rows) = true)
    (hk : ∀ hd, K (.own τ hd) ((τ, .seq hd e sz rows) :: H)) : CallS P g az H K := by
  have h2 : CallS P g az' [] fun r H' => ∃ hd, r = .own τ hd ∧ H' = [(τ, .seq hd e sz rows)] := h.s τ fun hd => ⟨hd, rfl, rfl⟩
  refine h2.lend hz ?_
  rintro r H' ⟨hd, rfl, rfl⟩
  refine ⟨rfl, ?_, hk hd⟩
  intro p hp
  simp only [List.mem_singleton] at hp
  subst hp
  exact hf hd
@[simp] theorem flatE_i {α : Type} (f : α → Int) (k : IntKind) (hd : Value) (e sz : Nat) (xs : List α) : flatE (.seq hd e sz (xs.map fun a => [A.dat (.int k (f a))])) = true := by simp [flatE, flatV, flatL]
@[simp] theorem flatE_b {α : Type} (f : α → Bool) (hd : Value) (e sz : Nat) (xs : List α) : flatE (.seq hd e sz (xs.map fun a => [A.dat (.bool (f a))])) = true := by simp [flatE, flatV, flatL]

/-- Lent, and what comes back seen as data. -/
theorem CallS.frzPart {g : FuncId} {az : List A} {K : A → Heap → Prop} {H : Heap} {ρ : A} (h : CallS P g az H fun r H' => ∃ H2, K r H2 ∧ H' = H2 ++ H) (hk : ∀ r H', K r H' → (Go.Proofs.YtakndgpdolfenaaGreat.frz H' r).1 ∧ (Go.Proofs.YtakndgpdolfenaaGreat.frz H' r).2 = ρ) : CallS P g az H fun r' H' => r' = ρ ∧ H' = H := by
  refine ⟨h.1, fun x args H0 hi hd => (h.2 x args H0 hi hd).mono ?_⟩
  rintro _ _ ⟨y, v, r, H', rfl, rfl, hle, hi', hv, H2, hkk, rfl⟩
  obtain ⟨h1, rfl⟩ := hk r H2 hkk
  rw [List.append_assoc] at hi'
  obtain ⟨z, hw, hle2, hi2, hok, _⟩ := hi'.freeze
  exact ⟨z, v, _, H, rfl, hw, hle.trans hle2, hi2, frz_ok hi' hle2 hw hok r v hv h1, rfl, rfl⟩
theorem CallOwn.lendFn {g : FuncId} {az az' : List A} {e : TypeId} {sz : Nat} {rows : List (List A)} (h : CallOwn P g az' e sz rows) {H : Heap} (hz : (frzs H az).1 ∧ (frzs H az).2 = az') (hf : ∀ hd, flatE (.seq hd e sz rows) = true) (hd : allD rows = true) :
    CallS P g az H fun r' H' => r' = .dat (.sl (rowsD rows)) ∧ H' = H := by
  refine CallS.frzPart (K := fun r H' => ∃ hh, r = .own 0 hh ∧ H' = [(0, .seq hh e sz rows)]) (h.lend 0 hz hf fun hh => ⟨[(0, .seq hh e sz rows)], ⟨hh, rfl, rfl⟩, rfl⟩) ?_
  rintro r H' ⟨hh, rfl, rfl⟩
  simp [Go.Proofs.YtakndgpdolfenaaGreat.frz, hget, hd]

attribute [simp] hdE ownAt frz frzs flatV flatL flatE subN nilSeq

end Go.Proofs.YtakndgpdolfenaaGreat
end

/- Data: signals, controls, states. -/
section
namespace Go.Proofs.YtakndgpdolfenaaGreat

abbrev encI (n : Int) : List L := [.int .i64 n]
abbrev encB (b : Bool) : List L := [.bool b]
abbrev encT (s : List UInt8) : List L := [.str s]
abbrev aI (n : Int) : A := .dat (.int .i64 n)
abbrev aB (b : Bool) : A := .dat (.bool b)
abbrev aT (s : List UInt8) : A := .dat (.str s)
abbrev aIs (xs : List Int) : A := .dat (.sl (xs.map encI))
abbrev aBs (xs : List Bool) : A := .dat (.sl (xs.map encB))
abbrev aTs (xs : List (List UInt8)) : A := .dat (.sl (xs.map encT))
/-- Owned rows. -/
abbrev rI (n : Int) : List A := [.dat (.int .i64 n)]
abbrev rB (b : Bool) : List A := [.dat (.bool b)]

structure Signal where
  name : List UInt8
  kind : Int
  on : Expr
  off : Expr
  delay : Int
  init : Bool
abbrev encS (s : Signal) : List L := [.str s.name, .int .i64 s.kind, .int .i64 s.on.op, .int .i64 s.on.index, .sl (s.on.args.map encE), .int .i64 s.off.op, .int .i64 s.off.index, .sl (s.off.args.map encE), .int .i64 s.delay, .bool s.init]
abbrev aS (s : Signal) : A := .record (encS s)

structure Control where
  actuators : Int
  inputs : List (List UInt8)
  signals : List Signal
  plus : List Int
  minus : List Int
abbrev encC (c : Control) : List L := [.int .i64 c.actuators, .sl (c.inputs.map encT), .sl (c.signals.map encS), .sl (c.plus.map encI), .sl (c.minus.map encI)]
abbrev aC (c : Control) : A := .record (encC c)

structure State where
  ends : List Int
  valves : List Bool
  inputs : List Bool
  values : List Bool
  timers : List Int
  deriving DecidableEq
abbrev encSt (s : State) : List L := [.sl (s.ends.map encI), .sl (s.valves.map encB), .sl (s.inputs.map encB), .sl (s.values.map encB), .sl (s.timers.map encI)]
abbrev aSt (s : State) : A := .record (encSt s)

def maxI : Nat := 9223372036854775807
abbrev Sh {α : Type} (l : List α) : Prop := l.length ≤ 9223372036854775807
abbrev I64 (n : Int) : Prop := -9223372036854775808 ≤ n ∧ n ≤ 9223372036854775807
structure OkS (s : Signal) : Prop where
  name : Sh s.name
  kind : I64 s.kind
  on : OkE s.on
  off : OkE s.off
  delay : I64 s.delay
structure OkC (c : Control) : Prop where
  actuators : I64 c.actuators
  inputs : Sh c.inputs
  names : ∀ s ∈ c.inputs, Sh s
  signals : Sh c.signals
  sigs : ∀ s ∈ c.signals, OkS s
  plus : Sh c.plus
  minus : Sh c.minus
  plusI : ∀ n ∈ c.plus, I64 n
  minusI : ∀ n ∈ c.minus, I64 n
structure OkSt (s : State) : Prop where
  ends : Sh s.ends
  valves : Sh s.valves
  inputs : Sh s.inputs
  values : Sh s.values
  timers : Sh s.timers
  endsI : ∀ n ∈ s.ends, I64 n
  timersI : ∀ n ∈ s.timers, I64 n

/-- A control that is small enough to count its lines. -/
structure Sm (c : Control) : Prop where
  act : -1000000 ≤ c.actuators ∧ c.actuators ≤ 1000000
  inp : c.inputs.length ≤ 1000000
  sig : c.signals.length ≤ 1000000

end Go.Proofs.YtakndgpdolfenaaGreat
end

/- Lending to methods: pointers to boxes, seen as pointers to data. -/
section
namespace Go.Proofs.YtakndgpdolfenaaGreat
variable {P : Program}

theorem CallS.lendG {g : FuncId} {az az' : List A} {H : Heap} {K K' : A → Heap → Prop} (h : CallS P g az' [] K')
    (hz : ∀ (x y : X) (H0 : Heap) (vs : List Value), Inv x (H ++ H0) → x.le y → y.w = x.w → (∀ b, (∃ p ∈ H, p.2.own b) → y.ok b) → Ds x az vs → Ds y az' vs)
    (hk : ∀ r H', K' r H' → flatV r = true ∧ (∀ p ∈ H', flatE p.2 = true) ∧ K r (H' ++ H)) : CallS P g az H K := by
  refine ⟨h.1, fun x args H0 hi hd => ?_⟩
  obtain ⟨x', hw, hle, hi0, hok, hok'⟩ := hi.freeze
  have hd' := hz x x' H0 _ hi hle hw hok hd
  have hr := hi0.raws
  have := h.2 x' args (rawsOf x' H0) (by simpa using hr) hd'
  rw [hw] at this
  refine this.mono ?_
  rintro _ _ ⟨y', v, r, H', rfl, rfl, hley, hiy, hv, hkk⟩
  obtain ⟨k1, k2, k3⟩ := hk r H' hkk
  let y : X := ⟨y'.w, fun b => y'.ok b ∧ ¬ ∃ p ∈ H, p.2.own b⟩
  have hown : ∀ p ∈ H, ∀ b, p.2.own b → b < x.w.heap.size ∧ ¬ x.ok b := fun p hp b hb => hi.own p (List.mem_append.2 (.inl hp)) b hb
  have hlexy : x.le y := by
    refine ⟨fun b hb => ⟨⟨(hley.keep b (hle.keep b hb).1).1, fun ⟨p, hp, ho⟩ => (hown p hp b ho).2 hb⟩, ?_⟩, ?_, ?_, ?_, ?_, ?_⟩
    · exact ((hley.keep b (hle.keep b hb).1).2).trans (hle.keep b hb).2
    · exact hley.os.trans hle.os
    · exact hley.output.trans hle.output
    · exact hley.tape.trans hle.tape
    · exact Nat.le_trans hle.size hley.size
    · exact Nat.le_trans hle.drawn hley.drawn
  have hH : ∀ p ∈ H, ∀ b, p.2.own b → y'.ok b ∧ y'.w.heap[b]? = x.w.heap[b]? := fun p hp b hb => by
    have h1 := hley.keep b (hok b ⟨p, hp, hb⟩)
    exact ⟨h1.1, by rw [h1.2, hw]⟩
  have hH0 : ∀ p ∈ H0, ∀ b, p.2.own b → y'.w.heap[b]? = x.w.heap[b]? ∧ ¬ y'.ok b := fun p hp b hb => by
    have hm := rawsOf_of (x := x') hp hb
    have h1 : y'.w.heap[b]? = some _ := hiy.sat _ (List.mem_append.2 (.inr hm))
    have hlt := (hi0.own p hp b hb).1
    refine ⟨by rw [h1, ← hw]; simp [hlt], (hiy.own _ (List.mem_append.2 (.inr hm)) b rfl).2⟩
  refine ⟨y, v, r, H' ++ H, rfl, rfl, hlexy, ?_, flatV_ok k1 hv, k3⟩
  rw [List.append_assoc]
  have sz : ∀ b, b < x.w.heap.size → b < y.w.heap.size := fun b hb => Nat.lt_of_lt_of_le hb hlexy.size
  refine ⟨fun b hb => hiy.bd b hb.1, ?_, ?_, ?_⟩
  · intro p hp
    rcases List.mem_append.1 hp with hp | hp
    · exact flatE_ok (x := y') (y := y) (k2 p hp) (fun _ _ => rfl) (hiy.sat p (List.mem_append.2 (.inl hp)))
    · refine Ent.sat_step hlexy (fun b hb => ?_) (hi.sat p hp)
      rcases List.mem_append.1 hp with hp | hp
      · exact (hH p hp b hb).2
      · exact (hH0 p hp b hb).1
  · intro p hp b hb
    rcases List.mem_append.1 hp with hp | hp
    · have := hiy.own p (List.mem_append.2 (.inl hp)) b hb
      exact ⟨this.1, fun hh => this.2 hh.1⟩
    · rcases List.mem_append.1 hp with hp | hp
      · exact ⟨sz b (hown p hp b hb).1, fun hh => hh.2 ⟨p, hp, hb⟩⟩
      · exact ⟨sz b (hi.own p (List.mem_append.2 (.inr hp)) b hb).1, fun hh => (hH0 p hp b hb).2 hh.1⟩
  · refine List.pairwise_append.2 ⟨(List.pairwise_append.1 hiy.apart).1, hi.apart, ?_⟩
    intro p hp q hq b h1 h2
    have hpn := hiy.own p (List.mem_append.2 (.inl hp)) b h1
    rcases List.mem_append.1 hq with hq | hq
    · exact hpn.2 (hH q hq b h2).1
    · exact (List.pairwise_append.1 hiy.apart).2.2 p hp _ (rawsOf_of (x := x') hq h2) b h1 rfl

theorem rdLs_Ds' {x : X} : ∀ {ls : List L} {vs : List Value}, RdLs x ls vs → Ds x (ls.map A.dat) vs
  | [], [], _ => by simp [Ds]
  | l :: ls, v :: vs, h => by
    simp only [RdLs] at h
    simp only [List.map_cons, Ds, D]
    exact ⟨h.1, rdLs_Ds' h.2⟩
  | [], _ :: _, h => by simp [RdLs] at h
  | _ :: _, [], h => by simp [RdLs] at h
/-- A cell as data, where its slice is among what is owned. -/
def frzC (H : Heap) : A → Option L
  | .dat l => some l
  | .nils => some (.sl [])
  | .own t h => match hget t H with
    | some (.seq h' _ _ rows) => if allD rows = true then some (.sl (rowsD rows)) else none
    | _ => none
  | _ => none
def hdrOk (H : Heap) : A → Prop
  | .own t h => match hget t H with
    | some (.seq h' _ _ _) => h' = h
    | _ => True
  | _ => True
def frzCs (H : Heap) : List A → Option (List L)
  | [] => some []
  | a :: r => match frzC H a, frzCs H r with
    | some l, some ls => some (l :: ls)
    | _, _ => none
theorem frzC_ok {x y : X} {H H0 : Heap} (hi : Inv x (H ++ H0)) (hle : x.le y) (hw : y.w = x.w) (hok : ∀ b, (∃ p ∈ H, p.2.own b) → y.ok b) {a : A} {l : L} {v : Value} (hf : frzC H a = some l) (hh : hdrOk H a) (hv : D x a v) : RdL y l v := by
  unfold frzC at hf
  split at hf
  · simp only [Option.some.injEq] at hf; subst hf
    simp only [D] at hv
    exact RdL.mono hle _ _ hv
  · simp only [Option.some.injEq] at hf; subst hf
    simp only [D] at hv; subst hv; simp [RdL]
  · rename_i t h
    simp only [hdrOk] at hh
    split at hf <;> try (cases hf; done)
    rename_i h' e sz rows hg
    rw [hg] at hh
    simp only at hh
    split at hf <;> try (cases hf; done)
    rename_i hd
    simp only [Option.some.injEq] at hf; subst hf; subst hh
    simp only [D] at hv
    rw [hv.1]
    exact seq_data (Ent.sat_step hle (fun b _ => by rw [hw]) (hget_sat hi hg)) (fun b hb => hok b ⟨_, hget_mem hg, hb⟩) hd
  · cases hf
theorem frzCs_ok {x y : X} {H H0 : Heap} (hi : Inv x (H ++ H0)) (hle : x.le y) (hw : y.w = x.w) (hok : ∀ b, (∃ p ∈ H, p.2.own b) → y.ok b) : ∀ {cs : List A} {ls : List L} {vs : List Value}, frzCs H cs = some ls → (∀ a ∈ cs, hdrOk H a) → Ds x cs vs → RdLs y ls vs
  | [], ls, [], hf, _, _ => by simp only [frzCs, Option.some.injEq] at hf; subst hf; simp [RdLs]
  | a :: r, ls, v :: vs, hf, hh, hd => by
    simp only [frzCs] at hf
    split at hf <;> try (cases hf; done)
    rename_i l ls' h1 h2
    simp only [Option.some.injEq] at hf; subst hf
    simp only [Ds] at hd
    simp only [RdLs]
    exact ⟨frzC_ok hi hle hw hok h1 (hh a (by simp)) hd.1, frzCs_ok hi hle hw hok h2 (fun b hb => hh b (by simp [hb])) hd.2⟩
  | [], _, _ :: _, _, _, h => by simp [Ds] at h
  | _ :: _, _, [], _, _, h => by simp [Ds] at h
/-- A method that only reads, on a box of one's own. -/
theorem CallOwn.lendP {g : FuncId} {t b : Nat} {cs : List A} {ls : List L} {az : List A} {e : TypeId} {sz : Nat} {rows : List (List A)} {H : Heap} {K : A → Heap → Prop} (h : CallOwn P g (.rptr ls :: az) e sz rows) (τ : Nat)
    (hb : hget t H = some (.box b cs)) (hc : frzCs H cs = some ls ∧ ∀ a ∈ cs, hdrOk H a) (hz : (frzs H az).1 ∧ (frzs H az).2 = az) (hf : ∀ hd, flatE (.seq hd e sz rows) = true)
    (hk : ∀ hd, K (.own τ hd) ((τ, .seq hd e sz rows) :: H)) : CallS P g (.ptr t b 0 :: az) H K := by
  have h2 : CallS P g (.rptr ls :: az) [] fun r H' => ∃ hd, r = .own τ hd ∧ H' = [(τ, .seq hd e sz rows)] := h.s τ fun hd => ⟨hd, rfl, rfl⟩
  refine h2.lendG ?_ ?_
  · intro x y H0 vs hi hle hw hok hd
    cases vs with
    | nil => simp [Ds] at hd
    | cons v vs =>
      simp only [Ds] at hd ⊢
      have hr := frzs_ok hi hle hw hok az vs hd.2 hz.1
      rw [hz.2] at hr
      refine ⟨?_, hr⟩
      have hs := hget_sat hi hb
      obtain ⟨c, ty, k1, k2⟩ := hs
      have hv := hd.1
      simp only [D] at hv ⊢
      subst hv
      have hrd := frzCs_ok hi hle hw hok hc.1 hc.2 k2
      refine ⟨b, 0, rfl, rdCells_vals (hok b ⟨_, hget_mem hb, rfl⟩) ls _ 0 hrd ?_⟩
      intro j u hj
      rw [hw]
      simp only [World.cell?, k1, Nat.zero_add]
      simpa using hj
  · rintro r H' ⟨hd, rfl, rfl⟩
    refine ⟨rfl, ?_, hk hd⟩
    intro p hp
    simp only [List.mem_singleton] at hp
    subst hp
    exact hf hd
/-- A slot's slice is seen as data from here on. -/
theorem V.frz1 {C : Cfg} {c : Code} {E : Env} {H : Heap} {Q : PostQ} (t : Nat) {τ : Nat} {h : Value} {e sz : Nat} {rows : List (List A)} (hE : E t = .own τ h) (hH : hget τ H = some (.seq h e sz rows)) (hd : allD rows = true)
    (hv : V C c (upd E t (.dat (.sl (rowsD rows)))) (hdel τ H) Q) : V C c E H Q := by
  intro hf x act H0 ms hi he
  have hp := hdel_perm hH
  have hi1 : Inv x ([(τ, .seq h e sz rows)] ++ (hdel τ H ++ (marks ms ++ H0))) := by
    have := hi.perm (hp.symm.append_right (marks ms ++ H0))
    simpa using this
  obtain ⟨y, hw, hle, hi2, hok, _⟩ := hi1.freeze
  have he2 : EnvOK C.n (ms.map mk) y act (upd E t (.dat (.sl (rowsD rows)))) := by
    have hm := he.mono hle
    refine ⟨hm.defers, hm.size, fun s => ?_⟩
    simp only [upd]
    split
    · rename_i hs
      subst hs
      have hv := hm.slot s
      rw [hE] at hv
      simp only [D] at hv ⊢
      rw [hv.1]
      exact seq_data (Ent.sat_step hle (fun b _ => by rw [hw]) (hi1.sat (τ, .seq h e sz rows) (by simp))) (fun b hb => hok b ⟨_, List.mem_singleton.2 rfl, hb⟩) hd
    · exact hm.slot s
  have := hv hf y act H0 ms hi2 he2
  rw [hw] at this
  exact wpIn_mono this fun _ _ _ => Post.le hle fun _ _ _ h => h
/-- A struct of data, seen cell by cell: what is boxed of it can be written. -/
theorem CallS.agg {g : FuncId} {ls : List L} {az bz : List A} {H : Heap} {K : A → Heap → Prop} (h : CallS P g (az ++ .agg (ls.map A.dat) :: bz) H K) : CallS P g (az ++ .record ls :: bz) H K := by
  refine ⟨h.1, fun x args H0 hi hd => h.2 x args H0 hi ?_⟩
  have e := List.take_append_drop az.length args.toList
  have ht := hd.take az.length
  have hdr := hd.drop az.length
  simp only [List.take_left, List.drop_left] at ht hdr
  rw [← e]
  refine ht.append ?_
  generalize args.toList.drop az.length = l at hdr
  cases l with
  | nil => simp [Ds] at hdr
  | cons v l =>
    simp only [Ds, D] at hdr ⊢
    obtain ⟨⟨vs, rfl, hr⟩, h2⟩ := hdr
    refine ⟨⟨vs, rfl, ?_⟩, h2⟩
    exact rdLs_Ds' hr
attribute [simp] frzC frzCs hdrOk

end Go.Proofs.YtakndgpdolfenaaGreat
end

/- Slices built from data that are kept as owned. -/
section
namespace Go.Proofs.YtakndgpdolfenaaGreat
variable {P : Program}

/-- Like 'bslA', but the rows are the caller's own. -/
def bslO (P : Program) (t : TypeId) (len : Nat) (ps : List (Nat × A)) : Option (Prop × TypeId × List (List L)) :=
  match slT P t with
  | some e => if len = ps.length ∧ 0 < len then (match rowsA (szT P e) 0 ps with
      | some rows => some (tk P e ≠ 0 ∧ 0 < szT P e ∧ len * szT P e ≤ 16777216 ∧ ((P.info? e).bind (·.zero)).isSome = true, e, rows)
      | none => none) else none
  | none => none

theorem rowsA_len {sz : Nat} : ∀ (ps : List (Nat × A)) (k : Nat) (rows : List (List L)), rowsA sz k ps = some rows → ∀ r ∈ rows, r.length = sz
  | [], k, rows, h => by simp only [rowsA, Option.some.injEq] at h; subst h; simp
  | (i, a) :: r, k, rows, h => by
    simp only [rowsA] at h
    split at h <;> try (simp at h; done)
    split at h <;> try (simp at h; done)
    split at h <;> try (simp at h; done)
    rename_i hls
    simp only [Option.map_eq_some_iff] at h
    obtain ⟨rows', h1, rfl⟩ := h
    intro q hq
    rcases List.mem_cons.1 hq with rfl | hq
    · exact hls
    · exact rowsA_len r (k + 1) rows' h1 q hq
theorem rdLs_Ds {x : X} : ∀ {ls : List L} {vs : List Value}, RdLs x ls vs → Ds x (ls.map A.dat) vs
  | [], [], _ => by simp [Ds]
  | l :: ls, v :: vs, h => by
    simp only [RdLs] at h
    simp only [List.map_cons, Ds, D]
    exact ⟨h.1, rdLs_Ds h.2⟩
  | [], _ :: _, h => by simp [RdLs] at h
  | _ :: _, [], h => by simp [RdLs] at h

theorem flatLen {sz : Nat} : ∀ (rows : List (List L)), (∀ r ∈ rows, r.length = sz) → rows.flatten.length = rows.length * sz
  | [], _ => by simp
  | r :: rs, h => by
    have := flatLen rs fun q hq => h q (by simp [hq])
    simp only [List.flatten_cons, List.length_append, this, h r (by simp), List.length_cons]
    rw [Nat.add_mul, Nat.one_mul, Nat.add_comm]
/-- A slice without room. -/
def tightV (u : Value) : Prop := ∃ a n, u = .slice a n n
theorem bslO_ok {t len : Nat} {ps : List (Nat × A)} {qs : Array (Nat × Value)} {e : TypeId} {rows : List (List L)} {p : Prop} (h : bslO P t len ps = some (p, e, rows)) (hp : p) {x : X} {H : Heap} (hi : Inv x H)
    (hq : PartsOK x ps qs.toList) (τ : Nat) : ∃ (u : Value) (y : X), (Instr.buildSlice t len qs).run P x.w = .ok u y.w ∧ x.le y ∧ Inv y ((τ, .seq u e (szT P e) (rows.map (·.map A.dat))) :: H) ∧ D y (.own τ u) u ∧ tightV u := by
  unfold bslO at h
  split at h <;> try (simp at h; done)
  rename_i e he
  split at h <;> try (simp at h; done)
  rename_i hlen
  split at h <;> try (simp at h; done)
  rename_i rows hrows
  simp only [Option.some.injEq, Prod.mk.injEq] at h
  obtain ⟨rfl, rfl, rfl⟩ := h
  obtain ⟨h1, hpos, h2, h3⟩ := hp
  obtain ⟨vs, e1, e2, e3, e4, e5⟩ := rowsA_ok ps qs.toList 0 rows hrows hq
  obtain ⟨z, hz⟩ := Option.isSome_iff_exists.1 h3
  obtain ⟨i, hinf⟩ := tk_info h1
  rw [hinf] at hz
  simp only [Option.bind_some] at hz
  have hzv : ∀ w, (zeroValue e).run P w = .ok z w := fun w => by simp [zeroValue, run_typeInfo w hinf, hz]
  let z0 : Array Value := if len * szT P e = 0 then #[] else z.cells
  let cv : Array Value := (Array.range (len * szT P e)).map (z0[· % z0.size]!)
  obtain ⟨ov, k1, k2⟩ := fill_seq (szT P e) vs 0 cv e4 (by simp [cv, e2, hlen.1])
  simp only [Nat.zero_mul, List.take_zero, List.nil_append] at k2
  have hov : RdLs x rows.flatten ov.toList := by rw [k2]; exact e5
  have hle := X.mk'_le x (.cells ov e) hi.bd
  have hrl := rowsA_len ps 0 rows hrows
  have hlr : rows.length = len := by rw [e3, hlen.1]
  have hsz : ov.size = len * szT P e := by
    have hl2 := hov.length
    simp only [Array.length_toList] at hl2
    rw [hl2, flatLen rows hrl, hlr]
  refine ⟨.slice (some ⟨x.w.heap.size, 0, none⟩) len len, x.mk' (.cells ov e), ?_, hle, ?_, by simp [D], _, _, rfl⟩
  · rw [← e1] at k1
    have hlim : ¬ len * szT P e > 2 ^ 24 := by omega
    have g1 : (newRow e ov).run P x.w = .ok ⟨x.w.heap.size, 0, none⟩ (x.mk' (.cells ov e)).w := by simp [newRow, X.mk']
    simp only [Instr.buildSlice, Sem.run_bind, run_underlying (slT_und he), Result.andThen_ok, run_sizeOf' h1, hlim, if_false, Sem.run_pure]
    have k1' : Instr.fill (fun i => some (i * szT P e, szT P e)) ((Array.range (len * szT P e)).map (z0[· % z0.size]!)) qs.toList = some ov := k1
    by_cases hc : len * szT P e = 0
    · simp only [z0, hc, if_true] at k1'
      simp only [hc, if_true, Sem.run_bind, Sem.run_pure, Result.andThen_ok, k1', g1]
    · simp only [z0, hc, if_false] at k1'
      simp only [hc, if_false, Sem.run_bind, Sem.run_pure, hzv, Result.andThen_ok, k1', g1]
  · refine hi.fresh hle (fun b hb => Nat.lt_of_lt_of_le (hi.bd b hb) hle.size) (fun b hb => .inl hb) ?_ ?_ fun b hb => heap_alloc_old _ _ hb
    · refine ⟨ov.toList, ⟨by simp [hsz, hlr], .inr ⟨x.w.heap.size, len, ov, by simp [hlr], Nat.zero_le _, heap_alloc_new _ _, by simp [hlr], ?_, hsz, ?_⟩⟩, ?_, ?_⟩
      · have : len ≤ 16777216 := Nat.le_trans (Nat.le_mul_of_pos_right _ hpos) h2
        simp only [maxLen]; omega
      · rw [List.take_of_length_le]
        simp [hsz, hlr]
      · intro r hr
        obtain ⟨q, hq, rfl⟩ := List.mem_map.1 hr
        simpa using hrl q hq
      · have : (List.map (fun x => List.map A.dat x) rows).flatten = rows.flatten.map A.dat := by simp [List.map_flatten]
        rw [this]
        exact rdLs_Ds (RdLs.mono hle _ _ hov)
    · intro b hb
      simp only [Ent.own, Value.ownBlock, Option.some.injEq] at hb
      subst hb
      exact ⟨Nat.le_refl _, fun hk => absurd (hi.bd _ hk) (Nat.lt_irrefl _), by simp [X.mk']⟩

/-- A region's operations, none guarded, where the slices built at the slots T are kept as owned. -/
def vcOpsT (P : Program) (T : List Nat) : List Oper → Env → Heap → (Env → Heap → Prop) → Prop
  | [], E, H, K => K E H
  | o :: rest, E, H, K => o.guard = none ∧ match o.op, T.contains (o.dst.getD 0) with
    | .buildSlice t n ps, true => match bslO P t n (evs E ps.toList) with
      | some (p, e, rows) => (evp E ps.toList ∧ p) ∧ ∀ u, tightV u → vcOpsT P T rest (put E o.dst (.own (o.dst.getD 0) u)) ((o.dst.getD 0, .seq u e (szT P e) (rows.map (·.map A.dat))) :: H) K
      | none => False
    | op, _ => vcOp P op o.dst E H fun E' H' => vcOpsT P T rest E' H' K

theorem wpIn_q {F : Fence} {n : Nat} {o : Oper} {a : Act} {w : World} {K : Act → World → Prop} {Q Q' : Exit → Act → World → Prop} (h : o.wpIn F n P a w K Q') (hq : ∀ e, e ≠ .normal → Q' e = Q e) : o.wpIn F n P a w K Q := by
  have hl : LetsOut Q' = LetsOut Q := by unfold LetsOut; rw [hq _ (by simp)]
  obtain ⟨h1, h2⟩ := h
  refine ⟨h1, ?_⟩
  generalize (o.semAt F.round a.eval).run P w = r at h2 ⊢
  unfold Oper.uponIn at h2 ⊢
  split at h2 <;> simp_all

theorem vcOpsT_ok {C : Cfg} {T : List Nat} {ops : List Oper} {Q : Exit → Act → World → Prop} {x0 : X} {H0 : Heap} {ds : List Deferred} : ∀ (l : List Oper) (E : Env) (H : Heap) (K : Env → Heap → Prop), (∀ o ∈ l, fits C.n o.dst) → vcOpsT C.P T l E H K →
    (∀ E H x act, K E H → x0.le x → Inv x (H ++ H0) → EnvOK C.n ds x act E → Q .normal act x.w) → ∀ x act, x0.le x → Inv x (H ++ H0) → EnvOK C.n ds x act E → wpListIn (fw C.r) 0 C.P ops.toArray Q l act x.w
  | [], E, H, K, _, h, hq, x, act, hle, hi, he => hq _ _ x act h hle hi he
  | o :: rest, E, H, K, hf, h, hq, x, act, hle, hi, he => by
    have hf0 := hf o (by simp)
    have hf' : ∀ o ∈ rest, fits C.n o.dst := fun o ho => hf o (by simp [ho])
    have ih := fun E H K h hq x act hle hi he => vcOpsT_ok (C := C) (T := T) (ops := ops) (Q := Q) (x0 := x0) (H0 := H0) (ds := ds) rest E H K hf' h hq x act hle hi he
    simp only [vcOpsT] at h
    obtain ⟨hg, h⟩ := h
    have hw : Region.wanted o (yielded ops.toArray act.tmps) = true := by simp [Region.wanted, hg]
    have other : vcOp C.P o.op o.dst E H (fun E' H' => vcOpsT C.P T rest E' H' K) → wpListIn (fw C.r) 0 C.P ops.toArray Q (o :: rest) act x.w := by
      intro h
      let Q' : Exit → Act → World → Prop := fun e a w => match e with
        | .normal => wpListIn (fw C.r) 0 C.P ops.toArray Q rest a w
        | e => Q e a w
      have h1 := vcOps_ok (C := C) (ops := ops) (Q := Q') (x0 := x0) (H0 := H0) (ds := ds) [o] E H (fun E' H' => vcOpsT C.P T rest E' H' K) (fun q hq => by rw [List.mem_singleton.1 hq]; exact hf0) (by simp only [vcOps, hg]; exact h)
        (fun E' H' y a hk hl hi' he' => ih E' H' K hk hq y a hl hi' he') x act hle hi he
      simp only [wpListIn] at h1 ⊢
      rw [if_pos hw] at h1 ⊢
      refine wpIn_q (Q' := Q') h1 ?_
      intro e he
      cases e <;> first | rfl | exact absurd rfl he
    split at h
    · rename_i t n ps hop hT
      split at h
      · rename_i p e rows hb
        obtain ⟨⟨hp1, hp2⟩, hk⟩ := h
        simp only [wpListIn]
        rw [if_pos hw]
        refine ⟨fun _ _ => trivial, ?_⟩
        obtain ⟨u, y, k1, k2, k3, k4, k5⟩ := bslO_ok (qs := ps.map fun (i, x) => (i, act.eval x)) hb hp2 hi (by simpa using parts_ok he ps.toList hp1) (o.dst.getD 0)
        have h1 : (execOp act.eval o).run C.P x.w = .ok (.value u) y.w := by
          obtain ⟨dst, op, type, pos, after, guard⟩ := o
          simp only at hop
          subst hop
          simp [execOp, k1]
        rw [semAt_exec _ _ (by rw [hop]; rfl), h1]
        exact ih _ _ K (hk u k5) hq y _ (hle.trans k2) (by simpa using k3) ((he.mono k2).put hf0 k4)
      · exact h.elim
    · exact other h

def vcCT (C : Cfg) (T : List Nat) : Code → Env → Heap → PostQ → Prop
  | .seq a b, E, H, Q => vcCT C T a E H fun e E' H' => match e with
    | .normal => vcCT C T b E' H' Q
    | .exit i => Q (.exit i) E' H'
    | .ret => Q .ret E' H'
    | _ => False
  | .ret, E, H, Q => Q .ret E H
  | .region id ops d, E, H, Q => match d with
    | false => vcOpsT C.P T ops.toList E H fun E' H' => Q .normal E' H'
    | true => V C (.region id ops true) E H Q
  | _, _, _, _ => False

theorem vcCT_ok {C : Cfg} {T : List Nat} : ∀ (c : Code) (E : Env) (H : Heap) (Q : PostQ), fitsC C.n c = true → vcCT C T c E H Q → W C c E H Q
  | .seq a b, E, H, Q, hf, h => by
    simp only [fitsC, Bool.and_eq_true] at hf
    refine W.seq ((vcCT_ok a E H _ hf.1 h).mono ?_)
    intro e E' H' hq
    cases e with
    | normal => exact vcCT_ok b E' H' Q hf.2 hq
    | exit i => exact hq
    | ret => exact hq
    | goto l => exact hq
    | panic c => exact hq
    | outgrown => exact hq
  | .ret, _, _, _, _, h => W.ret h
  | .region id ops d, E, H, Q, hf, h => by
    cases d with
    | false =>
      intro x act H0 ms hi he
      have := vcOpsT_ok (C := C) (T := T) (ops := ops.toList) (Q := Post C.n H0 Q x) (x0 := x) (H0 := marks ms ++ H0) ops.toList E H _ (fitsOps_ok hf) h
        (fun E' H' y a hk hle hi' he' => ⟨y, E', H', ms, rfl, hle, hi', he', hk⟩) x act (.refl x) hi he
      exact wpIn_region_list (by simpa using this)
    | true => exact h hf
  | .skip, _, _, _, _, h => h.elim
  | .cond _ _ _, _, _, _, _, h => h.elim
  | .block _ _, _, _, _, _, h => h.elim
  | .exit _, _, _, _, _, h => h.elim
  | .loop _, _, _, _, _, h => h.elim
  | .rangeFunc _ _ _ _, _, _, _, _, h => h.elim
  | .scope _, _, _, _, _, h => h.elim
  | .label _, _, _, _, _, h => h.elim
  | .goto _, _, _, _, _, h => h.elim
  | .refuse _, _, _, _, _, h => h.elim

/-- A contract from a body without branches, where some slices that it builds are kept as owned. -/
theorem callT_of {g : FuncId} {fn : Func} {c : Code} {n : Nat} {rs : List ResultVar} {az : List A} {H : Heap} {K : A → Heap → Prop} (T : List Nat) (hf : P.funcs[g]? = some fn) (hb : fn.body = some c) (hn : fn.ntmps = n)
    (hr : fn.results = rs.toArray) (hnm : (fn.name == "runtime.NumGoroutine") = false) (hl : az.length ≤ n) (hfit : fitsC n c = true)
    (h : vcCT ⟨P, none, n⟩ T c (envOf az) H (RetV P rs K)) : CallS P g az H K :=
  callS_ofW hf hb hn hr hnm hl hfit (vcCT_ok c _ H _ hfit h)
/-! ### Drawn regions with calls that give structs of slices -/
@[simp] theorem xpH_n : xpH [] = [] := id rfl
@[simp] theorem xpH_box (t b : Nat) (cs : List A) (H : Heap) : xpH ((t, .box b cs) :: H) = (t, .box b cs) :: xpH H := id rfl
@[simp] theorem xpH_seq (t : Nat) (h : Value) (e sz : Nat) (rows : List (List A)) (H : Heap) : xpH ((t, .seq h e sz rows) :: H) = (t, .seq h e sz rows) :: xpH H := id rfl
@[simp] theorem xpH_raw (t b : Nat) (o : Obj) (H : Heap) : xpH ((t, .raw b o) :: H) = (t, .raw b o) :: xpH H := id rfl
@[simp] theorem xpH_map (t b : Nat) (d : TypeDesc) (es : List (L × L)) (H : Heap) : xpH ((t, .map b d es) :: H) = (t, .map b d es) :: xpH H := id rfl
@[simp] theorem xpH_seqs (t : Nat) (l : List (Value × TypeId × Nat × List (List A))) (H : Heap) : xpH ((t, .seqs l) :: H) = spreadL (stB t) 0 l ++ xpH H := id rfl
theorem V.drawS {n : Nat} {id : Nat} {ops : Array Oper} {E : Env} {H : Heap} {Q : PostQ} (ρ : Nat → Option CR) (hm : P.follows .mixedOrders = true) (hd : depB ops.toList = true) (hn : (H.map (·.1)).Nodup)
    (h : vcD P ρ ops.toList 0 [] ops.toList E H fun E' H' => Q .normal E' (xpH H')) : V ⟨P, none, n⟩ (.region id ops true) E H Q := by
  have h1 : V ⟨P, none, n⟩ (.region id ops true) E H (fun e E' H' => match e with | .normal => Q .normal E' (xpH H') | e => Q e E' H') := V.draw ρ hm hd hn h
  intro hf x act H0 ms hi he
  refine wpIn_mono (h1 hf x act H0 ms hi he) ?_
  rintro e a' w' ⟨y, E', H', ms', rfl, hle, hi', he', hq⟩
  cases e with
  | normal => exact ⟨y, E', xpH H', ms', rfl, hle, Inv.xp (A0 := []) hi', he', hq⟩
  | exit k => exact ⟨y, E', H', ms', rfl, hle, hi', he', hq⟩
  | ret => exact ⟨y, E', H', ms', rfl, hle, hi', he', hq⟩
  | goto k => exact ⟨y, E', H', ms', rfl, hle, hi', he', hq⟩
  | panic k => exact ⟨y, E', H', ms', rfl, hle, hi', he', hq⟩
  | outgrown => exact ⟨y, E', H', ms', rfl, hle, hi', he', hq⟩
attribute [simp] spreadL hdrsL ownsL stB
attribute [simp] vcCT vcOpsT bslO

end Go.Proofs.YtakndgpdolfenaaGreat
end

/- From the row's reading to data: what an argument's reading tells. -/
section
namespace Go.Proofs.YtakndgpdolfenaaGreat
variable {P : Program} {H : Type} {enc : TypeId × Value → H}

inductive Lf where
  | int (k : IntKind)
  | bool
  | str
  | sl (e : TypeId)

def leavesF (P : Program) (g : TypeId → Option (List Lf)) : List Field → Nat → Option (List Lf)
  | [], _ => some []
  | f :: fs, off => match g f.type with
    | some a => if f.offset = off ∧ P.cellsOf f.type = a.length then (leavesF P g fs (off + a.length)).map (a ++ ·) else none
    | none => none
/-- What a type's cells are, in order. -/
def leavesT (P : Program) : Nat → TypeId → Option (List Lf)
  | 0, _ => none
  | n + 1, t => match P.underlying t with
    | some .bool => some [.bool]
    | some (.int k) => some [.int k]
    | some .string => some [.str]
    | some (.slice e) => some [.sl e]
    | some (.struct fs) => match leavesF P (leavesT P n) fs.toList 0 with
      | some a => if a.length = P.cellsOf t then some a else none
      | none => none
    | _ => none

def inT (T : List TypeId) : Lf → Bool
  | .sl e => T.contains e
  | _ => true
/-- The types of elements are all among them, and laid. -/
def goodT (P : Program) (K : Nat) (T : List TypeId) : Bool := T.all fun e => match leavesT P K e with
  | some a => a.all (inT T) && decide (a.length = P.cellsOf e) && decide (0 < a.length)
  | none => false

def All2 {α β : Type} (R : α → β → Prop) : List α → List β → Prop
  | [], [] => True
  | a :: r, b :: s => R a b ∧ All2 R r s
  | _, _ => False
theorem All2.append {α β : Type} {R : α → β → Prop} : ∀ {a : List α} {b : List β} {c : List α} {d : List β}, All2 R a b → All2 R c d → All2 R (a ++ c) (b ++ d)
  | [], [], _, _, _, h => h
  | _ :: _, _ :: _, _, _, h1, h2 => ⟨h1.1, All2.append h1.2 h2⟩
  | [], _ :: _, _, _, h, _ => h.elim
  | _ :: _, [], _, _, h, _ => h.elim
theorem All2.len {α β : Type} {R : α → β → Prop} : ∀ {a : List α} {b : List β}, All2 R a b → a.length = b.length
  | [], [], _ => rfl
  | _ :: _, _ :: _, h => by simp [All2.len h.2]
  | [], _ :: _, h => h.elim
  | _ :: _, [], h => h.elim
theorem All2.imp {α β : Type} {R R' : α → β → Prop} (hi : ∀ a b, R a b → R' a b) : ∀ {a : List α} {b : List β}, All2 R a b → All2 R' a b
  | [], [], _ => trivial
  | _ :: _, _ :: _, h => ⟨hi _ _ h.1, All2.imp hi h.2⟩
  | [], _ :: _, h => h.elim
  | _ :: _, [], h => h.elim

/-- What is known of data that came in. -/
def OkV (P : Program) (K : Nat) : Nat → Lf → L → Prop
  | _, .int k, l => ∃ n, l = .int k n ∧ (Lit.int k n).wf = true
  | _, .bool, l => ∃ b, l = .bool b
  | _, .str, l => ∃ s, l = .str s ∧ s.length ≤ maxLen
  | 0, .sl _, _ => False
  | n + 1, .sl e, l => ∃ rows : List (List L), l = .sl rows ∧ rows.length ≤ maxLen ∧ ∀ r ∈ rows, ∃ lfs, leavesT P K e = some lfs ∧ All2 (OkV P K n) lfs r
theorem OkV.succ {K : Nat} : ∀ {n : Nat} {f : Lf} {l : L}, OkV P K n f l → OkV P K (n + 1) f l
  | 0, .sl _, _, h => by simp [OkV] at h
  | n + 1, .sl e, l, h => by
    simp only [OkV] at h
    obtain ⟨rows, e1, h1, h2⟩ := h
    simp only [OkV]
    refine ⟨rows, e1, h1, fun r hr => ?_⟩
    obtain ⟨lfs, h3, h4⟩ := h2 r hr
    exact ⟨lfs, h3, h4.imp fun a b => OkV.succ⟩
  | 0, .int _, _, h => by simpa [OkV] using h
  | 0, .bool, _, h => by simpa [OkV] using h
  | 0, .str, _, h => by simpa [OkV] using h
  | n + 1, .int _, _, h => by simpa [OkV] using h
  | n + 1, .bool, _, h => by simpa [OkV] using h
  | n + 1, .str, _, h => by simpa [OkV] using h

theorem RdLs.app {x : X} : ∀ {a : List L} {u : List Value} {b : List L} {v : List Value}, RdLs x a u → RdLs x b v → RdLs x (a ++ b) (u ++ v)
  | [], [], _, _, _, h => h
  | _ :: _, _ :: _, _, _, h1, h2 => by simp only [RdLs] at h1; simp only [List.cons_append, RdLs]; exact ⟨h1.1, RdLs.app h1.2 h2⟩
  | [], _ :: _, _, _, h, _ => by simp [RdLs] at h
  | _ :: _, [], _, _, h, _ => by simp [RdLs] at h

/-- The world as it came: all that is there is taken as it is. -/
def X0 (W : World) : X := ⟨W, fun b => b < W.heap.size⟩

theorem mapM_get {α β : Type} {f : α → Option β} : ∀ {l : List α} {r : List β}, l.mapM f = some r → r.length = l.length ∧ ∀ (i : Nat) (x : α), l[i]? = some x → f x = r[i]?
  | [], r, h => by
    simp only [List.mapM_nil, Option.pure_def, Option.some.injEq] at h
    subst h
    simp
  | a :: l, r, h => by
    rw [List.mapM_cons] at h
    simp only [Option.bind_eq_bind, Option.bind_eq_some_iff, Option.pure_def, Option.some.injEq] at h
    obtain ⟨b, h1, r', h2, rfl⟩ := h
    obtain ⟨k1, k2⟩ := mapM_get h2
    refine ⟨by simp [k1], fun i x hx => ?_⟩
    cases i with
    | zero => simp only [List.getElem?_cons_zero, Option.some.injEq] at hx ⊢; subst hx; exact h1
    | succ i => simpa using k2 i x (by simpa using hx)
theorem cells_get {W : World} {a : Addr} {n : Nat} {cs : List Value} (h : W.cells? 0 a n = some cs) : cs.length = n ∧ ∀ j, j < n → W.cell? (a.add j) = cs[j]? := by
  simp only [World.cells?, Nat.zero_le, if_true] at h
  obtain ⟨h1, h2⟩ := mapM_get h
  exact ⟨by simpa using h1, fun j hj => h2 j j (by simp [hj])⟩
theorem cell_spot {W : World} {a : Addr} {v : Value} (h : W.cell? a = some v) : a.spot = none ∧ a.block < W.heap.size := by
  unfold World.cell? at h
  split at h
  · rename_i c _ _ hb
    refine ⟨?_, (Array.getElem?_eq_some_iff.1 hb).1⟩
    split at h
    · cases h
    · rename_i hs; simpa using hs
  · cases h
theorem list_of {α : Type} {p : Nat → α → Prop} : ∀ (n : Nat), (∀ i, i < n → ∃ a, p i a) → ∃ l : List α, l.length = n ∧ ∀ (i : Nat) (a : α), l[i]? = some a → p i a
  | 0, _ => ⟨[], rfl, by simp⟩
  | n + 1, h => by
    obtain ⟨l, h1, h2⟩ := list_of n fun i hi => h i (by omega)
    obtain ⟨a, ha⟩ := h n (by omega)
    refine ⟨l ++ [a], by simp [h1], fun i b hb => ?_⟩
    rcases Nat.lt_trichotomy i n with hi | hi | hi
    · exact h2 i b (by rwa [List.getElem?_append_left (by omega)] at hb)
    · subst hi
      rw [List.getElem?_append_right (by omega)] at hb
      simp [h1] at hb
      subst hb; exact ha
    · rw [List.getElem?_eq_none (by simp [h1]; omega)] at hb
      cases hb
theorem rdRows_at {x : X} {b : Nat} (sz : Nat) : ∀ (rows : List (List L)) (off : Nat), (∀ i r, rows[i]? = some r → r.length = sz ∧ RdCells x r b (off + i * sz)) → RdRows x rows b off
  | [], _, _ => by simp [RdRows]
  | r :: rs, off, h => by
    obtain ⟨h1, h2⟩ := h 0 r (by simp)
    simp only [RdRows]
    refine ⟨by simpa using h2, rdRows_at sz rs (off + r.length) fun i q hq => ?_⟩
    obtain ⟨h3, h4⟩ := h (i + 1) q (by simpa using hq)
    refine ⟨h3, ?_⟩
    rw [h1, show off + sz + i * sz = off + (i + 1) * sz by rw [Nat.add_mul]; omega]
    exact h4

theorem read_fields {W : World} {K n : Nat} {T : List TypeId} {k : Nat} (ih : ∀ t cs x, DataW.trod enc P W 0 (fun _ => true) true n t cs = some x → ∀ lfs, leavesT P k t = some lfs → lfs.all (inT T) = true → ∃ ls, RdLs (X0 W) ls cs ∧ All2 (OkV P K n) lfs ls) (cs : List Value) :
    ∀ (fs : List Field) (off : Nat) (xs : List (DataW H × List MemPlace)), (fs.mapM fun f => DataW.trod enc P W 0 (fun _ => true) true n f.type ((cs.drop f.offset).take (P.cellsOf f.type))) = some xs →
      ∀ lfs, leavesF P (leavesT P k) fs off = some lfs → lfs.all (inT T) = true → ∃ ls, RdLs (X0 W) ls ((cs.drop off).take lfs.length) ∧ All2 (OkV P K n) lfs ls
  | [], off, xs, h, lfs, hl, _ => by
    simp only [leavesF, Option.some.injEq] at hl
    subst hl
    exact ⟨[], by simp [RdLs], trivial⟩
  | f :: fs, off, xs, h, lfs, hl, hT => by
    simp only [leavesF] at hl
    split at hl <;> try (simp at hl; done)
    rename_i a ha
    split at hl <;> try (simp at hl; done)
    rename_i ho
    simp only [Option.map_eq_some_iff] at hl
    obtain ⟨b, hb, rfl⟩ := hl
    rw [List.mapM_cons] at h
    simp only [Option.bind_eq_bind, Option.bind_eq_some_iff, Option.pure_def, Option.some.injEq] at h
    obtain ⟨x, h1, xs', h2, _⟩ := h
    rw [List.all_append, Bool.and_eq_true] at hT
    obtain ⟨ls1, r1, o1⟩ := ih _ _ _ h1 a ha hT.1
    obtain ⟨ls2, r2, o2⟩ := read_fields ih cs fs (off + a.length) xs' h2 b hb hT.2
    rw [ho.1, ho.2] at r1
    refine ⟨ls1 ++ ls2, ?_, o1.append o2⟩
    have : (cs.drop off).take (a ++ b).length = (cs.drop off).take a.length ++ (cs.drop (off + a.length)).take b.length := by
      rw [List.length_append, List.take_add, List.drop_drop]
    rw [this]
    exact r1.app r2

theorem read_ok {W : World} {K : Nat} {T : List TypeId} (hT : goodT P K T = true) : ∀ (n : Nat) (t : TypeId) (cs : List Value) (x : DataW H × List MemPlace), DataW.trod enc P W 0 (fun _ => true) true n t cs = some x →
    ∀ (k : Nat) (lfs : List Lf), leavesT P k t = some lfs → lfs.all (inT T) = true → ∃ ls, RdLs (X0 W) ls cs ∧ All2 (OkV P K n) lfs ls
  | 0, t, cs, x, h, _, _, _, _ => by simp [DataW.trod] at h
  | n + 1, t, cs, x, h, 0, lfs, hl, _ => by simp [leavesT] at hl
  | n + 1, t, cs, x, h, k + 1, lfs, hl, hin => by
    have ih := read_ok (W := W) hT n
    have h0 := h
    simp only [leavesT] at hl
    split at hl <;> try (simp at hl; done)
    · rename_i hu
      simp only [Option.some.injEq] at hl; subst hl
      obtain ⟨b, rfl, _⟩ := DataW.trod_bool hu h
      exact ⟨[.bool b], by simp [RdLs, RdL], by simp [All2, OkV]⟩
    · rename_i q hu
      simp only [Option.some.injEq] at hl; subst hl
      obtain ⟨m, rfl, _, hw⟩ := DataW.trod_int hu h
      exact ⟨[.int q m], by simp [RdLs, RdL], by simp [All2, OkV, hw]⟩
    · rename_i hu
      simp only [Option.some.injEq] at hl; subst hl
      obtain ⟨b, rfl, _, hw⟩ := DataW.trod_string hu h
      refine ⟨[.str b.data.toList], by simp only [RdLs, RdL, and_true], ?_⟩
      simp only [All2, OkV, and_true]
      exact ⟨_, rfl, by rw [Array.length_toList]; exact hw⟩
    · rename_i e hu
      simp only [Option.some.injEq] at hl; subst hl
      have he : T.contains e = true := by simpa [inT] using hin
      have hg := List.all_eq_true.1 hT e (by simpa using he)
      split at hg <;> try (cases hg; done)
      rename_i lfe hle
      simp only [Bool.and_eq_true, decide_eq_true_eq] at hg
      obtain ⟨⟨g1, g2⟩, g3⟩ := hg
      rcases DataW.trod_slice hu h0 with ⟨rfl, _⟩ | ⟨a, len, cap, elems, rest, n', hn, rfl, _, _, hlc, hcm, hel, hrd, hsp, _⟩
      · exact ⟨[.sl []], by simp [RdLs, RdL], by simp [All2, OkV]⟩
      · obtain rfl : n = n' := by omega
        have hidx : ∀ m, (W.cells? 0 (a.add (m * P.cellsOf e)) (P.cellsOf e)).bind (DataW.trod enc P W 0 (fun _ => true) true n e) = none ∨ ∃ c y, W.cells? 0 (a.add (m * P.cellsOf e)) (P.cellsOf e) = some c ∧ DataW.trod enc P W 0 (fun _ => true) true n e c = some y := by
          intro m
          cases hm : (W.cells? 0 (a.add (m * P.cellsOf e)) (P.cellsOf e)).bind (DataW.trod enc P W 0 (fun _ => true) true n e) with
          | none => exact .inl rfl
          | some y =>
            obtain ⟨c, h2, h3⟩ := Option.bind_eq_some_iff.1 hm
            exact .inr ⟨c, y, h2, h3⟩
        by_cases hcap : cap = 0
        · subst hcap
          obtain rfl : len = 0 := by omega
          refine ⟨[.sl []], ?_, by simp [All2, OkV]⟩
          simp only [RdLs, RdL]
          exact ⟨.inr (.inr ⟨a, by simp⟩), trivial⟩
        · have hspot : a.spot = none := by
            have h0 : ∃ c y, W.cells? 0 (a.add (0 * P.cellsOf e)) (P.cellsOf e) = some c ∧ DataW.trod enc P W 0 (fun _ => true) true n e c = some y := by
              rcases hidx 0 with h1 | h1
              · exfalso
                by_cases hl0 : len = 0
                · have h2 := (hsp rfl).2 0 (by omega)
                  rw [hl0, Nat.zero_add] at h2
                  rw [h1] at h2
                  have h3 := (hsp rfl).1
                  rw [List.getElem?_eq_getElem (by omega)] at h2
                  cases h2
                · have h2 := hrd 0 (by omega)
                  rw [h1, List.getElem?_eq_getElem (by omega)] at h2
                  cases h2
              · exact h1
            obtain ⟨c, y, h2, h3⟩ := h0
            obtain ⟨c1, c2⟩ := cells_get h2
            have h00 := c2 0 (by omega)
            rw [List.getElem?_eq_getElem (by omega), Nat.zero_mul] at h00
            exact (cell_spot h00).1
          obtain ⟨b, off, sp⟩ := a
          simp only at hspot
          subst hspot
          have hcell : ∀ i, i < len → ∃ ls : List L, ls.length = P.cellsOf e ∧ RdCells (X0 W) ls b (off + i * P.cellsOf e) ∧ All2 (OkV P K n) lfe ls := by
            intro i hi
            have h1 := hrd i hi
            rw [List.getElem?_eq_getElem (by omega)] at h1
            obtain ⟨c, h2, h3⟩ := Option.bind_eq_some_iff.1 h1
            obtain ⟨c1, c2⟩ := cells_get h2
            obtain ⟨ls, r1, r2⟩ := ih e c _ h3 K lfe hle g1
            have hlen : ls.length = P.cellsOf e := by rw [← r2.len, g2]
            have h00 := c2 0 (by omega)
            rw [List.getElem?_eq_getElem (by omega), add_none, add_none] at h00
            have hs := cell_spot h00
            refine ⟨ls, hlen, rdCells_vals (x := X0 W) hs.2 ls c _ r1 fun j v hv => ?_, r2⟩
            have := c2 j (by rw [← c1]; exact (List.getElem?_eq_some_iff.1 hv).1)
            rw [hv, add_none, add_none] at this
            exact this
          obtain ⟨rows, hr1, hr2⟩ := list_of len hcell
          refine ⟨[.sl rows], ?_, ?_, trivial⟩
          · simp only [RdLs, RdL]
            refine ⟨.inr (.inl ⟨b, off, cap, by rw [hr1], by omega, rdRows_at (P.cellsOf e) rows off fun i r hr => ⟨(hr2 i r hr).1, (hr2 i r hr).2.1⟩⟩), trivial⟩
          · simp only [OkV]
            refine ⟨rows, rfl, by omega, fun r hr => ?_⟩
            obtain ⟨i, hi, rfl⟩ := List.getElem_of_mem hr
            exact ⟨lfe, hle, (hr2 i _ (List.getElem?_eq_getElem hi)).2.2⟩
    · rename_i fs hu
      split at hl <;> try (simp at hl; done)
      rename_i a ha
      split at hl <;> try (simp at hl; done)
      rename_i hal
      simp only [Option.some.injEq] at hl; subst hl
      unfold DataW.trod at h; rw [hu] at h
      simp only at h
      split at h <;> try (simp at h; done)
      rename_i hc
      obtain ⟨xs, h1, _⟩ := Option.map_eq_some_iff.1 h
      obtain ⟨ls, r1, r2⟩ := read_fields (fun t cs x h lfs hl hin => ih t cs x h k lfs hl hin) cs fs.toList 0 xs h1 a ha hin
      refine ⟨ls, ?_, r2.imp fun _ _ => OkV.succ⟩
      rw [hal, ← hc] at r1
      simpa using r1
termination_by n => n

/-- An argument that is a struct. -/
theorem read_arg {W : World} {K : Nat} {T : List TypeId} (hT : goodT P K T = true) {base : Nat} {t : TypeId} {v : Value} {d : DataW H} {ps : List MemPlace} {fs : Array Field} (hu : P.underlying t = some (.struct fs)) {lfs : List Lf}
    (hl : leavesT P K t = some lfs) (hin : lfs.all (inT T) = true) (hval : Value.okWide P W .any base t v) (hd : DataW.Trod enc P W 0 (fun _ => true) true t v d ps) : ∃ ls n, D (X0 W) (.record ls) v ∧ All2 (OkV P K n) lfs ls := by
  obtain ⟨n, hn⟩ := hd
  obtain ⟨ls, h1, h2⟩ := read_ok hT n t _ _ hn K lfs hl hin
  unfold Value.okWide at hval
  rw [hu] at hval
  obtain ⟨cs, rfl, _, _⟩ := hval
  exact ⟨ls, n, by simp only [D]; exact ⟨cs, rfl, by simpa [Value.cells] using h1⟩, h2⟩

theorem lift_list {α : Type} {enc : α → List L} {Ok : α → Prop} : ∀ {rows : List (List L)}, (∀ r ∈ rows, ∃ a, r = enc a ∧ Ok a) → ∃ l : List α, rows = l.map enc ∧ ∀ a ∈ l, Ok a
  | [], _ => ⟨[], rfl, by simp⟩
  | r :: rs, h => by
    obtain ⟨a, rfl, ha⟩ := h r (by simp)
    obtain ⟨l, rfl, hl⟩ := lift_list (rows := rs) fun q hq => h q (by simp [hq])
    refine ⟨a :: l, rfl, fun b hb => ?_⟩
    rcases List.mem_cons.1 hb with rfl | hb
    · exact ha
    · exact hl b hb
theorem wf_i64 {n : Int} (h : (Lit.int .i64 n).wf = true) : -9223372036854775808 ≤ n ∧ n ≤ 9223372036854775807 := by
  simp only [Lit.wf, Bool.and_eq_true, decide_eq_true_eq] at h
  exact h

end Go.Proofs.YtakndgpdolfenaaGreat
end

/- From contracts to what a row asks. -/
section
namespace Go.Proofs.YtakndgpdolfenaaGreat
open Go.ChangeShapes Go.WideShapes Go.ChangeAt Go.RowKit
variable {P : Program} {H : Type} {enc : TypeId × Value → H}

theorem X0_inv (W : World) : Inv (X0 W) [] := ⟨fun _ h => h, by simp, by simp, by simp⟩
theorem kept_le {W : World} {y : X} (h : (X0 W).le y) : W.keptBut y.w (fun _ => False) := by
  refine ⟨h.os, h.output, fun i hi => ?_⟩
  rw [show y.w.heap[i]? = W.heap[i]? from (h.keep i hi).2]
  cases W.heap[i]? with
  | none => rfl
  | some o => cases o <;> simp
theorem sameAt_le {W : World} {y : X} (h : (X0 W).le y) {p : MemPlace} (hb : p.block < W.heap.size) : W.sameAt y.w p := by
  cases p with
  | cell b o => exact h.cell hb
  | map b => exact (h.keep b hb).2
theorem frozen_le {W : World} {y : X} (h : (X0 W).le y) {a : Addr} (hb : a.block < W.heap.size) : y.w.frozen? a = W.frozen? a := by
  unfold World.frozen?
  rw [show y.w.heap[a.block]? = W.heap[a.block]? from (h.keep a.block hb).2]
theorem trodAll_carry {w w' : World} {base : Nat} {sp : Nat → Bool} {hd : Bool} : ∀ {ts : List TypeId} {vs : List Value} {ds : List (DataW H)} {ps : List MemPlace},
    DataW.TrodAll enc P w base sp hd ts vs ds ps → (∀ p ∈ ps, w.sameAt w' p) → DataW.TrodAll enc P w' base sp hd ts vs ds ps
  | [], [], [], _, h, _ => h
  | _ :: _, _ :: _, _ :: _, _, ⟨p, q, ⟨n, h1⟩, h2, e⟩, hs => ⟨p, q, ⟨n, DataW.trod_carry _ _ _ _ h1 fun x hx => hs x (by rw [e]; exact List.mem_append_left _ hx)⟩, trodAll_carry h2 (fun x hx => hs x (by rw [e]; exact List.mem_append_right _ hx)), e⟩
  | [], [], _ :: _, _, h, _ => h.elim
  | [], _ :: _, _, _, h, _ => h.elim
  | _ :: _, [], _, _, h, _ => h.elim
  | _ :: _, _ :: _, [], _, h, _ => h.elim

theorem post_le {f : Func} {s : ChangeSpec} {apart fresh handsOn again : Bool} {W : World} {y : X} {args : Array Value} {v : Value} {ds gs : List (DataW H)} {before : List MemPlace}
    (hl : laidOutB P = true) (hm : mapsRowed P = true) (hz : ∀ t e, t < P.types.size → P.underlying t = some (.slice e) → 0 < P.cellsOf e) (hts : ∀ t ∈ f.params.toList, t < P.types.size)
    (hW : DataW.Whole enc P f.params.toList s.vars apart W args.toList ds gs before) (hvs : s.vars = []) (ha : (s.fn H (ds ++ gs)).args = ds) (hv : (s.fn H (ds ++ gs)).vars = [])
    (hle : (X0 W).le y) (hres : ∀ (b : Nat) (sp : Nat → Bool) (hd : Bool), DataW.TrodAll enc P y.w b sp hd f.resultTypes.toList (v.resultList f.resultTypes.size) (s.fn H (ds ++ gs)).results [])
    (hok : ∀ (j : Nat) (t : TypeId) (r : Value), f.resultTypes[j]? = some t → (v.resultList f.resultTypes.size)[j]? = some r → Value.okWide P y.w .any 0 t r) :
    s.post enc P f apart fresh handsOn again W args v y.w := by
  have hlt := hW.lt
  have hW' := hW
  obtain ⟨p, q, h1, h2, e, h3, h4⟩ := hW
  have hq : q = [] ∧ gs = [] := by
    rw [hvs] at h2
    cases gs with
    | nil => exact ⟨h2, rfl⟩
    | cons _ _ => exact h2.elim
  obtain ⟨rfl, rfl⟩ := hq
  rw [List.append_nil] at e
  subst e
  have hA : ∀ sp : Nat → Bool, (∀ x ∈ before, sp x.block = true) → DataW.TrodAll enc P y.w 0 sp true f.params.toList args.toList (s.fn H (ds ++ [])).args before := fun sp hsp => by
    rw [ha]
    exact trodAll_carry (h1.respare (kids_rows hl hm) hz hts hsp) fun x hx => sameAt_le hle (hlt x hx)
  have hV : ∀ sp : Nat → Bool, DataW.TrodVars enc P y.w sp s.vars (s.fn H (ds ++ [])).vars [] := fun sp => by
    rw [hvs, hv]
    rfl
  refine ⟨ds, [], before, [], before, [], hW', hres _ _ _, hA _ (fun x hx => by simpa using hlt x hx), hV _, World.keptBut_mono (fun _ h => h.elim) (kept_le hle), fun _ => ?_⟩
  refine ⟨hok, _, _, ([] ++ before) ++ [], ⟨[] ++ before, [], trodAll_append (hA _ (fun _ _ => rfl)) (hres _ _ _), hV _, rfl, ?_, ?_⟩, ?_⟩
  · intro b off hp
    simp only [List.nil_append, List.append_nil] at hp
    rw [frozen_le hle (hlt _ hp)]
    exact h3 b off hp
  · intro hap
    simpa using h4 hap
  · intro x hx _
    simpa using hx

/-- A law that answers true. -/
theorem law_of {g : FuncId} {f : Func} {s : ChangeSpec} {apart fresh handsOn again : Bool} {W : World} {args : Array Value} {ds gs : List (DataW H)} {before : List MemPlace} {az : List A} {tb : TypeId}
    (hl : laidOutB P = true) (hm : mapsRowed P = true) (hz : ∀ t e, t < P.types.size → P.underlying t = some (.slice e) → 0 < P.cellsOf e) (hts : ∀ t ∈ f.params.toList, t < P.types.size)
    (hr : f.resultTypes = #[tb]) (hb : P.underlying tb = some .bool)
    (hW : DataW.Whole enc P f.params.toList s.vars apart W args.toList ds gs before) (hvs : s.vars = []) (ha : (s.fn H (ds ++ gs)).args = ds) (hv : (s.fn H (ds ++ gs)).vars = []) (hrs : (s.fn H (ds ++ gs)).results = [.lit (.bool true)])
    (hd : Ds (X0 W) az args.toList) (hc : CallFn P g az (.dat (.bool true))) : Calls P g args W fun e W' => ∃ v, e = .returned v ∧ s.post enc P f apart fresh handsOn again W args v W' := by
  refine (hc.2 (X0 W) args [] (X0_inv W) hd).mono ?_
  rintro _ _ ⟨y, v, r, H', rfl, rfl, hle, _, hvv, rfl, rfl⟩
  simp only [D, RdL] at hvv
  subst hvv
  refine ⟨_, rfl, post_le hl hm hz hts hW hvs ha hv hle ?_ ?_⟩
  · intro b sp hd'
    rw [hrs, hr]
    have ht : DataW.Trod enc P y.w b sp hd' tb (.bool true) (.lit (.bool true)) [] := ⟨1, by simp [DataW.trod, Value.cells, hb]⟩
    exact trodAll_cons_mk ht trodAll_mk0
  · intro j t r h1 h2
    rw [hr] at h1 h2
    cases j with
    | zero =>
      simp only [Array.size_singleton, Value.resultList] at h1 h2
      obtain rfl : t = tb := by simpa using h1.symm
      obtain rfl : r = .bool true := by simpa using h2.symm
      exact okWide_bool_mk hb _
    | succ j => simp at h1

end Go.Proofs.YtakndgpdolfenaaGreat
end

/- What came in, as data: expressions, controls, states. -/
section
namespace Go.Proofs.YtakndgpdolfenaaGreat
open Go.ChangeShapes Go.WideShapes Go.ChangeAt Go.RowKit
set_option maxRecDepth 100000

abbrev tys : List TypeId := [9, 49, 3, 47, 4]
theorem tys_good : goodT Tryz.prog 4 tys = true := by kernel_rfl
abbrev lfE : List Lf := [.int .i64, .int .i64, .sl 47]
abbrev lfS : List Lf := [.str, .int .i64, .int .i64, .int .i64, .sl 47, .int .i64, .int .i64, .sl 47, .int .i64, .bool]
abbrev lfC : List Lf := [.int .i64, .sl 9, .sl 49, .sl 3, .sl 3]
abbrev lfSt : List Lf := [.sl 3, .sl 4, .sl 4, .sl 4, .sl 3]
theorem leavesE : leavesT Tryz.prog 4 47 = some lfE := by kernel_rfl
theorem leavesS : leavesT Tryz.prog 4 49 = some lfS := by kernel_rfl
theorem leavesC : leavesT Tryz.prog 4 26 = some lfC := by kernel_rfl
theorem leavesSt : leavesT Tryz.prog 4 29 = some lfSt := by kernel_rfl
theorem leavesI : leavesT Tryz.prog 4 3 = some [.int .i64] := by kernel_rfl
theorem leavesB : leavesT Tryz.prog 4 4 = some [.bool] := by kernel_rfl
theorem leavesX : leavesT Tryz.prog 4 9 = some [.str] := by kernel_rfl

theorem all1 {R : Lf → L → Prop} {f : Lf} {r : List L} (h : All2 R [f] r) : ∃ l, r = [l] ∧ R f l := by
  rcases r with _ | ⟨a, _ | ⟨b, r⟩⟩ <;> simp only [All2, and_true, and_false] at h
  exact ⟨a, rfl, h⟩
/-- A slice's rows, one by one. -/
theorem lift_sl {α : Type} {enc : α → List L} {Ok : α → Prop} {n : Nat} {e : TypeId} {l : L} (h : OkV Tryz.prog 4 n (.sl e) l) {lfs : List Lf} (he : leavesT Tryz.prog 4 e = some lfs)
    (hr : ∀ m r, n = m + 1 → All2 (OkV Tryz.prog 4 m) lfs r → ∃ a, r = enc a ∧ Ok a) : ∃ xs : List α, l = .sl (xs.map enc) ∧ Sh xs ∧ ∀ a ∈ xs, Ok a := by
  cases n with
  | zero => simp [OkV] at h
  | succ m =>
    simp only [OkV] at h
    obtain ⟨rows, rfl, h1, h2⟩ := h
    obtain ⟨xs, rfl, hx⟩ := lift_list (enc := enc) (Ok := Ok) (rows := rows) fun r hrr => by
      obtain ⟨lfs', h3, h4⟩ := h2 r hrr
      rw [he] at h3
      cases h3
      exact hr m r rfl h4
    exact ⟨xs, rfl, by simpa [maxLen, Sh] using h1, hx⟩
theorem lift_I {n : Nat} {l : L} (h : OkV Tryz.prog 4 n (.sl 3) l) : ∃ xs : List Int, l = .sl (xs.map encI) ∧ Sh xs ∧ ∀ a ∈ xs, I64 a := by
  refine lift_sl (Ok := I64) h leavesI ?_
  intro m r _ hr
  obtain ⟨l, rfl, hl⟩ := all1 hr
  have : ∃ k, l = .int .i64 k ∧ (Lit.int .i64 k).wf = true := by cases m <;> simpa [OkV] using hl
  obtain ⟨k, rfl, hk⟩ := this
  exact ⟨k, rfl, wf_i64 hk⟩
theorem lift_B {n : Nat} {l : L} (h : OkV Tryz.prog 4 n (.sl 4) l) : ∃ xs : List Bool, l = .sl (xs.map encB) ∧ Sh xs := by
  obtain ⟨xs, h1, h2, _⟩ := lift_sl (enc := encB) (Ok := fun _ => True) h leavesB (by
    intro m r _ hr
    obtain ⟨l, rfl, hl⟩ := all1 hr
    have : ∃ k, l = .bool k := by cases m <;> simpa [OkV] using hl
    obtain ⟨k, rfl⟩ := this
    exact ⟨k, rfl, trivial⟩)
  exact ⟨xs, h1, h2⟩
theorem lift_T {n : Nat} {l : L} (h : OkV Tryz.prog 4 n (.sl 9) l) : ∃ xs : List (List UInt8), l = .sl (xs.map encT) ∧ Sh xs ∧ ∀ a ∈ xs, Sh a := by
  refine lift_sl (Ok := fun s : List UInt8 => Sh s) h leavesX ?_
  intro m r _ hr
  obtain ⟨l, rfl, hl⟩ := all1 hr
  have : ∃ s, l = .str s ∧ s.length ≤ maxLen := by cases m <;> simpa [OkV] using hl
  obtain ⟨s, rfl, hs⟩ := this
  exact ⟨s, rfl, by simpa [maxLen, Sh] using hs⟩
theorem ok_int {n : Nat} {l : L} (h : OkV Tryz.prog 4 n (.int .i64) l) : ∃ k, l = .int .i64 k ∧ I64 k := by
  have : ∃ k, l = .int .i64 k ∧ (Lit.int .i64 k).wf = true := by cases n <;> simpa [OkV] using h
  obtain ⟨k, rfl, hk⟩ := this
  exact ⟨k, rfl, wf_i64 hk⟩
theorem ok_bool {n : Nat} {l : L} (h : OkV Tryz.prog 4 n .bool l) : ∃ k, l = .bool k := by cases n <;> simpa [OkV] using h
theorem ok_str {n : Nat} {l : L} (h : OkV Tryz.prog 4 n .str l) : ∃ s, l = .str s ∧ Sh s := by
  have : ∃ s, l = .str s ∧ s.length ≤ maxLen := by cases n <;> simpa [OkV] using h
  obtain ⟨s, rfl, hs⟩ := this
  exact ⟨s, rfl, by simpa [maxLen, Sh] using hs⟩

theorem lift_E : ∀ (n : Nat) (r : List L), All2 (OkV Tryz.prog 4 n) lfE r → ∃ x : Expr, r = encE x ∧ OkE x
  | n, r, h => by
    rcases r with _ | ⟨a, _ | ⟨b, _ | ⟨c, _ | ⟨d, r⟩⟩⟩⟩ <;> simp only [All2, and_true, and_false] at h
    obtain ⟨h1, h2, h3⟩ := h
    obtain ⟨k1, rfl, i1⟩ := ok_int h1
    obtain ⟨k2, rfl, i2⟩ := ok_int h2
    obtain ⟨xs, rfl, s1, s2⟩ := lift_sl (enc := encE) (Ok := OkE) h3 leavesE (by
      intro m r e hr
      exact lift_E m r hr)
    exact ⟨⟨k1, k2, xs⟩, by simp [encE], OkE.mk _ s1 ((inR_i64 _).2 i1) ((inR_i64 _).2 i2) s2⟩
termination_by n => n
decreasing_by omega
theorem lift_El {n : Nat} {l : L} (h : OkV Tryz.prog 4 n (.sl 47) l) : ∃ xs : List Expr, l = .sl (xs.map encE) ∧ Sh xs ∧ ∀ a ∈ xs, OkE a :=
  lift_sl h leavesE fun m r _ hr => lift_E m r hr

theorem lift_S {n : Nat} {r : List L} (h : All2 (OkV Tryz.prog 4 n) lfS r) : ∃ x : Signal, r = encS x ∧ OkS x := by
  rcases r with _ | ⟨a0, _ | ⟨a1, _ | ⟨a2, _ | ⟨a3, _ | ⟨a4, _ | ⟨a5, _ | ⟨a6, _ | ⟨a7, _ | ⟨a8, _ | ⟨a9, _ | ⟨a10, r⟩⟩⟩⟩⟩⟩⟩⟩⟩⟩⟩ <;> simp only [All2, and_true, and_false] at h
  obtain ⟨h0, h1, h2, h3, h4, h5, h6, h7, h8, h9⟩ := h
  obtain ⟨s, rfl, j0⟩ := ok_str h0
  obtain ⟨k1, rfl, j1⟩ := ok_int h1
  obtain ⟨k2, rfl, j2⟩ := ok_int h2
  obtain ⟨k3, rfl, j3⟩ := ok_int h3
  obtain ⟨x4, rfl, s4, e4⟩ := lift_El h4
  obtain ⟨k5, rfl, j5⟩ := ok_int h5
  obtain ⟨k6, rfl, j6⟩ := ok_int h6
  obtain ⟨x7, rfl, s7, e7⟩ := lift_El h7
  obtain ⟨k8, rfl, j8⟩ := ok_int h8
  obtain ⟨b9, rfl⟩ := ok_bool h9
  exact ⟨⟨s, k1, ⟨k2, k3, x4⟩, ⟨k5, k6, x7⟩, k8, b9⟩, rfl, ⟨j0, j1, OkE.mk _ s4 ((inR_i64 _).2 j2) ((inR_i64 _).2 j3) e4, OkE.mk _ s7 ((inR_i64 _).2 j5) ((inR_i64 _).2 j6) e7, j8⟩⟩
theorem lift_C {n : Nat} {r : List L} (h : All2 (OkV Tryz.prog 4 n) lfC r) : ∃ c : Control, r = encC c ∧ OkC c := by
  rcases r with _ | ⟨a0, _ | ⟨a1, _ | ⟨a2, _ | ⟨a3, _ | ⟨a4, _ | ⟨a5, r⟩⟩⟩⟩⟩⟩ <;> simp only [All2, and_true, and_false] at h
  obtain ⟨h0, h1, h2, h3, h4⟩ := h
  obtain ⟨k0, rfl, j0⟩ := ok_int h0
  obtain ⟨x1, rfl, s1, e1⟩ := lift_T h1
  obtain ⟨x2, rfl, s2, e2⟩ := lift_sl (enc := encS) (Ok := OkS) h2 leavesS fun m r _ hr => lift_S hr
  obtain ⟨x3, rfl, s3, e3⟩ := lift_I h3
  obtain ⟨x4, rfl, s4, e4⟩ := lift_I h4
  exact ⟨⟨k0, x1, x2, x3, x4⟩, rfl, ⟨j0, s1, e1, s2, e2, s3, s4, e3, e4⟩⟩
theorem lift_St {n : Nat} {r : List L} (h : All2 (OkV Tryz.prog 4 n) lfSt r) : ∃ s : State, r = encSt s ∧ OkSt s := by
  rcases r with _ | ⟨a0, _ | ⟨a1, _ | ⟨a2, _ | ⟨a3, _ | ⟨a4, _ | ⟨a5, r⟩⟩⟩⟩⟩⟩ <;> simp only [All2, and_true, and_false] at h
  obtain ⟨h0, h1, h2, h3, h4⟩ := h
  obtain ⟨x0, rfl, s0, e0⟩ := lift_I h0
  obtain ⟨x1, rfl, s1⟩ := lift_B h1
  obtain ⟨x2, rfl, s2⟩ := lift_B h2
  obtain ⟨x3, rfl, s3⟩ := lift_B h3
  obtain ⟨x4, rfl, s4, e4⟩ := lift_I h4
  exact ⟨⟨x0, x1, x2, x3, x4⟩, rfl, ⟨s0, s1, s2, s3, s4, e0, e4⟩⟩

theorem read_C {H : Type} {enc : TypeId × Value → H} {W : World} {base : Nat} {v : Value} {d : DataW H} {ps : List MemPlace} (hv : Value.okWide Tryz.prog W .any base 26 v) (hd : DataW.Trod enc Tryz.prog W 0 (fun _ => true) true 26 v d ps) :
    ∃ c : Control, D (X0 W) (aC c) v ∧ OkC c := by
  have h0 : lfC.all (inT tys) = true := by decide
  obtain ⟨ls, n, h1, h2⟩ := read_arg tys_good Tryz.underlying26 leavesC h0 hv hd
  obtain ⟨c, rfl, hc⟩ := lift_C h2
  exact ⟨c, h1, hc⟩
theorem read_St {H : Type} {enc : TypeId × Value → H} {W : World} {base : Nat} {v : Value} {d : DataW H} {ps : List MemPlace} (hv : Value.okWide Tryz.prog W .any base 29 v) (hd : DataW.Trod enc Tryz.prog W 0 (fun _ => true) true 29 v d ps) :
    ∃ s : State, D (X0 W) (aSt s) v ∧ OkSt s := by
  have h0 : lfSt.all (inT tys) = true := by decide
  obtain ⟨ls, n, h1, h2⟩ := read_arg tys_good Tryz.underlying29 leavesSt h0 hv hd
  obtain ⟨c, rfl, hc⟩ := lift_St h2
  exact ⟨c, h1, hc⟩
theorem facts : laidOutB Tryz.prog = true ∧ mapsRowed Tryz.prog = true ∧ ∀ t e, t < (Tryz.prog).types.size → (Tryz.prog).underlying t = some (.slice e) → 0 < (Tryz.prog).cellsOf e :=
  ⟨by kernel_rfl, by kernel_rfl, slices_full_of _ (by kernel_rfl)⟩

end Go.Proofs.YtakndgpdolfenaaGreat
end
