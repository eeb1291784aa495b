/- Texts joined by a program: Ya, Yb, Yc, Yd, Za, Zb, Ye, Yf, Yg, Yh, Yi. -/
import Derived.Test.YthlpelkcmmaokaaGreatP3
import Derived.Test.YthlpelkcmmaokaaGreatPX
import Derived.Test.YthlpelkcmmaokaaGreatP2
set_option linter.unusedSimpArgs false
set_option linter.unusedVariables false

/- Contracts: the small functions of reduce and its reference: roots of lines. -/
section
namespace Go.Proofs.YthlpelkcmmaokaaGreat
set_option maxHeartbeats 4000000
set_option maxRecDepth 10000

theorem firstQ_fn (c : Control) (h : Sm c) : CallFn Tryz.prog 49 [aC c] (aI (firstC c)) := by
  obtain ⟨h1, h2, h3⟩ := h
  refine callFz_of Tryz.func49 rfl Tryz.ntmps49 (rs := [.tmp 2]) rfl (by kernel_rfl) (by simp) (by kernel_rfl) ?_
  simp [firstC]
  omega
theorem linesQ_fn (c : Control) (h : Sm c) : CallFn Tryz.prog 42 [aC c] (aI (countC c)) := by
  refine callFz_of Tryz.func42 rfl Tryz.ntmps42 (rs := [.tmp 2]) rfl (by kernel_rfl) (by simp) (by kernel_rfl) ?_
  simp
  refine V.drawX (fun s => if s = 4 then some (.fn (aI (firstC c))) else none) (by kernel_rfl) (by kernel_rfl) (by simp) ?_
  have := firstQ_fn c h
  obtain ⟨h1, h2, h3⟩ := h
  simp [reads, firstC, countC]
  simp [firstC] at this
  exact ⟨this, by omega, by omega⟩

/-- What a gate repeats, and whether it does. -/
def repP (c : Control) (line : Int) : Int × Bool := if line < firstC c then (0, false) else match c.signals[(line - firstC c).toNat]? with
  | some x => (x.on.index, x.kind == 0 && x.on.op == 1)
  | none => (0, false)
theorem repeats_fn (c : Control) (line : Int) (hs : Sm c) (h0 : 0 ≤ firstC c) (hl : 0 ≤ line ∧ line < countC c) : CallFn Tryz.prog 80 [aC c, aI line] (.tuple [aI (repP c line).1, aB (repP c line).2]) := by
  have c1 := firstQ_fn c hs
  have hcn : countC c = firstC c + c.signals.length := rfl
  obtain ⟨h1, h2, h3⟩ := hs
  refine callFz_of Tryz.func80 rfl Tryz.ntmps80 (rs := [.tmp 4, .tmp 5]) rfl (by kernel_rfl) (by simp) (by kernel_rfl) ?_
  simp
  refine c1.s ?_
  unfold repP
  by_cases h : line < firstC c
  · simp [h]
  · obtain ⟨i, hi⟩ : ∃ i : Nat, line - firstC c = i := ⟨(line - firstC c).toNat, by omega⟩
    have hil : i < c.signals.length := by omega
    have hx : c.signals[i]? = some c.signals[i] := List.getElem?_eq_getElem hil
    simp [h]
    refine V.drawX (fun s => if s = 15 then some (.fn (aI (firstC c))) else none) (by kernel_rfl) (by kernel_rfl) (by simp) ?_
    simp [hi, hil, hx]
    refine ⟨c1, by omega, fun b => ⟨by kernel_rfl, ?_⟩⟩
    refine V.drawX (fun _ => none) (by kernel_rfl) (by kernel_rfl) (by simp) ?_
    simp [h, hi, hx]

/-! ### Roots -/
def rootN (c : Control) : Nat → Int → Int
  | 0, l => l
  | k + 1, l => if (repP c l).2 = true then rootN c k (repP c l).1 else l
def rootP (c : Control) (l : Int) : Int := rootN c (c.signals.length + 1) l
/-- How far a line is from its root, at most. -/
def farL (c : Control) (l : Int) : Nat := if firstC c ≤ l ∧ kindAt c (l - firstC c) = 0 then (l - firstC c).toNat + 1 else 0
theorem rep_far {c : Control} (hf : Fine c) {l : Int} (hl : 0 ≤ l ∧ l < countC c) (h : (repP c l).2 = true) : 0 ≤ (repP c l).1 ∧ (repP c l).1 < countC c ∧ farL c (repP c l).1 < farL c l := by
  have h0 : 0 ≤ firstC c := by have := hf.act; unfold firstC; omega
  have hcn : countC c = firstC c + c.signals.length := rfl
  unfold repP at h ⊢
  by_cases h1 : l < firstC c
  · rw [if_pos h1] at h; cases h
  · rw [if_neg h1] at h ⊢
    obtain ⟨i, hi⟩ : ∃ i : Nat, l - firstC c = i := ⟨(l - firstC c).toNat, by omega⟩
    have hil : i < c.signals.length := by omega
    have hx : c.signals[i]? = some c.signals[i] := List.getElem?_eq_getElem hil
    rw [hi, Int.toNat_natCast, hx] at h ⊢
    generalize c.signals[i] = x at *
    simp only [Bool.and_eq_true, beq_iff_eq] at h ⊢
    have hv := vars_check (hf.on hx).1 x.on.index (by rw [varsE_eq]; simp [h.2])
    have hlate := late_not hf hx h.1 x.on.index (by rw [varsE_eq]; simp [h.2])
    refine ⟨hv.1, hv.2, ?_⟩
    have hk : kindAt c (l - firstC c) = 0 := by rw [hi]; simp [kindAt, hx, h.1]
    unfold farL
    rw [if_pos (show firstC c ≤ l ∧ kindAt c (l - firstC c) = 0 from ⟨by omega, hk⟩)]
    split
    · rename_i h2
      rcases hlate with h3 | h3
      · omega
      · exact absurd h2.2 h3
    · omega
theorem far_zero {c : Control} (h0 : 0 ≤ firstC c) {l : Int} (h : farL c l = 0) (hl : l < countC c) : (repP c l).2 = false := by
  have hcn : countC c = firstC c + c.signals.length := rfl
  unfold farL at h
  unfold repP
  by_cases h1 : l < firstC c
  · rw [if_pos h1]
  · rw [if_neg h1]
    split at h
    · omega
    · rename_i h2
      obtain ⟨i, hi⟩ : ∃ i : Nat, l - firstC c = i := ⟨(l - firstC c).toNat, by omega⟩
      have hx : c.signals[i]? = some c.signals[i] := List.getElem?_eq_getElem (by omega)
      rw [hi, Int.toNat_natCast, hx]
      rw [hi] at h2
      simp only [kindAt, Int.toNat_natCast, hx, Option.map_some, Option.getD_some] at h2
      have : ¬ c.signals[i].kind = 0 := fun e => h2 ⟨by omega, e⟩
      simp [this]
theorem far_le {c : Control} (h0 : 0 ≤ firstC c) {l : Int} (hl : l < countC c) : farL c l ≤ c.signals.length := by
  have hcn : countC c = firstC c + c.signals.length := rfl
  unfold farL
  split <;> omega
theorem root_more {c : Control} (hf : Fine c) : ∀ (k : Nat) (l : Int), 0 ≤ l ∧ l < countC c → farL c l ≤ k → ∀ m, k ≤ m → rootN c m l = rootN c k l
  | 0, l, hl, hk, m, _ => by
    have h0 : 0 ≤ firstC c := by have := hf.act; unfold firstC; omega
    have := far_zero h0 (by omega) hl.2
    cases m with
    | zero => rfl
    | succ m => simp [rootN, this]
  | k + 1, l, hl, hk, m, hm => by
    obtain ⟨m, rfl⟩ : ∃ m', m = m' + 1 := ⟨m - 1, by omega⟩
    simp only [rootN]
    split
    · rename_i h
      obtain ⟨a, b, d⟩ := rep_far hf hl h
      exact root_more hf k _ ⟨a, b⟩ (by omega) m (by omega)
    · rfl
/-- A step towards the root. -/
theorem root_step {c : Control} (hf : Fine c) {l : Int} (hl : 0 ≤ l ∧ l < countC c) : rootP c l = if (repP c l).2 = true then rootP c (repP c l).1 else l := by
  have h0 : 0 ≤ firstC c := by have := hf.act; unfold firstC; omega
  unfold rootP
  conv => lhs; simp only [rootN]
  split
  · rename_i h
    obtain ⟨a, b, d⟩ := rep_far hf hl h
    exact (root_more hf _ _ ⟨a, b⟩ (far_le h0 b) _ (Nat.le_succ _)).symm
  · rfl
theorem root_range {c : Control} (hf : Fine c) : ∀ (k : Nat) (l : Int), farL c l ≤ k → 0 ≤ l ∧ l < countC c → (0 ≤ rootP c l ∧ rootP c l < countC c) ∧ (repP c (rootP c l)).2 = false := by
  intro k
  induction k with
  | zero =>
    intro l hk hl
    have h0 : 0 ≤ firstC c := by have := hf.act; unfold firstC; omega
    have := far_zero h0 (by omega) hl.2
    rw [root_step hf hl, if_neg (by simp [this])]
    exact ⟨hl, this⟩
  | succ k ih =>
    intro l hk hl
    rw [root_step hf hl]
    by_cases h : (repP c l).2 = true
    · rw [if_pos h]
      obtain ⟨a, b, d⟩ := rep_far hf hl h
      exact ih _ (by omega) ⟨a, b⟩
    · rw [if_neg h]
      exact ⟨hl, by simpa using h⟩
theorem root_fn (c : Control) (line : Int) (hf : Fine c) (hl : 0 ≤ line ∧ line < countC c) : CallFn Tryz.prog 43 [aC c, aI line] (aI (rootP c line)) := by
  have h0 : 0 ≤ firstC c := by have := hf.act; unfold firstC; omega
  refine callFz_of Tryz.func43 rfl Tryz.ntmps43 (rs := [.tmp 4]) rfl (by kernel_rfl) (by simp) (by kernel_rfl) ?_
  simp
  refine V.for' [2] (fun l : Int => [(1, aI l), (4, aI 0)]) (fun _ => []) (fun l => (0 ≤ l ∧ l < countC c) ∧ rootP c l = rootP c line) (fun l => farL c l) line ⟨⟨hl, rfl⟩, by simp, subP.refl _⟩ ?_
  rintro l ⟨hr, he⟩
  have c1 := repeats_fn c l hf.sm h0 hr
  have hst := root_step hf hr
  have hfar := rep_far hf hr
  generalize repP c l = p at *
  obtain ⟨m, b⟩ := p
  simp
  refine c1.s ?_
  cases b
  · simp at hst ⊢
    rw [← he, hst]
  · simp at hst hfar ⊢
    exact ⟨m, ⟨⟨hfar.1, hfar.2.1⟩, by rw [← he, hst]⟩, hfar.2.2, rfl, subP.refl _⟩

end Go.Proofs.YthlpelkcmmaokaaGreat
end

/- Contracts: expressions with other variables. -/
section
namespace Go.Proofs.YthlpelkcmmaokaaGreat
set_option maxHeartbeats 4000000
set_option maxRecDepth 10000

def noneV : Int := -1099511627776
mutual
/-- An expression with other variables. -/
def repE : Expr → List Int → Expr
  | ⟨op, ix, args⟩, l => if op = 1 then ⟨1, l.getD ix.toNat 0, []⟩ else ⟨op, ix, repL args l⟩
def repL : List Expr → List Int → List Expr
  | [], _ => []
  | x :: xs, l => repE x l :: repL xs l
end
mutual
/-- Are all of them told? -/
def okV : Expr → List Int → Bool
  | ⟨op, ix, args⟩, l => if op = 1 then l.getD ix.toNat 0 != noneV else okVs args l
def okVs : List Expr → List Int → Bool
  | [], _ => true
  | x :: xs, l => okV x l && okVs xs l
end
theorem repE_eq (x : Expr) (l : List Int) : repE x l = if x.op = 1 then ⟨1, l.getD x.index.toNat 0, []⟩ else ⟨x.op, x.index, repL x.args l⟩ := by cases x; simp [repE]
theorem okV_eq (x : Expr) (l : List Int) : okV x l = if x.op = 1 then l.getD x.index.toNat 0 != noneV else okVs x.args l := by cases x; simp [okV]
theorem repL_map (l : List Int) : ∀ xs : List Expr, repL xs l = xs.map fun x => repE x l
  | [] => rfl
  | x :: xs => by simp [repL, repL_map l xs]
theorem okVs_all (l : List Int) : ∀ xs : List Expr, okVs xs l = xs.all fun x => okV x l
  | [] => rfl
  | x :: xs => by simp [okVs, okVs_all l xs]
abbrev rX (x : Expr) : List A := (encE x).map A.dat

theorem all_take {α : Type} {p : α → Bool} {l : List α} {i : Nat} {a : α} (h : l[i]? = some a) : (l.take (i + 1)).all p = ((l.take i).all p && p a) := by
  rw [List.take_add_one, h]
  simp
theorem node_len {x : Expr} {n : Int} (h : nodeR x n = 0) : x.args.length ≤ 256 := by
  have h0 := node_op h
  unfold nodeR at h
  by_cases h1 : x.op < 0 ∨ x.op ≥ 5
  · rw [if_pos h1] at h; cases h
  · rw [if_neg h1] at h
    simp only at h
    by_cases h2 : x.op ≤ 1
    · simp only [h2, if_true] at h
      by_cases h3 : (x.args.length : Int) < 0 ∨ (x.args.length : Int) > 0
      · rw [if_pos h3] at h; cases h
      · omega
    · by_cases h4 : x.op = 2
      · obtain ⟨y, hy⟩ := h0.2.2.2.2 h4
        simp [hy]
      · simp only [h2, h4, if_false] at h
        by_cases h3 : (x.args.length : Int) < 2 ∨ (x.args.length : Int) > 256
        · rw [if_pos h3] at h; cases h
        · omega
theorem rowsD_X (xs : List Expr) : rowsD (xs.map rX) = xs.map encE := by
  unfold rowsD rX
  rw [List.map_map]
  apply List.map_congr_left
  intro x _
  simp only [Function.comp, List.map_map]
  have : (unD ∘ A.dat) = id := rfl
  rw [this, List.map_id]
theorem allD_X (xs : List Expr) : allD (xs.map rX) = true := by
  simp [allD, rX, isD]
theorem replaced_fn (l : List Int) (hl : l.length ≤ 1000000) : ∀ (N : Nat) (x : Expr), SizeOf.sizeOf x < N → OkE x → RightE l.length x → CallFn Tryz.prog 52 [aE x, aIs l] (.tuple [aE (repE x l), aB (okV x l)])
  | 0, _, h, _, _ => absurd h (Nat.not_lt_zero _)
  | N + 1, x, hN, hx, hr => by
    obtain ⟨n1, n2, n3, n4, n5⟩ := node_op hr.node
    have hlen := node_len hr.node
    rw [repE_eq, okV_eq]
    refine callFz_of Tryz.func52 rfl Tryz.ntmps52 (rs := [.cell 4 74, .tmp 5]) rfl (by kernel_rfl) (by simp) (by kernel_rfl) ?_
    simp
    intro b4 b6
    by_cases hop : x.op = 1
    · obtain ⟨k1, k2⟩ := n4 hop
      obtain ⟨i, hi⟩ : ∃ i : Nat, x.index = i := ⟨x.index.toNat, by omega⟩
      have hil : i < l.length := by omega
      obtain ⟨v, hv⟩ : ∃ v, l[i]? = some v := ⟨_, List.getElem?_eq_getElem hil⟩
      simp [hop, hi, hv, hil]
      refine V.drawX (fun _ => none) (by kernel_rfl) (by kernel_rfl) (by simp) ?_
      simp [noneV, hop, hi, hv, hil]
    · have ih : ∀ y ∈ x.args, CallFn Tryz.prog 52 [aE y, aIs l] (.tuple [aE (repE y l), aB (okV y l)]) := fun y hy => replaced_fn l hl N y (by have := Expr.lt_of_mem hy; omega) (hx.args y hy) (hr.args y hy)
      rw [repL_map, okVs_all]
      simp [hop]
      refine V.forI (σ := Value) x.args.length [1, 4, 5, 6, 31, 32] (by simp; exact rfl) (fun i _ => [(7, aB ((x.args.take i).all fun y => okV y l)), (33, aI i)])
        (fun i h => if i = 0 then [(6, .box b6 [.dat (.int .i64 x.op), .dat (.int .i64 x.index), .nils])] else [(6, .box b6 [.dat (.int .i64 x.op), .dat (.int .i64 x.index), .own 47 h]), (47, .seq h 74 3 ((x.args.take i).map fun y => rX (repE y l)))])
        (fun _ _ => True) (.slice none 0 0) trivial (by simp) ⟨by simp; exact rfl, by simp⟩ ?_ ?_
      · rintro i h hi -
        obtain ⟨y, hy⟩ : ∃ y, x.args[i] = y := ⟨_, rfl⟩
        have hyo : x.args[i]? = some y := by rw [List.getElem?_eq_getElem hi, hy]
        have hmem : y ∈ x.args := List.mem_of_getElem? hyo
        have ihy := ih y hmem
        rw [all_take hyo, List.take_add_one, hyo]
        generalize ((x.args.take i).all fun y => okV y l) = b1 at *
        generalize okV y l = b2 at *
        cases i with
        | zero =>
          simp [hi, hy, encE_eq]
          intro b9
          refine ihy.s ?_
          simp
          simp [rX, encE_eq]
        | succ i =>
          have hi2 : (i : Int) + 1 < x.args.length := by omega
          have hi3 : (0 : Int) ≤ (i : Int) + 1 := by omega
          simp [hi, hi2, hi3, hy, encE_eq]
          intro b9
          refine ihy.s ?_
          simp
          exact ⟨by omega, by omega, by simp [rX, encE_eq]⟩
      · rintro h -
        rw [List.take_length]
        by_cases h0 : x.args.length = 0
        · have hnil : x.args = [] := List.length_eq_zero_iff.1 h0
          simp [h0, hnil, hop]
        · have e1 : (x.args.map fun y => rX (repE y l)) = (x.args.map fun y => repE y l).map rX := by rw [List.map_map]; rfl
          rw [e1]
          generalize (x.args.map fun y => repE y l) = ys
          have e2 := rowsD_X ys
          have e3 := allD_X ys
          generalize ys.map rX = rows at *
          simp [h0, hop, e2, e3]

end Go.Proofs.YthlpelkcmmaokaaGreat
end

/- Contracts: the reference's roots; Root. -/
section
namespace Go.Proofs.YthlpelkcmmaokaaGreat
set_option maxHeartbeats 4000000
set_option maxRecDepth 10000

end Go.Proofs.YthlpelkcmmaokaaGreat
end

/- Plain laws: the classes of lines. -/
section
namespace Go.Proofs.YthlpelkcmmaokaaGreat
set_option maxHeartbeats 1000000

/-! ### Equal expressions -/
theorem allEq_iff {α : Type} {f : α → α → Bool} : ∀ {us ws : List α}, (∀ a ∈ us, ∀ b, f a b = true ↔ a = b) → (allEq f us ws = true ↔ us = ws)
  | [], [], _ => by simp [allEq]
  | [], _ :: _, _ => by simp [allEq]
  | _ :: _, [], _ => by simp [allEq]
  | u :: us, w :: ws, h => by
    have ih := allEq_iff (us := us) (ws := ws) fun a ha => h a (by simp [ha])
    simp only [allEq, Bool.and_eq_true, ih, h u (by simp), List.cons.injEq]
theorem eqE_iff : ∀ (N : Nat) (x : Expr), SizeOf.sizeOf x < N → ∀ y, eqE x y = true ↔ x = y
  | 0, _, h, _ => absurd h (Nat.not_lt_zero _)
  | N + 1, x, hN, y => by
    rw [eqE_eq]
    have h := allEq_iff (us := x.args) (ws := y.args) fun a ha => eqE_iff N a (by have := Expr.lt_of_mem ha; omega)
    simp only [Bool.and_eq_true, beq_iff_eq, h]
    cases x; cases y
    simp
    constructor
    · rintro ⟨⟨a, b⟩, d⟩; exact ⟨a, b, d⟩
    · rintro ⟨a, b, d⟩; exact ⟨⟨a, b⟩, d⟩
theorem eqE_true (x y : Expr) : eqE x y = true ↔ x = y := eqE_iff _ x (Nat.lt_succ_self _) y
theorem node_var {x : Expr} {n : Int} (h : nodeR x n = 0) (ho : x.op = 1) : x.args = [] := by
  unfold nodeR at h
  simp [ho] at h
  split at h
  · cases h
  · rename_i h3
    exact List.length_eq_zero_iff.1 (by omega)
theorem rep_size {n : Int} (l : List Int) : ∀ (N : Nat) (x : Expr), SizeOf.sizeOf x < N → RightE n x → szE (repE x l) = szE x ∧ dpE (repE x l) = dpE x
  | 0, _, h, _ => absurd h (Nat.not_lt_zero _)
  | N + 1, x, hN, hr => by
    have hL : ∀ xs : List Expr, (∀ y ∈ xs, y ∈ x.args) → szL (repL xs l) = szL xs ∧ dpL (repL xs l) = dpL xs := by
      intro xs
      induction xs with
      | nil => intro _; exact ⟨rfl, rfl⟩
      | cons y xs ih =>
        intro h
        have hy := h y (by simp)
        have h1 := rep_size l N y (by have := Expr.lt_of_mem hy; omega) (hr.args y hy)
        have h2 := ih fun z hz => h z (by simp [hz])
        simp only [repL, szL, dpL, h1, h2]
        trivial
    rw [repE_eq]
    by_cases ho : x.op = 1
    · rw [if_pos ho, szE_eq, dpE_eq, szE_eq x, dpE_eq x, node_var hr.node ho]
      exact ⟨rfl, rfl⟩
    · rw [if_neg ho, szE_eq, dpE_eq, szE_eq x, dpE_eq x]
      have := hL x.args fun _ h => h
      exact ⟨by rw [this.1], by rw [this.2]⟩
theorem rep_light {n : Int} {l : List Int} {x : Expr} (h : RightE n x) : lightE (repE x l) = lightE x := by
  have h1 := rep_size l _ x (Nat.lt_succ_self _) h
  have h2 := light_iff (repE x l)
  rw [h1.1, h1.2, ← light_iff] at h2
  cases h3 : lightE (repE x l) <;> cases h4 : lightE x <;> simp_all
theorem rep_ok {l : List Int} (hl : ∀ v ∈ l, I64 v) : ∀ (N : Nat) (x : Expr), SizeOf.sizeOf x < N → OkE x → OkE (repE x l)
  | 0, _, h, _ => absurd h (Nat.not_lt_zero _)
  | N + 1, x, hN, hx => by
    rw [repE_eq]
    have ho : inR .i64 x.op := by cases hx; assumption
    have hi : inR .i64 x.index := by cases hx; assumption
    split
    · refine .mk _ (by simp) (by rename_i h; rw [← h]; exact ho) ?_ (by intro a ha; cases ha)
      refine (inR_i64 _).2 ?_
      show I64 (l.getD x.index.toNat 0)
      rcases Nat.lt_or_ge x.index.toNat l.length with h | h
      · rw [List.getD_eq_getElem?_getD, List.getElem?_eq_getElem h]
        exact hl _ (List.getElem_mem h)
      · rw [List.getD_eq_getElem?_getD, List.getElem?_eq_none h]
        exact ⟨by decide, by decide⟩
    · refine .mk _ ?_ ho hi ?_
      · simp only [repL_map, List.length_map]
        exact hx.len
      · intro a ha
        simp only [repL_map, List.mem_map] at ha
        obtain ⟨y, hy, rfl⟩ := ha
        exact rep_ok hl N y (by have := Expr.lt_of_mem hy; omega) (hx.args y hy)

/-! ### What lines look like -/
structure Look where
  kind : Int
  delay : Int
  init : Bool
  old : Int
  on : Option Expr
  off : Option Expr
def lookK (o : Option (List Int)) (l : Int) (x : Signal) : Look := ⟨x.kind, x.delay, x.init, match o with
  | none => 0
  | some old => old.getD l.toNat 0, o.map (repE x.on), o.map (repE x.off)⟩
/-- What the signal number n looks like. -/
def idK (c : Control) (o : Option (List Int)) (n : Nat) : Option Look := (c.signals[n]?).map (lookK o (firstC c + n))
/-- Is it its own root? -/
def ownQ (c : Control) (n : Nat) : Prop := rootP c (firstC c + n) = firstC c + n
/-- The first root that looks like it. -/
noncomputable def leadN (c : Control) (o : Option (List Int)) (n : Nat) : Nat := ((List.range n).find? fun j => @decide (ownQ c j ∧ idK c o j = idK c o n) (Classical.propDecidable _)).getD n
theorem lead_spec (c : Control) (o : Option (List Int)) (n : Nat) : leadN c o n ≤ n ∧ (leadN c o n < n → ownQ c (leadN c o n)) ∧ idK c o (leadN c o n) = idK c o n ∧ ∀ j, j < leadN c o n → ownQ c j → idK c o j ≠ idK c o n := by
  unfold leadN
  cases h : (List.range n).find? fun j => @decide (ownQ c j ∧ idK c o j = idK c o n) (Classical.propDecidable _) with
  | none =>
    rw [List.find?_range_eq_none] at h
    refine ⟨Nat.le_refl _, fun h => absurd h (Nat.lt_irrefl _), rfl, fun j hj ho e => ?_⟩
    have := h j hj
    simp [ho, e] at this
  | some i =>
    rw [List.find?_range_eq_some] at h
    obtain ⟨h1, h2, h3⟩ := h
    simp at h1 h2
    refine ⟨Nat.le_of_lt h2, fun _ => h1.1, h1.2, fun j hj ho e => ?_⟩
    have := h3 j hj
    simp [ho, e] at this
theorem lead_is {c : Control} {o : Option (List Int)} {n m : Nat} (h1 : m ≤ n) (h2 : m < n → ownQ c m) (h3 : idK c o m = idK c o n) (h4 : ∀ j, j < m → ownQ c j → idK c o j ≠ idK c o n) : leadN c o n = m := by
  obtain ⟨a, b, d, e⟩ := lead_spec c o n
  rcases Nat.lt_trichotomy (leadN c o n) m with h | h | h
  · exact absurd d (h4 _ h (b (by omega)))
  · exact h
  · exact absurd h3 (e m h (h2 (by omega)))
theorem lead_own {c : Control} {o : Option (List Int)} {n : Nat} (h : ownQ c n) : ownQ c (leadN c o n) := by
  obtain ⟨a, b, d, e⟩ := lead_spec c o n
  rcases Nat.lt_or_ge (leadN c o n) n with h1 | h1
  · exact b h1
  · rwa [show leadN c o n = n by omega]
theorem lead_lead (c : Control) (o : Option (List Int)) (n : Nat) : leadN c o (leadN c o n) = leadN c o n := by
  obtain ⟨a, b, d, e⟩ := lead_spec c o n
  refine lead_is (Nat.le_refl _) (fun h => absurd h (Nat.lt_irrefl _)) rfl fun j hj ho h => e j hj ho (h.trans d)
theorem lead_same {c : Control} {o : Option (List Int)} {n m : Nat} (h : idK c o m = idK c o n) (hm : ownQ c m) (hn : ownQ c n) : leadN c o m = leadN c o n := by
  obtain ⟨a, b, d, e⟩ := lead_spec c o n
  obtain ⟨a', b', d', e'⟩ := lead_spec c o m
  have o1 := lead_own (o := o) hn
  have o2 := lead_own (o := o) hm
  rcases Nat.lt_trichotomy (leadN c o m) (leadN c o n) with h1 | h1 | h1
  · exact absurd (d'.trans h) (e _ h1 o2)
  · exact h1
  · exact absurd (d.trans h.symm) (e' _ h1 o1)

/-! ### The lines' classes, divided once -/
noncomputable def divL (c : Control) (o : Option (List Int)) (k : Int) : Int := if rootP c k < firstC c then rootP c k else firstC c + leadN c o (rootP c k - firstC c).toNat
noncomputable def divP (c : Control) (o : Option (List Int)) : List Int := (List.range (countC c).toNat).map fun k : Nat => divL c o k
theorem div_length {c : Control} {o : Option (List Int)} (h0 : 0 ≤ firstC c) : ((divP c o).length : Int) = countC c := by
  have hcn : countC c = firstC c + c.signals.length := rfl
  simp [divP]
  omega
theorem div_at {c : Control} {o : Option (List Int)} {k : Int} (hk : 0 ≤ k ∧ k < countC c) : (divP c o)[k.toNat]? = some (divL c o k) := by
  unfold divP
  rw [List.getElem?_map, List.getElem?_range (by omega), Option.map_some, Int.toNat_of_nonneg hk.1]
theorem div_getD {c : Control} {o : Option (List Int)} {k : Int} (hk : 0 ≤ k ∧ k < countC c) : (divP c o).getD k.toNat 0 = divL c o k := by
  rw [List.getD_eq_getElem?_getD, div_at hk]
  rfl
theorem divL_range {c : Control} (hf : Fine c) {o : Option (List Int)} {k : Int} (hk : 0 ≤ k ∧ k < countC c) : 0 ≤ divL c o k ∧ divL c o k < countC c := by
  have h0 : 0 ≤ firstC c := by have := hf.act; unfold firstC; omega
  have hcn : countC c = firstC c + c.signals.length := rfl
  have hr := (root_range hf _ k (Nat.le_refl _) hk).1
  unfold divL
  split
  · exact hr
  · have := (lead_spec c o (rootP c k - firstC c).toNat).1
    omega
theorem div_mem {c : Control} (hf : Fine c) {o : Option (List Int)} {v : Int} (hv : v ∈ divP c o) : 0 ≤ v ∧ v < countC c := by
  unfold divP at hv
  simp only [List.mem_map, List.mem_range] at hv
  obtain ⟨k, hk, rfl⟩ := hv
  exact divL_range hf (by omega)

/-! ### Dividing until it stays -/
noncomputable def leads (c : Control) (o : Option (List Int)) : Nat := ((List.range c.signals.length).filter fun n => @decide (ownQ c n ∧ leadN c o n = n) (Classical.propDecidable _)).length
theorem filter_le {α : Type} {p q : α → Bool} : ∀ {l : List α}, (∀ a ∈ l, p a = true → q a = true) → (l.filter p).length ≤ (l.filter q).length ∧ ((l.filter q).length ≤ (l.filter p).length → ∀ a ∈ l, q a = true → p a = true)
  | [], _ => by simp
  | a :: l, h => by
    obtain ⟨ih1, ih2⟩ := filter_le (l := l) fun b hb => h b (by simp [hb])
    have ha := h a (by simp)
    cases hp : p a <;> cases hq : q a
    · simp only [List.filter_cons, hp, hq]
      refine ⟨by simpa using ih1, fun hle b hb hqb => ?_⟩
      rcases List.mem_cons.1 hb with rfl | hb
      · rw [hq] at hqb; cases hqb
      · exact ih2 (by simpa using hle) b hb hqb
    · simp only [List.filter_cons, hp, hq]
      refine ⟨by simp; omega, fun hle => ?_⟩
      simp at hle
      omega
    · rw [ha hp] at hq; cases hq
    · simp only [List.filter_cons, hp, hq]
      refine ⟨by simpa using ih1, fun hle b hb hqb => ?_⟩
      rcases List.mem_cons.1 hb with rfl | hb
      · exact hp
      · exact ih2 (by simpa using hle) b hb hqb
theorem own_div {c : Control} {o : Option (List Int)} (h0 : 0 ≤ firstC c) {n : Nat} (hn : n < c.signals.length) (ho : ownQ c n) : (divP c o).getD (firstC c + n).toNat 0 = firstC c + leadN c o n := by
  have hcn : countC c = firstC c + c.signals.length := rfl
  rw [div_getD ⟨by omega, by omega⟩]
  unfold divL
  rw [ho, if_neg (by omega)]
  rw [show (firstC c + n - firstC c).toNat = n by omega]
theorem id_old {c : Control} {l : List Int} {j n : Nat} (hn : n < c.signals.length) (h : idK c (some l) j = idK c (some l) n) : l.getD (firstC c + j).toNat 0 = l.getD (firstC c + n).toNat 0 := by
  unfold idK at h
  rw [List.getElem?_eq_getElem hn] at h
  cases hj : c.signals[j]? with
  | none => rw [hj] at h; cases h
  | some x =>
    rw [hj] at h
    simp only [Option.map_some, Option.some.injEq, lookK] at h
    exact (Look.mk.inj h).2.2.2.1
theorem lead_grow {c : Control} {o : Option (List Int)} (h0 : 0 ≤ firstC c) {n : Nat} (hn : n < c.signals.length) (ho : ownQ c n) (hl : leadN c o n = n) : leadN c (some (divP c o)) n = n := by
  obtain ⟨a, b, d, e⟩ := lead_spec c (some (divP c o)) n
  rcases Nat.lt_or_ge (leadN c (some (divP c o)) n) n with h | h
  · have h1 := id_old hn d
    rw [own_div h0 (by omega) (b h), own_div h0 hn ho, hl] at h1
    have := (lead_spec c o (leadN c (some (divP c o)) n)).1
    omega
  · omega
theorem leads_grow {c : Control} (hf : Fine c) (o : Option (List Int)) : leads c o ≤ leads c (some (divP c o)) ∧ (leads c (some (divP c o)) ≤ leads c o → divP c (some (divP c o)) = divP c o) := by
  have h0 : 0 ≤ firstC c := by have := hf.act; unfold firstC; omega
  have hcn : countC c = firstC c + c.signals.length := rfl
  have h := filter_le (p := fun n => @decide (ownQ c n ∧ leadN c o n = n) (Classical.propDecidable _)) (q := fun n => @decide (ownQ c n ∧ leadN c (some (divP c o)) n = n) (Classical.propDecidable _)) (l := List.range c.signals.length) (by
    intro n hn hp
    simp only [decide_eq_true_eq, List.mem_range] at hn hp ⊢
    exact ⟨hp.1, lead_grow h0 hn hp.1 hp.2⟩)
  refine ⟨h.1, fun hle => ?_⟩
  have h2 := h.2 hle
  have h3 : ∀ n, n < c.signals.length → ownQ c n → leadN c (some (divP c o)) n = leadN c o n := by
    intro n hn ho
    obtain ⟨a, b, d, e⟩ := lead_spec c (some (divP c o)) n
    have o1 := lead_own (o := some (divP c o)) ho
    have h4 := h2 (leadN c (some (divP c o)) n) (List.mem_range.2 (by omega)) (by
      simp only [decide_eq_true_eq]
      exact ⟨o1, lead_lead c _ n⟩)
    simp only [decide_eq_true_eq] at h4
    have h5 := id_old hn d
    rw [own_div h0 (by omega) o1, own_div h0 hn ho, h4.2] at h5
    omega
  show ((List.range (countC c).toNat).map fun k : Nat => divL c (some (divP c o)) k) = (List.range (countC c).toNat).map fun k : Nat => divL c o k
  apply List.map_congr_left
  intro k hk
  have hk2 : k < (countC c).toNat := List.mem_range.1 hk
  have hr := root_range hf _ (k : Int) (Nat.le_refl _) ⟨by omega, by omega⟩
  unfold divL
  split
  · rfl
  · rename_i hge
    rw [h3 _ (by omega)]
    unfold ownQ
    rw [show firstC c + ((rootP c k - firstC c).toNat : Int) = rootP c k by omega]
    rw [root_step hf hr.1, if_neg (by rw [hr.2]; decide)]
noncomputable def clsO (c : Control) : Nat → Option (List Int)
  | 0 => none
  | k + 1 => some (divP c (clsO c k))
noncomputable def clsP (c : Control) (k : Nat) : List Int := divP c (clsO c k)
/-- The classes. -/
noncomputable def alikeC (c : Control) : List Int := clsP c (c.signals.length + 1)
theorem leads_le (c : Control) (o : Option (List Int)) : leads c o ≤ c.signals.length := by
  unfold leads
  exact Nat.le_trans (List.length_filter_le _ _) (by simp)
theorem cls_succ (c : Control) (k : Nat) : clsP c (k + 1) = divP c (some (clsP c k)) := rfl
theorem cls_stay {c : Control} {k : Nat} (h : clsP c (k + 1) = clsP c k) : ∀ m, k ≤ m → clsP c m = clsP c k := by
  intro m
  induction m with
  | zero => intro hk; rw [show k = 0 by omega]
  | succ m ih =>
    intro hk
    rcases Nat.lt_or_ge m k with h1 | h1
    · rw [show k = m + 1 by omega]
    · rw [cls_succ, ih h1, ← cls_succ, h]
theorem cls_more {c : Control} (hf : Fine c) {k : Nat} (hk : k ≤ leads c (clsO c k)) (h : clsP c (k + 1) ≠ clsP c k) : k + 1 ≤ leads c (clsO c (k + 1)) := by
  have h1 := leads_grow hf (clsO c k)
  by_cases h2 : leads c (some (divP c (clsO c k))) ≤ leads c (clsO c k)
  · exact absurd (h1.2 h2) h
  · show k + 1 ≤ leads c (some (divP c (clsO c k)))
    omega
theorem cls_alike {c : Control} {k : Nat} (hk : k ≤ leads c (clsO c k)) (h : clsP c (k + 1) = clsP c k) : clsP c k = alikeC c := by
  have := leads_le c (clsO c k)
  exact (cls_stay h _ (by omega)).symm
/-- The classes stay when they are divided once more. -/
theorem alike_stay {c : Control} (hf : Fine c) : divP c (some (alikeC c)) = alikeC c := by
  have h : ∀ k, (∃ j, j ≤ k ∧ clsP c (j + 1) = clsP c j) ∨ k + 1 ≤ leads c (clsO c (k + 1)) := by
    intro k
    induction k with
    | zero =>
      by_cases h : clsP c 1 = clsP c 0
      · exact .inl ⟨0, Nat.le_refl _, h⟩
      · exact .inr (cls_more hf (Nat.zero_le _) h)
    | succ k ih =>
      rcases ih with ⟨j, hj, h⟩ | ih
      · exact .inl ⟨j, by omega, h⟩
      · by_cases h : clsP c (k + 1 + 1) = clsP c (k + 1)
        · exact .inl ⟨k + 1, Nat.le_refl _, h⟩
        · exact .inr (cls_more hf ih h)
  rcases h c.signals.length with ⟨j, hj, h⟩ | h
  · show clsP c (c.signals.length + 1 + 1) = clsP c (c.signals.length + 1)
    exact (cls_stay h _ (by omega)).trans (cls_stay h _ (by omega)).symm
  · have := leads_le c (clsO c (c.signals.length + 1))
    omega
theorem cls_length {c : Control} (h0 : 0 ≤ firstC c) (k : Nat) : ((clsP c k).length : Int) = countC c := div_length h0
theorem cls_mem {c : Control} (hf : Fine c) {k : Nat} {v : Int} (hv : v ∈ clsP c k) : 0 ≤ v ∧ v < countC c := div_mem hf hv

end Go.Proofs.YthlpelkcmmaokaaGreat
end

/- Plain laws: the classes that stay, and the lines that are needed. -/
section
namespace Go.Proofs.YthlpelkcmmaokaaGreat
set_option maxHeartbeats 1000000
set_option maxRecDepth 10000

theorem Fine.f0 {c : Control} (hf : Fine c) : 0 ≤ firstC c := by have := hf.act; unfold firstC; omega
theorem count_first (c : Control) : countC c = firstC c + c.signals.length := rfl
/-- The class of a line. -/
noncomputable def clsL (c : Control) (k : Int) : Int := divL c (some (alikeC c)) k
theorem cls_at {c : Control} (hf : Fine c) {k : Int} (hk : 0 ≤ k ∧ k < countC c) : (alikeC c)[k.toNat]? = some (clsL c k) := by
  have := div_at (c := c) (o := some (alikeC c)) hk
  rwa [alike_stay hf] at this
theorem cls_getD {c : Control} (hf : Fine c) {k : Int} (hk : 0 ≤ k ∧ k < countC c) : (alikeC c).getD k.toNat 0 = clsL c k := by
  rw [List.getD_eq_getElem?_getD, cls_at hf hk]
  rfl
theorem alike_len {c : Control} (hf : Fine c) : ((alikeC c).length : Int) = countC c := cls_length hf.f0 _
theorem root_low {c : Control} (hf : Fine c) {k : Int} (hk : 0 ≤ k ∧ k < firstC c) : rootP c k = k := by
  have := count_first c
  rw [root_step hf ⟨hk.1, by omega⟩]
  unfold repP
  rw [if_pos hk.2]
  simp
theorem root_root {c : Control} (hf : Fine c) {k : Int} (hk : 0 ≤ k ∧ k < countC c) : rootP c (rootP c k) = rootP c k := by
  have hr := root_range hf _ k (Nat.le_refl _) hk
  rw [root_step hf hr.1, if_neg (by rw [hr.2]; decide)]
theorem cls_low {c : Control} (hf : Fine c) {k : Int} (hk : 0 ≤ k ∧ k < firstC c) : clsL c k = k := by
  unfold clsL divL
  rw [root_low hf hk, if_pos hk.2]
theorem cls_root {c : Control} (hf : Fine c) {k : Int} (hk : 0 ≤ k ∧ k < countC c) : clsL c (rootP c k) = clsL c k := by
  unfold clsL divL
  rw [root_root hf hk]
theorem cls_range {c : Control} (hf : Fine c) {k : Int} (hk : 0 ≤ k ∧ k < countC c) : 0 ≤ clsL c k ∧ clsL c k < countC c := divL_range hf hk
/-- Behind the first lines: the first root that is alike. -/
theorem cls_lead {c : Control} (hf : Fine c) {k : Int} (hk : 0 ≤ k ∧ k < countC c) (hr : firstC c ≤ rootP c k) :
    ∃ m n : Nat, rootP c k = firstC c + n ∧ clsL c k = firstC c + m ∧ m ≤ n ∧ n < c.signals.length ∧ ownQ c m ∧ ownQ c n ∧ idK c (some (alikeC c)) m = idK c (some (alikeC c)) n := by
  have hrr := root_root hf hk
  have hrg := (root_range hf _ k (Nat.le_refl _) hk).1
  have hcf := count_first c
  obtain ⟨n, hn⟩ : ∃ n : Nat, rootP c k = firstC c + n := ⟨(rootP c k - firstC c).toNat, by omega⟩
  have ho : ownQ c n := by
    unfold ownQ
    rw [← hn]
    exact hrr
  obtain ⟨a, b, d, e⟩ := lead_spec c (some (alikeC c)) n
  refine ⟨leadN c (some (alikeC c)) n, n, hn, ?_, a, by omega, lead_own ho, ho, d⟩
  unfold clsL divL
  rw [if_neg (by omega), hn, show (firstC c + (n : Int) - firstC c).toNat = n by omega]
theorem cls_small {c : Control} (hf : Fine c) {k : Int} (hk : 0 ≤ k ∧ k < countC c) (hr : rootP c k < firstC c) : clsL c k = rootP c k := by
  unfold clsL divL
  rw [if_pos hr]
theorem cls_own {c : Control} (hf : Fine c) {k : Int} (hk : 0 ≤ k ∧ k < countC c) : rootP c (clsL c k) = clsL c k := by
  rcases Int.lt_or_le (rootP c k) (firstC c) with h | h
  · rw [cls_small hf hk h]
    exact root_root hf hk
  · obtain ⟨m, n, h1, h2, h3, h4, h5, h6, h7⟩ := cls_lead hf hk h
    rw [h2]
    exact h5
theorem cls_cls {c : Control} (hf : Fine c) {k : Int} (hk : 0 ≤ k ∧ k < countC c) : clsL c (clsL c k) = clsL c k := by
  have hr := cls_range hf hk
  rcases Int.lt_or_le (rootP c k) (firstC c) with h | h
  · have := cls_small hf hk h
    rw [this] at hr ⊢
    exact cls_low hf ⟨hr.1, h⟩
  · obtain ⟨m, n, h1, h2, h3, h4, h5, h6, h7⟩ := cls_lead hf hk h
    have ho : rootP c (clsL c k) = clsL c k := cls_own hf hk
    have e1 : clsL c (clsL c k) = firstC c + leadN c (some (alikeC c)) m := by
      show (if rootP c (clsL c k) < firstC c then rootP c (clsL c k) else firstC c + leadN c (some (alikeC c)) (rootP c (clsL c k) - firstC c).toNat) = _
      rw [ho, if_neg (by omega), h2, show (firstC c + (m : Int) - firstC c).toNat = m by omega]
    have e2 : clsL c k = firstC c + leadN c (some (alikeC c)) n := by
      unfold clsL divL
      rw [if_neg (by omega), h1, show (firstC c + (n : Int) - firstC c).toNat = n by omega]
    rw [e1, e2, lead_same h7 h5 h6]
theorem cls_le {c : Control} (hf : Fine c) {k : Int} (hk : 0 ≤ k ∧ k < countC c) (h : firstC c ≤ clsL c k) : firstC c ≤ rootP c k ∧ clsL c k ≤ rootP c k := by
  rcases Int.lt_or_le (rootP c k) (firstC c) with h1 | h1
  · rw [cls_small hf hk h1] at h
    omega
  · obtain ⟨m, n, h2, h3, h4, _⟩ := cls_lead hf hk h1
    omega
theorem class_id {c : Control} {o : Option (List Int)} {m n : Nat} {x y : Signal} (hx : c.signals[m]? = some x) (hy : c.signals[n]? = some y) (h : idK c o m = idK c o n) :
    x.kind = y.kind ∧ x.delay = y.delay ∧ x.init = y.init ∧ ∀ l, o = some l → l.getD (firstC c + m).toNat 0 = l.getD (firstC c + n).toNat 0 ∧ repE x.on l = repE y.on l ∧ repE x.off l = repE y.off l := by
  unfold idK at h
  rw [hx, hy, Option.map_some, Option.map_some, Option.some.injEq] at h
  unfold lookK at h
  rw [Look.mk.injEq] at h
  obtain ⟨h1, h2, h3, h4, h5, h6⟩ := h
  refine ⟨h1, h2, h3, ?_⟩
  rintro l rfl
  simp only [Option.map_some, Option.some.injEq] at h5 h6 h4
  exact ⟨h4, h5, h6⟩

/-! ### What is needed -/
/-- The lines that are used by a line. -/
def useL (c : Control) (k : Int) : List Int := match c.signals[(k - firstC c).toNat]? with
  | some x => usesL x
  | none => []
inductive Need (c : Control) : Int → Prop
  | pilot {p : Int} (h : p ∈ c.plus ∨ p ∈ c.minus) (h1 : firstC c ≤ clsL c p) : Need c (clsL c p)
  | use {k u : Int} (h : Need c k) (hu : u ∈ useL c k) (h1 : firstC c ≤ clsL c u) : Need c (clsL c u)
theorem met_uses {c : Control} (hf : Fine c) {i : Nat} {x : Signal} (hx : c.signals[i]? = some x) : ∀ u, u ∈ usesL x ↔ u ∈ varsE x.on ∨ u ∈ varsE x.off := by
  intro u
  unfold usesL
  rw [(comp_sorted (sortI_sorted _)).2]
  unfold sortI
  rw [List.mem_mergeSort, List.mem_append]
theorem uses_range {c : Control} (hf : Fine c) {i : Nat} {x : Signal} (hx : c.signals[i]? = some x) : ∀ u ∈ usesL x, 0 ≤ u ∧ u < countC c := by
  intro u hu
  rcases (met_uses hf hx u).1 hu with h | h
  · exact vars_check (hf.on hx).1 u h
  · exact (occ_off hf hx).2 u h
theorem use_range {c : Control} (hf : Fine c) {k u : Int} (hu : u ∈ useL c k) : 0 ≤ u ∧ u < countC c := by
  unfold useL at hu
  split at hu
  · rename_i x hx
    exact uses_range hf hx u hu
  · cases hu
/-- The pilots are lines. -/
def PilC (c : Control) : Prop := (c.plus.length : Int) = c.actuators ∧ (c.minus.length : Int) = c.actuators ∧ (∀ p ∈ c.plus, 0 ≤ p ∧ p < countC c) ∧ ∀ p ∈ c.minus, 0 ≤ p ∧ p < countC c
theorem need_range {c : Control} (hf : Fine c) (hp : PilC c) {k : Int} (h : Need c k) : firstC c ≤ k ∧ k < countC c := by
  cases h with
  | pilot h h1 =>
    refine ⟨h1, (cls_range hf ?_).2⟩
    rcases h with h | h
    · exact hp.2.2.1 _ h
    · exact hp.2.2.2 _ h
  | use h hu h1 => exact ⟨h1, (cls_range hf (use_range hf hu)).2⟩
theorem need_cls {c : Control} (hf : Fine c) (hp : PilC c) {k : Int} (h : Need c k) : clsL c k = k := by
  cases h with
  | pilot h h1 =>
    refine cls_cls hf ?_
    rcases h with h | h
    · exact hp.2.2.1 _ h
    · exact hp.2.2.2 _ h
  | use h hu h1 => exact cls_cls hf (use_range hf hu)
open Classical in
noncomputable def needL (c : Control) : List Int := metB (countC c).toNat fun k => decide (Need c k)
theorem mem_met {M : Nat} {p : Nat → Bool} {v : Int} : v ∈ metB M p ↔ ∃ k : Nat, v = k ∧ k < M ∧ p k = true := by
  unfold metB
  simp only [List.mem_map, List.mem_filter, List.mem_range]
  constructor
  · rintro ⟨k, ⟨h1, h2⟩, rfl⟩; exact ⟨k, rfl, h1, h2⟩
  · rintro ⟨k, rfl, h1, h2⟩; exact ⟨k, ⟨h1, h2⟩, rfl⟩
theorem mem_need {c : Control} (hf : Fine c) (hp : PilC c) {v : Int} : v ∈ needL c ↔ Need c v := by
  unfold needL
  rw [mem_met]
  constructor
  · rintro ⟨k, rfl, _, h⟩
    simpa using h
  · intro h
    have h1 := need_range hf hp h
    have := hf.f0
    refine ⟨v.toNat, by omega, by omega, ?_⟩
    rw [Int.toNat_of_nonneg (by omega)]
    simpa using h
theorem need_sorted (c : Control) : (needL c).Pairwise (· < ·) := metB_sorted _ _
theorem need_len {c : Control} (hf : Fine c) (hp : PilC c) : (needL c).length ≤ c.signals.length := by
  have h0 := hf.f0
  have hcf := count_first c
  have hm : ∀ (l : List Int) (a : Int) (n : Nat), l.Pairwise (· < ·) → (∀ v ∈ l, a ≤ v ∧ v < a + n) → l.length ≤ n := by
    intro l
    induction l with
    | nil => intro a n _ _; exact Nat.zero_le _
    | cons v l ih =>
      intro a n hl hv
      have h1 := hv v (by simp)
      have h2 := List.pairwise_cons.1 hl
      have h3 := ih (v + 1) (a + n - (v + 1)).toNat h2.2 (by
        intro w hw
        have h4 := h2.1 w hw
        have h5 := hv w (by simp [hw])
        omega)
      simp only [List.length_cons]
      omega
  refine hm _ (firstC c) _ (need_sorted c) ?_
  intro v hv
  have := need_range hf hp ((mem_need hf hp).1 hv)
  omega

end Go.Proofs.YthlpelkcmmaokaaGreat
end

/- Plain laws: the reduced control. -/
section
namespace Go.Proofs.YthlpelkcmmaokaaGreat
set_option maxHeartbeats 1000000
set_option maxRecDepth 10000

theorem sorted_pos : ∀ {l : List Int}, l.Pairwise (· < ·) → ∀ {i : Nat} {v : Int}, l[i]? = some v → (l.filter fun w => decide (w < v)).length = i
  | [], _, i, v, h => by simp at h
  | a :: l, hl, 0, v, h => by
    simp at h
    subst h
    have h2 := (List.pairwise_cons.1 hl).1
    have : (a :: l).filter (fun w => decide (w < a)) = [] := by
      rw [List.filter_eq_nil_iff]
      intro w hw
      rcases List.mem_cons.1 hw with rfl | hw
      · simp
      · have := h2 w hw
        simp
        omega
    rw [this]
    rfl
  | a :: l, hl, i + 1, v, h => by
    simp at h
    have h2 := List.pairwise_cons.1 hl
    have h3 := h2.1 v (List.mem_of_getElem? h)
    rw [List.filter_cons, if_pos (by simpa using h3), List.length_cons, sorted_pos h2.2 h]
/-- Where a needed line is among them. -/
noncomputable def posN (c : Control) (k : Int) : Nat := ((needL c).filter fun w => decide (w < k)).length
theorem pos_at {c : Control} {i : Nat} {v : Int} (h : (needL c)[i]? = some v) : posN c v = i := sorted_pos (need_sorted c) h
theorem pos_need {c : Control} (hf : Fine c) (hp : PilC c) {k : Int} (h : Need c k) : (needL c)[posN c k]? = some k ∧ posN c k < (needL c).length := by
  obtain ⟨i, hi⟩ := List.getElem?_of_mem ((mem_need hf hp).2 h)
  rw [pos_at hi]
  exact ⟨hi, (List.getElem?_eq_some_iff.1 hi).1⟩
theorem pos_lt {c : Control} (hf : Fine c) (hp : PilC c) {k j : Int} (hk : Need c k) (hj : Need c j) (h : k < j) : posN c k < posN c j := by
  obtain ⟨a1, a2⟩ := pos_need hf hp hk
  obtain ⟨b1, b2⟩ := pos_need hf hp hj
  have hs := List.pairwise_iff_getElem.1 (need_sorted c)
  obtain ⟨_, a3⟩ := List.getElem?_eq_some_iff.1 a1
  obtain ⟨_, b3⟩ := List.getElem?_eq_some_iff.1 b1
  rcases Nat.lt_trichotomy (posN c k) (posN c j) with h1 | h1 | h1
  · exact h1
  · rw [h1] at a1
    rw [a1] at b1
    cases b1
    omega
  · have := hs _ _ b2 a2 h1
    omega

/-! ### Where lines are -/
open Classical in
noncomputable def keepL (c : Control) (k : Int) : Int := if clsL c k < firstC c then clsL c k else if Need c (clsL c k) then firstC c + posN c (clsL c k) else noneV
noncomputable def keepP (c : Control) : List Int := (List.range (countC c).toNat).map fun k : Nat => keepL c k
theorem keep_at {c : Control} {k : Int} (hk : 0 ≤ k ∧ k < countC c) : (keepP c)[k.toNat]? = some (keepL c k) := by
  unfold keepP
  rw [List.getElem?_map, List.getElem?_range (by omega), Option.map_some, Int.toNat_of_nonneg hk.1]
theorem keep_getD {c : Control} {k : Int} (hk : 0 ≤ k ∧ k < countC c) : (keepP c).getD k.toNat 0 = keepL c k := by
  rw [List.getD_eq_getElem?_getD, keep_at hk]
  rfl
theorem keep_len {c : Control} (hf : Fine c) : ((keepP c).length : Int) = countC c := by
  have := hf.f0
  have := count_first c
  simp [keepP]
  omega
theorem keep_low {c : Control} (hf : Fine c) {k : Int} (hk : 0 ≤ k ∧ k < firstC c) : keepL c k = k := by
  unfold keepL
  rw [cls_low hf hk, if_pos hk.2]

def dummyS : Signal := ⟨[], 0, ⟨0, 0, []⟩, ⟨0, 0, []⟩, 0, false⟩
def sigAt (c : Control) (k : Int) : Signal := (c.signals[(k - firstC c).toNat]?).getD dummyS
noncomputable def redX (c : Control) (x : Signal) : Signal := { x with on := repE x.on (keepP c), off := repE x.off (keepP c) }
noncomputable def redC (c : Control) : Control := ⟨c.actuators, c.inputs, (needL c).map fun k => redX c (sigAt c k), c.plus.map (keepL c), c.minus.map (keepL c)⟩
theorem red_first (c : Control) : firstC (redC c) = firstC c := rfl
theorem red_count (c : Control) : countC (redC c) = firstC c + (needL c).length := by
  rw [count_first, red_first]
  simp [redC]
theorem red_count_le {c : Control} (hf : Fine c) (hp : PilC c) : countC (redC c) ≤ countC c := by
  have := need_len hf hp
  rw [red_count, count_first]
  omega
/-- A signal that is needed. -/
theorem need_sig {c : Control} (hf : Fine c) (hp : PilC c) {k : Int} (h : Need c k) : ∃ (n : Nat) (x : Signal), k = firstC c + n ∧ c.signals[n]? = some x ∧ ownQ c n ∧ sigAt c k = x ∧ useL c k = usesL x := by
  have hr := need_range hf hp h
  have hcf := count_first c
  obtain ⟨n, hn⟩ : ∃ n : Nat, k = firstC c + n := ⟨(k - firstC c).toNat, by omega⟩
  have hx : c.signals[n]? = some c.signals[n] := List.getElem?_eq_getElem (by omega)
  have e : (k - firstC c).toNat = n := by omega
  refine ⟨n, c.signals[n]'(by omega), hn, hx, ?_, ?_, ?_⟩
  · unfold ownQ
    rw [← hn]
    have := cls_own hf (k := k) ⟨by have := hf.f0; omega, hr.2⟩
    rwa [need_cls hf hp h] at this
  · unfold sigAt
    rw [e, hx]
    rfl
  · unfold useL
    rw [e, hx]
theorem red_sig {c : Control} (hf : Fine c) (hp : PilC c) {i : Nat} {y : Signal} (h : (redC c).signals[i]? = some y) :
    ∃ (k : Int) (n : Nat) (x : Signal), (needL c)[i]? = some k ∧ Need c k ∧ k = firstC c + n ∧ c.signals[n]? = some x ∧ y = redX c x ∧ ownQ c n ∧ posN c k = i ∧ useL c k = usesL x := by
  simp only [redC, List.getElem?_map, Option.map_eq_some_iff] at h
  obtain ⟨k, hk, rfl⟩ := h
  have hn : Need c k := (mem_need hf hp).1 (List.mem_of_getElem? hk)
  obtain ⟨n, x, h1, h2, h3, h4, h5⟩ := need_sig hf hp hn
  exact ⟨k, n, x, hk, hn, h1, h2, by rw [h4], h3, pos_at hk, h5⟩
theorem red_at {c : Control} (hf : Fine c) (hp : PilC c) {k : Int} (h : Need c k) : ∃ (n : Nat) (x : Signal), k = firstC c + n ∧ c.signals[n]? = some x ∧ (redC c).signals[posN c k]? = some (redX c x) := by
  obtain ⟨n, x, h1, h2, h3, h4, h5⟩ := need_sig hf hp h
  refine ⟨n, x, h1, h2, ?_⟩
  simp only [redC, List.getElem?_map, (pos_need hf hp h).1, Option.map_some, h4]
/-- The lines that needed ones use are kept. -/
theorem keep_use {c : Control} (hf : Fine c) (hp : PilC c) {k u : Int} (h : Need c k) (hu : u ∈ useL c k) : 0 ≤ keepL c u ∧ keepL c u < countC (redC c) := by
  have hr := cls_range hf (use_range hf hu)
  have h0 := hf.f0
  rw [red_count]
  unfold keepL
  by_cases h1 : clsL c u < firstC c
  · rw [if_pos h1]
    omega
  · have hn : Need c (clsL c u) := .use h hu (by omega)
    rw [if_neg h1, if_pos hn]
    have := (pos_need hf hp hn).2
    omega
theorem keep_pilot {c : Control} (hf : Fine c) (hp : PilC c) {p : Int} (h : p ∈ c.plus ∨ p ∈ c.minus) : 0 ≤ keepL c p ∧ keepL c p < countC (redC c) := by
  have hr : 0 ≤ p ∧ p < countC c := by
    rcases h with h | h
    · exact hp.2.2.1 _ h
    · exact hp.2.2.2 _ h
  have hr2 := cls_range hf hr
  have h0 := hf.f0
  rw [red_count]
  unfold keepL
  by_cases h1 : clsL c p < firstC c
  · rw [if_pos h1]
    omega
  · have hn : Need c (clsL c p) := .pilot h (by omega)
    rw [if_neg h1, if_pos hn]
    have := (pos_need hf hp hn).2
    omega
theorem none_neg : noneV < 0 := by decide
theorem keep_range {c : Control} (hf : Fine c) (hp : PilC c) {k : Int} (hk : 0 ≤ k ∧ k < countC c) : keepL c k = noneV ∨ 0 ≤ keepL c k ∧ keepL c k < countC (redC c) := by
  have hr2 := cls_range hf hk
  have h0 := hf.f0
  rw [red_count]
  unfold keepL
  by_cases h1 : clsL c k < firstC c
  · rw [if_pos h1]
    right
    omega
  · rw [if_neg h1]
    by_cases hn : Need c (clsL c k)
    · rw [if_pos hn]
      have := (pos_need hf hp hn).2
      right
      omega
    · rw [if_neg hn]
      exact .inl rfl

/-! ### Expressions with other variables -/
theorem vars_rep {n : Int} (l : List Int) : ∀ (N : Nat) (x : Expr), SizeOf.sizeOf x < N → RightE n x → varsE (repE x l) = (varsE x).map fun u => l.getD u.toNat 0
  | 0, _, h, _ => absurd h (Nat.not_lt_zero _)
  | N + 1, x, hN, hr => by
    have hL : ∀ xs : List Expr, (∀ y ∈ xs, y ∈ x.args) → varsL (repL xs l) = (varsL xs).map fun u => l.getD u.toNat 0 := by
      intro xs
      induction xs with
      | nil => intro _; rfl
      | cons y xs ih =>
        intro h
        have hy := h y (by simp)
        simp only [repL, varsL, List.map_append]
        rw [vars_rep l N y (by have := Expr.lt_of_mem hy; omega) (hr.args y hy), ih fun z hz => h z (by simp [hz])]
    rw [repE_eq]
    by_cases ho : x.op = 1
    · rw [if_pos ho, varsE_eq, varsE_eq x, node_var hr.node ho]
      simp [ho, varsL]
    · rw [if_neg ho, varsE_eq, varsE_eq x]
      simp only [if_neg ho, List.nil_append]
      exact hL x.args fun _ h => h
theorem right_rep {n m : Int} {l : List Int} : ∀ (N : Nat) (x : Expr), SizeOf.sizeOf x < N → RightE n x → (∀ u ∈ varsE x, 0 ≤ l.getD u.toNat 0 ∧ l.getD u.toNat 0 < m) → RightE m (repE x l)
  | 0, _, h, _, _ => absurd h (Nat.not_lt_zero _)
  | N + 1, x, hN, hr, hu => by
    rw [repE_eq]
    by_cases ho : x.op = 1
    · rw [if_pos ho]
      have h1 := hu x.index (by rw [varsE_eq]; simp [ho])
      refine .mk _ ?_ (by intro a ha; cases ha)
      unfold nodeR
      generalize l.getD x.index.toNat 0 = v at *
      simp
      omega
    · rw [if_neg ho]
      refine .mk _ ?_ ?_
      · have h1 := hr.node
        unfold nodeR at h1 ⊢
        simp only [repL_map, List.length_map]
        simp only [if_neg ho] at h1 ⊢
        exact h1
      · intro a ha
        simp only [repL_map, List.mem_map] at ha
        obtain ⟨y, hy, rfl⟩ := ha
        refine right_rep N y (by have := Expr.lt_of_mem hy; omega) (hr.args y hy) ?_
        intro u huy
        refine hu u ?_
        rw [varsE_eq]
        exact List.mem_append.2 (.inr (varsL_mem huy hy))
mutual
theorem nd_right {n : Int} : ∀ x : Expr, RightE n x → ∀ y ∈ ndE x, nodeR y n = 0
  | ⟨op, ix, args⟩, h, y, hy => by
    simp only [ndE, List.mem_cons] at hy
    rcases hy with rfl | hy
    · exact h.node
    · exact ndL_right args h.args y hy
theorem ndL_right {n : Int} : ∀ l : List Expr, (∀ x ∈ l, RightE n x) → ∀ y ∈ ndL l, nodeR y n = 0
  | [], _, y, hy => by simp [ndL] at hy
  | x :: xs, h, y, hy => by
    simp only [ndL, List.mem_append] at hy
    rcases hy with hy | hy
    · exact nd_right x (h x (by simp)) y hy
    · exact ndL_right xs (fun z hz => h z (by simp [hz])) y hy
end
theorem check_of {x : Expr} {n : Int} (hn : 0 ≤ n ∧ n ≤ 256) (hs : szE x ≤ 256) (hd : dpE x ≤ 16) (hr : RightE n x) : checkE x n = 0 := by
  unfold checkE
  rw [if_neg (by omega)]
  obtain ⟨s, hm⟩ := (meas_iff x).2 ⟨hs, hd⟩
  rw [hm]
  have h := firstErr_app (fun y => nodeR y n) (ndE x) [] (nd_right x hr)
  have h2 := nodeFold n (preE x 1)
  rw [(preE_all x 1 (by omega)).1] at h2
  simp only [List.append_nil, firstErr] at h
  rw [h] at h2
  exact h2
theorem check_rep {x : Expr} {n m : Int} {l : List Int} (h : checkE x n = 0) (hm : 0 ≤ m ∧ m ≤ 256) (hu : ∀ u ∈ varsE x, 0 ≤ l.getD u.toNat 0 ∧ l.getD u.toNat 0 < m) : checkE (repE x l) m = 0 := by
  have hr := (right_of_check h).1
  have h1 := rep_size l _ x (Nat.lt_succ_self _) hr
  have h2 := (light_iff x).1 (light_check h)
  exact check_of hm (by omega) (by omega) (right_rep _ x (Nat.lt_succ_self _) hr hu)
theorem ok_rep {n : Int} {l : List Int} : ∀ (N : Nat) (x : Expr), SizeOf.sizeOf x < N → RightE n x → (okV x l = true ↔ ∀ u ∈ varsE x, l.getD u.toNat 0 ≠ noneV)
  | 0, _, h, _ => absurd h (Nat.not_lt_zero _)
  | N + 1, x, hN, hr => by
    have hL : ∀ xs : List Expr, (∀ y ∈ xs, y ∈ x.args) → (okVs xs l = true ↔ ∀ u ∈ varsL xs, l.getD u.toNat 0 ≠ noneV) := by
      intro xs
      induction xs with
      | nil => intro _; simp [okVs, varsL]
      | cons y xs ih =>
        intro h
        have hy := h y (by simp)
        simp only [okVs, varsL, Bool.and_eq_true, List.mem_append]
        rw [ok_rep N y (by have := Expr.lt_of_mem hy; omega) (hr.args y hy), ih fun z hz => h z (by simp [hz])]
        constructor
        · rintro ⟨h1, h2⟩ u (h3 | h3)
          · exact h1 u h3
          · exact h2 u h3
        · intro h3
          exact ⟨fun u hu => h3 u (.inl hu), fun u hu => h3 u (.inr hu)⟩
    rw [okV_eq, varsE_eq]
    by_cases ho : x.op = 1
    · rw [node_var hr.node ho]
      simp [ho, varsL]
    · simp only [if_neg ho, List.nil_append]
      exact hL x.args fun _ h => h
theorem zero_rep {x : Expr} (h : zeroE x = true) (l : List Int) : repE x l = x := by
  simp [zeroE] at h
  obtain ⟨⟨h1, h2⟩, h3⟩ := h
  rw [repE_eq, if_neg (by omega), h3]
  cases x
  simp at h3
  simp [repL, h3]

end Go.Proofs.YthlpelkcmmaokaaGreat
end

/- Contracts: the reference's classes. -/
section
namespace Go.Proofs.YthlpelkcmmaokaaGreat
set_option maxHeartbeats 4000000
set_option maxRecDepth 10000

/-- Lists of lines that are in order for a control. -/
def OkO (c : Control) (o : Option (List Int)) : Prop := ∀ l, o = some l → (l.length : Int) = countC c ∧ ∀ v ∈ l, I64 v
abbrev oA : Option (List Int) → A
  | none => .nils
  | some l => aIs l
theorem zero_right {x : Expr} (h : zeroE x = true) (n : Int) : RightE n x := by
  simp [zeroE] at h
  obtain ⟨⟨h1, h2⟩, h3⟩ := h
  refine .mk x ?_ (by rw [h3]; intro a ha; cases ha)
  unfold nodeR
  simp [h1, h2, h3]
theorem sig_right {c : Control} (hf : Fine c) {i : Nat} {x : Signal} (hx : c.signals[i]? = some x) : RightE (countC c) x.on ∧ RightE (countC c) x.off := by
  have ho := hf.on hx
  refine ⟨(right_of_check ho.1).1, ?_⟩
  have h := hf.sigs i x hx
  unfold signalE at h
  split at h
  · rename_i h1; exact absurd h h1
  · split at h
    · cases h
    · split at h
      · rename_i h1; exact absurd h h1
      · split at h
        · refine zero_right ?_ _
          cases hz : zeroE x.off
          · unfold gateE at h
            split at h
            · cases h
            · simp [hz] at h
          · rfl
        · split at h
          · unfold memE at h
            split at h
            · rename_i h1; exact absurd h h1
            · rename_i h1; exact (right_of_check (Classical.not_not.1 h1)).1
          · refine zero_right ?_ _
            cases hz : zeroE x.off
            · unfold timE at h
              split at h
              · cases h
              · simp [hz] at h
            · rfl
/-- Do two signals look alike, but for what was before? -/
def alikeX (o : Option (List Int)) (x y : Signal) : Bool := (x.kind == y.kind && x.delay == y.delay && x.init == y.init) && match o with
  | none => true
  | some l => eqE (repE x.on l) (repE y.on l) && eqE (repE x.off l) (repE y.off l)

end Go.Proofs.YthlpelkcmmaokaaGreat
end

/- Contracts: the reference's classes, divided once. -/
section
namespace Go.Proofs.YthlpelkcmmaokaaGreat
set_option maxHeartbeats 4000000
set_option maxRecDepth 10000

theorem look_iff {c : Control} {o : Option (List Int)} {a b : Int} {x y : Signal} : lookK o a x = lookK o b y ↔ (∀ l, o = some l → l.getD a.toNat 0 = l.getD b.toNat 0) ∧ alikeX o x y = true := by
  cases o with
  | none =>
    simp [lookK, alikeX, and_assoc]
  | some l =>
    simp [lookK, alikeX, eqE_true]
    constructor
    · rintro ⟨h1, h2, h3, h4, h5, h6⟩; exact ⟨h4, ⟨⟨h1, h2⟩, h3⟩, h5, h6⟩
    · rintro ⟨h4, ⟨⟨h1, h2⟩, h3⟩, h5, h6⟩; exact ⟨h1, h2, h3, h4, h5, h6⟩
theorem id_iff {c : Control} {o : Option (List Int)} {a b : Nat} {x y : Signal} (hx : c.signals[a]? = some x) (hy : c.signals[b]? = some y) :
    idK c o a = idK c o b ↔ (∀ l, o = some l → l.getD (firstC c + a).toNat 0 = l.getD (firstC c + b).toNat 0) ∧ alikeX o x y = true := by
  unfold idK
  rw [hx, hy, Option.map_some, Option.map_some, Option.some.injEq]
  exact look_iff (c := c)

end Go.Proofs.YthlpelkcmmaokaaGreat
end

/- Groups of lines, as a map. -/
section
namespace Go.Proofs.YthlpelkcmmaokaaGreat
set_option maxHeartbeats 1000000
set_option maxRecDepth 10000
variable {P : Program}

/-! ### A map that holds slices -/
abbrev Grp := Value × Value × List Int
def msL : List Grp → Nat → List MapEntry
  | [], _ => []
  | g :: r, n => { key := g.1, val := g.2.1, born := n } :: msL r (n + 1)
def msF (l : List Grp) : Array MapEntry := (msL l 0).toArray
theorem msL_app : ∀ (a b : List Grp) (n : Nat), msL (a ++ b) n = msL a n ++ msL b (n + a.length)
  | [], b, n => by simp [msL]
  | g :: a, b, n => by
    simp only [List.cons_append, msL, msL_app a b (n + 1), List.length_cons]
    rw [show n + 1 + a.length = n + (a.length + 1) by omega]
theorem msL_len : ∀ (a : List Grp) (n : Nat), (msL a n).length = a.length
  | [], _ => rfl
  | _ :: a, n => by simp [msL, msL_len a (n + 1)]
theorem msL_mem : ∀ (a : List Grp) (n : Nat) (e : MapEntry), e ∈ msL a n → n ≤ e.born ∧ e.born < n + a.length ∧ ∃ g ∈ a, e.key = g.1 ∧ e.val = g.2.1
  | [], _, e, h => by simp [msL] at h
  | g :: a, n, e, h => by
    simp only [msL, List.mem_cons] at h
    rcases h with rfl | h
    · exact ⟨Nat.le_refl _, by simp, g, by simp, rfl, rfl⟩
    · obtain ⟨h1, h2, g', h3, h4⟩ := msL_mem a (n + 1) e h
      exact ⟨by omega, by simp; omega, g', by simp [h3], h4⟩
theorem msL_born : ∀ (a : List Grp) (n : Nat), ((msL a n).map (·.born)).Nodup
  | [], _ => by simp [msL]
  | g :: a, n => by
    simp only [msL, List.map_cons, List.nodup_cons]
    refine ⟨?_, msL_born a (n + 1)⟩
    intro h
    obtain ⟨e, he, h1⟩ := List.mem_map.1 h
    have := (msL_mem a (n + 1) e he).1
    omega
theorem msL_keys : ∀ (a : List Grp) (n : Nat), (msL a n).map (·.key) = a.map (·.1)
  | [], _ => rfl
  | g :: a, n => by simp [msL, msL_keys a (n + 1)]
/-- Groups that are in order. -/
structure GoodG (P : Program) (kt : TypeId) (l : List Grp) : Prop where
  nodup : (l.map (·.1)).Nodup
  good : ∀ g ∈ l, goodK P kt g.1
theorem GoodG.map {kt : TypeId} {l : List Grp} (h : GoodG P kt l) : goodM P kt (msF l) l.length := by
  refine ⟨⟨?_, ?_, ?_⟩, ?_⟩
  · intro e he
    have := (msL_mem l 0 e (by simpa [msF] using he)).2.1
    omega
  · simpa [msF] using msL_born l 0
  · simpa [msF, msL_keys] using h.nodup
  · intro e he
    obtain ⟨g, hg, h1, h2⟩ := (msL_mem l 0 e (by simpa [msF] using he)).2.2
    rw [h1]
    exact h.good g hg
theorem find_none {kt : TypeId} (K : WideMaps.KeyLaw P kt) {l : List Grp} {key : Value} (hk : goodK P kt key) (hg : ∀ g ∈ l, goodK P kt g.1) (hn : key ∉ l.map (·.1)) (n : Nat) : findM P kt (msL l n) key = none := by
  unfold findM
  rw [List.find?_eq_none]
  intro e he
  obtain ⟨g, hgm, h1, h2⟩ := (msL_mem l n e he).2.2
  simp only [decide_eq_true_eq, h1]
  intro h
  have := (keyBs_eq K (hg g hgm) hk).1 h
  exact hn (List.mem_map.2 ⟨g, hgm, this⟩)
theorem find_at {kt : TypeId} (K : WideMaps.KeyLaw P kt) {a b : List Grp} {key h : Value} {xs : List Int} (hk : goodK P kt key) (hg : ∀ g ∈ a, goodK P kt g.1) (hn : key ∉ a.map (·.1)) : findM P kt (msF (a ++ (key, h, xs) :: b)).toList key = some { key := key, val := h, born := a.length } := by
  have h1 := find_none K hk hg hn 0
  unfold findM at h1 ⊢
  simp only [msF, msL_app, List.find?_append, h1, msL, Nat.zero_add]
  simp
theorem ent_at {kt : TypeId} (K : WideMaps.KeyLaw P kt) {a b : List Grp} {key h : Value} {xs : List Int} (hk : goodK P kt key) (hg : ∀ g ∈ a, goodK P kt g.1) (hn : key ∉ a.map (·.1)) :
    entM P kt (msF (a ++ (key, h, xs) :: b)) (a ++ (key, h, xs) :: b).length key = (msF (a ++ (key, h, xs) :: b), (a ++ (key, h, xs) :: b).length, h, a.length) := by
  unfold entM
  rw [find_at K hk hg hn]
theorem ent_new {kt : TypeId} (K : WideMaps.KeyLaw P kt) {a : List Grp} {key : Value} (hk : goodK P kt key) (hg : ∀ g ∈ a, goodK P kt g.1) (hn : key ∉ a.map (·.1)) :
    entM P kt (msF a) a.length key = (msF (a ++ [(key, .slice none 0 0, [])]), a.length + 1, .slice none 0 0, a.length) := by
  unfold entM
  rw [show (msF a).toList = msL a 0 from rfl, find_none K hk hg hn 0]
  simp [msF, msL_app, msL]
theorem born_idx : ∀ (l : List Grp) (n j : Nat), j < l.length → ((msL l n).findIdx? fun e => (e.born : Int) == ((n + j : Nat) : Int)) = some j
  | [], _, _, h => absurd h (Nat.not_lt_zero _)
  | g :: l, n, 0, _ => by simp [msL, List.findIdx?_cons]
  | g :: l, n, j + 1, h => by
    have ih := born_idx l (n + 1) j (by simpa using h)
    rw [show n + 1 + j = n + (j + 1) by omega] at ih
    have hne : ((n : Int) == ((n + (j + 1) : Nat) : Int)) = false := by
      rw [beq_eq_false_iff_ne]
      omega
    simp only [msL, List.findIdx?_cons, hne, ih]
    rfl
theorem modify_mid {α : Type} (f : α → α) (x : α) (b : List α) : ∀ a : List α, (a ++ x :: b).modify a.length f = a ++ f x :: b
  | [] => by simp
  | y :: a => by simp [modify_mid f x b a]
theorem set_at {a b : List Grp} {key h h' : Value} {xs xs' : List Int} : hasB (msF (a ++ (key, h, xs) :: b)) a.length ∧ setB (msF (a ++ (key, h, xs) :: b)) a.length h' = msF (a ++ (key, h', xs') :: b) := by
  have hi := born_idx (a ++ (key, h, xs) :: b) 0 a.length (by simp)
  rw [Nat.zero_add] at hi
  have e : ((msF (a ++ (key, h, xs) :: b)).findIdx? fun e => (e.born : Int) == (a.length : Int)) = some a.length := by
    unfold msF
    rw [List.findIdx?_toArray]
    exact hi
  refine ⟨by unfold hasB; rw [e]; rfl, ?_⟩
  unfold setB
  rw [e]
  unfold msF
  simp only [List.modify_toArray, msL_app, msL]
  have := modify_mid (fun e : MapEntry => { e with val := h' }) { key := key, val := h, born := 0 + a.length } (msL b (0 + a.length + 1)) (msL a 0)
  rw [msL_len] at this
  rw [this]

/-! ### What is looked up -/
def keyV (k d : Int) (i : Bool) (o : Int) : Value := .agg #[.int .i64 k, .int .i64 d, .bool i, .int .i64 o]
theorem keyV_inj {k d k' d' : Int} {i i' : Bool} {o o' : Int} : keyV k d i o = keyV k' d' i' o' ↔ k = k' ∧ d = d' ∧ i = i' ∧ o = o' := by
  simp [keyV]
theorem wf64 {n : Int} (h : I64 n) : (Lit.int .i64 n).wf = true := by
  unfold Lit.wf
  have h1 : IntKind.min .i64 = -9223372036854775808 := by decide
  have h2 : IntKind.max .i64 = 9223372036854775807 := by decide
  simp [h1, h2]
  exact h
theorem look_good {k d o : Int} (i : Bool) (hk : I64 k) (hd : I64 d) (ho : I64 o) : goodK Tryz.prog 142 (keyV k d i o) := by
  have h0 : (match Tryz.prog.underlying 142 with
    | some (.struct fs) => decide (fs.toList.map (fun f : Field => (f.type, f.offset)) = [(3, 0), (3, 1), (4, 2), (3, 3)]) && fs.all (fun f : Field => f.name != "_")
    | _ => false) = true := by kernel_rfl
  split at h0 <;> try (cases h0; done)
  rename_i fs hu
  simp only [Bool.and_eq_true, decide_eq_true_eq] at h0
  obtain ⟨h1, h2⟩ := h0
  have hkt : Tryz.prog.keyType 142 = true := by kernel_rfl
  have hc : Tryz.prog.cellsOf 142 = 4 := by kernel_rfl
  have hci : Tryz.prog.cellsOf 3 = 1 := by kernel_rfl
  have hcb : Tryz.prog.cellsOf 4 = 1 := by kernel_rfl
  have hi : Tryz.prog.underlying 3 = some (.int .i64) := by kernel_rfl
  have hb : Tryz.prog.underlying 4 = some .bool := by kernel_rfl
  have hpos : decide (0 < Tryz.prog.types.size) = true := by kernel_rfl
  obtain ⟨m, hm⟩ : ∃ m, Tryz.prog.types.size = m + 1 := ⟨Tryz.prog.types.size - 1, by
    have := of_decide_eq_true hpos
    omega⟩
  have hI : ∀ n, I64 n → Tryz.prog.keyLits (m + 1) 3 [.int .i64 n] = some [.int .i64 n] := by
    intro n hn
    simp [Program.keyLits, hi, wf64 hn]
  have hB : Tryz.prog.keyLits (m + 1) 4 [.bool i] = some [.bool i] := by simp [Program.keyLits, hb]
  have hl : Tryz.prog.keyLits (Tryz.prog.types.size + 1) 142 [.int .i64 k, .int .i64 d, .bool i, .int .i64 o] = some [.int .i64 k, .int .i64 d, .bool i, .int .i64 o] := by
    rw [hm]
    unfold Program.keyLits
    rw [hu]
    simp only [hc, h2]
    have hmm : ∀ l : List (TypeId × Nat), l = fs.toList.map (fun f : Field => (f.type, f.offset)) → (fs.toList.mapM fun f : Field => Tryz.prog.keyLits (m + 1) f.type ((([.int .i64 k, .int .i64 d, .bool i, .int .i64 o] : List Value).drop f.offset).take (Tryz.prog.cellsOf f.type))) = l.mapM fun p => Tryz.prog.keyLits (m + 1) p.1 ((([.int .i64 k, .int .i64 d, .bool i, .int .i64 o] : List Value).drop p.2).take (Tryz.prog.cellsOf p.1)) := by
      rintro l rfl
      rw [List.mapM_map]
      rfl
    rw [hmm _ h1.symm]
    simp [hci, hcb, hI _ hk, hI _ hd, hI _ ho, hB]
  unfold goodK keyBs keyOf
  rw [hu]
  simp only [hkt]
  have hf : (keyV k d i o).formed Tryz.prog 142 = true := by
    simp [keyV, Value.formed, hu, hc]
  have hcs : (keyV k d i o).cells.toList = [.int .i64 k, .int .i64 d, .bool i, .int .i64 o] := rfl
  rw [hf, hcs, hl]
  rfl
theorem look_law : WideMaps.KeyLaw Tryz.prog 142 := by
  have h0 : rmT Tryz.prog 140 = some 142 := by kernel_rfl
  obtain ⟨et, i, fs, h1, h2, h3, h4, K⟩ := rmT_und h0
  exact K

end Go.Proofs.YthlpelkcmmaokaaGreat
end

/- Contracts: reduce's closure that compares two signals. -/
section
namespace Go.Proofs.YthlpelkcmmaokaaGreat
set_option maxHeartbeats 4000000
set_option maxRecDepth 10000

theorem like_none (c : Control) (n : Nat) (x y : Signal) (b3 : Nat) (hf : Fine c) (hn : c.signals[n]? = some y) :
    CallS Tryz.prog 117 [aI (firstC c + n), .rptr (encC c), .ptr 3 b3 0, .rptr (encS x)] [(3, .box b3 [.nils])] fun r H' => r = aB true ∧ H' = [(3, .box b3 [.nils])] := by
  obtain ⟨hl, hy⟩ := List.getElem?_eq_some_iff.1 hn
  have e1 : firstC c + (n : Int) - firstC c = n := by omega
  refine CallS.dropP (K := fun r H' => r = aB true ∧ subP [(3, .box b3 [.nils])] H') (callS_of Tryz.func117 rfl Tryz.ntmps117 (rs := [.tmp 5]) rfl (by kernel_rfl) (by simp) (by kernel_rfl) ?_) ?_
  rotate_left
  · rintro r H' ⟨rfl, h⟩
    exact ⟨_, h, rfl, rfl⟩
  simp
  refine V.draw (fun s => if s = 19 then some (.fn (aI (firstC c))) else none) (by kernel_rfl) (by kernel_rfl) (by simp) ?_
  simp [hn, hl, hy, e1]
  have hsg := hf.sig
  refine ⟨firstQ_fn c hf.sm, by omega, fun b => (subP.refl _).c _⟩

theorem like_end {x y : Signal} {p q r s : Expr} {l : List Int} {b6 b7 b9 : Nat} {e1 e2 : Bool} (c3 : CallFn Tryz.prog 52 [aE x.off, aIs l] (.tuple [aE r, aB e1])) (c4 : CallFn Tryz.prog 52 [aE y.off, aIs l] (.tuple [aE s, aB e2]))
    (c5 : CallFn Tryz.prog 92 [aE p, aE q] (aB (sameX p q))) (c6 : CallFn Tryz.prog 92 [aE r, aE s] (aB (sameX r s))) :
    vcC ⟨Tryz.prog, none, 61⟩ (restC Tryz.f117 5) (hdE [(2, .rptr [.sl (l.map encI)]), (3, .rptr (encS x)), (6, .ptr 6 b6 0), (7, .ptr 7 b7 0), (9, .ptr 9 b9 0)] [])
      [(9, .box b9 ((encE q).map A.dat)), (7, .box b7 ((encE p).map A.dat)), (6, .box b6 (sigA y))] (RetV Tryz.prog [.tmp 5] fun r' H' => (frz H' r').1 ∧ (frz H' r').2 = aB (sameX p q && sameX r s)) := by
  refine vc_rest rfl ?_
  simp [encE_eq]
  refine c3.s ?_
  simp
  intro b11
  refine c4.s ?_
  simp
  intro b13
  refine c5.s ?_
  simp
  refine GCall.fn (aB (sameX r s)) (fun h => ⟨h, c6⟩) ?_
  cases sameX p q <;> simp

theorem like_mid {x y : Signal} {p q r s : Expr} {l : List Int} {b6 : Nat} {e1 e2 e3 e4 : Bool} (c1 : CallFn Tryz.prog 52 [aE x.on, aIs l] (.tuple [aE p, aB e3])) (c2 : CallFn Tryz.prog 52 [aE y.on, aIs l] (.tuple [aE q, aB e4]))
    (c3 : CallFn Tryz.prog 52 [aE x.off, aIs l] (.tuple [aE r, aB e1])) (c4 : CallFn Tryz.prog 52 [aE y.off, aIs l] (.tuple [aE s, aB e2]))
    (c5 : CallFn Tryz.prog 92 [aE p, aE q] (aB (sameX p q))) (c6 : CallFn Tryz.prog 92 [aE r, aE s] (aB (sameX r s))) :
    vcN ⟨Tryz.prog, none, 61⟩ 2 (restC Tryz.f117 3) (hdE [(2, .rptr [.sl (l.map encI)]), (3, .rptr (encS x)), (6, .ptr 6 b6 0)] [])
      [(6, .box b6 (sigA y))] (RetV Tryz.prog [.tmp 5] fun r' H' => (frz H' r').1 ∧ (frz H' r').2 = aB (sameX p q && sameX r s)) := by
  refine vcN_rest rfl ?_
  simp
  refine c1.s ?_
  simp
  intro b7
  refine c2.s ?_
  simp
  intro b9
  refine V.cut [(2, .rptr [.sl (l.map encI)]), (3, .rptr (encS x)), (6, .ptr 6 b6 0), (7, .ptr 7 b7 0), (9, .ptr 9 b9 0)] (by simp) (by simp [encE_eq]) (vc_of_rest rfl (like_end (b6 := b6) (b7 := b7) (b9 := b9) c3 c4 c5 c6))

theorem like_some (c : Control) (l : List Int) (a n : Nat) (x y : Signal) (hf : Fine c) (hc : OkC c) (hx : c.signals[a]? = some x) (hn : c.signals[n]? = some y) (ho : OkO c (some l)) :
    CallFn Tryz.prog 117 [aI (firstC c + n), .rptr (encC c), .rptr [.sl (l.map encI)], .rptr (encS x)] (aB (sameX (repE x.on l) (repE y.on l) && sameX (repE x.off l) (repE y.off l))) := by
  obtain ⟨ha, hx1⟩ := List.getElem?_eq_some_iff.1 hx
  obtain ⟨hb, hy1⟩ := List.getElem?_eq_some_iff.1 hn
  have hsm := hf.sm
  have rx := sig_right hf hx
  have ry := sig_right hf hn
  have ox := hc.sigs x (List.mem_of_getElem? hx)
  have oy := hc.sigs y (List.mem_of_getElem? hn)
  obtain ⟨h1, hI⟩ := ho l rfl
  have r5 : l.length ≤ 1000000 := by
    have := hf.act
    have := hf.inp
    have := hf.sig
    unfold countC at h1
    omega
  have r6 : l ≠ [] := by
    intro e
    rw [e] at h1
    have := hf.act
    unfold countC at h1
    simp at h1
    omega
  rw [← h1] at rx ry
  have o1 := rep_ok hI _ x.on (Nat.lt_succ_self _) ox.on
  have o2 := rep_ok hI _ y.on (Nat.lt_succ_self _) oy.on
  have o3 := rep_ok hI _ x.off (Nat.lt_succ_self _) ox.off
  have o4 := rep_ok hI _ y.off (Nat.lt_succ_self _) oy.off
  have c1 := replaced_fn l r5 _ x.on (Nat.lt_succ_self _) ox.on rx.1
  have c2 := replaced_fn l r5 _ y.on (Nat.lt_succ_self _) oy.on ry.1
  have c3 := replaced_fn l r5 _ x.off (Nat.lt_succ_self _) ox.off rx.2
  have c4 := replaced_fn l r5 _ y.off (Nat.lt_succ_self _) oy.off ry.2
  have c5 := sameE_fn _ _ o1 o2
  have c6 := sameE_fn _ _ o3 o4
  generalize repE x.on l = p at *
  generalize repE y.on l = q at *
  generalize repE x.off l = r at *
  generalize repE y.off l = s at *
  refine callFz_cut 3 Tryz.func117 rfl Tryz.ntmps117 (rs := [.tmp 5]) rfl (by kernel_rfl) (by simp) (by kernel_rfl) ?_
  simp
  refine V.draw (fun s => if s = 19 then some (.fn (aI (firstC c))) else none) (by kernel_rfl) (by kernel_rfl) (by simp) ?_
  have e1 : firstC c + (n : Int) - firstC c = n := by omega
  simp [hn, hb, hy1, e1]
  have hsg := hf.sig
  refine ⟨firstQ_fn c hf.sm, by omega, fun b6 => ⟨r6, V.cutN 2 [(2, .rptr [.sl (l.map encI)]), (3, .rptr (encS x)), (6, .ptr 6 b6 0)] (by simp) (by simp) (vcN_of_rest rfl (like_mid (b6 := b6) c1 c2 c3 c4 c5 c6))⟩⟩

end Go.Proofs.YthlpelkcmmaokaaGreat
end

/- Plain laws: groups of lines that look alike. -/
section
namespace Go.Proofs.YthlpelkcmmaokaaGreat
set_option maxHeartbeats 1000000
set_option maxRecDepth 10000

/-- Are two signals alike behind their keys? -/
def likeX (o : Option (List Int)) (x y : Signal) : Bool := match o with
  | none => true
  | some l => sameX (repE x.on l) (repE y.on l) && sameX (repE x.off l) (repE y.off l)
def likeAt (c : Control) (o : Option (List Int)) (x : Signal) (v : Int) : Bool := match c.signals[(v - firstC c).toNat]? with
  | some y => likeX o x y
  | none => false
def oldAt (o : Option (List Int)) (k : Int) : Int := match o with
  | none => 0
  | some l => l.getD k.toNat 0
def keyX (o : Option (List Int)) (k : Int) (x : Signal) : Value := keyV x.kind x.delay x.init (oldAt o k)
theorem like_at {c : Control} {o : Option (List Int)} {x y : Signal} {m : Nat} (hy : c.signals[m]? = some y) : likeAt c o x (firstC c + m) = likeX o x y := by
  unfold likeAt
  rw [show (firstC c + (m : Int) - firstC c).toNat = m by omega, hy]
theorem same_iff {n : Int} {l : List Int} {x y : Expr} (hx : RightE n x) (hy : RightE n y) (lx : lightE x = true) (ly : lightE y = true) : sameX (repE x l) (repE y l) = true ↔ repE x l = repE y l := by
  unfold sameX
  rw [rep_light hx, rep_light hy, lx, ly]
  simp [eqE_true]
theorem id_key {c : Control} {o : Option (List Int)} (hf : Fine c) {a b : Nat} {x y : Signal} (hx : c.signals[a]? = some x) (hy : c.signals[b]? = some y) :
    idK c o a = idK c o b ↔ keyX o (firstC c + a) x = keyX o (firstC c + b) y ∧ likeX o x y = true := by
  have rx := sig_right hf hx
  have ry := sig_right hf hy
  have lx := fine_light hf hx
  have ly := fine_light hf hy
  unfold idK
  rw [hx, hy, Option.map_some, Option.map_some, Option.some.injEq]
  unfold keyX
  rw [keyV_inj]
  cases o with
  | none => simp [lookK, oldAt, likeX]
  | some l =>
    simp only [lookK, oldAt, likeX, Look.mk.injEq, Option.map_some, Option.some.injEq, Bool.and_eq_true, same_iff rx.1 ry.1 lx.1 ly.1, same_iff rx.2 ry.2 lx.2 ly.2]
    constructor
    · rintro ⟨h1, h2, h3, h4, h5, h6⟩; exact ⟨⟨h1, h2, h3, h4⟩, h5, h6⟩
    · rintro ⟨⟨h1, h2, h3, h4⟩, h5, h6⟩; exact ⟨h1, h2, h3, h4, h5, h6⟩

/-- The groups before a line. -/
structure Fam (c : Control) (o : Option (List Int)) (k : Nat) (fam : List Grp) : Prop where
  good : GoodG Tryz.prog 142 fam
  mem : ∀ g ∈ fam, ∀ v ∈ g.2.2, ∃ (n : Nat) (x : Signal), v = firstC c + n ∧ firstC c + n < k ∧ c.signals[n]? = some x ∧ ownQ c n ∧ leadN c o n = n ∧ keyX o (firstC c + n) x = g.1
  len : ∀ g ∈ fam, g.2.2.length ≤ k
  all : ∀ (n : Nat) (x : Signal), firstC c + n < k → c.signals[n]? = some x → ownQ c n → ∃ g ∈ fam, g.1 = keyX o (firstC c + n) x ∧ firstC c + leadN c o n ∈ g.2.2
theorem Fam.zero (c : Control) (o : Option (List Int)) (h0 : 0 ≤ firstC c) : Fam c o 0 [] :=
  ⟨⟨by simp, by simp⟩, by simp, by simp, by intro n x h; omega⟩
theorem Fam.skip {c : Control} {o : Option (List Int)} {k : Nat} {fam : List Grp} (h : Fam c o k fam) (hk : (k : Int) < firstC c ∨ rootP c k ≠ k) : Fam c o (k + 1) fam := by
  refine ⟨h.good, fun g hg v hv => ?_, fun g hg => Nat.le_succ_of_le (h.len g hg), fun n x hn hx ho => ?_⟩
  · obtain ⟨n, x, h1, h2, h3⟩ := h.mem g hg v hv
    exact ⟨n, x, h1, by omega, h3⟩
  · refine h.all n x ?_ hx ho
    rcases Int.lt_or_le (firstC c + n) k with h1 | h1
    · exact h1
    · have h2 : (k : Int) = firstC c + n := by omega
      rcases hk with hk | hk
      · omega
      · unfold ownQ at ho
        rw [← h2] at ho
        exact absurd ho hk
theorem own_divL {c : Control} {o : Option (List Int)} {k : Int} (h : rootP c k = k) : divL c o k = if k < firstC c then k else firstC c + leadN c o (k - firstC c).toNat := by
  unfold divL
  rw [h]
theorem own_at {c : Control} {o : Option (List Int)} {n : Nat} (h : ownQ c n) : divL c o (firstC c + n) = firstC c + leadN c o n := by
  rw [own_divL h, if_neg (by omega), show (firstC c + (n : Int) - firstC c).toNat = n by omega]
/-- No group has one that is alike: it is the first. -/
theorem Fam.lead {c : Control} {o : Option (List Int)} (hf : Fine c) {n : Nat} {fam : List Grp} {x : Signal} {k : Nat} (h : Fam c o k fam) (hk : (k : Int) = firstC c + n) (hx : c.signals[n]? = some x)
    (hn : ∀ g ∈ fam, g.1 = keyX o k x → ∀ v ∈ g.2.2, likeAt c o x v = false) : leadN c o n = n := by
  refine lead_is (Nat.le_refl _) (fun h => absurd h (Nat.lt_irrefl _)) rfl fun j hj ho e => ?_
  have hnl : n < c.signals.length := (List.getElem?_eq_some_iff.1 hx).1
  have hy : c.signals[j]? = some c.signals[j] := List.getElem?_eq_getElem (by omega)
  obtain ⟨g, hg, h1, h2⟩ := h.all j _ (by omega) hy ho
  obtain ⟨a, b, d, e2⟩ := lead_spec c o j
  have hz : c.signals[leadN c o j]? = some c.signals[leadN c o j] := List.getElem?_eq_getElem (by omega)
  have h3 := (id_key hf hy hx).1 e
  have h4 := (id_key hf hx hz).1 (e.symm.trans d.symm)
  have h5 := hn g hg (by rw [h1, h3.1, hk]) _ h2
  rw [like_at hz, h4.2] at h5
  cases h5
/-- A group that is known by its key. -/
theorem Fam.hit {c : Control} {o : Option (List Int)} (hf : Fine c) {n : Nat} {a b : List Grp} {key h0 : Value} {xs : List Int} {x : Signal} {k : Nat} (h : Fam c o k (a ++ (key, h0, xs) :: b)) (hk : (k : Int) = firstC c + n) (hx : c.signals[n]? = some x) (ho : ownQ c n) (hkey : key = keyX o k x)
    {v : Int} (hv : v ∈ xs) (hl : likeAt c o x v = true) : v = divL c o k ∧ Fam c o (k + 1) (a ++ (key, h0, xs) :: b) := by
  obtain ⟨m, y, h1, h2, h3, h4, h5, h6⟩ := h.mem (key, h0, xs) (by simp) v hv
  subst h1
  rw [like_at h3] at hl
  have h6 : keyX o (firstC c + m) y = key := h6
  have e : idK c o n = idK c o m := (id_key hf hx h3).2 ⟨by rw [h6, hkey, hk], hl⟩
  have hL : leadN c o n = m := (lead_same e ho h4).trans h5
  have e1 : divL c o k = firstC c + m := by rw [hk, own_at ho, hL]
  refine ⟨e1.symm, h.good, fun g hg v hv => ?_, fun g hg => Nat.le_succ_of_le (h.len g hg), fun n' x' hn' hx' ho' => ?_⟩
  · obtain ⟨n, x, h1, h2, h3⟩ := h.mem g hg v hv
    exact ⟨n, x, h1, by omega, h3⟩
  · rcases Int.lt_or_le (firstC c + n') k with h7 | h7
    · exact h.all n' x' h7 hx' ho'
    · have h8 : n' = n := by omega
      subst h8
      rw [hx] at hx'
      cases hx'
      exact ⟨(key, h0, xs), by simp, by rw [← hk]; exact hkey, by rw [hL]; exact hv⟩
theorem nodup_mid {α β : Type} {f : α → β} {a b : List α} {g : α} (h : ((a ++ g :: b).map f).Nodup) : f g ∉ a.map f ∧ f g ∉ b.map f := by
  rw [List.map_append, List.map_cons, List.nodup_append] at h
  obtain ⟨h1, h2, h3⟩ := h
  refine ⟨fun hm => h3 _ hm _ (by simp) rfl, (List.nodup_cons.1 h2).1⟩
theorem Fam.keys {c : Control} {o : Option (List Int)} {k : Nat} {a b : List Grp} {g : Grp} (h : Fam c o k (a ++ g :: b)) : ∀ g' ∈ a ++ g :: b, g'.1 = g.1 → g' = g := by
  have hn := nodup_mid h.good.nodup
  intro g' hg' e
  rcases List.mem_append.1 hg' with h1 | h1
  · exact absurd (e ▸ List.mem_map.2 ⟨g', h1, rfl⟩) hn.1
  · rcases List.mem_cons.1 h1 with h1 | h1
    · exact h1
    · exact absurd (e ▸ List.mem_map.2 ⟨g', h1, rfl⟩) hn.2
theorem Fam.add {c : Control} {o : Option (List Int)} (hf : Fine c) {n : Nat} {a b : List Grp} {key h0 : Value} {xs : List Int} {x : Signal} {k : Nat} (h : Fam c o k (a ++ (key, h0, xs) :: b)) (hk : (k : Int) = firstC c + n) (hx : c.signals[n]? = some x) (ho : ownQ c n) (hkey : key = keyX o k x)
    (hn : ∀ v ∈ xs, likeAt c o x v = false) : divL c o k = k ∧ ∀ h1, Fam c o (k + 1) (a ++ (key, h1, xs ++ [(k : Int)]) :: b) := by
  have hL : leadN c o n = n := h.lead hf hk hx (by
    intro g hg e v hv
    have := h.keys g hg (e.trans hkey.symm)
    rw [this] at hv
    exact hn v hv)
  have hdl : divL c o k = k := by rw [hk, own_at ho, hL]
  refine ⟨hdl, fun h1 => ⟨⟨?_, ?_⟩, fun g hg v hv => ?_, ?_, fun n' x' hn' hx' ho' => ?_⟩⟩
  · have := h.good.nodup
    simpa using this
  · intro g hg
    rcases List.mem_append.1 hg with h2 | h2
    · exact h.good.good g (by simp [h2])
    · rcases List.mem_cons.1 h2 with rfl | h2
      · exact h.good.good (key, h0, xs) (by simp)
      · exact h.good.good g (by simp [h2])
  · have hold : ∀ g' ∈ a ++ (key, h0, xs) :: b, v ∈ g'.2.2 → g'.1 = g.1 → ∃ (n : Nat) (x : Signal), v = firstC c + n ∧ firstC c + n < (k + 1 : Nat) ∧ c.signals[n]? = some x ∧ ownQ c n ∧ leadN c o n = n ∧ keyX o (firstC c + n) x = g.1 := by
      intro g' hg' hv' e
      obtain ⟨n, x, h1, h2, h3⟩ := h.mem g' hg' v hv'
      rw [e] at h3
      exact ⟨n, x, h1, by omega, h3⟩
    rcases List.mem_append.1 hg with h2 | h2
    · exact hold g (by simp [h2]) hv rfl
    · rcases List.mem_cons.1 h2 with rfl | h2
      · rcases List.mem_append.1 hv with h3 | h3
        · exact hold (key, h0, xs) (by simp) h3 rfl
        · simp only [List.mem_cons, List.not_mem_nil, or_false] at h3
          exact ⟨n, x, by omega, by omega, hx, ho, hL, by rw [← hk]; exact hkey.symm⟩
      · exact hold g (by simp [h2]) hv rfl
  · intro g hg
    rcases List.mem_append.1 hg with h2 | h2
    · exact Nat.le_succ_of_le (h.len g (by simp [h2]))
    · rcases List.mem_cons.1 h2 with rfl | h2
      · have := h.len (key, h0, xs) (by simp)
        simp at this ⊢
        exact this
      · exact Nat.le_succ_of_le (h.len g (by simp [h2]))
  · rcases Int.lt_or_le (firstC c + n') k with h7 | h7
    · obtain ⟨g, hg, e1, e2⟩ := h.all n' x' h7 hx' ho'
      rcases List.mem_append.1 hg with h2 | h2
      · exact ⟨g, by simp [h2], e1, e2⟩
      · rcases List.mem_cons.1 h2 with rfl | h2
        · exact ⟨(key, h1, xs ++ [(k : Int)]), by simp, e1, List.mem_append.2 (.inl e2)⟩
        · exact ⟨g, by simp [h2], e1, e2⟩
    · have h8 : n' = n := by omega
      subst h8
      rw [hx] at hx'
      cases hx'
      exact ⟨(key, h1, xs ++ [(k : Int)]), by simp, by rw [← hk]; exact hkey, by rw [hL]; simp; omega⟩
theorem Fam.new {c : Control} {o : Option (List Int)} (hf : Fine c) {n : Nat} {fam : List Grp} {key : Value} {x : Signal} {k : Nat} (h : Fam c o k fam) (hk : (k : Int) = firstC c + n) (hx : c.signals[n]? = some x) (ho : ownQ c n) (hkey : key = keyX o k x)
    (hg0 : goodK Tryz.prog 142 key) (hn : key ∉ fam.map (·.1)) : divL c o k = k ∧ ∀ h1, Fam c o (k + 1) (fam ++ [(key, h1, [(k : Int)])]) := by
  have hL : leadN c o n = n := h.lead hf hk hx (by
    intro g hg e v hv
    exact absurd (List.mem_map.2 ⟨g, hg, e.trans hkey.symm⟩) hn)
  have hdl : divL c o k = k := by rw [hk, own_at ho, hL]
  refine ⟨hdl, fun h1 => ⟨⟨?_, ?_⟩, fun g hg v hv => ?_, ?_, fun n' x' hn' hx' ho' => ?_⟩⟩
  · rw [List.map_append, List.nodup_append]
    refine ⟨h.good.nodup, by simp, ?_⟩
    intro u hu w hw
    simp at hw
    subst hw
    exact fun e => hn (e ▸ hu)
  · intro g hg
    rcases List.mem_append.1 hg with h2 | h2
    · exact h.good.good g h2
    · simp only [List.mem_cons, List.not_mem_nil, or_false] at h2
      subst h2
      exact hg0
  · rcases List.mem_append.1 hg with h2 | h2
    · obtain ⟨n, x, h1, h2, h3⟩ := h.mem g h2 v hv
      exact ⟨n, x, h1, by omega, h3⟩
    · simp only [List.mem_cons, List.not_mem_nil, or_false] at h2
      subst h2
      simp at hv
      exact ⟨n, x, by omega, by omega, hx, ho, hL, by rw [← hk]; exact hkey.symm⟩
  · intro g hg
    rcases List.mem_append.1 hg with h2 | h2
    · exact Nat.le_succ_of_le (h.len g h2)
    · simp only [List.mem_cons, List.not_mem_nil, or_false] at h2
      subst h2
      simp
  · rcases Int.lt_or_le (firstC c + n') k with h7 | h7
    · obtain ⟨g, hg, e1, e2⟩ := h.all n' x' h7 hx' ho'
      exact ⟨g, by simp [hg], e1, e2⟩
    · have h8 : n' = n := by omega
      subst h8
      rw [hx] at hx'
      cases hx'
      exact ⟨(key, h1, [(k : Int)]), by simp, by rw [← hk]; exact hkey, by rw [hL]; simp; omega⟩

/-! ### One group at hand -/
theorem Inv.fam {x : X} {H : Heap} {t : Nat} (h : Inv x H) : Inv x ((t, .seqs []) :: H) := by
  refine ⟨h.bd, ?_, ?_, List.pairwise_cons.2 ⟨?_, h.apart⟩⟩
  · intro p hp
    rcases List.mem_cons.1 hp with rfl | hp
    · exact ⟨by simp, .nil⟩
    · exact h.sat p hp
  · intro p hp b hb
    rcases List.mem_cons.1 hp with rfl | hp
    · obtain ⟨q, hq, _⟩ := hb
      cases hq
    · exact h.own p hp b hb
  · rintro p hp b ⟨q, hq, _⟩
    cases hq
theorem V.fact {P : Program} {C : Cfg} {c : Code} {E : Env} {H : Heap} {Q : PostQ} {p : Prop} (hp : ∀ x H0, Inv x (H ++ H0) → p) (h : p → V C c E H Q) : V C c E H Q := by
  intro hf x act H0 ms hx he
  exact h (hp x _ hx) hf x act H0 ms hx he
theorem row_hd {x : X} {e sz n : Nat} {h : Value} {xs : List Value} (hr : x.w.ownsRow 0 e sz h n xs) : isHd h := by
  rcases hr.2 with h2 | ⟨g, cap, cur, rfl, _⟩
  · exact ⟨_, _, _, h2.1⟩
  · exact ⟨_, _, _, rfl⟩
theorem inv_hd {x : X} {t u : Nat} {q : Sq} {l : List Sq} {H : Heap} (h : Inv x ((u, sq q) :: (t, .seqs l) :: H)) : ∀ s ∈ q :: l, isHd s.1 := by
  intro s hs
  rcases List.mem_cons.1 hs with rfl | hs
  · obtain ⟨xs, h1, _⟩ := h.sat (u, sq s) (by simp)
    exact row_hd h1
  · obtain ⟨xs, h1, _⟩ := (h.sat (t, .seqs l) (by simp)).1 s hs
    exact row_hd h1
/-- What a group is in memory. -/
def rF (g : Grp) : Sq := (g.2.1, 3, 1, g.2.2.map rI)
def nilS : Sq := (.slice none 0 0, 3, 1, [])
theorem Fam.at {c : Control} {o : Option (List Int)} (hf : Fine c) {n : Nat} {fam : List Grp} {x : Signal} {k : Nat} (h : Fam c o k fam) (hk : (k : Int) = firstC c + n) (hx : c.signals[n]? = some x) (ho : ownQ c n)
    {key : Value} (hkey : key = keyX o k x) (hg0 : goodK Tryz.prog 142 key) {q : Sq} {l sp : List Sq} (hp : (q :: l).Perm (fam.map rF ++ sp)) (hhd : ∀ s ∈ q :: l, isHd s.1) :
    ∃ (h0 : Value) (xs : List Int) (l' : List Sq) (fam1 : List Grp) (i : Nat),
      (∀ (X : X) (H : Heap), Inv X ((90, sq q) :: (91, .seqs l) :: H) → Inv X ((90, .seq h0 3 1 (xs.map rI)) :: (91, .seqs l') :: H)) ∧
      valM (findM Tryz.prog 142 (msF fam).toList key) = h0 ∧ isHd h0 ∧ xs.length ≤ k ∧ (∀ v ∈ xs, ∃ (n : Nat) (y : Signal), v = firstC c + n ∧ c.signals[n]? = some y) ∧
      entM Tryz.prog 142 (msF fam) fam.length key = (msF fam1, fam1.length, h0, i) ∧ hasB (msF fam1) i ∧
      (∀ v ∈ xs, likeAt c o x v = true → v = divL c o k ∧ Fam c o (k + 1) fam ∧ ∃ sp', ((h0, 3, 1, xs.map rI) :: l').Perm (fam.map rF ++ sp')) ∧
      ((∀ v ∈ xs, likeAt c o x v = false) → divL c o k = k ∧ ∀ h1, ∃ fam2, setB (msF fam1) i h1 = msF fam2 ∧ fam2.length = fam1.length ∧ Fam c o (k + 1) fam2 ∧ ∃ sp', ((h1, 3, 1, (xs ++ [(k : Int)]).map rI) :: l').Perm (fam2.map rF ++ sp')) := by
  by_cases hin : key ∈ fam.map (·.1)
  · obtain ⟨⟨key', h0, xs⟩, hg, rfl⟩ := List.mem_map.1 hin
    obtain ⟨a, b, rfl⟩ := List.append_of_mem hg
    have hn := (nodup_mid h.good.nodup).1
    have hga : ∀ g ∈ a, goodK Tryz.prog 142 g.1 := fun g hg => h.good.good g (by simp [hg])
    have hpm : ∀ (h1 : Value) (ys : List Int), (rF (key', h1, ys) :: (a.map rF ++ b.map rF ++ sp)).Perm ((a ++ (key', h1, ys) :: b).map rF ++ sp) := by
      intro h1 ys
      rw [List.map_append, List.map_cons, List.append_assoc, List.append_assoc, List.cons_append]
      exact List.perm_middle.symm
    have hp2 := hp.trans (hpm h0 xs).symm
    refine ⟨h0, xs, a.map rF ++ b.map rF ++ sp, a ++ (key', h0, xs) :: b, a.length, fun X H hi => inv_other (b := rF (key', h0, xs)) hp2 hi, ?_, ?_, h.len _ hg, ?_, ent_at look_law hg0 hga hn, (set_at (h' := h0) (xs' := xs)).1, ?_, ?_⟩
    · rw [find_at look_law hg0 hga hn]
      rfl
    · exact hhd (rF (key', h0, xs)) (hp2.mem_iff.2 (by simp))
    · intro v hv
      obtain ⟨n, y, h1, _, h3, _⟩ := h.mem _ hg v hv
      exact ⟨n, y, h1, h3⟩
    · intro v hv hl
      have h1 := h.hit hf hk hx ho hkey hv hl
      exact ⟨h1.1, h1.2, sp, hpm h0 xs⟩
    · intro hno
      have h1 := h.add hf hk hx ho hkey hno
      refine ⟨h1.1, fun h' => ⟨_, set_at.2, by simp, h1.2 h', sp, hpm h' _⟩⟩
  · refine ⟨.slice none 0 0, [], q :: l, fam ++ [(key, .slice none 0 0, [])], fam.length, fun X H hi => Inv.nil (inv_shut hi) ⟨rfl, rfl⟩, ?_, ⟨_, _, _, rfl⟩, Nat.zero_le _, by simp, ?_, (set_at (h' := .slice none 0 0) (xs' := [])).1, by simp, ?_⟩
    · rw [show (msF fam).toList = msL fam 0 from rfl, find_none look_law hg0 h.good.good hin 0]
      rfl
    · rw [ent_new look_law hg0 h.good.good hin]
      simp
    · intro _
      have h1 := h.new hf hk hx ho hkey hg0 hin
      refine ⟨h1.1, fun h' => ⟨_, (set_at (xs' := [(k : Int)])).2, by simp, h1.2 h', sp, ?_⟩⟩
      have e : List.map rF (fam ++ [(key, h', [(k : Int)])]) ++ sp = List.map rF fam ++ (h', 3, 1, ([] ++ [(k : Int)]).map rI) :: sp := by simp [rF]
      rw [e]
      exact (List.Perm.cons _ hp).trans List.perm_middle.symm

/-! ### The lines as they are filled in -/
noncomputable def gL (c : Control) (o : Option (List Int)) (i : Int) : Int := if rootP c i = i then divL c o i else i
noncomputable def outA (c : Control) (o : Option (List Int)) (k : Nat) : List Int := (List.range (countC c).toNat).map fun i => if i < k then gL c o i else 0
noncomputable def outB (c : Control) (o : Option (List Int)) (k : Nat) : List Int := (List.range (countC c).toNat).map fun i => if i < k then divL c o i else gL c o i
theorem set_map {M k : Nat} {f g : Nat → Int} (hk : k < M) (h : ∀ i, i ≠ k → f i = g i) : ((List.range M).map f).set k (g k) = (List.range M).map g := by
  apply List.ext_getElem
  · simp
  · intro i h1 h2
    rw [List.getElem_set]
    simp only [List.length_map, List.length_range] at h2
    split
    · rename_i e
      subst e
      simp
    · rename_i e
      simp
      exact h i (fun h => e h.symm)
theorem outA_zero (c : Control) (o : Option (List Int)) : outA c o 0 = List.replicate (countC c).toNat 0 := by
  unfold outA
  apply List.ext_getElem <;> simp
theorem outA_set {c : Control} {o : Option (List Int)} {k : Nat} (hk : (k : Int) < countC c) : (outA c o k).set k (gL c o k) = outA c o (k + 1) := by
  have := set_map (M := (countC c).toNat) (k := k) (f := fun i => if i < k then gL c o i else 0) (g := fun i => if i < k + 1 then gL c o i else 0) (by omega) (by
    intro i hi
    by_cases h : i < k
    · simp [h, show i < k + 1 by omega]
    · simp [h, show ¬ i < k + 1 by omega])
  simpa [outA] using this
theorem outA_all {c : Control} {o : Option (List Int)} {k : Nat} (hk : countC c ≤ k) : outA c o k = outB c o 0 := by
  unfold outA outB
  apply List.map_congr_left
  intro i hi
  have := List.mem_range.1 hi
  simp [show i < k by omega]
theorem outB_set {c : Control} {o : Option (List Int)} {k : Nat} (hk : (k : Int) < countC c) : (outB c o k).set k (divL c o k) = outB c o (k + 1) := by
  have := set_map (M := (countC c).toNat) (k := k) (f := fun i => if i < k then divL c o i else gL c o i) (g := fun i => if i < k + 1 then divL c o i else gL c o i) (by omega) (by
    intro i hi
    by_cases h : i < k
    · simp [h, show i < k + 1 by omega]
    · simp [h, show ¬ i < k + 1 by omega])
  simpa [outB] using this
theorem outB_all {c : Control} {o : Option (List Int)} {k : Nat} (hk : countC c ≤ k) : outB c o k = divP c o := by
  unfold outB divP
  apply List.map_congr_left
  intro i hi
  have := List.mem_range.1 hi
  simp [show i < k by omega]
theorem outA_len (c : Control) (o : Option (List Int)) (k : Nat) : (outA c o k).length = (countC c).toNat := by simp [outA]
theorem outB_len (c : Control) (o : Option (List Int)) (k : Nat) : (outB c o k).length = (countC c).toNat := by simp [outB]
theorem outB_root {c : Control} (hf : Fine c) {o : Option (List Int)} {k m : Nat} (hk : (k : Int) < countC c) : (outB c o m)[(rootP c k).toNat]? = some (divL c o k) := by
  have hr := root_range hf _ (k : Int) (Nat.le_refl _) ⟨by omega, hk⟩
  have hrr : rootP c (rootP c k) = rootP c k := by rw [root_step hf hr.1, if_neg (by rw [hr.2]; decide)]
  have e : divL c o (rootP c k) = divL c o k := by unfold divL; rw [hrr]
  unfold outB
  rw [List.getElem?_map, List.getElem?_range (by omega), Option.map_some]
  have e2 : (((rootP c k).toNat : Nat) : Int) = rootP c k := Int.toNat_of_nonneg hr.1.1
  rw [e2]
  unfold gL
  rw [hrr]
  simp [e]

end Go.Proofs.YthlpelkcmmaokaaGreat
end
