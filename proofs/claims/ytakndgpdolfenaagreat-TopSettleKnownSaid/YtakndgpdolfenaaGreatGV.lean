/- Texts joined by a program: Va, Vb, Ve, Vf, Vc, Vd, Vg, Vh. -/
import Derived.Test.YtakndgpdolfenaaGreatG4
import Derived.Test.YtakndgpdolfenaaGreatG2
set_option linter.unusedSimpArgs false
set_option linter.unusedVariables false

/- Laws of chapter 28: Round, Rests, Rounds; Settle; Unknown. -/
section
namespace Go.Proofs.YtakndgpdolfenaaGreat
set_option maxHeartbeats 4000000
set_option maxRecDepth 10000

theorem finalP_len (c : Control) (l : List Int) : (finalP c l).length = l.length := itP_len c l _
end Go.Proofs.YtakndgpdolfenaaGreat
end

/- Plain: what is at rest; a course of rounds. -/
section
namespace Go.Proofs.YtakndgpdolfenaaGreat
set_option maxHeartbeats 1000000

/-- After n rounds. -/
def afterN (c : Control) (s : State) : Nat → State
  | 0 => s
  | n + 1 => afterN c (roundS c s) n
theorem gates_at {c : Control} {s : State} (hsh : shapeS c s) (hr : roundS c s = s) : gatesP c s = s := by
  have hg := gates_shape hsh
  have e : (gatesP c s).values = s.values := by
    apply List.ext_getElem?
    intro i
    rcases Nat.lt_or_ge i c.signals.length with hi | hi
    · have hx : c.signals[i]? = some c.signals[i] := List.getElem?_eq_getElem hi
      by_cases hk : c.signals[i].kind = 0
      · have hl1 := hg.2.2.2.1
        have hl2 := hg.2.2.2.2
        have hv : (gatesP c s).values[i]? = some (gatesP c s).values[i] := List.getElem?_eq_getElem (by omega)
        have ht : (gatesP c s).timers[i]? = some (gatesP c s).timers[i] := List.getElem?_eq_getElem (by omega)
        have h1 : s.values[i]? = (newV c (gatesP c s))[i]? := by
          conv => lhs; rw [← hr]
          rfl
        rw [h1, newV_at hi, sigStep_at hx hv ht, hv, hk]
        rfl
      · exact gates_keep (by simpa [kindAt, hx] using hk)
    · rw [List.getElem?_eq_none (by rw [hg.2.2.2.1]; exact hi), List.getElem?_eq_none (by rw [hsh.2.2.2.1]; exact hi)]
  show { s with values := gvals c s c.signals.length } = s
  have e2 : gvals c s c.signals.length = s.values := e
  rw [e2]
end Go.Proofs.YtakndgpdolfenaaGreat
end

/- Law of chapter 28: what is at rest obeys. -/
section
namespace Go.Proofs.YtakndgpdolfenaaGreat
set_option maxHeartbeats 4000000
set_option maxRecDepth 10000

end Go.Proofs.YtakndgpdolfenaaGreat
end

/- Law of chapter 28: signals at rest. -/
section
namespace Go.Proofs.YtakndgpdolfenaaGreat
set_option maxHeartbeats 4000000
set_option maxRecDepth 10000

end Go.Proofs.YtakndgpdolfenaaGreat
end

/- Plain: what gates were does not matter; a signal that no other uses. -/
section
namespace Go.Proofs.YtakndgpdolfenaaGreat
set_option maxHeartbeats 1000000

/-! ### Without the last signal -/
def cutC (c : Control) (n : Nat) : Control := { c with signals := c.signals.take n }
def cutS (s : State) (n : Nat) : State := { s with values := s.values.take n, timers := s.timers.take n }
/-- The last signal, number n, is not used by the others, and no pilot. -/
structure Loose (c : Control) (n : Nat) : Prop where
  len : c.signals.length = n + 1
  sig : ∀ (i : Nat) (x : Signal), i < n → c.signals[i]? = some x → occE x.on (firstC c + n) = false ∧ occE x.off (firstC c + n) = false
  plus : firstC c + n ∉ c.plus
  minus : firstC c + n ∉ c.minus
end Go.Proofs.YtakndgpdolfenaaGreat
end

/- Plain: what Unknown does not call unknown has its value. -/
section
namespace Go.Proofs.YtakndgpdolfenaaGreat
set_option maxHeartbeats 1000000

/-- A value 0, 1 or 2 (unknown) tells a truth value. -/
def cov (n : Int) (b : Bool) : Prop := n = 2 ∨ n = if b then 1 else 0
theorem thF_cond (s : Int) (us : List Int) : thF s us = bif us.any (· == s) then s else bif us.any (· == 2) then 2 else 1 - s := by
  unfold thF
  cases h1 : us.any (· == s)
  · rw [if_neg (by simp)]
    cases h2 : us.any (· == 2)
    · rw [if_neg (by simp)]; rfl
    · rw [if_pos rfl]; rfl
  · rw [if_pos rfl]; rfl
theorem aux_and (u : Int) (p q r b : Bool) (h0 : cov u b) (ih : cov (bif p then 0 else bif q then 2 else 1 - 0) r) : cov (bif (u == 0 || p) then 0 else bif (u == 2 || q) then 2 else 1 - 0) (b && r) := by
  unfold cov at h0 ih ⊢
  rcases h0 with rfl | rfl <;> cases p <;> cases q <;> cases r <;> cases b <;> simp at ih ⊢
theorem aux_or (u : Int) (p q r b : Bool) (h0 : cov u b) (ih : cov (bif p then 1 else bif q then 2 else 1 - 1) (!r)) : cov (bif (u == 1 || p) then 1 else bif (u == 2 || q) then 2 else 1 - 1) (!(!b && r)) := by
  unfold cov at h0 ih ⊢
  rcases h0 with rfl | rfl <;> cases p <;> cases q <;> cases r <;> cases b <;> simp at ih ⊢
theorem cov_and : ∀ {us : List Int} {bs : List Bool}, us.length = bs.length → (∀ (i : Nat) (u : Int) (b : Bool), us[i]? = some u → bs[i]? = some b → cov u b) → cov (thF 0 us) (bs.all (· == true))
  | [], [], _, _ => by right; simp [thF]
  | [], _ :: _, h, _ => by simp at h
  | _ :: _, [], h, _ => by simp at h
  | u :: us, b :: bs, hl, h => by
    have ih := cov_and (us := us) (bs := bs) (by simpa using hl) (fun i u' b' h1 h2 => h (i + 1) u' b' (by simpa using h1) (by simpa using h2))
    have h0 := h 0 u b rfl rfl
    rw [thF_cond] at ih ⊢
    simp only [List.any_cons, List.all_cons]
    rw [show (b == true) = b by cases b <;> rfl]
    exact aux_and u _ _ _ b h0 ih
theorem cov_or : ∀ {us : List Int} {bs : List Bool}, us.length = bs.length → (∀ (i : Nat) (u : Int) (b : Bool), us[i]? = some u → bs[i]? = some b → cov u b) → cov (thF 1 us) (!bs.all (· == false))
  | [], [], _, _ => by right; simp [thF]
  | [], _ :: _, h, _ => by simp at h
  | _ :: _, [], h, _ => by simp at h
  | u :: us, b :: bs, hl, h => by
    have ih := cov_or (us := us) (bs := bs) (by simpa using hl) (fun i u' b' h1 h2 => h (i + 1) u' b' (by simpa using h1) (by simpa using h2))
    have h0 := h 0 u b rfl rfl
    rw [thF_cond] at ih ⊢
    simp only [List.any_cons, List.all_cons]
    rw [show (b == false) = !b by cases b <;> rfl]
    exact aux_or u _ _ _ b h0 ih
theorem th_cov {n : Int} {l : List Int} {vs : List Bool} : ∀ (N : Nat) (x : Expr), SizeOf.sizeOf x < N → RightE n x → (∀ k ∈ varsE x, cov (l.getD k.toNat 0) (vs.getD k.toNat false)) → cov (thE x l) (evalE x vs)
  | 0, _, h, _, _ => absurd h (Nat.not_lt_zero _)
  | N + 1, x, hN, hr, hv => by
    obtain ⟨n1, n2, n3, n4, n5⟩ := node_op hr.node
    have hL : ∀ q : List Expr, (∀ k, k ∈ varsL q → k ∈ varsE x) → ∀ y ∈ q, ∀ k ∈ varsE y, k ∈ varsE x := by
      intro q
      induction q with
      | nil => intro _ y hy; cases hy
      | cons z q ih =>
        intro hq y hy k hk
        rcases List.mem_cons.1 hy with rfl | hy
        · exact hq k (by simp [varsL, hk])
        · exact ih (fun k hk => hq k (by simp [varsL, hk])) y hy k hk
    have hargs : ∀ y ∈ x.args, cov (thE y l) (evalE y vs) := fun y hy =>
      th_cov N y (by have := Expr.lt_of_mem hy; omega) (hr.args y hy) fun k hk => hv k (hL x.args (fun k hk => by rw [varsE_eq]; simp [hk]) y hy k hk)
    have hidx : ∀ (i : Nat) (u : Int) (b : Bool), (x.args.map fun y => thE y l)[i]? = some u → (x.args.map fun y => evalE y vs)[i]? = some b → cov u b := by
      intro i u b h1 h2
      rw [List.getElem?_map] at h1 h2
      cases hy : x.args[i]? with
      | none => rw [hy] at h1; cases h1
      | some y =>
        rw [hy] at h1 h2
        cases h1
        cases h2
        exact hargs y (List.mem_of_getElem? hy)
    rw [thE_eq, evalE_eq, thL_map, evalL_map]
    by_cases h0 : x.op = 0
    · rw [if_pos h0, if_pos h0]
      right
      rcases n3 h0 with e | e <;> simp [e]
    · rw [if_neg h0, if_neg h0]
      by_cases h1 : x.op = 1
      · rw [if_pos h1, if_pos h1]
        exact hv _ (by rw [varsE_eq]; simp [h1])
      · rw [if_neg h1, if_neg h1]
        by_cases h2 : x.op = 2
        · rw [if_pos h2, if_pos h2]
          obtain ⟨y, hy⟩ := n5 h2
          have h3 := hargs y (by rw [hy]; simp)
          rw [hy]
          simp only [List.map_cons, List.map_nil, List.all_cons, List.all_nil, Bool.and_true]
          unfold cov at h3 ⊢
          generalize evalE y vs = b at *
          rcases h3 with e | e
          · left; rw [e]; rfl
          · right; rw [e]; cases b <;> simp
        · rw [if_neg h2, if_neg h2]
          by_cases h3 : x.op = 3
          · rw [if_pos h3, if_neg (by omega)]
            exact cov_and (by simp) hidx
          · rw [if_neg h3, if_pos (by omega)]
            exact cov_or (by simp) hidx
theorem cov_join {l : List Int} {u : Int} {b : Bool} (h : u ∈ l) (hc : cov u b) : cov (joinL l) b := by
  cases l with
  | nil => cases h
  | cons v r =>
    simp only [joinL]
    by_cases ha : r.all (· == v) = true
    · rw [if_pos ha]
      rcases List.mem_cons.1 h with rfl | h
      · exact hc
      · have := List.all_eq_true.1 ha u h
        simp only [beq_iff_eq] at this
        rwa [← this]
    · rw [if_neg ha]
      exact .inl rfl
theorem cov_known {n : Int} {b : Bool} (h : cov n b) : (if b then 1 else 0 : Int) ∈ knownL n := by
  unfold knownL
  rcases h with e | e
  · rw [if_pos e]; cases b <;> simp
  · rw [if_neg (by rw [e]; cases b <;> simp), e]; simp
/-- What a signal becomes is among what it might become. -/
theorem cov_might {x : Signal} (hk : x.kind = 1 ∨ x.kind = 2) {own : Int} {v : Bool} {t : Int} {l : List Int} {L : List Bool} (ho : cov own v) (hon : cov (thE x.on l) (evalE x.on L)) (hoff : x.kind = 1 → cov (thE x.off l) (evalE x.off L)) :
    cov (mightP x own l) (stepV x.kind v t (evalE x.on L) (x.kind == 1 && evalE x.off L)).1 := by
  unfold mightP mightL stepV
  rcases hk with hk | hk
  · rw [if_neg (by omega), if_pos hk]
    have h1 := cov_known hon
    have h2 := cov_known (hoff hk)
    refine cov_join (u := if (if evalE x.on L then 1 else 0 : Int) ≠ (if evalE x.off L then 1 else 0) then (if evalE x.on L then 1 else 0) else own) ?_ ?_
    · refine List.mem_flatMap.2 ⟨_, h1, ?_⟩
      exact List.mem_map.2 ⟨_, h2, rfl⟩
    · have e : (x.kind == 1) = true := by simp [hk]
      rw [e]
      cases evalE x.on L <;> cases evalE x.off L <;> simp [cov] at ho ⊢ <;> exact ho
  · rw [if_pos hk, if_neg (by omega), if_pos hk]
    have h1 := cov_known hon
    refine cov_join (u := if (if evalE x.on L then 1 else 0 : Int) = 0 then 0 else own) ?_ ?_
    · exact List.mem_map.2 ⟨_, h1, rfl⟩
    · cases evalE x.on L
      · right; simp
      · simpa using ho

/-! ### What has come to rest -/
structure Fix (c : Control) (F : List Int) : Prop where
  len : (F.length : Int) = countC c
  gate : ∀ (i : Nat) (x : Signal), c.signals[i]? = some x → x.kind = 0 → F[atP c i]? = some (thE x.on F)
  sig : ∀ (i : Nat) (x : Signal), c.signals[i]? = some x → x.kind ≠ 0 → F[atP c i]? = some (joinL [F.getD (atP c i) 0, mightP x (F.getD (atP c i) 0) F])
theorem final_rest {c : Control} (hf : Fine c) {l : List Int} (hl : (l.length : Int) = countC c) : againP c (finalP c l) = finalP c l := by
  have h := it_rest hf hl
  have h1 : finalP c l = itP c l (c.signals.length + 1) ∨ c.signals.length = 0 := by
    rcases Nat.eq_zero_or_pos c.signals.length with h0 | h0
    · exact .inr h0
    · exact .inl (it_fix h _ (by omega))
  have h2 : finalP c l = itP c l (c.signals.length + 1) := it_fix h _ (by omega)
  rw [h2]
  exact h
theorem fix_of {c : Control} (hf : Fine c) {F : List Int} (hl : (F.length : Int) = countC c) (h : againP c F = F) : Fix c F := by
  have h0 : 0 ≤ firstC c := by have := hf.act; unfold firstC; omega
  have hcn : countC c = firstC c + c.signals.length := rfl
  have hg : gateT c F c.signals.length = F := by
    apply List.ext_getElem?
    intro k
    by_cases hst : stillK c k
    · rw [gateT_keep h0 _ (.inl hst)]
    · rw [← nextT_keep (l := gateT c F c.signals.length) h0 c.signals.length (.inl hst)]
      exact congrArg (fun l : List Int => l[k]?) h
  have hat : ∀ i, i < c.signals.length → atP c i < F.length := fun i hi => by simp only [atP]; omega
  have hgi : ∀ i, i ≤ c.signals.length → gateT c F i = F := by
    intro i
    induction i with
    | zero => intro _; rfl
    | succ i ih =>
      intro hi
      have hx : c.signals[i]? = some c.signals[i] := List.getElem?_eq_getElem (by omega)
      apply List.ext_getElem?
      intro k
      by_cases hk : k = atP c i
      · subst hk
        rw [← gateT_stay h0 c.signals.length (by omega), hg]
      · rw [gateT_at hx, ih (by omega)]
        split
        · rw [List.getElem?_set_ne (by omega)]
        · rfl
  refine ⟨hl, fun i x hx hk => ?_, fun i x hx hk => ?_⟩
  · obtain ⟨hi, _⟩ := List.getElem?_eq_some_iff.1 hx
    have h1 := hgi (i + 1) (by omega)
    rw [gateT_at hx, if_pos hk, hgi i (by omega)] at h1
    conv => lhs; rw [← h1]
    rw [List.getElem?_set_self (hat i hi)]
  · obtain ⟨hi, _⟩ := List.getElem?_eq_some_iff.1 hx
    have h1 := nextT_value (l := gateT c F c.signals.length) h0 hx hk (by rw [hg]; exact hat i hi) c.signals.length hi
    rw [hg] at h1
    have h2 : nextT c F c.signals.length = F := by
      have := h
      unfold againP at this
      rwa [hg] at this
    rw [h2] at h1
    exact h1
/-- The lines that are no gates begin with their values. -/
def CovS (c : Control) (F : List Int) (s : State) : Prop := ∀ k : Nat, stillK c k → ∀ (n : Int) (b : Bool), F[k]? = some n → (valuesOf s)[k]? = some b → cov n b
def CovL (F : List Int) (vs : List Bool) : Prop := ∀ (k : Nat) (n : Int) (b : Bool), F[k]? = some n → vs[k]? = some b → cov n b
theorem it_still {c : Control} (hf : Fine c) {l : List Int} (hl : (l.length : Int) = countC c) {k : Nat} (hk : stillK c k) : ∀ i, (itP c l i)[k]? = l[k]? ∨ (itP c l i)[k]? = some 2
  | 0 => .inl rfl
  | i + 1 => by
    have h0 : 0 ≤ firstC c := by have := hf.act; unfold firstC; omega
    have hcn : countC c = firstC c + c.signals.length := rfl
    have ih := it_still hf hl hk i
    have hstep : (againP c (itP c l i))[k]? = (itP c l i)[k]? ∨ (againP c (itP c l i))[k]? = some 2 := by
      by_cases h1 : (k : Int) < firstC c ∨ firstC c + c.signals.length ≤ k
      · exact .inl (again_line h0 h1)
      · have e : k = atP c (k - (firstC c).toNat) := by simp only [atP]; omega
        have hil : k - (firstC c).toNat < c.signals.length := by omega
        rw [e]
        refine again_sig h0 (List.getElem?_eq_getElem hil) ?_ (by rw [itP_len]; simp only [atP]; omega)
        rcases hk with h | h | h
        · omega
        · rw [show (k : Int) - firstC c = ((k - (firstC c).toNat : Nat) : Int) by omega] at h
          simpa [kindAt, List.getElem?_eq_getElem hil] using h
        · omega
    rw [itP]
    rcases hstep with h | h
    · rw [h]; exact ih
    · exact .inr h
theorem final_cov {c : Control} (hf : Fine c) {l : List Int} (hl : (l.length : Int) = countC c) {s : State} (h : CovS c l s) : CovS c (finalP c l) s := by
  intro k hk n b h1 h2
  rcases it_still hf hl hk (2 * c.signals.length + 2) with h3 | h3
  · unfold finalP at h1
    rw [h3] at h1
    exact h k hk n b h1 h2
  · unfold finalP at h1
    rw [h3] at h1
    cases h1
    exact .inl rfl
theorem getD_cov {F : List Int} {vs : List Bool} {k : Nat} (hl : F.length = vs.length) (hk : k < F.length) (h : ∀ (n : Int) (b : Bool), F[k]? = some n → vs[k]? = some b → cov n b) : cov (F.getD k 0) (vs.getD k false) := by
  have h1 : F[k]? = some F[k] := List.getElem?_eq_getElem hk
  have h2 : vs[k]? = some vs[k] := List.getElem?_eq_getElem (by omega)
  have := h _ _ h1 h2
  rw [List.getD_eq_getElem?_getD, List.getD_eq_getElem?_getD, h1, h2]
  exact this
/-- A gate's line. -/
theorem sig_line {c : Control} {s : State} (hsh : shapeS c s) (i : Nat) : (valuesOf s)[atP c i]? = s.values[i]? := by
  have hpl := preV_length hsh
  rw [valuesOf_eq, List.getElem?_append_right (by simp only [atP]; omega)]
  congr 1
  simp only [atP]
  omega
theorem pre_line {c : Control} {s t : State} (hs : shapeS c s) (ht : shapeS c t) (he : t.ends = s.ends) (hi : t.inputs = s.inputs) {k : Nat} (hk : (k : Int) < firstC c) : (valuesOf t)[k]? = (valuesOf s)[k]? := by
  have hp : preV t = preV s := by unfold preV; rw [he, hi]
  have hpl := preV_length hs
  rw [valuesOf_eq, valuesOf_eq, hp, List.getElem?_append_left (by omega), List.getElem?_append_left (by omega)]
theorem gates_cov {c : Control} (hf : Fine c) {F : List Int} (hF : Fix c F) {s : State} (hsh : shapeS c s) (h : CovS c F s) : CovL F (valuesOf (gatesP c s)) := by
  have h0 : 0 ≤ firstC c := by have := hf.act; unfold firstC; omega
  have hcn : countC c = firstC c + c.signals.length := rfl
  have hg := gates_shape hsh
  have hlen := valuesOf_length hg
  have hFl := hF.len
  have hstill : ∀ k, stillK c k → (valuesOf (gatesP c s))[k]? = (valuesOf s)[k]? := by
    intro k hk
    by_cases h1 : (k : Int) < firstC c
    · exact pre_line hsh hg rfl rfl h1
    · have e : k = atP c (k - (firstC c).toNat) := by simp only [atP]; omega
      rw [e, sig_line hg, sig_line hsh]
      rcases hk with h2 | h2 | h2
      · omega
      · refine gates_keep ?_
        rw [show (k : Int) - firstC c = ((k - (firstC c).toNat : Nat) : Int) by omega] at h2
        exact h2
      · rw [List.getElem?_eq_none (by rw [hg.2.2.2.1]; omega), List.getElem?_eq_none (by rw [hsh.2.2.2.1]; omega)]
  have key : ∀ m : Nat, ∀ k : Nat, (stillK c k ∨ (k : Int) < firstC c + m) → ∀ n b, F[k]? = some n → (valuesOf (gatesP c s))[k]? = some b → cov n b := by
    intro m
    induction m with
    | zero =>
      intro k hk n b h1 h2
      have hst : stillK c k := by
        rcases hk with hk | hk
        · exact hk
        · exact .inl (by omega)
      rw [hstill k hst] at h2
      exact h k hst n b h1 h2
    | succ m ih =>
      intro k hk n b h1 h2
      by_cases hst : stillK c k
      · exact ih k (.inl hst) n b h1 h2
      · by_cases hlt : (k : Int) < firstC c + m
        · exact ih k (.inr hlt) n b h1 h2
        · have hkm : (k : Int) = firstC c + m := by
            rcases hk with hk | hk
            · exact absurd hk hst
            · omega
          have e : k = atP c m := by simp only [atP]; omega
          have hml : m < c.signals.length := by
            rcases Nat.lt_or_ge m c.signals.length with h3 | h3
            · exact h3
            · exact absurd (.inr (.inr (by omega))) hst
          have hx : c.signals[m]? = some c.signals[m] := List.getElem?_eq_getElem hml
          have hk0 : c.signals[m].kind = 0 := by
            by_cases h3 : c.signals[m].kind = 0
            · exact h3
            · refine absurd (.inr (.inl ?_)) hst
              rw [show (k : Int) - firstC c = (m : Int) by omega]
              simpa [kindAt, hx] using h3
          subst e
          rw [hF.gate m _ hx hk0] at h1
          rw [sig_line hg, gates_gate hf hsh hx hk0] at h2
          cases h1
          cases h2
          have hr := right_of_check (hf.on hx).1
          refine th_cov (SizeOf.sizeOf c.signals[m].on + 1) _ (by omega) hr.1 fun v hv => ?_
          have hvr := vars_check (hf.on hx).1 v hv
          have hlate := late_not hf hx hk0 v hv
          refine getD_cov (by omega) (by omega) (ih v.toNat ?_)
          rcases hlate with h3 | h3
          · exact .inr (by omega)
          · left
            refine .inr (.inl ?_)
            rw [show ((v.toNat : Nat) : Int) = v by omega]
            exact h3
  intro k n b h1 h2
  refine key c.signals.length k ?_ n b h1 h2
  obtain ⟨hk, _⟩ := List.getElem?_eq_some_iff.1 h1
  exact .inr (by omega)
theorem cov_vars {c : Control} {F : List Int} {vs : List Bool} (hl : F.length = vs.length) (hFl : (F.length : Int) = countC c) (h : CovL F vs) {x : Expr} (hx : checkE x (countC c) = 0) : cov (thE x F) (evalE x vs) := by
  refine th_cov (SizeOf.sizeOf x + 1) _ (by omega) (right_of_check hx).1 fun v hv => ?_
  have hvr := vars_check hx v hv
  exact getD_cov hl (by omega) (h v.toNat)
theorem kind_two {c : Control} (hf : Fine c) {i : Nat} {x : Signal} (hx : c.signals[i]? = some x) (h : x.kind ≠ 0) : x.kind = 1 ∨ x.kind = 2 := by
  have := (hf.on hx).2
  omega
theorem cov_eq {F : List Int} {vs ws : List Bool} (h2 : (2 : Int) ∉ F) (hv : F.length = vs.length) (hw : F.length = ws.length) (h : CovL F vs) (g : CovL F ws) : vs = ws := by
  apply List.ext_getElem?
  intro k
  rcases Nat.lt_or_ge k F.length with hk | hk
  · have e1 : F[k]? = some F[k] := List.getElem?_eq_getElem hk
    have e2 : vs[k]? = some vs[k] := List.getElem?_eq_getElem (by omega)
    have e3 : ws[k]? = some ws[k] := List.getElem?_eq_getElem (by omega)
    have a := h k _ _ e1 e2
    have b := g k _ _ e1 e3
    have hne : F[k] ≠ 2 := fun e => h2 (e ▸ List.getElem_mem hk)
    rw [e2, e3]
    unfold cov at a b
    congr 1
    generalize vs[k] = p at *
    generalize ws[k] = q at *
    cases p <;> cases q <;> simp at a b ⊢ <;> omega
  · rw [List.getElem?_eq_none (by omega), List.getElem?_eq_none (by omega)]
theorem values_eq {c : Control} {s t : State} (hs : shapeS c s) (ht : shapeS c t) (h : valuesOf s = valuesOf t) : s.values = t.values := by
  apply List.ext_getElem?
  intro i
  rw [← sig_line hs, ← sig_line ht, h]
end Go.Proofs.YtakndgpdolfenaaGreat
end

/- Law of chapter 28: what does not matter. -/
section
namespace Go.Proofs.YtakndgpdolfenaaGreat
set_option maxHeartbeats 4000000
set_option maxRecDepth 10000

end Go.Proofs.YtakndgpdolfenaaGreat
end

/- Law of chapter 28: what Unknown tells. -/
section
namespace Go.Proofs.YtakndgpdolfenaaGreat
set_option maxHeartbeats 4000000
set_option maxRecDepth 10000

theorem setU_at (c : Control) : ∀ (ks l : List Int) (k : Nat) (n : Int), (setU c l ks)[k]? = some n → n = 2 ∨ (l[k]? = some n ∧ ∀ z ∈ ks, (2 * c.actuators + z).toNat ≠ k)
  | [], l, k, n, h => .inr ⟨h, by simp⟩
  | z :: ks, l, k, n, h => by
    rw [show setU c l (z :: ks) = setU c (l.set (2 * c.actuators + z).toNat 2) ks from rfl] at h
    rcases setU_at c ks _ k n h with h1 | ⟨h1, h2⟩
    · exact .inl h1
    · rw [List.getElem?_set] at h1
      split at h1
      · split at h1
        · cases h1; exact .inl rfl
        · cases h1
      · rename_i hne
        refine .inr ⟨h1, fun y hy => ?_⟩
        rcases List.mem_cons.1 hy with rfl | hy
        · exact hne
        · exact h2 y hy
theorem start_cov {c : Control} {s T : State} {ks : List Int} (hsh : shapeS c s) (hT : shapeS c T) (he : T.ends = s.ends) (hv : T.values = s.values) (hi : ∀ j : Nat, (j : Int) ∉ ks → T.inputs[j]? = s.inputs[j]?) : CovL (startU c s ks) (valuesOf T) := by
  intro k n b h1 h2
  rcases setU_at c ks _ k n h1 with h | ⟨h3, h4⟩
  · exact .inl h
  · right
    unfold numL at h3
    rw [List.getElem?_map] at h3
    have hel := endsV_length s.ends
    have hil : T.inputs.length = s.inputs.length := by rw [hT.2.2.1, hsh.2.2.1]
    have hea := hsh.1
    have e : (valuesOf T)[k]? = (valuesOf s)[k]? := by
      unfold valuesOf
      rw [he, hv, List.append_assoc, List.append_assoc]
      by_cases k1 : k < (endsV s.ends).length
      · rw [List.getElem?_append_left k1, List.getElem?_append_left k1]
      · have hpos : ∀ l : List Bool, (endsV s.ends ++ l)[k]? = l[k - (endsV s.ends).length]? := fun l => List.getElem?_append_right (by omega)
        rw [hpos, hpos]
        by_cases k2 : k - (endsV s.ends).length < s.inputs.length
        · rw [List.getElem?_append_left (by omega), List.getElem?_append_left k2]
          refine hi _ fun hm => h4 _ hm ?_
          omega
        · have hp2 : ∀ l : List Bool, l.length = s.inputs.length → (l ++ s.values)[k - (endsV s.ends).length]? = s.values[k - (endsV s.ends).length - s.inputs.length]? := fun l hl => by
            rw [List.getElem?_append_right (by omega), hl]
          rw [hp2 _ hil, hp2 _ rfl]
    rw [e] at h2
    rw [h2] at h3
    simpa using h3.symm
/-- Is input i unknown? -/
def bitB (w : Int) (i : Nat) : Bool := decide (andI .u8 (shrI .u8 w ((i : Int).tmod 8)) 1 = 1)
end Go.Proofs.YtakndgpdolfenaaGreat
end
