/- Texts joined by a program: Pb, Fwy, Fwx, Fwz, Fxa, Ya, Yb, Yc, El. -/
import Derived.Test.YtbcjnmifflflfaaGreatDoorW13
import Derived.Test.YtbcjnmifflflfaaGreatDoorW10
set_option linter.unusedSimpArgs false
set_option linter.unusedVariables false

section
namespace Go.Proofs.YtbcjnmifflflfaaGreatDoor
set_option maxHeartbeats 1000000
theorem evalE_congr {vs ws : List Bool} : ∀ (N : Nat) (x : Expr), SizeOf.sizeOf x < N → (∀ k ∈ varsE x, vs[k.toNat]? = ws[k.toNat]?) → evalE x vs = evalE x ws
  | 0, _, h, _ => absurd h (Nat.not_lt_zero _)
  | N + 1, x, hN, h => by
    have hL : ∀ l : List Expr, (∀ y ∈ l, y ∈ x.args) → (∀ k ∈ varsL l, vs[k.toNat]? = ws[k.toNat]?) → evalL l vs = evalL l ws := by
      intro l
      induction l with
      | nil => intro _ _; rfl
      | cons y l ih =>
        intro hl hk
        have hm := hl y (by simp)
        simp only [evalL]
        rw [ih (fun z hz => hl z (by simp [hz])) (fun k hkk => hk k (by simp [varsL, hkk])), evalE_congr N y (by have := Expr.lt_of_mem hm; omega) (fun k hkk => hk k (by simp [varsL, hkk]))]
    rw [evalE_eq, evalE_eq, hL x.args (fun _ h => h) (fun k hk => h k (by rw [varsE_eq]; simp [hk]))]
    by_cases hop : x.op = 1
    · have := h x.index (by rw [varsE_eq]; simp [hop])
      simp [hop, List.getD_eq_getElem?_getD, this]
    · simp [hop]
theorem gvals_keep {c : Control} {s : State} {k : Nat} : ∀ j : Nat, (kindAt c k ≠ 0 ∨ j ≤ k ∨ c.signals.length ≤ k) → (gvals c s j)[k]? = s.values[k]?
  | 0, _ => rfl
  | j + 1, h => by
    simp only [gvals]
    split
    · rename_i x hx
      split
      · rename_i hk0
        have hne : j ≠ k := by
          rintro rfl
          obtain ⟨hlt, _⟩ := List.getElem?_eq_some_iff.1 hx
          rcases h with h | h | h
          · apply h; simp [kindAt, hx, hk0]
          · omega
          · omega
        rw [List.getElem?_set_ne hne]
        exact gvals_keep j (by rcases h with h | h | h; exact .inl h; exact .inr (.inl (by omega)); exact .inr (.inr h))
      · exact gvals_keep j (by rcases h with h | h | h; exact .inl h; exact .inr (.inl (by omega)); exact .inr (.inr h))
    · exact gvals_keep j (by rcases h with h | h | h; exact .inl h; exact .inr (.inl (by omega)); exact .inr (.inr h))
theorem gvals_stay {c : Control} {s : State} {k : Nat} : ∀ j : Nat, k < j → (gvals c s j)[k]? = (gvals c s (k + 1))[k]?
  | 0, h => absurd h (Nat.not_lt_zero _)
  | j + 1, h => by
    rcases Nat.lt_or_ge k j with h1 | h1
    · rw [← gvals_stay j h1]
      conv => lhs; unfold gvals
      split
      · split
        · rw [List.getElem?_set_ne (by omega)]
        · rfl
      · rfl
    · obtain rfl : k = j := by omega
      rfl
theorem late_not {c : Control} (hf : Fine c) {i : Nat} {x : Signal} (hx : c.signals[i]? = some x) (hk : x.kind = 0) : ∀ n ∈ varsE x.on, n - firstC c < i ∨ kindAt c (n - firstC c) ≠ 0 := by
  have h := hf.sigs i x hx
  unfold signalE at h
  split at h
  · rename_i h1; exact absurd h h1
  · split at h
    · cases h
    · split at h
      · rename_i h1; exact absurd h h1
      · have hl : lateC c i x.on = false := by
          cases hl : lateC c i x.on
          · rfl
          · simp [gateE, hl, hk] at h
        intro n hn
        rw [lateC_any, List.any_eq_false] at hl
        have := hl n hn
        simp only [Bool.and_eq_true, decide_eq_true_eq, beq_iff_eq, not_and] at this
        rcases Classical.em (n - firstC c < i) with h | h
        · exact .inl h
        · exact .inr (this (by omega))
theorem gate_same {c : Control} (hf : Fine c) {s : State} (hsh : shapeS c s) {i : Nat} {x : Signal} (hx : c.signals[i]? = some x) (hk : x.kind = 0) {m : Nat} (hm : i ≤ m) :
    evalE x.on (preV s ++ gvals c s i) = evalE x.on (preV s ++ gvals c s m) := by
  have hpl := preV_length hsh
  refine evalE_congr (SizeOf.sizeOf x.on + 1) x.on (by omega) fun k hk2 => ?_
  have hv := vars_check (hf.on hx).1 k hk2
  have hl := late_not hf hx hk k hk2
  by_cases h1 : k.toNat < (preV s).length
  · rw [List.getElem?_append_left h1, List.getElem?_append_left h1]
  · rw [List.getElem?_append_right (by omega), List.getElem?_append_right (by omega)]
    obtain ⟨q, hq⟩ : ∃ q : Nat, k - firstC c = q := ⟨(k - firstC c).toNat, by omega⟩
    have e : k.toNat - (preV s).length = q := by omega
    rw [e]
    rw [hq] at hl
    by_cases h2 : kindAt c q ≠ 0
    · rw [gvals_keep i (.inl h2), gvals_keep m (.inl h2)]
    · have h3 : q < i := by rcases hl with h | h; omega; exact absurd h h2
      rw [gvals_stay i h3, gvals_stay m (by omega)]
theorem gates_gate {c : Control} (hf : Fine c) {s : State} (hsh : shapeS c s) {i : Nat} {x : Signal} (hx : c.signals[i]? = some x) (hk : x.kind = 0) : (gatesP c s).values[i]? = some (evalE x.on (valuesOf (gatesP c s))) := by
  obtain ⟨hlt, _⟩ := List.getElem?_eq_some_iff.1 hx
  show (gvals c s c.signals.length)[i]? = some (evalE x.on (preV s ++ gvals c s c.signals.length))
  rw [gvals_stay _ hlt, gvals_at hx, if_pos hk, ← gate_same hf hsh hx hk (Nat.le_of_lt hlt), valuesOf_with]
  rw [List.getElem?_set_self]
  rw [gvals_length, hsh.2.2.2.1]
  exact hlt
theorem gates_keep {c : Control} {s : State} {i : Nat} (h : kindAt c i ≠ 0) : (gatesP c s).values[i]? = s.values[i]? := gvals_keep _ (.inl h)
theorem gates_shape {c : Control} {s : State} (hsh : shapeS c s) : shapeS c (gatesP c s) := by
  obtain ⟨h1, h2, h3, h4, h5⟩ := hsh
  exact ⟨h1, h2, h3, by simp only [gatesP, gvals_length]; exact h4, h5⟩
theorem gates_twice {c : Control} (hf : Fine c) {s : State} (hsh : shapeS c s) : gatesP c (gatesP c s) = gatesP c s := by
  have h : ∀ j, j ≤ c.signals.length → gvals c (gatesP c s) j = (gatesP c s).values := by
    intro j
    induction j with
    | zero => intro _; rfl
    | succ j ih =>
      intro hj
      simp only [gvals]
      split
      · rename_i x hx
        split
        · rename_i hk
          rw [ih (by omega)]
          have := gates_gate hf hsh hx hk
          apply List.ext_getElem?
          intro k
          by_cases e : j = k
          · subst e
            rw [this, List.getElem?_set_self (List.getElem?_eq_some_iff.1 this).1]
          · rw [List.getElem?_set_ne e]
        · exact ih (by omega)
      · exact ih (by omega)
  show { gatesP c s with values := gvals c (gatesP c s) c.signals.length } = gatesP c s
  rw [h _ (Nat.le_refl _)]
theorem gates_right {c : Control} {s : State} (h : rightC c s = 0) : rightC c (gatesP c s) = 0 := by
  obtain ⟨z1, z2, z3⟩ := right_zero h
  have hsh := gates_shape z2
  unfold fitsSt at z3
  rw [if_neg (by simpa using z2)] at z3
  split at z3
  · cases z3
  · rename_i hout
    have hz := firstErr_zero z3
    have e : fitsSt c (gatesP c s) = firstErr (tsE c (gatesP c s)) (List.range s.timers.length) := by
      unfold fitsSt
      rw [if_neg (by simpa using hsh)]
      exact if_neg hout
    have hn : NoE (tsE c (gatesP c s)) s.timers.length := by
      intro i hi
      have h0 := hz i hi
      unfold tsE at h0 ⊢
      obtain ⟨hlv, hlt⟩ : s.values.length = c.signals.length ∧ s.timers.length = c.signals.length := ⟨z2.2.2.2.1, z2.2.2.2.2⟩
      have hx : c.signals[i]? = some c.signals[i] := List.getElem?_eq_getElem (by omega)
      have hv : s.values[i]? = some s.values[i] := List.getElem?_eq_getElem (by omega)
      have ht : s.timers[i]? = some s.timers[i] := List.getElem?_eq_getElem (by omega)
      rw [hx, hv, ht] at h0
      have ht' : (gatesP c s).timers[i]? = some s.timers[i] := ht
      have hlg : (gatesP c s).values.length = c.signals.length := hsh.2.2.2.1
      have hv' : (gatesP c s).values[i]? = some (gatesP c s).values[i] := List.getElem?_eq_getElem (by omega)
      rw [hx, hv', ht']
      simp only at h0 ⊢
      unfold tstE at h0 ⊢
      by_cases hk : c.signals[i].kind = 2
      · have hka : kindAt c i ≠ 0 := by simp [kindAt, hx, hk]
        have hg := gates_keep (s := s) hka
        rw [hv', hv] at hg
        rw [Option.some.inj hg]
        exact h0
      · simp only [hk, ne_eq, not_false_eq_true, true_and, false_and, or_false] at h0 ⊢
        exact h0
    rw [rightC, if_neg (by simpa using z1), e]
    exact firstErr_all hn
theorem light_check {x : Expr} {n : Int} (h : checkE x n = 0) : lightE x = true := by
  rw [← check_same] at h
  unfold refCheckE at h
  cases hl : lightE x
  · rw [hl] at h
    split at h
    · cases h
    · simp at h
  · rfl
theorem light_zero {x : Expr} (h : zeroE x = true) : lightE x = true := by
  have ha : x.args = [] := by
    simp [zeroE] at h
    exact h.2
  rw [light_iff, szE_eq, dpE_eq, ha]
  simp [szL, dpL]
theorem fine_off {c : Control} (hf : Fine c) {i : Nat} {s : Signal} (hi : c.signals[i]? = some s) : lightE s.off = true := by
  have h := hf.sigs i s hi
  have hk := (hf.on hi).2
  unfold signalE at h
  split at h
  · rename_i h1; exact absurd h h1
  · split at h
    · cases h
    · split at h
      · rename_i h1; exact absurd h h1
      · split at h
        · refine light_zero ?_
          cases hz : zeroE s.off
          · unfold gateE at h
            split at h
            · cases h
            · simp [hz] at h
          · rfl
        · split at h
          · unfold memE at h
            split at h
            · rename_i h1; exact absurd h h1
            · rename_i h1; exact light_check (Classical.not_not.1 h1)
          · refine light_zero ?_
            cases hz : zeroE s.off
            · unfold timE at h
              split at h
              · cases h
              · simp [hz] at h
            · rfl
theorem node_op {x : Expr} {n : Int} (h : nodeR x n = 0) : 0 ≤ x.op ∧ x.op < 5 ∧ (x.op = 0 → x.index = 0 ∨ x.index = 1) ∧ (x.op = 1 → 0 ≤ x.index ∧ x.index < n) ∧ (x.op = 2 → ∃ y, x.args = [y]) := by
  unfold nodeR at h
  split at h
  · cases h
  · rename_i h1
    refine ⟨by omega, by omega, ?_, ?_, ?_⟩
    · intro ho
      simp [ho] at h
      split at h
      · cases h
      · omega
    · intro ho
      simp [ho] at h
      split at h
      · cases h
      · omega
    · intro ho
      simp [ho] at h
      have : x.args.length = 1 := by omega
      exact List.length_eq_one_iff.1 this
end Go.Proofs.YtbcjnmifflflfaaGreatDoor
end

section
namespace Go.Proofs.YtbcjnmifflflfaaGreatDoor
variable {P : Program}
theorem rdLs_Ds' {x : X} : ∀ {ls : List L} {vs : List Value}, RdLs x ls vs → Ds x (ls.map A.dat) vs
  | [], [], _ => by simp [Ds]
  | l :: ls, v :: vs, h => by
    simp only [RdLs] at h
    simp only [List.map_cons, Ds, D]
    exact ⟨h.1, rdLs_Ds' h.2⟩
  | [], _ :: _, h => by simp [RdLs] at h
  | _ :: _, [], h => by simp [RdLs] at h
def frzC (H : Heap) : A → Option L
  | .dat l => some l
  | .nils => some (.sl [])
  | .own t h => match hget t H with
    | some (.seq h' _ _ rows) => if allD rows = true then some (.sl (rowsD rows)) else none
    | _ => none
  | _ => none
def hdrOk (H : Heap) : A → Prop
  | .own t h => match hget t H with
    | some (.seq h' _ _ _) => h' = h
    | _ => True
  | _ => True
def frzCs (H : Heap) : List A → Option (List L)
  | [] => some []
  | a :: r => match frzC H a, frzCs H r with
    | some l, some ls => some (l :: ls)
    | _, _ => none
theorem V.frz1 {C : Cfg} {c : Code} {E : Env} {H : Heap} {Q : PostQ} (t : Nat) {τ : Nat} {h : Value} {e sz : Nat} {rows : List (List A)} (hE : E t = .own τ h) (hH : hget τ H = some (.seq h e sz rows)) (hd : allD rows = true)
    (hv : V C c (upd E t (.dat (.sl (rowsD rows)))) (hdel τ H) Q) : V C c E H Q := by
  intro hf x act H0 ms hi he
  have hp := hdel_perm hH
  have hi1 : Inv x ([(τ, .seq h e sz rows)] ++ (hdel τ H ++ (marks ms ++ H0))) := by
    have := hi.perm (hp.symm.append_right (marks ms ++ H0))
    simpa using this
  obtain ⟨y, hw, hle, hi2, hok, _⟩ := hi1.freeze
  have he2 : EnvOK C.n (ms.map mk) y act (upd E t (.dat (.sl (rowsD rows)))) := by
    have hm := he.mono hle
    refine ⟨hm.defers, hm.size, fun s => ?_⟩
    simp only [upd]
    split
    · rename_i hs
      subst hs
      have hv := hm.slot s
      rw [hE] at hv
      simp only [D] at hv ⊢
      rw [hv.1]
      exact seq_data (Ent.sat_step hle (fun b _ => by rw [hw]) (hi1.sat (τ, .seq h e sz rows) (by simp))) (fun b hb => hok b ⟨_, List.mem_singleton.2 rfl, hb⟩) hd
    · exact hm.slot s
  have := hv hf y act H0 ms hi2 he2
  rw [hw] at this
  exact wpIn_mono this fun _ _ _ => Post.le hle fun _ _ _ h => h
theorem CallS.agg {g : FuncId} {ls : List L} {az bz : List A} {H : Heap} {K : A → Heap → Prop} (h : CallS P g (az ++ .agg (ls.map A.dat) :: bz) H K) : CallS P g (az ++ .record ls :: bz) H K := by
  refine ⟨h.1, fun x args H0 hi hd => h.2 x args H0 hi ?_⟩
  have e := List.take_append_drop az.length args.toList
  have ht := hd.take az.length
  have hdr := hd.drop az.length
  simp only [List.take_left, List.drop_left] at ht hdr
  rw [← e]
  refine ht.append ?_
  generalize args.toList.drop az.length = l at hdr
  cases l with
  | nil => simp [Ds] at hdr
  | cons v l =>
    simp only [Ds, D] at hdr ⊢
    obtain ⟨⟨vs, rfl, hr⟩, h2⟩ := hdr
    refine ⟨⟨vs, rfl, ?_⟩, h2⟩
    exact rdLs_Ds' hr
attribute [simp] frzC frzCs hdrOk
end Go.Proofs.YtbcjnmifflflfaaGreatDoor
end

section
namespace Go.Proofs.YtbcjnmifflflfaaGreatDoor
variable {P : Program}
def bslO (P : Program) (t : TypeId) (len : Nat) (ps : List (Nat × A)) : Option (Prop × TypeId × List (List L)) :=
  match slT P t with
  | some e => if len = ps.length ∧ 0 < len then (match rowsA (szT P e) 0 ps with
      | some rows => some (tk P e ≠ 0 ∧ 0 < szT P e ∧ len * szT P e ≤ 16777216 ∧ ((P.info? e).bind (·.zero)).isSome = true, e, rows)
      | none => none) else none
  | none => none
def tightV (u : Value) : Prop := ∃ a n, u = .slice a n n
def vcOpsT (P : Program) (T : List Nat) : List Oper → Env → Heap → (Env → Heap → Prop) → Prop
  | [], E, H, K => K E H
  | o :: rest, E, H, K => o.guard = none ∧ match o.op, T.contains (o.dst.getD 0) with
    | .buildSlice t n ps, true => match bslO P t n (evs E ps.toList) with
      | some (p, e, rows) => (evp E ps.toList ∧ p) ∧ ∀ u, tightV u → vcOpsT P T rest (put E o.dst (.own (o.dst.getD 0) u)) ((o.dst.getD 0, .seq u e (szT P e) (rows.map (·.map A.dat))) :: H) K
      | none => False
    | op, _ => vcOp P op o.dst E H fun E' H' => vcOpsT P T rest E' H' K
def vcCT (C : Cfg) (T : List Nat) : Code → Env → Heap → PostQ → Prop
  | .seq a b, E, H, Q => vcCT C T a E H fun e E' H' => match e with
    | .normal => vcCT C T b E' H' Q
    | .exit i => Q (.exit i) E' H'
    | .ret => Q .ret E' H'
    | _ => False
  | .ret, E, H, Q => Q .ret E H
  | .region id ops d, E, H, Q => match d with
    | false => vcOpsT C.P T ops.toList E H fun E' H' => Q .normal E' H'
    | true => V C (.region id ops true) E H Q
  | _, _, _, _ => False
@[simp] theorem xpH_n : xpH [] = [] := id rfl
@[simp] theorem xpH_box (t b : Nat) (cs : List A) (H : Heap) : xpH ((t, .box b cs) :: H) = (t, .box b cs) :: xpH H := id rfl
@[simp] theorem xpH_seq (t : Nat) (h : Value) (e sz : Nat) (rows : List (List A)) (H : Heap) : xpH ((t, .seq h e sz rows) :: H) = (t, .seq h e sz rows) :: xpH H := id rfl
@[simp] theorem xpH_raw (t b : Nat) (o : Obj) (H : Heap) : xpH ((t, .raw b o) :: H) = (t, .raw b o) :: xpH H := id rfl
@[simp] theorem xpH_map (t b : Nat) (d : TypeDesc) (es : List (L × L)) (H : Heap) : xpH ((t, .map b d es) :: H) = (t, .map b d es) :: xpH H := id rfl
@[simp] theorem xpH_mapS (t b : Nat) (d : TypeDesc) (es : List (L × List L)) (H : Heap) : xpH ((t, .mapS b d es) :: H) = (t, .mapS b d es) :: xpH H := id rfl
@[simp] theorem xpH_seqs (t : Nat) (l : List (Value × TypeId × Nat × List (List A))) (H : Heap) : xpH ((t, .seqs l) :: H) = spreadL (stB t) 0 l ++ xpH H := id rfl
theorem V.drawS {n : Nat} {id : Nat} {ops : Array Oper} {E : Env} {H : Heap} {Q : PostQ} (ρ : Nat → Option CR) (hm : P.follows .mixedOrders = true) (hd : depB ops.toList = true) (hn : (H.map (·.1)).Nodup)
    (h : vcD P ρ ops.toList 0 [] ops.toList E H fun E' H' => Q .normal E' (xpH H')) : V ⟨P, none, n⟩ (.region id ops true) E H Q := by
  have h1 : V ⟨P, none, n⟩ (.region id ops true) E H (fun e E' H' => match e with | .normal => Q .normal E' (xpH H') | e => Q e E' H') := V.draw ρ hm hd hn h
  intro hf x act H0 ms hi he
  refine wpIn_mono (h1 hf x act H0 ms hi he) ?_
  rintro e a' w' ⟨y, E', H', ms', rfl, hle, hi', he', hq⟩
  cases e with
  | normal => exact ⟨y, E', xpH H', ms', rfl, hle, Inv.xp (A0 := []) hi', he', hq⟩
  | exit k => exact ⟨y, E', H', ms', rfl, hle, hi', he', hq⟩
  | ret => exact ⟨y, E', H', ms', rfl, hle, hi', he', hq⟩
  | goto k => exact ⟨y, E', H', ms', rfl, hle, hi', he', hq⟩
  | panic k => exact ⟨y, E', H', ms', rfl, hle, hi', he', hq⟩
  | outgrown => exact ⟨y, E', H', ms', rfl, hle, hi', he', hq⟩
attribute [simp] spreadL hdrsL ownsL stB
attribute [simp] vcCT vcOpsT bslO
end Go.Proofs.YtbcjnmifflflfaaGreatDoor
end

section
namespace Go.Proofs.YtbcjnmifflflfaaGreatDoor
variable {P : Program}
def loopsC : Code → List Code
  | .loop c => c :: loopsC c
  | .seq a b => loopsC a ++ loopsC b
  | .cond _ a b => loopsC a ++ loopsC b
  | .block _ c => loopsC c
  | .scope c => loopsC c
  | _ => []
def loopO (f : Func) (k : Nat) : Option Code := match f.body with
  | some c => (loopsC c)[k]?
  | none => none
def loopC (f : Func) (k : Nat) : Code := (loopO f k).getD .skip
theorem vc_part {f : Func} {k : Nat} {c : Code} {C : Cfg} {E : Env} {H : Heap} {Q : PostQ} (h : loopO f k = some c) (hv : vcC C c E H Q) : vcC C (loopC f k) E H Q := by
  unfold loopC
  rw [h]
  exact hv
theorem vc_of_part {f : Func} {k : Nat} {c : Code} {C : Cfg} {E : Env} {H : Heap} {Q : PostQ} (h : loopO f k = some c) (hv : vcC C (loopC f k) E H Q) : vcC C c E H Q := by
  unfold loopC at hv
  rw [h] at hv
  exact hv
def accC (i : Nat) (r : List Nat) (c : Option Nat) (acc : List (Nat × List Nat × Option Nat)) : List (Nat × List Nat × Option Nat) := match r, c with
  | [], none => acc
  | _, _ => (i, r, c) :: acc
def prsC (i : Nat) (q : List Nat × Option Nat) : List (Nat × List Nat × Option Nat) → List (Nat × Nat) → List (Nat × Nat)
  | [], prs => prs
  | z :: acc, prs => prsC i q acc (if tagC z.2 q = true then (i, z.1) :: prs else prs)
def chkD (ops : List Oper) (prs : List (Nat × Nat)) : Bool := prs.all fun p => dirB ops p.1 p.2 || relB ops p.1 p.2
@[congr] theorem chkD_congr {ops : List Oper} {prs prs' : List (Nat × Nat)} {z : Prop} (_ : (True ∧ True) = z) (h : prs = prs') : chkD ops prs = chkD ops prs' := by rw [h]
@[simp] theorem chkD_nil (ops : List Oper) : chkD ops [] = true := id rfl
@[simp] theorem accC_n (i : Nat) (acc : List (Nat × List Nat × Option Nat)) : accC i [] none acc = acc := id rfl
@[simp] theorem accC_c (i t : Nat) (r : List Nat) (c : Option Nat) (acc : List (Nat × List Nat × Option Nat)) : accC i (t :: r) c acc = (i, t :: r, c) :: acc := id rfl
@[simp] theorem accC_s (i t : Nat) (r : List Nat) (acc : List (Nat × List Nat × Option Nat)) : accC i r (some t) acc = (i, r, some t) :: acc := by cases r <;> rfl
@[simp] theorem prsC_n (i : Nat) (q : List Nat × Option Nat) (prs : List (Nat × Nat)) : prsC i q [] prs = prs := id rfl
@[simp] theorem prsC_c (i : Nat) (q : List Nat × Option Nat) (z : Nat × List Nat × Option Nat) (acc : List (Nat × List Nat × Option Nat)) (prs : List (Nat × Nat)) : prsC i q (z :: acc) prs = prsC i q acc (if tagC z.2 q = true then (i, z.1) :: prs else prs) := id rfl
theorem prsC_chk {ops : List Oper} {i : Nat} {q : List Nat × Option Nat} : ∀ (acc : List (Nat × List Nat × Option Nat)) (prs : List (Nat × Nat)), chkD ops (prsC i q acc prs) = true → chkD ops prs = true ∧ ∀ z ∈ acc, dOr (tagC z.2 q) (dOr (!dirB ops i z.1) (relB ops i z.1)) = true
  | [], prs, h => ⟨h, by simp⟩
  | z :: acc, prs, h => by
    rw [prsC_c] at h
    obtain ⟨h1, h2⟩ := prsC_chk acc _ h
    cases ht : tagC z.2 q with
    | false =>
      rw [ht] at h1
      simp only [Bool.false_eq_true, if_false] at h1
      refine ⟨h1, ?_⟩
      intro z' hz
      rcases List.mem_cons.1 hz with rfl | hz
      · rw [ht, dOr_f]
      · exact h2 z' hz
    | true =>
      rw [ht] at h1
      simp only [if_true, chkD, List.all_cons, Bool.and_eq_true] at h1
      refine ⟨h1.2, ?_⟩
      intro z' hz
      rcases List.mem_cons.1 hz with rfl | hz
      · rw [ht, dOr_t]
        have h3 := h1.1
        cases hd : dirB ops i z'.1 with
        | true => rfl
        | false => rw [hd] at h3; simpa using h3
      · exact h2 z' hz
def vcX (P : Program) (ρ : Nat → Option CR) (ops : List Oper) : Nat → List (Nat × List Nat × Option Nat) → List (Nat × Nat) → List Oper → Env → Heap → (Env → Heap → Prop) → Prop
  | _, _, prs, [], E, H, K => chkD ops prs = true ∧ K E H
  | i, acc, prs, o :: rest, E, H, K => ∀ u b, match fStep P ρ u b ops o E (fun t => hget t H) with
    | some (p, a, ch) => p ∧ vcX P ρ ops (i + 1) (accC i (rdT E o) (chT ch) acc) (prsC i (rdT E o, chT ch) acc prs) rest (put E o.dst a) (happ ch H) K
    | none => False
@[congr] theorem vcX_congr {P : Program} {ρ : Nat → Option CR} {ops : List Oper} {i i' : Nat} {acc acc' : List (Nat × List Nat × Option Nat)} {prs prs' : List (Nat × Nat)} {l l' : List Oper} {E : Env} {H H' : Heap} {K : Env → Heap → Prop} {z : Prop} (_ : (True ∧ True) = z)
    (h1 : i = i') (h2 : acc = acc') (h3 : prs = prs') (h4 : H = H') : vcX P ρ ops i acc prs l E H K = vcX P ρ ops i' acc' prs' l E H' K := by rw [h1, h2, h3, h4]
theorem vcX_D {ρ : Nat → Option CR} {ops : List Oper} {K : Env → Heap → Prop} : ∀ (l : List Oper) (i : Nat) (acc : List (Nat × List Nat × Option Nat)) (prs : List (Nat × Nat)) (E : Env) (H : Heap), vcX P ρ ops i acc prs l E H K →
    chkD ops prs = true ∧ ∀ accD : List (Nat × List Nat × Option Nat), (∀ z ∈ accD, z ∈ acc ∨ z.2 = ([], none)) → vcD P ρ ops i accD l E H K
  | [], i, acc, prs, E, H, h => ⟨h.1, fun _ _ => h.2⟩
  | o :: l, i, acc, prs, E, H, h => by
    simp only [vcX] at h
    constructor
    · have h0 := h .nilIface 0
      split at h0
      · exact (prsC_chk acc prs (vcX_D l _ _ _ _ _ h0.2).1).1
      · exact h0.elim
    · intro accD hacc
      simp only [vcD]
      intro u b
      have h0 := h u b
      split at h0
      · rename_i p a ch hs
        rw [hs]
        obtain ⟨k1, k2⟩ := vcX_D l _ _ _ _ _ h0.2
        obtain ⟨-, k3⟩ := prsC_chk acc prs k1
        refine ⟨h0.1, List.all_eq_true.2 fun z hz => ?_, k2 _ fun z hz => ?_⟩
        · rcases hacc z hz with h1 | h1
          · exact k3 z h1
          · rw [h1]
            have : tagC ([], none) (rdT E o, chT ch) = false := by
              cases hc : chT ch <;> simp [tagC]
            rw [this, dOr_f]
        · rcases List.mem_cons.1 hz with rfl | hz
          · generalize rdT E o = r
            generalize chT ch = c
            cases r with
            | nil => cases c with
              | none => exact .inr rfl
              | some t => exact .inl (by simp)
            | cons t r => exact .inl (by simp)
          · rcases hacc z hz with h1 | h1
            · left
              generalize rdT E o = r
              generalize chT ch = c
              cases r with
              | nil => cases c with
                | none => exact h1
                | some t => simp [h1]
              | cons t r => simp [h1]
            · exact .inr h1
      · exact h0.elim
theorem V.drawX {n : Nat} {id : Nat} {ops : Array Oper} {E : Env} {H : Heap} {Q : PostQ} (ρ : Nat → Option CR) (hm : P.follows .mixedOrders = true) (hd : depB ops.toList = true) (hn : (H.map (·.1)).Nodup)
    (h : vcX P ρ ops.toList 0 [] [] ops.toList E H fun E' H' => Q .normal E' H') : V ⟨P, none, n⟩ (.region id ops true) E H Q :=
  V.draw ρ hm hd hn ((vcX_D _ _ _ _ _ _ h).2 [] (by simp))
attribute [simp] vcX
end Go.Proofs.YtbcjnmifflflfaaGreatDoor
end

section
namespace Go.Proofs.YtbcjnmifflflfaaGreatDoor
variable {P : Program}
def restO : Nat → Code → Option Code
  | 0, c => some c
  | k + 1, .seq _ b => restO k b
  | _, _ => none
def restF (f : Func) (k : Nat) : Option Code := match f.body with
  | some c => restO k c
  | none => none
def restC (f : Func) (k : Nat) : Code := (restF f k).getD .skip
theorem vc_rest {f : Func} {k : Nat} {c : Code} {C : Cfg} {E : Env} {H : Heap} {Q : PostQ} (h : restF f k = some c) (hv : vcC C c E H Q) : vcC C (restC f k) E H Q := by
  unfold restC
  rw [h]
  exact hv
theorem vc_of_rest {f : Func} {k : Nat} {c : Code} {C : Cfg} {E : Env} {H : Heap} {Q : PostQ} (h : restF f k = some c) (hv : vcC C (restC f k) E H Q) : vcC C c E H Q := by
  unfold restC at hv
  rw [h] at hv
  exact hv
def vcN (C : Cfg) : Nat → Code → Env → Heap → PostQ → Prop
  | 0, c, E, H, Q => V C c E H Q
  | k + 1, .seq a b, E, H, Q => vcC C a E H fun e E' H' => match e with
    | .normal => vcN C k b E' H' Q
    | .exit i => Q (.exit i) E' H'
    | .ret => Q .ret E' H'
    | _ => False
  | _ + 1, c, E, H, Q => vcC C c E H Q
theorem vcN_ok {C : Cfg} : ∀ (k : Nat) (c : Code) (E : Env) (H : Heap) (Q : PostQ), fitsC C.n c = true → vcN C k c E H Q → W C c E H Q
  | 0, c, E, H, Q, hf, h => h hf
  | k + 1, c, E, H, Q, hf, h => by
    cases c with
    | seq a b =>
      simp only [fitsC, Bool.and_eq_true] at hf
      refine W.seq ((vcC_ok a E H _ hf.1 h).mono ?_)
      intro e E' H' hq
      cases e with
      | normal => exact vcN_ok k b E' H' Q hf.2 hq
      | exit i => exact hq
      | ret => exact hq
      | goto l => exact hq
      | panic c => exact hq
      | outgrown => exact hq
    | _ => exact vcC_ok _ E H Q hf h
theorem V.cut {C : Cfg} {c : Code} {E : Env} {H Hs : Heap} {Q : PostQ} (kv : List (Nat × A)) (hE : ∀ p ∈ kv, wk (E p.1) p.2) (hH : subN Hs H) (h : vcC C c (hdE kv []) Hs Q) : V C c E H Q := by
  intro hf x act H0 ms hi he
  refine vcC_ok c _ _ _ hf h x act H0 ms (subN_inv hH hi) ⟨he.defers, he.size, ?_⟩
  exact sets_wk he.slot [] _ (by simp) (sets_wk he.slot kv _ hE fun t => by simp [anyE, D])
theorem V.cutN {C : Cfg} (k : Nat) {c : Code} {E : Env} {H Hs : Heap} {Q : PostQ} (kv : List (Nat × A)) (hE : ∀ p ∈ kv, wk (E p.1) p.2) (hH : subN Hs H) (h : vcN C k c (hdE kv []) Hs Q) : V C c E H Q := by
  intro hf x act H0 ms hi he
  refine vcN_ok k c _ _ _ hf h x act H0 ms (subN_inv hH hi) ⟨he.defers, he.size, ?_⟩
  exact sets_wk he.slot [] _ (by simp) (sets_wk he.slot kv _ hE fun t => by simp [anyE, D])
theorem vcN_rest {f : Func} {j k : Nat} {c : Code} {C : Cfg} {E : Env} {H : Heap} {Q : PostQ} (h : restF f j = some c) (hv : vcN C k c E H Q) : vcN C k (restC f j) E H Q := by
  unfold restC
  rw [h]
  exact hv
theorem vcN_of_rest {f : Func} {j k : Nat} {c : Code} {C : Cfg} {E : Env} {H : Heap} {Q : PostQ} (h : restF f j = some c) (hv : vcN C k (restC f j) E H Q) : vcN C k c E H Q := by
  unfold restC at hv
  rw [h] at hv
  exact hv
theorem callS_cut (k : Nat) {g : FuncId} {fn : Func} {c : Code} {n : Nat} {rs : List ResultVar} {az : List A} {H : Heap} {K : A → Heap → Prop} (hf : P.funcs[g]? = some fn) (hb : fn.body = some c) (hn : fn.ntmps = n)
    (hr : fn.results = rs.toArray) (hnm : (fn.name == "runtime.NumGoroutine") = false) (hl : az.length ≤ n) (hfit : fitsC n c = true)
    (h : vcN ⟨P, none, n⟩ k c (envOf az) H (RetV P rs K)) : CallS P g az H K := callS_ofW hf hb hn hr hnm hl hfit (vcN_ok k c _ H _ hfit h)
theorem callFz_cut (k : Nat) {g : FuncId} {fn : Func} {c : Code} {n : Nat} {rs : List ResultVar} {az : List A} {r : A} (hf : P.funcs[g]? = some fn) (hb : fn.body = some c) (hn : fn.ntmps = n)
    (hr : fn.results = rs.toArray) (hnm : (fn.name == "runtime.NumGoroutine") = false) (hl : az.length ≤ n) (hfit : fitsC n c = true)
    (h : vcN ⟨P, none, n⟩ k c (envOf az) [] (RetV P rs fun r' H' => (frz H' r').1 ∧ (frz H' r').2 = r)) : CallFn P g az r :=
  (callS_ofW hf hb hn hr hnm hl hfit (vcN_ok k c _ [] _ hfit h)).frz fun _ _ h => h
attribute [simp] vcN
end Go.Proofs.YtbcjnmifflflfaaGreatDoor
end

section
namespace Go.Proofs.YtbcjnmifflflfaaGreatDoor
set_option maxHeartbeats 4000000
set_option maxRecDepth 10000
theorem firstQ_fn (c : Control) (h : Sm c) : CallFn Tryz.prog 56 [aC c] (aI (firstC c)) := by
  obtain ⟨h1, h2, h3⟩ := h
  refine callFz_of Tryz.func56 rfl Tryz.ntmps56 (rs := [.tmp 2]) rfl (by kernel_rfl) (by simp) (by kernel_rfl) ?_
  simp [firstC]
  omega
theorem linesQ_fn (c : Control) (h : Sm c) : CallFn Tryz.prog 55 [aC c] (aI (countC c)) := by
  refine callFz_of Tryz.func55 rfl Tryz.ntmps55 (rs := [.tmp 2]) rfl (by kernel_rfl) (by simp) (by kernel_rfl) ?_
  simp
  refine V.drawX (fun s => if s = 4 then some (.fn (aI (firstC c))) else none) (by kernel_rfl) (by kernel_rfl) (by simp) ?_
  have := firstQ_fn c h
  obtain ⟨h1, h2, h3⟩ := h
  simp [reads, firstC, countC]
  simp [firstC] at this
  exact ⟨this, by omega, by omega⟩
def repP (c : Control) (line : Int) : Int × Bool := if line < firstC c then (0, false) else match c.signals[(line - firstC c).toNat]? with
  | some x => (x.on.index, x.kind == 0 && x.on.op == 1)
  | none => (0, false)
theorem repeats_fn (c : Control) (line : Int) (hs : Sm c) (h0 : 0 ≤ firstC c) (hl : 0 ≤ line ∧ line < countC c) : CallFn Tryz.prog 231 [aC c, aI line] (.tuple [aI (repP c line).1, aB (repP c line).2]) := by
  have c1 := firstQ_fn c hs
  have hcn : countC c = firstC c + c.signals.length := rfl
  obtain ⟨h1, h2, h3⟩ := hs
  refine callFz_of Tryz.func231 rfl Tryz.ntmps231 (rs := [.tmp 4, .tmp 5]) rfl (by kernel_rfl) (by simp) (by kernel_rfl) ?_
  simp
  refine c1.s ?_
  unfold repP
  by_cases h : line < firstC c
  · simp [h]
  · obtain ⟨i, hi⟩ : ∃ i : Nat, line - firstC c = i := ⟨(line - firstC c).toNat, by omega⟩
    have hil : i < c.signals.length := by omega
    have hx : c.signals[i]? = some c.signals[i] := List.getElem?_eq_getElem hil
    simp [h]
    refine V.drawX (fun s => if s = 15 then some (.fn (aI (firstC c))) else none) (by kernel_rfl) (by kernel_rfl) (by simp) ?_
    simp [hi, hil, hx]
    refine ⟨c1, by omega, fun b => ⟨by kernel_rfl, ?_⟩⟩
    refine V.drawX (fun _ => none) (by kernel_rfl) (by kernel_rfl) (by simp) ?_
    simp [h, hi, hx]
def rootN (c : Control) : Nat → Int → Int
  | 0, l => l
  | k + 1, l => if (repP c l).2 = true then rootN c k (repP c l).1 else l
def rootP (c : Control) (l : Int) : Int := rootN c (c.signals.length + 1) l
def farL (c : Control) (l : Int) : Nat := if firstC c ≤ l ∧ kindAt c (l - firstC c) = 0 then (l - firstC c).toNat + 1 else 0
theorem rep_far {c : Control} (hf : Fine c) {l : Int} (hl : 0 ≤ l ∧ l < countC c) (h : (repP c l).2 = true) : 0 ≤ (repP c l).1 ∧ (repP c l).1 < countC c ∧ farL c (repP c l).1 < farL c l := by
  have h0 : 0 ≤ firstC c := by have := hf.act; unfold firstC; omega
  have hcn : countC c = firstC c + c.signals.length := rfl
  unfold repP at h ⊢
  by_cases h1 : l < firstC c
  · rw [if_pos h1] at h; cases h
  · rw [if_neg h1] at h ⊢
    obtain ⟨i, hi⟩ : ∃ i : Nat, l - firstC c = i := ⟨(l - firstC c).toNat, by omega⟩
    have hil : i < c.signals.length := by omega
    have hx : c.signals[i]? = some c.signals[i] := List.getElem?_eq_getElem hil
    rw [hi, Int.toNat_natCast, hx] at h ⊢
    generalize c.signals[i] = x at *
    simp only [Bool.and_eq_true, beq_iff_eq] at h ⊢
    have hv := vars_check (hf.on hx).1 x.on.index (by rw [varsE_eq]; simp [h.2])
    have hlate := late_not hf hx h.1 x.on.index (by rw [varsE_eq]; simp [h.2])
    refine ⟨hv.1, hv.2, ?_⟩
    have hk : kindAt c (l - firstC c) = 0 := by rw [hi]; simp [kindAt, hx, h.1]
    unfold farL
    rw [if_pos (show firstC c ≤ l ∧ kindAt c (l - firstC c) = 0 from ⟨by omega, hk⟩)]
    split
    · rename_i h2
      rcases hlate with h3 | h3
      · omega
      · exact absurd h2.2 h3
    · omega
theorem far_zero {c : Control} (h0 : 0 ≤ firstC c) {l : Int} (h : farL c l = 0) (hl : l < countC c) : (repP c l).2 = false := by
  have hcn : countC c = firstC c + c.signals.length := rfl
  unfold farL at h
  unfold repP
  by_cases h1 : l < firstC c
  · rw [if_pos h1]
  · rw [if_neg h1]
    split at h
    · omega
    · rename_i h2
      obtain ⟨i, hi⟩ : ∃ i : Nat, l - firstC c = i := ⟨(l - firstC c).toNat, by omega⟩
      have hx : c.signals[i]? = some c.signals[i] := List.getElem?_eq_getElem (by omega)
      rw [hi, Int.toNat_natCast, hx]
      rw [hi] at h2
      simp only [kindAt, Int.toNat_natCast, hx, Option.map_some, Option.getD_some] at h2
      have : ¬ c.signals[i].kind = 0 := fun e => h2 ⟨by omega, e⟩
      simp [this]
theorem far_le {c : Control} (h0 : 0 ≤ firstC c) {l : Int} (hl : l < countC c) : farL c l ≤ c.signals.length := by
  have hcn : countC c = firstC c + c.signals.length := rfl
  unfold farL
  split <;> omega
theorem root_more {c : Control} (hf : Fine c) : ∀ (k : Nat) (l : Int), 0 ≤ l ∧ l < countC c → farL c l ≤ k → ∀ m, k ≤ m → rootN c m l = rootN c k l
  | 0, l, hl, hk, m, _ => by
    have h0 : 0 ≤ firstC c := by have := hf.act; unfold firstC; omega
    have := far_zero h0 (by omega) hl.2
    cases m with
    | zero => rfl
    | succ m => simp [rootN, this]
  | k + 1, l, hl, hk, m, hm => by
    obtain ⟨m, rfl⟩ : ∃ m', m = m' + 1 := ⟨m - 1, by omega⟩
    simp only [rootN]
    split
    · rename_i h
      obtain ⟨a, b, d⟩ := rep_far hf hl h
      exact root_more hf k _ ⟨a, b⟩ (by omega) m (by omega)
    · rfl
theorem root_step {c : Control} (hf : Fine c) {l : Int} (hl : 0 ≤ l ∧ l < countC c) : rootP c l = if (repP c l).2 = true then rootP c (repP c l).1 else l := by
  have h0 : 0 ≤ firstC c := by have := hf.act; unfold firstC; omega
  unfold rootP
  conv => lhs; simp only [rootN]
  split
  · rename_i h
    obtain ⟨a, b, d⟩ := rep_far hf hl h
    exact (root_more hf _ _ ⟨a, b⟩ (far_le h0 b) _ (Nat.le_succ _)).symm
  · rfl
theorem root_range {c : Control} (hf : Fine c) : ∀ (k : Nat) (l : Int), farL c l ≤ k → 0 ≤ l ∧ l < countC c → (0 ≤ rootP c l ∧ rootP c l < countC c) ∧ (repP c (rootP c l)).2 = false := by
  intro k
  induction k with
  | zero =>
    intro l hk hl
    have h0 : 0 ≤ firstC c := by have := hf.act; unfold firstC; omega
    have := far_zero h0 (by omega) hl.2
    rw [root_step hf hl, if_neg (by simp [this])]
    exact ⟨hl, this⟩
  | succ k ih =>
    intro l hk hl
    rw [root_step hf hl]
    by_cases h : (repP c l).2 = true
    · rw [if_pos h]
      obtain ⟨a, b, d⟩ := rep_far hf hl h
      exact ih _ (by omega) ⟨a, b⟩
    · rw [if_neg h]
      exact ⟨hl, by simpa using h⟩
theorem root_fn (c : Control) (line : Int) (hf : Fine c) (hl : 0 ≤ line ∧ line < countC c) : CallFn Tryz.prog 189 [aC c, aI line] (aI (rootP c line)) := by
  have h0 : 0 ≤ firstC c := by have := hf.act; unfold firstC; omega
  refine callFz_of Tryz.func189 rfl Tryz.ntmps189 (rs := [.tmp 4]) rfl (by kernel_rfl) (by simp) (by kernel_rfl) ?_
  simp
  refine V.for' [2] (fun l : Int => [(1, aI l), (4, aI 0)]) (fun _ => []) (fun l => (0 ≤ l ∧ l < countC c) ∧ rootP c l = rootP c line) (fun l => farL c l) line ⟨⟨hl, rfl⟩, by simp, subP.refl _⟩ ?_
  rintro l ⟨hr, he⟩
  have c1 := repeats_fn c l hf.sm h0 hr
  have hst := root_step hf hr
  have hfar := rep_far hf hr
  generalize repP c l = p at *
  obtain ⟨m, b⟩ := p
  simp
  refine c1.s ?_
  cases b
  · simp at hst ⊢
    rw [← he, hst]
  · simp at hst hfar ⊢
    exact ⟨m, ⟨⟨hfar.1, hfar.2.1⟩, by rw [← he, hst]⟩, hfar.2.2, rfl, subP.refl _⟩
end Go.Proofs.YtbcjnmifflflfaaGreatDoor
end

section
namespace Go.Proofs.YtbcjnmifflflfaaGreatDoor
set_option maxHeartbeats 4000000
set_option maxRecDepth 10000
def noneV : Int := -1099511627776
mutual
def repE : Expr → List Int → Expr
  | ⟨op, ix, args⟩, l => if op = 1 then ⟨1, l.getD ix.toNat 0, []⟩ else ⟨op, ix, repL args l⟩
def repL : List Expr → List Int → List Expr
  | [], _ => []
  | x :: xs, l => repE x l :: repL xs l
end
mutual
def okX : Expr → List Int → Bool
  | ⟨op, ix, args⟩, l => if op = 1 then l.getD ix.toNat 0 != noneV else okXs args l
def okXs : List Expr → List Int → Bool
  | [], _ => true
  | x :: xs, l => okX x l && okXs xs l
end
theorem repE_eq (x : Expr) (l : List Int) : repE x l = if x.op = 1 then ⟨1, l.getD x.index.toNat 0, []⟩ else ⟨x.op, x.index, repL x.args l⟩ := by cases x; simp [repE]
theorem okX_eq (x : Expr) (l : List Int) : okX x l = if x.op = 1 then l.getD x.index.toNat 0 != noneV else okXs x.args l := by cases x; simp [okX]
theorem repL_map (l : List Int) : ∀ xs : List Expr, repL xs l = xs.map fun x => repE x l
  | [] => rfl
  | x :: xs => by simp [repL, repL_map l xs]
theorem okXs_all (l : List Int) : ∀ xs : List Expr, okXs xs l = xs.all fun x => okX x l
  | [] => rfl
  | x :: xs => by simp [okXs, okXs_all l xs]
abbrev rX (x : Expr) : List A := (encE x).map A.dat
theorem all_take {α : Type} {p : α → Bool} {l : List α} {i : Nat} {a : α} (h : l[i]? = some a) : (l.take (i + 1)).all p = ((l.take i).all p && p a) := by
  rw [List.take_add_one, h]
  simp
theorem node_len {x : Expr} {n : Int} (h : nodeR x n = 0) : x.args.length ≤ 256 := by
  have h0 := node_op h
  unfold nodeR at h
  by_cases h1 : x.op < 0 ∨ x.op ≥ 5
  · rw [if_pos h1] at h; cases h
  · rw [if_neg h1] at h
    simp only at h
    by_cases h2 : x.op ≤ 1
    · simp only [h2, if_true] at h
      by_cases h3 : (x.args.length : Int) < 0 ∨ (x.args.length : Int) > 0
      · rw [if_pos h3] at h; cases h
      · omega
    · by_cases h4 : x.op = 2
      · obtain ⟨y, hy⟩ := h0.2.2.2.2 h4
        simp [hy]
      · simp only [h2, h4, if_false] at h
        by_cases h3 : (x.args.length : Int) < 2 ∨ (x.args.length : Int) > 256
        · rw [if_pos h3] at h; cases h
        · omega
theorem rowsD_X (xs : List Expr) : rowsD (xs.map rX) = xs.map encE := by
  unfold rowsD rX
  rw [List.map_map]
  apply List.map_congr_left
  intro x _
  simp only [Function.comp, List.map_map]
  have : (unD ∘ A.dat) = id := rfl
  rw [this, List.map_id]
theorem allD_X (xs : List Expr) : allD (xs.map rX) = true := by
  simp [allD, rX, isD]
theorem replaced_fn (l : List Int) (hl : l.length ≤ 1000000) : ∀ (N : Nat) (x : Expr), SizeOf.sizeOf x < N → OkE x → RightE l.length x → CallFn Tryz.prog 59 [aE x, aIs l] (.tuple [aE (repE x l), aB (okX x l)])
  | 0, _, h, _, _ => absurd h (Nat.not_lt_zero _)
  | N + 1, x, hN, hx, hr => by
    obtain ⟨n1, n2, n3, n4, n5⟩ := node_op hr.node
    have hlen := node_len hr.node
    rw [repE_eq, okX_eq]
    refine callFz_of Tryz.func59 rfl Tryz.ntmps59 (rs := [.cell 4 84, .tmp 5]) rfl (by kernel_rfl) (by simp) (by kernel_rfl) ?_
    simp
    intro b4 b6
    by_cases hop : x.op = 1
    · obtain ⟨k1, k2⟩ := n4 hop
      obtain ⟨i, hi⟩ : ∃ i : Nat, x.index = i := ⟨x.index.toNat, by omega⟩
      have hil : i < l.length := by omega
      obtain ⟨v, hv⟩ : ∃ v, l[i]? = some v := ⟨_, List.getElem?_eq_getElem hil⟩
      simp [hop, hi, hv, hil]
      refine V.drawX (fun _ => none) (by kernel_rfl) (by kernel_rfl) (by simp) ?_
      simp [noneV, hop, hi, hv, hil]
    · have ih : ∀ y ∈ x.args, CallFn Tryz.prog 59 [aE y, aIs l] (.tuple [aE (repE y l), aB (okX y l)]) := fun y hy => replaced_fn l hl N y (by have := Expr.lt_of_mem hy; omega) (hx.args y hy) (hr.args y hy)
      rw [repL_map, okXs_all]
      simp [hop]
      refine V.forI (σ := Value) x.args.length [1, 4, 5, 6, 31, 32] (by simp; exact rfl) (fun i _ => [(7, aB ((x.args.take i).all fun y => okX y l)), (33, aI i)])
        (fun i h => if i = 0 then [(6, .box b6 [.dat (.int .i64 x.op), .dat (.int .i64 x.index), .nils])] else [(6, .box b6 [.dat (.int .i64 x.op), .dat (.int .i64 x.index), .own 47 h]), (47, .seq h 84 3 ((x.args.take i).map fun y => rX (repE y l)))])
        (fun _ _ => True) (.slice none 0 0) trivial (by simp) ⟨by simp; exact rfl, by simp⟩ ?_ ?_
      · rintro i h hi -
        obtain ⟨y, hy⟩ : ∃ y, x.args[i] = y := ⟨_, rfl⟩
        have hyo : x.args[i]? = some y := by rw [List.getElem?_eq_getElem hi, hy]
        have hmem : y ∈ x.args := List.mem_of_getElem? hyo
        have ihy := ih y hmem
        rw [all_take hyo, List.take_add_one, hyo]
        generalize ((x.args.take i).all fun y => okX y l) = b1 at *
        generalize okX y l = b2 at *
        cases i with
        | zero =>
          simp [hi, hy, encE_eq]
          intro b9
          refine ihy.s ?_
          simp
          simp [rX, encE_eq]
        | succ i =>
          have hi2 : (i : Int) + 1 < x.args.length := by omega
          have hi3 : (0 : Int) ≤ (i : Int) + 1 := by omega
          simp [hi, hi2, hi3, hy, encE_eq]
          intro b9
          refine ihy.s ?_
          simp
          exact ⟨by omega, by omega, by simp [rX, encE_eq]⟩
      · rintro h -
        rw [List.take_length]
        by_cases h0 : x.args.length = 0
        · have hnil : x.args = [] := List.length_eq_zero_iff.1 h0
          simp [h0, hnil, hop]
        · have e1 : (x.args.map fun y => rX (repE y l)) = (x.args.map fun y => repE y l).map rX := by rw [List.map_map]; rfl
          rw [e1]
          generalize (x.args.map fun y => repE y l) = ys
          have e2 := rowsD_X ys
          have e3 := allD_X ys
          generalize ys.map rX = rows at *
          simp [h0, hop, e2, e3]
end Go.Proofs.YtbcjnmifflflfaaGreatDoor
end

section
namespace Go.Proofs.YtbcjnmifflflfaaGreatDoor
set_option maxHeartbeats 4000000
set_option maxRecDepth 10000
end Go.Proofs.YtbcjnmifflflfaaGreatDoor
end

section
namespace Go.Proofs.YtbcjnmifflflfaaGreatDoor
set_option maxHeartbeats 4000000
set_option maxRecDepth 10000
def allEq {α : Type} (f : α → α → Bool) : List α → List α → Bool
  | [], [] => true
  | a :: us, b :: ws => f a b && allEq f us ws
  | _, _ => false
mutual
def eqE : Expr → Expr → Bool
  | ⟨o, i, us⟩, ⟨p, j, ws⟩ => o == p && i == j && eqL us ws
def eqL : List Expr → List Expr → Bool
  | [], [] => true
  | a :: us, b :: ws => eqE a b && eqL us ws
  | _, _ => false
end
theorem eqL_all : ∀ us ws : List Expr, eqL us ws = allEq eqE us ws
  | [], [] => rfl
  | a :: us, b :: ws => by simp only [eqL, allEq, eqL_all us ws]
  | [], _ :: _ => rfl
  | _ :: _, [] => rfl
theorem eqE_eq (x y : Expr) : eqE x y = (x.op == y.op && x.index == y.index && allEq eqE x.args y.args) := by cases x; cases y; simp [eqE, eqL_all]
theorem allEq_len {α : Type} {f : α → α → Bool} : ∀ {us ws : List α}, allEq f us ws = true → us.length = ws.length
  | [], [], _ => rfl
  | a :: us, b :: ws, h => by simp only [allEq, Bool.and_eq_true] at h; simp [allEq_len h.2]
  | [], _ :: _, h => by simp [allEq] at h
  | _ :: _, [], h => by simp [allEq] at h
theorem allEq_ne {α : Type} {f : α → α → Bool} {us ws : List α} (h : us.length ≠ ws.length) : allEq f us ws = false := by
  cases he : allEq f us ws
  · rfl
  · exact absurd (allEq_len he) h
theorem allEq_drop {α : Type} {f : α → α → Bool} {us ws : List α} {i : Nat} {x y : α} (hx : us[i]? = some x) (hy : ws[i]? = some y) : allEq f (us.drop i) (ws.drop i) = (f x y && allEq f (us.drop (i + 1)) (ws.drop (i + 1))) := by
  obtain ⟨h1, rfl⟩ := List.getElem?_eq_some_iff.1 hx
  obtain ⟨h2, rfl⟩ := List.getElem?_eq_some_iff.1 hy
  rw [List.drop_eq_getElem_cons h1, List.drop_eq_getElem_cons h2, allEq]
theorem EqualFuncE_fn (xs ys : List Expr) (hx : Sh xs) (hy : Sh ys) (eq : Expr → Expr → Bool) (f : FuncId) (hf : ∀ x ∈ xs, ∀ y ∈ ys, CallFn Tryz.prog f [aE x, aE y] (aB (eq x y))) :
    CallFn Tryz.prog 285 [.dat (.sl (xs.map encE)), .dat (.sl (ys.map encE)), .fn f [] []] (aB (allEq eq xs ys)) := by
  refine callFz_of Tryz.func285 rfl Tryz.ntmps285 (rs := [.tmp 6]) rfl (by kernel_rfl) (by simp) (by kernel_rfl) ?_
  by_cases hl : xs.length = ys.length
  · simp [hl]
    refine V.forI (σ := Unit) xs.length [1, 2, 15, 16] (by simp; exact rfl) (fun i _ => [(17, aI i)]) (fun _ _ => []) (fun i _ => allEq eq xs ys = allEq eq (xs.drop i) (ys.drop i)) () (by simp) (by simp) ⟨by simp; exact rfl, by simp⟩ ?_ ?_
    · rintro i - hi hI
      obtain ⟨x, hx1⟩ : ∃ x, xs[i] = x := ⟨_, rfl⟩
      obtain ⟨y, hy1⟩ : ∃ y, ys[i]'(by omega) = y := ⟨_, rfl⟩
      have hxo : xs[i]? = some x := by rw [List.getElem?_eq_getElem hi, hx1]
      have hyo : ys[i]? = some y := by rw [List.getElem?_eq_getElem (by omega), hy1]
      have hc := hf x (List.mem_of_getElem? hxo) y (List.mem_of_getElem? hyo)
      rw [allEq_drop hxo hyo] at hI
      have hi2 : i < ys.length := by omega
      simp [← hl, hi, hx1, hy1, hi2, encE_eq]
      intro b8 b9
      refine hc.s ?_
      cases e : eq x y
      · rw [e] at hI
        simp at hI
        simp [hI]
      · rw [e] at hI
        simp at hI
        simp [hI]
        omega
    · rintro - hI
      rw [List.drop_length, hl, List.drop_length] at hI
      simp [hl, hI, allEq]
  · have hl' : ¬ (xs.length : Int) = ys.length := by omega
    rw [allEq_ne hl]
    simp [hl']
theorem equal_fn : ∀ (N : Nat) (x : Expr), SizeOf.sizeOf x < N → OkE x → ∀ y : Expr, OkE y → CallFn Tryz.prog 245 [aE x, aE y] (aB (eqE x y))
  | 0, _, h, _, _, _ => absurd h (Nat.not_lt_zero _)
  | N + 1, x, hN, hx, y, hy => by
    have ih := EqualFuncE_fn x.args y.args hx.len hy.len eqE 245 fun a ha b hb => equal_fn N a (by have := Expr.lt_of_mem ha; omega) (hx.args a ha) b (hy.args b hb)
    refine callFz_of Tryz.func245 rfl Tryz.ntmps245 (rs := [.tmp 4]) rfl (by kernel_rfl) (by simp) (by kernel_rfl) ?_
    rw [eqE_eq]
    generalize allEq eqE x.args y.args = b at ih ⊢
    simp
    refine GCall.fn (aB b) (fun h => ⟨by first | trivial | exact h, ih⟩) ?_
    simp
def sameX (x y : Expr) : Bool := lightE x && lightE y && eqE x y
theorem meas_light (x : Expr) : lightE x = true ↔ ∃ s, meas x = .ok s := (light_iff x).trans (meas_iff x).symm
theorem sameE_fn (x y : Expr) (hx : OkE x) (hy : OkE y) : CallFn Tryz.prog 191 [aE x, aE y] (aB (sameX x y)) := by
  have c1 := measure_fn x hx
  have c2 := measure_fn y hy
  have c3 := equal_fn (SizeOf.sizeOf x + 1) x (by omega) hx y hy
  have l1 := meas_light x
  have l2 := meas_light y
  refine callFz_of Tryz.func191 rfl Tryz.ntmps191 (rs := [.tmp 4]) rfl (by kernel_rfl) (by simp) (by kernel_rfl) ?_
  simp
  refine V.forI (σ := Unit) 2 [2, 3, 12, 13] (by simp; exact rfl) (fun i _ => [(14, aI i)]) (fun _ _ => []) (fun i _ => (0 < i → lightE x = true) ∧ (1 < i → lightE y = true)) () (by simp) (by simp) ⟨by simp; exact rfl, by simp⟩ ?_ ?_
  · rintro i - hi hI
    have hi' : (i : Int) < 2 := by omega
    obtain rfl | rfl : i = 0 ∨ i = 1 := by omega
    · simp
      intro b6
      refine c1.s ?_
      cases hm : meas x with
      | ok s =>
        have hl := l1.2 ⟨s, hm⟩
        obtain ⟨n, d⟩ := s
        simp [hl]
      | error e =>
        have hl : lightE x = false := by
          cases h : lightE x
          · rfl
          · obtain ⟨s, hs⟩ := l1.1 h; rw [hm] at hs; cases hs
        simp [sameX, hl]
    · simp at hI
      simp
      intro b6
      refine c2.s ?_
      cases hm : meas y with
      | ok s =>
        have hl := l2.2 ⟨s, hm⟩
        obtain ⟨n, d⟩ := s
        simp [hl, hI]
      | error e =>
        have hl : lightE y = false := by
          cases h : lightE y
          · rfl
          · obtain ⟨s, hs⟩ := l2.1 h; rw [hm] at hs; cases hs
        simp [sameX, hl]
  · rintro - hI
    simp at hI
    simp
    refine c3.s ?_
    simp [sameX, hI]
end Go.Proofs.YtbcjnmifflflfaaGreatDoor
end
