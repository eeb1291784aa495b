/- Texts joined by a program: Iz, Ja, Jn, Jo, Jp, Jq, Eha, Ji, Jr, Jb, Jj. -/
import Derived.Test.YtdnkpogfcpjkpaaGreatDoorW23
import Derived.Test.YtdnkpogfcpjkpaaGreatDoorW15
import Derived.Test.YtdnkpogfcpjkpaaGreatDoorW16
import Derived.Test.YtdnkpogfcpjkpaaGreatDoorW14
set_option linter.unusedSimpArgs false
set_option linter.unusedVariables false
set_option linter.unnecessarySimpa false

section
namespace Go.Proofs.YtdnkpogfcpjkpaaGreatDoor
set_option maxHeartbeats 4000000
inductive GearK (c : Control) : Made → Prop
  | sup : GearK c ⟨0, [83], 0, -1, none, -1, -1⟩
  | cyl (a : Nat) (h : (a : Int) < c.actuators) : GearK c ⟨1, letterT a, 0, -1, none, -1, -1⟩
  | lim0 (a : Nat) (h : (a : Int) < c.actuators) : GearK c ⟨6, letterT a ++ [48], 0, -1, none, -1, 2 * a⟩
  | lim1 (a : Nat) (h : (a : Int) < c.actuators) : GearK c ⟨6, letterT a ++ [49], 0, -1, none, -1, 2 * a + 1⟩
  | val (a : Nat) (h : (a : Int) < c.actuators) : GearK c ⟨2, 86 :: letterT a, 0, -1, none, a, -1⟩
  | but (i : Nat) (h : i < c.inputs.length) : GearK c ⟨7, c.inputs.getD i [], 0, -1, none, -1, 2 * c.actuators + i⟩
  | mem (i : Nat) (x : Signal) (h : c.signals[i]? = some x) (k : x.kind = 1) : GearK c ⟨2, ownT c i, 0, i, none, -1, firstC c + i⟩
  | tim (i : Nat) (x : Signal) (h : c.signals[i]? = some x) (k : x.kind = 2) : GearK c ⟨12, ownT c i, x.delay, i, none, -1, firstC c + i⟩
  | inv (i n : Nat) (y : Expr) (h : i < c.signals.length) (k : checkE y (countC c) = 0) : GearK c ⟨5, 78 :: numT n, 0, i, some y, -1, -1⟩
  | twin (i n : Nat) (h : i < c.signals.length) : GearK c ⟨9, 80 :: numT n, 0, i, none, -1, -1⟩
  | shut (i n : Nat) (h : i < c.signals.length) : GearK c ⟨8, 81 :: numT n, 0, i, none, -1, -1⟩
def GearsK (c : Control) (ps : List Made) : Prop := ∀ p ∈ ps, GearK c p
variable {c : Control}
theorem GearsK.nil : GearsK c [] := fun _ h => nomatch h
theorem GearsK.app {l m : List Made} (h : GearsK c l) (h2 : GearsK c m) : GearsK c (l ++ m) := fun q hq => (List.mem_append.1 hq).elim (h q) (h2 q)
theorem GearsK.one {p : Made} (h : GearK c p) : GearsK c [p] := fun q hq => by rw [List.mem_singleton.1 hq]; exact h
theorem twin_k {i : Nat} {op : Int} (hop : op = 3 ∨ op = 4) (h : i < c.signals.length) : ∀ (ps : List Pin) {d : Dl}, GearsK c d.parts → GearsK c (ps.foldl (twinD i (if op = 3 then 9 else 8) (if op = 3 then 80 else 81)) d).parts
  | [], _, hd => hd
  | p :: ps, d, hd => by
    refine twin_k hop h ps (hd.app (.one ?_))
    rcases hop with rfl | rfl
    · exact .twin i _ h
    · exact .shut i _ h
mutual
theorem expr_k (fl : Bool) (pf : Int → Pin) {i : Nat} (hi : i < c.signals.length) : ∀ (x : Expr) (k : Nat), checkE x (countC c) = 0 → GearsK c (exprD fl pf i x k).parts
  | ⟨op, ix, args⟩, k, hc => by
    have h := args_k fl pf hi args k fun y hy => check_arg hc hy
    have hop := node_op (right_of_check hc).1.node
    simp only at hop
    rw [exprD_eq]
    dsimp only
    split
    · exact .nil
    · split
      · exact .nil
      · generalize hr : argsD fl pf i args k = r at *
        split
        · unfold notsD
          cases e : args.head? with
          | none => exact h
          | some y => exact h.app (.one (.inv i _ y hi (check_arg hc (List.mem_of_mem_head? e))))
        · unfold foldD
          obtain ⟨r1, r2, r3, r4⟩ := r
          dsimp only at h ⊢
          cases r4 with
          | nil => exact h
          | cons p ps => exact twin_k (by omega) hi ps h
theorem args_k (fl : Bool) (pf : Int → Pin) {i : Nat} (hi : i < c.signals.length) : ∀ (xs : List Expr) (k : Nat), (∀ y ∈ xs, checkE y (countC c) = 0) → GearsK c (argsD fl pf i xs k).parts
  | [], k, _ => .nil
  | x :: xs, k, h => by
    rw [argsD]
    exact (expr_k fl pf hi x k (h x (by simp))).app (args_k fl pf hi xs _ fun y hy => h y (by simp [hy]))
end
theorem k_fold {f : Dr → Nat → Dr} {N : Nat} (hf : ∀ d i, i < N → GearsK c d.gears → GearsK c (f d i).gears) {d : Dr} (h : GearsK c d.gears) : ∀ j, j ≤ N → GearsK c ((List.range j).foldl f d).gears
  | 0, _ => h
  | j + 1, hj => by
    rw [List.range_succ, List.foldl_append]
    exact hf _ j (by omega) (k_fold hf h j (by omega))
theorem k_act {d : Dr} (h : GearsK c d.gears) {a : Nat} (ha : (a : Int) < c.actuators) : GearsK c (actR d a).gears := (((h.app (.one (.cyl a ha))).app (.one (.lim0 a ha))).app (.one (.lim1 a ha))).app (.one (.val a ha))
theorem k_in {d : Dr} (h : GearsK c d.gears) {i : Nat} (hi : i < c.inputs.length) : GearsK c (inR37 c d i).gears := h.app (.one (.but i hi))
theorem k_sigF {d : Dr} (h : GearsK c d.gears) (i : Nat) : GearsK c (sigF c d i).gears := by
  unfold sigF
  split
  · rename_i x hx
    split
    · rename_i hk
      exact h.app (.one (.mem i x hx hk))
    · split
      · rename_i hk
        exact h.app (.one (.tim i x hx hk))
      · exact h
  · exact h
theorem on_check (hc : checkC c = 0) {i : Nat} {x : Signal} (hx : c.signals[i]? = some x) : checkE x.on (countC c) = 0 ∧ (x.kind = 1 → checkE x.off (countC c) = 0) := by
  have hf := fine_of hc
  have h := sig_parts (hf.sigs i x hx)
  exact ⟨h.2.2.1, fun hk => (h.2.2.2.2.1 hk).1⟩
theorem k_gate (hc : checkC c = 0) {d : Dr} (h : GearsK c d.gears) (i : Nat) : GearsK c (gateR c d i).gears := by
  unfold gateR
  split
  · rename_i x hx
    split
    · exact h.app (expr_k true _ (List.getElem?_eq_some_iff.1 hx).1 x.on _ (on_check hc hx).1)
    · exact h
  · exact h
theorem k_sig (hc : checkC c = 0) {d : Dr} (h : GearsK c d.gears) (i : Nat) : GearsK c (sigR c d i).gears := by
  unfold sigR
  split
  · rename_i x hx
    have hi := (List.getElem?_eq_some_iff.1 hx).1
    have ho := on_check hc hx
    have hk := ((okR_of hc).sig i x hx).1
    split
    · exact h
    · split
      · exact h.app (expr_k true _ hi x.on _ ho.1)
      · exact (h.app (expr_k true _ hi x.on _ ho.1)).app (expr_k true _ hi x.off _ (ho.2 (by omega)))
  · exact h
theorem whole_k (hc : checkC c = 0) : GearsK c (wholeR c).gears := by
  have hR := okR_of hc
  have h0 : GearsK c dr0.gears := .one .sup
  have h1 := k_fold (f := actR) (N := c.actuators.toNat) (fun d i hi h => k_act h (by omega)) h0 _ (Nat.le_refl _)
  have h2 := k_fold (f := inR37 c) (N := c.inputs.length) (fun d i hi h => k_in h hi) h1 _ (Nat.le_refl _)
  have h3 := k_fold (f := sigF c) (N := c.signals.length) (fun d i hi h => k_sigF h i) h2 _ (Nat.le_refl _)
  have h4 := k_fold (f := gateR c) (N := c.signals.length) (fun d i hi h => k_gate hc h i) h3 _ (Nat.le_refl _)
  have h5 := k_fold (f := sigR c) (N := c.signals.length) (fun d i hi h => k_sig hc h i) h4 _ (Nat.le_refl _)
  exact k_fold (f := pilR c) (N := c.actuators.toNat) (fun d i hi h => h) h5 _ (Nat.le_refl _)
end Go.Proofs.YtdnkpogfcpjkpaaGreatDoor
end

section
namespace Go.Proofs.YtdnkpogfcpjkpaaGreatDoor
set_option maxHeartbeats 8000000
set_option maxRecDepth 10000
section
variable {c : Control} {u : State}
structure PlOK (c : Control) (u : State) : Prop where
  ok : OkC c
  sm : SmS u
  rt : rightC c u = 0
theorem in_name {i : Nat} (hi : i < c.inputs.length) (h0 : 0 ≤ c.actuators) : namedC c ((2 * c.actuators.toNat + i : Nat) : Int) = c.inputs[i] := by
  unfold namedC
  rw [if_neg (by omega), if_pos (by unfold firstC; omega), show (((2 * c.actuators.toNat + i : Nat) : Int) - 2 * c.actuators).toNat = i by omega, List.getD_eq_getElem?_getD, List.getElem?_eq_getElem hi]
  rfl
theorem in_small (hc : checkC c = 0) {i : Nat} (hi : i < c.inputs.length) : ∃ b r, c.inputs[i] = b :: r ∧ 97 ≤ b.toNat ∧ b.toNat ≤ 122 ∧ c.inputs[i].length ≤ 24 := by
  obtain ⟨b, r, e, h1, h2⟩ := word_head (ins_word hc _ (List.getElem_mem hi))
  obtain ⟨_, _, h3, _, _⟩ := chk_parts hc
  have h4 := h3 i hi
  unfold inpE at h4
  rw [in_name hi (by have := (okR_of hc).act; omega)] at h4
  exact ⟨b, r, e, h1, h2, (name_parts h4).2.1⟩
end
end Go.Proofs.YtdnkpogfcpjkpaaGreatDoor
end

section
namespace Go.Proofs.YtdnkpogfcpjkpaaGreatDoor
set_option maxHeartbeats 4000000
theorem numT_dig : ∀ (n : Nat) (b : UInt8), b ∈ numT n → clsL b.toNat = 2 := by
  intro n
  induction n using Nat.strongRecOn with
  | ind n ih =>
    intro b hb
    have key : ∀ d, d < 10 → clsL (UInt8.ofNat (48 + d)).toNat = 2 := fun d hd => by
      have : d = 0 ∨ d = 1 ∨ d = 2 ∨ d = 3 ∨ d = 4 ∨ d = 5 ∨ d = 6 ∨ d = 7 ∨ d = 8 ∨ d = 9 := by omega
      rcases this with rfl | rfl | rfl | rfl | rfl | rfl | rfl | rfl | rfl | rfl <;> decide
    unfold numT at hb
    rw [Go.Lib.decDigits] at hb
    split at hb
    · rename_i h
      rw [List.mem_singleton.1 hb]
      exact key n h
    · rcases List.mem_append.1 hb with hb | hb
      · exact ih (n / 10) (by omega) b hb
      · rw [List.mem_singleton.1 hb]
        exact key _ (Nat.mod_lt _ (by omega))
theorem numT_short : ∀ (k n : Nat), n < 10 ^ (k + 1) → (numT n).length ≤ k + 1
  | 0, n, h => by
    unfold numT
    rw [Go.Lib.decDigits, dif_pos (by omega)]
    simp
  | k + 1, n, h => by
    unfold numT
    rw [Go.Lib.decDigits]
    split
    · simp
    · have := numT_short k (n / 10) (by rw [Nat.pow_succ] at h; omega)
      unfold numT at this
      rw [List.length_append, List.length_singleton]
      omega
theorem lnum_word {l : UInt8} (hl : clsL l.toNat = 1) {n : Nat} (hn : n < 10 ^ 20) : WordB (l :: numT n) := by
  refine ⟨⟨l, _, rfl, hl⟩, fun b hb => ?_, ?_⟩
  · unfold LexB
    rcases List.mem_cons.1 hb with rfl | hb
    · rw [hl]; decide
    · rw [numT_dig n b hb]; decide
  · have := numT_short 19 n hn
    rw [List.length_cons]
    omega
theorem mach_words : ∀ n, n ≤ 6 → ([83] :: actN n).all wordR = true := by
  intro n hn
  have : n = 0 ∨ n = 1 ∨ n = 2 ∨ n = 3 ∨ n = 4 ∨ n = 5 ∨ n = 6 := by omega
  rcases this with rfl | rfl | rfl | rfl | rfl | rfl | rfl <;> decide
variable {c : Control}
theorem in_word (hc : checkC c = 0) {s : List UInt8} (hs : s ∈ c.inputs) : WordB s := by
  obtain ⟨i, hi, rfl⟩ := List.getElem_of_mem hs
  obtain ⟨b, r, e, h1, h2, h3⟩ := in_small hc hi
  have hw := ins_word hc _ (List.getElem_mem hi)
  refine ⟨⟨b, r, e, ?_⟩, fun x hx => ?_, h3⟩
  · unfold clsL
    rw [if_neg (by omega), if_pos ⟨h1, h2⟩]
  · rw [e] at hw hx
    simp only [wordS, Bool.not_eq_false, ne_eq, Bool.and_eq_true, decide_eq_true_eq, List.all_eq_true] at hw
    have := hw.2 x hx
    simp only [partB, Bool.or_eq_true, Bool.and_eq_true, decide_eq_true_eq, beq_iff_eq] at this
    unfold LexB clsL
    repeat' split
    all_goals first | decide | omega
theorem whole_nm (h : checkC c = 0) : NmOK ((machineM c).parts.map Made.name) (wholeM c) c.signals.length := by
  obtain ⟨hB, h0⟩ := machine_ok h
  have h1 : ∀ n, NmOK ((machineM c).parts.map Made.name) ((List.range n).foldl (gateM c) (machineM c)) 0 := by
    intro n
    induction n with
    | zero => exact h0
    | succ n ih =>
      rw [List.range_succ, List.foldl_append]
      exact gateM_names hB ih n
  have h2 : ∀ n, NmOK ((machineM c).parts.map Made.name) ((List.range n).foldl (sigM c) ((List.range c.signals.length).foldl (gateM c) (machineM c))) n := by
    intro n
    induction n with
    | zero => exact h1 _
    | succ n ih =>
      rw [List.range_succ, List.foldl_append]
      exact sigM_names hB ih
  have h3 : ∀ n, NmOK ((machineM c).parts.map Made.name) ((List.range n).foldl (pilM c) ((List.range c.signals.length).foldl (sigM c) ((List.range c.signals.length).foldl (gateM c) (machineM c)))) c.signals.length := by
    intro n
    induction n with
    | zero => exact h2 _
    | succ n ih =>
      rw [List.range_succ, List.foldl_append]
      exact pilM_names ih n
  exact h3 _
theorem whole_num (hc : checkC c = 0) : (wholeM c).number ≤ 60000 := by
  have hR := okR_of hc
  have hlen := hR.len
  have f0 := few_start hR
  have f1 := few_gates hR f0 c.signals.length (Nat.le_refl _)
  have f2 := few_sigs hR f1 c.signals.length
  have e : (wholeM c).number = ((List.range c.signals.length).foldl (sigM c) ((List.range c.signals.length).foldl (gateM c) (machineM c))).number := fold_num (f := pilM c) (fun _ _ => rfl) _ _
  rw [e]
  have := f2.2
  omega
theorem whole_word (hc : checkC c = 0) {s : List UInt8} (hs : s ∈ (wholeM c).parts.map Made.name) : WordB s := by
  have hact := (fine_of hc).act
  have hsl := (fine_of hc).sig
  rcases (whole_nm hc).cls s hs with h | ⟨l, i, h1, h2, rfl⟩ | ⟨l, j, h1, h2, rfl⟩
  · rw [machine_names] at h
    have h2 : s ∈ ([83] :: actN c.actuators.toNat) ∨ s ∈ c.inputs := by
      rcases List.mem_cons.1 h with h | h
      · exact .inl (by rw [h]; simp)
      · rcases List.mem_append.1 h with h | h
        · exact .inl (List.mem_cons_of_mem _ h)
        · exact .inr h
    rcases h2 with h2 | h2
    · exact wordR_ok (List.all_eq_true.1 (mach_words c.actuators.toNat (by omega)) s h2)
    · exact in_word hc h2
  · exact lnum_word (by rcases h1 with rfl | rfl <;> decide) (by omega)
  · have := whole_num hc
    exact lnum_word (by rcases h1 with rfl | rfl | rfl <;> decide) (by omega)
end Go.Proofs.YtdnkpogfcpjkpaaGreatDoor
end

section
namespace Go.Proofs.YtdnkpogfcpjkpaaGreatDoor
set_option maxHeartbeats 4000000
variable {c : Control}
theorem name_inj {ps : List Made} (hn : (ps.map Made.name).Nodup) {p q : Made} (hp : p ∈ ps) (hq : q ∈ ps) (h : p.name = q.name) : p = q := by
  obtain ⟨i, hi, rfl⟩ := List.getElem_of_mem hp
  obtain ⟨j, hj, rfl⟩ := List.getElem_of_mem hq
  rw [List.Nodup, List.pairwise_iff_getElem] at hn
  rcases Nat.lt_trichotomy i j with hl | rfl | hl
  · exact absurd (by rw [List.getElem_map, List.getElem_map]; exact h) (hn i j (by simpa using hi) (by simpa using hj) hl)
  · rfl
  · exact absurd (by rw [List.getElem_map, List.getElem_map]; exact h.symm) (hn j i (by simpa using hj) (by simpa using hi) hl)
theorem outs_row : ∀ k, k < 14 → ∀ s ∈ outsK (k : Nat), s ∈ (rowTs k).flatten := by
  refine cat_cases ⟨?_, ?_, ?_, ?_, ?_, ?_, ?_, ?_, ?_, ?_, ?_, ?_, ?_, ?_⟩
  all_goals decide
theorem ins_row : ∀ k, k < 14 → ∀ s ∈ insK (k : Nat), s ∈ (rowTs k).flatten := by
  refine cat_cases ⟨?_, ?_, ?_, ?_, ?_, ?_, ?_, ?_, ?_, ?_, ?_, ?_, ?_, ?_⟩
  all_goals decide
theorem outs_ins : ∀ k, k < 14 → ∀ s ∈ outsK (k : Nat), s ∉ insK (k : Nat) := by
  refine cat_cases ⟨?_, ?_, ?_, ?_, ?_, ?_, ?_, ?_, ?_, ?_, ?_, ?_, ?_, ?_⟩
  all_goals decide
theorem dM_names (hc : checkC c = 0) : ((dM c).parts.map Made.name).Nodup := ((dM_perm hc).map Made.name).nodup_iff.2 (whole_names hc)
theorem dM_k (hc : checkC c = 0) {p : Made} (hp : p ∈ (dM c).parts) : GearK c p := whole_k hc p ((sortB_perm byName _).mem_iff.1 hp)
theorem dM_w (hc : checkC c = 0) {p : Made} : p ∈ (dM c).parts ↔ p ∈ (wholeM c).parts := (dM_perm hc).mem_iff
theorem gear_part (hc : checkC c = 0) {p : Made} (h : GearK c p) : ∃ k : Nat, p.kind = k ∧ k < 14 ∧ (k = 12 → 1 ≤ p.delay ∧ p.delay ≤ 1000000) ∧ (k ≠ 12 → p.delay = 0) := by
  cases h with
  | tim i x hx hk =>
    have hf := fine_of hc
    have h := sig_parts (hf.sigs i x hx)
    exact ⟨12, rfl, by decide, fun _ => (h.2.2.2.2.2 hk).1, fun h => absurd rfl h⟩
  | sup => exact ⟨0, rfl, by decide, fun h => absurd h (by decide), fun _ => rfl⟩
  | cyl => exact ⟨1, rfl, by decide, fun h => absurd h (by decide), fun _ => rfl⟩
  | lim0 => exact ⟨6, rfl, by decide, fun h => absurd h (by decide), fun _ => rfl⟩
  | lim1 => exact ⟨6, rfl, by decide, fun h => absurd h (by decide), fun _ => rfl⟩
  | val => exact ⟨2, rfl, by decide, fun h => absurd h (by decide), fun _ => rfl⟩
  | but => exact ⟨7, rfl, by decide, fun h => absurd h (by decide), fun _ => rfl⟩
  | mem => exact ⟨2, rfl, by decide, fun h => absurd h (by decide), fun _ => rfl⟩
  | inv => exact ⟨5, rfl, by decide, fun h => absurd h (by decide), fun _ => rfl⟩
  | twin => exact ⟨9, rfl, by decide, fun h => absurd h (by decide), fun _ => rfl⟩
  | shut => exact ⟨8, rfl, by decide, fun h => absurd h (by decide), fun _ => rfl⟩
theorem pos_at (hc : checkC c = 0) {k : Int} {t : List UInt8} (h : (k, t) ∈ (wholeM c).parts.map knOf) : ∃ p : Made, (dM c).parts[posL (dM c).parts t]? = some p ∧ p.kind = k ∧ p.name = t ∧ (dM c).parts.findIdx? (fun p => p.name == t) = some (posL (dM c).parts t) := by
  obtain ⟨p, hp, e⟩ := List.mem_map.1 h
  have hp2 := (dM_w hc).2 hp
  have hk : p.kind = k := congrArg Prod.fst e
  have hn : p.name = t := congrArg Prod.snd e
  have hs := seek_pos (dM_sorted c) (dM_names hc) (List.mem_map.2 ⟨p, hp2, hn⟩)
  have hs2 := hs
  unfold seekL at hs2
  rw [List.findIdx?_eq_some_iff_getElem] at hs2
  obtain ⟨hl, h1, _⟩ := hs2
  have h1 : (dM c).parts[posL (dM c).parts t].name = t := by simpa using h1
  have := name_inj (dM_names hc) (List.getElem_mem hl) hp2 (h1.trans hn.symm)
  refine ⟨p, ?_, hk, hn, hs⟩
  rw [List.getElem?_eq_getElem hl, this]
theorem out_port (hc : checkC c = 0) {q : Pin} (h : OutP ((wholeM c).parts.map knOf) q) : PortB (dM c).parts (portL (dM c).parts q) := by
  obtain ⟨k, h1, h2⟩ := h
  obtain ⟨p, p1, p2, p3, _⟩ := pos_at hc h1
  obtain ⟨n, n1, n2, _⟩ := gear_part hc (dM_k hc (List.mem_of_getElem? p1))
  exact ⟨p, n, p1, n1, n2, outs_row n n2 _ (by rw [← n1, p2]; exact h2)⟩
theorem in_port (hc : checkC c = 0) {q : Pin} (h : InP ((wholeM c).parts.map knOf) q) : PortB (dM c).parts (portL (dM c).parts q) := by
  obtain ⟨k, h1, h2⟩ := h
  obtain ⟨p, p1, p2, p3, _⟩ := pos_at hc h1
  obtain ⟨n, n1, n2, _⟩ := gear_part hc (dM_k hc (List.mem_of_getElem? p1))
  exact ⟨p, n, p1, n1, n2, ins_row n n2 _ (by rw [← n1, p2]; exact h2)⟩
theorem portL_inj (hc : checkC c = 0) {p q : Pin} {k l : Int} (hp : (k, p.part) ∈ (wholeM c).parts.map knOf) (hq : (l, q.part) ∈ (wholeM c).parts.map knOf) (h : portL (dM c).parts p = portL (dM c).parts q) : p = q := by
  obtain ⟨a, a1, a2, a3, _⟩ := pos_at hc hp
  obtain ⟨b, b1, b2, b3, _⟩ := pos_at hc hq
  have h1 : posL (dM c).parts p.part = posL (dM c).parts q.part := congrArg Prod.fst h
  have h2 : p.port = q.port := congrArg Prod.snd h
  rw [h1, b1] at a1
  obtain rfl := Option.some.inj a1
  obtain ⟨p1, p2⟩ := p
  obtain ⟨q1, q2⟩ := q
  simp only at a3 b3 h2
  rw [← a3, ← b3, h2]
theorem out_not_in (hc : checkC c = 0) {p : Pin} (h : OutP ((wholeM c).parts.map knOf) p) : ¬ InP ((wholeM c).parts.map knOf) p := by
  rintro ⟨l, l1, l2⟩
  obtain ⟨k, k1, k2⟩ := h
  obtain ⟨a, a1, a2, _, _⟩ := pos_at hc k1
  obtain ⟨b, b1, b2, _, _⟩ := pos_at hc l1
  rw [a1] at b1
  obtain rfl := Option.some.inj b1
  obtain ⟨n, n1, n2, _⟩ := gear_part hc (dM_k hc (List.mem_of_getElem? a1))
  exact outs_ins n n2 _ (by rw [← n1, a2]; exact k2) (by rw [← n1, b2]; exact l2)
theorem pipeN_dir {a b : PortP} (h : a ≠ b) : beforeP (pipeN a b).1 (pipeN a b).2 = true := by
  unfold pipeN
  cases e : beforeP b a with
  | true => simpa using e
  | false =>
    cases e2 : beforeP a b with
    | true => simpa using e2
    | false => exact absurd (before_tot.tot _ _ e2 e) h
theorem pipeN_cases (a b : PortP) : pipeN a b = (a, b) ∨ pipeN a b = (b, a) := by
  unfold pipeN
  split
  · exact .inr rfl
  · exact .inl rfl
theorem circ_right (hc : checkC c = 0) (hm : manyM (dM c) = false) : CircB (dM c).parts (pipesM (dM c)) := by
  have hact := (fine_of hc).act
  obtain ⟨hj, hgate⟩ := whole_t (inC_of hc)
  have hcons := (whole_tak hc).nod
  have hN := dM_names hc
  have hS := dM_sorted c
  have hF := whole_fullT (c := c) (by omega)
  unfold manyM at hm
  simp only [Bool.or_eq_false_iff, decide_eq_false_iff_not] at hm
  have hmem : ∀ x ∈ pipesM (dM c), ∃ j ∈ (wholeM c).joins, x = pipeN (portL (dM c).parts j.1) (portL (dM c).parts j.2) := by
    intro x hx
    unfold pipesM at hx
    obtain ⟨j, h1, h2⟩ := List.mem_map.1 ((sortB_perm earlierP _).mem_iff.1 hx)
    exact ⟨j, h1, h2.symm⟩
  refine ⟨Nat.le_of_not_lt hm.1, fun p hp => ?_, fun i p q hp hq => ?_, fun p hp h6 => ?_, ?_, fun x hx => ?_, fun x hx => ?_, fun i x y hx hy => ?_⟩
  · obtain ⟨k, k1, k2, k3⟩ := gear_part hc (dM_k hc hp)
    exact ⟨k, k1, k2, whole_word hc (List.mem_map.2 ⟨p, (dM_w hc).1 hp, rfl⟩), k3⟩
  · obtain ⟨h1, e1⟩ := List.getElem?_eq_some_iff.1 hp
    obtain ⟨h2, e2⟩ := List.getElem?_eq_some_iff.1 hq
    have hb : ltB q.name p.name = false := by
      have := List.pairwise_iff_getElem.1 hS i (i + 1) h1 h2 (by omega)
      rw [e1, e2] at this
      exact this
    cases e : ltB p.name q.name with
    | true => rfl
    | false =>
      have hne := List.pairwise_iff_getElem.1 hN i (i + 1) (by simpa using h1) (by simpa using h2) (by omega)
      rw [List.getElem_map, List.getElem_map, e1, e2] at hne
      exact absurd (ltB_total e hb) hne
  · have hlim : ∀ (a : Nat) (x : UInt8), (a : Int) < c.actuators → x = 48 ∨ x = 49 → p.name = letterT a ++ [x] → ∃ q x i y, p.name = q ++ [x] ∧ (x = 48 ∨ x = 49) ∧ (dM c).parts.findIdx? (fun p => p.name == q) = some i ∧ (dM c).parts[i]? = some y ∧ y.kind = 1 := fun a x ha h01 he => by
      obtain ⟨y, y1, y2, y3, y4⟩ := pos_at hc (hF.act a ha).1
      exact ⟨letterT a, x, _, y, he, h01, y4, y1, y2⟩
    have hg := dM_k hc hp
    cases hg with
    | lim0 a ha => exact hlim a 48 ha (.inl rfl) rfl
    | lim1 a ha => exact hlim a 49 ha (.inr rfl) rfl
    | _ => exact absurd h6 (by simp)
  · have e : (pipesM (dM c)).length = (dM c).joins.length := by unfold pipesM; rw [(sortB_perm earlierP _).length_eq, List.length_map]
    rw [e]
    exact Nat.le_of_not_lt hm.2
  · obtain ⟨j, j1, rfl⟩ := hmem x hx
    obtain ⟨o1, o2⟩ := hj j j1
    have p1 := out_port hc o1
    have p2 := in_port hc o2
    rcases pipeN_cases (portL (dM c).parts j.1) (portL (dM c).parts j.2) with e | e <;> rw [e]
    · exact ⟨p1, p2⟩
    · exact ⟨p2, p1⟩
  · obtain ⟨j, j1, rfl⟩ := hmem x hx
    obtain ⟨o1, o2⟩ := hj j j1
    refine pipeN_dir fun e => ?_
    obtain ⟨k, k1, _⟩ := o1
    obtain ⟨l, l1, _⟩ := o2
    have e2 := portL_inj hc k1 l1 e
    exact out_not_in hc (hj j j1).1 (by rw [e2]; exact (hj j j1).2)
  · have hnod : (pipesM (dM c)).Nodup := by
      unfold pipesM
      rw [(sortB_perm earlierP _).nodup_iff, List.Nodup, List.pairwise_map]
      have hc2 : (wholeM c).joins.Pairwise fun a b => a.2 ≠ b.2 := List.pairwise_map.1 hcons
      refine List.Pairwise.imp_of_mem (fun {a b} ha hb hne e => ?_) hc2
      obtain ⟨a1, a2⟩ := hj a ha
      obtain ⟨b1, b2⟩ := hj b hb
      obtain ⟨_, ka1, _⟩ := id a1
      obtain ⟨_, ka2, _⟩ := id a2
      obtain ⟨_, kb1, _⟩ := id b1
      obtain ⟨_, kb2, _⟩ := id b2
      have same : portL (dM c).parts a.2 = portL (dM c).parts b.2 → False := fun h => hne (portL_inj hc ka2 kb2 h)
      have cross : portL (dM c).parts a.1 = portL (dM c).parts b.2 → False := fun h => out_not_in hc a1 (by rw [portL_inj hc ka1 kb2 h]; exact b2)
      rcases pipeN_cases (portL (dM c).parts a.1) (portL (dM c).parts a.2) with e1 | e1 <;> rcases pipeN_cases (portL (dM c).parts b.1) (portL (dM c).parts b.2) with e2 | e2 <;> rw [e1, e2] at e
      · exact same (Prod.mk.inj e).2
      · exact cross (Prod.mk.inj e).1
      · exact cross (Prod.mk.inj e).2
      · exact same (Prod.mk.inj e).1
    obtain ⟨h1, e1⟩ := List.getElem?_eq_some_iff.1 hx
    obtain ⟨h2, e2⟩ := List.getElem?_eq_some_iff.1 hy
    have hs := sortB_sorted earlier_tot.ord ((dM c).joins.map fun j => pipeN (portL (dM c).parts j.1) (portL (dM c).parts j.2))
    have hb : earlierP y x = false := by
      have := List.pairwise_iff_getElem.1 hs i (i + 1) h1 h2 (by omega)
      rw [← e1, ← e2]
      exact this
    cases e : earlierP x y with
    | true => rfl
    | false =>
      have hne := List.pairwise_iff_getElem.1 hnod i (i + 1) h1 h2 (by omega)
      rw [e1, e2] at hne
      exact absurd (earlier_tot.tot _ _ e hb) hne
end Go.Proofs.YtdnkpogfcpjkpaaGreatDoor
end

section
namespace Go.Proofs.YtdnkpogfcpjkpaaGreatDoor
set_option maxHeartbeats 4000000
variable {c : Control}
def sigK (d : Int) (p : Made) : Bool := decide (p.signal = d)
theorem ofSig_count (ps : List Made) (d : Int) : ∀ n, n ≤ ps.length → (ofSig ps d n).length = (ps.take n).countP (sigK d)
  | 0, _ => by simp [ofSig]
  | n + 1, h => by
    obtain ⟨p, hp⟩ : ∃ p, ps[n]? = some p := ⟨_, List.getElem?_eq_getElem (by omega)⟩
    rw [ofSig_succ hp, List.length_append, ofSig_count ps d n (by omega), List.take_add_one, hp, List.countP_append]
    by_cases e : p.signal = d <;> simp [e, sigK]
theorem ofSig_all (ps : List Made) (d : Int) : (ofSig ps d ps.length).length = ps.countP (sigK d) := by
  rw [ofSig_count ps d _ (Nat.le_refl _), List.take_length]
def belowK (m : Nat) (p : Made) : Bool := decide (0 ≤ p.signal ∧ p.signal < m)
theorem count_sum (ps : List Made) : ∀ m : Nat, ps.countP (belowK (m + 1)) = ps.countP (belowK m) + ps.countP (sigK m) := by
  intro m
  induction ps with
  | nil => rfl
  | cons p ps ih =>
    have key : (if belowK (m + 1) p = true then 1 else 0) = (if belowK m p = true then 1 else 0) + (if sigK m p = true then 1 else 0) := by
      unfold belowK sigK
      simp only [decide_eq_true_eq]
      by_cases h1 : p.signal = m
      · have a1 : ¬ (0 ≤ p.signal ∧ p.signal < (m : Int)) := by omega
        have a2 : 0 ≤ p.signal ∧ p.signal < ((m + 1 : Nat) : Int) := by omega
        rw [if_pos h1, if_neg a1, if_pos a2]
      · rw [if_neg h1]
        by_cases h2 : 0 ≤ p.signal ∧ p.signal < (m : Int)
        · have a2 : 0 ≤ p.signal ∧ p.signal < ((m + 1 : Nat) : Int) := by omega
          rw [if_pos h2, if_pos a2]
        · have a2 : ¬ (0 ≤ p.signal ∧ p.signal < ((m + 1 : Nat) : Int)) := by omega
          rw [if_neg h2, if_neg a2]
    rw [List.countP_cons, List.countP_cons, List.countP_cons, ih, key]
    omega
theorem gear_sig (hc : checkC c = 0) {p : Made} (h : GearK c p) : (p.signal = -1 ∧ p.name ∈ (machineM c).parts.map Made.name) ∨ (0 ≤ p.signal ∧ p.signal < c.signals.length ∧ p.name ∉ (machineM c).parts.map Made.name) := by
  have hB := (machine_ok hc).1
  have hact := (fine_of hc).act
  have hm := machine_names c
  have act : ∀ a : Nat, (a : Int) < c.actuators → ∀ s ∈ [letterT a, letterT a ++ [48], letterT a ++ [49], 86 :: letterT a], s ∈ (machineM c).parts.map Made.name := fun a ha s hs => by
    rw [hm]
    refine List.mem_cons_of_mem _ (List.mem_append.2 (.inl ?_))
    unfold actN
    exact List.mem_flatMap.2 ⟨a, List.mem_range.2 (by omega), hs⟩
  have no : ∀ (l : UInt8) (r : List UInt8), opLet l ∨ ownLet l → (l :: r) ∉ (machineM c).parts.map Made.name := fun l r h hmem => by
    have := hB _ hmem l r rfl
    rcases h with h | h
    · exact this.1 h
    · exact this.2 h
  have hown : ∀ i : Nat, ownT c i ∉ (machineM c).parts.map Made.name := fun i => by
    unfold ownT
    refine no _ _ (.inr ?_)
    split
    · exact .inr rfl
    · exact .inl rfl
  cases h with
  | sup => exact .inl ⟨rfl, by rw [hm]; simp⟩
  | cyl a ha => exact .inl ⟨rfl, act a ha _ (by simp)⟩
  | lim0 a ha => exact .inl ⟨rfl, act a ha _ (by simp)⟩
  | lim1 a ha => exact .inl ⟨rfl, act a ha _ (by simp)⟩
  | val a ha => exact .inl ⟨rfl, act a ha _ (by simp)⟩
  | but i hi =>
    refine .inl ⟨rfl, ?_⟩
    rw [hm]
    refine List.mem_cons_of_mem _ (List.mem_append.2 (.inr ?_))
    rw [List.getD_eq_getElem?_getD, List.getElem?_eq_getElem hi]
    exact List.getElem_mem hi
  | mem i x hx hk =>
    have hi := (List.getElem?_eq_some_iff.1 hx).1
    exact .inr ⟨by simp, by simpa using hi, hown i⟩
  | tim i x hx hk =>
    have hi := (List.getElem?_eq_some_iff.1 hx).1
    exact .inr ⟨by simp, by simpa using hi, hown i⟩
  | inv i n y hi hk => exact .inr ⟨by simp, by simpa using hi, no _ _ (.inl (.inl rfl))⟩
  | twin i n hi => exact .inr ⟨by simp, by simpa using hi, no _ _ (.inl (.inr (.inl rfl)))⟩
  | shut i n hi => exact .inr ⟨by simp, by simpa using hi, no _ _ (.inl (.inr (.inr rfl)))⟩
theorem actN_len : ∀ n, (actN n).length = 4 * n
  | 0 => rfl
  | n + 1 => by
    have ih := actN_len n
    unfold actN at ih ⊢
    rw [List.range_succ, List.flatMap_append, List.length_append, ih]
    simp
    omega
theorem all_parts (hc : checkC c = 0) : (dM c).parts.length = 1 + 4 * c.actuators.toNat + c.inputs.length + (dM c).parts.countP (belowK c.signals.length) := by
  have hN := whole_names hc
  have hpm := dM_perm hc
  have hm := machine_names c
  obtain ⟨l1, e1⟩ := fold_mono (gateM_mono c) (machineM c) c.signals.length
  obtain ⟨l2, e2⟩ := fold_mono (sigM_mono c) ((List.range c.signals.length).foldl (gateM c) (machineM c)) c.signals.length
  obtain ⟨l3, e3⟩ := fold_mono (pilM_mono c) ((List.range c.signals.length).foldl (sigM c) ((List.range c.signals.length).foldl (gateM c) (machineM c))) c.actuators.toNat
  have e : (wholeM c).parts = (machineM c).parts ++ (l1 ++ (l2 ++ l3)) := by
    unfold wholeM
    rw [e3, e2, e1]
    simp only [List.append_assoc]
  generalize l1 ++ (l2 ++ l3) = r at e
  have hk : ∀ p ∈ (wholeM c).parts, GearK c p := fun p hp => dM_k hc ((dM_w hc).2 hp)
  rw [hpm.length_eq, hpm.countP_eq, e, List.countP_append, List.length_append]
  rw [e] at hk
  rw [e, List.map_append] at hN
  have h1 : (machineM c).parts.countP (belowK c.signals.length) = 0 := by
    rw [List.countP_eq_zero]
    intro p hp
    rcases gear_sig hc (hk p (List.mem_append.2 (.inl hp))) with ⟨h, _⟩ | ⟨_, _, h⟩
    · simp [belowK, h]
    · exact absurd (List.mem_map.2 ⟨p, hp, rfl⟩) h
  have h2 : r.countP (belowK c.signals.length) = r.length := by
    rw [List.countP_eq_length]
    intro p hp
    rcases gear_sig hc (hk p (List.mem_append.2 (.inr hp))) with ⟨_, h⟩ | ⟨h3, h4, _⟩
    · exact absurd rfl ((List.nodup_append.1 hN).2.2 _ h _ (List.mem_map.2 ⟨p, hp, rfl⟩))
    · simp [belowK, h3, h4]
  have h3 : (machineM c).parts.length = 1 + 4 * c.actuators.toNat + c.inputs.length := by
    have := congrArg List.length hm
    rw [List.length_map, List.length_cons, List.length_append, actN_len] at this
    omega
  rw [h1, h2, h3]
  omega
end Go.Proofs.YtdnkpogfcpjkpaaGreatDoor
end

section
namespace Go.Proofs.YtdnkpogfcpjkpaaGreatDoor
set_option maxHeartbeats 4000000
variable {c : Control}
theorem ofSig_mem {ps : List Made} {d : Int} {n : Nat} {k : Int} : k ∈ ofSig ps d n ↔ ∃ j : Nat, k = j ∧ j < n ∧ ∃ p, ps[j]? = some p ∧ p.signal = d := by
  unfold ofSig
  rw [List.mem_map]
  constructor
  · rintro ⟨j, hj, rfl⟩
    obtain ⟨h1, h2⟩ := List.mem_filter.1 hj
    refine ⟨j, rfl, List.mem_range.1 h1, ?_⟩
    cases e : ps[j]? with
    | none => rw [e] at h2; simp at h2
    | some p => rw [e] at h2; exact ⟨p, rfl, by simpa using h2⟩
  · rintro ⟨j, rfl, h1, p, h2, h3⟩
    exact ⟨j, List.mem_filter.2 ⟨List.mem_range.2 h1, by rw [h2]; simpa using h3⟩, rfl⟩
theorem ofSig_nod (ps : List Made) (d : Int) (n : Nat) : (ofSig ps d n).Nodup := by
  unfold ofSig
  rw [List.Nodup, List.pairwise_map]
  exact (List.Pairwise.filter _ List.nodup_range).imp fun h e => h (by omega)
def seenF (ps : List Made) (i t k : Nat) : Bool := ((ps[k]?).any fun p => belowK i p) || decide ((k : Int) ∈ (ofSig ps i ps.length).take t)
def seenL (ps : List Made) (i t : Nat) : List Bool := (List.range ps.length).map (seenF ps i t)
theorem seen_len (ps : List Made) (i t : Nat) : (seenL ps i t).length = ps.length := by simp [seenL]
theorem seen_get {ps : List Made} {i t k : Nat} (h : k < ps.length) : (seenL ps i t)[k]? = some (seenF ps i t k) := by
  unfold seenL
  rw [List.getElem?_map, List.getElem?_range h]
  rfl
theorem seen_new {ps : List Made} {i t : Nat} {z : Int} (h : (ofSig ps i ps.length)[t]? = some z) : ∃ k : Nat, z = k ∧ k < ps.length ∧ seenF ps i t k = false := by
  obtain ⟨k, rfl, hk, p, hp, hs⟩ := ofSig_mem.1 (List.mem_of_getElem? h)
  refine ⟨k, rfl, hk, ?_⟩
  unfold seenF
  rw [hp, Bool.or_eq_false_iff]
  refine ⟨by simp [belowK, hs], ?_⟩
  rw [decide_eq_false_iff_not]
  intro hm
  obtain ⟨j, hj, e⟩ := List.getElem_of_mem hm
  rw [List.length_take] at hj
  rw [List.getElem_take] at e
  obtain ⟨ht, e2⟩ := List.getElem?_eq_some_iff.1 h
  have hn := ofSig_nod ps i ps.length
  rw [List.Nodup, List.pairwise_iff_getElem] at hn
  exact hn j t (by omega) ht (by omega) (by rw [e, e2])
theorem seen_set {ps : List Made} {i t k : Nat} (h : (ofSig ps i ps.length)[t]? = some (k : Int)) : (seenL ps i t).set k true = seenL ps i (t + 1) := by
  apply List.ext_getElem?
  intro j
  rw [List.getElem?_set, seen_len]
  have htk : (ofSig ps i ps.length).take (t + 1) = (ofSig ps i ps.length).take t ++ [(k : Int)] := by rw [List.take_add_one, h]; rfl
  by_cases hj : j < ps.length
  · rw [seen_get hj, seen_get hj]
    by_cases e : k = j
    · subst e
      simp [hj, seenF, htk]
    · have e2 : ¬ ((j : Int) = k) := by omega
      simp [e, seenF, htk, e2]
  · have h1 : (seenL ps i t)[j]? = none := List.getElem?_eq_none (by rw [seen_len]; omega)
    have h2 : (seenL ps i (t + 1))[j]? = none := List.getElem?_eq_none (by rw [seen_len]; omega)
    rw [h1, h2]
    by_cases e : k = j
    · subst e
      simp [hj]
    · simp [e]
theorem seen_next (ps : List Made) (i : Nat) : seenL ps i (ofSig ps i ps.length).length = seenL ps (i + 1) 0 := by
  unfold seenL
  refine List.map_congr_left fun k hk => ?_
  have hk := List.mem_range.1 hk
  obtain ⟨p, hp⟩ : ∃ p, ps[k]? = some p := ⟨_, List.getElem?_eq_getElem hk⟩
  unfold seenF
  rw [List.take_length, hp]
  have e : ((k : Int) ∈ ofSig ps i ps.length) ↔ p.signal = i := by
    rw [ofSig_mem]
    constructor
    · rintro ⟨j, h1, _, q, h2, h3⟩
      obtain rfl : k = j := by omega
      rw [hp] at h2
      rw [Option.some.inj h2]
      exact h3
    · exact fun h => ⟨k, rfl, hk, p, hp, h⟩
  simp only [Option.any_some, belowK, e, List.take_zero, List.not_mem_nil, decide_false, Bool.or_false]
  rw [Bool.eq_iff_iff]
  simp only [Bool.or_eq_true, decide_eq_true_eq]
  omega
theorem seen_start (ps : List Made) : seenL ps 0 0 = List.replicate ps.length false := by
  unfold seenL
  rw [List.eq_replicate_iff]
  refine ⟨by simp, fun b hb => ?_⟩
  obtain ⟨k, hk, rfl⟩ := List.mem_map.1 hb
  have hk := List.mem_range.1 hk
  unfold seenF
  rw [List.getElem?_eq_getElem hk]
  simp [belowK]
end Go.Proofs.YtdnkpogfcpjkpaaGreatDoor
end

section
namespace Go.Proofs.YtdnkpogfcpjkpaaGreatDoor
set_option maxHeartbeats 4000000
set_option maxRecDepth 10000
theorem beginR_o (c : Control) (hc : OkC c) (hf : Fine c) : CallSt 27 [aC c] (firstSt c) := by
  have hcs := hf.sig
  have hsm := hf.sm
  have ha := hf.act
  have hin := hf.inp
  refine CallSt.of (callS_of Tryz.func27 rfl Tryz.ntmps27 (rs := [.cell 2 57]) rfl (by kernel_rfl) (by simp) (by kernel_rfl) ?_)
  simp
  intro b2
  refine V.draw (fun _ => none) (by kernel_rfl) (by kernel_rfl) (by simp) ?_
  simp
  intro u0
  refine ⟨by omega, fun u1 => ⟨by omega, fun u2 => ⟨by omega, fun u3 => ⟨by omega, fun u4 => ⟨by omega, ?_⟩⟩⟩⟩⟩
  intro b3
  refine V.forI (σ := Unit) c.signals.length [1, 2, 3] (by simp; exact rfl) (fun i _ => [(4, aI i)]) (fun i _ => [(18, .seq u3 4 1 ((initV c i).map rB))]) (fun _ _ => True) () trivial (by simp) ⟨by simp; exact rfl, by simp [hget, hdel, initV, rB]⟩ ?_ ?_
  · rintro i - hi -
    obtain ⟨x, hx⟩ : ∃ x, c.signals[i] = x := ⟨_, rfl⟩
    have hxo : c.signals[i]? = some x := by rw [List.getElem?_eq_getElem hi, hx]
    rw [← initV_set hxo]
    have hl := initV_length c i (by omega)
    generalize initV c i = l at hl ⊢
    have hil : i < l.length := by omega
    have hgi : l[i]? = some l[i] := List.getElem?_eq_getElem hil
    simp [hi, hx]
    refine V.draw (fun _ => none) (by kernel_rfl) (by kernel_rfl) (by simp) ?_
    simp [hi, hx, hil, hgi, rB]
    omega
  · rintro - -
    simp
    refine (computedR_o c (newSt c c.signals.length) hc hf (newSt_sm hf) (newSt_shape hf)).lend 60 ?_ ?_
    · simp [hget, packA, encSt, newSt]
    · intro hd
      simp [stA, stH, stAt, hget, hdel, firstSt]
end Go.Proofs.YtdnkpogfcpjkpaaGreatDoor
end

section
namespace Go.Proofs.YtdnkpogfcpjkpaaGreatDoor
set_option maxHeartbeats 8000000
set_option maxRecDepth 10000
def beginS : State := ⟨[0], [false], [false], [false, true], [0, 0]⟩
theorem back_first : firstSt backC = beginS := by decide +kernel
def nineN : List (List UInt8) := [[65], [65, 48], [65, 49], [77, 48], [78, 48], [80, 49], [83], [86, 65], [115, 116, 97, 114, 116]]
abbrev aP34 (k : Nat) (s : List UInt8) : A := .tuple [.record (encPort (k, s)), aB true, aI 0]
section
variable {c : Control} {ps : List Made} {l : List (PortP × PortP)}
abbrev awH (c : Control) (ps : List Made) (l : List (PortP × PortP)) (b1 b2 : Nat) : Heap := [(2, .box b2 ([L.sl (ps.map encPart), .sl (l.map encPipe)].map A.dat)), (1, .box b1 ((encC c).map A.dat))]
theorem awake37_a (hB : CallFn Tryz.prog 26 [] (aC c)) (h1 : CallFn Tryz.prog 9 [aC c] (.tuple [aCirc (ps, l), aI 0])) (h2 : CallFn Tryz.prog 11 [aC c] (.tuple [aI 9, aI 0]))
    (hv : ∀ b1 b2, vcN ⟨Tryz.prog, none, 128⟩ 2 (restC Tryz.f8 4) (hdE [(0, aB false), (1, .ptr 1 b1 0), (2, .ptr 2 b2 0), (3, aI 0), (4, aI 9), (5, aI 0)] []) (awH c ps l b1 b2) (RetV Tryz.prog [.tmp 0] fun r' H' => (frz H' r').1 ∧ (frz H' r').2 = aB true)) :
    CallFn Tryz.prog 8 [] (aB true) := by
  refine callFz_cut 4 Tryz.func8 rfl Tryz.ntmps8 (rs := [.tmp 0]) rfl (by kernel_rfl) (by simp) (by kernel_rfl) ?_
  simp
  refine hB.s ?_
  simp [encC]
  intro b1
  refine h1.s ?_
  simp
  intro b2
  refine h2.s ?_
  simp
  exact V.cutN 2 [(0, aB false), (1, .ptr 1 b1 0), (2, .ptr 2 b2 0), (3, aI 0), (4, aI 9), (5, aI 0)] (by simp) (by simp [encC]) (vcN_of_rest rfl (hv b1 b2))
theorem awake37_b (h3 : CallFn Tryz.prog 14 [aC c, aI 3] (aP34 3 [52])) (h4 : CallFn Tryz.prog 14 [aC c, aI 4] (aP34 4 [50])) {b1 b2 : Nat}
    (hv : ∀ b6 b9, vcN ⟨Tryz.prog, none, 128⟩ 2 (restC Tryz.f8 6) (hdE [(0, aB false), (1, .ptr 1 b1 0), (2, .ptr 2 b2 0), (3, aI 0), (4, aI 9), (5, aI 0), (6, .ptr 6 b6 0), (7, aB true), (8, aI 0), (9, .ptr 9 b9 0), (10, aB true), (11, aI 0)] [])
      ((9, .box b9 [aI 4, aT [50]]) :: (6, .box b6 [aI 3, aT [52]]) :: awH c ps l b1 b2) (RetV Tryz.prog [.tmp 0] fun r' H' => (frz H' r').1 ∧ (frz H' r').2 = aB true)) :
    vcN ⟨Tryz.prog, none, 128⟩ 2 (restC Tryz.f8 4) (hdE [(0, aB false), (1, .ptr 1 b1 0), (2, .ptr 2 b2 0), (3, aI 0), (4, aI 9), (5, aI 0)] []) (awH c ps l b1 b2) (RetV Tryz.prog [.tmp 0] fun r' H' => (frz H' r').1 ∧ (frz H' r').2 = aB true) := by
  refine vcN_rest rfl ?_
  simp [encC]
  refine h3.s ?_
  simp
  intro b6
  refine h4.s ?_
  simp
  intro b9
  exact V.cutN 2 [(0, aB false), (1, .ptr 1 b1 0), (2, .ptr 2 b2 0), (3, aI 0), (4, aI 9), (5, aI 0), (6, .ptr 6 b6 0), (7, aB true), (8, aI 0), (9, .ptr 9 b9 0), (10, aB true), (11, aI 0)] (by simp) (by simp [encC]) (vcN_of_rest rfl (hv b6 b9))
theorem awake37_c (h5 : CallSt 27 [aC c] beginS) (h6 : CallFn Tryz.prog 20 [aC c, aSt startS] (.tuple [aIs [0, 1, 0, 0, 0, 0, 0, 0, 1], aI 0])) {b1 b2 b6 b9 : Nat}
    (hv : vcN ⟨Tryz.prog, none, 128⟩ 1 (restC Tryz.f8 9) (hdE [(0, aB false), (1, .ptr 1 b1 0), (2, .ptr 2 b2 0), (3, aI 0), (4, aI 9), (5, aI 0), (6, .ptr 6 b6 0), (7, aB true), (8, aI 0), (9, .ptr 9 b9 0), (10, aB true), (11, aI 0), (13, aIs [0, 1, 0, 0, 0, 0, 0, 0, 1]), (14, aI 0)] [])
      ((9, .box b9 [aI 4, aT [50]]) :: (6, .box b6 [aI 3, aT [52]]) :: awH c ps l b1 b2) (RetV Tryz.prog [.tmp 0] fun r' H' => (frz H' r').1 ∧ (frz H' r').2 = aB true)) :
    vcN ⟨Tryz.prog, none, 128⟩ 2 (restC Tryz.f8 6) (hdE [(0, aB false), (1, .ptr 1 b1 0), (2, .ptr 2 b2 0), (3, aI 0), (4, aI 9), (5, aI 0), (6, .ptr 6 b6 0), (7, aB true), (8, aI 0), (9, .ptr 9 b9 0), (10, aB true), (11, aI 0)] [])
      ((9, .box b9 [aI 4, aT [50]]) :: (6, .box b6 [aI 3, aT [52]]) :: awH c ps l b1 b2) (RetV Tryz.prog [.tmp 0] fun r' H' => (frz H' r').1 ∧ (frz H' r').2 = aB true) := by
  refine vcN_rest rfl ?_
  simp [encC]
  refine h5.lend 60 (by simp [hget, packA]) fun hd => ?_
  simp [stA, stH, beginS, packA]
  intro b
  refine V.ofG ?_
  refine Gh.frzBox (g := 12) (τ := 60) (j := 0) (t := 60) rfl rfl rfl rfl ?_
  refine Gh.frzBox (g := 12) (τ := 61) (j := 1) (t := 61) rfl rfl rfl rfl ?_
  refine Gh.frzBox (g := 12) (τ := 62) (j := 2) (t := 62) rfl rfl rfl rfl ?_
  refine Gh.frzBox (g := 12) (τ := 63) (j := 3) (t := 63) rfl rfl rfl rfl ?_
  refine Gh.frzBox (g := 12) (τ := 64) (j := 4) (t := 64) rfl rfl rfl rfl ?_
  refine Gh.here ?_
  refine V.cutV [(0, aB false), (1, .ptr 1 b1 0), (2, .ptr 2 b2 0), (3, aI 0), (4, aI 9), (5, aI 0), (6, .ptr 6 b6 0), (7, aB true), (8, aI 0), (9, .ptr 9 b9 0), (10, aB true), (11, aI 0), (12, .ptr 12 b 0)] (Hs := (12, .box b ((encSt startS).map A.dat)) :: (9, .box b9 [aI 4, aT [50]]) :: (6, .box b6 [aI 3, aT [52]]) :: awH c ps l b1 b2) (by simp) (by simp [encSt, startS, rowsD]) (V.of_vcN 1 ?_)
  generalize startS = st at *
  simp [encC, encSt]
  refine h6.s ?_
  simp
  exact V.cutN 1 [(0, aB false), (1, .ptr 1 b1 0), (2, .ptr 2 b2 0), (3, aI 0), (4, aI 9), (5, aI 0), (6, .ptr 6 b6 0), (7, aB true), (8, aI 0), (9, .ptr 9 b9 0), (10, aB true), (11, aI 0), (13, aIs [0, 1, 0, 0, 0, 0, 0, 0, 1]), (14, aI 0)] (by simp) (by simp [encC]) (vcN_of_rest rfl hv)
theorem awake37_d (hl : ps.length = 9) {b1 b2 b6 b9 : Nat}
    (hv : vcC ⟨Tryz.prog, none, 128⟩ (restC Tryz.f8 10) (hdE [(0, aB false), (1, .ptr 1 b1 0), (2, .ptr 2 b2 0), (3, aI 0), (13, aIs [0, 1, 0, 0, 0, 0, 0, 0, 1])] [])
      (awH c ps l b1 b2) (RetV Tryz.prog [.tmp 0] fun r' H' => (frz H' r').1 ∧ (frz H' r').2 = aB true)) :
    vcN ⟨Tryz.prog, none, 128⟩ 1 (restC Tryz.f8 9) (hdE [(0, aB false), (1, .ptr 1 b1 0), (2, .ptr 2 b2 0), (3, aI 0), (4, aI 9), (5, aI 0), (6, .ptr 6 b6 0), (7, aB true), (8, aI 0), (9, .ptr 9 b9 0), (10, aB true), (11, aI 0), (13, aIs [0, 1, 0, 0, 0, 0, 0, 0, 1]), (14, aI 0)] [])
      ((9, .box b9 [aI 4, aT [50]]) :: (6, .box b6 [aI 3, aT [52]]) :: awH c ps l b1 b2) (RetV Tryz.prog [.tmp 0] fun r' H' => (frz H' r').1 ∧ (frz H' r').2 = aB true) := by
  refine vcN_rest rfl ?_
  simp [encC, hl]
  exact V.cut [(0, aB false), (1, .ptr 1 b1 0), (2, .ptr 2 b2 0), (3, aI 0), (13, aIs [0, 1, 0, 0, 0, 0, 0, 0, 1])] (by simp) (by simp [encC]) (vc_of_rest rfl hv)
theorem awake37_e (hn : ps.map Made.name = nineN) {b1 b2 : Nat} (h7 : CallFn Tryz.prog 16 [aC c, aI 3] (.tuple [aIs [3, 5], aI 0])) (h8 : CallFn Tryz.prog 23 [aCirc (ps, l)] (aI 0))
    (e1 : CallFn Tryz.prog 18 [aIs [0, 1, 0, 0, 0, 0, 0, 0, 1], aIs [0, 1, 0, 0, 0, 0, 0, 0, 1]] (aB true)) (e2 : CallFn Tryz.prog 18 [aIs [3, 5], aIs [3, 5]] (aB true)) :
    vcC ⟨Tryz.prog, none, 128⟩ (restC Tryz.f8 10) (hdE [(0, aB false), (1, .ptr 1 b1 0), (2, .ptr 2 b2 0), (3, aI 0), (13, aIs [0, 1, 0, 0, 0, 0, 0, 0, 1])] [])
      (awH c ps l b1 b2) (RetV Tryz.prog [.tmp 0] fun r' H' => (frz H' r').1 ∧ (frz H' r').2 = aB true) := by
  have hN : nineN.length = 9 := rfl
  have hpl : ps.length = 9 := by rw [← hN, ← hn, List.length_map]
  refine vc_rest rfl ?_
  simp [encC]
  refine V.cutV [(0, aB false), (1, .ptr 1 b1 0), (2, .ptr 2 b2 0), (3, aI 0), (13, aIs [0, 1, 0, 0, 0, 0, 0, 0, 1]), (90, aTs nineN), (91, aI 9), (92, aI 0)] (Hs := awH c ps l b1 b2) (by simp [nineN, wk]) (by simp [encC]) ?_
  generalize nineN = N at *
  refine V.forI (σ := Unit) 9 [1, 2, 3, 13, 90, 91] (by simp; exact rfl) (fun i _ => [(0, aB false), (92, aI i)]) (fun _ _ => awH c ps l b1 b2) (fun _ _ => True) () trivial (by simp) ⟨by simp; exact rfl, by simp⟩ ?_ ?_
  · rintro i - hi -
    obtain ⟨p, hp⟩ : ∃ p, ps[i]? = some p := ⟨_, List.getElem?_eq_getElem (by omega)⟩
    obtain ⟨hil, hp1⟩ := List.getElem?_eq_some_iff.1 hp
    have hni : N[i]? = some p.name := by rw [← hn, List.getElem?_map, hp]; rfl
    obtain ⟨hnl, hn1⟩ := List.getElem?_eq_some_iff.1 hni
    simp [hi, hil, hp1, hp, hni, hnl, hn1]
    omega
  · rintro - -
    simp
    refine h7.s ?_
    simp
    refine GCall.fn (aB true) (fun _ => ⟨trivial, e1⟩) ?_
    simp
    refine GCall.fn (aB true) (fun _ => ⟨trivial, e2⟩) ?_
    simp
    refine GCall.fn (aI 0) (fun _ => ⟨trivial, h8⟩) ?_
    simp
end
theorem awake37_fn : CallFn Tryz.prog 8 [] (aB true) := by
  have h1 := Circuit_fn backC backC_ok
  rw [back_err] at h1
  have h2 := Count37_fn backC backC_ok
  rw [back_count] at h2
  have h3 := Port_fn backC 3 backC_ok (by simp)
  rw [back_p3] at h3
  have h4 := Port_fn backC 4 backC_ok (by simp)
  rw [back_p4] at h4
  have h5 := beginR_o backC backC_ok (fine_of backC_check)
  rw [back_first] at h5
  have h6 := Positions_fn backC startS backC_ok (by constructor <;> decide)
  rw [back_pos] at h6
  have h7 := Parts_fn backC 3 backC_ok (by simp)
  rw [back_parts] at h7
  have h8 := CircCheck_fn (circR_ok back_circ)
  have e1 := eqI_fn [0, 1, 0, 0, 0, 0, 0, 0, 1] [0, 1, 0, 0, 0, 0, 0, 0, 1] (by decide) (by decide)
  rw [decide_eq_true rfl] at e1
  have e2 := eqI_fn [3, 5] [3, 5] (by decide) (by decide)
  rw [decide_eq_true rfl] at e2
  have hn := back_names
  have hB := Back_fn
  generalize (circuitQ backC).1 = q at *
  obtain ⟨ps, l⟩ := q
  generalize backC = c at *
  have hpl : ps.length = 9 := by
    have := congrArg List.length hn
    simpa using this
  exact awake37_a hB h1 h2 fun b1 b2 => awake37_b h3 h4 fun b6 b9 => awake37_c h5 h6 (awake37_d hpl (awake37_e hn h7 h8 e1 e2))
end Go.Proofs.YtdnkpogfcpjkpaaGreatDoor
end

section
namespace Go.Proofs.YtdnkpogfcpjkpaaGreatDoor
set_option maxHeartbeats 8000000
set_option maxRecDepth 10000
theorem seen_row {Q : PostQ} {v1 v3 v8 v10 v75 v76 : A} {S : List Bool} {Ls : List Int} {t k n : Nat} {h : Value} {e3 : Ent} (hS : S.length = n) (hn : n ≤ 64) (hk : k < n) (hf : S[k]? = some false) (hL : Ls[t]? = some (k : Int)) (hLl : Ls.length ≤ 64)
    (hQ : ∀ E' H', (∀ z ∈ [(2, aB false), (92, aI (t + 1 : Nat))], wk (E' z.1) z.2) → (∀ z ∈ [(1, v1), (3, v3), (5, aI n), (7, A.own 64 h), (8, v8), (10, v10), (75, v75), (76, v76), (90, aIs Ls), (91, aI Ls.length)], E' z.1 = z.2) → H' = [(64, .seq h 4 1 ((S.set k true).map rB)), (3, e3)] → Q .normal E' H') :
    vcC ⟨Tryz.prog, none, 182⟩ (loopC Tryz.f6 1) (hdE [(1, v1), (3, v3), (5, aI n), (7, .own 64 h), (8, v8), (10, v10), (75, v75), (76, v76), (90, aIs Ls), (91, aI Ls.length)] [(2, aB false), (92, aI t)]) [(64, .seq h 4 1 (S.map rB)), (3, e3)] Q := by
  obtain ⟨htl, hL1⟩ := List.getElem?_eq_some_iff.1 hL
  obtain ⟨hkl, hf1⟩ := List.getElem?_eq_some_iff.1 hf
  refine vc_part rfl ?_
  have h1 : ¬ ((k : Int) < 0) := by omega
  have h2 : ¬ (n ≤ k) := by omega
  simp [htl, hL1, hL, hkl, hf, hf1, hS, hk, h1, h2]
  exact ⟨by omega, hQ _ _ (by simp) (by simp) (by rw [List.map_set])⟩
theorem sigs_row {Q : PostQ} {c : Control} {ps : List Made} {n i : Nat} {a : Int} {h : Value} {e3 : Ent} {b3 : Nat} (c1 : CallFn Tryz.prog 16 [aC c, aI (firstC c + i)] (.tuple [aIs (ofSig ps i n), aI 0])) (c2 : CallFn Tryz.prog 24 [aC c] (aI (firstC c)))
    (hpn : ps.length = n) (hn : n ≤ 64) (hi : i < c.signals.length) (hsl : c.signals.length ≤ 64) (hfc : 0 ≤ firstC c ∧ firstC c ≤ 1000) (ha : 0 ≤ a ∧ a ≤ 1000000)
    (hQ : ∀ E' H', (∀ z ∈ [(2, aB false), (8, aI (a + (ofSig ps i n).length)), (76, aI (i + 1 : Nat))], wk (E' z.1) z.2) → (∀ z ∈ [(1, A.rptr (encC c)), (3, .ptr 3 b3 0), (5, aI n), (7, A.own 64 h), (75, aI c.signals.length)], E' z.1 = z.2) → H' = [(64, .seq h 4 1 ((seenL ps (i + 1) 0).map rB)), (3, e3)] → Q .normal E' H') :
    vcC ⟨Tryz.prog, none, 182⟩ (loopC Tryz.f6 0) (hdE [(1, .rptr (encC c)), (3, .ptr 3 b3 0), (5, aI n), (7, .own 64 h), (75, aI c.signals.length)] [(2, aB false), (8, aI a), (76, aI i)]) [(64, .seq h 4 1 ((seenL ps i 0).map rB)), (3, e3)] Q := by
  subst hpn
  have hnx := seen_next ps i
  have hll := ofSig_len ps i ps.length
  have hnew := fun t z => @seen_new ps i t z
  have hset := fun t k => @seen_set ps i t k
  have hsl2 := seen_len ps i
  have hsg := fun t k => @seen_get ps i t k
  generalize ofSig ps i ps.length = Ls at *
  refine vc_part rfl ?_
  simp [hi, encC]
  refine V.drawX (fun t => if t = 82 then some (.fn (aI (firstC c))) else if t = 85 then some (.fn (.tuple [aIs Ls, aI 0])) else none) (by kernel_rfl) (by kernel_rfl) (by simp) ?_
  simp [encC]
  refine ⟨c2, by omega, c1, ?_⟩
  refine V.forI (σ := Unit) Ls.length [1, 3, 5, 7, 8, 10, 75, 76, 90, 91] (by simp; exact rfl) (fun t _ => [(2, aB false), (92, aI t)]) (fun t _ => [(64, .seq h 4 1 ((seenL ps i t).map rB))]) (fun _ _ => True) () trivial (by simp) ⟨by simp; exact rfl, by simp⟩ ?_ ?_
  · rintro t - ht -
    obtain ⟨z, hz⟩ : ∃ z, Ls[t]? = some z := ⟨_, List.getElem?_eq_getElem ht⟩
    obtain ⟨k, rfl, hk, hf⟩ := hnew t z hz
    have hgk : (seenL ps i t)[k]? = some false := by rw [hsg t k hk, hf]
    refine vc_of_part rfl (seen_row (hsl2 t) hn hk hgk hz (by omega) fun E' H' q1 q2 q3 => ⟨(), trivial, q1, q2, ?_⟩)
    rw [q3, hset t k hz]
    simp
  · rintro - -
    rw [hnx]
    simp
    exact ⟨by omega, by omega, hQ _ _ (by simp) (by simp) rfl⟩
theorem ins_row37 {Q : PostQ} {c : Control} {ps : List Made} {i p : Nat} {a : Int} {b3 : Nat} {l : List (PortP × PortP)} {y : Made} {s : List UInt8} (c1 : CallFn Tryz.prog 14 [aC c, aI (2 * c.actuators + i)] (.tuple [.record (encPort (p, [50])), aB true, aI 0]))
    (hn : ps.length ≤ 64) (hi : i < c.inputs.length) (hil : c.inputs.length ≤ 64) (hac : 0 ≤ c.actuators ∧ c.actuators ≤ 1000) (hs : c.inputs[i]? = some s) (hp : ps[p]? = some y) (hy : y.kind = 7) (hyn : y.name = s)
    (hQ : ∀ E' H', (∀ z ∈ [(2, aB false), (121, aI (i + 1 : Nat))], wk (E' z.1) z.2) → (∀ z ∈ [(1, A.rptr (encC c)), (3, .ptr 3 b3 0), (5, aI ps.length), (8, aI a), (119, .dat (.sl (c.inputs.map encT))), (120, aI c.inputs.length)], E' z.1 = z.2) → subN [(3, .box b3 ([L.sl (ps.map encPart), .sl (l.map encPipe)].map A.dat))] H' → Q .normal E' H') :
    vcC ⟨Tryz.prog, none, 182⟩ (loopC Tryz.f6 2) (hdE [(1, .rptr (encC c)), (3, .ptr 3 b3 0), (5, aI ps.length), (8, aI a), (119, .dat (.sl (c.inputs.map encT))), (120, aI c.inputs.length)] [(2, aB false), (121, aI i)]) [(3, .box b3 ([L.sl (ps.map encPart), .sl (l.map encPipe)].map A.dat))] Q := by
  obtain ⟨_, hs1⟩ := List.getElem?_eq_some_iff.1 hs
  obtain ⟨hpl, hp1⟩ := List.getElem?_eq_some_iff.1 hp
  refine vc_part rfl ?_
  have h1 : ¬ ((p : Int) < 0) := by omega
  have h2 : ¬ (ps.length ≤ p) := by omega
  simp [hi, hs, hs1, encC]
  refine ⟨by omega, by omega, ?_⟩
  refine c1.s ?_
  simp
  intro b16
  simp [hpl, hp, hp1, hy, hyn, h1, h2]
  exact ⟨by omega, hQ _ _ (by simp) (by simp) (by simp)⟩
end Go.Proofs.YtdnkpogfcpjkpaaGreatDoor
end

section
namespace Go.Proofs.YtdnkpogfcpjkpaaGreatDoor
set_option maxHeartbeats 8000000
set_option maxRecDepth 10000
end Go.Proofs.YtdnkpogfcpjkpaaGreatDoor
end

section
namespace Go.Proofs.YtdnkpogfcpjkpaaGreatDoor
set_option maxHeartbeats 8000000
set_option maxRecDepth 10000
end Go.Proofs.YtdnkpogfcpjkpaaGreatDoor
end
