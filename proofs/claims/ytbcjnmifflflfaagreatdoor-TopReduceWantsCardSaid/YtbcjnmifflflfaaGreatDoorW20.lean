/- Texts joined by a program: Ba, Bka, Hw, Ha, Hb, Hc, Sk, Fxg, Fxh, Hd. -/
import Derived.Lib.ItoaNum
import Derived.Shelf.Strconv.Itoa3
import Derived.Shelf.Small.Strs
import Derived.Test.YtbcjnmifflflfaaGreatDoorProg
import Derived.KernelRfl
import Derived.Test.YtbcjnmifflflfaaGreatDoorW19
import Derived.Test.YtbcjnmifflflfaaGreatDoorW13
import Derived.Test.YtbcjnmifflflfaaGreatDoorW14
import Derived.Test.YtbcjnmifflflfaaGreatDoorW12
import Derived.Test.YtbcjnmifflflfaaGreatDoorW15
set_option linter.unusedSimpArgs false
set_option linter.unusedVariables false

section
namespace Go.Proofs.YtbcjnmifflflfaaGreatDoor
set_option maxHeartbeats 4000000
set_option maxRecDepth 10000
abbrev ChT := Int × Int × Bool
def encCh (x : ChT) : List L := [.int .i64 x.1, .int .i64 x.2.1, .bool x.2.2]
def rCh (x : ChT) : List A := [.dat (.int .i64 x.1), .dat (.int .i64 x.2.1), .dat (.bool x.2.2)]
def chAt (c : Control) (s : State) (i : Nat) : ChT := (firstC c + i, (sigStep c s (valuesOf s) i).2.1, (sigStep c s (valuesOf s) i).1)
def chL (c : Control) (s : State) (k : Nat) : List ChT := ((List.range k).filter (wantAt c s)).map (chAt c s)
theorem chL_succ (c : Control) (s : State) (k : Nat) : chL c s (k + 1) = if wantAt c s k = true then chL c s k ++ [chAt c s k] else chL c s k := by
  unfold chL
  rw [List.range_succ, List.filter_append, List.map_append]
  by_cases h : wantAt c s k = true
  · simp [h]
  · simp [h]
theorem chL_len (c : Control) (s : State) (k : Nat) : (chL c s k).length ≤ k := by
  unfold chL
  rw [List.length_map]
  have := List.length_filter_le (wantAt c s) (List.range k)
  rw [List.length_range] at this
  exact this
theorem rowsD_Ch (xs : List ChT) : rowsD (xs.map rCh) = xs.map encCh := by unfold rowsD; rw [List.map_map]; rfl
theorem allD_Ch (xs : List ChT) : allD (xs.map rCh) = true := by simp [allD, rCh, isD]
theorem begin29_fn (c : Control) (s : State) (hc : OkC c) (hs : SmS s) : CallFn Tryz.prog 90 [aC c, aSt s] (.tuple [aSt (gatesR c s).1, aI (gatesR c s).2]) := by
  have h := Gates_fn c s hc hs
  refine callFz_of Tryz.func90 rfl Tryz.ntmps90 (rs := [.cell 4 60, .tmp 5]) rfl (by kernel_rfl) (by simp) (by kernel_rfl) ?_
  simp
  generalize gatesR c s = p at *
  obtain ⟨p1, p2⟩ := p
  intro b4
  refine h.s ?_
  simp
theorem wants1_fn (c : Control) (s : State) (x : Expr) (hc : OkC c) (hr : rightC c s = 0) (hx : OkE x) (hk : checkE x (countC c) = 0) : CallFn Tryz.prog 166 [aE x, .rptr (encC c), .rptr (encSt s)] (aB (evalE x (valuesOf s))) := by
  have hs := sm_of (fine_of (right_zero hr).1) (right_zero hr).2.1
  have h := EvalC_fn c s x hc hs hx
  have e : evalP c s x = (evalE x (valuesOf s), 0) := by rw [evalP, if_neg (by simp [hr]), if_neg (by simp [hk])]
  rw [e] at h
  refine callFz_of Tryz.func166 rfl Tryz.ntmps166 (rs := [.tmp 4]) rfl (by kernel_rfl) (by simp) (by kernel_rfl) ?_
  simp
  refine h.s ?_
  simp
theorem wants_fn (c : Control) (s : State) (hc : OkC c) (hr : rightC c s = 0) : CallFn Tryz.prog 91 [aC c, aSt s] (.dat (.sl ((chL c s c.signals.length).map encCh))) := by
  obtain ⟨z1, z2, z3⟩ := right_zero hr
  have hf := fine_of z1
  have ha := hf.act
  have hin := hf.inp
  have hsg := hf.sig
  obtain ⟨f1, f2, f3⟩ := fits_parts hr
  refine callFz_of Tryz.func91 rfl Tryz.ntmps91 (rs := [.tmp 4]) rfl (by kernel_rfl) (by simp) (by kernel_rfl) ?_
  simp
  refine ⟨by omega, by omega, ?_⟩
  refine V.forI (σ := Value) c.signals.length [3, 4, 5, 6, 24, 25] (by simp; exact rfl) (fun i g => [(26, aI i), (7, .own 50 g)]) (fun i g => [(50, .seq g 162 3 ((chL c s i).map rCh))]) (fun _ _ => True) (.slice none 0 0) trivial (by simp) ⟨by simp; exact rfl, by simp [chL]⟩ ?_ ?_
  · rintro i g hi -
    obtain ⟨x, v, t, hx, hv, ht⟩ := sig_have z2 hi
    have hx1 := (List.getElem?_eq_some_iff.1 hx).2
    obtain ⟨hiv, hv1⟩ := List.getElem?_eq_some_iff.1 hv
    obtain ⟨hit, ht1⟩ := List.getElem?_eq_some_iff.1 ht
    have hox := hc.sigs x (List.mem_of_getElem? hx)
    have won := wants1_fn c s x.on hc hr hox.on (hf.on hx).1
    have hsucc := chL_succ c s i
    have hlen := chL_len c s i
    have es := sigS_at (L := valuesOf s) hx hv ht
    have ew : wantAt c s i = wantV x.kind v t (evalE x.on (valuesOf s)) (x.kind == 1 && evalE x.off (valuesOf s)) := by simp only [wantAt, hx, hv, ht]
    have hfit := f3 i x hx
    rw [List.getD_eq_getElem?_getD, List.getD_eq_getElem?_getD, hv, ht] at hfit
    simp only [Option.getD_some] at hfit
    unfold chAt at hsucc
    rw [es, ew] at hsucc
    simp [hi, hx1]
    intro b9
    refine V.drawX (fun _ => none) (by kernel_rfl) (by kernel_rfl) (by simp) ?_
    simp [hv, ht, hv1, ht1, hiv, hit, encSt]
    refine ⟨by unfold firstC at *; omega, fun b10 => ⟨by kernel_rfl, fun b11 => ?_⟩⟩
    by_cases k1 : x.kind = 1
    · have woff := wants1_fn c s x.off hc hr hox.off (by
        have h := hf.sigs i x hx
        unfold signalE at h
        split at h
        · rename_i h1; exact absurd h h1
        · split at h
          · cases h
          · split at h
            · rename_i h1; exact absurd h h1
            · simp only [k1] at h
              simp [memE] at h
              by_cases h3 : checkE x.off (countC c) = 0
              · exact h3
              · simp [h3] at h)
      generalize evalE x.on (valuesOf s) = on at *
      generalize evalE x.off (valuesOf s) = off at *
      simp [k1]
      refine V.drawX (fun t => if t = 53 then some (.fn (aB on)) else if t = 57 then some (.fn (aB off)) else none) (by kernel_rfl) (by kernel_rfl) (by simp) ?_
      simp [k1, encS, packA, hget, won, woff]
      cases on <;> cases off <;> cases v <;> simp [k1, stepV, wantV] at hsucc ⊢
      all_goals rw [hsucc]
      all_goals (refine ⟨by omega, ?_⟩; first | exact rfl | (refine ⟨by omega, ?_⟩; simp [rCh, firstC]))
    · by_cases k2 : x.kind = 2
      · generalize evalE x.on (valuesOf s) = on at *
        simp [k1, k2]
        refine won.s ?_
        simp
        cases on <;> by_cases t0 : t = 0 <;> cases v <;> (try simp [k2, t0, stepV, wantV] at hsucc)
        all_goals (try simp [k2, t0])
        all_goals (try (simp [tstE, k2, t0] at hfit; done))
        all_goals rw [hsucc]
        all_goals (first | (refine ⟨by omega, ?_⟩; exact rfl) | (refine ⟨by omega, by omega, ?_⟩; simp [rCh, firstC]; done) | (refine ⟨fun _ => ⟨by omega, by omega, ?_⟩, fun h => absurd h.symm t0⟩; simp [rCh, firstC]))
      · simp [k1, k2, stepV, wantV] at hsucc ⊢
        exact ⟨by omega, by rw [hsucc]⟩
  · rintro g -
    simp [allD_Ch, rowsD_Ch]
end Go.Proofs.YtbcjnmifflflfaaGreatDoor
end

section
namespace Go.Proofs.YtbcjnmifflflfaaGreatDoor
set_option maxHeartbeats 4000000
set_option maxRecDepth 10000
def lineL (c : Control) (s : State) : List Int := (wantsL c s).map fun i : Nat => firstC c + i
def wantsR29 (c : Control) (s : State) : List Int × Int := if rightC c s ≠ 0 then ([], rightC c s) else (lineL c (gatesP c s), 0)
theorem chL_lines (c : Control) (s : State) : (chL c s c.signals.length).map (fun x => x.1) = lineL c s := by
  unfold chL lineL wantsL
  rw [List.map_map]
  rfl
theorem Wants29_fn (c : Control) (s : State) (hc : OkC c) (hs : SmS s) : CallFn Tryz.prog 41 [aC c, aSt s] (.tuple [aIs (wantsR29 c s).1, aI (wantsR29 c s).2]) := by
  have hbeg := begin29_fn c s hc hs
  unfold wantsR29
  unfold gatesR at hbeg
  by_cases hr : rightC c s = 0
  · have hcalm := calm_of hr
    have hsg := hcalm.fine.sig
    have hw := wants_fn c (gatesP c s) hc hcalm.right
    rw [if_neg (by simp [hr])] at hbeg ⊢
    have hl := chL_lines c (gatesP c s)
    have hn := chL_len c (gatesP c s) c.signals.length
    generalize gatesP c s = G at *
    rw [← hl]
    obtain ⟨X, hX⟩ : ∃ X, chL c G c.signals.length = X := ⟨_, rfl⟩
    rw [hX] at hw hn ⊢
    have hrl := rl_map (f := encCh) (n := 3) (fun _ => rfl) X
    refine CallS.agg (az := [aC c]) (bz := []) ?_
    refine callFz_of Tryz.func41 rfl Tryz.ntmps41 (rs := [.tmp 4, .tmp 5]) rfl (by kernel_rfl) (by simp) (by kernel_rfl) ?_
    simp
    intro b4
    refine hbeg.s ?_
    simp
    refine hw.s ?_
    simp
    refine V.forI (σ := Value) X.length [4, 5, 21, 22] (by simp; exact rfl) (fun i g => [(7, .own 50 g), (23, aI i)]) (fun i g => [(50, .seq g 3 1 ((X.take i).map fun x => rI x.1))]) (fun _ _ => True) (.slice none 0 0) trivial (by simp) ⟨by simp; exact rfl, by simp⟩ ?_ ?_
    · rintro i g hi -
      obtain ⟨x, hx⟩ : ∃ x, X[i]? = some x := ⟨_, List.getElem?_eq_getElem hi⟩
      have hx1 := (List.getElem?_eq_some_iff.1 hx).2
      simp [hi, hx, hx1, hrl, encCh, List.take_add_one]
      omega
    · rintro g -
      simp
      rw [show (X.map fun x => rI x.1) = (X.map fun x => x.1).map rI by rw [List.map_map]; rfl]
      have e1 := rowsD_I (X.map fun x => x.1)
      have e2 := allD_I (X.map fun x => x.1)
      rw [e1, e2, List.map_map]
      exact ⟨rfl, rfl⟩
  · rw [if_pos hr] at hbeg ⊢
    generalize rightC c s = e at *
    refine CallS.agg (az := [aC c]) (bz := []) ?_
    refine callFz_of Tryz.func41 rfl Tryz.ntmps41 (rs := [.tmp 4, .tmp 5]) rfl (by kernel_rfl) (by simp) (by kernel_rfl) ?_
    simp
    intro b4
    refine hbeg.s ?_
    simp [hr]
end Go.Proofs.YtbcjnmifflflfaaGreatDoor
end

section
namespace Go.Proofs.YtbcjnmifflflfaaGreatDoor
set_option maxHeartbeats 1000000
set_option maxRecDepth 10000
def imgS (ks : List Int) (acc : List Int) (k : Int) : List Int := if ks.getD k.toNat 0 = noneV ∨ ks.getD k.toNat 0 ∈ acc then acc else acc ++ [ks.getD k.toNat 0]
theorem img_gen (ks : List Int) : ∀ (l acc : List Int), acc.Nodup → (l.foldl (imgS ks) acc).Nodup ∧ ∀ z, z ∈ l.foldl (imgS ks) acc ↔ z ∈ acc ∨ z ≠ noneV ∧ ∃ k ∈ l, ks.getD k.toNat 0 = z
  | [], acc, h => ⟨h, fun z => by simp⟩
  | k :: l, acc, h => by
    rw [List.foldl_cons]
    unfold imgS
    by_cases hc : ks.getD k.toNat 0 = noneV ∨ ks.getD k.toNat 0 ∈ acc
    · rw [if_pos hc]
      obtain ⟨h1, h2⟩ := img_gen ks l acc h
      refine ⟨h1, fun z => (h2 z).trans ⟨?_, ?_⟩⟩
      · rintro (a | ⟨a, m, b1, b2⟩)
        · exact .inl a
        · exact .inr ⟨a, m, by simp [b1], b2⟩
      · rintro (a | ⟨a, m, b1, b2⟩)
        · exact .inl a
        · rcases List.mem_cons.1 b1 with rfl | b1
          · rcases hc with hc | hc
            · exact absurd (b2.symm.trans hc) a
            · exact .inl (by rwa [b2] at hc)
          · exact .inr ⟨a, m, b1, b2⟩
    · rw [if_neg hc]
      obtain ⟨hc1, hc2⟩ := not_or.1 hc
      obtain ⟨h1, h2⟩ := img_gen ks l (acc ++ [ks.getD k.toNat 0]) (by
        rw [List.nodup_append]
        refine ⟨h, by simp, ?_⟩
        intro a ha b hb e
        simp only [List.mem_singleton] at hb
        subst hb
        subst e
        exact hc2 ha)
      refine ⟨h1, fun z => (h2 z).trans ⟨?_, ?_⟩⟩
      · rintro (a | ⟨a, m, b1, b2⟩)
        · rcases List.mem_append.1 a with a | a
          · exact .inl a
          · simp only [List.mem_singleton] at a
            exact .inr ⟨by rw [a]; exact hc1, k, by simp, a.symm⟩
        · exact .inr ⟨a, m, by simp [b1], b2⟩
      · rintro (a | ⟨a, m, b1, b2⟩)
        · exact .inl (by simp [a])
        · rcases List.mem_cons.1 b1 with rfl | b1
          · exact .inl (List.mem_append.2 (.inr (by rw [b2]; simp)))
          · exact .inr ⟨a, m, b1, b2⟩
theorem line_sorted (c : Control) (s : State) : (lineL c s).Pairwise (· < ·) := by
  unfold lineL wantsL
  rw [List.pairwise_map]
  refine List.Pairwise.filter _ ?_
  refine List.Pairwise.imp ?_ (List.pairwise_lt_range)
  intro a b h
  omega
theorem want_kind {c : Control} {s : State} {i : Nat} (h : wantAt c s i = true) : ∃ x, c.signals[i]? = some x ∧ x.kind ≠ 0 := by
  unfold wantAt at h
  cases hx : c.signals[i]? with
  | none => rw [hx] at h; cases h
  | some x =>
    refine ⟨x, rfl, fun e => ?_⟩
    rw [hx] at h
    cases hv : s.values[i]? with
    | none => rw [hv] at h; cases h
    | some v =>
      cases ht : s.timers[i]? with
      | none => rw [hv, ht] at h; cases h
      | some t =>
        rw [hv, ht] at h
        simp [wantV, e] at h
section red
variable {c : Control} (hz : checkC c = 0)
include hz
theorem want_kept {s t : State} (B : Bel c s t) (hv : ∀ k : Int, 0 ≤ k ∧ k < countC c → keepL c k ≠ noneV → (valuesOf t).getD (keepL c k).toNat false = (valuesOf s).getD k.toNat false)
    {i : Nat} {y : Signal} (hy : c.signals[i]? = some y) (hk : y.kind ≠ 0) (hkk : keepL c (firstC c + i) ≠ noneV) : ∃ j : Nat, keepL c (firstC c + i) = firstC c + j ∧ j < (redC c).signals.length ∧ wantAt (redC c) t j = wantAt c s i := by
  have hf := fine_of hz
  obtain ⟨q, m, z, q1, q2, q3, q4, q5, q6, q7, q8, q9, q10, q11, q12⟩ := kept_sig hz (pil_of hz) hy hkk (fun h => hk h.1)
  have hb := B.sig i y hy hk hkk
  rw [q3, show (firstC c + (posN c q : Int) - firstC c).toNat = posN c q by omega] at hb
  have hi : i < c.signals.length := (List.getElem?_eq_some_iff.1 hy).1
  have hj : posN c q < (redC c).signals.length := (List.getElem?_eq_some_iff.1 q6).1
  have hl1 : s.values.length = c.signals.length := B.hs.2.2.2.1
  have hl2 : s.timers.length = c.signals.length := B.hs.2.2.2.2
  have hl3 : t.values.length = (redC c).signals.length := B.ht.2.2.2.1
  have hl4 : t.timers.length = (redC c).signals.length := B.ht.2.2.2.2
  have g1 : s.values[i]? = some s.values[i] := List.getElem?_eq_getElem (by omega)
  have g2 : s.timers[i]? = some s.timers[i] := List.getElem?_eq_getElem (by omega)
  have g3 : t.values[posN c q]? = some t.values[posN c q] := List.getElem?_eq_getElem (by omega)
  have g4 : t.timers[posN c q]? = some t.timers[posN c q] := List.getElem?_eq_getElem (by omega)
  have e1 : t.values[posN c q] = s.values[i] := by
    have := hb.1
    rwa [List.getD_eq_getElem?_getD, List.getD_eq_getElem?_getD, g1, g3] at this
  have e2 : t.timers[posN c q] = s.timers[i] := by
    have := hb.2
    rwa [List.getD_eq_getElem?_getD, List.getD_eq_getElem?_getD, g2, g4] at this
  have rx := sig_right hf hy
  have ev : ∀ e : Expr, RightE (countC c) e → (∀ u ∈ varsE e, (0 ≤ u ∧ u < countC c) ∧ keepL c u ≠ noneV) → evalE (repE e (keepP c)) (valuesOf t) = evalE e (valuesOf s) := by
    intro e re he
    refine evalE_rep _ e (Nat.lt_succ_self _) re fun u hu => ?_
    obtain ⟨h1, h2⟩ := he u hu
    rw [keep_getD h1]
    exact hv u h1 h2
  have ev1 : evalE (redX c z).on (valuesOf t) = evalE y.on (valuesOf s) := by
    show evalE (repE z.on (keepP c)) _ = _
    rw [← q10]
    exact ev y.on rx.1 fun u hu => ⟨vars_check (hf.on hy).1 u hu, q12 u (.inl hu)⟩
  have ev2 : evalE (redX c z).off (valuesOf t) = evalE y.off (valuesOf s) := by
    show evalE (repE z.off (keepP c)) _ = _
    rw [← q11]
    exact ev y.off rx.2 fun u hu => ⟨off_range hf hy u hu, q12 u (.inr hu)⟩
  refine ⟨posN c q, q3, hj, ?_⟩
  unfold wantAt
  rw [q6, g3, g4, hy, g1, g2]
  dsimp only
  rw [e1, e2, ev1, ev2, show (redX c z).kind = y.kind from q7.symm]
theorem img_wants {s t : State} (hr : rightC c s = 0) (h : carryQ c (redC c) (keepP c) s = (t, 0)) : sortI ((lineL c (gatesP c s)).foldl (imgS (keepP c)) []) = lineL (redC c) (gatesP (redC c) t) := by
  have hf := fine_of hz
  have hp := pil_of hz
  have h0 := hf.f0
  have hcf := count_first c
  obtain ⟨p, B, hr2, rfl⟩ := carry_some hz h hr
  have hf2 := fine_of (red_check hz hp)
  have B2 := Bel.gates hz hp B
  rw [gates_twice hf2 B.ht]
  have hv := fun (k : Int) hk hkk => val_kept hz hp B (k := k) hk hkk
  obtain ⟨n1, n2⟩ := img_gen (keepP c) (lineL c (gatesP c s)) [] List.nodup_nil
  have hperm : (sortI ((lineL c (gatesP c s)).foldl (imgS (keepP c)) [])).Perm ((lineL c (gatesP c s)).foldl (imgS (keepP c)) []) := List.mergeSort_perm _ _
  refine lt_ext ?_ (line_sorted _ _) fun w => ?_
  · have h1 := sortI_sorted ((lineL c (gatesP c s)).foldl (imgS (keepP c)) [])
    have h2 : (sortI ((lineL c (gatesP c s)).foldl (imgS (keepP c)) [])).Nodup := hperm.nodup_iff.2 n1
    exact (List.Pairwise.and h1 h2).imp fun {a b} hab => by omega
  · rw [hperm.mem_iff, n2 w]
    constructor
    · rintro (hw | ⟨hw, k, hk, e⟩)
      · cases hw
      · obtain ⟨i, hi, rfl⟩ := List.mem_map.1 hk
        obtain ⟨hi1, hi2⟩ := mem_wants.1 hi
        have hkr : 0 ≤ firstC c + (i : Int) ∧ firstC c + (i : Int) < countC c := by omega
        rw [keep_getD hkr] at e
        subst e
        obtain ⟨y, hy, hyk⟩ := want_kind hi2
        obtain ⟨j, j1, j2, j3⟩ := want_kept hz B2 hv hy hyk hw
        refine List.mem_map.2 ⟨j, mem_wants.2 ⟨j2, j3.trans hi2⟩, ?_⟩
        rw [red_first, j1]
    · intro hw
      obtain ⟨j, hj, rfl⟩ := List.mem_map.1 hw
      obtain ⟨hj1, hj2⟩ := mem_wants.1 hj
      obtain ⟨z, hzj, hzk⟩ := want_kind hj2
      obtain ⟨i, x, hx, rfl, hk, hn⟩ := red_src hz hzj
      obtain ⟨j', k1, k2, k3⟩ := want_kept hz B2 hv hx hzk hn
      obtain rfl : j' = j := by omega
      have hi : i < c.signals.length := (List.getElem?_eq_some_iff.1 hx).1
      have hkr : 0 ≤ firstC c + (i : Int) ∧ firstC c + (i : Int) < countC c := by omega
      refine .inr ⟨by rw [red_first, ← hk]; exact hn, firstC c + i, List.mem_map.2 ⟨i, mem_wants.2 ⟨hi, k3 ▸ hj2⟩, rfl⟩, ?_⟩
      rw [keep_getD hkr, hk, red_first]
end red
end Go.Proofs.YtbcjnmifflflfaaGreatDoor
end

section
namespace Go.Proofs.YtbcjnmifflflfaaGreatDoor
set_option maxHeartbeats 1000000
structure Pin where
  part : List UInt8
  port : List UInt8
  deriving DecidableEq
abbrev noPin : Pin := ⟨[], []⟩
abbrev encPin (p : Pin) : List L := [.str p.part, .str p.port]
structure Made where
  kind : Int
  name : List UInt8
  delay : Int
  signal : Int
  arg : Option Expr
  valve : Int
  line : Int
structure Mk where
  parts : List Made
  joins : List (Pin × Pin)
  number : Nat
  signal : Int
  gates : List (Int × Pin)
abbrev numT (n : Nat) : List UInt8 := Go.Lib.decDigits n
def letterT (a : Nat) : List UInt8 := [UInt8.ofNat (65 + a)]
def ownT (c : Control) (i : Nat) : List UInt8 := (if kindAt c i = 2 then 84 else 77) :: numT i
abbrev supPin : Pin := ⟨[83], [49]⟩
def joinD (a b : Pin) : List (Pin × Pin) := if a = noPin ∨ b = noPin then [] else [(a, b)]
def Mk.add (m : Mk) (kind : Int) (name : List UInt8) (delay line : Int) : Mk := { m with parts := m.parts ++ [⟨kind, name, delay, m.signal, none, -1, line⟩] }
def Mk.join (m : Mk) (a b : Pin) : Mk := { m with joins := m.joins ++ joinD a b }
def Mk.feed (m : Mk) (name : List UInt8) : Mk := m.join supPin ⟨name, [49]⟩
def getG : List (Int × Pin) → Int → Option Pin
  | [], _ => none
  | q :: r, k => if q.1 = k then some q.2 else getG r k
def putG : List (Int × Pin) → Int → Pin → List (Int × Pin)
  | [], k, p => [(k, p)]
  | q :: r, k, p => if q.1 = k then (k, p) :: r else q :: putG r k p
def portM (c : Control) (gates : List (Int × Pin)) (line : Int) : Pin :=
  if line < 2 * c.actuators then ⟨letterT (line.toNat / 2) ++ numT (line.toNat % 2), [50]⟩
  else if line < firstC c then ⟨c.inputs.getD (line - 2 * c.actuators).toNat [], [50]⟩
  else if kindAt c (line - firstC c) = 1 then ⟨ownT c (line - firstC c).toNat, [52]⟩
  else if kindAt c (line - firstC c) = 2 then ⟨ownT c (line - firstC c).toNat, [50]⟩
  else (getG gates line).getD noPin
structure Dl where
  parts : List Made
  joins : List (Pin × Pin)
  num : Nat
  pin : Pin
def airD (fl : Bool) (p : Pin) : List (Pin × Pin) := if fl = true then joinD p supPin else joinD supPin p
def notD (fl : Bool) (sg : Int) (d : Dl) (x : Expr) : Dl :=
  ⟨d.parts ++ [⟨5, 78 :: numT d.num, 0, sg, some x, -1, -1⟩], d.joins ++ airD fl ⟨78 :: numT d.num, [49]⟩ ++ joinD d.pin ⟨78 :: numT d.num, [49, 48]⟩, d.num + 1, ⟨78 :: numT d.num, [50]⟩⟩
def twinD (sg kind : Int) (letter : UInt8) (d : Dl) (p : Pin) : Dl :=
  ⟨d.parts ++ [⟨kind, letter :: numT d.num, 0, sg, none, -1, -1⟩], d.joins ++ joinD d.pin ⟨letter :: numT d.num, [49]⟩ ++ joinD p ⟨letter :: numT d.num, [49, 49]⟩, d.num + 1, ⟨letter :: numT d.num, [50]⟩⟩
structure Ds' where
  parts : List Made
  joins : List (Pin × Pin)
  num : Nat
  pins : List Pin
def foldD (sg : Int) (op : Int) (r : Ds') : Dl := match r.pins with
  | p :: ps => ps.foldl (twinD sg (if op = 3 then 9 else 8) (if op = 3 then 80 else 81)) ⟨r.parts, r.joins, r.num, p⟩
  | [] => ⟨r.parts, r.joins, r.num, noPin⟩
def notsD (fl : Bool) (sg : Int) (r : Ds') (x : Option Expr) : Dl := match x with
  | some y => notD fl sg ⟨r.parts, r.joins, r.num, r.pins.headD noPin⟩ y
  | none => ⟨r.parts, r.joins, r.num, noPin⟩
mutual
def exprD (fl : Bool) (pf : Int → Pin) (sg : Int) : Expr → Nat → Dl
  | ⟨op, ix, args⟩, k =>
    if op = 0 then ⟨[], [], k, if ix = 1 then supPin else noPin⟩
    else if op = 1 then ⟨[], [], k, pf ix⟩
    else if op = 2 then notsD fl sg (argsD fl pf sg args k) args.head?
    else foldD sg op (argsD fl pf sg args k)
def argsD (fl : Bool) (pf : Int → Pin) (sg : Int) : List Expr → Nat → Ds'
  | [], k => ⟨[], [], k, []⟩
  | x :: xs, k =>
    ⟨(exprD fl pf sg x k).parts ++ (argsD fl pf sg xs (exprD fl pf sg x k).num).parts, (exprD fl pf sg x k).joins ++ (argsD fl pf sg xs (exprD fl pf sg x k).num).joins,
      (argsD fl pf sg xs (exprD fl pf sg x k).num).num, (exprD fl pf sg x k).pin :: (argsD fl pf sg xs (exprD fl pf sg x k).num).pins⟩
end
theorem exprD_eq (fl : Bool) (pf : Int → Pin) (sg : Int) (x : Expr) (k : Nat) : exprD fl pf sg x k =
    if x.op = 0 then ⟨[], [], k, if x.index = 1 then supPin else noPin⟩
    else if x.op = 1 then ⟨[], [], k, pf x.index⟩
    else if x.op = 2 then notsD fl sg (argsD fl pf sg x.args k) x.args.head?
    else foldD sg x.op (argsD fl pf sg x.args k) := by
  cases x
  rw [exprD]
theorem argsD_snoc (fl : Bool) (pf : Int → Pin) (sg : Int) (y : Expr) : ∀ (xs : List Expr) (k : Nat), argsD fl pf sg (xs ++ [y]) k =
    ⟨(argsD fl pf sg xs k).parts ++ (exprD fl pf sg y (argsD fl pf sg xs k).num).parts, (argsD fl pf sg xs k).joins ++ (exprD fl pf sg y (argsD fl pf sg xs k).num).joins,
      (exprD fl pf sg y (argsD fl pf sg xs k).num).num, (argsD fl pf sg xs k).pins ++ [(exprD fl pf sg y (argsD fl pf sg xs k).num).pin]⟩
  | [], k => by simp [argsD]
  | x :: xs, k => by simp [argsD, argsD_snoc fl pf sg y xs]
theorem argsD_len (fl : Bool) (pf : Int → Pin) (sg : Int) : ∀ (xs : List Expr) (k : Nat), (argsD fl pf sg xs k).pins.length = xs.length
  | [], k => rfl
  | x :: xs, k => by simp [argsD, argsD_len fl pf sg xs]
def Mk.app (m : Mk) (d : Dl) : Mk := { m with parts := m.parts ++ d.parts, joins := m.joins ++ d.joins, number := d.num }
def Mk.expr (c : Control) (m : Mk) (x : Expr) : Dl := exprD false (portM c m.gates) m.signal x m.number
def Mk.valve (m : Mk) (a : Int) : Mk := { m with parts := m.parts.set (m.parts.length - 1) (match m.parts[m.parts.length - 1]? with
  | some p => { p with valve := a }
  | none => ⟨0, [], 0, 0, none, 0, 0⟩) }
def actM (m : Mk) (a : Nat) : Mk :=
  (((((((((m.add 1 (letterT a) 0 (-1)).add 6 (letterT a ++ [48]) 0 (2 * a)).feed (letterT a ++ [48])).add 6 (letterT a ++ [49]) 0 (2 * a + 1)).feed (letterT a ++ [49])).add 2 (86 :: letterT a) 0 (-1)).valve a).feed (86 :: letterT a)).join
    ⟨86 :: letterT a, [50]⟩ ⟨letterT a, [50]⟩).join ⟨86 :: letterT a, [52]⟩ ⟨letterT a, [52]⟩
def inM (c : Control) (m : Mk) (i : Nat) : Mk := (m.add 7 (c.inputs.getD i []) 0 (2 * c.actuators + i)).feed (c.inputs.getD i [])
def machineM (c : Control) : Mk := (List.range c.inputs.length).foldl (inM c) ((List.range c.actuators.toNat).foldl actM ((⟨[], [], 0, -1, []⟩ : Mk).add 0 [83] 0 (-1)))
def Mk.sig (m : Mk) (i : Nat) : Mk := { m with signal := i }
def gateM (c : Control) (m : Mk) (i : Nat) : Mk :=
  if kindAt c i = 0 then
    { (m.sig i).app ((m.sig i).expr c (((c.signals[i]?).map (·.on)).getD ⟨0, 0, []⟩)) with gates := putG m.gates (firstC c + i) ((m.sig i).expr c (((c.signals[i]?).map (·.on)).getD ⟨0, 0, []⟩)).pin }
  else m.sig i
def Mk.to (c : Control) (m : Mk) (x : Expr) (p : Pin) : Mk := (m.app (m.expr c x)).join (m.expr c x).pin p
def sigM (c : Control) (m : Mk) (i : Nat) : Mk := match c.signals[i]? with
  | some x =>
    if x.kind = 1 then (((((m.sig i).add 2 (ownT c i) 0 (firstC c + i)).feed (ownT c i)).to c x.on ⟨ownT c i, [49, 52]⟩).to c x.off ⟨ownT c i, [49, 50]⟩)
    else if x.kind = 2 then (((m.sig i).add 12 (ownT c i) x.delay (firstC c + i)).feed (ownT c i)).to c x.on ⟨ownT c i, [49, 50]⟩
    else m.sig i
  | none => m
def pilM (c : Control) (m : Mk) (a : Nat) : Mk :=
  (m.join (portM c m.gates (c.plus.getD a 0)) ⟨86 :: letterT a, [49, 52]⟩).join (portM c m.gates (c.minus.getD a 0)) ⟨86 :: letterT a, [49, 50]⟩
def wholeM (c : Control) : Mk := (List.range c.actuators.toNat).foldl (pilM c) ((List.range c.signals.length).foldl (sigM c) ((List.range c.signals.length).foldl (gateM c) (machineM c)))
end Go.Proofs.YtbcjnmifflflfaaGreatDoor
end

section
namespace Go.Proofs.YtbcjnmifflflfaaGreatDoor
set_option maxHeartbeats 1000000
mutual
def sizeN : Expr → Nat
  | ⟨_, _, args⟩ => 1 + sizeNL args
def sizeNL : List Expr → Nat
  | [] => 0
  | x :: xs => sizeN x + sizeNL xs
end
theorem sizeN_eq (x : Expr) : sizeN x = 1 + sizeNL x.args := by cases x; rw [sizeN]
theorem size_pre : ∀ (N : Nat) (x : Expr), SizeOf.sizeOf x < N → ∀ d : Int, (∀ p ∈ preE x d, p.1 ≤ 16) → sizeN x = (preE x d).length
  | 0, _, h, _, _ => absurd h (Nat.not_lt_zero _)
  | N + 1, x, hN, d, h1 => by
    have hd : d ≤ 16 := h1 (d, x) (by rw [preE_eq]; simp)
    have key : ∀ l : List Expr, (∀ y ∈ l, y ∈ x.args) → sizeNL l = (preL l (d + 1)).length := by
      intro l
      induction l with
      | nil => intro _; rfl
      | cons y l ih =>
        intro hl
        have hy := hl y (by simp)
        rw [sizeNL, preL, List.length_append, ih fun z hz => hl z (by simp [hz])]
        rw [size_pre N y (by have := Expr.lt_of_mem hy; omega) (d + 1) fun p hp => h1 p ?_]
        rw [preE_eq, if_pos hd]
        exact List.mem_cons_of_mem _ (preL_mem hp hy)
    rw [sizeN_eq, preE_eq, if_pos hd, key x.args fun _ h => h, List.length_cons]
    omega
theorem meas_len : ∀ {l : List (Int × Expr)} {s s' : Int × Int}, l.foldlM measS s = .ok s' → s'.1 = s.1 + l.length ∧ (l ≠ [] → s'.1 ≤ 256)
  | [], s, s', h => by
    simp only [List.foldlM_nil, pure, Except.pure, Except.ok.injEq] at h
    subst h
    exact ⟨by simp, fun h => absurd rfl h⟩
  | q :: r, s, s', h => by
    rw [List.foldlM_cons] at h
    cases hs : measS s q with
    | error e => rw [hs] at h; simp [bind, Except.bind] at h
    | ok s1 =>
      rw [hs] at h
      have h2 := meas_len (l := r) (s := s1) (s' := s') h
      unfold measS at hs
      split at hs
      · cases hs
      · rename_i hc
        simp only [Except.ok.injEq] at hs
        subst hs
        refine ⟨by rw [h2.1]; simp; omega, fun _ => ?_⟩
        cases r with
        | nil => have := h2.1; simp at this; omega
        | cons a b => exact h2.2 (by simp)
theorem size_check {x : Expr} {n : Int} (h : checkE x n = 0) : sizeN x ≤ 256 := by
  unfold checkE at h
  split at h
  · cases h
  · split at h
    · cases h
    · rename_i s hm
      have h1 := meas_len hm
      rw [size_pre (SizeOf.sizeOf x + 1) x (by omega) 1 fun p hp => ?_]
      · have h2 := h1.2 (by rw [preE_eq]; simp)
        rw [h1.1] at h2
        simp only at h2
        omega
      · obtain ⟨s1, s2, h3⟩ := fold_ok hm p hp
        unfold measS at h3
        split at h3
        · cases h3
        · omega
structure Small (k : Nat) (n : Nat) (ps : List Made) (js : List (Pin × Pin)) (m : Nat) : Prop where
  num : m = k + ps.length
  parts : ps.length ≤ n
  joins : js.length ≤ 3 * ps.length
theorem joinD_len (a b : Pin) : (joinD a b).length ≤ 1 := by
  unfold joinD
  split <;> simp
theorem airD_len (fl : Bool) (p : Pin) : (airD fl p).length ≤ 1 := by
  unfold airD
  split <;> exact joinD_len _ _
theorem twin_small {sg kind : Int} {letter : UInt8} {k : Nat} : ∀ (ps : List Pin) {n : Nat} {d : Dl}, Small k n d.parts d.joins d.num → Small k (n + ps.length) (ps.foldl (twinD sg kind letter) d).parts (ps.foldl (twinD sg kind letter) d).joins (ps.foldl (twinD sg kind letter) d).num
  | [], n, d, h => by simpa using h
  | p :: ps, n, d, h => by
    have h1 : Small k (n + 1) (twinD sg kind letter d p).parts (twinD sg kind letter d p).joins (twinD sg kind letter d p).num := by
      obtain ⟨a1, a2, a3⟩ := h
      have j1 := joinD_len d.pin ⟨letter :: numT d.num, [49]⟩
      have j2 := joinD_len p ⟨letter :: numT d.num, [49, 49]⟩
      refine ⟨?_, ?_, ?_⟩
      · simp only [twinD, List.length_append, List.length_cons, List.length_nil]; omega
      · simp only [twinD, List.length_append, List.length_cons, List.length_nil]; omega
      · simp only [twinD, List.length_append, List.length_cons, List.length_nil]; omega
    have h2 := twin_small (sg := sg) (kind := kind) (letter := letter) ps h1
    rw [List.foldl_cons, List.length_cons, show n + (ps.length + 1) = n + 1 + ps.length by omega]
    exact h2
theorem sizeN_pos (x : Expr) : 1 ≤ sizeN x := by rw [sizeN_eq]; omega
theorem sizeNL_len : ∀ xs : List Expr, xs.length ≤ sizeNL xs
  | [] => by simp
  | x :: xs => by
    have := sizeNL_len xs
    have := sizeN_pos x
    rw [sizeNL, List.length_cons]
    omega
mutual
theorem expr_small (fl : Bool) (pf : Int → Pin) (sg : Int) : ∀ (x : Expr) (k : Nat), Small k (sizeN x - 1) (exprD fl pf sg x k).parts (exprD fl pf sg x k).joins (exprD fl pf sg x k).num
  | ⟨op, ix, args⟩, k => by
    have h := args_small fl pf sg args k
    have hl := argsD_len fl pf sg args k
    have hn := sizeNL_len args
    rw [exprD_eq, sizeN_eq]
    dsimp only
    split
    · exact ⟨by simp, by simp, by simp⟩
    · split
      · exact ⟨by simp, by simp, by simp⟩
      · generalize argsD fl pf sg args k = r at *
        obtain ⟨r1, r2, r3, r4⟩ := r
        dsimp only at h hl ⊢
        split
        · obtain ⟨a1, a2, a3⟩ := h
          have j1 := airD_len fl ⟨78 :: numT r3, [49]⟩
          have j2 := joinD_len (r4.headD noPin) ⟨78 :: numT r3, [49, 48]⟩
          cases args with
          | nil => exact ⟨a1, by simp only [notsD, List.head?_nil]; omega, a3⟩
          | cons y ys =>
            simp only [List.length_cons] at a2 hn
            simp only [List.head?_cons, notsD]
            refine ⟨?_, ?_, ?_⟩
            · simp only [notD, List.length_append, List.length_cons, List.length_nil]; omega
            · simp only [notD, List.length_append, List.length_cons, List.length_nil]; omega
            · simp only [notD, List.length_append, List.length_cons, List.length_nil]; omega
        · unfold foldD
          dsimp only
          cases r4 with
          | nil => exact ⟨h.num, by have := h.parts; dsimp only; omega, h.joins⟩
          | cons p ps =>
            have h2 := twin_small (sg := sg) (kind := if op = 3 then 9 else 8) (letter := if op = 3 then 80 else 81) ps (d := ⟨r1, r2, r3, p⟩) h
            simp only [List.length_cons] at hl
            exact ⟨h2.num, Nat.le_trans h2.parts (by omega), h2.joins⟩
theorem args_small (fl : Bool) (pf : Int → Pin) (sg : Int) : ∀ (xs : List Expr) (k : Nat), Small k (sizeNL xs - xs.length) (argsD fl pf sg xs k).parts (argsD fl pf sg xs k).joins (argsD fl pf sg xs k).num
  | [], k => ⟨by simp [argsD], by simp [argsD], by simp [argsD]⟩
  | x :: xs, k => by
    obtain ⟨a1, a2, a3⟩ := expr_small fl pf sg x k
    obtain ⟨b1, b2, b3⟩ := args_small fl pf sg xs (exprD fl pf sg x k).num
    have hn := sizeNL_len xs
    have hx := sizeN_pos x
    rw [argsD, sizeNL]
    refine ⟨?_, ?_, ?_⟩
    · simp only [List.length_append]; omega
    · simp only [List.length_append, List.length_cons]; omega
    · simp only [List.length_append]; omega
end
end Go.Proofs.YtbcjnmifflflfaaGreatDoor
end

section
namespace Go.Proofs.YtbcjnmifflflfaaGreatDoor
set_option maxHeartbeats 1000000
structure Dr where
  gears : List Made
  links : List (Pin × Pin)
  ends : List Pin
  count : Nat
def Dr.link (d : Dr) (a b : Pin) : Dr := { d with links := d.links ++ joinD a b }
def Dr.put (d : Dr) (p : Made) (air : Bool) : Dr := { d with gears := d.gears ++ [p], links := d.links ++ (if air = true then joinD ⟨p.name, [49]⟩ supPin else []) }
def Dr.app (d : Dr) (x : Dl) : Dr := { d with gears := d.gears ++ x.parts, links := d.links ++ x.joins, count := x.num }
def Dr.expr (d : Dr) (x : Expr) (sg : Int) : Dl := exprD true (fun i => d.ends.getD i.toNat noPin) sg x d.count
def Dr.to (d : Dr) (x : Expr) (sg : Int) (p : Pin) : Dr := (d.app (d.expr x sg)).link (d.expr x sg).pin p
inductive Flips : List (Pin × Pin) → List (Pin × Pin) → Prop
  | nil : Flips [] []
  | keep {p l m} : Flips l m → Flips (p :: l) (p :: m)
  | swap {a b l m} : Flips l m → Flips ((a, b) :: l) ((b, a) :: m)
theorem Flips.refl : ∀ l, Flips l l
  | [] => .nil
  | _ :: l => .keep (Flips.refl l)
theorem Flips.app {l m l' m' : List (Pin × Pin)} (h : Flips l m) (h' : Flips l' m') : Flips (l ++ l') (m ++ m') := by
  induction h with
  | nil => exact h'
  | keep _ ih => exact .keep ih
  | swap _ ih => exact .swap ih
theorem Flips.length {l m : List (Pin × Pin)} (h : Flips l m) : l.length = m.length := by
  induction h with
  | nil => rfl
  | keep _ ih => simp [ih]
  | swap _ ih => simp [ih]
structure SameD (a b : Dl) : Prop where
  parts : a.parts = b.parts
  joins : Flips a.joins b.joins
  num : a.num = b.num
  pin : a.pin = b.pin
end Go.Proofs.YtbcjnmifflflfaaGreatDoor
end

section
namespace Go.Proofs.YtbcjnmifflflfaaGreatDoor
set_option maxRecDepth 100000
set_option maxHeartbeats 4000000
def itRen : Go.Shelf.Ren := ⟨fun | 129 => 178 | 171 => 133 | 243 => 208 | 246 => 264 | 283 => 292 | 284 => 293 | 285 => 294 | 286 => 295 | 317 => 311 | 318 => 312 | 319 => 313 | 320 => 314 | 337 => 326 | 338 => 327 | n => n, fun | 0 => 0 | 2 => 2 | 3 => 3 | 4 => 4 | 5 => 5 | 9 => 9 | 20 => 20 | 37 => 357 | 46 => 169 | 51 => 250 | 53 => 252 | 171 => 355 | 173 => 358 | 212 => 372 | 213 => 373 | 232 => 381 | 233 => 382 | n => n, fun | 17 => 2 | 18 => 3 | 19 => 4 | n => n⟩
theorem itLays0 : Go.Proofs.Lays.n171 Tryz.prog itRen := { 
  mixed := by kernel_rfl,
  f129 := by kernel_rfl,
  f171 := by kernel_rfl,
  f243 := by kernel_rfl,
  f246 := by kernel_rfl,
  f283 := by kernel_rfl,
  f284 := by kernel_rfl,
  f285 := by kernel_rfl,
  f286 := by kernel_rfl,
  f317 := by kernel_rfl,
  f318 := by kernel_rfl,
  f319 := by kernel_rfl,
  f320 := by kernel_rfl,
  f337 := by kernel_rfl,
  f338 := by kernel_rfl,
  t0 := Tryz.underlying0,
  a0 := Tryz.isAgg0,
  z0 := Tryz.sizeOf0,
  v0 := Tryz.zeroValue0,
  t2 := Tryz.underlying2,
  a2 := Tryz.isAgg2,
  z2 := Tryz.sizeOf2,
  v2 := Tryz.zeroValue2,
  t3 := Tryz.underlying3,
  a3 := Tryz.isAgg3,
  z3 := Tryz.sizeOf3,
  v3 := Tryz.zeroValue3,
  t4 := Tryz.underlying4,
  a4 := Tryz.isAgg4,
  z4 := Tryz.sizeOf4,
  v4 := Tryz.zeroValue4,
  t5 := Tryz.underlying5,
  a5 := Tryz.isAgg5,
  z5 := Tryz.sizeOf5,
  v5 := Tryz.zeroValue5,
  t9 := Tryz.underlying9,
  a9 := Tryz.isAgg9,
  z9 := Tryz.sizeOf9,
  v9 := Tryz.zeroValue9,
  t20 := Tryz.underlying20,
  a20 := Tryz.isAgg20,
  z20 := Tryz.sizeOf20,
  v20 := Tryz.zeroValue20,
  t37 := Tryz.underlying357,
  a37 := Tryz.isAgg357,
  z37 := Tryz.sizeOf357,
  v37 := Tryz.zeroValue357,
  t46 := Tryz.underlying169,
  a46 := Tryz.isAgg169,
  z46 := Tryz.sizeOf169,
  v46 := Tryz.zeroValue169,
  t51 := Tryz.underlying250,
  a51 := Tryz.isAgg250,
  z51 := Tryz.sizeOf250,
  v51 := Tryz.zeroValue250,
  t53 := Tryz.underlying252,
  a53 := Tryz.isAgg252,
  z53 := Tryz.sizeOf252,
  v53 := Tryz.zeroValue252,
  t171 := Tryz.underlying355,
  a171 := Tryz.isAgg355,
  z171 := Tryz.sizeOf355,
  v171 := Tryz.zeroValue355,
  t173 := Tryz.underlying358,
  a173 := Tryz.isAgg358,
  z173 := Tryz.sizeOf358,
  v173 := Tryz.zeroValue358,
  t212 := Tryz.underlying372,
  a212 := Tryz.isAgg372,
  z212 := Tryz.sizeOf372,
  v212 := Tryz.zeroValue372,
  t213 := Tryz.underlying373,
  a213 := Tryz.isAgg373,
  z213 := Tryz.sizeOf373,
  t232 := Tryz.underlying381,
  a232 := Tryz.isAgg381,
  z232 := Tryz.sizeOf381,
  v232 := Tryz.zeroValue381,
  t233 := Tryz.underlying382,
  a233 := Tryz.isAgg382,
  z233 := Tryz.sizeOf382,
  v233 := Tryz.zeroValue382,
  g17 := by kernel_rfl,
  g18 := by kernel_rfl,
  g19 := by kernel_rfl }
theorem itLays : Go.Proofs.LaysM.n171 Tryz.prog itRen := { itLays0 with 
  i0 := by kernel_rfl,
  i2 := by kernel_rfl,
  i3 := by kernel_rfl,
  i4 := by kernel_rfl,
  i5 := by kernel_rfl,
  i9 := by kernel_rfl,
  i20 := by kernel_rfl,
  i37 := by kernel_rfl,
  i46 := by kernel_rfl,
  i51 := by kernel_rfl,
  i53 := by kernel_rfl,
  i171 := by kernel_rfl,
  i173 := by kernel_rfl,
  i212 := by kernel_rfl,
  i232 := by kernel_rfl,
  i233 := by kernel_rfl,
  m17 := by kernel_rfl,
  m18 := by kernel_rfl,
  m19 := by kernel_rfl }
def scRen : Go.Shelf.Ren := ⟨fun | 106 => 121 | 213 => 204 | 265 => 255 | n => n, fun | 3 => 3 | 9 => 9 | n => n, fun n => n⟩
theorem scLays : Go.Proofs.Lays.n106 Tryz.prog scRen := { 
  mixed := by kernel_rfl,
  f106 := by kernel_rfl,
  f213 := by kernel_rfl,
  f265 := by kernel_rfl,
  t3 := Tryz.underlying3,
  a3 := Tryz.isAgg3,
  z3 := Tryz.sizeOf3,
  v3 := Tryz.zeroValue3,
  t9 := Tryz.underlying9,
  a9 := Tryz.isAgg9,
  z9 := Tryz.sizeOf9,
  v9 := Tryz.zeroValue9 }
end Go.Proofs.YtbcjnmifflflfaaGreatDoor
end

section
namespace Go.Proofs.YtbcjnmifflflfaaGreatDoor
variable {P : Program}
def Gh (Q : Env → Heap → Prop) (E : Env) (H : Heap) : Prop :=
  ∀ (n : Nat) (ds : List Deferred) (x : X) (act : Act) (H0 : Heap), Inv x (H ++ H0) → EnvOK n ds x act E →
    ∃ (y : X) (E' : Env) (H' : Heap), y.w = x.w ∧ x.le y ∧ Inv y (H' ++ H0) ∧ EnvOK n ds y act E' ∧ Q E' H'
theorem Gh.here {Q : Env → Heap → Prop} {E : Env} {H : Heap} (h : Q E H) : Gh Q E H :=
  fun _ _ x _ _ hi he => ⟨x, E, H, rfl, .refl x, hi, he, h⟩
theorem Gh.bind {Q : Env → Heap → Prop} {E : Env} {H : Heap} (h : Gh (Gh Q) E H) : Gh Q E H := by
  intro n ds x act H0 hi he
  obtain ⟨y, E1, H1, w1, l1, i1, e1, h1⟩ := h n ds x act H0 hi he
  obtain ⟨z, E2, H2, w2, l2, i2, e2, h2⟩ := h1 n ds y act H0 i1 e1
  exact ⟨z, E2, H2, w2.trans w1, l1.trans l2, i2, e2, h2⟩
theorem Gh.mono {Q Q' : Env → Heap → Prop} {E : Env} {H : Heap} (h : Gh Q E H) (hq : ∀ E H, Q E H → Q' E H) : Gh Q' E H := by
  intro n ds x act H0 hi he
  obtain ⟨y, E1, H1, w1, l1, i1, e1, h1⟩ := h n ds x act H0 hi he
  exact ⟨y, E1, H1, w1, l1, i1, e1, hq _ _ h1⟩
@[congr] theorem Gh_congr {Q : Env → Heap → Prop} {E : Env} {H H' : Heap} {z : Prop} (_ : (True ∧ True) = z) (h : H = H') : Gh Q E H = Gh Q E H' := by rw [h]
theorem Gh.inv {Q : Env → Heap → Prop} {E : Env} {H H' : Heap} (hi : ∀ x H0, Inv x (H ++ H0) → Inv x (H' ++ H0)) (h : Gh Q E H') : Gh Q E H :=
  fun n ds x act H0 hx he => h n ds x act H0 (hi x H0 hx) he
theorem freeze1 {x : X} {τ : Nat} {h : Value} {e sz : Nat} {rows : List (List A)} {H H0 : Heap} (hH : hget τ H = some (.seq h e sz rows)) (hd : allD rows = true) (hi : Inv x (H ++ H0)) :
    ∃ y : X, y.w = x.w ∧ x.le y ∧ Inv y (hdel τ H ++ H0) ∧ RdL y (.sl (rowsD rows)) h := by
  have hp := hdel_perm hH
  have hi1 : Inv x ([(τ, .seq h e sz rows)] ++ (hdel τ H ++ H0)) := by
    have := hi.perm (hp.symm.append_right H0)
    simpa using this
  obtain ⟨y, hw, hle, hi2, hok, _⟩ := hi1.freeze
  exact ⟨y, hw, hle, hi2, seq_data (Ent.sat_step hle (fun b _ => by rw [hw]) (hi1.sat (τ, .seq h e sz rows) (by simp))) (fun b hb => hok b ⟨_, List.mem_singleton.2 rfl, hb⟩) hd⟩
theorem Gh.frz1 {Q : Env → Heap → Prop} {E : Env} {H : Heap} (t : Nat) {τ : Nat} {h : Value} {e sz : Nat} {rows : List (List A)} (hE : E t = .own τ h) (hH : hget τ H = some (.seq h e sz rows)) (hd : allD rows = true)
    (hq : Gh Q (upd E t (.dat (.sl (rowsD rows)))) (hdel τ H)) : Gh Q E H := by
  intro n ds x act H0 hi he
  obtain ⟨y, hw, hle, hi2, hr⟩ := freeze1 hH hd hi
  have he2 : EnvOK n ds y act (upd E t (.dat (.sl (rowsD rows)))) := by
    have hm := he.mono hle
    refine ⟨hm.defers, hm.size, fun s => ?_⟩
    simp only [upd]
    split
    · rename_i hs
      subst hs
      have hv := hm.slot s
      rw [hE] at hv
      simp only [D] at hv ⊢
      rw [hv.1]
      exact hr
    · exact hm.slot s
  obtain ⟨z, E2, H2, w2, l2, i2, e2, h2⟩ := hq n ds y act H0 hi2 he2
  exact ⟨z, E2, H2, w2.trans hw, hle.trans l2, i2, e2, h2⟩
theorem Ds_app {x : X} {a b : List A} {vs : List Value} (h : Ds x (a ++ b) vs) : Ds x a (vs.take a.length) ∧ Ds x b (vs.drop a.length) := by
  have h1 := h.take a.length
  have h2 := h.drop a.length
  rw [List.take_left] at h1
  rw [List.drop_left] at h2
  exact ⟨h1, h2⟩
theorem Inv.swap {x : X} {g : Nat} {e e' : Ent} {H H0 : Heap} (hg : hget g H = some e) (hs : e.sat x → e'.sat x) (ho : ∀ b, e'.own b → e.own b) (hi : Inv x (H ++ H0)) : Inv x (hset g e' H ++ H0) := by
  have h1 : Inv x ((g, e) :: (hdel g H ++ H0)) := hi.perm ((hdel_perm hg).symm.append_right H0)
  have h2 : Inv x ((g, e') :: (hdel g H ++ H0)) := by
    refine ⟨h1.bd, ?_, ?_, ?_⟩
    · intro p hp
      rcases List.mem_cons.1 hp with rfl | hp
      · exact hs (h1.sat (g, e) (by simp))
      · exact h1.sat p (by simp only [List.mem_cons]; exact .inr hp)
    · intro p hp b hb
      rcases List.mem_cons.1 hp with rfl | hp
      · exact h1.own (g, e) (by simp) b (ho b hb)
      · exact h1.own p (by simp only [List.mem_cons]; exact .inr hp) b hb
    · have := List.pairwise_cons.1 h1.apart
      exact List.pairwise_cons.2 ⟨fun q hq b hb => this.1 q hq b (ho b hb), this.2⟩
  exact h2.perm ((hset_perm hg).append_right H0).symm
def vcF (P : Program) (ρ : Nat → Option CR) (T : List Nat) (ops : List Oper) : List Oper → Env → Heap → (Env → Heap → Prop) → Prop
  | [], E, H, K => K E H
  | o :: rest, E, H, K => ∀ u b, match T.contains (o.dst.getD 0) && o.guard.isNone with
    | true => match heapF P u b (o.dst.getD 0) E (fun t => hget t H) o.op with
      | some (p, a, ch) => p ∧ vcF P ρ T ops rest (put E o.dst a) (happ ch H) K
      | none => False
    | false => match fStep P ρ u b ops o E (fun t => hget t H) with
      | some (p, a, ch) => p ∧ vcF P ρ T ops rest (put E o.dst a) (happ ch H) K
      | none => False
@[congr] theorem vcF_congr {P : Program} {ρ : Nat → Option CR} {T : List Nat} {ops : List Oper} {l : List Oper} {E : Env} {H H' : Heap} {K : Env → Heap → Prop} {z : Prop} (_ : (True ∧ True) = z)
    (h : H = H') : vcF P ρ T ops l E H K = vcF P ρ T ops l E H' K := by rw [h]
theorem vcF_ok {ρ : Nat → Option CR} {T : List Nat} {ops : List Oper} {n : Nat} {ds : List Deferred} {H0 : Heap} {x0 : X} {Q : Exit → Act → World → Prop} : ∀ (l : List Oper) (k : Nat) (E : Env) (H : Heap) (K : Env → Heap → Prop), ops.drop k = l → (∀ o ∈ l, fits n o.dst) → vcF P ρ T ops l E H K →
    (∀ E H x act, K E H → x0.le x → Inv x (H ++ H0) → EnvOK n ds x act E → Q .normal act x.w) → ∀ x act, x0.le x → Inv x (H ++ H0) → EnvOK n ds x act E → wpOps P ops.toArray Q ((List.range' k l.length)) act x.w
  | [], k, E, H, K, _, _, h, hq, x, act, hle, hi, he => by
    simp only [List.length_nil, List.range'_zero, wpOps]
    exact hq _ _ x act h hle hi he
  | o :: rest, k, E, H, K, hk, hf, h, hq, x, act, hle, hi, he => by
    have ho : ops[k]? = some o := by
      have := congrArg (·[0]?) hk
      simpa [List.getElem?_drop] using this
    have hk' : ops.drop (k + 1) = rest := by
      rw [← List.drop_drop, hk]
      rfl
    simp only [List.length_cons, List.range'_succ]
    rw [wpOps_cons]
    simp only [vcF] at h
    cases hT : (T.contains (o.dst.getD 0) && o.guard.isNone) with
    | true =>
      rw [hT] at h
      dsimp only at h
      have hg : o.guard = none := by
        have := (Bool.and_eq_true_iff.1 hT).2
        cases hgd : o.guard with
        | none => rfl
        | some _ => rw [hgd] at this; simp at this
      have hw : Region.wanted o (yielded ops.toArray act.tmps) = true := by simp [Region.wanted, hg]
      obtain ⟨u, b, v, y, p, a, ch, h1, h2, h3, h4, h5, h6⟩ := heapF_ok (P := P) (o := o) (E := E) (τ := o.dst.getD 0) (fun u b => by
        have := h u b
        split at this
        · rename_i p a ch hh; exact ⟨p, a, ch, hh, this.1⟩
        · exact this.elim) (fun t => rfl) hi he
      have hk2 := h u b
      rw [h1] at hk2
      have fin : ∀ v, D y a v → wpOps P ops.toArray Q (List.range' (k + 1) rest.length) (act.put o.dst v) y.w := fun v hd =>
        vcF_ok rest (k + 1) _ _ K hk' (fun o ho => hf o (by simp [ho])) hk2.2 hq y _ (hle.trans h4) h5 ((he.mono h4).put (hf o (by simp)) hd)
      unfold wpOp
      rw [show ops.toArray[k]? = some o by simpa using ho]
      simp only
      rw [if_pos hw]
      left
      show o.upon P act _ Q _
      rcases h3 with h3 | ⟨h3, rfl⟩
      · rw [h3]; exact fin v h6
      · rw [h3]; exact fin Go.undef h6
    | false =>
      rw [hT] at h
      dsimp only at h
      refine fStep_ok (ρ := ρ) (fun u b => ?_) (fun t => rfl) hi he (by simpa using ho) ?_
      · have := h u b
        split at this
        · rename_i p a ch hh; exact ⟨p, a, ch, hh, this.1⟩
        · exact this.elim
      · intro u b p a ch v y hh hle2 hi2 hd
        have := h u b
        rw [hh] at this
        exact vcF_ok rest (k + 1) _ _ K hk' (fun o ho => hf o (by simp [ho])) this.2 hq y _ (hle.trans hle2) hi2 ((he.mono hle2).put (hf o (by simp)) hd)
theorem V.seq {C : Cfg} {a b : Code} {E : Env} {H : Heap} {Q : PostQ} (h : V C a E H fun e E' H' => match e with
    | .normal => vcC C b E' H' Q
    | .exit i => Q (.exit i) E' H'
    | .ret => Q .ret E' H'
    | _ => False) : V C (.seq a b) E H Q := by
  intro hf
  simp only [fitsC, Bool.and_eq_true] at hf
  refine W.seq ((h hf.1).mono ?_)
  intro e E' H' hq
  cases e <;> first | exact vcC_ok b _ _ _ hf.2 hq | exact hq
theorem CallFn.give {g : FuncId} {az az' : List A} {Hc Hr H : Heap} {K : A → Heap → Prop} {r : A} (h : CallFn P g az' r) (hH : H = Hc ++ Hr) (hz : (frzs Hc az).1 ∧ (frzs Hc az).2 = az') (hk : K r Hr) : CallS P g az H K := by
  subst hH
  obtain ⟨hz1, rfl⟩ := hz
  refine ⟨h.1, fun x args H0 hi hd => ?_⟩
  rw [List.append_assoc] at hi
  obtain ⟨x', hw, hle, hi0, hok, _⟩ := hi.freeze
  have hd' := frzs_ok hi hle hw hok az _ hd hz1
  have := (CallS.frame (H1 := Hr) h).2 x' args H0 (by simpa using hi0) hd'
  rw [hw] at this
  refine this.mono ?_
  rintro _ _ ⟨y, v, r', H', rfl, rfl, hley, hiy, hv, H2, ⟨rfl, rfl⟩, rfl⟩
  exact ⟨y, v, _, _, rfl, rfl, hle.trans hley, by simpa using hiy, hv, hk⟩
attribute [simp] vcF
end Go.Proofs.YtbcjnmifflflfaaGreatDoor
end

section
namespace Go.Proofs.YtbcjnmifflflfaaGreatDoor
variable {P : Program}
end Go.Proofs.YtbcjnmifflflfaaGreatDoor
end

section
namespace Go.Proofs.YtbcjnmifflflfaaGreatDoor
open Go.Sort
set_option maxHeartbeats 4000000
set_option maxRecDepth 10000
theorem grow_inv {x : X} {H : Heap} (hi : Inv x H) (k : Nat) (os : Array Obj) : x.le ⟨grow (x.w.drewN k) os, x.ok⟩ ∧ Inv ⟨grow (x.w.drewN k) os, x.ok⟩ H := by
  have hold : ∀ b, b < x.w.heap.size → (grow (x.w.drewN k) os).heap[b]? = x.w.heap[b]? := by
    intro b hb
    simp only [grow]
    rw [Array.getElem?_append_left (by simpa [World.drewN] using hb)]
    rfl
  have hle : x.le ⟨grow (x.w.drewN k) os, x.ok⟩ := ⟨fun b hb => ⟨hb, hold b (hi.bd b hb)⟩, rfl, rfl, rfl, by simp [grow, World.drewN], by simp [grow, World.drewN]⟩
  exact ⟨hle, hi.step hle (fun b hb => Nat.lt_of_lt_of_le (hi.bd b hb) hle.size) (fun b hb => .inl hb) fun p hp b ho => hold b (hi.own p hp b ho).1⟩
theorem pow_tab {x : X} (h : Tabs x) : Go.Lib.TabIs Tryz.prog x.w "internal/strconv.uint64pow10" .u64 Go.Lib.pow10Tab := by
  have hm : (2, Go.Lib.pow10Tab.map fun z => L.int .u64 z) ∈ tabL := List.Mem.head _
  obtain ⟨_, ty, fr, h2⟩ := h _ hm
  have hg : (Tryz.prog).globalNamed "internal/strconv.uint64pow10" = some 2 := by kernel_rfl
  unfold Go.Lib.TabIs World.var?
  rw [hg]
  simp only [Option.bind_some, h2]
  simp [plV]
theorem Itoa_fn (n : Nat) (hn : (n : Int) ≤ 9223372036854775807) : CallFn Tryz.prog 133 [aI n] (.dat (.str (numT n))) := by
  refine ⟨⟨_, Tryz.func133, by kernel_rfl, by kernel_rfl⟩, fun x args H0 hi hd => ?_⟩
  have ha : args = #[.int .i64 n] := by
    rcases args with ⟨l⟩
    obtain ⟨v, e, hv⟩ := Ds.one hd
    simp only [D, RdL] at hv
    simp only at e
    rw [e, hv]
  subst ha
  have hi0 : Inv x H0 := by simpa using hi
  refine (Any.strconv_Itoa itLays n (by omega) hn x.w (pow_tab hi.bd.tab)).mono ?_
  rintro _ _ ⟨rfl, k, os, rfl⟩
  obtain ⟨h1, h2⟩ := grow_inv hi0 k os
  refine ⟨⟨grow (x.w.drewN k) os, x.ok⟩, _, _, [], rfl, rfl, h1, by simpa using h2, ?_, rfl, rfl⟩
  simp only [D, RdL, numT, Go.Lib.itoa]
  rw [if_neg (by omega), Int.toNat_natCast]
theorem letter_fn (a : Nat) (ha : a < 26) : CallFn Tryz.prog 132 [aI a] (.dat (.str (letterT a))) := by
  refine callFz_of Tryz.func132 rfl Tryz.ntmps132 (rs := [.tmp 2]) rfl (by kernel_rfl) (by simp) (by kernel_rfl) ?_
  simp
  refine ⟨by omega, by omega, ?_⟩
  rw [encU_ascii (by omega) (by omega), letterT, show (65 + (a : Int)).toNat = 65 + a by omega]
end Go.Proofs.YtbcjnmifflflfaaGreatDoor
end
