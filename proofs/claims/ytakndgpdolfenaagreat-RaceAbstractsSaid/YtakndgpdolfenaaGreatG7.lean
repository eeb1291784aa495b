/- Texts joined by a program: Ba, Bb, Bc, Bd, Be, Bf, Bg, Bh. -/
import Derived.Test.YtakndgpdolfenaaGreatG6
import Derived.Test.YtakndgpdolfenaaGreatG2
import Derived.Test.YtakndgpdolfenaaGreatGZ
import Derived.Test.YtakndgpdolfenaaGreatGX
import Derived.Test.YtakndgpdolfenaaGreatG5
set_option linter.unusedSimpArgs false
set_option linter.unusedVariables false

/- Contracts of race: wants, made. -/
section
namespace Go.Proofs.YtakndgpdolfenaaGreat
set_option maxHeartbeats 4000000
set_option maxRecDepth 10000

abbrev ChT := Int × Int × Bool
def encCh (x : ChT) : List L := [.int .i64 x.1, .int .i64 x.2.1, .bool x.2.2]
def rCh (x : ChT) : List A := [.dat (.int .i64 x.1), .dat (.int .i64 x.2.1), .dat (.bool x.2.2)]
def chAt (c : Control) (s : State) (i : Nat) : ChT := (firstC c + i, (sigStep c s (valuesOf s) i).2.1, (sigStep c s (valuesOf s) i).1)
def chL (c : Control) (s : State) (k : Nat) : List ChT := ((List.range k).filter (wantAt c s)).map (chAt c s)
theorem chL_succ (c : Control) (s : State) (k : Nat) : chL c s (k + 1) = if wantAt c s k = true then chL c s k ++ [chAt c s k] else chL c s k := by
  unfold chL
  rw [List.range_succ, List.filter_append, List.map_append]
  by_cases h : wantAt c s k = true
  · simp [h]
  · simp [h]
theorem chL_len (c : Control) (s : State) (k : Nat) : (chL c s k).length ≤ k := by
  unfold chL
  rw [List.length_map]
  have := List.length_filter_le (wantAt c s) (List.range k)
  rw [List.length_range] at this
  exact this
theorem rowsD_Ch (xs : List ChT) : rowsD (xs.map rCh) = xs.map encCh := by unfold rowsD; rw [List.map_map]; rfl
theorem allD_Ch (xs : List ChT) : allD (xs.map rCh) = true := by simp [allD, rCh, isD]
theorem begin29_fn (c : Control) (s : State) (hc : OkC c) (hs : SmS s) : CallFn Tryz.prog 54 [aC c, aSt s] (.tuple [aSt (gatesR c s).1, aI (gatesR c s).2]) := by
  have h := Gates_fn c s hc hs
  refine callFz_of Tryz.func54 rfl Tryz.ntmps54 (rs := [.cell 4 29, .tmp 5]) rfl (by kernel_rfl) (by simp) (by kernel_rfl) ?_
  simp
  generalize gatesR c s = p at *
  obtain ⟨p1, p2⟩ := p
  intro b4
  refine h.s ?_
  simp
theorem wants1_fn (c : Control) (s : State) (x : Expr) (hc : OkC c) (hr : rightC c s = 0) (hx : OkE x) (hk : checkE x (countC c) = 0) : CallFn Tryz.prog 93 [aE x, .rptr (encC c), .rptr (encSt s)] (aB (evalE x (valuesOf s))) := by
  have hs := sm_of (fine_of (right_zero hr).1) (right_zero hr).2.1
  have h := EvalC_fn c s x hc hs hx
  have e : evalP c s x = (evalE x (valuesOf s), 0) := by rw [evalP, if_neg (by simp [hr]), if_neg (by simp [hk])]
  rw [e] at h
  refine callFz_of Tryz.func93 rfl Tryz.ntmps93 (rs := [.tmp 4]) rfl (by kernel_rfl) (by simp) (by kernel_rfl) ?_
  simp
  refine h.s ?_
  simp
theorem wants_fn (c : Control) (s : State) (hc : OkC c) (hr : rightC c s = 0) : CallFn Tryz.prog 55 [aC c, aSt s] (.dat (.sl ((chL c s c.signals.length).map encCh))) := by
  obtain ⟨z1, z2, z3⟩ := right_zero hr
  have hf := fine_of z1
  have ha := hf.act
  have hin := hf.inp
  have hsg := hf.sig
  obtain ⟨f1, f2, f3⟩ := fits_parts hr
  refine callFz_of Tryz.func55 rfl Tryz.ntmps55 (rs := [.tmp 4]) rfl (by kernel_rfl) (by simp) (by kernel_rfl) ?_
  simp
  refine ⟨by omega, by omega, ?_⟩
  refine V.forI (σ := Value) c.signals.length [3, 4, 5, 6, 24, 25] (by simp; exact rfl) (fun i g => [(26, aI i), (7, .own 50 g)]) (fun i g => [(50, .seq g 91 3 ((chL c s i).map rCh))]) (fun _ _ => True) (.slice none 0 0) trivial (by simp) ⟨by simp; exact rfl, by simp [chL]⟩ ?_ ?_
  · rintro i g hi -
    obtain ⟨x, v, t, hx, hv, ht⟩ := sig_have z2 hi
    have hx1 := (List.getElem?_eq_some_iff.1 hx).2
    obtain ⟨hiv, hv1⟩ := List.getElem?_eq_some_iff.1 hv
    obtain ⟨hit, ht1⟩ := List.getElem?_eq_some_iff.1 ht
    have hox := hc.sigs x (List.mem_of_getElem? hx)
    have won := wants1_fn c s x.on hc hr hox.on (hf.on hx).1
    have hsucc := chL_succ c s i
    have hlen := chL_len c s i
    have es := sigS_at (L := valuesOf s) hx hv ht
    have ew : wantAt c s i = wantV x.kind v t (evalE x.on (valuesOf s)) (x.kind == 1 && evalE x.off (valuesOf s)) := by simp only [wantAt, hx, hv, ht]
    have hfit := f3 i x hx
    rw [List.getD_eq_getElem?_getD, List.getD_eq_getElem?_getD, hv, ht] at hfit
    simp only [Option.getD_some] at hfit
    unfold chAt at hsucc
    rw [es, ew] at hsucc
    simp [hi, hx1]
    intro b9
    refine V.drawX (fun _ => none) (by kernel_rfl) (by kernel_rfl) (by simp) ?_
    simp [hv, ht, hv1, ht1, hiv, hit, encSt]
    refine ⟨by unfold firstC at *; omega, fun b10 => ⟨by kernel_rfl, fun b11 => ?_⟩⟩
    by_cases k1 : x.kind = 1
    · have woff := wants1_fn c s x.off hc hr hox.off (by
        have h := hf.sigs i x hx
        unfold signalE at h
        split at h
        · rename_i h1; exact absurd h h1
        · split at h
          · cases h
          · split at h
            · rename_i h1; exact absurd h h1
            · simp only [k1] at h
              simp [memE] at h
              by_cases h3 : checkE x.off (countC c) = 0
              · exact h3
              · simp [h3] at h)
      generalize evalE x.on (valuesOf s) = on at *
      generalize evalE x.off (valuesOf s) = off at *
      simp [k1]
      refine V.drawX (fun t => if t = 53 then some (.fn (aB on)) else if t = 57 then some (.fn (aB off)) else none) (by kernel_rfl) (by kernel_rfl) (by simp) ?_
      simp [k1, encS, packA, hget, won, woff]
      cases on <;> cases off <;> cases v <;> simp [k1, stepV, wantV] at hsucc ⊢
      all_goals rw [hsucc]
      all_goals (refine ⟨by omega, ?_⟩; first | exact rfl | (refine ⟨by omega, ?_⟩; simp [rCh, firstC]))
    · by_cases k2 : x.kind = 2
      · generalize evalE x.on (valuesOf s) = on at *
        simp [k1, k2]
        refine won.s ?_
        simp
        cases on <;> by_cases t0 : t = 0 <;> cases v <;> (try simp [k2, t0, stepV, wantV] at hsucc)
        all_goals (try simp [k2, t0])
        all_goals (try (simp [tstE, k2, t0] at hfit; done))
        all_goals rw [hsucc]
        all_goals (first | (refine ⟨by omega, ?_⟩; exact rfl) | (refine ⟨by omega, by omega, ?_⟩; simp [rCh, firstC]; done) | (refine ⟨fun _ => ⟨by omega, by omega, ?_⟩, fun h => absurd h.symm t0⟩; simp [rCh, firstC]))
      · simp [k1, k2, stepV, wantV] at hsucc ⊢
        exact ⟨by omega, by rw [hsucc]⟩
  · rintro g -
    simp [allD_Ch, rowsD_Ch]

end Go.Proofs.YtakndgpdolfenaaGreat
end

/- Contracts of race: made. -/
section
namespace Go.Proofs.YtakndgpdolfenaaGreat
set_option maxHeartbeats 4000000
set_option maxRecDepth 10000

theorem made_fn (c : Control) (s : State) (hc : OkC c) (hr : rightC c s = 0) {i : Nat} (hi : i < c.signals.length) : CallFn Tryz.prog 79 [aC c, aSt s, .record (encCh (chAt c s i))] (aSt (moveS c s i)) := by
  obtain ⟨z1, z2, z3⟩ := right_zero hr
  have hf := fine_of z1
  have ha := hf.act
  have hin := hf.inp
  have hsg := hf.sig
  have hr2 := turn_right hr hi
  have hs2 : SmS (turnS c s i) := sm_of (fine_of (right_zero hr2).1) (right_zero hr2).2.1
  have hg := Gates_fn c (turnS c s i) hc hs2
  have eg : gatesR c (turnS c s i) = (moveS c s i, 0) := by unfold gatesR moveS; simp [hr2]
  rw [eg] at hg
  have hvl : s.values.length = c.signals.length := z2.2.2.2.1
  have htl : s.timers.length = c.signals.length := z2.2.2.2.2
  have hcv := cloneB_o s.values (by omega)
  have hct := cloneI_o s.timers (by omega)
  have iv : i < s.values.length := by omega
  have it : i < s.timers.length := by omega
  unfold turnS at hg
  unfold chAt
  generalize (sigStep c s (valuesOf s) i).1 = v at *
  generalize (sigStep c s (valuesOf s) i).2.1 = t at *
  generalize moveS c s i = m at *
  refine CallS.agg (az := [aC c]) (bz := [.record (encCh (firstC c + i, t, v))]) ?_
  refine callFz_of Tryz.func79 rfl Tryz.ntmps79 (rs := [.cell 6 29]) rfl (by kernel_rfl) (by simp) (by kernel_rfl) ?_
  unfold firstC
  simp [encCh]
  intro b4 b6
  refine ⟨by omega, by omega, by omega, ?_⟩
  rw [show 2 * c.actuators + (c.inputs.length : Int) + (i : Int) - 2 * c.actuators - (c.inputs.length : Int) = (i : Int) by omega]
  refine V.drawX (fun t => if t = 22 then some (.own 4 1 (s.values.map rB)) else if t = 25 then some (.own 3 1 (s.timers.map rI)) else none) (by kernel_rfl) (by kernel_rfl) (by simp) ?_
  simp [hcv, hct, hget]
  intro h22 h25
  refine ⟨by kernel_rfl, ?_⟩
  refine V.drawX (fun _ => none) (by kernel_rfl) (by kernel_rfl) (by simp) ?_
  have ev : s.values[i]? = some s.values[i] := List.getElem?_eq_getElem iv
  have et : s.timers[i]? = some s.timers[i] := List.getElem?_eq_getElem it
  simp [iv, it, ev, et, hget]
  refine ⟨by kernel_rfl, ?_⟩
  rw [show ((s.values.map rB).set i [A.dat (L.bool v)]) = (s.values.set i v).map rB by rw [List.map_set], show ((s.timers.map rI).set i [A.dat (L.int .i64 t)]) = (s.timers.set i t).map rI by rw [List.map_set]]
  refine hg.give (Hc := [(25, .seq h25 3 1 ((s.timers.set i t).map rI)), (22, .seq h22 4 1 ((s.values.set i v).map rB))]) (Hr := [(6, .box b6 [A.nils, A.nils, A.nils, A.nils, A.nils]), (4, .box b4 [A.dat (.sl (s.ends.map encI)), A.dat (.sl (s.valves.map encB)), A.dat (.sl (s.inputs.map encB)), .own 22 h22, .own 25 h25])]) rfl ?_ ?_
  · have e1 := rowsD_B (s.values.set i v)
    have e2 := rowsD_I (s.timers.set i t)
    have e3 := allD_B (s.values.set i v)
    have e4 := allD_I (s.timers.set i t)
    generalize (s.values.set i v).map rB = R1 at *
    generalize (s.timers.set i t).map rI = R2 at *
    simp [hget, packA, encSt, encC, e1, e2, e3, e4]
  · simp [hget]

end Go.Proofs.YtakndgpdolfenaaGreat
end

/- Contracts of race: text. -/
section
namespace Go.Proofs.YtakndgpdolfenaaGreat
set_option maxHeartbeats 4000000
set_option maxRecDepth 10000

theorem cc_call : Callable Tryz.prog 193 := ⟨_, Tryz.func193, by kernel_rfl, by kernel_rfl⟩
theorem str_call : Callable Tryz.prog 159 := ⟨_, Tryz.func159, by kernel_rfl, by kernel_rfl⟩
abbrev rawB (b : Nat) : Ent := .raw b (.cells #[.pointer none, .slice none 0 0] 196 (0, 0))
theorem cc_new {t b : Nat} : CallS Tryz.prog 193 [.ptr t b 0] [(t, rawB b)] fun r H' => r = .tuple [] ∧ H' = [(t, .box b [.ptr t b 0, .nils])] := ccNew_s ccLays bldX cc_call
theorem cc_used {t b : Nat} {a : A} : CallS Tryz.prog 193 [.ptr t b 0] [(t, .box b [.ptr t b 0, a])] fun r H' => r = .tuple [] ∧ H' = [(t, .box b [.ptr t b 0, a])] := ccUsed_s ccLays bldX cc_call
theorem str_used {t τ b : Nat} {a0 : A} {h : Value} {l : List UInt8} (h0 : l ≠ []) : CallS Tryz.prog 159 [.ptr t b 0] [(t, .box b [a0, .own τ h]), (τ, .seq h 5 1 (l.map rU))] fun r H' => r = .dat (.str l) ∧ H' = [] := string_s strLays (by kernel_rfl) str_call h0
theorem str_new {t b : Nat} : CallS Tryz.prog 159 [.ptr t b 0] [(t, rawB b)] fun r H' => r = .dat (.str []) ∧ H' = [] := stringNew_s strLays str_call
theorem wb_new {b : Nat} (c : UInt8) : CallS Tryz.prog 158 [.ptr 3 b 0, .dat (.int .u8 c.toNat)] [(3, rawB b)] fun _ H' => ∃ u, H' = [(14, .seq u 5 1 [rU c]), (3, .box b [.ptr 3 b 0, .own 14 u])] := by
  refine callS_of Tryz.func158 rfl Tryz.ntmps158 (rs := [.tmp 4]) rfl (by kernel_rfl) (by simp) (by kernel_rfl) ?_
  simp
  refine cc_new.mono ?_
  rintro _ _ ⟨rfl, rfl⟩
  simp
theorem wb_used {b : Nat} {h : Value} {l : List UInt8} (c : UInt8) (hl : l.length < 4294967296) : CallS Tryz.prog 158 [.ptr 3 b 0, .dat (.int .u8 c.toNat)] [(3, .box b [.ptr 3 b 0, .own 14 h]), (14, .seq h 5 1 (l.map rU))] fun _ H' => ∃ u, H' = [(3, .box b [.ptr 3 b 0, .own 14 u]), (14, .seq u 5 1 ((l ++ [c]).map rU))] := by
  refine callS_of Tryz.func158 rfl Tryz.ntmps158 (rs := [.tmp 4]) rfl (by kernel_rfl) (by simp) (by kernel_rfl) ?_
  simp
  refine (CallS.frame (H1 := [(14, .seq h 5 1 (l.map rU))]) (cc_used (t := 3) (b := b) (a := .own 14 h))).mono ?_
  rintro _ _ ⟨_, ⟨rfl, rfl⟩, rfl⟩
  simp
  omega
def byteS (v : Bool) (t : Int) : UInt8 := UInt8.ofNat ((48 + t).toNat + if v = true then 4 else 0)
def textP (s : State) (k : Nat) : List UInt8 := (List.range k).map fun i => byteS (s.values.getD i false) (s.timers.getD i 0)
def textS (s : State) : List UInt8 := textP s s.values.length
theorem textP_succ (s : State) (k : Nat) : textP s (k + 1) = textP s k ++ [byteS (s.values.getD k false) (s.timers.getD k 0)] := by
  unfold textP
  rw [List.range_succ, List.map_append]
  rfl
theorem byteS_nat (v : Bool) {t : Int} (ht : 0 ≤ t ∧ t < 3) : ((byteS v t).toNat : Int) = 48 + t + if v = true then 4 else 0 := by
  unfold byteS
  have h : t = 0 ∨ t = 1 ∨ t = 2 := by omega
  rcases h with rfl | rfl | rfl <;> cases v <;> rfl
theorem byteS_inj {v v' : Bool} {t t' : Int} (ht : 0 ≤ t ∧ t < 3) (ht' : 0 ≤ t' ∧ t' < 3) (h : byteS v t = byteS v' t') : v = v' ∧ t = t' := by
  have h1 := byteS_nat v ht
  have h2 := byteS_nat v' ht'
  rw [h] at h1
  cases v <;> cases v' <;> simp at h1 h2 ⊢ <;> omega
def bldH (b : Nat) (s : State) : Nat → Value → Heap
  | 0, _ => [(3, rawB b)]
  | k + 1, h => [(3, .box b [.ptr 3 b 0, .own 14 h]), (14, .seq h 5 1 ((textP s (k + 1)).map rU))]
theorem text_fn (s : State) (hl : s.timers.length = s.values.length) (hn : s.values.length ≤ 100000) (ht : ∀ t ∈ s.timers, 0 ≤ t ∧ t < 3) : CallFn Tryz.prog 126 [aSt s] (.dat (.str (textS s))) := by
  refine callFz_cut 1 Tryz.func126 rfl Tryz.ntmps126 (rs := [.tmp 2]) rfl (by kernel_rfl) (by simp) (by kernel_rfl) ?_
  simp
  refine V.seq (V.allocRaw (t := 196) (z := .agg #[.pointer none, .slice none 0 0]) rfl rfl rfl (by kernel_rfl) fun b => ?_)
  simp
  rw [show ((Value.agg #[Value.pointer none, Value.slice none 0 0]).cells) = #[Value.pointer none, Value.slice none 0 0] from rfl]
  refine V.forI (σ := Value) s.values.length [1, 2, 3, 8, 9] (by simp; exact rfl) (fun i g => [(10, aI i)]) (fun i g => bldH b s i g) (fun _ _ => True) (.slice none 0 0) trivial (by simp) ⟨by simp [bldH]; exact rfl, by simp [bldH]⟩ ?_ ?_
  · rintro i g hi -
    have hv : s.values[i]? = some s.values[i] := List.getElem?_eq_getElem hi
    have hit : i < s.timers.length := by omega
    have het : s.timers[i]? = some s.timers[i] := List.getElem?_eq_getElem hit
    have htr := ht s.timers[i] (List.getElem_mem hit)
    have hs1 := textP_succ s i
    rw [List.getD_eq_getElem?_getD, List.getD_eq_getElem?_getD, hv, het] at hs1
    simp only [Option.getD_some] at hs1
    have hbn := byteS_nat s.values[i] htr
    have hpl : (textP s i).length = i := by simp [textP]
    obtain ⟨v, hv1⟩ : ∃ v, s.values[i] = v := ⟨_, rfl⟩
    obtain ⟨t, het1⟩ : ∃ t, s.timers[i] = t := ⟨_, rfl⟩
    rw [hv1] at hv hs1 hbn
    rw [het1] at het hs1 hbn htr
    have wn := wb_new (b := b) (byteS v t)
    have wu := fun (h : Value) => wb_used (b := b) (h := h) (l := textP s i) (byteS v t) (by omega)
    generalize byteS v t = c at *
    have hit2 : (i : Int) < s.timers.length := by omega
    cases v <;> simp only [if_true, if_false, Bool.false_eq_true, Int.add_zero] at hbn <;> simp only [hbn] at wn wu
    all_goals
      rcases i with _ | k
      · have e0 : textP s 1 = [c] := by rw [hs1]; rfl
        simp [bldH, hv, het, encSt]
        refine ⟨fun _ => ?_, fun hx => by rw [hx] at hi; exact absurd hi (by simp)⟩
        refine ⟨hi, hit, by omega, by omega, ?_⟩
        try refine ⟨by omega, ?_⟩
        refine wn.mono ?_
        rintro r _ ⟨u, rfl⟩
        simp [e0]
      · simp [bldH, hv, het, encSt, hv1, het1]
        refine ⟨fun _ => ?_, fun hx => by omega⟩
        refine ⟨by omega, by omega, by omega, by omega, ?_⟩
        try refine ⟨by omega, ?_⟩
        refine (wu g).mono ?_
        rintro r _ ⟨u, rfl⟩
        simp [hs1]
        omega
  · rintro g -
    have e : textS s = textP s s.values.length := rfl
    rw [e]
    have hpl : (textP s s.values.length).length = s.values.length := by simp [textP]
    rcases hk : s.values.length with _ | k
    · have e0 : textP s 0 = [] := rfl
      rw [e0]
      simp [bldH, hk]
      refine str_new.mono ?_
      rintro r _ ⟨rfl, rfl⟩
      simp
    · rw [hk] at hpl
      simp [bldH, hk]
      refine (str_used (fun e => by rw [e] at hpl; simp at hpl)).mono ?_
      rintro r _ ⟨rfl, rfl⟩
      simp
end Go.Proofs.YtakndgpdolfenaaGreat
end

/- Plain laws of race: the nodes as rows, the texts as a map, the next ones. -/
section
namespace Go.Proofs.YtakndgpdolfenaaGreat
set_option maxHeartbeats 1000000
set_option maxRecDepth 10000
/-- A node as a row: its next ones, whether it is still. -/
abbrev rN (n : Nod) (a : A) (b : Bool) : List A := [.dat (.sl (n.st.ends.map encI)), .dat (.sl (n.st.valves.map encB)), .dat (.sl (n.st.inputs.map encB)), .dat (.sl (n.st.values.map encB)), .dat (.sl (n.st.timers.map encI)),
  .dat (.int .i64 n.bef), .dat (.int .i64 n.line), a, .dat (.bool b)]
def rowsG (l : List Nod) (f : Nat → A × Bool) : List (List A) := (List.range l.length).map fun k => match l[k]? with
  | some n => rN n (f k).1 (f k).2
  | none => []
theorem rowsG_len (l : List Nod) (f : Nat → A × Bool) : (rowsG l f).length = l.length := by simp [rowsG]
theorem rowsG_at {l : List Nod} {f : Nat → A × Bool} {k : Nat} {n : Nod} (h : l[k]? = some n) : (rowsG l f)[k]? = some (rN n (f k).1 (f k).2) := by
  have hk := (List.getElem?_eq_some_iff.1 h).1
  simp [rowsG, hk]
  rw [(List.getElem?_eq_some_iff.1 h).2]
  exact ⟨rfl, rfl, rfl, rfl, rfl, rfl, rfl⟩
theorem rowsG_set {l : List Nod} {f : Nat → A × Bool} {i : Nat} {n : Nod} (h : l[i]? = some n) (a : A) (b : Bool) : (rowsG l f).set i (rN n a b) = rowsG l (fun k => if k = i then (a, b) else f k) := by
  apply List.ext_getElem?
  intro k
  rw [List.getElem?_set]
  by_cases hk : i = k
  · subst hk
    rw [rowsG_at h, rowsG_len, if_pos rfl, if_pos (List.getElem?_eq_some_iff.1 h).1, rowsG_at h]
    simp only [if_true]
  · rw [if_neg hk]
    cases hl : l[k]? with
    | none =>
      have hn : l.length ≤ k := List.getElem?_eq_none_iff.1 hl
      rw [List.getElem?_eq_none (by rw [rowsG_len]; exact hn), List.getElem?_eq_none (by rw [rowsG_len]; exact hn)]
    | some m =>
      rw [rowsG_at hl, rowsG_at hl, if_neg (Ne.symm hk)]
theorem rowsG_app (l : List Nod) (n : Nod) (f : Nat → A × Bool) : rowsG (l ++ [n]) f = rowsG l f ++ [rN n (f l.length).1 (f l.length).2] := by
  apply List.ext_getElem?
  intro k
  rcases Nat.lt_trichotomy k l.length with hk | hk | hk
  · have h1 : l[k]? = some l[k] := List.getElem?_eq_getElem hk
    have h2 : (l ++ [n])[k]? = some l[k] := by rw [List.getElem?_append_left hk, h1]
    rw [rowsG_at h2, List.getElem?_append_left (by rw [rowsG_len]; exact hk), rowsG_at h1]
  · subst hk
    have h2 : (l ++ [n])[l.length]? = some n := by simp
    rw [rowsG_at h2, List.getElem?_append_right (by rw [rowsG_len]; exact Nat.le_refl _), rowsG_len]
    simp
  · rw [List.getElem?_eq_none (by rw [rowsG_len]; simp; omega), List.getElem?_eq_none (by simp [rowsG_len]; omega)]
theorem rowsG_congr {l : List Nod} {f g : Nat → A × Bool} (h : ∀ k, k < l.length → f k = g k) : rowsG l f = rowsG l g := by
  unfold rowsG
  apply List.map_congr_left
  intro k hk
  rw [h k (List.mem_range.1 hk)]
/-! ### The map -/
def mapN (l : List Nod) : List (L × L) := (List.range l.length).map fun k : Nat => (L.str (match l[k]? with
  | some n => textS n.st
  | none => []), L.int .i64 (k : Int))
theorem mapN_app (l : List Nod) (n : Nod) : mapN (l ++ [n]) = mapN l ++ [(.str (textS n.st), .int .i64 l.length)] := by
  unfold mapN
  rw [List.length_append, List.length_singleton, List.range_succ, List.map_append]
  congr 1
  · apply List.map_congr_left
    intro k hk
    have := List.mem_range.1 hk
    rw [List.getElem?_append_left this]
  · simp
theorem mget_map {t : List UInt8} : ∀ (es : List (List UInt8 × Nat)), mget (es.map fun p => (L.str p.1, L.int .i64 (p.2 : Int))) (.str t) = (es.find? fun p => decide (p.1 = t)).map fun p => L.int .i64 (p.2 : Int)
  | [] => rfl
  | (s, k) :: es => by
    simp only [List.map_cons, mget, leq, List.find?_cons]
    by_cases h : s = t
    · simp [h]
    · have ih := mget_map (t := t) es
      simp [h, ih]
theorem mput_map {t : List UInt8} (v : L) : ∀ (es : List (List UInt8 × Nat)), (∀ p ∈ es, p.1 ≠ t) → mput (es.map fun p => (L.str p.1, L.int .i64 (p.2 : Int))) (.str t) v = (es.map fun p => (L.str p.1, L.int .i64 (p.2 : Int))) ++ [(.str t, v)]
  | [], _ => rfl
  | (s, k) :: es, h => by
    have ih := mput_map (t := t) v es fun p hp => h p (by simp [hp])
    have hs : s ≠ t := h (s, k) (by simp)
    simp only [List.map_cons, mput, leq]
    simp [hs, ih]
def pairsN (l : List Nod) : List (List UInt8 × Nat) := (List.range l.length).map fun k : Nat => (match l[k]? with
  | some n => textS n.st
  | none => [], k)
theorem mapN_pairs (l : List Nod) : mapN l = (pairsN l).map fun p => (L.str p.1, L.int .i64 (p.2 : Int)) := by
  unfold mapN pairsN
  rw [List.map_map]
  rfl
/-! ### Texts belong to states -/
/-- States whose texts can be told apart. -/
def TxtOK (s t : State) : Prop := s.values.length = t.values.length ∧ s.timers.length = s.values.length ∧ t.timers.length = t.values.length ∧ (∀ x ∈ s.timers, 0 ≤ x ∧ x < 3) ∧ (∀ x ∈ t.timers, 0 ≤ x ∧ x < 3) ∧ s.ends = t.ends ∧ s.valves = t.valves ∧ s.inputs = t.inputs
theorem text_inj {s t : State} (h : TxtOK s t) (e : textS s = textS t) : s = t := by
  obtain ⟨h1, h2, h3, h4, h5, h6, h7, h8⟩ := h
  have hk : ∀ k, k < s.values.length → s.values.getD k false = t.values.getD k false ∧ s.timers.getD k 0 = t.timers.getD k 0 := by
    intro k hk
    have e1 : (textS s)[k]? = (textS t)[k]? := by rw [e]
    unfold textS textP at e1
    rw [List.getElem?_map, List.getElem?_map, List.getElem?_range hk, List.getElem?_range (by omega)] at e1
    simp only [Option.map_some, Option.some.injEq] at e1
    have a1 : k < s.timers.length := by omega
    have a2 : k < t.timers.length := by omega
    have b1 : s.timers.getD k 0 = s.timers[k] := by simp [a1]
    have b2 : t.timers.getD k 0 = t.timers[k] := by simp [a2]
    exact byteS_inj (by rw [b1]; exact h4 _ (List.getElem_mem a1)) (by rw [b2]; exact h5 _ (List.getElem_mem a2)) e1
  have ev : s.values = t.values := by
    apply List.ext_getElem h1
    intro k a b
    have := (hk k a).1
    simpa [a, b] using this
  have et : s.timers = t.timers := by
    apply List.ext_getElem (by omega)
    intro k a b
    have := (hk k (by omega)).2
    simpa [a, b] using this
  cases s; cases t
  simp_all
theorem calm_txt {c : Control} {s : State} (h : Calm c s) : s.timers.length = s.values.length ∧ s.values.length = c.signals.length ∧ ∀ x ∈ s.timers, 0 ≤ x ∧ x < 3 := by
  obtain ⟨j1, j2, j3, j4, j5⟩ := h.shape
  refine ⟨by omega, j4, ?_⟩
  intro x hx
  obtain ⟨k, hk, rfl⟩ := List.mem_iff_getElem.1 hx
  have := timer_range h.right k
  simpa [hk] using this
/-- A family of states with texts of their own. -/
structure FamOK (c : Control) (s : State) (l : List Nod) : Prop where
  calm : ∀ n ∈ l, Calm c n.st ∧ n.st.ends = s.ends ∧ n.st.valves = s.valves ∧ n.st.inputs = s.inputs
theorem fam_txt {c : Control} {s t : State} {l : List Nod} (h : FamOK c s l) (ht : Calm c t ∧ t.ends = s.ends ∧ t.valves = s.valves ∧ t.inputs = s.inputs) {n : Nod} (hn : n ∈ l) : textS n.st = textS t ↔ n.st = t := by
  constructor
  · intro e
    obtain ⟨a1, a2, a3, a4⟩ := h.calm n hn
    obtain ⟨b1, b2, b3, b4⟩ := ht
    obtain ⟨c1, c2, c3⟩ := calm_txt a1
    obtain ⟨d1, d2, d3⟩ := calm_txt b1
    exact text_inj ⟨by omega, c1, d1, c3, d3, by rw [a2, b2], by rw [a3, b3], by rw [a4, b4]⟩ e
  · rintro rfl; rfl
theorem mget_idx {c : Control} {s t : State} {l : List Nod} (h : FamOK c s l) (ht : Calm c t ∧ t.ends = s.ends ∧ t.valves = s.valves ∧ t.inputs = s.inputs) : mget (mapN l) (.str (textS t)) = (idxN l t).map fun k : Nat => L.int .i64 (k : Int) := by
  rw [mapN_pairs, mget_map]
  have hp : ∀ (k : Nat) (n : Nod), l[k]? = some n → (pairsN l)[k]? = some (textS n.st, k) := by
    intro k n hk
    have hl := (List.getElem?_eq_some_iff.1 hk).1
    unfold pairsN
    rw [List.getElem?_map, List.getElem?_range hl]
    simp [hk]
  have hlen : (pairsN l).length = l.length := by simp [pairsN]
  cases hi : idxN l t with
  | none =>
    have hno := idx_none.1 hi
    rw [List.find?_eq_none.2]
    · rfl
    · intro p hpm
      obtain ⟨k, hk, rfl⟩ := List.mem_iff_getElem.1 hpm
      have hkl : k < l.length := by omega
      have h1 := hp k _ (List.getElem?_eq_getElem hkl)
      rw [List.getElem?_eq_getElem hk] at h1
      simp only [Option.some.injEq] at h1
      rw [h1]
      simp only [decide_eq_true_eq]
      intro e
      exact hno _ (List.getElem_mem hkl) ((fam_txt h ht (List.getElem_mem hkl)).1 e)
  | some k =>
    obtain ⟨hkl, hpk, hmin⟩ := List.findIdx?_eq_some_iff_getElem.1 hi
    have hkp : k < (pairsN l).length := by omega
    have e1 : (pairsN l)[k] = (textS l[k].st, k) := by
      have h1 := hp k _ (List.getElem?_eq_getElem hkl)
      rw [List.getElem?_eq_getElem hkp] at h1
      exact Option.some.inj h1
    have hst : l[k].st = t := by simpa using hpk
    have : (pairsN l).find? (fun p => decide (p.1 = textS t)) = some (textS l[k].st, k) := by
      rw [List.find?_eq_some_iff_getElem]
      refine ⟨by simp [hst], k, hkp, e1, ?_⟩
      intro j hj
      have hjl : j < l.length := by omega
      have h1 := hp j _ (List.getElem?_eq_getElem hjl)
      rw [List.getElem?_eq_getElem (by omega)] at h1
      simp only [Option.some.injEq] at h1
      rw [h1]
      have h2 := hmin j hj
      simp only [decide_eq_true_eq, Bool.not_eq_true', decide_eq_false_iff_not] at h2 ⊢
      intro e
      exact h2 ((fam_txt h ht (List.getElem_mem hjl)).1 e)
    rw [this]
    rfl
theorem mput_idx {c : Control} {s t : State} {l : List Nod} (h : FamOK c s l) (ht : Calm c t ∧ t.ends = s.ends ∧ t.valves = s.valves ∧ t.inputs = s.inputs) (hn : idxN l t = none) (v : L) : mput (mapN l) (.str (textS t)) v = mapN l ++ [(.str (textS t), v)] := by
  rw [mapN_pairs, mput_map]
  intro p hpm
  obtain ⟨k, hk, rfl⟩ := List.mem_iff_getElem.1 hpm
  have hlen : (pairsN l).length = l.length := by simp [pairsN]
  have hkl : k < l.length := by omega
  have e1 : (pairsN l)[k] = (textS l[k].st, k) := by
    have h1 : (pairsN l)[k]? = some (textS l[k].st, k) := by
      unfold pairsN
      rw [List.getElem?_map, List.getElem?_range hkl]
      simp [hkl]
    exact (List.getElem?_eq_some_iff.1 h1).2
  rw [e1]
  intro e
  exact idx_none.1 hn _ (List.getElem_mem hkl) ((fam_txt h ht (List.getElem_mem hkl)).1 e)
/-! ### The next ones -/
def nxN (c : Control) (s : State) (n : Nod) (w : Nat) : Nat := (idxN (metL c s) (moveS c n.st w)).getD 0
/-- What a row says when its node is done. -/
def doneF (c : Control) (s : State) (k : Nat) : A × Bool := match (metL c s)[k]? with
  | some n => (.dat (.sl (((wantsL c n.st).map fun w => (nxN c s n w : Int)).map encI)), (wantsL c n.st).isEmpty)
  | none => (.nils, false)
/-- The rows ahead of node i. -/
def headF (c : Control) (s : State) (i k : Nat) : A × Bool := if k < i then doneF c s k else (.nils, false)
/-- The rows while node i is under way. -/
def midF (c : Control) (s : State) (i : Nat) (h : Value) (e : Bool) (k : Nat) : A × Bool := if k = i then (.own 116 h, e) else headF c s i k
/-- What is met when node i has made its first j moves. -/
def visAt (c : Control) (s : State) (i j : Nat) : List Nod := match (nodesAt c s i)[i]? with
  | some n => visitL c i n.st (nodesAt c s i) ((wantsL c n.st).take j)
  | none => nodesAt c s i
theorem vis_zero (c : Control) (s : State) (i : Nat) : visAt c s i 0 = nodesAt c s i := by
  unfold visAt
  split <;> simp [visitL]
theorem vis_all {c : Control} {s : State} {i : Nat} {n : Nod} (h : (nodesAt c s i)[i]? = some n) : visAt c s i (wantsL c n.st).length = nodesAt c s (i + 1) := by
  have e : nodesAt c s (i + 1) = match (nodesAt c s i)[i]? with
    | none => nodesAt c s i
    | some n => visitL c i n.st (nodesAt c s i) (wantsL c n.st) := rfl
  rw [e]
  unfold visAt
  rw [h]
  dsimp only
  rw [List.take_length]
theorem vis_succ {c : Control} {s : State} {i j w : Nat} {n : Nod} (h : (nodesAt c s i)[i]? = some n) (hw : (wantsL c n.st)[j]? = some w) : visAt c s i (j + 1) = visitN c i n.st (visAt c s i j) w := by
  unfold visAt
  rw [h]
  dsimp only
  unfold visitL
  rw [List.take_add_one, hw]
  simp [List.foldl_append]
theorem vis_pre {c : Control} {s : State} (hs : Calm c s) {i : Nat} (hi : i < (metL c s).length) (j : Nat) : ∃ r, metL c s = visAt c s i j ++ r := by
  have hm : ∃ r, metL c s = nodesAt c s (i + 1) ++ r := by
    have hle : i + 1 ≤ 3 ^ freeN c c.signals.length := Nat.le_trans hi (nodes_le hs _)
    obtain ⟨d, hd⟩ : ∃ d, 3 ^ freeN c c.signals.length = i + 1 + d := ⟨_, (Nat.add_sub_cancel' hle).symm⟩
    unfold metL
    rw [hd]
    exact nodes_mono c s (i + 1) d
  obtain ⟨n, hn⟩ : ∃ n, (nodesAt c s i)[i]? = some n := ⟨_, List.getElem?_eq_getElem (nodes_more hi hs)⟩
  obtain ⟨r, hr⟩ := hm
  have e : visAt c s i j ++ [] = visAt c s i j := List.append_nil _
  have h2 : nodesAt c s (i + 1) = visitL c i n.st (visAt c s i j) ((wantsL c n.st).drop j) := by
    rw [← vis_all hn]
    unfold visAt
    rw [hn]
    dsimp only
    rw [List.take_length]
    unfold visitL
    rw [← List.foldl_append, List.take_append_drop]
  obtain ⟨r2, hr2⟩ := visitL_pre c i n.st ((wantsL c n.st).drop j) (visAt c s i j)
  exact ⟨r2 ++ r, by rw [hr, h2, hr2, List.append_assoc]⟩
theorem vis_ok {c : Control} {s : State} (hs : Calm c s) {i : Nat} (hi : i < (metL c s).length) (j : Nat) : NodOK c s (visAt c s i j) := by
  unfold visAt
  split
  · rename_i n hn
    exact visitL_ok (nodes_ok hs i) hn fun w hw => List.mem_of_mem_take hw
  · exact nodes_ok hs i
theorem vis_at {c : Control} {s : State} (hs : Calm c s) {i : Nat} (hi : i < (metL c s).length) (j : Nat) {n : Nod} (hn : (nodesAt c s i)[i]? = some n) : (visAt c s i j)[i]? = some n := by
  unfold visAt
  rw [hn]
  dsimp only
  obtain ⟨r, hr⟩ := visitL_pre c i n.st ((wantsL c n.st).take j) (nodesAt c s i)
  rw [hr, List.getElem?_append_left (List.getElem?_eq_some_iff.1 hn).1, hn]
theorem met_at {c : Control} {s : State} (hs : Calm c s) {i : Nat} (hi : i < (metL c s).length) {n : Nod} (hn : (nodesAt c s i)[i]? = some n) : (metL c s)[i]? = some n := by
  obtain ⟨r, hr⟩ := vis_pre hs hi 0
  rw [hr, vis_zero, List.getElem?_append_left (List.getElem?_eq_some_iff.1 hn).1, hn]
/-- The index that a move finds or makes. -/
theorem nx_idx {c : Control} {s : State} (hs : Calm c s) {i j w : Nat} (hi : i < (metL c s).length) {n : Nod} (hn : (nodesAt c s i)[i]? = some n) (hw : (wantsL c n.st)[j]? = some w) :
    nxN c s n w = (idxN (visAt c s i j) (moveS c n.st w)).getD (visAt c s i j).length := by
  have h1 := idx_visit c i n.st (visAt c s i j) w
  rw [← vis_succ hn hw] at h1
  obtain ⟨r, hr⟩ := vis_pre hs hi (j + 1)
  have h2 := idx_pre (r := r) h1
  rw [← hr] at h2
  unfold nxN
  rw [h2]
  rfl
end Go.Proofs.YtakndgpdolfenaaGreat
end

/- Contracts of race: the search. -/
section
namespace Go.Proofs.YtakndgpdolfenaaGreat
set_option maxHeartbeats 8000000
set_option maxRecDepth 20000

theorem chL_wants (c : Control) (s : State) : chL c s c.signals.length = (wantsL c s).map (chAt c s) := rfl
/-- Memory at the outer loop's head. -/
abbrev gH (e0 : Ent) (b3 b7 r : Nat) (h : Value) (rows : List (List A)) (es : List (L × L)) : Heap := [(99, e0), (20, .box b7 [.own 16 h]), (16, .seq h 105 9 rows), (19, .map r .string es), (24, .box b3 [.ptr 20 b7 0])]
/-- Memory at the inner loop's head. -/
def inH (c : Control) (s : State) (n : Nod) (e0 : Ent) (b3 b7 r i j : Nat) (e : Bool) (p : Value × Value) : Heap := (116, .seq p.2 3 1 ((((wantsL c n.st).take j).map fun w => (nxN c s n w : Int)).map rI)) :: gH e0 b3 b7 r p.1 (rowsG (visAt c s i j) (midF c s i p.2 e)) (mapN (visAt c s i j))
/-- The inner loop. -/
theorem grow_in {c : Control} {s : State} (hc : OkC c) (hs : Calm c s) (hm : (metL c s).length ≤ 16384) {i : Nat} (hi : i < (metL c s).length) {n : Nod} (hn : (nodesAt c s i)[i]? = some n) {e0 : Ent} {b3 b7 r : Nat} {l : Nat} {j w : Nat} (hw : (wantsL c n.st)[j]? = some w)
    {h hn1 : Value} {e : Bool} {Q : PostQ} :
    vcC ⟨Tryz.prog, none, 133⟩ (loopC Tryz.f125 1) (hdE [(0, .yld l), (2, .ptr 24 b3 0), (3, .rptr (encC c)), (5, .map 19 r), (6, aI i), (52, .dat (.sl (((wantsL c n.st).map (chAt c n.st)).map encCh))), (53, aI (wantsL c n.st).length)] [(54, aI j)])
      (hcat (inH c s n e0 b3 b7 r i j e (h, hn1)) [])
      (LoopQ Q fun E' H' => ∃ s' : Value × Value, True ∧ (∀ p ∈ [(54, aI (j + 1 : Nat))], wk (E' p.1) p.2) ∧ (∀ p ∈ [(0, A.yld l), (2, .ptr 24 b3 0), (3, .rptr (encC c)), (5, .map 19 r), (6, aI i), (52, .dat (.sl (((wantsL c n.st).map (chAt c n.st)).map encCh))), (53, aI (wantsL c n.st).length)], E' p.1 = p.2) ∧
        subN (hcat (inH c s n e0 b3 b7 r i (j + 1) e s') []) H') := by
  unfold inH
  have hok := vis_ok hs hi j
  have hat := vis_at hs hi j hn
  have hnx := nx_idx hs hi hn hw
  have hsucc := vis_succ hn hw
  have hcn := (hok.calm n (List.mem_of_getElem? hat)).1
  have hwm := mem_wants.1 (List.mem_of_getElem? hw)
  have hmade := made_fn c n.st hc hcn.right hwm.1
  have hcm := move_calm hcn hwm.1
  obtain ⟨mk1, mk2, mk3⟩ := move_keep c n.st w
  obtain ⟨nk1, nk2, nk3⟩ := (hok.calm n (List.mem_of_getElem? hat)).2
  have hmf : Calm c (moveS c n.st w) ∧ (moveS c n.st w).ends = s.ends ∧ (moveS c n.st w).valves = s.valves ∧ (moveS c n.st w).inputs = s.inputs := ⟨hcm, by rw [mk1, nk1], by rw [mk2, nk2], by rw [mk3, nk3]⟩
  obtain ⟨t1, t2, t3⟩ := calm_txt hcm
  have hsg := hcm.fine.sig
  have htext := text_fn (moveS c n.st w) t1 (by omega) t3
  have hfam : FamOK c s (visAt c s i j) := ⟨hok.calm⟩
  have hget1 := mget_idx hfam hmf
  have hput1 := fun hno => mput_idx hfam hmf hno (.int .i64 ((visAt c s i j).length : Nat))
  have hlen : (visAt c s i j).length ≤ 16384 := by
    obtain ⟨q, hq⟩ := vis_pre hs hi j
    have := congrArg List.length hq
    rw [List.length_append] at this
    omega
  have hjl : j < (wantsL c n.st).length := (List.getElem?_eq_some_iff.1 hw).1
  have hwl : (wantsL c n.st).length ≤ 64 := by
    have := List.length_filter_le (wantAt c n.st) (List.range c.signals.length)
    rw [List.length_range] at this
    unfold wantsL
    omega
  have hchj : (((wantsL c n.st).map (chAt c n.st)).map encCh)[j]? = some (encCh (chAt c n.st w)) := by
    rw [List.getElem?_map, List.getElem?_map, hw]
    rfl
  have htk : ((wantsL c n.st).take (j + 1)).map (fun w => (nxN c s n w : Int)) = ((wantsL c n.st).take j).map (fun w => (nxN c s n w : Int)) ++ [(nxN c s n w : Int)] := by
    rw [List.take_add_one, hw, List.map_append]
    rfl
  have hch1 : (chAt c n.st w).1 = firstC c + w := rfl
  rw [htk]
  refine vc_part rfl ?_
  obtain ⟨L0, hL0⟩ : ∃ L0, ((wantsL c n.st).map (chAt c n.st)).map encCh = L0 := ⟨_, rfl⟩
  have hL0l : L0.length = (wantsL c n.st).length := by rw [← hL0]; simp
  have hL0r : rl L0 3 = True := by rw [← hL0]; exact rl_map (f := encCh) (n := 3) (fun _ => rfl) ((wantsL c n.st).map (chAt c n.st))
  rw [hL0] at hchj ⊢
  obtain ⟨R, hR⟩ : ∃ R, rowsG (visAt c s i j) (midF c s i hn1 e) = R := ⟨_, rfl⟩
  have hset : ∀ hd, rowsG (visAt c s i j) (midF c s i hd e) = R.set i (rN n (.own 116 hd) e) := by
    intro hd
    rw [← hR, rowsG_set hat]
    refine rowsG_congr fun k _ => ?_
    unfold midF
    by_cases hk : k = i
    · simp [hk]
    · simp [hk]
  have hRl : R.length = (visAt c s i j).length := by rw [← hR, rowsG_len]
  have hRi : R[i]? = some (rN n (.own 116 hn1) e) := by
    rw [← hR, rowsG_at hat]
    simp [midF]
  have hil : i < R.length := (List.getElem?_eq_some_iff.1 hRi).1
  have hRi1 : R[i] = rN n (.own 116 hn1) e := (List.getElem?_eq_some_iff.1 hRi).2
  have hjl0 : j < L0.length := by omega
  have hchj1 : L0[j] = encCh (chAt c n.st w) := (List.getElem?_eq_some_iff.1 hchj).2
  obtain ⟨ch, hch⟩ : ∃ ch, chAt c n.st w = ch := ⟨_, rfl⟩
  rw [hch] at hmade hchj hchj1 hch1
  obtain ⟨c1, c2, c3⟩ := ch
  dsimp only at hch1
  rw [hR]
  obtain ⟨M, hM⟩ : ∃ M, moveS c n.st w = M := ⟨_, rfl⟩
  rw [hM] at hmade htext hget1 hput1 hnx
  obtain ⟨NX, hNX⟩ : ∃ NX, ((wantsL c n.st).take j).map (fun w => (nxN c s n w : Int)) = NX := ⟨_, rfl⟩
  have hNXl : NX.length ≤ 64 := by rw [← hNX, List.length_map, List.length_take]; omega
  rw [hNX]
  obtain ⟨ES, hES⟩ : ∃ ES, mapN (visAt c s i j) = ES := ⟨_, rfl⟩
  rw [hES] at hget1 hput1 ⊢
  simp [hjl, hchj, hchj1, hjl0, hL0l, hL0r, encCh]
  intro b9
  refine V.drawX (fun t => if t = 68 then some (.fn (aSt M)) else none) (by kernel_rfl) (by kernel_rfl) (by simp) ?_
  simp [hget, hRi, hRi1, hil, packA]
  refine ⟨hmade, fun b10 => ⟨by kernel_rfl, ?_⟩⟩
  refine htext.s ?_
  cases hI : idxN (visAt c s i j) M with
  | some k =>
    rw [hI] at hget1 hnx
    simp only [Option.getD_some] at hnx
    have hv : visAt c s i (j + 1) = visAt c s i j := by
      rw [hsucc]
      unfold visitN
      rw [hM, hI]
    simp only [hv, hset, hES]
    simp [hget1]
    refine V.drawX (fun _ => none) (by kernel_rfl) (by kernel_rfl) (by simp) ?_
    simp [hget, hRi, hRi1, hil, packA]
    exact fun u => ⟨by omega, by kernel_rfl, by omega, h, u, ⟨rfl, by rw [hnx]⟩, rfl, rfl⟩
  | none =>
    have hnop := hI
    rw [hI] at hget1 hnx
    simp only [Option.getD_none] at hnx
    have hput2 := hput1 hI
    have hv : visAt c s i (j + 1) = visAt c s i j ++ [⟨M, i, firstC c + w⟩] := by
      rw [hsucc]
      unfold visitN
      rw [hM, hI]
    have hset2 : ∀ hd, rowsG (visAt c s i j ++ [⟨M, i, firstC c + w⟩]) (midF c s i hd e) = R.set i (rN n (.own 116 hd) e) ++ [rN ⟨M, i, firstC c + w⟩ .nils false] := by
      intro hd
      rw [rowsG_app, hset]
      have h1 : (visAt c s i j).length ≠ i := by omega
      have h2 : ¬ (visAt c s i j).length < i := by omega
      simp [midF, headF, h1, h2]
    have hmap2 : mapN (visAt c s i j ++ [⟨M, i, firstC c + w⟩]) = ES ++ [(.str (textS M), .int .i64 ((visAt c s i j).length : Nat))] := by
      rw [mapN_app, hES]
    simp only [hv, hset2, hmap2]
    rw [← hch1]
    rw [← hRl] at hput2 hnx ⊢
    simp [hget1]
    refine htext.s ?_
    simp [hput2]
    refine V.drawX (fun t => if t = 97 then some .bld else none) (by kernel_rfl) (by kernel_rfl) (by simp) ?_
    simp [hget, hRi, hRi1, hil, packA]
    intro u h2
    refine ⟨by omega, by kernel_rfl, ?_⟩
    generalize hR2 : R ++ [[A.dat (L.sl (M.ends.map encI)), A.dat (L.sl (M.valves.map encB)), A.dat (L.sl (M.inputs.map encB)), A.dat (L.sl (M.values.map encB)), A.dat (L.sl (M.timers.map encI)), A.dat (L.int .i64 i), A.dat (L.int .i64 c1), A.nils, A.dat (L.bool false)]] = R2
    have hR2i : R2[i]? = some (rN n (.own 116 hn1) e) := by rw [← hR2, List.getElem?_append_left hil, hRi]
    have hil2 : i < R2.length := (List.getElem?_eq_some_iff.1 hR2i).1
    have hR2i1 : R2[i] = rN n (.own 116 hn1) e := (List.getElem?_eq_some_iff.1 hR2i).2
    have hfin : ∀ hd, R.set i (rN n (.own 116 hd) e) ++ [rN ⟨M, i, c1⟩ .nils false] = R2.set i (rN n (.own 116 hd) e) := fun hd => by rw [← hR2, List.set_append_left _ _ hil]
    simp only [hfin]
    refine V.drawX (fun _ => none) (by kernel_rfl) (by kernel_rfl) (by simp) ?_
    simp [hget, hR2i, hR2i1, hil2, packA]
    exact fun u => ⟨by omega, by kernel_rfl, by omega, h2, u, ⟨rfl, by rw [hnx]⟩, rfl, rfl⟩
theorem grow1_s {c : Control} {s : State} (hc : OkC c) (hs : Calm c s) (hm : (metL c s).length ≤ 16384) (l b3 b7 : Nat) (e0 : Ent)
    (hy : ∀ k : Nat, k < (metL c s).length → CallY Tryz.prog l [aI k, aI 0] [(99, e0)] fun r H' => r = aB true ∧ H' = [(99, e0)]) :
    CallS Tryz.prog 125 [.yld l, .rptr (encSt s), .ptr 24 b3 0, .rptr (encC c)] [(99, e0), (24, .box b3 [.ptr 20 b7 0]), (20, .box b7 [.dat (.sl [])])]
      fun _ H' => ∃ h r, H' = gH e0 b3 b7 r h (rowsG (metL c s) (doneF c s)) (mapN (metL c s)) := by
  obtain ⟨t1, t2, t3⟩ := calm_txt hs
  have hsg := hs.fine.sig
  have htext := text_fn s t1 (by omega) t3
  refine callS_cut 0 Tryz.func125 rfl Tryz.ntmps125 (rs := []) rfl (by kernel_rfl) (by simp) (by kernel_rfl) ?_
  simp only [vcN]
  refine V.seq (V.regF (fun t => if t = 16 then some .bld else none) [] ?_)
  simp [hget, packA]
  intro u r
  refine htext.s ?_
  simp
  have e0m : mapN (nodesAt c s 0) = [(.str (textS s), .int .i64 0)] := by simp [mapN, nodesAt]
  have e0r : rowsG (nodesAt c s 0) (headF c s 0) = [rN ⟨s, -1, 0⟩ .nils false] := by simp [rowsG, nodesAt, headF]
  refine V.forI (σ := Value) (metL c s).length [0, 2, 3, 5] (by simp; exact rfl) (fun i _ => [(6, aI i)]) (fun i h => gH e0 b3 b7 r h (rowsG (nodesAt c s i) (headF c s i)) (mapN (nodesAt c s i))) (fun _ _ => True) u trivial (by simp) ⟨by simp; exact rfl, by simp [e0m, e0r]⟩ ?_ ?_
  · rintro i h hi -
    have hmore := nodes_more hi hs
    obtain ⟨n, hn1⟩ : ∃ n, (nodesAt c s i)[i] = n := ⟨_, rfl⟩
    have hn : (nodesAt c s i)[i]? = some n := by rw [List.getElem?_eq_getElem hmore, hn1]
    have hcn := ((nodes_ok hs i).calm n (List.mem_of_getElem? hn)).1
    have hwants := wants_fn c n.st hc hcn.right
    rw [chL_wants] at hwants
    have hlen : (nodesAt c s i).length ≤ 16384 := by
      obtain ⟨q, hq⟩ := vis_pre hs hi 0
      have := congrArg List.length hq
      rw [List.length_append, vis_zero] at this
      omega
    have hwl : (wantsL c n.st).length ≤ 64 := by
      have := List.length_filter_le (wantAt c n.st) (List.range c.signals.length)
      rw [List.length_range] at this
      unfold wantsL
      omega
    obtain ⟨R, hR⟩ : ∃ R, rowsG (nodesAt c s i) (headF c s i) = R := ⟨_, rfl⟩
    have hRi : R[i]? = some (rN n .nils false) := by
      rw [← hR, rowsG_at hn]
      simp [headF]
    have hil : i < R.length := (List.getElem?_eq_some_iff.1 hRi).1
    have hRi1 : R[i] = rN n .nils false := (List.getElem?_eq_some_iff.1 hRi).2
    rw [hR]
    obtain ⟨L0, hL0⟩ : ∃ L0, ((wantsL c n.st).map (chAt c n.st)).map encCh = L0 := ⟨_, rfl⟩
    have hL0l : L0.length = (wantsL c n.st).length := by rw [← hL0]; simp
    rw [hL0] at hwants
    simp [hil]
    refine V.drawX (fun t => if t = 41 then some (.fn (.dat (.sl L0))) else none) (by kernel_rfl) (by kernel_rfl) (by simp) ?_
    have hsetA : ∀ a b, R.set i (rN n a b) = rowsG (nodesAt c s i) (fun k => if k = i then (a, b) else headF c s i k) := fun a b => by rw [← hR, rowsG_set hn]
    simp [hget, hRi, hRi1, hil, packA]
    refine ⟨hwants, ?_⟩
    rw [hL0l]
    obtain ⟨e, he⟩ : ∃ e : Bool, (((wantsL c n.st).length : Int) == 0) = e := ⟨_, rfl⟩
    rw [he]
    refine V.gh ?_
    refine V.inv (H' := inH c s n e0 b3 b7 r i 0 e (h, .slice none 0 0)) ?_ ?_
    · intro x H0 hx
      have h1 := rowNil_inv (g := 16) (τ := 116) (i := i) (j := 7) (hh := h) (e := 105) (sz := 9) (rs := R.set i (rN n .nils e)) (r := rN n .nils e) 3 1 (by simp) (by simp [hil]) (by simp) hx
      have h2 : (R.set i (rN n .nils e)).set i ((rN n .nils e).set 7 (.own 116 (.slice none 0 0))) = rowsG (visAt c s i 0) (midF c s i (.slice none 0 0) e) := by
        rw [List.set_set, vis_zero]
        refine (hsetA (.own 116 (.slice none 0 0)) e).trans (rowsG_congr fun k _ => ?_)
        unfold midF
        rfl
      rw [h2] at h1
      unfold inH
      rw [vis_zero]
      rw [vis_zero] at h1
      simpa using h1
    refine V.forI (σ := Value × Value) (wantsL c n.st).length [0, 2, 3, 5, 6, 52, 53] (by simp; exact rfl) (fun j _ => [(54, aI j)]) (fun j p => inH c s n e0 b3 b7 r i j e p) (fun _ _ => True) (h, .slice none 0 0) trivial (by simp) ⟨by simp [inH]; exact rfl, by simp [inH]⟩ ?_ ?_
    · rintro j p hj -
      obtain ⟨w, hw⟩ : ∃ w, (wantsL c n.st)[j]? = some w := ⟨_, List.getElem?_eq_getElem hj⟩
      rw [← hL0]
      exact vc_of_part rfl (grow_in hc hs hm hi hn hw)
    · rintro ⟨h1, hd⟩ -
      have hva := vis_all hn
      have hn' : (nodesAt c s (i + 1))[i]? = some n := nodes_at (Nat.le_succ i) hn
      have hmt := met_at hs hi hn
      have hlen' : (nodesAt c s (i + 1)).length ≤ 16384 := by
        obtain ⟨q, hq⟩ := vis_pre hs hi (wantsL c n.st).length
        have := congrArg List.length hq
        rw [List.length_append, hva] at this
        omega
      unfold inH
      rw [hva, List.take_length]
      obtain ⟨NX, hNX⟩ : ∃ NX, (wantsL c n.st).map (fun w => (nxN c s n w : Int)) = NX := ⟨_, rfl⟩
      rw [hNX]
      have hfin : (rowsG (nodesAt c s (i + 1)) (midF c s i hd e)).set i (rN n (.dat (.sl (NX.map encI))) e) = rowsG (nodesAt c s (i + 1)) (headF c s (i + 1)) := by
        rw [rowsG_set hn']
        refine rowsG_congr fun k _ => ?_
        by_cases hk : k = i
        · subst hk
          have hem : (wantsL c n.st).isEmpty = e := by
            rw [← he]
            cases wantsL c n.st with
            | nil => rfl
            | cons a q =>
              have : ((((a :: q).length : Nat) : Int) == 0) = false := by
                rw [beq_eq_false_iff_ne]
                simp only [List.length_cons]
                omega
              rw [this]
              rfl
          simp [headF, doneF, hmt, hNX, hem]
        · have h3 : k < i + 1 ↔ k < i := by omega
          simp [midF, headF, hk, h3]
      have hr1 : (rowsG (nodesAt c s (i + 1)) (midF c s i hd e))[i]? = some (rN n (.own 116 hd) e) := by
        rw [rowsG_at hn']
        simp [midF]
      have hRl1 := rowsG_len (nodesAt c s (i + 1)) (midF c s i hd e)
      obtain ⟨R1, hR1⟩ : ∃ R1, rowsG (nodesAt c s (i + 1)) (midF c s i hd e) = R1 := ⟨_, rfl⟩
      rw [hR1] at hfin hr1 hRl1 ⊢
      simp
      refine Gh.frzRow (g := 16) (τ := 116) (i := i) (j := 7) (t := 116) rfl rfl (allD_I NX) hr1 (by simp) ?_
      rw [rowsD_I]
      refine Gh.here ?_
      have hy1 := hy i hi
      have hrl2 := rowsG_len (nodesAt c s (i + 1)) (headF c s (i + 1))
      have hR2l : ((rowsG (nodesAt c s (i + 1)) (headF c s (i + 1))).length : Int) ≤ 16384 := by omega
      simp [hfin]
      refine ⟨fun hx => absurd hx (by omega), fun _ => ?_⟩
      refine (CallY.frame (H1 := [(20, .box b7 [.own 16 h1]), (16, .seq h1 105 9 (rowsG (nodesAt c s (i + 1)) (headF c s (i + 1)))), (19, .map r .string (mapN (nodesAt c s (i + 1)))), (24, .box b3 [.ptr 20 b7 0])]) hy1).mono ?_
      rintro _ _ ⟨_, ⟨rfl, rfl⟩, rfl⟩
      simp
      omega
  · rintro h -
    have hall := nodes_all hs (Nat.le_refl (metL c s).length)
    have hrl2 := rowsG_len (nodesAt c s (metL c s).length) (headF c s (metL c s).length)
    rw [hall] at hrl2 ⊢
    have hfin : rowsG (metL c s) (headF c s (metL c s).length) = rowsG (metL c s) (doneF c s) := rowsG_congr fun k hk => by simp [headF, hk]
    rw [hfin] at hrl2 ⊢
    simp [hrl2]
end Go.Proofs.YtakndgpdolfenaaGreat
end

/- Contracts of race: what is reached. -/
section
namespace Go.Proofs.YtakndgpdolfenaaGreat
set_option maxHeartbeats 8000000
set_option maxRecDepth 20000

/-- What a call gives, seen otherwise. -/
theorem CallS.re {P : Program} {g : FuncId} {az : List A} {H : Heap} {K K' : A → Heap → Prop} (h : CallS P g az H K) (hk : ∀ r H', K r H' → ∃ r2 H2, (∀ y v, D y r v → D y r2 v) ∧ H'.map Prod.snd = H2.map Prod.snd ∧ K' r2 H2) : CallS P g az H K' := by
  refine ⟨h.1, fun x args H0 hi hd => (h.2 x args H0 hi hd).mono ?_⟩
  rintro _ _ ⟨y, v, r, H', e1, e2, e3, e4, e5, e6⟩
  obtain ⟨r2, H2, h1, h2, h3⟩ := hk r H' e6
  exact ⟨y, v, r2, H2, e1, e2, e3, Inv.ents (by simp [h2]) e4, h1 y v e5, h3⟩
theorem grow_s (c : Control) (s : State) (b7 : Nat) : CallS Tryz.prog 101 [.ptr 20 b7 0, aC c, aSt s] [] fun r H' => ∃ b3, r = .fn 125 [] [.rptr (encSt s), .ptr 24 b3 0, .rptr (encC c)] ∧ H' = [(24, .box b3 [.ptr 20 b7 0])] := by
  have h : CallS Tryz.prog 101 [.ptr 20 b7 0, aC c, aSt s] [] fun r H' => ∃ b3, r = .fn 125 [] [.rptr (encSt s), .ptr 3 b3 0, .rptr (encC c)] ∧ H' = [(3, .box b3 [.ptr 20 b7 0])] := by
    refine callS_of Tryz.func101 rfl Tryz.ntmps101 (rs := [.tmp 6]) rfl (by kernel_rfl) (by simp) (by kernel_rfl) ?_
    simp
  refine h.re ?_
  rintro r H' ⟨b3, rfl, rfl⟩
  refine ⟨.fn 125 [] [.rptr (encSt s), .ptr 24 b3 0, .rptr (encC c)], [(24, .box b3 [.ptr 20 b7 0])], ?_, rfl, b3, rfl, rfl⟩
  intro y v hv
  simp only [D] at hv ⊢
  obtain ⟨fs, cs, e, h1, h2⟩ := hv
  exact ⟨fs, cs, e, h1, Ds_set (j := 1) (a := .ptr 3 b3 0) (a' := .ptr 24 b3 0) (fun v hv => by simpa [D] using hv) rfl h2⟩
/-- What is reached, as data. -/
def nodL (c : Control) (s : State) : List (List L) := rowsD (rowsG (metL c s) (doneF c s))
theorem nod_all (c : Control) (s : State) : allD (rowsG (metL c s) (doneF c s)) = true := by
  unfold allD rowsG
  rw [List.all_eq_true]
  intro r hr
  obtain ⟨k, hk, rfl⟩ := List.mem_map.1 hr
  have hk' := List.mem_range.1 hk
  rw [List.getElem?_eq_getElem hk']
  simp [doneF, List.getElem?_eq_getElem hk', isD]
theorem nodL_len (c : Control) (s : State) : (nodL c s).length = (metL c s).length := by simp [nodL, rowsD, rowsG]
theorem nodL_at {c : Control} {s : State} {k : Nat} {n : Nod} (h : (metL c s)[k]? = some n) : (nodL c s)[k]? = some [.sl (n.st.ends.map encI), .sl (n.st.valves.map encB), .sl (n.st.inputs.map encB), .sl (n.st.values.map encB), .sl (n.st.timers.map encI),
    .int .i64 n.bef, .int .i64 n.line, .sl (((wantsL c n.st).map fun w => (nxN c s n w : Int)).map encI), .bool (wantsL c n.st).isEmpty] := by
  unfold nodL rowsD
  rw [List.getElem?_map, rowsG_at h]
  simp [doneF, h]
theorem nodL_rl (c : Control) (s : State) : rl (nodL c s) 9 = True := by
  apply eq_true
  intro r hr
  obtain ⟨k, hk, rfl⟩ := List.mem_iff_getElem.1 hr
  have hk' : k < (metL c s).length := by rw [nodL_len] at hk; exact hk
  have := nodL_at (List.getElem?_eq_getElem hk')
  rw [List.getElem?_eq_getElem hk] at this
  rw [Option.some.inj this]
  rfl
/-- What 'reached' gives. -/
def reachA (c : Control) (s : State) : A := if rightC c s ≠ 0 then .tuple [.nilp, aI (rightC c s)] else .tuple [.rptr [.sl (nodL c (gatesP c s))], aI 0]
theorem reached_fn (c : Control) (s : State) (hc : OkC c) (hs : SmS s) (hm : rightC c s = 0 → (metL c (gatesP c s)).length ≤ 16384) : CallFn Tryz.prog 59 [aC c, aSt s] (reachA c s) := by
  have hbeg := begin29_fn c s hc hs
  unfold reachA
  by_cases hr : rightC c s = 0
  · have eg : gatesR c s = (gatesP c s, 0) := by unfold gatesR; simp [hr]
    rw [eg] at hbeg
    rw [if_neg (by simp [hr])]
    have hcalm := calm_of hr
    have hm' := hm hr
    generalize gatesP c s = G at *
    refine CallS.agg (az := [aC c]) (bz := []) ?_
    refine callFz_cut 3 Tryz.func59 rfl Tryz.ntmps59 (rs := [.cell 4 95, .cell 5 32]) rfl (by kernel_rfl) (by simp) (by kernel_rfl) ?_
    simp
    intro b3 b4 b5
    refine hbeg.s ?_
    simp
    refine V.seq (V.regF (fun _ => none) [20] ?_)
    simp
    intro b7
    refine (CallS.frame (H1 := [(20, .box b7 [.dat (.sl [])]), (5, .box b5 [aI 0]), (4, .box b4 [.nilp]), (3, .box b3 [.dat (.sl (G.ends.map encI)), .dat (.sl (G.valves.map encB)), .dat (.sl (G.inputs.map encB)), .dat (.sl (G.values.map encB)), .dat (.sl (G.timers.map encI))])]) (grow_s c G b7)).mono ?_
    rintro _ _ ⟨_, ⟨b24, rfl, rfl⟩, rfl⟩
    simp
    refine V.gh ?_
    refine V.rangeFunc 99 (p := True) (first := []) (caps := [.rptr (encSt G), .ptr 24 b24 0, .rptr (encC c)]) (f := 125) (by simp) trivial fun l => ?_
    refine (CallS.frame (H1 := [(5, .box b5 [aI 0]), (4, .box b4 [.nilp]), (3, .box b3 [.dat (.sl (G.ends.map encI)), .dat (.sl (G.valves.map encB)), .dat (.sl (G.inputs.map encB)), .dat (.sl (G.values.map encB)), .dat (.sl (G.timers.map encI))])]) (grow1_s hc hcalm hm' l b24 b7 _ fun k hk => callY_of rfl (by kernel_rfl) ?_)).mono ?_
    · simp
    · rintro _ _ ⟨_, ⟨h, r, rfl⟩, rfl⟩
      refine .inl ⟨_, rfl, ?_⟩
      have hall := nod_all c G
      refine Gh.frzBox (g := 20) (τ := 16) (j := 0) (t := 16) rfl rfl hall rfl ?_
      refine Gh.frzP 7 (τ := 20) (b := b7) (ls := [.sl (nodL c G)]) (by simp) rfl ?_
      refine Gh.here ?_
      simp
  · have eg : gatesR c s = (noSt, rightC c s) := by unfold gatesR; simp [hr]
    rw [eg] at hbeg
    rw [if_pos hr]
    generalize rightC c s = e at *
    refine CallS.agg (az := [aC c]) (bz := []) ?_
    refine callFz_of Tryz.func59 rfl Tryz.ntmps59 (rs := [.cell 4 95, .cell 5 32]) rfl (by kernel_rfl) (by simp) (by kernel_rfl) ?_
    simp
    intro b3 b4 b5
    refine hbeg.s ?_
    simp [hr]
end Go.Proofs.YtakndgpdolfenaaGreat
end

/- Contracts of race: the order of states. -/
section
namespace Go.Proofs.YtakndgpdolfenaaGreat
set_option maxHeartbeats 4000000
set_option maxRecDepth 10000

theorem nanI_fn (n : Int) : CallFn Tryz.prog 104 [aI n] (aB false) := by
  refine callFz_of Tryz.func104 rfl Tryz.ntmps104 (rs := [.tmp 2]) rfl (by kernel_rfl) (by simp) (by kernel_rfl) ?_
  simp
def cmp1 (a b : Int) : Int := if a < b then -1 else if b < a then 1 else 0
theorem cmp1_fn (a b : Int) : CallFn Tryz.prog 72 [aI a, aI b] (aI (cmp1 a b)) := by
  refine callFz_of Tryz.func72 rfl Tryz.ntmps72 (rs := [.tmp 4]) rfl (by kernel_rfl) (by simp) (by kernel_rfl) ?_
  simp
  refine (nanI_fn a).s ?_
  simp
  refine (nanI_fn b).s ?_
  unfold cmp1
  by_cases h1 : a < b
  · simp [h1]
  · by_cases h2 : b < a
    · simp [h1, h2]
    · simp [h1, h2]
theorem cmpI_drop {l m : List Int} {i : Nat} (hl : i < l.length) (hm : i < m.length) : cmpI (l.drop i) (m.drop i) = if cmp1 l[i] m[i] ≠ 0 then cmp1 l[i] m[i] else cmpI (l.drop (i + 1)) (m.drop (i + 1)) := by
  rw [List.drop_eq_getElem_cons hl, List.drop_eq_getElem_cons hm]
  simp only [cmpI, cmp1]
  by_cases h1 : l[i] < m[i]
  · simp [h1]
  · by_cases h2 : m[i] < l[i]
    · simp [h1, h2]
    · simp [h1, h2]
theorem cmpB_drop {l m : List Bool} {i : Nat} (hl : i < l.length) (hm : i < m.length) : cmpB (l.drop i) (m.drop i) = if l[i] = m[i] then cmpB (l.drop (i + 1)) (m.drop (i + 1)) else if l[i] = true then 1 else -1 := by
  rw [List.drop_eq_getElem_cons hl, List.drop_eq_getElem_cons hm]
  rfl
theorem cmpS_fn (l m : List Int) (hl : Sh l) (hm : Sh m) : CallFn Tryz.prog 105 [aIs l, aIs m] (aI (cmpI l m)) := by
  refine callFz_of Tryz.func105 rfl Tryz.ntmps105 (rs := [.tmp 4]) rfl (by kernel_rfl) (by simp) (by kernel_rfl) ?_
  simp
  refine V.forI (σ := Unit) l.length [0, 1, 9, 10] (by simp; exact rfl) (fun i _ => [(4, aI 0), (11, aI i)]) (fun _ _ => []) (fun i _ => i ≤ m.length ∧ cmpI l m = cmpI (l.drop i) (m.drop i)) () ⟨by simp, by simp⟩ (by simp) ⟨by simp; exact rfl, by simp⟩ ?_ ?_
  · rintro i - hi ⟨h1, h2⟩
    have hx : l[i]? = some l[i] := List.getElem?_eq_getElem hi
    by_cases hm1 : i < m.length
    · have hy : m[i]? = some m[i] := List.getElem?_eq_getElem hm1
      have hd := cmpI_drop hi hm1
      have hm2 : ¬ m.length ≤ i := by omega
      have hm3 : ¬ ((m.length : Int) ≤ (i : Int)) := by omega
      rw [hd] at h2
      obtain ⟨x, ex⟩ : ∃ x, l[i] = x := ⟨_, rfl⟩
      obtain ⟨y, ey⟩ : ∃ y, m[i] = y := ⟨_, rfl⟩
      rw [ex] at h2 hx
      rw [ey] at h2 hy
      simp [hi, hx, ex, hm1, hm2, hm3, hy, ey]
      refine (cmp1_fn x y).s ?_
      by_cases h0 : cmp1 x y = 0
      · rw [if_neg (by simp [h0])] at h2
        simp [h0]
        exact ⟨by omega, by omega, h2⟩
      · rw [if_pos h0] at h2
        simp [h0, h2]
    · have hm2 : m.length ≤ i := by omega
      have hm3 : (m.length : Int) ≤ (i : Int) := by omega
      have e1 : cmpI l m = 1 := by
        rw [h2, List.drop_eq_getElem_cons hi, List.drop_eq_nil_of_le hm2]
        rfl
      simp [hi, hx, hm1, hm2, hm3, e1]
  · rintro - ⟨h1, h2⟩
    rw [List.drop_length] at h2
    by_cases hm1 : l.length < m.length
    · have e1 : cmpI l m = -1 := by
        rw [h2, List.drop_eq_getElem_cons hm1]
        rfl
      simp [hm1, e1]
    · have e1 : cmpI l m = 0 := by
        rw [h2, List.drop_eq_nil_of_le (by omega)]
        rfl
      simp [hm1, e1]
theorem compare_fn (a b : State) (hv : b.values.length = a.values.length) (h1 : Sh a.values) (h2 : Sh a.timers) (h3 : Sh b.timers) : CallFn Tryz.prog 73 [aSt a, aSt b] (aI (ordS a b)) := by
  have hcs := cmpS_fn a.timers b.timers h2 h3
  unfold ordS
  refine callFz_of Tryz.func73 rfl Tryz.ntmps73 (rs := [.tmp 4]) rfl (by kernel_rfl) (by simp) (by kernel_rfl) ?_
  simp
  refine V.forI (σ := Unit) a.values.length [2, 3, 8, 9] (by simp; exact rfl) (fun i _ => [(4, aI 0), (10, aI i)]) (fun _ _ => []) (fun i _ => cmpB a.values b.values = cmpB (a.values.drop i) (b.values.drop i)) () (by simp) (by simp) ⟨by simp; exact rfl, by simp⟩ ?_ ?_
  · rintro i - hi hI
    have hm1 : i < b.values.length := by omega
    have hx : a.values[i]? = some a.values[i] := List.getElem?_eq_getElem hi
    have hy : b.values[i]? = some b.values[i] := List.getElem?_eq_getElem hm1
    have hd := cmpB_drop hi hm1
    rw [hd] at hI
    obtain ⟨x, ex⟩ : ∃ x, a.values[i] = x := ⟨_, rfl⟩
    obtain ⟨y, ey⟩ : ∃ y, b.values[i] = y := ⟨_, rfl⟩
    rw [ex, ey] at hI
    rw [ex] at hx
    rw [ey] at hy
    simp [hi, hx, ex, hm1, hy, ey, encSt]
    cases x <;> cases y <;> simp at hI ⊢
    · exact ⟨by omega, hI⟩
    · simp [hI]
    · simp [hI]
    · exact ⟨by omega, hI⟩
  · rintro - hI
    rw [List.drop_length, ← hv, List.drop_length] at hI
    have e0 : cmpB a.values b.values = 0 := hI
    simp
    refine hcs.s ?_
    simp [e0]
end Go.Proofs.YtakndgpdolfenaaGreat
end

/- Contracts of race: the ends. -/
section
namespace Go.Proofs.YtakndgpdolfenaaGreat
set_option maxHeartbeats 4000000
set_option maxRecDepth 10000

abbrev rSt (s : State) : List A := [.dat (.sl (s.ends.map encI)), .dat (.sl (s.valves.map encB)), .dat (.sl (s.inputs.map encB)), .dat (.sl (s.values.map encB)), .dat (.sl (s.timers.map encI))]
theorem rowsD_St (xs : List State) : rowsD (xs.map rSt) = xs.map encSt := by unfold rowsD; rw [List.map_map]; rfl
theorem allD_St (xs : List State) : allD (xs.map rSt) = true := by simp [allD, rSt, isD]
theorem sortF_call : Callable Tryz.prog 102 := ⟨_, Tryz.func102, by kernel_rfl, by kernel_rfl⟩
theorem cmpF_call : Callable Tryz.prog 73 := ⟨_, Tryz.func73, by kernel_rfl, by kernel_rfl⟩
theorem ord_ok (n : Nat) : OrdOK (fun s : State => s.values.length = n ∧ Sh s.values ∧ Sh s.timers) ordS := by
  refine ⟨fun x _ => ord_irrefl x, fun x y z hx hy hz => ord_trans hx.1 hy.1 hz.1, fun x y z hx hy hz h1 h2 h3 => ?_⟩
  rw [ord_key (by rw [hx.1, hy.1])] at h1
  rw [ord_key (by rw [hy.1, hz.1])] at h2
  rw [ord_key (by rw [hx.1, hz.1])] at h3
  have ha := cmpI_anti (keyS x) (keyS y)
  rcases cmpI_range (keyS x) (keyS y) with h | h | h
  · omega
  · rw [(cmpI_zero _ _).1 h] at h3
    exact h2 h3
  · exact h2 (cmpI_trans _ _ _ (by omega) h3)
theorem sortSt_s (n : Nat) (rows : List State) (hg : ∀ b ∈ rows, b.values.length = n ∧ Sh b.values ∧ Sh b.timers) (hz : rows.length < 4611686018427387904) {t e : Nat} {h : Value} :
    CallS Tryz.prog 102 [.own t h, .fn 73 [] []] [(t, .seq h e 5 (rows.map rSt))] fun r H' => r = .tuple [] ∧ ∃ rows' : List State, rows'.Perm rows ∧ rows'.Pairwise (fun a b => ¬ ordS b a < 0) ∧ H' = [(t, .seq h e 5 (rows'.map rSt))] :=
  sortF_s sfapiStateLays 5 (by exact Tryz.isAgg29) (by exact Tryz.sizeOf29) sortF_call cmpF_call encSt (fun _ => rfl) _ ordS (fun a b ha hb => compare_fn a b (by rw [ha.1, hb.1]) ha.2.1 ha.2.2 hb.2.2) (ord_ok n) rows hg hz
/-- The ends among the first i that are met. -/
def endsAt (c : Control) (s : State) (i : Nat) : List State := (((metL c s).take i).filter (stillB c)).map Nod.st
theorem endsAt_succ {c : Control} {s : State} {i : Nat} {n : Nod} (h : (metL c s)[i]? = some n) : endsAt c s (i + 1) = if (wantsL c n.st).isEmpty = true then endsAt c s i ++ [n.st] else endsAt c s i := by
  unfold endsAt
  rw [List.take_add_one, h, List.filter_append, List.map_append]
  by_cases hs : (wantsL c n.st).isEmpty = true
  · simp [stillB, hs]
  · simp [stillB, hs]
theorem endsAt_len (c : Control) (s : State) (i : Nat) : (endsAt c s i).length ≤ i := by
  unfold endsAt
  rw [List.length_map]
  exact Nat.le_trans (List.length_filter_le _ _) (List.length_take_le _ _)
theorem endsAt_all (c : Control) (s : State) : endsAt c s (metL c s).length = endsB c s := by
  unfold endsAt endsB
  rw [List.take_length]
theorem ends_sorted {c : Control} {s : State} (hs : Calm c s) {rows : List State} (hp : rows.Perm (endsB c s)) (hw : rows.Pairwise fun a b => ¬ ordS b a < 0) : rows = endsS c s := by
  have hk := ends_kin hs
  have hnd : rows.Nodup := hp.nodup_iff.2 (ends_nodup hs)
  have hsort : SortS rows := by
    have h1 := List.Pairwise.and hw hnd
    refine List.Pairwise.imp_of_mem ?_ h1
    intro a b ha hb ⟨h2, h3⟩
    exact kin_lt hk (hp.mem_iff.1 hb) (hp.mem_iff.1 ha) (fun e => h3 e.symm) h2
  exact sort_uniq (n := c.signals.length) (fun a ha => hk.len a (hp.mem_iff.1 ha)) hsort (ends_sort hs) (hp.trans (ends_perm c s).symm)
theorem ends_fn {c : Control} {s : State} (hs : Calm c s) (hm : (metL c s).length ≤ 16384) : CallFn Tryz.prog 60 [.rptr [.sl (nodL c s)]] (.dat (.sl ((endsS c s).map encSt))) := by
  have hsg := hs.fine.sig
  have hNl := nodL_len c s
  have hNr := nodL_rl c s
  have hNa := fun {k : Nat} {n : Nod} (h : (metL c s)[k]? = some n) => nodL_at h
  obtain ⟨N, hN⟩ : ∃ N, nodL c s = N := ⟨_, rfl⟩
  rw [hN] at hNl hNr hNa ⊢
  refine callFz_of Tryz.func60 rfl Tryz.ntmps60 (rs := [.tmp 2]) rfl (by kernel_rfl) (by simp) (by kernel_rfl) ?_
  simp
  refine V.forI (σ := Value) N.length [2, 9, 10] (by simp; exact rfl) (fun i g => [(3, .own 21 g), (11, aI i)]) (fun i g => [(21, .seq g 29 5 ((endsAt c s i).map rSt))]) (fun _ _ => True) (.slice none 0 0) trivial (by simp) ⟨by simp; exact rfl, by simp [endsAt]⟩ ?_ ?_
  · rintro i g hi -
    obtain ⟨n, hn⟩ : ∃ n, (metL c s)[i]? = some n := ⟨_, List.getElem?_eq_getElem (by omega)⟩
    have hrow := hNa hn
    have hs1 := endsAt_succ hn
    have hl := endsAt_len c s i
    obtain ⟨e, he⟩ : ∃ e, (wantsL c n.st).isEmpty = e := ⟨_, rfl⟩
    rw [he] at hrow hs1
    have hrow1 := (List.getElem?_eq_some_iff.1 hrow).2
    simp [hi, hrow, hrow1, hNr]
    cases e with
    | true =>
      simp at hs1
      simp [hs1, packA]
      omega
    | false =>
      simp at hs1
      simp [hs1]
      omega
  · rintro g -
    rw [hNl, endsAt_all]
    have hel : (endsB c s).length ≤ 16384 := by
      have := endsAt_len c s (metL c s).length
      rw [endsAt_all] at this
      omega
    have hgd : ∀ b ∈ endsB c s, b.values.length = c.signals.length ∧ Sh b.values ∧ Sh b.timers := by
      intro b hb
      have hb' := (mem_ends.1 hb).1
      obtain ⟨t1, t2, t3⟩ := calm_txt (met_calm hs hb').1
      exact ⟨t2, by show b.values.length ≤ _; omega, by show b.timers.length ≤ _; omega⟩
    simp [hNl]
    refine (sortSt_s c.signals.length (endsB c s) hgd (by omega)).mono ?_
    rintro _ _ ⟨rfl, rows, hp, hw, rfl⟩
    rw [ends_sorted hs hp hw]
    simp [rowsD_St, allD_St]
/-- What 'Ends' gives. -/
def endsR (c : Control) (s : State) : List State × Int := if rightC c s ≠ 0 then ([], rightC c s) else (endsS c (gatesP c s), 0)
/-- What is small enough. -/
def MetSm (c : Control) (s : State) : Prop := rightC c s = 0 → (metL c (gatesP c s)).length ≤ 16384
theorem Ends_fn (c : Control) (s : State) (hc : OkC c) (hs : SmS s) (hm : MetSm c s) : CallFn Tryz.prog 19 [aC c, aSt s] (.tuple [.dat (.sl ((endsR c s).1.map encSt)), aI (endsR c s).2]) := by
  have hre := reached_fn c s hc hs hm
  unfold reachA at hre
  unfold endsR
  by_cases hr : rightC c s = 0
  · have hen := ends_fn (calm_of hr) (hm hr)
    rw [if_neg (by simp [hr])] at hre ⊢
    generalize nodL c (gatesP c s) = N at *
    generalize endsS c (gatesP c s) = E at *
    refine callFz_of Tryz.func19 rfl Tryz.ntmps19 (rs := [.tmp 4, .tmp 5]) rfl (by kernel_rfl) (by simp) (by kernel_rfl) ?_
    simp
    refine hre.s ?_
    simp
    refine hen.s ?_
    simp
  · rw [if_pos hr] at hre ⊢
    generalize rightC c s = e at *
    refine callFz_of Tryz.func19 rfl Tryz.ntmps19 (rs := [.tmp 4, .tmp 5]) rfl (by kernel_rfl) (by simp) (by kernel_rfl) ?_
    simp
    refine hre.s ?_
    simp [hr]
theorem Critical_fn (c : Control) (s : State) (hc : OkC c) (hs : SmS s) (hm : MetSm c s) : CallFn Tryz.prog 25 [aC c, aSt s] (.tuple [aB (decide ((endsR c s).1.length > 1)), aI (endsR c s).2]) := by
  have hre := reached_fn c s hc hs hm
  unfold reachA at hre
  unfold endsR
  by_cases hr : rightC c s = 0
  · have hen := ends_fn (calm_of hr) (hm hr)
    rw [if_neg (by simp [hr])] at hre ⊢
    generalize nodL c (gatesP c s) = N at *
    generalize endsS c (gatesP c s) = E at *
    refine callFz_of Tryz.func25 rfl Tryz.ntmps25 (rs := [.tmp 4, .tmp 5]) rfl (by kernel_rfl) (by simp) (by kernel_rfl) ?_
    simp
    refine hre.s ?_
    simp
    refine hen.s ?_
    simp
    omega
  · rw [if_pos hr] at hre ⊢
    generalize rightC c s = e at *
    refine callFz_of Tryz.func25 rfl Tryz.ntmps25 (rs := [.tmp 4, .tmp 5]) rfl (by kernel_rfl) (by simp) (by kernel_rfl) ?_
    simp
    refine hre.s ?_
    simp [hr]
end Go.Proofs.YtakndgpdolfenaaGreat
end
