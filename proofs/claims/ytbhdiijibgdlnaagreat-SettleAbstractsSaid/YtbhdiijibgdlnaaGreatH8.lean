/- Texts joined by a program: Vh. -/
import Derived.Test.YtbhdiijibgdlnaaGreatH7
set_option linter.unusedSimpArgs false
set_option linter.unusedVariables false

/- Law of chapter 28: what Unknown tells. -/
section
namespace Go.Proofs.YtbhdiijibgdlnaaGreat
set_option maxHeartbeats 4000000
set_option maxRecDepth 10000

theorem setU_at (c : Control) : ∀ (ks l : List Int) (k : Nat) (n : Int), (setU c l ks)[k]? = some n → n = 2 ∨ (l[k]? = some n ∧ ∀ z ∈ ks, (2 * c.actuators + z).toNat ≠ k)
  | [], l, k, n, h => .inr ⟨h, by simp⟩
  | z :: ks, l, k, n, h => by
    rw [show setU c l (z :: ks) = setU c (l.set (2 * c.actuators + z).toNat 2) ks from rfl] at h
    rcases setU_at c ks _ k n h with h1 | ⟨h1, h2⟩
    · exact .inl h1
    · rw [List.getElem?_set] at h1
      split at h1
      · split at h1
        · cases h1; exact .inl rfl
        · cases h1
      · rename_i hne
        refine .inr ⟨h1, fun y hy => ?_⟩
        rcases List.mem_cons.1 hy with rfl | hy
        · exact hne
        · exact h2 y hy
theorem start_cov {c : Control} {s T : State} {ks : List Int} (hsh : shapeS c s) (hT : shapeS c T) (he : T.ends = s.ends) (hv : T.values = s.values) (hi : ∀ j : Nat, (j : Int) ∉ ks → T.inputs[j]? = s.inputs[j]?) : CovL (startU c s ks) (valuesOf T) := by
  intro k n b h1 h2
  rcases setU_at c ks _ k n h1 with h | ⟨h3, h4⟩
  · exact .inl h
  · right
    unfold numL at h3
    rw [List.getElem?_map] at h3
    have hel := endsV_length s.ends
    have hil : T.inputs.length = s.inputs.length := by rw [hT.2.2.1, hsh.2.2.1]
    have hea := hsh.1
    have e : (valuesOf T)[k]? = (valuesOf s)[k]? := by
      unfold valuesOf
      rw [he, hv, List.append_assoc, List.append_assoc]
      by_cases k1 : k < (endsV s.ends).length
      · rw [List.getElem?_append_left k1, List.getElem?_append_left k1]
      · have hpos : ∀ l : List Bool, (endsV s.ends ++ l)[k]? = l[k - (endsV s.ends).length]? := fun l => List.getElem?_append_right (by omega)
        rw [hpos, hpos]
        by_cases k2 : k - (endsV s.ends).length < s.inputs.length
        · rw [List.getElem?_append_left (by omega), List.getElem?_append_left k2]
          refine hi _ fun hm => h4 _ hm ?_
          omega
        · have hp2 : ∀ l : List Bool, l.length = s.inputs.length → (l ++ s.values)[k - (endsV s.ends).length]? = s.values[k - (endsV s.ends).length - s.inputs.length]? := fun l hl => by
            rw [List.getElem?_append_right (by omega), hl]
          rw [hp2 _ hil, hp2 _ rfl]
    rw [e] at h2
    rw [h2] at h3
    simpa using h3.symm
theorem inputsE_zero {n : Int} : ∀ {ks : List Int} {p : Int}, ks.Pairwise (· < ·) → (∀ k ∈ ks, p < k ∧ 0 ≤ k ∧ k < n) → inputsE n p ks = 0
  | [], _, _, _ => rfl
  | k :: ks, p, h, hk => by
    obtain ⟨a1, a2⟩ := List.pairwise_cons.1 h
    have h1 := hk k (by simp)
    unfold inputsE
    rw [if_neg (by omega), if_neg (by omega)]
    exact inputsE_zero a2 fun z hz => by
      have := a1 z hz
      have := hk z (by simp [hz])
      omega
theorem metB_mem {M : Nat} {p : Nat → Bool} {z : Int} (h : z ∈ metB M p) : 0 ≤ z ∧ z < M := by
  unfold metB at h
  simp only [List.mem_map, List.mem_filter, List.mem_range] at h
  obtain ⟨k, ⟨h1, _⟩, rfl⟩ := h
  omega
/-- Unknown knows: what is told about a course. -/
theorem unk_cov {c : Control} {s T : State} {ks : List Int} (hf : Fine c) (hsh : shapeS c s) (hT : shapeS c T) (he : T.ends = s.ends) (hv : T.values = s.values) (hi : ∀ j : Nat, (j : Int) ∉ ks → T.inputs[j]? = s.inputs[j]?) :
    ((finalP c (startU c s ks)).length : Int) = countC c ∧ A3 (finalP c (startU c s ks)) ∧
    (courseP c 65 0 T [] = none → (2 : Int) ∈ finalP c (startU c s ks)) ∧
    ∀ x bad m, courseP c 65 0 T [] = some (x, bad, m) → CovL (finalP c (startU c s ks)) (valuesOf x) := by
  have hl0 : ((startU c s ks).length : Int) = countC c := by
    unfold startU
    rw [setU_len, numL_len]
    exact valuesOf_length hsh
  have hl : ((finalP c (startU c s ks)).length : Int) = countC c := by rw [finalP_len]; exact hl0
  have hF := fix_of hf hl (final_rest hf hl0)
  have hcs : CovS c (finalP c (startU c s ks)) T := final_cov hf hl0 fun k _ n b h1 h2 => start_cov hsh hT he hv hi k n b h1 h2
  refine ⟨hl, itP_a3 hf (setU_a3 c ks _ (numL_a3 _)) _, fun hn => ?_, fun x bad m hc => rest_cov hf hF hT hcs hc⟩
  rcases Classical.em ((2 : Int) ∈ finalP c (startU c s ks)) with h | h
  · exact h
  · exfalso
    have hr := known_rest hf hF h hT hcs
    obtain ⟨r, hr2⟩ := course_some 1 65 0 T [] (by omega) hr
    rw [hn] at hr2
    cases hr2

/-- Is input i unknown? -/
def bitB (w : Int) (i : Nat) : Bool := decide (andI .u8 (shrI .u8 w ((i : Int).tmod 8)) 1 = 1)
theorem lawAbstracts_fn (c : Control) (s : State) (w0 w1 : Int) (hc : OkC c) (hs : OkSt s) : CallFn Tryz.prog 8 [aC c, aSt s, .record [.int .u8 w0, .int .u8 w1]] (aB true) := by
  refine callFz_of Tryz.func8 rfl Tryz.ntmps8 (rs := [.tmp 6]) rfl (by kernel_rfl) (by simp) (by kernel_rfl) ?_
  simp
  refine (right28_fn c s hc hs).s ?_
  simp
  refine ⟨fun h => awake28_fn.s (by simp), fun h => ?_⟩
  simp only [rightB, Bool.and_eq_true, beq_iff_eq] at h
  obtain ⟨⟨h1, h2⟩, h3⟩ := h
  have hsm := few_sm h2
  have hpm := few_c h1
  obtain ⟨z1, z2, z3⟩ := right_zero h3
  have hf := fine_of z1
  have hil : s.inputs.length = c.inputs.length := z2.2.2.1
  have hin := hf.inp
  refine (copyR_o s hsm).s 60 fun hd => ?_
  simp [stA, stH]
  intro b8
  refine V.forI (σ := Value × List Bool) c.inputs.length [3, 4, 5, 6, 8, 26] (by simp; exact rfl) (fun i p => [(27, aI i), (7, .own 77 p.1)]) (fun i p => [(77, .seq p.1 3 1 ((metB i (bitB w0)).map rI)), (62, .seq (hd 2) 4 1 (p.2.map rB))]) (fun i p => p.2.length = s.inputs.length ∧ ∀ j : Nat, (j : Int) ∉ metB i (bitB w0) → p.2[j]? = s.inputs[j]?) (.slice none 0 0, s.inputs) ⟨rfl, fun _ _ => rfl⟩ (by simp) ⟨by simp; exact rfl, by simp [metB]⟩ ?_ ?_
  · rintro i ⟨h7, ins⟩ hi ⟨hl, hv⟩
    dsimp only at hl hv ⊢
    have hvi : i < ins.length := by omega
    obtain ⟨v, hvv⟩ : ∃ v, ins[i]? = some v := ⟨_, List.getElem?_eq_getElem hvi⟩
    rw [metB_succ]
    simp [hi]
    by_cases hb : andI .u8 (shrI .u8 w0 ((i : Int).tmod 8)) 1 = 1
    · have hbt : bitB w0 i = true := decide_eq_true hb
      have hml := metB_len i (bitB w0)
      simp [hb]
      refine ⟨Int.tmod_nonneg _ (by omega), fun u => ⟨by omega, ?_⟩⟩
      refine V.drawX (fun _ => none) (by kernel_rfl) (by kernel_rfl) (by simp) ?_
      simp [hvv, hvi, hbt]
      refine ⟨Int.tmod_nonneg _ (by omega), by kernel_rfl, by omega, u, ins.set i (andI .u8 (shrI .u8 w1 ((i : Int).tmod 8)) 1 == 1), ⟨by simpa using hl, fun k hk hki => ?_⟩, rfl, by rw [List.map_set]⟩
      rw [List.getElem?_set_ne (by omega)]
      exact hv k hk
    · have hbt : bitB w0 i = false := decide_eq_false hb
      simp [hb, hbt]
      exact ⟨Int.tmod_nonneg _ (by omega), by omega, h7, ins, ⟨hl, hv⟩, rfl, rfl⟩
  · rintro ⟨h7, ins⟩ ⟨hl, hv⟩
    dsimp only at hl hv ⊢
    obtain ⟨T, hT⟩ : ∃ T : State, T = { s with inputs := ins } := ⟨_, rfl⟩
    have hTr : rightC c T = 0 := right_inputs h3 (by rw [hT]) (by rw [hT]) (by rw [hT]; exact hl) (by rw [hT]) (by rw [hT])
    have hTm : SmS T := sm_right hTr
    have hTs := (right_zero hTr).2.1
    have hml := metB_len c.inputs.length (bitB w0)
    have hmm : ∀ k ∈ metB c.inputs.length (bitB w0), (-1 : Int) < k ∧ 0 ≤ k ∧ k < c.inputs.length := fun k hk => by
      have := metB_mem hk
      omega
    have he := inputsE_zero (metB_sorted c.inputs.length (bitB w0)) hmm
    obtain ⟨f1, f2, f3, f4⟩ := unk_cov hf z2 hTs (by rw [hT]) (by rw [hT]) (ks := metB c.inputs.length (bitB w0)) (by rw [hT]; exact hv)
    have c1 := Unknown_fn c s (metB c.inputs.length (bitB w0)) hc hsm (by omega)
    rw [show unknownR c s (metB c.inputs.length (bitB w0)) = (finalP c (startU c s (metB c.inputs.length (bitB w0))), 0) by
      unfold unknownR; rw [if_neg (by simp [h3]), if_neg (by omega), if_neg (by simp [he])]] at c1
    have c2 := Settle_fn c T hc hTm
    have c3 := lines_fn c hf.sm
    have hcc : 0 ≤ countC c ∧ countC c ≤ 200 := by have := hf.act; have := hf.sig; unfold countC; omega
    generalize metB c.inputs.length (bitB w0) = ks at *
    generalize finalP c (startU c s ks) = F at *
    simp
    refine CallS.freeze (Hf := [(77, .seq h7 3 1 (ks.map rI))]) (az' := [aC c, aSt s, aIs ks]) (c1.s ?_) ?_
    · simp
      refine CallS.perm (CallS.freeze (az' := [aC c, aSt T]) (Hf := [(62, .seq (hd 2) 4 1 (ins.map rB)), (8, .box b8 [.own 60 (hd 0), .own 61 (hd 1), .own 62 (hd 2), .own 63 (hd 3), .own 64 (hd 4)]), (60, .seq (hd 0) 3 1 (s.ends.map rI)), (61, .seq (hd 1) 4 1 (s.valves.map rB)), (63, .seq (hd 3) 4 1 (s.values.map rB)), (64, .seq (hd 4) 3 1 (s.timers.map rI))]) (Hk := []) (c2.s ?_) ?_) (List.Perm.of_eq (List.append_nil _))
      · obtain ⟨R, hR⟩ : ∃ R, courseP c 65 0 T [] = R := ⟨_, rfl⟩
        cases R with
        | none =>
          have h2F := f3 hR
          rw [settle_none hTr hR]
          have c4 := containsI_fn F 2 (by unfold Sh; omega)
          rw [decide_eq_true h2F] at c4
          simp
          intro b12
          refine GCall.fn (aI (countC c)) (fun h => ⟨by first | trivial | exact h, c3⟩) ?_
          simp [f1]
          refine GCall.fn (aB true) (fun h => ⟨by first | trivial | exact h, c4⟩) ?_
          simp
          refine GCall.fn (aB true) (fun h => ⟨by first | trivial | exact h, awake28_fn⟩) ?_
          simp
        | some p =>
          obtain ⟨x, bad, m⟩ := p
          have hcov := f4 x bad m hR
          rw [settle_some hTr hR]
          obtain ⟨j, g1, g2, g3, g4, g5, g6, g7⟩ := course_spec 65 0 T [] hR
          have hxr : rightC c x = 0 := by rw [g3]; exact after_right hTr j
          have hxs := (right_zero hxr).2.1
          have hxm : SmS x := sm_right hxr
          have c5 := RightR_fn c x hc hpm.1 hpm.2 hxm
          rw [hxr] at c5
          have c6 := ValuesR_fn c x hxm hxs.1.symm
          have hvl := valuesOf_length hxs
          generalize compI (sortI bad) = B at *
          simp
          intro b12
          refine GCall.fn (aI (countC c)) (fun h => ⟨by first | trivial | exact h, c3⟩) ?_
          simp [f1]
          refine c5.s ?_
          simp
          refine c6.s ?_
          generalize valuesOf x = vx at *
          simp
          refine V.forI (σ := Unit) vx.length [10, 93, 94] (by simp; exact rfl) (fun i _ => [(6, .dat (.bool false)), (95, aI i)]) (fun _ _ => []) (fun _ _ => True) () trivial (by simp) ⟨by simp; exact rfl, by simp⟩ ?_ ?_
          · rintro i - hi -
            have hFi : i < F.length := by omega
            obtain ⟨v, hv2⟩ : ∃ v, vx[i]? = some v := ⟨_, List.getElem?_eq_getElem hi⟩
            obtain ⟨q, hq⟩ : ∃ q, F[i]? = some q := ⟨_, List.getElem?_eq_getElem hFi⟩
            have hcv := hcov i q v hq hv2
            have ht3 := f2 q (List.mem_of_getElem? hq)
            have hlt : (i : Int) + 1 ≤ 9223372036854775807 := by omega
            have hFq : F[i] = q := by rw [List.getElem?_eq_getElem hFi] at hq; exact Option.some.inj hq
            have hvq : vx[i] = v := by rw [List.getElem?_eq_getElem hi] at hv2; exact Option.some.inj hv2
            have a1 : 0 ≤ F[i] := by rw [hFq]; unfold T3 at ht3; omega
            have a2 : F[i] ≤ 2 := by rw [hFq]; unfold T3 at ht3; omega
            have a3 : F[i] = 0 → vx[i] = false := by
              intro h; rw [hFq] at h; rw [hvq]; rw [h] at hcv; cases v
              · rfl
              · simp [cov] at hcv
            have a4 : F[i] = 1 → vx[i] = true := by
              intro h; rw [hFq] at h; rw [hvq]; rw [h] at hcv; cases v
              · simp [cov] at hcv
              · rfl
            simp [hi, hFi]
            refine ⟨fun _ _ => ⟨⟨a1, a2⟩, fun h => ⟨⟨a1, a2⟩, h⟩⟩, fun _ _ _ => ⟨⟨⟨a1, a2⟩, a3⟩, fun h => ⟨⟨⟨a1, a2⟩, a3⟩, h⟩⟩, ⟨⟨⟨a1, a2⟩, a3⟩, a4⟩, fun _ _ _ _ => by omega⟩
          · rintro - -
            simp
            exact awake28_fn.s (by simp)
      · rw [hT]
        simp [hget, packA, encSt]
    · simp [hget, packA, encSt]

theorem lawAbstracts_row (c : Control) (s : State) (x : Int × Int) (hc : OkC c) (hs : OkSt s) (_ : True) : CallFn Tryz.prog 8 [aC c, aSt s, .record [.int .u8 x.1, .int .u8 x.2]] (aB true) := lawAbstracts_fn c s x.1 x.2 hc hs

end Go.Proofs.YtbhdiijibgdlnaaGreat
end
