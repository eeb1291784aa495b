/- Texts joined by a program: Bt, Bz, Bzc, Bza, Bzb, Bzd, Bze, Bzf. -/
import Derived.Test.YtakndgpdolfenaaGreatG8
import Derived.Test.YtakndgpdolfenaaGreatG6
import Derived.Test.YtakndgpdolfenaaGreatG2
import Derived.Test.YtakndgpdolfenaaGreatG4
set_option linter.unusedSimpArgs false
set_option linter.unusedVariables false

/- The laws of race: orders, ends, ways. -/
section
namespace Go.Proofs.YtakndgpdolfenaaGreat
set_option maxHeartbeats 4000000
set_option maxRecDepth 10000

end Go.Proofs.YtakndgpdolfenaaGreat
end

/- The laws of race: ends. -/
section
namespace Go.Proofs.YtakndgpdolfenaaGreat
set_option maxHeartbeats 8000000
set_option maxRecDepth 10000

theorem few_parts {c : Control} {s : State} (h : few29 c s = true) : (fewC c = true ∧ fewS s = true) ∧ MetSm c s := by
  unfold few29 at h
  simp only [Bool.and_eq_true, Bool.or_eq_true, decide_eq_true_eq] at h
  refine ⟨h.1, fun hr => ?_⟩
  have h2 : freeN c c.signals.length ≤ 5 := by
    rcases h.2 with h3 | h3
    · exact h3.1
    · exact absurd hr h3
  have h3 := nodes_le (calm_of hr) (3 ^ freeN c c.signals.length)
  have h4 : 3 ^ freeN c c.signals.length ≤ 3 ^ 5 := Nat.pow_le_pow_right (by decide) h2
  show (nodesAt c (gatesP c s) _).length ≤ _
  omega
theorem gatesP_okst {c : Control} {s : State} (hs : OkSt s) (hr : rightC c s = 0) : OkSt (gatesP c s) := by
  have hcalm := calm_of hr
  obtain ⟨t1, t2, t3⟩ := calm_txt hcalm
  have hsg := hcalm.fine.sig
  exact ⟨hs.ends, hs.valves, hs.inputs, by show (gatesP c s).values.length ≤ _; omega, hs.timers, hs.endsI, hs.timersI⟩
end Go.Proofs.YtakndgpdolfenaaGreat
end

/- The laws of race: steps. -/
section
namespace Go.Proofs.YtakndgpdolfenaaGreat
set_option maxHeartbeats 8000000
set_option maxRecDepth 10000

theorem few_free {c : Control} {s : State} (h : few29 c s = true) (hr : rightC c s = 0) : freeN c c.signals.length ≤ 5 := by
  unfold few29 at h
  simp only [Bool.and_eq_true, Bool.or_eq_true, decide_eq_true_eq] at h
  rcases h.2 with h3 | h3
  · exact h3.1
  · exact absurd hr h3
theorem met_243 {c : Control} {s : State} (h : freeN c c.signals.length ≤ 5) (hs : Calm c s) : (metL c s).length ≤ 243 := by
  have h3 := nodes_le hs (3 ^ freeN c c.signals.length)
  have h4 : 3 ^ freeN c c.signals.length ≤ 3 ^ 5 := Nat.pow_le_pow_right (by decide) h
  show (nodesAt c s _).length ≤ _
  omega
theorem met_free {c : Control} (h : freeN c c.signals.length ≤ 5) (s : State) : MetSm c s := fun hr => by
  have := met_243 h (calm_of hr)
  omega
theorem calm_sm {c : Control} {s : State} (h : Calm c s) : SmS s := sm_of h.fine h.shape
theorem rightL29_fn (c : Control) (s : State) (hc : OkC c) (hs : OkSt s) : CallFn Tryz.prog 42 [aC c, aSt s] (aB (few29 c s && decide (rightC c s = 0))) := by
  have h1 := few29_fn c s hc hs
  cases hfew : few29 c s with
  | false =>
    rw [hfew] at h1
    refine callFz_of Tryz.func42 rfl Tryz.ntmps42 (rs := [.tmp 4]) rfl (by kernel_rfl) (by simp) (by kernel_rfl) ?_
    simp
    refine h1.s ?_
    simp
    refine GCall.fn (aI 0) (fun h => h.elim) ?_
    simp
  | true =>
    rw [hfew] at h1
    obtain ⟨⟨hfc, hfs⟩, hmet⟩ := few_parts hfew
    have hsm := few_sm hfs
    have hpm := few_c hfc
    have h2 := RightR_fn c s hc hpm.1 hpm.2 hsm
    generalize rightC c s = e at *
    refine callFz_of Tryz.func42 rfl Tryz.ntmps42 (rs := [.tmp 4]) rfl (by kernel_rfl) (by simp) (by kernel_rfl) ?_
    simp
    refine h1.s ?_
    simp
    refine GCall.fn (aI e) (fun h => ⟨by first | trivial | exact h, h2⟩) ?_
    simp
    exact Bool.beq_eq_decide_eq e 0
end Go.Proofs.YtakndgpdolfenaaGreat
end

/- The laws of race: ways, moves. -/
section
namespace Go.Proofs.YtakndgpdolfenaaGreat
set_option maxHeartbeats 8000000
set_option maxRecDepth 10000

end Go.Proofs.YtakndgpdolfenaaGreat
end

/- The laws of race: moves. -/
section
namespace Go.Proofs.YtakndgpdolfenaaGreat
set_option maxHeartbeats 8000000
set_option maxRecDepth 10000

theorem moveR_ok {c : Control} {s : State} (hs : OkSt s) (line : Int) : OkSt (moveR c s line).1 := by
  have h0 : OkSt noSt := ⟨by decide, by decide, by decide, by decide, by decide, by decide, by decide⟩
  unfold moveR
  by_cases hr : rightC c s = 0
  · rw [if_neg (by simp [hr])]
    split
    · exact h0
    · rename_i hl
      split
      · have hcalm := calm_of hr
        have hk : (line - firstC c).toNat < c.signals.length := by
          have : ¬ (line < firstC c ∨ line ≥ firstC c + c.signals.length) := hl
          omega
        have h1 := move_calm hcalm hk
        obtain ⟨t1, t2, t3⟩ := calm_txt h1
        have hsg := h1.fine.sig
        refine ⟨hs.ends, hs.valves, hs.inputs, ?_, ?_, hs.endsI, ?_⟩
        · show (moveS c (gatesP c s) (line - firstC c).toNat).values.length ≤ _
          omega
        · show (moveS c (gatesP c s) (line - firstC c).toNat).timers.length ≤ _
          omega
        · intro n hn
          have := t3 n hn
          show _ ∧ _
          omega
      · exact h0
  · rw [if_pos hr]
    exact h0
end Go.Proofs.YtakndgpdolfenaaGreat
end

/- The laws of race: rests. -/
section
namespace Go.Proofs.YtakndgpdolfenaaGreat
set_option maxHeartbeats 8000000
set_option maxRecDepth 10000

/-- What is met is met by a way. -/
theorem way_to {c : Control} {s t : State} (hs : Calm c s) (ht : t ∈ (metL c s).map Nod.st) : ∃ k, wayK c s t = some k ∧ walkS c s (wayL (metL c s) k) = some t ∧ k < (metL c s).length := by
  obtain ⟨n, hn, rfl⟩ := List.mem_map.1 ht
  unfold wayK
  cases hk : (metL c s).findIdx? fun m => sameSt m.st n.st with
  | none =>
    rw [List.findIdx?_eq_none_iff] at hk
    have := hk n hn
    rw [sameSt_eq] at this
    simp at this
  | some k =>
    obtain ⟨hk1, hk2, _⟩ := List.findIdx?_eq_some_iff_getElem.1 hk
    rw [sameSt_eq, decide_eq_true_eq] at hk2
    refine ⟨k, rfl, ?_, hk1⟩
    rw [way_leads hs (k + 1) k _ (by omega) (List.getElem?_eq_getElem hk1), hk2]
theorem rests_each {c : Control} {s x : State} (hc : OkC c) (hs : OkSt s) (hr : rightC c s = 0) (hfree : freeN c c.signals.length ≤ 5) (hx : x ∈ endsS c (gatesP c s)) :
    Calm c x ∧ OkSt x ∧ CallFn Tryz.prog 44 [aC c, aSt x] (.tuple [aB true, aI 0]) ∧ CallFn Tryz.prog 19 [aC c, aSt x] (.tuple [.dat (.sl [encSt x]), aI 0]) ∧
      ∃ W, W.length ≤ 243 ∧ walkS c (gatesP c s) W = some x ∧ CallFn Tryz.prog 32 [aC c, aSt s, aSt x] (.tuple [aIs W, aI 0]) := by
  have hcalm := calm_of hr
  have hoG := gatesP_okst hs hr
  obtain ⟨hm, hw⟩ := mem_endsS.1 hx
  have hxc := (met_calm hcalm hm).1
  have hxo := met_okst hcalm hoG hm
  have hsm := sm_of (fine_of (right_zero hr).1) (right_zero hr).2.1
  have hxm := calm_sm hxc
  have c1 := Rests_fn c x hc hxm
  have c2 := Ends_fn c x hc hxm (met_free hfree x)
  have c3 := Way_fn c s x hc hs hsm hxo hxm (met_free hfree s)
  have e1 : restsR c x = (true, 0) := by
    unfold restsR
    rw [if_neg (by simp [hxc.right]), still_rest hxc hw]
    simp
  have e2 : endsR c x = ([x], 0) := by
    unfold endsR
    rw [if_neg (by simp [hxc.right]), hxc.gates, (still_ends hxc hw).2]
  obtain ⟨k, k1, k2, k3⟩ := way_to hcalm hm
  have hml := met_243 hfree hcalm
  have hwl : (wayL (metL c (gatesP c s)) k).length ≤ k + 1 := wayN_len _ _ _
  have e3 : wayR c s x = (wayL (metL c (gatesP c s)) k, 0) := by
    unfold wayR
    rw [if_neg (by simp [hr]), if_neg (by simp [hxc.right]), k1]
    rfl
  rw [e1] at c1
  rw [e2] at c2
  rw [e3] at c3
  exact ⟨hxc, hxo, c1, c2, _, by omega, k2, c3⟩
theorem compare_each {c : Control} {s : State} (hs : OkSt s) (hr : rightC c s = 0) {i : Nat} {x y : State} (hx : (endsS c (gatesP c s))[i + 1]? = some x) (hy : (endsS c (gatesP c s))[i]? = some y) : CallFn Tryz.prog 35 [aSt y, aSt x] (.tuple [aI (-1), aI 0]) := by
  have hcalm := calm_of hr
  have hoG := gatesP_okst hs hr
  have h1 := mem_endsS.1 (List.mem_of_getElem? hx)
  have h2 := mem_endsS.1 (List.mem_of_getElem? hy)
  have hxo := met_okst hcalm hoG h1.1
  have hyo := met_okst hcalm hoG h2.1
  have hxs := (met_calm hcalm h1.1).1.shape
  have hys := (met_calm hcalm h2.1).1.shape
  have hcf := Compare_fn y x hyo.values hyo.timers hxo.values hxo.timers
  have hlt : ordS y x < 0 := by
    obtain ⟨a1, a2⟩ := List.getElem?_eq_some_iff.1 hx
    obtain ⟨b1, b2⟩ := List.getElem?_eq_some_iff.1 hy
    have := List.pairwise_iff_getElem.1 (ends_sort hcalm) i (i + 1) b1 a1 (by omega)
    rwa [a2, b2] at this
  have he : cmpR29 y x = (-1, 0) := by
    unfold cmpR29
    rw [if_neg (by have := hxs.2.2.2; have := hys.2.2.2; omega)]
    rcases ordS_range y x with h | h | h
    · rw [h]
    · omega
    · omega
  rwa [he] at hcf
theorem move_each {c : Control} {t x : State} {k : Int} {l : List Int} (hc : OkC c) (hr : rightC c t = 0) (ho : OkSt t) (h : walkS c (gatesP c t) (k :: l) = some x) :
    ∃ u, Calm c u ∧ OkSt u ∧ walkS c (gatesP c u) l = some x ∧ CallFn Tryz.prog 39 [aC c, aSt t, aI k] (.tuple [aSt u, aI 0]) := by
  have hcalm := calm_of hr
  have hsm := sm_of (fine_of (right_zero hr).1) (right_zero hr).2.1
  rw [walkS] at h
  split at h
  · rename_i hk
    obtain ⟨k1, k2⟩ := hk
    obtain ⟨hi, hw⟩ := mem_wants.1 k1
    have hfc : 0 ≤ firstC c ∧ firstC c ≤ 100 := by
      have := hcalm.fine.act
      have := hcalm.fine.inp
      unfold firstC
      omega
    have hsl := hcalm.fine.sig
    have hu := move_calm hcalm hi
    have hm : moveR c t k = (moveS c (gatesP c t) (k - firstC c).toNat, 0) := by
      unfold moveR
      rw [if_neg (by simp [hr]), if_neg (by omega), if_pos hw]
    have hcm := Move_fn c t k hc hsm (by omega)
    have hmo := moveR_ok (c := c) ho k
    rw [hm] at hcm hmo
    exact ⟨_, hu, hmo, by rw [hu.gates]; exact h, hcm⟩
  · cases h
theorem RaceRests_fn (c : Control) (s : State) (hc : OkC c) (hs : OkSt s) : CallFn Tryz.prog 9 [aC c, aSt s] (aB true) := by
  have h1 := rightL29_fn c s hc hs
  by_cases hz : few29 c s = true ∧ rightC c s = 0
  · obtain ⟨hfew, hr⟩ := hz
    rw [show (few29 c s && decide (rightC c s = 0)) = true by simp [hfew, hr]] at h1
    obtain ⟨⟨hfc, hfs⟩, hmet⟩ := few_parts hfew
    have hfree := few_free hfew hr
    have hsm := few_sm hfs
    have hcalm := calm_of hr
    have c1 := Ends_fn c s hc hsm hmet
    have c2 := Endless_fn c s hc hsm hmet
    rw [show endsR c s = (endsS c (gatesP c s), 0) by unfold endsR; rw [if_neg (by simp [hr])]] at c1
    rw [show turnsR c s = (turnsP c (gatesP c s), 0) by unfold turnsR; rw [if_neg (by simp [hr])]] at c2
    have hE0 : endsS c (gatesP c s) = [] → turnsP c (gatesP c s) = true := no_end hcalm
    have hEl : (endsS c (gatesP c s)).length ≤ 243 := by
      have h1 := (ends_perm c (gatesP c s)).length_eq
      have h2 := endsAt_len c (gatesP c s) (metL c (gatesP c s)).length
      rw [endsAt_all] at h2
      have := met_243 hfree hcalm
      omega
    have each := fun x => rests_each (x := x) hc hs hr hfree
    have comp := fun i x y => compare_each (i := i) (x := x) (y := y) hs hr
    have hmv := fun t x k l => move_each (c := c) (t := t) (x := x) (k := k) (l := l) hc
    generalize hG : gatesP c s = G at *
    generalize endsS c G = E at *
    generalize turnsP c G = T at *
    refine callFz_of Tryz.func9 rfl Tryz.ntmps9 (rs := [.tmp 4]) rfl (by kernel_rfl) (by simp) (by kernel_rfl) ?_
    simp
    refine h1.s ?_
    simp
    refine c1.s ?_
    simp
    refine c2.s ?_
    simp
    refine ⟨⟨hE0, by omega⟩, fun _ _ => ?_⟩
    refine V.forI (σ := Unit) E.length [2, 3, 5, 59, 60] (by simp; exact rfl) (fun i _ => [(4, .dat (.bool false)), (61, aI i)]) (fun _ _ => []) (fun _ _ => True) () trivial (by simp) ⟨by simp; exact rfl, by simp⟩ ?_ ?_
    · rintro i - hi -
      obtain ⟨x, hx⟩ : ∃ x, E[i]? = some x := ⟨_, List.getElem?_eq_getElem hi⟩
      have hxi : E[i] = x := by rw [List.getElem?_eq_getElem hi] at hx; exact Option.some.inj hx
      obtain ⟨x1, x2, x3, x4, W, x5, x6, x7⟩ := each x (List.mem_of_getElem? hx)
      have x8 := SameStatesR_fn x x x2 x2
      rw [show sameSt x x = true by rw [sameSt_eq]; simp] at x8
      have hlt : i < 1000 := by omega
      by_cases h0 : 0 < i
      · obtain ⟨j, hj⟩ : ∃ j, i - 1 = j := ⟨_, rfl⟩
        obtain ⟨y, hy⟩ : ∃ y, E[j]? = some y := ⟨_, List.getElem?_eq_getElem (by omega)⟩
        have hj1 : j < E.length := by omega
        have hyi : E[j] = y := by rw [List.getElem?_eq_getElem hj1] at hy; exact Option.some.inj hy
        have hcmp := comp j x y (by rw [show j + 1 = i by omega]; exact hx) hy
        have hsub : (i : Int) - 1 = j := by omega
        simp [hi, hx, hxi, h0]
        intro b10
        refine V.drawX (fun t => if t = 75 then some (.fn (.tuple [aI (-1), aI 0])) else none) (by kernel_rfl) (by kernel_rfl) (by simp) ?_
        simp [hsub, hj1, hy, hyi]
        refine ⟨by omega, hcmp, ?_⟩
        refine x3.s ?_
        simp
        refine x4.s ?_
        simp
        refine x7.s ?_
        simp
        refine V.drawX (fun t => if t = 123 then some (.fn (aB true)) else none) (by kernel_rfl) (by kernel_rfl) (by simp) ?_
        simp
        refine ⟨x8, by omega, fun _ b19 => ?_⟩
        refine V.forI (σ := State) W.length [2, 3, 5, 9, 10, 11, 12, 13, 15, 16, 17, 18, 19, 59, 60, 61, 62, 63, 64, 65, 66, 67, 68, 69, 70, 71, 72, 73, 74, 75, 76, 77, 78, 79, 80, 81, 82, 83, 84, 85, 86, 87, 88, 89, 90, 91, 92, 93, 94, 95, 96, 97, 98, 99, 100, 101, 102, 103, 104, 105, 106, 107, 108, 109, 110, 111, 112, 113, 114, 115, 116, 117, 118, 119, 120, 121, 122, 123, 124, 125, 126, 127, 128, 129, 130, 131, 132, 133] (by simp; exact rfl) (fun j _ => [(4, .dat (.bool false)), (134, aI j)]) (fun _ t => [(10, .box b10 ((encSt x).map A.dat)), (19, .box b19 ((encSt t).map A.dat))]) (fun j t => rightC c t = 0 ∧ OkSt t ∧ walkS c (gatesP c t) (W.drop j) = some x ∧ (0 < j → Calm c t)) s ⟨hr, hs, by rw [hG, List.drop_zero]; exact x6, by omega⟩ (by simp) ⟨by simp; exact rfl, by simp⟩ ?_ ?_
        · rintro k t hk ⟨t1, t2, t3, -⟩
          obtain ⟨w, hw⟩ : ∃ w, W[k]? = some w := ⟨_, List.getElem?_eq_getElem hk⟩
          have hwk : W[k] = w := by rw [List.getElem?_eq_getElem hk] at hw; exact Option.some.inj hw
          rw [List.drop_eq_getElem_cons hk, hwk] at t3
          obtain ⟨u, u1, u2, u3, u4⟩ := hmv t x w _ t1 t2 t3
          simp [hk, hw, hwk]
          refine u4.s ?_
          simp
          exact ⟨by omega, u, ⟨u1.right, u2, u3, u1⟩, rfl, rfl, rfl, rfl, rfl⟩
        · rintro t ⟨t1, t2, t3, t4⟩
          rw [List.drop_length] at t3
          have hsame : 0 < W.length → CallFn Tryz.prog 41 [aSt t, aSt x] (aB true) := by
            intro h
            have hc := t4 h
            rw [walkS, hc.gates] at t3
            rw [Option.some.inj t3]
            exact x8
          simp
          refine GCall.fn (aB true) (fun h => ⟨by first | trivial | exact h, hsame (by first | exact h | omega)⟩) ?_
          simp
          omega
      · simp [hi, hx, hxi, h0]
        intro b10
        refine x3.s ?_
        simp
        refine x4.s ?_
        simp
        refine x7.s ?_
        simp
        refine V.drawX (fun t => if t = 123 then some (.fn (aB true)) else none) (by kernel_rfl) (by kernel_rfl) (by simp) ?_
        simp
        refine ⟨x8, by omega, fun _ b19 => ?_⟩
        refine V.forI (σ := State) W.length [2, 3, 5, 9, 10, 11, 12, 13, 15, 16, 17, 18, 19, 59, 60, 61, 62, 63, 64, 65, 66, 67, 68, 69, 70, 71, 72, 73, 74, 75, 76, 77, 78, 79, 80, 81, 82, 83, 84, 85, 86, 87, 88, 89, 90, 91, 92, 93, 94, 95, 96, 97, 98, 99, 100, 101, 102, 103, 104, 105, 106, 107, 108, 109, 110, 111, 112, 113, 114, 115, 116, 117, 118, 119, 120, 121, 122, 123, 124, 125, 126, 127, 128, 129, 130, 131, 132, 133] (by simp; exact rfl) (fun j _ => [(4, .dat (.bool false)), (134, aI j)]) (fun _ t => [(10, .box b10 ((encSt x).map A.dat)), (19, .box b19 ((encSt t).map A.dat))]) (fun j t => rightC c t = 0 ∧ OkSt t ∧ walkS c (gatesP c t) (W.drop j) = some x ∧ (0 < j → Calm c t)) s ⟨hr, hs, by rw [hG, List.drop_zero]; exact x6, by omega⟩ (by simp) ⟨by simp; exact rfl, by simp⟩ ?_ ?_
        · rintro k t hk ⟨t1, t2, t3, -⟩
          obtain ⟨w, hw⟩ : ∃ w, W[k]? = some w := ⟨_, List.getElem?_eq_getElem hk⟩
          have hwk : W[k] = w := by rw [List.getElem?_eq_getElem hk] at hw; exact Option.some.inj hw
          rw [List.drop_eq_getElem_cons hk, hwk] at t3
          obtain ⟨u, u1, u2, u3, u4⟩ := hmv t x w _ t1 t2 t3
          simp [hk, hw, hwk]
          refine u4.s ?_
          simp
          exact ⟨by omega, u, ⟨u1.right, u2, u3, u1⟩, rfl, rfl, rfl, rfl, rfl⟩
        · rintro t ⟨t1, t2, t3, t4⟩
          rw [List.drop_length] at t3
          have hsame : 0 < W.length → CallFn Tryz.prog 41 [aSt t, aSt x] (aB true) := by
            intro h
            have hc := t4 h
            rw [walkS, hc.gates] at t3
            rw [Option.some.inj t3]
            exact x8
          simp
          refine GCall.fn (aB true) (fun h => ⟨by first | trivial | exact h, hsame (by first | exact h | omega)⟩) ?_
          simp
          omega
    · rintro - -
      simp
      exact awake29_fn.s (by simp)
  · rw [show (few29 c s && decide (rightC c s = 0)) = false by simp only [Bool.and_eq_false_iff, decide_eq_false_iff_not]; exact Classical.or_iff_not_imp_left.2 fun h => fun h2 => hz ⟨by simpa using h, h2⟩] at h1
    refine callFz_of Tryz.func9 rfl Tryz.ntmps9 (rs := [.tmp 4]) rfl (by kernel_rfl) (by simp) (by kernel_rfl) ?_
    simp
    refine h1.s ?_
    simp
    refine awake29_fn.s ?_
    simp
end Go.Proofs.YtakndgpdolfenaaGreat
end

/- The laws of race: what Unknown knows. -/
section
namespace Go.Proofs.YtakndgpdolfenaaGreat
set_option maxHeartbeats 8000000
set_option maxRecDepth 10000

theorem Ds_nil3 {x : X} {a b : A} : ∀ {vs : List Value}, Ds x [a, b, .nils] vs → Ds x [a, b, aIs []] vs
  | [], h => by simp [Ds] at h
  | [_], h => by simp [Ds] at h
  | [_, _], h => by simp [Ds] at h
  | [_, _, v], h => by
    simp only [Ds] at h ⊢
    refine ⟨h.1, h.2.1, ?_, trivial⟩
    have := h.2.2.1
    simp only [D] at this
    simp only [D, RdL, this, List.map_nil]
    exact .inl ⟨trivial, trivial⟩
  | _ :: _ :: _ :: _ :: _, h => by simp [Ds] at h
theorem RaceAbstracts_fn (c : Control) (s : State) (hc : OkC c) (hs : OkSt s) : CallFn Tryz.prog 10 [aC c, aSt s] (aB true) := by
  have h1 := rightL29_fn c s hc hs
  by_cases hz : few29 c s = true ∧ rightC c s = 0
  · obtain ⟨hfew, hr⟩ := hz
    rw [show (few29 c s && decide (rightC c s = 0)) = true by simp [hfew, hr]] at h1
    obtain ⟨⟨hfc, hfs⟩, hmet⟩ := few_parts hfew
    have hfree := few_free hfew hr
    have hsm := few_sm hfs
    have hpm := few_c hfc
    have hcalm := calm_of hr
    have hoG := gatesP_okst hs hr
    have hf := hcalm.fine
    have c1 := Unknown_fn c s [] hc hsm (by simp)
    have c2 := Ends_fn c s hc hsm hmet
    have c3 := Rests_fn c s hc hsm
    have c4 := Safe_fn c s hc hsm hmet
    have c5 := lines_fn c hf.sm
    obtain ⟨f1, f2, f3, f4⟩ := unk_ends hr
    rw [f3] at c1
    rw [show endsR c s = (endsS c (gatesP c s), 0) by unfold endsR; rw [if_neg (by simp [hr])]] at c2
    rw [show restsR c s = (decide (roundS c s = s), 0) by unfold restsR; rw [if_neg (by simp [hr])]] at c3
    rw [show safeR29 c s = (safeP c (gatesP c s), 0) by unfold safeR29; rw [if_neg (by simp [hr])]] at c4
    have hrest : decide (roundS c s = s) = true → safeP c (gatesP c s) = true ∧ endsS c (gatesP c s) = [s] := by
      intro h
      exact rest_ends hr (of_decide_eq_true h)
    have hEok : ∀ x ∈ endsS c (gatesP c s), OkSt x ∧ Calm c x := fun x hx => ⟨met_okst hcalm hoG (mem_endsS.1 hx).1, (met_calm hcalm (mem_endsS.1 hx).1).1⟩
    have c6 := SameStatesR_fn s s hs hs
    rw [sameSt_eq] at c6
    rw [show decide (s = s) = true by simp] at c6
    have hElen : (endsS c (gatesP c s)).length ≤ 1000000 := by
      have h1 := (ends_perm c (gatesP c s)).length_eq
      have h2 := endsAt_len c (gatesP c s) (metL c (gatesP c s)).length
      rw [endsAt_all] at h2
      have := met_243 hfree hcalm
      omega
    have hcc : 0 ≤ countC c ∧ countC c ≤ 200 := by have := hf.act; have := hf.inp; have := hf.sig; unfold countC; omega
    generalize gatesP c s = G at *
    generalize finalP c (startU c s []) = F at *
    generalize endsS c G = E at *
    generalize safeP c G = S at *
    generalize decide (roundS c s = s) = q at *
    refine callFz_of Tryz.func10 rfl Tryz.ntmps10 (rs := [.tmp 4]) rfl (by kernel_rfl) (by simp) (by kernel_rfl) ?_
    simp
    refine h1.s ?_
    simp
    refine CallS.inv (H' := []) (az' := [aC c, aSt s, aIs []]) (fun _ _ h => h) (fun _ _ h => Ds_nil3 h) (c1.s ?_)
    simp
    refine c2.s ?_
    simp
    refine c3.s ?_
    simp
    refine c4.s ?_
    simp
    refine V.drawX (fun t => if t = 58 then some (.fn (aI (countC c))) else if t = 76 then some (.fn (aB true)) else none) (by kernel_rfl) (by kernel_rfl) (by simp) ?_
    cases q with
    | true =>
      obtain ⟨rfl, rfl⟩ := hrest rfl
      simp [f1]
      refine ⟨c5, c6, ?_⟩
      refine V.cut (Hs := []) [(2, .rptr (encC c)), (4, .dat (.bool false)), (5, aIs F), (81, .dat (.sl ([s].map encSt))), (82, .dat (.int .i64 [s].length)), (83, aI 0)] (by simp) (by simp) ?_
      generalize [s] = E at *
      simp
      refine V.forI (σ := Unit) E.length [2, 5, 81, 82] (by simp; exact rfl) (fun i _ => [(4, .dat (.bool false)), (83, aI i)]) (fun _ _ => []) (fun _ _ => True) () trivial (by simp) ⟨by simp; exact rfl, by simp⟩ ?_ ?_
      · rintro i - hi -
        obtain ⟨x, hx⟩ : ∃ x, E[i]? = some x := ⟨_, List.getElem?_eq_getElem hi⟩
        have hxi : E[i] = x := by rw [List.getElem?_eq_getElem hi] at hx; exact Option.some.inj hx
        obtain ⟨x1, x2⟩ := hEok x (List.mem_of_getElem? hx)
        have hcov := f4 x (List.mem_of_getElem? hx)
        have hxm := calm_sm x2
        have d5 := RightR_fn c x hc hpm.1 hpm.2 hxm
        rw [x2.right] at d5
        have d6 := ValuesR_fn c x hxm x2.shape.1.symm
        have hvl := valuesOf_length x2.shape
        simp [hi, hx, hxi]
        intro b14
        refine d5.s ?_
        simp
        refine d6.s ?_
        generalize valuesOf x = vx at *
        simp
        refine V.forI (σ := Unit) vx.length [2, 5, 14, 81, 82, 83, 84, 85, 86, 87, 88, 89, 90, 91, 92, 93, 94] (by simp; exact rfl) (fun i _ => [(4, .dat (.bool false)), (95, aI i)]) (fun _ _ => []) (fun _ _ => True) () trivial (by simp) ⟨by simp; exact rfl, by simp⟩ ?_ ?_
        · rintro j - hj -
          have hFi : j < F.length := by omega
          obtain ⟨v, hv2⟩ : ∃ v, vx[j]? = some v := ⟨_, List.getElem?_eq_getElem hj⟩
          obtain ⟨q, hq⟩ : ∃ q, F[j]? = some q := ⟨_, List.getElem?_eq_getElem hFi⟩
          have hcv := hcov j q v hq hv2
          have ht3 := f2 q (List.mem_of_getElem? hq)
          have hlt : (j : Int) + 1 ≤ 9223372036854775807 := by omega
          have hFq : F[j] = q := by rw [List.getElem?_eq_getElem hFi] at hq; exact Option.some.inj hq
          have hvq : vx[j] = v := by rw [List.getElem?_eq_getElem hj] at hv2; exact Option.some.inj hv2
          simp [hj, hFi, hq, hv2, hFq, hvq]
          have a3 : q = 0 → v = false := by
            intro h
            rw [h] at hcv
            cases v
            · rfl
            · simp [cov] at hcv
          have a4 : q = 1 → v = true := by
            intro h
            rw [h] at hcv
            cases v
            · simp [cov] at hcv
            · rfl
          exact ⟨fun h => ⟨h, fun h2 => ⟨h, h2⟩⟩, ⟨a3, a4⟩, fun _ _ => by omega⟩
        · rintro - -
          simp
          omega
      · rintro - -
        simp
        exact awake29_fn.s (by simp)
    | false =>
      simp [f1]
      refine ⟨c5, ?_⟩
      refine V.cut (Hs := []) [(2, .rptr (encC c)), (4, .dat (.bool false)), (5, aIs F), (81, .dat (.sl (E.map encSt))), (82, .dat (.int .i64 E.length)), (83, aI 0)] (by simp) (by simp) ?_
      simp
      refine V.forI (σ := Unit) E.length [2, 5, 81, 82] (by simp; exact rfl) (fun i _ => [(4, .dat (.bool false)), (83, aI i)]) (fun _ _ => []) (fun _ _ => True) () trivial (by simp) ⟨by simp; exact rfl, by simp⟩ ?_ ?_
      · rintro i - hi -
        obtain ⟨x, hx⟩ : ∃ x, E[i]? = some x := ⟨_, List.getElem?_eq_getElem hi⟩
        have hxi : E[i] = x := by rw [List.getElem?_eq_getElem hi] at hx; exact Option.some.inj hx
        obtain ⟨x1, x2⟩ := hEok x (List.mem_of_getElem? hx)
        have hcov := f4 x (List.mem_of_getElem? hx)
        have hxm := calm_sm x2
        have d5 := RightR_fn c x hc hpm.1 hpm.2 hxm
        rw [x2.right] at d5
        have d6 := ValuesR_fn c x hxm x2.shape.1.symm
        have hvl := valuesOf_length x2.shape
        simp [hi, hx, hxi]
        intro b14
        refine d5.s ?_
        simp
        refine d6.s ?_
        generalize valuesOf x = vx at *
        simp
        refine V.forI (σ := Unit) vx.length [2, 5, 14, 81, 82, 83, 84, 85, 86, 87, 88, 89, 90, 91, 92, 93, 94] (by simp; exact rfl) (fun i _ => [(4, .dat (.bool false)), (95, aI i)]) (fun _ _ => []) (fun _ _ => True) () trivial (by simp) ⟨by simp; exact rfl, by simp⟩ ?_ ?_
        · rintro j - hj -
          have hFi : j < F.length := by omega
          obtain ⟨v, hv2⟩ : ∃ v, vx[j]? = some v := ⟨_, List.getElem?_eq_getElem hj⟩
          obtain ⟨q, hq⟩ : ∃ q, F[j]? = some q := ⟨_, List.getElem?_eq_getElem hFi⟩
          have hcv := hcov j q v hq hv2
          have ht3 := f2 q (List.mem_of_getElem? hq)
          have hlt : (j : Int) + 1 ≤ 9223372036854775807 := by omega
          have hFq : F[j] = q := by rw [List.getElem?_eq_getElem hFi] at hq; exact Option.some.inj hq
          have hvq : vx[j] = v := by rw [List.getElem?_eq_getElem hj] at hv2; exact Option.some.inj hv2
          simp [hj, hFi, hq, hv2, hFq, hvq]
          have a3 : q = 0 → v = false := by
            intro h
            rw [h] at hcv
            cases v
            · rfl
            · simp [cov] at hcv
          have a4 : q = 1 → v = true := by
            intro h
            rw [h] at hcv
            cases v
            · simp [cov] at hcv
            · rfl
          exact ⟨fun h => ⟨h, fun h2 => ⟨h, h2⟩⟩, ⟨a3, a4⟩, fun _ _ => by omega⟩
        · rintro - -
          simp
          omega
      · rintro - -
        simp
        exact awake29_fn.s (by simp)
  · rw [show (few29 c s && decide (rightC c s = 0)) = false by simp only [Bool.and_eq_false_iff, decide_eq_false_iff_not]; exact Classical.or_iff_not_imp_left.2 fun h => fun h2 => hz ⟨by simpa using h, h2⟩] at h1
    refine callFz_of Tryz.func10 rfl Tryz.ntmps10 (rs := [.tmp 4]) rfl (by kernel_rfl) (by simp) (by kernel_rfl) ?_
    simp
    refine h1.s ?_
    simp
    refine awake29_fn.s ?_
    simp
end Go.Proofs.YtakndgpdolfenaaGreat
end

/- The law of the layers: what Unknown knows wholly. -/
section
namespace Go.Proofs.YtakndgpdolfenaaGreat
set_option maxHeartbeats 8000000
set_option maxRecDepth 10000

theorem tryLamp15_fn : CallFn Tryz.prog 13 [] (aB true) := by
  have h1 := Lamp_fn true false
  have h2 := Settle_fn lampC (lampS true false) lampC_ok (lampS_ok _ _)
  rw [lamp_s1] at h2
  have h3 := eqB_fn [true, false] [true, false] (by decide) (by decide)
  refine callFz_of Tryz.func13 rfl Tryz.ntmps13 (rs := [.tmp 0]) rfl (by kernel_rfl) (by simp) (by kernel_rfl) ?_
  simp
  refine h1.s ?_
  simp
  intro b0 b1
  refine h2.s ?_
  simp
  intro b2
  refine GCall.fn (aB true) (fun h => ⟨by first | trivial | exact h, h3⟩) ?_
  simp
theorem tryRight15_fn (c : Control) (s : State) (hc : OkC c) (hs : OkSt s) : CallFn Tryz.prog 11 [aC c, aSt s] (aB (rightB c s)) := by
  refine callFz_of Tryz.func11 rfl Tryz.ntmps11 (rs := [.tmp 4]) rfl (by kernel_rfl) (by simp) (by kernel_rfl) ?_
  simp
  refine (Few28_fn c s hc hs).s ?_
  simp
  refine GCall.fn (aI (rightC c s)) (fun h => ⟨by first | trivial | exact h, RightR_fn c s hc (few_c h.1).1 (few_c h.1).2 (few_sm h.2)⟩) ?_
  simp [rightB]
theorem TopSettleKnown_fn (c : Control) (s : State) (hc : OkC c) (hs : OkSt s) : CallFn Tryz.prog 3 [aC c, aSt s] (aB true) := by
  have g1 := tryRight15_fn c s hc hs
  have g2 := few29_fn c s hc hs
  have gl := tryLamp15_fn
  by_cases hz : rightB c s = true ∧ few29 c s = true
  · obtain ⟨hrb, hfew⟩ := hz
    rw [hrb] at g1
    rw [hfew] at g2
    simp only [rightB, Bool.and_eq_true, beq_iff_eq] at hrb
    have hr := hrb.2
    obtain ⟨⟨hfc, hfs⟩, hmet⟩ := few_parts hfew
    have hfree := few_free hfew hr
    have hsm := few_sm hfs
    have hpm := few_c hfc
    have hcalm := calm_of hr
    have hf := hcalm.fine
    have c1 := Unknown_fn c s [] hc hsm (by simp)
    have c2 := Wants29_fn c s hc hsm
    have c3 := Ends_fn c s hc hsm hmet
    have c4 := Safe_fn c s hc hsm hmet
    have c5 := lines_fn c hf.sm
    have c6 := signals_fn c hf.sm
    have c7 := Gates_fn c s hc hsm
    obtain ⟨f1, f2, f3, f4⟩ := unk_ends hr
    have hkn := fun h2 => known_safe (c := c) (s := s) hr h2
    rw [f3] at c1
    rw [show wantsR29 c s = (lineL c (gatesP c s), 0) by unfold wantsR29; rw [if_neg (by simp [hr])]] at c2
    rw [show endsR c s = (endsS c (gatesP c s), 0) by unfold endsR; rw [if_neg (by simp [hr])]] at c3
    rw [show safeR29 c s = (safeP c (gatesP c s), 0) by unfold safeR29; rw [if_neg (by simp [hr])]] at c4
    rw [show gatesR c s = (gatesP c s, 0) by unfold gatesR; rw [if_neg (by simp [hr])]] at c7
    have hWl : (lineL c (gatesP c s)).length ≤ 64 := by
      have hsg := hcalm.fine.sig
      unfold lineL wantsL
      rw [List.length_map]
      have := List.length_filter_le (wantAt c (gatesP c s)) (List.range c.signals.length)
      rw [List.length_range] at this
      omega
    have hWm : ∀ k ∈ lineL c (gatesP c s), ∃ i : Nat, i ∈ wantsL c (gatesP c s) ∧ k = firstC c + i ∧ i < c.signals.length := by
      intro k hk
      unfold lineL at hk
      obtain ⟨i, hi, rfl⟩ := List.mem_map.1 hk
      exact ⟨i, hi, rfl, (mem_wants.1 hi).1⟩
    have hcc : 0 ≤ countC c ∧ countC c ≤ 200 := by have := hf.act; have := hf.inp; have := hf.sig; unfold countC; omega
    have hfc0 : 0 ≤ firstC c ∧ firstC c ≤ 100 := by have := hf.act; have := hf.inp; unfold firstC; omega
    have hsl := hf.sig
    have hGv : (gatesP c s).values.length = c.signals.length := hcalm.shape.2.2.2.1
    generalize gatesP c s = G at *
    generalize lineL c G = W at *
    generalize endsS c G = E at *
    generalize safeP c G = S at *
    generalize finalP c (startU c s []) = F at *
    have c8 := containsI_fn F 2 (by unfold Sh; omega)
    refine callFz_of Tryz.func3 rfl Tryz.ntmps3 (rs := [.tmp 4]) rfl (by kernel_rfl) (by simp) (by kernel_rfl) ?_
    simp
    refine g1.s ?_
    simp
    refine GCall.fn (aB true) (fun h => ⟨by first | trivial | exact h, g2⟩) ?_
    simp
    refine CallS.inv (H' := []) (az' := [aC c, aSt s, aIs []]) (fun _ _ h => h) (fun _ _ h => Ds_nil3 h) (c1.s ?_)
    simp
    refine c2.s ?_
    simp
    refine GCall.fn (aI (countC c)) (fun h => ⟨by first | trivial | exact h, c5⟩) ?_
    simp [f1]
    refine c8.s ?_
    simp
    refine ⟨fun _ => gl.s (by simp), fun h2 => ?_⟩
    obtain ⟨k1, rfl, x, rfl, k2⟩ := hkn h2
    have c9 := eqB_fn G.values G.values (by unfold Sh; omega) (by unfold Sh; omega)
    rw [decide_eq_true rfl] at c9
    refine c7.s ?_
    simp
    intro b9
    refine c3.s ?_
    simp
    refine c4.s ?_
    simp
    refine V.forI (σ := Unit) W.length [2, 6, 8, 9, 10, 11, 12, 73, 74] (by simp; exact rfl) (fun i _ => [(4, .dat (.bool false)), (75, aI i)]) (fun _ _ => [(9, .box b9 ((encSt G).map A.dat))]) (fun _ _ => True) () trivial (by simp) ⟨by simp; exact rfl, by simp⟩ ?_ ?_
    · rintro i - hi -
      obtain ⟨k, hk⟩ : ∃ k, W[i]? = some k := ⟨_, List.getElem?_eq_getElem hi⟩
      have hki : W[i] = k := by rw [List.getElem?_eq_getElem hi] at hk; exact Option.some.inj hk
      obtain ⟨j, j1, rfl, j3⟩ := hWm k (List.mem_of_getElem? hk)
      have hkind := k1 j j1
      obtain ⟨y, hy⟩ : ∃ y, c.signals[j]? = some y := ⟨_, List.getElem?_eq_getElem j3⟩
      have hyj : c.signals[j] = y := by rw [List.getElem?_eq_getElem j3] at hy; exact Option.some.inj hy
      rw [kindAt_at hy] at hkind
      simp [hi, hk, hki]
      refine c6.s ?_
      have hsub : firstC c + (j : Int) - firstC c = j := by omega
      simp [hsub, j3, hy, hyj, hkind]
      omega
    · rintro - -
      simp
      refine V.drawX (fun t => if t = 123 then some (.fn (aB true)) else if t = 126 then some (.fn (aB true)) else none) (by kernel_rfl) (by kernel_rfl) (by simp) ?_
      simp [k2]
      exact ⟨c9, gl⟩
  · refine callFz_of Tryz.func3 rfl Tryz.ntmps3 (rs := [.tmp 4]) rfl (by kernel_rfl) (by simp) (by kernel_rfl) ?_
    simp
    refine g1.s ?_
    simp
    refine GCall.fn (aB (few29 c s)) (fun h => ⟨by first | trivial | exact h, g2⟩) ?_
    simp
    refine ⟨fun _ => gl.s (by simp), fun h1 h2 => absurd ⟨h1, h2⟩ hz⟩
end Go.Proofs.YtakndgpdolfenaaGreat
end
