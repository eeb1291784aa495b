/- Texts joined by a program: Yu, Zg, Yv, Yw, Hl, Yx, Yz, Li, Lj, Lk, Ln, Xa, Xb. -/
import Derived.ProofKit
import Derived.ReadAgain
import Derived.WalkKit
import Derived.OpenShut
import Derived.Deep.Frames
import Derived.ChangeMaps5
import Derived.Test.YtbcjnmifflflfaaGreatDoorW24
import Derived.Test.YtbcjnmifflflfaaGreatDoorW16
import Derived.Test.YtbcjnmifflflfaaGreatDoorW18
import Derived.Test.YtbcjnmifflflfaaGreatDoorW15
import Derived.Test.YtbcjnmifflflfaaGreatDoorW19
import Derived.Test.YtbcjnmifflflfaaGreatDoorW14
import Derived.Test.YtbcjnmifflflfaaGreatDoorW17
import Derived.Test.YtbcjnmifflflfaaGreatDoorW20
import Derived.Test.YtbcjnmifflflfaaGreatDoorW10
import Derived.Test.YtbcjnmifflflfaaGreatDoorW5
set_option linter.unusedSimpArgs false
set_option linter.unusedVariables false

section
namespace Go.Proofs.YtbcjnmifflflfaaGreatDoor
set_option maxHeartbeats 8000000
set_option maxRecDepth 10000
theorem far_is (b : Control) (v : Int) : farB b v = (decide (v ≠ noneV) && (decide (v < 0) || decide (countC b ≤ v))) := rfl
theorem verify_ok {a b : Control} {ks : List Int} (h1 : checkC a = 0) (h2 : checkC b = 0) (h3 : (ks.length : Int) = countC a) (h4 : ks.any (farB b) = false) : verifyQ a b ks = if frameB a b ks = false then 15 else if (List.range a.signals.length).all (fitB a b ks) = true then 0 else 15 := by
  unfold verifyQ provesB
  rw [if_neg (by rw [h1]; simp), if_neg (by rw [h2]; simp), if_neg (by rw [h3]; simp), if_neg (by rw [h4]; simp)]
  cases frameB a b ks <;> simp
theorem Verify_end {a b : Control} {ks : List Int} (oa : OkC a) (ob : OkC b) (h1 : checkC a = 0) (h2 : checkC b = 0) (hR : RelL a b ks) (h4 : ks.any (farB b) = false) :
    vcC ⟨Tryz.prog, none, 72⟩ (restC Tryz.f94 4) (hdE [(2, aIs ks), (3, .rptr (encC a)), (4, .rptr (encC b)), (6, aI 0)] []) [] (RetV Tryz.prog [.tmp 6] fun r' H' => (frz H' r').1 ∧ (frz H' r').2 = aI (verifyQ a b ks)) := by
  have ha := fine_of h1
  have hb := fine_of h2
  have pa := pil_of h1
  have pb := pil_of h2
  have c1 := framed_fn a b ks ha hb pa pb hR
  have hsg := ha.sig
  have h0 := ha.f0
  have hla := count_le0 ha
  have hca := count_first a
  rw [verify_ok h1 h2 hR.len h4]
  refine vc_rest rfl ?_
  simp
  refine c1.s ?_
  cases hfr : frameB a b ks
  · simp
  · simp
    refine V.forI (σ := Unit) (kv := [(2, aIs ks), (3, .rptr (encC a)), (4, .rptr (encC b)), (58, aI a.signals.length)]) a.signals.length [2, 3, 4, 58] (by simp) (fun i _ => [(59, aI i), (6, aI 0)]) (fun _ _ => []) (fun i _ => ∀ j, j < i → fitB a b ks j = true) () (by intro j hj; omega) (by simp) ⟨by simp; exact rfl, by simp⟩ ?_ ?_
    · rintro i - hi hI
      have c2 := does_fn a b ks i hi ha hb oa ob hR
      simp [hi]
      refine V.draw (fun s => if s = 66 then some (.fn (aI (firstC a))) else if s = 69 then some (.fn (aB (fitB a b ks i))) else none) (by kernel_rfl) (by kernel_rfl) (by simp) ?_
      simp
      refine ⟨firstQ_fn a ha.sm, by omega, c2, ?_⟩
      refine ⟨fun h => ⟨i, hi, h⟩, fun h => ⟨by omega, fun j hj => ?_⟩⟩
      rcases Nat.lt_or_ge j i with h3 | h3
      · exact hI j h3
      · obtain rfl : j = i := by omega
        exact h
    · rintro - hI
      simp
      exact hI
theorem Verify_fn (a b : Control) (ks : List Int) (oa : OkC a) (ob : OkC b) (hs : ks.length ≤ 1000000) : CallFn Tryz.prog 94 [aC a, aC b, aIs ks] (aI (verifyQ a b ks)) := by
  refine callFz_cut 4 Tryz.func94 rfl Tryz.ntmps94 (rs := [.tmp 6]) rfl (by kernel_rfl) (by simp) (by kernel_rfl) ?_
  simp
  refine V.forI (σ := Unit) (kv := [(2, aIs ks), (3, .rptr (encC a)), (4, .rptr (encC b)), (15, .dat (.sl [encC a, encC b])), (16, aI 2)]) 2 [2, 3, 4, 15, 16] (by simp) (fun i _ => [(17, aI i), (6, aI 0)]) (fun _ _ => []) (fun i _ => (0 < i → checkC a = 0) ∧ (1 < i → checkC b = 0)) () ⟨fun h => absurd h (by omega), fun h => absurd h (by omega)⟩ (by simp) ⟨by simp; exact rfl, by simp⟩ ?_ ?_
  · rintro i - hi ⟨k1, k2⟩
    obtain rfl | rfl : i = 0 ∨ i = 1 := by omega
    · simp
      intro b8
      refine (Check_fn a oa).s ?_
      simp
      by_cases hz : checkC a = 0
      · simp [hz]
      · have e : verifyQ a b ks = checkC a := by unfold verifyQ; rw [if_pos hz]
        simp [hz, e]
    · simp
      intro b8
      refine (Check_fn b ob).s ?_
      simp
      by_cases hz : checkC b = 0
      · simp [hz]
        exact k1 (by omega)
      · have e : verifyQ a b ks = checkC b := by unfold verifyQ; rw [if_neg (by rw [k1 (by omega)]; simp), if_pos hz]
        simp [hz, e]
  · rintro - ⟨k1, k2⟩
    have hza := k1 (by omega)
    have hzb := k2 (by omega)
    have ha := fine_of hza
    have hb := fine_of hzb
    have hla := count_le0 ha
    have hlb := count_le0 hb
    simp
    refine (linesQ_fn a ha.sm).s ?_
    by_cases hl : (ks.length : Int) = countC a
    · simp [hl]
      refine V.forI (σ := Unit) (kv := [(2, aIs ks), (3, .rptr (encC a)), (4, .rptr (encC b)), (32, aIs ks), (33, aI (countC a))]) ks.length [2, 3, 4, 32, 33] (by simp [hl]) (fun i _ => [(34, aI i), (6, aI 0)]) (fun _ _ => []) (fun i _ => ∀ j, j < i → ∀ v, ks[j]? = some v → farB b v = false) () (by intro j hj; omega) (by simp) ⟨by simp; exact rfl, by simp⟩ ?_ ?_
      · rintro i - hi hI
        obtain ⟨v, hv⟩ : ∃ v, ks[i]'hi = v := ⟨_, rfl⟩
        have hvo : ks[i]? = some v := by rw [List.getElem?_eq_getElem hi, hv]
        have hf := far_is b v
        have hlt : (i : Int) < countC a := by omega
        simp [hlt, hi, hv]
        refine GCall.fn (aI (countC b)) (fun h => ⟨by first | exact h | trivial, linesQ_fn b hb.sm⟩) ?_
        cases hfv : farB b v with
        | true =>
          have h4 : ks.any (farB b) = true := List.any_eq_true.2 ⟨v, List.mem_of_getElem? hvo, hfv⟩
          have e : verifyQ a b ks = 2 := by unfold verifyQ; rw [if_neg (by rw [hza]; simp), if_neg (by rw [hzb]; simp), if_neg (by rw [hl]; simp), if_pos h4]
          rw [hfv] at hf
          have h5 := hf.symm
          simp only [Bool.and_eq_true, Bool.or_eq_true, decide_eq_true_eq] at h5
          have hn : ¬ v = -1099511627776 := h5.1
          rw [e]
          rcases h5.2 with h6 | h6
          · simp [hn, h6]
          · by_cases h7 : v < 0
            · simp [hn, h7]
            · simp [hn, h7, h6]
              omega
        | false =>
          rw [hfv] at hf
          have hI2 : ∀ j, j < i + 1 → ∀ v, ks[j]? = some v → farB b v = false := by
            intro j hj w hw
            rcases Nat.lt_or_ge j i with h3 | h3
            · exact hI j h3 w hw
            · obtain rfl : j = i := by omega
              rw [hvo] at hw
              cases hw
              exact hfv
          by_cases hn : v = -1099511627776
          · simp [hn]
            exact ⟨by omega, hI2⟩
          · have h5 := hf.symm
            have hn' : v ≠ noneV := hn
            simp [hn'] at h5
            have h6 : ¬ v < 0 := by omega
            have h7 : ¬ countC b ≤ v := by omega
            simp [hn, h6, h7]
            exact ⟨by omega, by omega, hI2⟩
      · rintro - hI
        have h4 : ks.any (farB b) = false := by
          rw [List.any_eq_false]
          intro v hv
          obtain ⟨j, hj⟩ := List.getElem?_of_mem hv
          rw [hI j (List.getElem?_eq_some_iff.1 hj).1 v hj]
          simp
        have hR : RelL a b ks := ⟨hl, fun v hv => by simpa using (List.any_eq_false.1 h4) v hv⟩
        have hlt : ¬ (ks.length : Int) < countC a := by omega
        simp [hlt]
        exact V.cut [(2, aIs ks), (3, .rptr (encC a)), (4, .rptr (encC b)), (6, aI 0)] (by simp) (by simp) (vc_of_rest rfl (Verify_end oa ob hza hzb hR h4))
    · have e : verifyQ a b ks = 8 := by unfold verifyQ; rw [if_neg (by rw [hza]; simp), if_neg (by rw [hzb]; simp), if_pos hl]
      simp [hl, e]
end Go.Proofs.YtbcjnmifflflfaaGreatDoor
end

section
namespace Go.Proofs.YtbcjnmifflflfaaGreatDoor
set_option maxHeartbeats 2000000
set_option maxRecDepth 10000
end Go.Proofs.YtbcjnmifflflfaaGreatDoor
end

section
namespace Go.Proofs.YtbcjnmifflflfaaGreatDoor
set_option maxHeartbeats 4000000
set_option maxRecDepth 10000
end Go.Proofs.YtbcjnmifflflfaaGreatDoor
end

section
namespace Go.Proofs.YtbcjnmifflflfaaGreatDoor
set_option maxHeartbeats 4000000
set_option maxRecDepth 10000
theorem keep_i64 {c : Control} (hz : checkC c = 0) {k : Int} (hk : 0 ≤ k ∧ k < countC c) : I64 (keepL c k) := by
  have hf := fine_of hz
  have hp := pil_of hz
  have h1 := count_le hf
  have h2 := red_count_le hf hp
  rcases keep_range hf hp hk with h | h
  · rw [h]; decide
  · constructor <;> omega
theorem keepP_i64 {c : Control} (hz : checkC c = 0) : ∀ v ∈ keepP c, I64 v := by
  have hf := fine_of hz
  have hfc := hf.f0
  have hcn := count_first c
  intro v hv
  unfold keepP at hv
  obtain ⟨k, hk, rfl⟩ := List.mem_map.1 hv
  rw [List.mem_range] at hk
  exact keep_i64 hz (by omega)
theorem red_ok {c : Control} (hz : checkC c = 0) (hc : OkC c) : OkC (redC c) := by
  have hf := fine_of hz
  have hp := pil_of hz
  have hl := need_len hf hp
  have hs := hf.sig
  have hact := hf.act
  refine ⟨hc.actuators, hc.inputs, hc.names, ?_, ?_, ?_, ?_, ?_, ?_⟩
  · show ((needL c).map _).length ≤ _
    rw [List.length_map]
    omega
  · intro s hs
    obtain ⟨k, hk, rfl⟩ := List.mem_map.1 hs
    obtain ⟨n, x, -, hx, -, e, -⟩ := need_sig hf hp ((mem_need hf hp).1 hk)
    have ho := hc.sigs x (List.mem_of_getElem? hx)
    rw [e]
    exact ⟨ho.name, ho.kind, rep_ok (keepP_i64 hz) _ x.on (Nat.lt_succ_self _) ho.on, rep_ok (keepP_i64 hz) _ x.off (Nat.lt_succ_self _) ho.off, ho.delay⟩
  · show (c.plus.map _).length ≤ _
    rw [List.length_map]
    exact hc.plus
  · show (c.minus.map _).length ≤ _
    rw [List.length_map]
    exact hc.minus
  · intro v hv
    obtain ⟨k, hk, rfl⟩ := List.mem_map.1 hv
    exact keep_i64 hz (hp.2.2.1 k hk)
  · intro v hv
    obtain ⟨k, hk, rfl⟩ := List.mem_map.1 hv
    exact keep_i64 hz (hp.2.2.2 k hk)
end Go.Proofs.YtbcjnmifflflfaaGreatDoor
end

section
namespace Go.Proofs.YtbcjnmifflflfaaGreatDoor
set_option maxHeartbeats 8000000
set_option maxRecDepth 10000
def lnX (n : Int) : Expr := ⟨1, n, []⟩
def backC : Control := ⟨1, [[115, 116, 97, 114, 116]], [⟨[103, 111], 1, ⟨3, 0, [lnX 2, lnX 0]⟩, lnX 1, 0, false⟩, ⟨[98, 97, 99, 107], 0, ⟨2, 0, [lnX 3]⟩, ⟨0, 0, []⟩, 0, false⟩], [3], [4]⟩
theorem lnX_ok {n : Int} (h : inR .i64 n) : OkE (lnX n) := .mk _ (by simp [lnX]) (by simp [lnX]) h (by simp [lnX])
theorem backC_ok : OkC backC := ⟨by decide, by decide, by decide, by decide, by
  intro s hs
  simp only [backC, List.mem_cons, List.not_mem_nil, or_false] at hs
  rcases hs with rfl | rfl
  · exact ⟨by decide, by decide, .mk _ (by simp) (by simp) (by simp) (by
      intro a ha
      simp only [List.mem_cons, List.not_mem_nil, or_false] at ha
      rcases ha with rfl | rfl
      · exact lnX_ok (by simp)
      · exact lnX_ok (by simp)), lnX_ok (by simp), by decide⟩
  · exact ⟨by decide, by decide, .mk _ (by simp) (by simp) (by simp) (by
      intro a ha
      simp only [List.mem_cons, List.not_mem_nil, or_false] at ha
      rw [ha]
      exact lnX_ok (by simp)), .mk _ (by simp) (by simp) (by simp) (by simp), by decide⟩, by decide, by decide, by decide, by decide⟩
theorem backC_check : checkC backC = 0 := by decide +kernel
theorem backC_count : countM backC = 9 := by decide +kernel
theorem Back1_fn (n : Int) : CallFn Tryz.prog 106 [aI n] (aE (lnX n)) := by
  refine callFz_of Tryz.func106 rfl Tryz.ntmps106 (rs := [.cell 2 84]) rfl (by kernel_rfl) (by simp) (by kernel_rfl) ?_
  simp [lnX]
theorem Back_fn : CallFn Tryz.prog 51 [] (aC backC) := by
  have b0 := Back1_fn 0
  have b1 := Back1_fn 1
  have b2 := Back1_fn 2
  have b3 := Back1_fn 3
  refine callFz_of Tryz.func51 rfl Tryz.ntmps51 (rs := [.cell 0 26]) rfl (by kernel_rfl) (by simp) (by kernel_rfl) ?_
  simp
  intro c0
  refine b2.s ?_
  simp
  refine b0.s ?_
  simp
  refine b1.s ?_
  simp
  refine b3.s ?_
  simp [backC, lnX, encE]
theorem tryBack_fn : CallFn Tryz.prog 13 [] (aB true) := by
  have h1 := Back_fn
  have h2 := Count37_fn backC backC_ok
  rw [show countR backC = (9, 0) by unfold countR; rw [backC_check, backC_count]; rfl] at h2
  refine callFz_of Tryz.func13 rfl Tryz.ntmps13 (rs := [.tmp 0]) rfl (by kernel_rfl) (by simp) (by kernel_rfl) ?_
  simp
  refine h1.s ?_
  simp
  refine h2.s ?_
  simp
end Go.Proofs.YtbcjnmifflflfaaGreatDoor
end

section
namespace Go.Proofs.YtbcjnmifflflfaaGreatDoor
set_option maxHeartbeats 4000000
set_option maxRecDepth 10000
theorem mput_same {n : Int} : ∀ {ns : List Int}, n ∈ ns → mput (mapK ns) (.int .i64 n) (.bool true) = mapK ns
  | [], h => by cases h
  | m :: ns, h => by
    by_cases h1 : m = n
    · simp [mapK, mput, leq, h1]
    · have ih := mput_same (n := n) (ns := ns) (by simpa [Ne.symm (a := m) (b := n) h1, fun e : n = m => h1 e.symm] using h)
      simp only [mapK, List.map_cons, mput, leq] at ih ⊢
      simp [h1]
      simpa using ih
abbrev encRel (a b : Control) (ks : List Int) : List L := [.int .i64 a.actuators, .sl (a.inputs.map encT), .sl (a.signals.map encS), .sl (a.plus.map encI), .sl (a.minus.map encI),
  .int .i64 b.actuators, .sl (b.inputs.map encT), .sl (b.signals.map encS), .sl (b.plus.map encI), .sl (b.minus.map encI), .sl (ks.map encI)]
abbrev aRel (a b : Control) (ks : List Int) : A := .record (encRel a b ks)
abbrev crH (b4 b9 r : Nat) (u0 u1 u2 u3 u4 : Value) (s : State) (ns : List Int) (v : List Bool) (t : List Int) : Heap := [(51, .map r (.int .i64) (mapK ns)), (49, .seq u4 3 1 (t.map rI)), (47, .seq u3 4 1 (v.map rB)),
  (9, .box b9 [.own 39 u0, .own 42 u1, .own 45 u2, .own 47 u3, .own 49 u4]), (45, .seq u2 4 1 (s.inputs.map rB)), (42, .seq u1 4 1 (s.valves.map rB)), (39, .seq u0 3 1 (s.ends.map rI)), (4, .box b4 [A.nils, A.nils, A.nils, A.nils, A.nils])]
abbrev ckv (a b : Control) (ks : List Int) (s : State) (b4 b9 r : Nat) : List (Nat × A) := [(2, .rptr (encRel a b ks)), (3, .rptr (encSt s)), (4, .ptr 4 b4 0), (5, aI 0), (9, .ptr 9 b9 0), (10, .map 51 r)]
abbrev cgH (b4 b9 : Nat) (u0 u1 u2 u3 u4 : Value) (s : State) (v : List Bool) (t : List Int) : Heap := [(49, .seq u4 3 1 (t.map rI)), (47, .seq u3 4 1 (v.map rB)),
  (9, .box b9 [.own 39 u0, .own 42 u1, .own 45 u2, .own 47 u3, .own 49 u4]), (45, .seq u2 4 1 (s.inputs.map rB)), (42, .seq u1 4 1 (s.valves.map rB)), (39, .seq u0 3 1 (s.ends.map rI)), (4, .box b4 [A.nils, A.nils, A.nils, A.nils, A.nils])]
theorem carry_e {a b : Control} {ks : List Int} {s : State} {b4 b9 : Nat} {u0 u1 u2 u3 u4 : Value} {v kn : List Bool} {t : List Int} {g : State} (hg : CallFn Tryz.prog 32 [aC b, aSt (carrySt s (kn, v, t))] (.tuple [aSt g, aI 0])) :
    vcC ⟨Tryz.prog, none, 138⟩ (restC Tryz.f45 7) (hdE [(2, .rptr (encRel a b ks)), (4, .ptr 4 b4 0), (5, aI 0), (9, .ptr 9 b9 0)] []) (cgH b4 b9 u0 u1 u2 u3 u4 s v t)
      (RetV Tryz.prog [.cell 4 60, .tmp 5] fun r' H' => (frz H' r').1 ∧ (frz H' r').2 = A.tuple [aSt g, aI 0]) := by
  refine vc_rest rfl ?_
  simp
  refine hg.give (Hc := [(49, .seq u4 3 1 (t.map rI)), (47, .seq u3 4 1 (v.map rB)), (9, .box b9 [.own 39 u0, .own 42 u1, .own 45 u2, .own 47 u3, .own 49 u4]), (45, .seq u2 4 1 (s.inputs.map rB)), (42, .seq u1 4 1 (s.valves.map rB)), (39, .seq u0 3 1 (s.ends.map rI))]) (Hr := [(4, .box b4 [A.nils, A.nils, A.nils, A.nils, A.nils])]) rfl ?_ ?_
  · simp [hget, packA, encSt, carrySt, encC]
  · simp [encSt]
theorem carry_l {a b : Control} {ks : List Int} {s : State} {b4 b9 r : Nat} {u0 u1 u2 u3 u4 : Value} (ha : OkC a) (hb : OkC b) (hv : verifyQ a b ks = 0) (hr : rightC a s = 0) (hs : SmS s) :
    vcN ⟨Tryz.prog, none, 138⟩ 1 (restC Tryz.f45 6) (hdE (ckv a b ks s b4 b9 r) []) (crH b4 b9 r u0 u1 u2 u3 u4 s [] (List.replicate b.signals.length false) (List.replicate b.signals.length 0))
      (RetV Tryz.prog [.cell 4 60, .tmp 5] fun r' H' => (frz H' r').1 ∧ (frz H' r').2 = A.tuple [aSt (carryQ a b ks s).1, aI (carryQ a b ks s).2]) := by
  obtain ⟨h1, h2, h3, h4, h5⟩ := verify_zero hv
  have hf := fine_of h1
  have hfb := fine_of h2
  have hfs := hf.sig
  have hfs2 := hfb.sig
  have ha1 := hf.act
  have hb1 := hfb.act
  have h0 := hf.f0
  have hb0 := hfb.f0
  have hcn := count_first a
  have hcn2 := count_first b
  have hcl := count_le hf
  have hcb := count_le hfb
  refine vcN_rest rfl ?_
  simp
  refine V.forI (σ := List Int × CarT) (kv := [(2, .rptr (encRel a b ks)), (3, .rptr (encSt s)), (4, .ptr 4 b4 0), (9, .ptr 9 b9 0), (10, .map 51 r), (54, .dat (.sl (a.signals.map encS))), (55, aI a.signals.length)]) a.signals.length [2, 3, 4, 9, 10, 54, 55] (by simp) (fun i _ => [(5, aI 0), (56, aI i)])
    (fun i q => [(51, .map r (.int .i64) (mapK q.1)), (49, .seq u4 3 1 (q.2.2.2.map rI)), (47, .seq u3 4 1 (q.2.2.1.map rB))]) (fun i q => carryP a b ks s i = some q.2 ∧ CarOK b q.2 ∧ ∀ j : Nat, q.2.1.getD j false = true ↔ (j : Int) ∈ q.1)
    ([], (List.replicate b.signals.length false, List.replicate b.signals.length false, List.replicate b.signals.length 0)) ?_ (by simp) ⟨by simp; exact rfl, by simp⟩ ?_ ?_
  · obtain ⟨p, e, k⟩ := carry_zero a b ks s
    have e2 : carryP a b ks s 0 = some (List.replicate b.signals.length false, List.replicate b.signals.length false, List.replicate b.signals.length 0) := rfl
    refine ⟨rfl, ?_, ?_⟩
    · rw [e2] at e
      cases e
      exact k
    · intro j
      simp [List.getElem?_replicate]
      split <;> simp
  · rintro i ⟨ns, kn, v, t⟩ hi ⟨hI1, hI2, hI3⟩
    obtain ⟨x, hx⟩ : ∃ x, a.signals[i] = x := ⟨_, rfl⟩
    have hxo : a.signals[i]? = some x := by rw [List.getElem?_eq_getElem hi, hx]
    have hlt : (firstC a + i).toNat < ks.length := by omega
    obtain ⟨y, hy⟩ : ∃ y, ks[(firstC a + i).toNat] = y := ⟨_, rfl⟩
    have hyo : ks[(firstC a + i).toNat]? = some y := by rw [List.getElem?_eq_getElem hlt, hy]
    have hyd : ks.getD (firstC a + i).toNat 0 = y := by rw [List.getD_eq_getElem?_getD, hyo]; rfl
    have hstep := carry_step hv hr hxo hI2
    have hnext := carryP_succ hI1
    have hyr : y = noneV ∨ 0 ≤ y ∧ y < countC b := by
      have := List.any_eq_false.1 h4 y (List.mem_of_getElem? hyo)
      simp only [farB, Bool.and_eq_true, Bool.or_eq_true, decide_eq_true_eq, not_and, not_or] at this
      by_cases hn : y = noneV
      · exact .inl hn
      · have := this hn
        exact .inr (by omega)
    have hnv : noneV = -1099511627776 := rfl
    simp [hi, hx]
    intro b12
    refine V.drawX (fun t => if t = 65 then some (.fn (aI (firstC a))) else if t = 72 then some (.fn (aI (firstC b))) else none) (by kernel_rfl) (by kernel_rfl) (by simp) ?_
    simp [hyo, hy]
    refine ⟨firstQ_fn a hf.sm, by omega, by omega, firstQ_fn b hfb.sm, by omega, ?_⟩
    rcases hstep with ⟨hsk, hst⟩ | ⟨hk, j, t', v', hj, hyj, hv0, ht0, hst, hok⟩
    · refine ⟨fun _ => ⟨by omega, ns, kn, v, t, ⟨hnext.trans hst, hI2, by simpa using hI3⟩, rfl, rfl, rfl⟩, fun k1 k2 => ?_⟩
      rw [hyd] at hsk
      omega
    · rw [hyo] at hyj
      obtain rfl : y = firstC b + j := Option.some.inj hyj
      refine ⟨fun h => by omega, fun _ _ => ?_⟩
      rw [show firstC b + (j : Int) - firstC b = j by omega]
      have hjm : (j : Int) ∈ ns ↔ kn.getD j false = true := (hI3 j).symm
      have hl2 : v.length = b.signals.length := hI2.l2
      have hl3 : t.length = b.signals.length := hI2.l3
      obtain ⟨w, hw⟩ : ∃ w, v[j]'(by omega) = w := ⟨_, rfl⟩
      obtain ⟨q, hq⟩ : ∃ q, t[j]'(by omega) = q := ⟨_, rfl⟩
      have hwo : v[j]? = some w := by rw [List.getElem?_eq_getElem (by omega), hw]
      have hqo : t[j]? = some q := by rw [List.getElem?_eq_getElem (by omega), hq]
      have hil : i < s.values.length := (List.getElem?_eq_some_iff.1 hv0).1
      have hil2 : i < s.timers.length := (List.getElem?_eq_some_iff.1 ht0).1
      have hv1 : s.values[i] = v' := by rw [List.getElem?_eq_getElem hil] at hv0; exact Option.some.inj hv0
      have ht1 : s.timers[i] = t' := by rw [List.getElem?_eq_getElem hil2] at ht0; exact Option.some.inj ht0
      have hj1 : j < v.length := by omega
      have hj2 : j < t.length := by omega
      have hgd1 : v.getD j false = w := by rw [List.getD_eq_getElem?_getD, hwo]; rfl
      have hgd2 : t.getD j 0 = q := by rw [List.getD_eq_getElem?_getD, hqo]; rfl
      rw [hst] at hnext
      simp only [hgd1, hgd2] at hnext
      have hset1 : ∀ e : Bool, (List.map rB v).set j [A.dat (.bool e)] = List.map rB (v.set j e) := fun e => by rw [List.map_set]
      have hset2 : ∀ e : Int, (List.map rI t).set j [A.dat (.int .i64 e)] = List.map rI (t.set j e) := fun e => by rw [List.map_set]
      have hlk : kn.length = b.signals.length := hI2.l1
      have hkn : ∀ m : Nat, (kn.set j true).getD m false = true ↔ m = j ∨ (m : Int) ∈ ns := by
        intro m
        by_cases hm : j = m
        · subst hm
          rw [List.getD_eq_getElem?_getD, List.getElem?_set_self (by omega)]
          simp
        · rw [List.getD_eq_getElem?_getD, List.getElem?_set_ne hm, ← List.getD_eq_getElem?_getD, hI3 m]
          constructor
          · exact .inr
          · rintro (h | h)
            · exact absurd h.symm hm
            · exact h
      by_cases hin : (j : Int) ∈ ns
      · have hkj : kn.getD j false = true := hjm.1 hin
        rw [hkj] at hnext
        have hbad : ¬ w = v' ∨ ¬ q = t' → carryQ a b ks s = (noSt, 16) := by
          intro h
          have h2 : carryP a b ks s (i + 1) = none := by
            rw [hnext, if_pos]
            simpa [bne_iff_ne] using h
          rw [carryQ, if_neg (by simp [hv]), if_neg (by simp [hr]), carryP_none h2 _ (by omega)]
        refine V.drawX (fun _ => none) (by kernel_rfl) (by kernel_rfl) (by simp) ?_
        simp [mget_K, hin, hwo, hw, hqo, hq, hv0, hv1, ht0, ht1, rB, rI, encSt, hil, hil2, hj1, hj2]
        refine ⟨fun h => by rw [hbad h]; simp [noSt], fun hw2 hq2 => ?_⟩
        rw [hw2, hq2] at hnext
        refine V.drawX (fun _ => none) (by kernel_rfl) (by kernel_rfl) (by simp) ?_
        simp [mput_same hin, hv0, hv1, ht0, ht1, hil, hil2, hj1, hj2]
        refine ⟨by kernel_rfl, by omega, ns, kn.set j true, v.set j v', t.set j t', ⟨hnext.trans (if_neg (by simp)), hok, fun m => ?_⟩, rfl, hset2 t', hset1 v'⟩
        rw [← List.getD_eq_getElem?_getD, hkn m]
        exact ⟨fun h => h.elim (fun e => by rw [e]; exact hin) id, .inr⟩
      · refine V.drawX (fun _ => none) (by kernel_rfl) (by kernel_rfl) (by simp) ?_
        simp [mget_K, hin, hwo, hw, hqo, hq, hv0, hv1, ht0, ht1, rB, rI, encSt, hil, hil2, hj1, hj2]
        refine V.drawX (fun _ => none) (by kernel_rfl) (by kernel_rfl) (by simp) ?_
        simp [mput_K hin, hv0, hv1, ht0, ht1, hil, hil2, hj1, hj2]
        have hkj : kn.getD j false = false := by
          cases hc : kn.getD j false with
          | false => rfl
          | true => exact absurd (hjm.2 hc) hin
        rw [hkj] at hnext
        refine ⟨by kernel_rfl, by omega, ns ++ [(j : Int)], kn.set j true, v.set j v', t.set j t', ⟨hnext.trans (if_neg (by simp)), hok, fun m => ?_⟩, rfl, hset2 t', hset1 v'⟩
        rw [← List.getD_eq_getElem?_getD, hkn m, List.mem_append, List.mem_singleton]
        constructor
        · rintro (h | h)
          · exact .inr (by rw [h])
          · exact .inl h
        · rintro (h | h)
          · exact .inr h
          · exact .inl (by omega)
  · rintro ⟨ns, kn, v, t⟩ ⟨hI1, hI2, hI3⟩
    have hq : carryQ a b ks s = (gatesP b (carrySt s (kn, v, t)), 0) := by rw [carryQ, if_neg (by simp [hv]), if_neg (by simp [hr]), hI1]
    have hrr := carry_right hv hr hI2
    have hsm : SmS (carrySt s (kn, v, t)) := ⟨hs.ends, hs.valves, hs.inputs, by show v.length ≤ _; have := hI2.l2; simp only at this; omega, by show t.length ≤ _; have := hI2.l3; simp only at this; omega⟩
    have hg := Gates_fn b (carrySt s (kn, v, t)) hb hsm
    rw [show gatesR b (carrySt s (kn, v, t)) = (gatesP b (carrySt s (kn, v, t)), 0) by rw [gatesR, if_neg (by simp [hrr])]] at hg
    rw [hq]
    simp
    exact V.cut [(2, .rptr (encRel a b ks)), (4, .ptr 4 b4 0), (5, aI 0), (9, .ptr 9 b9 0)] (Hs := cgH b4 b9 u0 u1 u2 u3 u4 s v t) (by simp) (by simp) (vc_of_rest rfl (carry_e hg))
theorem carry_a {a b : Control} {ks : List Int} {s : State} {b4 : Nat} (hb : checkC b = 0) (hs : SmS s)
    (hl : ∀ b9 r u0 u1 u2 u3 u4, vcN ⟨Tryz.prog, none, 138⟩ 1 (restC Tryz.f45 6) (hdE (ckv a b ks s b4 b9 r) []) (crH b4 b9 r u0 u1 u2 u3 u4 s [] (List.replicate b.signals.length false) (List.replicate b.signals.length 0))
      (RetV Tryz.prog [.cell 4 60, .tmp 5] fun r' H' => (frz H' r').1 ∧ (frz H' r').2 = A.tuple [aSt (carryQ a b ks s).1, aI (carryQ a b ks s).2])) :
    vcN ⟨Tryz.prog, none, 138⟩ 2 (restC Tryz.f45 4) (hdE [(2, .rptr (encRel a b ks)), (3, .rptr (encSt s)), (4, .ptr 4 b4 0), (5, aI 0), (8, aI b.signals.length)] []) [(4, .box b4 [A.nils, A.nils, A.nils, A.nils, A.nils])]
      (RetV Tryz.prog [.cell 4 60, .tmp 5] fun r' H' => (frz H' r').1 ∧ (frz H' r').2 = A.tuple [aSt (carryQ a b ks s).1, aI (carryQ a b ks s).2]) := by
  obtain ⟨s1, s2, s3, s4, s5⟩ := hs
  have hsg := (fine_of hb).sig
  refine vcN_rest rfl ?_
  simp [encSt]
  refine V.drawX (fun t => if t = 39 then some (.own 3 1 (s.ends.map rI)) else if t = 42 then some (.own 4 1 (s.valves.map rB)) else if t = 45 then some (.own 4 1 (s.inputs.map rB)) else none) (by kernel_rfl) (by kernel_rfl) (by simp) ?_
  simp
  exact fun u0 => ⟨cloneI_o s.ends (by omega), fun u1 => ⟨cloneB_o s.valves (by omega), fun u2 => ⟨cloneB_o s.inputs (by omega), fun u3 => ⟨by omega, fun u4 => ⟨by omega, fun b9 => ⟨by kernel_rfl, fun r => V.cutN 1 (ckv a b ks s b4 b9 r) (Hs := crH b4 b9 r u0 u1 u2 u3 u4 s [] (List.replicate b.signals.length false) (List.replicate b.signals.length 0)) (by simp [encSt]) (by simp [mapK, rB, rI]) (vcN_of_rest rfl (hl b9 r u0 u1 u2 u3 u4))⟩⟩⟩⟩⟩⟩
theorem Carry_fn (a b : Control) (ks : List Int) (s : State) (ha : OkC a) (hb : OkC b) (hk : ks.length ≤ 1000000) (hs : SmS s) : CallFn Tryz.prog 45 [aRel a b ks, aSt s] (.tuple [aSt (carryQ a b ks s).1, aI (carryQ a b ks s).2]) := by
  refine callFz_cut 4 Tryz.func45 rfl Tryz.ntmps45 (rs := [.cell 4 60, .tmp 5]) rfl (by kernel_rfl) (by simp) (by kernel_rfl) ?_
  simp
  intro b4
  refine (Verify_fn a b ks ha hb hk).s ?_
  simp
  by_cases hv : verifyQ a b ks = 0
  · simp [hv]
    refine (Right_fn a s ha hs).s ?_
    simp
    by_cases hr : rightC a s = 0
    · simp [hr]
      exact V.cutN 2 [(2, .rptr (encRel a b ks)), (3, .rptr (encSt s)), (4, .ptr 4 b4 0), (5, aI 0), (8, aI b.signals.length)] (by simp) (by simp [encSt]) (vcN_of_rest rfl (carry_a (verify_zero hv).2.1 hs fun b9 r u0 u1 u2 u3 u4 => carry_l ha hb hv hr hs))
    · simp [hr, carryQ, hv, noSt, packA, encSt]
  · simp [hv, carryQ, noSt, packA, encSt]
end Go.Proofs.YtbcjnmifflflfaaGreatDoor
end

section
namespace Go.Proofs.YtbcjnmifflflfaaGreatDoor
set_option maxHeartbeats 4000000
set_option maxRecDepth 10000
end Go.Proofs.YtbcjnmifflflfaaGreatDoor
end

section
namespace Go.Proofs.YtbcjnmifflflfaaGreatDoor
variable {P : Program} {H : Type} {enc : TypeId × Value → H}
inductive Lf where
  | int (k : IntKind)
  | bool
  | str
  | sl (e : TypeId)
def leavesF (P : Program) (g : TypeId → Option (List Lf)) : List Field → Nat → Option (List Lf)
  | [], _ => some []
  | f :: fs, off => match g f.type with
    | some a => if f.offset = off ∧ P.cellsOf f.type = a.length then (leavesF P g fs (off + a.length)).map (a ++ ·) else none
    | none => none
def leavesT (P : Program) : Nat → TypeId → Option (List Lf)
  | 0, _ => none
  | n + 1, t => match P.underlying t with
    | some .bool => some [.bool]
    | some (.int k) => some [.int k]
    | some .string => some [.str]
    | some (.slice e) => some [.sl e]
    | some (.struct fs) => match leavesF P (leavesT P n) fs.toList 0 with
      | some a => if a.length = P.cellsOf t then some a else none
      | none => none
    | _ => none
def inT (T : List TypeId) : Lf → Bool
  | .sl e => T.contains e
  | _ => true
def goodT (P : Program) (K : Nat) (T : List TypeId) : Bool := T.all fun e => match leavesT P K e with
  | some a => a.all (inT T) && decide (a.length = P.cellsOf e) && decide (0 < a.length)
  | none => false
def All2 {α β : Type} (R : α → β → Prop) : List α → List β → Prop
  | [], [] => True
  | a :: r, b :: s => R a b ∧ All2 R r s
  | _, _ => False
theorem All2.append {α β : Type} {R : α → β → Prop} : ∀ {a : List α} {b : List β} {c : List α} {d : List β}, All2 R a b → All2 R c d → All2 R (a ++ c) (b ++ d)
  | [], [], _, _, _, h => h
  | _ :: _, _ :: _, _, _, h1, h2 => ⟨h1.1, All2.append h1.2 h2⟩
  | [], _ :: _, _, _, h, _ => h.elim
  | _ :: _, [], _, _, h, _ => h.elim
theorem All2.len {α β : Type} {R : α → β → Prop} : ∀ {a : List α} {b : List β}, All2 R a b → a.length = b.length
  | [], [], _ => rfl
  | _ :: _, _ :: _, h => by simp [All2.len h.2]
  | [], _ :: _, h => h.elim
  | _ :: _, [], h => h.elim
theorem All2.imp {α β : Type} {R R' : α → β → Prop} (hi : ∀ a b, R a b → R' a b) : ∀ {a : List α} {b : List β}, All2 R a b → All2 R' a b
  | [], [], _ => trivial
  | _ :: _, _ :: _, h => ⟨hi _ _ h.1, All2.imp hi h.2⟩
  | [], _ :: _, h => h.elim
  | _ :: _, [], h => h.elim
def OkV (P : Program) (K : Nat) : Nat → Lf → L → Prop
  | _, .int k, l => ∃ n, l = .int k n ∧ (Lit.int k n).wf = true
  | _, .bool, l => ∃ b, l = .bool b
  | _, .str, l => ∃ s, l = .str s ∧ s.length ≤ maxLen
  | 0, .sl _, _ => False
  | n + 1, .sl e, l => ∃ rows : List (List L), l = .sl rows ∧ rows.length ≤ maxLen ∧ ∀ r ∈ rows, ∃ lfs, leavesT P K e = some lfs ∧ All2 (OkV P K n) lfs r
theorem OkV.succ {K : Nat} : ∀ {n : Nat} {f : Lf} {l : L}, OkV P K n f l → OkV P K (n + 1) f l
  | 0, .sl _, _, h => by simp [OkV] at h
  | n + 1, .sl e, l, h => by
    simp only [OkV] at h
    obtain ⟨rows, e1, h1, h2⟩ := h
    simp only [OkV]
    refine ⟨rows, e1, h1, fun r hr => ?_⟩
    obtain ⟨lfs, h3, h4⟩ := h2 r hr
    exact ⟨lfs, h3, h4.imp fun a b => OkV.succ⟩
  | 0, .int _, _, h => by simpa [OkV] using h
  | 0, .bool, _, h => by simpa [OkV] using h
  | 0, .str, _, h => by simpa [OkV] using h
  | n + 1, .int _, _, h => by simpa [OkV] using h
  | n + 1, .bool, _, h => by simpa [OkV] using h
  | n + 1, .str, _, h => by simpa [OkV] using h
theorem RdLs.app {x : X} : ∀ {a : List L} {u : List Value} {b : List L} {v : List Value}, RdLs x a u → RdLs x b v → RdLs x (a ++ b) (u ++ v)
  | [], [], _, _, _, h => h
  | _ :: _, _ :: _, _, _, h1, h2 => by simp only [RdLs] at h1; simp only [List.cons_append, RdLs]; exact ⟨h1.1, RdLs.app h1.2 h2⟩
  | [], _ :: _, _, _, h, _ => by simp [RdLs] at h
  | _ :: _, [], _, _, h, _ => by simp [RdLs] at h
def X0 (W : World) : X := ⟨W, fun b => b < W.heap.size⟩
theorem mapM_get {α β : Type} {f : α → Option β} : ∀ {l : List α} {r : List β}, l.mapM f = some r → r.length = l.length ∧ ∀ (i : Nat) (x : α), l[i]? = some x → f x = r[i]?
  | [], r, h => by
    simp only [List.mapM_nil, Option.pure_def, Option.some.injEq] at h
    subst h
    simp
  | a :: l, r, h => by
    rw [List.mapM_cons] at h
    simp only [Option.bind_eq_bind, Option.bind_eq_some_iff, Option.pure_def, Option.some.injEq] at h
    obtain ⟨b, h1, r', h2, rfl⟩ := h
    obtain ⟨k1, k2⟩ := mapM_get h2
    refine ⟨by simp [k1], fun i x hx => ?_⟩
    cases i with
    | zero => simp only [List.getElem?_cons_zero, Option.some.injEq] at hx ⊢; subst hx; exact h1
    | succ i => simpa using k2 i x (by simpa using hx)
theorem cells_get {W : World} {a : Addr} {n : Nat} {cs : List Value} (h : W.cells? 0 a n = some cs) : cs.length = n ∧ ∀ j, j < n → W.cell? (a.add j) = cs[j]? := by
  simp only [World.cells?, Nat.zero_le, if_true] at h
  obtain ⟨h1, h2⟩ := mapM_get h
  exact ⟨by simpa using h1, fun j hj => h2 j j (by simp [hj])⟩
theorem cell_spot {W : World} {a : Addr} {v : Value} (h : W.cell? a = some v) : a.spot = none ∧ a.block < W.heap.size := by
  unfold World.cell? at h
  split at h
  · rename_i c _ _ hb
    refine ⟨?_, (Array.getElem?_eq_some_iff.1 hb).1⟩
    split at h
    · cases h
    · rename_i hs; simpa using hs
  · cases h
theorem list_of {α : Type} {p : Nat → α → Prop} : ∀ (n : Nat), (∀ i, i < n → ∃ a, p i a) → ∃ l : List α, l.length = n ∧ ∀ (i : Nat) (a : α), l[i]? = some a → p i a
  | 0, _ => ⟨[], rfl, by simp⟩
  | n + 1, h => by
    obtain ⟨l, h1, h2⟩ := list_of n fun i hi => h i (by omega)
    obtain ⟨a, ha⟩ := h n (by omega)
    refine ⟨l ++ [a], by simp [h1], fun i b hb => ?_⟩
    rcases Nat.lt_trichotomy i n with hi | hi | hi
    · exact h2 i b (by rwa [List.getElem?_append_left (by omega)] at hb)
    · subst hi
      rw [List.getElem?_append_right (by omega)] at hb
      simp [h1] at hb
      subst hb; exact ha
    · rw [List.getElem?_eq_none (by simp [h1]; omega)] at hb
      cases hb
theorem rdRows_at {x : X} {b : Nat} (sz : Nat) : ∀ (rows : List (List L)) (off : Nat), (∀ i r, rows[i]? = some r → r.length = sz ∧ RdCells x r b (off + i * sz)) → RdRows x rows b off
  | [], _, _ => by simp [RdRows]
  | r :: rs, off, h => by
    obtain ⟨h1, h2⟩ := h 0 r (by simp)
    simp only [RdRows]
    refine ⟨by simpa using h2, rdRows_at sz rs (off + r.length) fun i q hq => ?_⟩
    obtain ⟨h3, h4⟩ := h (i + 1) q (by simpa using hq)
    refine ⟨h3, ?_⟩
    rw [h1, show off + sz + i * sz = off + (i + 1) * sz by rw [Nat.add_mul]; omega]
    exact h4
theorem read_fields {W : World} {K n : Nat} {T : List TypeId} {k : Nat} (ih : ∀ t cs x, DataW.trod enc P W 0 (fun _ => true) true n t cs = some x → ∀ lfs, leavesT P k t = some lfs → lfs.all (inT T) = true → ∃ ls, RdLs (X0 W) ls cs ∧ All2 (OkV P K n) lfs ls) (cs : List Value) :
    ∀ (fs : List Field) (off : Nat) (xs : List (DataW H × List MemPlace)), (fs.mapM fun f => DataW.trod enc P W 0 (fun _ => true) true n f.type ((cs.drop f.offset).take (P.cellsOf f.type))) = some xs →
      ∀ lfs, leavesF P (leavesT P k) fs off = some lfs → lfs.all (inT T) = true → ∃ ls, RdLs (X0 W) ls ((cs.drop off).take lfs.length) ∧ All2 (OkV P K n) lfs ls
  | [], off, xs, h, lfs, hl, _ => by
    simp only [leavesF, Option.some.injEq] at hl
    subst hl
    exact ⟨[], by simp [RdLs], trivial⟩
  | f :: fs, off, xs, h, lfs, hl, hT => by
    simp only [leavesF] at hl
    split at hl <;> try (simp at hl; done)
    rename_i a ha
    split at hl <;> try (simp at hl; done)
    rename_i ho
    simp only [Option.map_eq_some_iff] at hl
    obtain ⟨b, hb, rfl⟩ := hl
    rw [List.mapM_cons] at h
    simp only [Option.bind_eq_bind, Option.bind_eq_some_iff, Option.pure_def, Option.some.injEq] at h
    obtain ⟨x, h1, xs', h2, _⟩ := h
    rw [List.all_append, Bool.and_eq_true] at hT
    obtain ⟨ls1, r1, o1⟩ := ih _ _ _ h1 a ha hT.1
    obtain ⟨ls2, r2, o2⟩ := read_fields ih cs fs (off + a.length) xs' h2 b hb hT.2
    rw [ho.1, ho.2] at r1
    refine ⟨ls1 ++ ls2, ?_, o1.append o2⟩
    have : (cs.drop off).take (a ++ b).length = (cs.drop off).take a.length ++ (cs.drop (off + a.length)).take b.length := by
      rw [List.length_append, List.take_add, List.drop_drop]
    rw [this]
    exact r1.app r2
theorem read_ok {W : World} {K : Nat} {T : List TypeId} (hT : goodT P K T = true) : ∀ (n : Nat) (t : TypeId) (cs : List Value) (x : DataW H × List MemPlace), DataW.trod enc P W 0 (fun _ => true) true n t cs = some x →
    ∀ (k : Nat) (lfs : List Lf), leavesT P k t = some lfs → lfs.all (inT T) = true → ∃ ls, RdLs (X0 W) ls cs ∧ All2 (OkV P K n) lfs ls
  | 0, t, cs, x, h, _, _, _, _ => by simp [DataW.trod] at h
  | n + 1, t, cs, x, h, 0, lfs, hl, _ => by simp [leavesT] at hl
  | n + 1, t, cs, x, h, k + 1, lfs, hl, hin => by
    have ih := read_ok (W := W) hT n
    have h0 := h
    simp only [leavesT] at hl
    split at hl <;> try (simp at hl; done)
    · rename_i hu
      simp only [Option.some.injEq] at hl; subst hl
      obtain ⟨b, rfl, _⟩ := DataW.trod_bool hu h
      exact ⟨[.bool b], by simp [RdLs, RdL], by simp [All2, OkV]⟩
    · rename_i q hu
      simp only [Option.some.injEq] at hl; subst hl
      obtain ⟨m, rfl, _, hw⟩ := DataW.trod_int hu h
      exact ⟨[.int q m], by simp [RdLs, RdL], by simp [All2, OkV, hw]⟩
    · rename_i hu
      simp only [Option.some.injEq] at hl; subst hl
      obtain ⟨b, rfl, _, hw⟩ := DataW.trod_string hu h
      refine ⟨[.str b.data.toList], by simp only [RdLs, RdL, and_true], ?_⟩
      simp only [All2, OkV, and_true]
      exact ⟨_, rfl, by rw [Array.length_toList]; exact hw⟩
    · rename_i e hu
      simp only [Option.some.injEq] at hl; subst hl
      have he : T.contains e = true := by simpa [inT] using hin
      have hg := List.all_eq_true.1 hT e (by simpa using he)
      split at hg <;> try (cases hg; done)
      rename_i lfe hle
      simp only [Bool.and_eq_true, decide_eq_true_eq] at hg
      obtain ⟨⟨g1, g2⟩, g3⟩ := hg
      rcases DataW.trod_slice hu h0 with ⟨rfl, _⟩ | ⟨a, len, cap, elems, rest, n', hn, rfl, _, _, hlc, hcm, hel, hrd, hsp, _⟩
      · exact ⟨[.sl []], by simp [RdLs, RdL], by simp [All2, OkV]⟩
      · obtain rfl : n = n' := by omega
        have hidx : ∀ m, (W.cells? 0 (a.add (m * P.cellsOf e)) (P.cellsOf e)).bind (DataW.trod enc P W 0 (fun _ => true) true n e) = none ∨ ∃ c y, W.cells? 0 (a.add (m * P.cellsOf e)) (P.cellsOf e) = some c ∧ DataW.trod enc P W 0 (fun _ => true) true n e c = some y := by
          intro m
          cases hm : (W.cells? 0 (a.add (m * P.cellsOf e)) (P.cellsOf e)).bind (DataW.trod enc P W 0 (fun _ => true) true n e) with
          | none => exact .inl rfl
          | some y =>
            obtain ⟨c, h2, h3⟩ := Option.bind_eq_some_iff.1 hm
            exact .inr ⟨c, y, h2, h3⟩
        by_cases hcap : cap = 0
        · subst hcap
          obtain rfl : len = 0 := by omega
          refine ⟨[.sl []], ?_, by simp [All2, OkV]⟩
          simp only [RdLs, RdL]
          exact ⟨.inr (.inr ⟨a, by simp⟩), trivial⟩
        · have hspot : a.spot = none := by
            have h0 : ∃ c y, W.cells? 0 (a.add (0 * P.cellsOf e)) (P.cellsOf e) = some c ∧ DataW.trod enc P W 0 (fun _ => true) true n e c = some y := by
              rcases hidx 0 with h1 | h1
              · exfalso
                by_cases hl0 : len = 0
                · have h2 := (hsp rfl).2 0 (by omega)
                  rw [hl0, Nat.zero_add] at h2
                  rw [h1] at h2
                  have h3 := (hsp rfl).1
                  rw [List.getElem?_eq_getElem (by omega)] at h2
                  cases h2
                · have h2 := hrd 0 (by omega)
                  rw [h1, List.getElem?_eq_getElem (by omega)] at h2
                  cases h2
              · exact h1
            obtain ⟨c, y, h2, h3⟩ := h0
            obtain ⟨c1, c2⟩ := cells_get h2
            have h00 := c2 0 (by omega)
            rw [List.getElem?_eq_getElem (by omega), Nat.zero_mul] at h00
            exact (cell_spot h00).1
          obtain ⟨b, off, sp⟩ := a
          simp only at hspot
          subst hspot
          have hcell : ∀ i, i < len → ∃ ls : List L, ls.length = P.cellsOf e ∧ RdCells (X0 W) ls b (off + i * P.cellsOf e) ∧ All2 (OkV P K n) lfe ls := by
            intro i hi
            have h1 := hrd i hi
            rw [List.getElem?_eq_getElem (by omega)] at h1
            obtain ⟨c, h2, h3⟩ := Option.bind_eq_some_iff.1 h1
            obtain ⟨c1, c2⟩ := cells_get h2
            obtain ⟨ls, r1, r2⟩ := ih e c _ h3 K lfe hle g1
            have hlen : ls.length = P.cellsOf e := by rw [← r2.len, g2]
            have h00 := c2 0 (by omega)
            rw [List.getElem?_eq_getElem (by omega), add_none, add_none] at h00
            have hs := cell_spot h00
            refine ⟨ls, hlen, rdCells_vals (x := X0 W) hs.2 ls c _ r1 fun j v hv => ?_, r2⟩
            have := c2 j (by rw [← c1]; exact (List.getElem?_eq_some_iff.1 hv).1)
            rw [hv, add_none, add_none] at this
            exact this
          obtain ⟨rows, hr1, hr2⟩ := list_of len hcell
          refine ⟨[.sl rows], ?_, ?_, trivial⟩
          · simp only [RdLs, RdL]
            refine ⟨.inr (.inl ⟨b, off, cap, by rw [hr1], by omega, rdRows_at (P.cellsOf e) rows off fun i r hr => ⟨(hr2 i r hr).1, (hr2 i r hr).2.1⟩⟩), trivial⟩
          · simp only [OkV]
            refine ⟨rows, rfl, by omega, fun r hr => ?_⟩
            obtain ⟨i, hi, rfl⟩ := List.getElem_of_mem hr
            exact ⟨lfe, hle, (hr2 i _ (List.getElem?_eq_getElem hi)).2.2⟩
    · rename_i fs hu
      split at hl <;> try (simp at hl; done)
      rename_i a ha
      split at hl <;> try (simp at hl; done)
      rename_i hal
      simp only [Option.some.injEq] at hl; subst hl
      unfold DataW.trod at h; rw [hu] at h
      simp only at h
      split at h <;> try (simp at h; done)
      rename_i hc
      obtain ⟨xs, h1, _⟩ := Option.map_eq_some_iff.1 h
      obtain ⟨ls, r1, r2⟩ := read_fields (fun t cs x h lfs hl hin => ih t cs x h k lfs hl hin) cs fs.toList 0 xs h1 a ha hin
      refine ⟨ls, ?_, r2.imp fun _ _ => OkV.succ⟩
      rw [hal, ← hc] at r1
      simpa using r1
termination_by n => n
theorem read_arg {W : World} {K : Nat} {T : List TypeId} (hT : goodT P K T = true) {base : Nat} {t : TypeId} {v : Value} {d : DataW H} {ps : List MemPlace} {fs : Array Field} (hu : P.underlying t = some (.struct fs)) {lfs : List Lf}
    (hl : leavesT P K t = some lfs) (hin : lfs.all (inT T) = true) (hval : Value.okWide P W .any base t v) (hd : DataW.Trod enc P W 0 (fun _ => true) true t v d ps) : ∃ ls n, D (X0 W) (.record ls) v ∧ All2 (OkV P K n) lfs ls := by
  obtain ⟨n, hn⟩ := hd
  obtain ⟨ls, h1, h2⟩ := read_ok hT n t _ _ hn K lfs hl hin
  unfold Value.okWide at hval
  rw [hu] at hval
  obtain ⟨cs, rfl, _, _⟩ := hval
  exact ⟨ls, n, by simp only [D]; exact ⟨cs, rfl, by simpa [Value.cells] using h1⟩, h2⟩
theorem lift_list {α : Type} {enc : α → List L} {Ok : α → Prop} : ∀ {rows : List (List L)}, (∀ r ∈ rows, ∃ a, r = enc a ∧ Ok a) → ∃ l : List α, rows = l.map enc ∧ ∀ a ∈ l, Ok a
  | [], _ => ⟨[], rfl, by simp⟩
  | r :: rs, h => by
    obtain ⟨a, rfl, ha⟩ := h r (by simp)
    obtain ⟨l, rfl, hl⟩ := lift_list (rows := rs) fun q hq => h q (by simp [hq])
    refine ⟨a :: l, rfl, fun b hb => ?_⟩
    rcases List.mem_cons.1 hb with rfl | hb
    · exact ha
    · exact hl b hb
theorem wf_i64 {n : Int} (h : (Lit.int .i64 n).wf = true) : -9223372036854775808 ≤ n ∧ n ≤ 9223372036854775807 := by
  simp only [Lit.wf, Bool.and_eq_true, decide_eq_true_eq] at h
  exact h
end Go.Proofs.YtbcjnmifflflfaaGreatDoor
end

section
namespace Go.Proofs.YtbcjnmifflflfaaGreatDoor
open Go.ChangeShapes Go.WideShapes Go.ChangeAt Go.RowKit
variable {P : Program} {H : Type} {enc : TypeId × Value → H}
theorem X0_inv {W : World} (ht : Tabs (X0 W)) : Inv (X0 W) [] := ⟨⟨fun _ h => h, ht⟩, by simp, by simp, by simp⟩
theorem kept_le {W : World} {y : X} (h : (X0 W).le y) : W.keptBut y.w (fun _ => False) := by
  refine ⟨h.os, h.output, fun i hi => ?_⟩
  rw [show y.w.heap[i]? = W.heap[i]? from (h.keep i hi).2]
  cases W.heap[i]? with
  | none => rfl
  | some o => cases o <;> simp
theorem sameAt_le {W : World} {y : X} (h : (X0 W).le y) {p : MemPlace} (hb : p.block < W.heap.size) : W.sameAt y.w p := by
  cases p with
  | cell b o => exact h.cell hb
  | map b => exact (h.keep b hb).2
theorem frozen_le {W : World} {y : X} (h : (X0 W).le y) {a : Addr} (hb : a.block < W.heap.size) : y.w.frozen? a = W.frozen? a := by
  unfold World.frozen?
  rw [show y.w.heap[a.block]? = W.heap[a.block]? from (h.keep a.block hb).2]
theorem trodAll_carry {w w' : World} {base : Nat} {sp : Nat → Bool} {hd : Bool} : ∀ {ts : List TypeId} {vs : List Value} {ds : List (DataW H)} {ps : List MemPlace},
    DataW.TrodAll enc P w base sp hd ts vs ds ps → (∀ p ∈ ps, w.sameAt w' p) → DataW.TrodAll enc P w' base sp hd ts vs ds ps
  | [], [], [], _, h, _ => h
  | _ :: _, _ :: _, _ :: _, _, ⟨p, q, ⟨n, h1⟩, h2, e⟩, hs => ⟨p, q, ⟨n, DataW.trod_carry _ _ _ _ h1 fun x hx => hs x (by rw [e]; exact List.mem_append_left _ hx)⟩, trodAll_carry h2 (fun x hx => hs x (by rw [e]; exact List.mem_append_right _ hx)), e⟩
  | [], [], _ :: _, _, h, _ => h.elim
  | [], _ :: _, _, _, h, _ => h.elim
  | _ :: _, [], _, _, h, _ => h.elim
  | _ :: _, _ :: _, [], _, h, _ => h.elim
theorem post_le {f : Func} {s : ChangeSpec} {apart fresh handsOn again : Bool} {W : World} {y : X} {args : Array Value} {v : Value} {ds gs : List (DataW H)} {before : List MemPlace}
    (hl : laidOutB P = true) (hm : mapsRowed P = true) (hz : ∀ t e, t < P.types.size → P.underlying t = some (.slice e) → 0 < P.cellsOf e) (hts : ∀ t ∈ f.params.toList, t < P.types.size)
    (hW : DataW.Whole enc P f.params.toList s.vars apart W args.toList ds gs before) (hvs : s.vars = []) (ha : (s.fn H (ds ++ gs)).args = ds) (hv : (s.fn H (ds ++ gs)).vars = [])
    (hle : (X0 W).le y) (hres : ∀ (b : Nat) (sp : Nat → Bool) (hd : Bool), DataW.TrodAll enc P y.w b sp hd f.resultTypes.toList (v.resultList f.resultTypes.size) (s.fn H (ds ++ gs)).results [])
    (hok : ∀ (j : Nat) (t : TypeId) (r : Value), f.resultTypes[j]? = some t → (v.resultList f.resultTypes.size)[j]? = some r → Value.okWide P y.w .any 0 t r) :
    s.post enc P f apart fresh handsOn again W args v y.w := by
  have hlt := hW.lt
  have hW' := hW
  obtain ⟨p, q, h1, h2, e, h3, h4⟩ := hW
  have hq : q = [] ∧ gs = [] := by
    rw [hvs] at h2
    cases gs with
    | nil => exact ⟨h2, rfl⟩
    | cons _ _ => exact h2.elim
  obtain ⟨rfl, rfl⟩ := hq
  rw [List.append_nil] at e
  subst e
  have hA : ∀ sp : Nat → Bool, (∀ x ∈ before, sp x.block = true) → DataW.TrodAll enc P y.w 0 sp true f.params.toList args.toList (s.fn H (ds ++ [])).args before := fun sp hsp => by
    rw [ha]
    exact trodAll_carry (h1.respare (kids_rows hl hm) hz hts hsp) fun x hx => sameAt_le hle (hlt x hx)
  have hV : ∀ sp : Nat → Bool, DataW.TrodVars enc P y.w sp s.vars (s.fn H (ds ++ [])).vars [] := fun sp => by
    rw [hvs, hv]
    rfl
  refine ⟨ds, [], before, [], before, [], hW', hres _ _ _, hA _ (fun x hx => by simpa using hlt x hx), hV _, World.keptBut_mono (fun _ h => h.elim) (kept_le hle), fun _ => ?_⟩
  refine ⟨hok, _, _, ([] ++ before) ++ [], ⟨[] ++ before, [], trodAll_append (hA _ (fun _ _ => rfl)) (hres _ _ _), hV _, rfl, ?_, ?_⟩, ?_⟩
  · intro b off hp
    simp only [List.nil_append, List.append_nil] at hp
    rw [frozen_le hle (hlt _ hp)]
    exact h3 b off hp
  · intro hap
    simpa using h4 hap
  · intro x hx _
    simpa using hx
theorem law_of {g : FuncId} {f : Func} {s : ChangeSpec} {apart fresh handsOn again : Bool} {W : World} {args : Array Value} {ds gs : List (DataW H)} {before : List MemPlace} {az : List A} {tb : TypeId}
    (htab : Tabs (X0 W)) (hl : laidOutB P = true) (hm : mapsRowed P = true) (hz : ∀ t e, t < P.types.size → P.underlying t = some (.slice e) → 0 < P.cellsOf e) (hts : ∀ t ∈ f.params.toList, t < P.types.size)
    (hr : f.resultTypes = #[tb]) (hb : P.underlying tb = some .bool)
    (hW : DataW.Whole enc P f.params.toList s.vars apart W args.toList ds gs before) (hvs : s.vars = []) (ha : (s.fn H (ds ++ gs)).args = ds) (hv : (s.fn H (ds ++ gs)).vars = []) (hrs : (s.fn H (ds ++ gs)).results = [.lit (.bool true)])
    (hd : Ds (X0 W) az args.toList) (hc : CallFn P g az (.dat (.bool true))) : Calls P g args W fun e W' => ∃ v, e = .returned v ∧ s.post enc P f apart fresh handsOn again W args v W' := by
  refine (hc.2 (X0 W) args [] (X0_inv htab) hd).mono ?_
  rintro _ _ ⟨y, v, r, H', rfl, rfl, hle, _, hvv, rfl, rfl⟩
  simp only [D, RdL] at hvv
  subst hvv
  refine ⟨_, rfl, post_le hl hm hz hts hW hvs ha hv hle ?_ ?_⟩
  · intro b sp hd'
    rw [hrs, hr]
    have ht : DataW.Trod enc P y.w b sp hd' tb (.bool true) (.lit (.bool true)) [] := ⟨1, by simp [DataW.trod, Value.cells, hb]⟩
    exact trodAll_cons_mk ht trodAll_mk0
  · intro j t r h1 h2
    rw [hr] at h1 h2
    cases j with
    | zero =>
      simp only [Array.size_singleton, Value.resultList] at h1 h2
      obtain rfl : t = tb := by simpa using h1.symm
      obtain rfl : r = .bool true := by simpa using h2.symm
      exact okWide_bool_mk hb _
    | succ j => simp at h1
end Go.Proofs.YtbcjnmifflflfaaGreatDoor
end

section
namespace Go.Proofs.YtbcjnmifflflfaaGreatDoor
open Go.ChangeShapes Go.WideShapes Go.ChangeAt Go.RowKit
set_option maxRecDepth 100000
abbrev tys : List TypeId := [9, 86, 3, 84, 4]
theorem tys_good : goodT Tryz.prog 4 tys = true := by kernel_rfl
abbrev lfE : List Lf := [.int .i64, .int .i64, .sl 84]
abbrev lfS : List Lf := [.str, .int .i64, .int .i64, .int .i64, .sl 84, .int .i64, .int .i64, .sl 84, .int .i64, .bool]
abbrev lfC : List Lf := [.int .i64, .sl 9, .sl 86, .sl 3, .sl 3]
abbrev lfSt : List Lf := [.sl 3, .sl 4, .sl 4, .sl 4, .sl 3]
theorem leavesE : leavesT Tryz.prog 4 84 = some lfE := by kernel_rfl
theorem leavesS : leavesT Tryz.prog 4 86 = some lfS := by kernel_rfl
theorem leavesC : leavesT Tryz.prog 4 26 = some lfC := by kernel_rfl
theorem leavesSt : leavesT Tryz.prog 4 60 = some lfSt := by kernel_rfl
theorem leavesI : leavesT Tryz.prog 4 3 = some [.int .i64] := by kernel_rfl
theorem leavesB : leavesT Tryz.prog 4 4 = some [.bool] := by kernel_rfl
theorem leavesX : leavesT Tryz.prog 4 9 = some [.str] := by kernel_rfl
theorem all1 {R : Lf → L → Prop} {f : Lf} {r : List L} (h : All2 R [f] r) : ∃ l, r = [l] ∧ R f l := by
  rcases r with _ | ⟨a, _ | ⟨b, r⟩⟩ <;> simp only [All2, and_true, and_false] at h
  exact ⟨a, rfl, h⟩
theorem lift_sl {α : Type} {enc : α → List L} {Ok : α → Prop} {n : Nat} {e : TypeId} {l : L} (h : OkV Tryz.prog 4 n (.sl e) l) {lfs : List Lf} (he : leavesT Tryz.prog 4 e = some lfs)
    (hr : ∀ m r, n = m + 1 → All2 (OkV Tryz.prog 4 m) lfs r → ∃ a, r = enc a ∧ Ok a) : ∃ xs : List α, l = .sl (xs.map enc) ∧ Sh xs ∧ ∀ a ∈ xs, Ok a := by
  cases n with
  | zero => simp [OkV] at h
  | succ m =>
    simp only [OkV] at h
    obtain ⟨rows, rfl, h1, h2⟩ := h
    obtain ⟨xs, rfl, hx⟩ := lift_list (enc := enc) (Ok := Ok) (rows := rows) fun r hrr => by
      obtain ⟨lfs', h3, h4⟩ := h2 r hrr
      rw [he] at h3
      cases h3
      exact hr m r rfl h4
    exact ⟨xs, rfl, by simpa [maxLen, Sh] using h1, hx⟩
theorem lift_I {n : Nat} {l : L} (h : OkV Tryz.prog 4 n (.sl 3) l) : ∃ xs : List Int, l = .sl (xs.map encI) ∧ Sh xs ∧ ∀ a ∈ xs, I64 a := by
  refine lift_sl (Ok := I64) h leavesI ?_
  intro m r _ hr
  obtain ⟨l, rfl, hl⟩ := all1 hr
  have : ∃ k, l = .int .i64 k ∧ (Lit.int .i64 k).wf = true := by cases m <;> simpa [OkV] using hl
  obtain ⟨k, rfl, hk⟩ := this
  exact ⟨k, rfl, wf_i64 hk⟩
theorem lift_B {n : Nat} {l : L} (h : OkV Tryz.prog 4 n (.sl 4) l) : ∃ xs : List Bool, l = .sl (xs.map encB) ∧ Sh xs := by
  obtain ⟨xs, h1, h2, _⟩ := lift_sl (enc := encB) (Ok := fun _ => True) h leavesB (by
    intro m r _ hr
    obtain ⟨l, rfl, hl⟩ := all1 hr
    have : ∃ k, l = .bool k := by cases m <;> simpa [OkV] using hl
    obtain ⟨k, rfl⟩ := this
    exact ⟨k, rfl, trivial⟩)
  exact ⟨xs, h1, h2⟩
theorem lift_T {n : Nat} {l : L} (h : OkV Tryz.prog 4 n (.sl 9) l) : ∃ xs : List (List UInt8), l = .sl (xs.map encT) ∧ Sh xs ∧ ∀ a ∈ xs, Sh a := by
  refine lift_sl (Ok := fun s : List UInt8 => Sh s) h leavesX ?_
  intro m r _ hr
  obtain ⟨l, rfl, hl⟩ := all1 hr
  have : ∃ s, l = .str s ∧ s.length ≤ maxLen := by cases m <;> simpa [OkV] using hl
  obtain ⟨s, rfl, hs⟩ := this
  exact ⟨s, rfl, by simpa [maxLen, Sh] using hs⟩
theorem ok_int {n : Nat} {l : L} (h : OkV Tryz.prog 4 n (.int .i64) l) : ∃ k, l = .int .i64 k ∧ I64 k := by
  have : ∃ k, l = .int .i64 k ∧ (Lit.int .i64 k).wf = true := by cases n <;> simpa [OkV] using h
  obtain ⟨k, rfl, hk⟩ := this
  exact ⟨k, rfl, wf_i64 hk⟩
theorem ok_bool {n : Nat} {l : L} (h : OkV Tryz.prog 4 n .bool l) : ∃ k, l = .bool k := by cases n <;> simpa [OkV] using h
theorem ok_str {n : Nat} {l : L} (h : OkV Tryz.prog 4 n .str l) : ∃ s, l = .str s ∧ Sh s := by
  have : ∃ s, l = .str s ∧ s.length ≤ maxLen := by cases n <;> simpa [OkV] using h
  obtain ⟨s, rfl, hs⟩ := this
  exact ⟨s, rfl, by simpa [maxLen, Sh] using hs⟩
theorem lift_E : ∀ (n : Nat) (r : List L), All2 (OkV Tryz.prog 4 n) lfE r → ∃ x : Expr, r = encE x ∧ OkE x
  | n, r, h => by
    rcases r with _ | ⟨a, _ | ⟨b, _ | ⟨c, _ | ⟨d, r⟩⟩⟩⟩ <;> simp only [All2, and_true, and_false] at h
    obtain ⟨h1, h2, h3⟩ := h
    obtain ⟨k1, rfl, i1⟩ := ok_int h1
    obtain ⟨k2, rfl, i2⟩ := ok_int h2
    obtain ⟨xs, rfl, s1, s2⟩ := lift_sl (enc := encE) (Ok := OkE) h3 leavesE (by
      intro m r e hr
      exact lift_E m r hr)
    exact ⟨⟨k1, k2, xs⟩, by simp [encE], OkE.mk _ s1 ((inR_i64 _).2 i1) ((inR_i64 _).2 i2) s2⟩
termination_by n => n
decreasing_by omega
theorem lift_El {n : Nat} {l : L} (h : OkV Tryz.prog 4 n (.sl 84) l) : ∃ xs : List Expr, l = .sl (xs.map encE) ∧ Sh xs ∧ ∀ a ∈ xs, OkE a :=
  lift_sl h leavesE fun m r _ hr => lift_E m r hr
theorem lift_S {n : Nat} {r : List L} (h : All2 (OkV Tryz.prog 4 n) lfS r) : ∃ x : Signal, r = encS x ∧ OkS x := by
  rcases r with _ | ⟨a0, _ | ⟨a1, _ | ⟨a2, _ | ⟨a3, _ | ⟨a4, _ | ⟨a5, _ | ⟨a6, _ | ⟨a7, _ | ⟨a8, _ | ⟨a9, _ | ⟨a10, r⟩⟩⟩⟩⟩⟩⟩⟩⟩⟩⟩ <;> simp only [All2, and_true, and_false] at h
  obtain ⟨h0, h1, h2, h3, h4, h5, h6, h7, h8, h9⟩ := h
  obtain ⟨s, rfl, j0⟩ := ok_str h0
  obtain ⟨k1, rfl, j1⟩ := ok_int h1
  obtain ⟨k2, rfl, j2⟩ := ok_int h2
  obtain ⟨k3, rfl, j3⟩ := ok_int h3
  obtain ⟨x4, rfl, s4, e4⟩ := lift_El h4
  obtain ⟨k5, rfl, j5⟩ := ok_int h5
  obtain ⟨k6, rfl, j6⟩ := ok_int h6
  obtain ⟨x7, rfl, s7, e7⟩ := lift_El h7
  obtain ⟨k8, rfl, j8⟩ := ok_int h8
  obtain ⟨b9, rfl⟩ := ok_bool h9
  exact ⟨⟨s, k1, ⟨k2, k3, x4⟩, ⟨k5, k6, x7⟩, k8, b9⟩, rfl, ⟨j0, j1, OkE.mk _ s4 ((inR_i64 _).2 j2) ((inR_i64 _).2 j3) e4, OkE.mk _ s7 ((inR_i64 _).2 j5) ((inR_i64 _).2 j6) e7, j8⟩⟩
theorem lift_C {n : Nat} {r : List L} (h : All2 (OkV Tryz.prog 4 n) lfC r) : ∃ c : Control, r = encC c ∧ OkC c := by
  rcases r with _ | ⟨a0, _ | ⟨a1, _ | ⟨a2, _ | ⟨a3, _ | ⟨a4, _ | ⟨a5, r⟩⟩⟩⟩⟩⟩ <;> simp only [All2, and_true, and_false] at h
  obtain ⟨h0, h1, h2, h3, h4⟩ := h
  obtain ⟨k0, rfl, j0⟩ := ok_int h0
  obtain ⟨x1, rfl, s1, e1⟩ := lift_T h1
  obtain ⟨x2, rfl, s2, e2⟩ := lift_sl (enc := encS) (Ok := OkS) h2 leavesS fun m r _ hr => lift_S hr
  obtain ⟨x3, rfl, s3, e3⟩ := lift_I h3
  obtain ⟨x4, rfl, s4, e4⟩ := lift_I h4
  exact ⟨⟨k0, x1, x2, x3, x4⟩, rfl, ⟨j0, s1, e1, s2, e2, s3, s4, e3, e4⟩⟩
theorem lift_St {n : Nat} {r : List L} (h : All2 (OkV Tryz.prog 4 n) lfSt r) : ∃ s : State, r = encSt s ∧ OkSt s := by
  rcases r with _ | ⟨a0, _ | ⟨a1, _ | ⟨a2, _ | ⟨a3, _ | ⟨a4, _ | ⟨a5, r⟩⟩⟩⟩⟩⟩ <;> simp only [All2, and_true, and_false] at h
  obtain ⟨h0, h1, h2, h3, h4⟩ := h
  obtain ⟨x0, rfl, s0, e0⟩ := lift_I h0
  obtain ⟨x1, rfl, s1⟩ := lift_B h1
  obtain ⟨x2, rfl, s2⟩ := lift_B h2
  obtain ⟨x3, rfl, s3⟩ := lift_B h3
  obtain ⟨x4, rfl, s4, e4⟩ := lift_I h4
  exact ⟨⟨x0, x1, x2, x3, x4⟩, rfl, ⟨s0, s1, s2, s3, s4, e0, e4⟩⟩
theorem read_C {H : Type} {enc : TypeId × Value → H} {W : World} {base : Nat} {v : Value} {d : DataW H} {ps : List MemPlace} (hv : Value.okWide Tryz.prog W .any base 26 v) (hd : DataW.Trod enc Tryz.prog W 0 (fun _ => true) true 26 v d ps) :
    ∃ c : Control, D (X0 W) (aC c) v ∧ OkC c := by
  have h0 : lfC.all (inT tys) = true := by decide
  obtain ⟨ls, n, h1, h2⟩ := read_arg tys_good Tryz.underlying26 leavesC h0 hv hd
  obtain ⟨c, rfl, hc⟩ := lift_C h2
  exact ⟨c, h1, hc⟩
theorem read_St {H : Type} {enc : TypeId × Value → H} {W : World} {base : Nat} {v : Value} {d : DataW H} {ps : List MemPlace} (hv : Value.okWide Tryz.prog W .any base 60 v) (hd : DataW.Trod enc Tryz.prog W 0 (fun _ => true) true 60 v d ps) :
    ∃ s : State, D (X0 W) (aSt s) v ∧ OkSt s := by
  have h0 : lfSt.all (inT tys) = true := by decide
  obtain ⟨ls, n, h1, h2⟩ := read_arg tys_good Tryz.underlying60 leavesSt h0 hv hd
  obtain ⟨c, rfl, hc⟩ := lift_St h2
  exact ⟨c, h1, hc⟩
theorem facts : laidOutB Tryz.prog = true ∧ mapsRowed Tryz.prog = true ∧ ∀ t e, t < (Tryz.prog).types.size → (Tryz.prog).underlying t = some (.slice e) → 0 < (Tryz.prog).cellsOf e :=
  ⟨by kernel_rfl, by kernel_rfl, slices_full_of _ (by kernel_rfl)⟩
end Go.Proofs.YtbcjnmifflflfaaGreatDoor
end

section
namespace Go.Proofs.YtbcjnmifflflfaaGreatDoor
open Go.ChangeShapes Go.WideShapes Go.ChangeAt Go.RowKit
set_option maxRecDepth 100000
end Go.Proofs.YtbcjnmifflflfaaGreatDoor
end

section
namespace Go.Proofs.YtbcjnmifflflfaaGreatDoor
set_option maxHeartbeats 4000000
set_option maxRecDepth 10000
end Go.Proofs.YtbcjnmifflflfaaGreatDoor
end

section
namespace Go.Proofs.YtbcjnmifflflfaaGreatDoor
set_option maxHeartbeats 4000000
set_option maxRecDepth 10000
theorem Few28b_fn (c : Control) (s : State) (hc : OkC c) (hs : OkSt s) : CallFn Tryz.prog 93 [aC c, aSt s] (aB (fewC c && fewS s)) := by
  refine callFz_of Tryz.func93 rfl Tryz.ntmps93 (rs := [.tmp 4]) rfl (by kernel_rfl) (by simp) (by kernel_rfl) ?_
  simp
  refine (Few_fn c hc).s ?_
  simp
  refine GCall.fn (aB (fewS s)) (fun h => ⟨by first | trivial | exact h, FewStates_fn s hs⟩) ?_
  simp
end Go.Proofs.YtbcjnmifflflfaaGreatDoor
end
