/- Texts joined by a program: Zd, Ze, Ys, Yt, Yu, Zg, Yv, Yw. -/
import Derived.Test.YthlpelkcmmaokaaGreatP5
import Derived.Test.YthlpelkcmmaokaaGreatP4
import Derived.Test.YthlpelkcmmaokaaGreatP2
import Derived.Test.YthlpelkcmmaokaaGreatPX
set_option linter.unusedSimpArgs false
set_option linter.unusedVariables false

/- Plain laws: the relation of the reduced control proves; reducing twice. -/
section
namespace Go.Proofs.YthlpelkcmmaokaaGreat
set_option maxHeartbeats 1000000
set_option maxRecDepth 10000

/-! ### What proves -/
def frameB (a b : Control) (ks : List Int) : Bool := a.actuators == b.actuators && decide (a.inputs = b.inputs) && (List.range (firstC a).toNat).all (fun k : Nat => ks.getD k 0 == k) &&
  (List.range a.actuators.toNat).all fun i : Nat => ks.getD (a.plus.getD i 0).toNat 0 == b.plus.getD i 0 && ks.getD (a.minus.getD i 0).toNat 0 == b.minus.getD i 0
def fitX (a b : Control) (ks : List Int) (x : Signal) (y : Int) : Bool :=
  if y = noneV then true else if x.kind = 0 ∧ x.on.op = 1 ∧ ks.getD x.on.index.toNat 0 = y then true else if y < firstC b then false else match b.signals[(y - firstC b).toNat]? with
    | none => false
    | some z => okV x.on ks && okV x.off ks && x.kind == z.kind && x.delay == z.delay && x.init == z.init && eqE (repE x.on ks) z.on && eqE (repE x.off ks) z.off
def fitB (a b : Control) (ks : List Int) (i : Nat) : Bool := match a.signals[i]? with
  | none => true
  | some x => fitX a b ks x (ks.getD (firstC a + i).toNat 0)
def farB (b : Control) (k : Int) : Bool := decide (k ≠ noneV) && (decide (k < 0) || decide (countC b ≤ k))
def provesB (a b : Control) (ks : List Int) : Bool := frameB a b ks && (List.range a.signals.length).all (fitB a b ks)
def verifyQ (a b : Control) (ks : List Int) : Int :=
  if checkC a ≠ 0 then checkC a else if checkC b ≠ 0 then checkC b else if (ks.length : Int) ≠ countC a then 8 else if ks.any (farB b) = true then 2 else if provesB a b ks = true then 0 else 15

theorem rep_lift {n : Int} {l1 l2 : List Int} : ∀ (N : Nat) (x y : Expr), SizeOf.sizeOf x < N → RightE n x → RightE n y → (∀ u ∈ varsE x, ∀ v ∈ varsE y, l1.getD u.toNat 0 = l1.getD v.toNat 0 → l2.getD u.toNat 0 = l2.getD v.toNat 0) → repE x l1 = repE y l1 → repE x l2 = repE y l2
  | 0, _, _, h, _, _, _, _ => absurd h (Nat.not_lt_zero _)
  | N + 1, x, y, hN, hx, hy, hu, he => by
    have hL : ∀ xs ys : List Expr, (∀ z ∈ xs, z ∈ x.args) → (∀ z ∈ ys, z ∈ y.args) → repL xs l1 = repL ys l1 → repL xs l2 = repL ys l2 := by
      intro xs
      induction xs with
      | nil =>
        intro ys _ _ h
        cases ys with
        | nil => rfl
        | cons z ys => simp [repL] at h
      | cons z xs ih =>
        intro ys h1 h2 h
        cases ys with
        | nil => simp [repL] at h
        | cons w ys =>
          simp only [repL, List.cons.injEq] at h ⊢
          have hz := h1 z (by simp)
          have hw := h2 w (by simp)
          refine ⟨rep_lift N z w (by have := Expr.lt_of_mem hz; omega) (hx.args z hz) (hy.args w hw) (fun u huz v hvw => hu u ?_ v ?_) h.1, ih ys (fun a ha => h1 a (by simp [ha])) (fun a ha => h2 a (by simp [ha])) h.2⟩
          · rw [varsE_eq]; exact List.mem_append.2 (.inr (varsL_mem huz hz))
          · rw [varsE_eq]; exact List.mem_append.2 (.inr (varsL_mem hvw hw))
    rw [repE_eq x l1, repE_eq y l1] at he
    rw [repE_eq x l2, repE_eq y l2]
    by_cases ho : x.op = 1 <;> by_cases ho' : y.op = 1
    · rw [if_pos ho, if_pos ho'] at he ⊢
      simp at he
      have := hu x.index (by rw [varsE_eq]; simp [ho]) y.index (by rw [varsE_eq]; simp [ho']) (by simpa using he)
      rw [this]
    · rw [if_pos ho, if_neg ho'] at he
      simp at he
      exact absurd he.1.symm ho'
    · rw [if_neg ho, if_pos ho'] at he
      simp at he
      exact absurd he.1 ho
    · rw [if_neg ho, if_neg ho'] at he ⊢
      simp at he ⊢
      exact ⟨he.1, he.2.1, hL _ _ (fun _ h => h) (fun _ h => h) he.2.2⟩

/-! ### The relation proves -/
theorem keep_same {c : Control} {u v : Int} (h : clsL c u = clsL c v) : keepL c u = keepL c v := by
  unfold keepL
  rw [h]
theorem rep_keep {c : Control} (hf : Fine c) {x y : Expr} (hx : RightE (countC c) x) (hy : RightE (countC c) y) (hvx : ∀ u ∈ varsE x, 0 ≤ u ∧ u < countC c) (hvy : ∀ u ∈ varsE y, 0 ≤ u ∧ u < countC c) (h : repE x (alikeC c) = repE y (alikeC c)) : repE x (keepP c) = repE y (keepP c) := by
  refine rep_lift _ x y (Nat.lt_succ_self _) hx hy (fun u hu v hv e => ?_) h
  rw [cls_getD hf (hvx u hu), cls_getD hf (hvy v hv)] at e
  rw [keep_getD (hvx u hu), keep_getD (hvy v hv), keep_same e]
theorem ok_keep {c : Control} (hf : Fine c) {x y : Expr} (hx : RightE (countC c) x) (hy : RightE (countC c) y) (hvx : ∀ u ∈ varsE x, 0 ≤ u ∧ u < countC c) (hvy : ∀ u ∈ varsE y, 0 ≤ u ∧ u < countC c) (h : repE x (alikeC c) = repE y (alikeC c)) (hk : ∀ u ∈ varsE y, keepL c u ≠ noneV) : okV x (keepP c) = true := by
  rw [ok_rep _ x (Nat.lt_succ_self _) hx]
  intro u hu
  rw [keep_getD (hvx u hu)]
  have h1 := vars_rep (alikeC c) _ x (Nat.lt_succ_self _) hx
  have h2 := vars_rep (alikeC c) _ y (Nat.lt_succ_self _) hy
  rw [h, h2] at h1
  have h3 : (alikeC c).getD u.toNat 0 ∈ (varsE y).map fun u => (alikeC c).getD u.toNat 0 := by
    rw [h1]
    exact List.mem_map.2 ⟨u, hu, rfl⟩
  obtain ⟨v, hv, e⟩ := List.mem_map.1 h3
  rw [cls_getD hf (hvx u hu), cls_getD hf (hvy v hv)] at e
  rw [← keep_same e]
  exact hk v hv
theorem off_range {c : Control} (hf : Fine c) {n : Nat} {x : Signal} (hx : c.signals[n]? = some x) : ∀ u ∈ varsE x.off, 0 ≤ u ∧ u < countC c := (occ_off hf hx).2
theorem red_fit {c : Control} (hz : checkC c = 0) (hp : PilC c) {i : Nat} (hi : i < c.signals.length) : fitB c (redC c) (keepP c) i = true := by
  have hf := fine_of hz
  have h0 := hf.f0
  have hcf := count_first c
  have hx : c.signals[i]? = some c.signals[i] := List.getElem?_eq_getElem hi
  generalize c.signals[i] = x at *
  have hkr : 0 ≤ firstC c + (i : Int) ∧ firstC c + (i : Int) < countC c := by omega
  unfold fitB
  rw [hx]
  simp only
  rw [keep_getD hkr]
  unfold fitX
  by_cases h1 : keepL c (firstC c + i) = noneV
  · rw [if_pos h1]
  · rw [if_neg h1]
    have hrep : repP c (firstC c + i) = (x.on.index, x.kind == 0 && x.on.op == 1) := by
      unfold repP
      rw [if_neg (by omega), show (firstC c + (i : Int) - firstC c).toNat = i by omega, hx]
    have hst := root_step hf hkr
    rw [hrep] at hst
    by_cases h2 : x.kind = 0 ∧ x.on.op = 1
    · have hix := vars_check (hf.on hx).1 x.on.index (by rw [varsE_eq]; simp [h2.2])
      have e : keepL c x.on.index = keepL c (firstC c + i) := by
        refine keep_same ?_
        rw [← cls_root hf hix, ← cls_root hf hkr, hst, if_pos (by simp [h2.1, h2.2])]
      rw [if_pos ⟨h2.1, h2.2, by rw [keep_getD hix]; exact e⟩]
    · rw [if_neg (fun h => h2 ⟨h.1, h.2.1⟩)]
      have hroot : rootP c (firstC c + i) = firstC c + i := by
        rw [hst, if_neg]
        simp
        intro a b
        exact h2 ⟨a, b⟩
      obtain ⟨m, n, a1, a2, a3, a4, a5, a6, a7⟩ := cls_lead hf hkr (by rw [hroot]; omega)
      rw [hroot] at a1
      obtain rfl : i = n := by omega
      have hneed : Need c (clsL c (firstC c + i)) := by
        refine Classical.byContradiction fun hn => h1 ?_
        unfold keepL
        rw [if_neg (by omega), if_neg hn]
      have hkl : keepL c (firstC c + i) = firstC c + posN c (clsL c (firstC c + i)) := by
        unfold keepL
        rw [if_neg (by omega), if_pos hneed]
      rw [hkl, red_first, if_neg (by omega)]
      obtain ⟨m', z, b1, b2, b3⟩ := red_at hf hp hneed
      obtain rfl : m = m' := by omega
      rw [show (firstC c + (posN c (clsL c (firstC c + i)) : Int) - firstC c).toNat = posN c (clsL c (firstC c + i)) by omega, b3]
      simp only
      have hid := class_id b2 hx a7
      obtain ⟨i1, i2, i3⟩ := hid.2.2.2 _ rfl
      have rx := sig_right hf hx
      have rz := sig_right hf b2
      have vx := vars_check (hf.on hx).1
      have vz := vars_check (hf.on b2).1
      have wx := off_range hf hx
      have wz := off_range hf b2
      have hus : ∀ u, u ∈ varsE z.on ∨ u ∈ varsE z.off → keepL c u ≠ noneV := by
        intro u hu
        have hu2 : u ∈ useL c (clsL c (firstC c + i)) := by
          unfold useL
          rw [b1, show (firstC c + (m : Int) - firstC c).toNat = m by omega, b2]
          exact (met_uses hf b2 u).2 hu
        have := keep_use hf hp hneed hu2
        intro e
        rw [e] at this
        exact absurd this.1 (by decide)
      rw [ok_keep hf rx.1 rz.1 vx vz i2.symm fun u hu => hus u (.inl hu), ok_keep hf rx.2 rz.2 wx wz i3.symm fun u hu => hus u (.inr hu)]
      have e1 : repE x.on (keepP c) = (redX c z).on := rep_keep hf rx.1 rz.1 vx vz i2.symm
      have e2 : repE x.off (keepP c) = (redX c z).off := rep_keep hf rx.2 rz.2 wx wz i3.symm
      rw [e1, e2, (eqE_true _ _).2 rfl, (eqE_true _ _).2 rfl]
      simp [redX, hid.1, hid.2.1, hid.2.2.1]
theorem red_proves {c : Control} (hz : checkC c = 0) (hp : PilC c) : verifyQ c (redC c) (keepP c) = 0 := by
  have hf := fine_of hz
  have h0 := hf.f0
  have hcf := count_first c
  unfold verifyQ
  rw [if_neg (by rw [hz]; simp), if_neg (by rw [red_check hz hp]; simp), if_neg (by rw [keep_len hf]; simp), if_neg, if_pos]
  · unfold provesB frameB
    simp only [Bool.and_eq_true, List.all_eq_true, List.mem_range, beq_iff_eq, decide_eq_true_eq]
    refine ⟨⟨⟨⟨rfl, rfl⟩, fun k hk => ?_⟩, fun i hi => ?_⟩, fun i hi => red_fit hz hp hi⟩
    · have := keep_getD (c := c) (k := (k : Int)) (by omega)
      rw [Int.toNat_natCast] at this
      rw [this, keep_low hf (by omega)]
    · have hpl := hp.1
      have hml := hp.2.1
      have hact := hf.act
      have g1 : c.plus[i]? = some c.plus[i] := List.getElem?_eq_getElem (by omega)
      have g2 : c.minus[i]? = some c.minus[i] := List.getElem?_eq_getElem (by omega)
      generalize c.plus[i] = p at *
      generalize c.minus[i] = m at *
      have r1 := hp.2.2.1 p (List.mem_of_getElem? g1)
      have r2 := hp.2.2.2 m (List.mem_of_getElem? g2)
      have e1 : c.plus.getD i 0 = p := by rw [List.getD_eq_getElem?_getD, g1]; rfl
      have e2 : c.minus.getD i 0 = m := by rw [List.getD_eq_getElem?_getD, g2]; rfl
      have e3 : (redC c).plus.getD i 0 = keepL c p := by rw [List.getD_eq_getElem?_getD]; simp [redC, g1]
      have e4 : (redC c).minus.getD i 0 = keepL c m := by rw [List.getD_eq_getElem?_getD]; simp [redC, g2]
      rw [e1, e2, e3, e4, keep_getD r1, keep_getD r2]
      exact ⟨rfl, rfl⟩
  · simp only [List.any_eq_true, not_exists, not_and]
    intro v hv
    unfold keepP at hv
    obtain ⟨k, hk, rfl⟩ := List.mem_map.1 hv
    have hk2 := List.mem_range.1 hk
    have := keep_range hf hp (k := (k : Int)) (by omega)
    unfold farB
    rcases this with h | h
    · simp [h]
    · simp
      intro _
      omega

end Go.Proofs.YthlpelkcmmaokaaGreat
end

/- Plain laws: reducing a reduced control changes nothing. -/
section
namespace Go.Proofs.YthlpelkcmmaokaaGreat
set_option maxHeartbeats 1000000
set_option maxRecDepth 10000

/-- The class of a line behind some divisions. -/
noncomputable def stL (c : Control) (k : Nat) (l : Int) : Int := divL c (clsO c k) l
section red
variable {c : Control} (hz : checkC c = 0) (hp : PilC c)
include hz hp
theorem keep_self {k : Int} (h : Need c k) : keepL c k = firstC c + posN c k ∧ keepL c k ≠ noneV := by
  have hf := fine_of hz
  have hr := need_range hf hp h
  have h0 := hf.f0
  have hc := need_cls hf hp h
  have e : keepL c k = firstC c + posN c k := by
    unfold keepL
    rw [hc, if_neg (by omega), if_pos h]
  refine ⟨e, ?_⟩
  rw [e]
  have := none_neg
  omega
end red

end Go.Proofs.YthlpelkcmmaokaaGreat
end

/- Contracts: what proves: the program's does, the reference's fits. -/
section
namespace Go.Proofs.YthlpelkcmmaokaaGreat
set_option maxHeartbeats 8000000
set_option maxRecDepth 10000

theorem does_end {x z : Signal} {p q : Expr} {b12 b13 b14 b16 : Nat} {e1 e2 s1 s2 : Bool} (c5 : CallFn Tryz.prog 92 [aE p, aE z.on] (aB s1)) (c6 : CallFn Tryz.prog 92 [aE q, aE z.off] (aB s2)) :
    vcC ⟨Tryz.prog, none, 110⟩ (restC Tryz.f58 8) (hdE [(12, .ptr 12 b12 0), (13, .ptr 13 b13 0), (14, .ptr 14 b14 0), (15, aB e1), (16, .ptr 16 b16 0), (17, aB e2)] [])
      [(16, .box b16 ((encE q).map A.dat)), (14, .box b14 ((encE p).map A.dat)), (13, .box b13 (sigA z)), (12, .box b12 (sigA x))] (RetV Tryz.prog [.tmp 8] fun r' H' => (frz H' r').1 ∧ (frz H' r').2 = aB (e1 && e2 && x.kind == z.kind && x.delay == z.delay && x.init == z.init && s1 && s2)) := by
  refine vc_rest rfl ?_
  simp [encE_eq]
  refine GCall.fn (aB s1) (fun h => ⟨by first | exact h | trivial, c5⟩) ?_
  simp
  refine GCall.fn (aB s2) (fun h => ⟨by first | exact h | trivial, c6⟩) ?_
  simp
theorem does_mid {x z : Signal} {p q : Expr} {l : List Int} {b12 b13 : Nat} {e1 e2 s1 s2 : Bool} (c1 : CallFn Tryz.prog 52 [aE x.on, aIs l] (.tuple [aE p, aB e1])) (c2 : CallFn Tryz.prog 52 [aE x.off, aIs l] (.tuple [aE q, aB e2]))
    (c5 : CallFn Tryz.prog 92 [aE p, aE z.on] (aB s1)) (c6 : CallFn Tryz.prog 92 [aE q, aE z.off] (aB s2)) :
    vcN ⟨Tryz.prog, none, 110⟩ 2 (restC Tryz.f58 6) (hdE [(2, aIs l), (12, .ptr 12 b12 0), (13, .ptr 13 b13 0)] [])
      [(13, .box b13 (sigA z)), (12, .box b12 (sigA x))] (RetV Tryz.prog [.tmp 8] fun r' H' => (frz H' r').1 ∧ (frz H' r').2 = aB (e1 && e2 && x.kind == z.kind && x.delay == z.delay && x.init == z.init && s1 && s2)) := by
  refine vcN_rest rfl ?_
  simp
  refine c1.s ?_
  simp
  intro b14
  refine c2.s ?_
  simp
  intro b16
  exact V.cut [(12, .ptr 12 b12 0), (13, .ptr 13 b13 0), (14, .ptr 14 b14 0), (15, aB e1), (16, .ptr 16 b16 0), (17, aB e2)] (by simp) (by simp [encE_eq]) (vc_of_rest rfl (does_end (b12 := b12) (b13 := b13) (b14 := b14) (b16 := b16) c5 c6))
/-- Lists that may be relations: as many numbers as there are lines, each a line of the other control or none. -/
structure RelL (a b : Control) (ks : List Int) : Prop where
  len : (ks.length : Int) = countC a
  far : ∀ v ∈ ks, farB b v = false
theorem RelL.i64 {a b : Control} {ks : List Int} (h : RelL a b ks) (hb : Fine b) : ∀ v ∈ ks, I64 v := by
  intro v hv
  have h1 := h.far v hv
  have := hb.act
  have := hb.inp
  have := hb.sig
  unfold farB countC at h1
  simp at h1
  by_cases h2 : v = noneV
  · rw [h2]
    exact ⟨by decide, by decide⟩
  · have := h1 h2
    exact ⟨by omega, by omega⟩
/-- What is asked of a signal that is kept and repeats no line with the same image. -/
def fitT (b : Control) (ks : List Int) (x : Signal) (y : Int) : Bool := if y < firstC b then false else match b.signals[(y - firstC b).toNat]? with
    | none => false
    | some z => okV x.on ks && okV x.off ks && x.kind == z.kind && x.delay == z.delay && x.init == z.init && eqE (repE x.on ks) z.on && eqE (repE x.off ks) z.off
theorem does_tail {a b : Control} {ks : List Int} {i : Nat} {x : Signal} {y : Int} (ha : Fine a) (hb : Fine b) (oa : OkC a) (ob : OkC b) (hR : RelL a b ks) (hx : a.signals[i]? = some x) (hyr : 0 ≤ y ∧ y < countC b) :
    vcN ⟨Tryz.prog, none, 110⟩ 2 (restC Tryz.f58 4) (hdE [(2, aIs ks), (3, aI (firstC a + i)), (4, .rptr (encC a)), (5, .rptr (encC b)), (9, aI y)] []) [] (RetV Tryz.prog [.tmp 8] fun r' H' => (frz H' r').1 ∧ (frz H' r').2 = aB (fitT b ks x y)) := by
  have h0 := ha.f0
  have h1 := hb.f0
  have hca := count_first a
  have hcb := count_first b
  have hla := count_le0 ha
  have hlb := count_le0 hb
  have hlen := hR.len
  obtain ⟨hi, hx1⟩ := List.getElem?_eq_some_iff.1 hx
  have rx := sig_right ha hx
  have ca := firstQ_fn a ha.sm
  have cb := firstQ_fn b hb.sm
  refine vcN_rest rfl ?_
  unfold fitT
  simp
  refine cb.s ?_
  by_cases hyb : y < firstC b
  · rw [if_pos hyb]
    simp [hyb]
  · rw [if_neg hyb]
    obtain ⟨j, hj⟩ : ∃ j : Nat, y = firstC b + j := ⟨(y - firstC b).toNat, by omega⟩
    have hjl : j < b.signals.length := by omega
    have hz : b.signals[j]? = some b.signals[j] := List.getElem?_eq_getElem hjl
    obtain ⟨z, hz1⟩ : ∃ z, b.signals[j]'hjl = z := ⟨_, rfl⟩
    rw [hz1] at hz
    have e1 : y - firstC b = j := by omega
    have e2 : firstC a + (i : Int) - firstC a = i := by omega
    have e3 : (y - firstC b).toNat = j := by omega
    rw [e3, hz]
    simp only
    have rz := sig_right hb hz
    have lx := fine_light ha hx
    have lz := fine_light hb hz
    have ox := oa.sigs x (List.mem_of_getElem? hx)
    have oz := ob.sigs z (List.mem_of_getElem? hz)
    rw [← hlen] at rx
    have c1 := replaced_fn ks (by omega) _ x.on (Nat.lt_succ_self _) ox.on rx.1
    have c2 := replaced_fn ks (by omega) _ x.off (Nat.lt_succ_self _) ox.off rx.2
    have hI := hR.i64 hb
    have o1 := rep_ok hI _ x.on (Nat.lt_succ_self _) ox.on
    have o3 := rep_ok hI _ x.off (Nat.lt_succ_self _) ox.off
    have c5 := sameE_fn _ _ o1 oz.on
    have c6 := sameE_fn _ _ o3 oz.off
    have s1 : sameX (repE x.on ks) z.on = eqE (repE x.on ks) z.on := by unfold sameX; rw [rep_light rx.1, lx.1, lz.1]; rfl
    have s2 : sameX (repE x.off ks) z.off = eqE (repE x.off ks) z.off := by unfold sameX; rw [rep_light rx.2, lx.2, lz.2]; rfl
    rw [s1] at c5
    rw [s2] at c6
    have hyb2 : firstC b ≤ y := by omega
    generalize repE x.on ks = p at *
    generalize repE x.off ks = q at *
    generalize okV x.on ks = b1 at *
    generalize okV x.off ks = b2 at *
    generalize eqE p z.on = s1' at *
    generalize eqE q z.off = s2' at *
    simp [hyb]
    refine V.draw (fun s => if s = 47 then some (.fn (aI (firstC a))) else if s = 55 then some (.fn (aI (firstC b))) else none) (by kernel_rfl) (by kernel_rfl) (by simp) ?_
    simp [e1, e2, hi, hx1, hjl, hz1, hx, hz]
    exact ⟨ca, by omega, cb, by omega, fun b12 b13 => V.cutN 2 [(2, aIs ks), (12, .ptr 12 b12 0), (13, .ptr 13 b13 0)] (by simp) (by simp) (vcN_of_rest rfl (does_mid (b12 := b12) (b13 := b13) c1 c2 c5 c6))⟩

theorem does_fn (a b : Control) (ks : List Int) (i : Nat) (hi : i < a.signals.length) (ha : Fine a) (hb : Fine b) (oa : OkC a) (ob : OkC b) (hR : RelL a b ks) : CallFn Tryz.prog 58 [aC a, aC b, aIs ks, aI (firstC a + i)] (aB (fitB a b ks i)) := by
  have h0 := ha.f0
  have h1 := hb.f0
  have hca := count_first a
  have hcb := count_first b
  have hla := count_le0 ha
  have hlb := count_le0 hb
  have hlen := hR.len
  have hkr : 0 ≤ firstC a + (i : Int) ∧ firstC a + (i : Int) < countC a := by omega
  have hx : a.signals[i]? = some a.signals[i] := List.getElem?_eq_getElem hi
  obtain ⟨x, hx1⟩ : ∃ x, a.signals[i]'hi = x := ⟨_, rfl⟩
  rw [hx1] at hx
  have cr := repeats_fn a (firstC a + i) ha.sm h0 hkr
  have hrep : repP a (firstC a + i) = (x.on.index, x.kind == 0 && x.on.op == 1) := by
    unfold repP
    rw [if_neg (by omega), show (firstC a + (i : Int) - firstC a).toNat = i by omega, hx]
  rw [hrep] at cr
  have hil : (firstC a + (i : Int)).toNat < ks.length := by omega
  obtain ⟨y, hy⟩ : ∃ y, ks[(firstC a + (i : Int)).toNat]'hil = y := ⟨_, rfl⟩
  have hyo : ks[(firstC a + (i : Int)).toNat]? = some y := by rw [List.getElem?_eq_getElem hil, hy]
  have hyf := hR.far y (List.mem_of_getElem? hyo)
  have hfit : fitB a b ks i = fitX a b ks x y := by
    unfold fitB
    rw [hx]
    simp only
    rw [List.getD_eq_getElem?_getD, hyo]
    rfl
  have rx := sig_right ha hx
  have hil1 : firstC a + (i : Int) < ks.length := by omega
  have hil2 : 0 ≤ firstC a + (i : Int) := by omega
  rw [hfit]
  unfold fitX
  by_cases hn : y = noneV
  · rw [if_pos hn]
    refine callFz_cut 4 Tryz.func58 rfl Tryz.ntmps58 (rs := [.tmp 8]) rfl (by kernel_rfl) (by simp) (by kernel_rfl) ?_
    simp [hyo, hil1, hil2, hy, hn, noneV]
  · have hn2 : ¬ y = -1099511627776 := hn
    have hyr : 0 ≤ y ∧ y < countC b := by
      unfold farB at hyf
      simp at hyf
      have := hyf hn
      omega
    rw [if_neg hn]
    refine callFz_cut 4 Tryz.func58 rfl Tryz.ntmps58 (rs := [.tmp 8]) rfl (by kernel_rfl) (by simp) (by kernel_rfl) ?_
    simp [hyo, hil1, hil2, hy, hn2]
    refine cr.s ?_
    have htl := does_tail ha hb oa ob hR hx hyr
    by_cases hrp : x.kind = 0 ∧ x.on.op = 1
    · have hv : x.on.index ∈ varsE x.on := by rw [varsE_eq]; simp [hrp.2]
      have hix := vars_check (ha.on hx).1 x.on.index hv
      have hxl : x.on.index.toNat < ks.length := by omega
      have hxl1 : x.on.index < ks.length := by omega
      obtain ⟨w, hw⟩ : ∃ w, ks[x.on.index.toNat]'hxl = w := ⟨_, rfl⟩
      have hwo : ks[x.on.index.toNat]? = some w := by rw [List.getElem?_eq_getElem hxl, hw]
      have hwg : ks.getD x.on.index.toNat 0 = w := by rw [List.getD_eq_getElem?_getD, hwo]; rfl
      rw [hwg]
      by_cases hwy : w = y
      · rw [if_pos ⟨hrp.1, hrp.2, hwy⟩]
        simp [hrp.1, hrp.2, hxl1, hix.1, hwo, hw, hwy]
      · rw [if_neg (fun h => hwy h.2.2)]
        simp [hrp.1, hrp.2, hxl1, hix.1, hwo, hw, hwy]
        exact V.cutN 2 [(2, aIs ks), (3, aI (firstC a + i)), (4, .rptr (encC a)), (5, .rptr (encC b)), (9, aI y)] (by simp) (by simp) (vcN_of_rest rfl htl)
    · rw [if_neg (fun h => hrp ⟨h.1, h.2.1⟩)]
      have hrb : (x.kind == 0 && x.on.op == 1) = false := by
        rw [Bool.and_eq_false_iff]
        by_cases hk : x.kind = 0
        · right
          simp
          exact fun h => hrp ⟨hk, h⟩
        · left
          simpa using hk
      cases hw : ks[x.on.index.toNat]? with
      | none =>
        simp [hrb, hw]
        exact V.cutN 2 [(2, aIs ks), (3, aI (firstC a + i)), (4, .rptr (encC a)), (5, .rptr (encC b)), (9, aI y)] (by simp) (by simp) (vcN_of_rest rfl htl)
      | some w =>
        simp [hrb, hw]
        exact V.cutN 2 [(2, aIs ks), (3, aI (firstC a + i)), (4, .rptr (encC a)), (5, .rptr (encC b)), (9, aI y)] (by simp) (by simp) (vcN_of_rest rfl htl)

end Go.Proofs.YthlpelkcmmaokaaGreat
end

/- Contracts: frames of relations, and Verify. -/
section
namespace Go.Proofs.YthlpelkcmmaokaaGreat
set_option maxHeartbeats 8000000
set_option maxRecDepth 10000

theorem allN_bad {p : Nat → Bool} {n i : Nat} (hi : i < n) (h : p i = false) : (List.range n).all p = false := by
  rw [List.all_eq_false]
  exact ⟨i, List.mem_range.2 hi, by simp [h]⟩
theorem allN_good {p : Nat → Bool} {n : Nat} (h : ∀ i, i < n → p i = true) : (List.range n).all p = true := by
  rw [List.all_eq_true]
  exact fun i hi => h i (List.mem_range.1 hi)
def frA (ks : List Int) (k : Nat) : Bool := ks.getD k 0 == k
def frB (a b : Control) (ks : List Int) (i : Nat) : Bool := ks.getD (a.plus.getD i 0).toNat 0 == b.plus.getD i 0 && ks.getD (a.minus.getD i 0).toNat 0 == b.minus.getD i 0
theorem frame_is (a b : Control) (ks : List Int) : frameB a b ks = (a.actuators == b.actuators && decide (a.inputs = b.inputs) && (List.range (firstC a).toNat).all (frA ks) && (List.range a.actuators.toNat).all (frB a b ks)) := rfl
theorem frB_at {a b : Control} {ks : List Int} (pa : PilC a) (pb : PilC b) (hR : RelL a b ks) {i : Nat} (hi : (i : Int) < a.actuators) (hab : a.actuators = b.actuators) :
    ∃ (p m p' m' u v : Int), a.plus[i]? = some p ∧ a.minus[i]? = some m ∧ b.plus[i]? = some p' ∧ b.minus[i]? = some m' ∧ (0 ≤ p ∧ p < ks.length ∧ ks[p.toNat]? = some u) ∧ (0 ≤ m ∧ m < ks.length ∧ ks[m.toNat]? = some v) ∧ frB a b ks i = (u == p' && v == m') := by
  have l1 := pa.1
  have l2 := pa.2.1
  have l3 := pb.1
  have l4 := pb.2.1
  have hlen := hR.len
  have g1 : a.plus[i]? = some a.plus[i] := List.getElem?_eq_getElem (by omega)
  have g2 : a.minus[i]? = some a.minus[i] := List.getElem?_eq_getElem (by omega)
  have g3 : b.plus[i]? = some b.plus[i] := List.getElem?_eq_getElem (by omega)
  have g4 : b.minus[i]? = some b.minus[i] := List.getElem?_eq_getElem (by omega)
  generalize a.plus[i] = p at *
  generalize a.minus[i] = m at *
  generalize b.plus[i] = p' at *
  generalize b.minus[i] = m' at *
  have r1 := pa.2.2.1 p (List.mem_of_getElem? g1)
  have r2 := pa.2.2.2 m (List.mem_of_getElem? g2)
  have k1 : ks[p.toNat]? = some ks[p.toNat] := List.getElem?_eq_getElem (by omega)
  have k2 : ks[m.toNat]? = some ks[m.toNat] := List.getElem?_eq_getElem (by omega)
  refine ⟨p, m, p', m', _, _, g1, g2, g3, g4, ⟨r1.1, by omega, k1⟩, ⟨r2.1, by omega, k2⟩, ?_⟩
  unfold frB
  simp only [List.getD_eq_getElem?_getD, g1, g2, g3, g4, Option.getD_some, k1, k2]
theorem framed_fn (a b : Control) (ks : List Int) (ha : Fine a) (hb : Fine b) (pa : PilC a) (pb : PilC b) (hR : RelL a b ks) : CallFn Tryz.prog 57 [aC a, aC b, aIs ks] (aB (frameB a b ks)) := by
  have h0 := ha.f0
  have hact := ha.act
  have hla := count_le0 ha
  have hca := count_first a
  have hlen := hR.len
  have i1 := ha.inp
  have i2 := hb.inp
  have c1 := eqT_fn a.inputs b.inputs (by unfold Sh; omega) (by unfold Sh; omega)
  have hp1 := pa.1
  have hm1 := pa.2.1
  have hp2 := pb.1
  have hm2 := pb.2.1
  obtain ⟨F, hF⟩ : ∃ F : Nat, firstC a = F := ⟨(firstC a).toNat, by omega⟩
  obtain ⟨M, hM⟩ : ∃ M : Nat, a.actuators = M := ⟨a.actuators.toNat, by omega⟩
  rw [frame_is, show (firstC a).toNat = F by omega, show a.actuators.toNat = M by omega]
  refine callFz_of Tryz.func57 rfl Tryz.ntmps57 (rs := [.tmp 6]) rfl (by kernel_rfl) (by simp) (by kernel_rfl) ?_
  simp
  refine GCall.fn (aB (decide (a.inputs = b.inputs))) (fun h => ⟨by first | exact h | trivial, c1⟩) ?_
  by_cases hab : a.actuators = b.actuators ∧ a.inputs = b.inputs
  · obtain ⟨h1, h2⟩ := hab
    simp [← h1, ← h2]
    refine (firstQ_fn a ha.sm).s ?_
    simp [hF]
    refine V.forI (σ := Unit) F [2, 3, 4, 23] (by simp; exact rfl) (fun i _ => [(24, aI i)]) (fun _ _ => []) (fun i _ => ∀ j, j < i → frA ks j = true) () (by intro j hj; omega) (by simp) ⟨by simp; exact rfl, by simp⟩ ?_ ?_
    · rintro i - hi hI
      have hil : i < ks.length := by omega
      have hiF : (i : Int) < firstC a := by omega
      obtain ⟨w, hw⟩ : ∃ w, ks[i]'hil = w := ⟨_, rfl⟩
      have hwo : ks[i]? = some w := by rw [List.getElem?_eq_getElem hil, hw]
      have hfr : frA ks i = (w == i) := by unfold frA; rw [List.getD_eq_getElem?_getD, hwo]; rfl
      by_cases h : w = i
      · have hI2 : ∀ j, j < i + 1 → frA ks j = true := by
          intro j hj
          rcases Nat.lt_or_ge j i with h3 | h3
          · exact hI j h3
          · obtain rfl : j = i := by omega
            rw [hfr, h]
            simp
        simp [hiF, hil, hw, h]
        exact ⟨by omega, hI2⟩
      · have hbad : (List.range F).all (frA ks) = false := allN_bad hi (by rw [hfr]; simpa using h)
        rw [hbad]
        simp [hiF, hil, hw, h]
    · rintro - hI
      have hgood := allN_good hI
      rw [hgood]
      have hFl : ¬ ((F : Int) < firstC a) := by omega
      simp [hFl]
      refine V.forI (σ := Unit) M [2, 3, 4, 35] (by simp; exact rfl) (fun i _ => [(36, aI i)]) (fun _ _ => []) (fun i _ => ∀ j, j < i → frB a b ks j = true) () (by intro j hj; omega) (by simp) ⟨by simp; exact rfl, by simp⟩ ?_ ?_
      · rintro i - hi hI
        obtain ⟨p, m, p', m', u, v, g1, g2, g3, g4, ⟨r1, r2, k1⟩, ⟨r3, r4, k2⟩, hfr⟩ := frB_at pa pb hR (i := i) (by omega) h1
        obtain ⟨w1, x1⟩ := List.getElem?_eq_some_iff.1 g1
        obtain ⟨w2, x2⟩ := List.getElem?_eq_some_iff.1 g2
        obtain ⟨w3, x3⟩ := List.getElem?_eq_some_iff.1 g3
        obtain ⟨w4, x4⟩ := List.getElem?_eq_some_iff.1 g4
        obtain ⟨w5, x5⟩ := List.getElem?_eq_some_iff.1 k1
        obtain ⟨w6, x6⟩ := List.getElem?_eq_some_iff.1 k2
        have hiM : (i : Int) < a.actuators := by omega
        simp [hiM]
        refine V.draw (fun _ => none) (by kernel_rfl) (by kernel_rfl) (by simp) ?_
        simp [w1, w2, w3, w4, w5, w6, x1, x2, x3, x4, x5, x6, r1, r2, r3, r4, g1, g2, g3, g4, k1, k2]
        refine ⟨fun h _ _ => ⟨i, hi, ?_⟩, fun e1 e2 => ⟨by omega, fun j hj => ?_⟩⟩
        · rw [hfr, Bool.and_eq_false_iff]
          rcases h with h | h
          · exact .inl (by simpa using h)
          · exact .inr (by simpa using h)
        · rcases Nat.lt_or_ge j i with h3 | h3
          · exact hI j h3
          · obtain rfl : j = i := by omega
            rw [hfr, e1, e2]
            simp
      · rintro - hI
        have hgood := allN_good hI
        rw [hgood]
        have hMl : ¬ ((M : Int) < a.actuators) := by omega
        simp [hMl, ← h1, ← h2]
  · have e : (a.actuators == b.actuators && decide (a.inputs = b.inputs)) = false := by
      rw [Bool.eq_false_iff]
      intro h
      simp only [Bool.and_eq_true, beq_iff_eq, decide_eq_true_eq] at h
      exact hab h
    rw [e]
    by_cases h1 : a.actuators = b.actuators
    · have h2 : ¬ a.inputs = b.inputs := fun h => hab ⟨h1, h⟩
      simp [h1, h2]
    · simp [h1]

end Go.Proofs.YthlpelkcmmaokaaGreat
end

/- Contracts: Verify. -/
section
namespace Go.Proofs.YthlpelkcmmaokaaGreat
set_option maxHeartbeats 8000000
set_option maxRecDepth 10000

theorem far_is (b : Control) (v : Int) : farB b v = (decide (v ≠ noneV) && (decide (v < 0) || decide (countC b ≤ v))) := rfl
theorem verify_ok {a b : Control} {ks : List Int} (h1 : checkC a = 0) (h2 : checkC b = 0) (h3 : (ks.length : Int) = countC a) (h4 : ks.any (farB b) = false) : verifyQ a b ks = if frameB a b ks = false then 15 else if (List.range a.signals.length).all (fitB a b ks) = true then 0 else 15 := by
  unfold verifyQ provesB
  rw [if_neg (by rw [h1]; simp), if_neg (by rw [h2]; simp), if_neg (by rw [h3]; simp), if_neg (by rw [h4]; simp)]
  cases frameB a b ks <;> simp
theorem Verify_end {a b : Control} {ks : List Int} (oa : OkC a) (ob : OkC b) (h1 : checkC a = 0) (h2 : checkC b = 0) (hR : RelL a b ks) (h4 : ks.any (farB b) = false) :
    vcC ⟨Tryz.prog, none, 72⟩ (restC Tryz.f23 4) (hdE [(2, aIs ks), (3, .rptr (encC a)), (4, .rptr (encC b)), (6, aI 0)] []) [] (RetV Tryz.prog [.tmp 6] fun r' H' => (frz H' r').1 ∧ (frz H' r').2 = aI (verifyQ a b ks)) := by
  have ha := fine_of h1
  have hb := fine_of h2
  have pa := pil_of h1
  have pb := pil_of h2
  have c1 := framed_fn a b ks ha hb pa pb hR
  have hsg := ha.sig
  have h0 := ha.f0
  have hla := count_le0 ha
  have hca := count_first a
  rw [verify_ok h1 h2 hR.len h4]
  refine vc_rest rfl ?_
  simp
  refine c1.s ?_
  cases hfr : frameB a b ks
  · simp
  · simp
    refine V.forI (σ := Unit) (kv := [(2, aIs ks), (3, .rptr (encC a)), (4, .rptr (encC b)), (58, aI a.signals.length)]) a.signals.length [2, 3, 4, 58] (by simp) (fun i _ => [(59, aI i), (6, aI 0)]) (fun _ _ => []) (fun i _ => ∀ j, j < i → fitB a b ks j = true) () (by intro j hj; omega) (by simp) ⟨by simp; exact rfl, by simp⟩ ?_ ?_
    · rintro i - hi hI
      have c2 := does_fn a b ks i hi ha hb oa ob hR
      simp [hi]
      refine V.draw (fun s => if s = 66 then some (.fn (aI (firstC a))) else if s = 69 then some (.fn (aB (fitB a b ks i))) else none) (by kernel_rfl) (by kernel_rfl) (by simp) ?_
      simp
      refine ⟨firstQ_fn a ha.sm, by omega, c2, ?_⟩
      refine ⟨fun h => ⟨i, hi, h⟩, fun h => ⟨by omega, fun j hj => ?_⟩⟩
      rcases Nat.lt_or_ge j i with h3 | h3
      · exact hI j h3
      · obtain rfl : j = i := by omega
        exact h
    · rintro - hI
      simp
      exact hI
theorem Verify_fn (a b : Control) (ks : List Int) (oa : OkC a) (ob : OkC b) (hs : ks.length ≤ 1000000) : CallFn Tryz.prog 23 [aC a, aC b, aIs ks] (aI (verifyQ a b ks)) := by
  refine callFz_cut 4 Tryz.func23 rfl Tryz.ntmps23 (rs := [.tmp 6]) rfl (by kernel_rfl) (by simp) (by kernel_rfl) ?_
  simp
  refine V.forI (σ := Unit) (kv := [(2, aIs ks), (3, .rptr (encC a)), (4, .rptr (encC b)), (15, .dat (.sl [encC a, encC b])), (16, aI 2)]) 2 [2, 3, 4, 15, 16] (by simp) (fun i _ => [(17, aI i), (6, aI 0)]) (fun _ _ => []) (fun i _ => (0 < i → checkC a = 0) ∧ (1 < i → checkC b = 0)) () ⟨fun h => absurd h (by omega), fun h => absurd h (by omega)⟩ (by simp) ⟨by simp; exact rfl, by simp⟩ ?_ ?_
  · rintro i - hi ⟨k1, k2⟩
    obtain rfl | rfl : i = 0 ∨ i = 1 := by omega
    · simp
      intro b8
      refine (Check_fn a oa).s ?_
      simp
      by_cases hz : checkC a = 0
      · simp [hz]
      · have e : verifyQ a b ks = checkC a := by unfold verifyQ; rw [if_pos hz]
        simp [hz, e]
    · simp
      intro b8
      refine (Check_fn b ob).s ?_
      simp
      by_cases hz : checkC b = 0
      · simp [hz]
        exact k1 (by omega)
      · have e : verifyQ a b ks = checkC b := by unfold verifyQ; rw [if_neg (by rw [k1 (by omega)]; simp), if_pos hz]
        simp [hz, e]
  · rintro - ⟨k1, k2⟩
    have hza := k1 (by omega)
    have hzb := k2 (by omega)
    have ha := fine_of hza
    have hb := fine_of hzb
    have hla := count_le0 ha
    have hlb := count_le0 hb
    simp
    refine (linesQ_fn a ha.sm).s ?_
    by_cases hl : (ks.length : Int) = countC a
    · simp [hl]
      refine V.forI (σ := Unit) (kv := [(2, aIs ks), (3, .rptr (encC a)), (4, .rptr (encC b)), (32, aIs ks), (33, aI (countC a))]) ks.length [2, 3, 4, 32, 33] (by simp [hl]) (fun i _ => [(34, aI i), (6, aI 0)]) (fun _ _ => []) (fun i _ => ∀ j, j < i → ∀ v, ks[j]? = some v → farB b v = false) () (by intro j hj; omega) (by simp) ⟨by simp; exact rfl, by simp⟩ ?_ ?_
      · rintro i - hi hI
        obtain ⟨v, hv⟩ : ∃ v, ks[i]'hi = v := ⟨_, rfl⟩
        have hvo : ks[i]? = some v := by rw [List.getElem?_eq_getElem hi, hv]
        have hf := far_is b v
        have hlt : (i : Int) < countC a := by omega
        simp [hlt, hi, hv]
        refine GCall.fn (aI (countC b)) (fun h => ⟨by first | exact h | trivial, linesQ_fn b hb.sm⟩) ?_
        cases hfv : farB b v with
        | true =>
          have h4 : ks.any (farB b) = true := List.any_eq_true.2 ⟨v, List.mem_of_getElem? hvo, hfv⟩
          have e : verifyQ a b ks = 2 := by unfold verifyQ; rw [if_neg (by rw [hza]; simp), if_neg (by rw [hzb]; simp), if_neg (by rw [hl]; simp), if_pos h4]
          rw [hfv] at hf
          have h5 := hf.symm
          simp only [Bool.and_eq_true, Bool.or_eq_true, decide_eq_true_eq] at h5
          have hn : ¬ v = -1099511627776 := h5.1
          rw [e]
          rcases h5.2 with h6 | h6
          · simp [hn, h6]
          · by_cases h7 : v < 0
            · simp [hn, h7]
            · simp [hn, h7, h6]
              omega
        | false =>
          rw [hfv] at hf
          have hI2 : ∀ j, j < i + 1 → ∀ v, ks[j]? = some v → farB b v = false := by
            intro j hj w hw
            rcases Nat.lt_or_ge j i with h3 | h3
            · exact hI j h3 w hw
            · obtain rfl : j = i := by omega
              rw [hvo] at hw
              cases hw
              exact hfv
          by_cases hn : v = -1099511627776
          · simp [hn]
            exact ⟨by omega, hI2⟩
          · have h5 := hf.symm
            have hn' : v ≠ noneV := hn
            simp [hn'] at h5
            have h6 : ¬ v < 0 := by omega
            have h7 : ¬ countC b ≤ v := by omega
            simp [hn, h6, h7]
            exact ⟨by omega, by omega, hI2⟩
      · rintro - hI
        have h4 : ks.any (farB b) = false := by
          rw [List.any_eq_false]
          intro v hv
          obtain ⟨j, hj⟩ := List.getElem?_of_mem hv
          rw [hI j (List.getElem?_eq_some_iff.1 hj).1 v hj]
          simp
        have hR : RelL a b ks := ⟨hl, fun v hv => by simpa using (List.any_eq_false.1 h4) v hv⟩
        have hlt : ¬ (ks.length : Int) < countC a := by omega
        simp [hlt]
        exact V.cut [(2, aIs ks), (3, .rptr (encC a)), (4, .rptr (encC b)), (6, aI 0)] (by simp) (by simp) (vc_of_rest rfl (Verify_end oa ob hza hzb hR h4))
    · have e : verifyQ a b ks = 8 := by unfold verifyQ; rw [if_neg (by rw [hza]; simp), if_neg (by rw [hzb]; simp), if_pos hl]
      simp [hl, e]

end Go.Proofs.YthlpelkcmmaokaaGreat
end

/- Plain: the chapter's example, reckoned out. -/
section
namespace Go.Proofs.YthlpelkcmmaokaaGreat
set_option maxHeartbeats 2000000
set_option maxRecDepth 10000

def ownB (c : Control) (n : Nat) : Bool := rootP c (firstC c + n) == firstC c + n
def idB (c : Control) (o : Option (List Int)) (a b : Nat) : Bool := match c.signals[a]?, c.signals[b]? with
  | some x, some y => (match o with
    | none => true
    | some l => l.getD (firstC c + a).toNat 0 == l.getD (firstC c + b).toNat 0) && alikeX o x y
  | _, _ => false
def leadB (c : Control) (o : Option (List Int)) (n : Nat) : Nat := ((List.range n).find? fun j => ownB c j && idB c o j n).getD n
theorem leadB_is {c : Control} {o : Option (List Int)} {n : Nat} (hn : n < c.signals.length) : leadN c o n = leadB c o n := by
  unfold leadN leadB
  congr 1
  have hc : ∀ j ∈ List.range n, (@decide (ownQ c j ∧ idK c o j = idK c o n) (Classical.propDecidable _)) = (ownB c j && idB c o j n) := by
    intro j hj
    have hjn := List.mem_range.1 hj
    have hx : c.signals[j]? = some c.signals[j] := List.getElem?_eq_getElem (by omega)
    have hy : c.signals[n]? = some c.signals[n] := List.getElem?_eq_getElem hn
    rw [Bool.eq_iff_iff]
    simp only [decide_eq_true_eq, Bool.and_eq_true]
    rw [id_iff hx hy]
    unfold idB
    rw [hx, hy]
    have h1 : ownQ c j ↔ ownB c j = true := by
      unfold ownQ ownB
      simp
    rw [h1]
    refine and_congr Iff.rfl ?_
    simp only [Bool.and_eq_true]
    refine and_congr ?_ Iff.rfl
    cases o with
    | none => simp
    | some l => simp
  generalize List.range n = l at hc
  induction l with
  | nil => rfl
  | cons a l ih =>
    simp only [List.find?_cons]
    rw [hc a (by simp), ih fun j hj => hc j (by simp [hj])]
def divB (c : Control) (o : Option (List Int)) : List Int := (List.range (countC c).toNat).map fun k : Nat => if rootP c k < firstC c then rootP c k else firstC c + leadB c o (rootP c k - firstC c).toNat
theorem divB_is {c : Control} (hf : Fine c) (o : Option (List Int)) : divP c o = divB c o := by
  have h0 : 0 ≤ firstC c := by have := hf.act; unfold firstC; omega
  have hcn : countC c = firstC c + c.signals.length := rfl
  unfold divP divB
  apply List.map_congr_left
  intro k hk
  have hk2 := List.mem_range.1 hk
  have hr := (root_range hf _ (k : Int) (Nat.le_refl _) ⟨by omega, by omega⟩).1
  unfold divL
  split
  · rfl
  · rw [leadB_is (by omega)]
def clsB (c : Control) : Nat → Option (List Int)
  | 0 => none
  | k + 1 => some (divB c (clsB c k))
theorem clsB_is {c : Control} (hf : Fine c) : ∀ k, clsO c k = clsB c k
  | 0 => rfl
  | k + 1 => by
    show some (divP c (clsO c k)) = some (divB c (clsB c k))
    rw [clsB_is hf k, divB_is hf]
theorem alikeB_is {c : Control} (hf : Fine c) : alikeC c = divB c (clsB c (c.signals.length + 1)) := by
  show divP c (clsO c (c.signals.length + 1)) = _
  rw [clsB_is hf, divB_is hf]

def notR (a : Int) : Expr := ⟨2, 0, [onX a]⟩
def lampR : Control := ⟨1, [[115, 116, 97, 114, 116]], [⟨[103, 111], 1, onX 2, onX 1, 0, false⟩, ⟨[97, 103, 97, 105, 110], 0, onX 3, noX, 0, false⟩, ⟨[116, 111, 111], 1, onX 2, onX 1, 0, false⟩, ⟨[98, 97, 99, 107], 0, notR 4, noX, 0, false⟩, ⟨[108, 97, 109, 112], 0, notR 2, noX, 0, false⟩], [5], [6]⟩
def lampZ : Control := ⟨1, [[115, 116, 97, 114, 116]], [⟨[103, 111], 1, onX 2, onX 1, 0, false⟩, ⟨[98, 97, 99, 107], 0, notR 3, noX, 0, false⟩], [3], [4]⟩
theorem lampR_check : checkC lampR = 0 := by decide +kernel
theorem lampR_root : rootP lampR 4 = 3 := by decide +kernel
theorem lampR_count : countC lampR = 8 ∧ firstC lampR = 3 := by decide
theorem lampR_alike : alikeC lampR = [0, 1, 2, 3, 3, 3, 6, 7] := by
  rw [alikeB_is (fine_of lampR_check)]
  decide +kernel

theorem lampR_pil : PilC lampR := ⟨by decide, by decide, by decide, by decide⟩
theorem lampR_fine : Fine lampR := fine_of lampR_check
theorem lampR_cls (k : Int) (h0 : 0 ≤ k) (h1 : k < 8) : clsL lampR k = ([0, 1, 2, 3, 3, 3, 6, 7] : List Int).getD k.toNat 0 := by
  rw [← cls_getD lampR_fine ⟨h0, by rw [lampR_count.1]; exact h1⟩, lampR_alike]
theorem lampR_need (v : Int) : Need lampR v ↔ v = 3 ∨ v = 6 := by
  have hc := lampR_count
  constructor
  · intro h
    induction h with
    | @pilot p h1 h2 =>
      have hp : p = 5 ∨ p = 6 := by
        rcases h1 with h | h
        · left; simpa [lampR] using h
        · right; simpa [lampR] using h
      rcases hp with rfl | rfl
      · left; rw [lampR_cls 5 (by decide) (by decide)]; rfl
      · right; rw [lampR_cls 6 (by decide) (by decide)]; rfl
    | @use k u h1 h2 h3 ih =>
      rw [hc.2] at h3
      have hu : u = 1 ∨ u = 2 ∨ u = 4 := by
        rcases ih with rfl | rfl
        · unfold useL at h2
          rw [hc.2] at h2
          have hx : lampR.signals[((3 : Int) - 3).toNat]? = some ⟨[103, 111], 1, onX 2, onX 1, 0, false⟩ := rfl
          rw [hx] at h2
          have := (met_uses lampR_fine (i := 0) hx u).1 h2
          simp [varsE, varsL, onX] at this
          omega
        · unfold useL at h2
          rw [hc.2] at h2
          have hx : lampR.signals[((6 : Int) - 3).toNat]? = some ⟨[98, 97, 99, 107], 0, notR 4, noX, 0, false⟩ := rfl
          rw [hx] at h2
          have := (met_uses lampR_fine (i := 3) hx u).1 h2
          simp [varsE, varsL, notR, onX, noX] at this
          omega
      rcases hu with rfl | rfl | rfl
      · rw [lampR_cls 1 (by decide) (by decide)] at h3
        exact absurd h3 (by decide)
      · rw [lampR_cls 2 (by decide) (by decide)] at h3
        exact absurd h3 (by decide)
      · left; rw [lampR_cls 4 (by decide) (by decide)]; rfl
  · rintro (rfl | rfl)
    · have e : clsL lampR 5 = 3 := by rw [lampR_cls 5 (by decide) (by decide)]; rfl
      have := Need.pilot (c := lampR) (p := 5) (.inl (by decide)) (by rw [e, hc.2]; decide)
      rwa [e] at this
    · have e : clsL lampR 6 = 6 := by rw [lampR_cls 6 (by decide) (by decide)]; rfl
      have := Need.pilot (c := lampR) (p := 6) (.inr (by decide)) (by rw [e, hc.2]; decide)
      rwa [e] at this
theorem lampR_needL : needL lampR = [3, 6] := by
  refine lt_ext (need_sorted _) (by decide) ?_
  intro z
  rw [mem_need lampR_fine lampR_pil, lampR_need]
  simp
theorem lampR_keep : keepP lampR = [0, 1, 2, 3, 3, 3, 4, noneV] := by
  have hc := lampR_count
  have hk0 : ∀ k : Nat, k < 8 → keepL lampR k = (let q := ([0, 1, 2, 3, 3, 3, 6, 7] : List Int).getD k 0; if q < 3 then q else if q = 3 ∨ q = 6 then 3 + ((([3, 6] : List Int).filter fun w => decide (w < q)).length : Int) else noneV) := by
    intro k hk
    have e := lampR_cls k (by omega) (by omega)
    rw [Int.toNat_natCast] at e
    unfold keepL posN
    rw [e, hc.2, lampR_needL]
    generalize ([0, 1, 2, 3, 3, 3, 6, 7] : List Int).getD k 0 = q
    show _ = if q < 3 then q else if q = 3 ∨ q = 6 then 3 + ((([3, 6] : List Int).filter fun w => decide (w < q)).length : Int) else noneV
    by_cases h1 : q < 3
    · rw [if_pos h1, if_pos h1]
    · rw [if_neg h1, if_neg h1]
      by_cases h2 : q = 3 ∨ q = 6
      · rw [if_pos h2, if_pos ((lampR_need q).2 h2)]
      · rw [if_neg h2, if_neg fun h => h2 ((lampR_need q).1 h)]
  unfold keepP
  rw [hc.1]
  have e : (List.range (8 : Int).toNat).map (fun k : Nat => keepL lampR k) = (List.range 8).map fun k : Nat => (let q := ([0, 1, 2, 3, 3, 3, 6, 7] : List Int).getD k 0; if q < 3 then q else if q = 3 ∨ q = 6 then 3 + ((([3, 6] : List Int).filter fun w => decide (w < q)).length : Int) else noneV) := by
    apply List.map_congr_left
    intro k hk
    exact hk0 k (by simpa using hk)
  rw [e]
  decide +kernel
theorem lampR_red : redC lampR = lampZ := by
  unfold redC
  rw [lampR_needL]
  have e1 : keepL lampR 5 = 3 := by rw [← keep_getD ⟨by decide, by decide⟩, lampR_keep]; rfl
  have e2 : keepL lampR 6 = 4 := by rw [← keep_getD ⟨by decide, by decide⟩, lampR_keep]; rfl
  have e3 : lampR.plus.map (keepL lampR) = [3] := by show [keepL lampR 5] = [3]; rw [e1]
  have e4 : lampR.minus.map (keepL lampR) = [4] := by show [keepL lampR 6] = [4]; rw [e2]
  rw [e3, e4]
  unfold redX
  rw [lampR_keep]
  rfl
theorem lampR_bad : verifyQ lampR lampZ [0, 1, 2, 3, 3, 3, 4, 4] = 15 := by decide +kernel
theorem lampR_good : verifyQ lampR lampZ [0, 1, 2, 3, 3, 3, 4, noneV] = 0 := by decide +kernel

end Go.Proofs.YthlpelkcmmaokaaGreat
end

/- Contracts: law 38: Lamp, awake. -/
section
namespace Go.Proofs.YthlpelkcmmaokaaGreat
set_option maxHeartbeats 4000000
set_option maxRecDepth 10000

theorem line38_fn (n : Int) : CallFn Tryz.prog 77 [aI n] (aE (onX n)) := by
  refine callFz_of Tryz.func77 rfl Tryz.ntmps77 (rs := [.cell 2 74]) rfl (by kernel_rfl) (by simp) (by kernel_rfl) ?_
  simp
  exact ⟨rfl, rfl, rfl⟩
theorem not38_s (n : Int) (b1 : Nat) : CallS Tryz.prog 78 [aI n, .ptr 1 b1 0] [(1, .box b1 [.fn 77 [] []])] fun r H' => r = aE (notR n) ∧ H' = [(1, .box b1 [.fn 77 [] []])] := by
  refine CallS.dropP (callS_of Tryz.func78 rfl Tryz.ntmps78 (rs := [.cell 3 74]) rfl (by kernel_rfl) (by simp) (by kernel_rfl) (K := fun r H' => r = aE (notR n) ∧ subP [(1, .box b1 [.fn 77 [] []])] H') ?_) (fun r H' h => ⟨_, h.2, h.1, rfl⟩)
  simp
  intro b3
  refine (line38_fn n).s ?_
  simp [notR, encE_eq]
  exact (subP.refl _).c _
theorem notR_ok (a : Int) (ha : I64 a) : OkE (notR a) := OkE.mk _ (by simp [notR]) ((inR_i64 _).2 (by simp [notR])) ((inR_i64 _).2 (by simp [notR])) (by
  intro x hx
  simp only [notR, List.mem_cons, List.not_mem_nil, or_false] at hx
  rcases hx with rfl
  exact onX_ok a ha)
theorem lampR_ok : OkC lampR := ⟨by decide, by decide, by decide, by decide, by
  intro s hs
  simp only [lampR, List.mem_cons, List.not_mem_nil, or_false] at hs
  rcases hs with rfl | rfl | rfl | rfl | rfl
  · exact ⟨by decide, by decide, onX_ok 2 (by decide), onX_ok 1 (by decide), by decide⟩
  · exact ⟨by decide, by decide, onX_ok 3 (by decide), noX_ok, by decide⟩
  · exact ⟨by decide, by decide, onX_ok 2 (by decide), onX_ok 1 (by decide), by decide⟩
  · exact ⟨by decide, by decide, notR_ok 4 (by decide), noX_ok, by decide⟩
  · exact ⟨by decide, by decide, notR_ok 2 (by decide), noX_ok, by decide⟩, by decide, by decide, by decide, by decide⟩
theorem lampZ_ok : OkC lampZ := ⟨by decide, by decide, by decide, by decide, by
  intro s hs
  simp only [lampZ, List.mem_cons, List.not_mem_nil, or_false] at hs
  rcases hs with rfl | rfl
  · exact ⟨by decide, by decide, onX_ok 2 (by decide), onX_ok 1 (by decide), by decide⟩
  · exact ⟨by decide, by decide, notR_ok 3 (by decide), noX_ok, by decide⟩, by decide, by decide, by decide, by decide⟩
theorem Lamp38_fn : CallFn Tryz.prog 39 [] (aC lampR) := by
  have l1 := line38_fn 1
  have l2 := line38_fn 2
  have l3 := line38_fn 3
  refine callFz_of Tryz.func39 rfl Tryz.ntmps39 (rs := [.cell 0 26]) rfl (by kernel_rfl) (by simp) (by kernel_rfl) ?_
  simp
  intro b0 b1
  have n4 := not38_s 4 b1
  have n2 := not38_s 2 b1
  refine V.drawX (fun t => if t = 6 then some (.fn (aE (onX 2))) else if t = 8 then some (.fn (aE (onX 1))) else if t = 11 then some (.fn (aE (onX 3))) else if t = 14 then some (.fn (aE (onX 2))) else if t = 16 then some (.fn (aE (onX 1))) else if t = 19 then some (.ro (aE (notR 4))) else if t = 22 then some (.ro (aE (notR 2))) else none) (by kernel_rfl) (by kernel_rfl) (by simp) ?_
  simp
  exact ⟨l2, l1, l3, l2, l1, n4, n2, rfl, rfl, by simp [lampR, notR, onX, noX, encE_eq], rfl, rfl⟩

def kgood : List Int := [0, 1, 2, 3, 3, 3, 4, noneV]
def kbad : List Int := [0, 1, 2, 3, 3, 3, 4, 4]
theorem awake_c {c z : Control} {b1 b8 : Nat} (vg : CallFn Tryz.prog 23 [aC c, aC z, aIs kgood] (aI 0)) (vb : CallFn Tryz.prog 23 [aC c, aC z, aIs kbad] (aI 15))
    (e3 : CallFn Tryz.prog 16 [aIs z.plus, aIs [3]] (aB true)) (e4 : CallFn Tryz.prog 16 [aIs z.minus, aIs [4]] (aB true)) :
    vcC ⟨Tryz.prog, none, 98⟩ (restC Tryz.f11 7) (hdE [(0, aB false), (1, .ptr 1 b1 0), (8, .ptr 8 b8 0), (9, aIs kgood)] [])
      [(8, .box b8 ((encC z).map A.dat)), (1, .box b1 ((encC c).map A.dat))] (RetV Tryz.prog [.tmp 0] fun r' H' => (frz H' r').1 ∧ (frz H' r').2 = aB true) := by
  have ck := cloneI_o kgood (by decide)
  refine vc_rest rfl ?_
  simp [encC]
  refine ck.lend 70 (by simp [hget]) (by simp) fun hd => ?_
  simp [kgood, rI]
  refine e3.s ?_
  simp
  refine GCall.fn (aB true) (fun h => ⟨trivial, e4⟩) ?_
  simp
  refine GCall.fn (aI 0) (fun h => ⟨trivial, vg⟩) ?_
  simp
  refine GCall.ways (fun _ => ⟨trivial, vb.lend ?_ (by simp) ?_⟩) (fun h => absurd trivial h)
  · simp [hget, packA, encC, kbad]
  · simp
theorem awake_b {c z : Control} {b1 b8 : Nat} (hz : z.signals.length = 2) (e1 : CallFn Tryz.prog 16 [aIs [0, 1, 2, 3, 3, 3, 6, 7], aIs [0, 1, 2, 3, 3, 3, 6, 7]] (aB true)) (e2 : CallFn Tryz.prog 16 [aIs [3, 6], aIs [3, 6]] (aB true)) (e5 : CallFn Tryz.prog 16 [aIs kgood, aIs kgood] (aB true))
    (hv : vcC ⟨Tryz.prog, none, 98⟩ (restC Tryz.f11 7) (hdE [(0, aB false), (1, .ptr 1 b1 0), (8, .ptr 8 b8 0), (9, aIs kgood)] [])
      [(8, .box b8 ((encC z).map A.dat)), (1, .box b1 ((encC c).map A.dat))] (RetV Tryz.prog [.tmp 0] fun r' H' => (frz H' r').1 ∧ (frz H' r').2 = aB true)) :
    vcN ⟨Tryz.prog, none, 98⟩ 1 (restC Tryz.f11 6) (hdE [(0, aB false), (1, .ptr 1 b1 0), (2, aI 3), (3, aI 0), (4, aIs [0, 1, 2, 3, 3, 3, 6, 7]), (5, aI 0), (6, aIs [3, 6]), (7, aI 0), (8, .ptr 8 b8 0), (9, aIs kgood), (10, aI 0)] [])
      [(8, .box b8 ((encC z).map A.dat)), (1, .box b1 ((encC c).map A.dat))] (RetV Tryz.prog [.tmp 0] fun r' H' => (frz H' r').1 ∧ (frz H' r').2 = aB true) := by
  refine vcN_rest rfl ?_
  simp [encC, hz]
  refine GCall.fn (aB true) (fun h => ⟨trivial, e1⟩) ?_
  simp
  refine GCall.fn (aB true) (fun h => ⟨trivial, e2⟩) ?_
  simp
  refine GCall.fn (aB true) (fun h => ⟨trivial, e5⟩) ?_
  simp
  exact ⟨by omega, fun _ => V.cut [(0, aB false), (1, .ptr 1 b1 0), (8, .ptr 8 b8 0), (9, aIs kgood)] (by simp) (by simp [encC]) (vc_of_rest rfl hv)⟩
theorem awake_a {c z : Control} {b1 : Nat} (q4 : CallFn Tryz.prog 17 [aC c] (.tuple [aIs [3, 6], aI 0])) (q5 : CallFn Tryz.prog 19 [aC c] (.tuple [aC z, aIs kgood, aI 0]))
    (hv : ∀ b8, vcN ⟨Tryz.prog, none, 98⟩ 1 (restC Tryz.f11 6) (hdE [(0, aB false), (1, .ptr 1 b1 0), (2, aI 3), (3, aI 0), (4, aIs [0, 1, 2, 3, 3, 3, 6, 7]), (5, aI 0), (6, aIs [3, 6]), (7, aI 0), (8, .ptr 8 b8 0), (9, aIs kgood), (10, aI 0)] [])
      [(8, .box b8 ((encC z).map A.dat)), (1, .box b1 ((encC c).map A.dat))] (RetV Tryz.prog [.tmp 0] fun r' H' => (frz H' r').1 ∧ (frz H' r').2 = aB true)) :
    vcN ⟨Tryz.prog, none, 98⟩ 2 (restC Tryz.f11 4) (hdE [(0, aB false), (1, .ptr 1 b1 0), (2, aI 3), (3, aI 0), (4, aIs [0, 1, 2, 3, 3, 3, 6, 7]), (5, aI 0)] [])
      [(1, .box b1 ((encC c).map A.dat))] (RetV Tryz.prog [.tmp 0] fun r' H' => (frz H' r').1 ∧ (frz H' r').2 = aB true) := by
  refine vcN_rest rfl ?_
  simp [encC]
  refine q4.s ?_
  simp
  refine q5.s ?_
  simp
  intro b8
  exact V.cutN 1 [(0, aB false), (1, .ptr 1 b1 0), (2, aI 3), (3, aI 0), (4, aIs [0, 1, 2, 3, 3, 3, 6, 7]), (5, aI 0), (6, aIs [3, 6]), (7, aI 0), (8, .ptr 8 b8 0), (9, aIs kgood), (10, aI 0)] (by simp) (by simp [encC]) (vcN_of_rest rfl (hv b8))
theorem awake38_fn : CallFn Tryz.prog 11 [] (aB true) := by
  have q2 := Root_fn lampR 4 lampR_ok
  rw [show rootQ lampR 4 = (3, 0) by simp [rootQ, lampR_check, lampR_root, lampR_count]] at q2
  have q3 := Classes_fn lampR lampR_ok
  rw [show classesQ lampR = ([0, 1, 2, 3, 3, 3, 6, 7], 0) by simp [classesQ, lampR_check, lampR_alike]] at q3
  have q4 := Needed_fn lampR lampR_ok
  rw [show neededQ lampR = ([3, 6], 0) by simp [neededQ, lampR_check, lampR_needL]] at q4
  have q5 := Reduce_fn lampR lampR_ok
  rw [show reduceQ lampR = (lampZ, kgood, 0) by simp [reduceQ, lampR_check, lampR_red, lampR_keep, kgood]] at q5
  have e1 := eqI_fn [0, 1, 2, 3, 3, 3, 6, 7] [0, 1, 2, 3, 3, 3, 6, 7] (by decide) (by decide)
  rw [decide_eq_true rfl] at e1
  have e2 := eqI_fn [3, 6] [3, 6] (by decide) (by decide)
  rw [decide_eq_true rfl] at e2
  have e3 := eqI_fn lampZ.plus [3] (by decide) (by decide)
  rw [show decide (lampZ.plus = [3]) = true from rfl] at e3
  have e4 := eqI_fn lampZ.minus [4] (by decide) (by decide)
  rw [show decide (lampZ.minus = [4]) = true from rfl] at e4
  have e5 := eqI_fn kgood kgood (by decide) (by decide)
  rw [decide_eq_true rfl] at e5
  have vg := Verify_fn lampR lampZ kgood lampR_ok lampZ_ok (by decide)
  rw [show verifyQ lampR lampZ kgood = 0 from lampR_good] at vg
  have vb := Verify_fn lampR lampZ kbad lampR_ok lampZ_ok (by decide)
  rw [show verifyQ lampR lampZ kbad = 15 from lampR_bad] at vb
  have hz : lampZ.signals.length = 2 := rfl
  have hL := Lamp38_fn
  generalize lampR = c at *
  generalize lampZ = z at *
  refine callFz_cut 4 Tryz.func11 rfl Tryz.ntmps11 (rs := [.tmp 0]) rfl (by kernel_rfl) (by simp) (by kernel_rfl) ?_
  simp
  refine hL.s ?_
  simp [encC]
  intro b1
  refine q2.s ?_
  simp
  refine q3.s ?_
  simp
  exact V.cutN 2 [(0, aB false), (1, .ptr 1 b1 0), (2, aI 3), (3, aI 0), (4, aIs [0, 1, 2, 3, 3, 3, 6, 7]), (5, aI 0)] (by simp) (by simp [encC]) (vcN_of_rest rfl (awake_a q4 q5 fun b8 => awake_b hz e1 e2 e5 (awake_c vg vb e3 e4)))

end Go.Proofs.YthlpelkcmmaokaaGreat
end

/- Laws of chapter 38: Classes, Reduces, Verifies, Proves. -/
section
namespace Go.Proofs.YthlpelkcmmaokaaGreat
set_option maxHeartbeats 4000000
set_option maxRecDepth 10000

theorem keep_i64 {c : Control} (hz : checkC c = 0) {k : Int} (hk : 0 ≤ k ∧ k < countC c) : I64 (keepL c k) := by
  have hf := fine_of hz
  have hp := pil_of hz
  have h1 := count_le hf
  have h2 := red_count_le hf hp
  rcases keep_range hf hp hk with h | h
  · rw [h]; decide
  · constructor <;> omega
theorem keepP_i64 {c : Control} (hz : checkC c = 0) : ∀ v ∈ keepP c, I64 v := by
  have hf := fine_of hz
  have hfc := hf.f0
  have hcn := count_first c
  intro v hv
  unfold keepP at hv
  obtain ⟨k, hk, rfl⟩ := List.mem_map.1 hv
  rw [List.mem_range] at hk
  exact keep_i64 hz (by omega)
theorem red_ok {c : Control} (hz : checkC c = 0) (hc : OkC c) : OkC (redC c) := by
  have hf := fine_of hz
  have hp := pil_of hz
  have hl := need_len hf hp
  have hs := hf.sig
  have hact := hf.act
  refine ⟨hc.actuators, hc.inputs, hc.names, ?_, ?_, ?_, ?_, ?_, ?_⟩
  · show ((needL c).map _).length ≤ _
    rw [List.length_map]
    omega
  · intro s hs
    obtain ⟨k, hk, rfl⟩ := List.mem_map.1 hs
    obtain ⟨n, x, -, hx, -, e, -⟩ := need_sig hf hp ((mem_need hf hp).1 hk)
    have ho := hc.sigs x (List.mem_of_getElem? hx)
    rw [e]
    exact ⟨ho.name, ho.kind, rep_ok (keepP_i64 hz) _ x.on (Nat.lt_succ_self _) ho.on, rep_ok (keepP_i64 hz) _ x.off (Nat.lt_succ_self _) ho.off, ho.delay⟩
  · show (c.plus.map _).length ≤ _
    rw [List.length_map]
    exact hc.plus
  · show (c.minus.map _).length ≤ _
    rw [List.length_map]
    exact hc.minus
  · intro v hv
    obtain ⟨k, hk, rfl⟩ := List.mem_map.1 hv
    exact keep_i64 hz (hp.2.2.1 k hk)
  · intro v hv
    obtain ⟨k, hk, rfl⟩ := List.mem_map.1 hv
    exact keep_i64 hz (hp.2.2.2 k hk)
end Go.Proofs.YthlpelkcmmaokaaGreat
end
