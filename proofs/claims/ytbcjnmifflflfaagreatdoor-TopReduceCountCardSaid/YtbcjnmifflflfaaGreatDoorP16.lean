/- Texts joined by a program: Ei, Pb, Hg, Hm, Ya, Yb, Yc, El. -/
import Derived.Test.YtbcjnmifflflfaaGreatDoorP15
import Derived.Test.YtbcjnmifflflfaaGreatDoorP14
import Derived.Test.YtbcjnmifflflfaaGreatDoorP12
import Derived.Test.YtbcjnmifflflfaaGreatDoorP13
set_option linter.unusedSimpArgs false
set_option linter.unusedVariables false

/- Contracts: same states, few states, few controls. -/
section
namespace Go.Proofs.YtbcjnmifflflfaaGreatDoor
set_option maxHeartbeats 4000000
set_option maxRecDepth 10000

def sameSt (a b : State) : Bool := decide (a.ends = b.ends) && decide (a.valves = b.valves) && decide (a.inputs = b.inputs) && decide (a.values = b.values) && decide (a.timers = b.timers)
def fewS (s : State) : Bool := decide ((s.ends.length : Int) ≤ 40) && decide ((s.valves.length : Int) ≤ 40) && decide ((s.inputs.length : Int) ≤ 200) && decide ((s.values.length : Int) ≤ 200) && decide ((s.timers.length : Int) ≤ 200)
def fewN (c : Control) : Bool := !(((((decide ((c.inputs.length : Int) > 32) || (decide ((c.signals.length : Int) > 16) && decide ((c.signals.length : Int) ≤ 64))) || decide ((c.signals.length : Int) > 128)) || decide ((c.plus.length : Int) > 40)) || decide ((c.minus.length : Int) > 40)))
def longB (s : List UInt8) : Bool := decide ((s.length : Int) > 200)
def heavyB (s : Signal) : Bool := longB s.name || !lightE s.on || !lightE s.off
def fewC (c : Control) : Bool := fewN c && !(c.inputs.any longB) && !(c.signals.any heavyB)
theorem few_c {c : Control} (h : fewC c = true) : c.plus.length ≤ 1000000 ∧ c.minus.length ≤ 1000000 := by
  simp only [fewC, fewN, Bool.and_eq_true, Bool.not_eq_true', Bool.or_eq_false_iff, decide_eq_false_iff_not] at h
  obtain ⟨⟨⟨⟨⟨h1, h2⟩, h3⟩, h4⟩, h5⟩, h6⟩ := h
  omega

theorem Few_fn (c : Control) (hc : OkC c) : CallFn Tryz.prog 11 [aC c] (aB (fewC c)) := by
  have h1 := hc.inputs
  have h2 := hc.signals
  have h3 := hc.plus
  have h4 := hc.minus
  refine callFz_of Tryz.func11 rfl Tryz.ntmps11 (rs := [.tmp 2]) rfl (by kernel_rfl) (by simp) (by kernel_rfl) ?_
  by_cases hn : fewN c = true
  · have e : fewC c = (!(c.inputs.any longB) && !(c.signals.any heavyB)) := by rw [fewC, hn]; rfl
    have hn' := hn
    simp only [fewN, Bool.not_eq_true', Bool.or_eq_false_iff, Bool.and_eq_false_iff, decide_eq_false_iff_not] at hn'
    obtain ⟨⟨⟨⟨k1, k2⟩, k3⟩, k4⟩, k5⟩ := hn'
    simp [fewN] at hn
    simp [hn]
    refine ⟨fun h => by omega, fun _ => ?_⟩
    refine V.forI (σ := Unit) c.inputs.length [1] (by simp; exact rfl) (fun i _ => [(3, aI i)]) (fun _ _ => []) (fun i _ => NoF longB (c.inputs.take i)) () (by simp [NoF]) (by simp) ⟨by simp; exact rfl, by simp⟩ ?_ ?_
    · rintro i - hi hI
      obtain ⟨x, hx⟩ : ∃ x, c.inputs[i] = x := ⟨_, rfl⟩
      have hxo : c.inputs[i]? = some x := by rw [List.getElem?_eq_getElem (by omega), hx]
      by_cases hb : longB x = true
      · have e' : fewC c = false := by rw [e, any_at hxo hb]; rfl
        simp [longB] at hb
        simp [hi, hx, e']
        intro h
        omega
      · have hn2 := hI.snoc' hxo (by simpa using hb)
        simp [longB] at hb
        simp [hi, hx, hn2]
        exact ⟨fun h => by omega, fun _ => by omega⟩
    · rintro - hI
      rw [List.take_length] at hI
      have ha := hI.any
      rw [ha] at e
      simp at e
      simp
      refine V.forI (σ := Unit) c.signals.length [1] (by simp; exact rfl) (fun i _ => [(4, aI i)]) (fun _ _ => []) (fun i _ => NoF heavyB (c.signals.take i)) () (by simp [NoF]) (by simp) ⟨by simp; exact rfl, by simp⟩ ?_ ?_
      · rintro i - hi hI
        obtain ⟨x, hx⟩ : ∃ x, c.signals[i] = x := ⟨_, rfl⟩
        have hxo : c.signals[i]? = some x := by rw [List.getElem?_eq_getElem (by omega), hx]
        have hok := hc.sigs x (List.mem_of_getElem? hxo)
        have q1 := light_fn x.on hok.on
        have q2 := light_fn x.off hok.off
        have e' : heavyB x = true → fewC c = false := by
          intro hb
          rw [e, any_at hxo hb]; rfl
        have hn2 : heavyB x = false → NoF heavyB (c.signals.take (i + 1)) := fun hb => hI.snoc' hxo hb
        simp only [heavyB] at e' hn2
        generalize lightE x.on = b1 at *
        generalize lightE x.off = b2 at *
        simp [hi, hx]
        intro b5
        refine GCall.fn (aB b1) (fun h => ⟨by first | trivial | exact h, q1⟩) ?_
        simp
        refine GCall.fn (aB b2) (fun h => ⟨by first | trivial | exact h, q2⟩) ?_
        have hlen : (c.signals.length : Int) ≤ 9223372036854775807 := by omega
        generalize fewC c = fw at e' ⊢
        by_cases hb : (x.name.length : Int) ≤ 200
        · have hb' : longB x.name = false := by simp [longB]; omega
          rw [hb'] at e' hn2
          cases b1 <;> cases b2 <;> simp [hb, Int.not_lt.2 hb] at e' hn2 ⊢ <;> first | (simp [e']; done) | exact ⟨by omega, hn2⟩
        · have hb' : longB x.name = true := by simp [longB]; omega
          rw [hb'] at e'
          simp at e'
          simp [hb, Int.not_le.1 hb, e']
      · rintro - hI
        rw [List.take_length] at hI
        have ha := hI.any
        have e2 : fewC c = true := by rw [e, ha]; rfl
        simp [e2]
  · have e : fewC c = false := by rw [fewC]; simp [hn]
    rw [e]
    simp [fewN] at hn
    simp
    exact ⟨fun h => ⟨h, fun h2 => ⟨h, h2⟩⟩, fun a b d e f => absurd (hn a (by omega) d e) (by omega)⟩

def rightB (c : Control) (s : State) : Bool := fewC c && fewS s && (rightC c s == 0)
end Go.Proofs.YtbcjnmifflflfaaGreatDoor
end

/- Plain laws: gates; names and lines; the first state. -/
section
namespace Go.Proofs.YtbcjnmifflflfaaGreatDoor
set_option maxHeartbeats 1000000

theorem late_not {c : Control} (hf : Fine c) {i : Nat} {x : Signal} (hx : c.signals[i]? = some x) (hk : x.kind = 0) : ∀ n ∈ varsE x.on, n - firstC c < i ∨ kindAt c (n - firstC c) ≠ 0 := by
  have h := hf.sigs i x hx
  unfold signalE at h
  split at h
  · rename_i h1; exact absurd h h1
  · split at h
    · cases h
    · split at h
      · rename_i h1; exact absurd h h1
      · have hl : lateC c i x.on = false := by
          cases hl : lateC c i x.on
          · rfl
          · simp [gateE, hl, hk] at h
        intro n hn
        rw [lateC_any, List.any_eq_false] at hl
        have := hl n hn
        simp only [Bool.and_eq_true, decide_eq_true_eq, beq_iff_eq, not_and] at this
        rcases Classical.em (n - firstC c < i) with h | h
        · exact .inl h
        · exact .inr (this (by omega))
/-! ### Names and lines -/
/-! ### The first state -/
/-! ### Right expressions are light -/
theorem light_check {x : Expr} {n : Int} (h : checkE x n = 0) : lightE x = true := by
  rw [← check_same] at h
  unfold refCheckE at h
  cases hl : lightE x
  · rw [hl] at h
    split at h
    · cases h
    · simp at h
  · rfl
theorem light_zero {x : Expr} (h : zeroE x = true) : lightE x = true := by
  have ha : x.args = [] := by
    simp [zeroE] at h
    exact h.2
  rw [light_iff, szE_eq, dpE_eq, ha]
  simp [szL, dpL]
theorem fine_off {c : Control} (hf : Fine c) {i : Nat} {s : Signal} (hi : c.signals[i]? = some s) : lightE s.off = true := by
  have h := hf.sigs i s hi
  have hk := (hf.on hi).2
  unfold signalE at h
  split at h
  · rename_i h1; exact absurd h h1
  · split at h
    · cases h
    · split at h
      · rename_i h1; exact absurd h h1
      · split at h
        · refine light_zero ?_
          cases hz : zeroE s.off
          · unfold gateE at h
            split at h
            · cases h
            · simp [hz] at h
          · rfl
        · split at h
          · unfold memE at h
            split at h
            · rename_i h1; exact absurd h h1
            · rename_i h1; exact light_check (Classical.not_not.1 h1)
          · refine light_zero ?_
            cases hz : zeroE s.off
            · unfold timE at h
              split at h
              · cases h
              · simp [hz] at h
            · rfl

theorem node_op {x : Expr} {n : Int} (h : nodeR x n = 0) : 0 ≤ x.op ∧ x.op < 5 ∧ (x.op = 0 → x.index = 0 ∨ x.index = 1) ∧ (x.op = 1 → 0 ≤ x.index ∧ x.index < n) ∧ (x.op = 2 → ∃ y, x.args = [y]) := by
  unfold nodeR at h
  split at h
  · cases h
  · rename_i h1
    refine ⟨by omega, by omega, ?_, ?_, ?_⟩
    · intro ho
      simp [ho] at h
      split at h
      · cases h
      · omega
    · intro ho
      simp [ho] at h
      split at h
      · cases h
      · omega
    · intro ho
      simp [ho] at h
      have : x.args.length = 1 := by omega
      exact List.length_eq_one_iff.1 this

end Go.Proofs.YtbcjnmifflflfaaGreatDoor
end

/- Contracts of realize: expressions. -/
section
namespace Go.Proofs.YtbcjnmifflflfaaGreatDoor
set_option maxHeartbeats 4000000
set_option maxRecDepth 10000

/-- A function that makes the parts of an expression. -/
abbrev Makes (c : Control) (f : FuncId) (az bz : List A) (b b4 b5 bg : Nat) (x : Expr) : Prop := ∀ (hp hj : Value) (m : Mk), m.parts.length + sizeN x ≤ 500000 → m.joins.length + 3 * sizeN x ≤ 800000 → m.number + sizeN x ≤ 500000 →
  CallS Tryz.prog f (az ++ [aE x] ++ bz) (mkrH c b b4 b5 bg hp hj m) fun r H' => ∃ hp' hj', r = .record (encPin (m.expr c x).pin) ∧ H' = mkrH c b b4 b5 bg hp' hj' (m.app (m.expr c x))
theorem const37_s {c : Control} {b b4 b5 bg : Nat} {x : Expr} (hx : x.op = 0) : Makes c 113 [.ptr 70 b 0] [] b b4 b5 bg x := by
  intro hp hj m h1 h2 h3
  have e : m.expr c x = ⟨[], [], m.number, if x.index = 1 then supPin else noPin⟩ := by
    unfold Mk.expr
    rw [exprD_eq, if_pos hx]
  rw [e]
  refine CallS.dropP (callS_of Tryz.func113 rfl Tryz.ntmps113 (rs := [.cell 4 128]) rfl (by kernel_rfl) (by simp) (by kernel_rfl) (K := fun r H' => r = .record (encPin (if x.index = 1 then supPin else noPin)) ∧ subP (mkrH c b b4 b5 bg hp hj m) H') ?_) (fun r H' ⟨e, h⟩ => ⟨_, h, hp, hj, e, by simp [Mk.app]⟩)
  simp
  intro b4'
  refine ⟨fun h => ?_, fun h => ?_⟩
  · simp [h]
    exact subP.c (subP.refl _) _
  · simp [h]
    exact subP.c (subP.refl _) _
theorem var37_s {c : Control} (hc : Sm c) (h0 : 0 ≤ c.actuators ∧ c.actuators ≤ 12) {b b4 b5 bg : Nat} {x : Expr} (hx : x.op = 1) (hl : 0 ≤ x.index ∧ x.index < countC c) : Makes c 114 [.ptr 70 b 0] [] b b4 b5 bg x := by
  intro hp hj m h1 h2 h3
  have e : m.expr c x = ⟨[], [], m.number, portM c m.gates x.index⟩ := by
    unfold Mk.expr
    rw [exprD_eq, if_neg (by omega), if_pos hx]
  rw [e]
  have hport := port37_s (b := b) (b4 := b4) (b5 := b5) (bg := bg) (hp' := hp) (hj := hj) (m := m) hc h0 hl
  refine CallS.dropP (callS_of Tryz.func114 rfl Tryz.ntmps114 (rs := [.cell 4 128]) rfl (by kernel_rfl) (by simp) (by kernel_rfl) (K := fun r H' => r = .record (encPin (portM c m.gates x.index)) ∧ subP (mkrH c b b4 b5 bg hp hj m) H') ?_) (fun r H' ⟨e, h⟩ => ⟨_, h, hp, hj, e, by simp [Mk.app]⟩)
  simp
  intro b4'
  refine hport.c1.mono ?_
  rintro _ _ ⟨_, ⟨rfl, rfl⟩, rfl⟩
  simp
  exact subP.c (subP.refl _) _
theorem not37_s {c : Control} {b b4 b5 bg : Nat} {x y : Expr} (hx : x.op = 2) (hy : x.args = [y]) (ih : Makes c 197 [.ptr 70 b 0] [] b b4 b5 bg y) : Makes c 115 [.ptr 70 b 0] [] b b4 b5 bg x := by
  intro hp hj m h1 h2 h3
  have hsz : sizeN x = 1 + sizeN y := by
    rw [sizeN_eq, hy, sizeNL, sizeNL]
    omega
  have e : m.expr c x = notD false m.signal (m.expr c y) y := by
    unfold Mk.expr
    rw [exprD_eq, if_neg (by omega), if_neg (by omega), if_pos hx, hy]
    simp [argsD, notsD]
  rw [e]
  obtain ⟨s1, s2, s3⟩ := expr_small false (portM c m.gates) m.signal y m.number
  have hyp := sizeN_pos y
  have hih := ih hp hj m (by omega) (by omega) (by omega)
  have hexp : m.expr c y = exprD false (portM c m.gates) m.signal y m.number := rfl
  rw [← hexp] at s1 s2 s3
  generalize m.expr c y = d at *
  obtain ⟨dp, dj, dn, dpin⟩ := d
  simp only at s1 s2 s3
  subst s1
  refine CallS.dropP (callS_of Tryz.func115 rfl Tryz.ntmps115 (rs := [.cell 4 128]) rfl (by kernel_rfl) (by simp) (by kernel_rfl) (K := fun r H' => ∃ hp' hj', r = .record (encPin (notD false m.signal ⟨dp, dj, m.number + dp.length, dpin⟩ y).pin) ∧ subP (mkrH c b b4 b5 bg hp' hj' (m.app (notD false m.signal ⟨dp, dj, m.number + dp.length, dpin⟩ y))) H') ?_) (fun r H' ⟨hp', hj', e, h⟩ => ⟨_, h, hp', hj', e, rfl⟩)
  simp [hy, encE_eq y]
  intro b4'
  simp at hih
  refine hih.c1.mono ?_
  rintro _ _ ⟨_, ⟨hp1, hj1, rfl, rfl⟩, rfl⟩
  simp
  intro b5'
  obtain ⟨m1, hm1⟩ : ∃ m1, m.app ⟨dp, dj, m.number + dp.length, dpin⟩ = m1 := ⟨_, rfl⟩
  have k1 : m1.parts = m.parts ++ dp := by rw [← hm1]; rfl
  have k2 : m1.joins = m.joins ++ dj := by rw [← hm1]; rfl
  have k3 : m1.number = m.number + dp.length := by rw [← hm1]; rfl
  have k4 : m1.signal = m.signal := by rw [← hm1]; rfl
  have k5 : m1.gates = m.gates := by rw [← hm1]; rfl
  have hpl : m1.parts.length = m.parts.length + dp.length := by simp [k1]
  have hjl : m1.joins.length = m.joins.length + dj.length := by simp [k2]
  rw [hm1]
  have hnx := next37_s (c := c) (b := b) (b4 := b4) (b5 := b5) (bg := bg) (hp := hp1) (hj := hj1) (m := m1) 5 [78] (by omega) (by omega) (by simp)
  simp at hnx
  refine hnx.c1.c1.mono ?_
  rintro _ _ ⟨_, ⟨_, ⟨rfl, hp2, rfl⟩, rfl⟩, rfl⟩
  have g1 : ((m1.parts.length : Int) + 1).toNat - 1 = m1.parts.length := by omega
  simp [Mk.add]
  refine V.drawX (fun _ => none) (by kernel_rfl) (by kernel_rfl) (by simp) ?_
  simp [argA, g1]
  refine ⟨by omega, by omega, by kernel_rfl, ?_⟩
  obtain ⟨m2, hm2⟩ : ∃ m2 : Mk, m2 = ⟨m1.parts ++ [⟨5, 78 :: numT m1.number, 0, m1.signal, some y, -1, -1⟩], m1.joins, m1.number + 1, m1.signal, m1.gates⟩ := ⟨_, rfl⟩
  have hfd := feed37_s (c := c) (b := b) (b4 := b4) (b5 := b5) (bg := bg) (hp := hp2) (hj := hj1) (m := m2) (78 :: numT m1.number) (by rw [hm2]; simp only; omega)
  have hj2 : (m2.feed (78 :: numT m1.number)).joins.length ≤ 1000000 := by
    have := joinD_len supPin ⟨78 :: numT m1.number, [49]⟩
    rw [hm2]
    simp only [Mk.feed, Mk.join, List.length_append]
    omega
  refine (hfd.on2 (by simp [hm2, argA, encE_eq y])).mono ?_
  rintro _ _ ⟨_, ⟨rfl, hj3, rfl⟩, rfl⟩
  simp
  have hjn := join37_s (c := c) (b := b) (b4 := b4) (b5 := b5) (bg := bg) (hp := hp2) (hj := hj3) (m := m2.feed (78 :: numT m1.number)) dpin ⟨78 :: numT m1.number, [49, 48]⟩ hj2
  refine (hjn.on2 rfl).mono ?_
  rintro _ _ ⟨_, ⟨rfl, hj4, rfl⟩, rfl⟩
  simp
  refine ⟨by simp [notD, k3], hp2, hj4, subP.c (subP.c (subP_of_eq ?_) _) _⟩
  simp [hm2, Mk.feed, Mk.join, Mk.app, notD, airD, k1, k2, k3, k4, k5]
theorem args_take {fl : Bool} {pf : Int → Pin} {sg : Int} {xs : List Expr} {i : Nat} {y : Expr} (h : xs[i]? = some y) (k : Nat) : argsD fl pf sg (xs.take (i + 1)) k =
    ⟨(argsD fl pf sg (xs.take i) k).parts ++ (exprD fl pf sg y (argsD fl pf sg (xs.take i) k).num).parts, (argsD fl pf sg (xs.take i) k).joins ++ (exprD fl pf sg y (argsD fl pf sg (xs.take i) k).num).joins,
      (exprD fl pf sg y (argsD fl pf sg (xs.take i) k).num).num, (argsD fl pf sg (xs.take i) k).pins ++ [(exprD fl pf sg y (argsD fl pf sg (xs.take i) k).num).pin]⟩ := by
  rw [List.take_add_one, h, Option.toList_some, argsD_snoc]
theorem sizeNL_more : ∀ {xs : List Expr} {i : Nat} {y : Expr}, xs[i]? = some y → sizeNL (xs.take i) + sizeN y ≤ sizeNL xs
  | [], i, y, h => by simp at h
  | x :: xs, 0, y, h => by
    simp at h
    subst h
    simp [sizeNL]
  | x :: xs, i + 1, y, h => by
    simp at h
    have := sizeNL_more h
    simp only [List.take_succ_cons, sizeNL]
    omega
abbrev rPin (p : Pin) : List A := [.dat (.str p.part), .dat (.str p.port)]
theorem rowsD_P (xs : List Pin) : rowsD (xs.map rPin) = xs.map encPin := by unfold rowsD; rw [List.map_map]; rfl
theorem allD_P (xs : List Pin) : allD (xs.map rPin) = true := by simp [allD, rPin, isD]
theorem rl_P (xs : List Pin) : rl (xs.map encPin) 2 = True := by simp
/-- The maker behind some arguments. -/
def Mk.argsM (c : Control) (m : Mk) (xs : List Expr) : Mk := { m with parts := m.parts ++ (argsD false (portM c m.gates) m.signal xs m.number).parts, joins := m.joins ++ (argsD false (portM c m.gates) m.signal xs m.number).joins, number := (argsD false (portM c m.gates) m.signal xs m.number).num }
def Mk.pinsM (c : Control) (m : Mk) (xs : List Expr) : List Pin := (argsD false (portM c m.gates) m.signal xs m.number).pins
theorem argsM_step {c : Control} {m : Mk} {xs : List Expr} {i : Nat} {y : Expr} (h : xs[i]? = some y) : (m.argsM c (xs.take i)).app ((m.argsM c (xs.take i)).expr c y) = m.argsM c (xs.take (i + 1)) ∧
    m.pinsM c (xs.take (i + 1)) = m.pinsM c (xs.take i) ++ [((m.argsM c (xs.take i)).expr c y).pin] := by
  unfold Mk.argsM Mk.pinsM Mk.app Mk.expr
  rw [args_take h]
  simp
@[simp] theorem argsM_nil (c : Control) (m : Mk) : m.argsM c [] = m := by simp [Mk.argsM, argsD]
@[simp] theorem pinsM_nil (c : Control) (m : Mk) : m.pinsM c [] = [] := rfl
/-- The second loop's state. -/
abbrev twinL (sg kind : Int) (letter : UInt8) (r : Ds') (p : Pin) (ps : List Pin) (i : Nat) : Dl := (ps.take i).foldl (twinD sg kind letter) ⟨r.parts, r.joins, r.num, p⟩
theorem twinL_step {sg kind : Int} {letter : UInt8} {r : Ds'} {p q : Pin} {ps : List Pin} {i : Nat} (h : ps[i]? = some q) : twinL sg kind letter r p ps (i + 1) = twinD sg kind letter (twinL sg kind letter r p ps i) q := by
  unfold twinL
  rw [List.take_add_one, h, Option.toList_some, List.foldl_append]
  rfl
abbrev jkv (τ kb bp : Nat) (kind : Int) (letter : UInt8) (bq : Nat) (ps : List Pin) : List (Nat × A) := [(1, .ptr τ kb 0), (2, .rptr [.int .i64 kind]), (3, .rptr [.str [letter]]), (5, .ptr 5 bp 0), (9, .ptr 9 bq 0), (31, .dat (.sl (ps.map encPin))), (32, aI ps.length)]
theorem twin_row {c : Control} {b b4 b5 bg τ kb bp bq : Nat} {hp hj : Value} {kind : Int} {letter : UInt8} {m : Mk} {d : Dl} {ps : List Pin} {q : Pin} {Q : PostQ} {i : Nat} {F : Nat → Mk × Pin} (hk : (τ = 74 ∧ kb = b4) ∨ (τ = 75 ∧ kb = b5))
    (hi : ps[i]? = some q) (hps : ps.length ≤ 1000) (h1 : m.parts.length + d.parts.length ≤ 900000) (h2 : m.joins.length + d.joins.length ≤ 900000) (h3 : d.num ≤ 900000) (e1 : F i = (m.app d, d.pin)) (e2 : F (i + 1) = (m.app (twinD m.signal kind letter d q), (twinD m.signal kind letter d q).pin)) :
    vcC ⟨Tryz.prog, none, 55⟩ (loopC Tryz.f201 1) (hdE (jkv τ kb bp kind letter bq ps) [(33, aI i)]) (hcat ((9, .box bq [.dat (.str (F i).2.part), .dat (.str (F i).2.port)]) :: (5, .box bp [.dat (.str []), .dat (.str [])]) :: mkrH c b b4 b5 bg hp hj (F i).1) [])
      (LoopQ Q fun E' H' => ∃ g : Value × Value, True ∧ (∀ p ∈ [(33, aI (i + 1 : Nat))], wk (E' p.1) p.2) ∧ (∀ p ∈ jkv τ kb bp kind letter bq ps, E' p.1 = p.2) ∧
        subN (hcat ((9, .box bq [.dat (.str (F (i + 1)).2.part), .dat (.str (F (i + 1)).2.port)]) :: (5, .box bp [.dat (.str []), .dat (.str [])]) :: mkrH c b b4 b5 bg g.1 g.2 (F (i + 1)).1) []) H') := by
  obtain ⟨hil, hi1⟩ := List.getElem?_eq_some_iff.1 hi
  rw [e1, e2]
  obtain ⟨m1, hm1⟩ : ∃ m1, m.app d = m1 := ⟨_, rfl⟩
  have k1 : m1.parts = m.parts ++ d.parts := by rw [← hm1]; rfl
  have k2 : m1.joins = m.joins ++ d.joins := by rw [← hm1]; rfl
  have k3 : m1.number = d.num := by rw [← hm1]; rfl
  have k4 : m1.signal = m.signal := by rw [← hm1]; rfl
  have k5 : m1.gates = m.gates := by rw [← hm1]; rfl
  have hpl : m1.parts.length = m.parts.length + d.parts.length := by simp [k1]
  have hjl : m1.joins.length = m.joins.length + d.joins.length := by simp [k2]
  have hnx := next37_s (c := c) (b := b) (b4 := b4) (b5 := b5) (bg := bg) (hp := hp) (hj := hj) (m := m1) kind [letter] (by omega) (by omega) (by simp)
  obtain ⟨m2, hm2⟩ : ∃ m2 : Mk, { m1 with number := m1.number + 1 }.add kind ([letter] ++ numT m1.number) 0 (-1) = m2 := ⟨_, rfl⟩
  have hj2 : m2.joins.length ≤ 900000 := by
    rw [← hm2]
    show m1.joins.length ≤ _
    omega
  rw [hm2] at hnx
  have hja := fun hp hj => join37_s (c := c) (b := b) (b4 := b4) (b5 := b5) (bg := bg) (hp := hp) (hj := hj) (m := m2) d.pin ⟨letter :: numT m1.number, [49]⟩ (by omega)
  have hjb := fun hp hj => join37_s (c := c) (b := b) (b4 := b4) (b5 := b5) (bg := bg) (hp := hp) (hj := hj) (m := m2.join d.pin ⟨letter :: numT m1.number, [49]⟩) q ⟨letter :: numT m1.number, [49, 49]⟩ (by
    have := joinD_len d.pin ⟨letter :: numT m1.number, [49]⟩
    simp only [Mk.join, List.length_append]
    omega)
  have hfin : m.app (twinD m.signal kind letter d q) = (m2.join d.pin ⟨letter :: numT m1.number, [49]⟩).join q ⟨letter :: numT m1.number, [49, 49]⟩ := by
    rw [← hm2]
    simp [Mk.app, Mk.join, Mk.add, twinD, k1, k2, k3, k4, k5]
  rw [hm1, hfin]
  have hrl := rl_P ps
  refine vc_part rfl ?_
  rcases hk with ⟨rfl, rfl⟩ | ⟨rfl, rfl⟩
  all_goals
    simp [hil, hi1, hi]
    intro b11
    refine (hnx.on3 rfl).mono ?_
    rintro _ _ ⟨_, ⟨rfl, hp2, rfl⟩, rfl⟩
    simp
    refine ((hja hp2 hj).on3 rfl).mono ?_
    rintro _ _ ⟨_, ⟨rfl, hj3, rfl⟩, rfl⟩
    simp
    refine ((hjb hp2 hj3).on3 rfl).mono ?_
    rintro _ _ ⟨_, ⟨rfl, hj4, rfl⟩, rfl⟩
    simp
    exact ⟨by omega, by simp [twinD, k3]⟩
theorem foldD_cons {sg op : Int} {r : Ds'} {p : Pin} {ps : List Pin} (h : r.pins = p :: ps) : foldD sg op r = twinL sg (if op = 3 then 9 else 8) (if op = 3 then 80 else 81) r p ps ps.length := by
  unfold foldD twinL
  rw [h, List.take_length]
theorem joined37_s {c : Control} {b b4 b5 bg τ kb : Nat} {x : Expr} {kind : Int} {letter : UInt8} (hop : x.op ≠ 0 ∧ x.op ≠ 1 ∧ x.op ≠ 2) (hlen : 1 ≤ x.args.length ∧ x.args.length ≤ 256)
    (hk : (τ = 74 ∧ kb = b4) ∨ (τ = 75 ∧ kb = b5)) (hkl : kind = (if x.op = 3 then 9 else 8) ∧ letter = (if x.op = 3 then 80 else 81))
    (ih : ∀ y ∈ x.args, Makes c 197 [.ptr 70 b 0] [] b b4 b5 bg y) : Makes c 201 [] [.ptr τ kb 0, .rptr [.int .i64 kind], .rptr [.str [letter]]] b b4 b5 bg x := by
  intro hp hj m h1 h2 h3
  have hsx := sizeN_eq x
  have hxa := sizeNL_len x.args
  obtain ⟨s1, s2, s3⟩ := args_small false (portM c m.gates) m.signal x.args m.number
  have hpl := argsD_len false (portM c m.gates) m.signal x.args m.number
  obtain ⟨p0, ps, hpp⟩ : ∃ p ps, (argsD false (portM c m.gates) m.signal x.args m.number).pins = p :: ps := by
    cases hq : (argsD false (portM c m.gates) m.signal x.args m.number).pins with
    | nil => rw [hq] at hpl; simp at hpl; omega
    | cons p ps => exact ⟨p, ps, rfl⟩
  have e : m.expr c x = twinL m.signal kind letter (argsD false (portM c m.gates) m.signal x.args m.number) p0 ps ps.length := by
    unfold Mk.expr
    rw [exprD_eq, if_neg hop.1, if_neg hop.2.1, if_neg hop.2.2, foldD_cons hpp, hkl.1, hkl.2]
  rw [e]
  have hpsl : ps.length + 1 = x.args.length := by rw [← hpl, hpp]; rfl
  refine CallS.dropP (callS_cut 4 Tryz.func201 rfl Tryz.ntmps201 (rs := [.cell 5 128]) rfl (by kernel_rfl) (by simp) (by kernel_rfl) (K := fun r H' => ∃ hp' hj', r = .record (encPin (twinL m.signal kind letter (argsD false (portM c m.gates) m.signal x.args m.number) p0 ps ps.length).pin) ∧ subP (mkrH c b b4 b5 bg hp' hj' (m.app (twinL m.signal kind letter (argsD false (portM c m.gates) m.signal x.args m.number) p0 ps ps.length))) H') ?_) (fun r H' ⟨hp', hj', e, h⟩ => ⟨_, h, hp', hj', e, rfl⟩)
  simp
  intro bp
  have hrlE := rl_map (f := encE) (n := 3) (fun x => by rw [encE_eq]; rfl) x.args
  refine V.forI (σ := Value × Value × Value) x.args.length [1, 2, 3, 5, 14, 15] (by simp; exact rfl) (fun i g => [(6, .own 6 g.1), (16, aI i)]) (fun i g => (6, .seq g.1 128 2 ((m.pinsM c (x.args.take i)).map rPin)) :: (5, .box bp [.dat (.str []), .dat (.str [])]) :: mkrH c b b4 b5 bg g.2.1 g.2.2 (m.argsM c (x.args.take i))) (fun _ _ => True) (.slice none 0 0, hp, hj) trivial (by simp) ⟨by simp; exact rfl, by simp⟩ ?_ ?_
  · rintro i ⟨g, hp1, hj1⟩ hi -
    obtain ⟨y, hy1⟩ : ∃ y, x.args[i] = y := ⟨_, rfl⟩
    have hyo : x.args[i]? = some y := by rw [List.getElem?_eq_getElem hi, hy1]
    have hsm := sizeNL_more hyo
    obtain ⟨u1, u2, u3⟩ := args_small false (portM c m.gates) m.signal (x.args.take i) m.number
    obtain ⟨w1, w2⟩ := argsM_step (c := c) (m := m) hyo
    have hpn : (m.pinsM c (x.args.take i)).length = i := by
      unfold Mk.pinsM
      rw [argsD_len, List.length_take]
      omega
    have hih := ih y (List.mem_of_getElem? hyo) hp1 hj1 (m.argsM c (x.args.take i)) (by simp only [Mk.argsM, List.length_append]; omega) (by simp only [Mk.argsM, List.length_append]; omega) (by simp only [Mk.argsM]; omega)
    rw [w1] at hih
    rw [w2]
    generalize m.argsM c (x.args.take i) = m1 at *
    generalize m.argsM c (x.args.take (i + 1)) = m2 at *
    generalize m.pinsM c (x.args.take i) = pn at *
    generalize m1.expr c y = d at *
    simp at hih
    rcases hk with ⟨rfl, rfl⟩ | ⟨rfl, rfl⟩
    all_goals
      simp [hi, hy1, hyo, encE_eq y, hrlE]
      intro b8
      refine (hih.on3 rfl).mono ?_
      rintro _ _ ⟨_, ⟨hp2, hj2, rfl, rfl⟩, rfl⟩
      simp
      omega
  · rintro ⟨g, hp1, hj1⟩ -
    rw [List.take_length]
    have hpn : m.pinsM c x.args = p0 :: ps := hpp
    obtain ⟨r, hr⟩ : ∃ r, argsD false (portM c m.gates) m.signal x.args m.number = r := ⟨_, rfl⟩
    have hm0 : m.argsM c x.args = m.app (twinL m.signal kind letter r p0 ps 0) := by
      unfold Mk.argsM Mk.app twinL
      rw [hr]
      rfl
    rw [hr] at s1 s2 s3
    rw [hpn, hm0, hr]
    simp
    intro b9
    refine V.frz1 6 (τ := 6) (h := g) (e := 128) (sz := 2) (rows := (p0 :: ps).map rPin) (by simp) (by simp [hget]) (allD_P _) ?_
    rw [rowsD_P]
    refine V.cut (Hs := (9, .box b9 [.dat (.str p0.part), .dat (.str p0.port)]) :: (5, .box bp [.dat (.str []), .dat (.str [])]) :: mkrH c b b4 b5 bg hp1 hj1 (m.app (twinL m.signal kind letter r p0 ps 0))) [(1, .ptr τ kb 0), (2, .rptr [.int .i64 kind]), (3, .rptr [.str [letter]]), (5, .ptr 5 bp 0), (6, .dat (.sl ((p0 :: ps).map encPin))), (9, .ptr 9 b9 0)] (by simp) (by simp) ?_
    have hrl := rl_P ps
    have htk : List.take ps.length (List.map encPin ps) = List.map encPin ps := List.take_of_length_le (by simp)
    have ht0 : (twinL m.signal kind letter r p0 ps 0).pin = p0 := rfl
    simp [hrl, htk]
    refine V.forI (σ := Value × Value) (kv := jkv τ kb bp kind letter b9 ps) ps.length [1, 2, 3, 5, 9, 31, 32] (by simp) (fun i _ => [(33, aI i)]) (fun i g => (9, .box b9 [.dat (.str (twinL m.signal kind letter r p0 ps i).pin.part), .dat (.str (twinL m.signal kind letter r p0 ps i).pin.port)]) :: (5, .box bp [.dat (.str []), .dat (.str [])]) :: mkrH c b b4 b5 bg g.1 g.2 (m.app (twinL m.signal kind letter r p0 ps i))) (fun _ _ => True) (hp1, hj1) trivial (by simp) ⟨by simp; exact rfl, by simp [ht0]⟩ ?_ ?_
    · rintro i ⟨hp2, hj2⟩ hi -
      have hqo : ps[i]? = some ps[i] := List.getElem?_eq_getElem hi
      have hsmall := twin_small (sg := m.signal) (kind := kind) (letter := letter) (k := m.number) (n := sizeNL x.args - x.args.length) (ps.take i) (d := ⟨r.parts, r.joins, r.num, p0⟩) ⟨s1, s2, s3⟩
      obtain ⟨v1, v2, v3⟩ := hsmall
      rw [List.length_take] at v2
      have hstep := twinL_step (sg := m.signal) (kind := kind) (letter := letter) (r := r) (p := p0) hqo
      exact vc_of_part rfl (twin_row (F := fun i => (m.app (twinL m.signal kind letter r p0 ps i), (twinL m.signal kind letter r p0 ps i).pin)) hk hqo (by omega) (by simp only [twinL]; omega) (by simp only [twinL]; omega) (by simp only [twinL]; omega) rfl (by rw [hstep]))
    · rintro ⟨hp2, hj2⟩ -
      simp
      exact ⟨hp2, hj2, subP.c (subP.c (subP.refl _) _) _⟩
theorem expr_op {c : Control} {b b4 b5 bg : Nat} {x : Expr} {f : FuncId} {first caps : List A} (hop : (opsA b b4 b5)[x.op.toNat]? = some (.fn f first caps)) (h0 : 0 ≤ x.op ∧ x.op < 5) (h : Makes c f first caps b b4 b5 bg x) : Makes c 197 [.ptr 70 b 0] [] b b4 b5 bg x := by
  intro hp hj m h1 h2 h3
  have hh := h hp hj m h1 h2 h3
  refine CallS.dropP (callS_of Tryz.func197 rfl Tryz.ntmps197 (rs := [.cell 4 128]) rfl (by kernel_rfl) (by simp) (by kernel_rfl) (K := fun r H' => ∃ hp' hj', r = .record (encPin (m.expr c x).pin) ∧ subP (mkrH c b b4 b5 bg hp' hj' (m.app (m.expr c x))) H') ?_) (fun r H' ⟨hp', hj', e, h⟩ => ⟨_, h, hp', hj', e, rfl⟩)
  simp
  intro bp
  have hopC : (mkrC c b b4 b5 bg hp hj m)[10 + x.op.toNat]? = some (.fn f first caps) := by
    rw [List.getElem?_append_right (by simp)]
    simpa using hop
  simp only [List.cons_append, List.nil_append] at hopC
  refine V.drawC 8 [] (fun _ => none) rfl rfl (by kernel_rfl) (by kernel_rfl) ?_
  simp [hopC]
  refine ⟨h0, ?_⟩
  simp at hh
  refine hh.c1.mono ?_
  rintro _ _ ⟨_, ⟨hp1, hj1, rfl, rfl⟩, rfl⟩
  simp
  exact ⟨hp1, hj1, subP.c (subP.refl _) _⟩
theorem node_two {x : Expr} {n : Int} (h : nodeR x n = 0) (h3 : x.op = 3 ∨ x.op = 4) : 2 ≤ x.args.length ∧ x.args.length ≤ 256 := by
  unfold nodeR at h
  rw [if_neg (by omega)] at h
  simp only [show ¬ x.op ≤ 1 by omega, show ¬ x.op = 2 by omega, if_false] at h
  split at h
  · cases h
  · omega
/-- **What an expression makes.** -/
theorem expr37_s {c : Control} (hc : Sm c) (h0 : 0 ≤ c.actuators ∧ c.actuators ≤ 12) {b b4 b5 bg : Nat} : ∀ (N : Nat) (x : Expr), SizeOf.sizeOf x < N → RightE (countC c) x → Makes c 197 [.ptr 70 b 0] [] b b4 b5 bg x
  | 0, _, h, _ => absurd h (Nat.not_lt_zero _)
  | N + 1, x, hN, hr => by
    have hnd := hr.node
    have hop := node_op hnd
    have ih : ∀ y ∈ x.args, Makes c 197 [.ptr 70 b 0] [] b b4 b5 bg y := fun y hy => expr37_s hc h0 N y (by have := Expr.lt_of_mem hy; omega) (hr.args y hy)
    obtain h | h | h | h | h : x.op = 0 ∨ x.op = 1 ∨ x.op = 2 ∨ x.op = 3 ∨ x.op = 4 := by omega
    · exact expr_op (f := 113) (first := [.ptr 70 b 0]) (caps := []) (by rw [h]; rfl) ⟨hop.1, hop.2.1⟩ (const37_s h)
    · exact expr_op (f := 114) (first := [.ptr 70 b 0]) (caps := []) (by rw [h]; rfl) ⟨hop.1, hop.2.1⟩ (var37_s hc h0 h (hop.2.2.2.1 h))
    · obtain ⟨y, hy⟩ := hop.2.2.2.2 h
      exact expr_op (f := 115) (first := [.ptr 70 b 0]) (caps := []) (by rw [h]; rfl) ⟨hop.1, hop.2.1⟩ (not37_s h hy (ih y (by rw [hy]; simp)))
    · have h2 := node_two hnd (.inl h)
      exact expr_op (f := 201) (first := []) (caps := [.ptr 74 b4 0, .rptr [.int .i64 9], .rptr [.str [80]]]) (by rw [h]; rfl) ⟨hop.1, hop.2.1⟩ (joined37_s ⟨by omega, by omega, by omega⟩ ⟨by omega, h2.2⟩ (.inl ⟨rfl, rfl⟩) ⟨by rw [if_pos h], by rw [if_pos h]⟩ ih)
    · have h2 := node_two hnd (.inr h)
      exact expr_op (f := 201) (first := []) (caps := [.ptr 75 b5 0, .rptr [.int .i64 8], .rptr [.str [81]]]) (by rw [h]; rfl) ⟨hop.1, hop.2.1⟩ (joined37_s ⟨by omega, by omega, by omega⟩ ⟨by omega, h2.2⟩ (.inr ⟨rfl, rfl⟩) ⟨by rw [if_neg (by omega)], by rw [if_neg (by omega)]⟩ ih)
end Go.Proofs.YtbcjnmifflflfaaGreatDoor
end

/- Plain: realize and its reference make the same parts and joins, in other orders. -/
section
namespace Go.Proofs.YtbcjnmifflflfaaGreatDoor
set_option maxHeartbeats 1000000

theorem Flips.map {α : Type} {φ : Pin × Pin → α} (hφ : ∀ a b, φ (a, b) = φ (b, a)) {l m : List (Pin × Pin)} (h : Flips l m) : l.map φ = m.map φ := by
  induction h with
  | nil => rfl
  | keep _ ih => simp [ih]
  | swap _ ih => simp [ih, hφ]
theorem Flips.symm {l m : List (Pin × Pin)} (h : Flips l m) : Flips m l := by
  induction h with
  | nil => exact .nil
  | keep _ ih => exact .keep ih
  | swap _ ih => exact .swap ih
/-- The ports of all lines. -/
def endsL (c : Control) (g : List (Int × Pin)) : List Pin := (List.range (countC c).toNat).map fun l : Nat => portM c g l
/-! ### Without the signals -/
/-- The same so far, join by join. -/
structure Eq0 (m : Mk) (d : Dr) : Prop where
  parts : m.parts = d.gears
  joins : Flips m.joins d.links
  num : m.number = 0
  cnt : d.count = 0
  sig : m.signal = -1
  gates : m.gates = []
theorem set_last {α : Type} (l : List α) (a b : α) : (l ++ [a]).set ((l ++ [a]).length - 1) b = l ++ [b] := by
  rw [List.set_append]
  simp
/-- The reference's draft ahead of the signals. -/
def baseR (c : Control) : Dr := (List.range c.inputs.length).foldl (inR37 c) ((List.range c.actuators.toNat).foldl actR ((⟨[], [], [], 0⟩ : Dr).put ⟨0, [83], 0, -1, none, -1, -1⟩ false))
theorem num0 : numT 0 = [48] := by unfold numT; rw [Go.Lib.decDigits]; rfl
theorem num1 : numT 1 = [49] := by unfold numT; rw [Go.Lib.decDigits]; rfl
/-! ### The signals -/
/-- A signal's own part, and its air. -/
def ownD (c : Control) (i : Nat) : List Made := match c.signals[i]? with
  | some x => if x.kind = 1 then [⟨2, ownT c i, 0, i, none, -1, firstC c + i⟩] else if x.kind = 2 then [⟨12, ownT c i, x.delay, i, none, -1, firstC c + i⟩] else []
  | none => []
def ownJ (c : Control) (i : Nat) : List (Pin × Pin) := match c.signals[i]? with
  | some x => if x.kind = 1 ∨ x.kind = 2 then joinD supPin ⟨ownT c i, [49]⟩ else []
  | none => []
def ownDs (c : Control) (i n : Nat) : List Made := (List.range' i n).flatMap (ownD c)
def ownJs (c : Control) (i n : Nat) : List (Pin × Pin) := (List.range' i n).flatMap (ownJ c)
/-- Both, where some own parts are still to come here. -/
structure Rel (c : Control) (m : Mk) (d : Dr) (rest : List Made) (restJ : List (Pin × Pin)) : Prop where
  parts : (m.parts ++ rest).Perm d.gears
  joins : ∀ (α : Type) (φ : Pin × Pin → α), (∀ a b, φ (a, b) = φ (b, a)) → (m.joins.map φ ++ restJ.map φ).Perm (d.links.map φ)
  num : m.number = d.count
  ends : d.ends = endsL c m.gates
/-- A control whose lines are lines. -/
structure InC (c : Control) : Prop where
  act : 0 ≤ c.actuators
  sig : ∀ (i : Nat) (x : Signal), c.signals[i]? = some x → (x.kind = 0 ∨ x.kind = 1 ∨ x.kind = 2) ∧ (∀ v ∈ varsE x.on, 0 ≤ v ∧ v < countC c) ∧ ∀ v ∈ varsE x.off, 0 ≤ v ∧ v < countC c
  pil : ∀ a : Nat, (a : Int) < c.actuators → (0 ≤ c.plus.getD a 0 ∧ c.plus.getD a 0 < countC c) ∧ 0 ≤ c.minus.getD a 0 ∧ c.minus.getD a 0 < countC c
end Go.Proofs.YtbcjnmifflflfaaGreatDoor
end

/- Contracts: the small functions of reduce and its reference: roots of lines. -/
section
namespace Go.Proofs.YtbcjnmifflflfaaGreatDoor
set_option maxHeartbeats 4000000
set_option maxRecDepth 10000

theorem firstQ_fn (c : Control) (h : Sm c) : CallFn Tryz.prog 56 [aC c] (aI (firstC c)) := by
  obtain ⟨h1, h2, h3⟩ := h
  refine callFz_of Tryz.func56 rfl Tryz.ntmps56 (rs := [.tmp 2]) rfl (by kernel_rfl) (by simp) (by kernel_rfl) ?_
  simp [firstC]
  omega
theorem linesQ_fn (c : Control) (h : Sm c) : CallFn Tryz.prog 55 [aC c] (aI (countC c)) := by
  refine callFz_of Tryz.func55 rfl Tryz.ntmps55 (rs := [.tmp 2]) rfl (by kernel_rfl) (by simp) (by kernel_rfl) ?_
  simp
  refine V.drawX (fun s => if s = 4 then some (.fn (aI (firstC c))) else none) (by kernel_rfl) (by kernel_rfl) (by simp) ?_
  have := firstQ_fn c h
  obtain ⟨h1, h2, h3⟩ := h
  simp [reads, firstC, countC]
  simp [firstC] at this
  exact ⟨this, by omega, by omega⟩

/-- What a gate repeats, and whether it does. -/
def repP (c : Control) (line : Int) : Int × Bool := if line < firstC c then (0, false) else match c.signals[(line - firstC c).toNat]? with
  | some x => (x.on.index, x.kind == 0 && x.on.op == 1)
  | none => (0, false)
theorem repeats_fn (c : Control) (line : Int) (hs : Sm c) (h0 : 0 ≤ firstC c) (hl : 0 ≤ line ∧ line < countC c) : CallFn Tryz.prog 231 [aC c, aI line] (.tuple [aI (repP c line).1, aB (repP c line).2]) := by
  have c1 := firstQ_fn c hs
  have hcn : countC c = firstC c + c.signals.length := rfl
  obtain ⟨h1, h2, h3⟩ := hs
  refine callFz_of Tryz.func231 rfl Tryz.ntmps231 (rs := [.tmp 4, .tmp 5]) rfl (by kernel_rfl) (by simp) (by kernel_rfl) ?_
  simp
  refine c1.s ?_
  unfold repP
  by_cases h : line < firstC c
  · simp [h]
  · obtain ⟨i, hi⟩ : ∃ i : Nat, line - firstC c = i := ⟨(line - firstC c).toNat, by omega⟩
    have hil : i < c.signals.length := by omega
    have hx : c.signals[i]? = some c.signals[i] := List.getElem?_eq_getElem hil
    simp [h]
    refine V.drawX (fun s => if s = 15 then some (.fn (aI (firstC c))) else none) (by kernel_rfl) (by kernel_rfl) (by simp) ?_
    simp [hi, hil, hx]
    refine ⟨c1, by omega, fun b => ⟨by kernel_rfl, ?_⟩⟩
    refine V.drawX (fun _ => none) (by kernel_rfl) (by kernel_rfl) (by simp) ?_
    simp [h, hi, hx]

/-! ### Roots -/
def rootN (c : Control) : Nat → Int → Int
  | 0, l => l
  | k + 1, l => if (repP c l).2 = true then rootN c k (repP c l).1 else l
def rootP (c : Control) (l : Int) : Int := rootN c (c.signals.length + 1) l
/-- How far a line is from its root, at most. -/
def farL (c : Control) (l : Int) : Nat := if firstC c ≤ l ∧ kindAt c (l - firstC c) = 0 then (l - firstC c).toNat + 1 else 0
theorem rep_far {c : Control} (hf : Fine c) {l : Int} (hl : 0 ≤ l ∧ l < countC c) (h : (repP c l).2 = true) : 0 ≤ (repP c l).1 ∧ (repP c l).1 < countC c ∧ farL c (repP c l).1 < farL c l := by
  have h0 : 0 ≤ firstC c := by have := hf.act; unfold firstC; omega
  have hcn : countC c = firstC c + c.signals.length := rfl
  unfold repP at h ⊢
  by_cases h1 : l < firstC c
  · rw [if_pos h1] at h; cases h
  · rw [if_neg h1] at h ⊢
    obtain ⟨i, hi⟩ : ∃ i : Nat, l - firstC c = i := ⟨(l - firstC c).toNat, by omega⟩
    have hil : i < c.signals.length := by omega
    have hx : c.signals[i]? = some c.signals[i] := List.getElem?_eq_getElem hil
    rw [hi, Int.toNat_natCast, hx] at h ⊢
    generalize c.signals[i] = x at *
    simp only [Bool.and_eq_true, beq_iff_eq] at h ⊢
    have hv := vars_check (hf.on hx).1 x.on.index (by rw [varsE_eq]; simp [h.2])
    have hlate := late_not hf hx h.1 x.on.index (by rw [varsE_eq]; simp [h.2])
    refine ⟨hv.1, hv.2, ?_⟩
    have hk : kindAt c (l - firstC c) = 0 := by rw [hi]; simp [kindAt, hx, h.1]
    unfold farL
    rw [if_pos (show firstC c ≤ l ∧ kindAt c (l - firstC c) = 0 from ⟨by omega, hk⟩)]
    split
    · rename_i h2
      rcases hlate with h3 | h3
      · omega
      · exact absurd h2.2 h3
    · omega
theorem far_zero {c : Control} (h0 : 0 ≤ firstC c) {l : Int} (h : farL c l = 0) (hl : l < countC c) : (repP c l).2 = false := by
  have hcn : countC c = firstC c + c.signals.length := rfl
  unfold farL at h
  unfold repP
  by_cases h1 : l < firstC c
  · rw [if_pos h1]
  · rw [if_neg h1]
    split at h
    · omega
    · rename_i h2
      obtain ⟨i, hi⟩ : ∃ i : Nat, l - firstC c = i := ⟨(l - firstC c).toNat, by omega⟩
      have hx : c.signals[i]? = some c.signals[i] := List.getElem?_eq_getElem (by omega)
      rw [hi, Int.toNat_natCast, hx]
      rw [hi] at h2
      simp only [kindAt, Int.toNat_natCast, hx, Option.map_some, Option.getD_some] at h2
      have : ¬ c.signals[i].kind = 0 := fun e => h2 ⟨by omega, e⟩
      simp [this]
theorem far_le {c : Control} (h0 : 0 ≤ firstC c) {l : Int} (hl : l < countC c) : farL c l ≤ c.signals.length := by
  have hcn : countC c = firstC c + c.signals.length := rfl
  unfold farL
  split <;> omega
theorem root_more {c : Control} (hf : Fine c) : ∀ (k : Nat) (l : Int), 0 ≤ l ∧ l < countC c → farL c l ≤ k → ∀ m, k ≤ m → rootN c m l = rootN c k l
  | 0, l, hl, hk, m, _ => by
    have h0 : 0 ≤ firstC c := by have := hf.act; unfold firstC; omega
    have := far_zero h0 (by omega) hl.2
    cases m with
    | zero => rfl
    | succ m => simp [rootN, this]
  | k + 1, l, hl, hk, m, hm => by
    obtain ⟨m, rfl⟩ : ∃ m', m = m' + 1 := ⟨m - 1, by omega⟩
    simp only [rootN]
    split
    · rename_i h
      obtain ⟨a, b, d⟩ := rep_far hf hl h
      exact root_more hf k _ ⟨a, b⟩ (by omega) m (by omega)
    · rfl
/-- A step towards the root. -/
theorem root_step {c : Control} (hf : Fine c) {l : Int} (hl : 0 ≤ l ∧ l < countC c) : rootP c l = if (repP c l).2 = true then rootP c (repP c l).1 else l := by
  have h0 : 0 ≤ firstC c := by have := hf.act; unfold firstC; omega
  unfold rootP
  conv => lhs; simp only [rootN]
  split
  · rename_i h
    obtain ⟨a, b, d⟩ := rep_far hf hl h
    exact (root_more hf _ _ ⟨a, b⟩ (far_le h0 b) _ (Nat.le_succ _)).symm
  · rfl
theorem root_range {c : Control} (hf : Fine c) : ∀ (k : Nat) (l : Int), farL c l ≤ k → 0 ≤ l ∧ l < countC c → (0 ≤ rootP c l ∧ rootP c l < countC c) ∧ (repP c (rootP c l)).2 = false := by
  intro k
  induction k with
  | zero =>
    intro l hk hl
    have h0 : 0 ≤ firstC c := by have := hf.act; unfold firstC; omega
    have := far_zero h0 (by omega) hl.2
    rw [root_step hf hl, if_neg (by simp [this])]
    exact ⟨hl, this⟩
  | succ k ih =>
    intro l hk hl
    rw [root_step hf hl]
    by_cases h : (repP c l).2 = true
    · rw [if_pos h]
      obtain ⟨a, b, d⟩ := rep_far hf hl h
      exact ih _ (by omega) ⟨a, b⟩
    · rw [if_neg h]
      exact ⟨hl, by simpa using h⟩
theorem root_fn (c : Control) (line : Int) (hf : Fine c) (hl : 0 ≤ line ∧ line < countC c) : CallFn Tryz.prog 189 [aC c, aI line] (aI (rootP c line)) := by
  have h0 : 0 ≤ firstC c := by have := hf.act; unfold firstC; omega
  refine callFz_of Tryz.func189 rfl Tryz.ntmps189 (rs := [.tmp 4]) rfl (by kernel_rfl) (by simp) (by kernel_rfl) ?_
  simp
  refine V.for' [2] (fun l : Int => [(1, aI l), (4, aI 0)]) (fun _ => []) (fun l => (0 ≤ l ∧ l < countC c) ∧ rootP c l = rootP c line) (fun l => farL c l) line ⟨⟨hl, rfl⟩, by simp, subP.refl _⟩ ?_
  rintro l ⟨hr, he⟩
  have c1 := repeats_fn c l hf.sm h0 hr
  have hst := root_step hf hr
  have hfar := rep_far hf hr
  generalize repP c l = p at *
  obtain ⟨m, b⟩ := p
  simp
  refine c1.s ?_
  cases b
  · simp at hst ⊢
    rw [← he, hst]
  · simp at hst hfar ⊢
    exact ⟨m, ⟨⟨hfar.1, hfar.2.1⟩, by rw [← he, hst]⟩, hfar.2.2, rfl, subP.refl _⟩

end Go.Proofs.YtbcjnmifflflfaaGreatDoor
end

/- Contracts: expressions with other variables. -/
section
namespace Go.Proofs.YtbcjnmifflflfaaGreatDoor
set_option maxHeartbeats 4000000
set_option maxRecDepth 10000

def noneV : Int := -1099511627776
mutual
/-- An expression with other variables. -/
def repE : Expr → List Int → Expr
  | ⟨op, ix, args⟩, l => if op = 1 then ⟨1, l.getD ix.toNat 0, []⟩ else ⟨op, ix, repL args l⟩
def repL : List Expr → List Int → List Expr
  | [], _ => []
  | x :: xs, l => repE x l :: repL xs l
end
mutual
/-- Are all of them told? -/
def okX : Expr → List Int → Bool
  | ⟨op, ix, args⟩, l => if op = 1 then l.getD ix.toNat 0 != noneV else okXs args l
def okXs : List Expr → List Int → Bool
  | [], _ => true
  | x :: xs, l => okX x l && okXs xs l
end
theorem repE_eq (x : Expr) (l : List Int) : repE x l = if x.op = 1 then ⟨1, l.getD x.index.toNat 0, []⟩ else ⟨x.op, x.index, repL x.args l⟩ := by cases x; simp [repE]
theorem okX_eq (x : Expr) (l : List Int) : okX x l = if x.op = 1 then l.getD x.index.toNat 0 != noneV else okXs x.args l := by cases x; simp [okX]
theorem repL_map (l : List Int) : ∀ xs : List Expr, repL xs l = xs.map fun x => repE x l
  | [] => rfl
  | x :: xs => by simp [repL, repL_map l xs]
theorem okXs_all (l : List Int) : ∀ xs : List Expr, okXs xs l = xs.all fun x => okX x l
  | [] => rfl
  | x :: xs => by simp [okXs, okXs_all l xs]
abbrev rX (x : Expr) : List A := (encE x).map A.dat

theorem all_take {α : Type} {p : α → Bool} {l : List α} {i : Nat} {a : α} (h : l[i]? = some a) : (l.take (i + 1)).all p = ((l.take i).all p && p a) := by
  rw [List.take_add_one, h]
  simp
theorem node_len {x : Expr} {n : Int} (h : nodeR x n = 0) : x.args.length ≤ 256 := by
  have h0 := node_op h
  unfold nodeR at h
  by_cases h1 : x.op < 0 ∨ x.op ≥ 5
  · rw [if_pos h1] at h; cases h
  · rw [if_neg h1] at h
    simp only at h
    by_cases h2 : x.op ≤ 1
    · simp only [h2, if_true] at h
      by_cases h3 : (x.args.length : Int) < 0 ∨ (x.args.length : Int) > 0
      · rw [if_pos h3] at h; cases h
      · omega
    · by_cases h4 : x.op = 2
      · obtain ⟨y, hy⟩ := h0.2.2.2.2 h4
        simp [hy]
      · simp only [h2, h4, if_false] at h
        by_cases h3 : (x.args.length : Int) < 2 ∨ (x.args.length : Int) > 256
        · rw [if_pos h3] at h; cases h
        · omega
theorem rowsD_X (xs : List Expr) : rowsD (xs.map rX) = xs.map encE := by
  unfold rowsD rX
  rw [List.map_map]
  apply List.map_congr_left
  intro x _
  simp only [Function.comp, List.map_map]
  have : (unD ∘ A.dat) = id := rfl
  rw [this, List.map_id]
theorem allD_X (xs : List Expr) : allD (xs.map rX) = true := by
  simp [allD, rX, isD]
theorem replaced_fn (l : List Int) (hl : l.length ≤ 1000000) : ∀ (N : Nat) (x : Expr), SizeOf.sizeOf x < N → OkE x → RightE l.length x → CallFn Tryz.prog 59 [aE x, aIs l] (.tuple [aE (repE x l), aB (okX x l)])
  | 0, _, h, _, _ => absurd h (Nat.not_lt_zero _)
  | N + 1, x, hN, hx, hr => by
    obtain ⟨n1, n2, n3, n4, n5⟩ := node_op hr.node
    have hlen := node_len hr.node
    rw [repE_eq, okX_eq]
    refine callFz_of Tryz.func59 rfl Tryz.ntmps59 (rs := [.cell 4 84, .tmp 5]) rfl (by kernel_rfl) (by simp) (by kernel_rfl) ?_
    simp
    intro b4 b6
    by_cases hop : x.op = 1
    · obtain ⟨k1, k2⟩ := n4 hop
      obtain ⟨i, hi⟩ : ∃ i : Nat, x.index = i := ⟨x.index.toNat, by omega⟩
      have hil : i < l.length := by omega
      obtain ⟨v, hv⟩ : ∃ v, l[i]? = some v := ⟨_, List.getElem?_eq_getElem hil⟩
      simp [hop, hi, hv, hil]
      refine V.drawX (fun _ => none) (by kernel_rfl) (by kernel_rfl) (by simp) ?_
      simp [noneV, hop, hi, hv, hil]
    · have ih : ∀ y ∈ x.args, CallFn Tryz.prog 59 [aE y, aIs l] (.tuple [aE (repE y l), aB (okX y l)]) := fun y hy => replaced_fn l hl N y (by have := Expr.lt_of_mem hy; omega) (hx.args y hy) (hr.args y hy)
      rw [repL_map, okXs_all]
      simp [hop]
      refine V.forI (σ := Value) x.args.length [1, 4, 5, 6, 31, 32] (by simp; exact rfl) (fun i _ => [(7, aB ((x.args.take i).all fun y => okX y l)), (33, aI i)])
        (fun i h => if i = 0 then [(6, .box b6 [.dat (.int .i64 x.op), .dat (.int .i64 x.index), .nils])] else [(6, .box b6 [.dat (.int .i64 x.op), .dat (.int .i64 x.index), .own 47 h]), (47, .seq h 84 3 ((x.args.take i).map fun y => rX (repE y l)))])
        (fun _ _ => True) (.slice none 0 0) trivial (by simp) ⟨by simp; exact rfl, by simp⟩ ?_ ?_
      · rintro i h hi -
        obtain ⟨y, hy⟩ : ∃ y, x.args[i] = y := ⟨_, rfl⟩
        have hyo : x.args[i]? = some y := by rw [List.getElem?_eq_getElem hi, hy]
        have hmem : y ∈ x.args := List.mem_of_getElem? hyo
        have ihy := ih y hmem
        rw [all_take hyo, List.take_add_one, hyo]
        generalize ((x.args.take i).all fun y => okX y l) = b1 at *
        generalize okX y l = b2 at *
        cases i with
        | zero =>
          simp [hi, hy, encE_eq]
          intro b9
          refine ihy.s ?_
          simp
          simp [rX, encE_eq]
        | succ i =>
          have hi2 : (i : Int) + 1 < x.args.length := by omega
          have hi3 : (0 : Int) ≤ (i : Int) + 1 := by omega
          simp [hi, hi2, hi3, hy, encE_eq]
          intro b9
          refine ihy.s ?_
          simp
          exact ⟨by omega, by omega, by simp [rX, encE_eq]⟩
      · rintro h -
        rw [List.take_length]
        by_cases h0 : x.args.length = 0
        · have hnil : x.args = [] := List.length_eq_zero_iff.1 h0
          simp [h0, hnil, hop]
        · have e1 : (x.args.map fun y => rX (repE y l)) = (x.args.map fun y => repE y l).map rX := by rw [List.map_map]; rfl
          rw [e1]
          generalize (x.args.map fun y => repE y l) = ys
          have e2 := rowsD_X ys
          have e3 := allD_X ys
          generalize ys.map rX = rows at *
          simp [h0, hop, e2, e3]

end Go.Proofs.YtbcjnmifflflfaaGreatDoor
end

/- Contracts: the reference's roots; Root. -/
section
namespace Go.Proofs.YtbcjnmifflflfaaGreatDoor
set_option maxHeartbeats 4000000
set_option maxRecDepth 10000

end Go.Proofs.YtbcjnmifflflfaaGreatDoor
end

/- Contracts: the same expressions, signals, controls. -/
section
namespace Go.Proofs.YtbcjnmifflflfaaGreatDoor
set_option maxHeartbeats 4000000
set_option maxRecDepth 10000

def allEq {α : Type} (f : α → α → Bool) : List α → List α → Bool
  | [], [] => true
  | a :: us, b :: ws => f a b && allEq f us ws
  | _, _ => false
mutual
def eqE : Expr → Expr → Bool
  | ⟨o, i, us⟩, ⟨p, j, ws⟩ => o == p && i == j && eqL us ws
def eqL : List Expr → List Expr → Bool
  | [], [] => true
  | a :: us, b :: ws => eqE a b && eqL us ws
  | _, _ => false
end
theorem eqL_all : ∀ us ws : List Expr, eqL us ws = allEq eqE us ws
  | [], [] => rfl
  | a :: us, b :: ws => by simp only [eqL, allEq, eqL_all us ws]
  | [], _ :: _ => rfl
  | _ :: _, [] => rfl
theorem eqE_eq (x y : Expr) : eqE x y = (x.op == y.op && x.index == y.index && allEq eqE x.args y.args) := by cases x; cases y; simp [eqE, eqL_all]
theorem allEq_len {α : Type} {f : α → α → Bool} : ∀ {us ws : List α}, allEq f us ws = true → us.length = ws.length
  | [], [], _ => rfl
  | a :: us, b :: ws, h => by simp only [allEq, Bool.and_eq_true] at h; simp [allEq_len h.2]
  | [], _ :: _, h => by simp [allEq] at h
  | _ :: _, [], h => by simp [allEq] at h
theorem allEq_ne {α : Type} {f : α → α → Bool} {us ws : List α} (h : us.length ≠ ws.length) : allEq f us ws = false := by
  cases he : allEq f us ws
  · rfl
  · exact absurd (allEq_len he) h
theorem allEq_drop {α : Type} {f : α → α → Bool} {us ws : List α} {i : Nat} {x y : α} (hx : us[i]? = some x) (hy : ws[i]? = some y) : allEq f (us.drop i) (ws.drop i) = (f x y && allEq f (us.drop (i + 1)) (ws.drop (i + 1))) := by
  obtain ⟨h1, rfl⟩ := List.getElem?_eq_some_iff.1 hx
  obtain ⟨h2, rfl⟩ := List.getElem?_eq_some_iff.1 hy
  rw [List.drop_eq_getElem_cons h1, List.drop_eq_getElem_cons h2, allEq]
theorem EqualFuncE_fn (xs ys : List Expr) (hx : Sh xs) (hy : Sh ys) (eq : Expr → Expr → Bool) (f : FuncId) (hf : ∀ x ∈ xs, ∀ y ∈ ys, CallFn Tryz.prog f [aE x, aE y] (aB (eq x y))) :
    CallFn Tryz.prog 285 [.dat (.sl (xs.map encE)), .dat (.sl (ys.map encE)), .fn f [] []] (aB (allEq eq xs ys)) := by
  refine callFz_of Tryz.func285 rfl Tryz.ntmps285 (rs := [.tmp 6]) rfl (by kernel_rfl) (by simp) (by kernel_rfl) ?_
  by_cases hl : xs.length = ys.length
  · simp [hl]
    refine V.forI (σ := Unit) xs.length [1, 2, 15, 16] (by simp; exact rfl) (fun i _ => [(17, aI i)]) (fun _ _ => []) (fun i _ => allEq eq xs ys = allEq eq (xs.drop i) (ys.drop i)) () (by simp) (by simp) ⟨by simp; exact rfl, by simp⟩ ?_ ?_
    · rintro i - hi hI
      obtain ⟨x, hx1⟩ : ∃ x, xs[i] = x := ⟨_, rfl⟩
      obtain ⟨y, hy1⟩ : ∃ y, ys[i]'(by omega) = y := ⟨_, rfl⟩
      have hxo : xs[i]? = some x := by rw [List.getElem?_eq_getElem hi, hx1]
      have hyo : ys[i]? = some y := by rw [List.getElem?_eq_getElem (by omega), hy1]
      have hc := hf x (List.mem_of_getElem? hxo) y (List.mem_of_getElem? hyo)
      rw [allEq_drop hxo hyo] at hI
      have hi2 : i < ys.length := by omega
      simp [← hl, hi, hx1, hy1, hi2, encE_eq]
      intro b8 b9
      refine hc.s ?_
      cases e : eq x y
      · rw [e] at hI
        simp at hI
        simp [hI]
      · rw [e] at hI
        simp at hI
        simp [hI]
        omega
    · rintro - hI
      rw [List.drop_length, hl, List.drop_length] at hI
      simp [hl, hI, allEq]
  · have hl' : ¬ (xs.length : Int) = ys.length := by omega
    rw [allEq_ne hl]
    simp [hl']

theorem equal_fn : ∀ (N : Nat) (x : Expr), SizeOf.sizeOf x < N → OkE x → ∀ y : Expr, OkE y → CallFn Tryz.prog 245 [aE x, aE y] (aB (eqE x y))
  | 0, _, h, _, _, _ => absurd h (Nat.not_lt_zero _)
  | N + 1, x, hN, hx, y, hy => by
    have ih := EqualFuncE_fn x.args y.args hx.len hy.len eqE 245 fun a ha b hb => equal_fn N a (by have := Expr.lt_of_mem ha; omega) (hx.args a ha) b (hy.args b hb)
    refine callFz_of Tryz.func245 rfl Tryz.ntmps245 (rs := [.tmp 4]) rfl (by kernel_rfl) (by simp) (by kernel_rfl) ?_
    rw [eqE_eq]
    generalize allEq eqE x.args y.args = b at ih ⊢
    simp
    refine GCall.fn (aB b) (fun h => ⟨by first | trivial | exact h, ih⟩) ?_
    simp

def sameX (x y : Expr) : Bool := lightE x && lightE y && eqE x y
theorem meas_light (x : Expr) : lightE x = true ↔ ∃ s, meas x = .ok s := (light_iff x).trans (meas_iff x).symm
theorem sameE_fn (x y : Expr) (hx : OkE x) (hy : OkE y) : CallFn Tryz.prog 191 [aE x, aE y] (aB (sameX x y)) := by
  have c1 := measure_fn x hx
  have c2 := measure_fn y hy
  have c3 := equal_fn (SizeOf.sizeOf x + 1) x (by omega) hx y hy
  have l1 := meas_light x
  have l2 := meas_light y
  refine callFz_of Tryz.func191 rfl Tryz.ntmps191 (rs := [.tmp 4]) rfl (by kernel_rfl) (by simp) (by kernel_rfl) ?_
  simp
  refine V.forI (σ := Unit) 2 [2, 3, 12, 13] (by simp; exact rfl) (fun i _ => [(14, aI i)]) (fun _ _ => []) (fun i _ => (0 < i → lightE x = true) ∧ (1 < i → lightE y = true)) () (by simp) (by simp) ⟨by simp; exact rfl, by simp⟩ ?_ ?_
  · rintro i - hi hI
    have hi' : (i : Int) < 2 := by omega
    obtain rfl | rfl : i = 0 ∨ i = 1 := by omega
    · simp
      intro b6
      refine c1.s ?_
      cases hm : meas x with
      | ok s =>
        have hl := l1.2 ⟨s, hm⟩
        obtain ⟨n, d⟩ := s
        simp [hl]
      | error e =>
        have hl : lightE x = false := by
          cases h : lightE x
          · rfl
          · obtain ⟨s, hs⟩ := l1.1 h; rw [hm] at hs; cases hs
        simp [sameX, hl]
    · simp at hI
      simp
      intro b6
      refine c2.s ?_
      cases hm : meas y with
      | ok s =>
        have hl := l2.2 ⟨s, hm⟩
        obtain ⟨n, d⟩ := s
        simp [hl, hI]
      | error e =>
        have hl : lightE y = false := by
          cases h : lightE y
          · rfl
          · obtain ⟨s, hs⟩ := l2.1 h; rw [hm] at hs; cases hs
        simp [sameX, hl]
  · rintro - hI
    simp at hI
    simp
    refine c3.s ?_
    simp [sameX, hI]

/-! ### Signals and controls -/
def sameSig (a b : Signal) : Bool := a.name == b.name && a.kind == b.kind && sameX a.on b.on && sameX a.off b.off && a.delay == b.delay && (a.init == b.init)
def sameC (a b : Control) : Bool := a.actuators == b.actuators && decide (a.inputs = b.inputs) && allEq sameSig a.signals b.signals && decide (a.plus = b.plus) && decide (a.minus = b.minus)
end Go.Proofs.YtbcjnmifflflfaaGreatDoor
end
