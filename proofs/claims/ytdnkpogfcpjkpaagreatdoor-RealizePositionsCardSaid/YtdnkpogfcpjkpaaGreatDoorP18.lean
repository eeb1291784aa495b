/- Texts joined by a program: Hh, Hi, Hn. -/
import Derived.Test.YtdnkpogfcpjkpaaGreatDoorP17
import Derived.Test.YtdnkpogfcpjkpaaGreatDoorP14
import Derived.Test.YtdnkpogfcpjkpaaGreatDoorP16
set_option linter.unusedSimpArgs false
set_option linter.unusedVariables false

section
namespace Go.Proofs.YtdnkpogfcpjkpaaGreatDoor
set_option maxHeartbeats 8000000
set_option maxRecDepth 10000
def sideM (m : Mk) (a : Nat) (i : Nat) : Mk := (List.range i).foldl (fun m s => (m.add 6 (letterT a ++ numT s) 0 (2 * a + s)).feed (letterT a ++ numT s)) m
def portsM (m : Mk) (a : Nat) (i : Nat) : Mk := (List.range i).foldl (fun m s => m.join ⟨86 :: letterT a, [if s = 0 then 50 else 52]⟩ ⟨letterT a, [if s = 0 then 50 else 52]⟩) m
theorem side_succ (m : Mk) (a i : Nat) : sideM m a (i + 1) = ((sideM m a i).add 6 (letterT a ++ numT i) 0 (2 * a + i)).feed (letterT a ++ numT i) := by unfold sideM; rw [List.range_succ, List.foldl_append]; rfl
theorem ports_succ (m : Mk) (a i : Nat) : portsM m a (i + 1) = (portsM m a i).join ⟨86 :: letterT a, [if i = 0 then 50 else 52]⟩ ⟨letterT a, [if i = 0 then 50 else 52]⟩ := by unfold portsM; rw [List.range_succ, List.foldl_append]; rfl
theorem valve_add (m : Mk) (kind : Int) (name : List UInt8) (delay line a : Int) : (m.add kind name delay line).valve a = { m with parts := m.parts ++ [⟨kind, name, delay, m.signal, none, a, line⟩] } := by
  unfold Mk.valve Mk.add
  dsimp only
  rw [set_last]
  simp
theorem act_parts (m : Mk) (a : Nat) : actM m a = portsM ((((sideM (m.add 1 (letterT a) 0 (-1)) a 2).add 2 (86 :: letterT a) 0 (-1)).valve a).feed (86 :: letterT a)) a 2 := by
  rw [ports_succ, ports_succ, side_succ, side_succ, num0, num1]
  rfl
def FewM (m : Mk) (n : Nat) : Prop := m.parts.length ≤ n ∧ m.joins.length ≤ 3 * n
theorem FewM.add {m : Mk} {n : Nat} (h : FewM m n) (kind : Int) (name : List UInt8) (delay line : Int) : FewM (m.add kind name delay line) (n + 1) := by
  obtain ⟨h1, h2⟩ := h
  refine ⟨by simp [Mk.add]; omega, by show m.joins.length ≤ _; omega⟩
theorem FewM.join {m : Mk} {n : Nat} (h : FewM m n) (a b : Pin) : FewM (m.join a b) (n + 1) := by
  obtain ⟨h1, h2⟩ := h
  have := joinD_len a b
  refine ⟨by show m.parts.length ≤ _; omega, by simp only [Mk.join, List.length_append]; omega⟩
theorem FewM.feed {m : Mk} {n : Nat} (h : FewM m n) (name : List UInt8) : FewM (m.feed name) (n + 1) := h.join _ _
theorem FewM.valve {m : Mk} {n : Nat} (h : FewM m n) (a : Int) : FewM (m.valve a) n := ⟨by rw [valve_parts]; exact h.1, h.2⟩
theorem FewM.mono {m : Mk} {n k : Nat} (h : FewM m n) (hk : n ≤ k) : FewM m k := ⟨by have := h.1; omega, by have := h.2; omega⟩
theorem few_side {m : Mk} {n : Nat} (h : FewM m n) (a : Nat) : ∀ i, FewM (sideM m a i) (n + 2 * i)
  | 0 => h
  | i + 1 => by
    rw [side_succ]
    exact ((few_side h a i).add _ _ _ _).feed _
theorem few_ports {m : Mk} {n : Nat} (h : FewM m n) (a : Nat) : ∀ i, FewM (portsM m a i) (n + i)
  | 0 => h
  | i + 1 => by
    rw [ports_succ]
    exact (few_ports h a i).join _ _
theorem side_row {c : Control} {b b4 b5 bg : Nat} {hp hj : Value} {m : Mk} {a i : Nat} {n : Nat} {Q : PostQ} (ha : a < 26) (hi : i < 2) (hf : FewM m n) (hn : n ≤ 100000) :
    vcC ⟨Tryz.prog, none, 98⟩ (loopC Tryz.f63 1) (hdE [(0, .ptr 70 b 0), (2, aI a), (3, .dat (.str (letterT a))), (19, aI c.actuators), (20, aI a)] [(28, aI i)]) (hcat (mkrH c b b4 b5 bg hp hj (sideM m a i)) [])
      (LoopQ Q fun E' H' => ∃ g : Value × Value, True ∧ (∀ p ∈ [(28, aI (i + 1 : Nat))], wk (E' p.1) p.2) ∧ (∀ p ∈ [(0, A.ptr 70 b 0), (2, aI a), (3, .dat (.str (letterT a))), (19, aI c.actuators), (20, aI a)], E' p.1 = p.2) ∧
        subN (hcat (mkrH c b b4 b5 bg g.1 g.2 (sideM m a (i + 1))) []) H') := by
  have h1 := few_side hf a i
  have hadd := add37_s (c := c) (b := b) (b4 := b4) (b5 := b5) (bg := bg) (hp := hp) (hj := hj) (m := sideM m a i) 6 (letterT a ++ numT i) 0 (2 * a + i) (by have := h1.1; omega)
  have hfd := fun hp' => feed37_s (c := c) (b := b) (b4 := b4) (b5 := b5) (bg := bg) (hp := hp') (hj := hj) (m := (sideM m a i).add 6 (letterT a ++ numT i) 0 (2 * a + i)) (letterT a ++ numT i) (by have := (h1.add 6 (letterT a ++ numT i) 0 (2 * a + i)).2; omega)
  have hnl := numT_len i
  have hla : (letterT a).length = 1 := rfl
  rw [side_succ]
  refine vc_part rfl ?_
  have hi' : (i : Int) < 2 := by omega
  simp [hi']
  refine (Itoa_fn i (by omega)).s ?_
  simp
  refine ⟨by omega, by omega, by omega, (hadd.on0 rfl).mono ?_⟩
  rintro _ _ ⟨hp1, rfl, rfl⟩
  simp
  refine ((hfd hp1).on0 rfl).mono ?_
  rintro _ _ ⟨rfl, hj1, rfl⟩
  simp
  omega
abbrev pkv (c : Control) (b a : Nat) : List (Nat × A) := [(0, .ptr 70 b 0), (2, aI a), (3, .dat (.str (letterT a))), (19, aI c.actuators), (20, aI a), (57, .record [.str [50], .str [52]])]
theorem ports_row {c : Control} {b b4 b5 bg : Nat} {hp hj : Value} {m : Mk} {a i : Nat} {n : Nat} {Q : PostQ} (hi : i < 2) (hf : FewM m n) (hn : n ≤ 100000) :
    vcC ⟨Tryz.prog, none, 98⟩ (loopC Tryz.f63 2) (hdE (pkv c b a) [(58, aI i)]) (hcat (mkrH c b b4 b5 bg hp hj (portsM m a i)) [])
      (LoopQ Q fun E' H' => ∃ g : Value × Value, True ∧ (∀ p ∈ [(58, aI (i + 1 : Nat))], wk (E' p.1) p.2) ∧ (∀ p ∈ pkv c b a, E' p.1 = p.2) ∧ subN (hcat (mkrH c b b4 b5 bg g.1 g.2 (portsM m a (i + 1))) []) H') := by
  have h1 := few_ports hf a i
  have hjn := join37_s (c := c) (b := b) (b4 := b4) (b5 := b5) (bg := bg) (hp := hp) (hj := hj) (m := portsM m a i) ⟨86 :: letterT a, [if i = 0 then 50 else 52]⟩ ⟨letterT a, [if i = 0 then 50 else 52]⟩ (by have := h1.2; omega)
  have hla : (letterT a).length = 1 := rfl
  rw [ports_succ]
  refine vc_part rfl ?_
  have hi' : (i : Int) < 2 := by omega
  obtain rfl | rfl : i = 0 ∨ i = 1 := by omega
  all_goals
    simp at hjn
    simp [hla]
    refine (hjn.on0 rfl).mono ?_
    rintro _ _ ⟨rfl, hj1, rfl⟩
    simp
theorem act_row {c : Control} {b b4 b5 bg : Nat} {hp hj : Value} {m : Mk} {a : Nat} {n : Nat} {Q : PostQ} (hc : Sm c) (ha : (a : Int) < c.actuators) (hac : c.actuators ≤ 12) (hf : FewM m n) (hn : n ≤ 50000) :
    vcC ⟨Tryz.prog, none, 98⟩ (loopC Tryz.f63 0) (hdE [(0, .ptr 70 b 0), (19, aI c.actuators)] [(20, aI a)]) (hcat (mkrH c b b4 b5 bg hp hj m) [])
      (LoopQ Q fun E' H' => ∃ g : Value × Value, True ∧ (∀ p ∈ [(20, aI (a + 1 : Nat))], wk (E' p.1) p.2) ∧ (∀ p ∈ [(0, A.ptr 70 b 0), (19, aI c.actuators)], E' p.1 = p.2) ∧
        subN (hcat (mkrH c b b4 b5 bg g.1 g.2 (actM m a)) []) H') := by
  have hla : (letterT a).length = 1 := rfl
  have hadd := add37_s (c := c) (b := b) (b4 := b4) (b5 := b5) (bg := bg) (hp := hp) (hj := hj) (m := m) 1 (letterT a) 0 (-1) (by have := hf.1; omega)
  refine vc_part rfl ?_
  simp [ha]
  refine (letter_fn a (by omega)).s ?_
  simp
  refine (hadd.on0 rfl).mono ?_
  rintro _ _ ⟨hp1, rfl, rfl⟩
  simp
  have hf1 : FewM (m.add 1 (letterT a) 0 (-1)) (n + 1) := hf.add _ _ _ _
  obtain ⟨m1, hm1⟩ : ∃ m1, m.add 1 (letterT a) 0 (-1) = m1 := ⟨_, rfl⟩
  rw [hm1] at hf1
  have hs0 : sideM m1 a 0 = m1 := rfl
  have hact : actM m a = portsM ((((sideM m1 a 2).add 2 (86 :: letterT a) 0 (-1)).valve a).feed (86 :: letterT a)) a 2 := by rw [← hm1]; exact act_parts m a
  have hs2 := few_side hf1 a 2
  rw [hm1, hact]
  refine V.forI (σ := Value × Value) (kv := [(0, .ptr 70 b 0), (2, aI a), (3, .dat (.str (letterT a))), (19, aI c.actuators), (20, aI a)]) 2 [0, 2, 3, 19, 20] (by simp) (fun i _ => [(28, aI i)]) (fun i g => mkrH c b b4 b5 bg g.1 g.2 (sideM m1 a i)) (fun _ _ => True) (hp1, hj) trivial (by simp) ⟨by simp; exact rfl, by simp [hs0]⟩ ?_ ?_
  · rintro i ⟨hp2, hj2⟩ hi -
    exact vc_of_part rfl (side_row (by omega) hi hf1 (by omega))
  · rintro ⟨hp2, hj2⟩ -
    generalize sideM m1 a 2 = m2 at *
    have hadd2 := add37_s (c := c) (b := b) (b4 := b4) (b5 := b5) (bg := bg) (hp := hp2) (hj := hj2) (m := m2) 2 (86 :: letterT a) 0 (-1) (by have := hs2.1; omega)
    have hf3 : FewM ((m2.add 2 (86 :: letterT a) 0 (-1)).valve a) (n + 6) := (hs2.add 2 (86 :: letterT a) 0 (-1)).valve a
    have hv := valve_add m2 2 (86 :: letterT a) 0 (-1) a
    obtain ⟨m3, hm3⟩ : ∃ m3, (m2.add 2 (86 :: letterT a) 0 (-1)).valve a = m3 := ⟨_, rfl⟩
    rw [hm3] at hf3 hv ⊢
    have hfd := fun hp' => feed37_s (c := c) (b := b) (b4 := b4) (b5 := b5) (bg := bg) (hp := hp') (hj := hj2) (m := m3) (86 :: letterT a) (by have := hf3.2; omega)
    have hf4 := hf3.feed (86 :: letterT a)
    simp [hla]
    refine (hadd2.on0 rfl).mono ?_
    rintro _ _ ⟨hp3, rfl, rfl⟩
    simp [Mk.add, hla]
    refine ((hfd hp3).on0 (by simp [hv, argA])).mono ?_
    rintro _ _ ⟨rfl, hj3, rfl⟩
    simp
    have hp0 : portsM (m3.feed (86 :: letterT a)) a 0 = m3.feed (86 :: letterT a) := rfl
    refine V.forI (σ := Value × Value) (kv := pkv c b a) 2 [0, 2, 3, 19, 20, 57] (by simp) (fun i _ => [(58, aI i)]) (fun i g => mkrH c b b4 b5 bg g.1 g.2 (portsM (m3.feed (86 :: letterT a)) a i)) (fun _ _ => True) (hp3, hj3) trivial (by simp) ⟨by simp; exact rfl, by simp [hp0]⟩ ?_ ?_
    · rintro i ⟨hp4, hj4⟩ hi -
      exact vc_of_part rfl (ports_row hi hf4 (by omega))
    · rintro ⟨hp4, hj4⟩ -
      simp
      omega
theorem in_row {c : Control} {b b4 b5 bg : Nat} {hp hj : Value} {m : Mk} {i : Nat} {n : Nat} {Q : PostQ} (hc : Sm c) (hi : i < c.inputs.length) (hf : FewM m n) (hn : n ≤ 100000) :
    vcC ⟨Tryz.prog, none, 98⟩ (loopC Tryz.f63 3) (hdE [(0, .ptr 70 b 0), (76, aTs c.inputs), (77, aI c.inputs.length)] [(78, aI i)]) (hcat (mkrH c b b4 b5 bg hp hj m) [])
      (LoopQ Q fun E' H' => ∃ g : Value × Value, True ∧ (∀ p ∈ [(78, aI (i + 1 : Nat))], wk (E' p.1) p.2) ∧ (∀ p ∈ [(0, A.ptr 70 b 0), (76, aTs c.inputs), (77, aI c.inputs.length)], E' p.1 = p.2) ∧
        subN (hcat (mkrH c b b4 b5 bg g.1 g.2 (inM c m i)) []) H') := by
  obtain ⟨h1, h2, h3⟩ := hc
  obtain ⟨s, hs⟩ : ∃ s, c.inputs[i] = s := ⟨_, rfl⟩
  have hso : c.inputs[i]? = some s := by rw [List.getElem?_eq_getElem hi, hs]
  have hsd : c.inputs.getD i [] = s := by rw [List.getD_eq_getElem?_getD, hso]; rfl
  have hadd := add37_s (c := c) (b := b) (b4 := b4) (b5 := b5) (bg := bg) (hp := hp) (hj := hj) (m := m) 7 s 0 (2 * c.actuators + i) (by have := hf.1; omega)
  have hfd := fun hp' => feed37_s (c := c) (b := b) (b4 := b4) (b5 := b5) (bg := bg) (hp := hp') (hj := hj) (m := m.add 7 s 0 (2 * c.actuators + i)) s (by have := (hf.add 7 s 0 (2 * c.actuators + i)).2; omega)
  have hin : inM c m i = (m.add 7 s 0 (2 * c.actuators + i)).feed s := by unfold inM; rw [hsd]
  rw [hin]
  refine vc_part rfl ?_
  simp [hi, hs, hso]
  refine ⟨by omega, by omega, (hadd.on0 rfl).mono ?_⟩
  rintro _ _ ⟨hp1, rfl, rfl⟩
  simp
  refine ((hfd hp1).on0 rfl).mono ?_
  rintro _ _ ⟨rfl, hj1, rfl⟩
  simp
  omega
theorem few_act {m : Mk} {n : Nat} (h : FewM m n) (a : Nat) : FewM (actM m a) (n + 9) := by
  rw [act_parts]
  exact few_ports ((((few_side (h.add 1 (letterT a) 0 (-1)) a 2).add _ _ _ _).valve _).feed _) a 2
theorem few_in {c : Control} {m : Mk} {n : Nat} (h : FewM m n) (i : Nat) : FewM (inM c m i) (n + 2) := (h.add _ _ _ _).feed _
theorem few_fold {f : Mk → Nat → Mk} {k : Nat} (hf : ∀ m n i, FewM m n → FewM (f m i) (n + k)) {m : Mk} {n : Nat} (h : FewM m n) : ∀ i, FewM ((List.range i).foldl f m) (n + k * i)
  | 0 => h
  | i + 1 => by
    rw [List.range_succ, List.foldl_append]
    exact (hf _ _ i (few_fold hf h i)).mono (by rw [Nat.mul_succ]; omega)
def mk0 : Mk := ⟨[], [], 0, 0, []⟩
theorem fold_succ {α : Type} (f : α → Nat → α) (m : α) (i : Nat) : (List.range (i + 1)).foldl f m = f ((List.range i).foldl f m) i := by rw [List.range_succ, List.foldl_append]; rfl
theorem few_machine (c : Control) : FewM (machineM c) (1 + 9 * c.actuators.toNat + 2 * c.inputs.length) :=
  few_fold (fun m n i h => few_in h i) (few_fold (fun m n i h => few_act h i) (n := 1) ⟨by simp [Mk.add], by simp [Mk.add]⟩ _) _
theorem machine37_s {c : Control} (hc : Sm c) (h0 : 0 ≤ c.actuators ∧ c.actuators ≤ 12) (hin : c.inputs.length ≤ 1000) {b b4 b5 bg : Nat} {hp hj : Value} :
    CallS Tryz.prog 63 [.ptr 70 b 0] (mkrH c b b4 b5 bg hp hj mk0) fun r H' => r = .tuple [] ∧ ∃ hp' hj', H' = mkrH c b b4 b5 bg hp' hj' (machineM c) := by
  obtain ⟨mb, hmb⟩ : ∃ mb, (⟨[], [], 0, -1, []⟩ : Mk).add 0 [83] 0 (-1) = mb := ⟨_, rfl⟩
  have hfb : FewM mb 1 := by rw [← hmb]; exact ⟨by simp [Mk.add], by simp [Mk.add]⟩
  have hfa : ∀ i, FewM ((List.range i).foldl actM mb) (1 + 9 * i) := few_fold (fun m n i h => few_act h i) hfb
  have hma : machineM c = (List.range c.inputs.length).foldl (inM c) ((List.range c.actuators.toNat).foldl actM mb) := by rw [← hmb]; rfl
  have hfi : ∀ i, FewM ((List.range i).foldl (inM c) ((List.range c.actuators.toNat).foldl actM mb)) (1 + 9 * c.actuators.toNat + 2 * i) := few_fold (fun m n i h => few_in h i) (hfa _)
  have hadd := add37_s (c := c) (b := b) (b4 := b4) (b5 := b5) (bg := bg) (hp := hp) (hj := hj) (m := ⟨[], [], 0, -1, []⟩) 0 [83] 0 (-1) (by simp)
  rw [hmb] at hadd
  have hz1 : (List.range 0).foldl actM mb = mb := rfl
  have hz2 : (List.range 0).foldl (inM c) ((List.range c.actuators.toNat).foldl actM mb) = (List.range c.actuators.toNat).foldl actM mb := rfl
  have hcc := hc
  obtain ⟨h1, h2, h3⟩ := hc
  refine callS_of Tryz.func63 rfl Tryz.ntmps63 (rs := []) rfl (by kernel_rfl) (by simp) (by kernel_rfl) ?_
  simp [mk0]
  simp at hadd
  refine (hadd.on0 rfl).mono ?_
  rintro _ _ ⟨hp1, rfl, rfl⟩
  simp
  refine V.forI (σ := Value × Value) (kv := [(0, .ptr 70 b 0), (19, aI c.actuators)]) c.actuators.toNat [0, 19] (by simp) (fun i _ => [(20, aI i)]) (fun i g => mkrH c b b4 b5 bg g.1 g.2 ((List.range i).foldl actM mb)) (fun _ _ => True) (hp1, hj) trivial (by simp) ⟨by simp; exact rfl, by simp [hz1]⟩ ?_ ?_
  · rintro i ⟨hp2, hj2⟩ hi -
    rw [fold_succ]
    exact vc_of_part rfl (act_row hcc (by omega) (by omega) (hfa i) (by omega))
  · rintro ⟨hp2, hj2⟩ -
    have hmx : max c.actuators 0 = c.actuators := by omega
    simp [hmx]
    refine V.forI (σ := Value × Value) (kv := [(0, .ptr 70 b 0), (76, aTs c.inputs), (77, aI c.inputs.length)]) c.inputs.length [0, 76, 77] (by simp) (fun i _ => [(78, aI i)]) (fun i g => mkrH c b b4 b5 bg g.1 g.2 ((List.range i).foldl (inM c) ((List.range c.actuators.toNat).foldl actM mb))) (fun _ _ => True) (hp2, hj2) trivial (by simp) ⟨by simp; exact rfl, by simp [hz2]⟩ ?_ ?_
    · rintro i ⟨hp3, hj3⟩ hi -
      rw [fold_succ]
      exact vc_of_part rfl (in_row hcc hi (hfi i) (by omega))
    · rintro ⟨hp3, hj3⟩ -
      simp
      exact ⟨hp3, hj3, by rw [hma]; simp⟩
end Go.Proofs.YtdnkpogfcpjkpaaGreatDoor
end

section
namespace Go.Proofs.YtdnkpogfcpjkpaaGreatDoor
set_option maxHeartbeats 8000000
set_option maxRecDepth 10000
structure OkR (c : Control) : Prop where
  sm : Sm c
  act : 0 ≤ c.actuators ∧ c.actuators ≤ 6
  inp : c.inputs.length ≤ 16
  len : c.signals.length ≤ 64
  sig : ∀ (i : Nat) (x : Signal), c.signals[i]? = some x → (x.kind = 0 ∨ x.kind = 1 ∨ x.kind = 2) ∧ (RightE (countC c) x.on ∧ sizeN x.on ≤ 256) ∧ (x.kind = 1 → RightE (countC c) x.off ∧ sizeN x.off ≤ 256)
  pil : PilC c
theorem okR_of {c : Control} (h : checkC c = 0) : OkR c := by
  have hf := fine_of h
  obtain ⟨h1, h2, h3, h4, h5⟩ := chk_parts h
  refine ⟨hf.sm, ⟨by omega, by omega⟩, h2.1, h2.2, fun i x hx => ?_, pil_of h⟩
  have hr := sig_right hf hx
  have hs := sig_parts (hf.sigs i x hx)
  refine ⟨by omega, ⟨hr.1, size_check hs.2.2.1⟩, fun hk => ⟨hr.2, size_check (hs.2.2.2.2.1 hk).1⟩⟩
def FewN (m : Mk) (n : Nat) : Prop := FewM m n ∧ m.number ≤ n
theorem few_app {c : Control} {m : Mk} {n : Nat} (h : FewN m n) {x : Expr} (hx : sizeN x ≤ 256) : FewN (m.app (m.expr c x)) (n + 256) := by
  obtain ⟨⟨h1, h2⟩, h3⟩ := h
  obtain ⟨a1, a2, a3⟩ := expr_small false (portM c m.gates) m.signal x m.number
  have e : m.expr c x = exprD false (portM c m.gates) m.signal x m.number := rfl
  rw [← e] at a1 a2 a3
  refine ⟨⟨?_, ?_⟩, ?_⟩
  · simp only [Mk.app, List.length_append]; omega
  · simp only [Mk.app, List.length_append]; omega
  · simp only [Mk.app]; omega
theorem few_to {c : Control} {m : Mk} {n : Nat} (h : FewN m n) {x : Expr} (hx : sizeN x ≤ 256) (p : Pin) : FewN (m.to c x p) (n + 257) := by
  have := few_app (c := c) h hx
  exact ⟨this.1.join _ _, by have := this.2; show (m.app _).number ≤ _; omega⟩
theorem FewN.sig {m : Mk} {n : Nat} (h : FewN m n) (i : Nat) : FewN (m.sig i) n := ⟨h.1, h.2⟩
theorem FewN.mono {m : Mk} {n k : Nat} (h : FewN m n) (hk : n ≤ k) : FewN m k := ⟨h.1.mono hk, Nat.le_trans h.2 hk⟩
theorem put_gate (k : Int) (p : Pin) : ∀ g : List (Int × Pin), mput (g.map eGate) (.int .i64 k) (encPin p) = (putG g k p).map eGate
  | [] => rfl
  | q :: r => by
    simp only [List.map_cons, mput, putG, leq, put_gate k p r, beq_self_eq_true, Bool.true_and, beq_iff_eq]
    by_cases h : q.1 = k
    · rw [if_pos h, if_pos h, List.map_cons]
      simp [eGate, h]
    · rw [if_neg h, if_neg h, List.map_cons]
theorem first37b {c : Control} (hc : Sm c) {b b4 b5 bg : Nat} {hp hj : Value} {m : Mk} : CallS Tryz.prog 34 [.ptr 70 b 0] [(70, .box b (mkrC c b b4 b5 bg hp hj m))] fun r H' => r = aI (firstC c) ∧ H' = [(70, .box b (mkrC c b b4 b5 bg hp hj m))] := by
  obtain ⟨h1, h2, h3⟩ := hc
  refine callS_of Tryz.func34 rfl Tryz.ntmps34 (rs := [.tmp 2]) rfl (by kernel_rfl) (by simp) (by kernel_rfl) ?_
  simp
  refine V.drawX (fun _ => none) (by kernel_rfl) (by kernel_rfl) (by simp) ?_
  simp
  unfold firstC
  omega
theorem own37b {c : Control} (hc : Sm c) {i : Nat} (hi : i < c.signals.length) {b b4 b5 bg : Nat} {hp hj : Value} {m : Mk} : CallS Tryz.prog 80 [.ptr 70 b 0, aI i] [(70, .box b (mkrC c b b4 b5 bg hp hj m))] fun r H' => r = .dat (.str (ownT c i)) ∧ H' = [(70, .box b (mkrC c b b4 b5 bg hp hj m))] := by
  obtain ⟨h1, h2, h3⟩ := hc
  have hit := Itoa_fn i (by omega)
  obtain ⟨x, hx⟩ : ∃ x, c.signals[i] = x := ⟨_, rfl⟩
  have hxo : c.signals[i]? = some x := by rw [List.getElem?_eq_getElem hi, hx]
  have hk : kindAt c i = x.kind := by simp [kindAt, hxo]
  have hnl := numT_len i
  refine callS_of Tryz.func80 rfl Tryz.ntmps80 (rs := [.tmp 4]) rfl (by kernel_rfl) (by simp) (by kernel_rfl) ?_
  simp [hi, hx]
  refine ⟨fun e => hit.s ?_, fun e => hit.s ?_⟩
  · simp [ownT, hk, e]
    omega
  · simp [ownT, hk, e]
    omega
abbrev gkv (c : Control) (b : Nat) : List (Nat × A) := [(0, .ptr 70 b 0), (11, .dat (.sl (c.signals.map encS))), (12, aI c.signals.length)]
theorem gate_row {c : Control} {b b4 b5 bg : Nat} {hp hj : Value} {m : Mk} {i : Nat} {n : Nat} {Q : PostQ} (hc : OkR c) (hi : i < c.signals.length) (hf : FewN m n) (hn : n ≤ 200000) :
    vcC ⟨Tryz.prog, none, 161⟩ (loopC Tryz.f64 0) (hdE (gkv c b) [(13, aI i)]) (hcat (mkrH c b b4 b5 bg hp hj m) [])
      (LoopQ Q fun E' H' => ∃ g : Value × Value, True ∧ (∀ p ∈ [(13, aI (i + 1 : Nat))], wk (E' p.1) p.2) ∧ (∀ p ∈ gkv c b, E' p.1 = p.2) ∧
        subN (hcat (mkrH c b b4 b5 bg g.1 g.2 (gateM c m i)) []) H') := by
  obtain ⟨x, hx⟩ : ∃ x, c.signals[i] = x := ⟨_, rfl⟩
  have hxo : c.signals[i]? = some x := by rw [List.getElem?_eq_getElem hi, hx]
  have hk : kindAt c i = x.kind := by simp [kindAt, hxo]
  have hrl := rl_map (f := encS) (n := 10) (fun _ => rfl) c.signals
  obtain ⟨a1, a2, a3⟩ := hc.sm
  have hac := hc.act
  have hg : gateM c m i = if x.kind = 0 then { (m.sig i).app ((m.sig i).expr c x.on) with gates := putG m.gates (firstC c + i) ((m.sig i).expr c x.on).pin } else m.sig i := by
    unfold gateM
    rw [hk, hxo]
    rfl
  have hon := (hc.sig i x hxo).2.1
  have hff := hf.1
  have hex := expr37_s hc.sm ⟨by omega, by omega⟩ (b := b) (b4 := b4) (b5 := b5) (bg := bg) _ x.on (Nat.lt_succ_self _) hon.1 hp hj (m.sig i) (by show m.parts.length + _ ≤ _; have := hff.1; omega) (by show m.joins.length + _ ≤ _; have := hff.2; omega) (by show m.number + _ ≤ _; have := hf.2; omega)
  have hfs := first37_s hc.sm (b := b) (b4 := b4) (b5 := b5) (bg := bg) (hp := hp) (hj := hj) (m := m.sig i)
  rw [hg]
  refine vc_part rfl ?_
  simp [hi, hx, hxo, hrl]
  intro b3
  refine ⟨fun h0 => ?_, fun h0 => ?_⟩
  · rw [if_pos h0]
    refine V.drawC 11 [0, 1, 2, 3, 6, 7] (fun t => if t = 30 then some (.ro (aI (firstC c))) else none) rfl rfl (by kernel_rfl) (by kernel_rfl) ?_
    have hfb := first37b hc.sm (b := b) (b4 := b4) (b5 := b5) (bg := bg) (hp := hp) (hj := hj) (m := m.sig i)
    have hfc : firstC c = 2 * c.actuators + c.inputs.length := rfl
    have hinp := hc.inp
    simp
    refine ⟨hfb, by omega, ?_⟩
    refine (hex.on1 rfl).mono ?_
    rintro _ _ ⟨_, ⟨hp1, hj1, rfl, rfl⟩, rfl⟩
    simp
    exact ⟨by omega, by omega, hp1, hj1, ⟨rfl, rfl⟩, rfl, rfl, put_gate _ _ _⟩
  · rw [if_neg h0]
    simp [Mk.sig]
    omega
abbrev skv (c : Control) (b : Nat) : List (Nat × A) := [(0, .ptr 70 b 0), (42, .dat (.sl (c.signals.map encS))), (43, aI c.signals.length)]
theorem sig_row {c : Control} {b b4 b5 bg : Nat} {hp hj : Value} {m : Mk} {i : Nat} {n : Nat} {Q : PostQ} (hc : OkR c) (hi : i < c.signals.length) (hf : FewN m n) (hn : n ≤ 200000) :
    vcC ⟨Tryz.prog, none, 161⟩ (loopC Tryz.f64 1) (hdE (skv c b) [(44, aI i)]) (hcat (mkrH c b b4 b5 bg hp hj m) [])
      (LoopQ Q fun E' H' => ∃ g : Value × Value, True ∧ (∀ p ∈ [(44, aI (i + 1 : Nat))], wk (E' p.1) p.2) ∧ (∀ p ∈ skv c b, E' p.1 = p.2) ∧
        subN (hcat (mkrH c b b4 b5 bg g.1 g.2 (sigM c m i)) []) H') := by
  obtain ⟨x, hx⟩ : ∃ x, c.signals[i] = x := ⟨_, rfl⟩
  have hxo : c.signals[i]? = some x := by rw [List.getElem?_eq_getElem hi, hx]
  have hrl := rl_map (f := encS) (n := 10) (fun _ => rfl) c.signals
  obtain ⟨a1, a2, a3⟩ := hc.sm
  have hac := hc.act
  have hfc : firstC c = 2 * c.actuators + c.inputs.length := rfl
  have hinp := hc.inp
  obtain ⟨hkk, hon, hoff⟩ := hc.sig i x hxo
  have hft := fun (hp hj : Value) (m : Mk) => first37_s hc.sm (b := b) (b4 := b4) (b5 := b5) (bg := bg) (hp := hp) (hj := hj) (m := m)
  have how := fun (hp hj : Value) (m : Mk) => own37_s hc.sm hi (b := b) (b4 := b4) (b5 := b5) (bg := bg) (hp := hp) (hj := hj) (m := m)
  have hsg : sigM c m i = if x.kind = 1 then (((((m.sig i).add 2 (ownT c i) 0 (firstC c + i)).feed (ownT c i)).to c x.on ⟨ownT c i, [49, 52]⟩).to c x.off ⟨ownT c i, [49, 50]⟩)
    else if x.kind = 2 then (((m.sig i).add 12 (ownT c i) x.delay (firstC c + i)).feed (ownT c i)).to c x.on ⟨ownT c i, [49, 50]⟩ else m.sig i := by
    unfold sigM
    rw [hxo]
  rw [hsg]
  refine vc_part rfl ?_
  simp [hi, hx, hxo, hrl]
  intro b5'
  have key : ∀ (kind delay : Int), FewN (((m.sig i).add kind (ownT c i) delay (firstC c + i)).feed (ownT c i)) (n + 2) := fun kind delay => ⟨((hf.sig i).1.add _ _ _ _).feed _, by have := hf.2; show m.number ≤ _; omega⟩
  have hadd := fun (kind delay : Int) => add37_s (c := c) (b := b) (b4 := b4) (b5 := b5) (bg := bg) (hp := hp) (hj := hj) (m := m.sig i) kind (ownT c i) delay (firstC c + i) (by have := hf.1.1; show m.parts.length ≤ _; omega)
  have hfd := fun (kind delay : Int) hp1 => feed37_s (c := c) (b := b) (b4 := b4) (b5 := b5) (bg := bg) (hp := hp1) (hj := hj) (m := (m.sig i).add kind (ownT c i) delay (firstC c + i)) (ownT c i) (by have := hf.1.2; show m.joins.length ≤ _; omega)
  have hexp : ∀ (hp hj : Value) (m' : Mk), FewN m' (n + 260) → ∀ y : Expr, RightE (countC c) y → sizeN y ≤ 256 → CallS Tryz.prog 105 [.ptr 70 b 0, aE y] (mkrH c b b4 b5 bg hp hj m') fun r H' => ∃ hp' hj', r = .record (encPin (m'.expr c y).pin) ∧ H' = mkrH c b b4 b5 bg hp' hj' (m'.app (m'.expr c y)) := by
    intro hp hj m' hf' y hy hs
    exact expr37_s hc.sm ⟨by omega, by omega⟩ _ y (Nat.lt_succ_self _) hy hp hj m' (by have := hf'.1.1; omega) (by have := hf'.1.2; omega) (by have := hf'.2; omega)
  have hjn : ∀ (hp hj : Value) (m' : Mk), FewN m' (n + 516) → ∀ p q : Pin, CallS Tryz.prog 108 [.ptr 70 b 0, .record (encPin p), .record (encPin q)] (mkrH c b b4 b5 bg hp hj m') fun r H' => r = .tuple [] ∧ ∃ hj', H' = mkrH c b b4 b5 bg hp hj' (m'.join p q) := by
    intro hp hj m' hf' p q
    exact join37_s p q (by have := hf'.1.2; omega)
  refine ⟨fun h1 => ?_, fun h1 => ⟨fun h2 => ?_, fun h2 => ?_⟩⟩
  · rw [if_pos h1]
    have hff := hoff h1
    have k0 := key 2 0
    have k1 := few_to (c := c) k0 hon.2 ⟨ownT c i, [49, 52]⟩
    have k1a := few_app (c := c) k0 hon.2
    have k2a := few_app (c := c) k1 hff.2
    refine ((how hp hj (m.sig i)).on1 rfl).mono ?_
    rintro _ _ ⟨_, ⟨rfl, rfl⟩, rfl⟩
    simp
    refine ((hft hp hj (m.sig i)).on1 rfl).mono ?_
    rintro _ _ ⟨_, ⟨rfl, rfl⟩, rfl⟩
    simp
    refine ⟨by omega, ((hadd 2 0).on1 rfl).mono ?_⟩
    rintro _ _ ⟨_, ⟨hp1, rfl, rfl⟩, rfl⟩
    simp
    refine ((how hp1 hj _).on1 rfl).mono ?_
    rintro _ _ ⟨_, ⟨rfl, rfl⟩, rfl⟩
    simp
    refine ((hfd 2 0 hp1).on1 rfl).mono ?_
    rintro _ _ ⟨_, ⟨rfl, hj1, rfl⟩, rfl⟩
    simp
    refine ((hexp hp1 hj1 _ (k0.mono (by omega)) x.on hon.1 hon.2).on1 rfl).mono ?_
    rintro _ _ ⟨_, ⟨hp2, hj2, rfl, rfl⟩, rfl⟩
    simp
    refine ((how hp2 hj2 _).on1 rfl).mono ?_
    rintro _ _ ⟨_, ⟨rfl, rfl⟩, rfl⟩
    simp
    refine ((hjn hp2 hj2 _ (k1a.mono (by omega)) _ ⟨ownT c i, [49, 52]⟩).on1 rfl).mono ?_
    rintro _ _ ⟨_, ⟨rfl, hj3, rfl⟩, rfl⟩
    simp
    refine ((hexp hp2 hj3 ((((m.sig i).add 2 (ownT c i) 0 (firstC c + i)).feed (ownT c i)).to c x.on ⟨ownT c i, [49, 52]⟩) (k1.mono (by omega)) x.off hff.1 hff.2).on1 rfl).mono ?_
    rintro _ _ ⟨_, ⟨hp4, hj4, rfl, rfl⟩, rfl⟩
    simp
    refine ((how hp4 hj4 _).on1 rfl).mono ?_
    rintro _ _ ⟨_, ⟨rfl, rfl⟩, rfl⟩
    simp
    refine ((hjn hp4 hj4 _ (k2a.mono (by omega)) _ ⟨ownT c i, [49, 50]⟩).on1 rfl).mono ?_
    rintro _ _ ⟨_, ⟨rfl, hj5, rfl⟩, rfl⟩
    simp
    exact ⟨by omega, hp4, hj5, by simp [Mk.to]⟩
  · rw [if_neg h1, if_pos h2]
    have k0 := key 12 x.delay
    have k1a := few_app (c := c) k0 hon.2
    have hfb := first37b hc.sm (b := b) (b4 := b4) (b5 := b5) (bg := bg) (hp := hp) (hj := hj) (m := m.sig i)
    have hob := own37b hc.sm hi (b := b) (b4 := b4) (b5 := b5) (bg := bg) (hp := hp) (hj := hj) (m := m.sig i)
    refine V.drawEndK 10 rfl rfl (fun t => if t = 96 then some (.ro (.dat (.str (ownT c i)))) else if t = 100 then some (.ro (aI (firstC c))) else none) (by kernel_rfl) (by kernel_rfl) (by simp) ?_
    simp
    refine ⟨hob, hfb, by omega, ((hadd 12 x.delay).on1 rfl).mono ?_⟩
    rintro _ _ ⟨_, ⟨hp1, rfl, rfl⟩, rfl⟩
    simp
    refine ((how hp1 hj _).on1 rfl).mono ?_
    rintro _ _ ⟨_, ⟨rfl, rfl⟩, rfl⟩
    simp
    refine ((hfd 12 x.delay hp1).on1 rfl).mono ?_
    rintro _ _ ⟨_, ⟨rfl, hj1, rfl⟩, rfl⟩
    simp
    refine ((hexp hp1 hj1 _ (k0.mono (by omega)) x.on hon.1 hon.2).on1 rfl).mono ?_
    rintro _ _ ⟨_, ⟨hp2, hj2, rfl, rfl⟩, rfl⟩
    simp
    refine ((how hp2 hj2 _).on1 rfl).mono ?_
    rintro _ _ ⟨_, ⟨rfl, rfl⟩, rfl⟩
    simp
    refine ((hjn hp2 hj2 _ (k1a.mono (by omega)) _ ⟨ownT c i, [49, 50]⟩).on1 rfl).mono ?_
    rintro _ _ ⟨_, ⟨rfl, hj3, rfl⟩, rfl⟩
    simp
    exact ⟨by omega, hp2, hj3, by simp [Mk.to]⟩
  · rw [if_neg h1, if_neg h2]
    simp [Mk.sig]
    omega
theorem pil_row {c : Control} {b b4 b5 bg : Nat} {hp' hj : Value} {m : Mk} {a : Nat} {n : Nat} {Q : PostQ} (hc : OkR c) (ha : (a : Int) < c.actuators) (hf : FewM m n) (hn : n ≤ 200000) :
    vcC ⟨Tryz.prog, none, 161⟩ (loopC Tryz.f64 2) (hdE [(0, .ptr 70 b 0), (124, aI c.actuators)] [(125, aI a)]) (hcat (mkrH c b b4 b5 bg hp' hj m) [])
      (LoopQ Q fun E' H' => ∃ g : Value × Value, True ∧ (∀ p ∈ [(125, aI (a + 1 : Nat))], wk (E' p.1) p.2) ∧ (∀ p ∈ [(0, A.ptr 70 b 0), (124, aI c.actuators)], E' p.1 = p.2) ∧
        subN (hcat (mkrH c b b4 b5 bg g.1 g.2 (pilM c m a)) []) H') := by
  have hac := hc.act
  have hpil := hc.pil
  have hpl := hpil.1
  have hml := hpil.2.1
  have hip : a < c.plus.length := by omega
  have him : a < c.minus.length := by omega
  obtain ⟨p, hp1⟩ : ∃ p, c.plus[a]'hip = p := ⟨_, rfl⟩
  obtain ⟨q, hq1⟩ : ∃ q, c.minus[a]'him = q := ⟨_, rfl⟩
  have hpo : c.plus[a]? = some p := by rw [List.getElem?_eq_getElem hip, hp1]
  have hqo : c.minus[a]? = some q := by rw [List.getElem?_eq_getElem him, hq1]
  have hpr := hpil.2.2.1 p (List.mem_of_getElem? hpo)
  have hqr := hpil.2.2.2 q (List.mem_of_getElem? hqo)
  have hla : (letterT a).length = 1 := rfl
  have hport := fun (hj : Value) (m : Mk) (l : Int) (hl : 0 ≤ l ∧ l < countC c) => port37_s (b := b) (b4 := b4) (b5 := b5) (bg := bg) (hp' := hp') (hj := hj) (m := m) hc.sm ⟨by omega, by omega⟩ hl
  have hpm : pilM c m a = (m.join (portM c m.gates p) ⟨86 :: letterT a, [49, 52]⟩).join (portM c m.gates q) ⟨86 :: letterT a, [49, 50]⟩ := by
    unfold pilM
    rw [List.getD_eq_getElem?_getD, List.getD_eq_getElem?_getD, hpo, hqo]
    rfl
  have hf1 := hf.join (portM c m.gates p) ⟨86 :: letterT a, [49, 52]⟩
  have hjn := fun (hj : Value) (m' : Mk) (hf' : FewM m' (n + 1)) (p q : Pin) => join37_s (c := c) (b := b) (b4 := b4) (b5 := b5) (bg := bg) (hp := hp') (hj := hj) (m := m') p q (by have := hf'.2; omega)
  rw [hpm]
  refine vc_part rfl ?_
  simp [ha, hip, hp1, him, hq1, hpo, hqo]
  refine ((hport hj m p hpr).on0 rfl).mono ?_
  rintro _ _ ⟨rfl, rfl⟩
  simp
  refine (letter_fn a (by omega)).s ?_
  simp [hla]
  refine ((hjn hj m (hf.mono (by omega)) _ ⟨86 :: letterT a, [49, 52]⟩).on0 rfl).mono ?_
  rintro _ _ ⟨rfl, hj1, rfl⟩
  simp [him, hq1, hqo]
  have hg2 : (m.join (portM c m.gates p) ⟨86 :: letterT a, [49, 52]⟩).gates = m.gates := rfl
  have hport2 := hport hj1 (m.join (portM c m.gates p) ⟨86 :: letterT a, [49, 52]⟩) q hqr
  rw [hg2] at hport2
  refine (hport2.on0 rfl).mono ?_
  rintro _ _ ⟨rfl, rfl⟩
  simp
  refine (letter_fn a (by omega)).s ?_
  simp [hla]
  refine ((hjn hj1 _ hf1 _ ⟨86 :: letterT a, [49, 50]⟩).on0 rfl).mono ?_
  rintro _ _ ⟨rfl, hj2, rfl⟩
  simp
  omega
theorem few_gate {c : Control} (hc : OkR c) {m : Mk} {n i : Nat} (h : FewN m n) (hi : i < c.signals.length) : FewN (gateM c m i) (n + 256) := by
  have hxo : c.signals[i]? = some c.signals[i] := List.getElem?_eq_getElem hi
  have hk : kindAt c i = c.signals[i].kind := by simp [kindAt, hxo]
  unfold gateM
  rw [hk, hxo]
  dsimp only [Option.map_some, Option.getD_some]
  split
  · have := few_app (c := c) (h.sig i) (hc.sig i _ hxo).2.1.2
    exact ⟨this.1, this.2⟩
  · exact (h.sig i).mono (by omega)
theorem few_sig {c : Control} (hc : OkR c) {m : Mk} {n i : Nat} (h : FewN m n) : FewN (sigM c m i) (n + 520) := by
  unfold sigM
  cases hx : c.signals[i]? with
  | none => exact h.mono (by omega)
  | some x =>
    obtain ⟨h1, h2, h3⟩ := hc.sig i x hx
    have k0 : ∀ kind delay : Int, FewN (((m.sig i).add kind (ownT c i) delay (firstC c + i)).feed (ownT c i)) (n + 2) := fun kind delay => ⟨((h.sig i).1.add _ _ _ _).feed _, by have := h.2; show m.number ≤ _; omega⟩
    dsimp only
    split
    · rename_i hk
      exact (few_to (few_to (k0 2 0) h2.2 _) (h3 hk).2 _).mono (by omega)
    · split
      · exact (few_to (k0 12 x.delay) h2.2 _).mono (by omega)
      · exact (h.sig i).mono (by omega)
theorem few_pil {c : Control} {m : Mk} {n : Nat} (h : FewM m n) (a : Nat) : FewM (pilM c m a) (n + 2) := (h.join _ _).join _ _
theorem few_gates {c : Control} (hc : OkR c) {m : Mk} {n : Nat} (h : FewN m n) : ∀ i, i ≤ c.signals.length → FewN ((List.range i).foldl (gateM c) m) (n + 256 * i)
  | 0, _ => h
  | i + 1, hi => by
    rw [fold_succ]
    exact (few_gate hc (few_gates hc h i (by omega)) (by omega)).mono (by omega)
theorem few_sigs {c : Control} (hc : OkR c) {m : Mk} {n : Nat} (h : FewN m n) : ∀ i, FewN ((List.range i).foldl (sigM c) m) (n + 520 * i)
  | 0 => h
  | i + 1 => by
    rw [fold_succ]
    exact (few_sig hc (few_sigs hc h i)).mono (by omega)
theorem act_num (m : Mk) (a : Nat) : (actM m a).number = m.number := rfl
theorem in_num (c : Control) (m : Mk) (a : Nat) : (inM c m a).number = m.number := rfl
theorem fold_num {f : Mk → Nat → Mk} (h : ∀ m a, (f m a).number = m.number) : ∀ (l : List Nat) (m : Mk), (l.foldl f m).number = m.number
  | [], _ => rfl
  | a :: l, m => by rw [List.foldl_cons, fold_num h l, h]
theorem few_start {c : Control} (hc : OkR c) : FewN (machineM c) 200 := by
  have h1 := hc.act
  have h2 := hc.inp
  refine ⟨(few_machine c).mono (by omega), ?_⟩
  unfold machineM
  rw [fold_num (in_num c), fold_num act_num]
  simp [Mk.add]
theorem signals37_s {c : Control} (hc : OkR c) {b b4 b5 bg : Nat} {hp' hj : Value} : CallS Tryz.prog 64 [.ptr 70 b 0] (mkrH c b b4 b5 bg hp' hj (machineM c)) fun r H' => r = .tuple [] ∧ ∃ hp' hj', H' = mkrH c b b4 b5 bg hp' hj' (wholeM c) := by
  have f0 := few_start hc
  have f1 := few_gates hc f0
  have f2 := few_sigs hc (f1 c.signals.length (Nat.le_refl _))
  have hlen := hc.len
  have hact := hc.act
  obtain ⟨m1, hm1⟩ : ∃ m1, (List.range c.signals.length).foldl (gateM c) (machineM c) = m1 := ⟨_, rfl⟩
  rw [hm1] at f2
  obtain ⟨m2, hm2⟩ : ∃ m2, (List.range c.signals.length).foldl (sigM c) m1 = m2 := ⟨_, rfl⟩
  have f3 := f2 c.signals.length
  rw [hm2] at f3
  have f4 : ∀ i, FewM ((List.range i).foldl (pilM c) m2) (200 + 256 * c.signals.length + 520 * c.signals.length + 2 * i) := few_fold (fun m n i h => few_pil h i) f3.1
  have hw : wholeM c = (List.range c.actuators.toNat).foldl (pilM c) m2 := by rw [← hm2, ← hm1]; rfl
  have z0 : (List.range 0).foldl (gateM c) (machineM c) = machineM c := rfl
  have z1 : (List.range 0).foldl (sigM c) m1 = m1 := rfl
  have z2 : (List.range 0).foldl (pilM c) m2 = m2 := rfl
  have hrl := rl_map (f := encS) (n := 10) (fun _ => rfl) c.signals
  rw [hw]
  refine callS_of Tryz.func64 rfl Tryz.ntmps64 (rs := []) rfl (by kernel_rfl) (by simp) (by kernel_rfl) ?_
  simp
  refine V.forI (σ := Value × Value) (kv := gkv c b) c.signals.length [0, 11, 12] (by simp) (fun i _ => [(13, aI i)]) (fun i g => mkrH c b b4 b5 bg g.1 g.2 ((List.range i).foldl (gateM c) (machineM c))) (fun _ _ => True) (hp', hj) trivial (by simp) ⟨by simp; exact rfl, by simp [z0]⟩ ?_ ?_
  · rintro i ⟨hp2, hj2⟩ hi -
    rw [fold_succ]
    exact vc_of_part rfl (gate_row hc hi (f1 i (by omega)) (by omega))
  · rintro ⟨hp2, hj2⟩ -
    rw [hm1]
    simp
    refine V.forI (σ := Value × Value) (kv := skv c b) c.signals.length [0, 42, 43] (by simp) (fun i _ => [(44, aI i)]) (fun i g => mkrH c b b4 b5 bg g.1 g.2 ((List.range i).foldl (sigM c) m1)) (fun _ _ => True) (hp2, hj2) trivial (by simp) ⟨by simp; exact rfl, by simp [z1]⟩ ?_ ?_
    · rintro i ⟨hp3, hj3⟩ hi -
      rw [fold_succ]
      exact vc_of_part rfl (sig_row hc hi (f2 i) (by omega))
    · rintro ⟨hp3, hj3⟩ -
      rw [hm2]
      simp
      refine V.forI (σ := Value × Value) (kv := [(0, .ptr 70 b 0), (124, aI c.actuators)]) c.actuators.toNat [0, 124] (by simp) (fun i _ => [(125, aI i)]) (fun i g => mkrH c b b4 b5 bg g.1 g.2 ((List.range i).foldl (pilM c) m2)) (fun _ _ => True) (hp3, hj3) trivial (by simp) ⟨by simp; exact rfl, by simp [z2]⟩ ?_ ?_
      · rintro i ⟨hp4, hj4⟩ hi -
        rw [fold_succ]
        exact vc_of_part rfl (pil_row hc (by omega) (f4 i) (by omega))
      · rintro ⟨hp4, hj4⟩ -
        have hmx : max c.actuators 0 = c.actuators := by omega
        simp [hmx]
end Go.Proofs.YtdnkpogfcpjkpaaGreatDoor
end

section
namespace Go.Proofs.YtdnkpogfcpjkpaaGreatDoor
set_option maxHeartbeats 1000000
theorem numT_ne (n : Nat) : numT n ≠ [] := by
  unfold numT
  rw [Go.Lib.decDigits]
  split <;> simp
theorem dig_inj {a b : Nat} (ha : a < 10) (hb : b < 10) (h : UInt8.ofNat (48 + a) = UInt8.ofNat (48 + b)) : a = b := by
  have := congrArg UInt8.toNat h
  simp only [UInt8.toNat_ofNat'] at this
  omega
theorem numT_inj : ∀ (a b : Nat), numT a = numT b → a = b := by
  intro a
  induction a using Nat.strongRecOn with
  | _ a ih =>
    intro b h
    have ha : numT a = if a < 10 then [UInt8.ofNat (48 + a)] else numT (a / 10) ++ [UInt8.ofNat (48 + a % 10)] := by unfold numT; rw [Go.Lib.decDigits]; split <;> rfl
    have hb : numT b = if b < 10 then [UInt8.ofNat (48 + b)] else numT (b / 10) ++ [UInt8.ofNat (48 + b % 10)] := by unfold numT; rw [Go.Lib.decDigits]; split <;> rfl
    rw [ha, hb] at h
    have hl : ∀ n, 0 < (numT n).length := fun n => List.length_pos_iff.2 (numT_ne n)
    by_cases h1 : a < 10
    · by_cases h2 : b < 10
      · rw [if_pos h1, if_pos h2] at h
        exact dig_inj h1 h2 (List.cons.inj h).1
      · rw [if_pos h1, if_neg h2] at h
        have h3 := congrArg List.length h
        rw [List.length_append] at h3
        simp only [List.length_cons, List.length_nil] at h3
        have := hl (b / 10)
        omega
    · by_cases h2 : b < 10
      · rw [if_neg h1, if_pos h2] at h
        have h3 := congrArg List.length h
        rw [List.length_append] at h3
        simp only [List.length_cons, List.length_nil] at h3
        have := hl (a / 10)
        omega
      · rw [if_neg h1, if_neg h2] at h
        obtain ⟨e1, e2⟩ := List.append_inj' h rfl
        have := ih (a / 10) (by omega) (b / 10) e1
        have := dig_inj (Nat.mod_lt _ (by omega)) (Nat.mod_lt _ (by omega)) (List.cons.inj e2).1
        omega
def opLet (l : UInt8) : Prop := l = 78 ∨ l = 80 ∨ l = 81
def ownLet (l : UInt8) : Prop := l = 77 ∨ l = 84
def Numd (k : Nat) (ps : List Made) : Prop := ∀ (t : Nat) (p : Made), ps[t]? = some p → ∃ l, opLet l ∧ p.name = l :: numT (k + t)
theorem Numd.nil (k : Nat) : Numd k [] := fun t p h => by simp at h
theorem Numd.app {k j : Nat} {a b : List Made} (h : Numd k a) (h2 : Numd j b) (hj : j = k + a.length) : Numd k (a ++ b) := by
  intro t p hp
  by_cases ht : t < a.length
  · rw [List.getElem?_append_left ht] at hp
    exact h t p hp
  · rw [List.getElem?_append_right (by omega)] at hp
    obtain ⟨l, h3, h4⟩ := h2 _ p hp
    exact ⟨l, h3, by rw [h4, hj]; congr 2; omega⟩
theorem Numd.one {k : Nat} {p : Made} {l : UInt8} (hl : opLet l) (hn : p.name = l :: numT k) : Numd k [p] := by
  intro t q hq
  cases t with
  | zero =>
    simp at hq
    subst hq
    exact ⟨l, hl, hn⟩
  | succ t => simp at hq
theorem twin_numd {sg kind : Int} {letter : UInt8} (hl : opLet letter) {k : Nat} : ∀ (ps : List Pin) {d : Dl}, Numd k d.parts → d.num = k + d.parts.length →
    Numd k (ps.foldl (twinD sg kind letter) d).parts ∧ (ps.foldl (twinD sg kind letter) d).num = k + (ps.foldl (twinD sg kind letter) d).parts.length
  | [], d, h, hn => ⟨h, hn⟩
  | p :: ps, d, h, hn => by
    rw [List.foldl_cons]
    refine twin_numd hl ps ?_ ?_
    · exact h.app (Numd.one (l := letter) hl rfl) hn
    · simp only [twinD, List.length_append, List.length_cons, List.length_nil]
      omega
mutual
theorem expr_numd (fl : Bool) (pf : Int → Pin) (sg : Int) : ∀ (x : Expr) (k : Nat), Numd k (exprD fl pf sg x k).parts ∧ (exprD fl pf sg x k).num = k + (exprD fl pf sg x k).parts.length
  | ⟨op, ix, args⟩, k => by
    have h := args_numd fl pf sg args k
    rw [exprD_eq]
    dsimp only
    split
    · exact ⟨.nil k, rfl⟩
    · split
      · exact ⟨.nil k, rfl⟩
      · generalize argsD fl pf sg args k = r at *
        obtain ⟨r1, r2, r3, r4⟩ := r
        obtain ⟨h1, h2⟩ := h
        dsimp only at h1 h2 ⊢
        split
        · unfold notsD
          cases args.head? with
          | none => exact ⟨h1, h2⟩
          | some y =>
            refine ⟨h1.app (Numd.one (l := 78) (.inl rfl) rfl) h2, ?_⟩
            simp only [notD, List.length_append, List.length_cons, List.length_nil]
            omega
        · unfold foldD
          dsimp only
          cases r4 with
          | nil => exact ⟨h1, h2⟩
          | cons p ps =>
            refine twin_numd ?_ ps h1 h2
            split
            · exact .inr (.inl rfl)
            · exact .inr (.inr rfl)
theorem args_numd (fl : Bool) (pf : Int → Pin) (sg : Int) : ∀ (xs : List Expr) (k : Nat), Numd k (argsD fl pf sg xs k).parts ∧ (argsD fl pf sg xs k).num = k + (argsD fl pf sg xs k).parts.length
  | [], k => ⟨.nil k, rfl⟩
  | x :: xs, k => by
    obtain ⟨a1, a2⟩ := expr_numd fl pf sg x k
    obtain ⟨b1, b2⟩ := args_numd fl pf sg xs (exprD fl pf sg x k).num
    rw [argsD]
    refine ⟨a1.app b1 a2, ?_⟩
    simp only [List.length_append]
    omega
end
def NameK (B : List (List UInt8)) (k n : Nat) (s : List UInt8) : Prop :=
  s ∈ B ∨ (∃ l i, ownLet l ∧ i < k ∧ s = l :: numT i) ∨ ∃ l j, opLet l ∧ j < n ∧ s = l :: numT j
def Base (B : List (List UInt8)) : Prop := ∀ s ∈ B, ∀ l r, s = l :: r → ¬ opLet l ∧ ¬ ownLet l
structure NmOK (B : List (List UInt8)) (m : Mk) (k : Nat) : Prop where
  nod : (m.parts.map Made.name).Nodup
  cls : ∀ s ∈ m.parts.map Made.name, NameK B k m.number s
theorem op_own {l : UInt8} (h1 : opLet l) (h2 : ownLet l) : False := by
  rcases h1 with rfl | rfl | rfl <;> rcases h2 with h | h <;> exact absurd h (by decide)
theorem app_names {B : List (List UInt8)} (hB : Base B) {m : Mk} {k : Nat} (h : NmOK B m k) {ps : List Made} {n : Nat} (hp : Numd m.number ps) (hn : n = m.number + ps.length) (js : List (Pin × Pin)) : NmOK B { m with parts := m.parts ++ ps, joins := js, number := n } k := by
  obtain ⟨h1, h2⟩ := h
  have hnew : ∀ s ∈ ps.map Made.name, ∃ l t, opLet l ∧ m.number ≤ t ∧ t < n ∧ s = l :: numT t := by
    intro s hs
    obtain ⟨p, hp1, rfl⟩ := List.mem_map.1 hs
    obtain ⟨t, ht, he⟩ := List.getElem_of_mem hp1
    obtain ⟨l, h3, h4⟩ := hp t p (by rw [List.getElem?_eq_getElem ht, he])
    exact ⟨l, m.number + t, h3, by omega, by omega, h4⟩
  constructor
  · dsimp only
    rw [List.map_append, List.nodup_append]
    refine ⟨h1, ?_, ?_⟩
    · rw [List.Nodup, List.pairwise_iff_getElem]
      intro i j hi hj hij e
      rw [List.length_map] at hi hj
      rw [List.getElem_map, List.getElem_map] at e
      obtain ⟨l, _, a1⟩ := hp i ps[i] (List.getElem?_eq_getElem hi)
      obtain ⟨l', _, a2⟩ := hp j ps[j] (List.getElem?_eq_getElem hj)
      rw [a1, a2] at e
      have := numT_inj _ _ (List.cons.inj e).2
      omega
    · intro a ha b hb e
      subst e
      obtain ⟨l, t, b1, b2, b3, rfl⟩ := hnew a hb
      rcases h2 _ ha with c1 | ⟨l', i, c1, c2, c3⟩ | ⟨l', j, c1, c2, c3⟩
      · exact (hB _ c1 l _ rfl).1 b1
      · rw [(List.cons.inj c3).1] at b1
        exact op_own b1 c1
      · have := numT_inj _ _ (List.cons.inj c3).2
        omega
  · intro s hs
    dsimp only at hs ⊢
    rw [List.map_append] at hs
    rcases List.mem_append.1 hs with hs | hs
    · rcases h2 s hs with c1 | c1 | ⟨l, j, c1, c2, c3⟩
      · exact .inl c1
      · exact .inr (.inl c1)
      · exact .inr (.inr ⟨l, j, c1, by omega, c3⟩)
    · obtain ⟨l, t, b1, b2, b3, b4⟩ := hnew s hs
      exact .inr (.inr ⟨l, t, b1, b3, b4⟩)
theorem expr_names {B : List (List UInt8)} (hB : Base B) {c : Control} {m : Mk} {k : Nat} (h : NmOK B m k) (x : Expr) : NmOK B (m.app (m.expr c x)) k := by
  obtain ⟨h1, h2⟩ := expr_numd false (portM c m.gates) m.signal x m.number
  exact app_names hB h h1 h2 _
theorem more_names {B : List (List UInt8)} {m : Mk} {k : Nat} (h : NmOK B m k) : NmOK B m (k + 1) := by
  refine ⟨h.nod, fun s hs => ?_⟩
  rcases h.cls s hs with c1 | ⟨l, i, c1, c2, c3⟩ | c1
  · exact .inl c1
  · exact .inr (.inl ⟨l, i, c1, by omega, c3⟩)
  · exact .inr (.inr c1)
theorem own_names {B : List (List UInt8)} (hB : Base B) {m : Mk} {k : Nat} (h : NmOK B m k) {p : Made} {l : UInt8} (hl : ownLet l) (hp : p.name = l :: numT k) (js : List (Pin × Pin)) : NmOK B { m with parts := m.parts ++ [p], joins := js } (k + 1) := by
  obtain ⟨h1, h2⟩ := h
  constructor
  · dsimp only
    rw [List.map_append, List.nodup_append]
    refine ⟨h1, by simp, ?_⟩
    intro a ha b hb e
    subst e
    simp only [List.map_cons, List.map_nil, List.mem_singleton] at hb
    rw [hp] at hb
    subst hb
    rcases h2 _ ha with c1 | ⟨l', i, c1, c2, c3⟩ | ⟨l', j, c1, c2, c3⟩
    · exact (hB _ c1 l _ rfl).2 hl
    · have := numT_inj _ _ (List.cons.inj c3).2
      omega
    · rw [(List.cons.inj c3).1] at hl
      exact op_own c1 hl
  · intro s hs
    dsimp only at hs ⊢
    rw [List.map_append] at hs
    rcases List.mem_append.1 hs with hs | hs
    · rcases h2 s hs with c1 | ⟨l', i, c1, c2, c3⟩ | c1
      · exact .inl c1
      · exact .inr (.inl ⟨l', i, c1, by omega, c3⟩)
      · exact .inr (.inr c1)
    · simp only [List.map_cons, List.map_nil, List.mem_singleton] at hs
      exact .inr (.inl ⟨l, k, hl, by omega, by rw [hs, hp]⟩)
theorem to_names {B : List (List UInt8)} (hB : Base B) {c : Control} {m : Mk} {k : Nat} (h : NmOK B m k) (x : Expr) (p : Pin) : NmOK B (m.to c x p) k := by
  have := expr_names hB (c := c) h x
  exact ⟨this.nod, this.cls⟩
theorem sigM_names {B : List (List UInt8)} (hB : Base B) {c : Control} {m : Mk} {k : Nat} (h : NmOK B m k) : NmOK B (sigM c m k) (k + 1) := by
  have hs : NmOK B (m.sig k) k := ⟨h.nod, h.cls⟩
  unfold sigM
  cases hx : c.signals[k]? with
  | none => exact more_names h
  | some x =>
    have hk : kindAt c k = x.kind := by simp [kindAt, hx]
    dsimp only
    split
    · rename_i h1
      refine to_names hB (to_names hB (own_names hB hs (l := 77) (.inl rfl) ?_ _) _ _) _ _
      simp [ownT, hk, h1]
    · split
      · rename_i h1
        refine to_names hB (own_names hB hs (l := 84) (.inr rfl) ?_ _) _ _
        simp [ownT, hk, h1]
      · exact more_names hs
theorem gateM_names {B : List (List UInt8)} (hB : Base B) {c : Control} {m : Mk} {k : Nat} (h : NmOK B m k) (i : Nat) : NmOK B (gateM c m i) k := by
  have hs : NmOK B (m.sig i) k := ⟨h.nod, h.cls⟩
  unfold gateM
  split
  · have := expr_names hB (c := c) hs (((c.signals[i]?).map (·.on)).getD ⟨0, 0, []⟩)
    exact ⟨this.nod, this.cls⟩
  · exact hs
theorem pilM_names {B : List (List UInt8)} {c : Control} {m : Mk} {k : Nat} (h : NmOK B m k) (i : Nat) : NmOK B (pilM c m i) k := ⟨h.nod, h.cls⟩
def actN (n : Nat) : List (List UInt8) := (List.range n).flatMap fun a => [letterT a, letterT a ++ [48], letterT a ++ [49], 86 :: letterT a]
theorem valve_names (m : Mk) (a : Int) : (m.valve a).parts.map Made.name = m.parts.map Made.name := by
  unfold Mk.valve
  dsimp only
  cases hp : m.parts[m.parts.length - 1]? with
  | none =>
    have h0 : m.parts = [] := by
      cases hl : m.parts with
      | nil => rfl
      | cons a l =>
        rw [List.getElem?_eq_none_iff, hl] at hp
        simp at hp
        omega
    rw [h0]
    rfl
  | some p =>
    obtain ⟨hlt, he⟩ := List.getElem?_eq_some_iff.1 hp
    rw [List.map_set]
    dsimp only
    rw [← he]
    apply List.ext_getElem?
    intro n
    rw [List.getElem?_set]
    split
    · rename_i e
      subst e
      simp [hlt]
    · rfl
theorem act_names (m : Mk) (a : Nat) : (actM m a).parts.map Made.name = m.parts.map Made.name ++ [letterT a, letterT a ++ [48], letterT a ++ [49], 86 :: letterT a] := by
  unfold actM
  simp only [Mk.feed, Mk.join, valve_names]
  simp [Mk.add]
theorem acts_names (m : Mk) : ∀ n, ((List.range n).foldl actM m).parts.map Made.name = m.parts.map Made.name ++ actN n
  | 0 => by simp [actN]
  | n + 1 => by
    rw [List.range_succ, List.foldl_append, List.foldl_cons, List.foldl_nil, act_names, acts_names m n, actN, actN, List.range_succ, List.flatMap_append]
    simp
theorem ins_names (c : Control) (m : Mk) : ∀ n, n ≤ c.inputs.length → ((List.range n).foldl (inM c) m).parts.map Made.name = m.parts.map Made.name ++ c.inputs.take n
  | 0, _ => by simp
  | n + 1, hn => by
    rw [List.range_succ, List.foldl_append, List.foldl_cons, List.foldl_nil, List.take_add_one, ← List.append_assoc, ← ins_names c m n (by omega)]
    simp [inM, Mk.add, Mk.feed, Mk.join, List.getD_eq_getElem?_getD, List.getElem?_eq_getElem (show n < c.inputs.length by omega)]
theorem machine_names (c : Control) : (machineM c).parts.map Made.name = [83] :: (actN c.actuators.toNat ++ c.inputs) := by
  unfold machineM
  rw [ins_names c _ _ (Nat.le_refl _), acts_names, List.take_length]
  simp [Mk.add]
def headB (s : List UInt8) : Bool := match s with
  | [] => false
  | b :: _ => decide (b.toNat ≤ 70) || decide (b.toNat = 83) || decide (b.toNat = 86)
theorem acts_ok : ∀ n, n ≤ 6 → ([83] :: actN n).Nodup ∧ ([83] :: actN n).all headB = true := by
  intro n hn
  have : n = 0 ∨ n = 1 ∨ n = 2 ∨ n = 3 ∨ n = 4 ∨ n = 5 ∨ n = 6 := by omega
  rcases this with rfl | rfl | rfl | rfl | rfl | rfl | rfl <;> decide
theorem word_head {s : List UInt8} (h : wordS s ≠ false) : ∃ b r, s = b :: r ∧ 97 ≤ b.toNat ∧ b.toNat ≤ 122 := by
  cases s with
  | nil => exact absurd rfl h
  | cons b r =>
    have : wordS (b :: r) = true := by simpa using h
    simp only [wordS, Bool.and_eq_true, decide_eq_true_eq] at this
    exact ⟨b, r, rfl, this.1.1, this.1.2⟩
theorem ins_word {c : Control} (h : checkC c = 0) : ∀ s ∈ c.inputs, wordS s ≠ false := by
  obtain ⟨h1, h2, h3, h4, h5⟩ := chk_parts h
  intro s hs
  obtain ⟨i, hi, rfl⟩ := List.getElem_of_mem hs
  have := h3 i hi
  unfold inpE at this
  rw [named_inp (s := c.inputs[i]) (by omega) (by unfold firstC; omega) (by rw [show ((2 * c.actuators.toNat + i : Nat) - 2 * c.actuators : Int).toNat = i by omega, List.getElem?_eq_getElem hi])] at this
  exact (name_parts this).1
theorem ins_nodup {c : Control} (h : checkC c = 0) : c.inputs.Nodup := by
  obtain ⟨h1, h2, h3, h4, h5⟩ := chk_parts h
  rw [List.Nodup, List.pairwise_iff_getElem]
  intro i j hi hj hij e
  have hn : ∀ k (hk : k < c.inputs.length), namedC c (2 * c.actuators.toNat + k : Nat) = c.inputs[k] := fun k hk =>
    named_inp (by omega) (by unfold firstC; omega) (by rw [show ((2 * c.actuators.toNat + k : Nat) - 2 * c.actuators : Int).toNat = k by omega, List.getElem?_eq_getElem hk])
  have := fine_names h (2 * c.actuators.toNat + j) (by unfold countC; omega)
  rw [hn j hj, ← e, ← hn i hi] at this
  refine this ?_
  unfold namesB
  exact List.mem_map.2 ⟨_, List.mem_range.2 (by omega), rfl⟩
theorem machine_ok {c : Control} (h : checkC c = 0) : Base ((machineM c).parts.map Made.name) ∧ NmOK ((machineM c).parts.map Made.name) (machineM c) 0 := by
  obtain ⟨h1, h2, h3, h4, h5⟩ := chk_parts h
  obtain ⟨a1, a2⟩ := acts_ok c.actuators.toNat (by omega)
  have hw := ins_word h
  have hb : ∀ s ∈ [83] :: actN c.actuators.toNat, headB s = true := fun s hs => List.all_eq_true.1 a2 s hs
  have hm : (machineM c).parts.map Made.name = ([83] :: actN c.actuators.toNat) ++ c.inputs := machine_names c
  refine ⟨?_, ?_, fun s hs => .inl hs⟩
  · intro s hs l r e
    rw [hm] at hs
    subst e
    have hl : l.toNat ≤ 70 ∨ l.toNat = 83 ∨ l.toNat = 86 ∨ 97 ≤ l.toNat := by
      rcases List.mem_append.1 hs with hs | hs
      · have := hb _ hs
        simp only [headB, Bool.or_eq_true, decide_eq_true_eq] at this
        omega
      · obtain ⟨b, r', e, e1, e2⟩ := word_head (hw _ hs)
        rw [(List.cons.inj e).1]
        omega
    constructor
    · rintro (rfl | rfl | rfl) <;> exact absurd hl (by decide)
    · rintro (rfl | rfl) <;> exact absurd hl (by decide)
  · rw [hm, List.nodup_append]
    refine ⟨a1, ins_nodup h, ?_⟩
    intro a ha b hb2 e
    subst e
    obtain ⟨b, r, rfl, e1, e2⟩ := word_head (hw _ hb2)
    have := hb _ ha
    simp only [headB, Bool.or_eq_true, decide_eq_true_eq] at this
    omega
theorem whole_names {c : Control} (h : checkC c = 0) : ((wholeM c).parts.map Made.name).Nodup := by
  obtain ⟨hB, h0⟩ := machine_ok h
  have h1 : ∀ n, NmOK ((machineM c).parts.map Made.name) ((List.range n).foldl (gateM c) (machineM c)) 0 := by
    intro n
    induction n with
    | zero => exact h0
    | succ n ih =>
      rw [List.range_succ, List.foldl_append]
      exact gateM_names hB ih n
  have h2 : ∀ n, NmOK ((machineM c).parts.map Made.name) ((List.range n).foldl (sigM c) ((List.range c.signals.length).foldl (gateM c) (machineM c))) n := by
    intro n
    induction n with
    | zero => exact h1 _
    | succ n ih =>
      rw [List.range_succ, List.foldl_append]
      exact sigM_names hB ih
  have h3 : ∀ n, NmOK ((machineM c).parts.map Made.name) ((List.range n).foldl (pilM c) ((List.range c.signals.length).foldl (sigM c) ((List.range c.signals.length).foldl (gateM c) (machineM c)))) c.signals.length := by
    intro n
    induction n with
    | zero => exact h2 _
    | succ n ih =>
      rw [List.range_succ, List.foldl_append]
      exact pilM_names ih n
  exact (h3 _).nod
end Go.Proofs.YtdnkpogfcpjkpaaGreatDoor
end
