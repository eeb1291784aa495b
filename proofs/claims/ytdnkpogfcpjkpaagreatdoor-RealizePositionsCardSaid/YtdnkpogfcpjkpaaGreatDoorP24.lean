/- Texts joined by a program: Iu, Iv, Il, Iw. -/
import Derived.Test.YtdnkpogfcpjkpaaGreatDoorP23
import Derived.Test.YtdnkpogfcpjkpaaGreatDoorP20
import Derived.Test.YtdnkpogfcpjkpaaGreatDoorP21
set_option linter.unusedSimpArgs false
set_option linter.unusedVariables false
set_option linter.unnecessarySimpa false

section
namespace Go.Proofs.YtdnkpogfcpjkpaaGreatDoor
set_option maxHeartbeats 8000000
set_option maxRecDepth 10000
theorem with_v (d : Dr) (kind : Int) (name : List UInt8) (delay sg v l : Int) (air : Bool) (h : Value) (hn : name ≠ []) (hl : d.links.length ≤ 1000000) (hg : d.gears.length ≤ 1000000) :
    CallS Tryz.prog 115 [dA d (.own 50 h), .record [.int .i64 kind, .str name, .int .i64 delay], aI sg, aB air] [] fun r H' => r = dA (d.put ⟨kind, name, delay, sg, none, v, l⟩ air) (.own 50 h) ∧ H' = [] := by
  have e : dA (d.put ⟨kind, name, delay, sg, none, v, l⟩ air) (.own 50 h) = dA (d.put ⟨kind, name, delay, sg, none, -1, -1⟩ air) (.own 50 h) := by simp [Dr.put]
  rw [e]
  exact with_s d kind name delay sg air h hn hl hg
section
variable {c : Control} {b2 b3 : Nat}
abbrev frH (b2 b3 : Nat) (h : Value) (d : Dr) : Heap := [drB 3 b3 d h, (2, .box b2 noDr), endE h d]
abbrev frK (c : Control) (b2 b3 : Nat) : List (Nat × A) := [(1, .rptr (encC c)), (2, .ptr 2 b2 0), (3, .ptr 3 b3 0)]
abbrev FrK (c : Control) (r : A) (H' : Heap) : Prop := ∃ h, r = dA (frameR c) (.own 50 h) ∧ subP [endE h (frameR c)] H'
abbrev actK (c : Control) (b2 b3 i : Nat) (nm : List UInt8) : List (Nat × A) := [(1, .rptr (encC c)), (2, .ptr 2 b2 0), (3, .ptr 3 b3 0), (4, aI i), (5, aT nm)]
theorem act_3 {Q : PostQ} {h : Value} {d : Dr} {i : Nat} {nm : List UInt8} (hnm : nm ≠ []) (hnl : nm.length ≤ 10) (hg : Gd 70 80 0 d) (hel : d.ends.length ≤ 1000)
    (hQ : ∀ E' H' h', (∀ z ∈ [(4, aI i)], wk (E' z.1) z.2) → (∀ z ∈ frK c b2 b3, E' z.1 = z.2) → subN (frH b2 b3 h' (((d.link ⟨86 :: nm, [50]⟩ ⟨nm, [50]⟩).link ⟨86 :: nm, [52]⟩ ⟨nm, [52]⟩).ended [⟨nm ++ [48], [50]⟩, ⟨nm ++ [49], [50]⟩])) H' → Q .normal E' H') :
    vcC ⟨Tryz.prog, none, 140⟩ (bodyC Tryz.f74 0 5) (hdE (actK c b2 b3 i nm) []) (frH b2 b3 h d) Q := by
  have w5 := link_s d ⟨86 :: nm, [50]⟩ ⟨nm, [50]⟩ h (.inr (by simp)) (.inr hnm) (by have := hg.links; omega)
  have g5 := hg.link ⟨86 :: nm, [50]⟩ ⟨nm, [50]⟩
  have e5 : (d.link ⟨86 :: nm, [50]⟩ ⟨nm, [50]⟩).ends = d.ends := rfl
  generalize d.link ⟨86 :: nm, [50]⟩ ⟨nm, [50]⟩ = d5 at *
  have w6 := link_s d5 ⟨86 :: nm, [52]⟩ ⟨nm, [52]⟩ h (.inr (by simp)) (.inr hnm) (by have := g5.links; omega)
  have e6 : (d5.link ⟨86 :: nm, [52]⟩ ⟨nm, [52]⟩).ends = d.ends := e5
  generalize d5.link ⟨86 :: nm, [52]⟩ ⟨nm, [52]⟩ = d6 at *
  refine vc_body rfl ?_
  simp
  refine ⟨by omega, (w5.frame).mono ?_⟩
  rintro r _ ⟨_, ⟨rfl, rfl⟩, rfl⟩
  simp
  refine ⟨by omega, (w6.frame).mono ?_⟩
  rintro r _ ⟨_, ⟨rfl, rfl⟩, rfl⟩
  simp
  exact ⟨by omega, fun u => ⟨by omega, hQ _ _ u (by simp) (by simp) (by simp [Dr.ended, e6])⟩⟩
theorem act_2 {Q : PostQ} {h : Value} {d : Dr} {i : Nat} {nm : List UInt8} (hnm : nm ≠ []) (hnl : nm.length ≤ 10) (hg : Gd 68 78 0 d) (hel : d.ends.length ≤ 1000)
    (hQ : ∀ E' H' h', (∀ z ∈ [(4, aI i)], wk (E' z.1) z.2) → (∀ z ∈ frK c b2 b3, E' z.1 = z.2) → subN (frH b2 b3 h' (((((d.put ⟨6, nm ++ [49], 0, -1, none, -1, 2 * i + 1⟩ true).put ⟨2, 86 :: nm, 0, -1, none, i, -1⟩ true).link ⟨86 :: nm, [50]⟩ ⟨nm, [50]⟩).link ⟨86 :: nm, [52]⟩ ⟨nm, [52]⟩).ended [⟨nm ++ [48], [50]⟩, ⟨nm ++ [49], [50]⟩])) H' → Q .normal E' H') :
    vcN ⟨Tryz.prog, none, 140⟩ 2 (bodyC Tryz.f74 0 3) (hdE (actK c b2 b3 i nm) []) (frH b2 b3 h d) Q := by
  have w3 := with_v d 6 (nm ++ [49]) 0 (-1) (-1) (2 * i + 1) true h (by simp) (by have := hg.links; omega) (by have := hg.gears; omega)
  have g3 := hg.put ⟨6, nm ++ [49], 0, -1, none, -1, 2 * i + 1⟩ true
  have e3 : (d.put ⟨6, nm ++ [49], 0, -1, none, -1, 2 * i + 1⟩ true).ends = d.ends := rfl
  generalize d.put ⟨6, nm ++ [49], 0, -1, none, -1, 2 * i + 1⟩ true = d3 at *
  have w4 := with_v d3 2 (86 :: nm) 0 (-1) i (-1) true h (by simp) (by have := g3.links; simp at this; omega) (by have := g3.gears; omega)
  have g4 := g3.put ⟨2, 86 :: nm, 0, -1, none, i, -1⟩ true
  have e4 : (d3.put ⟨2, 86 :: nm, 0, -1, none, i, -1⟩ true).ends = d.ends := e3
  generalize d3.put ⟨2, 86 :: nm, 0, -1, none, i, -1⟩ true = d4 at *
  refine vcN_body rfl ?_
  simp
  refine ⟨by omega, (w3.frame).mono ?_⟩
  rintro r _ ⟨_, ⟨rfl, rfl⟩, rfl⟩
  simp
  refine ⟨by omega, (w4.frame).mono ?_⟩
  rintro r _ ⟨_, ⟨rfl, rfl⟩, rfl⟩
  simp
  exact V.cut (actK c b2 b3 i nm) (Hs := frH b2 b3 h d4) (by simp) (by simp [e4]) (vc_of_body rfl (act_3 hnm hnl (g4.mono (by omega) (by simp) (by omega)) (by rw [e4]; exact hel) hQ))
theorem act_1 {Q : PostQ} {h : Value} {d : Dr} {i : Nat} (hi : (i : Int) < 6) (hg : Gd 66 77 0 d) (hel : d.ends.length ≤ 1000)
    (hQ : ∀ E' H' h', (∀ z ∈ [(4, aI i)], wk (E' z.1) z.2) → (∀ z ∈ frK c b2 b3, E' z.1 = z.2) → subN (frH b2 b3 h' (actR d i)) H' → Q .normal E' H') :
    vcN ⟨Tryz.prog, none, 140⟩ 3 (bodyC Tryz.f74 0 0) (hdE (frK c b2 b3) [(4, aI i)]) (frH b2 b3 h d) Q := by
  have hlt := letter_at i (by omega)
  change List.drop i _ = letterT i at hlt
  unfold actR at hQ
  obtain ⟨nm, hnm⟩ : ∃ nm, letterT i = nm := ⟨_, rfl⟩
  have hnm0 : nm ≠ [] := by rw [← hnm]; simp [letterT]
  have hnl : nm.length ≤ 10 := by rw [← hnm]; simp [letterT]
  rw [hnm] at hlt hQ
  have w1 := with_v d 1 nm 0 (-1) (-1) (-1) false h hnm0 (by have := hg.links; omega) (by have := hg.gears; omega)
  have g1 := hg.put ⟨1, nm, 0, -1, none, -1, -1⟩ false
  have e1 : (d.put ⟨1, nm, 0, -1, none, -1, -1⟩ false).ends = d.ends := rfl
  generalize d.put ⟨1, nm, 0, -1, none, -1, -1⟩ false = d1 at *
  have w2 := with_v d1 6 (nm ++ [48]) 0 (-1) (-1) (2 * i) true h (by simp) (by have := g1.links; simp at this; omega) (by have := g1.gears; omega)
  have g2 := g1.put ⟨6, nm ++ [48], 0, -1, none, -1, 2 * i⟩ true
  have e2 : (d1.put ⟨6, nm ++ [48], 0, -1, none, -1, 2 * i⟩ true).ends = d.ends := e1
  generalize d1.put ⟨6, nm ++ [48], 0, -1, none, -1, 2 * i⟩ true = d2 at *
  refine vcN_body rfl ?_
  simp
  rw [hlt]
  refine ⟨by omega, by omega, (w1.frame).mono ?_⟩
  rintro r _ ⟨_, ⟨rfl, rfl⟩, rfl⟩
  simp
  refine ⟨by omega, (w2.frame).mono ?_⟩
  rintro r _ ⟨_, ⟨rfl, rfl⟩, rfl⟩
  simp
  exact V.cutN 2 (actK c b2 b3 i nm) (Hs := frH b2 b3 h d2) (by simp) (by simp [e2]) (vcN_of_body rfl (act_2 hnm0 hnl (g2.mono (by omega) (by simp) (by omega)) (by rw [e2]; exact hel) hQ))
theorem inF_row {Q : PostQ} {h : Value} {d : Dr} {i : Nat} {s : List UInt8} (hs : c.inputs[i]? = some s) (hs0 : s ≠ []) (hg : Gd 66 77 0 d) (hel : d.ends.length ≤ 1000)
    (hQ : ∀ E' H' h', (∀ z ∈ [(6, aI i)], wk (E' z.1) z.2) → (∀ z ∈ frK c b2 b3, E' z.1 = z.2) → subN (frH b2 b3 h' (inR37 c d i)) H' → Q .normal E' H') :
    vcC ⟨Tryz.prog, none, 140⟩ (bodyC Tryz.f74 1 0) (hdE (frK c b2 b3) [(6, aI i)]) (frH b2 b3 h d) Q := by
  obtain ⟨hil, hi1⟩ := List.getElem?_eq_some_iff.1 hs
  have hrd : inR37 c d i = (d.put ⟨7, s, 0, -1, none, -1, 2 * c.actuators + i⟩ true).ended [⟨s, [50]⟩] := by
    unfold inR37
    rw [List.getD_eq_getElem?_getD, hs]
    rfl
  rw [hrd] at hQ
  have w1 := with_v d 7 s 0 (-1) (-1) (2 * c.actuators + i) true h hs0 (by have := hg.links; omega) (by have := hg.gears; omega)
  have g1 := hg.put ⟨7, s, 0, -1, none, -1, 2 * c.actuators + i⟩ true
  have e1 : (d.put ⟨7, s, 0, -1, none, -1, 2 * c.actuators + i⟩ true).ends = d.ends := rfl
  generalize d.put ⟨7, s, 0, -1, none, -1, 2 * c.actuators + i⟩ true = d1 at *
  refine vc_body rfl ?_
  simp
  refine V.drawX (fun t => if t = 80 then some (.fn (dA d1 (.own 50 h))) else none) (by kernel_rfl) (by kernel_rfl) (by simp) ?_
  simp [hil, hi1, hs]
  refine ⟨w1, by kernel_rfl, ?_⟩
  refine V.drawX (fun t => none) (by kernel_rfl) (by kernel_rfl) (by simp) ?_
  simp [hil, hi1, hs]
  exact fun u => ⟨by omega, by kernel_rfl, hQ _ _ u (by simp) (by simp) (by simp [Dr.ended, e1])⟩
theorem sigF_row {Q : PostQ} {h : Value} {d : Dr} {i : Nat} {x : Signal} (hx : c.signals[i]? = some x) (hi6 : i ≤ 1000) (hg : Gd 200 200 0 d) (hel : d.ends.length ≤ 1000)
    (hQ : ∀ E' H' h', (∀ z ∈ [(7, aI i)], wk (E' z.1) z.2) → (∀ z ∈ frK c b2 b3, E' z.1 = z.2) → subN (frH b2 b3 h' (sigF c d i)) H' → Q .normal E' H') :
    vcC ⟨Tryz.prog, none, 140⟩ (bodyC Tryz.f74 2 0) (hdE (frK c b2 b3) [(7, aI i)]) (frH b2 b3 h d) Q := by
  obtain ⟨hil, hi1⟩ := List.getElem?_eq_some_iff.1 hx
  have hk : kindAt c i = x.kind := by simp [kindAt, hx]
  have hrl := rl_map (f := encS) (n := 10) (fun _ => rfl) c.signals
  have hn := number_fn (i + 1) i (by omega) (by omega)
  have hnl := numT_len i
  have hrd : sigF c d i = if x.kind = 1 then (d.put ⟨2, 77 :: numT i, 0, i, none, -1, firstC c + i⟩ true).ended [⟨77 :: numT i, [52]⟩]
      else if x.kind = 2 then (d.put ⟨12, 84 :: numT i, x.delay, i, none, -1, firstC c + i⟩ true).ended [⟨84 :: numT i, [50]⟩] else d.ended [noPin] := by
    unfold sigF ownT
    rw [hx, hk]
    by_cases h1 : x.kind = 1
    · simp [h1]
    · by_cases h2 : x.kind = 2
      · simp [h2]
      · simp [h1, h2]
  rw [hrd] at hQ
  obtain ⟨nm, hnm⟩ : ∃ nm, numT i = nm := ⟨_, rfl⟩
  rw [hnm] at hQ hn hnl
  by_cases h1 : x.kind = 1
  · rw [if_pos h1] at hQ
    have w1 := with_v d 2 (77 :: nm) 0 i (-1) (firstC c + i) true h (by simp) (by have := hg.links; omega) (by have := hg.gears; omega)
    have e1 : (d.put ⟨2, 77 :: nm, 0, i, none, -1, firstC c + i⟩ true).ends = d.ends := rfl
    generalize d.put ⟨2, 77 :: nm, 0, i, none, -1, firstC c + i⟩ true = d1 at *
    refine vc_body rfl ?_
    simp [hil, hi1, hx, hrl, h1]
    intro b8 b9
    refine hn.s ?_
    simp
    refine ⟨by omega, (w1.frame).mono ?_⟩
    rintro r _ ⟨_, ⟨rfl, rfl⟩, rfl⟩
    simp
    exact fun u => ⟨by omega, hQ _ _ u (by simp) (by simp) (by simp [Dr.ended, e1])⟩
  · rw [if_neg h1] at hQ
    by_cases h2 : x.kind = 2
    · rw [if_pos h2] at hQ
      have w1 := with_v d 12 (84 :: nm) x.delay i (-1) (firstC c + i) true h (by simp) (by have := hg.links; omega) (by have := hg.gears; omega)
      have e1 : (d.put ⟨12, 84 :: nm, x.delay, i, none, -1, firstC c + i⟩ true).ends = d.ends := rfl
      generalize d.put ⟨12, 84 :: nm, x.delay, i, none, -1, firstC c + i⟩ true = d1 at *
      refine vc_body rfl ?_
      simp [hil, hi1, hx, hrl, h1, h2]
      intro b8 b9
      refine hn.s ?_
      simp
      refine ⟨by omega, (w1.frame).mono ?_⟩
      rintro r _ ⟨_, ⟨rfl, rfl⟩, rfl⟩
      simp
      exact fun u => ⟨by omega, hQ _ _ u (by simp) (by simp) (by simp [Dr.ended, e1])⟩
    · rw [if_neg h2] at hQ
      refine vc_body rfl ?_
      simp [hil, hi1, hx, hrl, h1, h2]
      exact fun b8 b9 u => ⟨by omega, hQ _ _ u (by simp) (by simp) (by simp [Dr.ended])⟩
theorem frame_c (hc : checkC c = 0) {h : Value} :
    vcC ⟨Tryz.prog, none, 140⟩ (restC Tryz.f74 4) (hdE (frK c b2 b3) []) (frH b2 b3 h (drI c c.inputs.length)) (RetV Tryz.prog [.cell 2 82] (FrK c)) := by
  have hR := okR_of hc
  have hlen := hR.len
  have hact := hR.act
  have hinp := hR.inp
  refine vc_rest rfl ?_
  simp
  refine V.forB (σ := Value) c.signals.length [1, 2, 3] (by simp; exact rfl) (fun i _ => [(7, aI i)]) (fun i _ => [(7, aI i)]) (fun i h => frH b2 b3 h (drS c i)) (fun _ _ => True) h trivial (by simp) ⟨by simp; exact rfl, by simp; exact ⟨⟨rfl, rfl, rfl⟩, rfl⟩⟩ ?_ ?_ ?_ ?_
  · rintro i h hi -
    simp [hi]
  · rintro i h hi -
    have hxo : c.signals[i]? = some c.signals[i] := List.getElem?_eq_getElem hi
    have hst : drS c (i + 1) = sigF c (drS c i) i := by unfold drS; rw [List.range_succ, List.foldl_append]; rfl
    have hel := drS_ends c i
    have hg := (gd_drS hc i).mono (show _ ≤ 200 by omega) (show _ ≤ 200 by omega) (Nat.le_refl _)
    rw [hst]
    exact V.of_vc (vc_of_body rfl (sigF_row hxo (by omega) hg (by omega) fun E' H' h' q1 q2 q3 => ⟨h', trivial, q1, q2, q3⟩))
  · rintro i h hi -
    simp
    omega
  · rintro h -
    simp
    exact ⟨h, rfl, subP.c (subP.c (subP.refl _) _) _⟩
theorem frame_b (hc : checkC c = 0) {h : Value} :
    vcN ⟨Tryz.prog, none, 140⟩ 1 (restC Tryz.f74 3) (hdE (frK c b2 b3) []) (frH b2 b3 h (drA c.actuators.toNat)) (RetV Tryz.prog [.cell 2 82] (FrK c)) := by
  have hR := okR_of hc
  have hlen := hR.len
  have hact := hR.act
  have hinp := hR.inp
  refine vcN_rest rfl ?_
  simp
  refine V.forB (σ := Value) c.inputs.length [1, 2, 3] (by simp; exact rfl) (fun i _ => [(6, aI i)]) (fun i _ => [(6, aI i)]) (fun i h => frH b2 b3 h (drI c i)) (fun _ _ => True) h trivial (by simp) ⟨by simp; exact rfl, by simp; exact ⟨⟨rfl, rfl, rfl⟩, rfl⟩⟩ ?_ ?_ ?_ ?_
  · rintro i h hi -
    simp [hi]
  · rintro i h hi -
    have hxo : c.inputs[i]? = some c.inputs[i] := List.getElem?_eq_getElem hi
    have hst : drI c (i + 1) = inR37 c (drI c i) i := by unfold drI; rw [List.range_succ, List.foldl_append]; rfl
    have hel := drI_ends c i
    have hg := (gd_drI hc (Nat.le_of_lt hi)).mono (show _ ≤ 66 by omega) (show _ ≤ 77 by omega) (Nat.le_refl _)
    obtain ⟨b, r, e, _⟩ := word_head (ins_word hc _ (List.getElem_mem hi))
    rw [hst]
    exact V.of_vc (vc_of_body rfl (inF_row hxo (by rw [e]; simp) hg (by omega) fun E' H' h' q1 q2 q3 => ⟨h', trivial, q1, q2, q3⟩))
  · rintro i h hi -
    simp
    omega
  · rintro h -
    simp
    exact V.cut (frK c b2 b3) (Hs := frH b2 b3 h (drI c c.inputs.length)) (by simp) (by simp) (vc_of_rest rfl (frame_c hc))
theorem frame_a (hc : checkC c = 0) :
    vcN ⟨Tryz.prog, none, 140⟩ 1 (restC Tryz.f74 2) (hdE (frK c b2 b3) []) (frH b2 b3 (.slice none 0 0) dr0) (RetV Tryz.prog [.cell 2 82] (FrK c)) := by
  have hR := okR_of hc
  have hact := hR.act
  refine vcN_rest rfl ?_
  simp
  refine V.forB (σ := Value) c.actuators.toNat [1, 2, 3] (by simp; exact rfl) (fun i _ => [(4, aI i)]) (fun i _ => [(4, aI i)]) (fun i h => frH b2 b3 h (drA i)) (fun _ _ => True) (.slice none 0 0) trivial (by simp) ⟨by simp; exact rfl, by simp; exact ⟨⟨rfl, rfl, rfl⟩, rfl⟩⟩ ?_ ?_ ?_ ?_
  · rintro i h hi -
    have hil : (i : Int) < c.actuators := by omega
    simp [hil]
  · rintro i h hi -
    have hst : drA (i + 1) = actR (drA i) i := by unfold drA; rw [List.range_succ, List.foldl_append]; rfl
    have hel := drA_ends i
    have hg := (gd_drA i).mono (show _ ≤ 66 by omega) (show _ ≤ 77 by omega) (Nat.le_refl _)
    rw [hst]
    exact V.of_vcN 3 (vcN_of_body rfl (act_1 (by omega) hg (by omega) fun E' H' h' q1 q2 q3 => ⟨h', trivial, q1, q2, q3⟩))
  · rintro i h hi -
    simp
    omega
  · rintro h -
    have hmx : max c.actuators 0 = c.actuators := by omega
    simp [hmx]
    exact V.cutN 1 (frK c b2 b3) (Hs := frH b2 b3 h (drA c.actuators.toNat)) (by simp) (by simp) (vcN_of_rest rfl (frame_b hc))
end
theorem frame_s (c : Control) (hc : checkC c = 0) : CallS Tryz.prog 74 [aC c] [] fun r H' => ∃ h, r = dA (frameR c) (.own 50 h) ∧ H' = [endE h (frameR c)] := by
  have hw := with_s ⟨[], [], [], 0⟩ 0 [83] 0 (-1) false (.slice none 0 0) (by simp) (by simp) (by simp)
  refine CallS.dropP (callS_cut 1 Tryz.func74 rfl Tryz.ntmps74 (rs := [.cell 2 82]) rfl (by kernel_rfl) (by simp) (by kernel_rfl) (K := FrK c) ?_) (fun r H' ⟨h, e, h2⟩ => ⟨_, h2, h, e, rfl⟩)
  simp
  intro b2
  refine V.seqV (V.regS (fun t => if t = 12 then some (.fn (dA dr0 (.own 50 (.slice none 0 0)))) else none) [] (fun t => if t = 10 then some (.agg [.dat (.sl []), .dat (.sl []), .own 50 (.slice none 0 0), aI 0]) else none) ?_)
  simp
  refine ⟨Sees.agg rfl (fun i a b ha hb => ?_), hw, fun b3 => ?_⟩
  · rcases i with _ | _ | _ | _ | i
    all_goals simp at ha hb
    all_goals
      obtain rfl := ha
      obtain rfl := hb
      simp
  · exact V.cutN 1 (frK c b2 b3) (Hs := frH b2 b3 (.slice none 0 0) dr0) (by simp) (by simp; rfl) (vcN_of_rest rfl (frame_a hc))
end Go.Proofs.YtdnkpogfcpjkpaaGreatDoor
end

section
namespace Go.Proofs.YtdnkpogfcpjkpaaGreatDoor
set_option maxHeartbeats 8000000
set_option maxRecDepth 10000
section
variable {c : Control} {b2 b3 : Nat}
abbrev whK (c : Control) (b2 b3 : Nat) : List (Nat × A) := [(1, .rptr (encC c)), (2, .ptr 2 b2 0), (3, .ptr 3 b3 0), (4, aI (firstC c))]
theorem box_mark {b : Nat} {d : Dr} {t t' : Nat} {u : Value} : ∀ x, Ent.sat x (.box b [.dat (.sl (d.gears.map encGear)), .dat (.sl (d.links.map encLink)), .own t u, aI d.count]) → Ent.sat x (.box b [.dat (.sl (d.gears.map encGear)), .dat (.sl (d.links.map encLink)), .own t' u, aI d.count]) := by
  rintro x ⟨cc, ty, h1, h2⟩
  refine ⟨cc, ty, h1, ?_⟩
  generalize cc.toList = vs at h2
  rcases vs with _ | ⟨v1, _ | ⟨v2, _ | ⟨v3, _ | ⟨v4, _ | ⟨v5, vs⟩⟩⟩⟩⟩ <;> simp only [Ds] at h2 ⊢
  all_goals first | exact h2 | (simp only [D] at h2 ⊢; exact h2)
theorem gateW_row {Q : PostQ} {h : Value} {d : Dr} {i : Nat} {x : Signal} (hR : OkR c) (hx : c.signals[i]? = some x) (hg : Gd 30000 70000 30000 d) (hel : (d.ends.length : Int) = countC c)
    (hQ : ∀ E' H' h', (∀ z ∈ [(5, aI i)], wk (E' z.1) z.2) → (∀ z ∈ whK c b2 b3, E' z.1 = z.2) → Rm H' (frH b2 b3 h' (gateR c d i)) → Q .normal E' H') :
    V ⟨Tryz.prog, none, 150⟩ (bodyC Tryz.f32 0 0) (hdE (whK c b2 b3) [(5, aI i)]) (frH b2 b3 h d) Q := by
  obtain ⟨hil, hi1⟩ := List.getElem?_eq_some_iff.1 hx
  have hrl := rl_map (f := encS) (n := 10) (fun _ => rfl) c.signals
  obtain ⟨hkk, hon, hoff⟩ := hR.sig i x hx
  have hac := hR.act
  have hfc : firstC c = 2 * c.actuators + c.inputs.length := rfl
  have hcn : countC c = firstC c + c.signals.length := rfl
  have hinp := hR.inp
  have hsl := hR.len
  have hgr : gateR c d i = if x.kind = 0 then { d.app (d.expr x.on i) with ends := d.ends.set (firstC c + i).toNat (d.expr x.on i).pin } else d := by
    unfold gateR
    rw [hx]
  have hps := pass_s _ x.on (Nat.lt_succ_self _) d i h (by rw [hel]; exact hon.1) hg.ends (by have := hg.gears; omega) (by have := hg.links; omega) (by have := hg.count; omega)
  rw [hgr] at hQ
  have hen : (d.app (d.expr x.on i)).ends = d.ends := rfl
  generalize d.expr x.on i = q at *
  generalize d.app q = d1 at *
  generalize q.pin = p at *
  refine V.body rfl (V.seqV (V.of_vc ?_))
  simp [hil, hi1, hx, hrl]
  refine V.condV ?_
  simp
  refine ⟨fun h0 => ?_, fun h0 => ?_⟩
  · rw [if_pos h0] at hQ
    refine V.seqV (V.drawX (fun t => if t = 43 then some (.ro (.tuple [dA d1 (.own 50 h), .record (encPin p)])) else none) (by kernel_rfl) (by kernel_rfl) (by simp) ?_)
    simp [hil, hi1, hx, hrl]
    refine ⟨hps, fun b6 b7 => ⟨by kernel_rfl, V.seqV (V.of_vc ?_)⟩⟩
    simp
    refine V.cutV ((5, aI i) :: (7, .ptr 7 b7 0) :: whK c b2 b3) (Hs := (7, .box b7 [.dat (.str p.part), .dat (.str p.port)]) :: frH b2 b3 h d1) (by simp) (by simp [hen]) ?_
    refine V.seqV (V.regF (fun t => if t = 47 then some .bld else none) [] ?_)
    simp
    have hl1 : d1.ends.length = d.ends.length := by rw [hen]
    intro u1 u
    refine ⟨by omega, V.of_vc ?_⟩
    have hkl : (firstC c + i).toNat < d1.ends.length := by omega
    obtain ⟨p0, hp0⟩ : ∃ p0, d1.ends[(firstC c + i).toNat] = p0 := ⟨_, rfl⟩
    have hpo : d1.ends[(firstC c + i).toNat]? = some p0 := by rw [List.getElem?_eq_getElem hkl, hp0]
    simp [hp0, hpo]
    refine ⟨by omega, by omega, hQ _ _ u (by simp) (by simp) ?_⟩
    rw [← hen]
    generalize (firstC c + i).toNat = k at *
    refine Rm.trans (H' := [(3, .box b3 [.dat (.sl (d1.gears.map encGear)), .dat (.sl (d1.links.map encLink)), .own 47 u, aI d1.count]), (2, .box b2 noDr), (47, .seq u 102 2 ((d1.ends.map rPin).set k (rPin p)))]) (Rm.sub ?_) (Rm.same rfl ?_)
    · simp
    · intro i q r hq hr
      rcases i with _ | _ | _ | i
      · simp at hq hr
        obtain rfl := hq
        obtain rfl := hr
        exact ⟨box_mark, fun b h => h⟩
      · simp at hq hr
        obtain rfl := hq
        obtain rfl := hr
        exact ⟨fun x h => h, fun b h => h⟩
      · simp at hq hr
        obtain rfl := hq
        obtain rfl := hr
        have e : (d1.ends.set k p).map rPin = (d1.ends.map rPin).set k (rPin p) := List.map_set
        show (∀ x, Ent.sat x (.seq u 102 2 ((d1.ends.map rPin).set k (rPin p))) → Ent.sat x (.seq u 102 2 ((d1.ends.set k p).map rPin))) ∧ _
        rw [e]
        exact ⟨fun x h => h, fun b h => h⟩
      · simp at hq
  · rw [if_neg h0] at hQ
    refine V.of_vc ?_
    simp
    exact hQ _ _ h (by simp) (by simp) (Rm.sub (by simp))
abbrev wsK (c : Control) (b2 b3 : Nat) : List (Nat × A) := [(1, .rptr (encC c)), (2, .ptr 2 b2 0), (3, .ptr 3 b3 0)]
abbrev sgC (x : Signal) : List A := (encS x).map A.dat
abbrev enC (p : Pin) : List A := [.dat (.str p.part), .dat (.str p.port)]
theorem sigW_c {Q : PostQ} {h : Value} {d d2 : Dr} {i : Nat} {b12 b13 : Nat} {p : Pin} (hi : i ≤ 1000) (hp : EndP p) (hl : d2.links.length ≤ 1000000) (hen : d2.ends = d.ends)
    (hQ : ∀ E' H', (∀ z ∈ [(8, aI i)], wk (E' z.1) z.2) → (∀ z ∈ wsK c b2 b3, E' z.1 = z.2) → subN (frH b2 b3 h (d2.link p ⟨77 :: numT i, [49, 50]⟩)) H' → Q .normal E' H') :
    vcC ⟨Tryz.prog, none, 150⟩ (bodyC Tryz.f32 1 5) (hdE (wsK c b2 b3 ++ [(8, aI i), (12, .ptr 12 b12 0), (13, .ptr 13 b13 0)]) []) ((12, .box b12 (drC d2 h)) :: (13, .box b13 (enC p)) :: frH b2 b3 h d) Q := by
  have hn := number_fn (i + 1) i (by omega) (by omega)
  have hnl := numT_len i
  have hlk := link_s d2 p ⟨77 :: numT i, [49, 50]⟩ h hp (.inr (by simp)) hl
  have e1 : (d2.link p ⟨77 :: numT i, [49, 50]⟩).ends = d.ends := hen
  generalize d2.link p ⟨77 :: numT i, [49, 50]⟩ = d3 at *
  generalize numT i = nm at *
  refine vc_body rfl ?_
  simp
  refine V.drawX (fun t => if t = 109 then some (.fn (aT nm)) else if t = 112 then some (.fn (dA d3 (.own 50 h))) else none) (by kernel_rfl) (by kernel_rfl) (by simp) ?_
  simp
  exact ⟨hn, by omega, hlk, hQ _ _ (by simp) (by simp) (by simp [e1])⟩
theorem sigW_b {Q : PostQ} {h : Value} {d d1 : Dr} {i : Nat} {x : Signal} {b9 b10 b11 : Nat} {p : Pin} (hi : i ≤ 1000) (hp : EndP p) (hg : Gd 100000 200000 100000 d1) (hen : d1.ends = d.ends)
    (hk : x.kind = 1 ∨ x.kind = 2) (hoff : x.kind = 1 → RightE d1.ends.length x.off ∧ sizeN x.off ≤ 256)
    (hQ : ∀ E' H', (∀ z ∈ [(8, aI i)], wk (E' z.1) z.2) → (∀ z ∈ wsK c b2 b3, E' z.1 = z.2) → subN (frH b2 b3 h (if x.kind = 2 then d1.link p ⟨84 :: numT i, [49, 50]⟩ else (d1.link p ⟨77 :: numT i, [49, 52]⟩).to x.off i ⟨77 :: numT i, [49, 50]⟩)) H' → Q .normal E' H' ∧ Q (.exit 3) E' H') :
    vcN ⟨Tryz.prog, none, 150⟩ 2 (bodyC Tryz.f32 1 3) (hdE (wsK c b2 b3 ++ [(8, aI i), (9, .ptr 9 b9 0), (10, .ptr 10 b10 0), (11, .ptr 11 b11 0)]) []) ((9, .box b9 (sgC x)) :: (10, .box b10 (drC d1 h)) :: (11, .box b11 (enC p)) :: frH b2 b3 h d) Q := by
  have hn := number_fn (i + 1) i (by omega) (by omega)
  have hnl := numT_len i
  by_cases h2 : x.kind = 2
  · rw [if_pos h2] at hQ
    have hlk := link_s d1 p ⟨84 :: numT i, [49, 50]⟩ h hp (.inr (by simp)) (by have := hg.links; omega)
    have e1 : (d1.link p ⟨84 :: numT i, [49, 50]⟩).ends = d.ends := hen
    generalize d1.link p ⟨84 :: numT i, [49, 50]⟩ = d3 at *
    generalize numT i = nm at *
    refine vcN_body rfl ?_
    simp [h2]
    refine V.drawX (fun t => if t = 88 then some (.fn (aT nm)) else if t = 91 then some (.fn (dA d3 (.own 50 h))) else none) (by kernel_rfl) (by kernel_rfl) (by simp) ?_
    simp
    exact ⟨hn, by omega, hlk, (hQ _ _ (by simp) (by simp) (by simp [e1])).2⟩
  · rw [if_neg h2] at hQ
    have h1 : x.kind = 1 := by omega
    have hof := hoff h1
    have g2 := hg.link p ⟨77 :: numT i, [49, 52]⟩
    have hlk := link_s d1 p ⟨77 :: numT i, [49, 52]⟩ h hp (.inr (by simp)) (by have := hg.links; omega)
    have e1 : (d1.link p ⟨77 :: numT i, [49, 52]⟩).ends = d1.ends := rfl
    unfold Dr.to at hQ
    generalize d1.link p ⟨77 :: numT i, [49, 52]⟩ = d2 at *
    have hps := pass_s _ x.off (Nat.lt_succ_self _) d2 i h (by rw [e1]; exact hof.1) g2.ends (by have := g2.gears; omega) (by have := g2.links; omega) (by have := g2.count; omega)
    have g3 := g2.app x.off i hof.2
    have e2 : (d2.app (d2.expr x.off i)).ends = d.ends := e1.trans hen
    generalize d2.expr x.off i = q at *
    generalize d2.app q = d3 at *
    have hend : endE h d2 = endE h d := by show (50, _) = (50, _); rw [e1.trans hen]
    rw [hend] at hps
    have key := fun b12 b13 => sigW_c (c := c) (b2 := b2) (b3 := b3) (Q := Q) (h := h) (d := d) (d2 := d3) (i := i) (b12 := b12) (b13 := b13) (p := q.pin) hi g3.2 (by have := g3.1.links; omega) e2 (fun E' H' q1 q2 q3 => (hQ E' H' q1 q2 q3).1)
    generalize q.pin = p2 at *
    generalize numT i = nm at *
    refine vcN_body rfl ?_
    simp [h2]
    refine V.drawX (fun t => if t = 96 then some (.fn (aT nm)) else if t = 99 then some (.fn (dA d2 (.own 50 h))) else if t = 103 then some (.ro (.tuple [dA d3 (.own 50 h), .record (encPin p2)])) else none) (by kernel_rfl) (by kernel_rfl) (by simp) ?_
    simp
    refine ⟨hn, by omega, hlk, hps, fun b12 b13 => ⟨by kernel_rfl, ?_⟩⟩
    exact V.cut (wsK c b2 b3 ++ [(8, aI i), (12, .ptr 12 b12 0), (13, .ptr 13 b13 0)]) (Hs := (12, .box b12 (drC d3 h)) :: (13, .box b13 (enC p2)) :: frH b2 b3 h d) (by simp) (by simp) (vc_of_body rfl (key b12 b13))
theorem sigW_a {Q : PostQ} {h : Value} {d : Dr} {i : Nat} {x : Signal} (hR : OkR c) (hx : c.signals[i]? = some x) (hg : Gd 90000 190000 90000 d) (hel : (d.ends.length : Int) = countC c)
    (hQ : ∀ E' H', (∀ z ∈ [(8, aI i)], wk (E' z.1) z.2) → (∀ z ∈ wsK c b2 b3, E' z.1 = z.2) → subN (frH b2 b3 h (sigR c d i)) H' → Q .normal E' H' ∧ Q (.exit 3) E' H') :
    vcN ⟨Tryz.prog, none, 150⟩ 3 (bodyC Tryz.f32 1 0) (hdE (wsK c b2 b3) [(8, aI i)]) (frH b2 b3 h d) Q := by
  obtain ⟨hil, hi1⟩ := List.getElem?_eq_some_iff.1 hx
  have hrl := rl_map (f := encS) (n := 10) (fun _ => rfl) c.signals
  obtain ⟨hkk, hon, hoff⟩ := hR.sig i x hx
  have hsl := hR.len
  have hk : kindAt c i = x.kind := by simp [kindAt, hx]
  have hsr : sigR c d i = if x.kind = 0 then d else if x.kind = 2 then d.to x.on i ⟨84 :: numT i, [49, 50]⟩ else (d.to x.on i ⟨77 :: numT i, [49, 52]⟩).to x.off i ⟨77 :: numT i, [49, 50]⟩ := by
    unfold sigR ownT
    rw [hx, hk]
    by_cases h0 : x.kind = 0
    · simp [h0]
    · by_cases h2 : x.kind = 2
      · simp [h2]
      · simp [h0, h2]
  rw [hsr] at hQ
  by_cases h0 : x.kind = 0
  · rw [if_pos h0] at hQ
    refine vcN_body rfl ?_
    simp [hil, hi1, hx, hrl, h0]
    exact fun b9 => (hQ _ _ (by simp) (by simp) (by simp)).2
  · rw [if_neg h0] at hQ
    have hps := pass_s _ x.on (Nat.lt_succ_self _) d i h (by rw [hel]; exact hon.1) hg.ends (by have := hg.gears; omega) (by have := hg.links; omega) (by have := hg.count; omega)
    have g1 := hg.app x.on i hon.2
    have e1 : (d.app (d.expr x.on i)).ends = d.ends := rfl
    simp only [Dr.to] at hQ
    generalize d.expr x.on i = q at *
    generalize d.app q = d1 at *
    have key := fun b9 b10 b11 => sigW_b (c := c) (b2 := b2) (b3 := b3) (Q := Q) (h := h) (d := d) (d1 := d1) (i := i) (x := x) (b9 := b9) (b10 := b10) (b11 := b11) (p := q.pin) (by omega) g1.2 (g1.1.mono (by omega) (by omega) (by omega)) e1 (by omega) (fun h => by rw [e1, hel]; exact hoff h) hQ
    generalize q.pin = p at *
    refine vcN_body rfl ?_
    simp [hil, hi1, hx, hrl, h0]
    intro b9
    refine (hps.on3 rfl).mono ?_
    rintro r _ ⟨_, ⟨rfl, rfl⟩, rfl⟩
    simp
    intro b10 b11
    exact V.cutN 2 (wsK c b2 b3 ++ [(8, aI i), (9, .ptr 9 b9 0), (10, .ptr 10 b10 0), (11, .ptr 11 b11 0)]) (Hs := (9, .box b9 (sgC x)) :: (10, .box b10 (drC d1 h)) :: (11, .box b11 (enC p)) :: frH b2 b3 h d) (by simp) (by simp) (vcN_of_body rfl (key b9 b10 b11))
theorem pilW_row {Q : PostQ} {h : Value} {d : Dr} {a : Nat} (hR : OkR c) (ha : (a : Int) < c.actuators) (hg : Gd 90000 190000 90000 d) (hel : (d.ends.length : Int) = countC c)
    (hQ : ∀ E' H', (∀ z ∈ [(14, aI a)], wk (E' z.1) z.2) → (∀ z ∈ wsK c b2 b3, E' z.1 = z.2) → subN (frH b2 b3 h (pilR c d a)) H' → Q .normal E' H') :
    vcC ⟨Tryz.prog, none, 150⟩ (bodyC Tryz.f32 2 0) (hdE (wsK c b2 b3) [(14, aI a)]) (frH b2 b3 h d) Q := by
  have hact := hR.act
  obtain ⟨p1, p2, p3, p4⟩ := hR.pil
  have hlt := letter_at a (by omega)
  change List.drop a _ = letterT a at hlt
  obtain ⟨v1, hv1⟩ : ∃ v, c.plus[a]? = some v := ⟨_, List.getElem?_eq_getElem (by omega)⟩
  obtain ⟨v2, hv2⟩ : ∃ v, c.minus[a]? = some v := ⟨_, List.getElem?_eq_getElem (by omega)⟩
  obtain ⟨a1, a2⟩ := List.getElem?_eq_some_iff.1 hv1
  obtain ⟨a3, a4⟩ := List.getElem?_eq_some_iff.1 hv2
  have r1 := p3 v1 (List.mem_of_getElem? hv1)
  have r2 := p4 v2 (List.mem_of_getElem? hv2)
  have l1 : v1.toNat < d.ends.length := by omega
  have l2 : v2.toNat < d.ends.length := by omega
  obtain ⟨q1, hq1⟩ : ∃ q, d.ends[v1.toNat] = q := ⟨_, rfl⟩
  obtain ⟨q2, hq2⟩ : ∃ q, d.ends[v2.toNat] = q := ⟨_, rfl⟩
  have o1 : d.ends[v1.toNat]? = some q1 := by rw [List.getElem?_eq_getElem l1, hq1]
  have o2 : d.ends[v2.toNat]? = some q2 := by rw [List.getElem?_eq_getElem l2, hq2]
  have hpr : pilR c d a = (d.link q1 ⟨86 :: letterT a, [49, 52]⟩).link q2 ⟨86 :: letterT a, [49, 50]⟩ := by
    unfold pilR
    rw [List.getD_eq_getElem?_getD, List.getD_eq_getElem?_getD, List.getD_eq_getElem?_getD, List.getD_eq_getElem?_getD, hv1, hv2, Option.getD_some, Option.getD_some, o1, o2]
    rfl
  rw [hpr] at hQ
  have e1 : q1 ∈ d.ends := List.mem_of_getElem? o1
  have e2 : q2 ∈ d.ends := List.mem_of_getElem? o2
  obtain ⟨nm, hnm⟩ : ∃ nm, letterT a = nm := ⟨_, rfl⟩
  have hnl : nm.length ≤ 10 := by rw [← hnm]; simp [letterT]
  rw [hnm] at hlt hQ
  have k1 := link_s d q1 ⟨86 :: nm, [49, 52]⟩ h (hg.ends _ e1) (.inr (by simp)) (by have := hg.links; omega)
  have g1 := hg.link q1 ⟨86 :: nm, [49, 52]⟩
  have n1 : (d.link q1 ⟨86 :: nm, [49, 52]⟩).ends = d.ends := rfl
  generalize d.link q1 ⟨86 :: nm, [49, 52]⟩ = d1 at *
  have k2 := link_s d1 q2 ⟨86 :: nm, [49, 50]⟩ h (hg.ends _ e2) (.inr (by simp)) (by have := g1.links; omega)
  have n2 : (d1.link q2 ⟨86 :: nm, [49, 50]⟩).ends = d.ends := n1
  generalize d1.link q2 ⟨86 :: nm, [49, 50]⟩ = d2 at *
  refine vc_body rfl ?_
  simp
  rw [hlt]
  refine ⟨by omega, by omega, by omega, ?_⟩
  refine V.drawX (fun t => if t = 136 then some (.fn (dA d1 (.own 50 h))) else if t = 148 then some (.fn (dA d2 (.own 50 h))) else none) (by kernel_rfl) (by kernel_rfl) (by simp) ?_
  simp [a1, a2, a3, a4, hv1, hv2, l1, l2, hq1, hq2, o1, o2]
  exact ⟨by omega, k1, by omega, k2, by kernel_rfl, hQ _ _ (by simp) (by simp) (by simp [n2])⟩
abbrev encDr (d : Dr) : List L := [.sl (d.gears.map encGear), .sl (d.links.map encLink), .sl (d.ends.map encPin), .int .i64 d.count]
abbrev WhK (c : Control) (r : A) (H' : Heap) : Prop := (frz H' r).1 ∧ (frz H' r).2 = .record (encDr (wholeR c))
theorem whK_end {d : Dr} {r : A} {h : Value} {H' : Heap} (hr : r = dA d (.own 50 h)) (hd : d = wholeR c) (hg : hget 50 H' = some (.seq h 102 2 (d.ends.map rPin))) : WhK c r H' := by
  subst hr hd
  simp [WhK, hg, allD_P, rowsD_P]
theorem whole_c (hc : checkC c = 0) {h : Value} :
    vcC ⟨Tryz.prog, none, 150⟩ (restC Tryz.f32 5) (hdE (wsK c b2 b3) []) (frH b2 b3 h (drM c c.signals.length)) (RetV Tryz.prog [.cell 2 82] (WhK c)) := by
  have hR := okR_of hc
  have hact := hR.act
  refine vc_rest rfl ?_
  simp
  refine V.forB (σ := Unit) c.actuators.toNat [1, 2, 3] (by simp; exact rfl) (fun i _ => [(14, aI i)]) (fun i _ => [(14, aI i)]) (fun i _ => frH b2 b3 h (drP c i)) (fun _ _ => True) () trivial (by simp) ⟨by simp; exact rfl, by simp; exact ⟨⟨rfl, rfl, rfl⟩, rfl⟩⟩ ?_ ?_ ?_ ?_
  · rintro i - hi -
    have hil : (i : Int) < c.actuators := by omega
    simp [hil]
  · rintro i - hi -
    have hst : drP c (i + 1) = pilR c (drP c i) i := by unfold drP; rw [List.range_succ, List.foldl_append]; rfl
    have hg := (gd_drP hc (show i ≤ 64 by omega)).mono (show _ ≤ 90000 by omega) (Nat.le_refl _) (show _ ≤ 90000 by omega)
    rw [hst]
    exact V.of_vc (vc_of_body rfl (pilW_row hR (by omega) hg (drP_len hc i) fun E' H' q1 q2 q3 => ⟨(), trivial, q1, q2, q3⟩))
  · rintro i - hi -
    simp
    omega
  · rintro - -
    have hmx : max c.actuators 0 = c.actuators := by omega
    simp [hmx]
    refine whK_end rfl rfl ?_
    simp [hget]
theorem whole_b (hc : checkC c = 0) {h : Value} :
    vcN ⟨Tryz.prog, none, 150⟩ 1 (restC Tryz.f32 4) (hdE (wsK c b2 b3) []) (frH b2 b3 h (drG c c.signals.length)) (RetV Tryz.prog [.cell 2 82] (WhK c)) := by
  have hR := okR_of hc
  have hact := hR.act
  have hlen := hR.len
  refine vcN_rest rfl ?_
  simp
  refine V.forB (σ := Unit) c.signals.length [1, 2, 3] (by simp; exact rfl) (fun i _ => [(8, aI i)]) (fun i _ => [(8, aI i)]) (fun i _ => frH b2 b3 h (drM c i)) (fun _ _ => True) () trivial (by simp) ⟨by simp; exact rfl, by simp; exact ⟨⟨rfl, rfl, rfl⟩, rfl⟩⟩ ?_ ?_ ?_ ?_
  · rintro i - hi -
    simp [hi]
  · rintro i - hi -
    have hxo : c.signals[i]? = some c.signals[i] := List.getElem?_eq_getElem hi
    have hst : drM c (i + 1) = sigR c (drM c i) i := by unfold drM; rw [List.range_succ, List.foldl_append]; rfl
    have hg := (gd_drM hc (show i ≤ 64 by omega)).mono (show _ ≤ 90000 by omega) (show _ ≤ 190000 by omega) (show _ ≤ 90000 by omega)
    rw [hst]
    refine V.of_vcN 3 (vcN_of_body rfl (sigW_a hR hxo hg (drM_len hc i) fun E' H' q1 q2 q3 => ⟨⟨(), trivial, q1, q2, q3⟩, ?_⟩))
    rw [BodyQ_x]
    exact ⟨(), trivial, q1, q2, q3⟩
  · rintro i - hi -
    simp
    omega
  · rintro - -
    simp
    exact V.cut (wsK c b2 b3) (Hs := frH b2 b3 h (drM c c.signals.length)) (by simp) (by simp) (vc_of_rest rfl (whole_c hc))
theorem whole_a (hc : checkC c = 0) {h : Value} :
    vcN ⟨Tryz.prog, none, 150⟩ 1 (restC Tryz.f32 3) (hdE (whK c b2 b3) []) (frH b2 b3 h (frameR c)) (RetV Tryz.prog [.cell 2 82] (WhK c)) := by
  have hR := okR_of hc
  have hact := hR.act
  have hlen := hR.len
  refine vcN_rest rfl ?_
  simp
  refine V.forB (σ := Value) c.signals.length [1, 2, 3, 4] (by simp; exact rfl) (fun i _ => [(5, aI i)]) (fun i _ => [(5, aI i)]) (fun i h => frH b2 b3 h (drG c i)) (fun _ _ => True) h trivial (by simp) ⟨by simp; exact rfl, by simp; exact ⟨⟨rfl, rfl, rfl⟩, rfl⟩⟩ ?_ ?_ ?_ ?_
  · rintro i h hi -
    simp [hi]
  · rintro i h hi -
    have hxo : c.signals[i]? = some c.signals[i] := List.getElem?_eq_getElem hi
    have hst : drG c (i + 1) = gateR c (drG c i) i := by unfold drG; rw [List.range_succ, List.foldl_append]; rfl
    have hg := (gd_drG hc (show i ≤ 64 by omega)).mono (show _ ≤ 30000 by omega) (show _ ≤ 70000 by omega) (show _ ≤ 30000 by omega)
    rw [hst]
    exact V.gh (V.of_body rfl (gateW_row hR hxo hg (drG_len hc i) fun E' H' h' q1 q2 q3 => Gh.inv q3 (Gh.here ⟨h', trivial, q1, q2, by simp⟩)))
  · rintro i h hi -
    simp
    omega
  · rintro h -
    simp
    exact V.cutN 1 (wsK c b2 b3) (Hs := frH b2 b3 h (drG c c.signals.length)) (by simp) (by simp) (vcN_of_rest rfl (whole_b hc))
end
theorem Whole_fn (c : Control) (hc : checkC c = 0) : CallFn Tryz.prog 32 [aC c] (.record (encDr (wholeR c))) := by
  have hR := okR_of hc
  have hf := frame_s c hc
  have hs := signals_fn c hR.sm
  refine callFz_cut 3 Tryz.func32 rfl Tryz.ntmps32 (rs := [.cell 2 82]) rfl (by kernel_rfl) (by simp) (by kernel_rfl) ?_
  simp
  intro b2
  refine hf.c1.mono ?_
  rintro r _ ⟨_, ⟨h, rfl, rfl⟩, rfl⟩
  simp
  intro b3
  refine hs.s ?_
  simp
  exact V.cutN 1 (whK c b2 b3) (Hs := frH b2 b3 h (frameR c)) (by simp) (by simp) (vcN_of_rest rfl (whole_a hc))
end Go.Proofs.YtdnkpogfcpjkpaaGreatDoor
end

section
namespace Go.Proofs.YtdnkpogfcpjkpaaGreatDoor
set_option maxHeartbeats 4000000
def refPort (ps : List Made) (p : Pin) : PortP := match seekL ps p.part with
  | some i => (i, p.port)
  | none => (0, [])
section
variable {c : Control} (h : checkC c = 0)
include h
theorem gears_perm : (wholeM c).parts.Perm (wholeR c).gears := by
  have := (whole_rel (inC_of h)).parts
  rwa [List.append_nil] at this
theorem links_perm {α : Type} (φ : Pin × Pin → α) (hφ : ∀ a b, φ (a, b) = φ (b, a)) : ((wholeM c).joins.map φ).Perm ((wholeR c).links.map φ) := by
  have := (whole_rel (inC_of h)).joins α φ hφ
  rwa [List.map_nil, List.append_nil] at this
theorem partsL_names : ((partsL (wholeR c).gears).map Made.name).Perm ((wholeM c).parts.map Made.name) :=
  ((sortB_perm byName _).map Made.name).trans ((gears_perm h).symm.map Made.name)
theorem ref_port {p : Pin} (hp : p.part ∈ (wholeM c).parts.map Made.name) : refPort (partsL (wholeR c).gears) p = portL (partsL (wholeR c).gears) p := by
  have hn := (partsL_names h).nodup_iff.2 (whole_names h)
  unfold refPort portL
  have hs : (partsL (wholeR c).gears).Pairwise (fun a b => byName b a = false) := sortB_sorted (ltB_ord Made.name) _
  rw [seek_pos hs hn ((partsL_names h).mem_iff.2 hp)]
theorem links_in : ∀ j ∈ (wholeR c).links, j.1.part ∈ (wholeM c).parts.map Made.name ∧ j.2.part ∈ (wholeM c).parts.map Made.name := by
  have hi := (whole_in (inC_of h)).1
  have hp := links_perm h (fun j : Pin × Pin => decide (j.1.part ∈ (wholeM c).parts.map Made.name ∧ j.2.part ∈ (wholeM c).parts.map Made.name)) (fun a b => by
    rw [decide_eq_decide]
    exact ⟨fun x => ⟨x.2, x.1⟩, fun x => ⟨x.2, x.1⟩⟩)
  intro j hj
  have h1 := hp.mem_iff.2 (List.mem_map.2 ⟨j, hj, rfl⟩)
  obtain ⟨k, hk, e⟩ := List.mem_map.1 h1
  have h2 := hi k hk
  rw [decide_eq_decide] at e
  exact e.1 h2
theorem ref_pipes : sortB earlierP ((wholeR c).links.map fun j => pipeN (refPort (partsL (wholeR c).gears) j.1) (refPort (partsL (wholeR c).gears) j.2)) =
    sortB earlierP ((wholeM c).joins.map fun j => pipeN (portL (partsL (wholeR c).gears) j.1) (portL (partsL (wholeR c).gears) j.2)) := by
  have e : (wholeR c).links.map (fun j => pipeN (refPort (partsL (wholeR c).gears) j.1) (refPort (partsL (wholeR c).gears) j.2)) = (wholeR c).links.map fun j => pipeN (portL (partsL (wholeR c).gears) j.1) (portL (partsL (wholeR c).gears) j.2) := by
    refine List.map_congr_left fun j hj => ?_
    obtain ⟨h1, h2⟩ := links_in h j hj
    rw [ref_port h h1, ref_port h h2]
  rw [e]
  have h1 := pipes_same h (partsL (wholeR c).gears) (sortB_perm earlierP _) (sortB_sorted earlier_tot.ord ((wholeM c).joins.map fun j => pipeN (portL (partsL (wholeR c).gears) j.1) (portL (partsL (wholeR c).gears) j.2)))
  exact h1.symm
theorem links_len : (wholeR c).links.length = (wholeM c).joins.length := by
  have := (links_perm h (fun _ => ()) (fun _ _ => rfl)).length_eq
  rw [List.length_map, List.length_map] at this
  exact this.symm
omit h in
theorem gears_len : (wholeR c).gears.length = (partsL (wholeR c).gears).length := (sortB_perm byName _).length_eq.symm
theorem ref_end {l : Int} (hl : 0 ≤ l ∧ l < countC c) : (wholeR c).ends.getD l.toNat noPin = portM c (wholeM c).gates l := by
  rw [(whole_rel (inC_of h)).ends, endsL_at hl]
theorem ref_end_port {l : Int} (hl : 0 ≤ l ∧ l < countC c) (hn : portM c (wholeM c).gates l ≠ noPin) : refPort (partsL (wholeR c).gears) (portM c (wholeM c).gates l) = portL (partsL (wholeR c).gears) (portM c (wholeM c).gates l) :=
  ref_port h (((whole_in (inC_of h)).2 l hl).resolve_left hn)
end
end Go.Proofs.YtdnkpogfcpjkpaaGreatDoor
end

section
namespace Go.Proofs.YtdnkpogfcpjkpaaGreatDoor
set_option maxHeartbeats 8000000
set_option maxRecDepth 10000
theorem tw_at {α : Type} {p : α → Bool} : ∀ {l : List α} {a : α}, a ∈ l.takeWhile p → p a = true
  | [], _, h => by simp at h
  | b :: l, a, h => by
    rw [List.takeWhile_cons] at h
    split at h
    · rename_i hb
      rcases List.mem_cons.1 h with rfl | h
      · exact hb
      · exact tw_at h
    · cases h
theorem at_drop {α : Type} {X Y E : List α} {a : α} (h : X ++ Y = E) (e : E[X.length]? = some a) : Y[0]? = some a := by
  subst h
  rwa [List.getElem?_append_right (Nat.le_refl _), Nat.sub_self] at e
theorem insB_at {α : Type} (lt : α → α → Bool) (g : α) (E : List α) : ∃ m, m ≤ E.length ∧ insB lt g E = E.take m ++ g :: E.drop m ∧ (∀ j a, j < m → E[j]? = some a → lt a g = true) ∧ ∀ a, E[m]? = some a → lt a g = false := by
  refine ⟨(E.takeWhile fun a => lt a g).length, ?_, ?_, ?_, ?_⟩
  · have := congrArg List.length (List.takeWhile_append_dropWhile (p := fun a => lt a g) (l := E))
    rw [List.length_append] at this
    omega
  · have hsplit : E.takeWhile (fun a => lt a g) ++ E.dropWhile (fun a => lt a g) = E := List.takeWhile_append_dropWhile
    have h1 : E.take (E.takeWhile fun a => lt a g).length = E.takeWhile fun a => lt a g := by
      conv => lhs; rw [← hsplit]
      rw [hsplit]
      conv => lhs; arg 2; rw [← hsplit]
      rw [List.take_left]
    have h2 : E.drop (E.takeWhile fun a => lt a g).length = E.dropWhile fun a => lt a g := by
      conv => lhs; arg 2; rw [← hsplit]
      rw [List.drop_left]
    rw [h1, h2]
    rfl
  · intro j a hj ha
    have hsplit : E.takeWhile (fun a => lt a g) ++ E.dropWhile (fun a => lt a g) = E := List.takeWhile_append_dropWhile
    have h1 : (E.takeWhile (fun a => lt a g))[j]? = some a := by
      rw [← hsplit, List.getElem?_append_left hj] at ha
      exact ha
    exact tw_at (p := fun a => lt a g) (List.mem_of_getElem? h1)
  · intro a ha
    have hsplit : E.takeWhile (fun a => lt a g) ++ E.dropWhile (fun a => lt a g) = E := List.takeWhile_append_dropWhile
    have h1 : (E.dropWhile (fun a => lt a g))[0]? = some a := at_drop hsplit ha
    cases hd : E.dropWhile (fun a => lt a g) with
    | nil => rw [hd] at h1; cases h1
    | cons b l =>
      rw [hd] at h1
      simp only [List.getElem?_cons_zero, Option.some.injEq] at h1
      subst h1
      have := List.head?_dropWhile_not (fun a => lt a g) E
      rw [hd] at this
      simpa using this
theorem sortB_snoc {α : Type} (lt : α → α → Bool) (l : List α) (g : α) : sortB lt (l ++ [g]) = insB lt g (sortB lt l) := by
  unfold sortB
  rw [List.foldl_append]
  rfl
theorem sortB_len {α : Type} (lt : α → α → Bool) (l : List α) : (sortB lt l).length = l.length := (sortB_perm lt l).length_eq
theorem encArg_eq (a : Option Expr) : ∃ o ix ar, encArg a = [.int .i64 o, .int .i64 ix, .sl ar] := by
  cases a with
  | none => exact ⟨0, 0, [], rfl⟩
  | some x => exact ⟨_, _, _, encE_eq x⟩
abbrev srtK (ds : List Made) (i : Nat) : A := .dat (.sl ((sortB byName (ds.take i)).map encGear))
theorem Sorted_fn (d : Dr) (hl : d.gears.length ≤ 100000) : CallFn Tryz.prog 39 [.record (encDr d)] (.dat (.sl ((partsL d.gears).map encGear))) := by
  obtain ⟨ds, d2, d3, d4⟩ := d
  simp only at hl ⊢
  have hrlX := gear_rl ds
  refine callFz_of Tryz.func39 rfl Tryz.ntmps39 (rs := [.tmp 2]) rfl (by kernel_rfl) (by simp) (by kernel_rfl) ?_
  simp
  refine V.forI (σ := Unit) ds.length [1, 2] (by simp; exact rfl) (fun i _ => [(3, srtK ds i), (4, aI i)]) (fun _ _ => []) (fun _ _ => True) () trivial (by simp [srtK, sortB]) ⟨by simp; exact rfl, by simp⟩ ?_ ?_
  · rintro i - hi -
    obtain ⟨g, hg1⟩ : ∃ g, ds[i] = g := ⟨_, rfl⟩
    have hgo : ds[i]? = some g := by rw [List.getElem?_eq_getElem hi, hg1]
    have hst : sortB byName (ds.take (i + 1)) = insB byName g (sortB byName (ds.take i)) := by rw [List.take_add_one, hgo, Option.toList_some, sortB_snoc]
    have hEl : (sortB byName (ds.take i)).length = i := by rw [sortB_len, List.length_take]; omega
    unfold srtK
    rw [hst]
    generalize sortB byName (ds.take i) = E at *
    have hrlE := gear_rl E
    obtain ⟨m, hmE, hins, hlt, hge⟩ := insB_at byName g E
    obtain ⟨o, ix, ar, he⟩ := encArg_eq g.arg
    have hlt2 : ∀ j a, j < m → E[j]? = some a → Go.Op.bytesLess a.name g.name = true := hlt
    have hge2 : ∀ a, E[m]? = some a → Go.Op.bytesLess a.name g.name = false := hge
    simp [hi]
    refine V.forI (σ := Unit) m [1, 2, 3, 4, 6, 7, 8, 9, 10] (by simp; exact rfl) (fun j _ => [(5, aI j)]) (fun _ _ => []) (fun _ _ => True) () trivial (by simp) ⟨by simp; exact rfl, by simp⟩ ?_ ?_
    · rintro j - hj -
      have hjE : j < E.length := by omega
      obtain ⟨a, ha⟩ : ∃ a, E[j]? = some a := ⟨_, List.getElem?_eq_getElem hjE⟩
      have ha1 := (List.getElem?_eq_some_iff.1 ha).2
      have hla := hlt2 j a hj ha
      refine V.drawX (fun t => none) (by kernel_rfl) (by kernel_rfl) (by simp) ?_
      simp [hjE, ha, ha1, hi, hg1, hgo, hrlX, hrlE, packA, hla]
      omega
    · rintro - -
      have hrlD := gear_rl (E.drop m)
      have hfin : (E.map encGear).take m ++ (encGear g :: (E.map encGear).drop m) = (insB byName g E).map encGear := by
        rw [hins, List.map_append, List.map_cons, List.map_take, List.map_drop]
      by_cases hme : m < E.length
      · obtain ⟨a, ha⟩ : ∃ a, E[m]? = some a := ⟨_, List.getElem?_eq_getElem hme⟩
        have ha1 := (List.getElem?_eq_some_iff.1 ha).2
        have hga := hge2 a ha
        refine V.drawX (fun t => none) (by kernel_rfl) (by kernel_rfl) (by simp) ?_
        simp [hme, ha, ha1, hi, hg1, hgo, hrlX, hrlE, packA, hga]
        refine V.drawX (fun t => if t = 38 ∨ t = 44 ∨ t = 48 ∨ t = 49 then some .clip else none) (by kernel_rfl) (by kernel_rfl) (by simp) ?_
        simp [hmE, hi, hg1, hgo, hrlX, hrlE, packA, he]
        refine ⟨by omega, by omega, ⟨by omega, by omega⟩, ?_⟩
        rw [show List.take E.length (E.map encGear) = E.map encGear from List.take_of_length_le (by simp)]
        simp only [encGear, he] at hfin
        refine Or.inl ?_
        rw [← hfin]
        simp
      · have hme2 : E.length = m := by omega
        refine V.drawX (fun t => none) (by kernel_rfl) (by kernel_rfl) (by simp) ?_
        simp [hme, hme2, hi, hg1, hgo, hrlX, hrlE, packA]
        refine V.drawX (fun t => if t = 38 ∨ t = 44 ∨ t = 48 ∨ t = 49 then some .clip else none) (by kernel_rfl) (by kernel_rfl) (by simp) ?_
        simp [hmE, hme2, hi, hg1, hgo, hrlX, hrlE, packA, he]
        refine ⟨by omega, ⟨by omega, by omega⟩, ?_⟩
        simp only [encGear, he] at hfin
        refine Or.inl ?_
        rw [← hfin]
        rw [List.take_of_length_le (by simp; omega), List.drop_of_length_le (by simp; omega)]
        simp
  · rintro - -
    simp [partsL]
theorem seek_at {ps : List Made} {t : List UInt8} {i : Nat} {a : Made} (h : ps[i]? = some a) (ha : a.name = t) (hb : ∀ j b, j < i → ps[j]? = some b → b.name ≠ t) : seekL ps t = some i := by
  obtain ⟨hi, e⟩ := List.getElem?_eq_some_iff.1 h
  unfold seekL
  rw [List.findIdx?_eq_some_iff_getElem]
  refine ⟨hi, by rw [e]; simp [ha], fun j hj => ?_⟩
  have := hb j ps[j] hj (List.getElem?_eq_getElem _)
  simpa using this
theorem seek_none {ps : List Made} {t : List UInt8} (hb : ∀ (j : Nat) (b : Made), ps[j]? = some b → b.name ≠ t) : seekL ps t = none := by
  unfold seekL
  rw [List.findIdx?_eq_none_iff]
  intro x hx
  obtain ⟨j, hj, e⟩ := List.getElem_of_mem hx
  have := hb j x (by rw [List.getElem?_eq_getElem hj, e])
  simpa using this
abbrev rPort (q : PortP) : A := .record (encPort q)
theorem portR_fn (ps : List Made) (p : Pin) (hl : ps.length ≤ 100000) : CallFn Tryz.prog 38 [.dat (.sl (ps.map encGear)), .record (encPin p)] (rPort (refPort ps p)) := by
  have hrl := gear_rl ps
  refine callFz_of Tryz.func38 rfl Tryz.ntmps38 (rs := [.cell 4 44]) rfl (by kernel_rfl) (by simp) (by kernel_rfl) ?_
  simp
  intro b4
  refine V.forI (σ := Unit) ps.length [0, 3, 4] (by simp; exact rfl) (fun i _ => [(5, aI i)]) (fun _ _ => []) (fun i _ => ∀ j b, j < i → ps[j]? = some b → b.name ≠ p.part) () (fun j b h => absurd h (by omega)) (by simp) ⟨by simp; exact rfl, by simp⟩ ?_ ?_
  · rintro i - hi hI
    obtain ⟨g, hg1⟩ : ∃ g, ps[i] = g := ⟨_, rfl⟩
    have hgo : ps[i]? = some g := by rw [List.getElem?_eq_getElem hi, hg1]
    simp [hi]
    refine V.drawX (fun t => none) (by kernel_rfl) (by kernel_rfl) (by simp) ?_
    by_cases he : g.name = p.part
    · have e : refPort ps p = (i, p.port) := by unfold refPort; rw [seek_at hgo he hI]
      simp [hi, hg1, hgo, hrl, packA, he, e]
    · simp [hi, hg1, hgo, hrl, packA, he]
      refine ⟨by omega, fun j b hj hb => ?_⟩
      by_cases h : j = i
      · subst h
        rw [hgo] at hb
        cases hb
        exact he
      · exact hI j b (by omega) hb
  · rintro - hI
    have e : refPort ps p = (0, []) := by
      unfold refPort
      rw [seek_none fun j b hb => hI j b (List.getElem?_eq_some_iff.1 hb).1 hb]
    simp [e]
end Go.Proofs.YtdnkpogfcpjkpaaGreatDoor
end
