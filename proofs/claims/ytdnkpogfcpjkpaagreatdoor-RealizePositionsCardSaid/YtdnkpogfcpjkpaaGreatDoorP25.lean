/- Texts joined by a program: Ix, Iy, Pm, Iz, Ja, Jb. -/
import Derived.Test.YtdnkpogfcpjkpaaGreatDoorP24
import Derived.Test.YtdnkpogfcpjkpaaGreatDoorP22
import Derived.Test.YtdnkpogfcpjkpaaGreatDoorP16
import Derived.Test.YtdnkpogfcpjkpaaGreatDoorP23
set_option linter.unusedSimpArgs false
set_option linter.unusedVariables false
set_option linter.unnecessarySimpa false

section
namespace Go.Proofs.YtdnkpogfcpjkpaaGreatDoor
set_option maxHeartbeats 8000000
set_option maxRecDepth 10000
theorem beforeR_fn (a b : PortP) : CallFn Tryz.prog 72 [rPort a, rPort b] (aB (beforeP a b)) := by
  obtain ⟨a1, a2⟩ := a
  obtain ⟨b1, b2⟩ := b
  refine callFz_of Tryz.func72 rfl Tryz.ntmps72 (rs := [.tmp 4]) rfl (by kernel_rfl) (by simp) (by kernel_rfl) ?_
  simp
  have e : ((a1 : Int) == b1) = decide (a1 = b1) := by
    by_cases h : a1 = b1
    · simp [h]
    · simp [h]; omega
  refine ⟨fun h => ?_, fun h => ?_⟩
  · have h2 : a1 ≠ b1 := by omega
    simp [beforeP, lexB, h2]
  · have h2 : a1 = b1 := by omega
    simp [beforeP, lexB, h2, ltB]
theorem earlierR_fn (a b : PortP × PortP) : CallFn Tryz.prog 73 [.record (encPipe a), .record (encPipe b)] (aB (earlierP a b)) := by
  have h1 := beforeR_fn a.1 b.1
  have h2 := beforeR_fn a.2 b.2
  obtain ⟨⟨a1, a2⟩, a3, a4⟩ := a
  obtain ⟨⟨b1, b2⟩, b3, b4⟩ := b
  refine callFz_of Tryz.func73 rfl Tryz.ntmps73 (rs := [.tmp 4]) rfl (by kernel_rfl) (by simp) (by kernel_rfl) ?_
  simp
  refine ⟨fun h => h1.s ?_, fun e1 e2 => h2.s ?_⟩
  · have hn : ¬ ((a1, a2) = (b1, b2)) := by
      simp only [Prod.mk.injEq, not_and]
      intro k1 k2
      rcases h with h | h
      · exact h (by omega)
      · exact h k2
    simp only [earlierP, lexB, hn, if_false]
    simp
  · have hn : (a1, a2) = (b1, b2) := by
      rw [Prod.mk.injEq]
      exact ⟨by omega, e2⟩
    simp only [earlierP, lexB, hn, if_true]
    simp
theorem gears_len' (d : Dr) : d.gears.length = (partsL d.gears).length := (sortB_perm byName _).length_eq.symm
section
variable {d : Dr} {b2 b4 : Nat}
abbrev dwK (d : Dr) (b2 b4 : Nat) (ps : List Made) : List (Nat × A) := [(1, .rptr (encDr d)), (2, .ptr 2 b2 0), (3, .dat (.sl (ps.map encGear))), (4, .ptr 4 b4 0)]
abbrev dwH (b2 b4 : Nat) (g : Value) (xs : List Made) (l : List (PortP × PortP)) : Heap := [(60, .seq g 65 3 (xs.map rPart)), (4, .box b4 [.own 60 g, .dat (.sl (l.map encPipe))]), (2, .box b2 [.nils, .nils])]
abbrev DwK (ps : List Made) (l : List (PortP × PortP)) (r : A) (H' : Heap) : Prop := (frz H' r).1 ∧ (frz H' r).2 = aCirc (ps, l)
theorem pipe_rl (l : List (PortP × PortP)) : rl (l.map encPipe) 4 = True := rl_map (f := encPipe) (n := 4) (fun _ => rfl) l
theorem pipe_ins {Q : PostQ} {g : Value} {xs ps : List Made} {l : List (PortP × PortP)} {i b7 : Nat} {x : PortP × PortP} (hll : l.length ≤ 100000)
    (hQ : ∀ E' H', (∀ z ∈ [(6, aI i)], wk (E' z.1) z.2) → (∀ z ∈ dwK d b2 b4 ps, E' z.1 = z.2) → subN (dwH b2 b4 g xs (insB earlierP x l)) H' → Q .normal E' H') :
    vcC ⟨Tryz.prog, none, 92⟩ (bodyC Tryz.f31 1 2) (hdE (dwK d b2 b4 ps ++ [(6, aI i), (7, .ptr 7 b7 0)]) []) ((7, .box b7 ((encPipe x).map A.dat)) :: dwH b2 b4 g xs l) Q := by
  have hrlE := pipe_rl l
  obtain ⟨m, hmE, hins, hlt, hge⟩ := insB_at earlierP x l
  have hE := fun a => earlierR_fn a x
  have hfin : (l.map encPipe).take m ++ (encPipe x :: (l.map encPipe).drop m) = (insB earlierP x l).map encPipe := by
    rw [hins, List.map_append, List.map_cons, List.map_take, List.map_drop]
  refine vc_body rfl ?_
  simp
  refine V.forI (σ := Unit) m [1, 2, 3, 4, 6, 7] (by simp; exact rfl) (fun j _ => [(8, aI j)]) (fun _ _ => []) (fun _ _ => True) () trivial (by simp) ⟨by simp; exact rfl, by simp⟩ ?_ ?_
  · rintro j - hj -
    have hjE : j < l.length := by omega
    obtain ⟨a, ha⟩ : ∃ a, l[j]? = some a := ⟨_, List.getElem?_eq_getElem hjE⟩
    have ha1 := (List.getElem?_eq_some_iff.1 ha).2
    have hla := hlt j a hj ha
    have he := hE a
    rw [hla] at he
    refine V.drawX (fun t => if t = 73 then some (.fn (aB true)) else none) (by kernel_rfl) (by kernel_rfl) (by simp) ?_
    simp [hjE, ha, ha1, hrlE, packA]
    exact ⟨he, by omega, by omega⟩
  · rintro - -
    by_cases hme : m < l.length
    · obtain ⟨a, ha⟩ : ∃ a, l[m]? = some a := ⟨_, List.getElem?_eq_getElem hme⟩
      have ha1 := (List.getElem?_eq_some_iff.1 ha).2
      have hga := hge a ha
      have he := hE a
      rw [hga] at he
      refine V.drawX (fun t => if t = 73 then some (.fn (aB false)) else none) (by kernel_rfl) (by kernel_rfl) (by simp) ?_
      simp [hme, ha, ha1, hrlE, packA]
      refine ⟨he, ?_⟩
      refine V.drawX (fun t => if t = 81 ∨ t = 83 ∨ t = 88 ∨ t = 89 then some .clip else none) (by kernel_rfl) (by kernel_rfl) (by simp) ?_
      simp [hmE, hrlE, packA]
      rw [show List.take l.length (l.map encPipe) = l.map encPipe from List.take_of_length_le (by simp)]
      exact ⟨by omega, by omega, by kernel_rfl, hQ _ _ (by simp) (by simp) (by simp [← hfin])⟩
    · have hme2 : l.length = m := by omega
      refine V.drawX (fun t => if t = 73 then some (.fn (aB false)) else none) (by kernel_rfl) (by kernel_rfl) (by simp) ?_
      simp [hme, hme2, hrlE, packA]
      refine V.drawX (fun t => if t = 81 ∨ t = 83 ∨ t = 88 ∨ t = 89 then some .clip else none) (by kernel_rfl) (by kernel_rfl) (by simp) ?_
      simp [hmE, hme2, hrlE, packA]
      rw [List.take_of_length_le (by simp; omega), List.drop_of_length_le (by simp; omega)] at hfin
      rw [List.take_of_length_le (by simp; omega)]
      exact ⟨by omega, by kernel_rfl, hQ _ _ (by simp) (by simp) (by simp [← hfin])⟩
theorem pipe_row {Q : PostQ} {g : Value} {xs ps : List Made} {l : List (PortP × PortP)} {i : Nat} {j : Pin × Pin} (hj : d.links[i]? = some j) (hi6 : i ≤ 100000) (hl : ps.length ≤ 100000) (hll : l.length ≤ 100000)
    (hQ : ∀ E' H', (∀ z ∈ [(6, aI i)], wk (E' z.1) z.2) → (∀ z ∈ dwK d b2 b4 ps, E' z.1 = z.2) → subN (dwH b2 b4 g xs (insB earlierP (pipeN (refPort ps j.1) (refPort ps j.2)) l)) H' → Q .normal E' H') :
    vcN ⟨Tryz.prog, none, 92⟩ 2 (bodyC Tryz.f31 1 0) (hdE (dwK d b2 b4 ps) [(6, aI i)]) (dwH b2 b4 g xs l) Q := by
  obtain ⟨hil, hi1⟩ := List.getElem?_eq_some_iff.1 hj
  have hrl : rl (d.links.map encLink) 4 = True := rl_map (f := encLink) (n := 4) (fun _ => rfl) _
  have p1 := portR_fn ps j.1 hl
  have p2 := portR_fn ps j.2 hl
  obtain ⟨j1, j2⟩ := j
  simp only at p1 p2 hQ
  have hb := beforeR_fn (refPort ps j2) (refPort ps j1)
  have hpn : pipeN (refPort ps j1) (refPort ps j2) = if beforeP (refPort ps j2) (refPort ps j1) = true then (refPort ps j2, refPort ps j1) else (refPort ps j1, refPort ps j2) := rfl
  rw [hpn] at hQ
  generalize refPort ps j1 = r1 at *
  generalize refPort ps j2 = r2 at *
  refine vcN_body rfl ?_
  simp
  refine V.drawX (fun t => if t = 41 then some (.fn (rPort r1)) else if t = 49 then some (.fn (rPort r2)) else none) (by kernel_rfl) (by kernel_rfl) (by simp) ?_
  simp [hil, hi1, hj, hrl]
  refine ⟨p1, p2, fun b7 => ⟨by kernel_rfl, hb.s ?_⟩⟩
  cases hbb : beforeP r2 r1 with
  | true =>
    rw [hbb, if_pos rfl] at hQ
    simp
    exact V.cut (dwK d b2 b4 ps ++ [(6, aI i), (7, .ptr 7 b7 0)]) (Hs := (7, .box b7 ((encPipe (r2, r1)).map A.dat)) :: dwH b2 b4 g xs l) (by simp) (by simp) (vc_of_body rfl (pipe_ins hll hQ))
  | false =>
    rw [hbb, if_neg (by simp)] at hQ
    simp
    exact V.cut (dwK d b2 b4 ps ++ [(6, aI i), (7, .ptr 7 b7 0)]) (Hs := (7, .box b7 ((encPipe (r1, r2)).map A.dat)) :: dwH b2 b4 g xs l) (by simp) (by simp) (vc_of_body rfl (pipe_ins hll hQ))
abbrev pipesR (d : Dr) (ps : List Made) (i : Nat) : List (PortP × PortP) := sortB earlierP ((d.links.take i).map fun j => pipeN (refPort ps j.1) (refPort ps j.2))
theorem dwK_end {g : Value} {ps : List Made} {l : List (PortP × PortP)} {r : A} {H' : Heap} (hr : r = .agg [.own 60 g, .dat (.sl (l.map encPipe))]) (hg : hget 60 H' = some (.seq g 65 3 (ps.map rPart))) : DwK ps l r H' := by
  subst hr
  simp [DwK, hg, allD, isD, rowsD]
theorem drawn_b {g : Value} {ps : List Made} (hl : ps.length ≤ 100000) (hdl : d.links.length ≤ 100000) :
    vcC ⟨Tryz.prog, none, 92⟩ (restC Tryz.f31 4) (hdE (dwK d b2 b4 ps) []) (dwH b2 b4 g ps []) (RetV Tryz.prog [.cell 2 32] (DwK ps (pipesR d ps d.links.length))) := by
  refine vc_rest rfl ?_
  simp
  refine V.forB (σ := Unit) d.links.length [1, 2, 3, 4] (by simp; exact rfl) (fun i _ => [(6, aI i)]) (fun i _ => [(6, aI i)]) (fun i _ => dwH b2 b4 g ps (pipesR d ps i)) (fun _ _ => True) () trivial (by simp) ⟨by simp; exact rfl, by simp [pipesR, sortB]⟩ ?_ ?_ ?_ ?_
  · rintro i - hi -
    simp [hi]
  · rintro i - hi -
    have hjo : d.links[i]? = some d.links[i] := List.getElem?_eq_getElem hi
    have hst : pipesR d ps (i + 1) = insB earlierP (pipeN (refPort ps d.links[i].1) (refPort ps d.links[i].2)) (pipesR d ps i) := by
      unfold pipesR
      rw [List.take_add_one, hjo, Option.toList_some, List.map_append, List.map_cons, List.map_nil, sortB_snoc]
    have hll : (pipesR d ps i).length ≤ 100000 := by
      unfold pipesR
      rw [sortB_len, List.length_map, List.length_take]
      omega
    rw [hst]
    exact V.of_vcN 2 (vcN_of_body rfl (pipe_row hjo (by omega) hl hll fun E' H' q1 q2 q3 => ⟨(), trivial, q1, q2, q3⟩))
  · rintro i - hi -
    simp
    omega
  · rintro - -
    simp
    exact dwK_end rfl rfl
theorem drawn_a {ps : List Made} (hl : ps.length ≤ 100000) (hdl : d.links.length ≤ 100000) :
    vcN ⟨Tryz.prog, none, 92⟩ 1 (restC Tryz.f31 3) (hdE (dwK d b2 b4 ps) []) (dwH b2 b4 (.slice none 0 0) [] []) (RetV Tryz.prog [.cell 2 32] (DwK ps (pipesR d ps d.links.length))) := by
  have hrl := gear_rl ps
  refine vcN_rest rfl ?_
  simp
  refine V.forB (σ := Value) ps.length [1, 2, 3, 4] (by simp; exact rfl) (fun i _ => [(5, aI i)]) (fun i _ => [(5, aI i)]) (fun i g => dwH b2 b4 g (ps.take i) []) (fun _ _ => True) (.slice none 0 0) trivial (by simp) ⟨by simp; exact rfl, by simp⟩ ?_ ?_ ?_ ?_
  · rintro i g hi -
    simp [hi]
  · rintro i g hi -
    obtain ⟨p, hp1⟩ : ∃ p, ps[i] = p := ⟨_, rfl⟩
    have hpo : ps[i]? = some p := by rw [List.getElem?_eq_getElem hi, hp1]
    have hst : (ps.take (i + 1)).map rPart = (ps.take i).map rPart ++ [rPart p] := by rw [List.take_add_one, hpo]; simp
    unfold dwH
    rw [hst]
    refine V.drawX (fun t => none) (by kernel_rfl) (by kernel_rfl) (by simp) ?_
    simp [hi, hp1, hpo, hrl, packA]
    exact ⟨by omega, by kernel_rfl⟩
  · rintro i g hi -
    simp
    omega
  · rintro g -
    rw [List.take_length]
    simp
    exact V.cut (dwK d b2 b4 ps) (Hs := dwH b2 b4 g ps []) (by simp) (by simp) (vc_of_rest rfl (drawn_b hl hdl))
end
theorem D_nild {x : X} : ∀ v, D x .nils v → D x (.dat (.sl [])) v := fun v hv => by
  simp only [D] at hv
  subst hv
  simp [D, RdL]
theorem Drawn_fn (d : Dr) (hl : d.gears.length ≤ 100000) (hdl : d.links.length ≤ 100000) : CallFn Tryz.prog 31 [.record (encDr d)] (aCirc (partsL d.gears, sortB earlierP (d.links.map fun j => pipeN (refPort (partsL d.gears) j.1) (refPort (partsL d.gears) j.2)))) := by
  have hs := Sorted_fn d hl
  have hpl : (partsL d.gears).length ≤ 100000 := by rw [← gears_len' d]; exact hl
  have hpp : pipesR d (partsL d.gears) d.links.length = sortB earlierP (d.links.map fun j => pipeN (refPort (partsL d.gears) j.1) (refPort (partsL d.gears) j.2)) := by unfold pipesR; rw [List.take_length]
  have ha := fun b2 b4 => drawn_a (d := d) (b2 := b2) (b4 := b4) hpl hdl
  rw [hpp] at ha
  generalize sortB earlierP (d.links.map fun j => pipeN (refPort (partsL d.gears) j.1) (refPort (partsL d.gears) j.2)) = l at *
  generalize partsL d.gears = ps at *
  refine callFz_cut 3 Tryz.func31 rfl Tryz.ntmps31 (rs := [.cell 2 32]) rfl (by kernel_rfl) (by simp) (by kernel_rfl) ?_
  simp
  intro b2
  refine hs.s ?_
  simp
  intro b4
  refine V.cutIN 1 (Hs := dwH b2 b4 (.slice none 0 0) [] []) (dwK d b2 b4 ps) ?_ ?_ (vcN_of_rest rfl (ha b2 b4))
  · simp [D]
  · intro x H0 hi
    have k1 := Inv.swap (g := 4) (e := .box b4 [.nils, .nils]) (e' := .box b4 [.own 60 (.slice none 0 0), .dat (.sl [])]) rfl (box_sat (Ds_c D_nilo (Ds_c D_nild Ds_i))) (fun _ h => h) hi
    simp only [hset, if_true] at k1
    exact Inv.nil (t := 60) (e := .seq (.slice none 0 0) 65 3 []) k1 ⟨rfl, rfl⟩
end Go.Proofs.YtdnkpogfcpjkpaaGreatDoor
end

section
namespace Go.Proofs.YtdnkpogfcpjkpaaGreatDoor
set_option maxHeartbeats 8000000
set_option maxRecDepth 10000
def noneDr : Dr := ⟨[], [], [], 0⟩
def builtQ (c : Control) : Dr × Int := if checkC c ≠ 0 then (noneDr, checkC c) else if manyM (dM c) = true then (noneDr, 5) else (wholeR c, 0)
theorem many_len {c : Control} (h : checkC c = 0) : manyM (dM c) = (decide (64 < (wholeR c).gears.length) || decide (256 < (wholeR c).links.length)) := by
  unfold manyM
  rw [gears_len (c := c), links_len h]
theorem draft_few {c : Control} (h : checkC c = 0) : (wholeR c).gears.length ≤ 60000 ∧ (wholeR c).links.length ≤ 190000 := by
  have hg := gd_drP h (show c.actuators.toNat ≤ 64 by have := (okR_of h).act; omega)
  exact ⟨hg.gears, hg.links⟩
theorem built_fn (c : Control) (hc : OkC c) (hp : c.plus.length ≤ 1000000) (hm : c.minus.length ≤ 1000000) : CallFn Tryz.prog 30 [aC c] (.tuple [.record (encDr (builtQ c).1), aI (builtQ c).2]) := by
  have hck := CheckR_fn c hc hp hm
  unfold builtQ
  refine callFz_of Tryz.func30 rfl Tryz.ntmps30 (rs := [.cell 2 82, .tmp 3]) rfl (by kernel_rfl) (by simp) (by kernel_rfl) ?_
  simp
  intro b2
  refine hck.s ?_
  simp
  refine ⟨fun hz => ?_, fun hz => ?_⟩
  · simp [hz, noneDr]
  · have hw := Whole_fn c hz
    have hmy := many_len hz
    have hfw := draft_few hz
    refine hw.s ?_
    simp
    refine ⟨fun h => ?_, fun h1 h2 => ?_⟩
    · have e : manyM (dM c) = true := by rw [hmy]; simp; omega
      simp [hz, e, noneDr]
    · have e : manyM (dM c) = false := by rw [hmy]; simp; omega
      simp [hz, e]
theorem circR_eq {c : Control} (h : checkC c = 0) : (partsL (wholeR c).gears, sortB earlierP ((wholeR c).links.map fun j => pipeN (refPort (partsL (wholeR c).gears) j.1) (refPort (partsL (wholeR c).gears) j.2))) = ((dM c).parts, pipesM (dM c)) := by
  rw [ref_pipes h]
  rfl
theorem few_of {c : Control} (h : checkC c = 0) (hm : manyM (dM c) = false) : (wholeR c).gears.length ≤ 64 ∧ (wholeR c).links.length ≤ 256 := by
  have := many_len h
  rw [hm] at this
  simp at this
  exact this
theorem CircuitR_fn (c : Control) (hc : OkC c) (hp : c.plus.length ≤ 1000000) (hm : c.minus.length ≤ 1000000) : CallFn Tryz.prog 10 [aC c] (.tuple [aCirc (circuitQ c).1, aI (circuitQ c).2]) := by
  have hb := built_fn c hc hp hm
  unfold circuitQ
  refine callFz_of Tryz.func10 rfl Tryz.ntmps10 (rs := [.cell 2 32, .tmp 3]) rfl (by kernel_rfl) (by simp) (by kernel_rfl) ?_
  simp
  intro b2
  refine hb.s ?_
  unfold builtQ
  by_cases hz : checkC c = 0
  · rw [if_neg (by simp [hz])]
    cases hmm : manyM (dM c) with
    | true =>
      simp [hz, hmm]
    | false =>
      have hfw := few_of hz hmm
      have hd := Drawn_fn (wholeR c) (by omega) (by omega)
      rw [circR_eq hz] at hd
      simp [hz, hmm]
      intro b4
      refine hd.s ?_
      simp [hz, hmm]
  · rw [if_pos hz]
    simp [hz]
theorem CountR37_fn (c : Control) (hc : OkC c) (hp : c.plus.length ≤ 1000000) (hm : c.minus.length ≤ 1000000) : CallFn Tryz.prog 12 [aC c] (.tuple [aI (countR c).1, aI (countR c).2]) := by
  have hck := CheckR_fn c hc hp hm
  unfold countR
  refine callFz_of Tryz.func12 rfl Tryz.ntmps12 (rs := [.tmp 2, .tmp 3]) rfl (by kernel_rfl) (by simp) (by kernel_rfl) ?_
  simp
  refine hck.s ?_
  by_cases hz : checkC c = 0
  · have hw := Whole_fn c hz
    have hl : (wholeR c).gears.length = countM c := by
      rw [gears_len (c := c), ← whole_len]
      exact (dM_perm hz).length_eq
    simp [hz]
    refine hw.s ?_
    simp [hz, hl]
  · simp [hz]
theorem PortR37_fn (c : Control) (line : Int) (hc : OkC c) (hp : c.plus.length ≤ 1000000) (hm : c.minus.length ≤ 1000000) (hln : inR .i64 line) : CallFn Tryz.prog 15 [aC c, aI line] (.tuple [.record (encPort (portQ37 c line).1), aB (portQ37 c line).2.1, aI (portQ37 c line).2.2]) := by
  have hb := built_fn c hc hp hm
  unfold portQ37
  refine callFz_cut 4 Tryz.func15 rfl Tryz.ntmps15 (rs := [.cell 4 44, .tmp 5, .tmp 6]) rfl (by kernel_rfl) (by simp) (by kernel_rfl) ?_
  simp
  intro b4
  refine hb.s ?_
  unfold builtQ
  by_cases hz : checkC c = 0
  · rw [if_neg (by simp [hz])]
    cases hmm : manyM (dM c) with
    | true =>
      simp [hz, hmm]
    | false =>
      have hfw := few_of hz hmm
      have hR := okR_of hz
      have hlf := lines_fn c hR.sm
      have hact := hR.act
      have hinp := hR.inp
      have hsl := hR.len
      have hfc : firstC c = 2 * c.actuators + c.inputs.length := rfl
      have hcn : countC c = firstC c + c.signals.length := rfl
      have hln2 := hln
      simp at hln2
      simp [hz, hmm]
      intro b7
      refine GCall.fn (aI (countC c)) (fun h => ⟨h, hlf⟩) ?_
      by_cases hout : line < 0 ∨ countC c ≤ line
      · simp [hz, hmm, hout]
        exact fun a b => absurd hout (by omega)
      · have hir : 0 ≤ line ∧ line < countC c := by omega
        have hel : (wholeR c).ends.length = (countC c).toNat := by
          have := drP_len hz c.actuators.toNat
          have e : (wholeR c).ends.length = (drP c c.actuators.toNat).ends.length := rfl
          omega
        obtain ⟨p, hp1⟩ : ∃ p, (wholeR c).ends[line.toNat]? = some p := ⟨_, List.getElem?_eq_getElem (by omega)⟩
        obtain ⟨hil, hp2⟩ := List.getElem?_eq_some_iff.1 hp1
        have hpe : portM c (wholeM c).gates line = p := by rw [← ref_end hz hir, List.getD_eq_getElem?_getD, hp1]; rfl
        have hpE : EndP p := (gd_drP hz (show c.actuators.toNat ≤ 64 by omega)).ends p (List.mem_of_getElem? hp1)
        have hrp := ref_end_port hz hir
        rw [hpe] at hrp
        simp [hz, hmm, hout, hpe]
        intro _ _
        refine V.cutV [(1, aI line), (4, .ptr 4 b4 0), (5, aB false), (6, aI 0), (7, .ptr 7 b7 0)] (Hs := [(7, .box b7 ((encDr (wholeR c)).map A.dat)), (4, .box b4 [aI 0, .dat (.str [])])]) (by simp) (by simp) (V.of_vc ?_)
        have hpn : p.part = [] ↔ p = noPin := by
          constructor
          · intro h
            exact hpE.resolve_right fun h2 => h2 h
          · rintro rfl
            rfl
        have hso := Sorted_fn (wholeR c) (by omega)
        have hpr := portR_fn (partsL (wholeR c).gears) p (by rw [← gears_len']; omega)
        simp [hil, hp1, hp2]
        refine ⟨by omega, fun h => ?_, fun h => ?_⟩
        · have := hpn.1 h
          simp [hout, hpe, this]
        · have hno : p ≠ noPin := fun h2 => h (hpn.2 h2)
          rw [hrp hno] at hpr
          refine V.drawX (fun t => if t = 36 then some (.fn (.dat (.sl ((partsL (wholeR c).gears).map encGear)))) else if t = 42 then some (.fn (rPort (portL (partsL (wholeR c).gears) p))) else none) (by kernel_rfl) (by kernel_rfl) (by simp) ?_
          simp [hil, hp1, hp2]
          refine ⟨hso, by omega, hpr, ?_⟩
          simp [hz, hmm, hout, hpe, hno]
  · rw [if_pos hz]
    simp [hz]
theorem PartsR37_fn (c : Control) (line : Int) (hc : OkC c) (hp : c.plus.length ≤ 1000000) (hm : c.minus.length ≤ 1000000) (hln : inR .i64 line) : CallFn Tryz.prog 17 [aC c, aI line] (.tuple [aIs (partsQ37 c line).1, aI (partsQ37 c line).2]) := by
  have hb := built_fn c hc hp hm
  unfold partsQ37
  refine callFz_cut 5 Tryz.func17 rfl Tryz.ntmps17 (rs := [.tmp 4, .tmp 5]) rfl (by kernel_rfl) (by simp) (by kernel_rfl) ?_
  simp
  refine hb.s ?_
  unfold builtQ
  by_cases hz : checkC c = 0
  · rw [if_neg (by simp [hz])]
    cases hmm : manyM (dM c) with
    | true =>
      simp [hz, hmm]
    | false =>
      have hfw := few_of hz hmm
      have hR := okR_of hz
      have hlf := lines_fn c hR.sm
      have hsf := signals_fn c hR.sm
      have hact := hR.act
      have hinp := hR.inp
      have hsl := hR.len
      have hfc : firstC c = 2 * c.actuators + c.inputs.length := rfl
      have hcn : countC c = firstC c + c.signals.length := rfl
      have hln2 := hln
      simp at hln2
      simp [hz, hmm]
      intro b6
      refine hsf.s ?_
      simp
      refine GCall.fn (aI (countC c)) (fun h => ⟨h, hlf⟩) ?_
      by_cases hout : line < firstC c ∨ countC c ≤ line
      · simp [hz, hmm, hout]
        exact fun a b => absurd hout (by omega)
      · simp [hz, hmm, hout]
        intro _ _
        refine V.cutV [(1, aI line), (4, .nils), (5, aI 0), (6, .ptr 6 b6 0), (8, aI (firstC c))] (Hs := [(6, .box b6 ((encDr (wholeR c)).map A.dat))]) (by simp) (by simp) (V.of_vc ?_)
        have hso := Sorted_fn (wholeR c) (by omega)
        simp
        refine hso.s ?_
        have hpl : (partsL (wholeR c).gears).length ≤ 64 := by rw [← gears_len']; omega
        have hdp : (dM c).parts = partsL (wholeR c).gears := rfl
        rw [hdp]
        simp
        generalize partsL (wholeR c).gears = ps at *
        have hrl := gear_rl ps
        refine V.forI (σ := Value) ps.length [1, 4, 5, 8, 9] (by simp; exact rfl) (fun i g => [(10, .own 50 g), (11, aI i)]) (fun i g => [(50, .seq g 3 1 ((ofSig ps (line - firstC c) i).map rI))]) (fun _ _ => True) (.slice none 0 0) trivial (by simp [ofSig]) ⟨by simp; exact rfl, by simp [ofSig]⟩ ?_ ?_
        · rintro i g hi -
          obtain ⟨p, hp1⟩ : ∃ p, ps[i] = p := ⟨_, rfl⟩
          have hpo : ps[i]? = some p := by rw [List.getElem?_eq_getElem hi, hp1]
          rw [ofSig_succ hpo]
          have hsl2 := ofSig_len ps (line - firstC c) i
          generalize ofSig ps (line - firstC c) i = out at *
          by_cases he : p.signal = line - firstC c
          · simp [hi, hp1, hpo, hrl, he]
            omega
          · simp [hi, hp1, hpo, hrl, he]
            omega
        · rintro g -
          simp [hz, hout]
  · rw [if_pos hz]
    simp [hz]
end Go.Proofs.YtdnkpogfcpjkpaaGreatDoor
end

section
namespace Go.Proofs.YtdnkpogfcpjkpaaGreatDoor
set_option maxHeartbeats 1000000
mutual
theorem nd_right {n : Int} : ∀ x : Expr, RightE n x → ∀ y ∈ ndE x, nodeR y n = 0
  | ⟨op, ix, args⟩, h, y, hy => by
    simp only [ndE, List.mem_cons] at hy
    rcases hy with rfl | hy
    · exact h.node
    · exact ndL_right args h.args y hy
theorem ndL_right {n : Int} : ∀ l : List Expr, (∀ x ∈ l, RightE n x) → ∀ y ∈ ndL l, nodeR y n = 0
  | [], _, y, hy => by simp [ndL] at hy
  | x :: xs, h, y, hy => by
    simp only [ndL, List.mem_append] at hy
    rcases hy with hy | hy
    · exact nd_right x (h x (by simp)) y hy
    · exact ndL_right xs (fun z hz => h z (by simp [hz])) y hy
end
theorem check_of {x : Expr} {n : Int} (hn : 0 ≤ n ∧ n ≤ 256) (hs : szE x ≤ 256) (hd : dpE x ≤ 16) (hr : RightE n x) : checkE x n = 0 := by
  unfold checkE
  rw [if_neg (by omega)]
  obtain ⟨s, hm⟩ := (meas_iff x).2 ⟨hs, hd⟩
  rw [hm]
  have h := firstErr_app (fun y => nodeR y n) (ndE x) [] (nd_right x hr)
  have h2 := nodeFold n (preE x 1)
  rw [(preE_all x 1 (by omega)).1] at h2
  simp only [List.append_nil, firstErr] at h
  rw [h] at h2
  exact h2
theorem szL_mem : ∀ {l : List Expr} {y : Expr}, y ∈ l → szE y ≤ szL l
  | [], _, h => by simp at h
  | x :: xs, y, h => by
    rw [szL]
    rcases List.mem_cons.1 h with rfl | h
    · omega
    · have := szL_mem h
      omega
theorem dpL_mem : ∀ {l : List Expr} {y : Expr}, y ∈ l → dpE y ≤ dpL l
  | [], _, h => by simp at h
  | x :: xs, y, h => by
    rw [dpL]
    rcases List.mem_cons.1 h with rfl | h
    · omega
    · have := dpL_mem h
      omega
theorem check_arg {x y : Expr} {n : Int} (h : checkE x n = 0) (hy : y ∈ x.args) : checkE y n = 0 := by
  have hr := right_of_check h
  have h2 := (light_iff x).1 (light_check h)
  rw [szE_eq, dpE_eq] at h2
  have h3 := szL_mem hy
  have h4 := dpL_mem hy
  exact check_of hr.2 (by omega) (by omega) (hr.1.args y hy)
end Go.Proofs.YtdnkpogfcpjkpaaGreatDoor
end

section
namespace Go.Proofs.YtdnkpogfcpjkpaaGreatDoor
set_option maxHeartbeats 4000000
inductive GearK (c : Control) : Made → Prop
  | sup : GearK c ⟨0, [83], 0, -1, none, -1, -1⟩
  | cyl (a : Nat) (h : (a : Int) < c.actuators) : GearK c ⟨1, letterT a, 0, -1, none, -1, -1⟩
  | lim0 (a : Nat) (h : (a : Int) < c.actuators) : GearK c ⟨6, letterT a ++ [48], 0, -1, none, -1, 2 * a⟩
  | lim1 (a : Nat) (h : (a : Int) < c.actuators) : GearK c ⟨6, letterT a ++ [49], 0, -1, none, -1, 2 * a + 1⟩
  | val (a : Nat) (h : (a : Int) < c.actuators) : GearK c ⟨2, 86 :: letterT a, 0, -1, none, a, -1⟩
  | but (i : Nat) (h : i < c.inputs.length) : GearK c ⟨7, c.inputs.getD i [], 0, -1, none, -1, 2 * c.actuators + i⟩
  | mem (i : Nat) (x : Signal) (h : c.signals[i]? = some x) (k : x.kind = 1) : GearK c ⟨2, ownT c i, 0, i, none, -1, firstC c + i⟩
  | tim (i : Nat) (x : Signal) (h : c.signals[i]? = some x) (k : x.kind = 2) : GearK c ⟨12, ownT c i, x.delay, i, none, -1, firstC c + i⟩
  | inv (i n : Nat) (y : Expr) (h : i < c.signals.length) (k : checkE y (countC c) = 0) : GearK c ⟨5, 78 :: numT n, 0, i, some y, -1, -1⟩
  | twin (i n : Nat) (h : i < c.signals.length) : GearK c ⟨9, 80 :: numT n, 0, i, none, -1, -1⟩
  | shut (i n : Nat) (h : i < c.signals.length) : GearK c ⟨8, 81 :: numT n, 0, i, none, -1, -1⟩
def GearsK (c : Control) (ps : List Made) : Prop := ∀ p ∈ ps, GearK c p
variable {c : Control}
theorem GearsK.nil : GearsK c [] := fun _ h => nomatch h
theorem GearsK.app {l m : List Made} (h : GearsK c l) (h2 : GearsK c m) : GearsK c (l ++ m) := fun q hq => (List.mem_append.1 hq).elim (h q) (h2 q)
theorem GearsK.one {p : Made} (h : GearK c p) : GearsK c [p] := fun q hq => by rw [List.mem_singleton.1 hq]; exact h
theorem twin_k {i : Nat} {op : Int} (hop : op = 3 ∨ op = 4) (h : i < c.signals.length) : ∀ (ps : List Pin) {d : Dl}, GearsK c d.parts → GearsK c (ps.foldl (twinD i (if op = 3 then 9 else 8) (if op = 3 then 80 else 81)) d).parts
  | [], _, hd => hd
  | p :: ps, d, hd => by
    refine twin_k hop h ps (hd.app (.one ?_))
    rcases hop with rfl | rfl
    · exact .twin i _ h
    · exact .shut i _ h
mutual
theorem expr_k (fl : Bool) (pf : Int → Pin) {i : Nat} (hi : i < c.signals.length) : ∀ (x : Expr) (k : Nat), checkE x (countC c) = 0 → GearsK c (exprD fl pf i x k).parts
  | ⟨op, ix, args⟩, k, hc => by
    have h := args_k fl pf hi args k fun y hy => check_arg hc hy
    have hop := node_op (right_of_check hc).1.node
    simp only at hop
    rw [exprD_eq]
    dsimp only
    split
    · exact .nil
    · split
      · exact .nil
      · generalize hr : argsD fl pf i args k = r at *
        split
        · unfold notsD
          cases e : args.head? with
          | none => exact h
          | some y => exact h.app (.one (.inv i _ y hi (check_arg hc (List.mem_of_mem_head? e))))
        · unfold foldD
          obtain ⟨r1, r2, r3, r4⟩ := r
          dsimp only at h ⊢
          cases r4 with
          | nil => exact h
          | cons p ps => exact twin_k (by omega) hi ps h
theorem args_k (fl : Bool) (pf : Int → Pin) {i : Nat} (hi : i < c.signals.length) : ∀ (xs : List Expr) (k : Nat), (∀ y ∈ xs, checkE y (countC c) = 0) → GearsK c (argsD fl pf i xs k).parts
  | [], k, _ => .nil
  | x :: xs, k, h => by
    rw [argsD]
    exact (expr_k fl pf hi x k (h x (by simp))).app (args_k fl pf hi xs _ fun y hy => h y (by simp [hy]))
end
theorem k_fold {f : Dr → Nat → Dr} {N : Nat} (hf : ∀ d i, i < N → GearsK c d.gears → GearsK c (f d i).gears) {d : Dr} (h : GearsK c d.gears) : ∀ j, j ≤ N → GearsK c ((List.range j).foldl f d).gears
  | 0, _ => h
  | j + 1, hj => by
    rw [List.range_succ, List.foldl_append]
    exact hf _ j (by omega) (k_fold hf h j (by omega))
theorem k_act {d : Dr} (h : GearsK c d.gears) {a : Nat} (ha : (a : Int) < c.actuators) : GearsK c (actR d a).gears := (((h.app (.one (.cyl a ha))).app (.one (.lim0 a ha))).app (.one (.lim1 a ha))).app (.one (.val a ha))
theorem k_in {d : Dr} (h : GearsK c d.gears) {i : Nat} (hi : i < c.inputs.length) : GearsK c (inR37 c d i).gears := h.app (.one (.but i hi))
theorem k_sigF {d : Dr} (h : GearsK c d.gears) (i : Nat) : GearsK c (sigF c d i).gears := by
  unfold sigF
  split
  · rename_i x hx
    split
    · rename_i hk
      exact h.app (.one (.mem i x hx hk))
    · split
      · rename_i hk
        exact h.app (.one (.tim i x hx hk))
      · exact h
  · exact h
theorem on_check (hc : checkC c = 0) {i : Nat} {x : Signal} (hx : c.signals[i]? = some x) : checkE x.on (countC c) = 0 ∧ (x.kind = 1 → checkE x.off (countC c) = 0) := by
  have hf := fine_of hc
  have h := sig_parts (hf.sigs i x hx)
  exact ⟨h.2.2.1, fun hk => (h.2.2.2.2.1 hk).1⟩
theorem k_gate (hc : checkC c = 0) {d : Dr} (h : GearsK c d.gears) (i : Nat) : GearsK c (gateR c d i).gears := by
  unfold gateR
  split
  · rename_i x hx
    split
    · exact h.app (expr_k true _ (List.getElem?_eq_some_iff.1 hx).1 x.on _ (on_check hc hx).1)
    · exact h
  · exact h
theorem k_sig (hc : checkC c = 0) {d : Dr} (h : GearsK c d.gears) (i : Nat) : GearsK c (sigR c d i).gears := by
  unfold sigR
  split
  · rename_i x hx
    have hi := (List.getElem?_eq_some_iff.1 hx).1
    have ho := on_check hc hx
    have hk := ((okR_of hc).sig i x hx).1
    split
    · exact h
    · split
      · exact h.app (expr_k true _ hi x.on _ ho.1)
      · exact (h.app (expr_k true _ hi x.on _ ho.1)).app (expr_k true _ hi x.off _ (ho.2 (by omega)))
  · exact h
theorem whole_k (hc : checkC c = 0) : GearsK c (wholeR c).gears := by
  have hR := okR_of hc
  have h0 : GearsK c dr0.gears := .one .sup
  have h1 := k_fold (f := actR) (N := c.actuators.toNat) (fun d i hi h => k_act h (by omega)) h0 _ (Nat.le_refl _)
  have h2 := k_fold (f := inR37 c) (N := c.inputs.length) (fun d i hi h => k_in h hi) h1 _ (Nat.le_refl _)
  have h3 := k_fold (f := sigF c) (N := c.signals.length) (fun d i hi h => k_sigF h i) h2 _ (Nat.le_refl _)
  have h4 := k_fold (f := gateR c) (N := c.signals.length) (fun d i hi h => k_gate hc h i) h3 _ (Nat.le_refl _)
  have h5 := k_fold (f := sigR c) (N := c.signals.length) (fun d i hi h => k_sig hc h i) h4 _ (Nat.le_refl _)
  exact k_fold (f := pilR c) (N := c.actuators.toNat) (fun d i hi h => h) h5 _ (Nat.le_refl _)
end Go.Proofs.YtdnkpogfcpjkpaaGreatDoor
end

section
namespace Go.Proofs.YtdnkpogfcpjkpaaGreatDoor
set_option maxHeartbeats 8000000
set_option maxRecDepth 10000
theorem value_at {c : Control} {u : State} (hr : rightC c u = 0) {l : Nat} (hl : (l : Int) < countC c) : (valueP c u l).1 = ((valuesOf u)[l]?).getD false := by
  unfold valueP
  rw [if_neg (by simp [hr]), if_neg (by omega)]
  rfl
theorem eval_at {c : Control} {u : State} (hr : rightC c u = 0) {x : Expr} (hx : checkE x (countC c) = 0) : (evalP c u x).1 = evalE x (valuesOf u) := by
  unfold evalP
  rw [if_neg (by simp [hr]), if_neg (by simp [hx])]
section
variable {c : Control} {u : State}
structure PlOK (c : Control) (u : State) : Prop where
  ok : OkC c
  sm : SmS u
  rt : rightC c u = 0
theorem PlOK.chk (h : PlOK c u) : checkC c = 0 := (right_zero h.rt).1
abbrev plK (c : Control) (u : State) (p : Made) (vs : List Bool) : List (Nat × A) := [(3, .rptr (encC c)), (4, .rptr (encSt u)), (5, .rptr (encGear p)), (6, aI 0), (7, aBs vs)]
theorem place_of (h : PlOK c u) {p : Made} (hp : vcC ⟨Tryz.prog, none, 101⟩ (restC Tryz.f44 2) (hdE (plK c u p (valuesOf u)) [(8, aB false)]) [] (RetV Tryz.prog [.tmp 6] fun r' H' => (frz H' r').1 ∧ (frz H' r').2 = aI (placeI (onM c u p)))) :
    CallFn Tryz.prog 44 [aC c, aSt u, .record (encGear p)] (aI (placeI (onM c u p))) := by
  have hsh := (right_zero h.rt).2.1
  have hv := ValuesR_fn c u h.sm hsh.1.symm
  refine callFz_cut 2 Tryz.func44 rfl Tryz.ntmps44 (rs := [.tmp 6]) rfl (by kernel_rfl) (by simp) (by kernel_rfl) ?_
  simp
  refine hv.s ?_
  simp
  exact V.cut ((8, aB false) :: plK c u p (valuesOf u)) (Hs := []) (by simp) (by simp) (vc_of_rest rfl hp)
theorem place_inv (h : PlOK c u) {nm : List UInt8} {i : Int} {y : Expr} (hy : checkE y (countC c) = 0) (ho : OkE y) : CallFn Tryz.prog 44 [aC c, aSt u, .record (encGear ⟨5, nm, 0, i, some y, -1, -1⟩)] (aI (placeI (onM c u ⟨5, nm, 0, i, some y, -1, -1⟩))) := by
  refine place_of h ?_
  have hsh := (right_zero h.rt).2.1
  have hvl := valuesOf_length hsh
  have hrc := right_of_check hy
  have hh := holds_fn _ y (Nat.lt_succ_self _) ho (valuesOf u) (by omega) (by rw [hvl]; exact hrc.1)
  have hon : onM c u ⟨5, nm, 0, i, some y, -1, -1⟩ = evalE y (valuesOf u) := eval_at h.rt hy
  rw [hon]
  generalize valuesOf u = vs at *
  generalize evalE y vs = b at *
  refine vc_rest rfl ?_
  simp [encArg, encE_eq y]
  refine hh.s ?_
  cases b <;> simp [placeI]
theorem place_plain (h : PlOK c u) {k : Int} {nm : List UInt8} {i : Int} (hk : k ≠ 6 ∧ k ≠ 7 ∧ k ≠ 2 ∧ k ≠ 12 ∧ k ≠ 5) : CallFn Tryz.prog 44 [aC c, aSt u, .record (encGear ⟨k, nm, 0, i, none, -1, -1⟩)] (aI (placeI (onM c u ⟨k, nm, 0, i, none, -1, -1⟩))) := by
  refine place_of h ?_
  have hon : onM c u ⟨k, nm, 0, i, none, -1, -1⟩ = false := rfl
  rw [hon]
  refine vc_rest rfl ?_
  obtain ⟨h6, h7, h2, h12, h5⟩ := hk
  simp [h6, h7, h2, h12, h5, encArg, placeI]
theorem firstC_at {c : Control} {u : State} (hsh : shapeS c u) {i : Nat} (hi : i < c.signals.length) : ((valuesOf u)[(firstC c).toNat + i]?) = u.values[i]? := by
  obtain ⟨h1, h2, h3, h4, h5⟩ := hsh
  have hl : (endsV u.ends ++ u.inputs).length = (firstC c).toNat := by
    rw [List.length_append, endsV_length]
    unfold firstC
    omega
  unfold valuesOf
  rw [List.getElem?_append_right (by omega), hl, Nat.add_sub_cancel_left]
theorem place_sig (h : PlOK c u) {k d : Int} {nm : List UInt8} {i : Nat} (hi : i < c.signals.length) (hk : k = 2 ∨ k = 12) : CallFn Tryz.prog 44 [aC c, aSt u, .record (encGear ⟨k, nm, d, i, none, -1, firstC c + i⟩)] (aI (placeI (onM c u ⟨k, nm, d, i, none, -1, firstC c + i⟩))) := by
  refine place_of h ?_
  have hR := okR_of h.chk
  have hact := hR.act
  have hinp := hR.inp
  have hsl := hR.len
  have hsh := (right_zero h.rt).2.1
  have hvl : u.values.length = c.signals.length := hsh.2.2.2.1
  have hfc : firstC c = 2 * c.actuators + c.inputs.length := rfl
  have hcn : countC c = firstC c + c.signals.length := rfl
  obtain ⟨b, hb⟩ : ∃ b, u.values[i]? = some b := ⟨_, List.getElem?_eq_getElem (by omega)⟩
  obtain ⟨hil, hb1⟩ := List.getElem?_eq_some_iff.1 hb
  have hon : onM c u ⟨k, nm, d, i, none, -1, firstC c + i⟩ = b := by
    have e : onM c u ⟨k, nm, d, i, none, -1, firstC c + i⟩ = (valueP c u (firstC c + i)).1 := by
      unfold onM
      simp only
      rw [if_neg (by omega), if_pos (by omega)]
    have hl : ((((firstC c).toNat + i : Nat)) : Int) = firstC c + i := by omega
    rw [e, ← hl, value_at h.rt (by omega), firstC_at hsh hi, hb]
    rfl
  rw [hon]
  generalize valuesOf u = vs at *
  refine vc_rest rfl ?_
  rcases hk with rfl | rfl
  · simp [encArg, hil, hb, hb1]
    cases b <;> simp [placeI]
  · simp [encArg, hil, hb, hb1]
    cases b <;> simp [placeI]
theorem place_val (h : PlOK c u) {a : Nat} (ha : (a : Int) < c.actuators) : CallFn Tryz.prog 44 [aC c, aSt u, .record (encGear ⟨2, 86 :: letterT a, 0, -1, none, a, -1⟩)] (aI (placeI (onM c u ⟨2, 86 :: letterT a, 0, -1, none, a, -1⟩))) := by
  refine place_of h ?_
  have hR := okR_of h.chk
  have hact := hR.act
  have hsh := (right_zero h.rt).2.1
  have hvl := hsh.2.1
  obtain ⟨b, hb⟩ : ∃ b, u.valves[a]? = some b := ⟨_, List.getElem?_eq_getElem (by omega)⟩
  obtain ⟨hil, hb1⟩ := List.getElem?_eq_some_iff.1 hb
  have hon : onM c u ⟨2, 86 :: letterT a, 0, -1, none, a, -1⟩ = b := by
    unfold onM
    simp only
    rw [if_pos (by omega), Int.toNat_natCast, List.getD_eq_getElem?_getD, hb]
    rfl
  rw [hon]
  generalize valuesOf u = vs at *
  refine vc_rest rfl ?_
  have h6 : a = 0 ∨ a = 1 ∨ a = 2 ∨ a = 3 ∨ a = 4 ∨ a = 5 := by omega
  rcases h6 with rfl | rfl | rfl | rfl | rfl | rfl
  all_goals
    simp [encArg, hil, hb, hb1, letterT]
    refine V.drawX (fun t => none) (by kernel_rfl) (by kernel_rfl) (by simp) ?_
    simp [encArg, hil, hb, hb1, letterT]
    cases b <;> simp [placeI] <;> omega
def hitP (c : Control) (name : List UInt8) (j : Nat) : Bool := (namedC c j == name) || (decide ((j : Int) < 2 * c.actuators) && (letterT (j / 2) ++ (namedC c j).drop 1 == name))
def accP (vs : List Bool) (l j : Nat) : Bool := decide (l < j) && (vs[l]?).getD false
theorem hit_row {Q : PostQ} {p : Made} {vs : List Bool} {name : List UInt8} {l j : Nat} {v16 : Int} (hR : OkR c) (hpn : p.name = name) (hj : (j : Int) < firstC c) (hv : vs.length = (countC c).toNat) (hhit : hitP c name j = decide (j = l)) (hne : namedC c j ≠ [])
    (hnl : (namedC c j).length ≤ 1000) (hQ : ∀ E' H', (∀ z ∈ [(8, aB (accP vs l (j + 1))), (9, aI j)], wk (E' z.1) z.2) → (∀ z ∈ (16, aI v16) :: plK c u p vs, E' z.1 = z.2) → Q .normal E' H') :
    vcN ⟨Tryz.prog, none, 101⟩ 1 (bodyC Tryz.f44 0 0) (hdE ((16, aI v16) :: plK c u p vs) [(8, aB (accP vs l j)), (9, aI j)]) [] Q := by
  have hact := hR.act
  have hinp := hR.inp
  have hsl := hR.len
  have hfc : firstC c = 2 * c.actuators + c.inputs.length := rfl
  have hcn : countC c = firstC c + c.signals.length := rfl
  have hnm := NamedR_fn c hR.sm hact j (by omega) (by omega)
  obtain ⟨v, hv0⟩ : ∃ v, vs[j]? = some v := ⟨_, List.getElem?_eq_getElem (by omega)⟩
  obtain ⟨hvl, hv1⟩ := List.getElem?_eq_some_iff.1 hv0
  have hacc : accP vs l (j + 1) = (accP vs l j || (v && hitP c name j)) := by
    rw [hhit]
    unfold accP
    by_cases h : j = l
    · subst h
      simp [hv0]
    · have h1 : (l < j + 1) ↔ (l < j) := by omega
      simp [h, h1]
  rw [hacc] at hQ
  unfold hitP at hQ
  generalize namedC c j = nm at *
  generalize accP vs l j = ac at *
  refine vcN_body rfl ?_
  simp
  refine hnm.s ?_
  simp
  obtain ⟨k1, k2, k3, k4, k5, k6, k7⟩ := p
  simp only at hpn
  subst hpn
  cases ac with
  | true =>
    refine V.drawX (fun t => none) (by kernel_rfl) (by kernel_rfl) (by simp) ?_
    simp [hvl, hv0, hv1]
    exact hQ _ _ (by simp) (by simp)
  | false =>
    cases v with
    | false =>
      refine V.drawX (fun t => none) (by kernel_rfl) (by kernel_rfl) (by simp) ?_
      simp [hvl, hv0, hv1]
      exact hQ _ _ (by simp) (by simp)
    | true =>
      by_cases e : nm = k2
      · refine V.drawX (fun t => none) (by kernel_rfl) (by kernel_rfl) (by simp) ?_
        simp [hvl, hv0, hv1, e]
        exact hQ _ _ (by simp [e]) (by simp)
      · have e' : (nm == k2) = false := by simpa using e
        by_cases lt : (j : Int) < 2 * c.actuators
        · have hlt := letter_at (j / 2) (by omega)
          have hj2 : ((j : Int) / 2).toNat = j / 2 := by omega
          have hj3 : ((j : Int) / 2 + 1).toNat = j / 2 + 1 := by omega
          have htk : List.take (j / 2 + 1) ([65, 66, 67, 68, 69, 70] : List UInt8) = 65 :: List.take (j / 2) [66, 67, 68, 69, 70] := rfl
          refine V.drawX (fun t => none) (by kernel_rfl) (by kernel_rfl) (by simp) ?_
          have hlt2 : List.drop ((j : Int) / 2).toNat (List.take ((j : Int) / 2 + 1).toNat ([65, 66, 67, 68, 69, 70] : List UInt8)) = letterT (j / 2) := by
            rw [hj2, hj3, htk]
            exact hlt
          have hnl1 : 1 ≤ nm.length := List.length_pos_iff.2 hne
          have hll : (letterT (j / 2)).length = 1 := rfl
          simp [hvl, hv0, hv1, e, lt]
          refine ⟨by omega, by omega, by omega, by omega, by omega, by omega, hQ _ _ ?_ (by simp)⟩
          simp [hlt2, lt]
        · refine V.drawX (fun t => none) (by kernel_rfl) (by kernel_rfl) (by simp) ?_
          simp [hvl, hv0, hv1, e, lt]
          exact ⟨by omega, hQ _ _ (by simp [e, lt]) (by simp)⟩
theorem place_line (h : PlOK c u) {k : Int} {nm : List UInt8} {l : Nat} (hk : k = 6 ∨ k = 7) (hl : (l : Int) < firstC c) (hhit : ∀ j : Nat, (j : Int) < firstC c → hitP c nm j = decide (j = l)) (hne : ∀ j : Nat, (j : Int) < firstC c → namedC c j ≠ [] ∧ (namedC c j).length ≤ 1000) :
    CallFn Tryz.prog 44 [aC c, aSt u, .record (encGear ⟨k, nm, 0, -1, none, -1, l⟩)] (aI (placeI (onM c u ⟨k, nm, 0, -1, none, -1, l⟩))) := by
  refine place_of h ?_
  have hR := okR_of h.chk
  have hact := hR.act
  have hinp := hR.inp
  have hsl := hR.len
  have hsh := (right_zero h.rt).2.1
  have hvl := valuesOf_length hsh
  have hfc : firstC c = 2 * c.actuators + c.inputs.length := rfl
  have hcn : countC c = firstC c + c.signals.length := rfl
  have hsf := signals_fn c hR.sm
  have hon : onM c u ⟨k, nm, 0, -1, none, -1, l⟩ = accP (valuesOf u) l (firstC c).toNat := by
    have e : onM c u ⟨k, nm, 0, -1, none, -1, l⟩ = (valueP c u l).1 := by
      unfold onM
      simp only
      rw [if_neg (by omega), if_pos (by omega)]
    rw [e, value_at h.rt (by omega)]
    unfold accP
    rw [decide_eq_true (by omega), Bool.true_and]
  rw [hon]
  generalize valuesOf u = vs at *
  have hac0 : accP vs l 0 = false := rfl
  refine vc_rest rfl ?_
  rcases hk with rfl | rfl
  all_goals
    simp [encArg]
    refine V.forB (σ := Unit) (firstC c).toNat [16, 3, 4, 5, 6, 7] (by simp; exact rfl) (fun j _ => [(8, aB (accP vs l j)), (9, aI j)]) (fun j _ => [(8, aB (accP vs l (j + 1))), (9, aI j)]) (fun _ _ => []) (fun _ _ => True) () trivial (by simp [hac0]) ⟨by simp; exact rfl, by simp⟩ ?_ ?_ ?_ ?_
    · rintro j - hj -
      have hjl : (j : Int) < firstC c := by omega
      simp
      refine hsf.s ?_
      simp [hjl]
    · rintro j - hj -
      have hjl : (j : Int) < firstC c := by omega
      have hn := hne j hjl
      exact V.of_vcN 1 (vcN_of_body rfl (hit_row (p := ⟨_, nm, 0, -1, none, -1, l⟩) (vs := vs) (name := nm) (l := l) hR rfl hjl (by omega) (hhit j hjl) hn.1 hn.2 fun E' H' q1 q2 => ⟨(), trivial, q1, q2, by simp⟩))
    · rintro j - hj -
      simp
      omega
    · rintro - -
      simp
      refine hsf.s ?_
      have hjl : ¬ (((firstC c).toNat : Int) < firstC c) := by omega
      simp [hjl]
      exact ⟨by omega, fun _ => ⟨fun e => by rw [e]; rfl, fun e => by rw [e]; rfl⟩⟩
theorem line_nm {j : Nat} (hR : OkR c) (hj : (j : Int) < 2 * c.actuators) : namedC c j = [UInt8.ofNat (97 + j / 2), UInt8.ofNat (48 + j % 2)] := by
  have hact := hR.act
  unfold namedC lineName
  rw [if_pos hj]
  have e1 : ((97 : Int) + (j : Int).tdiv 2) = ((97 + j / 2 : Nat) : Int) := by rw [Int.tdiv_eq_ediv_of_nonneg (by omega)]; omega
  have e2 : ((48 : Int) + (j : Int).tmod 2) = ((48 + j % 2 : Nat) : Int) := by rw [Int.tmod_eq_emod_of_nonneg (by omega)]; omega
  rw [e1, e2, encU_ascii (by omega) (by omega), encU_ascii (by omega) (by omega)]
  rfl
theorem in_name {i : Nat} (hi : i < c.inputs.length) (h0 : 0 ≤ c.actuators) : namedC c ((2 * c.actuators.toNat + i : Nat) : Int) = c.inputs[i] := by
  unfold namedC
  rw [if_neg (by omega), if_pos (by unfold firstC; omega), show (((2 * c.actuators.toNat + i : Nat) : Int) - 2 * c.actuators).toNat = i by omega, List.getD_eq_getElem?_getD, List.getElem?_eq_getElem hi]
  rfl
theorem in_small (hc : checkC c = 0) {i : Nat} (hi : i < c.inputs.length) : ∃ b r, c.inputs[i] = b :: r ∧ 97 ≤ b.toNat ∧ b.toNat ≤ 122 ∧ c.inputs[i].length ≤ 24 := by
  obtain ⟨b, r, e, h1, h2⟩ := word_head (ins_word hc _ (List.getElem_mem hi))
  obtain ⟨_, _, h3, _, _⟩ := chk_parts hc
  have h4 := h3 i hi
  unfold inpE at h4
  rw [in_name hi (by have := (okR_of hc).act; omega)] at h4
  exact ⟨b, r, e, h1, h2, (name_parts h4).2.1⟩
theorem names_small (hc : checkC c = 0) (j : Nat) (hj : (j : Int) < firstC c) : namedC c j ≠ [] ∧ (namedC c j).length ≤ 1000 := by
  have hR := okR_of hc
  have hact := hR.act
  by_cases h : (j : Int) < 2 * c.actuators
  · rw [line_nm hR h]
    simp
  · have hfc : firstC c = 2 * c.actuators + c.inputs.length := rfl
    obtain ⟨i, rfl⟩ : ∃ i, j = 2 * c.actuators.toNat + i := ⟨j - 2 * c.actuators.toNat, by omega⟩
    have hi : i < c.inputs.length := by omega
    rw [in_name hi hact.1]
    obtain ⟨b, r, e, _, _, h3⟩ := in_small hc hi
    exact ⟨by rw [e]; simp, by omega⟩
theorem hit_lim (hc : checkC c = 0) {a t : Nat} (ha : (a : Int) < c.actuators) (ht : t < 2) (j : Nat) (hj : (j : Int) < firstC c) : hitP c (letterT a ++ [UInt8.ofNat (48 + t)]) j = decide (j = 2 * a + t) := by
  have hR := okR_of hc
  have hact := hR.act
  by_cases h : (j : Int) < 2 * c.actuators
  · unfold hitP
    rw [line_nm hR h]
    have h6 : j < 12 := by omega
    have h7 : a < 6 := by omega
    simp only [h, decide_true, Bool.true_and, letterT, List.drop_succ_cons, List.drop_zero, List.singleton_append]
    have key : ∀ j, j < 12 → ∀ a, a < 6 → ∀ t, t < 2 → (([UInt8.ofNat (97 + j / 2), UInt8.ofNat (48 + j % 2)] == [UInt8.ofNat (65 + a), UInt8.ofNat (48 + t)]) || ([UInt8.ofNat (65 + j / 2), UInt8.ofNat (48 + j % 2)] == [UInt8.ofNat (65 + a), UInt8.ofNat (48 + t)])) = decide (j = 2 * a + t) := by decide
    exact key j h6 a h7 t ht
  · have hfc : firstC c = 2 * c.actuators + c.inputs.length := rfl
    obtain ⟨i, rfl⟩ : ∃ i, j = 2 * c.actuators.toNat + i := ⟨j - 2 * c.actuators.toNat, by omega⟩
    have hi : i < c.inputs.length := by omega
    obtain ⟨b, r, e, h1, h2, _⟩ := in_small hc hi
    unfold hitP
    rw [in_name hi hact.1, e]
    have h3 : decide (2 * c.actuators.toNat + i = 2 * a + t) = false := by simp; omega
    rw [h3]
    have h4 : b ≠ UInt8.ofNat (65 + a) := by
      intro hb
      subst hb
      have : (UInt8.ofNat (65 + a)).toNat = 65 + a := by simp [UInt8.toNat_ofNat']; omega
      omega
    simp [h, letterT, h4]
    exact ⟨fun hb => absurd (hb.trans (by simp)) h4, fun h' => absurd h' (by omega)⟩
theorem hit_but (hc : checkC c = 0) {i : Nat} (hi : i < c.inputs.length) (j : Nat) (hj : (j : Int) < firstC c) : hitP c (c.inputs.getD i []) j = decide (j = 2 * c.actuators.toNat + i) := by
  have hR := okR_of hc
  have hact := hR.act
  have hfc : firstC c = 2 * c.actuators + c.inputs.length := rfl
  obtain ⟨b, r, e, h1, h2, _⟩ := in_small hc hi
  have hgd : c.inputs.getD i [] = c.inputs[i] := by rw [List.getD_eq_getElem?_getD, List.getElem?_eq_getElem hi]; rfl
  rw [hgd]
  have hnn : namedC c j = c.inputs[i] ↔ j = 2 * c.actuators.toNat + i := by
    constructor
    · intro hn
      have hj2 : (j : Int) < countC c := by have : countC c = firstC c + c.signals.length := rfl; omega
      have hk2 : ((2 * c.actuators.toNat + i : Nat) : Int) < countC c := by have : countC c = firstC c + c.signals.length := rfl; omega
      have f1 := fine_names hc j hj2
      have f2 := fine_names hc (2 * c.actuators.toNat + i) hk2
      rw [in_name hi hact.1, ← hn] at f2
      rw [hn, ← in_name hi hact.1] at f1
      have mem : ∀ n k : Nat, k < n → namedC c k ∈ namesB c n := fun n k h => List.mem_map.2 ⟨k, List.mem_range.2 h, rfl⟩
      rcases Nat.lt_trichotomy j (2 * c.actuators.toNat + i) with h | h | h
      · exact absurd (mem _ _ h) f2
      · exact h
      · exact absurd (mem _ _ h) f1
    · rintro rfl
      exact in_name hi hact.1
  have h2nd : ∀ l : List UInt8, j < 12 → letterT (j / 2) ++ l ≠ c.inputs[i] := by
    intro l hj12 h
    rw [e] at h
    have h4 : UInt8.ofNat (65 + j / 2) = b := by
      simp only [letterT, List.singleton_append, List.cons.injEq] at h
      exact h.1
    rw [← h4] at h1
    have : (UInt8.ofNat (65 + j / 2)).toNat = 65 + j / 2 := by simp [UInt8.toNat_ofNat']; omega
    omega
  unfold hitP
  by_cases hb : j = 2 * c.actuators.toNat + i
  · have := hnn.2 hb
    rw [this, hb]
    simp
  · have h5 : (namedC c j == c.inputs[i]) = false := by
      rw [beq_eq_false_iff_ne]
      exact fun h => hb (hnn.1 h)
    rw [h5]
    by_cases h : (j : Int) < 2 * c.actuators
    · have h6 : (letterT (j / 2) ++ (namedC c j).drop 1 == c.inputs[i]) = false := by
        rw [beq_eq_false_iff_ne]
        exact h2nd _ (by omega)
      rw [h6]
      simp [hb]
    · simp [h, hb]
theorem place37_fn (h : PlOK c u) {p : Made} (hk : GearK c p) (ho : ∀ x, p.arg = some x → OkE x) : CallFn Tryz.prog 44 [aC c, aSt u, .record (encGear p)] (aI (placeI (onM c u p))) := by
  have hc := h.chk
  have hR := okR_of hc
  have hact := hR.act
  have hfc : firstC c = 2 * c.actuators + c.inputs.length := rfl
  cases hk with
  | sup => exact place_plain h (by omega)
  | cyl a ha => exact place_plain h (by omega)
  | lim0 a ha =>
    have := place_line h (k := 6) (nm := letterT a ++ [48]) (l := 2 * a) (.inl rfl) (by omega) (hit_lim hc (a := a) (t := 0) ha (by omega)) (names_small hc)
    simpa using this
  | lim1 a ha =>
    have := place_line h (k := 6) (nm := letterT a ++ [49]) (l := 2 * a + 1) (.inl rfl) (by omega) (hit_lim hc (a := a) (t := 1) ha (by omega)) (names_small hc)
    simpa using this
  | val a ha => exact place_val h ha
  | but i hi =>
    have := place_line h (k := 7) (nm := c.inputs.getD i []) (l := 2 * c.actuators.toNat + i) (.inr rfl) (by omega) (hit_but hc hi) (names_small hc)
    have e : ((2 * c.actuators.toNat + i : Nat) : Int) = 2 * c.actuators + i := by omega
    rw [e] at this
    exact this
  | mem i x hx k => exact place_sig h (List.getElem?_eq_some_iff.1 hx).1 (.inl rfl)
  | tim i x hx k => exact place_sig h (List.getElem?_eq_some_iff.1 hx).1 (.inr rfl)
  | inv i n y hi hy => exact place_inv h hy (ho y rfl)
  | twin i n hi => exact place_plain h (by omega)
  | shut i n hi => exact place_plain h (by omega)
end
end Go.Proofs.YtdnkpogfcpjkpaaGreatDoor
end

section
namespace Go.Proofs.YtdnkpogfcpjkpaaGreatDoor
set_option maxHeartbeats 8000000
set_option maxRecDepth 10000
theorem PositionsR37_fn (c : Control) (s : State) (hc : OkC c) (hp : c.plus.length ≤ 1000000) (hm : c.minus.length ≤ 1000000) (hs : SmS s) : CallFn Tryz.prog 21 [aC c, aSt s] (.tuple [aIs (posQ37 c s).1, aI (posQ37 c s).2]) := by
  have hb := built_fn c hc hp hm
  have hrt := RightR_fn c s hc hp hm hs
  unfold posQ37
  refine callFz_cut 5 Tryz.func21 rfl Tryz.ntmps21 (rs := [.tmp 4, .tmp 5]) rfl (by kernel_rfl) (by simp) (by kernel_rfl) ?_
  simp
  refine hb.s ?_
  unfold builtQ
  by_cases hz : checkC c = 0
  · rw [if_neg (by simp [hz])]
    cases hmm : manyM (dM c) with
    | true =>
      simp [hz, hmm]
    | false =>
      have hfw := few_of hz hmm
      have hR := okR_of hz
      simp [hz, hmm]
      intro b6
      refine hrt.s ?_
      by_cases hr : rightC c s = 0
      · simp [hz, hmm, hr]
        have hso := Sorted_fn (wholeR c) (by omega)
        refine hso.s ?_
        have hpl : (partsL (wholeR c).gears).length ≤ 64 := by rw [← gears_len']; omega
        have hdp : (dM c).parts = partsL (wholeR c).gears := rfl
        have hru := gates_right hr
        have hshs := (right_zero hr).2.1
        have hsu := sm_of (fine_of hz) (right_zero hru).2.1
        have hcm : CallFn Tryz.prog 45 [aC c, aSt s] (aSt (gatesP c s)) := (computedR_o c s hc (fine_of hz) hs hshs).fn
        have hpk : ∀ p ∈ partsL (wholeR c).gears, CallFn Tryz.prog 44 [aC c, aSt (gatesP c s), .record (encGear p)] (aI (placeI (onM c (gatesP c s) p))) := by
          intro p hp
          exact place37_fn ⟨hc, hsu, hru⟩ (whole_k hz p ((sortB_perm byName _).mem_iff.1 hp)) (dM_g hz hc p hp).1
        rw [hdp]
        generalize gatesP c s = u at *
        generalize partsL (wholeR c).gears = ps at *
        simp
        refine V.cutV [(2, .rptr (encC c)), (3, .rptr (encSt s)), (4, .nils), (5, aI 0), (9, .dat (.sl (ps.map encGear)))] (Hs := []) (by simp) (by simp) (V.of_vc ?_)
        simp
        have hrl := gear_rl ps
        refine V.forI (σ := Value) ps.length [2, 3, 4, 5, 9] (by simp; exact rfl) (fun i g => [(10, .own 50 g), (11, aI i)]) (fun i g => [(50, .seq g 3 1 (((ps.take i).map fun p => placeI (onM c u p)).map rI))]) (fun _ _ => True) (.slice none 0 0) trivial (by simp) ⟨by simp; exact rfl, by simp⟩ ?_ ?_
        · rintro i g hi -
          obtain ⟨p, hp1⟩ : ∃ p, ps[i] = p := ⟨_, rfl⟩
          have hpo : ps[i]? = some p := by rw [List.getElem?_eq_getElem hi, hp1]
          have hpp := hpk p (List.mem_of_getElem? hpo)
          have hst : ((ps.take (i + 1)).map fun p => placeI (onM c u p)).map rI = ((ps.take i).map fun p => placeI (onM c u p)).map rI ++ [rI (placeI (onM c u p))] := by rw [List.take_add_one, hpo]; simp
          rw [hst]
          have htl : ((ps.take i).map fun p => placeI (onM c u p)).length ≤ 60000 := by rw [List.length_map, List.length_take]; omega
          generalize (ps.take i).map (fun p => placeI (onM c u p)) = out at *
          obtain ⟨o, ix, ar, he⟩ := encArg_eq p.arg
          simp [hi]
          refine V.drawX (fun t => if t = 38 then some (.fn (aSt u)) else if t = 43 then some (.fn (aI (placeI (onM c u p)))) else none) (by kernel_rfl) (by kernel_rfl) (by simp) ?_
          simp [hi, hp1, hpo, hrl, he]
          simp only [encGear, he] at hpp
          exact ⟨hcm, hpp, by omega, by omega, by omega⟩
        · rintro g -
          simp [hz, hr, allD, rowsD, isD]
      · simp [hz, hmm, hr]
  · rw [if_pos hz]
    simp [hz]
end Go.Proofs.YtdnkpogfcpjkpaaGreatDoor
end
