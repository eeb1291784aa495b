/- Texts joined by a program: Ii, Jf, Jg, Ij, Ik, Jh, In, Io, Ip, Iq, Ir, Is, It, Iu, Iv, Il, Iw, Ix, Iy, Pm. -/
import Derived.Test.YtdnkpogfcpjkpaaGreatDoorW22
import Derived.Test.YtdnkpogfcpjkpaaGreatDoorW15
import Derived.Test.YtdnkpogfcpjkpaaGreatDoorW20
import Derived.Test.YtdnkpogfcpjkpaaGreatDoorW19
import Derived.Test.YtdnkpogfcpjkpaaGreatDoorW21
import Derived.Test.YtdnkpogfcpjkpaaGreatDoorW18
set_option linter.unusedSimpArgs false
set_option linter.unusedVariables false
set_option linter.unnecessarySimpa false

section
namespace Go.Proofs.YtdnkpogfcpjkpaaGreatDoor
set_option maxHeartbeats 8000000
set_option maxRecDepth 10000
abbrev dM (c : Control) : Mk := { wholeM c with parts := partsL (wholeR c).gears }
theorem dM_sorted (c : Control) : (dM c).parts.Pairwise (fun a b => byName b a = false) := sortB_sorted (ltB_ord Made.name) _
theorem dM_perm {c : Control} (h : checkC c = 0) : (dM c).parts.Perm (wholeM c).parts := by
  have hr := (whole_rel (inC_of h)).parts
  rw [List.append_nil] at hr
  exact (sortB_perm byName _).trans hr.symm
theorem dM_few {c : Control} (h : checkC c = 0) : (dM c).parts.length ≤ 60000 ∧ (wholeM c).joins.length ≤ 3 * 60000 := by
  have := few_whole (okR_of h)
  exact ⟨by rw [(dM_perm h).length_eq]; exact this.1, this.2⟩
theorem given_s (c : Control) (hc : OkC c) : CallS Tryz.prog 33 [aC c] [] fun r H' => (checkC c ≠ 0 ∧ r = .tuple [.nilp, aI (checkC c)] ∧ H' = []) ∨
    (checkC c = 0 ∧ ∃ b bg hp hj, r = .tuple [.ptr 170 b 0, aI (if manyM (dM c) = true then 5 else 0)] ∧ H' = fkH c b bg hp hj (dM c)) := by
  have hd := drawnF_s c hc
  refine CallS.dropP (callS_of Tryz.func33 rfl Tryz.ntmps33 (rs := [.tmp 2, .tmp 3]) rfl (by kernel_rfl) (by simp) (by kernel_rfl) (K := fun r H' => (checkC c ≠ 0 ∧ r = .tuple [.nilp, aI (checkC c)] ∧ subP [] H') ∨
    (checkC c = 0 ∧ ∃ b bg hp hj, r = .tuple [.ptr 170 b 0, aI (if manyM (dM c) = true then 5 else 0)] ∧ subP (fkH c b bg hp hj (dM c)) H')) ?_) ?_
  · simp
    refine hd.mono ?_
    rintro r H' (⟨hz, rfl, rfl⟩ | ⟨hz, b, bg, hp, hj, rfl, rfl⟩)
    · simp [hz]
      exact subP.refl _
    · have hfw := dM_few hz
      have hci := circuit_s (c := c) (b := b) (bg := bg) (hp := hp) (hj := hj) (m := dM c) (dM_sorted c) (by omega) (by show (wholeM c).joins.length ≤ _; omega)
      simp [hz]
      refine hci.mono ?_
      rintro r H' (⟨h, rfl, rfl⟩ | ⟨h, g1, g2, rfl, rfl⟩)
      · simp [hz, h]
        exact ⟨bg, hp, hj, subP.refl _⟩
      · simp [hz, h]
        exact ⟨bg, hp, hj, subP.c (subP.c (subP.refl _) _) _⟩
  · rintro r H' (⟨h, rfl, h2⟩ | ⟨h, b, bg, hp, hj, rfl, h2⟩)
    · exact ⟨[], h2, .inl ⟨h, rfl, rfl⟩⟩
    · exact ⟨_, h2, .inr ⟨h, b, bg, hp, hj, rfl, rfl⟩⟩
abbrev encPart (p : Made) : List L := [.int .i64 p.kind, .str p.name, .int .i64 p.delay]
abbrev aCirc (x : List Made × List (PortP × PortP)) : A := .record [.sl (x.1.map encPart), .sl (x.2.map encPipe)]
def pipesM (m : Mk) : List (PortP × PortP) := sortB earlierP (m.joins.map fun j => pipeN (portL m.parts j.1) (portL m.parts j.2))
def circuitQ (c : Control) : (List Made × List (PortP × PortP)) × Int := if checkC c ≠ 0 then (([], []), checkC c) else if manyM (dM c) = true then (([], []), 5) else (((dM c).parts, pipesM (dM c)), 0)
theorem Circuit_fn (c : Control) (hc : OkC c) : CallFn Tryz.prog 9 [aC c] (.tuple [aCirc (circuitQ c).1, aI (circuitQ c).2]) := by
  have hd := drawnF_s c hc
  unfold circuitQ
  refine callFz_of Tryz.func9 rfl Tryz.ntmps9 (rs := [.cell 2 32, .tmp 3]) rfl (by kernel_rfl) (by simp) (by kernel_rfl) ?_
  simp
  intro b2
  refine (hd.frame).mono ?_
  rintro r _ ⟨H', (⟨hz, rfl, rfl⟩ | ⟨hz, b, bg, hp, hj, rfl, rfl⟩), rfl⟩
  · simp [hz]
  · have hfw := dM_few hz
    have hci := circuit_s (c := c) (b := b) (bg := bg) (hp := hp) (hj := hj) (m := dM c) (dM_sorted c) (by omega) (by show (wholeM c).joins.length ≤ _; omega)
    simp [hz]
    refine (hci.frame).mono ?_
    rintro r _ ⟨H', (⟨h, rfl, rfl⟩ | ⟨h, g1, g2, rfl, rfl⟩), rfl⟩
    · simp [hz, h]
    · simp [hz, h, pipesM]
      exact ⟨⟨by simp [allD, isD], by simp [allD, isD]⟩, by simp [rowsD], by simp [rowsD]⟩
def portQ37 (c : Control) (line : Int) : PortP × Bool × Int :=
  if checkC c ≠ 0 then ((0, []), false, checkC c) else if manyM (dM c) = true then ((0, []), false, 5) else if line < 0 ∨ countC c ≤ line then ((0, []), false, 6)
  else if portM c (wholeM c).gates line = noPin then ((0, []), false, 0) else (portL (dM c).parts (portM c (wholeM c).gates line), true, 0)
theorem Port_fn (c : Control) (line : Int) (hc : OkC c) (hln : inR .i64 line) : CallFn Tryz.prog 14 [aC c, aI line] (.tuple [.record (encPort (portQ37 c line).1), aB (portQ37 c line).2.1, aI (portQ37 c line).2.2]) := by
  have hd := given_s c hc
  unfold portQ37
  refine callFz_of Tryz.func14 rfl Tryz.ntmps14 (rs := [.cell 4 44, .tmp 5, .tmp 6]) rfl (by kernel_rfl) (by simp) (by kernel_rfl) ?_
  simp
  intro b4
  refine (hd.frame).mono ?_
  rintro r _ ⟨H', (⟨hz, rfl, rfl⟩ | ⟨hz, b, bg, hp, hj, rfl, rfl⟩), rfl⟩
  · simp [hz]
  · have hR := okR_of hz
    have hfw := dM_few hz
    cases hm : manyM (dM c) with
    | true => simp [hz, hm]
    | false =>
      have hf := firstF_s hR.sm (b := b) (bg := bg) (hp := hp) (hj := hj) (m := dM c)
      have hcn : countC c = firstC c + c.signals.length := rfl
      have hln2 := hln
      simp at hln2
      have hact := hR.act
      have hinp := hR.inp
      have hsl := hR.len
      have hfc : firstC c = 2 * c.actuators + c.inputs.length := rfl
      simp [hz, hm]
      refine V.drawX (fun t => if t = 24 then some (.ro (aI (firstC c))) else none) (by kernel_rfl) (by kernel_rfl) (by simp) ?_
      simp
      refine ⟨fun h0 => ⟨h0, hf⟩, fun h0 => ⟨h0, by omega, by omega⟩, fun h0 => ?_, fun h0 h1 => ?_⟩
      · have h2 : line < 0 ∨ countC c ≤ line := by omega
        simp [hz, h2]
      · have h2 : ¬ (line < 0 ∨ countC c ≤ line) := by omega
        have hp1 := portF_s hR.sm ⟨hact.1, by omega⟩ (line := line) ⟨h0, by omega⟩ (b := b) (bg := bg) (hp' := hp) (hj := hj) (m := dM c)
        have hfd := findF_s (c := c) (b := b) (bg := bg) (hp := hp) (hj := hj) (m := dM c) (portM c (wholeM c).gates line) (dM_sorted c) (by omega)
        refine (hp1.frame).mono ?_
        rintro _ _ ⟨_, ⟨rfl, rfl⟩, rfl⟩
        simp [h2]
        intro b9
        by_cases hno : portM c (wholeM c).gates line = noPin
        · simp [hz, hno, leqs_pin]
        · simp [hno, leqs_pin]
          refine ⟨fun a1 a2 => absurd (by
            generalize portM c (wholeM c).gates line = p at a1 a2
            obtain ⟨p1, p2⟩ := p
            simp only at a1 a2
            rw [a1, a2]) hno, fun _ => ?_⟩
          refine (hfd.frame.c1).mono ?_
          rintro _ _ ⟨_, ⟨_, ⟨rfl, rfl⟩, rfl⟩, rfl⟩
          simp [hz, h2, hno, portL]
def ofSig (ps : List Made) (d : Int) (n : Nat) : List Int := ((List.range n).filter fun k => (ps[k]?).any fun p => decide (p.signal = d)).map fun k : Nat => (k : Int)
theorem ofSig_succ {ps : List Made} {d : Int} {n : Nat} {p : Made} (h : ps[n]? = some p) : ofSig ps d (n + 1) = ofSig ps d n ++ (if p.signal = d then [(n : Int)] else []) := by
  unfold ofSig
  rw [List.range_succ, List.filter_append, List.map_append]
  congr 1
  simp only [List.filter_cons, List.filter_nil, h, Option.any_some]
  by_cases e : p.signal = d <;> simp [e]
theorem ofSig_len (ps : List Made) (d : Int) (n : Nat) : (ofSig ps d n).length ≤ n := by
  unfold ofSig
  rw [List.length_map]
  have := List.length_filter_le (fun k => (ps[k]?).any fun p => decide (p.signal = d)) (List.range n)
  rwa [List.length_range] at this
def partsQ37 (c : Control) (line : Int) : List Int × Int :=
  if checkC c ≠ 0 then ([], checkC c) else if manyM (dM c) = true then ([], 5) else if line < firstC c ∨ countC c ≤ line then ([], 6)
  else (ofSig (dM c).parts (line - firstC c) (dM c).parts.length, 0)
theorem wrap_sub37 {F line : Int} (hF : 0 ≤ F ∧ F ≤ 1000) (hl : -9223372036854775808 ≤ line ∧ line < 9223372036854775808) : IntKind.i64.wrap (line - F) = line - F ∨ (line < F ∧ 1000000 < IntKind.i64.wrap (line - F)) := by
  by_cases h : -9223372036854775808 ≤ line - F
  · left
    exact (inR_i64 _).2 ⟨h, by omega⟩
  · right
    refine ⟨by omega, ?_⟩
    simp only [IntKind.wrap, IntKind.signed, IntKind.bits]
    simp
    omega
theorem Parts_fn (c : Control) (line : Int) (hc : OkC c) (hln : inR .i64 line) : CallFn Tryz.prog 16 [aC c, aI line] (.tuple [aIs (partsQ37 c line).1, aI (partsQ37 c line).2]) := by
  have hd := given_s c hc
  unfold partsQ37
  refine callFz_cut 3 Tryz.func16 rfl Tryz.ntmps16 (rs := [.tmp 4, .tmp 5]) rfl (by kernel_rfl) (by simp) (by kernel_rfl) ?_
  simp
  refine hd.mono ?_
  rintro r H' (⟨hz, rfl, rfl⟩ | ⟨hz, b, bg, hp, hj, rfl, rfl⟩)
  · simp [hz]
  · have hR := okR_of hz
    have hfw := dM_few hz
    cases hm : manyM (dM c) with
    | true => simp [hz, hm]
    | false =>
      have hf := firstF_s hR.sm (b := b) (bg := bg) (hp := hp) (hj := hj) (m := dM c)
      have hcn : countC c = firstC c + c.signals.length := rfl
      have hact := hR.act
      have hinp := hR.inp
      have hsl := hR.len
      have hfc : firstC c = 2 * c.actuators + c.inputs.length := rfl
      have hln2 := hln
      simp at hln2
      simp [hz, hm]
      obtain ⟨F, hF⟩ : ∃ F, firstC c = F := ⟨_, rfl⟩
      have hF1 : 0 ≤ F ∧ F ≤ 1000 := by omega
      rw [hF] at hf hcn ⊢
      refine V.seq (V.regF (fun t => if t = 22 then some (.ro (aI F)) else if t = 23 then some .clip else none) [] ?_)
      simp
      refine ⟨hf, ?_⟩
      obtain ⟨d, hd⟩ : ∃ d, IntKind.i64.wrap (line - F) = d := ⟨_, rfl⟩
      have hdd : d = line - F ∨ (line < F ∧ 1000000 < d) := by
        rw [← hd]
        exact wrap_sub37 hF1 (by omega)
      rw [hd]
      by_cases hout : line < F ∨ countC c ≤ line
      · have hd2 : d < 0 ∨ (c.signals.length : Int) ≤ d := by omega
        simp [hz, hout]
        omega
      · have hdl : d = line - F := by omega
        subst hdl
        have n1 : ¬ (line - F < 0) := by omega
        have n2 : ¬ ((c.signals.length : Int) ≤ line - F) := by omega
        simp [hz, hout, n1, n2]
        intro _ _
        refine V.forI (σ := Value) (dM c).parts.length [4, 5, 8, 36, 37] (by simp; exact rfl) (fun i g => [(9, .own 50 g), (38, aI i)]) (fun i g => [(50, .seq g 3 1 ((ofSig (dM c).parts (line - F) i).map rI))]) (fun _ _ => True) (.slice none 0 0) trivial (by simp [ofSig]) ⟨by simp; exact rfl, by simp [ofSig]⟩ ?_ ?_
        · rintro i g hi -
          obtain ⟨p, hp1⟩ : ∃ p, (dM c).parts[i] = p := ⟨_, rfl⟩
          have hpo : (dM c).parts[i]? = some p := by rw [List.getElem?_eq_getElem hi, hp1]
          rw [ofSig_succ hpo]
          have hsl2 := ofSig_len (dM c).parts (line - F) i
          generalize ofSig (dM c).parts (line - F) i = out at *
          obtain ⟨ak, an, ad, asg, aa, av, al⟩ := p
          have hfl := hfw.1
          simp only at hp1 hpo hi hfl
          by_cases he : asg = line - F
          · cases aa
            all_goals
              simp [hi, hp1, hpo, argA, he]
              omega
          · cases aa
            all_goals
              simp [hi, hp1, hpo, argA, he]
              omega
        · rintro g -
          simp [hz, hout]
end Go.Proofs.YtdnkpogfcpjkpaaGreatDoor
end

section
namespace Go.Proofs.YtdnkpogfcpjkpaaGreatDoor
set_option maxHeartbeats 8000000
set_option maxRecDepth 10000
theorem idxT_fn (xs : List (List UInt8)) (v : List UInt8) (hx : Sh xs) : CallFn Tryz.prog 132 [aTs xs, aT v] (aI (idxI (xs.findIdx? (v == ·)))) := by
  refine callFz_of Tryz.func132 rfl Tryz.ntmps132 (rs := [.tmp 4]) rfl (by kernel_rfl) (by simp) (by kernel_rfl) ?_
  simp
  refine V.forI (σ := Unit) xs.length [0, 1, 7] (by simp; exact rfl) (fun i _ => [(8, aI i)]) (fun _ _ => []) (fun i _ => NoF (v == ·) (xs.take i)) () (by simp) (by simp) ⟨by simp; exact rfl, by simp⟩ ?_ ?_
  · rintro i - hi hI
    have h1 := List.getElem?_eq_getElem hi
    have hs := findIdx_step (p := (v == ·)) hI h1
    simp [hi, h1]
    cases e : (v == xs[i])
    · simp at e
      simp [e]
      exact ⟨by omega, hs.1 (by simp [e])⟩
    · have e2 := hs.2 e
      simp at e
      rw [e2]
      simp [e]
  · rintro - hI
    rw [findIdx_none hI]
    simp
theorem containsT_fn (xs : List (List UInt8)) (v : List UInt8) (hx : Sh xs) : CallFn Tryz.prog 101 [aTs xs, aT v] (aB (xs.any (v == ·))) := by
  refine callFz_of Tryz.func101 rfl Tryz.ntmps101 (rs := [.tmp 4]) rfl (by kernel_rfl) (by simp) (by kernel_rfl) ?_
  simp
  refine (idxT_fn xs v hx).s ?_
  simp
  rw [idxI_ge, List.findIdx?_isSome]
theorem hasSuf_fn (q : List UInt8) (x y : UInt8) (hq : q.length ≤ 1000) : CallFn Tryz.prog 183 [aT (q ++ [x]), aT [y]] (aB (x == y)) := by
  refine callFz_of Tryz.func183 rfl Tryz.ntmps183 (rs := [.tmp 4]) rfl (by kernel_rfl) (by simp) (by kernel_rfl) ?_
  have e1 : List.take (q.length + 1) (q ++ [x]) = q ++ [x] := List.take_of_length_le (by simp)
  have e2 : (([x] : List UInt8) == [y]) = (x == y) := by simp [Bool.eq_iff_iff]
  simp [e1]
  refine ⟨fun _ => by omega, fun _ => by omega⟩
theorem cutSufL_fn (q : List UInt8) (x y : UInt8) (hq : q.length ≤ 1000) : CallFn Tryz.prog 129 [aT (q ++ [x]), aT [y]] (.tuple [aT (if x = y then q else q ++ [x]), aB (x == y)]) := by
  have h := hasSuf_fn q x y hq
  refine callFz_of Tryz.func129 rfl Tryz.ntmps129 (rs := [.tmp 4, .tmp 5]) rfl (by kernel_rfl) (by simp) (by kernel_rfl) ?_
  simp
  refine h.s ?_
  by_cases e : x = y
  · simp [e]
    omega
  · simp [e]
theorem cutSuf_fn (q : List UInt8) (x y : UInt8) (hq : q.length ≤ 1000) : CallFn Tryz.prog 99 [aT (q ++ [x]), aT [y]] (.tuple [aT (if x = y then q else q ++ [x]), aB (x == y)]) := by
  have h := cutSufL_fn q x y hq
  refine callFz_of Tryz.func99 rfl Tryz.ntmps99 (rs := [.tmp 4, .tmp 5]) rfl (by kernel_rfl) (by simp) (by kernel_rfl) ?_
  simp
  refine h.s ?_
  simp
theorem findC1_fn (p : Made) (name : List UInt8) : CallFn Tryz.prog 131 [.record (encPart p), .rptr [.str name]] (aB (p.name == name)) := by
  refine callFz_of Tryz.func131 rfl Tryz.ntmps131 (rs := [.tmp 3]) rfl (by kernel_rfl) (by simp) (by kernel_rfl) ?_
  simp
theorem idxP_fn (ps : List Made) (name : List UInt8) (hx : Sh ps) :
    CallFn Tryz.prog 130 [.dat (.sl (ps.map encPart)), .fn 131 [] [.rptr [.str name]]] (aI (idxI (ps.findIdx? fun p => p.name == name))) := by
  refine callFz_of Tryz.func130 rfl Tryz.ntmps130 (rs := [.tmp 4]) rfl (by kernel_rfl) (by simp) (by kernel_rfl) ?_
  simp
  refine V.forI (σ := Unit) ps.length [0, 1, 7] (by simp; exact rfl) (fun i _ => [(8, aI i)]) (fun _ _ => []) (fun i _ => NoF (fun p => p.name == name) (ps.take i)) () (by simp) (by simp) ⟨by simp; exact rfl, by simp⟩ ?_ ?_
  · rintro i - hi hI
    obtain ⟨y, hy⟩ : ∃ y, ps[i] = y := ⟨_, rfl⟩
    have h1 : ps[i]? = some y := by rw [List.getElem?_eq_getElem hi, hy]
    have hs := findIdx_step (p := fun p => p.name == name) hI h1
    have hc := findC1_fn y name
    simp [hi, hy]
    refine hc.s ?_
    cases e : (y.name == name)
    · simp
      exact ⟨by omega, hs.1 e⟩
    · rw [hs.2 e]
      simp
  · rintro - hI
    rw [findIdx_none hI]
    simp
theorem findC_fn (ps : List Made) (l : List (PortP × PortP)) (name : List UInt8) (hx : Sh ps) : CallFn Tryz.prog 100 [aCirc (ps, l), aT name] (aI (idxI (ps.findIdx? fun p => p.name == name))) := by
  have h := idxP_fn ps name hx
  refine callFz_of Tryz.func100 rfl Tryz.ntmps100 (rs := [.tmp 4]) rfl (by kernel_rfl) (by simp) (by kernel_rfl) ?_
  simp
  refine h.s ?_
  simp
theorem compareC_fn (a b : PortP) : CallFn Tryz.prog 53 [.record (encPort a), .record (encPort b)] (aI (cmpP a b)) := by
  obtain ⟨a1, a2⟩ := a
  obtain ⟨b1, b2⟩ := b
  have h1 := cmpI_fn a1 b1
  have h2 := Compare_fnT a2 b2
  have h3 := cmpOr_fn (cmpI a1 b1) (Go.Lib.compareBytes a2 b2)
  refine callFz_of Tryz.func53 rfl Tryz.ntmps53 (rs := [.tmp 4]) rfl (by kernel_rfl) (by simp) (by kernel_rfl) ?_
  simp
  refine V.drawX (fun t => if t = 9 then some (.fn (aI (cmpI a1 b1))) else if t = 14 then some (.fn (aI (Go.Lib.compareBytes a2 b2))) else if t = 16 then some (.fn (aI (cmpP (a1, a2) (b1, b2)))) else none) (by kernel_rfl) (by kernel_rfl) (by simp) ?_
  simp
  exact ⟨h1, h2, h3⟩
theorem pipesC_fn (a b : PortP × PortP) : CallFn Tryz.prog 54 [.record (encPipe a), .record (encPipe b)] (aI (cmpPP a b)) := by
  obtain ⟨⟨a1, a2⟩, a3, a4⟩ := a
  obtain ⟨⟨b1, b2⟩, b3, b4⟩ := b
  have h1 := compareC_fn (a1, a2) (b1, b2)
  have h2 := compareC_fn (a3, a4) (b3, b4)
  have h3 := cmpOr_fn (cmpP (a1, a2) (b1, b2)) (cmpP (a3, a4) (b3, b4))
  refine callFz_of Tryz.func54 rfl Tryz.ntmps54 (rs := [.tmp 4]) rfl (by kernel_rfl) (by simp) (by kernel_rfl) ?_
  simp
  refine V.drawX (fun t => if t = 9 then some (.fn (aI (cmpP (a1, a2) (b1, b2)))) else if t = 14 then some (.fn (aI (cmpP (a3, a4) (b3, b4)))) else if t = 16 then some (.fn (aI (cmpPP ((a1, a2), a3, a4) ((b1, b2), b3, b4)))) else none) (by kernel_rfl) (by kernel_rfl) (by simp) ?_
  simp
  exact ⟨h1, h2, h3⟩
theorem owner_fn (ps : List Made) (l : List (PortP × PortP)) (p : Made) (q : List UInt8) (x : UInt8) (hx : Sh ps) (hq : q.length ≤ 1000) (hn : p.name = q ++ [x]) (h01 : x = 48 ∨ x = 49) (i : Nat) (y : Made)
    (hf : ps.findIdx? (fun p => p.name == q) = some i) (hi : ps[i]? = some y) (hy : y.kind = 1) : CallFn Tryz.prog 50 [aCirc (ps, l), .record (encPart p)] (aI i) := by
  have hfi := findC_fn ps l q hx
  rw [hf] at hfi
  have c0 := cutSuf_fn q x 48 hq
  have c1 := cutSuf_fn q x 49 hq
  obtain ⟨hil, hi1⟩ := List.getElem?_eq_some_iff.1 hi
  rw [← hn] at c0 c1
  refine callFz_of Tryz.func50 rfl Tryz.ntmps50 (rs := [.tmp 4]) rfl (by kernel_rfl) (by simp) (by kernel_rfl) ?_
  simp
  refine c0.s ?_
  rcases h01 with rfl | rfl
  · simp
    refine hfi.s ?_
    simp [hi1, hil, hy]
  · simp
    refine c1.s ?_
    simp
    refine hfi.s ?_
    simp [hi1, hil, hy]
theorem indexed_fn (ps : List Made) (l : List (PortP × PortP)) (a b : PortP) (hx : Sh ps) (ha : a.1 < ps.length) (hb : b.1 < ps.length) : CallFn Tryz.prog 51 [aCirc (ps, l), .dat (.sl [encPort a, encPort b])] (aI 0) := by
  refine callFz_of Tryz.func51 rfl Tryz.ntmps51 (rs := [.tmp 4]) rfl (by kernel_rfl) (by simp) (by kernel_rfl) ?_
  simp
  refine V.forI (σ := Unit) 2 [2, 7, 8] (by simp; exact rfl) (fun i _ => [(4, aI 0), (9, aI i)]) (fun _ _ => []) (fun _ _ => True) () trivial (by simp) ⟨by simp; exact rfl, by simp⟩ ?_ ?_
  · rintro i - hi -
    have hc : i = 0 ∨ i = 1 := by omega
    rcases hc with rfl | rfl
    · simp
      omega
    · simp
      omega
  · rintro - -
    simp
def PortB (ps : List Made) (q : PortP) : Prop := ∃ p : Made, ∃ k : Nat, ps[q.1]? = some p ∧ p.kind = k ∧ k < 14 ∧ q.2 ∈ (rowTs k).flatten
theorem mem_sortT {x : List UInt8} {xs : List (List UInt8)} : x ∈ sortT xs ↔ x ∈ xs := List.mem_mergeSort
theorem port_calls (p : Made) {k : Nat} (v : List UInt8) (h2 : p.kind = k) (h3 : k < 14) (h4 : v ∈ (rowTs k).flatten) :
    CallFn Tryz.prog 102 [.record (encPart p)] (aTs (sortT (portT k))) ∧ CallFn Tryz.prog 101 [aTs (sortT (portT k)), aT v] (aB true) := by
  have hp := ports_fn k h3 p.name p.delay
  rw [← h2] at hp
  refine ⟨hp, ?_⟩
  have hl : (sortT (portT k)).length ≤ 7 := by
    rw [sortT_len, show (portT k).length = (rowTs k).flatten.length from sortT_len _]
    exact (rowTs_sum k h3).2.2.2
  have hc := containsT_fn (sortT (portT k)) v (by unfold Sh; omega)
  have he : (sortT (portT k)).any (v == ·) = true := List.any_eq_true.2 ⟨v, mem_sortT.2 (mem_sortT.2 h4), by simp⟩
  rwa [he] at hc
theorem exists_fn (ps : List Made) (l : List (PortP × PortP)) (a b : PortP) (hx : Sh ps) (ha : PortB ps a) (hb : PortB ps b) : CallFn Tryz.prog 52 [aCirc (ps, l), .dat (.sl [encPort a, encPort b])] (aI 0) := by
  refine callFz_of Tryz.func52 rfl Tryz.ntmps52 (rs := [.tmp 4]) rfl (by kernel_rfl) (by simp) (by kernel_rfl) ?_
  simp
  refine V.forI (σ := Unit) 2 [2, 7, 8] (by simp; exact rfl) (fun i _ => [(4, aI 0), (9, aI i)]) (fun _ _ => []) (fun _ _ => True) () trivial (by simp) ⟨by simp; exact rfl, by simp⟩ ?_ ?_
  · rintro i - hi -
    have hc : i = 0 ∨ i = 1 := by omega
    rcases hc with rfl | rfl
    · obtain ⟨p, k, h1, h2, h3, h4⟩ := ha
      obtain ⟨hil, hi1⟩ := List.getElem?_eq_some_iff.1 h1
      obtain ⟨hp, hcn⟩ := port_calls p a.2 h2 h3 h4
      simp
      intro b6
      refine V.drawX (fun t => if t = 19 then some (.fn (aTs (sortT (portT k)))) else if t = 22 then some (.fn (aB true)) else none) (by kernel_rfl) (by kernel_rfl) (by simp) ?_
      generalize sortT (portT k) = F at *
      simp [hil, hi1]
      exact ⟨hp, hcn⟩
    · obtain ⟨p, k, h1, h2, h3, h4⟩ := hb
      obtain ⟨hil, hi1⟩ := List.getElem?_eq_some_iff.1 h1
      obtain ⟨hp, hcn⟩ := port_calls p b.2 h2 h3 h4
      simp
      intro b6
      refine V.drawX (fun t => if t = 19 then some (.fn (aTs (sortT (portT k)))) else if t = 22 then some (.fn (aB true)) else none) (by kernel_rfl) (by kernel_rfl) (by simp) ?_
      generalize sortT (portT k) = F at *
      simp [hil, hi1]
      exact ⟨hp, hcn⟩
  · rintro - -
    simp
end Go.Proofs.YtdnkpogfcpjkpaaGreatDoor
end

section
namespace Go.Proofs.YtdnkpogfcpjkpaaGreatDoor
set_option maxHeartbeats 8000000
set_option maxRecDepth 10000
structure CircB (ps : List Made) (l : List (PortP × PortP)) : Prop where
  few : ps.length ≤ 64
  part : ∀ p ∈ ps, ∃ k : Nat, p.kind = k ∧ PartB k p.name p.delay
  asc : ∀ i p q, ps[i]? = some p → ps[i + 1]? = some q → ltB p.name q.name = true
  own : ∀ p ∈ ps, p.kind = 6 → ∃ q x i y, p.name = q ++ [x] ∧ (x = 48 ∨ x = 49) ∧ ps.findIdx? (fun p => p.name == q) = some i ∧ ps[i]? = some y ∧ y.kind = 1
  many : l.length ≤ 256
  ends : ∀ x ∈ l, PortB ps x.1 ∧ PortB ps x.2
  dir : ∀ x ∈ l, beforeP x.1 x.2 = true
  ord : ∀ i x y, l[i]? = some x → l[i + 1]? = some y → earlierP x y = true
abbrev ckB (ps : List Made) (l : List (PortP × PortP)) : List L := [.sl (ps.map encPart), .sl (l.map encPipe)]
variable {ps : List Made} {l : List (PortP × PortP)}
theorem ck_part {Q : PostQ} (hB : CircB ps l) {i : Nat} (hi : i < ps.length)
    (hQ : ∀ E' H', (∀ z ∈ [(2, aI 0), (19, aI (i + 1 : Nat))], wk (E' z.1) z.2) → (∀ z ∈ [(1, A.rptr (ckB ps l)), (17, .dat (.sl (ps.map encPart))), (18, aI ps.length)], E' z.1 = z.2) → Q .normal E' H') :
    vcC ⟨Tryz.prog, none, 115⟩ (loopC Tryz.f23 0) (hdE [(1, .rptr (ckB ps l)), (17, .dat (.sl (ps.map encPart))), (18, aI ps.length)] [(2, aI 0), (19, aI i)]) [] Q := by
  obtain ⟨p, hp⟩ : ∃ p, ps[i] = p := ⟨_, rfl⟩
  have hpo : ps[i]? = some p := by rw [List.getElem?_eq_getElem hi, hp]
  obtain ⟨k, hk, hpb⟩ := hB.part p (List.mem_of_getElem? hpo)
  have hc := partCheck_fn hpb
  rw [← hk] at hc
  have hfew := hB.few
  refine vc_part rfl ?_
  cases i with
  | zero =>
    simp [hi, hp, ckB]
    intro b4
    refine hc.s ?_
    simp
    refine V.drawX (fun t => none) (by kernel_rfl) (by kernel_rfl) (by simp) ?_
    simp [hpo, hi, hp]
    exact hQ _ _ (by simp) (by simp)
  | succ i =>
    obtain ⟨q, hq⟩ : ∃ q, ps[i] = q := ⟨_, rfl⟩
    have hqo : ps[i]? = some q := by rw [List.getElem?_eq_getElem (by omega), hq]
    have hlt := hB.asc i q p hqo hpo
    have hlt2 : Op.bytesLess p.name q.name = false := ltB_asymm hlt
    have hne : ¬ (p.name = q.name) := fun e => by rw [e, ltB_irrefl] at hlt; cases hlt
    simp [hi, hp, ckB]
    refine ⟨fun _ => ⟨⟨by omega, by omega⟩, fun b4 => ?_⟩, fun h => absurd h (by omega)⟩
    refine hc.s ?_
    simp
    refine V.drawX (fun t => none) (by kernel_rfl) (by kernel_rfl) (by simp) ?_
    simp [hqo, hq, show i < ps.length by omega, hlt2, hne]
    exact ⟨by omega, by omega, hQ _ _ (by simp) (by simp)⟩
theorem ck_lim {Q : PostQ} (hB : CircB ps l) {i : Nat} (hi : i < ps.length)
    (hQ : ∀ E' H', (∀ z ∈ [(2, aI 0), (47, aI (i + 1 : Nat))], wk (E' z.1) z.2) → (∀ z ∈ [(1, A.rptr (ckB ps l)), (45, .dat (.sl (ps.map encPart))), (46, aI ps.length)], E' z.1 = z.2) → Q .normal E' H') :
    vcC ⟨Tryz.prog, none, 115⟩ (loopC Tryz.f23 1) (hdE [(1, .rptr (ckB ps l)), (45, .dat (.sl (ps.map encPart))), (46, aI ps.length)] [(2, aI 0), (47, aI i)]) [] Q := by
  obtain ⟨p, hp⟩ : ∃ p, ps[i] = p := ⟨_, rfl⟩
  have hpo : ps[i]? = some p := by rw [List.getElem?_eq_getElem hi, hp]
  obtain ⟨k, hk, hpb⟩ := hB.part p (List.mem_of_getElem? hpo)
  have hfew := hB.few
  refine vc_part rfl ?_
  by_cases h6 : p.kind = 6
  · obtain ⟨q, x, j, y, o1, o2, o3, o4, o5⟩ := hB.own p (List.mem_of_getElem? hpo) h6
    have hq : q.length ≤ 1000 := by
      have := hpb.word.len
      rw [o1] at this
      simp at this
      omega
    have ho := owner_fn ps l p q x (by unfold Sh; omega) hq o1 o2 j y o3 o4 o5
    rw [show encPart p = [L.int .i64 6, .str p.name, .int .i64 p.delay] by simp [h6]] at ho
    simp [hi, hp, ckB]
    intro b7
    simp [h6]
    refine GCall.fn (aI j) (fun _ => ⟨trivial, ho⟩) ?_
    simp
    exact ⟨by omega, by omega, hQ _ _ (by simp) (by simp)⟩
  · simp [hi, hp, ckB]
    intro b7
    simp [h6]
    refine GCall.fn .undef (fun h => absurd h (by simp)) ?_
    simp
    exact ⟨by omega, by omega, hQ _ _ (by simp) (by simp)⟩
theorem ck_pipe {Q : PostQ} (hB : CircB ps l) {i : Nat} (hi : i < l.length)
    (hQ : ∀ E' H', (∀ z ∈ [(2, aI 0), (68, aI (i + 1 : Nat))], wk (E' z.1) z.2) → (∀ z ∈ [(1, A.rptr (ckB ps l)), (66, .dat (.sl (l.map encPipe))), (67, aI l.length)], E' z.1 = z.2) → Q .normal E' H') :
    vcC ⟨Tryz.prog, none, 115⟩ (loopC Tryz.f23 2) (hdE [(1, .rptr (ckB ps l)), (66, .dat (.sl (l.map encPipe))), (67, aI l.length)] [(2, aI 0), (68, aI i)]) [] Q := by
  obtain ⟨x, hx⟩ : ∃ x, l[i] = x := ⟨_, rfl⟩
  have hxo : l[i]? = some x := by rw [List.getElem?_eq_getElem hi, hx]
  have hxm := List.mem_of_getElem? hxo
  have hfew := hB.few
  have hmany := hB.many
  obtain ⟨e1, e2⟩ := hB.ends x hxm
  have hsh : Sh ps := by unfold Sh; omega
  have hl1 : x.1.1 < ps.length := by obtain ⟨p, k, h1, _⟩ := e1; exact (List.getElem?_eq_some_iff.1 h1).1
  have hl2 : x.2.1 < ps.length := by obtain ⟨p, k, h1, _⟩ := e2; exact (List.getElem?_eq_some_iff.1 h1).1
  have c1 := indexed_fn ps l x.1 x.2 hsh hl1 hl2
  have c2 := exists_fn ps l x.1 x.2 hsh e1 e2
  have c3 := compareC_fn x.1 x.2
  have hd := (cmpP_lt x.1 x.2).2 (hB.dir x hxm)
  obtain ⟨⟨x1, x2⟩, x3, x4⟩ := x
  simp only at c1 c2 c3 hd hl1 hl2
  generalize cmpP (x1, x2) (x3, x4) = cp at *
  have hd2 : ¬ (0 ≤ cp) := by omega
  refine vc_part rfl ?_
  simp [hi, hx, ckB]
  intro b9
  refine c1.s ?_
  simp
  refine c2.s ?_
  simp
  cases i with
  | zero =>
    refine V.drawX (fun t => if t = 97 then some (.fn (aI cp)) else if t = 110 then some (.fn (aI 0)) else none) (by kernel_rfl) (by kernel_rfl) (by simp) ?_
    simp [hxo, hx, hi, hd2]
    exact ⟨c3, hQ _ _ (by simp) (by simp)⟩
  | succ i =>
    obtain ⟨w, hw⟩ : ∃ w, l[i] = w := ⟨_, rfl⟩
    have hwo : l[i]? = some w := by rw [List.getElem?_eq_getElem (by omega), hw]
    have c4 := pipesC_fn w ((x1, x2), x3, x4)
    have hlt := (cmpPP_lt w ((x1, x2), x3, x4)).2 (hB.ord i _ _ hwo hxo)
    generalize cmpPP w ((x1, x2), x3, x4) = cq at *
    have hlt2 : ¬ (0 ≤ cq) := by omega
    obtain ⟨⟨w1, w2⟩, w3, w4⟩ := w
    refine V.drawX (fun t => if t = 97 then some (.fn (aI cp)) else if t = 110 then some (.fn (aI cq)) else none) (by kernel_rfl) (by kernel_rfl) (by simp) ?_
    simp [hwo, hw, hi, hd2, hlt2, show i < l.length by omega]
    refine ⟨c3, by omega, c4, by omega, hQ _ _ (by simp) (by simp)⟩
theorem CircCheck_fn (hB : CircB ps l) : CallFn Tryz.prog 23 [aCirc (ps, l)] (aI 0) := by
  have hfew := hB.few
  have hmany := hB.many
  refine callFz_cut 3 Tryz.func23 rfl Tryz.ntmps23 (rs := [.tmp 2]) rfl (by kernel_rfl) (by simp) (by kernel_rfl) ?_
  simp
  refine ⟨by omega, fun _ => ?_⟩
  refine V.forI (σ := Unit) ps.length [1, 17, 18] (by simp; exact rfl) (fun i _ => [(2, aI 0), (19, aI i)]) (fun _ _ => []) (fun _ _ => True) () trivial (by simp) ⟨by simp; exact rfl, by simp⟩ ?_ ?_
  · rintro i - hi -
    exact vc_of_part rfl (ck_part hB hi fun E' H' q1 q2 => ⟨(), trivial, q1, q2, by simp⟩)
  · rintro - -
    simp
    refine V.cutV [(1, .rptr (ckB ps l)), (2, aI 0)] (Hs := []) (by simp) (by simp) (V.of_vcN 1 ?_)
    simp
    refine V.forI (σ := Unit) ps.length [1, 45, 46] (by simp; exact rfl) (fun i _ => [(2, aI 0), (47, aI i)]) (fun _ _ => []) (fun _ _ => True) () trivial (by simp) ⟨by simp; exact rfl, by simp⟩ ?_ ?_
    · rintro i - hi -
      exact vc_of_part rfl (ck_lim hB hi fun E' H' q1 q2 => ⟨(), trivial, q1, q2, by simp⟩)
    · rintro - -
      simp
      refine V.cutV [(1, .rptr (ckB ps l)), (2, aI 0)] (Hs := []) (by simp) (by simp) (V.of_vcN 2 ?_)
      simp
      refine ⟨by omega, fun _ => ?_⟩
      refine V.forI (σ := Unit) l.length [1, 66, 67] (by simp; exact rfl) (fun i _ => [(2, aI 0), (68, aI i)]) (fun _ _ => []) (fun _ _ => True) () trivial (by simp) ⟨by simp; exact rfl, by simp⟩ ?_ ?_
      · rintro i - hi -
        exact vc_of_part rfl (ck_pipe hB hi fun E' H' q1 q2 => ⟨(), trivial, q1, q2, by simp⟩)
      · rintro - -
        simp
        refine V.of_vc ?_
        simp
end Go.Proofs.YtdnkpogfcpjkpaaGreatDoor
end

section
namespace Go.Proofs.YtdnkpogfcpjkpaaGreatDoor
set_option maxHeartbeats 4000000
def PartG (a : Int) (p : Made) : Prop := (∀ x, p.arg = some x → OkE x) ∧ p.valve < a
def PartsG (a : Int) (ps : List Made) : Prop := ∀ p ∈ ps, PartG a p
theorem PartsG.nil (a : Int) : PartsG a [] := fun _ h => nomatch h
theorem PartsG.app {a : Int} {l m : List Made} (h : PartsG a l) (h2 : PartsG a m) : PartsG a (l ++ m) := fun q hq => (List.mem_append.1 hq).elim (h q) (h2 q)
theorem PartsG.one {a : Int} {p : Made} (h : PartG a p) : PartsG a [p] := fun q hq => by rw [List.mem_singleton.1 hq]; exact h
theorem twin_g {a : Int} (ha : 0 ≤ a) {sg kind : Int} {letter : UInt8} : ∀ (ps : List Pin) {d : Dl}, PartsG a d.parts → PartsG a (ps.foldl (twinD sg kind letter) d).parts
  | [], _, h => h
  | p :: ps, d, h => twin_g ha ps (h.app (.one ⟨fun x hx => by simp at hx, by show (-1 : Int) < a; omega⟩))
mutual
theorem expr_g {a : Int} (ha : 0 ≤ a) (fl : Bool) (pf : Int → Pin) (sg : Int) : ∀ (x : Expr) (k : Nat), OkE x → PartsG a (exprD fl pf sg x k).parts
  | ⟨op, ix, args⟩, k, ho => by
    have hoa : ∀ y ∈ args, OkE y := by
      cases ho with
      | mk _ _ _ _ h => exact h
    have h := args_g ha fl pf sg args k hoa
    rw [exprD_eq]
    dsimp only
    by_cases h0 : op = 0
    · rw [if_pos h0]
      exact .nil a
    · rw [if_neg h0]
      by_cases h1 : op = 1
      · rw [if_pos h1]
        exact .nil a
      · rw [if_neg h1]
        generalize argsD fl pf sg args k = r at *
        obtain ⟨r1, r2, r3, r4⟩ := r
        dsimp only at h ⊢
        by_cases hop : op = 2
        · rw [if_pos hop]
          unfold notsD
          cases e : args.head? with
          | none => exact h
          | some y =>
            refine h.app (.one ⟨fun x hx => ?_, by show (-1 : Int) < a; omega⟩)
            have : y = x := Option.some.inj hx
            subst this
            exact hoa y (List.mem_of_mem_head? e)
        · rw [if_neg hop]
          unfold foldD
          dsimp only
          cases r4 with
          | nil => exact h
          | cons p ps => exact twin_g ha ps h
theorem args_g {a : Int} (ha : 0 ≤ a) (fl : Bool) (pf : Int → Pin) (sg : Int) : ∀ (xs : List Expr) (k : Nat), (∀ x ∈ xs, OkE x) → PartsG a (argsD fl pf sg xs k).parts
  | [], k, _ => .nil a
  | x :: xs, k, h => by
    rw [argsD]
    exact (expr_g ha fl pf sg x k (h x (by simp))).app (args_g ha fl pf sg xs _ fun y hy => h y (by simp [hy]))
end
theorem add_g {a : Int} (ha : 0 ≤ a) {m : Mk} (h : PartsG a m.parts) (k : Int) (n : List UInt8) (d l : Int) : PartsG a (m.add k n d l).parts := h.app (.one ⟨fun x hx => by simp at hx, by show (-1 : Int) < a; omega⟩)
theorem to_g {a : Int} (ha : 0 ≤ a) {c : Control} {m : Mk} (h : PartsG a m.parts) {x : Expr} (hx : OkE x) (p : Pin) : PartsG a (m.to c x p).parts := h.app (expr_g ha false _ _ x _ hx)
theorem valve_g {a : Int} {m : Mk} (h : PartsG a m.parts) (hl : m.parts ≠ []) {v : Int} (hv : v < a) : PartsG a (m.valve v).parts := by
  intro q hq
  have hlt : m.parts.length - 1 < m.parts.length := by
    have := List.length_pos_iff.2 hl
    omega
  unfold Mk.valve at hq
  rw [List.getElem?_eq_getElem hlt] at hq
  rcases List.mem_or_eq_of_mem_set hq with hq | rfl
  · exact h q hq
  · exact ⟨fun x hx => (h _ (List.getElem_mem hlt)).1 x hx, hv⟩
theorem act_g {n : Int} {m : Mk} (h : PartsG n m.parts) (a : Nat) (ha : (a : Int) < n) : PartsG n (actM m a).parts := by
  have h0 : 0 ≤ n := by omega
  exact valve_g (add_g h0 (add_g h0 (add_g h0 (add_g h0 h _ _ _ _) _ _ _ _) _ _ _ _) _ _ _ _) (by simp [Mk.add]) ha
theorem machine_g {c : Control} (h0 : 0 ≤ c.actuators) : PartsG c.actuators (machineM c).parts := by
  have h1 : ∀ n : Nat, (n : Int) ≤ c.actuators → PartsG c.actuators ((List.range n).foldl actM ((⟨[], [], 0, -1, []⟩ : Mk).add 0 [83] 0 (-1))).parts := by
    intro n
    induction n with
    | zero => exact fun _ => add_g h0 (.nil _) _ _ _ _
    | succ n ih =>
      intro hn
      rw [List.range_succ, List.foldl_append]
      exact act_g (ih (by omega)) n (by omega)
  have h2 : ∀ (n : Nat) {m : Mk}, PartsG c.actuators m.parts → PartsG c.actuators ((List.range n).foldl (inM c) m).parts := by
    intro n
    induction n with
    | zero => exact fun h => h
    | succ n ih =>
      intro m h
      rw [List.range_succ, List.foldl_append]
      exact add_g h0 (ih h) _ _ _ _
  exact h2 _ (h1 _ (by omega))
theorem whole_g {c : Control} (hc : OkC c) (h0 : 0 ≤ c.actuators) : PartsG c.actuators (wholeM c).parts := by
  have hx : ∀ (i : Nat) (x : Signal), c.signals[i]? = some x → OkE x.on ∧ OkE x.off := fun i x hx => ⟨(hc.sigs x (List.mem_of_getElem? hx)).on, (hc.sigs x (List.mem_of_getElem? hx)).off⟩
  have h1 : ∀ (n : Nat) {m : Mk}, PartsG c.actuators m.parts → PartsG c.actuators ((List.range n).foldl (gateM c) m).parts := by
    intro n
    induction n with
    | zero => exact fun h => h
    | succ n ih =>
      intro m h
      rw [List.range_succ, List.foldl_append]
      have h2 := ih h
      generalize (List.range n).foldl (gateM c) m = m' at h2
      show PartsG _ (gateM c m' n).parts
      unfold gateM
      split
      · refine h2.app (expr_g h0 false _ _ _ _ ?_)
        cases e : c.signals[n]? with
        | none => exact .mk _ (by simp) (by simp) (by simp) (by simp)
        | some x => exact (hx n x e).1
      · exact h2
  have h2 : ∀ (n : Nat) {m : Mk}, PartsG c.actuators m.parts → PartsG c.actuators ((List.range n).foldl (sigM c) m).parts := by
    intro n
    induction n with
    | zero => exact fun h => h
    | succ n ih =>
      intro m h
      rw [List.range_succ, List.foldl_append]
      have h2 := ih h
      generalize (List.range n).foldl (sigM c) m = m' at h2
      show PartsG _ (sigM c m' n).parts
      unfold sigM
      cases e : c.signals[n]? with
      | none => exact h2
      | some x =>
        obtain ⟨x1, x2⟩ := hx n x e
        dsimp only
        split
        · exact to_g h0 (m := (((m'.sig n).add 2 (ownT c n) 0 (firstC c + n)).feed (ownT c n)).to c x.on ⟨ownT c n, [49, 52]⟩) (to_g h0 (m := ((m'.sig n).add 2 (ownT c n) 0 (firstC c + n)).feed (ownT c n)) (add_g h0 (m := m'.sig n) h2 _ _ _ _) x1 ⟨ownT c n, [49, 52]⟩) x2 ⟨ownT c n, [49, 50]⟩
        · split
          · exact to_g h0 (m := ((m'.sig n).add 12 (ownT c n) x.delay (firstC c + n)).feed (ownT c n)) (add_g h0 (m := m'.sig n) h2 _ _ _ _) x1 ⟨ownT c n, [49, 50]⟩
          · exact h2
  have h3 : ∀ (n : Nat) {m : Mk}, PartsG c.actuators m.parts → PartsG c.actuators ((List.range n).foldl (pilM c) m).parts := by
    intro n
    induction n with
    | zero => exact fun h => h
    | succ n ih =>
      intro m h
      rw [List.range_succ, List.foldl_append]
      exact ih h
  exact h3 _ (h2 _ (h1 _ (machine_g h0)))
end Go.Proofs.YtdnkpogfcpjkpaaGreatDoor
end

section
namespace Go.Proofs.YtdnkpogfcpjkpaaGreatDoor
set_option maxHeartbeats 8000000
set_option maxRecDepth 10000
def onM (c : Control) (u : State) (p : Made) : Bool := match p.arg with
  | some x => (evalP c u x).1
  | none => if 0 ≤ p.valve then u.valves.getD p.valve.toNat false else if 0 ≤ p.line then (valueP c u p.line).1 else false
def placeI (b : Bool) : Int := if b = true then 1 else 0
def posQ37 (c : Control) (s : State) : List Int × Int :=
  if checkC c ≠ 0 then ([], checkC c) else if manyM (dM c) = true then ([], 5) else if rightC c s ≠ 0 then ([], rightC c s)
  else ((dM c).parts.map fun p => placeI (onM c (gatesP c s) p), 0)
theorem dM_g {c : Control} (h : checkC c = 0) (hc : OkC c) : PartsG c.actuators (dM c).parts := fun q hq => whole_g hc (okR_of h).act.1 q ((dM_perm h).mem_iff.1 hq)
theorem Positions_fn (c : Control) (s : State) (hc : OkC c) (hs : SmS s) : CallFn Tryz.prog 20 [aC c, aSt s] (.tuple [aIs (posQ37 c s).1, aI (posQ37 c s).2]) := by
  have hd := given_s c hc
  have hg := Gates_fn c s hc hs
  unfold posQ37
  refine CallS.agg (az := [aC c]) (bz := []) ?_
  refine callFz_of Tryz.func20 rfl Tryz.ntmps20 (rs := [.tmp 4, .tmp 5]) rfl (by kernel_rfl) (by simp) (by kernel_rfl) ?_
  simp
  intro b3
  refine (hd.frame).mono ?_
  rintro r _ ⟨H', (⟨hz, rfl, rfl⟩ | ⟨hz, b, bg, hp, hj, rfl, rfl⟩), rfl⟩
  · simp [hz]
  · have hR := okR_of hz
    have hfw := dM_few hz
    have hpg := dM_g hz hc
    cases hm : manyM (dM c) with
    | true => simp [hz, hm]
    | false =>
      by_cases hr : rightC c s = 0
      · rw [show gatesR c s = (gatesP c s, 0) by rw [gatesR, if_neg (by simp [hr])]] at hg
        have hru := gates_right hr
        have hsu := sm_of (fine_of hz) (right_zero hru).2.1
        have hvl : ((gatesP c s).valves.length : Int) = c.actuators := by
          exact (right_zero hru).2.1.2.1
        simp [hz, hm]
        refine (hg.s ?_)
        generalize gatesP c s = u at *
        simp [hz, hr]
        refine V.forI (σ := Value) (dM c).parts.length [2, 3, 4, 5, 33, 34] (by simp; exact rfl) (fun i g => [(8, .own 50 g), (35, aI i)]) (fun i g => [(50, .seq g 3 1 ((((dM c).parts.take i).map fun p => placeI (onM c u p)).map rI))]) (fun _ _ => True) (.slice none 0 0) trivial (by simp) ⟨by simp; exact rfl, by simp⟩ ?_ ?_
        · rintro i g hi -
          obtain ⟨p, hp1⟩ : ∃ p, (dM c).parts[i] = p := ⟨_, rfl⟩
          have hpo : (dM c).parts[i]? = some p := by rw [List.getElem?_eq_getElem hi, hp1]
          have hpp := hpg p (List.mem_of_getElem? hpo)
          have hst : (((dM c).parts.take (i + 1)).map fun p => placeI (onM c u p)).map rI = (((dM c).parts.take i).map fun p => placeI (onM c u p)).map rI ++ [rI (placeI (onM c u p))] := by rw [List.take_add_one, hpo]; simp
          rw [hst]
          have hfl := hfw.1
          have htl : (((dM c).parts.take i).map fun p => placeI (onM c u p)).length ≤ 60000 := by rw [List.length_map, List.length_take]; omega
          generalize ((dM c).parts.take i).map (fun p => placeI (onM c u p)) = out at *
          obtain ⟨ak, an, ad, asg, aa, av, al⟩ := p
          simp only at hp1 hpo hi hfl
          cases aa with
          | some x =>
            have hev := EvalC_fn c u x hc hsu (hpp.1 x rfl)
            have ho : onM c u ⟨ak, an, ad, asg, some x, av, al⟩ = (evalP c u x).1 := rfl
            rw [ho]
            generalize evalP c u x = ev at *
            obtain ⟨e1, e2⟩ := ev
            simp [hi, hp1, hpo, argA]
            intro b10
            refine ⟨by kernel_rfl, V.drawX (fun t => if t = 50 then some (.fn (.tuple [aB e1, aI e2])) else none) (by kernel_rfl) (by kernel_rfl) (by simp) ?_⟩
            simp [encE_eq x]
            refine ⟨hev, fun h => ⟨by omega, by omega, by rw [h]; rfl⟩, fun h => ⟨by omega, by omega, by rw [h]; rfl⟩⟩
          | none =>
            have hval := Value_fn c u al hc hsu
            by_cases h0 : 0 ≤ av
            · have ho : onM c u ⟨ak, an, ad, asg, none, av, al⟩ = u.valves.getD av.toNat false := by unfold onM; simp only; rw [if_pos h0]
              rw [ho]
              have hb : av.toNat < u.valves.length := by have := hpp.2; simp only at this; omega
              obtain ⟨v, hv⟩ : ∃ v, u.valves[av.toNat] = v := ⟨_, rfl⟩
              have hvo : u.valves[av.toNat]? = some v := by rw [List.getElem?_eq_getElem hb, hv]
              rw [List.getD_eq_getElem?_getD, hvo, Option.getD_some]
              simp [hi, hp1, hpo, argA, h0, hv, hvo]
              exact ⟨by kernel_rfl, by omega, fun h => ⟨by omega, by omega, by rw [h]; rfl⟩, fun h => ⟨by omega, by omega, by rw [h]; rfl⟩⟩
            · have ho : onM c u ⟨ak, an, ad, asg, none, av, al⟩ = (if 0 ≤ al then (valueP c u al).1 else false) := by unfold onM; simp only; rw [if_neg h0]
              rw [ho]
              by_cases h1 : 0 ≤ al
              · rw [if_pos h1]
                generalize valueP c u al = ev at *
                obtain ⟨e1, e2⟩ := ev
                simp [hi, hp1, hpo, argA, h0, h1]
                intro b10
                refine ⟨by kernel_rfl, hval.s ?_⟩
                simp
                exact ⟨fun h => ⟨by omega, by omega, by rw [h]; rfl⟩, fun h => ⟨by omega, by omega, by rw [h]; rfl⟩⟩
              · rw [if_neg h1]
                simp [hi, hp1, hpo, argA, h0, h1]
                exact ⟨by kernel_rfl, by omega, by omega, rfl⟩
        · rintro g -
          simp [hz, hr, allD, rowsD, isD]
      · rw [show gatesR c s = (noSt, rightC c s) by rw [gatesR, if_pos hr]] at hg
        simp [hz, hm]
        refine (hg.s ?_)
        simp [hz, hr]
end Go.Proofs.YtdnkpogfcpjkpaaGreatDoor
end

section
namespace Go.Proofs.YtdnkpogfcpjkpaaGreatDoor
set_option maxHeartbeats 8000000
set_option maxRecDepth 100000
def wordR : List UInt8 → Bool
  | [] => false
  | b :: r => clsL b.toNat == 1 && (b :: r).all (fun b => clsL b.toNat != 0) && decide ((b :: r).length ≤ 24)
theorem wordR_ok {s : List UInt8} (h : wordR s = true) : WordB s := by
  cases s with
  | nil => cases h
  | cons b r =>
    simp only [wordR, Bool.and_eq_true, beq_iff_eq, decide_eq_true_eq, List.all_eq_true] at h
    exact ⟨⟨b, r, rfl, h.1.1⟩, fun c hc => by have := h.1.2 c hc; unfold LexB; simpa using this, h.2⟩
def partR (p : Made) : Bool := decide (0 ≤ p.kind ∧ p.kind < 14) && wordR p.name && decide ((p.kind = 12 → 1 ≤ p.delay ∧ p.delay ≤ 1000000) ∧ (p.kind ≠ 12 → p.delay = 0))
def ascR {α : Type} (lt : α → α → Bool) : List α → Bool
  | a :: b :: r => lt a b && ascR lt (b :: r)
  | _ => true
theorem ascR_at {α : Type} {lt : α → α → Bool} : ∀ {l : List α}, ascR lt l = true → ∀ i x y, l[i]? = some x → l[i + 1]? = some y → lt x y = true
  | a :: b :: r, h, 0, x, y, hx, hy => by
    simp only [ascR, Bool.and_eq_true] at h
    simp at hx hy
    rw [← hx, ← hy]
    exact h.1
  | a :: b :: r, h, i + 1, x, y, hx, hy => by
    simp only [ascR, Bool.and_eq_true] at h
    exact ascR_at h.2 i x y (by simpa using hx) (by simpa using hy)
  | [_], _, i, x, y, _, hy => by simp at hy
  | [], _, i, x, y, _, hy => by simp at hy
def ownR (ps : List Made) (p : Made) : Bool := decide (p.kind ≠ 6) || (match p.name.getLast? with
  | some x => (x == 48 || x == 49) && (match ps.findIdx? (fun q => q.name == p.name.dropLast) with
    | some i => (match ps[i]? with
      | some y => decide (y.kind = 1)
      | none => false)
    | none => false)
  | none => false)
def portRR (ps : List Made) (q : PortP) : Bool := match ps[q.1]? with
  | some p => decide (0 ≤ p.kind) && decide (p.kind.toNat < 14) && (rowTs p.kind.toNat).flatten.contains q.2
  | none => false
def circR (ps : List Made) (l : List (PortP × PortP)) : Bool :=
  decide (ps.length ≤ 64) && ps.all partR && ascR (fun p q => ltB p.name q.name) ps && ps.all (ownR ps) && decide (l.length ≤ 256) && l.all (fun x => portRR ps x.1 && portRR ps x.2 && beforeP x.1 x.2) && ascR earlierP l
theorem portRR_ok {ps : List Made} {q : PortP} (h : portRR ps q = true) : PortB ps q := by
  unfold portRR at h
  cases e : ps[q.1]? with
  | none => rw [e] at h; cases h
  | some p =>
    rw [e] at h
    simp only [Bool.and_eq_true, decide_eq_true_eq, List.contains_iff_mem] at h
    exact ⟨p, p.kind.toNat, e, by omega, h.1.2, h.2⟩
theorem circR_ok {ps : List Made} {l : List (PortP × PortP)} (h : circR ps l = true) : CircB ps l := by
  simp only [circR, Bool.and_eq_true, decide_eq_true_eq, List.all_eq_true] at h
  obtain ⟨⟨⟨⟨⟨⟨h1, h2⟩, h3⟩, h4⟩, h5⟩, h6⟩, h7⟩ := h
  refine ⟨h1, fun p hp => ?_, ascR_at h3, fun p hp hk => ?_, h5, fun x hx => ⟨portRR_ok (h6 x hx).1.1, portRR_ok (h6 x hx).1.2⟩, fun x hx => (h6 x hx).2, ascR_at h7⟩
  · have := h2 p hp
    simp only [partR, Bool.and_eq_true, decide_eq_true_eq] at this
    obtain ⟨⟨k, w⟩, d1, d2⟩ := this
    exact ⟨p.kind.toNat, by omega, by omega, wordR_ok w, fun e => d1 (by omega), fun e => d2 (by omega)⟩
  · have := h4 p hp
    unfold ownR at this
    simp only [hk, ne_eq, not_true_eq_false, decide_false, Bool.false_or] at this
    cases e1 : p.name.getLast? with
    | none => rw [e1] at this; cases this
    | some x =>
      rw [e1] at this
      simp only [Bool.and_eq_true, Bool.or_eq_true, beq_iff_eq] at this
      obtain ⟨t1, t2⟩ := this
      cases e2 : ps.findIdx? (fun q => q.name == p.name.dropLast) with
      | none => rw [e2] at t2; cases t2
      | some i =>
        rw [e2] at t2
        dsimp only at t2
        cases e3 : ps[i]? with
        | none => rw [e3] at t2; cases t2
        | some y =>
          rw [e3] at t2
          refine ⟨p.name.dropLast, x, i, y, ?_, t1, e2, e3, by simpa using t2⟩
          rw [List.getLast?_eq_some_iff] at e1
          obtain ⟨ys, hy⟩ := e1
          rw [hy]
          simp
def startS : State := ⟨[0], [false], [true], [false, true], [0, 0]⟩
theorem back_circ : circR (circuitQ backC).1.1 (circuitQ backC).1.2 = true := by decide +kernel
theorem back_err : (circuitQ backC).2 = 0 := by decide +kernel
theorem back_names : (circuitQ backC).1.1.map Made.name = [[65], [65, 48], [65, 49], [77, 48], [78, 48], [80, 49], [83], [86, 65], [115, 116, 97, 114, 116]] := by decide +kernel
theorem back_p3 : portQ37 backC 3 = ((3, [52]), true, 0) := by decide +kernel
theorem back_p4 : portQ37 backC 4 = ((4, [50]), true, 0) := by decide +kernel
theorem back_parts : partsQ37 backC 3 = ([3, 5], 0) := by decide +kernel
theorem back_count : countR backC = (9, 0) := by unfold countR; rw [backC_check, backC_count]; rfl
theorem back_pos : posQ37 backC startS = ([0, 1, 0, 0, 0, 0, 0, 0, 1], 0) := by decide +kernel
end Go.Proofs.YtdnkpogfcpjkpaaGreatDoor
end

section
namespace Go.Proofs.YtdnkpogfcpjkpaaGreatDoor
set_option maxHeartbeats 4000000
set_option maxRecDepth 10000
end Go.Proofs.YtdnkpogfcpjkpaaGreatDoor
end

section
namespace Go.Proofs.YtdnkpogfcpjkpaaGreatDoor
set_option maxHeartbeats 4000000
set_option maxRecDepth 10000
def encArg : Option Expr → List L
  | none => [.int .i64 0, .int .i64 0, .sl []]
  | some x => encE x
abbrev encGear (p : Made) : List L := [.int .i64 p.kind, .str p.name, .int .i64 p.delay, .int .i64 p.signal] ++ encArg p.arg
abbrev encLink (p : Pin × Pin) : List L := [.str p.1.part, .str p.1.port, .str p.2.part, .str p.2.port]
abbrev dA (d : Dr) (e : A) : A := .agg [.dat (.sl (d.gears.map encGear)), .dat (.sl (d.links.map encLink)), e, aI d.count]
def EndP (p : Pin) : Prop := p = noPin ∨ p.part ≠ []
end Go.Proofs.YtdnkpogfcpjkpaaGreatDoor
end

section
namespace Go.Proofs.YtdnkpogfcpjkpaaGreatDoor
set_option maxHeartbeats 4000000
set_option maxRecDepth 10000
end Go.Proofs.YtdnkpogfcpjkpaaGreatDoor
end

section
namespace Go.Proofs.YtdnkpogfcpjkpaaGreatDoor
set_option maxHeartbeats 4000000
set_option maxRecDepth 10000
end Go.Proofs.YtdnkpogfcpjkpaaGreatDoor
end

section
namespace Go.Proofs.YtdnkpogfcpjkpaaGreatDoor
set_option maxHeartbeats 4000000
set_option maxRecDepth 10000
end Go.Proofs.YtdnkpogfcpjkpaaGreatDoor
end

section
namespace Go.Proofs.YtdnkpogfcpjkpaaGreatDoor
set_option maxHeartbeats 4000000
set_option maxRecDepth 10000
abbrev endE (h : Value) (d : Dr) : Nat × Ent := (50, .seq h 102 2 (d.ends.map rPin))
def pfE (l : List Pin) : Int → Pin := fun i => l.getD i.toNat noPin
abbrev Dr.pf (d : Dr) : Int → Pin := pfE d.ends
theorem Dr.expr_pf (d : Dr) (x : Expr) (sg : Int) : d.expr x sg = exprD true d.pf sg x d.count := rfl
def Dr.argsR (d : Dr) (sg : Int) (xs : List Expr) : Dr := { d with gears := d.gears ++ (argsD true d.pf sg xs d.count).parts, links := d.links ++ (argsD true d.pf sg xs d.count).joins, count := (argsD true d.pf sg xs d.count).num }
def Dr.pinsR (d : Dr) (sg : Int) (xs : List Expr) : List Pin := (argsD true d.pf sg xs d.count).pins
@[simp] theorem argsR_nil (d : Dr) (sg : Int) : d.argsR sg [] = d := by simp [Dr.argsR, argsD]
@[simp] theorem pinsR_nil (d : Dr) (sg : Int) : d.pinsR sg [] = [] := rfl
abbrev Passes (x : Expr) : Prop := ∀ (d : Dr) (sg : Int) (h : Value), RightE d.ends.length x → (∀ p ∈ d.ends, EndP p) → d.gears.length + sizeN x ≤ 500000 → d.links.length + 3 * sizeN x ≤ 800000 → d.count + sizeN x ≤ 500000 →
  CallS Tryz.prog 75 [dA d (.own 50 h), aE x, aI sg] [endE h d] fun r H' => r = .tuple [dA (d.app (d.expr x sg)) (.own 50 h), .record (encPin (d.expr x sg).pin)] ∧ H' = [endE h d]
section
variable {x : Expr} {d : Dr} {sg : Int} {h : Value} {b3 b6 b7 : Nat}
theorem twin_endP {sg kind : Int} {letter : UInt8} : ∀ (ps : List Pin) {q : Dl}, EndP q.pin → EndP (ps.foldl (twinD sg kind letter) q).pin
  | [], _, h => h
  | p :: ps, q, _ => twin_endP ps (.inr (by simp [twinD]))
mutual
theorem expr_endP (fl : Bool) {pf : Int → Pin} (sg : Int) (hp : ∀ i, EndP (pf i)) : ∀ (x : Expr) (k : Nat), EndP (exprD fl pf sg x k).pin
  | ⟨op, ix, args⟩, k => by
    have h := args_endP fl sg hp args k
    rw [exprD_eq]
    dsimp only
    split
    · split
      · exact .inr (by simp)
      · exact .inl rfl
    · split
      · exact hp ix
      · generalize argsD fl pf sg args k = r at *
        split
        · unfold notsD
          cases args.head? with
          | none => exact .inl rfl
          | some y => exact .inr (by simp [notD])
        · unfold foldD
          obtain ⟨r1, r2, r3, r4⟩ := r
          dsimp only
          cases r4 with
          | nil => exact .inl rfl
          | cons p ps => exact twin_endP ps (h p (by simp))
theorem args_endP (fl : Bool) {pf : Int → Pin} (sg : Int) (hp : ∀ i, EndP (pf i)) : ∀ (xs : List Expr) (k : Nat), ∀ p ∈ (argsD fl pf sg xs k).pins, EndP p
  | [], k => by simp [argsD]
  | x :: xs, k => by
    rw [argsD]
    intro p hm
    rcases List.mem_cons.1 hm with rfl | hm
    · exact expr_endP fl sg hp x k
    · exact args_endP fl sg hp xs _ p hm
end
theorem pfE_end {l : List Pin} (h : ∀ p ∈ l, EndP p) (i : Int) : EndP (pfE l i) := by
  unfold pfE
  rw [List.getD_eq_getElem?_getD]
  cases hq : l[i.toNat]? with
  | none => exact .inl rfl
  | some p => exact h p (List.mem_of_getElem? hq)
end
end Go.Proofs.YtdnkpogfcpjkpaaGreatDoor
end

section
namespace Go.Proofs.YtdnkpogfcpjkpaaGreatDoor
set_option maxHeartbeats 1000000
structure Gd (n k m : Nat) (d : Dr) : Prop where
  gears : d.gears.length ≤ n
  links : d.links.length ≤ k
  count : d.count ≤ m
  ends : ∀ p ∈ d.ends, EndP p
theorem Gd.mono {n k m n' k' m' : Nat} {d : Dr} (h : Gd n k m d) (h1 : n ≤ n') (h2 : k ≤ k') (h3 : m ≤ m') : Gd n' k' m' d := ⟨Nat.le_trans h.gears h1, Nat.le_trans h.links h2, Nat.le_trans h.count h3, h.ends⟩
theorem Gd.link {n k m : Nat} {d : Dr} (h : Gd n k m d) (a b : Pin) : Gd n (k + 1) m (d.link a b) := by
  have := joinD_len a b
  have := h.links
  exact ⟨h.gears, by simp only [Dr.link, List.length_append]; omega, h.count, h.ends⟩
theorem Gd.put {n k m : Nat} {d : Dr} (h : Gd n k m d) (p : Made) (air : Bool) : Gd (n + 1) (k + if air = true then 1 else 0) m (d.put p air) := by
  have h1 := h.links
  have h2 := h.gears
  have h3 := joinD_len ⟨p.name, [49]⟩ supPin
  refine ⟨by simp only [Dr.put, List.length_append, List.length_cons, List.length_nil]; omega, ?_, h.count, h.ends⟩
  cases air
  · simp only [Dr.put]
    simpa using h1
  · simp only [Dr.put, List.length_append, if_true]
    omega
theorem Gd.ended {n k m : Nat} {d : Dr} (h : Gd n k m d) {l : List Pin} (hl : ∀ p ∈ l, EndP p) : Gd n k m (d.ended l) := by
  refine ⟨h.gears, h.links, h.count, fun p hp => ?_⟩
  rcases List.mem_append.1 hp with hp | hp
  · exact h.ends p hp
  · exact hl p hp
theorem Gd.app {n k m : Nat} {d : Dr} (h : Gd n k m d) (x : Expr) (sg : Int) {z : Nat} (hx : sizeN x ≤ z) : Gd (n + z) (k + 3 * z) (m + z) (d.app (d.expr x sg)) ∧ EndP (d.expr x sg).pin := by
  obtain ⟨s1, s2, s3⟩ := expr_small true d.pf sg x d.count
  rw [← Dr.expr_pf] at s1 s2 s3
  have h1 := h.gears
  have h2 := h.links
  have h3 := h.count
  refine ⟨⟨?_, ?_, ?_, h.ends⟩, expr_endP true sg (pfE_end h.ends) x d.count⟩
  · simp only [Dr.app, List.length_append]; omega
  · simp only [Dr.app, List.length_append]; omega
  · simp only [Dr.app]; omega
abbrev dr0 : Dr := (⟨[], [], [], 0⟩ : Dr).put ⟨0, [83], 0, -1, none, -1, -1⟩ false
theorem Gd.to {n k m : Nat} {d : Dr} (h : Gd n k m d) {x : Expr} (sg : Int) (p : Pin) (hx : sizeN x ≤ 256) : Gd (n + 256) (k + 769) (m + 256) (d.to x sg p) := (h.app x sg hx).1.link _ _
end Go.Proofs.YtdnkpogfcpjkpaaGreatDoor
end

section
namespace Go.Proofs.YtdnkpogfcpjkpaaGreatDoor
set_option maxHeartbeats 8000000
set_option maxRecDepth 10000
section
variable {c : Control} {b2 b3 : Nat}
end
end Go.Proofs.YtdnkpogfcpjkpaaGreatDoor
end

section
namespace Go.Proofs.YtdnkpogfcpjkpaaGreatDoor
set_option maxHeartbeats 8000000
set_option maxRecDepth 10000
section
variable {c : Control} {b2 b3 : Nat}
end
end Go.Proofs.YtdnkpogfcpjkpaaGreatDoor
end

section
namespace Go.Proofs.YtdnkpogfcpjkpaaGreatDoor
set_option maxHeartbeats 4000000
section
variable {c : Control} (h : checkC c = 0)
include h
end
end Go.Proofs.YtdnkpogfcpjkpaaGreatDoor
end

section
namespace Go.Proofs.YtdnkpogfcpjkpaaGreatDoor
set_option maxHeartbeats 8000000
set_option maxRecDepth 10000
end Go.Proofs.YtdnkpogfcpjkpaaGreatDoor
end

section
namespace Go.Proofs.YtdnkpogfcpjkpaaGreatDoor
set_option maxHeartbeats 8000000
set_option maxRecDepth 10000
section
variable {d : Dr} {b2 b4 : Nat}
end
end Go.Proofs.YtdnkpogfcpjkpaaGreatDoor
end

section
namespace Go.Proofs.YtdnkpogfcpjkpaaGreatDoor
set_option maxHeartbeats 8000000
set_option maxRecDepth 10000
end Go.Proofs.YtdnkpogfcpjkpaaGreatDoor
end

section
namespace Go.Proofs.YtdnkpogfcpjkpaaGreatDoor
set_option maxHeartbeats 1000000
mutual
theorem nd_right {n : Int} : ∀ x : Expr, RightE n x → ∀ y ∈ ndE x, nodeR y n = 0
  | ⟨op, ix, args⟩, h, y, hy => by
    simp only [ndE, List.mem_cons] at hy
    rcases hy with rfl | hy
    · exact h.node
    · exact ndL_right args h.args y hy
theorem ndL_right {n : Int} : ∀ l : List Expr, (∀ x ∈ l, RightE n x) → ∀ y ∈ ndL l, nodeR y n = 0
  | [], _, y, hy => by simp [ndL] at hy
  | x :: xs, h, y, hy => by
    simp only [ndL, List.mem_append] at hy
    rcases hy with hy | hy
    · exact nd_right x (h x (by simp)) y hy
    · exact ndL_right xs (fun z hz => h z (by simp [hz])) y hy
end
theorem check_of {x : Expr} {n : Int} (hn : 0 ≤ n ∧ n ≤ 256) (hs : szE x ≤ 256) (hd : dpE x ≤ 16) (hr : RightE n x) : checkE x n = 0 := by
  unfold checkE
  rw [if_neg (by omega)]
  obtain ⟨s, hm⟩ := (meas_iff x).2 ⟨hs, hd⟩
  rw [hm]
  have h := firstErr_app (fun y => nodeR y n) (ndE x) [] (nd_right x hr)
  have h2 := nodeFold n (preE x 1)
  rw [(preE_all x 1 (by omega)).1] at h2
  simp only [List.append_nil, firstErr] at h
  rw [h] at h2
  exact h2
theorem szL_mem : ∀ {l : List Expr} {y : Expr}, y ∈ l → szE y ≤ szL l
  | [], _, h => by simp at h
  | x :: xs, y, h => by
    rw [szL]
    rcases List.mem_cons.1 h with rfl | h
    · omega
    · have := szL_mem h
      omega
theorem dpL_mem : ∀ {l : List Expr} {y : Expr}, y ∈ l → dpE y ≤ dpL l
  | [], _, h => by simp at h
  | x :: xs, y, h => by
    rw [dpL]
    rcases List.mem_cons.1 h with rfl | h
    · omega
    · have := dpL_mem h
      omega
theorem check_arg {x y : Expr} {n : Int} (h : checkE x n = 0) (hy : y ∈ x.args) : checkE y n = 0 := by
  have hr := right_of_check h
  have h2 := (light_iff x).1 (light_check h)
  rw [szE_eq, dpE_eq] at h2
  have h3 := szL_mem hy
  have h4 := dpL_mem hy
  exact check_of hr.2 (by omega) (by omega) (hr.1.args y hy)
end Go.Proofs.YtdnkpogfcpjkpaaGreatDoor
end
