/- Texts joined by a program: Ji, In, Io, Ip, Iq, Ir, Is, It. -/
import Derived.Test.YtdnkpogfcpjkpaaGreatDoorP22
import Derived.Test.YtdnkpogfcpjkpaaGreatDoorP19
import Derived.Test.YtdnkpogfcpjkpaaGreatDoorP17
import Derived.Test.YtdnkpogfcpjkpaaGreatDoorP21
set_option linter.unusedSimpArgs false
set_option linter.unusedVariables false
set_option linter.unnecessarySimpa false

section
namespace Go.Proofs.YtdnkpogfcpjkpaaGreatDoor
set_option maxHeartbeats 8000000
set_option maxRecDepth 10000
def beginS : State := ⟨[0], [false], [false], [false, true], [0, 0]⟩
theorem back_first : firstSt backC = beginS := by decide +kernel
def nineN : List (List UInt8) := [[65], [65, 48], [65, 49], [77, 48], [78, 48], [80, 49], [83], [86, 65], [115, 116, 97, 114, 116]]
abbrev aP34 (k : Nat) (s : List UInt8) : A := .tuple [.record (encPort (k, s)), aB true, aI 0]
section
variable {c : Control} {ps : List Made} {l : List (PortP × PortP)}
abbrev awH (c : Control) (ps : List Made) (l : List (PortP × PortP)) (b1 b2 : Nat) : Heap := [(2, .box b2 ([L.sl (ps.map encPart), .sl (l.map encPipe)].map A.dat)), (1, .box b1 ((encC c).map A.dat))]
theorem awake37_a (hB : CallFn Tryz.prog 26 [] (aC c)) (h1 : CallFn Tryz.prog 9 [aC c] (.tuple [aCirc (ps, l), aI 0])) (h2 : CallFn Tryz.prog 11 [aC c] (.tuple [aI 9, aI 0]))
    (hv : ∀ b1 b2, vcN ⟨Tryz.prog, none, 128⟩ 2 (restC Tryz.f8 4) (hdE [(0, aB false), (1, .ptr 1 b1 0), (2, .ptr 2 b2 0), (3, aI 0), (4, aI 9), (5, aI 0)] []) (awH c ps l b1 b2) (RetV Tryz.prog [.tmp 0] fun r' H' => (frz H' r').1 ∧ (frz H' r').2 = aB true)) :
    CallFn Tryz.prog 8 [] (aB true) := by
  refine callFz_cut 4 Tryz.func8 rfl Tryz.ntmps8 (rs := [.tmp 0]) rfl (by kernel_rfl) (by simp) (by kernel_rfl) ?_
  simp
  refine hB.s ?_
  simp [encC]
  intro b1
  refine h1.s ?_
  simp
  intro b2
  refine h2.s ?_
  simp
  exact V.cutN 2 [(0, aB false), (1, .ptr 1 b1 0), (2, .ptr 2 b2 0), (3, aI 0), (4, aI 9), (5, aI 0)] (by simp) (by simp [encC]) (vcN_of_rest rfl (hv b1 b2))
theorem awake37_b (h3 : CallFn Tryz.prog 14 [aC c, aI 3] (aP34 3 [52])) (h4 : CallFn Tryz.prog 14 [aC c, aI 4] (aP34 4 [50])) {b1 b2 : Nat}
    (hv : ∀ b6 b9, vcN ⟨Tryz.prog, none, 128⟩ 2 (restC Tryz.f8 6) (hdE [(0, aB false), (1, .ptr 1 b1 0), (2, .ptr 2 b2 0), (3, aI 0), (4, aI 9), (5, aI 0), (6, .ptr 6 b6 0), (7, aB true), (8, aI 0), (9, .ptr 9 b9 0), (10, aB true), (11, aI 0)] [])
      ((9, .box b9 [aI 4, aT [50]]) :: (6, .box b6 [aI 3, aT [52]]) :: awH c ps l b1 b2) (RetV Tryz.prog [.tmp 0] fun r' H' => (frz H' r').1 ∧ (frz H' r').2 = aB true)) :
    vcN ⟨Tryz.prog, none, 128⟩ 2 (restC Tryz.f8 4) (hdE [(0, aB false), (1, .ptr 1 b1 0), (2, .ptr 2 b2 0), (3, aI 0), (4, aI 9), (5, aI 0)] []) (awH c ps l b1 b2) (RetV Tryz.prog [.tmp 0] fun r' H' => (frz H' r').1 ∧ (frz H' r').2 = aB true) := by
  refine vcN_rest rfl ?_
  simp [encC]
  refine h3.s ?_
  simp
  intro b6
  refine h4.s ?_
  simp
  intro b9
  exact V.cutN 2 [(0, aB false), (1, .ptr 1 b1 0), (2, .ptr 2 b2 0), (3, aI 0), (4, aI 9), (5, aI 0), (6, .ptr 6 b6 0), (7, aB true), (8, aI 0), (9, .ptr 9 b9 0), (10, aB true), (11, aI 0)] (by simp) (by simp [encC]) (vcN_of_rest rfl (hv b6 b9))
theorem awake37_c (h5 : CallSt 27 [aC c] beginS) (h6 : CallFn Tryz.prog 20 [aC c, aSt startS] (.tuple [aIs [0, 1, 0, 0, 0, 0, 0, 0, 1], aI 0])) {b1 b2 b6 b9 : Nat}
    (hv : vcN ⟨Tryz.prog, none, 128⟩ 1 (restC Tryz.f8 9) (hdE [(0, aB false), (1, .ptr 1 b1 0), (2, .ptr 2 b2 0), (3, aI 0), (4, aI 9), (5, aI 0), (6, .ptr 6 b6 0), (7, aB true), (8, aI 0), (9, .ptr 9 b9 0), (10, aB true), (11, aI 0), (13, aIs [0, 1, 0, 0, 0, 0, 0, 0, 1]), (14, aI 0)] [])
      ((9, .box b9 [aI 4, aT [50]]) :: (6, .box b6 [aI 3, aT [52]]) :: awH c ps l b1 b2) (RetV Tryz.prog [.tmp 0] fun r' H' => (frz H' r').1 ∧ (frz H' r').2 = aB true)) :
    vcN ⟨Tryz.prog, none, 128⟩ 2 (restC Tryz.f8 6) (hdE [(0, aB false), (1, .ptr 1 b1 0), (2, .ptr 2 b2 0), (3, aI 0), (4, aI 9), (5, aI 0), (6, .ptr 6 b6 0), (7, aB true), (8, aI 0), (9, .ptr 9 b9 0), (10, aB true), (11, aI 0)] [])
      ((9, .box b9 [aI 4, aT [50]]) :: (6, .box b6 [aI 3, aT [52]]) :: awH c ps l b1 b2) (RetV Tryz.prog [.tmp 0] fun r' H' => (frz H' r').1 ∧ (frz H' r').2 = aB true) := by
  refine vcN_rest rfl ?_
  simp [encC]
  refine h5.lend 60 (by simp [hget, packA]) fun hd => ?_
  simp [stA, stH, beginS, packA]
  intro b
  refine V.ofG ?_
  refine Gh.frzBox (g := 12) (τ := 60) (j := 0) (t := 60) rfl rfl rfl rfl ?_
  refine Gh.frzBox (g := 12) (τ := 61) (j := 1) (t := 61) rfl rfl rfl rfl ?_
  refine Gh.frzBox (g := 12) (τ := 62) (j := 2) (t := 62) rfl rfl rfl rfl ?_
  refine Gh.frzBox (g := 12) (τ := 63) (j := 3) (t := 63) rfl rfl rfl rfl ?_
  refine Gh.frzBox (g := 12) (τ := 64) (j := 4) (t := 64) rfl rfl rfl rfl ?_
  refine Gh.here ?_
  refine V.cutV [(0, aB false), (1, .ptr 1 b1 0), (2, .ptr 2 b2 0), (3, aI 0), (4, aI 9), (5, aI 0), (6, .ptr 6 b6 0), (7, aB true), (8, aI 0), (9, .ptr 9 b9 0), (10, aB true), (11, aI 0), (12, .ptr 12 b 0)] (Hs := (12, .box b ((encSt startS).map A.dat)) :: (9, .box b9 [aI 4, aT [50]]) :: (6, .box b6 [aI 3, aT [52]]) :: awH c ps l b1 b2) (by simp) (by simp [encSt, startS, rowsD]) (V.of_vcN 1 ?_)
  generalize startS = st at *
  simp [encC, encSt]
  refine h6.s ?_
  simp
  exact V.cutN 1 [(0, aB false), (1, .ptr 1 b1 0), (2, .ptr 2 b2 0), (3, aI 0), (4, aI 9), (5, aI 0), (6, .ptr 6 b6 0), (7, aB true), (8, aI 0), (9, .ptr 9 b9 0), (10, aB true), (11, aI 0), (13, aIs [0, 1, 0, 0, 0, 0, 0, 0, 1]), (14, aI 0)] (by simp) (by simp [encC]) (vcN_of_rest rfl hv)
theorem awake37_d (hl : ps.length = 9) {b1 b2 b6 b9 : Nat}
    (hv : vcC ⟨Tryz.prog, none, 128⟩ (restC Tryz.f8 10) (hdE [(0, aB false), (1, .ptr 1 b1 0), (2, .ptr 2 b2 0), (3, aI 0), (13, aIs [0, 1, 0, 0, 0, 0, 0, 0, 1])] [])
      (awH c ps l b1 b2) (RetV Tryz.prog [.tmp 0] fun r' H' => (frz H' r').1 ∧ (frz H' r').2 = aB true)) :
    vcN ⟨Tryz.prog, none, 128⟩ 1 (restC Tryz.f8 9) (hdE [(0, aB false), (1, .ptr 1 b1 0), (2, .ptr 2 b2 0), (3, aI 0), (4, aI 9), (5, aI 0), (6, .ptr 6 b6 0), (7, aB true), (8, aI 0), (9, .ptr 9 b9 0), (10, aB true), (11, aI 0), (13, aIs [0, 1, 0, 0, 0, 0, 0, 0, 1]), (14, aI 0)] [])
      ((9, .box b9 [aI 4, aT [50]]) :: (6, .box b6 [aI 3, aT [52]]) :: awH c ps l b1 b2) (RetV Tryz.prog [.tmp 0] fun r' H' => (frz H' r').1 ∧ (frz H' r').2 = aB true) := by
  refine vcN_rest rfl ?_
  simp [encC, hl]
  exact V.cut [(0, aB false), (1, .ptr 1 b1 0), (2, .ptr 2 b2 0), (3, aI 0), (13, aIs [0, 1, 0, 0, 0, 0, 0, 0, 1])] (by simp) (by simp [encC]) (vc_of_rest rfl hv)
theorem awake37_e (hn : ps.map Made.name = nineN) {b1 b2 : Nat} (h7 : CallFn Tryz.prog 16 [aC c, aI 3] (.tuple [aIs [3, 5], aI 0])) (h8 : CallFn Tryz.prog 23 [aCirc (ps, l)] (aI 0))
    (e1 : CallFn Tryz.prog 18 [aIs [0, 1, 0, 0, 0, 0, 0, 0, 1], aIs [0, 1, 0, 0, 0, 0, 0, 0, 1]] (aB true)) (e2 : CallFn Tryz.prog 18 [aIs [3, 5], aIs [3, 5]] (aB true)) :
    vcC ⟨Tryz.prog, none, 128⟩ (restC Tryz.f8 10) (hdE [(0, aB false), (1, .ptr 1 b1 0), (2, .ptr 2 b2 0), (3, aI 0), (13, aIs [0, 1, 0, 0, 0, 0, 0, 0, 1])] [])
      (awH c ps l b1 b2) (RetV Tryz.prog [.tmp 0] fun r' H' => (frz H' r').1 ∧ (frz H' r').2 = aB true) := by
  have hN : nineN.length = 9 := rfl
  have hpl : ps.length = 9 := by rw [← hN, ← hn, List.length_map]
  refine vc_rest rfl ?_
  simp [encC]
  refine V.cutV [(0, aB false), (1, .ptr 1 b1 0), (2, .ptr 2 b2 0), (3, aI 0), (13, aIs [0, 1, 0, 0, 0, 0, 0, 0, 1]), (90, aTs nineN), (91, aI 9), (92, aI 0)] (Hs := awH c ps l b1 b2) (by simp [nineN, wk]) (by simp [encC]) ?_
  generalize nineN = N at *
  refine V.forI (σ := Unit) 9 [1, 2, 3, 13, 90, 91] (by simp; exact rfl) (fun i _ => [(0, aB false), (92, aI i)]) (fun _ _ => awH c ps l b1 b2) (fun _ _ => True) () trivial (by simp) ⟨by simp; exact rfl, by simp⟩ ?_ ?_
  · rintro i - hi -
    obtain ⟨p, hp⟩ : ∃ p, ps[i]? = some p := ⟨_, List.getElem?_eq_getElem (by omega)⟩
    obtain ⟨hil, hp1⟩ := List.getElem?_eq_some_iff.1 hp
    have hni : N[i]? = some p.name := by rw [← hn, List.getElem?_map, hp]; rfl
    obtain ⟨hnl, hn1⟩ := List.getElem?_eq_some_iff.1 hni
    simp [hi, hil, hp1, hp, hni, hnl, hn1]
    omega
  · rintro - -
    simp
    refine h7.s ?_
    simp
    refine GCall.fn (aB true) (fun _ => ⟨trivial, e1⟩) ?_
    simp
    refine GCall.fn (aB true) (fun _ => ⟨trivial, e2⟩) ?_
    simp
    refine GCall.fn (aI 0) (fun _ => ⟨trivial, h8⟩) ?_
    simp
end
theorem awake37_fn : CallFn Tryz.prog 8 [] (aB true) := by
  have h1 := Circuit_fn backC backC_ok
  rw [back_err] at h1
  have h2 := Count37_fn backC backC_ok
  rw [back_count] at h2
  have h3 := Port_fn backC 3 backC_ok (by simp)
  rw [back_p3] at h3
  have h4 := Port_fn backC 4 backC_ok (by simp)
  rw [back_p4] at h4
  have h5 := beginR_o backC backC_ok (fine_of backC_check)
  rw [back_first] at h5
  have h6 := Positions_fn backC startS backC_ok (by constructor <;> decide)
  rw [back_pos] at h6
  have h7 := Parts_fn backC 3 backC_ok (by simp)
  rw [back_parts] at h7
  have h8 := CircCheck_fn (circR_ok back_circ)
  have e1 := eqI_fn [0, 1, 0, 0, 0, 0, 0, 0, 1] [0, 1, 0, 0, 0, 0, 0, 0, 1] (by decide) (by decide)
  rw [decide_eq_true rfl] at e1
  have e2 := eqI_fn [3, 5] [3, 5] (by decide) (by decide)
  rw [decide_eq_true rfl] at e2
  have hn := back_names
  have hB := Back_fn
  generalize (circuitQ backC).1 = q at *
  obtain ⟨ps, l⟩ := q
  generalize backC = c at *
  have hpl : ps.length = 9 := by
    have := congrArg List.length hn
    simpa using this
  exact awake37_a hB h1 h2 fun b1 b2 => awake37_b h3 h4 fun b6 b9 => awake37_c h5 h6 (awake37_d hpl (awake37_e hn h7 h8 e1 e2))
end Go.Proofs.YtdnkpogfcpjkpaaGreatDoor
end

section
namespace Go.Proofs.YtdnkpogfcpjkpaaGreatDoor
set_option maxHeartbeats 4000000
set_option maxRecDepth 10000
theorem digit_at : ∀ n : Nat, n < 10 → List.drop n (48 :: List.take n ([49, 50, 51, 52, 53, 54, 55, 56, 57] : List UInt8)) = [48 + UInt8.ofNat n] := by decide
theorem number_fn : ∀ (N n : Nat), n < N → n ≤ 1000000 → CallFn Tryz.prog 77 [aI n] (aT (numT n))
  | 0, n, h, _ => absurd h (by omega)
  | N + 1, n, h, hn => by
    have hd := digit_at (n % 10) (by omega)
    have hnl := numT_len (n / 10)
    refine callFz_of Tryz.func77 rfl Tryz.ntmps77 (rs := [.tmp 2]) rfl (by kernel_rfl) (by simp) (by kernel_rfl) ?_
    by_cases h10 : n < 10
    · have h2 := digit_at n h10
      have e : numT n = [UInt8.ofNat (48 + n)] := by
        unfold numT
        rw [Go.Lib.decDigits, dif_pos h10]
      rw [e]
      simp
      exact ⟨fun _ => ⟨by omega, by omega, h2⟩, fun h => absurd h (by omega)⟩
    · have ih := number_fn N (n / 10) (by omega) (by omega)
      have e : numT n = numT (n / 10) ++ [UInt8.ofNat (48 + n % 10)] := by
        unfold numT
        rw [Go.Lib.decDigits, dif_neg h10]
      rw [e]
      have e1 : ((n : Int).tdiv 10) = ((n / 10 : Nat) : Int) := by rw [Int.tdiv_eq_ediv_of_nonneg (by omega)]; rfl
      have e2 : ((n : Int).tmod 10) = ((n % 10 : Nat) : Int) := by rw [Int.tmod_eq_emod_of_nonneg (by omega)]; rfl
      generalize numT (n / 10) = ds at *
      simp
      refine ⟨fun h => absurd h (by omega), fun _ => ?_⟩
      refine V.drawX (fun t => if t = 11 then some (.fn (aT ds)) else none) (by kernel_rfl) (by kernel_rfl) (by simp) ?_
      simp
      rw [e2]
      refine ⟨by omega, ih, by omega, by omega, by omega, ?_⟩
      rw [show (((n % 10 : Nat) : Int) + 1).toNat = n % 10 + 1 by omega, Int.toNat_natCast]
      exact hd
end Go.Proofs.YtdnkpogfcpjkpaaGreatDoor
end

section
namespace Go.Proofs.YtdnkpogfcpjkpaaGreatDoor
set_option maxHeartbeats 4000000
set_option maxRecDepth 10000
def encArg : Option Expr → List L
  | none => [.int .i64 0, .int .i64 0, .sl []]
  | some x => encE x
abbrev encGear (p : Made) : List L := [.int .i64 p.kind, .str p.name, .int .i64 p.delay, .int .i64 p.signal] ++ encArg p.arg
abbrev encLink (p : Pin × Pin) : List L := [.str p.1.part, .str p.1.port, .str p.2.part, .str p.2.port]
abbrev dA (d : Dr) (e : A) : A := .agg [.dat (.sl (d.gears.map encGear)), .dat (.sl (d.links.map encLink)), e, aI d.count]
def EndP (p : Pin) : Prop := p = noPin ∨ p.part ≠ []
theorem link_s (d : Dr) (a b : Pin) (h : Value) (ha : EndP a) (hb : EndP b) (hl : d.links.length ≤ 1000000) : CallS Tryz.prog 76 [dA d (.own 50 h), .record (encPin a), .record (encPin b)] [] fun r H' => r = dA (d.link a b) (.own 50 h) ∧ H' = [] := by
  obtain ⟨d1, d2, d3, d4⟩ := d
  obtain ⟨a1, a2⟩ := a
  obtain ⟨b1, b2⟩ := b
  refine CallS.dropP (callS_of Tryz.func76 rfl Tryz.ntmps76 (rs := [.cell 6 82]) rfl (by kernel_rfl) (by simp) (by kernel_rfl) (K := fun r H' => r = dA (Dr.link ⟨d1, d2, d3, d4⟩ ⟨a1, a2⟩ ⟨b1, b2⟩) (.own 50 h) ∧ subP [] H') ?_) (fun r H' ⟨e, h⟩ => ⟨_, h, e, rfl⟩)
  have ha2 : a1 ≠ [] → (⟨a1, a2⟩ : Pin) ≠ noPin := fun h e => h (by cases e; rfl)
  have hb2 : b1 ≠ [] → (⟨b1, b2⟩ : Pin) ≠ noPin := fun h e => h (by cases e; rfl)
  have ha3 : a1 = [] → (⟨a1, a2⟩ : Pin) = noPin := fun h => ha.resolve_right fun h2 => h2 h
  have hb3 : b1 = [] → (⟨b1, b2⟩ : Pin) = noPin := fun h => hb.resolve_right fun h2 => h2 h
  simp at hl
  simp
  intro b3 b6
  refine ⟨fun h1 h2 => ?_, ?_⟩
  · have e : joinD ⟨a1, a2⟩ ⟨b1, b2⟩ = [(⟨a1, a2⟩, ⟨b1, b2⟩)] := by
      unfold joinD
      rw [if_neg]
      rw [not_or]
      exact ⟨ha2 h1, hb2 h2⟩
    refine V.drawX (fun t => if t = 15 then some .bld else if t = 23 then some .frz else none) (by kernel_rfl) (by kernel_rfl) (by simp) ?_
    simp
    refine ⟨by omega, ⟨by omega, by simp [allD, isD]⟩, by kernel_rfl, ?_⟩
    simp only [Dr.link, e]
    refine ⟨⟨trivial, ?_, trivial⟩, ⟨[], List.nil_sublist _, List.Perm.refl _⟩⟩
    rw [List.map_append]
    congr 1
    unfold rowsD
    rw [List.map_map]
    refine List.map_congr_left fun q _ => ?_
    rfl
  · intro h1
    have e : joinD ⟨a1, a2⟩ ⟨b1, b2⟩ = [] := by
      unfold joinD
      rw [if_pos]
      by_cases h : a1 = []
      · exact .inl (ha3 h)
      · exact .inr (hb3 (h1 h))
    simp [Dr.link, e]
    exact ⟨[], List.nil_sublist _, List.Perm.refl _⟩
end Go.Proofs.YtdnkpogfcpjkpaaGreatDoor
end

section
namespace Go.Proofs.YtdnkpogfcpjkpaaGreatDoor
set_option maxHeartbeats 4000000
set_option maxRecDepth 10000
theorem rows_gear (ds : List Made) : rowsD (ds.map ((fun x => List.map A.dat x) ∘ encGear)) = ds.map encGear := by
  unfold rowsD
  rw [List.map_map]
  refine List.map_congr_left fun q _ => ?_
  simp only [Function.comp_apply, List.map_map]
  exact (List.map_congr_left fun x _ => rfl).trans (List.map_id _)
theorem gear_rl (ds : List Made) : rl (ds.map encGear) 7 := by
  unfold rl
  intro r hr
  obtain ⟨p, _, rfl⟩ := List.mem_map.1 hr
  obtain ⟨k, n, d, sg, a, v, l⟩ := p
  cases a with
  | none => rfl
  | some x => cases x; simp [encArg, encE]
theorem with_s (d : Dr) (kind : Int) (name : List UInt8) (delay sg : Int) (air : Bool) (h : Value) (hn : name ≠ []) (hl : d.links.length ≤ 1000000) (hg : d.gears.length ≤ 1000000) :
    CallS Tryz.prog 115 [dA d (.own 50 h), .record [.int .i64 kind, .str name, .int .i64 delay], aI sg, aB air] [] fun r H' => r = dA (d.put ⟨kind, name, delay, sg, none, -1, -1⟩ air) (.own 50 h) ∧ H' = [] := by
  have hk := link_s { d with gears := d.gears ++ [⟨kind, name, delay, sg, none, -1, -1⟩] } ⟨name, [49]⟩ supPin h (.inr hn) (.inr (by simp)) hl
  obtain ⟨d1, d2, d3, d4⟩ := d
  refine CallS.dropP (callS_of Tryz.func115 rfl Tryz.ntmps115 (rs := [.cell 8 82]) rfl (by kernel_rfl) (by simp) (by kernel_rfl) (K := fun r H' => r = dA (Dr.put ⟨d1, d2, d3, d4⟩ ⟨kind, name, delay, sg, none, -1, -1⟩ air) (.own 50 h) ∧ subP [] H') ?_) (fun r H' ⟨e, h⟩ => ⟨_, h, e, rfl⟩)
  simp at hl hg
  simp
  intro b4 b8
  refine V.drawX (fun t => if t = 9 then some .bld else if t = 17 then some .frz else none) (by kernel_rfl) (by kernel_rfl) (by simp) ?_
  simp
  intro u1 u2
  rw [rows_gear]
  refine ⟨⟨gear_rl _, by omega⟩, ⟨by omega, by simp [allD, isD]⟩, by kernel_rfl, fun ha => ?_, fun ha => ?_⟩
  · simp only [dA, List.map_append, List.map_cons, List.map_nil, encArg] at hk
    refine (hk.frame).mono ?_
    rintro r _ ⟨_, ⟨rfl, rfl⟩, rfl⟩
    simp [Dr.put, Dr.link, ha, encArg]
    exact ⟨[], List.nil_sublist _, List.Perm.refl _⟩
  · simp [Dr.put, ha, encArg]
    exact ⟨[], List.nil_sublist _, List.Perm.refl _⟩
end Go.Proofs.YtdnkpogfcpjkpaaGreatDoor
end

section
namespace Go.Proofs.YtdnkpogfcpjkpaaGreatDoor
set_option maxHeartbeats 4000000
set_option maxRecDepth 10000
def opLetter (kind : Int) : UInt8 := if kind = 5 then 78 else if kind = 8 then 81 else 80
theorem made_s (d : Dr) (kind sg : Int) (h : Value) (hc : d.count ≤ 1000000) (hl : d.links.length ≤ 1000000) (hg : d.gears.length ≤ 1000000) :
    CallS Tryz.prog 116 [dA d (.own 50 h), aI kind, aI sg] [] fun r H' => r = .tuple [dA ({ d with count := d.count + 1 }.put ⟨kind, opLetter kind :: numT d.count, 0, sg, none, -1, -1⟩ (kind == 5)) (.own 50 h), aT (opLetter kind :: numT d.count)] ∧ H' = [] := by
  have hn := number_fn (d.count + 1) d.count (by omega) hc
  have hw := with_s { d with count := d.count + 1 } kind (opLetter kind :: numT d.count) 0 sg (kind == 5) h (by simp) hl hg
  have hnl := numT_len d.count
  obtain ⟨d1, d2, d3, d4⟩ := d
  refine CallS.dropP (callS_of Tryz.func116 rfl Tryz.ntmps116 (rs := [.cell 6 82, .tmp 7]) rfl (by kernel_rfl) (by simp) (by kernel_rfl) (K := fun r H' => r = .tuple [dA ((⟨d1, d2, d3, d4 + 1⟩ : Dr).put ⟨kind, opLetter kind :: numT d4, 0, sg, none, -1, -1⟩ (kind == 5)) (.own 50 h), aT (opLetter kind :: numT d4)] ∧ subP [] H') ?_) (fun r H' ⟨e, h⟩ => ⟨_, h, e, rfl⟩)
  simp at hc hl hg hn hnl
  generalize numT d4 = ds at *
  simp
  intro b3 b6
  by_cases h8 : kind = 8
  · subst h8
    simp
    refine hn.s ?_
    simp [opLetter] at hw ⊢
    refine ⟨by omega, by omega, (hw.frame).mono ?_⟩
    rintro r _ ⟨_, ⟨rfl, rfl⟩, rfl⟩
    simp
    exact ⟨rfl, [], List.nil_sublist _, List.Perm.refl _⟩
  · by_cases h5 : kind = 5
    · subst h5
      simp
      refine hn.s ?_
      simp [opLetter] at hw ⊢
      refine ⟨by omega, by omega, (hw.frame).mono ?_⟩
      rintro r _ ⟨_, ⟨rfl, rfl⟩, rfl⟩
      simp
      exact ⟨rfl, [], List.nil_sublist _, List.Perm.refl _⟩
    · simp [h8, h5]
      refine hn.s ?_
      simp [opLetter, h8, h5] at hw ⊢
      refine ⟨by omega, by omega, (hw.frame).mono ?_⟩
      rintro r _ ⟨_, ⟨rfl, rfl⟩, rfl⟩
      simp
      exact ⟨by simp [opLetter, h8, h5], [], List.nil_sublist _, List.Perm.refl _⟩
end Go.Proofs.YtdnkpogfcpjkpaaGreatDoor
end

section
namespace Go.Proofs.YtdnkpogfcpjkpaaGreatDoor
set_option maxHeartbeats 4000000
set_option maxRecDepth 10000
abbrev dG (d : Dr) (g e : A) : A := .agg [g, .dat (.sl (d.links.map encLink)), e, aI d.count]
abbrev rGear (p : Made) : List A := (encGear p).map A.dat
theorem link_g (d : Dr) (τ : Nat) (g : Value) (a b : Pin) (h : Value) (ha : EndP a) (hb : EndP b) (hl : d.links.length ≤ 1000000) : CallS Tryz.prog 76 [dG d (.own τ g) (.own 50 h), .record (encPin a), .record (encPin b)] [] fun r H' => r = dG (d.link a b) (.own τ g) (.own 50 h) ∧ H' = [] := by
  obtain ⟨d1, d2, d3, d4⟩ := d
  obtain ⟨a1, a2⟩ := a
  obtain ⟨b1, b2⟩ := b
  refine CallS.dropP (callS_of Tryz.func76 rfl Tryz.ntmps76 (rs := [.cell 6 82]) rfl (by kernel_rfl) (by simp) (by kernel_rfl) (K := fun r H' => r = dG (Dr.link ⟨d1, d2, d3, d4⟩ ⟨a1, a2⟩ ⟨b1, b2⟩) (.own τ g) (.own 50 h) ∧ subP [] H') ?_) (fun r H' ⟨e, h⟩ => ⟨_, h, e, rfl⟩)
  have ha2 : a1 ≠ [] → (⟨a1, a2⟩ : Pin) ≠ noPin := fun h e => h (by cases e; rfl)
  have hb2 : b1 ≠ [] → (⟨b1, b2⟩ : Pin) ≠ noPin := fun h e => h (by cases e; rfl)
  have ha3 : a1 = [] → (⟨a1, a2⟩ : Pin) = noPin := fun h => ha.resolve_right fun h2 => h2 h
  have hb3 : b1 = [] → (⟨b1, b2⟩ : Pin) = noPin := fun h => hb.resolve_right fun h2 => h2 h
  simp at hl
  simp
  intro b3 b6
  refine ⟨fun h1 h2 => ?_, ?_⟩
  · have e : joinD ⟨a1, a2⟩ ⟨b1, b2⟩ = [(⟨a1, a2⟩, ⟨b1, b2⟩)] := by
      unfold joinD
      rw [if_neg]
      rw [not_or]
      exact ⟨ha2 h1, hb2 h2⟩
    refine V.drawX (fun t => if t = 15 then some .bld else if t = 23 then some .frz else none) (by kernel_rfl) (by kernel_rfl) (by simp) ?_
    simp
    refine ⟨by omega, ⟨by omega, by simp [allD, isD]⟩, by kernel_rfl, ?_⟩
    simp only [Dr.link, e]
    refine ⟨⟨?_, trivial⟩, ⟨[], List.nil_sublist _, List.Perm.refl _⟩⟩
    rw [List.map_append]
    congr 1
    unfold rowsD
    rw [List.map_map]
    refine List.map_congr_left fun q _ => ?_
    rfl
  · intro h1
    have e : joinD ⟨a1, a2⟩ ⟨b1, b2⟩ = [] := by
      unfold joinD
      rw [if_pos]
      by_cases h : a1 = []
      · exact .inl (ha3 h)
      · exact .inr (hb3 (h1 h))
    simp [Dr.link, e]
    exact ⟨[], List.nil_sublist _, List.Perm.refl _⟩
theorem with_g (d : Dr) (kind : Int) (name : List UInt8) (delay sg : Int) (air : Bool) (h : Value) (hn : name ≠ []) (hl : d.links.length ≤ 1000000) (hg : d.gears.length ≤ 1000000) :
    CallS Tryz.prog 115 [dA d (.own 50 h), .record [.int .i64 kind, .str name, .int .i64 delay], aI sg, aB air] [] fun r H' => ∃ g, r = dG (d.put ⟨kind, name, delay, sg, none, -1, -1⟩ air) (.own 9 g) (.own 50 h) ∧ H' = [(9, .seq g 109 7 ((d.put ⟨kind, name, delay, sg, none, -1, -1⟩ air).gears.map rGear))] := by
  have hk := fun g => link_g { d with gears := d.gears ++ [⟨kind, name, delay, sg, none, -1, -1⟩] } 9 g ⟨name, [49]⟩ supPin h (.inr hn) (.inr (by simp)) hl
  obtain ⟨d1, d2, d3, d4⟩ := d
  refine CallS.dropP (callS_of Tryz.func115 rfl Tryz.ntmps115 (rs := [.cell 8 82]) rfl (by kernel_rfl) (by simp) (by kernel_rfl) (K := fun r H' => ∃ g, r = dG (Dr.put ⟨d1, d2, d3, d4⟩ ⟨kind, name, delay, sg, none, -1, -1⟩ air) (.own 9 g) (.own 50 h) ∧ subP [(9, .seq g 109 7 ((Dr.put ⟨d1, d2, d3, d4⟩ ⟨kind, name, delay, sg, none, -1, -1⟩ air).gears.map rGear))] H') ?_) (fun r H' ⟨g, e, h⟩ => ⟨_, h, g, e, rfl⟩)
  simp at hl hg
  simp
  intro b4 b8
  refine V.drawX (fun t => if t = 9 then some .bld else none) (by kernel_rfl) (by kernel_rfl) (by simp) ?_
  simp
  intro u1 u2
  refine ⟨⟨gear_rl _, by omega⟩, fun g => ⟨by omega, by kernel_rfl, fun ha => ?_, fun ha => ?_⟩⟩
  · have hk := hk g
    simp only [dG] at hk
    refine (hk.frame).mono ?_
    rintro r _ ⟨_, ⟨rfl, rfl⟩, rfl⟩
    simp [Dr.put, Dr.link, ha, encArg]
    exact subP.cc (subP.c (subP.c (subP.refl _) _) _) _
  · simp [Dr.put, ha, encArg]
    exact subP.cc (subP.c (subP.c (subP.refl _) _) _) _
theorem made_g (d : Dr) (sg : Int) (h : Value) (hc : d.count ≤ 1000000) (hl : d.links.length ≤ 1000000) (hg : d.gears.length ≤ 1000000) :
    CallS Tryz.prog 116 [dA d (.own 50 h), aI 5, aI sg] [] fun r H' => ∃ g, r = .tuple [dG ({ d with count := d.count + 1 }.put ⟨5, 78 :: numT d.count, 0, sg, none, -1, -1⟩ true) (.own 9 g) (.own 50 h), aT (78 :: numT d.count)] ∧
      H' = [(9, .seq g 109 7 (({ d with count := d.count + 1 }.put ⟨5, 78 :: numT d.count, 0, sg, none, -1, -1⟩ true).gears.map rGear))] := by
  have hn := number_fn (d.count + 1) d.count (by omega) hc
  have hw := with_g { d with count := d.count + 1 } 5 (78 :: numT d.count) 0 sg true h (by simp) hl hg
  have hnl := numT_len d.count
  obtain ⟨d1, d2, d3, d4⟩ := d
  refine CallS.dropP (callS_of Tryz.func116 rfl Tryz.ntmps116 (rs := [.cell 6 82, .tmp 7]) rfl (by kernel_rfl) (by simp) (by kernel_rfl) (K := fun r H' => ∃ g, r = .tuple [dG ((⟨d1, d2, d3, d4 + 1⟩ : Dr).put ⟨5, 78 :: numT d4, 0, sg, none, -1, -1⟩ true) (.own 9 g) (.own 50 h), aT (78 :: numT d4)] ∧
      subP [(9, .seq g 109 7 (((⟨d1, d2, d3, d4 + 1⟩ : Dr).put ⟨5, 78 :: numT d4, 0, sg, none, -1, -1⟩ true).gears.map rGear))] H') ?_) (fun r H' ⟨g, e, h⟩ => ⟨_, h, g, e, rfl⟩)
  simp at hc hl hg hn hnl
  generalize numT d4 = ds at *
  simp
  intro b3 b6
  refine hn.s ?_
  simp at hw ⊢
  refine ⟨by omega, by omega, (hw.frame).mono ?_⟩
  rintro r _ ⟨_, ⟨g, rfl, rfl⟩, rfl⟩
  simp
  exact subP.cc (subP.c (subP.c (subP.refl _) _) _) _
end Go.Proofs.YtdnkpogfcpjkpaaGreatDoor
end

section
namespace Go.Proofs.YtdnkpogfcpjkpaaGreatDoor
set_option maxHeartbeats 4000000
set_option maxRecDepth 10000
abbrev drC (d : Dr) (h : Value) : List A := [.dat (.sl (d.gears.map encGear)), .dat (.sl (d.links.map encLink)), .own 50 h, aI d.count]
abbrev drB (m b : Nat) (d : Dr) (h : Value) : Nat × Ent := (m, .box b (drC d h))
abbrev endE (h : Value) (d : Dr) : Nat × Ent := (50, .seq h 102 2 (d.ends.map rPin))
abbrev noDr : List A := [.nils, .nils, .nils, aI 0]
abbrev noEnd : List A := [.dat (.str []), .dat (.str [])]
def pfE (l : List Pin) : Int → Pin := fun i => l.getD i.toNat noPin
abbrev Dr.pf (d : Dr) : Int → Pin := pfE d.ends
theorem Dr.expr_pf (d : Dr) (x : Expr) (sg : Int) : d.expr x sg = exprD true d.pf sg x d.count := rfl
def Dr.argsR (d : Dr) (sg : Int) (xs : List Expr) : Dr := { d with gears := d.gears ++ (argsD true d.pf sg xs d.count).parts, links := d.links ++ (argsD true d.pf sg xs d.count).joins, count := (argsD true d.pf sg xs d.count).num }
def Dr.pinsR (d : Dr) (sg : Int) (xs : List Expr) : List Pin := (argsD true d.pf sg xs d.count).pins
theorem argsR_step {d : Dr} {sg : Int} {xs : List Expr} {i : Nat} {y : Expr} (h : xs[i]? = some y) : (d.argsR sg (xs.take i)).app ((d.argsR sg (xs.take i)).expr y sg) = d.argsR sg (xs.take (i + 1)) ∧
    d.pinsR sg (xs.take (i + 1)) = d.pinsR sg (xs.take i) ++ [((d.argsR sg (xs.take i)).expr y sg).pin] := by
  unfold Dr.argsR Dr.pinsR Dr.app
  simp only [Dr.expr_pf]
  rw [args_take h]
  exact ⟨by simp only [List.append_assoc], rfl⟩
@[simp] theorem argsR_nil (d : Dr) (sg : Int) : d.argsR sg [] = d := by simp [Dr.argsR, argsD]
@[simp] theorem pinsR_nil (d : Dr) (sg : Int) : d.pinsR sg [] = [] := rfl
abbrev Passes (x : Expr) : Prop := ∀ (d : Dr) (sg : Int) (h : Value), RightE d.ends.length x → (∀ p ∈ d.ends, EndP p) → d.gears.length + sizeN x ≤ 500000 → d.links.length + 3 * sizeN x ≤ 800000 → d.count + sizeN x ≤ 500000 →
  CallS Tryz.prog 75 [dA d (.own 50 h), aE x, aI sg] [endE h d] fun r H' => r = .tuple [dA (d.app (d.expr x sg)) (.own 50 h), .record (encPin (d.expr x sg).pin)] ∧ H' = [endE h d]
section
variable {x : Expr} {d : Dr} {sg : Int} {h : Value} {b3 b6 b7 : Nat}
abbrev PassK (x : Expr) (d : Dr) (sg : Int) (h : Value) (r : A) (H' : Heap) : Prop := ∃ H2, ((frz H2 r).1 ∧ (frz H2 r).2 = .tuple [dA (d.app (d.expr x sg)) (.own 50 h), .record (encPin (d.expr x sg).pin)]) ∧ subP (H2 ++ [endE h d]) H'
abbrev passH (x : Expr) (d : Dr) (sg : Int) (h : Value) (b3 b6 b7 : Nat) (g : Value) : Heap := [(8, .seq g 102 2 ((d.pinsR sg x.args).map rPin)), drB 3 b3 (d.argsR sg x.args) h, (7, .box b7 noEnd), (6, .box b6 noDr), endE h d]
theorem pass_not {g : Value} {y : Expr} (hx : x.op = 2) (hy : x.args = [y]) (he : EndP (d.expr y sg).pin) (h1 : (d.argsR sg x.args).gears.length ≤ 800000) (h2 : (d.argsR sg x.args).links.length ≤ 800000) (h3 : (d.argsR sg x.args).count ≤ 800000) :
    vcN ⟨Tryz.prog, none, 127⟩ 1 (restC Tryz.f75 5) (hdE [(2, aI sg), (3, .ptr 3 b3 0), (4, .rptr (encE x)), (6, .ptr 6 b6 0), (7, .ptr 7 b7 0), (8, .own 8 g)] []) (passH x d sg h b3 b6 b7 g)
      (RetV Tryz.prog [.cell 6 82, .cell 7 102] (PassK x d sg h)) := by
  obtain ⟨m1, hm1⟩ : ∃ m1, d.argsR sg x.args = m1 := ⟨_, rfl⟩
  have hpn : d.pinsR sg x.args = [(d.expr y sg).pin] := by rw [hy]; rfl
  rw [passH, hm1, hpn]
  rw [hm1] at h1 h2 h3
  have hfin : d.app (d.expr x sg) = ({ m1 with count := m1.count + 1 }.put ⟨5, 78 :: numT m1.count, 0, sg, some y, -1, -1⟩ true).link (d.expr y sg).pin ⟨78 :: numT m1.count, [49, 48]⟩ ∧ (d.expr x sg).pin = ⟨78 :: numT m1.count, [50]⟩ := by
    rw [← hm1, hy]
    unfold Dr.app Dr.argsR Dr.put Dr.link
    simp only [Dr.expr_pf]
    rw [exprD_eq true d.pf sg x, if_neg (by omega), if_neg (by omega), if_pos hx, hy]
    simp [notsD, notD, argsD, airD]
  refine vcN_rest rfl ?_
  have hmd := made_g m1 sg h (by omega) (by omega) (by omega)
  obtain ⟨nm, hnm⟩ : ∃ nm, 78 :: numT m1.count = nm := ⟨_, rfl⟩
  have hnm0 : nm ≠ [] := by rw [← hnm]; simp
  rw [hnm] at hmd hfin
  obtain ⟨m2, hm2⟩ : ∃ m2, ({ m1 with count := m1.count + 1 } : Dr).put ⟨5, nm, 0, sg, none, -1, -1⟩ true = m2 := ⟨_, rfl⟩
  have k1 : m2.gears = m1.gears ++ [⟨5, nm, 0, sg, none, -1, -1⟩] := by rw [← hm2]; rfl
  have k2 : m2.links.length ≤ 900000 := by
    have := joinD_len ⟨nm, [49]⟩ supPin
    rw [← hm2]
    simp only [Dr.put, List.length_append, if_true]
    omega
  have k4 : (({ m1 with count := m1.count + 1 } : Dr).put ⟨5, nm, 0, sg, some y, -1, -1⟩ true) = { m2 with gears := m1.gears ++ [⟨5, nm, 0, sg, some y, -1, -1⟩] } := by rw [← hm2]; rfl
  rw [k4] at hfin
  rw [hm2, k1] at hmd
  have hlk := fun g => link_g m2 9 g (d.expr y sg).pin ⟨nm, [49, 48]⟩ h he (.inr hnm0) (by omega)
  generalize (d.expr y sg).pin = p at *
  simp [encE_eq x, hx, hy, encE_eq y]
  refine (hmd.frame).mono ?_
  rintro r _ ⟨_, ⟨g2, rfl, rfl⟩, rfl⟩
  simp
  intro b12
  have g1 : ((m1.gears.length : Int) + 1).toNat - 1 = m1.gears.length := by omega
  refine V.drawX (fun _ => none) (by kernel_rfl) (by kernel_rfl) (by simp) ?_
  simp [g1, encE_eq x, hx, hy, encE_eq y, encArg]
  refine ⟨by omega, by omega, by kernel_rfl, ?_⟩
  refine V.drawX (fun t => if t = 89 then some (.fn (dG (m2.link p ⟨nm, [49, 48]⟩) (.own 9 g2) (.own 50 h))) else none) (by kernel_rfl) (by kernel_rfl) (by simp) ?_
  have hlk := hlk g2
  simp
  refine ⟨hlk, [(9, .seq g2 109 7 ((m1.gears ++ [(⟨5, nm, 0, sg, some y, -1, -1⟩ : Made)]).map rGear))], ?_, ?_⟩
  rotate_left
  · simp [encArg, encE_eq y]
    exact subP.c (subP.cc (subP.c (subP.c (subP.c (subP.c (subP.refl _) _) _) _) _) _) _
  rw [hfin.1, hfin.2]
  simp [hget, allD, isD, Dr.link, encArg, encE_eq y]
  exact rows_gear _
theorem twin_endP {sg kind : Int} {letter : UInt8} : ∀ (ps : List Pin) {q : Dl}, EndP q.pin → EndP (ps.foldl (twinD sg kind letter) q).pin
  | [], _, h => h
  | p :: ps, q, _ => twin_endP ps (.inr (by simp [twinD]))
mutual
theorem expr_endP (fl : Bool) {pf : Int → Pin} (sg : Int) (hp : ∀ i, EndP (pf i)) : ∀ (x : Expr) (k : Nat), EndP (exprD fl pf sg x k).pin
  | ⟨op, ix, args⟩, k => by
    have h := args_endP fl sg hp args k
    rw [exprD_eq]
    dsimp only
    split
    · split
      · exact .inr (by simp)
      · exact .inl rfl
    · split
      · exact hp ix
      · generalize argsD fl pf sg args k = r at *
        split
        · unfold notsD
          cases args.head? with
          | none => exact .inl rfl
          | some y => exact .inr (by simp [notD])
        · unfold foldD
          obtain ⟨r1, r2, r3, r4⟩ := r
          dsimp only
          cases r4 with
          | nil => exact .inl rfl
          | cons p ps => exact twin_endP ps (h p (by simp))
theorem args_endP (fl : Bool) {pf : Int → Pin} (sg : Int) (hp : ∀ i, EndP (pf i)) : ∀ (xs : List Expr) (k : Nat), ∀ p ∈ (argsD fl pf sg xs k).pins, EndP p
  | [], k => by simp [argsD]
  | x :: xs, k => by
    rw [argsD]
    intro p hm
    rcases List.mem_cons.1 hm with rfl | hm
    · exact expr_endP fl sg hp x k
    · exact args_endP fl sg hp xs _ p hm
end
theorem pfE_end {l : List Pin} (h : ∀ p ∈ l, EndP p) (i : Int) : EndP (pfE l i) := by
  unfold pfE
  rw [List.getD_eq_getElem?_getD]
  cases hq : l[i.toNat]? with
  | none => exact .inl rfl
  | some p => exact h p (List.mem_of_getElem? hq)
abbrev opsK (sg : Int) (kind : Int) (b3 b6 b7 b15 : Nat) (g : Value) : List (Nat × A) := [(2, aI sg), (3, .ptr 3 b3 0), (6, .ptr 6 b6 0), (7, .ptr 7 b7 0), (8, .own 8 g), (14, aI kind), (15, .ptr 15 b15 0)]
theorem pass_row {Q : PostQ} {g : Value} {m : Dr} {q : Dl} {p0 : Pin} {ps : List Pin} {i : Nat} {kind : Int} {letter : UInt8} {b15 : Nat} {p : Pin} (hkl : kind = 9 ∧ letter = 80 ∨ kind = 8 ∧ letter = 81) (hi : ps[i]? = some p) (hq : EndP q.pin) (hp : EndP p) (hps : ps.length ≤ 1000)
    (h1 : (m.app q).gears.length ≤ 900000) (h2 : (m.app q).links.length ≤ 900000) (h3 : (m.app q).count ≤ 900000) :
    vcC ⟨Tryz.prog, none, 127⟩ (loopC Tryz.f75 1) (hdE (opsK sg kind b3 b6 b7 b15 g) [(16, aI (i + 1 : Nat))]) (hcat [drB 3 b3 (m.app q) h, (15, .box b15 [.dat (.str q.pin.part), .dat (.str q.pin.port)])] [(8, .seq g 102 2 ((p0 :: ps).map rPin)), (7, .box b7 noEnd), (6, .box b6 noDr), endE h d])
      (LoopQ Q fun E' H' => ∃ _ : Unit, True ∧ (∀ z ∈ [(16, aI (i + 1 + 1 : Nat))], wk (E' z.1) z.2) ∧ (∀ z ∈ opsK sg kind b3 b6 b7 b15 g, E' z.1 = z.2) ∧
        subN (hcat [drB 3 b3 (m.app (twinD sg kind letter q p)) h, (15, .box b15 [.dat (.str (twinD sg kind letter q p).pin.part), .dat (.str (twinD sg kind letter q p).pin.port)])] [(8, .seq g 102 2 ((p0 :: ps).map rPin)), (7, .box b7 noEnd), (6, .box b6 noDr), endE h d]) H') := by
  obtain ⟨hil, hi1⟩ := List.getElem?_eq_some_iff.1 hi
  obtain ⟨nm, hnm⟩ : ∃ nm, letter :: numT (m.app q).count = nm := ⟨_, rfl⟩
  have hnm0 : nm ≠ [] := by rw [← hnm]; simp
  have hmd := made_s (m.app q) kind sg h (by omega) (by omega) (by omega)
  have hol : opLetter kind = letter ∧ (kind == 5) = false := by
    rcases hkl with ⟨rfl, rfl⟩ | ⟨rfl, rfl⟩ <;> exact ⟨rfl, rfl⟩
  rw [hol.1, hol.2, hnm] at hmd
  obtain ⟨m2, hm2⟩ : ∃ m2, ({ m.app q with count := (m.app q).count + 1 } : Dr).put ⟨kind, nm, 0, sg, none, -1, -1⟩ false = m2 := ⟨_, rfl⟩
  rw [hm2] at hmd
  have k2 : m2.links.length ≤ 900000 := by rw [← hm2]; simpa [Dr.put] using h2
  have hfin : m.app (twinD sg kind letter q p) = (m2.link q.pin ⟨nm, [49]⟩).link p ⟨nm, [49, 49]⟩ ∧ (twinD sg kind letter q p).pin = ⟨nm, [50]⟩ := by
    rw [← hm2]
    have hnq : letter :: numT q.num = nm := hnm
    simp [twinD, Dr.app, Dr.link, Dr.put, hnq]
  rw [hfin.1, hfin.2]
  have hl1 := link_s m2 q.pin ⟨nm, [49]⟩ h hq (.inr hnm0) (by omega)
  have hl2 := link_s (m2.link q.pin ⟨nm, [49]⟩) p ⟨nm, [49, 49]⟩ h hp (.inr hnm0) (by
    have := joinD_len q.pin ⟨nm, [49]⟩
    simp only [Dr.link, List.length_append]
    omega)
  generalize m.app q = m1 at *
  generalize q.pin = qp at *
  refine vc_part rfl ?_
  simp [hil, hi1, hi]
  refine (hmd.frame).mono ?_
  rintro r _ ⟨_, ⟨rfl, rfl⟩, rfl⟩
  simp
  intro b17
  refine V.drawX (fun t => if t = 115 then some (.fn (dA (m2.link qp ⟨nm, [49]⟩) (.own 50 h))) else if t = 122 then some (.fn (dA ((m2.link qp ⟨nm, [49]⟩).link p ⟨nm, [49, 49]⟩) (.own 50 h))) else none) (by kernel_rfl) (by kernel_rfl) (by simp) ?_
  simp [hil, hi1, hi]
  exact ⟨hl1, by omega, hl2, by omega, by omega⟩
theorem pass_ops {g : Value} {r : Ds'} {p0 : Pin} {ps : List Pin} {kind : Int} {letter : UInt8} (hx : x.op = 3 ∨ x.op = 4) (hkl : kind = (if x.op = 3 then 9 else 8) ∧ letter = (if x.op = 3 then 80 else 81))
    (hr : argsD true d.pf sg x.args d.count = r) (hpp : r.pins = p0 :: ps) (hep : ∀ p ∈ r.pins, EndP p) (hps : ps.length ≤ 1000) (hsm : Small d.count (sizeNL x.args - x.args.length) r.parts r.joins r.num) (hpl : ps.length + 1 = x.args.length)
    (h1 : d.gears.length + sizeN x ≤ 500000) (h2 : d.links.length + 3 * sizeN x ≤ 800000) (h3 : d.count + sizeN x ≤ 500000) :
    vcC ⟨Tryz.prog, none, 127⟩ (restC Tryz.f75 6) (hdE [(2, aI sg), (3, .ptr 3 b3 0), (4, .rptr (encE x)), (6, .ptr 6 b6 0), (7, .ptr 7 b7 0), (8, .own 8 g)] []) (passH x d sg h b3 b6 b7 g)
      (RetV Tryz.prog [.cell 6 82, .cell 7 102] (PassK x d sg h)) := by
  have hsx := sizeN_eq x
  have hxa := sizeNL_len x.args
  have hpn : d.pinsR sg x.args = p0 :: ps := by unfold Dr.pinsR; rw [hr, hpp]
  have hm0 : d.argsR sg x.args = d.app (twinL sg kind letter r p0 ps 0) := by
    unfold Dr.argsR Dr.app twinL
    rw [hr]
    rfl
  have hfin : d.expr x sg = twinL sg kind letter r p0 ps ps.length := by
    rw [Dr.expr_pf, exprD_eq, if_neg (by omega), if_neg (by omega), if_neg (by omega), hr, foldD_cons hpp, hkl.1, hkl.2]
  have hkl2 : kind = 9 ∧ letter = 80 ∨ kind = 8 ∧ letter = 81 := by
    rcases hx with hx | hx
    · rw [if_pos hx, if_pos hx] at hkl
      exact .inl hkl
    · rw [if_neg (by omega), if_neg (by omega)] at hkl
      exact .inr hkl
  rw [passH, hm0, hpn]
  have ht0 : (twinL sg kind letter r p0 ps 0).pin = p0 := rfl
  have hstep : ∀ i p, ps[i]? = some p → twinL sg kind letter r p0 ps (i + 1) = twinD sg kind letter (twinL sg kind letter r p0 ps i) p := fun i p h => twinL_step h
  have hpin : ∀ i, EndP (twinL sg kind letter r p0 ps i).pin := fun i => twin_endP _ (hep p0 (by rw [hpp]; simp))
  have hlen : ∀ i, i ≤ ps.length → (d.app (twinL sg kind letter r p0 ps i)).gears.length ≤ 900000 ∧ (d.app (twinL sg kind letter r p0 ps i)).links.length ≤ 900000 ∧ (d.app (twinL sg kind letter r p0 ps i)).count ≤ 900000 := by
    intro i hi
    have hs := twin_small (sg := sg) (kind := kind) (letter := letter) (k := d.count) (n := sizeNL x.args - x.args.length) (ps.take i) (d := ⟨r.parts, r.joins, r.num, p0⟩) hsm
    obtain ⟨v1, v2, v3⟩ := hs
    rw [List.length_take] at v2
    simp only [Dr.app, List.length_append, twinL]
    omega
  generalize hT : (fun i => twinL sg kind letter r p0 ps i) = T at *
  have hTi : ∀ i, twinL sg kind letter r p0 ps i = T i := fun i => by rw [← hT]
  simp only [hTi] at *
  refine vc_rest rfl ?_
  rcases hx with hx | hx
  all_goals
    rw [hx] at hkl
    obtain ⟨rfl, rfl⟩ := hkl
    simp [encE_eq x, hx]
    intro b15
    refine V.forI (σ := Unit) (kv := opsK sg _ b3 b6 b7 b15 g) ps.length [2, 3, 6, 7, 8, 14, 15] (by simp; exact rfl) (fun i _ => [(16, aI (i + 1 : Nat))]) (fun i _ => [drB 3 b3 (d.app (T i)) h, (15, .box b15 [.dat (.str (T i).pin.part), .dat (.str (T i).pin.port)])]) (fun _ _ => True) () trivial (by simp) ⟨by simp; exact rfl, by simp [ht0]⟩ ?_ ?_
    · rintro i - hi -
      have hqo : ps[i]? = some ps[i] := List.getElem?_eq_getElem hi
      have hl := hlen i (by omega)
      rw [hstep i _ hqo]
      exact vc_of_part rfl (pass_row (p0 := p0) hkl2 hqo (hpin i) (hep _ (by rw [hpp]; exact List.mem_cons_of_mem _ (List.getElem_mem hi))) hps hl.1 hl.2.1 hl.2.2)
    · rintro - -
      simp
      refine V.drawX (fun _ => none) (by kernel_rfl) (by kernel_rfl) (by simp) ?_
      simp
      refine ⟨[], ?_, ?_⟩
      · rw [hfin]
        simp
      · exact subP.c (subP.c (subP.c (subP.c (subP.c (subP.refl _) _) _) _) _) _
theorem pass_b2 {g : Value} (hx : x.op ≠ 2) (h6 : vcC ⟨Tryz.prog, none, 127⟩ (restC Tryz.f75 6) (hdE [(2, aI sg), (3, .ptr 3 b3 0), (4, .rptr (encE x)), (6, .ptr 6 b6 0), (7, .ptr 7 b7 0), (8, .own 8 g)] []) (passH x d sg h b3 b6 b7 g)
      (RetV Tryz.prog [.cell 6 82, .cell 7 102] (PassK x d sg h))) :
    vcN ⟨Tryz.prog, none, 127⟩ 1 (restC Tryz.f75 5) (hdE [(2, aI sg), (3, .ptr 3 b3 0), (4, .rptr (encE x)), (6, .ptr 6 b6 0), (7, .ptr 7 b7 0), (8, .own 8 g)] []) (passH x d sg h b3 b6 b7 g)
      (RetV Tryz.prog [.cell 6 82, .cell 7 102] (PassK x d sg h)) := by
  refine vcN_rest rfl ?_
  simp [encE_eq x, hx]
  exact V.cut [(2, aI sg), (3, .ptr 3 b3 0), (4, .rptr (encE x)), (6, .ptr 6 b6 0), (7, .ptr 7 b7 0), (8, .own 8 g)] (Hs := passH x d sg h b3 b6 b7 g) (by simp [encE_eq x]) (by simp) (vc_of_rest rfl h6)
end
theorem pass_1 {x : Expr} (ih : ∀ y ∈ x.args, Passes y) : Passes x := by
  intro d sg h hr he h1 h2 h3
  have hnd := hr.node
  have hop := node_op hnd
  have hsx := sizeN_eq x
  have hxa := sizeNL_len x.args
  refine CallS.frzPart (K := fun r H2 => (frz H2 r).1 ∧ (frz H2 r).2 = .tuple [dA (d.app (d.expr x sg)) (.own 50 h), .record (encPin (d.expr x sg).pin)]) ?_ (fun r H' k => k)
  refine CallS.dropP (callS_cut 5 Tryz.func75 rfl Tryz.ntmps75 (rs := [.cell 6 82, .cell 7 102]) rfl (by kernel_rfl) (by simp) (by kernel_rfl) (K := fun r H' => ∃ H2, ((frz H2 r).1 ∧ (frz H2 r).2 = .tuple [dA (d.app (d.expr x sg)) (.own 50 h), .record (encPin (d.expr x sg).pin)]) ∧ subP (H2 ++ [endE h d]) H') ?_) (fun r H' ⟨H2, e, h⟩ => ⟨_, h, H2, e, rfl⟩)
  by_cases o1 : x.op = 1
  · have hix := hop.2.2.2.1 o1
    have e : d.expr x sg = ⟨[], [], d.count, d.ends.getD x.index.toNat noPin⟩ := by rw [Dr.expr_pf, exprD_eq, if_neg (by omega), if_pos o1]; rfl
    have hil : x.index.toNat < d.ends.length := by omega
    obtain ⟨p, hp1⟩ : ∃ p, d.ends[x.index.toNat] = p := ⟨_, rfl⟩
    have hpo : d.ends[x.index.toNat]? = some p := by rw [List.getElem?_eq_getElem hil, hp1]
    have e2 : d.expr x sg = ⟨[], [], d.count, p⟩ := by rw [e, List.getD_eq_getElem?_getD, hpo]; rfl
    rw [e2]
    simp [encE_eq x, o1]
    intro b3 b6 b7
    refine V.drawX (fun _ => none) (by kernel_rfl) (by kernel_rfl) (by simp) ?_
    simp [hil, hp1, hpo]
    refine ⟨by omega, [], ?_, subP.c (subP.c (subP.c (subP.refl _) _) _) _⟩
    simp [hget, Dr.app]
  · by_cases o0 : x.op = 0
    · have e : d.expr x sg = ⟨[], [], d.count, if x.index = 1 then supPin else noPin⟩ := by rw [Dr.expr_pf, exprD_eq, if_pos o0]
      rw [e]
      simp [encE_eq x, o0]
      intro b3 b6 b7
      refine ⟨fun hi => ⟨[], ?_, subP.c (subP.c (subP.c (subP.refl _) _) _) _⟩, fun hi => ⟨[], ?_, subP.c (subP.c (subP.c (subP.refl _) _) _) _⟩⟩
      · simp [hget, Dr.app, hi]
      · simp [hget, Dr.app, hi]
    · have hlA : x.args.length ≤ 256 := by
        by_cases o2 : x.op = 2
        · obtain ⟨y, hy⟩ := hop.2.2.2.2 o2
          simp [hy]
        · exact (node_two hnd (by omega)).2
      have hrlE := rl_map (f := encE) (n := 3) (fun x => by rw [encE_eq]; rfl) x.args
      simp [encE_eq x, o0, o1]
      intro b3 b6 b7
      refine V.forI (σ := Value) x.args.length [2, 3, 4, 6, 7] (by simp; exact rfl) (fun i g => [(8, .own 8 g), (9, aI i)]) (fun i g => [(8, .seq g 102 2 ((d.pinsR sg (x.args.take i)).map rPin)), drB 3 b3 (d.argsR sg (x.args.take i)) h]) (fun _ _ => True) (.slice none 0 0) trivial (by simp) ⟨by simp; exact rfl, by simp⟩ ?_ ?_
      · rintro i g hi -
        obtain ⟨y, hy1⟩ : ∃ y, x.args[i] = y := ⟨_, rfl⟩
        have hyo : x.args[i]? = some y := by rw [List.getElem?_eq_getElem hi, hy1]
        have hsm := sizeNL_more hyo
        obtain ⟨u1, u2, u3⟩ := args_small true d.pf sg (x.args.take i) d.count
        obtain ⟨w1, w2⟩ := argsR_step (d := d) (sg := sg) hyo
        have hpn : (d.pinsR sg (x.args.take i)).length = i := by
          unfold Dr.pinsR
          rw [argsD_len, List.length_take]
          omega
        have hih := ih y (List.mem_of_getElem? hyo) (d.argsR sg (x.args.take i)) sg h (hr.args y (List.mem_of_getElem? hyo)) he (by simp only [Dr.argsR, List.length_append]; omega) (by simp only [Dr.argsR, List.length_append]; omega) (by simp only [Dr.argsR]; omega)
        rw [w1] at hih
        rw [w2]
        have hen : endE h (d.argsR sg (x.args.take i)) = endE h d := rfl
        rw [hen] at hih
        generalize d.argsR sg (x.args.take i) = m1 at *
        generalize d.argsR sg (x.args.take (i + 1)) = m2 at *
        generalize d.pinsR sg (x.args.take i) = pn at *
        generalize m1.expr y sg = q at *
        simp [hi, hy1, hyo, encE_eq y, hrlE]
        refine V.drawX (fun t => if t = 54 then some (.ro (.tuple [dA m2 (.own 50 h), .record (encPin q.pin)])) else none) (by kernel_rfl) (by kernel_rfl) (by simp) ?_
        simp [hi, hy1, hyo, encE_eq y, hrlE]
        exact ⟨hih, by kernel_rfl, by omega, by omega, by omega⟩
      · rintro g -
        rw [List.take_length]
        simp
        have hsm := args_small true d.pf sg x.args d.count
        have hpl := argsD_len true d.pf sg x.args d.count
        by_cases o2 : x.op = 2
        · obtain ⟨y, hy⟩ := hop.2.2.2.2 o2
          have hl : (d.argsR sg x.args).gears.length ≤ 800000 ∧ (d.argsR sg x.args).links.length ≤ 800000 ∧ (d.argsR sg x.args).count ≤ 800000 := by
            obtain ⟨u1, u2, u3⟩ := hsm
            simp only [Dr.argsR, List.length_append]
            omega
          exact V.cutN 1 [(2, aI sg), (3, .ptr 3 b3 0), (4, .rptr (encE x)), (6, .ptr 6 b6 0), (7, .ptr 7 b7 0), (8, .own 8 g)] (Hs := passH x d sg h b3 b6 b7 g) (by simp [encE_eq x]) (by simp) (vcN_of_rest rfl (pass_not o2 hy (expr_endP true sg (pfE_end he) y d.count) hl.1 hl.2.1 hl.2.2))
        · have h2 := node_two hnd (by omega)
          obtain ⟨p0, ps, hpp⟩ : ∃ p ps, (argsD true d.pf sg x.args d.count).pins = p :: ps := by
            cases hq : (argsD true d.pf sg x.args d.count).pins with
            | nil => rw [hq] at hpl; simp at hpl; omega
            | cons p ps => exact ⟨p, ps, rfl⟩
          have hpsl : ps.length + 1 = x.args.length := by rw [← hpl, hpp]; rfl
          exact V.cutN 1 [(2, aI sg), (3, .ptr 3 b3 0), (4, .rptr (encE x)), (6, .ptr 6 b6 0), (7, .ptr 7 b7 0), (8, .own 8 g)] (Hs := passH x d sg h b3 b6 b7 g) (by simp [encE_eq x]) (by simp)
            (vcN_of_rest rfl (pass_b2 o2 (pass_ops (kind := if x.op = 3 then 9 else 8) (letter := if x.op = 3 then 80 else 81) (by omega) ⟨rfl, rfl⟩ rfl hpp (args_endP true sg (pfE_end he) x.args d.count) (by omega) hsm hpsl h1 (by omega) h3)))
theorem pass_s : ∀ (N : Nat) (x : Expr), SizeOf.sizeOf x < N → Passes x
  | 0, _, h => absurd h (Nat.not_lt_zero _)
  | N + 1, x, hN => pass_1 fun y hy => pass_s N y (by have := Expr.lt_of_mem hy; omega)
end Go.Proofs.YtdnkpogfcpjkpaaGreatDoor
end

section
namespace Go.Proofs.YtdnkpogfcpjkpaaGreatDoor
set_option maxHeartbeats 1000000
structure Gd (n k m : Nat) (d : Dr) : Prop where
  gears : d.gears.length ≤ n
  links : d.links.length ≤ k
  count : d.count ≤ m
  ends : ∀ p ∈ d.ends, EndP p
theorem Gd.mono {n k m n' k' m' : Nat} {d : Dr} (h : Gd n k m d) (h1 : n ≤ n') (h2 : k ≤ k') (h3 : m ≤ m') : Gd n' k' m' d := ⟨Nat.le_trans h.gears h1, Nat.le_trans h.links h2, Nat.le_trans h.count h3, h.ends⟩
theorem Gd.link {n k m : Nat} {d : Dr} (h : Gd n k m d) (a b : Pin) : Gd n (k + 1) m (d.link a b) := by
  have := joinD_len a b
  have := h.links
  exact ⟨h.gears, by simp only [Dr.link, List.length_append]; omega, h.count, h.ends⟩
theorem Gd.put {n k m : Nat} {d : Dr} (h : Gd n k m d) (p : Made) (air : Bool) : Gd (n + 1) (k + if air = true then 1 else 0) m (d.put p air) := by
  have h1 := h.links
  have h2 := h.gears
  have h3 := joinD_len ⟨p.name, [49]⟩ supPin
  refine ⟨by simp only [Dr.put, List.length_append, List.length_cons, List.length_nil]; omega, ?_, h.count, h.ends⟩
  cases air
  · simp only [Dr.put]
    simpa using h1
  · simp only [Dr.put, List.length_append, if_true]
    omega
theorem Gd.ended {n k m : Nat} {d : Dr} (h : Gd n k m d) {l : List Pin} (hl : ∀ p ∈ l, EndP p) : Gd n k m (d.ended l) := by
  refine ⟨h.gears, h.links, h.count, fun p hp => ?_⟩
  rcases List.mem_append.1 hp with hp | hp
  · exact h.ends p hp
  · exact hl p hp
theorem Gd.app {n k m : Nat} {d : Dr} (h : Gd n k m d) (x : Expr) (sg : Int) {z : Nat} (hx : sizeN x ≤ z) : Gd (n + z) (k + 3 * z) (m + z) (d.app (d.expr x sg)) ∧ EndP (d.expr x sg).pin := by
  obtain ⟨s1, s2, s3⟩ := expr_small true d.pf sg x d.count
  rw [← Dr.expr_pf] at s1 s2 s3
  have h1 := h.gears
  have h2 := h.links
  have h3 := h.count
  refine ⟨⟨?_, ?_, ?_, h.ends⟩, expr_endP true sg (pfE_end h.ends) x d.count⟩
  · simp only [Dr.app, List.length_append]; omega
  · simp only [Dr.app, List.length_append]; omega
  · simp only [Dr.app]; omega
theorem gd_fold {n k m a b e N : Nat} {f : Dr → Nat → Dr} (hf : ∀ n k m d i, i < N → Gd n k m d → Gd (n + a) (k + b) (m + e) (f d i)) {d : Dr} (h : Gd n k m d) : ∀ j, j ≤ N → Gd (n + j * a) (k + j * b) (m + j * e) ((List.range j).foldl f d)
  | 0, _ => by simpa using h
  | j + 1, hj => by
    have h1 := gd_fold hf h j (by omega)
    rw [List.range_succ, List.foldl_append]
    have h2 := hf _ _ _ _ j (by omega) h1
    exact h2.mono (by rw [Nat.succ_mul]; omega) (by rw [Nat.succ_mul]; omega) (by rw [Nat.succ_mul]; omega)
theorem gd_act {n k m : Nat} {d : Dr} (h : Gd n k m d) (a : Nat) : Gd (n + 4) (k + 5) (m + 0) (actR d a) := by
  unfold actR
  refine Gd.ended ?_ ?_
  · exact ((((((h.put _ _).put _ _).put _ _).put _ _).link _ _).link _ _).mono (by omega) (by simp) (by omega)
  · intro p hp
    simp at hp
    rcases hp with rfl | rfl <;> exact .inr (by simp [letterT])
theorem gd_in {c : Control} (hc : checkC c = 0) {n k m : Nat} {d : Dr} (h : Gd n k m d) {i : Nat} (hi : i < c.inputs.length) : Gd (n + 1) (k + 1) (m + 0) (inR37 c d i) := by
  unfold inR37
  refine Gd.ended ((h.put _ _).mono (Nat.le_refl _) (by simp) (by omega)) ?_
  intro p hp
  simp at hp
  subst hp
  have hm := List.getElem_mem hi
  obtain ⟨b, r, e, _⟩ := word_head (ins_word hc _ hm)
  refine .inr ?_
  simp only [hi, getElem?_pos, Option.getD_some]
  rw [e]
  simp
theorem own_ne (c : Control) (i : Nat) : ownT c i ≠ [] := by simp [ownT]
theorem gd_sigF {c : Control} {n k m : Nat} {d : Dr} (h : Gd n k m d) (i : Nat) : Gd (n + 1) (k + 1) (m + 0) (sigF c d i) := by
  unfold sigF
  split
  · split
    · refine Gd.ended ((h.put _ _).mono (Nat.le_refl _) (by simp) (by omega)) ?_
      intro p hp
      simp at hp
      subst hp
      exact .inr (own_ne c i)
    · split
      · refine Gd.ended ((h.put _ _).mono (Nat.le_refl _) (by simp) (by omega)) ?_
        intro p hp
        simp at hp
        subst hp
        exact .inr (own_ne c i)
      · refine Gd.ended (h.mono (by omega) (by omega) (by omega)) ?_
        intro p hp
        simp at hp
        subst hp
        exact .inl rfl
  · exact h.mono (by omega) (by omega) (by omega)
abbrev dr0 : Dr := (⟨[], [], [], 0⟩ : Dr).put ⟨0, [83], 0, -1, none, -1, -1⟩ false
theorem gd_dr0 : Gd 1 0 0 dr0 := ⟨by simp [Dr.put], by simp [Dr.put], by simp [Dr.put], by simp [Dr.put]⟩
abbrev drA (i : Nat) : Dr := (List.range i).foldl actR dr0
abbrev drI (c : Control) (i : Nat) : Dr := (List.range i).foldl (inR37 c) (drA c.actuators.toNat)
abbrev drS (c : Control) (i : Nat) : Dr := (List.range i).foldl (sigF c) (drI c c.inputs.length)
theorem gd_drA (i : Nat) : Gd (1 + i * 4) (i * 5) 0 (drA i) := (gd_fold (N := i) (fun _ _ _ _ _ _ h => gd_act h _) gd_dr0 i (Nat.le_refl _)).mono (by omega) (by omega) (by omega)
theorem gd_drI {c : Control} (hc : checkC c = 0) {i : Nat} (hi : i ≤ c.inputs.length) : Gd (25 + i) (30 + i) 0 (drI c i) := by
  have hR := okR_of hc
  have := hR.act
  exact (gd_fold (N := c.inputs.length) (fun _ _ _ _ _ hj h => gd_in hc h hj) (gd_drA c.actuators.toNat) i hi).mono (by omega) (by omega) (by omega)
theorem gd_drS {c : Control} (hc : checkC c = 0) (i : Nat) : Gd (41 + i) (46 + i) 0 (drS c i) := by
  have hR := okR_of hc
  have := hR.inp
  exact (gd_fold (N := i) (fun _ _ _ _ _ _ h => gd_sigF h _) (gd_drI hc (Nat.le_refl _)) i (Nat.le_refl _)).mono (by omega) (by omega) (by omega)
theorem sizes_of {c : Control} (hc : checkC c = 0) {i : Nat} {x : Signal} (hx : c.signals[i]? = some x) : sizeN x.on ≤ 256 ∧ (x.kind = 1 → sizeN x.off ≤ 256) := ⟨((okR_of hc).sig i x hx).2.1.2, fun h => (((okR_of hc).sig i x hx).2.2 h).2⟩
theorem gd_gate {c : Control} (hc : checkC c = 0) {n k m : Nat} {d : Dr} (h : Gd n k m d) (i : Nat) : Gd (n + 256) (k + 768) (m + 256) (gateR c d i) := by
  unfold gateR
  split
  · rename_i x hx
    have hs := sizes_of hc hx
    split
    · obtain ⟨h1, h2⟩ := h.app x.on i hs.1
      refine ⟨h1.gears, h1.links, h1.count, fun p hp => ?_⟩
      rcases List.mem_or_eq_of_mem_set hp with hp | rfl
      · exact h.ends p hp
      · exact h2
    · exact h.mono (by omega) (by omega) (by omega)
  · exact h.mono (by omega) (by omega) (by omega)
theorem Gd.to {n k m : Nat} {d : Dr} (h : Gd n k m d) {x : Expr} (sg : Int) (p : Pin) (hx : sizeN x ≤ 256) : Gd (n + 256) (k + 769) (m + 256) (d.to x sg p) := (h.app x sg hx).1.link _ _
theorem gd_sig {c : Control} (hc : checkC c = 0) {n k m : Nat} {d : Dr} (h : Gd n k m d) (i : Nat) : Gd (n + 512) (k + 1538) (m + 512) (sigR c d i) := by
  unfold sigR
  split
  · rename_i x hx
    have hs := sizes_of hc hx
    have hk := ((okR_of hc).sig i x hx).1
    split
    · exact h.mono (by omega) (by omega) (by omega)
    · split
      · exact (h.to _ _ hs.1).mono (by omega) (by omega) (by omega)
      · exact ((h.to _ _ hs.1).to _ _ (hs.2 (by omega))).mono (by omega) (by omega) (by omega)
  · exact h.mono (by omega) (by omega) (by omega)
theorem gd_pil {c : Control} {n k m : Nat} {d : Dr} (h : Gd n k m d) (a : Nat) : Gd (n + 0) (k + 2) (m + 0) (pilR c d a) := (h.link _ _).link _ _
abbrev drG (c : Control) (i : Nat) : Dr := (List.range i).foldl (gateR c) (frameR c)
abbrev drM (c : Control) (i : Nat) : Dr := (List.range i).foldl (sigR c) (drG c c.signals.length)
abbrev drP (c : Control) (i : Nat) : Dr := (List.range i).foldl (pilR c) (drM c c.signals.length)
theorem gd_drG {c : Control} (hc : checkC c = 0) {i : Nat} (hi : i ≤ 64) : Gd (20000) (60000) (20000) (drG c i) := by
  have := (okR_of hc).len
  exact (gd_fold (N := i) (fun _ _ _ _ _ _ h => gd_gate hc h _) (gd_drS hc c.signals.length) i (Nat.le_refl _)).mono (by omega) (by omega) (by omega)
theorem gd_drM {c : Control} (hc : checkC c = 0) {i : Nat} (hi : i ≤ 64) : Gd (60000) (180000) (60000) (drM c i) := by
  have := (okR_of hc).len
  exact (gd_fold (N := i) (fun _ _ _ _ _ _ h => gd_sig hc h _) (gd_drG hc this) i (Nat.le_refl _)).mono (by omega) (by omega) (by omega)
theorem gd_drP {c : Control} (hc : checkC c = 0) {i : Nat} (hi : i ≤ 64) : Gd (60000) (190000) (60000) (drP c i) := by
  have := (okR_of hc).len
  exact (gd_fold (N := i) (fun _ _ _ _ _ _ h => gd_pil h _) (gd_drM hc this) i (Nat.le_refl _)).mono (by omega) (by omega) (by omega)
theorem len_fold {f : Dr → Nat → Dr} (hf : ∀ d i, (f d i).ends.length = d.ends.length) (d : Dr) : ∀ j, ((List.range j).foldl f d).ends.length = d.ends.length
  | 0 => rfl
  | j + 1 => by rw [List.range_succ, List.foldl_append, List.foldl_cons, List.foldl_nil, hf, len_fold hf d j]
theorem gate_len' (c : Control) (d : Dr) (i : Nat) : (gateR c d i).ends.length = d.ends.length := by
  unfold gateR
  split
  · split
    · simp
    · rfl
  · rfl
theorem sigR_len (c : Control) (d : Dr) (i : Nat) : (sigR c d i).ends.length = d.ends.length := by
  unfold sigR
  split
  · split
    · rfl
    · split <;> rfl
  · rfl
theorem frame_len {c : Control} (hc : checkC c = 0) : ((frameR c).ends.length : Int) = countC c := by
  have h0 := (okR_of hc).act.1
  rw [(frame_rel h0).ends, endsL_len]
  unfold countC
  omega
theorem drG_len {c : Control} (hc : checkC c = 0) (i : Nat) : ((drG c i).ends.length : Int) = countC c := by
  rw [← frame_len hc, len_fold (gate_len' c)]
theorem drM_len {c : Control} (hc : checkC c = 0) (i : Nat) : ((drM c i).ends.length : Int) = countC c := by
  rw [← drG_len hc c.signals.length, len_fold (sigR_len c)]
theorem drP_len {c : Control} (hc : checkC c = 0) (i : Nat) : ((drP c i).ends.length : Int) = countC c := by
  rw [← drM_len hc c.signals.length, len_fold (f := pilR c) (fun _ _ => rfl)]
theorem drA_ends (i : Nat) : (drA i).ends.length = 2 * i := by
  induction i with
  | zero => rfl
  | succ i ih =>
    unfold drA at ih ⊢
    rw [List.range_succ, List.foldl_append, List.foldl_cons, List.foldl_nil, act_ends, List.length_append, ih]
    simp
    omega
theorem drI_ends (c : Control) (i : Nat) : (drI c i).ends.length = 2 * c.actuators.toNat + i := by
  induction i with
  | zero => exact drA_ends _
  | succ i ih =>
    unfold drI at ih ⊢
    rw [List.range_succ, List.foldl_append, List.foldl_cons, List.foldl_nil, in_ends, List.length_append, ih]
    simp
    omega
theorem drS_ends (c : Control) (i : Nat) : (drS c i).ends.length ≤ 2 * c.actuators.toNat + c.inputs.length + i := by
  induction i with
  | zero => exact Nat.le_of_eq (drI_ends c _)
  | succ i ih =>
    have e : ∀ d : Dr, (sigF c d i).ends.length ≤ d.ends.length + 1 := by
      intro d
      unfold sigF
      split
      · split
        · simp [Dr.ended, Dr.put]
        · split <;> simp [Dr.ended, Dr.put]
      · omega
    unfold drS at ih ⊢
    rw [List.range_succ, List.foldl_append, List.foldl_cons, List.foldl_nil]
    have := e ((List.range i).foldl (sigF c) (drI c c.inputs.length))
    omega
theorem letter_at : ∀ n : Nat, n < 6 → List.drop n (65 :: List.take n ([66, 67, 68, 69, 70] : List UInt8)) = [UInt8.ofNat (65 + n)] := by decide
end Go.Proofs.YtdnkpogfcpjkpaaGreatDoor
end
