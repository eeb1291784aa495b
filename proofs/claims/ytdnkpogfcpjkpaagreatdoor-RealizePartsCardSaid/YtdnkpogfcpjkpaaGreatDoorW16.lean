/- Texts joined by a program: Jm, So, Sk, Fwy, Fwx, Fwz, Fxa, Fxb, Fxe. -/
import Derived.Shelf.Sort.Plain
import Derived.Shelf.Slices.CompactI
import Derived.Shelf.Slices.In.SortNone
import Derived.Shelf.Strconv.Itoa3
import Derived.Shelf.Small.Strs
import Derived.Test.YtdnkpogfcpjkpaaGreatDoorProg
import Derived.KernelRfl
import Derived.Test.YtdnkpogfcpjkpaaGreatDoorW15
import Derived.Test.YtdnkpogfcpjkpaaGreatDoorW10
set_option linter.unusedSimpArgs false
set_option linter.unusedVariables false
set_option linter.unnecessarySimpa false

section
namespace Go.Proofs.YtdnkpogfcpjkpaaGreatDoor
set_option maxHeartbeats 4000000
def consL (js : List (Pin × Pin)) : List Pin := js.map fun q => q.2
structure ConsOK (ns : List (List UInt8)) (js : List (Pin × Pin)) : Prop where
  nod : (consL js).Nodup
  mem : ∀ p ∈ consL js, p.part ∈ ns
theorem consL_app (a b : List (Pin × Pin)) : consL (a ++ b) = consL a ++ consL b := List.map_append
theorem joinD_cons {a p q : Pin} (h : q ∈ consL (joinD a p)) : q = p := by
  unfold joinD at h
  split at h
  · simp [consL] at h
  · simpa [consL] using h
theorem joinD_nod (a p : Pin) : (consL (joinD a p)).Nodup := by
  unfold joinD
  split <;> simp [consL]
theorem ConsOK.nil (ns : List (List UInt8)) : ConsOK ns [] := ⟨by simp [consL], fun _ h => by simp [consL] at h⟩
theorem ConsOK.app {a b : List (List UInt8)} {ja jb : List (Pin × Pin)} (h : ConsOK a ja) (h2 : ConsOK b jb) (hn : (a ++ b).Nodup) : ConsOK (a ++ b) (ja ++ jb) := by
  constructor
  · rw [consL_app, List.nodup_append]
    refine ⟨h.nod, h2.nod, fun x hx y hy e => ?_⟩
    subst e
    exact (List.nodup_append.1 hn).2.2 _ (h.mem x hx) _ (h2.mem x hy) rfl
  · intro p hp
    rw [consL_app] at hp
    rcases List.mem_append.1 hp with hp | hp
    · exact List.mem_append.2 (.inl (h.mem p hp))
    · exact List.mem_append.2 (.inr (h2.mem p hp))
theorem ConsOK.grow {a : List (List UInt8)} {ja : List (Pin × Pin)} (h : ConsOK a ja) (b : List (List UInt8)) : ConsOK (a ++ b) ja := ⟨h.nod, fun p hp => List.mem_append.2 (.inl (h.mem p hp))⟩
theorem ConsOK.join {a : List (List UInt8)} {ja : List (Pin × Pin)} (h : ConsOK a ja) {p : Pin} (hp : p.part ∈ a) (hno : p ∉ consL ja) (g : Pin) : ConsOK a (ja ++ joinD g p) := by
  constructor
  · rw [consL_app, List.nodup_append]
    refine ⟨h.nod, joinD_nod g p, fun x hx y hy e => ?_⟩
    rw [e, joinD_cons hy] at hx
    exact hno hx
  · intro q hq
    rw [consL_app] at hq
    rcases List.mem_append.1 hq with hq | hq
    · exact h.mem q hq
    · rw [joinD_cons hq]
      exact hp
abbrev nms (ps : List Made) : List (List UInt8) := ps.map Made.name
theorem twin_c {sg kind : Int} {letter : UInt8} : ∀ (ps : List Pin) {d : Dl}, ConsOK (nms d.parts) d.joins → (nms (ps.foldl (twinD sg kind letter) d).parts).Nodup → ConsOK (nms (ps.foldl (twinD sg kind letter) d).parts) (ps.foldl (twinD sg kind letter) d).joins
  | [], d, h, _ => h
  | p :: ps, d, h, hn => by
    rw [List.foldl_cons] at hn ⊢
    refine twin_c ps ?_ hn
    obtain ⟨l, e⟩ := twin_mono (sg := sg) (kind := kind) (letter := letter) ps (twinD sg kind letter d p)
    rw [e, nms, List.map_append] at hn
    have hn1 := (List.nodup_append.1 hn).1
    have e1 : (twinD sg kind letter d p).parts.map Made.name = nms d.parts ++ [letter :: numT d.num] := by simp [twinD, nms]
    rw [e1] at hn1
    have hnot : letter :: numT d.num ∉ nms d.parts := fun hm => (List.nodup_append.1 hn1).2.2 _ hm _ (List.mem_singleton.2 rfl) rfl
    show ConsOK ((twinD sg kind letter d p).parts.map Made.name) _
    rw [e1]
    have h1 := (h.grow [letter :: numT d.num]).join (p := ⟨letter :: numT d.num, [49]⟩) (by simp) (fun hm => hnot (h.mem _ hm)) d.pin
    refine h1.join (p := ⟨letter :: numT d.num, [49, 49]⟩) (by simp) (fun hm => ?_) p
    rw [consL_app] at hm
    rcases List.mem_append.1 hm with hm | hm
    · exact hnot (h.mem _ hm)
    · have := joinD_cons hm
      simp at this
mutual
theorem expr_c (pf : Int → Pin) (sg : Int) : ∀ (x : Expr) (k : Nat), (nms (exprD false pf sg x k).parts).Nodup → ConsOK (nms (exprD false pf sg x k).parts) (exprD false pf sg x k).joins
  | ⟨op, ix, args⟩, k => by
    have h := args_c pf sg args k
    rw [exprD_eq]
    dsimp only
    by_cases h0 : op = 0
    · rw [if_pos h0]
      exact fun _ => .nil _
    · rw [if_neg h0]
      by_cases h1 : op = 1
      · rw [if_pos h1]
        exact fun _ => .nil _
      · rw [if_neg h1]
        generalize argsD false pf sg args k = r at *
        obtain ⟨r1, r2, r3, r4⟩ := r
        dsimp only at h ⊢
        by_cases hop : op = 2
        · rw [if_pos hop]
          unfold notsD
          cases args.head? with
          | none => exact h
          | some y =>
            intro hn
            have e1 : nms (notD false sg ⟨r1, r2, r3, r4.headD noPin⟩ y).parts = nms r1 ++ [78 :: numT r3] := by simp [notD, nms]
            have hn' : (nms (notD false sg ⟨r1, r2, r3, r4.headD noPin⟩ y).parts).Nodup := hn
            show ConsOK (nms (notD false sg ⟨r1, r2, r3, r4.headD noPin⟩ y).parts) _
            rw [e1] at hn' ⊢
            have h2 := h (List.nodup_append.1 hn').1
            have hnot : 78 :: numT r3 ∉ nms r1 := fun hm => (List.nodup_append.1 hn').2.2 _ hm _ (List.mem_singleton.2 rfl) rfl
            have h3 := (h2.grow [78 :: numT r3]).join (p := ⟨78 :: numT r3, [49]⟩) (by simp) (fun hm => hnot (h2.mem _ hm)) supPin
            refine h3.join (p := ⟨78 :: numT r3, [49, 48]⟩) (by simp) (fun hm => ?_) _
            rw [consL_app] at hm
            rcases List.mem_append.1 hm with hm | hm
            · exact hnot (h2.mem _ hm)
            · have := joinD_cons hm
              simp at this
        · rw [if_neg hop]
          unfold foldD
          dsimp only
          cases r4 with
          | nil => exact h
          | cons p ps =>
            intro hn
            obtain ⟨l, e⟩ := twin_mono (sg := sg) (kind := if op = 3 then 9 else 8) (letter := if op = 3 then 80 else 81) ps ⟨r1, r2, r3, p⟩
            dsimp only at hn e
            refine twin_c ps (h ?_) hn
            rw [e, nms, List.map_append] at hn
            exact (List.nodup_append.1 hn).1
theorem args_c (pf : Int → Pin) (sg : Int) : ∀ (xs : List Expr) (k : Nat), (nms (argsD false pf sg xs k).parts).Nodup → ConsOK (nms (argsD false pf sg xs k).parts) (argsD false pf sg xs k).joins
  | [], k => fun _ => .nil _
  | x :: xs, k => by
    intro hn
    rw [argsD] at hn ⊢
    dsimp only [nms] at hn ⊢
    rw [List.map_append] at hn ⊢
    obtain ⟨n1, n2, _⟩ := List.nodup_append.1 hn
    exact (expr_c pf sg x k n1).app (args_c pf sg xs _ n2) hn
end
def PortsAt (s : List UInt8) (S : List (List UInt8)) (js : List (Pin × Pin)) : Prop := ∀ p ∈ consL js, p.part = s → p.port ∈ S
theorem PortsAt.none {ns : List (List UInt8)} {js : List (Pin × Pin)} (h : ConsOK ns js) {s : List UInt8} (hs : s ∉ ns) : PortsAt s [] js := fun p hp e => absurd (e ▸ h.mem p hp) hs
theorem PortsAt.app {s : List UInt8} {S : List (List UInt8)} {a b : List (List UInt8)} {ja jb : List (Pin × Pin)} (h : PortsAt s S ja) (hb : ConsOK b jb) (hn : (a ++ b).Nodup) (hs : s ∈ a) : PortsAt s S (ja ++ jb) := by
  intro p hp e
  rw [consL_app] at hp
  rcases List.mem_append.1 hp with hp | hp
  · exact h p hp e
  · exact absurd rfl ((List.nodup_append.1 hn).2.2 s hs s (e ▸ hb.mem p hp))
theorem PortsAt.join {s : List UInt8} {S : List (List UInt8)} {ja : List (Pin × Pin)} (h : PortsAt s S ja) (g p : Pin) : PortsAt s (p.port :: S) (ja ++ joinD g p) := by
  intro q hq e
  rw [consL_app] at hq
  rcases List.mem_append.1 hq with hq | hq
  · exact List.mem_cons_of_mem _ (h q hq e)
  · rw [joinD_cons hq]
    exact List.mem_cons_self
theorem PortsAt.other {s : List UInt8} {S : List (List UInt8)} {ja : List (Pin × Pin)} (h : PortsAt s S ja) (g : Pin) {p : Pin} (hne : p.part ≠ s) : PortsAt s S (ja ++ joinD g p) := by
  intro q hq e
  rw [consL_app] at hq
  rcases List.mem_append.1 hq with hq | hq
  · exact h q hq e
  · rw [joinD_cons hq] at e
    exact absurd e hne
abbrev ConsM (m : Mk) : Prop := ConsOK (nms m.parts) m.joins
def ValvesOK (n : Nat) (m : Mk) : Prop := ∀ a, a < n → 86 :: letterT a ∈ nms m.parts ∧ PortsAt (86 :: letterT a) [[49]] m.joins
theorem app_c {m : Mk} (h : ConsM m) {d : Dl} (hd : (nms d.parts).Nodup → ConsOK (nms d.parts) d.joins) (hn : (nms (m.app d).parts).Nodup) : ConsM (m.app d) ∧ ∀ s S, s ∈ nms m.parts → PortsAt s S m.joins → PortsAt s S (m.app d).joins := by
  have e : nms (m.app d).parts = nms m.parts ++ nms d.parts := by simp [nms, Mk.app]
  rw [e] at hn
  have h2 := hd (List.nodup_append.1 hn).2.1
  refine ⟨?_, fun s S hs hp => hp.app h2 hn hs⟩
  show ConsOK (nms (m.app d).parts) _
  rw [e]
  exact h.app h2 hn
theorem to_c {c : Control} {m : Mk} (h : ConsM m) {x : Expr} {p : Pin} {S : List (List UInt8)} (hp : p.part ∈ nms m.parts) (hS : PortsAt p.part S m.joins) (hno : p.port ∉ S) (hn : (nms (m.to c x p).parts).Nodup) :
    ConsM (m.to c x p) ∧ PortsAt p.part (p.port :: S) (m.to c x p).joins ∧ ∀ s S', s ∈ nms m.parts → s ≠ p.part → PortsAt s S' m.joins → PortsAt s S' (m.to c x p).joins := by
  obtain ⟨h1, h2⟩ := app_c h (d := m.expr c x) (expr_c _ _ _ _) hn
  have h3 := h2 _ _ hp hS
  refine ⟨ConsOK.join h1 ?_ (fun hm => hno (h3 p hm rfl)) _, h3.join _ p, fun s S' hs hne hq => (h2 s S' hs hq).other _ (Ne.symm hne)⟩
  show p.part ∈ nms (m.app (m.expr c x)).parts
  simp only [nms, Mk.app, List.map_append, List.mem_append]
  exact .inl hp
theorem add_c {m : Mk} (h : ConsM m) {k d l : Int} {s : List UInt8} (hn : (nms (m.add k s d l).parts).Nodup) : ConsM ((m.add k s d l).feed s) ∧ PortsAt s [[49]] ((m.add k s d l).feed s).joins ∧ (∀ s' S', s' ∈ nms m.parts → PortsAt s' S' m.joins → PortsAt s' S' ((m.add k s d l).feed s).joins) ∧ s ∈ nms ((m.add k s d l).feed s).parts := by
  have e : nms (m.add k s d l).parts = nms m.parts ++ [s] := by simp [nms, Mk.add]
  rw [e] at hn
  have hs : s ∉ nms m.parts := fun hm => (List.nodup_append.1 hn).2.2 _ hm _ (List.mem_singleton.2 rfl) rfl
  have h0 := PortsAt.none h hs
  refine ⟨?_, PortsAt.join h0 supPin ⟨s, [49]⟩, fun s' S' hs' hq => PortsAt.other hq supPin (p := ⟨s, [49]⟩) (fun e => hs (by rw [show s = s' from e]; exact hs')), ?_⟩
  · show ConsOK (nms (m.add k s d l).parts) (m.joins ++ joinD supPin ⟨s, [49]⟩)
    rw [e]
    exact (ConsOK.grow h [s]).join (by simp) (fun hm => hs (h.mem _ hm)) _
  · show s ∈ nms (m.add k s d l).parts
    rw [e]
    simp
theorem gateM_c {c : Control} {m : Mk} {n : Nat} (h : ConsM m) (hv : ValvesOK n m) (i : Nat) (hn : (nms (gateM c m i).parts).Nodup) : ConsM (gateM c m i) ∧ ValvesOK n (gateM c m i) := by
  unfold gateM at hn ⊢
  split at hn
  · rename_i hk
    rw [if_pos hk]
    obtain ⟨h1, h2⟩ := app_c (m := m.sig i) h (d := (m.sig i).expr c (((c.signals[i]?).map (·.on)).getD ⟨0, 0, []⟩)) (expr_c _ _ _ _) hn
    refine ⟨h1, fun a ha => ⟨?_, h2 _ _ (hv a ha).1 (hv a ha).2⟩⟩
    have := (hv a ha).1
    simp only [nms, Mk.app, Mk.sig, List.map_append, List.mem_append]
    exact .inl this
  · rename_i hk
    rw [if_neg hk]
    exact ⟨h, hv⟩
theorem sigM_c {c : Control} {m : Mk} {n : Nat} (h : ConsM m) (hv : ValvesOK n m) (i : Nat) (hn : (nms (sigM c m i).parts).Nodup) : ConsM (sigM c m i) ∧ ValvesOK n (sigM c m i) := by
  have hvn : ∀ a, 86 :: letterT a ≠ ownT c i := fun a e => by
    unfold ownT at e
    have := (List.cons.inj e).1
    split at this <;> exact absurd this (by decide)
  unfold sigM at hn ⊢
  cases e : c.signals[i]? with
  | none => exact ⟨h, hv⟩
  | some x =>
    rw [e] at hn
    dsimp only at hn ⊢
    split at hn
    · rename_i h1
      rw [if_pos h1]
      have hm2 := hn
      obtain ⟨l2, e2⟩ := to_mono c ((((m.sig i).add 2 (ownT c i) 0 (firstC c + i)).feed (ownT c i)).to c x.on ⟨ownT c i, [49, 52]⟩) x.off ⟨ownT c i, [49, 50]⟩
      rw [e2, nms, List.map_append] at hm2
      have hm1 := (List.nodup_append.1 hm2).1
      have hm0 := hm1
      obtain ⟨l1, e1⟩ := to_mono c (((m.sig i).add 2 (ownT c i) 0 (firstC c + i)).feed (ownT c i)) x.on ⟨ownT c i, [49, 52]⟩
      rw [e1, List.map_append] at hm0
      obtain ⟨a1, a2, a3, a4⟩ := add_c (m := m.sig i) h (k := 2) (d := 0) (l := firstC c + i) (s := ownT c i) (List.nodup_append.1 hm0).1
      obtain ⟨b1, b2, b3⟩ := to_c (c := c) (x := x.on) (p := ⟨ownT c i, [49, 52]⟩) a1 a4 a2 (by simp) hm1
      have a5 : ownT c i ∈ nms ((((m.sig i).add 2 (ownT c i) 0 (firstC c + i)).feed (ownT c i)).to c x.on ⟨ownT c i, [49, 52]⟩).parts := by
        rw [nms, e1, List.map_append]
        exact List.mem_append.2 (.inl a4)
      obtain ⟨d1, d2, d3⟩ := to_c (c := c) (x := x.off) (p := ⟨ownT c i, [49, 50]⟩) b1 a5 b2 (by simp) hn
      refine ⟨d1, fun a ha => ?_⟩
      obtain ⟨v1, v2⟩ := hv a ha
      have m1 : 86 :: letterT a ∈ nms (((m.sig i).add 2 (ownT c i) 0 (firstC c + i)).feed (ownT c i)).parts := by
        simp only [nms, Mk.add, Mk.feed, Mk.join, Mk.sig, List.map_append, List.mem_append]
        exact .inl v1
      have m2 : 86 :: letterT a ∈ nms ((((m.sig i).add 2 (ownT c i) 0 (firstC c + i)).feed (ownT c i)).to c x.on ⟨ownT c i, [49, 52]⟩).parts := by
        rw [nms, e1, List.map_append]
        exact List.mem_append.2 (.inl m1)
      refine ⟨?_, d3 _ _ m2 (hvn a) (b3 _ _ m1 (hvn a) (a3 _ _ v1 v2))⟩
      rw [nms, e2, List.map_append]
      exact List.mem_append.2 (.inl m2)
    · rename_i h1
      rw [if_neg h1]
      split at hn
      · rename_i h2
        rw [if_pos h2]
        have hm0 := hn
        obtain ⟨l1, e1⟩ := to_mono c (((m.sig i).add 12 (ownT c i) x.delay (firstC c + i)).feed (ownT c i)) x.on ⟨ownT c i, [49, 50]⟩
        rw [nms, e1, List.map_append] at hm0
        obtain ⟨a1, a2, a3, a4⟩ := add_c (m := m.sig i) h (k := 12) (d := x.delay) (l := firstC c + i) (s := ownT c i) (List.nodup_append.1 hm0).1
        obtain ⟨b1, b2, b3⟩ := to_c (c := c) (x := x.on) (p := ⟨ownT c i, [49, 50]⟩) a1 a4 a2 (by simp) hn
        refine ⟨b1, fun a ha => ?_⟩
        obtain ⟨v1, v2⟩ := hv a ha
        have m1 : 86 :: letterT a ∈ nms (((m.sig i).add 12 (ownT c i) x.delay (firstC c + i)).feed (ownT c i)).parts := by
          simp only [nms, Mk.add, Mk.feed, Mk.join, Mk.sig, List.map_append, List.mem_append]
          exact .inl v1
        refine ⟨?_, b3 _ _ m1 (hvn a) (a3 _ _ v1 v2)⟩
        rw [nms, e1, List.map_append]
        exact List.mem_append.2 (.inl m1)
      · rename_i h2
        rw [if_neg h2]
        exact ⟨h, hv⟩
theorem pilM_c {c : Control} {m : Mk} (h : ConsM m) {n a : Nat} (han : a < n) (hv : ∀ b, a ≤ b → b < n → 86 :: letterT b ∈ nms m.parts ∧ PortsAt (86 :: letterT b) [[49]] m.joins) (hn6 : n ≤ 6) :
    ConsM (pilM c m a) ∧ ∀ b, a + 1 ≤ b → b < n → 86 :: letterT b ∈ nms (pilM c m a).parts ∧ PortsAt (86 :: letterT b) [[49]] (pilM c m a).joins := by
  obtain ⟨v1, v2⟩ := hv a (Nat.le_refl _) han
  have j1 := ConsOK.join h (p := ⟨86 :: letterT a, [49, 52]⟩) v1 (fun hm => by have := v2 _ hm rfl; simp at this) (portM c m.gates (c.plus.getD a 0))
  have p1 := PortsAt.join v2 (portM c m.gates (c.plus.getD a 0)) ⟨86 :: letterT a, [49, 52]⟩
  have j2 := ConsOK.join j1 (p := ⟨86 :: letterT a, [49, 50]⟩) v1 (fun hm => by have := p1 _ hm rfl; simp at this) (portM c m.gates (c.minus.getD a 0))
  refine ⟨j2, fun b hb1 hb2 => ?_⟩
  obtain ⟨w1, w2⟩ := hv b (by omega) hb2
  have hne : (86 :: letterT a) ≠ (86 :: letterT b) := by
    intro e
    have h1 := (List.cons.inj (List.cons.inj e).2).1
    have h2 : (65 + a) % 256 = (65 + b) % 256 := by
      have := congrArg UInt8.toNat h1
      simpa using this
    omega
  exact ⟨w1, PortsAt.other (PortsAt.other w2 _ (p := ⟨86 :: letterT a, [49, 52]⟩) hne) _ (p := ⟨86 :: letterT a, [49, 50]⟩) hne⟩
def actJ (a : Nat) : List (Pin × Pin) := joinD supPin ⟨letterT a ++ [48], [49]⟩ ++ (joinD supPin ⟨letterT a ++ [49], [49]⟩ ++ (joinD supPin ⟨86 :: letterT a, [49]⟩ ++ (joinD ⟨86 :: letterT a, [50]⟩ ⟨letterT a, [50]⟩ ++ joinD ⟨86 :: letterT a, [52]⟩ ⟨letterT a, [52]⟩)))
theorem actJ_c (a : Nat) : ConsOK [letterT a, letterT a ++ [48], letterT a ++ [49], 86 :: letterT a] (actJ a) ∧ PortsAt (86 :: letterT a) [[49]] (actJ a) := by
  have e : consL (actJ a) = [⟨letterT a ++ [48], [49]⟩, ⟨letterT a ++ [49], [49]⟩, ⟨86 :: letterT a, [49]⟩, ⟨letterT a, [50]⟩, ⟨letterT a, [52]⟩] := by simp [actJ, joinD, consL]
  refine ⟨⟨?_, ?_⟩, ?_⟩
  · rw [e]
    simp [letterT]
    exact ⟨fun h e => by rw [h] at e; exact absurd e (by decide), fun h e => by rw [h] at e; exact absurd e (by decide)⟩
  · rw [e]
    intro p hp
    simp only [List.mem_cons, List.not_mem_nil, or_false] at hp
    rcases hp with rfl | rfl | rfl | rfl | rfl <;> simp
  · intro p hp
    rw [e] at hp
    simp only [List.mem_cons, List.not_mem_nil, or_false] at hp
    rcases hp with rfl | rfl | rfl | rfl | rfl <;> simp [letterT]
theorem actM_c {m : Mk} (h : ConsM m) {a : Nat} (hv : ValvesOK a m) (hn : (nms (actM m a).parts).Nodup) : ConsM (actM m a) ∧ ValvesOK (a + 1) (actM m a) := by
  have e := act_names m a
  have ej : (actM m a).joins = m.joins ++ actJ a := by
    show ((((m.joins ++ _) ++ _) ++ _) ++ _) ++ _ = _
    simp only [List.append_assoc]
    rfl
  obtain ⟨j1, j2⟩ := actJ_c a
  have hn2 : (nms m.parts ++ [letterT a, letterT a ++ [48], letterT a ++ [49], 86 :: letterT a]).Nodup := by rw [← e]; exact hn
  have hnv : 86 :: letterT a ∉ nms m.parts := fun hm => (List.nodup_append.1 hn2).2.2 _ hm (86 :: letterT a) (by simp) rfl
  refine ⟨?_, fun b hb => ?_⟩
  · show ConsOK ((actM m a).parts.map Made.name) (actM m a).joins
    rw [e, ej]
    exact ConsOK.app h j1 hn2
  · rw [ej]
    show 86 :: letterT b ∈ (actM m a).parts.map Made.name ∧ _
    rw [e]
    rcases Nat.lt_or_ge b a with hlt | hge
    · exact ⟨List.mem_append.2 (.inl (hv b hlt).1), (hv b hlt).2.app j1 hn2 (hv b hlt).1⟩
    · obtain rfl : b = a := by omega
      refine ⟨by simp, fun p hp he => ?_⟩
      rw [consL_app] at hp
      rcases List.mem_append.1 hp with hp | hp
      · exact absurd (he ▸ h.mem p hp) hnv
      · exact j2 p hp he
theorem inM_c {c : Control} {m : Mk} {n : Nat} (h : ConsM m) (hv : ValvesOK n m) (i : Nat) (hn : (nms (inM c m i).parts).Nodup) : ConsM (inM c m i) ∧ ValvesOK n (inM c m i) := by
  obtain ⟨a1, a2, a3, a4⟩ := add_c (m := m) h (k := 7) (d := 0) (l := 2 * c.actuators + i) (s := c.inputs.getD i []) hn
  refine ⟨a1, fun a ha => ⟨?_, a3 _ _ (hv a ha).1 (hv a ha).2⟩⟩
  have := (hv a ha).1
  simp only [nms, inM, Mk.add, Mk.feed, Mk.join, List.map_append, List.mem_append]
  exact .inl this
theorem fold_c {f : Mk → Nat → Mk} (hm : ∀ m i, ∃ l, nms (f m i).parts = nms m.parts ++ l) {n : Nat} {I : Nat → Mk → Prop} (hs : ∀ m i, i < n → (nms (f m i).parts).Nodup → I i m → I (i + 1) (f m i)) (m : Mk) (h : I 0 m) :
    ∀ k : Nat, k ≤ n → (nms ((List.range k).foldl f m).parts).Nodup → I k ((List.range k).foldl f m)
  | 0, _, _ => h
  | k + 1, hk, hn => by
    rw [List.range_succ, List.foldl_append] at hn ⊢
    refine hs _ k (by omega) hn (fold_c hm hs m h k (by omega) ?_)
    obtain ⟨l, e⟩ := hm ((List.range k).foldl f m) k
    have hn' : (nms (f ((List.range k).foldl f m) k).parts).Nodup := hn
    rw [e] at hn'
    exact (List.nodup_append.1 hn').1
theorem nms_mono {a b : List Made} (h : ∃ l, b = a ++ l) : ∃ l, nms b = nms a ++ l := by
  obtain ⟨l, rfl⟩ := h
  exact ⟨l.map Made.name, List.map_append⟩
theorem whole_tak {c : Control} (hc : checkC c = 0) : ConsM (wholeM c) := by
  have hact := (fine_of hc).act
  have hN := whole_names hc
  have key := fold_c (f := pilM c) (fun m i => nms_mono (pilM_mono c m i)) (n := c.actuators.toNat)
    (I := fun a m => ConsM m ∧ ∀ b, a ≤ b → b < c.actuators.toNat → 86 :: letterT b ∈ nms m.parts ∧ PortsAt (86 :: letterT b) [[49]] m.joins)
    (fun m i hi _ h => pilM_c h.1 hi h.2 (by omega)) ((List.range c.signals.length).foldl (sigM c) ((List.range c.signals.length).foldl (gateM c) (machineM c)))
  refine (key ?_ _ (Nat.le_refl _) hN).1
  have n1 : (nms ((List.range c.signals.length).foldl (sigM c) ((List.range c.signals.length).foldl (gateM c) (machineM c))).parts).Nodup := by
    obtain ⟨l, e⟩ := fold_mono (pilM_mono c) ((List.range c.signals.length).foldl (sigM c) ((List.range c.signals.length).foldl (gateM c) (machineM c))) c.actuators.toNat
    have : (wholeM c).parts = _ ++ l := e
    rw [this, List.map_append] at hN
    exact (List.nodup_append.1 hN).1
  have n2 : (nms ((List.range c.signals.length).foldl (gateM c) (machineM c)).parts).Nodup := by
    obtain ⟨l, e⟩ := fold_mono (sigM_mono c) ((List.range c.signals.length).foldl (gateM c) (machineM c)) c.signals.length
    have h := n1
    rw [nms, e, List.map_append] at h
    exact (List.nodup_append.1 h).1
  have n3 : (nms (machineM c).parts).Nodup := by
    obtain ⟨l, e⟩ := fold_mono (gateM_mono c) (machineM c) c.signals.length
    have h := n2
    rw [nms, e, List.map_append] at h
    exact (List.nodup_append.1 h).1
  have ins_mono : ∀ m i, ∃ l, nms (inM c m i).parts = nms m.parts ++ l := fun m i => ⟨[c.inputs.getD i []], by simp [nms, inM, Mk.add, Mk.feed, Mk.join]⟩
  have n4 : (nms ((List.range c.actuators.toNat).foldl actM ((⟨[], [], 0, -1, []⟩ : Mk).add 0 [83] 0 (-1))).parts).Nodup := by
    have h := n3
    rw [nms, machine_names] at h
    rw [nms, acts_names]
    have h2 : ([83] :: (actN c.actuators.toNat ++ c.inputs) : List (List UInt8)) = ([[83]] ++ actN c.actuators.toNat) ++ c.inputs := by simp
    rw [h2] at h
    have := (List.nodup_append.1 h).1
    simpa [Mk.add] using this
  have k1 := fold_c (f := actM) (fun m a => ⟨_, act_names m a⟩) (n := c.actuators.toNat) (I := fun a m => ConsM m ∧ ValvesOK a m) (fun m i hi hn h => actM_c h.1 h.2 hn) ((⟨[], [], 0, -1, []⟩ : Mk).add 0 [83] 0 (-1)) ⟨.nil _, fun a ha => absurd ha (by omega)⟩ _ (Nat.le_refl _) n4
  have k2 := fold_c (f := inM c) ins_mono (n := c.inputs.length) (I := fun _ m => ConsM m ∧ ValvesOK c.actuators.toNat m) (fun m i hi hn h => inM_c h.1 h.2 i hn) _ k1 _ (Nat.le_refl _) n3
  have k3 := fold_c (f := gateM c) (fun m i => nms_mono (gateM_mono c m i)) (n := c.signals.length) (I := fun _ m => ConsM m ∧ ValvesOK c.actuators.toNat m) (fun m i hi hn h => gateM_c h.1 h.2 i hn) _ k2 _ (Nat.le_refl _) n2
  have k4 := fold_c (f := sigM c) (fun m i => nms_mono (sigM_mono c m i)) (n := c.signals.length) (I := fun _ m => ConsM m ∧ ValvesOK c.actuators.toNat m) (fun m i hi hn h => sigM_c h.1 h.2 i hn) _ k3 _ (Nat.le_refl _) n1
  exact ⟨k4.1, fun b _ hb => k4.2 b hb⟩
end Go.Proofs.YtdnkpogfcpjkpaaGreatDoor
end

section
namespace Go.Proofs.YtdnkpogfcpjkpaaGreatDoor
open Go.Sort
variable {P : Program} {ρ : Go.Shelf.Ren}
theorem Ds_one {x : X} {t : Nat} {h : Value} {args : Array Value} (hd : Ds x [.own t h] args.toList) : args = #[h] := by
  rcases args with ⟨l⟩
  rcases l with _ | ⟨a, _ | ⟨b, l⟩⟩ <;> simp [Ds, D] at hd
  rw [hd.1]
theorem unit_D (y : X) : D y (.tuple []) (.tuple #[]) := by simp [D, Ds]
end Go.Proofs.YtdnkpogfcpjkpaaGreatDoor
end

section
namespace Go.Proofs.YtdnkpogfcpjkpaaGreatDoor
set_option maxRecDepth 100000
set_option maxHeartbeats 4000000
def itRen : Go.Shelf.Ren := ⟨fun | 129 => 155 | 171 => 79 | 243 => 117 | 246 => 165 | 283 => 204 | 284 => 205 | 285 => 206 | 286 => 207 | 317 => 224 | 318 => 225 | 319 => 226 | 320 => 227 | 337 => 240 | 338 => 241 | n => n, fun | 0 => 0 | 2 => 2 | 3 => 3 | 4 => 4 | 5 => 5 | 9 => 9 | 20 => 20 | 37 => 268 | 46 => 182 | 51 => 219 | 53 => 221 | 171 => 266 | 173 => 269 | 212 => 288 | 213 => 289 | 232 => 298 | 233 => 299 | n => n, fun | 17 => 2 | 18 => 3 | 19 => 4 | n => n⟩
theorem itLays0 : Go.Proofs.Lays.n171 Tryz.prog itRen := { 
  mixed := by kernel_rfl,
  f129 := by kernel_rfl,
  f171 := by kernel_rfl,
  f243 := by kernel_rfl,
  f246 := by kernel_rfl,
  f283 := by kernel_rfl,
  f284 := by kernel_rfl,
  f285 := by kernel_rfl,
  f286 := by kernel_rfl,
  f317 := by kernel_rfl,
  f318 := by kernel_rfl,
  f319 := by kernel_rfl,
  f320 := by kernel_rfl,
  f337 := by kernel_rfl,
  f338 := by kernel_rfl,
  t0 := Tryz.underlying0,
  a0 := Tryz.isAgg0,
  z0 := Tryz.sizeOf0,
  v0 := Tryz.zeroValue0,
  t2 := Tryz.underlying2,
  a2 := Tryz.isAgg2,
  z2 := Tryz.sizeOf2,
  v2 := Tryz.zeroValue2,
  t3 := Tryz.underlying3,
  a3 := Tryz.isAgg3,
  z3 := Tryz.sizeOf3,
  v3 := Tryz.zeroValue3,
  t4 := Tryz.underlying4,
  a4 := Tryz.isAgg4,
  z4 := Tryz.sizeOf4,
  v4 := Tryz.zeroValue4,
  t5 := Tryz.underlying5,
  a5 := Tryz.isAgg5,
  z5 := Tryz.sizeOf5,
  v5 := Tryz.zeroValue5,
  t9 := Tryz.underlying9,
  a9 := Tryz.isAgg9,
  z9 := Tryz.sizeOf9,
  v9 := Tryz.zeroValue9,
  t20 := Tryz.underlying20,
  a20 := Tryz.isAgg20,
  z20 := Tryz.sizeOf20,
  v20 := Tryz.zeroValue20,
  t37 := Tryz.underlying268,
  a37 := Tryz.isAgg268,
  z37 := Tryz.sizeOf268,
  v37 := Tryz.zeroValue268,
  t46 := Tryz.underlying182,
  a46 := Tryz.isAgg182,
  z46 := Tryz.sizeOf182,
  v46 := Tryz.zeroValue182,
  t51 := Tryz.underlying219,
  a51 := Tryz.isAgg219,
  z51 := Tryz.sizeOf219,
  v51 := Tryz.zeroValue219,
  t53 := Tryz.underlying221,
  a53 := Tryz.isAgg221,
  z53 := Tryz.sizeOf221,
  v53 := Tryz.zeroValue221,
  t171 := Tryz.underlying266,
  a171 := Tryz.isAgg266,
  z171 := Tryz.sizeOf266,
  v171 := Tryz.zeroValue266,
  t173 := Tryz.underlying269,
  a173 := Tryz.isAgg269,
  z173 := Tryz.sizeOf269,
  v173 := Tryz.zeroValue269,
  t212 := Tryz.underlying288,
  a212 := Tryz.isAgg288,
  z212 := Tryz.sizeOf288,
  v212 := Tryz.zeroValue288,
  t213 := Tryz.underlying289,
  a213 := Tryz.isAgg289,
  z213 := Tryz.sizeOf289,
  t232 := Tryz.underlying298,
  a232 := Tryz.isAgg298,
  z232 := Tryz.sizeOf298,
  v232 := Tryz.zeroValue298,
  t233 := Tryz.underlying299,
  a233 := Tryz.isAgg299,
  z233 := Tryz.sizeOf299,
  v233 := Tryz.zeroValue299,
  g17 := by kernel_rfl,
  g18 := by kernel_rfl,
  g19 := by kernel_rfl }
theorem itLays : Go.Proofs.LaysM.n171 Tryz.prog itRen := { itLays0 with 
  i0 := by kernel_rfl,
  i2 := by kernel_rfl,
  i3 := by kernel_rfl,
  i4 := by kernel_rfl,
  i5 := by kernel_rfl,
  i9 := by kernel_rfl,
  i20 := by kernel_rfl,
  i37 := by kernel_rfl,
  i46 := by kernel_rfl,
  i51 := by kernel_rfl,
  i53 := by kernel_rfl,
  i171 := by kernel_rfl,
  i173 := by kernel_rfl,
  i212 := by kernel_rfl,
  i232 := by kernel_rfl,
  i233 := by kernel_rfl,
  m17 := by kernel_rfl,
  m18 := by kernel_rfl,
  m19 := by kernel_rfl }
def scRen : Go.Shelf.Ren := ⟨fun | 106 => 67 | 213 => 113 | 265 => 156 | n => n, fun | 3 => 3 | 9 => 9 | n => n, fun n => n⟩
theorem scLays : Go.Proofs.Lays.n106 Tryz.prog scRen := { 
  mixed := by kernel_rfl,
  f106 := by kernel_rfl,
  f213 := by kernel_rfl,
  f265 := by kernel_rfl,
  t3 := Tryz.underlying3,
  a3 := Tryz.isAgg3,
  z3 := Tryz.sizeOf3,
  v3 := Tryz.zeroValue3,
  t9 := Tryz.underlying9,
  a9 := Tryz.isAgg9,
  z9 := Tryz.sizeOf9,
  v9 := Tryz.zeroValue9 }
end Go.Proofs.YtdnkpogfcpjkpaaGreatDoor
end

section
namespace Go.Proofs.YtdnkpogfcpjkpaaGreatDoor
variable {P : Program}
theorem rdLs_Ds' {x : X} : ∀ {ls : List L} {vs : List Value}, RdLs x ls vs → Ds x (ls.map A.dat) vs
  | [], [], _ => by simp [Ds]
  | l :: ls, v :: vs, h => by
    simp only [RdLs] at h
    simp only [List.map_cons, Ds, D]
    exact ⟨h.1, rdLs_Ds' h.2⟩
  | [], _ :: _, h => by simp [RdLs] at h
  | _ :: _, [], h => by simp [RdLs] at h
def frzC (H : Heap) : A → Option L
  | .dat l => some l
  | .nils => some (.sl [])
  | .own t h => match hget t H with
    | some (.seq h' _ _ rows) => if allD rows = true then some (.sl (rowsD rows)) else none
    | _ => none
  | _ => none
def hdrOk (H : Heap) : A → Prop
  | .own t h => match hget t H with
    | some (.seq h' _ _ _) => h' = h
    | _ => True
  | _ => True
def frzCs (H : Heap) : List A → Option (List L)
  | [] => some []
  | a :: r => match frzC H a, frzCs H r with
    | some l, some ls => some (l :: ls)
    | _, _ => none
theorem V.frz1 {C : Cfg} {c : Code} {E : Env} {H : Heap} {Q : PostQ} (t : Nat) {τ : Nat} {h : Value} {e sz : Nat} {rows : List (List A)} (hE : E t = .own τ h) (hH : hget τ H = some (.seq h e sz rows)) (hd : allD rows = true)
    (hv : V C c (upd E t (.dat (.sl (rowsD rows)))) (hdel τ H) Q) : V C c E H Q := by
  intro hf x act H0 ms hi he
  have hp := hdel_perm hH
  have hi1 : Inv x ([(τ, .seq h e sz rows)] ++ (hdel τ H ++ (marks ms ++ H0))) := by
    have := hi.perm (hp.symm.append_right (marks ms ++ H0))
    simpa using this
  obtain ⟨y, hw, hle, hi2, hok, _⟩ := hi1.freeze
  have he2 : EnvOK C.n (ms.map mk) y act (upd E t (.dat (.sl (rowsD rows)))) := by
    have hm := he.mono hle
    refine ⟨hm.defers, hm.size, fun s => ?_⟩
    simp only [upd]
    split
    · rename_i hs
      subst hs
      have hv := hm.slot s
      rw [hE] at hv
      simp only [D] at hv ⊢
      rw [hv.1]
      exact seq_data (Ent.sat_step hle (fun b _ => by rw [hw]) (hi1.sat (τ, .seq h e sz rows) (by simp))) (fun b hb => hok b ⟨_, List.mem_singleton.2 rfl, hb⟩) hd
    · exact hm.slot s
  have := hv hf y act H0 ms hi2 he2
  rw [hw] at this
  exact wpIn_mono this fun _ _ _ => Post.le hle fun _ _ _ h => h
theorem CallS.agg {g : FuncId} {ls : List L} {az bz : List A} {H : Heap} {K : A → Heap → Prop} (h : CallS P g (az ++ .agg (ls.map A.dat) :: bz) H K) : CallS P g (az ++ .record ls :: bz) H K := by
  refine ⟨h.1, fun x args H0 hi hd => h.2 x args H0 hi ?_⟩
  have e := List.take_append_drop az.length args.toList
  have ht := hd.take az.length
  have hdr := hd.drop az.length
  simp only [List.take_left, List.drop_left] at ht hdr
  rw [← e]
  refine ht.append ?_
  generalize args.toList.drop az.length = l at hdr
  cases l with
  | nil => simp [Ds] at hdr
  | cons v l =>
    simp only [Ds, D] at hdr ⊢
    obtain ⟨⟨vs, rfl, hr⟩, h2⟩ := hdr
    refine ⟨⟨vs, rfl, ?_⟩, h2⟩
    exact rdLs_Ds' hr
attribute [simp] frzC frzCs hdrOk
end Go.Proofs.YtdnkpogfcpjkpaaGreatDoor
end

section
namespace Go.Proofs.YtdnkpogfcpjkpaaGreatDoor
variable {P : Program}
def bslO (P : Program) (t : TypeId) (len : Nat) (ps : List (Nat × A)) : Option (Prop × TypeId × List (List L)) :=
  match slT P t with
  | some e => if len = ps.length ∧ 0 < len then (match rowsA (szT P e) 0 ps with
      | some rows => some (tk P e ≠ 0 ∧ 0 < szT P e ∧ len * szT P e ≤ 16777216 ∧ ((P.info? e).bind (·.zero)).isSome = true, e, rows)
      | none => none) else none
  | none => none
def tightV (u : Value) : Prop := ∃ a n, u = .slice a n n
def vcOpsT (P : Program) (T : List Nat) : List Oper → Env → Heap → (Env → Heap → Prop) → Prop
  | [], E, H, K => K E H
  | o :: rest, E, H, K => o.guard = none ∧ match o.op, T.contains (o.dst.getD 0) with
    | .buildSlice t n ps, true => match bslO P t n (evs E ps.toList) with
      | some (p, e, rows) => (evp E ps.toList ∧ p) ∧ ∀ u, tightV u → vcOpsT P T rest (put E o.dst (.own (o.dst.getD 0) u)) ((o.dst.getD 0, .seq u e (szT P e) (rows.map (·.map A.dat))) :: H) K
      | none => False
    | op, _ => vcOp P op o.dst E H fun E' H' => vcOpsT P T rest E' H' K
def vcCT (C : Cfg) (T : List Nat) : Code → Env → Heap → PostQ → Prop
  | .seq a b, E, H, Q => vcCT C T a E H fun e E' H' => match e with
    | .normal => vcCT C T b E' H' Q
    | .exit i => Q (.exit i) E' H'
    | .ret => Q .ret E' H'
    | _ => False
  | .ret, E, H, Q => Q .ret E H
  | .region id ops d, E, H, Q => match d with
    | false => vcOpsT C.P T ops.toList E H fun E' H' => Q .normal E' H'
    | true => V C (.region id ops true) E H Q
  | _, _, _, _ => False
@[simp] theorem xpH_n : xpH [] = [] := id rfl
@[simp] theorem xpH_box (t b : Nat) (cs : List A) (H : Heap) : xpH ((t, .box b cs) :: H) = (t, .box b cs) :: xpH H := id rfl
@[simp] theorem xpH_seq (t : Nat) (h : Value) (e sz : Nat) (rows : List (List A)) (H : Heap) : xpH ((t, .seq h e sz rows) :: H) = (t, .seq h e sz rows) :: xpH H := id rfl
@[simp] theorem xpH_raw (t b : Nat) (o : Obj) (H : Heap) : xpH ((t, .raw b o) :: H) = (t, .raw b o) :: xpH H := id rfl
@[simp] theorem xpH_map (t b : Nat) (d : TypeDesc) (es : List (L × L)) (H : Heap) : xpH ((t, .map b d es) :: H) = (t, .map b d es) :: xpH H := id rfl
@[simp] theorem xpH_mapS (t b : Nat) (d : TypeDesc) (es : List (L × List L)) (H : Heap) : xpH ((t, .mapS b d es) :: H) = (t, .mapS b d es) :: xpH H := id rfl
@[simp] theorem xpH_seqs (t : Nat) (l : List (Value × TypeId × Nat × List (List A))) (H : Heap) : xpH ((t, .seqs l) :: H) = spreadL (stB t) 0 l ++ xpH H := id rfl
theorem V.drawS {n : Nat} {id : Nat} {ops : Array Oper} {E : Env} {H : Heap} {Q : PostQ} (ρ : Nat → Option CR) (hm : P.follows .mixedOrders = true) (hd : depB ops.toList = true) (hn : (H.map (·.1)).Nodup)
    (h : vcD P ρ ops.toList 0 [] ops.toList E H fun E' H' => Q .normal E' (xpH H')) : V ⟨P, none, n⟩ (.region id ops true) E H Q := by
  have h1 : V ⟨P, none, n⟩ (.region id ops true) E H (fun e E' H' => match e with | .normal => Q .normal E' (xpH H') | e => Q e E' H') := V.draw ρ hm hd hn h
  intro hf x act H0 ms hi he
  refine wpIn_mono (h1 hf x act H0 ms hi he) ?_
  rintro e a' w' ⟨y, E', H', ms', rfl, hle, hi', he', hq⟩
  cases e with
  | normal => exact ⟨y, E', xpH H', ms', rfl, hle, Inv.xp (A0 := []) hi', he', hq⟩
  | exit k => exact ⟨y, E', H', ms', rfl, hle, hi', he', hq⟩
  | ret => exact ⟨y, E', H', ms', rfl, hle, hi', he', hq⟩
  | goto k => exact ⟨y, E', H', ms', rfl, hle, hi', he', hq⟩
  | panic k => exact ⟨y, E', H', ms', rfl, hle, hi', he', hq⟩
  | outgrown => exact ⟨y, E', H', ms', rfl, hle, hi', he', hq⟩
attribute [simp] spreadL hdrsL ownsL stB
attribute [simp] vcCT vcOpsT bslO
end Go.Proofs.YtdnkpogfcpjkpaaGreatDoor
end

section
namespace Go.Proofs.YtdnkpogfcpjkpaaGreatDoor
variable {P : Program}
def loopsC : Code → List Code
  | .loop c => c :: loopsC c
  | .seq a b => loopsC a ++ loopsC b
  | .cond _ a b => loopsC a ++ loopsC b
  | .block _ c => loopsC c
  | .scope c => loopsC c
  | _ => []
def loopO (f : Func) (k : Nat) : Option Code := match f.body with
  | some c => (loopsC c)[k]?
  | none => none
def loopC (f : Func) (k : Nat) : Code := (loopO f k).getD .skip
theorem vc_part {f : Func} {k : Nat} {c : Code} {C : Cfg} {E : Env} {H : Heap} {Q : PostQ} (h : loopO f k = some c) (hv : vcC C c E H Q) : vcC C (loopC f k) E H Q := by
  unfold loopC
  rw [h]
  exact hv
theorem vc_of_part {f : Func} {k : Nat} {c : Code} {C : Cfg} {E : Env} {H : Heap} {Q : PostQ} (h : loopO f k = some c) (hv : vcC C (loopC f k) E H Q) : vcC C c E H Q := by
  unfold loopC at hv
  rw [h] at hv
  exact hv
def accC (i : Nat) (r : List Nat) (c : Option Nat) (acc : List (Nat × List Nat × Option Nat)) : List (Nat × List Nat × Option Nat) := match r, c with
  | [], none => acc
  | _, _ => (i, r, c) :: acc
def prsC (i : Nat) (q : List Nat × Option Nat) : List (Nat × List Nat × Option Nat) → List (Nat × Nat) → List (Nat × Nat)
  | [], prs => prs
  | z :: acc, prs => prsC i q acc (if tagC z.2 q = true then (i, z.1) :: prs else prs)
def chkD (ops : List Oper) (prs : List (Nat × Nat)) : Bool := prs.all fun p => dirB ops p.1 p.2 || relB ops p.1 p.2
@[congr] theorem chkD_congr {ops : List Oper} {prs prs' : List (Nat × Nat)} {z : Prop} (_ : (True ∧ True) = z) (h : prs = prs') : chkD ops prs = chkD ops prs' := by rw [h]
@[simp] theorem chkD_nil (ops : List Oper) : chkD ops [] = true := id rfl
@[simp] theorem accC_n (i : Nat) (acc : List (Nat × List Nat × Option Nat)) : accC i [] none acc = acc := id rfl
@[simp] theorem accC_c (i t : Nat) (r : List Nat) (c : Option Nat) (acc : List (Nat × List Nat × Option Nat)) : accC i (t :: r) c acc = (i, t :: r, c) :: acc := id rfl
@[simp] theorem accC_s (i t : Nat) (r : List Nat) (acc : List (Nat × List Nat × Option Nat)) : accC i r (some t) acc = (i, r, some t) :: acc := by cases r <;> rfl
@[simp] theorem prsC_n (i : Nat) (q : List Nat × Option Nat) (prs : List (Nat × Nat)) : prsC i q [] prs = prs := id rfl
@[simp] theorem prsC_c (i : Nat) (q : List Nat × Option Nat) (z : Nat × List Nat × Option Nat) (acc : List (Nat × List Nat × Option Nat)) (prs : List (Nat × Nat)) : prsC i q (z :: acc) prs = prsC i q acc (if tagC z.2 q = true then (i, z.1) :: prs else prs) := id rfl
theorem prsC_chk {ops : List Oper} {i : Nat} {q : List Nat × Option Nat} : ∀ (acc : List (Nat × List Nat × Option Nat)) (prs : List (Nat × Nat)), chkD ops (prsC i q acc prs) = true → chkD ops prs = true ∧ ∀ z ∈ acc, dOr (tagC z.2 q) (dOr (!dirB ops i z.1) (relB ops i z.1)) = true
  | [], prs, h => ⟨h, by simp⟩
  | z :: acc, prs, h => by
    rw [prsC_c] at h
    obtain ⟨h1, h2⟩ := prsC_chk acc _ h
    cases ht : tagC z.2 q with
    | false =>
      rw [ht] at h1
      simp only [Bool.false_eq_true, if_false] at h1
      refine ⟨h1, ?_⟩
      intro z' hz
      rcases List.mem_cons.1 hz with rfl | hz
      · rw [ht, dOr_f]
      · exact h2 z' hz
    | true =>
      rw [ht] at h1
      simp only [if_true, chkD, List.all_cons, Bool.and_eq_true] at h1
      refine ⟨h1.2, ?_⟩
      intro z' hz
      rcases List.mem_cons.1 hz with rfl | hz
      · rw [ht, dOr_t]
        have h3 := h1.1
        cases hd : dirB ops i z'.1 with
        | true => rfl
        | false => rw [hd] at h3; simpa using h3
      · exact h2 z' hz
def vcX (P : Program) (ρ : Nat → Option CR) (ops : List Oper) : Nat → List (Nat × List Nat × Option Nat) → List (Nat × Nat) → List Oper → Env → Heap → (Env → Heap → Prop) → Prop
  | _, _, prs, [], E, H, K => chkD ops prs = true ∧ K E H
  | i, acc, prs, o :: rest, E, H, K => ∀ u b, match fStep P ρ u b ops o E (fun t => hget t H) with
    | some (p, a, ch) => p ∧ vcX P ρ ops (i + 1) (accC i (rdT E o) (chT ch) acc) (prsC i (rdT E o, chT ch) acc prs) rest (put E o.dst a) (happ ch H) K
    | none => False
@[congr] theorem vcX_congr {P : Program} {ρ : Nat → Option CR} {ops : List Oper} {i i' : Nat} {acc acc' : List (Nat × List Nat × Option Nat)} {prs prs' : List (Nat × Nat)} {l l' : List Oper} {E : Env} {H H' : Heap} {K : Env → Heap → Prop} {z : Prop} (_ : (True ∧ True) = z)
    (h1 : i = i') (h2 : acc = acc') (h3 : prs = prs') (h4 : H = H') : vcX P ρ ops i acc prs l E H K = vcX P ρ ops i' acc' prs' l E H' K := by rw [h1, h2, h3, h4]
theorem vcX_D {ρ : Nat → Option CR} {ops : List Oper} {K : Env → Heap → Prop} : ∀ (l : List Oper) (i : Nat) (acc : List (Nat × List Nat × Option Nat)) (prs : List (Nat × Nat)) (E : Env) (H : Heap), vcX P ρ ops i acc prs l E H K →
    chkD ops prs = true ∧ ∀ accD : List (Nat × List Nat × Option Nat), (∀ z ∈ accD, z ∈ acc ∨ z.2 = ([], none)) → vcD P ρ ops i accD l E H K
  | [], i, acc, prs, E, H, h => ⟨h.1, fun _ _ => h.2⟩
  | o :: l, i, acc, prs, E, H, h => by
    simp only [vcX] at h
    constructor
    · have h0 := h .nilIface 0
      split at h0
      · exact (prsC_chk acc prs (vcX_D l _ _ _ _ _ h0.2).1).1
      · exact h0.elim
    · intro accD hacc
      simp only [vcD]
      intro u b
      have h0 := h u b
      split at h0
      · rename_i p a ch hs
        rw [hs]
        obtain ⟨k1, k2⟩ := vcX_D l _ _ _ _ _ h0.2
        obtain ⟨-, k3⟩ := prsC_chk acc prs k1
        refine ⟨h0.1, List.all_eq_true.2 fun z hz => ?_, k2 _ fun z hz => ?_⟩
        · rcases hacc z hz with h1 | h1
          · exact k3 z h1
          · rw [h1]
            have : tagC ([], none) (rdT E o, chT ch) = false := by
              cases hc : chT ch <;> simp [tagC]
            rw [this, dOr_f]
        · rcases List.mem_cons.1 hz with rfl | hz
          · generalize rdT E o = r
            generalize chT ch = c
            cases r with
            | nil => cases c with
              | none => exact .inr rfl
              | some t => exact .inl (by simp)
            | cons t r => exact .inl (by simp)
          · rcases hacc z hz with h1 | h1
            · left
              generalize rdT E o = r
              generalize chT ch = c
              cases r with
              | nil => cases c with
                | none => exact h1
                | some t => simp [h1]
              | cons t r => simp [h1]
            · exact .inr h1
      · exact h0.elim
theorem V.drawX {n : Nat} {id : Nat} {ops : Array Oper} {E : Env} {H : Heap} {Q : PostQ} (ρ : Nat → Option CR) (hm : P.follows .mixedOrders = true) (hd : depB ops.toList = true) (hn : (H.map (·.1)).Nodup)
    (h : vcX P ρ ops.toList 0 [] [] ops.toList E H fun E' H' => Q .normal E' H') : V ⟨P, none, n⟩ (.region id ops true) E H Q :=
  V.draw ρ hm hd hn ((vcX_D _ _ _ _ _ _ h).2 [] (by simp))
attribute [simp] vcX
end Go.Proofs.YtdnkpogfcpjkpaaGreatDoor
end

section
namespace Go.Proofs.YtdnkpogfcpjkpaaGreatDoor
variable {P : Program}
def restO : Nat → Code → Option Code
  | 0, c => some c
  | k + 1, .seq _ b => restO k b
  | _, _ => none
def restF (f : Func) (k : Nat) : Option Code := match f.body with
  | some c => restO k c
  | none => none
def restC (f : Func) (k : Nat) : Code := (restF f k).getD .skip
theorem vc_rest {f : Func} {k : Nat} {c : Code} {C : Cfg} {E : Env} {H : Heap} {Q : PostQ} (h : restF f k = some c) (hv : vcC C c E H Q) : vcC C (restC f k) E H Q := by
  unfold restC
  rw [h]
  exact hv
theorem vc_of_rest {f : Func} {k : Nat} {c : Code} {C : Cfg} {E : Env} {H : Heap} {Q : PostQ} (h : restF f k = some c) (hv : vcC C (restC f k) E H Q) : vcC C c E H Q := by
  unfold restC at hv
  rw [h] at hv
  exact hv
def vcN (C : Cfg) : Nat → Code → Env → Heap → PostQ → Prop
  | 0, c, E, H, Q => V C c E H Q
  | k + 1, .seq a b, E, H, Q => vcC C a E H fun e E' H' => match e with
    | .normal => vcN C k b E' H' Q
    | .exit i => Q (.exit i) E' H'
    | .ret => Q .ret E' H'
    | _ => False
  | _ + 1, c, E, H, Q => vcC C c E H Q
theorem vcN_ok {C : Cfg} : ∀ (k : Nat) (c : Code) (E : Env) (H : Heap) (Q : PostQ), fitsC C.n c = true → vcN C k c E H Q → W C c E H Q
  | 0, c, E, H, Q, hf, h => h hf
  | k + 1, c, E, H, Q, hf, h => by
    cases c with
    | seq a b =>
      simp only [fitsC, Bool.and_eq_true] at hf
      refine W.seq ((vcC_ok a E H _ hf.1 h).mono ?_)
      intro e E' H' hq
      cases e with
      | normal => exact vcN_ok k b E' H' Q hf.2 hq
      | exit i => exact hq
      | ret => exact hq
      | goto l => exact hq
      | panic c => exact hq
      | outgrown => exact hq
    | _ => exact vcC_ok _ E H Q hf h
theorem V.cut {C : Cfg} {c : Code} {E : Env} {H Hs : Heap} {Q : PostQ} (kv : List (Nat × A)) (hE : ∀ p ∈ kv, wk (E p.1) p.2) (hH : subN Hs H) (h : vcC C c (hdE kv []) Hs Q) : V C c E H Q := by
  intro hf x act H0 ms hi he
  refine vcC_ok c _ _ _ hf h x act H0 ms (subN_inv hH hi) ⟨he.defers, he.size, ?_⟩
  exact sets_wk he.slot [] _ (by simp) (sets_wk he.slot kv _ hE fun t => by simp [anyE, D])
theorem V.cutN {C : Cfg} (k : Nat) {c : Code} {E : Env} {H Hs : Heap} {Q : PostQ} (kv : List (Nat × A)) (hE : ∀ p ∈ kv, wk (E p.1) p.2) (hH : subN Hs H) (h : vcN C k c (hdE kv []) Hs Q) : V C c E H Q := by
  intro hf x act H0 ms hi he
  refine vcN_ok k c _ _ _ hf h x act H0 ms (subN_inv hH hi) ⟨he.defers, he.size, ?_⟩
  exact sets_wk he.slot [] _ (by simp) (sets_wk he.slot kv _ hE fun t => by simp [anyE, D])
theorem vcN_rest {f : Func} {j k : Nat} {c : Code} {C : Cfg} {E : Env} {H : Heap} {Q : PostQ} (h : restF f j = some c) (hv : vcN C k c E H Q) : vcN C k (restC f j) E H Q := by
  unfold restC
  rw [h]
  exact hv
theorem vcN_of_rest {f : Func} {j k : Nat} {c : Code} {C : Cfg} {E : Env} {H : Heap} {Q : PostQ} (h : restF f j = some c) (hv : vcN C k (restC f j) E H Q) : vcN C k c E H Q := by
  unfold restC at hv
  rw [h] at hv
  exact hv
theorem callS_cut (k : Nat) {g : FuncId} {fn : Func} {c : Code} {n : Nat} {rs : List ResultVar} {az : List A} {H : Heap} {K : A → Heap → Prop} (hf : P.funcs[g]? = some fn) (hb : fn.body = some c) (hn : fn.ntmps = n)
    (hr : fn.results = rs.toArray) (hnm : (fn.name == "runtime.NumGoroutine") = false) (hl : az.length ≤ n) (hfit : fitsC n c = true)
    (h : vcN ⟨P, none, n⟩ k c (envOf az) H (RetV P rs K)) : CallS P g az H K := callS_ofW hf hb hn hr hnm hl hfit (vcN_ok k c _ H _ hfit h)
theorem callFz_cut (k : Nat) {g : FuncId} {fn : Func} {c : Code} {n : Nat} {rs : List ResultVar} {az : List A} {r : A} (hf : P.funcs[g]? = some fn) (hb : fn.body = some c) (hn : fn.ntmps = n)
    (hr : fn.results = rs.toArray) (hnm : (fn.name == "runtime.NumGoroutine") = false) (hl : az.length ≤ n) (hfit : fitsC n c = true)
    (h : vcN ⟨P, none, n⟩ k c (envOf az) [] (RetV P rs fun r' H' => (frz H' r').1 ∧ (frz H' r').2 = r)) : CallFn P g az r :=
  (callS_ofW hf hb hn hr hnm hl hfit (vcN_ok k c _ [] _ hfit h)).frz fun _ _ h => h
attribute [simp] vcN
end Go.Proofs.YtdnkpogfcpjkpaaGreatDoor
end

section
namespace Go.Proofs.YtdnkpogfcpjkpaaGreatDoor
variable {P : Program}
theorem CallS.inv {g : FuncId} {az az' : List A} {H H' : Heap} {K : A → Heap → Prop} (hi : ∀ x H0, Inv x (H ++ H0) → Inv x (H' ++ H0)) (ha : ∀ x vs, Ds x az vs → Ds x az' vs) (h : CallS P g az' H' K) : CallS P g az H K :=
  ⟨h.1, fun x args H0 hx hd => h.2 x args H0 (hi x H0 hx) (ha x _ hd)⟩
theorem V.inv {C : Cfg} {c : Code} {E : Env} {H H' : Heap} {Q : PostQ} (hi : ∀ x H0, Inv x (H ++ H0) → Inv x (H' ++ H0)) (h : V C c E H' Q) : V C c E H Q := by
  intro hf x act H0 ms hx he
  exact h hf x act H0 ms (hi x _ hx) he
end Go.Proofs.YtdnkpogfcpjkpaaGreatDoor
end

section
namespace Go.Proofs.YtdnkpogfcpjkpaaGreatDoor
variable {P : Program}
end Go.Proofs.YtdnkpogfcpjkpaaGreatDoor
end
