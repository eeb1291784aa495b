/- Texts joined by a program: Js, Li, Lj, Lk, Lt. -/
import Derived.ProofKit
import Derived.ReadAgain
import Derived.WalkKit
import Derived.OpenShut
import Derived.Deep.Frames
import Derived.ChangeMaps5
import Derived.Lay
import Derived.Test.YtdnkpogfcpjkpaaGreatDoorW24
import Derived.Test.YtdnkpogfcpjkpaaGreatDoorW10
import Derived.Test.YtdnkpogfcpjkpaaGreatDoorW5
set_option linter.unusedSimpArgs false
set_option linter.unusedVariables false
set_option linter.unnecessarySimpa false

section
namespace Go.Proofs.YtdnkpogfcpjkpaaGreatDoor
set_option maxHeartbeats 8000000
set_option maxRecDepth 10000
set_option maxRecDepth 10000 in
theorem parts_main {c : Control} (hc : OkC c) (hz : checkC c = 0) (hm : manyM (dM c) = false) (hR : OkR c) (hF : CallFn Tryz.prog 7 [aC c] (aB true)) (hK : CallFn Tryz.prog 22 [aC c] (aI 0)) (c1 : CallFn Tryz.prog 9 [aC c] (.tuple [aCirc ((dM c).parts, pipesM (dM c)), aI 0]))
    (c2 : CallFn Tryz.prog 11 [aC c] (.tuple [aI ((dM c).parts.length : Nat), aI 0])) (hcr : CallFn Tryz.prog 23 [aCirc ((dM c).parts, pipesM (dM c))] (aI 0)) (ha : CallFn Tryz.prog 8 [] (aB true)) (hps : (dM c).parts.length ≤ 64) :
    CallFn Tryz.prog 6 [aC c] (aB true) := by
  have hparts : ∀ i : Nat, i < c.signals.length → CallFn Tryz.prog 16 [aC c, aI (firstC c + i)] (.tuple [aIs (ofSig (dM c).parts i (dM c).parts.length), aI 0]) := fun i hi => by
    have hp := Parts_fn c (firstC c + i) hc ((inR_i64 _).2 ⟨by have := hR.act; have := hR.inp; unfold firstC; omega, by have := hR.act; have := hR.inp; have := hR.len; unfold firstC; omega⟩)
    have e : partsQ37 c (firstC c + i) = (ofSig (dM c).parts i (dM c).parts.length, 0) := by
      unfold partsQ37
      rw [if_neg (by simp [hz]), if_neg (by simp [hm]), if_neg (by unfold countC; unfold firstC; omega)]
      rw [show firstC c + (i : Int) - firstC c = i by omega]
    rw [e] at hp
    exact hp
  have hports : ∀ i : Nat, i < c.inputs.length → ∃ (p : Nat) (y : Made) (s : List UInt8), CallFn Tryz.prog 14 [aC c, aI (2 * c.actuators + i)] (.tuple [.record (encPort (p, [50])), aB true, aI 0]) ∧ c.inputs[i]? = some s ∧ (dM c).parts[p]? = some y ∧ y.kind = 7 ∧ y.name = s := fun i hi => by
    have hT := whole_fullT (c := c) hR.act.1
    obtain ⟨y, y1, y2, y3, _⟩ := pos_at hz (hT.inp i hi)
    have hs : c.inputs[i]? = some (c.inputs.getD i []) := by rw [List.getD_eq_getElem?_getD, List.getElem?_eq_getElem hi]; rfl
    have hp := Port_fn c (2 * c.actuators + i) hc ((inR_i64 _).2 ⟨by have := hR.act; omega, by have := hR.act; have := hR.inp; omega⟩)
    have em : portM c (wholeM c).gates (2 * c.actuators + i) = ⟨c.inputs.getD i [], [50]⟩ := by
      unfold portM
      rw [if_neg (by omega), if_pos (by unfold firstC; omega), show (2 * c.actuators + (i : Int) - 2 * c.actuators).toNat = i by omega]
    have e : portQ37 c (2 * c.actuators + i) = ((posL (dM c).parts (c.inputs.getD i []), [50]), true, 0) := by
      unfold portQ37
      rw [if_neg (by simp [hz]), if_neg (by simp [hm]), if_neg (by have := hR.act; unfold countC; omega), em, if_neg (by simp)]
      rfl
    rw [e] at hp
    exact ⟨_, y, _, hp, hs, y1, y2, y3⟩
  have hall := all_parts hz
  have hact := hR.act
  have hinp := hR.inp
  have hsl := hR.len
  generalize (dM c).parts = ps at *
  generalize pipesM (dM c) = l at *
  refine callFz_cut 3 Tryz.func6 rfl Tryz.ntmps6 (rs := [.tmp 2]) rfl (by kernel_rfl) (by simp) (by kernel_rfl) ?_
  simp
  refine hF.s ?_
  simp
  refine GCall.fn (aI 0) (fun _ => ⟨trivial, hK⟩) ?_
  simp
  refine c1.s ?_
  simp
  intro b3
  refine V.cutV [(1, .rptr (encC c)), (2, aB false), (3, .ptr 3 b3 0), (4, aI 0)] (Hs := [(3, .box b3 ([L.sl (ps.map encPart), .sl (l.map encPipe)].map A.dat))]) (by simp) (by simp) (V.of_vcN 3 ?_)
  simp [encC]
  refine c2.s ?_
  simp
  refine GCall.fn (aI 0) (fun _ => ⟨trivial, hcr⟩) ?_
  simp
  refine V.cutV [(1, .rptr (encC c)), (2, aB false), (3, .ptr 3 b3 0), (5, aI ps.length)] (Hs := [(3, .box b3 ([L.sl (ps.map encPart), .sl (l.map encPipe)].map A.dat))]) (by simp) (by simp) (V.of_vcN 3 ?_)
  have hst := seen_start ps
  simp [encC]
  intro u
  refine ⟨by omega, by omega, by omega, by omega, ?_⟩
  have hle : ∀ i, ps.countP (belowK i) ≤ ps.length := fun i => List.countP_le_length
  have h0 : ps.countP (belowK 0) = 0 := by
    rw [List.countP_eq_zero]
    intro p _
    simp [belowK]
  refine V.forI (σ := Unit) c.signals.length [1, 3, 5, 7, 75] (by simp; exact rfl) (fun i _ => [(2, aB false), (8, aI (1 + 4 * c.actuators + c.inputs.length + (ps.countP (belowK i) : Nat))), (76, aI i)]) (fun i _ => [(64, .seq u 4 1 ((seenL ps i 0).map rB))]) (fun _ _ => True) () trivial (by simp [h0]) ⟨by simp; exact rfl, by simp [hst]⟩ ?_ ?_
  · rintro i - hi -
    have hce := ofSig_all ps i
    have hcs := count_sum ps i
    refine vc_of_part rfl (sigs_row (hparts i hi) (signals_fn c hR.sm) rfl hps hi hsl (by unfold firstC; omega) (by have := hle i; omega) fun E' H' q1 q2 q3 => ⟨(), trivial, ?_, q2, by rw [q3]; simp⟩)
    rw [show (1 + 4 * c.actuators + c.inputs.length + (ps.countP (belowK (i + 1)) : Nat) : Int) = 1 + 4 * c.actuators + c.inputs.length + (ps.countP (belowK i) : Nat) + ((ofSig ps i ps.length).length : Nat) by rw [hcs, hce]; omega]
    exact q1
  · rintro - -
    simp
    refine V.cutV [(1, .rptr (encC c)), (2, aB false), (3, .ptr 3 b3 0), (5, aI ps.length), (8, aI ps.length)] (Hs := [(3, .box b3 ([L.sl (ps.map encPart), .sl (l.map encPipe)].map A.dat))]) (by simp; omega) (by simp) (V.of_vc ?_)
    simp [encC]
    refine V.forI (σ := Unit) c.inputs.length [1, 3, 5, 8, 119, 120] (by simp; exact rfl) (fun i _ => [(2, aB false), (121, aI i)]) (fun _ _ => [(3, .box b3 ([L.sl (ps.map encPart), .sl (l.map encPipe)].map A.dat))]) (fun _ _ => True) () trivial (by simp) ⟨by simp; exact rfl, by simp⟩ ?_ ?_
    · rintro i - hi -
      obtain ⟨p, y, s, d1, d2, d3, d4, d5⟩ := hports i hi
      exact vc_of_part rfl (ins_row37 d1 hps hi (by omega) (by omega) d2 d3 d4 d5 fun E' H' q1 q2 q3 => ⟨(), trivial, q1, q2, q3⟩)
    · rintro - -
      simp
      refine GCall.fn (aB true) (fun _ => ⟨trivial, ha⟩) ?_
      simp
theorem RealizeParts_fn (c : Control) (hc : OkC c) : CallFn Tryz.prog 6 [aC c] (aB true) := by
  have ha := awake37_fn
  have hF := Few_fn c hc
  by_cases hfw : fewC c = true
  · have hpm := few_c hfw
    have hK := CheckR_fn c hc hpm.1 hpm.2
    rw [hfw] at hF
    by_cases hz : checkC c = 0
    · have c1 := Circuit_fn c hc
      have c2 := Count37_fn c hc
      cases hm : manyM (dM c) with
      | true =>
        rw [show circuitQ c = (([], []), 5) by simp [circuitQ, hz, hm]] at c1
        rw [show countR c = ((countM c : Int), 0) by unfold countR; rw [hz]; rfl] at c2
        rw [hz] at hK
        refine callFz_cut 3 Tryz.func6 rfl Tryz.ntmps6 (rs := [.tmp 2]) rfl (by kernel_rfl) (by simp) (by kernel_rfl) ?_
        simp
        refine hF.s ?_
        simp
        refine GCall.fn (aI 0) (fun _ => ⟨trivial, hK⟩) ?_
        simp
        refine c1.s ?_
        simp
        intro b3
        refine V.cutV [(1, .rptr (encC c)), (2, aB false), (3, .ptr 3 b3 0), (4, aI 5)] (Hs := []) (by simp) (by simp) (V.of_vcN 2 ?_)
        simp [encC]
        refine c2.s ?_
        simp
        refine GCall.fn (aB true) (fun _ => ⟨trivial, ha⟩) ?_
        simp
      | false =>
        have hR := okR_of hz
        have hcr := CircCheck_fn (circ_right hz hm)
        have hmm := hm
        unfold manyM at hmm
        simp only [Bool.or_eq_false_iff, decide_eq_false_iff_not] at hmm
        have hps : (dM c).parts.length ≤ 64 := Nat.le_of_not_lt hmm.1
        have hcm : countM c = (dM c).parts.length := by rw [(dM_perm hz).length_eq, whole_len]
        rw [show circuitQ c = (((dM c).parts, pipesM (dM c)), 0) by simp [circuitQ, hz, hm]] at c1
        rw [show countR c = ((countM c : Int), 0) by unfold countR; rw [hz]; rfl, hcm] at c2
        rw [hz] at hK
        refine parts_main hc hz hm hR hF hK c1 c2 hcr ha hps
    · refine callFz_of Tryz.func6 rfl Tryz.ntmps6 (rs := [.tmp 2]) rfl (by kernel_rfl) (by simp) (by kernel_rfl) ?_
      simp
      refine hF.s ?_
      simp
      refine GCall.fn (aI (checkC c)) (fun _ => ⟨trivial, hK⟩) ?_
      simp [hz]
      refine ha.s ?_
      simp
  · refine callFz_of Tryz.func6 rfl Tryz.ntmps6 (rs := [.tmp 2]) rfl (by kernel_rfl) (by simp) (by kernel_rfl) ?_
    simp
    refine hF.s ?_
    simp [hfw]
    refine GCall.fn (aI 0) (fun h => h.elim) ?_
    simp
    refine ha.s ?_
    simp
end Go.Proofs.YtdnkpogfcpjkpaaGreatDoor
end

section
namespace Go.Proofs.YtdnkpogfcpjkpaaGreatDoor
variable {P : Program} {H : Type} {enc : TypeId × Value → H}
inductive Lf where
  | int (k : IntKind)
  | bool
  | str
  | sl (e : TypeId)
def leavesF (P : Program) (g : TypeId → Option (List Lf)) : List Field → Nat → Option (List Lf)
  | [], _ => some []
  | f :: fs, off => match g f.type with
    | some a => if f.offset = off ∧ P.cellsOf f.type = a.length then (leavesF P g fs (off + a.length)).map (a ++ ·) else none
    | none => none
def leavesT (P : Program) : Nat → TypeId → Option (List Lf)
  | 0, _ => none
  | n + 1, t => match P.underlying t with
    | some .bool => some [.bool]
    | some (.int k) => some [.int k]
    | some .string => some [.str]
    | some (.slice e) => some [.sl e]
    | some (.struct fs) => match leavesF P (leavesT P n) fs.toList 0 with
      | some a => if a.length = P.cellsOf t then some a else none
      | none => none
    | _ => none
def inT (T : List TypeId) : Lf → Bool
  | .sl e => T.contains e
  | _ => true
def goodT (P : Program) (K : Nat) (T : List TypeId) : Bool := T.all fun e => match leavesT P K e with
  | some a => a.all (inT T) && decide (a.length = P.cellsOf e) && decide (0 < a.length)
  | none => false
def All2 {α β : Type} (R : α → β → Prop) : List α → List β → Prop
  | [], [] => True
  | a :: r, b :: s => R a b ∧ All2 R r s
  | _, _ => False
theorem All2.append {α β : Type} {R : α → β → Prop} : ∀ {a : List α} {b : List β} {c : List α} {d : List β}, All2 R a b → All2 R c d → All2 R (a ++ c) (b ++ d)
  | [], [], _, _, _, h => h
  | _ :: _, _ :: _, _, _, h1, h2 => ⟨h1.1, All2.append h1.2 h2⟩
  | [], _ :: _, _, _, h, _ => h.elim
  | _ :: _, [], _, _, h, _ => h.elim
theorem All2.len {α β : Type} {R : α → β → Prop} : ∀ {a : List α} {b : List β}, All2 R a b → a.length = b.length
  | [], [], _ => rfl
  | _ :: _, _ :: _, h => by simp [All2.len h.2]
  | [], _ :: _, h => h.elim
  | _ :: _, [], h => h.elim
theorem All2.imp {α β : Type} {R R' : α → β → Prop} (hi : ∀ a b, R a b → R' a b) : ∀ {a : List α} {b : List β}, All2 R a b → All2 R' a b
  | [], [], _ => trivial
  | _ :: _, _ :: _, h => ⟨hi _ _ h.1, All2.imp hi h.2⟩
  | [], _ :: _, h => h.elim
  | _ :: _, [], h => h.elim
def OkV (P : Program) (K : Nat) : Nat → Lf → L → Prop
  | _, .int k, l => ∃ n, l = .int k n ∧ (Lit.int k n).wf = true
  | _, .bool, l => ∃ b, l = .bool b
  | _, .str, l => ∃ s, l = .str s ∧ s.length ≤ maxLen
  | 0, .sl _, _ => False
  | n + 1, .sl e, l => ∃ rows : List (List L), l = .sl rows ∧ rows.length ≤ maxLen ∧ ∀ r ∈ rows, ∃ lfs, leavesT P K e = some lfs ∧ All2 (OkV P K n) lfs r
theorem OkV.succ {K : Nat} : ∀ {n : Nat} {f : Lf} {l : L}, OkV P K n f l → OkV P K (n + 1) f l
  | 0, .sl _, _, h => by simp [OkV] at h
  | n + 1, .sl e, l, h => by
    simp only [OkV] at h
    obtain ⟨rows, e1, h1, h2⟩ := h
    simp only [OkV]
    refine ⟨rows, e1, h1, fun r hr => ?_⟩
    obtain ⟨lfs, h3, h4⟩ := h2 r hr
    exact ⟨lfs, h3, h4.imp fun a b => OkV.succ⟩
  | 0, .int _, _, h => by simpa [OkV] using h
  | 0, .bool, _, h => by simpa [OkV] using h
  | 0, .str, _, h => by simpa [OkV] using h
  | n + 1, .int _, _, h => by simpa [OkV] using h
  | n + 1, .bool, _, h => by simpa [OkV] using h
  | n + 1, .str, _, h => by simpa [OkV] using h
theorem RdLs.app {x : X} : ∀ {a : List L} {u : List Value} {b : List L} {v : List Value}, RdLs x a u → RdLs x b v → RdLs x (a ++ b) (u ++ v)
  | [], [], _, _, _, h => h
  | _ :: _, _ :: _, _, _, h1, h2 => by simp only [RdLs] at h1; simp only [List.cons_append, RdLs]; exact ⟨h1.1, RdLs.app h1.2 h2⟩
  | [], _ :: _, _, _, h, _ => by simp [RdLs] at h
  | _ :: _, [], _, _, h, _ => by simp [RdLs] at h
def X0 (W : World) : X := ⟨W, fun b => b < W.heap.size⟩
theorem mapM_get {α β : Type} {f : α → Option β} : ∀ {l : List α} {r : List β}, l.mapM f = some r → r.length = l.length ∧ ∀ (i : Nat) (x : α), l[i]? = some x → f x = r[i]?
  | [], r, h => by
    simp only [List.mapM_nil, Option.pure_def, Option.some.injEq] at h
    subst h
    simp
  | a :: l, r, h => by
    rw [List.mapM_cons] at h
    simp only [Option.bind_eq_bind, Option.bind_eq_some_iff, Option.pure_def, Option.some.injEq] at h
    obtain ⟨b, h1, r', h2, rfl⟩ := h
    obtain ⟨k1, k2⟩ := mapM_get h2
    refine ⟨by simp [k1], fun i x hx => ?_⟩
    cases i with
    | zero => simp only [List.getElem?_cons_zero, Option.some.injEq] at hx ⊢; subst hx; exact h1
    | succ i => simpa using k2 i x (by simpa using hx)
theorem cells_get {W : World} {a : Addr} {n : Nat} {cs : List Value} (h : W.cells? 0 a n = some cs) : cs.length = n ∧ ∀ j, j < n → W.cell? (a.add j) = cs[j]? := by
  simp only [World.cells?, Nat.zero_le, if_true] at h
  obtain ⟨h1, h2⟩ := mapM_get h
  exact ⟨by simpa using h1, fun j hj => h2 j j (by simp [hj])⟩
theorem cell_spot {W : World} {a : Addr} {v : Value} (h : W.cell? a = some v) : a.spot = none ∧ a.block < W.heap.size := by
  unfold World.cell? at h
  split at h
  · rename_i c _ _ hb
    refine ⟨?_, (Array.getElem?_eq_some_iff.1 hb).1⟩
    split at h
    · cases h
    · rename_i hs; simpa using hs
  · cases h
theorem list_of {α : Type} {p : Nat → α → Prop} : ∀ (n : Nat), (∀ i, i < n → ∃ a, p i a) → ∃ l : List α, l.length = n ∧ ∀ (i : Nat) (a : α), l[i]? = some a → p i a
  | 0, _ => ⟨[], rfl, by simp⟩
  | n + 1, h => by
    obtain ⟨l, h1, h2⟩ := list_of n fun i hi => h i (by omega)
    obtain ⟨a, ha⟩ := h n (by omega)
    refine ⟨l ++ [a], by simp [h1], fun i b hb => ?_⟩
    rcases Nat.lt_trichotomy i n with hi | hi | hi
    · exact h2 i b (by rwa [List.getElem?_append_left (by omega)] at hb)
    · subst hi
      rw [List.getElem?_append_right (by omega)] at hb
      simp [h1] at hb
      subst hb; exact ha
    · rw [List.getElem?_eq_none (by simp [h1]; omega)] at hb
      cases hb
theorem rdRows_at {x : X} {b : Nat} (sz : Nat) : ∀ (rows : List (List L)) (off : Nat), (∀ i r, rows[i]? = some r → r.length = sz ∧ RdCells x r b (off + i * sz)) → RdRows x rows b off
  | [], _, _ => by simp [RdRows]
  | r :: rs, off, h => by
    obtain ⟨h1, h2⟩ := h 0 r (by simp)
    simp only [RdRows]
    refine ⟨by simpa using h2, rdRows_at sz rs (off + r.length) fun i q hq => ?_⟩
    obtain ⟨h3, h4⟩ := h (i + 1) q (by simpa using hq)
    refine ⟨h3, ?_⟩
    rw [h1, show off + sz + i * sz = off + (i + 1) * sz by rw [Nat.add_mul]; omega]
    exact h4
theorem read_fields {W : World} {K n : Nat} {T : List TypeId} {k : Nat} (ih : ∀ t cs x, DataW.trod enc P W 0 (fun _ => true) true n t cs = some x → ∀ lfs, leavesT P k t = some lfs → lfs.all (inT T) = true → ∃ ls, RdLs (X0 W) ls cs ∧ All2 (OkV P K n) lfs ls) (cs : List Value) :
    ∀ (fs : List Field) (off : Nat) (xs : List (DataW H × List MemPlace)), (fs.mapM fun f => DataW.trod enc P W 0 (fun _ => true) true n f.type ((cs.drop f.offset).take (P.cellsOf f.type))) = some xs →
      ∀ lfs, leavesF P (leavesT P k) fs off = some lfs → lfs.all (inT T) = true → ∃ ls, RdLs (X0 W) ls ((cs.drop off).take lfs.length) ∧ All2 (OkV P K n) lfs ls
  | [], off, xs, h, lfs, hl, _ => by
    simp only [leavesF, Option.some.injEq] at hl
    subst hl
    exact ⟨[], by simp [RdLs], trivial⟩
  | f :: fs, off, xs, h, lfs, hl, hT => by
    simp only [leavesF] at hl
    split at hl <;> try (simp at hl; done)
    rename_i a ha
    split at hl <;> try (simp at hl; done)
    rename_i ho
    simp only [Option.map_eq_some_iff] at hl
    obtain ⟨b, hb, rfl⟩ := hl
    rw [List.mapM_cons] at h
    simp only [Option.bind_eq_bind, Option.bind_eq_some_iff, Option.pure_def, Option.some.injEq] at h
    obtain ⟨x, h1, xs', h2, _⟩ := h
    rw [List.all_append, Bool.and_eq_true] at hT
    obtain ⟨ls1, r1, o1⟩ := ih _ _ _ h1 a ha hT.1
    obtain ⟨ls2, r2, o2⟩ := read_fields ih cs fs (off + a.length) xs' h2 b hb hT.2
    rw [ho.1, ho.2] at r1
    refine ⟨ls1 ++ ls2, ?_, o1.append o2⟩
    have : (cs.drop off).take (a ++ b).length = (cs.drop off).take a.length ++ (cs.drop (off + a.length)).take b.length := by
      rw [List.length_append, List.take_add, List.drop_drop]
    rw [this]
    exact r1.app r2
theorem read_ok {W : World} {K : Nat} {T : List TypeId} (hT : goodT P K T = true) : ∀ (n : Nat) (t : TypeId) (cs : List Value) (x : DataW H × List MemPlace), DataW.trod enc P W 0 (fun _ => true) true n t cs = some x →
    ∀ (k : Nat) (lfs : List Lf), leavesT P k t = some lfs → lfs.all (inT T) = true → ∃ ls, RdLs (X0 W) ls cs ∧ All2 (OkV P K n) lfs ls
  | 0, t, cs, x, h, _, _, _, _ => by simp [DataW.trod] at h
  | n + 1, t, cs, x, h, 0, lfs, hl, _ => by simp [leavesT] at hl
  | n + 1, t, cs, x, h, k + 1, lfs, hl, hin => by
    have ih := read_ok (W := W) hT n
    have h0 := h
    simp only [leavesT] at hl
    split at hl <;> try (simp at hl; done)
    · rename_i hu
      simp only [Option.some.injEq] at hl; subst hl
      obtain ⟨b, rfl, _⟩ := DataW.trod_bool hu h
      exact ⟨[.bool b], by simp [RdLs, RdL], by simp [All2, OkV]⟩
    · rename_i q hu
      simp only [Option.some.injEq] at hl; subst hl
      obtain ⟨m, rfl, _, hw⟩ := DataW.trod_int hu h
      exact ⟨[.int q m], by simp [RdLs, RdL], by simp [All2, OkV, hw]⟩
    · rename_i hu
      simp only [Option.some.injEq] at hl; subst hl
      obtain ⟨b, rfl, _, hw⟩ := DataW.trod_string hu h
      refine ⟨[.str b.data.toList], by simp only [RdLs, RdL, and_true], ?_⟩
      simp only [All2, OkV, and_true]
      exact ⟨_, rfl, by rw [Array.length_toList]; exact hw⟩
    · rename_i e hu
      simp only [Option.some.injEq] at hl; subst hl
      have he : T.contains e = true := by simpa [inT] using hin
      have hg := List.all_eq_true.1 hT e (by simpa using he)
      split at hg <;> try (cases hg; done)
      rename_i lfe hle
      simp only [Bool.and_eq_true, decide_eq_true_eq] at hg
      obtain ⟨⟨g1, g2⟩, g3⟩ := hg
      rcases DataW.trod_slice hu h0 with ⟨rfl, _⟩ | ⟨a, len, cap, elems, rest, n', hn, rfl, _, _, hlc, hcm, hel, hrd, hsp, _⟩
      · exact ⟨[.sl []], by simp [RdLs, RdL], by simp [All2, OkV]⟩
      · obtain rfl : n = n' := by omega
        have hidx : ∀ m, (W.cells? 0 (a.add (m * P.cellsOf e)) (P.cellsOf e)).bind (DataW.trod enc P W 0 (fun _ => true) true n e) = none ∨ ∃ c y, W.cells? 0 (a.add (m * P.cellsOf e)) (P.cellsOf e) = some c ∧ DataW.trod enc P W 0 (fun _ => true) true n e c = some y := by
          intro m
          cases hm : (W.cells? 0 (a.add (m * P.cellsOf e)) (P.cellsOf e)).bind (DataW.trod enc P W 0 (fun _ => true) true n e) with
          | none => exact .inl rfl
          | some y =>
            obtain ⟨c, h2, h3⟩ := Option.bind_eq_some_iff.1 hm
            exact .inr ⟨c, y, h2, h3⟩
        by_cases hcap : cap = 0
        · subst hcap
          obtain rfl : len = 0 := by omega
          refine ⟨[.sl []], ?_, by simp [All2, OkV]⟩
          simp only [RdLs, RdL]
          exact ⟨.inr (.inr ⟨a, by simp⟩), trivial⟩
        · have hspot : a.spot = none := by
            have h0 : ∃ c y, W.cells? 0 (a.add (0 * P.cellsOf e)) (P.cellsOf e) = some c ∧ DataW.trod enc P W 0 (fun _ => true) true n e c = some y := by
              rcases hidx 0 with h1 | h1
              · exfalso
                by_cases hl0 : len = 0
                · have h2 := (hsp rfl).2 0 (by omega)
                  rw [hl0, Nat.zero_add] at h2
                  rw [h1] at h2
                  have h3 := (hsp rfl).1
                  rw [List.getElem?_eq_getElem (by omega)] at h2
                  cases h2
                · have h2 := hrd 0 (by omega)
                  rw [h1, List.getElem?_eq_getElem (by omega)] at h2
                  cases h2
              · exact h1
            obtain ⟨c, y, h2, h3⟩ := h0
            obtain ⟨c1, c2⟩ := cells_get h2
            have h00 := c2 0 (by omega)
            rw [List.getElem?_eq_getElem (by omega), Nat.zero_mul] at h00
            exact (cell_spot h00).1
          obtain ⟨b, off, sp⟩ := a
          simp only at hspot
          subst hspot
          have hcell : ∀ i, i < len → ∃ ls : List L, ls.length = P.cellsOf e ∧ RdCells (X0 W) ls b (off + i * P.cellsOf e) ∧ All2 (OkV P K n) lfe ls := by
            intro i hi
            have h1 := hrd i hi
            rw [List.getElem?_eq_getElem (by omega)] at h1
            obtain ⟨c, h2, h3⟩ := Option.bind_eq_some_iff.1 h1
            obtain ⟨c1, c2⟩ := cells_get h2
            obtain ⟨ls, r1, r2⟩ := ih e c _ h3 K lfe hle g1
            have hlen : ls.length = P.cellsOf e := by rw [← r2.len, g2]
            have h00 := c2 0 (by omega)
            rw [List.getElem?_eq_getElem (by omega), add_none, add_none] at h00
            have hs := cell_spot h00
            refine ⟨ls, hlen, rdCells_vals (x := X0 W) hs.2 ls c _ r1 fun j v hv => ?_, r2⟩
            have := c2 j (by rw [← c1]; exact (List.getElem?_eq_some_iff.1 hv).1)
            rw [hv, add_none, add_none] at this
            exact this
          obtain ⟨rows, hr1, hr2⟩ := list_of len hcell
          refine ⟨[.sl rows], ?_, ?_, trivial⟩
          · simp only [RdLs, RdL]
            refine ⟨.inr (.inl ⟨b, off, cap, by rw [hr1], by omega, rdRows_at (P.cellsOf e) rows off fun i r hr => ⟨(hr2 i r hr).1, (hr2 i r hr).2.1⟩⟩), trivial⟩
          · simp only [OkV]
            refine ⟨rows, rfl, by omega, fun r hr => ?_⟩
            obtain ⟨i, hi, rfl⟩ := List.getElem_of_mem hr
            exact ⟨lfe, hle, (hr2 i _ (List.getElem?_eq_getElem hi)).2.2⟩
    · rename_i fs hu
      split at hl <;> try (simp at hl; done)
      rename_i a ha
      split at hl <;> try (simp at hl; done)
      rename_i hal
      simp only [Option.some.injEq] at hl; subst hl
      unfold DataW.trod at h; rw [hu] at h
      simp only at h
      split at h <;> try (simp at h; done)
      rename_i hc
      obtain ⟨xs, h1, _⟩ := Option.map_eq_some_iff.1 h
      obtain ⟨ls, r1, r2⟩ := read_fields (fun t cs x h lfs hl hin => ih t cs x h k lfs hl hin) cs fs.toList 0 xs h1 a ha hin
      refine ⟨ls, ?_, r2.imp fun _ _ => OkV.succ⟩
      rw [hal, ← hc] at r1
      simpa using r1
termination_by n => n
theorem read_arg {W : World} {K : Nat} {T : List TypeId} (hT : goodT P K T = true) {base : Nat} {t : TypeId} {v : Value} {d : DataW H} {ps : List MemPlace} {fs : Array Field} (hu : P.underlying t = some (.struct fs)) {lfs : List Lf}
    (hl : leavesT P K t = some lfs) (hin : lfs.all (inT T) = true) (hval : Value.okWide P W .any base t v) (hd : DataW.Trod enc P W 0 (fun _ => true) true t v d ps) : ∃ ls n, D (X0 W) (.record ls) v ∧ All2 (OkV P K n) lfs ls := by
  obtain ⟨n, hn⟩ := hd
  obtain ⟨ls, h1, h2⟩ := read_ok hT n t _ _ hn K lfs hl hin
  unfold Value.okWide at hval
  rw [hu] at hval
  obtain ⟨cs, rfl, _, _⟩ := hval
  exact ⟨ls, n, by simp only [D]; exact ⟨cs, rfl, by simpa [Value.cells] using h1⟩, h2⟩
theorem lift_list {α : Type} {enc : α → List L} {Ok : α → Prop} : ∀ {rows : List (List L)}, (∀ r ∈ rows, ∃ a, r = enc a ∧ Ok a) → ∃ l : List α, rows = l.map enc ∧ ∀ a ∈ l, Ok a
  | [], _ => ⟨[], rfl, by simp⟩
  | r :: rs, h => by
    obtain ⟨a, rfl, ha⟩ := h r (by simp)
    obtain ⟨l, rfl, hl⟩ := lift_list (rows := rs) fun q hq => h q (by simp [hq])
    refine ⟨a :: l, rfl, fun b hb => ?_⟩
    rcases List.mem_cons.1 hb with rfl | hb
    · exact ha
    · exact hl b hb
theorem wf_i64 {n : Int} (h : (Lit.int .i64 n).wf = true) : -9223372036854775808 ≤ n ∧ n ≤ 9223372036854775807 := by
  simp only [Lit.wf, Bool.and_eq_true, decide_eq_true_eq] at h
  exact h
end Go.Proofs.YtdnkpogfcpjkpaaGreatDoor
end

section
namespace Go.Proofs.YtdnkpogfcpjkpaaGreatDoor
open Go.ChangeShapes Go.WideShapes Go.ChangeAt Go.RowKit
variable {P : Program} {H : Type} {enc : TypeId × Value → H}
theorem X0_inv {W : World} (ht : Tabs (X0 W)) : Inv (X0 W) [] := ⟨⟨fun _ h => h, ht⟩, by simp, by simp, by simp⟩
theorem kept_le {W : World} {y : X} (h : (X0 W).le y) : W.keptBut y.w (fun _ => False) := by
  refine ⟨h.os, h.output, fun i hi => ?_⟩
  rw [show y.w.heap[i]? = W.heap[i]? from (h.keep i hi).2]
  cases W.heap[i]? with
  | none => rfl
  | some o => cases o <;> simp
theorem sameAt_le {W : World} {y : X} (h : (X0 W).le y) {p : MemPlace} (hb : p.block < W.heap.size) : W.sameAt y.w p := by
  cases p with
  | cell b o => exact h.cell hb
  | map b => exact (h.keep b hb).2
theorem frozen_le {W : World} {y : X} (h : (X0 W).le y) {a : Addr} (hb : a.block < W.heap.size) : y.w.frozen? a = W.frozen? a := by
  unfold World.frozen?
  rw [show y.w.heap[a.block]? = W.heap[a.block]? from (h.keep a.block hb).2]
theorem trodAll_carry {w w' : World} {base : Nat} {sp : Nat → Bool} {hd : Bool} : ∀ {ts : List TypeId} {vs : List Value} {ds : List (DataW H)} {ps : List MemPlace},
    DataW.TrodAll enc P w base sp hd ts vs ds ps → (∀ p ∈ ps, w.sameAt w' p) → DataW.TrodAll enc P w' base sp hd ts vs ds ps
  | [], [], [], _, h, _ => h
  | _ :: _, _ :: _, _ :: _, _, ⟨p, q, ⟨n, h1⟩, h2, e⟩, hs => ⟨p, q, ⟨n, DataW.trod_carry _ _ _ _ h1 fun x hx => hs x (by rw [e]; exact List.mem_append_left _ hx)⟩, trodAll_carry h2 (fun x hx => hs x (by rw [e]; exact List.mem_append_right _ hx)), e⟩
  | [], [], _ :: _, _, h, _ => h.elim
  | [], _ :: _, _, _, h, _ => h.elim
  | _ :: _, [], _, _, h, _ => h.elim
  | _ :: _, _ :: _, [], _, h, _ => h.elim
theorem post_le {f : Func} {s : ChangeSpec} {apart fresh handsOn again : Bool} {W : World} {y : X} {args : Array Value} {v : Value} {ds gs : List (DataW H)} {before : List MemPlace}
    (hl : laidOutB P = true) (hm : mapsRowed P = true) (hz : ∀ t e, t < P.types.size → P.underlying t = some (.slice e) → 0 < P.cellsOf e) (hts : ∀ t ∈ f.params.toList, t < P.types.size)
    (hW : DataW.Whole enc P f.params.toList s.vars apart W args.toList ds gs before) (hvs : s.vars = []) (ha : (s.fn H (ds ++ gs)).args = ds) (hv : (s.fn H (ds ++ gs)).vars = [])
    (hle : (X0 W).le y) (hres : ∀ (b : Nat) (sp : Nat → Bool) (hd : Bool), DataW.TrodAll enc P y.w b sp hd f.resultTypes.toList (v.resultList f.resultTypes.size) (s.fn H (ds ++ gs)).results [])
    (hok : ∀ (j : Nat) (t : TypeId) (r : Value), f.resultTypes[j]? = some t → (v.resultList f.resultTypes.size)[j]? = some r → Value.okWide P y.w .any 0 t r) :
    s.post enc P f apart fresh handsOn again W args v y.w := by
  have hlt := hW.lt
  have hW' := hW
  obtain ⟨p, q, h1, h2, e, h3, h4⟩ := hW
  have hq : q = [] ∧ gs = [] := by
    rw [hvs] at h2
    cases gs with
    | nil => exact ⟨h2, rfl⟩
    | cons _ _ => exact h2.elim
  obtain ⟨rfl, rfl⟩ := hq
  rw [List.append_nil] at e
  subst e
  have hA : ∀ sp : Nat → Bool, (∀ x ∈ before, sp x.block = true) → DataW.TrodAll enc P y.w 0 sp true f.params.toList args.toList (s.fn H (ds ++ [])).args before := fun sp hsp => by
    rw [ha]
    exact trodAll_carry (h1.respare (kids_rows hl hm) hz hts hsp) fun x hx => sameAt_le hle (hlt x hx)
  have hV : ∀ sp : Nat → Bool, DataW.TrodVars enc P y.w sp s.vars (s.fn H (ds ++ [])).vars [] := fun sp => by
    rw [hvs, hv]
    rfl
  refine ⟨ds, [], before, [], before, [], hW', hres _ _ _, hA _ (fun x hx => by simpa using hlt x hx), hV _, World.keptBut_mono (fun _ h => h.elim) (kept_le hle), fun _ => ?_⟩
  refine ⟨hok, _, _, ([] ++ before) ++ [], ⟨[] ++ before, [], trodAll_append (hA _ (fun _ _ => rfl)) (hres _ _ _), hV _, rfl, ?_, ?_⟩, ?_⟩
  · intro b off hp
    simp only [List.nil_append, List.append_nil] at hp
    rw [frozen_le hle (hlt _ hp)]
    exact h3 b off hp
  · intro hap
    simpa using h4 hap
  · intro x hx _
    simpa using hx
theorem law_of {g : FuncId} {f : Func} {s : ChangeSpec} {apart fresh handsOn again : Bool} {W : World} {args : Array Value} {ds gs : List (DataW H)} {before : List MemPlace} {az : List A} {tb : TypeId}
    (htab : Tabs (X0 W)) (hl : laidOutB P = true) (hm : mapsRowed P = true) (hz : ∀ t e, t < P.types.size → P.underlying t = some (.slice e) → 0 < P.cellsOf e) (hts : ∀ t ∈ f.params.toList, t < P.types.size)
    (hr : f.resultTypes = #[tb]) (hb : P.underlying tb = some .bool)
    (hW : DataW.Whole enc P f.params.toList s.vars apart W args.toList ds gs before) (hvs : s.vars = []) (ha : (s.fn H (ds ++ gs)).args = ds) (hv : (s.fn H (ds ++ gs)).vars = []) (hrs : (s.fn H (ds ++ gs)).results = [.lit (.bool true)])
    (hd : Ds (X0 W) az args.toList) (hc : CallFn P g az (.dat (.bool true))) : Calls P g args W fun e W' => ∃ v, e = .returned v ∧ s.post enc P f apart fresh handsOn again W args v W' := by
  refine (hc.2 (X0 W) args [] (X0_inv htab) hd).mono ?_
  rintro _ _ ⟨y, v, r, H', rfl, rfl, hle, _, hvv, rfl, rfl⟩
  simp only [D, RdL] at hvv
  subst hvv
  refine ⟨_, rfl, post_le hl hm hz hts hW hvs ha hv hle ?_ ?_⟩
  · intro b sp hd'
    rw [hrs, hr]
    have ht : DataW.Trod enc P y.w b sp hd' tb (.bool true) (.lit (.bool true)) [] := ⟨1, by simp [DataW.trod, Value.cells, hb]⟩
    exact trodAll_cons_mk ht trodAll_mk0
  · intro j t r h1 h2
    rw [hr] at h1 h2
    cases j with
    | zero =>
      simp only [Array.size_singleton, Value.resultList] at h1 h2
      obtain rfl : t = tb := by simpa using h1.symm
      obtain rfl : r = .bool true := by simpa using h2.symm
      exact okWide_bool_mk hb _
    | succ j => simp at h1
end Go.Proofs.YtdnkpogfcpjkpaaGreatDoor
end

section
namespace Go.Proofs.YtdnkpogfcpjkpaaGreatDoor
open Go.ChangeShapes Go.WideShapes Go.ChangeAt Go.RowKit
set_option maxRecDepth 100000
abbrev tys : List TypeId := [9, 70, 3, 68, 4]
theorem tys_good : goodT Tryz.prog 4 tys = true := by kernel_rfl
abbrev lfE : List Lf := [.int .i64, .int .i64, .sl 68]
abbrev lfS : List Lf := [.str, .int .i64, .int .i64, .int .i64, .sl 68, .int .i64, .int .i64, .sl 68, .int .i64, .bool]
abbrev lfC : List Lf := [.int .i64, .sl 9, .sl 70, .sl 3, .sl 3]
theorem leavesE : leavesT Tryz.prog 4 68 = some lfE := by kernel_rfl
theorem leavesS : leavesT Tryz.prog 4 70 = some lfS := by kernel_rfl
theorem leavesC : leavesT Tryz.prog 4 26 = some lfC := by kernel_rfl
theorem leavesI : leavesT Tryz.prog 4 3 = some [.int .i64] := by kernel_rfl
theorem leavesX : leavesT Tryz.prog 4 9 = some [.str] := by kernel_rfl
theorem all1 {R : Lf → L → Prop} {f : Lf} {r : List L} (h : All2 R [f] r) : ∃ l, r = [l] ∧ R f l := by
  rcases r with _ | ⟨a, _ | ⟨b, r⟩⟩ <;> simp only [All2, and_true, and_false] at h
  exact ⟨a, rfl, h⟩
theorem lift_sl {α : Type} {enc : α → List L} {Ok : α → Prop} {n : Nat} {e : TypeId} {l : L} (h : OkV Tryz.prog 4 n (.sl e) l) {lfs : List Lf} (he : leavesT Tryz.prog 4 e = some lfs)
    (hr : ∀ m r, n = m + 1 → All2 (OkV Tryz.prog 4 m) lfs r → ∃ a, r = enc a ∧ Ok a) : ∃ xs : List α, l = .sl (xs.map enc) ∧ Sh xs ∧ ∀ a ∈ xs, Ok a := by
  cases n with
  | zero => simp [OkV] at h
  | succ m =>
    simp only [OkV] at h
    obtain ⟨rows, rfl, h1, h2⟩ := h
    obtain ⟨xs, rfl, hx⟩ := lift_list (enc := enc) (Ok := Ok) (rows := rows) fun r hrr => by
      obtain ⟨lfs', h3, h4⟩ := h2 r hrr
      rw [he] at h3
      cases h3
      exact hr m r rfl h4
    exact ⟨xs, rfl, by simpa [maxLen, Sh] using h1, hx⟩
theorem lift_I {n : Nat} {l : L} (h : OkV Tryz.prog 4 n (.sl 3) l) : ∃ xs : List Int, l = .sl (xs.map encI) ∧ Sh xs ∧ ∀ a ∈ xs, I64 a := by
  refine lift_sl (Ok := I64) h leavesI ?_
  intro m r _ hr
  obtain ⟨l, rfl, hl⟩ := all1 hr
  have : ∃ k, l = .int .i64 k ∧ (Lit.int .i64 k).wf = true := by cases m <;> simpa [OkV] using hl
  obtain ⟨k, rfl, hk⟩ := this
  exact ⟨k, rfl, wf_i64 hk⟩
theorem lift_T {n : Nat} {l : L} (h : OkV Tryz.prog 4 n (.sl 9) l) : ∃ xs : List (List UInt8), l = .sl (xs.map encT) ∧ Sh xs ∧ ∀ a ∈ xs, Sh a := by
  refine lift_sl (Ok := fun s : List UInt8 => Sh s) h leavesX ?_
  intro m r _ hr
  obtain ⟨l, rfl, hl⟩ := all1 hr
  have : ∃ s, l = .str s ∧ s.length ≤ maxLen := by cases m <;> simpa [OkV] using hl
  obtain ⟨s, rfl, hs⟩ := this
  exact ⟨s, rfl, by simpa [maxLen, Sh] using hs⟩
theorem ok_int {n : Nat} {l : L} (h : OkV Tryz.prog 4 n (.int .i64) l) : ∃ k, l = .int .i64 k ∧ I64 k := by
  have : ∃ k, l = .int .i64 k ∧ (Lit.int .i64 k).wf = true := by cases n <;> simpa [OkV] using h
  obtain ⟨k, rfl, hk⟩ := this
  exact ⟨k, rfl, wf_i64 hk⟩
theorem ok_bool {n : Nat} {l : L} (h : OkV Tryz.prog 4 n .bool l) : ∃ k, l = .bool k := by cases n <;> simpa [OkV] using h
theorem ok_str {n : Nat} {l : L} (h : OkV Tryz.prog 4 n .str l) : ∃ s, l = .str s ∧ Sh s := by
  have : ∃ s, l = .str s ∧ s.length ≤ maxLen := by cases n <;> simpa [OkV] using h
  obtain ⟨s, rfl, hs⟩ := this
  exact ⟨s, rfl, by simpa [maxLen, Sh] using hs⟩
theorem lift_E : ∀ (n : Nat) (r : List L), All2 (OkV Tryz.prog 4 n) lfE r → ∃ x : Expr, r = encE x ∧ OkE x
  | n, r, h => by
    rcases r with _ | ⟨a, _ | ⟨b, _ | ⟨c, _ | ⟨d, r⟩⟩⟩⟩ <;> simp only [All2, and_true, and_false] at h
    obtain ⟨h1, h2, h3⟩ := h
    obtain ⟨k1, rfl, i1⟩ := ok_int h1
    obtain ⟨k2, rfl, i2⟩ := ok_int h2
    obtain ⟨xs, rfl, s1, s2⟩ := lift_sl (enc := encE) (Ok := OkE) h3 leavesE (by
      intro m r e hr
      exact lift_E m r hr)
    exact ⟨⟨k1, k2, xs⟩, by simp [encE], OkE.mk _ s1 ((inR_i64 _).2 i1) ((inR_i64 _).2 i2) s2⟩
termination_by n => n
decreasing_by omega
theorem lift_El {n : Nat} {l : L} (h : OkV Tryz.prog 4 n (.sl 68) l) : ∃ xs : List Expr, l = .sl (xs.map encE) ∧ Sh xs ∧ ∀ a ∈ xs, OkE a :=
  lift_sl h leavesE fun m r _ hr => lift_E m r hr
theorem lift_S {n : Nat} {r : List L} (h : All2 (OkV Tryz.prog 4 n) lfS r) : ∃ x : Signal, r = encS x ∧ OkS x := by
  rcases r with _ | ⟨a0, _ | ⟨a1, _ | ⟨a2, _ | ⟨a3, _ | ⟨a4, _ | ⟨a5, _ | ⟨a6, _ | ⟨a7, _ | ⟨a8, _ | ⟨a9, _ | ⟨a10, r⟩⟩⟩⟩⟩⟩⟩⟩⟩⟩⟩ <;> simp only [All2, and_true, and_false] at h
  obtain ⟨h0, h1, h2, h3, h4, h5, h6, h7, h8, h9⟩ := h
  obtain ⟨s, rfl, j0⟩ := ok_str h0
  obtain ⟨k1, rfl, j1⟩ := ok_int h1
  obtain ⟨k2, rfl, j2⟩ := ok_int h2
  obtain ⟨k3, rfl, j3⟩ := ok_int h3
  obtain ⟨x4, rfl, s4, e4⟩ := lift_El h4
  obtain ⟨k5, rfl, j5⟩ := ok_int h5
  obtain ⟨k6, rfl, j6⟩ := ok_int h6
  obtain ⟨x7, rfl, s7, e7⟩ := lift_El h7
  obtain ⟨k8, rfl, j8⟩ := ok_int h8
  obtain ⟨b9, rfl⟩ := ok_bool h9
  exact ⟨⟨s, k1, ⟨k2, k3, x4⟩, ⟨k5, k6, x7⟩, k8, b9⟩, rfl, ⟨j0, j1, OkE.mk _ s4 ((inR_i64 _).2 j2) ((inR_i64 _).2 j3) e4, OkE.mk _ s7 ((inR_i64 _).2 j5) ((inR_i64 _).2 j6) e7, j8⟩⟩
theorem lift_C {n : Nat} {r : List L} (h : All2 (OkV Tryz.prog 4 n) lfC r) : ∃ c : Control, r = encC c ∧ OkC c := by
  rcases r with _ | ⟨a0, _ | ⟨a1, _ | ⟨a2, _ | ⟨a3, _ | ⟨a4, _ | ⟨a5, r⟩⟩⟩⟩⟩⟩ <;> simp only [All2, and_true, and_false] at h
  obtain ⟨h0, h1, h2, h3, h4⟩ := h
  obtain ⟨k0, rfl, j0⟩ := ok_int h0
  obtain ⟨x1, rfl, s1, e1⟩ := lift_T h1
  obtain ⟨x2, rfl, s2, e2⟩ := lift_sl (enc := encS) (Ok := OkS) h2 leavesS fun m r _ hr => lift_S hr
  obtain ⟨x3, rfl, s3, e3⟩ := lift_I h3
  obtain ⟨x4, rfl, s4, e4⟩ := lift_I h4
  exact ⟨⟨k0, x1, x2, x3, x4⟩, rfl, ⟨j0, s1, e1, s2, e2, s3, s4, e3, e4⟩⟩
theorem read_C {H : Type} {enc : TypeId × Value → H} {W : World} {base : Nat} {v : Value} {d : DataW H} {ps : List MemPlace} (hv : Value.okWide Tryz.prog W .any base 26 v) (hd : DataW.Trod enc Tryz.prog W 0 (fun _ => true) true 26 v d ps) :
    ∃ c : Control, D (X0 W) (aC c) v ∧ OkC c := by
  have h0 : lfC.all (inT tys) = true := by decide
  obtain ⟨ls, n, h1, h2⟩ := read_arg tys_good Tryz.underlying26 leavesC h0 hv hd
  obtain ⟨c, rfl, hc⟩ := lift_C h2
  exact ⟨c, h1, hc⟩
theorem facts : laidOutB Tryz.prog = true ∧ mapsRowed Tryz.prog = true ∧ ∀ t e, t < (Tryz.prog).types.size → (Tryz.prog).underlying t = some (.slice e) → 0 < (Tryz.prog).cellsOf e :=
  ⟨by kernel_rfl, by kernel_rfl, slices_full_of _ (by kernel_rfl)⟩
end Go.Proofs.YtdnkpogfcpjkpaaGreatDoor
end

section
namespace Go.Proofs.YtdnkpogfcpjkpaaGreatDoor
open Go.ChangeShapes Go.WideShapes Go.ChangeAt Go.RowKit
variable {P : Program}
def cellsD : Nat → DataW Unit → Option (List Value)
  | 0, _ => none
  | _ + 1, .lit (.int k n) => some [.int k n]
  | m + 1, .agg ds => (ds.mapM (cellsD m)).map List.flatten
  | _, _ => none
def niceT (P : Program) : Nat → TypeId → Bool
  | 0, _ => false
  | m + 1, t => match P.underlying t with
    | some (.int _) => true
    | some (.array n e) => n * P.cellsOf e == P.cellsOf t && niceT P m e
    | _ => false
theorem chunks {α : Type} (sz : Nat) (cs : List α) : ∀ n, n * sz ≤ cs.length → ((List.range n).map fun i => (cs.drop (i * sz)).take sz).flatten = cs.take (n * sz)
  | 0, _ => by simp
  | n + 1, h => by
    rw [List.range_succ, List.map_append, List.flatten_append, chunks sz cs n (by rw [Nat.add_mul] at h; omega)]
    simp only [List.map_cons, List.map_nil, List.flatten_cons, List.flatten_nil, List.append_nil]
    rw [Nat.add_mul, Nat.one_mul, List.take_add]
theorem mapM_some {α β : Type} {f : α → Option β} : ∀ {l : List α} {r : List β}, l.mapM f = some r → l.map f = r.map some
  | [], r, h => by
    simp at h
    subst h
    rfl
  | a :: l, r, h => by
    rw [List.mapM_cons] at h
    cases ha : f a with
    | none => rw [ha] at h; simp at h
    | some b =>
      cases hl : l.mapM f with
      | none => rw [ha, hl] at h; simp at h
      | some s =>
        rw [ha, hl] at h
        simp at h
        subst h
        simp [ha, mapM_some hl]
theorem cells_of_trod {W : World} {base : Nat} {sp : Nat → Bool} {held : Bool} : ∀ (m fuel : Nat) (t : TypeId) (cs : List Value) (d : DataW Unit) (p : List MemPlace) (vs : List Value),
    DataW.trod (fun _ => ()) P W base sp held fuel t cs = some (d, p) → niceT P m t = true → cellsD m d = some vs → cs = vs
  | 0, _, _, _, _, _, _, _, h, _ => by simp [niceT] at h
  | m + 1, 0, _, _, _, _, _, h, _, _ => by simp [DataW.trod] at h
  | m + 1, fuel + 1, t, cs, d, p, vs, h, hn, hc => by
    unfold niceT at hn
    unfold DataW.trod at h
    split at hn
    · rename_i k hk
      rw [hk] at h
      split at h <;> rename_i e1 <;> try (simp at e1; done)
      all_goals first
        | (split at h
           · simp only [Option.some.injEq, Prod.mk.injEq] at h
             obtain ⟨rfl, rfl⟩ := h
             rename_i hkk
             simp only [cellsD, Option.some.injEq] at hc
             subst hc
             obtain ⟨rfl, _⟩ := hkk
             simp only [Option.some.injEq, TypeDesc.int.injEq] at e1
             subst e1
             rfl
           · cases h)
        | (cases h; done)
    · rename_i n e hk
      simp only [Bool.and_eq_true, beq_iff_eq] at hn
      rw [hk] at h
      simp only at h
      split at h
      · rename_i hl
        obtain ⟨xs, hx, e1⟩ := Option.map_eq_some_iff.1 h
        simp only [Prod.mk.injEq] at e1
        obtain ⟨rfl, -⟩ := e1
        simp only [cellsD] at hc
        obtain ⟨ys, hy, rfl⟩ := Option.map_eq_some_iff.1 hc
        have h1 := mapM_some hx
        have h2 := mapM_some hy
        have hlen : xs.length = n := by
          have := congrArg List.length h1
          simpa using this.symm
        have hlen2 : ys.length = n := by
          have := congrArg List.length h2
          simp at this
          omega
        have key : ((List.range n).map fun i => (cs.drop (i * P.cellsOf e)).take (P.cellsOf e)) = ys := by
          apply List.ext_getElem
          · simp [hlen2]
          · intro i a1 a2
            have b1 : ((List.range n).map fun i => DataW.trod (fun _ => ()) P W base sp held fuel e ((cs.drop (i * P.cellsOf e)).take (P.cellsOf e)))[i]? = (xs.map some)[i]? := by rw [h1]
            have b2 : ((xs.map (·.1)).map (cellsD m))[i]? = (ys.map some)[i]? := by rw [h2]
            have hi : i < n := by omega
            rw [List.getElem?_map, List.getElem?_range hi, List.getElem?_map, List.getElem?_eq_getElem (show i < xs.length by omega)] at b1
            rw [List.getElem?_map, List.getElem?_map, List.getElem?_eq_getElem (show i < xs.length by omega), List.getElem?_map, List.getElem?_eq_getElem a2] at b2
            simp only [Option.map_some, Option.some.injEq] at b1 b2
            have := cells_of_trod m fuel e _ xs[i].1 xs[i].2 ys[i] b1 hn.2 b2
            simpa using this
        rw [← key, chunks _ _ _ (by omega), List.take_of_length_le (by omega)]
      · cases h
    · cases hn
theorem laid_at {W : World} : ∀ {l : List (String × DataW Unit)} {ps : List MemPlace}, DataW.LaidVars P W l ps → ∀ {n : String} {d : DataW Unit}, (n, d) ∈ l →
    ∃ g t cs fuel p, P.globalNamed n = some g ∧ (P.globals[g]?).map (·.type) = some t ∧ W.var? P n = some cs ∧ DataW.trod (fun _ => ()) P W 0 (fun _ => true) false fuel t cs.toList = some (d, p)
  | [], _, _, _, _, h => by cases h
  | (n', d') :: r, ps, h, n, d, hm => by
    obtain ⟨g, t, cs, fuel, p, q, h1, h2, h3, h4, h5, _⟩ := h
    rcases List.mem_cons.1 hm with e | hm
    · cases e
      exact ⟨g, t, cs, fuel, p, h1, h2, h3, h4⟩
    · exact laid_at h5 hm
def tabB (P : Program) (g : Nat) : Bool := match (P.globals[g]?).map (·.type) with
  | some t => niceT P 4 t
  | none => false
theorem tab_one {W : World} {laid : List (String × DataW Unit)} (hL : laidMet P laid W) {n : String} {d : DataW Unit} (hm : (n, d) ∈ laid) {g : Nat} {ls : List L} (hg : P.globalNamed n = some g) (hB : tabB P g = true) (hc : cellsD 4 d = some (ls.map plV)) :
    (X0 W).ok g ∧ ∃ ty fr, (X0 W).w.heap[g]? = some (.cells (ls.map plV).toArray ty fr) := by
  obtain ⟨ps, hv, _, _⟩ := hL
  obtain ⟨g', t', cs, fuel, p, h1, h2, h3, h4⟩ := laid_at hv hm
  obtain rfl := Option.some.inj (hg.symm.trans h1)
  have hn : niceT P 4 t' = true := by
    unfold tabB at hB
    rw [h2] at hB
    exact hB
  have e := cells_of_trod 4 fuel t' cs.toList d p _ h4 hn hc
  unfold World.var? at h3
  rw [hg] at h3
  simp only [Option.bind_some] at h3
  split at h3
  · rename_i c ty fr hh
    simp only [Option.some.injEq] at h3
    subst h3
    refine ⟨(Array.getElem?_eq_some_iff.1 hh).1, ty, fr, ?_⟩
    show W.heap[g]? = _
    rw [hh, ← e]
  · cases h3
end Go.Proofs.YtdnkpogfcpjkpaaGreatDoor
end
