/- Texts joined by a program: Ef, Cg, Eg, Eh, Ei, Hm, Pk. -/
import Derived.Test.YtdnkpogfcpjkpaaGreatDoorW13
import Derived.Test.YtdnkpogfcpjkpaaGreatDoorW12
set_option linter.unusedSimpArgs false
set_option linter.unusedVariables false
set_option linter.unnecessarySimpa false

section
namespace Go.Proofs.YtdnkpogfcpjkpaaGreatDoor
set_option maxHeartbeats 4000000
set_option maxRecDepth 10000
def stA (τ : Nat) (g : Nat → Value) : A := .agg [.own τ (g 0), .own (τ + 1) (g 1), .own (τ + 2) (g 2), .own (τ + 3) (g 3), .own (τ + 4) (g 4)]
def stH (τ : Nat) (g : Nat → Value) (s : State) : Heap := [(τ, .seq (g 0) 3 1 (s.ends.map rI)), (τ + 1, .seq (g 1) 4 1 (s.valves.map rB)), (τ + 2, .seq (g 2) 4 1 (s.inputs.map rB)), (τ + 3, .seq (g 3) 4 1 (s.values.map rB)), (τ + 4, .seq (g 4) 3 1 (s.timers.map rI))]
def CallSt (g : FuncId) (az : List A) (s : State) : Prop := CallS Tryz.prog g az [] fun r H' => ∃ h, r = stA 0 h ∧ H' = stH 0 h s
theorem Ds5 {x : X} {l : List Value} {t0 t1 t2 t3 t4 u0 u1 u2 u3 u4 : Nat} {h0 h1 h2 h3 h4 : Value} (h : Ds x [.own t0 h0, .own t1 h1, .own t2 h2, .own t3 h3, .own t4 h4] l) : Ds x [.own u0 h0, .own u1 h1, .own u2 h2, .own u3 h3, .own u4 h4] l := by
  rcases l with _ | ⟨a, _ | ⟨b, _ | ⟨c, _ | ⟨d, _ | ⟨e, l⟩⟩⟩⟩⟩ <;> simp only [Ds, D] at h ⊢ <;> try exact h
theorem CallSt.s {g : FuncId} {az : List A} {s : State} (h : CallSt g az s) {H : Heap} {K : A → Heap → Prop} (τ : Nat) (hk : ∀ hd, K (stA τ hd) (stH τ hd s ++ H)) : CallS Tryz.prog g az H K := by
  refine ⟨h.1, fun x args H0 hi hd => ((CallS.frame (H1 := H) h).2 x args H0 hi hd).mono ?_⟩
  rintro _ _ ⟨y, v, r, H', rfl, rfl, hle, hi', hv, H2, ⟨hh, rfl, rfl⟩, rfl⟩
  refine ⟨y, v, stA τ hh, _, rfl, rfl, hle, hi'.ents (H' := (stH τ hh s ++ H) ++ H0) (by simp [stH]), ?_, hk hh⟩
  simp only [stA, D] at hv ⊢
  obtain ⟨vs, e, hds⟩ := hv
  exact ⟨vs, e, Ds5 hds⟩
def stAt (H : Heap) (s : State) : A → Prop
  | .agg [.own t0 h0, .own t1 h1, .own t2 h2, .own t3 h3, .own t4 h4] => hget t0 H = some (.seq h0 3 1 (s.ends.map rI)) ∧ hget t1 (hdel t0 H) = some (.seq h1 4 1 (s.valves.map rB)) ∧ hget t2 (hdel t1 (hdel t0 H)) = some (.seq h2 4 1 (s.inputs.map rB)) ∧
      hget t3 (hdel t2 (hdel t1 (hdel t0 H))) = some (.seq h3 4 1 (s.values.map rB)) ∧ hget t4 (hdel t3 (hdel t2 (hdel t1 (hdel t0 H)))) = some (.seq h4 3 1 (s.timers.map rI))
  | _ => False
theorem CallSt.of {g : FuncId} {az : List A} {s : State} (h : CallS Tryz.prog g az [] fun r H' => stAt H' s r) : CallSt g az s := by
  refine ⟨h.1, fun x args H0 hi hd => (h.2 x args H0 hi hd).mono ?_⟩
  rintro _ _ ⟨y, v, r, H', rfl, rfl, hle, hi', hv, hk⟩
  unfold stAt at hk
  split at hk
  · rename_i t0 h0 t1 h1 t2 h2 t3 h3 t4 h4
    obtain ⟨k0, k1, k2, k3, k4⟩ := hk
    have p0 := hdel_perm k0
    have p1 := hdel_perm k1
    have p2 := hdel_perm k2
    have p3 := hdel_perm k3
    have p4 := hdel_perm k4
    have hp := p0.trans ((p1.trans ((p2.trans ((p3.trans (p4.cons _)).cons _)).cons _)).cons _)
    have hi2 := hi'.perm (hp.symm.append_right H0)
    refine ⟨y, v, stA 0 (fun i => [h0, h1, h2, h3, h4].getD i default), stH 0 (fun i => [h0, h1, h2, h3, h4].getD i default) s, rfl, rfl, hle, ?_, ?_, _, rfl, rfl⟩
    · have hi3 := hi2.sub (H' := [(t0, .seq h0 3 1 (s.ends.map rI)), (t1, .seq h1 4 1 (s.valves.map rB)), (t2, .seq h2 4 1 (s.inputs.map rB)), (t3, .seq h3 4 1 (s.values.map rB)), (t4, .seq h4 3 1 (s.timers.map rI))] ++ H0) (List.Sublist.append (by simp) (List.Sublist.refl _))
      exact hi3.ents (by simp [stH])
    · simp only [stA, D] at hv ⊢
      obtain ⟨vs, e, hds⟩ := hv
      exact ⟨vs, e, Ds5 hds⟩
  · exact hk.elim
theorem CallSt.fn {g : FuncId} {az : List A} {s : State} (h : CallSt g az s) : CallFn Tryz.prog g az (aSt s) := by
  refine CallS.fn h ?_
  rintro r H' ⟨hh, rfl, rfl⟩
  simp [stA, stH, hget, packA, aSt, encSt]
theorem copyR_o (s : State) (h : SmS s) : CallSt 92 [aSt s] s := by
  obtain ⟨h1, h2, h3, h4, h5⟩ := h
  refine CallSt.of (callS_of Tryz.func92 rfl Tryz.ntmps92 (rs := [.cell 2 57]) rfl (by kernel_rfl) (by simp) (by kernel_rfl) ?_)
  simp
  intro b2
  refine V.draw (fun _ => none) (by kernel_rfl) (by kernel_rfl) (by simp) ?_
  simp
  have g0 : s.ends.length ≤ 4294967296 := by omega
  have g1 : s.valves.length ≤ 4294967296 := by omega
  have g2 : s.inputs.length ≤ 4294967296 := by omega
  have g3 : s.values.length ≤ 4294967296 := by omega
  have g4 : s.timers.length ≤ 4294967296 := by omega
  simp [g0, g1, g2, g3, g4, stAt, hget, hdel]
def gvals (c : Control) (s : State) : Nat → List Bool
  | 0 => s.values
  | i + 1 => match c.signals[i]? with
    | some x => if x.kind = 0 then (gvals c s i).set i (evalE x.on (valuesOf { s with values := gvals c s i })) else gvals c s i
    | none => gvals c s i
def gatesP (c : Control) (s : State) : State := { s with values := gvals c s c.signals.length }
theorem gvals_length (c : Control) (s : State) (i : Nat) : (gvals c s i).length = s.values.length := by
  induction i with
  | zero => rfl
  | succ i ih =>
    simp only [gvals]
    split
    · split
      · simp [ih]
      · exact ih
    · exact ih
theorem gvals_at {c : Control} {s : State} {i : Nat} {x : Signal} (h : c.signals[i]? = some x) : gvals c s (i + 1) = if x.kind = 0 then (gvals c s i).set i (evalE x.on (valuesOf { s with values := gvals c s i })) else gvals c s i := by
  simp only [gvals, h]
end Go.Proofs.YtdnkpogfcpjkpaaGreatDoor
end

section
namespace Go.Proofs.YtdnkpogfcpjkpaaGreatDoor
set_option maxHeartbeats 4000000
set_option maxRecDepth 10000
theorem evalL_map (vs : List Bool) : ∀ xs : List Expr, evalL xs vs = xs.map fun x => evalE x vs
  | [] => rfl
  | x :: xs => by simp [evalL, evalL_map vs xs]
def allT (xs : List Expr) (vs : List Bool) : Bool := xs.all fun x => evalE x vs
def anyT (xs : List Expr) (vs : List Bool) : Bool := xs.any fun x => evalE x vs
theorem allT_snoc {xs : List Expr} {vs : List Bool} {i : Nat} {y : Expr} (h : xs[i]? = some y) : allT (xs.take (i + 1)) vs = (allT (xs.take i) vs && evalE y vs) := by
  unfold allT
  rw [List.take_add_one, h]
  simp [List.all_append]
theorem anyT_snoc {xs : List Expr} {vs : List Bool} {i : Nat} {y : Expr} (h : xs[i]? = some y) : anyT (xs.take (i + 1)) vs = (anyT (xs.take i) vs || evalE y vs) := by
  unfold anyT
  rw [List.take_add_one, h]
  simp [List.any_append]
theorem evalL_all (xs : List Expr) (vs : List Bool) : (evalL xs vs).all (· == true) = allT xs vs := by
  rw [evalL_map, allT, List.all_map]
  congr 1
  funext x
  simp
theorem evalL_any (xs : List Expr) (vs : List Bool) : (!(evalL xs vs).all (· == false)) = anyT xs vs := by
  rw [evalL_map, anyT, List.all_map, List.not_all_eq_any_not]
  congr 1
  funext x
  show (!(evalE x vs == false)) = evalE x vs
  cases evalE x vs <;> rfl
theorem holds_fn : ∀ (N : Nat) (x : Expr), SizeOf.sizeOf x < N → OkE x → ∀ vs : List Bool, vs.length ≤ 256 → RightE vs.length x → CallFn Tryz.prog 91 [aE x, aBs vs] (aB (evalE x vs))
  | 0, _, h, _, _, _, _ => absurd h (Nat.not_lt_zero _)
  | N + 1, x, hN, hx, vs, hv, hr => by
    have ih : ∀ a ∈ x.args, CallFn Tryz.prog 91 [aE a, aBs vs] (aB (evalE a vs)) := fun a ha => holds_fn N a (by have := Expr.lt_of_mem ha; omega) (hx.args a ha) vs hv (hr.args a ha)
    have hn := hr.node
    have hlen := hx.len
    have hop : 0 ≤ x.op ∧ x.op < 5 := by
      unfold nodeR at hn
      split at hn <;> omega
    have key : x.op = 3 ∨ x.op = 4 → ∀ (c : Bool), c = true → CallFn Tryz.prog 91 [aE x, aBs vs] (aB (evalE x vs)) := by
      intro ho _ _
      have e : evalE x vs = if x.op = 3 then allT x.args vs else anyT x.args vs := by
        rw [evalE_eq, if_neg (by omega), if_neg (by omega), if_neg (by omega), evalL_all, evalL_any]
      have o0 : ¬ x.op = 0 := by omega
      have o1 : ¬ x.op = 1 := by omega
      have o2 : ¬ x.op = 2 := by omega
      refine callFz_of Tryz.func91 rfl Tryz.ntmps91 (rs := [.tmp 4]) rfl (by kernel_rfl) (by simp) (by kernel_rfl) ?_
      simp [o0, o1, o2]
      refine V.forI (σ := Unit) x.args.length [1, 2, 4] (by simp; exact rfl) (fun i _ => [(5, aB (allT (x.args.take i) vs)), (6, aB (anyT (x.args.take i) vs)), (7, aI i)]) (fun _ _ => []) (fun _ _ => True) () trivial (by simp [allT, anyT]) ⟨by simp; exact rfl, by simp⟩ ?_ ?_
      · rintro i - hi -
        obtain ⟨y, hy⟩ : ∃ y, x.args[i] = y := ⟨_, rfl⟩
        have hy0 : x.args[i]? = some y := by rw [List.getElem?_eq_getElem hi, hy]
        rw [allT_snoc hy0, anyT_snoc hy0]
        simp [hi, hy, encE_eq]
        refine (ih y (List.mem_of_getElem? hy0)).s ?_
        generalize evalE y vs = b1
        generalize allT (x.args.take i) vs = b2
        generalize anyT (x.args.take i) vs = b3
        simp
        omega
      · rintro - -
        rw [List.take_length]
        simp
        refine ⟨fun h => ⟨h, fun h2 => ⟨h, h2⟩⟩, ?_⟩
        rw [e]
        rcases ho with ho | ho <;> simp [ho]
    obtain ho | ho | ho | ho : x.op = 0 ∨ x.op = 1 ∨ x.op = 2 ∨ (x.op = 3 ∨ x.op = 4) := by omega
    · refine callFz_of Tryz.func91 rfl Tryz.ntmps91 (rs := [.tmp 4]) rfl (by kernel_rfl) (by simp) (by kernel_rfl) ?_
      simp [ho, evalE_eq x]
    · have hix : 0 ≤ x.index ∧ x.index < vs.length := by
        simp [nodeR, ho] at hn
        omega
      obtain ⟨k, hk⟩ : ∃ k : Nat, x.index = k := ⟨x.index.toNat, by omega⟩
      rw [hk] at hix
      have hkl : k < vs.length := by omega
      refine callFz_of Tryz.func91 rfl Tryz.ntmps91 (rs := [.tmp 4]) rfl (by kernel_rfl) (by simp) (by kernel_rfl) ?_
      simp [ho, hk, hkl, evalE_eq x]
    · have hl : x.args.length = 1 := by
        simp [nodeR, ho] at hn
        split at hn
        · cases hn
        · omega
      obtain ⟨y, hy⟩ : ∃ y, x.args = [y] := List.length_eq_one_iff.1 hl
      have e : evalE x vs = !(evalE y vs) := by
        rw [evalE_eq, if_neg (by omega), if_neg (by omega), if_pos ho, hy]
        simp [evalL]
      refine callFz_of Tryz.func91 rfl Tryz.ntmps91 (rs := [.tmp 4]) rfl (by kernel_rfl) (by simp) (by kernel_rfl) ?_
      simp [ho, hy, encE_eq]
      refine (ih y (by simp [hy])).s ?_
      simp [e]
    · exact key ho true rfl
end Go.Proofs.YtdnkpogfcpjkpaaGreatDoor
end

section
namespace Go.Proofs.YtdnkpogfcpjkpaaGreatDoor
set_option maxHeartbeats 4000000
set_option maxRecDepth 10000
def preV (s : State) : List Bool := endsV s.ends ++ s.inputs
theorem valuesOf_with (s : State) (l : List Bool) : valuesOf { s with values := l } = preV s ++ l := rfl
theorem valuesOf_eq (s : State) : valuesOf s = preV s ++ s.values := rfl
theorem preV_length {c : Control} {s : State} (h : shapeS c s) : ((preV s).length : Int) = firstC c := by
  obtain ⟨h1, h2, h3, h4, h5⟩ := h
  have := endsV_length s.ends
  simp [preV, firstC, this]
  omega
theorem SmS.with {s : State} (h : SmS s) {l : List Bool} (hl : l.length = s.values.length) : SmS { s with values := l } := ⟨h.ends, h.valves, h.inputs, by show l.length ≤ _; rw [hl]; exact h.values, h.timers⟩
theorem computedR_o (c : Control) (s : State) (hc : OkC c) (hf : Fine c) (hs : SmS s) (hsh : shapeS c s) : CallSt 45 [aC c, aSt s] (gatesP c s) := by
  have hsm := hf.sm
  have hcs := hf.sig
  refine CallSt.of (callS_of Tryz.func45 rfl Tryz.ntmps45 (rs := [.cell 4 57]) rfl (by kernel_rfl) (by simp) (by kernel_rfl) ?_)
  simp
  intro b4
  refine (copyR_o s hs).s 60 fun hd => ?_
  simp [stA, stH]
  intro b5
  refine V.forI (σ := Unit) c.signals.length [2, 4, 5] (by simp; exact rfl) (fun i _ => [(6, aI i)]) (fun i _ => [(63, .seq (hd 3) 4 1 ((gvals c s i).map rB))]) (fun _ _ => True) () trivial (by simp) ⟨by simp; exact rfl, by simp [gvals, hget, hdel]⟩ ?_ ?_
  · rintro i - hi -
    obtain ⟨x, hx⟩ : ∃ x, c.signals[i] = x := ⟨_, rfl⟩
    have hxo : c.signals[i]? = some x := by rw [List.getElem?_eq_getElem hi, hx]
    have hgl := gvals_length c s i
    obtain ⟨hon, -⟩ := hf.on hxo
    obtain ⟨r1, r2, r3⟩ := right_of_check hon
    have hlen := valuesOf_length hsh
    rw [gvals_at hxo]
    generalize gvals c s i = l at hgl ⊢
    have hil : i < l.length := by obtain ⟨_, _, _, h4, _⟩ := hsh; omega
    have hgi : l[i]? = some l[i] := List.getElem?_eq_getElem hil
    by_cases hk : x.kind = 0
    · simp [hi, hx, hk]
      refine V.draw (fun t => if t = 34 then some (.ro (aBs (preV s ++ l))) else if t = 35 then some (.fn (aB (evalE x.on (preV s ++ l)))) else none) (by kernel_rfl) (by kernel_rfl) (by simp) ?_
      simp [hi, hx, hk, hgi, hil, valuesOf_with, rB]
      refine ⟨((ValuesR_o c { s with values := l } (hs.with hgl) hsh.1.symm).lendFn (H := [(60, .seq (hd 0) 3 1 (s.ends.map rI)), (61, .seq (hd 1) 4 1 (s.valves.map rB)), (62, .seq (hd 2) 4 1 (s.inputs.map rB)), (63, .seq (hd 3) 4 1 (l.map rB)), (64, .seq (hd 4) 3 1 (s.timers.map rI))]) ?_ ?_ ?_).mono ?_, ?_⟩
      · simp [hget, packA, encSt]
      · intro h; simp [valuesOf_with]
      · simp
      · rintro r H' ⟨rfl, rfl⟩
        simp [valuesOf_with]
      · have hl' : ((preV s ++ l).length : Int) = countC c := by
          have := valuesOf_length (c := c) (s := { s with values := l }) ⟨hsh.1, hsh.2.1, hsh.2.2.1, hgl.trans hsh.2.2.2.1, hsh.2.2.2.2⟩
          exact this
        exact ⟨holds_fn (SizeOf.sizeOf x.on + 1) x.on (by omega) (hc.sigs x (List.mem_of_getElem? hxo)).on (preV s ++ l) (by omega) (by rw [hl']; exact r1), by omega⟩
    · simp [hi, hx, hk]
      omega
  · rintro - -
    simp
    simp [stAt, hget, hdel, gatesP]
theorem gates_o (c : Control) (s : State) (hc : OkC c) (hf : Fine c) (hs : SmS s) (hsh : shapeS c s) : CallSt 84 [aC c, aSt s] (gatesP c s) := by
  have hsm := hf.sm
  have hcs := hf.sig
  have hpl := preV_length hsh
  obtain ⟨s1, s2, s3, s4, s5⟩ := hs
  have hs' : SmS s := ⟨s1, s2, s3, s4, s5⟩
  refine CallSt.of (callS_of Tryz.func84 rfl Tryz.ntmps84 (rs := [.cell 4 57]) rfl (by kernel_rfl) (by simp) (by kernel_rfl) ?_)
  simp
  intro b4
  refine V.draw (fun t => if t = 13 then some (.own 3 1 (s.ends.map rI)) else if t = 16 then some (.own 4 1 (s.valves.map rB)) else if t = 19 then some (.own 4 1 (s.inputs.map rB)) else if t = 22 then some (.own 4 1 (s.values.map rB)) else if t = 25 then some (.own 3 1 (s.timers.map rI)) else none) (by kernel_rfl) (by kernel_rfl) (by simp) ?_
  simp
  intro u0
  refine ⟨cloneI_o s.ends (by omega), fun u1 => ⟨cloneB_o s.valves (by omega), fun u2 => ⟨cloneB_o s.inputs (by omega), fun u3 => ⟨cloneB_o s.values (by omega), fun u4 => ⟨cloneI_o s.timers (by omega), ?_⟩⟩⟩⟩⟩
  intro b5
  refine (values_o s hs').lend 70 (by simp [hget, packA, encSt]) (by intro h; simp) ?_
  intro h6
  simp
  refine V.forI (σ := Unit) c.signals.length [2, 4, 5, 6, 30, 31] (by simp; exact rfl) (fun i _ => [(32, aI i)]) (fun i _ => [(22, .seq u3 4 1 ((gvals c s i).map rB)), (70, .seq h6 4 1 ((preV s ++ gvals c s i).map rB))]) (fun _ _ => True) () trivial (by simp) ⟨by simp; exact rfl, by simp [gvals, hget, hdel, valuesOf_eq]⟩ ?_ ?_
  · rintro i - hi -
    obtain ⟨x, hx⟩ : ∃ x, c.signals[i] = x := ⟨_, rfl⟩
    have hxo : c.signals[i]? = some x := by rw [List.getElem?_eq_getElem hi, hx]
    have hgl := gvals_length c s i
    obtain ⟨hon, -⟩ := hf.on hxo
    obtain ⟨r1, r2, r3⟩ := right_of_check hon
    have hlen := valuesOf_length hsh
    rw [gvals_at hxo]
    generalize gvals c s i = l at hgl ⊢
    have hil : i < l.length := by obtain ⟨_, _, _, h4, _⟩ := hsh; omega
    have hgi : l[i]? = some l[i] := List.getElem?_eq_getElem hil
    have hl' : ((preV s ++ l).length : Int) = countC c := by
      have := valuesOf_length (c := c) (s := { s with values := l }) ⟨hsh.1, hsh.2.1, hsh.2.2.1, hgl.trans hsh.2.2.2.1, hsh.2.2.2.2⟩
      exact this
    simp [hi, hx]
    intro b8
    by_cases hk : x.kind = 0
    · simp [hi, hx, hk]
      have ev := evalx_fn x.on (hc.sigs x (List.mem_of_getElem? hxo)).on (preV s ++ l) (by omega)
      rw [hl', hon] at ev
      simp only [if_true] at ev
      refine ev.lend (by simp [hget, packA, encE_eq]) (by simp) ?_
      rw [valuesOf_with]
      generalize evalE x.on (preV s ++ l) = b
      simp
      refine V.draw (fun t => if t = 52 then some (.fn (aI (firstC c))) else none) (by kernel_rfl) (by kernel_rfl) (by simp) ?_
      have hp1 := first_fn c hsm
      have hpl2 : (preV s).length ≤ 10000000 := by have := hf.act; have := hf.inp; unfold firstC at hpl; omega
      rw [← hpl] at hp1 ⊢
      have ht : (((preV s).length : Int) + i).toNat = (preV s).length + i := by omega
      have hA : (List.map rB (preV s) ++ List.map rB l)[(preV s).length + i]? = some [A.dat (L.bool l[i])] := by
        rw [List.getElem?_append_right (by simp)]
        simp [hgi, rB, hil]
      have hS : ∀ r, (List.map rB (preV s) ++ List.map rB l).set ((preV s).length + i) r = List.map rB (preV s) ++ (List.map rB l).set i r := by
        intro r
        rw [List.set_append_right _ _ (by simp)]
        simp
      simp [hi, hx, hk, hgi, hil, rB, ht, hA, hS]
      exact ⟨hp1, by omega, by omega, by omega, by omega⟩
    · simp [hi, hx, hk]
      omega
  · rintro - -
    simp [stAt, hget, hdel, gatesP]
end Go.Proofs.YtdnkpogfcpjkpaaGreatDoor
end

section
namespace Go.Proofs.YtdnkpogfcpjkpaaGreatDoor
set_option maxHeartbeats 4000000
set_option maxRecDepth 10000
theorem allD_rep (n : Nat) (l : L) : allD (List.replicate n [A.dat l]) = true := by simp [allD, List.all_replicate, isD]
theorem rowsD_rep (n : Nat) (l : L) : rowsD (List.replicate n [A.dat l]) = List.replicate n [l] := by simp [rowsD]
attribute [simp] allD_rep rowsD_rep
def noSt : State := ⟨[], [], [], [], []⟩
theorem CallSt.lend {g : FuncId} {az az' : List A} {s : State} (h : CallSt g az' s) {H : Heap} {K : A → Heap → Prop} (τ : Nat) (hz : (frzs H az).1 ∧ (frzs H az).2 = az') (hk : ∀ hd, K (stA τ hd) (stH τ hd s ++ H)) : CallS Tryz.prog g az H K := by
  refine CallS.lend (K' := fun r H' => ∃ hd, r = stA τ hd ∧ H' = stH τ hd s) (h.s τ fun hd => ⟨hd, rfl, by simp⟩) hz ?_
  rintro r H' ⟨hd, rfl, rfl⟩
  refine ⟨by simp [stA], ?_, hk hd⟩
  intro p hp
  simp only [stH, List.mem_cons, List.not_mem_nil, or_false] at hp
  rcases hp with rfl | rfl | rfl | rfl | rfl <;> simp
def gatesR (c : Control) (s : State) : State × Int := if rightC c s ≠ 0 then (noSt, rightC c s) else (gatesP c s, 0)
theorem Gates_fn (c : Control) (s : State) (hc : OkC c) (hs : SmS s) : CallFn Tryz.prog 40 [aC c, aSt s] (.tuple [aSt (gatesR c s).1, aI (gatesR c s).2]) := by
  refine callFz_of Tryz.func40 rfl Tryz.ntmps40 (rs := [.cell 4 57, .tmp 5]) rfl (by kernel_rfl) (by simp) (by kernel_rfl) ?_
  simp
  intro b4
  refine (Right_fn c s hc hs).s ?_
  simp
  by_cases hz : rightC c s = 0
  · obtain ⟨z1, z2, z3⟩ := right_zero hz
    simp [hz]
    refine (gates_o c s hc (fine_of z1) hs z2).s 60 fun hd => ?_
    simp [stA, stH, hget, packA, gatesR, hz, encSt]
  · simp [hz, gatesR, noSt, packA, encSt]
def evalP (c : Control) (s : State) (x : Expr) : Bool × Int := if rightC c s ≠ 0 then (false, rightC c s) else if checkE x (countC c) ≠ 0 then (false, checkE x (countC c)) else (evalE x (valuesOf s), 0)
theorem EvalC_fn (c : Control) (s : State) (x : Expr) (hc : OkC c) (hs : SmS s) (hx : OkE x) : CallFn Tryz.prog 41 [aC c, aSt s, aE x] (.tuple [aB (evalP c s x).1, aI (evalP c s x).2]) := by
  refine callFz_of Tryz.func41 rfl Tryz.ntmps41 (rs := [.tmp 6, .tmp 7]) rfl (by kernel_rfl) (by simp) (by kernel_rfl) ?_
  simp
  refine (Right_fn c s hc hs).s ?_
  simp
  by_cases hz : rightC c s = 0
  · obtain ⟨z1, z2, z3⟩ := right_zero hz
    have hl := valuesOf_length z2
    have hsm := (fine_of z1).sm
    simp [hz]
    refine V.draw (fun t => if t = 17 then some (.fn (aBs (valuesOf s))) else if t = 18 then some (.fn (.tuple [aB (evalP c s x).1, aI (evalP c s x).2])) else none) (by kernel_rfl) (by kernel_rfl) (by simp) ?_
    have ev := evalx_fn x hx (valuesOf s) (by have := hsm.act; have := hsm.inp; have := hsm.sig; unfold countC at hl; omega)
    rw [hl] at ev
    have e : (A.tuple (if checkE x (countC c) = 0 then [.dat (.bool (evalE x (valuesOf s))), .dat (.int .i64 0)] else [.dat (.bool false), .dat (.int .i64 (checkE x (countC c)))])) = .tuple [aB (evalP c s x).1, aI (evalP c s x).2] := by
      by_cases h : checkE x (countC c) = 0 <;> simp [evalP, hz, h]
    rw [e] at ev
    have hv := values_fn s hs
    simp
    exact ⟨hv, ev⟩
  · simp [hz, evalP]
def initV (c : Control) (i : Nat) : List Bool := (c.signals.take i).map (·.init) ++ List.replicate (c.signals.length - i) false
def newSt (c : Control) (i : Nat) : State := ⟨List.replicate c.actuators.toNat 0, List.replicate c.actuators.toNat false, List.replicate c.inputs.length false, initV c i, List.replicate c.signals.length 0⟩
def firstSt (c : Control) : State := gatesP c (newSt c c.signals.length)
theorem initV_length (c : Control) (i : Nat) (h : i ≤ c.signals.length) : (initV c i).length = c.signals.length := by
  simp [initV]
  omega
theorem initV_set {c : Control} {i : Nat} {x : Signal} (h : c.signals[i]? = some x) : (initV c i).set i x.init = initV c (i + 1) := by
  obtain ⟨hlt, hx⟩ := List.getElem?_eq_some_iff.1 h
  unfold initV
  rw [List.set_append_right _ _ (by simp; omega), List.take_add_one, h]
  simp only [Option.toList_some, List.map_append, List.map_cons, List.map_nil, List.append_assoc, List.singleton_append]
  congr 1
  have e : c.signals.length - i = (c.signals.length - (i + 1)) + 1 := by omega
  rw [e, List.replicate_succ]
  simp [Nat.min_eq_left (Nat.le_of_lt hlt)]
theorem newSt_sm {c : Control} (h : Fine c) : SmS (newSt c c.signals.length) := by
  obtain ⟨h1, h2, h3, _⟩ := h
  have := initV_length c c.signals.length (Nat.le_refl _)
  refine ⟨?_, ?_, ?_, ?_, ?_⟩ <;> simp [newSt] <;> omega
theorem newSt_shape {c : Control} (h : Fine c) : shapeS c (newSt c c.signals.length) := by
  obtain ⟨h1, h2, h3, _⟩ := h
  have := initV_length c c.signals.length (Nat.le_refl _)
  refine ⟨?_, ?_, ?_, ?_, ?_⟩ <;> simp [newSt] <;> omega
end Go.Proofs.YtdnkpogfcpjkpaaGreatDoor
end

section
namespace Go.Proofs.YtdnkpogfcpjkpaaGreatDoor
set_option maxHeartbeats 4000000
set_option maxRecDepth 10000
def fewN (c : Control) : Bool := !(((((decide ((c.inputs.length : Int) > 32) || (decide ((c.signals.length : Int) > 16) && decide ((c.signals.length : Int) ≤ 64))) || decide ((c.signals.length : Int) > 128)) || decide ((c.plus.length : Int) > 40)) || decide ((c.minus.length : Int) > 40)))
def longB (s : List UInt8) : Bool := decide ((s.length : Int) > 200)
def heavyB (s : Signal) : Bool := longB s.name || !lightE s.on || !lightE s.off
def fewC (c : Control) : Bool := fewN c && !(c.inputs.any longB) && !(c.signals.any heavyB)
theorem few_c {c : Control} (h : fewC c = true) : c.plus.length ≤ 1000000 ∧ c.minus.length ≤ 1000000 := by
  simp only [fewC, fewN, Bool.and_eq_true, Bool.not_eq_true', Bool.or_eq_false_iff, decide_eq_false_iff_not] at h
  obtain ⟨⟨⟨⟨⟨h1, h2⟩, h3⟩, h4⟩, h5⟩, h6⟩ := h
  omega
theorem Few_fn (c : Control) (hc : OkC c) : CallFn Tryz.prog 7 [aC c] (aB (fewC c)) := by
  have h1 := hc.inputs
  have h2 := hc.signals
  have h3 := hc.plus
  have h4 := hc.minus
  refine callFz_of Tryz.func7 rfl Tryz.ntmps7 (rs := [.tmp 2]) rfl (by kernel_rfl) (by simp) (by kernel_rfl) ?_
  by_cases hn : fewN c = true
  · have e : fewC c = (!(c.inputs.any longB) && !(c.signals.any heavyB)) := by rw [fewC, hn]; rfl
    have hn' := hn
    simp only [fewN, Bool.not_eq_true', Bool.or_eq_false_iff, Bool.and_eq_false_iff, decide_eq_false_iff_not] at hn'
    obtain ⟨⟨⟨⟨k1, k2⟩, k3⟩, k4⟩, k5⟩ := hn'
    simp [fewN] at hn
    simp [hn]
    refine ⟨fun h => by omega, fun _ => ?_⟩
    refine V.forI (σ := Unit) c.inputs.length [1] (by simp; exact rfl) (fun i _ => [(3, aI i)]) (fun _ _ => []) (fun i _ => NoF longB (c.inputs.take i)) () (by simp [NoF]) (by simp) ⟨by simp; exact rfl, by simp⟩ ?_ ?_
    · rintro i - hi hI
      obtain ⟨x, hx⟩ : ∃ x, c.inputs[i] = x := ⟨_, rfl⟩
      have hxo : c.inputs[i]? = some x := by rw [List.getElem?_eq_getElem (by omega), hx]
      by_cases hb : longB x = true
      · have e' : fewC c = false := by rw [e, any_at hxo hb]; rfl
        simp [longB] at hb
        simp [hi, hx, e']
        intro h
        omega
      · have hn2 := hI.snoc' hxo (by simpa using hb)
        simp [longB] at hb
        simp [hi, hx, hn2]
        exact ⟨fun h => by omega, fun _ => by omega⟩
    · rintro - hI
      rw [List.take_length] at hI
      have ha := hI.any
      rw [ha] at e
      simp at e
      simp
      refine V.forI (σ := Unit) c.signals.length [1] (by simp; exact rfl) (fun i _ => [(4, aI i)]) (fun _ _ => []) (fun i _ => NoF heavyB (c.signals.take i)) () (by simp [NoF]) (by simp) ⟨by simp; exact rfl, by simp⟩ ?_ ?_
      · rintro i - hi hI
        obtain ⟨x, hx⟩ : ∃ x, c.signals[i] = x := ⟨_, rfl⟩
        have hxo : c.signals[i]? = some x := by rw [List.getElem?_eq_getElem (by omega), hx]
        have hok := hc.sigs x (List.mem_of_getElem? hxo)
        have q1 := light_fn x.on hok.on
        have q2 := light_fn x.off hok.off
        have e' : heavyB x = true → fewC c = false := by
          intro hb
          rw [e, any_at hxo hb]; rfl
        have hn2 : heavyB x = false → NoF heavyB (c.signals.take (i + 1)) := fun hb => hI.snoc' hxo hb
        simp only [heavyB] at e' hn2
        generalize lightE x.on = b1 at *
        generalize lightE x.off = b2 at *
        simp [hi, hx]
        intro b5
        refine GCall.fn (aB b1) (fun h => ⟨by first | trivial | exact h, q1⟩) ?_
        simp
        refine GCall.fn (aB b2) (fun h => ⟨by first | trivial | exact h, q2⟩) ?_
        have hlen : (c.signals.length : Int) ≤ 9223372036854775807 := by omega
        generalize fewC c = fw at e' ⊢
        by_cases hb : (x.name.length : Int) ≤ 200
        · have hb' : longB x.name = false := by simp [longB]; omega
          rw [hb'] at e' hn2
          cases b1 <;> cases b2 <;> simp [hb, Int.not_lt.2 hb] at e' hn2 ⊢ <;> first | (simp [e']; done) | exact ⟨by omega, hn2⟩
        · have hb' : longB x.name = true := by simp [longB]; omega
          rw [hb'] at e'
          simp at e'
          simp [hb, Int.not_le.1 hb, e']
      · rintro - hI
        rw [List.take_length] at hI
        have ha := hI.any
        have e2 : fewC c = true := by rw [e, ha]; rfl
        simp [e2]
  · have e : fewC c = false := by rw [fewC]; simp [hn]
    rw [e]
    simp [fewN] at hn
    simp
    exact ⟨fun h => ⟨h, fun h2 => ⟨h, h2⟩⟩, fun a b d e f => absurd (hn a (by omega) d e) (by omega)⟩
end Go.Proofs.YtdnkpogfcpjkpaaGreatDoor
end

section
namespace Go.Proofs.YtdnkpogfcpjkpaaGreatDoor
set_option maxHeartbeats 1000000
theorem Flips.map {α : Type} {φ : Pin × Pin → α} (hφ : ∀ a b, φ (a, b) = φ (b, a)) {l m : List (Pin × Pin)} (h : Flips l m) : l.map φ = m.map φ := by
  induction h with
  | nil => rfl
  | keep _ ih => simp [ih]
  | swap _ ih => simp [ih, hφ]
theorem Flips.symm {l m : List (Pin × Pin)} (h : Flips l m) : Flips m l := by
  induction h with
  | nil => exact .nil
  | keep _ ih => exact .keep ih
  | swap _ ih => exact .swap ih
def endsL (c : Control) (g : List (Int × Pin)) : List Pin := (List.range (countC c).toNat).map fun l : Nat => portM c g l
theorem endsL_len (c : Control) (g : List (Int × Pin)) : (endsL c g).length = (countC c).toNat := by simp [endsL]
theorem endsL_at {c : Control} {g : List (Int × Pin)} {l : Int} (h : 0 ≤ l ∧ l < countC c) : (endsL c g).getD l.toNat noPin = portM c g l := by
  unfold endsL
  rw [List.getD_eq_getElem?_getD, List.getElem?_map, List.getElem?_range (by omega), Option.map_some, Option.getD_some, Int.toNat_of_nonneg h.1]
theorem get_put (g : List (Int × Pin)) (k j : Int) (p : Pin) : getG (putG g k p) j = if j = k then some p else getG g j := by
  induction g with
  | nil =>
    simp only [putG, getG]
    by_cases h : k = j
    · simp [h]
    · rw [if_neg h, if_neg fun e => h e.symm]
  | cons q r ih =>
    simp only [putG]
    split
    · rename_i h
      simp only [getG]
      by_cases h2 : k = j
      · simp [h2]
      · rw [if_neg h2, if_neg fun e => h2 e.symm, if_neg (by omega)]
    · simp only [getG, ih]
      split
      · rw [if_neg (by omega)]
      · rfl
theorem port_put {c : Control} {g : List (Int × Pin)} {i : Nat} (hk : kindAt c i = 0) (p : Pin) (l : Int) (h0 : 0 ≤ 2 * c.actuators) : portM c (putG g (firstC c + i) p) l = if l = firstC c + i then p else portM c g l := by
  have hf : 2 * c.actuators ≤ firstC c := by unfold firstC; omega
  unfold portM
  by_cases h : l = firstC c + i
  · subst h
    rw [if_neg (by omega), if_neg (by omega), show firstC c + (i : Int) - firstC c = i by omega, hk, if_neg (by omega), if_neg (by omega), if_pos rfl, get_put, if_pos rfl, Option.getD_some]
  · rw [if_neg h, get_put, if_neg h]
theorem ends_put {c : Control} {g : List (Int × Pin)} {i : Nat} (hi : i < c.signals.length) (hk : kindAt c i = 0) (p : Pin) (h0 : 0 ≤ 2 * c.actuators) : endsL c (putG g (firstC c + i) p) = (endsL c g).set (firstC c + i).toNat p := by
  have hc : countC c = firstC c + c.signals.length := rfl
  have hf : 2 * c.actuators ≤ firstC c := by unfold firstC; omega
  apply List.ext_getElem?
  intro n
  by_cases hn : n < (countC c).toNat
  · unfold endsL
    rw [List.getElem?_set, List.getElem?_map, List.getElem?_map, List.getElem?_range hn, Option.map_some, Option.map_some, port_put hk p n h0, List.length_map, List.length_range]
    by_cases e : (n : Int) = firstC c + i
    · rw [if_pos e, if_pos (by omega), if_pos (by omega)]
    · rw [if_neg e, if_neg (by omega)]
  · rw [List.getElem?_eq_none (by rw [endsL_len]; omega), List.getElem?_eq_none (by rw [List.length_set, endsL_len]; omega)]
structure Eq0 (m : Mk) (d : Dr) : Prop where
  parts : m.parts = d.gears
  joins : Flips m.joins d.links
  num : m.number = 0
  cnt : d.count = 0
  sig : m.signal = -1
  gates : m.gates = []
theorem set_last {α : Type} (l : List α) (a b : α) : (l ++ [a]).set ((l ++ [a]).length - 1) b = l ++ [b] := by
  rw [List.set_append]
  simp
theorem act_eq {m : Mk} {d : Dr} (h : Eq0 m d) (a : Nat) : Eq0 (actM m a) (actR d a) := by
  obtain ⟨p, j, n, s, g⟩ := m
  obtain ⟨p', j', e', n'⟩ := d
  obtain ⟨rfl, h2, rfl, rfl, rfl, rfl⟩ := h
  refine ⟨?_, ?_, rfl, rfl, rfl, rfl⟩
  · simp only [actM, Mk.valve, Mk.add, Mk.feed, Mk.join, actR, Dr.put, Dr.link, Dr.ended]
    rw [set_last]
    simp
  · simp only [actM, Mk.valve, Mk.add, Mk.feed, Mk.join, actR, Dr.put, Dr.link, Dr.ended, if_true, List.append_nil, if_false, Bool.false_eq_true]
    exact ((((h2.app (joinD_flip _ _)).app (joinD_flip _ _)).app (joinD_flip _ _)).app (Flips.refl _)).app (Flips.refl _)
theorem in_eq {c : Control} {m : Mk} {d : Dr} (h : Eq0 m d) (i : Nat) : Eq0 (inM c m i) (inR37 c d i) := by
  obtain ⟨p, j, n, s, g⟩ := m
  obtain ⟨p', j', e', n'⟩ := d
  obtain ⟨rfl, h2, rfl, rfl, rfl, rfl⟩ := h
  refine ⟨?_, ?_, rfl, rfl, rfl, rfl⟩
  · simp only [inM, Mk.add, Mk.feed, Mk.join, inR37, Dr.put, Dr.ended]
  · simp only [inM, Mk.add, Mk.feed, Mk.join, inR37, Dr.put, Dr.ended, if_true]
    exact h2.app (joinD_flip _ _)
theorem fold_rel {α β γ : Type} {R : α → β → Prop} {f : α → γ → α} {g : β → γ → β} (h : ∀ a b x, R a b → R (f a x) (g b x)) : ∀ (l : List γ) {a : α} {b : β}, R a b → R (l.foldl f a) (l.foldl g b)
  | [], _, _, hr => hr
  | x :: l, _, _, hr => fold_rel h l (h _ _ x hr)
def baseR (c : Control) : Dr := (List.range c.inputs.length).foldl (inR37 c) ((List.range c.actuators.toNat).foldl actR ((⟨[], [], [], 0⟩ : Dr).put ⟨0, [83], 0, -1, none, -1, -1⟩ false))
theorem base_eq (c : Control) : Eq0 (machineM c) (baseR c) := by
  have h0 : Eq0 ((⟨[], [], 0, -1, []⟩ : Mk).add 0 [83] 0 (-1)) ((⟨[], [], [], 0⟩ : Dr).put ⟨0, [83], 0, -1, none, -1, -1⟩ false) := ⟨rfl, Flips.nil, rfl, rfl, rfl, rfl⟩
  have h1 := fold_rel (R := Eq0) (f := actM) (g := actR) (fun _ _ x h => act_eq h x) (List.range c.actuators.toNat) h0
  exact fold_rel (R := Eq0) (f := inM c) (g := inR37 c) (fun _ _ x h => in_eq h x) (List.range c.inputs.length) h1
theorem act_ends (d : Dr) (a : Nat) : (actR d a).ends = d.ends ++ [⟨letterT a ++ [48], [50]⟩, ⟨letterT a ++ [49], [50]⟩] := rfl
theorem in_ends (c : Control) (d : Dr) (i : Nat) : (inR37 c d i).ends = d.ends ++ [⟨c.inputs.getD i [], [50]⟩] := rfl
theorem num0 : numT 0 = [48] := by unfold numT; rw [Go.Lib.decDigits]; rfl
theorem num1 : numT 1 = [49] := by unfold numT; rw [Go.Lib.decDigits]; rfl
theorem range_ends (c : Control) (g : List (Int × Pin)) (a b : Nat) : (List.range (a + b)).map (fun l : Nat => portM c g l) = (List.range a).map (fun l : Nat => portM c g l) ++ (List.range b).map (fun l : Nat => portM c g ((a + l : Nat) : Int)) := by
  rw [List.range_add, List.map_append, List.map_map]
  rfl
theorem acts_ends {c : Control} (h0 : 0 ≤ c.actuators) (g : List (Int × Pin)) : ∀ n : Nat, (n : Int) ≤ c.actuators → ∀ d : Dr, d.ends = [] → ((List.range n).foldl actR d).ends = (List.range (2 * n)).map fun l : Nat => portM c g l
  | 0, _, d, hd => by simpa using hd
  | n + 1, hn, d, hd => by
    rw [List.range_succ, List.foldl_append, List.foldl_cons, List.foldl_nil, act_ends, acts_ends h0 g n (by omega) d hd, show 2 * (n + 1) = 2 * n + 2 by omega, range_ends c g (2 * n) 2]
    congr 1
    simp only [List.range_succ, List.range_zero, List.nil_append, List.map_append, List.map_cons, List.map_nil, List.cons_append]
    have e1 : portM c g ((2 * n + 0 : Nat) : Int) = ⟨letterT n ++ [48], [50]⟩ := by
      unfold portM
      rw [if_pos (by omega), show ((2 * n + 0 : Nat) : Int).toNat / 2 = n by omega, show ((2 * n + 0 : Nat) : Int).toNat % 2 = 0 by omega, num0]
    have e2 : portM c g ((2 * n + 1 : Nat) : Int) = ⟨letterT n ++ [49], [50]⟩ := by
      unfold portM
      rw [if_pos (by omega), show ((2 * n + 1 : Nat) : Int).toNat / 2 = n by omega, show ((2 * n + 1 : Nat) : Int).toNat % 2 = 1 by omega, num1]
    rw [e1, e2]
theorem ins_ends {c : Control} (h0 : 0 ≤ c.actuators) (g : List (Int × Pin)) : ∀ n : Nat, n ≤ c.inputs.length → ∀ d : Dr, d.ends = ((List.range (2 * c.actuators.toNat)).map fun l : Nat => portM c g l) → ((List.range n).foldl (inR37 c) d).ends = (List.range (2 * c.actuators.toNat + n)).map fun l : Nat => portM c g l
  | 0, _, d, hd => by simpa using hd
  | n + 1, hn, d, hd => by
    rw [List.range_succ, List.foldl_append, List.foldl_cons, List.foldl_nil, in_ends, ins_ends h0 g n (by omega) d hd, ← Nat.add_assoc, range_ends c g (2 * c.actuators.toNat + n) 1]
    congr 1
    simp only [List.range_succ, List.range_zero, List.nil_append, List.map_cons, List.map_nil]
    unfold portM firstC
    rw [if_neg (by omega), if_pos (by omega), show (((2 * c.actuators.toNat + n + 0 : Nat) : Int) - 2 * c.actuators).toNat = n by omega]
def ownD (c : Control) (i : Nat) : List Made := match c.signals[i]? with
  | some x => if x.kind = 1 then [⟨2, ownT c i, 0, i, none, -1, firstC c + i⟩] else if x.kind = 2 then [⟨12, ownT c i, x.delay, i, none, -1, firstC c + i⟩] else []
  | none => []
def ownJ (c : Control) (i : Nat) : List (Pin × Pin) := match c.signals[i]? with
  | some x => if x.kind = 1 ∨ x.kind = 2 then joinD supPin ⟨ownT c i, [49]⟩ else []
  | none => []
theorem sigF_eq {c : Control} (d : Dr) {i : Nat} (hi : i < c.signals.length) (h0 : 0 ≤ c.actuators) : (sigF c d i).gears = d.gears ++ ownD c i ∧ (∃ j, Flips (ownJ c i) j ∧ (sigF c d i).links = d.links ++ j) ∧ (sigF c d i).ends = d.ends ++ [portM c [] (firstC c + i)] ∧ (sigF c d i).count = d.count := by
  have hx : c.signals[i]? = some c.signals[i] := List.getElem?_eq_getElem hi
  generalize c.signals[i] = x at hx
  have hk : kindAt c i = x.kind := by simp [kindAt, hx]
  have hp : portM c [] (firstC c + i) = if x.kind = 1 then ⟨ownT c i, [52]⟩ else if x.kind = 2 then ⟨ownT c i, [50]⟩ else noPin := by
    unfold portM firstC
    rw [if_neg (by omega), if_neg (by omega), show 2 * c.actuators + (c.inputs.length : Int) + i - (2 * c.actuators + c.inputs.length) = i by omega, hk, Int.toNat_natCast]
    rfl
  unfold sigF ownD ownJ
  rw [hx, hp]
  dsimp only
  by_cases h1 : x.kind = 1
  · have h3 : x.kind = 1 ∨ x.kind = 2 := .inl h1
    simp only [if_pos h1, if_pos h3]
    exact ⟨rfl, ⟨_, joinD_flip _ _, rfl⟩, rfl, rfl⟩
  · by_cases h2 : x.kind = 2
    · have h3 : x.kind = 1 ∨ x.kind = 2 := .inr h2
      simp only [if_neg h1, if_pos h2, if_pos h3]
      exact ⟨rfl, ⟨_, joinD_flip _ _, rfl⟩, rfl, rfl⟩
    · have h3 : ¬ (x.kind = 1 ∨ x.kind = 2) := by omega
      simp only [if_neg h1, if_neg h2, if_neg h3]
      exact ⟨by simp [Dr.ended], ⟨[], .nil, by simp [Dr.ended]⟩, rfl, rfl⟩
def ownDs (c : Control) (i n : Nat) : List Made := (List.range' i n).flatMap (ownD c)
def ownJs (c : Control) (i n : Nat) : List (Pin × Pin) := (List.range' i n).flatMap (ownJ c)
theorem frame_sigs {c : Control} (h0 : 0 ≤ c.actuators) (d : Dr) (hd : d.ends = (List.range (firstC c).toNat).map fun l : Nat => portM c [] l) : ∀ n, n ≤ c.signals.length → ((List.range n).foldl (sigF c) d).gears = d.gears ++ ownDs c 0 n ∧ (∃ j, Flips (ownJs c 0 n) j ∧ ((List.range n).foldl (sigF c) d).links = d.links ++ j) ∧
    ((List.range n).foldl (sigF c) d).ends = ((List.range ((firstC c).toNat + n)).map fun l : Nat => portM c [] l) ∧ ((List.range n).foldl (sigF c) d).count = d.count
  | 0, _ => ⟨by simp [ownDs], ⟨[], .nil, by simp⟩, by simpa using hd, rfl⟩
  | n + 1, hn => by
    obtain ⟨i1, ⟨j, i2, i3⟩, i4, i5⟩ := frame_sigs h0 d hd n (by omega)
    obtain ⟨k1, ⟨j', k2, k3⟩, k4, k5⟩ := sigF_eq ((List.range n).foldl (sigF c) d) (show n < c.signals.length by omega) h0
    rw [List.range_succ, List.foldl_append, List.foldl_cons, List.foldl_nil]
    refine ⟨?_, ⟨j ++ j', ?_, ?_⟩, ?_, k5.trans i5⟩
    · rw [k1, i1, ownDs, ownDs, List.range'_concat, List.flatMap_append]
      simp
    · rw [ownJs, List.range'_concat, List.flatMap_append]
      refine i2.app ?_
      simpa using k2
    · rw [k3, i3, List.append_assoc]
    · have hf : 0 ≤ firstC c := by unfold firstC; omega
      rw [k4, i4, ← Nat.add_assoc, range_ends c [] ((firstC c).toNat + n) 1]
      congr 1
      simp only [List.range_succ, List.range_zero, List.nil_append, List.map_cons, List.map_nil]
      rw [show (((firstC c).toNat + n + 0 : Nat) : Int) = firstC c + n by omega]
structure Rel (c : Control) (m : Mk) (d : Dr) (rest : List Made) (restJ : List (Pin × Pin)) : Prop where
  parts : (m.parts ++ rest).Perm d.gears
  joins : ∀ (α : Type) (φ : Pin × Pin → α), (∀ a b, φ (a, b) = φ (b, a)) → (m.joins.map φ ++ restJ.map φ).Perm (d.links.map φ)
  num : m.number = d.count
  ends : d.ends = endsL c m.gates
theorem frame_rel {c : Control} (h0 : 0 ≤ c.actuators) : Rel c (machineM c) (frameR c) (ownDs c 0 c.signals.length) (ownJs c 0 c.signals.length) := by
  have hb := base_eq c
  have he : (baseR c).ends = (List.range (firstC c).toNat).map fun l : Nat => portM c [] l := by
    unfold baseR
    rw [ins_ends h0 [] c.inputs.length (Nat.le_refl _) _ (acts_ends h0 [] c.actuators.toNat (by omega) _ rfl), show (firstC c).toNat = 2 * c.actuators.toNat + c.inputs.length by unfold firstC; omega]
  obtain ⟨i1, ⟨j, i2, i3⟩, i4, i5⟩ := frame_sigs h0 (baseR c) he c.signals.length (Nat.le_refl _)
  have e : frameR c = (List.range c.signals.length).foldl (sigF c) (baseR c) := rfl
  have hg := hb.gates
  rw [e]
  refine ⟨?_, fun α φ hφ => ?_, ?_, ?_⟩
  · rw [i1, hb.parts]
  · rw [i3, List.map_append, hb.joins.map hφ, i2.map hφ]
  · rw [i5, hb.num, hb.cnt]
  · rw [i4, hg]
    unfold endsL
    rw [show (countC c).toNat = (firstC c).toNat + c.signals.length by unfold countC firstC; omega]
theorem expr_both {c : Control} {m : Mk} {d : Dr} {rest : List Made} {restJ : List (Pin × Pin)} (h : Rel c m d rest restJ) {x : Expr} (hx : ∀ v ∈ varsE x, 0 ≤ v ∧ v < countC c) : SameD (m.expr c x) (d.expr x m.signal) := by
  unfold Mk.expr Dr.expr
  rw [← h.num]
  refine expr_same _ x _ fun v hv => ?_
  have := hx v hv
  rw [h.ends, endsL_at this]
theorem perm_mid {α : Type} {a b c d : List α} (h : (a ++ b).Perm d) : (a ++ c ++ b).Perm (d ++ c) := by
  rw [List.append_assoc]
  refine (List.Perm.append_left a List.perm_append_comm).trans ?_
  rw [← List.append_assoc]
  exact h.append_right c
theorem app_rel {c : Control} {m : Mk} {d : Dr} {rest : List Made} {restJ : List (Pin × Pin)} (h : Rel c m d rest restJ) {x y : Dl} (hs : SameD x y) : Rel c (m.app x) (d.app y) rest restJ := by
  obtain ⟨h1, h2, h3, h4⟩ := h
  obtain ⟨s1, s2, s3, s4⟩ := hs
  refine ⟨?_, fun α φ hφ => ?_, s3, h4⟩
  · simp only [Mk.app, Dr.app]
    rw [s1]
    exact perm_mid h1
  · simp only [Mk.app, Dr.app, List.map_append]
    rw [s2.map hφ]
    exact perm_mid (h2 α φ hφ)
theorem join_rel {c : Control} {m : Mk} {d : Dr} {rest : List Made} {restJ : List (Pin × Pin)} (h : Rel c m d rest restJ) (a b : Pin) : Rel c (m.join a b) (d.link a b) rest restJ := by
  obtain ⟨h1, h2, h3, h4⟩ := h
  refine ⟨h1, fun α φ hφ => ?_, h3, h4⟩
  simp only [Mk.join, Dr.link, List.map_append]
  exact perm_mid (h2 α φ hφ)
theorem to_rel {c : Control} {m : Mk} {d : Dr} {rest : List Made} {restJ : List (Pin × Pin)} (h : Rel c m d rest restJ) {x : Expr} (hx : ∀ v ∈ varsE x, 0 ≤ v ∧ v < countC c) (p : Pin) : Rel c (m.to c x p) (d.to x m.signal p) rest restJ := by
  have hs := expr_both h hx
  unfold Mk.to Dr.to
  rw [hs.pin]
  exact join_rel (app_rel h hs) _ _
theorem sig_rel {c : Control} {m : Mk} {d : Dr} {rest : List Made} {restJ : List (Pin × Pin)} (h : Rel c m d rest restJ) (i : Nat) : Rel c (m.sig i) d rest restJ := ⟨h.parts, h.joins, h.num, h.ends⟩
theorem gate_rel {c : Control} {m : Mk} {d : Dr} {rest : List Made} {restJ : List (Pin × Pin)} (h : Rel c m d rest restJ) {i : Nat} (hi : i < c.signals.length) (h0 : 0 ≤ c.actuators) (hx : ∀ x, c.signals[i]? = some x → ∀ v ∈ varsE x.on, 0 ≤ v ∧ v < countC c) : Rel c (gateM c m i) (gateR c d i) rest restJ := by
  have hxi : c.signals[i]? = some c.signals[i] := List.getElem?_eq_getElem hi
  generalize c.signals[i] = x at hxi
  have hk : kindAt c i = x.kind := by simp [kindAt, hxi]
  unfold gateM gateR
  rw [hxi, hk]
  dsimp only [Option.map_some, Option.getD_some]
  by_cases h1 : x.kind = 0
  · rw [if_pos h1, if_pos h1]
    have hs := expr_both (sig_rel h i) (hx x hxi)
    have ha := app_rel (sig_rel h i) hs
    refine ⟨ha.parts, ha.joins, ha.num, ?_⟩
    show d.ends.set _ _ = endsL c (putG m.gates _ _)
    rw [ends_put hi (hk.trans h1) _ (by omega), h.ends]
    congr 1
    exact hs.pin.symm
  · rw [if_neg h1, if_neg h1]
    exact sig_rel h i
theorem own_rel {c : Control} {m : Mk} {d : Dr} {i n : Nat} (h : Rel c m d (ownDs c i (n + 1)) (ownJs c i (n + 1))) : Rel c { m with parts := m.parts ++ ownD c i, joins := m.joins ++ ownJ c i } d (ownDs c (i + 1) n) (ownJs c (i + 1) n) := by
  obtain ⟨h1, h2, h3, h4⟩ := h
  have e1 : ownDs c i (n + 1) = ownD c i ++ ownDs c (i + 1) n := by simp [ownDs, List.range'_succ]
  have e2 : ownJs c i (n + 1) = ownJ c i ++ ownJs c (i + 1) n := by simp [ownJs, List.range'_succ]
  rw [e1] at h1
  refine ⟨?_, fun α φ hφ => ?_, h3, h4⟩
  · dsimp only
    rw [List.append_assoc]
    exact h1
  · have := h2 α φ hφ
    rw [e2, List.map_append] at this
    dsimp only
    rw [List.map_append, List.append_assoc]
    exact this
theorem sigs_rel {c : Control} {m : Mk} {d : Dr} {i n : Nat} (h : Rel c m d (ownDs c i (n + 1)) (ownJs c i (n + 1))) (hi : i < c.signals.length) (hx : ∀ x, c.signals[i]? = some x → (x.kind = 0 ∨ x.kind = 1 ∨ x.kind = 2) ∧ (∀ v ∈ varsE x.on, 0 ≤ v ∧ v < countC c) ∧ ∀ v ∈ varsE x.off, 0 ≤ v ∧ v < countC c) :
    Rel c (sigM c m i) (sigR c d i) (ownDs c (i + 1) n) (ownJs c (i + 1) n) := by
  have hxi : c.signals[i]? = some c.signals[i] := List.getElem?_eq_getElem hi
  generalize c.signals[i] = x at hxi
  have ho := own_rel (sig_rel h i)
  obtain ⟨hk, hon, hoff⟩ := hx x hxi
  unfold sigM sigR
  unfold ownD ownJ at ho
  rw [hxi] at ho ⊢
  dsimp only at ho ⊢
  rcases hk with hk | hk | hk
  · simp only [hk, show ¬ (0 : Int) = 1 by omega, show ¬ (0 : Int) = 2 by omega, if_false, if_true, or_self, List.append_nil] at ho ⊢
    exact ho
  · simp only [hk, show ¬ (1 : Int) = 0 by omega, show ¬ (1 : Int) = 2 by omega, if_false, if_true, or_false] at ho ⊢
    exact to_rel (to_rel ho hon _) hoff _
  · simp only [hk, show ¬ (2 : Int) = 0 by omega, show ¬ (2 : Int) = 1 by omega, if_false, if_true, or_true] at ho ⊢
    exact to_rel ho hon _
theorem pil_rel {c : Control} {m : Mk} {d : Dr} (h : Rel c m d [] []) (a : Nat) (hp : 0 ≤ c.plus.getD a 0 ∧ c.plus.getD a 0 < countC c) (hm : 0 ≤ c.minus.getD a 0 ∧ c.minus.getD a 0 < countC c) : Rel c (pilM c m a) (pilR c d a) [] [] := by
  unfold pilM pilR
  have e : ∀ d' : Dr, d'.ends = endsL c m.gates → ∀ l : Int, 0 ≤ l ∧ l < countC c → d'.ends.getD l.toNat noPin = portM c m.gates l := fun d' hd l hl => by rw [hd, endsL_at hl]
  rw [e d h.ends _ hp]
  show Rel c _ ((d.link _ _).link (d.ends.getD _ _) _) _ _
  rw [e d h.ends _ hm]
  exact join_rel (join_rel h _ _) _ _
structure InC (c : Control) : Prop where
  act : 0 ≤ c.actuators
  sig : ∀ (i : Nat) (x : Signal), c.signals[i]? = some x → (x.kind = 0 ∨ x.kind = 1 ∨ x.kind = 2) ∧ (∀ v ∈ varsE x.on, 0 ≤ v ∧ v < countC c) ∧ ∀ v ∈ varsE x.off, 0 ≤ v ∧ v < countC c
  pil : ∀ a : Nat, (a : Int) < c.actuators → (0 ≤ c.plus.getD a 0 ∧ c.plus.getD a 0 < countC c) ∧ 0 ≤ c.minus.getD a 0 ∧ c.minus.getD a 0 < countC c
theorem gates_rel {c : Control} (hc : InC c) {m : Mk} {d : Dr} {rest : List Made} {restJ : List (Pin × Pin)} (h : Rel c m d rest restJ) : ∀ n, n ≤ c.signals.length → Rel c ((List.range n).foldl (gateM c) m) ((List.range n).foldl (gateR c) d) rest restJ
  | 0, _ => h
  | n + 1, hn => by
    rw [List.range_succ, List.foldl_append, List.foldl_append]
    exact gate_rel (gates_rel hc h n (by omega)) (by omega) hc.act fun x hx => (hc.sig n x hx).2.1
theorem sigsAll_rel {c : Control} (hc : InC c) {m : Mk} {d : Dr} : ∀ (n k : Nat), n + k = c.signals.length → Rel c m d (ownDs c 0 c.signals.length) (ownJs c 0 c.signals.length) → Rel c ((List.range n).foldl (sigM c) m) ((List.range n).foldl (sigR c) d) (ownDs c n k) (ownJs c n k)
  | 0, k, hk, h => by
    obtain rfl : k = c.signals.length := by omega
    exact h
  | n + 1, k, hk, h => by
    rw [List.range_succ, List.foldl_append, List.foldl_append]
    exact sigs_rel (sigsAll_rel hc n (k + 1) (by omega) h) (by omega) (hc.sig n)
theorem whole_rel {c : Control} (hc : InC c) : Rel c (wholeM c) (wholeR c) [] [] := by
  have h1 := gates_rel hc (frame_rel hc.act) c.signals.length (Nat.le_refl _)
  have h2 := sigsAll_rel hc c.signals.length 0 (by omega) h1
  have h3 : ∀ n : Nat, (n : Int) ≤ c.actuators → ∀ {m : Mk} {d : Dr}, Rel c m d [] [] → Rel c ((List.range n).foldl (pilM c) m) ((List.range n).foldl (pilR c) d) [] [] := by
    intro n
    induction n with
    | zero => intro _ m d h; exact h
    | succ n ih =>
      intro hn m d h
      rw [List.range_succ, List.foldl_append, List.foldl_append]
      obtain ⟨p1, p2⟩ := hc.pil n (by omega)
      exact pil_rel (ih (by omega) h) n p1 p2
  exact h3 c.actuators.toNat (by have := hc.act; omega) h2
end Go.Proofs.YtdnkpogfcpjkpaaGreatDoor
end

section
namespace Go.Proofs.YtdnkpogfcpjkpaaGreatDoor
set_option maxHeartbeats 1000000
def PilC (c : Control) : Prop := (c.plus.length : Int) = c.actuators ∧ (c.minus.length : Int) = c.actuators ∧ (∀ p ∈ c.plus, 0 ≤ p ∧ p < countC c) ∧ ∀ p ∈ c.minus, 0 ≤ p ∧ p < countC c
theorem chk_parts {c : Control} (h : checkC c = 0) : (1 ≤ c.actuators ∧ c.actuators ≤ 6) ∧ (c.inputs.length ≤ 16 ∧ c.signals.length ≤ 64) ∧ (∀ i, i < c.inputs.length → inpE c i = 0) ∧ (∀ i, i < c.signals.length → sigE c i = 0) ∧ pilotE c = 0 := by
  unfold checkC at h
  split at h
  · cases h
  · split at h
    · cases h
    · split at h
      · rename_i h1; exact absurd h h1
      · split at h
        · rename_i h1; exact absurd h h1
        · rename_i h1 h2 h3 h4
          exact ⟨by omega, by omega, firstErr_zero (Classical.not_not.1 h3), firstErr_zero (Classical.not_not.1 h4), h⟩
theorem sig_parts {c : Control} {i : Int} {s : Signal} {names : List (List UInt8)} (h : signalE c i s names = 0) :
    nameE s.name names = 0 ∧ (0 ≤ s.kind ∧ s.kind < 3) ∧ checkE s.on (countC c) = 0 ∧ (s.kind = 0 → lateC c i s.on = false ∧ zeroE s.off = true ∧ s.init = false ∧ s.delay = 0) ∧ (s.kind = 1 → checkE s.off (countC c) = 0 ∧ s.delay = 0) ∧ (s.kind = 2 → (1 ≤ s.delay ∧ s.delay ≤ 1000000) ∧ zeroE s.off = true ∧ s.init = false) := by
  unfold signalE at h
  split at h
  · rename_i h1; exact absurd h h1
  · rename_i h1
    split at h
    · cases h
    · rename_i h2
      split at h
      · rename_i h3; exact absurd h h3
      · rename_i h3
        refine ⟨Classical.not_not.1 h1, by omega, Classical.not_not.1 h3, fun k => ?_, fun k => ?_, fun k => ?_⟩
        · rw [if_pos k] at h
          unfold gateE at h
          split at h
          · cases h
          · rename_i h4
            split at h
            · cases h
            · rename_i h5
              simp at h4 h5
              exact ⟨h4, h5.1.1, h5.1.2, h5.2⟩
        · rw [if_neg (by omega), if_pos k] at h
          unfold memE at h
          split at h
          · rename_i h4; exact absurd h h4
          · rename_i h4
            split at h
            · cases h
            · rename_i h5
              exact ⟨Classical.not_not.1 h4, Classical.not_not.1 h5⟩
        · rw [if_neg (by omega), if_neg (by omega)] at h
          unfold timE at h
          split at h
          · cases h
          · split at h
            · cases h
            · rename_i h4 h5
              simp at h5
              exact ⟨by omega, h5.1, h5.2⟩
theorem zero_right {x : Expr} (h : zeroE x = true) (n : Int) : RightE n x := by
  simp [zeroE] at h
  obtain ⟨⟨h1, h2⟩, h3⟩ := h
  refine .mk x ?_ (by rw [h3]; intro a ha; cases ha)
  unfold nodeR
  simp [h1, h2, h3]
theorem sig_right {c : Control} (hf : Fine c) {i : Nat} {x : Signal} (hx : c.signals[i]? = some x) : RightE (countC c) x.on ∧ RightE (countC c) x.off := by
  have ho := hf.on hx
  refine ⟨(right_of_check ho.1).1, ?_⟩
  have h := hf.sigs i x hx
  unfold signalE at h
  split at h
  · rename_i h1; exact absurd h h1
  · split at h
    · cases h
    · split at h
      · rename_i h1; exact absurd h h1
      · split at h
        · refine zero_right ?_ _
          cases hz : zeroE x.off
          · unfold gateE at h
            split at h
            · cases h
            · simp [hz] at h
          · rfl
        · split at h
          · unfold memE at h
            split at h
            · rename_i h1; exact absurd h h1
            · rename_i h1; exact (right_of_check (Classical.not_not.1 h1)).1
          · refine zero_right ?_ _
            cases hz : zeroE x.off
            · unfold timE at h
              split at h
              · cases h
              · simp [hz] at h
            · rfl
theorem pil_of {c : Control} (h : checkC c = 0) : PilC c := by
  unfold checkC at h
  split at h
  · cases h
  · split at h
    · cases h
    · split at h
      · rename_i h1; exact absurd h h1
      · split at h
        · rename_i h1; exact absurd h h1
        · unfold pilotE at h
          split at h
          · cases h
          · split at h
            · cases h
            · rename_i h1 h2
              simp only [List.any_append, Bool.or_eq_true, List.any_eq_true, decide_eq_true_eq, not_or, not_exists, not_and] at h2
              refine ⟨by omega, by omega, fun p hp => ?_, fun p hp => ?_⟩
              · have := h2.1 p hp
                omega
              · have := h2.2 p hp
                omega
theorem name_parts {s : List UInt8} {names : List (List UInt8)} (h : nameE s names = 0) : wordS s ≠ false ∧ s.length ≤ 24 ∧ s ∉ names := by
  unfold nameE at h
  split at h
  · cases h
  · rename_i h1
    split at h
    · cases h
    · rename_i h2
      split at h
      · cases h
      · rename_i h3
        exact ⟨h1, by omega, h3⟩
theorem fine_names {c : Control} (h : checkC c = 0) : ∀ k : Nat, (k : Int) < countC c → namedC c k ∉ namesB c k := by
  have hf := fine_of h
  have ha := hf.act
  have hN : ∀ s names, nameE s names = 0 → s ∉ names := by
    intro s names hz hm
    unfold nameE at hz
    split at hz
    · cases hz
    · split at hz
      · cases hz
      · simp [hm] at hz
  have hin : NoE (inpE c) c.inputs.length := by
    unfold checkC at h
    split at h
    · cases h
    · split at h
      · cases h
      · split at h
        · rename_i h1; exact absurd h h1
        · rename_i h1; exact firstErr_zero (Classical.not_not.1 h1)
  obtain ⟨N, hNN⟩ : ∃ N : Nat, c.actuators = N := ⟨c.actuators.toNat, by omega⟩
  have hNt : c.actuators.toNat = N := by omega
  intro k hk
  have hcn : countC c = 2 * c.actuators + c.inputs.length + c.signals.length := rfl
  have hfc : firstC c = 2 * c.actuators + c.inputs.length := rfl
  by_cases h1 : (k : Int) < 2 * c.actuators
  · exact line_notin h1 (by omega)
  · by_cases h2 : (k : Int) < firstC c
    · obtain ⟨i, hi⟩ : ∃ i : Nat, k = 2 * N + i := ⟨k - 2 * N, by omega⟩
      have hz := hin i (by omega)
      unfold inpE at hz
      rw [hNt, ← hi] at hz
      exact hN _ _ hz
    · obtain ⟨i, hi⟩ : ∃ i : Nat, k = 2 * N + c.inputs.length + i := ⟨k - (2 * N + c.inputs.length), by omega⟩
      have hil : i < c.signals.length := by omega
      have hx : c.signals[i]? = some c.signals[i] := List.getElem?_eq_getElem hil
      have hz := hf.sigs i _ hx
      rw [hNt, ← hi] at hz
      have hn : namedC c k = c.signals[i].name := by
        refine named_sig (s := c.signals[i]) (by omega) (by omega) ?_
        rw [show ((k : Int) - firstC c).toNat = i by omega]
        exact hx
      rw [hn]
      refine hN _ _ ?_
      unfold signalE at hz
      split at hz
      · rename_i h3; exact absurd hz h3
      · rename_i h3; exact Classical.not_not.1 h3
theorem perm_at {α : Type} (G : List α) (d : α) (n : Nat) (hn : G.length = n) (ix : List Nat) (h : ix.Perm (List.range n)) : (ix.map fun i => G.getD i d).Perm G := by
  subst hn
  have h1 := h.map fun i => G.getD i d
  refine h1.trans ?_
  have e : (List.range G.length).map (fun i => G.getD i d) = G := by
    apply List.ext_getElem
    · simp
    · intro i h1 h2
      simp [h2]
  rw [e]
theorem occ_off {c : Control} (hf : Fine c) {i : Nat} {s : Signal} (hi : c.signals[i]? = some s) : (∀ k, occE s.off k = (varsE s.off).any (· == k)) ∧ ∀ k ∈ varsE s.off, 0 ≤ k ∧ k < countC c := by
  have hz0 : zeroE s.off = true → (∀ k, occE s.off k = (varsE s.off).any (· == k)) ∧ ∀ k ∈ varsE s.off, 0 ≤ k ∧ k < countC c := by
    intro hz
    simp [zeroE] at hz
    have e : varsE s.off = [] := by rw [varsE_eq, hz.2, hz.1.1]; simp [varsL]
    rw [e]
    refine ⟨fun k => ?_, by simp⟩
    rw [occE_eq, hz.2, hz.1.1]
    simp [occL]
  have h := hf.sigs i s hi
  unfold signalE at h
  split at h
  · rename_i h1; exact absurd h h1
  · split at h
    · cases h
    · split at h
      · rename_i h1; exact absurd h h1
      · split at h
        · refine hz0 ?_
          cases hz : zeroE s.off
          · unfold gateE at h
            split at h
            · cases h
            · simp [hz] at h
          · rfl
        · split at h
          · unfold memE at h
            split at h
            · rename_i h1; exact absurd h h1
            · rename_i h1
              have h2 := Classical.not_not.1 h1
              exact ⟨occ_check h2, vars_check h2⟩
          · refine hz0 ?_
            cases hz : zeroE s.off
            · unfold timE at h
              split at h
              · cases h
              · simp [hz] at h
            · rfl
theorem sm_of {c : Control} {s : State} (hf : Fine c) (h : shapeS c s) : SmS s := by
  obtain ⟨h1, h2, h3, h4, h5⟩ := h
  have := hf.act
  have := hf.inp
  have := hf.sig
  exact ⟨by omega, by omega, by omega, by omega, by omega⟩
end Go.Proofs.YtdnkpogfcpjkpaaGreatDoor
end
