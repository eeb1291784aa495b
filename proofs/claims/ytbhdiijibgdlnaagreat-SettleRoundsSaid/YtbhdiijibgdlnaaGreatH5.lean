/- Texts joined by a program: Ss, Su, Sv, Sw, Ua, Ub, Uc, Ud, Ue, Uf, Ug, Va. -/
import Derived.Test.YtbhdiijibgdlnaaGreatH4
import Derived.Test.YtbhdiijibgdlnaaGreatH2
import Derived.Test.YtbhdiijibgdlnaaGreatH3
import Derived.Test.YtbhdiijibgdlnaaGreatHZ
set_option linter.unusedSimpArgs false
set_option linter.unusedVariables false

/- Contracts: the reference's rounds: Line, Asked, Turned. -/
section
namespace Go.Proofs.YtbhdiijibgdlnaaGreat
set_option maxHeartbeats 4000000
set_option maxRecDepth 10000

theorem Line28_fn (c : Control) (i : Int) (h : Sm c) (hi : 0 ≤ i ∧ i ≤ 1000000) : CallFn Tryz.prog 121 [aC c, aI i] (aI (firstC c + i)) := by
  have h1 := h.act
  have h2 := h.inp
  refine callFz_of Tryz.func121 rfl Tryz.ntmps121 (rs := [.tmp 4]) rfl (by kernel_rfl) (by simp) (by kernel_rfl) ?_
  simp
  refine (signals_fn c h).s ?_
  simp
  unfold firstC
  omega
theorem Asked_fn (x : Signal) (vs : List Bool) (hx : OkS x) (hv : vs.length ≤ 256) (hon : RightE vs.length x.on) (hoff : x.kind = 1 → RightE vs.length x.off) :
    CallFn Tryz.prog 120 [aS x, aBs vs] (.tuple [aB (evalE x.on vs), aB (x.kind == 1 && evalE x.off vs)]) := by
  have c1 := holds_fn (SizeOf.sizeOf x.on + 1) x.on (by omega) hx.on vs hv hon
  refine callFz_of Tryz.func120 rfl Tryz.ntmps120 (rs := [.tmp 4, .tmp 5]) rfl (by kernel_rfl) (by simp) (by kernel_rfl) ?_
  by_cases hk : x.kind = 1
  · have c2 := holds_fn (SizeOf.sizeOf x.off + 1) x.off (by omega) hx.off vs hv (hoff hk)
    generalize evalE x.on vs = b1 at *
    generalize evalE x.off vs = b2 at *
    simp
    refine V.drawX (fun q => if q = 9 then some (.fn (aB b1)) else if q = 17 then some (.fn (aB b2)) else none) (by kernel_rfl) (by kernel_rfl) (by simp) ?_
    simp [hk]
    exact ⟨c1, c2⟩
  · generalize evalE x.on vs = b1 at *
    simp
    refine V.drawX (fun q => if q = 9 then some (.fn (aB b1)) else if q = 17 then some (.fn (aB false)) else none) (by kernel_rfl) (by kernel_rfl) (by simp) ?_
    simp [hk]
    exact c1

/-- What a signal wants: to become something else. -/
def wantV (k : Int) (v : Bool) (t : Int) (on off : Bool) : Bool :=
  if k = 1 then (on != off) && (v != on) else if k = 2 then (if on = false then decide (t ≠ 0) else decide (t = 0)) else false
def wantAt (c : Control) (s : State) (i : Nat) : Bool := match c.signals[i]?, s.values[i]?, s.timers[i]? with
  | some x, some v, some t => wantV x.kind v t (evalE x.on (valuesOf s)) (x.kind == 1 && evalE x.off (valuesOf s))
  | _, _, _ => false
def turnS (c : Control) (s : State) (i : Nat) : State := { s with values := s.values.set i (sigStep c s (valuesOf s) i).1, timers := s.timers.set i (sigStep c s (valuesOf s) i).2.1 }
theorem set_same {α : Type} {l : List α} {i : Nat} {a : α} (h : l[i]? = some a) : l.set i a = l := by
  obtain ⟨h1, h2⟩ := List.getElem?_eq_some_iff.1 h
  subst h2
  exact List.set_getElem_self h1

theorem allD_setB (l : List Bool) (i : Nat) (b : Bool) : allD ((l.map rB).set i [A.dat (L.bool b)]) = true := by
  rw [show [A.dat (L.bool b)] = rB b from rfl, ← List.map_set]
  exact allD_B _
theorem rowsD_setB (l : List Bool) (i : Nat) (b : Bool) : rowsD ((l.map rB).set i [A.dat (L.bool b)]) = (l.map encB).set i (encB b) := by
  rw [show [A.dat (L.bool b)] = rB b from rfl, ← List.map_set, ← List.map_set]
  exact rowsD_B _
theorem allD_setI (l : List Int) (i : Nat) (b : Int) : allD ((l.map rI).set i [A.dat (L.int .i64 b)]) = true := by
  rw [show [A.dat (L.int .i64 b)] = rI b from rfl, ← List.map_set]
  exact allD_I _
theorem rowsD_setI (l : List Int) (i : Nat) (b : Int) : rowsD ((l.map rI).set i [A.dat (L.int .i64 b)]) = (l.map encI).set i (encI b) := by
  rw [show [A.dat (L.int .i64 b)] = rI b from rfl, ← List.map_set, ← List.map_set]
  exact rowsD_I _
theorem Turned_fn (c : Control) (s : State) (i : Nat) (hc : OkC c) (hf : Fine c) (hsh : shapeS c s) (hi : i < c.signals.length) :
    CallFn Tryz.prog 119 [aC c, aSt s, aI i] (.tuple [aSt (turnS c s i), aB (wantAt c s i)]) := by
  have hsm := sm_of hf hsh
  have ha := hf.act
  have hin := hf.inp
  have hsg := hf.sig
  have hL := valuesOf_length hsh
  have hv2 := ValuesR_fn c s hsm (by rw [hsh.1])
  obtain ⟨j1, j2, j3, j4, j5⟩ := hsh
  obtain ⟨x, hxo⟩ : ∃ x, c.signals[i]? = some x := ⟨_, List.getElem?_eq_getElem hi⟩
  obtain ⟨v, hv⟩ : ∃ v, s.values[i]? = some v := ⟨_, List.getElem?_eq_getElem (by omega)⟩
  obtain ⟨t, ht⟩ : ∃ t, s.timers[i]? = some t := ⟨_, List.getElem?_eq_getElem (by omega)⟩
  have hx := (List.getElem?_eq_some_iff.1 hxo).2
  have hox := hc.sigs x (List.mem_of_getElem? hxo)
  have hon := hf.on hxo
  have hask := Asked_fn x (valuesOf s) hox (by have : countC c = 2 * c.actuators + c.inputs.length + c.signals.length := rfl; omega) (by rw [hL]; exact (right_of_check hon.1).1) (fun hk => by rw [hL]; exact (right_of_check (off_ok hf hxo hk)).1)
  have e1 : sigStep c s (valuesOf s) i = stepV x.kind v t (evalE x.on (valuesOf s)) (x.kind == 1 && evalE x.off (valuesOf s)) := sigStep_at hxo hv ht
  have e2 : wantAt c s i = wantV x.kind v t (evalE x.on (valuesOf s)) (x.kind == 1 && evalE x.off (valuesOf s)) := by simp only [wantAt, hxo, hv, ht]
  unfold turnS
  rw [e1, e2]
  clear e1 e2
  have lV : i < s.values.length := (List.getElem?_eq_some_iff.1 hv).1
  have lT : i < s.timers.length := (List.getElem?_eq_some_iff.1 ht).1
  have hvs := set_same hv
  have hts := set_same ht
  have hvm : (s.values.map encB).set i (encB v) = s.values.map encB := by rw [← List.map_set, hvs]
  have htm : (s.timers.map encI).set i (encI t) = s.timers.map encI := by rw [← List.map_set, hts]
  have aV2 := (List.getElem?_eq_some_iff.1 hv).2
  have aT2 := (List.getElem?_eq_some_iff.1 ht).2
  have hst := (copyR_o s hsm).sts
  generalize evalE x.on (valuesOf s) = bon at *
  generalize (x.kind == 1 && evalE x.off (valuesOf s)) = boff at *
  refine callFz_of Tryz.func119 rfl Tryz.ntmps119 (rs := [.cell 6 46, .tmp 7]) rfl (by kernel_rfl) (by simp) (by kernel_rfl) ?_
  simp
  intro b6
  refine V.drawXS (fun q => if q = 13 then some (.sts [(3, 1, s.ends.map rI), (4, 1, s.valves.map rB), (4, 1, s.inputs.map rB), (4, 1, s.values.map rB), (3, 1, s.timers.map rI)]) else none) (by kernel_rfl) (by kernel_rfl) (by simp) ?_
  simp [hi, hx]
  intro u
  refine ⟨hst, fun b8 b9 => ⟨by kernel_rfl, ?_⟩⟩
  refine V.drawX (fun q => if q = 23 then some (.fn (aBs (valuesOf s))) else if q = 24 then some (.fn (.tuple [aB bon, aB boff])) else none) (by kernel_rfl) (by kernel_rfl) (by simp) ?_
  simp
  refine ⟨hv2, hask, ?_⟩
  obtain hk | hk | hk : x.kind = 0 ∨ x.kind = 1 ∨ x.kind = 2 := by omega
  · simp [hk, stepV, wantV, hvs, hts, hvm, htm, packA, encSt, hv, ht, lV, lT, aV2, aT2, rB, rI, allD_setB, rowsD_setB, allD_setI, rowsD_setI]
  · cases bon <;> cases boff
    · simp [hk, stepV, wantV, hvs, hts, hvm, htm, packA, encSt, hv, ht, lV, lT, aV2, aT2, rB, rI, allD_setB, rowsD_setB, allD_setI, rowsD_setI]
    · simp [hk, stepV, wantV, hvs, hts, hvm, htm, packA, encSt, hv, ht, lV, lT, aV2, aT2, rB, rI, allD_setB, rowsD_setB, allD_setI, rowsD_setI]
      refine V.drawX (fun _ => none) (by kernel_rfl) (by kernel_rfl) (by simp) ?_
      simp [hk, stepV, wantV, hvs, hts, hvm, htm, packA, encSt, hv, ht, lV, lT, aV2, aT2, rB, rI, allD_setB, rowsD_setB, allD_setI, rowsD_setI]
    · simp [hk, stepV, wantV, hvs, hts, hvm, htm, packA, encSt, hv, ht, lV, lT, aV2, aT2, rB, rI, allD_setB, rowsD_setB, allD_setI, rowsD_setI]
      refine V.drawX (fun _ => none) (by kernel_rfl) (by kernel_rfl) (by simp) ?_
      simp [hk, stepV, wantV, hvs, hts, hvm, htm, packA, encSt, hv, ht, lV, lT, aV2, aT2, rB, rI, allD_setB, rowsD_setB, allD_setI, rowsD_setI]
    · simp [hk, stepV, wantV, hvs, hts, hvm, htm, packA, encSt, hv, ht, lV, lT, aV2, aT2, rB, rI, allD_setB, rowsD_setB, allD_setI, rowsD_setI]
  · cases bon
    · simp [hk, stepV, wantV, hvs, hts, hvm, htm, packA, encSt, hv, ht, lV, lT, aV2, aT2, rB, rI, allD_setB, rowsD_setB, allD_setI, rowsD_setI]
      refine V.drawX (fun _ => none) (by kernel_rfl) (by kernel_rfl) (by simp) ?_
      simp [hk, stepV, wantV, hvs, hts, hvm, htm, packA, encSt, hv, ht, lV, lT, aV2, aT2, rB, rI, allD_setB, rowsD_setB, allD_setI, rowsD_setI]
      refine ⟨by kernel_rfl, ?_⟩
      refine V.drawX (fun _ => none) (by kernel_rfl) (by kernel_rfl) (by simp) ?_
      simp [hk, stepV, wantV, hvs, hts, hvm, htm, packA, encSt, hv, ht, lV, lT, aV2, aT2, rB, rI, allD_setB, rowsD_setB, allD_setI, rowsD_setI]
      by_cases h : t = 0 <;> simp [h]
    · by_cases h0 : t = 0
      · simp [hk, stepV, wantV, hvs, hts, hvm, htm, packA, encSt, hv, ht, lV, lT, aV2, aT2, rB, rI, allD_setB, rowsD_setB, allD_setI, rowsD_setI, h0]
      · simp [hk, stepV, wantV, hvs, hts, hvm, htm, packA, encSt, hv, ht, lV, lT, aV2, aT2, rB, rI, allD_setB, rowsD_setB, allD_setI, rowsD_setI, h0]

end Go.Proofs.YtbhdiijibgdlnaaGreat
end

/- Contracts: the reference's rounds: Once. -/
section
namespace Go.Proofs.YtbhdiijibgdlnaaGreat
set_option maxHeartbeats 4000000
set_option maxRecDepth 10000

theorem stepV_bad (k : Int) (v : Bool) (t : Int) (on off : Bool) : (stepV k v t on (k == 1 && off)).2.2 = (on && (k == 1 && off)) := by
  unfold stepV
  by_cases h1 : k = 1
  · simp [h1]
  · by_cases h2 : k = 2
    · cases on <;> simp [h2]
    · simp [h1, h2]

theorem Once_fn (c : Control) (s : State) (hc : OkC c) (hf : Fine c) (hsh : shapeS c s) : CallFn Tryz.prog 85 [aC c, aSt s] (.tuple [aSt (roundS c s), aIs (roundB c s)]) := by
  have hsm := sm_of hf hsh
  have ha := hf.act
  have hin := hf.inp
  have hsg := hf.sig
  have hgs := gates_shape hsh
  have hgm := sm_of hf hgs
  have hcomp := (computedR_o c s hc hf hsm hsh).fn
  have eR : roundS c s = onceS c (gatesP c s) := rfl
  have eB : roundB c s = onceB c (gatesP c s) c.signals.length := rfl
  rw [eR, eB]
  generalize gatesP c s = G at *
  refine CallS.agg (az := [aC c]) (bz := []) ?_
  refine callFz_of Tryz.func85 rfl Tryz.ntmps85 (rs := [.cell 4 46, .tmp 5]) rfl (by kernel_rfl) (by simp) (by kernel_rfl) ?_
  simp
  intro b3 b4
  refine CallS.freeze (Hf := []) (az' := [aC c, aSt s]) (hcomp.s ?_) (by simp [packA, encSt])
  simp
  refine (copyR_o G hgm).lend 60 (by simp [packA, encSt]) fun hd => ?_
  simp [stA, stH]
  intro b6
  have hL := valuesOf_length hgs
  refine V.forI (σ := Value) c.signals.length [2, 3, 4, 5, 6] (by simp; exact rfl) (fun i h7 => [(8, aI i), (7, .own 72 h7)]) (fun i h7 => [(72, .seq h7 3 1 ((onceB c G i).map rI)), (63, .seq (hd 3) 4 1 (((newV c G).take i ++ G.values.drop i).map rB)), (64, .seq (hd 4) 3 1 (((newT c G).take i ++ G.timers.drop i).map rI))]) (fun _ _ => True) (.slice none 0 0) trivial (by simp) ⟨by simp; exact rfl, by simp [onceB, hget, hdel]⟩ ?_ ?_
  · rintro i h7 hi -
    obtain ⟨x, hx⟩ : ∃ x, c.signals[i] = x := ⟨_, rfl⟩
    have hxo : c.signals[i]? = some x := by rw [List.getElem?_eq_getElem hi, hx]
    have htu := Turned_fn c G i hc hf hgs hi
    have hv2 := ValuesR_fn c G hgm (by rw [hgs.1])
    obtain ⟨j1, j2, j3, j4, j5⟩ := hgs
    have hox := hc.sigs x (List.mem_of_getElem? hxo)
    obtain ⟨v, hv⟩ : ∃ v, G.values[i]? = some v := ⟨_, List.getElem?_eq_getElem (by omega)⟩
    obtain ⟨t, ht⟩ : ∃ t, G.timers[i]? = some t := ⟨_, List.getElem?_eq_getElem (by omega)⟩
    have hon := hf.on hxo
    have hask := Asked_fn x (valuesOf G) hox (by have : countC c = 2 * c.actuators + c.inputs.length + c.signals.length := rfl; omega) (by rw [hL]; exact (right_of_check hon.1).1) (fun hk => by rw [hL]; exact (right_of_check (off_ok hf hxo hk)).1)
    have hst := sigStep_at (L := valuesOf G) hxo hv ht
    have hbad := stepV_bad x.kind v t (evalE x.on (valuesOf G)) (evalE x.off (valuesOf G))
    rw [← hst] at hbad
    have hlin := Line28_fn c i hf.sm (by omega)
    have mV := set_mix (B := G.values) (newV_at (s := G) hi) (by rw [newV_len]; omega)
    have mT := set_mix (B := G.timers) (newT_at (s := G) hi) (by rw [newT_len]; omega)
    have aV : ((newV c G).take i ++ G.values.drop i)[i]? = some v := by rw [mix_at (by rw [newV_len]; omega)]; exact hv
    have aT : ((newT c G).take i ++ G.timers.drop i)[i]? = some t := by rw [mix_at (by rw [newT_len]; omega)]; exact ht
    have bl := onceB_len c G i
    have bs := onceB_succ c G i
    have lV : i < ((newV c G).take i ++ G.values.drop i).length := (List.getElem?_eq_some_iff.1 aV).1
    have lT : i < ((newT c G).take i ++ G.timers.drop i).length := (List.getElem?_eq_some_iff.1 aT).1
    rw [bs, ← mV, ← mT, hbad]
    unfold turnS at htu
    clear mV mT hst hbad bs
    have hfc : 0 ≤ firstC c ∧ firstC c ≤ 100 := by unfold firstC; omega
    generalize (newV c G).take i ++ G.values.drop i = V1 at *
    generalize (newT c G).take i ++ G.timers.drop i = T1 at *
    generalize onceB c G i = B1 at *
    generalize evalE x.on (valuesOf G) = bon at *
    generalize (x.kind == 1 && evalE x.off (valuesOf G)) = boff at *
    generalize (sigStep c G (valuesOf G) i).1 = nv at *
    generalize (sigStep c G (valuesOf G) i).2.1 = nt at *
    generalize wantAt c G i = wnt at *
    have lV0 : i < G.values.length := by omega
    have lT0 : i < G.timers.length := by omega
    have hVn : (G.values.set i nv)[i]? = some nv := List.getElem?_set_self lV0
    have hTn : (G.timers.set i nt)[i]? = some nt := List.getElem?_set_self lT0
    generalize G.values.set i nv = Vn at *
    generalize G.timers.set i nt = Tn at *
    have lVn : i < Vn.length := (List.getElem?_eq_some_iff.1 hVn).1
    have lTn : i < Tn.length := (List.getElem?_eq_some_iff.1 hTn).1
    have hVn2 := (List.getElem?_eq_some_iff.1 hVn).2
    have hTn2 := (List.getElem?_eq_some_iff.1 hTn).2
    simp [hi, hx]
    refine CallS.freeze (Hf := []) (az' := [aC c, aSt G, aI i]) (htu.s ?_) (by simp [packA, encSt])
    simp
    intro b9
    refine V.drawX (fun _ => none) (by kernel_rfl) (by kernel_rfl) (by simp) ?_
    simp [hi, lV, lT, lVn, lTn, aV, aT, hVn, hTn, hVn2, hTn2, rB, rI]
    refine ⟨by kernel_rfl, ?_⟩
    refine V.drawX (fun q => if q = 58 then some (.fn (aBs (valuesOf G))) else if q = 59 then some (.fn (.tuple [aB bon, aB boff])) else none) (by kernel_rfl) (by kernel_rfl) (by simp) ?_
    simp [hi, hx]
    refine ⟨hv2, hask, ?_⟩
    cases bon <;> cases boff
    · simp
      omega
    · simp
      omega
    · simp
      omega
    · simp
      refine hlin.s ?_
      simp [rI]
      omega
  · rintro h7 -
    have e63 : (newV c G).take c.signals.length ++ G.values.drop c.signals.length = newV c G := by
      rw [List.take_of_length_le (by rw [newV_len]; exact Nat.le_refl _), List.drop_of_length_le (by rw [hgs.2.2.2.1]; exact Nat.le_refl _), List.append_nil]
    have e64 : (newT c G).take c.signals.length ++ G.timers.drop c.signals.length = newT c G := by
      rw [List.take_of_length_le (by rw [newT_len]; exact Nat.le_refl _), List.drop_of_length_le (by rw [hgs.2.2.2.2]; exact Nat.le_refl _), List.append_nil]
    rw [e63, e64]
    have eO : onceS c G = ⟨G.ends, G.valves, G.inputs, newV c G, newT c G⟩ := rfl
    rw [eO]
    generalize newV c G = nv at *
    generalize newT c G = nt at *
    simp [packA, encSt]

end Go.Proofs.YtbhdiijibgdlnaaGreat
end

/- Contracts: the reference's rounds: course. -/
section
namespace Go.Proofs.YtbhdiijibgdlnaaGreat
set_option maxHeartbeats 4000000
set_option maxRecDepth 10000

def insM (ns : List Int) (n : Int) : List Int := if n ∈ ns then ns else ns ++ [n]
theorem mput_in {n : Int} : ∀ {ns : List Int}, n ∈ ns → mput (mapM ns) (.int .i64 n) (.bool true) = mapM ns
  | m :: ns, h => by
    simp only [mapM, List.map_cons, mput, leq]
    by_cases hm : m = n
    · simp [hm]
    · have h2 : n ∈ ns := by
        rcases List.mem_cons.1 h with h | h
        · exact absurd h.symm hm
        · exact h
      have ih := mput_in h2
      simp only [mapM] at ih
      simp [hm, ih]
theorem mput_ins (ns : List Int) (n : Int) : mput (mapM ns) (.int .i64 n) (.bool true) = mapM (insM ns n) := by
  unfold insM
  split
  · rename_i h; exact mput_in h
  · rename_i h; exact mput_M h
theorem mem_ins {ns : List Int} {n z : Int} : z ∈ insM ns n ↔ z ∈ ns ∨ z = n := by
  unfold insM
  split
  · rename_i h
    constructor
    · exact .inl
    · rintro (h1 | rfl)
      · exact h1
      · exact h
  · simp
def addM (ns bad : List Int) : List Int := bad.foldl insM ns
theorem mem_add {z : Int} : ∀ {bad ns : List Int}, z ∈ addM ns bad ↔ z ∈ ns ∨ z ∈ bad
  | [], ns => by simp [addM]
  | b :: bad, ns => by
    have ih := mem_add (z := z) (bad := bad) (ns := insM ns b)
    simp only [addM, List.foldl_cons] at ih ⊢
    rw [ih, mem_ins]
    simp only [List.mem_cons]
    constructor
    · rintro ((h | h) | h)
      · exact .inl h
      · exact .inr (.inl h)
      · exact .inr (.inr h)
    · rintro (h | h | h)
      · exact .inl (.inl h)
      · exact .inl (.inr h)
      · exact .inr h
theorem add_take {bad ns : List Int} {k : Nat} {b : Int} (h : bad[k]? = some b) : addM ns (bad.take (k + 1)) = insM (addM ns (bad.take k)) b := by
  unfold addM
  rw [List.take_add_one, h, List.foldl_append]
  rfl
theorem getD_M (ns : List Int) (n : Int) : (mget (mapM ns) (.int .i64 n)).getD (.bool false) = .bool (decide (n ∈ ns)) := by
  rw [mget_M]
  by_cases h : n ∈ ns <;> simp [h]
theorem courseP_mem {c : Control} : ∀ (k : Nat) (n : Int) (s : State) (acc : List Int) {x : State} {bad : List Int} {m : Int}, courseP c k n s acc = some (x, bad, m) → ∀ z ∈ bad, z ∈ acc ∨ (firstC c ≤ z ∧ z < countC c)
  | 0, _, _, _, _, _, _, h => by cases h
  | k + 1, n, s, acc, x, bad, m, h => by
    rw [courseP_step] at h
    have hm : ∀ z ∈ acc ++ roundB c s, z ∈ acc ∨ (firstC c ≤ z ∧ z < countC c) := by
      intro z hz
      rcases List.mem_append.1 hz with h1 | h1
      · exact .inl h1
      · have := onceB_mem h1
        right
        unfold countC
        unfold firstC at this ⊢
        omega
    split at h
    · cases h
      exact hm
    · intro z hz
      rcases courseP_mem k _ _ _ h z hz with h1 | h1
      · exact hm z h1
      · exact .inr h1

theorem SameStatesR_l (a b : State) (ha : SmS a) (hb : SmS b) : CallFn Tryz.prog 31 [aSt a, aSt b] (aB (sameSt a b)) := by
  have c1 := sameI_fn a.ends b.ends (sh_of ha.ends) (sh_of hb.ends)
  have c2 := sameB_fn a.valves b.valves (sh_of ha.valves) (sh_of hb.valves)
  have c3 := sameB_fn a.inputs b.inputs (sh_of ha.inputs) (sh_of hb.inputs)
  have c4 := sameB_fn a.values b.values (sh_of ha.values) (sh_of hb.values)
  have c5 := sameI_fn a.timers b.timers (sh_of ha.timers) (sh_of hb.timers)
  refine callFz_of Tryz.func31 rfl Tryz.ntmps31 (rs := [.tmp 4]) rfl (by kernel_rfl) (by simp) (by kernel_rfl) ?_
  unfold sameSt
  generalize decide (a.ends = b.ends) = b1 at *
  generalize decide (a.valves = b.valves) = b2 at *
  generalize decide (a.inputs = b.inputs) = b3 at *
  generalize decide (a.values = b.values) = b4 at *
  generalize decide (a.timers = b.timers) = b5 at *
  simp
  refine c1.s ?_
  simp
  refine GCall.fn (aB b2) (fun _ => ⟨by first | trivial | assumption, c2⟩) ?_
  simp
  refine GCall.fn (aB b3) (fun _ => ⟨by first | trivial | assumption, c3⟩) ?_
  simp
  refine GCall.fn (aB b4) (fun _ => ⟨by first | trivial | assumption, c4⟩) ?_
  simp
  refine GCall.fn (aB b5) (fun _ => ⟨by first | trivial | assumption, c5⟩) ?_
  simp

def courseB (c : Control) (s : State) : A := match courseP c 65 0 s [] with
  | some (x, bad, n) => .tuple [aSt x, aIs (compI (sortI bad)), aI n, aB true]
  | none => .tuple [aSt noSt, aIs [], aI 0, aB false]
theorem course_fn (c : Control) (s : State) (hc : OkC c) (hf : Fine c) (hsh : shapeS c s) : CallFn Tryz.prog 86 [aC c, aSt s] (courseB c s) := by
  have ha := hf.act
  have hin := hf.inp
  have hsg := hf.sig
  have hmem : ∀ x bad m, courseP c 65 0 s [] = some (x, bad, m) → ∀ z ∈ bad, 0 ≤ z ∧ z < countC c := by
    intro x bad m h z hz
    rcases courseP_mem 65 0 s [] h z hz with h1 | h1
    · cases h1
    · unfold firstC at h1
      omega
  unfold courseB
  obtain ⟨R, hR⟩ : ∃ R, courseP c 65 0 s [] = R := ⟨_, rfl⟩
  rw [hR] at hmem ⊢
  have hfc : 0 ≤ firstC c ∧ firstC c ≤ 100 := by unfold firstC; omega
  have hcc : 0 ≤ countC c ∧ countC c ≤ 200 := by unfold countC; omega
  obtain ⟨M, hM⟩ : ∃ M : Nat, countC c = M := ⟨(countC c).toNat, by omega⟩
  have hlin := lines_fn c hf.sm
  rw [hM] at hlin
  refine CallS.agg (az := [aC c]) (bz := []) ?_
  refine callFz_of Tryz.func86 rfl Tryz.ntmps86 (rs := [.cell 4 46, .tmp 5, .tmp 6, .tmp 7]) rfl (by kernel_rfl) (by simp) (by kernel_rfl) ?_
  simp
  intro b3 b4 b15
  refine V.forI (σ := State × List Int × List Int) 65 [2, 3, 4, 8] (by simp; exact rfl) (fun i p => [(5, .nils), (6, aI 0), (7, aB false), (9, aI i)]) (fun i p => [(3, .box b3 ((encSt p.1).map A.dat)), (15, .map b15 (.int .i64) (mapM p.2.1))]) (fun i p => R = courseP c (65 - i) i p.1 p.2.2 ∧ shapeS c p.1 ∧ ∀ z, z ∈ p.2.1 ↔ z ∈ p.2.2) (s, [], []) ⟨hR.symm, hsh, by simp⟩ (by simp) ⟨by simp [encSt, mapM]; exact rfl, by simp [mapM, encSt, hget, hdel]⟩ ?_ ?_
  · rintro i ⟨s1, ns, acc⟩ hi ⟨hI, hs1, hns⟩
    dsimp only at hI hs1 hns ⊢
    obtain ⟨k, hk⟩ : ∃ k, 65 - i = k + 1 := ⟨64 - i, by omega⟩
    rw [hk, courseP_step] at hI
    have hk3 : 64 - i = k := by omega
    have hi64 : (i : Int) ≤ 64 := by omega
    have hs1m := sm_of hf hs1
    have hs2 := round_shape hs1
    have honce := Once_fn c s1 hc hf hs1
    have hsame := SameStatesR_l (roundS c s1) s1 (sm_of hf hs2) hs1m
    rw [same_eq] at hsame
    have hrl := onceB_len c (gatesP c s1) c.signals.length
    rw [show onceB c (gatesP c s1) c.signals.length = roundB c s1 from rfl] at hrl
    generalize roundB c s1 = bad at *
    simp [hi64]
    refine honce.s ?_
    simp
    intro b10
    refine V.forI (σ := Unit) bad.length [2, 3, 4, 5, 6, 7, 8, 9, 10, 11, 16, 17, 20, 21, 22, 23, 24, 25] (by simp; exact rfl) (fun k _ => [(12, aI k)]) (fun k _ => [(15, .map b15 (.int .i64) (mapM (addM ns (bad.take k))))]) (fun _ _ => True) () trivial (by simp) ⟨by simp; exact rfl, by simp [addM]⟩ ?_ ?_
    · rintro m - hm -
      obtain ⟨y, hy⟩ : ∃ y, bad[m] = y := ⟨_, rfl⟩
      have hyo : bad[m]? = some y := by rw [List.getElem?_eq_getElem hm, hy]
      rw [add_take hyo, ← mput_ins]
      simp [hm, hy]
      omega
    · rintro - -
      rw [List.take_length]
      have hn2 : ∀ z, z ∈ addM ns bad ↔ z ∈ acc ++ bad := by
        intro z
        rw [mem_add, List.mem_append, hns]
      generalize addM ns bad = ns2 at *
      simp
      refine hsame.s ?_
      by_cases hr : roundS c s1 = s1
      · rw [if_pos hr] at hI
        have hz := hmem s1 (acc ++ bad) i hI
        have hun := uniq_met (zs := acc ++ bad) (M := M) (p := fun k : Nat => decide ((k : Int) ∈ ns2)) (fun z h => by have := hz z h; omega) (fun k _ => by rw [decide_eq_true_iff]; exact hn2 k)
        rw [hI]
        dsimp only
        rw [hun]
        obtain ⟨p, hp⟩ : ∃ p : Nat → Bool, p = fun k : Nat => decide ((k : Int) ∈ ns2) := ⟨_, rfl⟩
        rw [← hp]
        simp [hr]
        refine V.forI (σ := Value) M [2, 3, 4, 5, 6, 7, 8, 9, 10, 11, 12, 16, 17, 20, 21, 22, 23, 24, 25, 26, 27, 28, 29, 30, 31, 32, 33, 34, 35, 36, 37, 38, 39] (by simp; exact rfl) (fun k h => [(13, .own 50 h), (14, aI k)]) (fun k h => [(50, .seq h 3 1 ((metB k p).map rI))]) (fun _ _ => True) (.slice none 0 0) trivial (by simp) ⟨by simp; exact rfl, by simp [metB]⟩ ?_ ?_
        · rintro m h hm -
          have hml := metB_len m p
          have hpm : p m = decide ((m : Int) ∈ ns2) := by rw [hp]
          rw [metB_succ, hpm]
          generalize metB m p = zs at *
          simp
          refine hlin.s ?_
          by_cases hin2 : (m : Int) ∈ ns2
          · simp [hm, getD_M, hin2, rI]
            omega
          · simp [hm, getD_M, hin2, rI]
            omega
        · rintro h -
          simp
          refine hlin.s ?_
          simp [packA, encSt]
      · rw [if_neg hr] at hI
        simp [hr]
        rw [hk3]
        exact ⟨by omega, roundS c s1, ns2, ⟨acc ++ bad, hI, hs2, hn2⟩, ⟨rfl, rfl, rfl, rfl, rfl⟩, rfl⟩
  · rintro ⟨s1, ns, acc⟩ ⟨hI, hs1, hns⟩
    dsimp only at hI
    rw [hI]
    simp [courseP, packA, encSt, noSt]

end Go.Proofs.YtbhdiijibgdlnaaGreat
end

/- Contracts: the reference's Round, Rests, Rounds, Settle. -/
section
namespace Go.Proofs.YtbhdiijibgdlnaaGreat
set_option maxHeartbeats 4000000
set_option maxRecDepth 10000

theorem RoundR_fn (c : Control) (s : State) (hc : OkC c) (hp : c.plus.length ≤ 1000000) (hm : c.minus.length ≤ 1000000) (hs : SmS s) : CallFn Tryz.prog 42 [aC c, aSt s] (.tuple [aSt (roundR c s).1, aIs (roundR c s).2.1, aI (roundR c s).2.2]) := by
  refine callFz_of Tryz.func42 rfl Tryz.ntmps42 (rs := [.cell 4 46, .tmp 5, .tmp 6]) rfl (by kernel_rfl) (by simp) (by kernel_rfl) ?_
  simp
  intro b4
  refine (RightR_fn c s hc hp hm hs).s ?_
  by_cases hz : rightC c s = 0
  · obtain ⟨z1, z2, z3⟩ := right_zero hz
    simp [hz]
    refine (Once_fn c s hc (fine_of z1) z2).s ?_
    simp [roundR, hz, packA, encSt]
  · simp [hz, roundR, noSt, packA, encSt]
theorem RestsR_fn (c : Control) (s : State) (hc : OkC c) (hp : c.plus.length ≤ 1000000) (hm : c.minus.length ≤ 1000000) (hs : SmS s) : CallFn Tryz.prog 44 [aC c, aSt s] (.tuple [aB (restsR c s).1, aI (restsR c s).2]) := by
  refine callFz_of Tryz.func44 rfl Tryz.ntmps44 (rs := [.tmp 4, .tmp 5]) rfl (by kernel_rfl) (by simp) (by kernel_rfl) ?_
  simp
  refine (RightR_fn c s hc hp hm hs).s ?_
  by_cases hz : rightC c s = 0
  · obtain ⟨z1, z2, z3⟩ := right_zero hz
    have hsame := SameStatesR_l (roundS c s) s (sm_of (fine_of z1) (round_shape z2)) hs
    rw [same_eq] at hsame
    simp [hz]
    refine (Once_fn c s hc (fine_of z1) z2).s ?_
    simp
    intro b7
    refine hsame.s ?_
    simp [restsR, hz]
  · simp [hz, restsR]
theorem Settled_fn (c : Control) (s : State) (hc : OkC c) (hf : Fine c) (hsh : shapeS c s) : CallFn Tryz.prog 73 [aC c, aSt s] (.tuple [aSt (courseR c s).1, aIs (courseR c s).2.1, aB (decide ((courseR c s).2.2.2 = 0))]) := by
  have h := course_fn c s hc hf hsh
  unfold courseB at h
  refine callFz_of Tryz.func73 rfl Tryz.ntmps73 (rs := [.cell 4 46, .tmp 5, .tmp 6]) rfl (by kernel_rfl) (by simp) (by kernel_rfl) ?_
  simp
  intro b4
  refine h.s ?_
  unfold courseR
  cases hR : courseP c 65 0 s [] with
  | none => simp [packA, encSt, noSt]
  | some p => obtain ⟨x, bad, n⟩ := p; simp [packA, encSt, noSt]
theorem RoundsR_fn (c : Control) (s : State) (hc : OkC c) (hp : c.plus.length ≤ 1000000) (hm : c.minus.length ≤ 1000000) (hs : SmS s) : CallFn Tryz.prog 46 [aC c, aSt s] (.tuple [aI (roundsR c s).1, aI (roundsR c s).2]) := by
  refine callFz_of Tryz.func46 rfl Tryz.ntmps46 (rs := [.tmp 4, .tmp 5]) rfl (by kernel_rfl) (by simp) (by kernel_rfl) ?_
  simp
  refine (RightR_fn c s hc hp hm hs).s ?_
  by_cases hz : rightC c s = 0
  · obtain ⟨z1, z2, z3⟩ := right_zero hz
    have h := course_fn c s hc (fine_of z1) z2
    unfold courseB at h
    simp [hz]
    refine h.s ?_
    unfold roundsR courseR
    cases hR : courseP c 65 0 s [] with
    | none => simp [hz]
    | some p => obtain ⟨x, bad, n⟩ := p; simp [hz]
  · simp [hz, roundsR]
theorem SettleR_fn (c : Control) (s : State) (hc : OkC c) (hp : c.plus.length ≤ 1000000) (hm : c.minus.length ≤ 1000000) (hs : SmS s) : CallFn Tryz.prog 30 [aC c, aSt s] (.tuple [aSt (settleR c s).1, aIs (settleR c s).2.1, aI (settleR c s).2.2]) := by
  refine callFz_of Tryz.func30 rfl Tryz.ntmps30 (rs := [.cell 4 46, .tmp 5, .tmp 6]) rfl (by kernel_rfl) (by simp) (by kernel_rfl) ?_
  simp
  intro b4
  refine (RightR_fn c s hc hp hm hs).s ?_
  by_cases hz : rightC c s = 0
  · obtain ⟨z1, z2, z3⟩ := right_zero hz
    have h := Settled_fn c s hc (fine_of z1) z2
    have h0 : (courseR c s).2.2.2 = 0 ∨ ((courseR c s).2.2.2 = 21 ∧ (courseR c s).1 = noSt ∧ (courseR c s).2.1 = []) := by
      unfold courseR
      cases courseP c 65 0 s [] with
      | none => exact .inr ⟨rfl, rfl, rfl⟩
      | some p => exact .inl rfl
    simp [hz]
    refine h.s ?_
    unfold settleR
    generalize courseR c s = q at *
    obtain ⟨x, bad, n, e⟩ := q
    dsimp only at h0 ⊢
    rcases h0 with rfl | ⟨rfl, rfl, rfl⟩
    · simp [hz, packA, encSt]
    · simp [hz, packA, encSt, noSt]
  · simp [hz, settleR, noSt, packA, encSt]

end Go.Proofs.YtbhdiijibgdlnaaGreat
end

/- Contracts: settle.might, ref28.might. -/
section
namespace Go.Proofs.YtbhdiijibgdlnaaGreat
set_option maxHeartbeats 4000000
set_option maxRecDepth 10000

/-- What a signal might get where On is on and Off is one of bs. -/
def mgP (k own : Int) (bs : List Int) (on : Int) : List Int := if k = 2 then [if on = 0 then 0 else own] else bs.map fun off => if on ≠ off then on else own
theorem mightL_flat (x : Signal) (own : Int) (l : List Int) : mightL x own l = (knownL (thE x.on l)).flatMap (mgP x.kind own (knownL (thE x.off l))) := by
  unfold mightL mgP
  by_cases h : x.kind = 2
  · simp only [h, if_true]
    generalize knownL (thE x.on l) = q
    induction q with
    | nil => rfl
    | cons a q ih => simp [ih]
  · simp only [h, if_false]
theorem flat_take {α β : Type} {l : List α} {f : α → List β} {i : Nat} {a : α} (h : l[i]? = some a) : (l.take (i + 1)).flatMap f = (l.take i).flatMap f ++ f a := by
  rw [List.take_add_one, h]
  simp
theorem knownL_mem {v z : Int} (h : T3 v) (hz : z ∈ knownL v) : z = 0 ∨ z = 1 := by
  unfold knownL at hz
  unfold T3 at h
  split at hz
  · simpa using hz
  · simp at hz
    omega
theorem knownL_len (v : Int) : 0 < (knownL v).length ∧ (knownL v).length ≤ 2 := by
  unfold knownL
  split <;> simp

theorem might_fn (x : Signal) (own : Int) (l : List Int) (hx : OkS x) (hk : x.kind = 1 ∨ x.kind = 2) (hl : l.length ≤ 256) (ha : A3 l) (hon : RightE l.length x.on) (hoff : x.kind = 1 → RightE l.length x.off) :
    CallFn Tryz.prog 80 [aS x, aI own, aIs l] (aI (mightP x own l)) := by
  have c1 := three_fn (SizeOf.sizeOf x.on + 1) x.on (by omega) hx.on l hl ha hon
  have t1 := thE_t3 ha (SizeOf.sizeOf x.on + 1) x.on (by omega) hon
  have c2 := fun h => three_fn (SizeOf.sizeOf x.off + 1) x.off (by omega) hx.off l hl ha (hoff h)
  unfold mightP
  rw [mightL_flat]
  generalize thE x.on l = a at *
  generalize thE x.off l = b at *
  have hka := knownL_len a
  have hkb := knownL_len b
  have hm := fun z => knownL_mem (z := z) t1
  have kb := known_fn b
  refine callFz_of Tryz.func80 rfl Tryz.ntmps80 (rs := [.tmp 6]) rfl (by kernel_rfl) (by simp) (by kernel_rfl) ?_
  simp
  intro u12
  refine c1.s ?_
  simp
  refine (known_fn a).s ?_
  generalize knownL a = ks at *
  generalize knownL b = bs at *
  have hml : ∀ on, (mgP x.kind own bs on).length ≤ 2 ∧ 0 < (mgP x.kind own bs on).length := by
    intro on
    unfold mgP
    split <;> simp <;> omega
  have hfl : ∀ i, (((ks.take i).flatMap (mgP x.kind own bs))).length ≤ 2 * i := by
    intro i
    induction i with
    | zero => simp
    | succ i ih =>
      cases h : ks[i]? with
      | none =>
        rw [List.take_add_one, h]
        simp only [Option.toList_none, List.append_nil]
        omega
      | some a =>
        rw [flat_take h, List.length_append]
        have := hml a
        omega
  simp
  refine V.forI (σ := Value) ks.length [1, 2, 3, 6, 17, 18] (by simp; exact rfl) (fun i h => [(19, aI i), (7, .own 12 h)]) (fun i h => [(12, .seq h 3 1 (((ks.take i).flatMap (mgP x.kind own bs)).map rI))]) (fun _ _ => True) u12 trivial (by simp) ⟨by simp; exact rfl, by simp⟩ ?_ ?_
  · rintro i h hi -
    obtain ⟨y, hy⟩ : ∃ y, ks[i] = y := ⟨_, rfl⟩
    have hyo : ks[i]? = some y := by rw [List.getElem?_eq_getElem hi, hy]
    have hy01 := hm y (List.mem_of_getElem? hyo)
    have hl1 := hfl i
    rw [flat_take hyo]
    generalize (ks.take i).flatMap (mgP x.kind own bs) = zs at *
    rcases hk with hk | hk
    · have e : mgP x.kind own bs y = bs.map fun off => if y ≠ off then y else own := by unfold mgP; rw [if_neg (by omega)]
      rw [e]
      simp [hi, hy, hk]
      refine (c2 hk).s ?_
      simp
      refine kb.s ?_
      simp
      refine V.forI (σ := Value) bs.length [1, 2, 3, 6, 9, 17, 18, 19, 20, 21, 22, 23, 24, 25, 26, 27, 28, 29, 30, 31, 32, 33, 34, 35, 36, 37, 38, 39] (by simp; exact rfl) (fun j h => [(40, aI j), (7, .own 12 h)]) (fun j h => [(12, .seq h 3 1 ((zs ++ ((bs.take j).map fun off => if y ≠ off then y else own)).map rI))]) (fun _ _ => True) h trivial (by simp) ⟨by simp; exact rfl, by simp⟩ ?_ ?_
      · rintro j h hj -
        obtain ⟨q, hq⟩ : ∃ q, bs[j] = q := ⟨_, rfl⟩
        have hqo : bs[j]? = some q := by rw [List.getElem?_eq_getElem hj, hq]
        have e2 : (bs.take (j + 1)).map (fun off => if y ≠ off then y else own) = (bs.take j).map (fun off => if y ≠ off then y else own) ++ [if y ≠ q then y else own] := by
          rw [List.take_add_one, hqo]
          simp
        have hl2 : ((bs.take j).map (fun off => if y ≠ off then y else own)).length ≤ j := by simp; omega
        rw [e2]
        generalize (bs.take j).map (fun off => if y ≠ off then y else own) = ws at *
        by_cases hyq : y = q
        · simp [hj, hq, hyq, rI]
          omega
        · simp [hj, hq, hyq, rI]
          omega
      · rintro h -
        rw [List.take_length]
        simp
        omega
    · have e : mgP x.kind own bs y = [if y = 0 then 0 else own] := by unfold mgP; rw [if_pos hk]
      rw [e]
      rcases hy01 with rfl | rfl
      · simp [hi, hy, hk, rI]
        omega
      · simp [hi, hy, hk, rI]
        omega
  · rintro h -
    rw [List.take_length]
    have hl1 := hfl ks.length
    rw [List.take_length] at hl1
    obtain ⟨a0, ar, rfl⟩ : ∃ a0 ar, ks = a0 :: ar := by
      cases ks with
      | nil => simp at hka
      | cons a ar => exact ⟨a, ar, rfl⟩
    obtain ⟨v, r, hvr⟩ : ∃ v r, (a0 :: ar).flatMap (mgP x.kind own bs) = v :: r := by
      have := hml a0
      cases h : mgP x.kind own bs a0 with
      | nil => rw [h] at this; simp at this
      | cons v r => exact ⟨v, _, by simp [h]; rfl⟩
    rw [hvr] at hl1 ⊢
    have cj := join_fn v r (by simp only [List.length_cons] at hl1 hka; omega)
    generalize hvr2 : v :: r = vs at *
    simp
    refine cj.lend (by simp [hget]) (by simp) ?_
    simp

end Go.Proofs.YtbhdiijibgdlnaaGreat
end

/- Contracts: ref28.might. -/
section
namespace Go.Proofs.YtbhdiijibgdlnaaGreat
set_option maxHeartbeats 4000000
set_option maxRecDepth 10000

def jst : List Int → Int × Bool
  | [] => (0, true)
  | v :: r => (r.foldl joinI v, false)
theorem jst_snoc (zs : List Int) (v : Int) : jst (zs ++ [v]) = (joinI (if (jst zs).2 = true then v else (jst zs).1) v, false) := by
  cases zs with
  | nil => simp [jst, joinI]
  | cons z r => simp [jst, List.foldl_append]
theorem joinI_fold (v : Int) : ∀ r : List Int, r.foldl joinI v = if r.all (· == v) then v else 2 := by
  have h2 : ∀ r : List Int, r.foldl joinI 2 = 2 := by
    intro r
    induction r with
    | nil => rfl
    | cons b r ih =>
      simp only [List.foldl_cons]
      have : joinI 2 b = 2 := by unfold joinI; split <;> rfl
      rw [this, ih]
  intro r
  induction r with
  | nil => rfl
  | cons b r ih =>
    simp only [List.foldl_cons, List.all_cons]
    by_cases h : b = v
    · subst h
      have : joinI b b = b := by unfold joinI; rw [if_pos rfl]
      rw [this, ih]
      simp
    · have : joinI v b = 2 := by unfold joinI; rw [if_neg (fun e => h e.symm)]
      rw [this, h2]
      simp [h]
theorem jst_join {zs : List Int} (h : zs ≠ []) : (jst zs).1 = joinL zs := by
  cases zs with
  | nil => exact absurd rfl h
  | cons v r => exact joinI_fold v r
def vlP (k own on off : Int) : Int := if k = 2 then (if on = 0 then 0 else own) else if on ≠ off then on else own
theorem mgP_eq1 {own : Int} {bs : List Int} {on : Int} : mgP 1 own bs on = bs.map (vlP 1 own on) := rfl
theorem mgP_eq2 {own : Int} {bs : List Int} {on : Int} : mgP 2 own bs on = [0].map (vlP 2 own on) := rfl

theorem mightR_fn (x : Signal) (own : Int) (l : List Int) (hx : OkS x) (hk : x.kind = 1 ∨ x.kind = 2) (hl : l.length ≤ 256) (ha : A3 l) (hon : RightE l.length x.on) (hoff : x.kind = 1 → RightE l.length x.off) :
    CallFn Tryz.prog 150 [aS x, aI own, aIs l] (aI (mightP x own l)) := by
  have c1 := Three_fn (SizeOf.sizeOf x.on + 1) x.on (by omega) hx.on l hl ha hon
  have c2 := fun h => Three_fn (SizeOf.sizeOf x.off + 1) x.off (by omega) hx.off l hl ha (hoff h)
  unfold mightP
  rw [mightL_flat]
  generalize thE x.on l = a at *
  generalize thE x.off l = b at *
  have hka := knownL_len a
  have hkb := knownL_len b
  have ka := asked_fn a
  have kb := asked_fn b
  obtain ⟨bs, hbs, hbl, hmg⟩ : ∃ bs : List Int, (x.kind = 1 → bs = knownL b) ∧ (0 < bs.length ∧ bs.length ≤ 2 ∧ (x.kind = 2 → bs = [0])) ∧ mgP x.kind own (knownL b) = fun on => bs.map (vlP x.kind own on) := by
    rcases hk with hk | hk
    · exact ⟨knownL b, fun _ => rfl, ⟨hkb.1, hkb.2, fun h => by omega⟩, by rw [hk]; rfl⟩
    · exact ⟨[0], fun h => by omega, ⟨by simp, by simp, fun _ => rfl⟩, by rw [hk]; rfl⟩
  rw [hmg]
  generalize knownL a = ks at *
  have hne : ks.flatMap (fun on => bs.map (vlP x.kind own on)) ≠ [] := by
    intro h
    rw [List.flatMap_eq_nil_iff] at h
    obtain ⟨k0, hk0⟩ : ∃ k0, k0 ∈ ks := by
      cases ks with
      | nil => simp at hka
      | cons a r => exact ⟨a, by simp⟩
    have := h k0 hk0
    simp at this
    rw [this] at hbl
    simp at hbl
  rw [← jst_join hne]
  have loop : ∀ (Q : Prop), True := fun _ => trivial
  rcases hk with hk | hk
  · have hb := hbs hk
    rw [← hb] at kb
    clear hbs hb
    refine callFz_of Tryz.func150 rfl Tryz.ntmps150 (rs := [.tmp 6]) rfl (by kernel_rfl) (by simp) (by kernel_rfl) ?_
    simp
    refine c1.s ?_
    simp
    refine ka.s ?_
    simp [hk]
    refine (c2 hk).s ?_
    simp
    refine kb.s ?_
    simp
    refine V.forI (σ := Unit) ks.length [1, 3, 6, 7, 8] (by simp; exact rfl) (fun i _ => [(9, aI (jst ((ks.take i).flatMap fun on => bs.map (vlP 1 own on))).1), (10, aB (jst ((ks.take i).flatMap fun on => bs.map (vlP 1 own on))).2), (11, aI i)]) (fun _ _ => []) (fun _ _ => True) () trivial (by simp [jst]) ⟨by simp; exact rfl, by simp⟩ ?_ ?_
    · rintro i - hi -
      obtain ⟨y, hy⟩ : ∃ y, ks[i] = y := ⟨_, rfl⟩
      have hyo : ks[i]? = some y := by rw [List.getElem?_eq_getElem hi, hy]
      rw [flat_take hyo]
      generalize (ks.take i).flatMap (fun on => bs.map (vlP 1 own on)) = zs at *
      simp [hi]
      refine V.forI (σ := Unit) bs.length [1, 3, 6, 7, 8, 11, 28, 29, 30, 31] (by simp; exact rfl) (fun j _ => [(9, aI (jst (zs ++ (bs.take j).map (vlP 1 own y))).1), (10, aB (jst (zs ++ (bs.take j).map (vlP 1 own y))).2), (12, aI j)]) (fun _ _ => []) (fun _ _ => True) () trivial (by simp) ⟨by simp; exact rfl, by simp⟩ ?_ ?_
      · rintro j - hj -
        obtain ⟨q, hq⟩ : ∃ q, bs[j] = q := ⟨_, rfl⟩
        have hqo : bs[j]? = some q := by rw [List.getElem?_eq_getElem hj, hq]
        have e2 : zs ++ (bs.take (j + 1)).map (vlP 1 own y) = (zs ++ (bs.take j).map (vlP 1 own y)) ++ [if y ≠ q then y else own] := by
          rw [List.take_add_one, hqo]
          simp [vlP]
        rw [e2, jst_snoc]
        generalize jst (zs ++ (bs.take j).map (vlP 1 own y)) = p at *
        obtain ⟨p1, p2⟩ := p
        simp [hi, hj]
        refine V.drawX (fun _ => none) (by kernel_rfl) (by kernel_rfl) (by simp) ?_
        simp [hi, hj, hk, hy, hq]
        have jn := fun a b => Join_fn a b
        by_cases hyq : y = q
        · cases p2
          · simp [hyq]
            refine (jn _ _).s ?_
            simp [hyq]
            omega
          · simp [hyq]
            refine (jn _ _).s ?_
            simp [hyq]
            omega
        · cases p2
          · simp [hyq, hi, hy]
            refine (jn _ _).s ?_
            simp [hyq]
            omega
          · simp [hyq, hi, hy]
            refine (jn _ _).s ?_
            simp [hyq]
            omega
      · rintro - -
        rw [List.take_length]
        simp
        omega
    · rintro - -
      rw [List.take_length]
      simp [hk]
  · have hb0 := hbl.2.2 hk
    subst hb0
    refine callFz_of Tryz.func150 rfl Tryz.ntmps150 (rs := [.tmp 6]) rfl (by kernel_rfl) (by simp) (by kernel_rfl) ?_
    simp
    refine c1.s ?_
    simp
    refine ka.s ?_
    simp [hk]
    refine V.forI (σ := Unit) ks.length [1, 3, 6, 7, 8] (by simp; exact rfl) (fun i _ => [(9, aI (jst ((ks.take i).flatMap fun on => [0].map (vlP 2 own on))).1), (10, aB (jst ((ks.take i).flatMap fun on => [0].map (vlP 2 own on))).2), (11, aI i)]) (fun _ _ => []) (fun _ _ => True) () trivial (by simp [jst]) ⟨by simp; exact rfl, by simp⟩ ?_ ?_
    · rintro i - hi -
      obtain ⟨y, hy⟩ : ∃ y, ks[i] = y := ⟨_, rfl⟩
      have hyo : ks[i]? = some y := by rw [List.getElem?_eq_getElem hi, hy]
      rw [flat_take hyo]
      generalize (ks.take i).flatMap (fun on => [0].map (vlP 2 own on)) = zs at *
      simp [hi]
      refine V.forI (σ := Unit) 1 [1, 3, 6, 7, 8, 11, 28, 29, 30, 31] (by simp; exact rfl) (fun j _ => [(9, aI (jst (zs ++ ([0].take j).map (vlP 2 own y))).1), (10, aB (jst (zs ++ ([0].take j).map (vlP 2 own y))).2), (12, aI j)]) (fun _ _ => []) (fun _ _ => True) () trivial (by simp) ⟨by simp; exact rfl, by simp⟩ ?_ ?_
      · rintro j - hj -
        obtain rfl : j = 0 := by omega
        have e2 : zs ++ ([0].take (0 + 1)).map (vlP 2 own y) = (zs ++ ([0].take 0).map (vlP 2 own y)) ++ [if y = 0 then 0 else own] := by
          simp [vlP]
        rw [e2, jst_snoc]
        generalize jst (zs ++ ([0].take 0).map (vlP 2 own y)) = p at *
        obtain ⟨p1, p2⟩ := p
        simp [hi]
        refine V.drawX (fun _ => none) (by kernel_rfl) (by kernel_rfl) (by simp) ?_
        simp [hi, hk, hy]
        have jn := fun a b => Join_fn a b
        by_cases hyq : y = 0
        · cases p2
          · simp [hyq]
            refine (jn _ _).s ?_
            simp [hyq]
          · simp [hyq]
            refine (jn _ _).s ?_
            simp [hyq]
        · cases p2
          · simp [hyq]
            refine (jn _ _).s ?_
            simp [hyq]
          · simp [hyq]
            refine (jn _ _).s ?_
            simp [hyq]
      · rintro - -
        simp
        omega
    · rintro - -
      rw [List.take_length]
      simp [hk]

end Go.Proofs.YtbhdiijibgdlnaaGreat
end

/- Contracts: ref28.again, Final. -/
section
namespace Go.Proofs.YtbhdiijibgdlnaaGreat
set_option maxHeartbeats 4000000
set_option maxRecDepth 10000

theorem joinL_two (a b : Int) : joinL [a, b] = joinI a b := by
  unfold joinL joinI
  simp only [List.all_cons, List.all_nil, Bool.and_true]
  by_cases h : a = b
  · simp [h]
  · have h' : ¬ b = a := fun e => h e.symm
    simp [h, h']
theorem A3.set {l : List Int} (h : A3 l) {i : Nat} {v : Int} (hv : T3 v) : A3 (l.set i v) := by
  intro n hn
  rcases List.mem_or_eq_of_mem_set hn with h1 | h1
  · exact h n h1
  · rw [h1]; exact hv
theorem joinL_t3 {l : List Int} (h : A3 l) : T3 (joinL l) := by
  cases l with
  | nil => exact .inl rfl
  | cons v r =>
    have e : joinL (v :: r) = if r.all (· == v) then v else 2 := rfl
    rw [e]
    by_cases hr : r.all (· == v) = true
    · rw [if_pos hr]; exact h v (by simp)
    · rw [if_neg hr]; exact .inr (.inr rfl)
theorem knownL_a3 {v : Int} (h : T3 v) : A3 (knownL v) := by
  intro z hz
  rcases knownL_mem h hz with h | h
  · exact .inl h
  · exact .inr (.inl h)
theorem mightL_a3 {x : Signal} {own : Int} {l : List Int} (ho : T3 own) (hon : T3 (thE x.on l)) : A3 (mightL x own l) := by
  unfold mightL
  split
  · intro z hz
    obtain ⟨on, h1, rfl⟩ := List.mem_map.1 hz
    split
    · exact .inl rfl
    · exact ho
  · intro z hz
    obtain ⟨on, h1, h2⟩ := List.mem_flatMap.1 hz
    obtain ⟨off, h3, rfl⟩ := List.mem_map.1 h2
    split
    · exact knownL_a3 hon on h1
    · exact ho
theorem mightP_t3 {x : Signal} {own : Int} {l : List Int} (ho : T3 own) (hon : T3 (thE x.on l)) : T3 (mightP x own l) := joinL_t3 (mightL_a3 ho hon)
theorem getD_t3 {l : List Int} (h : A3 l) (k : Nat) : T3 (l.getD k 0) := by
  rw [List.getD_eq_getElem?_getD]
  cases hk : l[k]? with
  | none => exact .inl rfl
  | some v => exact h v (List.mem_of_getElem? hk)
theorem gateT_a3 {c : Control} (hf : Fine c) {l : List Int} (h : A3 l) : ∀ i, A3 (gateT c l i)
  | 0 => h
  | i + 1 => by
    have ih := gateT_a3 hf h i
    unfold gateT
    split
    · rename_i x hx
      split
      · exact ih.set (thE_t3 ih (SizeOf.sizeOf x.on + 1) x.on (by omega) (right_of_check (hf.on hx).1).1)
      · exact ih
    · exact ih
theorem nextT_a3 {c : Control} (hf : Fine c) {l : List Int} (h : A3 l) : ∀ i, A3 (nextT c l i)
  | 0 => h
  | i + 1 => by
    have ih := nextT_a3 hf h i
    unfold nextT
    split
    · rename_i x hx
      split
      · refine ih.set (joinL_t3 ?_)
        intro z hz
        have h1 := getD_t3 h (atP c i)
        have h2 : T3 (mightP x (l.getD (atP c i) 0) l) := mightP_t3 h1 (thE_t3 h (SizeOf.sizeOf x.on + 1) x.on (by omega) (right_of_check (hf.on hx).1).1)
        simp only [List.mem_cons, List.not_mem_nil, or_false] at hz
        rcases hz with rfl | rfl
        · exact h1
        · exact h2
      · exact ih
    · exact ih
theorem againP_a3 {c : Control} (hf : Fine c) {l : List Int} (h : A3 l) : A3 (againP c l) := nextT_a3 hf (gateT_a3 hf h _) _

theorem again_fn (c : Control) (l : List Int) (hc : OkC c) (hf : Fine c) (hl : (l.length : Int) = countC c) (ha : A3 l) : CallFn Tryz.prog 113 [aC c, aIs l] (aIs (againP c l)) := by
  have hact := hf.act
  have hin := hf.inp
  have hsg := hf.sig
  have hcn : countC c = firstC c + c.signals.length := rfl
  obtain ⟨f, hf0⟩ : ∃ f : Nat, firstC c = f := ⟨(firstC c).toNat, by unfold firstC; omega⟩
  have hf1 : f ≤ 100 := by have : firstC c = 2 * c.actuators + c.inputs.length := rfl; omega
  have hat : ∀ i, atP c i = f + i := by intro i; simp only [atP]; omega
  have hline : ∀ i : Nat, i < c.signals.length → CallFn Tryz.prog 121 [aC c, aI i] (aI ((f : Int) + i)) := by
    intro i hi
    rw [← hf0]
    exact Line28_fn c i hf.sm (by omega)
  refine callFz_of Tryz.func113 rfl Tryz.ntmps113 (rs := [.tmp 4]) rfl (by kernel_rfl) (by simp) (by kernel_rfl) ?_
  simp
  intro u10
  intro u12
  refine ⟨by omega, ?_⟩
  refine V.forI (σ := Unit) c.signals.length [2, 4, 5] (by simp; exact rfl) (fun i _ => [(6, aI i)]) (fun i _ => [(10, .seq u12 3 1 ((gateT c l i).map rI))]) (fun _ _ => True) () trivial (by simp) ⟨by simp; exact rfl, by simp [gateT]⟩ ?_ ?_
  · rintro i - hi -
    obtain ⟨x, hx⟩ : ∃ x, c.signals[i] = x := ⟨_, rfl⟩
    have hxo : c.signals[i]? = some x := by rw [List.getElem?_eq_getElem hi, hx]
    have hgl := gateT_len c l i
    have hga := gateT_a3 hf ha i
    have hon := (right_of_check (hf.on hxo).1).1
    have hli := hline i hi
    rw [gateT_at hxo, hat]
    generalize gateT c l i = m at *
    have ct := Three_fn (SizeOf.sizeOf x.on + 1) x.on (by omega) (hc.sigs x (List.mem_of_getElem? hxo)).on m (by omega) hga (by rw [hgl, hl]; exact hon)
    generalize thE x.on m = v at *
    have hlm : f + i < m.length := by omega
    have htn : ((f : Int) + i).toNat = f + i := by omega
    have hmx : m[f + i]? = some m[f + i] := List.getElem?_eq_getElem hlm
    generalize hmv : m[f + i] = m0 at *
    by_cases hk : x.kind = 0
    · simp [hi, hx, hk]
      refine V.drawX (fun q => if q = 30 then some (.fn (aI ((f : Int) + i))) else if q = 38 then some (.ro (aI v)) else none) (by kernel_rfl) (by kernel_rfl) (by simp) ?_
      simp [hi, hx, hlm, htn, hmx, rI]
      exact ⟨hli, ct.lend (by simp [hget]) (by simp) ⟨rfl, rfl⟩, by omega, by kernel_rfl, by omega, by simp [hk, rI]⟩
    · simp [hi, hx, hk]
      omega
  · rintro - -
    have hgl := gateT_len c l c.signals.length
    have hga := gateT_a3 hf ha c.signals.length
    rw [show againP c l = nextT c (gateT c l c.signals.length) c.signals.length from rfl]
    generalize gateT c l c.signals.length = m at *
    simp
    intro u40 u42
    refine ⟨by omega, ?_⟩
    refine V.forI (σ := Unit) c.signals.length [2, 4, 5, 7] (by simp; exact rfl) (fun i _ => [(8, aI i)]) (fun i _ => [(10, .seq u12 3 1 ((nextT c m i).map rI))]) (fun _ _ => True) () trivial (by simp) ⟨by simp; exact rfl, by simp [nextT, hget, hdel]⟩ ?_ ?_
    · rintro i - hi -
      obtain ⟨x, hx⟩ : ∃ x, c.signals[i] = x := ⟨_, rfl⟩
      have hxo : c.signals[i]? = some x := by rw [List.getElem?_eq_getElem hi, hx]
      have hnl := nextT_len c m i
      have hon := hf.on hxo
      have r1 := (right_of_check hon.1).1
      have hli := hline i hi
      have hlm : f + i < m.length := by omega
      have htn : ((f : Int) + i).toNat = f + i := by omega
      obtain ⟨m0, hmv⟩ : ∃ m0, m[f + i] = m0 := ⟨_, rfl⟩
      have hmx : m[f + i]? = some m0 := by rw [List.getElem?_eq_getElem hlm, hmv]
      have hgd : m.getD (f + i) 0 = m0 := by rw [List.getD_eq_getElem?_getD, hmx]; rfl
      rw [nextT_at hxo, hat, hgd, joinL_two]
      generalize nextT c m i = q at *
      have hlq : f + i < q.length := by omega
      obtain ⟨q0, hqv⟩ : ∃ q0, q[f + i] = q0 := ⟨_, rfl⟩
      have hqx : q[f + i]? = some q0 := by rw [List.getElem?_eq_getElem hlq, hqv]
      by_cases hk : x.kind = 0
      · simp [hi, hx, hk]
        refine hli.s ?_
        simp [hi, hx, hk]
        omega
      · have cm := mightR_fn x m0 m (hc.sigs x (List.mem_of_getElem? hxo)) (by omega) (by omega) hga (by rw [hgl, hl]; exact r1) (fun h1 => by rw [hgl, hl]; exact (right_of_check (off_ok hf hxo h1)).1)
        generalize mightP x m0 m = mv at *
        have jn := Join_fn m0 mv
        generalize joinI m0 mv = jv at *
        simp [hi, hx, hk]
        refine hli.s ?_
        simp [hi, hx, hk]
        refine V.drawX (fun q => if q = 76 then some (.ro (aI mv)) else if q = 77 then some (.fn (aI jv)) else none) (by kernel_rfl) (by kernel_rfl) (by simp) ?_
        simp [hi, hx, hlm, htn, hmx, hmv, hqx, hlq, rI]
        exact ⟨by omega, cm.lend (by simp [hget, encSt]) (by simp) ⟨rfl, rfl⟩, jn, by omega, by kernel_rfl, by omega, by simp [hk, rI]⟩
    · rintro - -
      have hnl := nextT_len c m c.signals.length
      generalize nextT c m c.signals.length = q at *
      simp

end Go.Proofs.YtbhdiijibgdlnaaGreat
end

/- Contracts: ref28.Final, ref28.Unknown. -/
section
namespace Go.Proofs.YtbhdiijibgdlnaaGreat
set_option maxHeartbeats 4000000
set_option maxRecDepth 10000

def numL (vs : List Bool) : List Int := vs.map fun b => if b then 1 else 0
def setU (c : Control) (l : List Int) (ks : List Int) : List Int := ks.foldl (fun l k => l.set (2 * c.actuators + k).toNat 2) l
theorem setU_take {c : Control} {l ks : List Int} {i : Nat} {k : Int} (h : ks[i]? = some k) : setU c l (ks.take (i + 1)) = (setU c l (ks.take i)).set (2 * c.actuators + k).toNat 2 := by
  unfold setU
  rw [List.take_add_one, h, List.foldl_append]
  rfl
theorem setU_len (c : Control) : ∀ (ks l : List Int), (setU c l ks).length = l.length
  | [], _ => rfl
  | k :: ks, l => by
    have := setU_len c ks (l.set (2 * c.actuators + k).toNat 2)
    simp only [setU, List.foldl_cons] at this ⊢
    rw [this, List.length_set]
theorem setU_a3 (c : Control) : ∀ (ks l : List Int), A3 l → A3 (setU c l ks)
  | [], _, h => h
  | k :: ks, l, h => setU_a3 c ks _ (h.set (.inr (.inr rfl)))
theorem numL_a3 (vs : List Bool) : A3 (numL vs) := by
  intro z hz
  obtain ⟨b, _, rfl⟩ := List.mem_map.1 hz
  cases b
  · exact .inl rfl
  · exact .inr (.inl rfl)
theorem numL_len (vs : List Bool) : (numL vs).length = vs.length := by simp [numL]
theorem numL_take {vs : List Bool} {i : Nat} {b : Bool} (h : vs[i]? = some b) : numL (vs.take (i + 1)) = numL (vs.take i) ++ [if b then 1 else 0] := by
  unfold numL
  rw [List.take_add_one, h]
  simp
theorem itP_a3 {c : Control} (hf : Fine c) {l : List Int} (h : A3 l) : ∀ i, A3 (itP c l i)
  | 0 => h
  | i + 1 => againP_a3 hf (itP_a3 hf h i)
def startU (c : Control) (s : State) (ks : List Int) : List Int := setU c (numL (valuesOf s)) ks

theorem Final_fn (c : Control) (s : State) (ks : List Int) (hc : OkC c) (hf : Fine c) (hsh : shapeS c s) (hk : ∀ k ∈ ks, 0 ≤ k ∧ k < c.inputs.length) (hkl : ks.length ≤ 16) :
    CallFn Tryz.prog 81 [aC c, aSt s, aIs ks] (aIs (finalP c (startU c s ks))) := by
  have hact := hf.act
  have hin := hf.inp
  have hsg := hf.sig
  have hcn : countC c = 2 * c.actuators + c.inputs.length + c.signals.length := rfl
  have hsm := sm_of hf hsh
  have hL := valuesOf_length hsh
  have hv2 := ValuesR_fn c s hsm (by rw [hsh.1])
  unfold startU
  generalize valuesOf s = vs at *
  refine callFz_of Tryz.func81 rfl Tryz.ntmps81 (rs := [.tmp 6]) rfl (by kernel_rfl) (by simp) (by kernel_rfl) ?_
  simp
  refine hv2.s ?_
  simp
  refine V.forI (σ := Value) vs.length [2, 3, 6, 8] (by simp; exact rfl) (fun i h => [(9, aI i), (7, .own 50 h)]) (fun i h => [(50, .seq h 3 1 ((numL (vs.take i)).map rI))]) (fun _ _ => True) (.slice none 0 0) trivial (by simp) ⟨by simp; exact rfl, by simp [numL]⟩ ?_ ?_
  · rintro i h hi -
    obtain ⟨y, hy⟩ : ∃ y, vs[i] = y := ⟨_, rfl⟩
    have hyo : vs[i]? = some y := by rw [List.getElem?_eq_getElem hi, hy]
    have hnl := numL_len (vs.take i)
    rw [List.length_take] at hnl
    rw [numL_take hyo]
    generalize numL (vs.take i) = zs at *
    simp [hi, hy]
    refine (number_fn y).s ?_
    simp [rI]
    omega
  · rintro h -
    rw [List.take_length]
    have hnl := numL_len vs
    have hna := numL_a3 vs
    generalize numL vs = zs at *
    simp
    refine V.forI (σ := Unit) ks.length [2, 3, 6, 7] (by simp; exact rfl) (fun i _ => [(10, aI i)]) (fun i _ => [(50, .seq h 3 1 ((setU c zs (ks.take i)).map rI))]) (fun _ _ => True) () trivial (by simp) ⟨by simp; exact rfl, by simp [setU]⟩ ?_ ?_
    · rintro i - hi -
      obtain ⟨y, hy⟩ : ∃ y, ks[i] = y := ⟨_, rfl⟩
      have hyo : ks[i]? = some y := by rw [List.getElem?_eq_getElem hi, hy]
      have hy2 := hk y (List.mem_of_getElem? hyo)
      have hsl := setU_len c (ks.take i) zs
      rw [setU_take hyo]
      generalize setU c zs (ks.take i) = q at *
      obtain ⟨f, hfe⟩ : ∃ f : Nat, 2 * c.actuators + y = f := ⟨(2 * c.actuators + y).toNat, by omega⟩
      have hfq : f < q.length := by omega
      rw [hfe]
      have hqx : q[f]? = some q[f] := List.getElem?_eq_getElem hfq
      simp [hi]
      refine V.drawX (fun _ => none) (by kernel_rfl) (by kernel_rfl) (by simp) ?_
      simp [hi, hy, hfe, hqx, rI]
      exact ⟨by omega, by omega, by omega, by kernel_rfl, by omega⟩
    · rintro - -
      rw [List.take_length]
      have hsl := setU_len c ks zs
      have hsa := setU_a3 c ks zs hna
      generalize setU c zs ks = q at *
      simp
      refine V.frz1 7 (τ := 50) (h := h) (e := 3) (sz := 1) (rows := q.map rI) (by simp) (by simp [hget]) (by simp) ?_
      simp
      refine V.forI (σ := Unit) (2 * c.signals.length + 2) [3, 6] (by simp; exact rfl) (fun i _ => [(7, aIs (itP c q i)), (11, aI i)]) (fun _ _ => []) (fun _ _ => True) () trivial (by simp [itP]) ⟨by simp; exact rfl, by simp⟩ ?_ ?_
      · rintro i - hi -
        have hil := itP_len c q i
        have hia := itP_a3 hf hsa i
        have ca := again_fn c (itP c q i) hc hf (by omega) hia
        rw [show againP c (itP c q i) = itP c q (i + 1) from rfl] at ca
        generalize itP c q (i + 1) = q1 at *
        generalize itP c q i = q0 at *
        have hi2 : (i : Int) < 2 * c.signals.length + 2 := by omega
        simp [hi2]
        refine ⟨by omega, by omega, ca.s ?_⟩
        simp
        omega
      · rintro - -
        rw [show itP c q (2 * c.signals.length + 2) = finalP c q from rfl]
        simp
        omega

/-! ### Unknown -/
/-- What is wrong with the unknown inputs: 0 for nothing. -/
def inputsE (n : Int) : Int → List Int → Int
  | _, [] => 0
  | p, k :: ks => if k < 0 ∨ n ≤ k then 6 else if k ≤ p then 9 else inputsE n k ks
def unknownR (c : Control) (s : State) (ks : List Int) : List Int × Int := if rightC c s ≠ 0 then ([], rightC c s) else if 16 < ks.length then ([], 5)
  else if inputsE c.inputs.length (-1) ks ≠ 0 then ([], inputsE c.inputs.length (-1) ks) else (finalP c (startU c s ks), 0)
theorem inputsE_all {n : Int} : ∀ {ks : List Int} {p : Int}, inputsE n p ks = 0 → ∀ k ∈ ks, 0 ≤ k ∧ k < n
  | k :: ks, p, h, z, hz => by
    unfold inputsE at h
    by_cases h1 : k < 0 ∨ n ≤ k
    · rw [if_pos h1] at h; cases h
    · rw [if_neg h1] at h
      by_cases h2 : k ≤ p
      · rw [if_pos h2] at h; cases h
      · rw [if_neg h2] at h
        rcases List.mem_cons.1 hz with rfl | hz
        · omega
        · exact inputsE_all h z hz
def prevK (ks : List Int) (i : Nat) : Int := if i = 0 then -1 else ks.getD (i - 1) 0
theorem inputsE_step {n : Int} {ks : List Int} {i : Nat} {k : Int} (h : ks[i]? = some k) : inputsE n (prevK ks i) (ks.drop i) = if k < 0 ∨ n ≤ k then 6 else if k ≤ prevK ks i then 9 else inputsE n (prevK ks (i + 1)) (ks.drop (i + 1)) := by
  obtain ⟨h1, h2⟩ := List.getElem?_eq_some_iff.1 h
  rw [List.drop_eq_getElem_cons h1, h2]
  have : prevK ks (i + 1) = k := by
    unfold prevK
    rw [if_neg (by omega), Nat.add_sub_cancel, List.getD_eq_getElem?_getD, h]
    rfl
  rw [this]
  rfl

theorem UnknownR_fn (c : Control) (s : State) (ks : List Int) (hc : OkC c) (hp : c.plus.length ≤ 1000000) (hm : c.minus.length ≤ 1000000) (hs : SmS s) (hk : ks.length ≤ 1000) :
    CallFn Tryz.prog 33 [aC c, aSt s, aIs ks] (.tuple [aIs (unknownR c s ks).1, aI (unknownR c s ks).2]) := by
  refine callFz_of Tryz.func33 rfl Tryz.ntmps33 (rs := [.tmp 6, .tmp 7]) rfl (by kernel_rfl) (by simp) (by kernel_rfl) ?_
  simp
  refine (RightR_fn c s hc hp hm hs).s ?_
  unfold unknownR
  by_cases hz : rightC c s = 0
  · obtain ⟨z1, z2, z3⟩ := right_zero hz
    have hf := fine_of z1
    have hin := hf.inp
    by_cases h16 : 16 < ks.length
    · have h16' : (16 : Int) < ks.length := by omega
      simp [hz, h16, h16']
    · have h16' : ¬ (16 : Int) < ks.length := by omega
      have hall := inputsE_all (n := c.inputs.length) (ks := ks) (p := -1)
      have hfin := fun h => Final_fn c s ks hc hf z2 (hall h) (by omega)
      simp only [hz, h16, ne_eq, not_true, if_false]
      obtain ⟨R, hR⟩ : ∃ R, inputsE c.inputs.length (-1) ks = R := ⟨_, rfl⟩
      rw [hR] at hfin ⊢
      have h0 : R = inputsE c.inputs.length (prevK ks 0) (ks.drop 0) := by rw [← hR]; rfl
      simp [h16']
      refine V.forI (σ := Unit) ks.length [2, 3, 4] (by simp; exact rfl) (fun i _ => [(6, .nils), (7, aI 0), (9, aI i)]) (fun _ _ => []) (fun i _ => R = inputsE c.inputs.length (prevK ks i) (ks.drop i)) () h0 (by simp) ⟨by simp; exact rfl, by simp⟩ ?_ ?_
      · rintro i - hi hI
        obtain ⟨y, hy⟩ : ∃ y, ks[i] = y := ⟨_, rfl⟩
        have hyo : ks[i]? = some y := by rw [List.getElem?_eq_getElem hi, hy]
        rw [inputsE_step hyo] at hI
        simp [hi]
        refine V.drawX (fun _ => none) (by kernel_rfl) (by kernel_rfl) (by simp) ?_
        by_cases h1 : y < 0
        · rw [if_pos (.inl h1)] at hI
          simp [hi, hy, h1, hI]
        · by_cases h2 : (c.inputs.length : Int) ≤ y
          · rw [if_pos (.inr h2)] at hI
            simp [hi, hy, h1, h2, hI]
          · rw [if_neg (by omega)] at hI
            simp [hi, hy, h1, h2]
            refine V.drawX (fun _ => none) (by kernel_rfl) (by kernel_rfl) (by simp) ?_
            cases i with
            | zero =>
              rw [if_neg (by simp [prevK]; omega)] at hI
              simp [hyo, hy, hi]
              simpa using hI
            | succ j =>
              have hj : j < ks.length := by omega
              obtain ⟨w, hw⟩ : ∃ w, ks[j] = w := ⟨_, rfl⟩
              have hwo : ks[j]? = some w := by rw [List.getElem?_eq_getElem hj, hw]
              have hpk : prevK ks (j + 1) = w := by
                unfold prevK
                rw [if_neg (by omega), Nat.add_sub_cancel, List.getD_eq_getElem?_getD, hwo]
                rfl
              rw [hpk] at hI
              have hj1 : ((j + 1 : Nat) : Int) - 1 = j := by omega
              by_cases h3 : y ≤ w
              · rw [if_pos h3] at hI
                simp [hi, hj, hy, hw, hj1, h3, hI]
                omega
              · rw [if_neg h3] at hI
                simp [hi, hj, hy, hw, hj1, h3]
                exact ⟨by omega, by omega, by omega, hI⟩
      · rintro - hI
        rw [List.drop_length] at hI
        simp only [inputsE] at hI
        subst hI
        simp
        refine (hfin rfl).s ?_
        simp
  · simp [hz]

end Go.Proofs.YtbhdiijibgdlnaaGreat
end

/- Contracts: settle.Unknown, its rounds. -/
section
namespace Go.Proofs.YtbhdiijibgdlnaaGreat
set_option maxHeartbeats 4000000
set_option maxRecDepth 10000

abbrev ukE (bm : Nat) (c : Control) : List (Nat × A) := [(3, .rptr (encC c)), (8, .ptr 70 bm 0)]
abbrev ukH (bm : Nat) (g : Nat → Value) (h7 : Value) (c : Control) (s : State) : Heap := (71, .seq h7 4 1 ((valuesOf s).map rB)) :: mcH bm c g s

theorem unk_r0 {nt : Nat} {Q : PostQ} {bm : Nat} {g : Nat → Value} {h7 h : Value} {c : Control} {s : State} {l0 : List Int} {i : Nat} (hc : OkC c) (hf : Fine c) (hl0 : (l0.length : Int) = countC c) (ha0 : A3 l0) (hi : i ≤ c.signals.length + 2)
    (hQ : ∀ (E' : Env) (H' : Heap) (hh : Value), E' 6 = .own 51 hh → E' 7 = aI 0 → hget 51 H' = some (.seq hh 3 1 ((finalP c l0).map rI)) → Q .ret E' H') :
    vcC ⟨Tryz.prog, none, nt⟩ (loopC Tryz.f32 3) (hdE (ukE bm c) [(6, .nils), (7, aI 0), (12, .own 50 h)]) (hcat [(50, .seq h 3 1 ((itP c l0 i).map rI))] (ukH bm g h7 c s))
      (LoopQ Q fun E' H' => ∃ s', itP c l0 (i + 1) ≠ itP c l0 i ∧ (∀ p ∈ [(6, .nils), (7, aI 0), (12, .own 51 s')], wk (E' p.1) p.2) ∧ (∀ p ∈ ukE bm c, E' p.1 = p.2) ∧ subN (hcat [(51, .seq s' 3 1 ((itP c l0 (i + 1)).map rI))] (ukH bm g h7 c s)) H') := by
  refine vc_part rfl ?_
  have hact := hf.act
  have hin := hf.inp
  have hsg := hf.sig
  have hcn : countC c = firstC c + c.signals.length := rfl
  obtain ⟨f, hf0⟩ : ∃ f : Nat, firstC c = f := ⟨(firstC c).toNat, by unfold firstC; omega⟩
  have hf1 : f ≤ 100 := by have : firstC c = 2 * c.actuators + c.inputs.length := rfl; omega
  have hat : ∀ i, atP c i = f + i := by intro i; simp only [atP]; omega
  have hil := itP_len c l0 i
  have hil2 := itP_a3 hf ha0 i
  have hil3 := itP_len c l0 (i + 1)
  have heq := eqI_fn (itP c l0 i) (itP c l0 (i + 1)) (by unfold Sh; omega) (by unfold Sh; omega)
  have hfin := fun h => it_final (c := c) (l := l0) (k := i) hi h
  have hnx : itP c l0 (i + 1) = nextT c (gateT c (itP c l0 i) c.signals.length) c.signals.length := rfl
  generalize itP c l0 (i + 1) = l2 at *
  generalize itP c l0 i = l1 at *
  simp
  refine (cloneI_o l1 (by omega)).lend 95 (by simp [hget]) (by simp) fun hb => ?_
  simp
  refine V.forI (σ := Unit) c.signals.length [3, 6, 7, 8, 12, 17, 95, 96, 97, 98, 99] (by simp; exact rfl) (fun k _ => [(100, aI k)]) (fun k _ => [(50, .seq h 3 1 ((gateT c l1 k).map rI))]) (fun _ _ => True) () trivial (by simp) ⟨by simp; exact rfl, by simp [gateT, hget, hdel]⟩ ?_ ?_
  · rintro k - hk -
    obtain ⟨x, hx⟩ : ∃ x, c.signals[k] = x := ⟨_, rfl⟩
    have hxo : c.signals[k]? = some x := by rw [List.getElem?_eq_getElem hk, hx]
    have hgl := gateT_len c l1 k
    have hga := gateT_a3 hf hil2 k
    have hon := (right_of_check (hf.on hxo).1).1
    rw [gateT_at hxo, hat]
    generalize gateT c l1 k = q at *
    have ct := three_fn (SizeOf.sizeOf x.on + 1) x.on (by omega) (hc.sigs x (List.mem_of_getElem? hxo)).on q (by omega) hga (by rw [hgl, hil, hl0]; exact hon)
    generalize thE x.on q = v at *
    have hlq : f + k < q.length := by omega
    have htn : ((f : Int) + k).toNat = f + k := by omega
    obtain ⟨q0, hqv⟩ : ∃ q0, q[f + k] = q0 := ⟨_, rfl⟩
    have hqx : q[f + k]? = some q0 := by rw [List.getElem?_eq_getElem hlq, hqv]
    by_cases hkd : x.kind = 0
    · simp [hk, hx, hkd]
      intro b19
      refine V.drawX (fun q => if q = 118 then some (.ro (aI v)) else none) (by kernel_rfl) (by kernel_rfl) (by simp) ?_
      simp [mcA, hk, hx, hf0, htn, hqx, hlq, rI]
      exact ⟨by omega, ct.lend (by simp [hget]) (by simp) ⟨rfl, rfl⟩, by omega, by kernel_rfl, by omega, by simp [hkd, rI]⟩
    · simp [hk, hx, hkd]
      omega
  · rintro - -
    have hgl := gateT_len c l1 c.signals.length
    have hga := gateT_a3 hf hil2 c.signals.length
    generalize gateT c l1 c.signals.length = q at *
    simp
    refine (cloneI_o q (by omega)).lend 51 (by simp [hget]) (by simp) fun hn => ?_
    simp
    refine V.forI (σ := Unit) c.signals.length [3, 6, 7, 8, 12, 17, 18, 19, 20, 95, 96, 97, 98, 99, 100, 101, 102, 103, 104, 105, 106, 107, 108, 109, 110, 111, 112, 113, 114, 115, 116, 117, 118, 119, 120, 121, 122, 123, 124, 125] (by simp; exact rfl) (fun k _ => [(126, aI k)]) (fun k _ => [(51, .seq hn 3 1 ((nextT c q k).map rI))]) (fun _ _ => True) () trivial (by simp) ⟨by simp; exact rfl, by simp [nextT, hget, hdel]⟩ ?_ ?_
    · rintro k - hk -
      obtain ⟨x, hx⟩ : ∃ x, c.signals[k] = x := ⟨_, rfl⟩
      have hxo : c.signals[k]? = some x := by rw [List.getElem?_eq_getElem hk, hx]
      have hnl := nextT_len c q k
      have hon := hf.on hxo
      have r1 := (right_of_check hon.1).1
      have hlq : f + k < q.length := by omega
      have htn : ((f : Int) + k).toNat = f + k := by omega
      obtain ⟨q0, hqv⟩ : ∃ q0, q[f + k] = q0 := ⟨_, rfl⟩
      have hqx : q[f + k]? = some q0 := by rw [List.getElem?_eq_getElem hlq, hqv]
      have hgd : q.getD (f + k) 0 = q0 := by rw [List.getD_eq_getElem?_getD, hqx]; rfl
      rw [nextT_at hxo, hat, hgd]
      generalize nextT c q k = z at *
      have hlz : f + k < z.length := by omega
      obtain ⟨z0, hzv⟩ : ∃ z0, z[f + k] = z0 := ⟨_, rfl⟩
      have hzx : z[f + k]? = some z0 := by rw [List.getElem?_eq_getElem hlz, hzv]
      by_cases hkd : x.kind = 0
      · simp [mcA, hk, hx, hkd, hf0]
        omega
      · have cm := might_fn x q0 q (hc.sigs x (List.mem_of_getElem? hxo)) (by omega) (by omega) hga (by rw [hgl, hil, hl0]; exact r1) (fun h1 => by rw [hgl, hil, hl0]; exact (right_of_check (off_ok hf hxo h1)).1)
        generalize mightP x q0 q = mv at *
        have jn := join_fn q0 [mv] (by simp)
        generalize joinL [q0, mv] = jv at *
        simp [mcA, hk, hx, hkd, hf0]
        intro b22
        refine ⟨by omega, ?_⟩
        refine V.drawX (fun q => if q = 152 then some (.ro (aI mv)) else if q = 154 then some (.fn (aI jv)) else none) (by kernel_rfl) (by kernel_rfl) (by simp) ?_
        simp [hk, hx, hlq, htn, hqx, hqv, hzx, hlz, rI]
        exact ⟨by omega, cm.lend (by simp [hget, encSt]) (by simp) ⟨rfl, rfl⟩, jn, by omega, by kernel_rfl, by omega, by simp [hkd, rI], hf0.symm⟩
    · rintro - -
      rw [← hnx]
      by_cases hr : l2 = l1
      · have h2 := hfin hr
        have hb2 : decide (l1 = l2) = true := by simp [hr]
        rw [hb2] at heq
        simp
        refine heq.lend (by simp [hget]) (by simp) ?_
        simp
        have h3 : l2 = finalP c l0 := hr.trans h2
        exact hQ _ _ hn (by simp) (by simp) (by simp [h3])
      · have hb2 : decide (l1 = l2) = false := by simp; exact fun e => hr e.symm
        rw [hb2] at heq
        simp
        refine heq.lend (by simp [hget]) (by simp) ?_
        simp [hr]

theorem unk_r1 {nt : Nat} {Q : PostQ} {bm : Nat} {g : Nat → Value} {h7 h : Value} {c : Control} {s : State} {l0 : List Int} {i : Nat} (hc : OkC c) (hf : Fine c) (hl0 : (l0.length : Int) = countC c) (ha0 : A3 l0) (hi : i ≤ c.signals.length + 2)
    (hQ : ∀ (E' : Env) (H' : Heap) (hh : Value), E' 6 = .own 50 hh → E' 7 = aI 0 → hget 50 H' = some (.seq hh 3 1 ((finalP c l0).map rI)) → Q .ret E' H') :
    vcC ⟨Tryz.prog, none, nt⟩ (loopC Tryz.f32 3) (hdE (ukE bm c) [(6, .nils), (7, aI 0), (12, .own 51 h)]) (hcat [(51, .seq h 3 1 ((itP c l0 i).map rI))] (ukH bm g h7 c s))
      (LoopQ Q fun E' H' => ∃ s', itP c l0 (i + 1) ≠ itP c l0 i ∧ (∀ p ∈ [(6, .nils), (7, aI 0), (12, .own 50 s')], wk (E' p.1) p.2) ∧ (∀ p ∈ ukE bm c, E' p.1 = p.2) ∧ subN (hcat [(50, .seq s' 3 1 ((itP c l0 (i + 1)).map rI))] (ukH bm g h7 c s)) H') := by
  refine vc_part rfl ?_
  have hact := hf.act
  have hin := hf.inp
  have hsg := hf.sig
  have hcn : countC c = firstC c + c.signals.length := rfl
  obtain ⟨f, hf0⟩ : ∃ f : Nat, firstC c = f := ⟨(firstC c).toNat, by unfold firstC; omega⟩
  have hf1 : f ≤ 100 := by have : firstC c = 2 * c.actuators + c.inputs.length := rfl; omega
  have hat : ∀ i, atP c i = f + i := by intro i; simp only [atP]; omega
  have hil := itP_len c l0 i
  have hil2 := itP_a3 hf ha0 i
  have hil3 := itP_len c l0 (i + 1)
  have heq := eqI_fn (itP c l0 i) (itP c l0 (i + 1)) (by unfold Sh; omega) (by unfold Sh; omega)
  have hfin := fun h => it_final (c := c) (l := l0) (k := i) hi h
  have hnx : itP c l0 (i + 1) = nextT c (gateT c (itP c l0 i) c.signals.length) c.signals.length := rfl
  generalize itP c l0 (i + 1) = l2 at *
  generalize itP c l0 i = l1 at *
  simp
  refine (cloneI_o l1 (by omega)).lend 95 (by simp [hget]) (by simp) fun hb => ?_
  simp
  refine V.forI (σ := Unit) c.signals.length [3, 6, 7, 8, 12, 17, 95, 96, 97, 98, 99] (by simp; exact rfl) (fun k _ => [(100, aI k)]) (fun k _ => [(51, .seq h 3 1 ((gateT c l1 k).map rI))]) (fun _ _ => True) () trivial (by simp) ⟨by simp; exact rfl, by simp [gateT, hget, hdel]⟩ ?_ ?_
  · rintro k - hk -
    obtain ⟨x, hx⟩ : ∃ x, c.signals[k] = x := ⟨_, rfl⟩
    have hxo : c.signals[k]? = some x := by rw [List.getElem?_eq_getElem hk, hx]
    have hgl := gateT_len c l1 k
    have hga := gateT_a3 hf hil2 k
    have hon := (right_of_check (hf.on hxo).1).1
    rw [gateT_at hxo, hat]
    generalize gateT c l1 k = q at *
    have ct := three_fn (SizeOf.sizeOf x.on + 1) x.on (by omega) (hc.sigs x (List.mem_of_getElem? hxo)).on q (by omega) hga (by rw [hgl, hil, hl0]; exact hon)
    generalize thE x.on q = v at *
    have hlq : f + k < q.length := by omega
    have htn : ((f : Int) + k).toNat = f + k := by omega
    obtain ⟨q0, hqv⟩ : ∃ q0, q[f + k] = q0 := ⟨_, rfl⟩
    have hqx : q[f + k]? = some q0 := by rw [List.getElem?_eq_getElem hlq, hqv]
    by_cases hkd : x.kind = 0
    · simp [hk, hx, hkd]
      intro b19
      refine V.drawX (fun q => if q = 118 then some (.ro (aI v)) else none) (by kernel_rfl) (by kernel_rfl) (by simp) ?_
      simp [mcA, hk, hx, hf0, htn, hqx, hlq, rI]
      exact ⟨by omega, ct.lend (by simp [hget]) (by simp) ⟨rfl, rfl⟩, by omega, by kernel_rfl, by omega, by simp [hkd, rI]⟩
    · simp [hk, hx, hkd]
      omega
  · rintro - -
    have hgl := gateT_len c l1 c.signals.length
    have hga := gateT_a3 hf hil2 c.signals.length
    generalize gateT c l1 c.signals.length = q at *
    simp
    refine (cloneI_o q (by omega)).lend 50 (by simp [hget]) (by simp) fun hn => ?_
    simp
    refine V.forI (σ := Unit) c.signals.length [3, 6, 7, 8, 12, 17, 18, 19, 20, 95, 96, 97, 98, 99, 100, 101, 102, 103, 104, 105, 106, 107, 108, 109, 110, 111, 112, 113, 114, 115, 116, 117, 118, 119, 120, 121, 122, 123, 124, 125] (by simp; exact rfl) (fun k _ => [(126, aI k)]) (fun k _ => [(50, .seq hn 3 1 ((nextT c q k).map rI))]) (fun _ _ => True) () trivial (by simp) ⟨by simp; exact rfl, by simp [nextT, hget, hdel]⟩ ?_ ?_
    · rintro k - hk -
      obtain ⟨x, hx⟩ : ∃ x, c.signals[k] = x := ⟨_, rfl⟩
      have hxo : c.signals[k]? = some x := by rw [List.getElem?_eq_getElem hk, hx]
      have hnl := nextT_len c q k
      have hon := hf.on hxo
      have r1 := (right_of_check hon.1).1
      have hlq : f + k < q.length := by omega
      have htn : ((f : Int) + k).toNat = f + k := by omega
      obtain ⟨q0, hqv⟩ : ∃ q0, q[f + k] = q0 := ⟨_, rfl⟩
      have hqx : q[f + k]? = some q0 := by rw [List.getElem?_eq_getElem hlq, hqv]
      have hgd : q.getD (f + k) 0 = q0 := by rw [List.getD_eq_getElem?_getD, hqx]; rfl
      rw [nextT_at hxo, hat, hgd]
      generalize nextT c q k = z at *
      have hlz : f + k < z.length := by omega
      obtain ⟨z0, hzv⟩ : ∃ z0, z[f + k] = z0 := ⟨_, rfl⟩
      have hzx : z[f + k]? = some z0 := by rw [List.getElem?_eq_getElem hlz, hzv]
      by_cases hkd : x.kind = 0
      · simp [mcA, hk, hx, hkd, hf0]
        omega
      · have cm := might_fn x q0 q (hc.sigs x (List.mem_of_getElem? hxo)) (by omega) (by omega) hga (by rw [hgl, hil, hl0]; exact r1) (fun h1 => by rw [hgl, hil, hl0]; exact (right_of_check (off_ok hf hxo h1)).1)
        generalize mightP x q0 q = mv at *
        have jn := join_fn q0 [mv] (by simp)
        generalize joinL [q0, mv] = jv at *
        simp [mcA, hk, hx, hkd, hf0]
        intro b22
        refine ⟨by omega, ?_⟩
        refine V.drawX (fun q => if q = 152 then some (.ro (aI mv)) else if q = 154 then some (.fn (aI jv)) else none) (by kernel_rfl) (by kernel_rfl) (by simp) ?_
        simp [hk, hx, hlq, htn, hqx, hqv, hzx, hlz, rI]
        exact ⟨by omega, cm.lend (by simp [hget, encSt]) (by simp) ⟨rfl, rfl⟩, jn, by omega, by kernel_rfl, by omega, by simp [hkd, rI], hf0.symm⟩
    · rintro - -
      rw [← hnx]
      by_cases hr : l2 = l1
      · have h2 := hfin hr
        have hb2 : decide (l1 = l2) = true := by simp [hr]
        rw [hb2] at heq
        simp
        refine heq.lend (by simp [hget]) (by simp) ?_
        simp
        have h3 : l2 = finalP c l0 := hr.trans h2
        exact hQ _ _ hn (by simp) (by simp) (by simp [h3])
      · have hb2 : decide (l1 = l2) = false := by simp; exact fun e => hr e.symm
        rw [hb2] at heq
        simp
        refine heq.lend (by simp [hget]) (by simp) ?_
        simp [hr]

end Go.Proofs.YtbhdiijibgdlnaaGreat
end

/- Contracts: settle.Unknown. -/
section
namespace Go.Proofs.YtbhdiijibgdlnaaGreat
set_option maxHeartbeats 4000000
set_option maxRecDepth 10000

theorem Unknown_fn (c : Control) (s : State) (ks : List Int) (hc : OkC c) (hs : SmS s) (hk : ks.length ≤ 1000) :
    CallFn Tryz.prog 32 [aC c, aSt s, aIs ks] (.tuple [aIs (unknownR c s ks).1, aI (unknownR c s ks).2]) := by
  refine callFz_of Tryz.func32 rfl Tryz.ntmps32 (rs := [.tmp 6, .tmp 7]) rfl (by kernel_rfl) (by simp) (by kernel_rfl) ?_
  simp
  refine (of_s c s hc hs).mono ?_
  rintro r H' ⟨k1, k2⟩
  unfold unknownR
  by_cases hz : rightC c s = 0
  · obtain ⟨z1, z2, z3⟩ := right_zero hz
    obtain ⟨bm, g, rfl, rfl⟩ := k1 hz
    clear k1 k2
    have hf := fine_of z1
    have hact := hf.act
    have hin := hf.inp
    have hsg := hf.sig
    have hcn : countC c = 2 * c.actuators + c.inputs.length + c.signals.length := rfl
    have hL := valuesOf_length z2
    by_cases h16 : 16 < ks.length
    · have h16' : (16 : Int) < ks.length := by omega
      simp [hz, h16, h16', mcH]
    · have h16' : ¬ (16 : Int) < ks.length := by omega
      have hall := inputsE_all (n := c.inputs.length) (ks := ks) (p := -1)
      simp only [hz, h16, ne_eq, not_true, if_false]
      obtain ⟨R, hR⟩ : ∃ R, inputsE c.inputs.length (-1) ks = R := ⟨_, rfl⟩
      rw [hR] at hall ⊢
      have h0 : R = inputsE c.inputs.length (prevK ks 0) (ks.drop 0) := by rw [← hR]; rfl
      simp [h16', mcH]
      refine V.forI (σ := Unit) ks.length [2, 3, 8, 36, 37] (by simp; exact rfl) (fun i _ => [(6, .nils), (7, aI 0), (38, aI i)]) (fun _ _ => []) (fun i _ => R = inputsE c.inputs.length (prevK ks i) (ks.drop i)) () h0 (by simp) ⟨by simp; exact rfl, by simp [hget, hdel]⟩ ?_ ?_
      · rintro i - hi hI
        obtain ⟨y, hy⟩ : ∃ y, ks[i] = y := ⟨_, rfl⟩
        have hyo : ks[i]? = some y := by rw [List.getElem?_eq_getElem hi, hy]
        rw [inputsE_step hyo] at hI
        by_cases h1 : y < 0
        · rw [if_pos (.inl h1)] at hI
          simp [hi, hy, h1, hI]
        · by_cases h2 : (c.inputs.length : Int) ≤ y
          · rw [if_pos (.inr h2)] at hI
            simp [hi, hy, h1, h2, hI]
          · rw [if_neg (by omega)] at hI
            cases i with
            | zero =>
              rw [if_neg (by simp [prevK]; omega)] at hI
              simp [hi, hyo, hy, h1, h2]
              simpa using hI
            | succ j =>
              have hj : j < ks.length := by omega
              have hji : (j : Int) + 1 < ks.length := by omega
              obtain ⟨w, hw⟩ : ∃ w, ks[j] = w := ⟨_, rfl⟩
              have hwo : ks[j]? = some w := by rw [List.getElem?_eq_getElem hj, hw]
              have hpk : prevK ks (j + 1) = w := by
                unfold prevK
                rw [if_neg (by omega), Nat.add_sub_cancel, List.getD_eq_getElem?_getD, hwo]
                rfl
              rw [hpk] at hI
              have hj1 : ((j + 1 : Nat) : Int) - 1 = j := by omega
              by_cases h3 : y ≤ w
              · rw [if_pos h3] at hI
                simp [hi, hj, hy, hw, hj1, h1, h2, h3, hI, hji]
                omega
              · rw [if_neg h3] at hI
                simp [hi, hj, hy, hw, hj1, h1, h2, h3, hji]
                exact ⟨by omega, by omega, by omega, hI⟩
      · rintro - hI
        rw [List.drop_length] at hI
        simp only [inputsE] at hI
        subst hI
        have hks := hall rfl
        simp
        refine lines_s (bm := bm) (c := c) (g := g) (s := s) hs 71 ⟨[], by simp [mcH]⟩ fun h7 => ?_
        have hsta : startU c s ks = setU c (numL (valuesOf s)) ks := rfl
        obtain ⟨vs, hvs⟩ : ∃ vs, valuesOf s = vs := ⟨_, rfl⟩
        rw [hvs] at hL hsta ⊢
        simp
        refine V.forI (σ := Value) vs.length [2, 3, 6, 7, 8, 67, 68] (by simp; exact rfl) (fun i h => [(69, aI i), (12, .own 50 h)]) (fun i h => [(50, .seq h 3 1 ((numL (vs.take i)).map rI))]) (fun _ _ => True) (.slice none 0 0) trivial (by simp) ⟨by simp; exact rfl, by simp [numL]⟩ ?_ ?_
        · rintro i h hi -
          obtain ⟨y, hy⟩ : ∃ y, vs[i] = y := ⟨_, rfl⟩
          have hyo : vs[i]? = some y := by rw [List.getElem?_eq_getElem hi, hy]
          have hnl := numL_len (vs.take i)
          rw [List.length_take] at hnl
          rw [numL_take hyo]
          generalize numL (vs.take i) = zs at *
          cases y
          · simp [hi, hyo, hy, rI, rB]
            omega
          · simp [hi, hyo, hy, rI, rB]
            omega
        · rintro h -
          rw [List.take_length]
          have hnl := numL_len vs
          have hna := numL_a3 vs
          generalize numL vs = zs at *
          simp
          refine V.forI (σ := Unit) ks.length [3, 6, 7, 8, 12, 81, 82] (by simp; exact rfl) (fun i _ => [(83, aI i)]) (fun i _ => [(50, .seq h 3 1 ((setU c zs (ks.take i)).map rI))]) (fun _ _ => True) () trivial (by simp) ⟨by simp; exact rfl, by simp [setU]⟩ ?_ ?_
          · rintro i - hi -
            obtain ⟨y, hy⟩ : ∃ y, ks[i] = y := ⟨_, rfl⟩
            have hyo : ks[i]? = some y := by rw [List.getElem?_eq_getElem hi, hy]
            have hy2 := hks y (List.mem_of_getElem? hyo)
            have hsl := setU_len c (ks.take i) zs
            rw [setU_take hyo]
            generalize setU c zs (ks.take i) = q at *
            obtain ⟨f, hfe⟩ : ∃ f : Nat, 2 * c.actuators + y = f := ⟨(2 * c.actuators + y).toNat, by omega⟩
            have hfq : f < q.length := by omega
            rw [hfe]
            have hqx : q[f]? = some q[f] := List.getElem?_eq_getElem hfq
            simp [hi, hy, hfe, hqx, rI]
            omega
          · rintro - -
            rw [List.take_length]
            have hsl := setU_len c ks zs
            have hsa := setU_a3 c ks zs hna
            rw [hsta]
            generalize setU c zs ks = l0 at *
            have hl0 : (l0.length : Int) = countC c := by omega
            subst hvs
            simp
            refine V.forI (σ := Value) (c.signals.length + 3) [3, 8] (by simp; exact rfl) (fun i h => [(6, .nils), (7, aI 0), (12, .own (50 + i % 2) h)]) (fun i h => [(50 + i % 2, .seq h 3 1 ((itP c l0 i).map rI))]) (fun i _ => ∀ j < i, itP c l0 (j + 1) ≠ itP c l0 j) h (by simp) (by simp) ⟨by simp; exact rfl, by simp [itP, hget, hdel]⟩ ?_ ?_
            · rintro i h hi hI
              rcases Nat.mod_two_eq_zero_or_one i with hp | hp
              · have hp1 : (i + 1) % 2 = 1 := by omega
                simp only [hp, hp1, Nat.add_zero, Nat.reduceAdd]
                refine vcC_mono _ ?_ (vc_of_part rfl (unk_r0 (Q := blockQ 7 (RetV Tryz.prog [.tmp 6, .tmp 7] fun r' H' => (frz H' r').1 ∧ (frz H' r').2 = .tuple [aIs (if ¬(0 : Int) = 0 then ([], 0) else (finalP c l0, (0 : Int))).1, aI (if ¬(0 : Int) = 0 then ([], 0) else (finalP c l0, (0 : Int))).2])) hc hf hl0 hsa (by omega) ?_))
                · intro e E' H' hq
                  cases e with
                  | normal =>
                    obtain ⟨s', h1, h2⟩ := hq
                    refine ⟨s', fun j hj => ?_, h2⟩
                    rcases Nat.lt_or_ge j i with h3 | h3
                    · exact hI j h3
                    · obtain rfl : j = i := by omega
                      exact h1
                  | _ => exact hq
                · intro E' H' hh h6 h7 hg
                  simp [h6, h7, hg]
              · have hp1 : (i + 1) % 2 = 0 := by omega
                simp only [hp, hp1, Nat.add_zero, Nat.reduceAdd]
                refine vcC_mono _ ?_ (vc_of_part rfl (unk_r1 (Q := blockQ 7 (RetV Tryz.prog [.tmp 6, .tmp 7] fun r' H' => (frz H' r').1 ∧ (frz H' r').2 = .tuple [aIs (if ¬(0 : Int) = 0 then ([], 0) else (finalP c l0, (0 : Int))).1, aI (if ¬(0 : Int) = 0 then ([], 0) else (finalP c l0, (0 : Int))).2])) hc hf hl0 hsa (by omega) ?_))
                · intro e E' H' hq
                  cases e with
                  | normal =>
                    obtain ⟨s', h1, h2⟩ := hq
                    refine ⟨s', fun j hj => ?_, h2⟩
                    rcases Nat.lt_or_ge j i with h3 | h3
                    · exact hI j h3
                    · obtain rfl : j = i := by omega
                      exact h1
                  | _ => exact hq
                · intro E' H' hh h6 h7 hg
                  simp [h6, h7, hg]
            · rintro h hI
              exact absurd (it_rest hf hl0) (hI (c.signals.length + 1) (by omega))
  · obtain ⟨rfl, rfl⟩ := k2 hz
    simp [hz]

end Go.Proofs.YtbhdiijibgdlnaaGreat
end

/- Contracts: law 28: Lamp, awake, Few, right. -/
section
namespace Go.Proofs.YtbhdiijibgdlnaaGreat
set_option maxHeartbeats 4000000
set_option maxRecDepth 10000

theorem line28_fn (n : Int) : CallFn Tryz.prog 107 [aI n] (aE (onX n)) := by
  refine callFz_of Tryz.func107 rfl Tryz.ntmps107 (rs := [.cell 2 54]) rfl (by kernel_rfl) (by simp) (by kernel_rfl) ?_
  simp
  exact ⟨rfl, rfl, rfl⟩
def notX (a : Int) : Expr := ⟨2, 0, [onX a]⟩
def lampC : Control := ⟨1, [[115, 116, 97, 114, 116], [115, 116, 111, 112]], [⟨[103, 111], 1, onX 2, onX 3, 0, false⟩, ⟨[108, 97, 109, 112], 0, notX 4, noX, 0, false⟩], [4], [5]⟩
def lampS (a b : Bool) : State := ⟨[0], [false], [a, b], [false, true], [0, 0]⟩
theorem notX_ok (a : Int) (ha : I64 a) : OkE (notX a) := OkE.mk _ (by simp [notX]) ((inR_i64 _).2 (by simp [notX])) ((inR_i64 _).2 (by simp [notX])) (by
  intro x hx
  simp only [notX, List.mem_cons, List.not_mem_nil, or_false] at hx
  rcases hx with rfl
  exact onX_ok a ha)
theorem lampC_ok : OkC lampC := ⟨by decide, by decide, by decide, by decide, by
  intro s hs
  simp only [lampC, List.mem_cons, List.not_mem_nil, or_false] at hs
  rcases hs with rfl | rfl
  · exact ⟨by decide, by decide, onX_ok 2 (by decide), onX_ok 3 (by decide), by decide⟩
  · exact ⟨by decide, by decide, notX_ok 4 (by decide), noX_ok, by decide⟩, by decide, by decide, by decide, by decide⟩
theorem lamp_check : checkC lampC = 0 := by decide +kernel
theorem lamp_first : firstSt lampC = lampS false false := by decide +kernel
theorem lampS_ok (a b : Bool) : SmS (lampS a b) := by constructor <;> simp [lampS]
theorem lamp_rounds : roundsR lampC (lampS true false) = (2, 0) := by decide +kernel
theorem lamp_c1 : courseP lampC 65 0 (lampS true false) [] = some (⟨[0], [false], [true, false], [true, false], [0, 0]⟩, [], 2) := by decide +kernel
theorem lamp_c2 : courseP lampC 65 0 (lampS true true) [] = some (⟨[0], [false], [true, true], [false, true], [0, 0]⟩, [4], 0) := by decide +kernel
theorem lamp_r1 : rightC lampC (lampS true false) = 0 := by decide +kernel
theorem lamp_r2 : rightC lampC (lampS true true) = 0 := by decide +kernel
theorem lamp_u1 : unknownR lampC (lampS false false) [0] = ([1, 0, 2, 0, 2, 2], 0) := by decide +kernel
theorem lamp_u2 : unknownR lampC (lampS false false) [1] = ([1, 0, 0, 2, 0, 1], 0) := by decide +kernel
theorem comp_44 : compI (sortI [4]) = [4] := by
  rw [uniq_met (M := 6) (p := fun k => k == 4) (by decide) (by decide)]
  decide +kernel
theorem comp_nil : compI (sortI []) = [] := by
  rw [uniq_met (M := 6) (p := fun _ => false) (by decide) (by decide)]
  decide +kernel
theorem lamp_s1 : settleR lampC (lampS true false) = (⟨[0], [false], [true, false], [true, false], [0, 0]⟩, [], 0) := by
  unfold settleR courseR
  rw [lamp_r1, lamp_c1]
  simp [comp_nil]
theorem lamp_s2 : settleR lampC (lampS true true) = (⟨[0], [false], [true, true], [false, true], [0, 0]⟩, [4], 0) := by
  unfold settleR courseR
  rw [lamp_r2, lamp_c2]
  simp [comp_44]

theorem lamp_enc : encC lampC = [.int .i64 1, .sl [[.str [115, 116, 97, 114, 116]], [.str [115, 116, 111, 112]]], .sl [[.str [103, 111], .int .i64 1, .int .i64 (onX 2).op, .int .i64 (onX 2).index, .sl ((onX 2).args.map encE), .int .i64 (onX 3).op, .int .i64 (onX 3).index, .sl ((onX 3).args.map encE), .int .i64 0, .bool false],
    [.str [108, 97, 109, 112], .int .i64 0, .int .i64 2, .int .i64 0, .sl [[.int .i64 (onX 4).op, .int .i64 (onX 4).index, .sl ((onX 4).args.map encE)]], .int .i64 0, .int .i64 0, .sl [], .int .i64 0, .bool false]], .sl [[.int .i64 4]], .sl [[.int .i64 5]]] := by
  simp [lampC, notX, noX, encE_eq]
theorem Lamp_fn (a b : Bool) : CallFn Tryz.prog 70 [aB a, aB b] (.tuple [aC lampC, aSt (lampS a b)]) := by
  have l2 := line28_fn 2
  have l3 := line28_fn 3
  have l4 := line28_fn 4
  have lb := beginR_fn lampC lampC_ok (fine_of lamp_check)
  rw [lamp_first] at lb
  refine callFz_of Tryz.func70 rfl Tryz.ntmps70 (rs := [.cell 4 26, .cell 5 46]) rfl (by kernel_rfl) (by simp) (by kernel_rfl) ?_
  simp
  intro b4 b5
  refine l2.s ?_
  simp
  refine l3.s ?_
  simp
  refine l4.s ?_
  simp
  intro b7
  unfold aC at lb
  rw [lamp_enc] at lb
  refine lb.s ?_
  simp
  intro b8
  refine V.drawX (fun _ => none) (by kernel_rfl) (by kernel_rfl) (by simp) ?_
  simp
  exact ⟨⟨rfl, rfl, by simp [lampC, notX, noX, encE_eq], rfl, rfl⟩, rfl, rfl, rfl, rfl, rfl⟩

theorem awake28_fn : CallFn Tryz.prog 28 [] (aB true) := by
  have q1 := Rounds_fn lampC (lampS true false) lampC_ok (lampS_ok _ _)
  rw [lamp_rounds] at q1
  have q2 := Settle_fn lampC (lampS true false) lampC_ok (lampS_ok _ _)
  rw [lamp_s1] at q2
  have q3 := Settle_fn lampC (lampS true true) lampC_ok (lampS_ok _ _)
  rw [lamp_s2] at q3
  have q4 := Unknown_fn lampC (lampS false false) [0] lampC_ok (lampS_ok _ _) (by decide)
  rw [lamp_u1] at q4
  have q5 := Unknown_fn lampC (lampS false false) [1] lampC_ok (lampS_ok _ _) (by decide)
  rw [lamp_u2] at q5
  have e1 := eqB_fn [true, false] [true, false] (by decide) (by decide)
  rw [decide_eq_true (rfl : [true, false] = [true, false])] at e1
  have e2 := eqI_fn [4] [4] (by decide) (by decide)
  rw [decide_eq_true (rfl : ([4] : List Int) = [4])] at e2
  have e3 := eqB_fn [false, true] [false, true] (by decide) (by decide)
  rw [decide_eq_true (rfl : [false, true] = [false, true])] at e3
  have e4 := eqI_fn [1, 0, 2, 0, 2, 2] [1, 0, 2, 0, 2, 2] (by decide) (by decide)
  rw [decide_eq_true (rfl : ([1, 0, 2, 0, 2, 2] : List Int) = [1, 0, 2, 0, 2, 2])] at e4
  have e5 := eqI_fn [1, 0, 0, 2, 0, 1] [1, 0, 0, 2, 0, 1] (by decide) (by decide)
  rw [decide_eq_true (rfl : ([1, 0, 0, 2, 0, 1] : List Int) = [1, 0, 0, 2, 0, 1])] at e5
  refine callFz_of Tryz.func28 rfl Tryz.ntmps28 (rs := [.tmp 0]) rfl (by kernel_rfl) (by simp) (by kernel_rfl) ?_
  simp
  refine (Lamp_fn true false).s ?_
  simp
  intro b1 b2
  refine q1.s ?_
  simp
  refine q2.s ?_
  simp
  intro b5
  refine GCall.fn (aB true) (fun h => ⟨trivial, e1⟩) ?_
  simp
  refine (Lamp_fn true true).s ?_
  simp
  refine q3.s ?_
  simp
  refine GCall.fn (aB true) (fun h => ⟨trivial, e2⟩) ?_
  simp
  refine GCall.fn (aB true) (fun h => ⟨trivial, e3⟩) ?_
  simp
  refine (Lamp_fn false false).s ?_
  simp
  refine q4.s ?_
  simp
  refine q5.s ?_
  simp
  refine GCall.fn (aB true) (fun h => ⟨trivial, e4⟩) ?_
  simp
  refine GCall.fn (aB true) (fun h => ⟨trivial, e5⟩) ?_
  simp

theorem Few28_fn (c : Control) (s : State) (hc : OkC c) (hs : OkSt s) : CallFn Tryz.prog 27 [aC c, aSt s] (aB (fewC c && fewS s)) := by
  refine callFz_of Tryz.func27 rfl Tryz.ntmps27 (rs := [.tmp 4]) rfl (by kernel_rfl) (by simp) (by kernel_rfl) ?_
  simp
  refine (Few_fn c hc).s ?_
  simp
  refine GCall.fn (aB (fewS s)) (fun h => ⟨by first | trivial | exact h, FewStates_fn s hs⟩) ?_
  simp
theorem right28_fn (c : Control) (s : State) (hc : OkC c) (hs : OkSt s) : CallFn Tryz.prog 34 [aC c, aSt s] (aB (rightB c s)) := by
  refine callFz_of Tryz.func34 rfl Tryz.ntmps34 (rs := [.tmp 4]) rfl (by kernel_rfl) (by simp) (by kernel_rfl) ?_
  simp
  refine (Few28_fn c s hc hs).s ?_
  simp
  refine GCall.fn (aI (rightC c s)) (fun h => ⟨by first | trivial | exact h, RightR_fn c s hc (few_c h.1).1 (few_c h.1).2 (few_sm h.2)⟩) ?_
  simp [rightB]

end Go.Proofs.YtbhdiijibgdlnaaGreat
end

/- Laws of chapter 28: Round, Rests, Rounds; Settle; Unknown. -/
section
namespace Go.Proofs.YtbhdiijibgdlnaaGreat
set_option maxHeartbeats 4000000
set_option maxRecDepth 10000

theorem noSt_sm : SmS noSt := ⟨by simp [noSt], by simp [noSt], by simp [noSt], by simp [noSt], by simp [noSt]⟩
theorem roundR_sm {c : Control} {s : State} (hs : SmS s) : SmS (roundR c s).1 ∧ (roundR c s).2.1.length ≤ 1000000 := by
  unfold roundR
  by_cases hz : rightC c s = 0
  · obtain ⟨z1, z2, z3⟩ := right_zero hz
    have hf := fine_of z1
    have := hf.sig
    have h2 := onceB_len c (gatesP c s) c.signals.length
    rw [if_neg (by simp [hz])]
    exact ⟨sm_of hf (round_shape z2), by show (onceB c (gatesP c s) c.signals.length).length ≤ _; omega⟩
  · rw [if_pos hz]
    exact ⟨noSt_sm, by simp⟩
theorem courseP_shape {c : Control} : ∀ (k : Nat) (n : Int) (s : State) (acc : List Int) {x : State} {bad : List Int} {m : Int}, shapeS c s → courseP c k n s acc = some (x, bad, m) → shapeS c x
  | 0, _, _, _, _, _, _, _, h => by cases h
  | k + 1, n, s, acc, x, bad, m, hs, h => by
    rw [courseP_step] at h
    split at h
    · cases h; exact hs
    · exact courseP_shape k _ _ _ (round_shape hs) h
theorem courseP_len {c : Control} (hf : Fine c) : ∀ (k : Nat) (n : Int) (s : State) (acc : List Int) {x : State} {bad : List Int} {m : Int}, courseP c k n s acc = some (x, bad, m) → bad.length ≤ acc.length + 64 * k
  | 0, _, _, _, _, _, _, h => by cases h
  | k + 1, n, s, acc, x, bad, m, h => by
    have h2 := onceB_len c (gatesP c s) c.signals.length
    have h3 : (roundB c s).length ≤ 64 := Nat.le_trans h2 hf.sig
    rw [courseP_step] at h
    split at h
    · cases h
      simp
      omega
    · have := courseP_len hf k _ _ _ h
      simp at this
      omega
theorem courseP_range {c : Control} (hf : Fine c) {s x : State} {bad : List Int} {m : Int} (h : courseP c 65 0 s [] = some (x, bad, m)) : ∀ z ∈ bad, 0 ≤ z ∧ z < countC c := by
  intro z hz
  have := hf.act
  rcases courseP_mem 65 0 s [] h z hz with h1 | h1
  · cases h1
  · unfold firstC at h1
    omega
/-- The lines that had a conflict, told one by one. -/
theorem course_met {c : Control} (hf : Fine c) {s x : State} {bad : List Int} {m : Int} (h : courseP c 65 0 s [] = some (x, bad, m)) : compI (sortI bad) = metB (countC c).toNat (fun k : Nat => decide ((k : Int) ∈ bad)) := by
  refine uniq_met (fun z hz => ?_) (fun k _ => decide_eq_true_iff)
  have := courseP_range hf h z hz
  omega
theorem sameSt_self (s : State) : sameSt s s = true := by rw [same_eq, decide_eq_true rfl]
theorem settleR_sm {c : Control} {s : State} (hs : SmS s) : SmS (settleR c s).1 ∧ (settleR c s).2.1.length ≤ 1000000 := by
  unfold settleR
  by_cases hz : rightC c s = 0
  · obtain ⟨z1, z2, z3⟩ := right_zero hz
    have hf := fine_of z1
    rw [if_neg (by simp [hz])]
    unfold courseR
    cases hR : courseP c 65 0 s [] with
    | none => exact ⟨noSt_sm, by simp⟩
    | some p =>
      obtain ⟨x, bad, n⟩ := p
      have h1 := courseP_shape 65 0 s [] z2 hR
      have h2 := courseP_len hf 65 0 s [] hR
      have h3 := metB_len (countC c).toNat (fun k : Nat => decide ((k : Int) ∈ bad))
      rw [← course_met hf hR] at h3
      have hcn : countC c = 2 * c.actuators + c.inputs.length + c.signals.length := rfl
      have := hf.act
      have := hf.inp
      have := hf.sig
      exact ⟨sm_of hf h1, by show (compI (sortI bad)).length ≤ _; omega⟩
  · rw [if_pos hz]
    exact ⟨noSt_sm, by simp⟩

theorem lawSettles_fn (c : Control) (s : State) (hc : OkC c) (hs : OkSt s) : CallFn Tryz.prog 5 [aC c, aSt s] (aB true) := by
  refine callFz_of Tryz.func5 rfl Tryz.ntmps5 (rs := [.tmp 4]) rfl (by kernel_rfl) (by simp) (by kernel_rfl) ?_
  simp
  refine (Few28_fn c s hc hs).s ?_
  by_cases hfw : (fewC c && fewS s) = true
  · obtain ⟨f1, f2⟩ := Bool.and_eq_true_iff.1 hfw
    have hsm := few_sm f2
    have hpm := few_c f1
    have c1 := Settle_fn c s hc hsm
    have c2 := SettleR_fn c s hc hpm.1 hpm.2 hsm
    obtain ⟨g1, g2⟩ := settleR_sm (c := c) hsm
    have c7 := SameStatesR_l _ _ g1 g1
    rw [sameSt_self] at c7
    have c8 := eqI_fn (settleR c s).2.1 (settleR c s).2.1 (by unfold Sh; omega) (by unfold Sh; omega)
    rw [decide_eq_true rfl] at c8
    generalize settleR c s = p at *
    obtain ⟨p1, p2, p3⟩ := p
    simp [hfw]
    refine c1.s ?_
    simp
    intro b5
    refine c2.s ?_
    simp
    intro b8
    refine c7.s ?_
    simp
    refine GCall.fn (aB true) (fun h => ⟨trivial, c8⟩) ?_
    simp
    refine GCall.fn (aB true) (fun h => ⟨trivial, awake28_fn⟩) ?_
    simp
  · simp [hfw]
    exact awake28_fn.s (by simp)

theorem finalP_len (c : Control) (l : List Int) : (finalP c l).length = l.length := itP_len c l _
theorem unknownR_len {c : Control} {s : State} {ks : List Int} (hs : SmS s) : (unknownR c s ks).1.length ≤ 1000000 := by
  unfold unknownR
  by_cases hz : rightC c s = 0
  · obtain ⟨z1, z2, z3⟩ := right_zero hz
    have hf := fine_of z1
    have h1 := hf.act
    have h2 := hf.inp
    have h3 := hf.sig
    have h4 := valuesOf_length z2
    have hcn : countC c = 2 * c.actuators + c.inputs.length + c.signals.length := rfl
    have h5 := setU_len c ks (numL (valuesOf s))
    have h6 := numL_len (valuesOf s)
    have h7 := finalP_len c (startU c s ks)
    unfold startU at h7
    simp only [hz, ne_eq, not_true, if_false]
    split
    · simp
    · split
      · simp
      · show (finalP c (setU c (numL (valuesOf s)) ks)).length ≤ _
        omega
  · rw [if_pos hz]
    simp
theorem lawUnknown_fn (c : Control) (s : State) (ks : List Int) (hc : OkC c) (hs : OkSt s) (hk : Sh ks) : CallFn Tryz.prog 6 [aC c, aSt s, aIs ks] (aB true) := by
  refine callFz_of Tryz.func6 rfl Tryz.ntmps6 (rs := [.tmp 6]) rfl (by kernel_rfl) (by simp) (by kernel_rfl) ?_
  simp
  refine (Few28_fn c s hc hs).s ?_
  by_cases hfw : (fewC c && fewS s) = true
  · by_cases hl : (100 : Int) < ks.length
    · simp [hfw, hl]
      exact awake28_fn.s (by simp)
    · obtain ⟨f1, f2⟩ := Bool.and_eq_true_iff.1 hfw
      have hsm := few_sm f2
      have hpm := few_c f1
      have c1 := Unknown_fn c s ks hc hsm (by omega)
      have c2 := UnknownR_fn c s ks hc hpm.1 hpm.2 hsm (by omega)
      have hul := unknownR_len (c := c) (ks := ks) hsm
      have c8 := eqI_fn (unknownR c s ks).1 (unknownR c s ks).1 (by unfold Sh; omega) (by unfold Sh; omega)
      rw [decide_eq_true rfl] at c8
      generalize unknownR c s ks = p at *
      obtain ⟨p1, p2⟩ := p
      simp [hfw, hl]
      refine c1.s ?_
      simp
      refine c2.s ?_
      simp
      refine c8.s ?_
      simp
      refine GCall.fn (aB true) (fun h => ⟨trivial, awake28_fn⟩) ?_
      simp
  · simp [hfw]
    exact awake28_fn.s (by simp)

end Go.Proofs.YtbhdiijibgdlnaaGreat
end
