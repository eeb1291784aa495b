/- Texts joined by a program: Sa, Sb, Sc, Ss, Ta, St, Ua, Ub, Uc, Ud, Sd, Se, Sf, Ue, Uf, Su, Sv, Sw, Ug. -/
import Derived.Test.YtakndgpdolfenaaGreatG2
import Derived.Test.YtakndgpdolfenaaGreatG3
import Derived.Test.YtakndgpdolfenaaGreatG1
import Derived.Test.YtakndgpdolfenaaGreatGZ
set_option linter.unusedSimpArgs false
set_option linter.unusedVariables false

/- Contracts: settle's machine. -/
section
namespace Go.Proofs.YtakndgpdolfenaaGreat
set_option maxHeartbeats 4000000
set_option maxRecDepth 10000

/-! ### Values of expressions -/
theorem idxE_fn (xs : List Expr) (p : Expr → Bool) (f : FuncId) (first caps : List A) (hx : Sh xs) (hp : ∀ x ∈ xs, CallFn Tryz.prog f (first ++ [aE x] ++ caps) (aB (p x))) :
    CallFn Tryz.prog 172 [.dat (.sl (xs.map encE)), .fn f first caps] (aI (idxI (xs.findIdx? p))) := by
  refine callFz_of Tryz.func172 rfl Tryz.ntmps172 (rs := [.tmp 4]) rfl (by kernel_rfl) (by simp) (by kernel_rfl) ?_
  simp
  refine V.forI (σ := Unit) xs.length [0, 1, 7] (by simp; exact rfl) (fun i _ => [(8, aI i)]) (fun _ _ => []) (fun i _ => NoF p (xs.take i)) () (by simp) (by simp) ⟨by simp; exact rfl, by simp⟩ ?_ ?_
  · rintro i - hi hI
    obtain ⟨y, hy⟩ : ∃ y, xs[i] = y := ⟨_, rfl⟩
    have h1 : xs[i]? = some y := by rw [List.getElem?_eq_getElem hi, hy]
    have hs := findIdx_step (p := p) hI h1
    have hc := hp y (List.mem_of_getElem? h1)
    simp at hc
    simp [hi, hy, encE_eq]
    refine hc.s ?_
    cases e : p y
    · simp
      exact ⟨by omega, hs.1 e⟩
    · rw [hs.2 e]
      simp
  · rintro - hI
    rw [findIdx_none hI]
    simp
theorem containsE_fn (xs : List Expr) (p : Expr → Bool) (f : FuncId) (first caps : List A) (hx : Sh xs) (hp : ∀ x ∈ xs, CallFn Tryz.prog f (first ++ [aE x] ++ caps) (aB (p x))) :
    CallFn Tryz.prog 139 [.dat (.sl (xs.map encE)), .fn f first caps] (aB (xs.any p)) := by
  refine callFz_of Tryz.func139 rfl Tryz.ntmps139 (rs := [.tmp 4]) rfl (by kernel_rfl) (by simp) (by kernel_rfl) ?_
  simp
  refine (idxE_fn xs p f first caps hx hp).s ?_
  simp
  rw [idxI_ge, List.findIdx?_isSome]

theorem value_fn : ∀ (N : Nat) (x : Expr), SizeOf.sizeOf x < N → OkE x → ∀ vs : List Bool, vs.length ≤ 256 → RightE vs.length x → CallFn Tryz.prog 115 [aE x, aBs vs] (aB (evalE x vs))
  | 0, _, h, _, _, _, _ => absurd h (Nat.not_lt_zero _)
  | N + 1, x, hN, hx, vs, hv, hr => by
    have ih : ∀ a ∈ x.args, CallFn Tryz.prog 115 [aE a, aBs vs] (aB (evalE a vs)) := fun a ha => value_fn N a (by have := Expr.lt_of_mem ha; omega) (hx.args a ha) vs hv (hr.args a ha)
    have v1 : ∀ a ∈ x.args, CallFn Tryz.prog 140 ([] ++ [aE a] ++ [.rptr [.sl (vs.map encB)]]) (aB (!evalE a vs)) := by
      intro a ha
      have c := ih a ha
      generalize evalE a vs = b at *
      refine callFz_of Tryz.func140 rfl Tryz.ntmps140 (rs := [.tmp 3]) rfl (by kernel_rfl) (by simp) (by kernel_rfl) ?_
      simp
      refine c.s ?_
      simp
    have v2 : ∀ a ∈ x.args, CallFn Tryz.prog 141 ([] ++ [aE a] ++ [.rptr [.sl (vs.map encB)]]) (aB (evalE a vs)) := by
      intro a ha
      have c := ih a ha
      generalize evalE a vs = b at *
      refine callFz_of Tryz.func141 rfl Tryz.ntmps141 (rs := [.tmp 3]) rfl (by kernel_rfl) (by simp) (by kernel_rfl) ?_
      simp
      refine c.s ?_
      simp
    have k1 := containsE_fn x.args (fun a => !evalE a vs) 140 [] [.rptr [.sl (vs.map encB)]] hx.len v1
    have k2 := containsE_fn x.args (fun a => evalE a vs) 141 [] [.rptr [.sl (vs.map encB)]] hx.len v2
    have hn := hr.node
    have hlen := hx.len
    have hop : 0 ≤ x.op ∧ x.op < 5 := by
      unfold nodeR at hn
      split at hn <;> omega
    obtain ho | ho | ho | ho | ho : x.op = 0 ∨ x.op = 1 ∨ x.op = 2 ∨ x.op = 3 ∨ x.op = 4 := by omega
    · refine callFz_of Tryz.func115 rfl Tryz.ntmps115 (rs := [.tmp 4]) rfl (by kernel_rfl) (by simp) (by kernel_rfl) ?_
      simp [ho, evalE_eq x]
    · have hix : 0 ≤ x.index ∧ x.index < vs.length := by
        simp [nodeR, ho] at hn
        omega
      obtain ⟨k, hk⟩ : ∃ k : Nat, x.index = k := ⟨x.index.toNat, by omega⟩
      rw [hk] at hix
      have hkl : k < vs.length := by omega
      refine callFz_of Tryz.func115 rfl Tryz.ntmps115 (rs := [.tmp 4]) rfl (by kernel_rfl) (by simp) (by kernel_rfl) ?_
      simp [ho, hk, hkl, evalE_eq x]
    · have hl : x.args.length = 1 := by
        simp [nodeR, ho] at hn
        split at hn
        · cases hn
        · omega
      obtain ⟨y, hy⟩ : ∃ y, x.args = [y] := List.length_eq_one_iff.1 hl
      have e : evalE x vs = !(evalE y vs) := by
        rw [evalE_eq, if_neg (by omega), if_neg (by omega), if_pos ho, hy]
        simp [evalL]
      have c := ih y (by simp [hy])
      rw [e]
      generalize evalE y vs = b at *
      refine callFz_of Tryz.func115 rfl Tryz.ntmps115 (rs := [.tmp 4]) rfl (by kernel_rfl) (by simp) (by kernel_rfl) ?_
      simp [ho, hy]
      refine V.draw (fun t => if t = 26 then some (.fn (aB b)) else none) (by kernel_rfl) (by kernel_rfl) (by simp) ?_
      simp [ho, hy, encE_eq]
      exact c
    · have e : evalE x vs = !(x.args.any fun a => !evalE a vs) := by
        rw [evalE_eq, if_neg (by omega), if_neg (by omega), if_neg (by omega), if_pos ho, evalL_all, allT]
        exact List.all_eq_not_any_not
      rw [e]
      generalize (x.args.any fun a => !evalE a vs) = b at *
      refine callFz_of Tryz.func115 rfl Tryz.ntmps115 (rs := [.tmp 4]) rfl (by kernel_rfl) (by simp) (by kernel_rfl) ?_
      simp [ho]
      refine k1.s ?_
      simp
    · have e : evalE x vs = x.args.any fun a => evalE a vs := by
        rw [evalE_eq, if_neg (by omega), if_neg (by omega), if_neg (by omega), if_neg (by omega), evalL_any, anyT]
      rw [e]
      generalize (x.args.any fun a => evalE a vs) = b at *
      refine callFz_of Tryz.func115 rfl Tryz.ntmps115 (rs := [.tmp 4]) rfl (by kernel_rfl) (by simp) (by kernel_rfl) ?_
      simp [ho]
      refine k2.s ?_
      simp

/-! ### Rules -/
abbrev aCh (v : Bool) (t : Int) (b : Bool) : A := .record [.bool v, .int .i64 t, .bool b]
theorem rule0_fn (v : Bool) (t : Int) (b on off : Bool) : CallFn Tryz.prog 136 [aCh v t b, aB on, aB off] (aCh v t b) := by
  refine callFz_of Tryz.func136 rfl Tryz.ntmps136 (rs := [.cell 6 151]) rfl (by kernel_rfl) (by simp) (by kernel_rfl) ?_
  simp
theorem rule1_fn (v : Bool) (t : Int) (b on off : Bool) : CallFn Tryz.prog 137 [aCh v t b, aB on, aB off] (aCh (if on != off then on else v) t (on && off)) := by
  refine CallS.agg (az := []) ?_
  refine callFz_of Tryz.func137 rfl Tryz.ntmps137 (rs := [.cell 6 151]) rfl (by kernel_rfl) (by simp) (by kernel_rfl) ?_
  cases on <;> cases off <;> simp
theorem rule2_fn (v : Bool) (t : Int) (on off : Bool) : CallFn Tryz.prog 138 [aCh v t false, aB on, aB off] (aCh (if on = false then false else v) (if on = false then 0 else if t = 0 then 1 else t) false) := by
  refine CallS.agg (az := []) ?_
  refine callFz_of Tryz.func138 rfl Tryz.ntmps138 (rs := [.cell 6 151]) rfl (by kernel_rfl) (by simp) (by kernel_rfl) ?_
  cases on
  · simp
  · by_cases ht : t = 0 <;> simp [ht]
abbrev rulesA : List A := [.fn 136 [] [], .fn 137 [] [], .fn 138 [] []]
theorem rules_fn : CallFn Tryz.prog 114 [] (.agg rulesA) := by
  refine callFz_of Tryz.func114 rfl Tryz.ntmps114 (rs := [.cell 0 148]) rfl (by kernel_rfl) (by simp) (by kernel_rfl) ?_
  simp

/-! ### Slices of bools, one behind the other -/
theorem growB_o (n : Int) (h0 : 0 ≤ n) (h1 : n ≤ 4294967296) : CallOwn Tryz.prog 118 [.nils, aI n] 4 1 [] := by
  refine callO_of Tryz.func118 rfl Tryz.ntmps118 (rs := [.tmp 4]) rfl (by kernel_rfl) (by simp) (by kernel_rfl) ?_
  by_cases hn : 0 < n
  · simp [hn, Int.not_lt.2 h0]
    omega
  · have e : n = 0 := by omega
    subst e
    simp
def sumB (xss : List (List Bool)) : Nat := (xss.map List.length).sum
theorem concatB_o (xss : List (List Bool)) (h : sumB xss ≤ 4294967296) (h1 : xss.length ≤ 4294967296) : CallOwn Tryz.prog 91 [.dat (.sl (xss.map fun xs => [.sl (xs.map encB)]))] 4 1 (xss.flatten.map rB) := by
  refine callO_of Tryz.func91 rfl Tryz.ntmps91 (rs := [.tmp 2]) rfl (by kernel_rfl) (by simp) (by kernel_rfl) ?_
  have hle : ∀ i, (xss.take i).flatten.length ≤ sumB xss := by
    intro i
    have e : xss = xss.take i ++ xss.drop i := (List.take_append_drop i xss).symm
    have : sumB xss = sumB (xss.take i) + sumB (xss.drop i) := by
      unfold sumB
      conv => lhs; rw [e]
      rw [List.map_append, List.sum_append]
    rw [List.length_flatten]
    unfold sumB at this ⊢
    omega
  have hst : ∀ i y, xss[i]? = some y → (xss.take (i + 1)).flatten = (xss.take i).flatten ++ y := by
    intro i y hy
    rw [List.take_add_one, hy]
    simp
  obtain ⟨L, hL⟩ : ∃ L : Nat → Nat, ∀ i, L i = (xss.take i).flatten.length := ⟨_, fun _ => rfl⟩
  have hL0 : L 0 = 0 := by simp [hL]
  have hLs : ∀ i y, xss[i]? = some y → L (i + 1) = L i + y.length := by
    intro i y hy
    rw [hL, hL, hst i y hy, List.length_append]
  have hLm : ∀ i, L i ≤ sumB xss := fun i => by rw [hL]; exact hle i
  simp
  refine V.forI (σ := Unit) xss.length [0, 2, 9, 10] (by simp; exact rfl) (fun i _ => [(11, aI i), (3, aI (L i))]) (fun _ _ => []) (fun _ _ => True) () (by simp) (by simp [hL0]) ⟨by simp; exact rfl, by simp⟩ ?_ ?_
  · rintro i - hi -
    have hy := List.getElem?_eq_getElem hi
    have hs := hLs i _ hy
    have hl := hLm (i + 1)
    simp [hi, hs]
    omega
  · rintro - -
    have hl := hLm xss.length
    simp
    refine (growB_o _ (by omega) (by omega)).s 50 ?_
    intro hd
    simp
    refine V.forL (γ := Value) xss [2, 25, 26] (by simp; exact rfl) (fun i _ g => [(27, aI i), (6, .own 50 g)]) (fun i _ g => [(50, .seq g 4 1 ((xss.take i).flatten.map rB))]) (fun (_ : Unit) (_ : List Bool) => (Except.ok () : Except Unit Unit)) (fun _ _ => True) () hd trivial (by simp) ⟨by simp; exact rfl, by simp⟩ ?_ ?_
    · rintro i - g y hi hy - -
      have hy' : xss[i]? = some y := by rw [List.getElem?_eq_getElem hi, hy]
      have hs := hst i _ hy'
      have hl2 := hle (i + 1)
      rw [hs, List.length_append] at hl2
      rw [hs]
      generalize (xss.take i).flatten = zs at hl2
      simp [hi, hy]
      omega
    · rintro - g - -
      simp
/-! ### The machine -/
/-- The machine's cells, as data. -/
abbrev encM (c : Control) (s : State) : List L := encC c ++ (encSt s ++ [.int .i64 (firstC c)])
theorem lines_d (c : Control) (s : State) (h : SmS s) : CallOwn Tryz.prog 49 [.rptr (encM c s)] 4 1 ((valuesOf s).map rB) := by
  obtain ⟨h1, h2, h3, h4, h5⟩ := h
  refine callO_of Tryz.func49 rfl Tryz.ntmps49 (rs := [.tmp 2]) rfl (by kernel_rfl) (by simp) (by kernel_rfl) ?_
  simp
  refine V.forI (σ := Value) s.ends.length [0, 2, 10, 11] (by simp; exact rfl) (fun i g => [(12, aI i), (3, .own 50 g)]) (fun i g => [(50, .seq g 4 1 ((endsV (s.ends.take i)).map rB))]) (fun _ _ => True) (.slice none 0 0) trivial (by simp) ⟨by simp; exact rfl, by simp [endsV]⟩ ?_ ?_
  · rintro i g hi -
    obtain ⟨x, hx⟩ : ∃ x, s.ends[i] = x := ⟨_, rfl⟩
    have hs := endsV_take (show s.ends[i]? = some x by rw [List.getElem?_eq_getElem hi, hx])
    have hl := endsV_length (s.ends.take i)
    rw [List.length_take] at hl
    rw [hs]
    generalize endsV (s.ends.take i) = zs at hl ⊢
    simp [hi, hx]
    omega
  · rintro g -
    have hl := endsV_length s.ends
    rw [List.take_length]
    have hv : valuesOf s = endsV s.ends ++ s.inputs ++ s.values := rfl
    rw [hv]
    generalize endsV s.ends = zs at hl ⊢
    simp
    refine V.frz1 3 (τ := 50) (h := g) (e := 4) (sz := 1) (rows := zs.map rB) (by simp) (by simp [hget]) (by simp) ?_
    refine V.draw (fun t => if t = 36 then some (.own 4 1 ((zs ++ s.inputs ++ s.values).map rB)) else none) (by kernel_rfl) (by kernel_rfl) (by simp [hdel]) ?_
    have hcc := concatB_o [zs, s.inputs, s.values] (by simp [sumB]; omega) (by simp)
    simp at hcc
    simp [hdel]
    exact hcc

end Go.Proofs.YtakndgpdolfenaaGreat
end

/- Contracts: settle's machine, its methods. -/
section
namespace Go.Proofs.YtakndgpdolfenaaGreat
set_option maxHeartbeats 4000000
set_option maxRecDepth 10000

/-- The machine of one's own. -/
abbrev mcA (c : Control) (g : Nat → Value) : List A := [.dat (.int .i64 c.actuators), .dat (.sl (c.inputs.map encT)), .dat (.sl (c.signals.map encS)), .dat (.sl (c.plus.map encI)), .dat (.sl (c.minus.map encI)), .own 60 (g 0), .own 61 (g 1), .own 62 (g 2), .own 63 (g 3), .own 64 (g 4), aI (firstC c)]
abbrev mcH (bm : Nat) (c : Control) (g : Nat → Value) (s : State) : Heap := [(70, .box bm (mcA c g)), (60, .seq (g 0) 3 1 (s.ends.map rI)), (61, .seq (g 1) 4 1 (s.valves.map rB)), (62, .seq (g 2) 4 1 (s.inputs.map rB)), (63, .seq (g 3) 4 1 (s.values.map rB)), (64, .seq (g 4) 3 1 (s.timers.map rI))]

theorem lines_s {bm : Nat} {c : Control} {g : Nat → Value} {s : State} (hs : SmS s) (τ : Nat) {H : Heap} {K : A → Heap → Prop} (hH : ∃ R, H = mcH bm c g s ++ R) (hk : ∀ hd, K (.own τ hd) ((τ, .seq hd 4 1 ((valuesOf s).map rB)) :: H)) :
    CallS Tryz.prog 49 [.ptr 70 bm 0] H K := by
  obtain ⟨R, rfl⟩ := hH
  refine (lines_d c s hs).lendP τ (cs := mcA c g) ?_ ?_ ?_ ?_ hk
  · simp [hget]
  · simp [hget, encC, encSt]
  · simp
  · intro h; simp

theorem copied_st (s : State) (h : SmS s) : CallSt 90 [aSt s] s := by
  obtain ⟨h1, h2, h3, h4, h5⟩ := h
  refine CallSt.of (callS_of Tryz.func90 rfl Tryz.ntmps90 (rs := [.cell 2 29]) rfl (by kernel_rfl) (by simp) (by kernel_rfl) ?_)
  simp
  intro b2
  refine V.draw (fun t => if t = 5 then some (.own 3 1 (s.ends.map rI)) else if t = 8 then some (.own 4 1 (s.valves.map rB)) else if t = 11 then some (.own 4 1 (s.inputs.map rB)) else if t = 14 then some (.own 4 1 (s.values.map rB)) else if t = 17 then some (.own 3 1 (s.timers.map rI)) else none) (by kernel_rfl) (by kernel_rfl) (by simp) ?_
  simp
  intro u0
  refine ⟨cloneI_o s.ends (by omega), fun u1 => ⟨cloneB_o s.valves (by omega), fun u2 => ⟨cloneB_o s.inputs (by omega), fun u3 => ⟨cloneB_o s.values (by omega), fun u4 => ⟨cloneI_o s.timers (by omega), ?_⟩⟩⟩⟩⟩
  simp [stAt, hget, hdel]
theorem CallSt.sts {g : FuncId} {az : List A} {s : State} (h : CallSt g az s) : CallSts Tryz.prog g az [(3, 1, s.ends.map rI), (4, 1, s.valves.map rB), (4, 1, s.inputs.map rB), (4, 1, s.values.map rB), (3, 1, s.timers.map rI)] := by
  refine CallS.mono h ?_
  rintro r H' ⟨hh, rfl, rfl⟩
  exact ⟨.agg #[hh 0, hh 1, hh 2, hh 3, hh 4], rfl, rfl⟩

theorem of_s (c : Control) (s : State) (hc : OkC c) (hs : SmS s) : CallS Tryz.prog 48 [aC c, aSt s] [] fun r H' => (rightC c s = 0 → ∃ bm g, r = .tuple [.ptr 70 bm 0, aI 0] ∧ H' = mcH bm c g s) ∧ (rightC c s ≠ 0 → r = .tuple [.nilp, aI (rightC c s)] ∧ H' = []) := by
  have h : CallS Tryz.prog 48 [aC c, aSt s] [] fun r H' => (rightC c s = 0 → ∃ bm u, r = .tuple [.ptr 24 bm 0, aI 0] ∧ subP ((24, .box bm ([.dat (.int .i64 c.actuators), .dat (.sl (c.inputs.map encT)), .dat (.sl (c.signals.map encS)), .dat (.sl (c.plus.map encI)), .dat (.sl (c.minus.map encI)), .own 100150 (uf u 0), .own 100151 (uf u 1), .own 100152 (uf u 2), .own 100153 (uf u 3), .own 100154 (uf u 4), aI (firstC c)])) :: spreadL 100150 0 (hdrsL u 0 [(3, 1, s.ends.map rI), (4, 1, s.valves.map rB), (4, 1, s.inputs.map rB), (4, 1, s.values.map rB), (3, 1, s.timers.map rI)])) H') ∧ (rightC c s ≠ 0 → r = .tuple [.nilp, aI (rightC c s)]) := by
    refine callS_of Tryz.func48 rfl Tryz.ntmps48 (rs := [.tmp 4, .tmp 5]) rfl (by kernel_rfl) (by simp) (by kernel_rfl) ?_
    simp
    refine (Right_fn c s hc hs).s ?_
    simp
    by_cases hz : rightC c s = 0
    · obtain ⟨z1, z2, z3⟩ := right_zero hz
      have hf := fine_of z1
      have ha := hf.act
      have hin := hf.inp
      have hsg := hf.sig
      simp [hz]
      refine V.drawS (fun t => if t = 15 then some (.sts [(3, 1, s.ends.map rI), (4, 1, s.valves.map rB), (4, 1, s.inputs.map rB), (4, 1, s.values.map rB), (3, 1, s.timers.map rI)]) else none) (by kernel_rfl) (by kernel_rfl) (by simp) ?_
      simp
      exact fun u => ⟨(copied_st s hs).sts, by omega, by omega, fun b => ⟨fun _ => ⟨u, subP.refl _⟩, hz⟩⟩
    · simp [hz]
  have h2 := CallS.dropP (K' := fun r H' => (rightC c s = 0 → ∃ bm u, r = .tuple [.ptr 24 bm 0, aI 0] ∧ H' = (24, Ent.box bm ([.dat (.int .i64 c.actuators), .dat (.sl (c.inputs.map encT)), .dat (.sl (c.signals.map encS)), .dat (.sl (c.plus.map encI)), .dat (.sl (c.minus.map encI)), .own 100150 (uf u 0), .own 100151 (uf u 1), .own 100152 (uf u 2), .own 100153 (uf u 3), .own 100154 (uf u 4), aI (firstC c)])) :: spreadL 100150 0 (hdrsL u 0 [(3, 1, s.ends.map rI), (4, 1, s.valves.map rB), (4, 1, s.inputs.map rB), (4, 1, s.values.map rB), (3, 1, s.timers.map rI)])) ∧ (rightC c s ≠ 0 → r = .tuple [.nilp, aI (rightC c s)] ∧ H' = [])) h (by
    rintro r H' ⟨k1, k2⟩
    by_cases hz : rightC c s = 0
    · obtain ⟨bm, u, e1, e2⟩ := k1 hz
      exact ⟨_, e2, fun _ => ⟨bm, u, e1, rfl⟩, fun h => absurd hz h⟩
    · exact ⟨[], ⟨[], List.nil_sublist _, List.Perm.refl _⟩, fun h => absurd h hz, fun _ => ⟨k2 hz, rfl⟩⟩)
  refine ⟨h2.1, fun x args H0 hi hd => (h2.2 x args H0 hi hd).mono ?_⟩
  rintro _ _ ⟨y, v, r, H', rfl, rfl, hle, hi', hv, k1, k2⟩
  by_cases hz : rightC c s = 0
  · obtain ⟨bm, u, rfl, rfl⟩ := k1 hz
    refine ⟨y, v, .tuple [.ptr 70 bm 0, aI 0], mcH bm c (uf u) s, rfl, rfl, hle, ?_, ?_, fun _ => ⟨bm, uf u, rfl, rfl⟩, fun h => absurd hz h⟩
    · have h3 := hi'.same (e' := .box bm (mcA c (uf u))) (fun _ h => h) (by
        rintro ⟨cs, ty, q1, q2⟩
        refine ⟨cs, ty, q1, ?_⟩
        generalize cs.toList = l at q2
        rcases l with _ | ⟨a0, _ | ⟨a1, _ | ⟨a2, _ | ⟨a3, _ | ⟨a4, _ | ⟨a5, _ | ⟨a6, _ | ⟨a7, _ | ⟨a8, _ | ⟨a9, _ | ⟨a10, l⟩⟩⟩⟩⟩⟩⟩⟩⟩⟩⟩ <;> simp only [Ds, D] at q2 ⊢ <;> exact q2)
      exact h3.ents (by simp)
    · simp only [D] at hv ⊢
      obtain ⟨vs, e, hds⟩ := hv
      refine ⟨vs, e, ?_⟩
      generalize vs.toList = l at hds
      rcases l with _ | ⟨a0, _ | ⟨a1, l⟩⟩ <;> simp only [Ds, D] at hds ⊢ <;> exact hds
  · obtain ⟨rfl, rfl⟩ := k2 hz
    exact ⟨y, v, _, [], rfl, rfl, hle, hi', hv, fun h => absurd h hz, fun _ => ⟨rfl, rfl⟩⟩

/-! ### The gates of a machine -/
theorem mgates_s {bm : Nat} {c : Control} {g : Nat → Value} {s : State} (hc : OkC c) (hf : Fine c) (hsh : shapeS c s) : CallS Tryz.prog 113 [.ptr 70 bm 0] (mcH bm c g s) fun _ H' => H' = mcH bm c g (gatesP c s) := by
  have hsm := sm_of hf hsh
  have ha := hf.act
  have hin := hf.inp
  have hsg := hf.sig
  have hpl := preV_length hsh
  refine CallS.dropP (callS_of Tryz.func113 rfl Tryz.ntmps113 (rs := []) rfl (by kernel_rfl) (by simp) (by kernel_rfl) (K := fun _ H' => subP (mcH bm c g (gatesP c s)) H') ?_) (fun _ _ h => ⟨_, h, rfl⟩)
  simp [mcH]
  refine lines_s (bm := bm) (c := c) (g := g) (s := s) hsm 71 ⟨[], by simp⟩ fun h2 => ?_
  simp
  refine V.forI (σ := Unit) c.signals.length [0, 2, 12, 13] (by simp; exact rfl) (fun i _ => [(14, aI i)]) (fun i _ => [(63, .seq (g 3) 4 1 ((gvals c s i).map rB)), (71, .seq h2 4 1 ((preV s ++ gvals c s i).map rB))]) (fun _ _ => True) () trivial (by simp) ⟨by simp; exact rfl, by simp [gvals, hget, hdel, valuesOf_eq]⟩ ?_ ?_
  · rintro i - hi -
    obtain ⟨x, hx⟩ : ∃ x, c.signals[i] = x := ⟨_, rfl⟩
    have hxo : c.signals[i]? = some x := by rw [List.getElem?_eq_getElem hi, hx]
    have hgl := gvals_length c s i
    obtain ⟨hon, -⟩ := hf.on hxo
    obtain ⟨r1, r2, r3⟩ := right_of_check hon
    rw [gvals_at hxo]
    generalize gvals c s i = l at hgl ⊢
    have hil : i < l.length := by obtain ⟨_, _, _, h4, _⟩ := hsh; omega
    have hgi : l[i]? = some l[i] := List.getElem?_eq_getElem hil
    have hl' : ((preV s ++ l).length : Int) = countC c := by
      have := valuesOf_length (c := c) (s := { s with values := l }) ⟨hsh.1, hsh.2.1, hsh.2.2.1, hgl.trans hsh.2.2.2.1, hsh.2.2.2.2⟩
      exact this
    simp [hi, hx]
    intro b4
    by_cases hk : x.kind = 0
    · simp [hi, hx, hk]
      have ev := value_fn (SizeOf.sizeOf x.on + 1) x.on (by omega) (hc.sigs x (List.mem_of_getElem? hxo)).on (preV s ++ l) (by omega) (by rw [hl']; exact r1)
      refine ev.lend (by simp [hget, packA, encE_eq]) (by simp) ?_
      rw [valuesOf_with]
      generalize evalE x.on (preV s ++ l) = b
      simp
      have hpl2 : (preV s).length ≤ 10000000 := by unfold firstC at hpl; omega
      have ht : (((preV s).length : Int) + i).toNat = (preV s).length + i := by omega
      have hA : (List.map rB (preV s) ++ List.map rB l)[(preV s).length + i]? = some [A.dat (L.bool l[i])] := by
        rw [List.getElem?_append_right (by simp)]
        simp [hgi, rB, hil]
      have hS : ∀ r, (List.map rB (preV s) ++ List.map rB l).set ((preV s).length + i) r = List.map rB (preV s) ++ (List.map rB l).set i r := by
        intro r
        rw [List.set_append_right _ _ (by simp)]
        simp
      refine V.draw (fun _ => none) (by kernel_rfl) (by kernel_rfl) (by simp) ?_
      simp [mcA, ← hpl, hi, hx, hk, hgi, hil, rB, ht, hA, hS]
      omega
    · simp [hi, hx, hk]
      omega
  · rintro - -
    simp
    exact ⟨_, List.Sublist.cons_cons _ (List.Sublist.cons _ (List.Sublist.refl _)), (List.perm_middle (l₁ := [_, _, _, _]) (l₂ := [_]) (a := _)).symm⟩

end Go.Proofs.YtakndgpdolfenaaGreat
end

/- Contracts: a round of settle's machine. -/
section
namespace Go.Proofs.YtakndgpdolfenaaGreat
set_option maxHeartbeats 8000000
set_option maxRecDepth 10000

theorem set_mix {α : Type} {A B : List α} {i : Nat} {a : α} (ha : A[i]? = some a) (hl : A.length = B.length) : (A.take i ++ B.drop i).set i a = A.take (i + 1) ++ B.drop (i + 1) := by
  obtain ⟨h1, h2⟩ := List.getElem?_eq_some_iff.1 ha
  rw [List.set_append_right _ _ (by simp; omega), List.take_add_one, ha, List.append_assoc]
  congr 1
  rw [List.drop_eq_getElem_cons (by omega : i < B.length), List.length_take, Nat.min_eq_left (Nat.le_of_lt h1), Nat.sub_self]
  rfl
theorem mix_at {α : Type} {A B : List α} {i : Nat} (h : i ≤ A.length) : (A.take i ++ B.drop i)[i]? = B[i]? := by
  rw [List.getElem?_append_right (by simp; omega)]
  simp [Nat.min_eq_left h]
theorem newV_at {c : Control} {s : State} {i : Nat} (h : i < c.signals.length) : (newV c s)[i]? = some (sigStep c s (valuesOf s) i).1 := by simp [newV, h]
theorem newT_at {c : Control} {s : State} {i : Nat} (h : i < c.signals.length) : (newT c s)[i]? = some (sigStep c s (valuesOf s) i).2.1 := by simp [newT, h]
theorem newV_len (c : Control) (s : State) : (newV c s).length = c.signals.length := by simp [newV]
theorem newT_len (c : Control) (s : State) : (newT c s).length = c.signals.length := by simp [newT]
theorem sigStep_at {c : Control} {s : State} {L : List Bool} {i : Nat} {x : Signal} {v : Bool} {t : Int} (hx : c.signals[i]? = some x) (hv : s.values[i]? = some v) (ht : s.timers[i]? = some t) :
    sigStep c s L i = stepV x.kind v t (evalE x.on L) (x.kind == 1 && evalE x.off L) := by simp only [sigStep, hx, hv, ht]
theorem same_eq (a b : State) : sameSt a b = decide (a = b) := by
  cases a; cases b
  simp [sameSt, Bool.and_assoc]


theorem off_ok {c : Control} {i : Nat} {x : Signal} (hf : Fine c) (hxo : c.signals[i]? = some x) (hk : x.kind = 1) : checkE x.off (countC c) = 0 := by
  have h := hf.sigs i x hxo
  unfold signalE at h
  split at h
  · rename_i h1; exact absurd h h1
  · split at h
    · cases h
    · split at h
      · rename_i h1; exact absurd h h1
      · simp only [hk] at h
        simp [memE] at h
        by_cases h3 : checkE x.off (countC c) = 0
        · exact h3
        · simp [h3] at h

/-- What the round's loop keeps. -/
abbrev rkE (bm b4 b6 : Nat) (h5 : Value) (c : Control) : List (Nat × A) := [(0, .ptr 70 bm 0), (2, .dat (.bool false)), (3, .nils), (4, .ptr 4 b4 0), (5, .own 71 h5), (6, .ptr 6 b6 0), (25, .dat (.sl (c.signals.map encS))), (26, .dat (.int .i64 c.signals.length))]
abbrev rkH (bm b4 b6 : Nat) (g h4 : Nat → Value) (h5 : Value) (c : Control) (s G : State) : Heap := [(6, .box b6 rulesA), (71, .seq h5 4 1 ((valuesOf G).map rB)), (70, .box bm (mcA c g)), (60, .seq (g 0) 3 1 (G.ends.map rI)), (61, .seq (g 1) 4 1 (G.valves.map rB)), (62, .seq (g 2) 4 1 (G.inputs.map rB)), (4, .box b4 [.own 80 (h4 0), .own 81 (h4 1), .own 82 (h4 2), .own 83 (h4 3), .own 84 (h4 4)]), (80, .seq (h4 0) 3 1 (s.ends.map rI)), (81, .seq (h4 1) 4 1 (s.valves.map rB)), (82, .seq (h4 2) 4 1 (s.inputs.map rB)), (83, .seq (h4 3) 4 1 (s.values.map rB)), (84, .seq (h4 4) 3 1 (s.timers.map rI))]
abbrev rsE (i : Nat) (h7 : Value) : List (Nat × A) := [(27, aI i), (7, .own 72 h7)]
abbrev rsH (g : Nat → Value) (c : Control) (G : State) (i : Nat) (h7 : Value) : Heap := [(72, .seq h7 3 1 ((onceB c G i).map rI)), (63, .seq (g 3) 4 1 (((newV c G).take i ++ G.values.drop i).map rB)), (64, .seq (g 4) 3 1 (((newT c G).take i ++ G.timers.drop i).map rI))]

theorem round_b0 {n : Nat} {Q : PostQ} {bm b4 b6 : Nat} {g h4 : Nat → Value} {h5 h7 : Value} {c : Control} {s G : State} {i : Nat} {x : Signal} (hc : OkC c) (hf : Fine c) (hG : shapeS c G) (hxo : c.signals[i]? = some x) (hk : x.kind = 0) :
    vcC ⟨Tryz.prog, none, n⟩ (loopC Tryz.f86 0) (hdE (rkE bm b4 b6 h5 c) (rsE i h7)) (hcat (rsH g c G i h7) (rkH bm b4 b6 g h4 h5 c s G)) (LoopQ Q fun E' H' => ∃ s', True ∧ (∀ p ∈ rsE (i + 1) s', wk (E' p.1) p.2) ∧ (∀ p ∈ rkE bm b4 b6 h5 c, E' p.1 = p.2) ∧ subN (hcat (rsH g c G (i + 1) s') (rkH bm b4 b6 g h4 h5 c s G)) H') := by
  refine vc_part rfl ?_
  obtain ⟨hi, hx⟩ := List.getElem?_eq_some_iff.1 hxo
  have ha := hf.act
  have hin := hf.inp
  have hsg := hf.sig
  have hL := valuesOf_length hG
  obtain ⟨j1, j2, j3, j4, j5⟩ := hG
  have hox := hc.sigs x (List.mem_of_getElem? hxo)
  obtain ⟨v, hv⟩ : ∃ v, G.values[i]? = some v := ⟨_, List.getElem?_eq_getElem (by omega)⟩
  obtain ⟨t, ht⟩ : ∃ t, G.timers[i]? = some t := ⟨_, List.getElem?_eq_getElem (by omega)⟩
  have hon := hf.on hxo
  have r1 := (right_of_check hon.1).1
  have ron : CallFn Tryz.prog 115 [aE x.on, aBs (valuesOf G)] (aB (evalE x.on (valuesOf G))) := value_fn (SizeOf.sizeOf x.on + 1) x.on (by omega) hox.on (valuesOf G) (by have : countC c = 2 * c.actuators + c.inputs.length + c.signals.length := rfl; omega) (by rw [hL]; exact r1)
  have hst := sigStep_at (L := valuesOf G) hxo hv ht
  obtain ⟨nv, nt, cf, hst2, hrule⟩ : ∃ nv nt cf, stepV 0 v t (evalE x.on (valuesOf G)) false = (nv, nt, cf) ∧ CallFn Tryz.prog 136 [aCh v t false, aB (evalE x.on (valuesOf G)), aB false] (aCh nv nt cf) := ⟨v, t, false, rfl, rule0_fn v t false _ false⟩
  rw [hk] at hst
  have hst3 := hst.trans hst2
  have mV := set_mix (B := G.values) (newV_at (s := G) hi) (by rw [newV_len]; omega)
  have mT := set_mix (B := G.timers) (newT_at (s := G) hi) (by rw [newT_len]; omega)
  have aV : ((newV c G).take i ++ G.values.drop i)[i]? = some v := by rw [mix_at (by rw [newV_len]; omega)]; exact hv
  have aT : ((newT c G).take i ++ G.timers.drop i)[i]? = some t := by rw [mix_at (by rw [newT_len]; omega)]; exact ht
  have bl := onceB_len c G i
  have bs := onceB_succ c G i
  have lV : i < ((newV c G).take i ++ G.values.drop i).length := (List.getElem?_eq_some_iff.1 aV).1
  have lT : i < ((newT c G).take i ++ G.timers.drop i).length := (List.getElem?_eq_some_iff.1 aT).1
  unfold rsH
  rw [bs, ← mV, ← mT, hst3]
  clear mV mT hst hst2 hst3 bs
  have hfc : 0 ≤ firstC c ∧ firstC c ≤ 100 := by unfold firstC; omega
  generalize (newV c G).take i ++ G.values.drop i = V1 at *
  generalize (newT c G).take i ++ G.timers.drop i = T1 at *
  generalize onceB c G i = B1 at *
  generalize evalE x.on (valuesOf G) = bon at *
  have aV2 := (List.getElem?_eq_some_iff.1 aV).2
  have aT2 := (List.getElem?_eq_some_iff.1 aT).2
  simp [hi, hx]
  intro b9
  refine V.drawX (fun q => if q = 56 then some (.ro (aB bon)) else if q = 64 then some (.ro (aB false)) else if q = 66 then some (.fn (aCh nv nt cf)) else none) (by kernel_rfl) (by kernel_rfl) (by simp) ?_
  simp [hk, hi, hx, aV, aT, lV, lT, rB, rI, aV2, aT2]
  refine ⟨ron.lend (by simp [hget]) (by simp) ⟨rfl, rfl⟩, hrule, fun b10 => ⟨by kernel_rfl, ?_⟩⟩
  refine V.drawX (fun _ => none) (by kernel_rfl) (by kernel_rfl) (by simp) ?_
  simp [hk, hi, hx, aV, aT, lV, lT, rB, rI, aV2, aT2]
  refine ⟨by kernel_rfl, ?_⟩
  cases cf
  · simp
    omega
  · simp [rI]
    omega

theorem round_b1 {n : Nat} {Q : PostQ} {bm b4 b6 : Nat} {g h4 : Nat → Value} {h5 h7 : Value} {c : Control} {s G : State} {i : Nat} {x : Signal} (hc : OkC c) (hf : Fine c) (hG : shapeS c G) (hxo : c.signals[i]? = some x) (hk : x.kind = 1) :
    vcC ⟨Tryz.prog, none, n⟩ (loopC Tryz.f86 0) (hdE (rkE bm b4 b6 h5 c) (rsE i h7)) (hcat (rsH g c G i h7) (rkH bm b4 b6 g h4 h5 c s G)) (LoopQ Q fun E' H' => ∃ s', True ∧ (∀ p ∈ rsE (i + 1) s', wk (E' p.1) p.2) ∧ (∀ p ∈ rkE bm b4 b6 h5 c, E' p.1 = p.2) ∧ subN (hcat (rsH g c G (i + 1) s') (rkH bm b4 b6 g h4 h5 c s G)) H') := by
  refine vc_part rfl ?_
  obtain ⟨hi, hx⟩ := List.getElem?_eq_some_iff.1 hxo
  have ha := hf.act
  have hin := hf.inp
  have hsg := hf.sig
  have hL := valuesOf_length hG
  obtain ⟨j1, j2, j3, j4, j5⟩ := hG
  have hox := hc.sigs x (List.mem_of_getElem? hxo)
  obtain ⟨v, hv⟩ : ∃ v, G.values[i]? = some v := ⟨_, List.getElem?_eq_getElem (by omega)⟩
  obtain ⟨t, ht⟩ : ∃ t, G.timers[i]? = some t := ⟨_, List.getElem?_eq_getElem (by omega)⟩
  have hon := hf.on hxo
  have r1 := (right_of_check hon.1).1
  have ron : CallFn Tryz.prog 115 [aE x.on, aBs (valuesOf G)] (aB (evalE x.on (valuesOf G))) := value_fn (SizeOf.sizeOf x.on + 1) x.on (by omega) hox.on (valuesOf G) (by have : countC c = 2 * c.actuators + c.inputs.length + c.signals.length := rfl; omega) (by rw [hL]; exact r1)
  have roff : CallFn Tryz.prog 115 [aE x.off, aBs (valuesOf G)] (aB (evalE x.off (valuesOf G))) :=
    value_fn (SizeOf.sizeOf x.off + 1) x.off (by omega) hox.off (valuesOf G) (by have : countC c = 2 * c.actuators + c.inputs.length + c.signals.length := rfl; omega) (by rw [hL]; exact (right_of_check (off_ok hf hxo hk)).1)
  have hst := sigStep_at (L := valuesOf G) hxo hv ht
  obtain ⟨nv, nt, cf, hst2, hrule⟩ : ∃ nv nt cf, stepV 1 v t (evalE x.on (valuesOf G)) (evalE x.off (valuesOf G)) = (nv, nt, cf) ∧ CallFn Tryz.prog 137 [aCh v t false, aB (evalE x.on (valuesOf G)), aB (evalE x.off (valuesOf G))] (aCh nv nt cf) := ⟨_, _, _, by cases evalE x.on (valuesOf G) <;> cases evalE x.off (valuesOf G) <;> rfl, rule1_fn v t false _ _⟩
  rw [hk] at hst
  have hst3 := hst.trans hst2
  have mV := set_mix (B := G.values) (newV_at (s := G) hi) (by rw [newV_len]; omega)
  have mT := set_mix (B := G.timers) (newT_at (s := G) hi) (by rw [newT_len]; omega)
  have aV : ((newV c G).take i ++ G.values.drop i)[i]? = some v := by rw [mix_at (by rw [newV_len]; omega)]; exact hv
  have aT : ((newT c G).take i ++ G.timers.drop i)[i]? = some t := by rw [mix_at (by rw [newT_len]; omega)]; exact ht
  have bl := onceB_len c G i
  have bs := onceB_succ c G i
  have lV : i < ((newV c G).take i ++ G.values.drop i).length := (List.getElem?_eq_some_iff.1 aV).1
  have lT : i < ((newT c G).take i ++ G.timers.drop i).length := (List.getElem?_eq_some_iff.1 aT).1
  unfold rsH
  rw [bs, ← mV, ← mT, hst3]
  clear mV mT hst hst2 hst3 bs
  have hfc : 0 ≤ firstC c ∧ firstC c ≤ 100 := by unfold firstC; omega
  generalize (newV c G).take i ++ G.values.drop i = V1 at *
  generalize (newT c G).take i ++ G.timers.drop i = T1 at *
  generalize onceB c G i = B1 at *
  generalize evalE x.on (valuesOf G) = bon at *
  generalize evalE x.off (valuesOf G) = boff at *
  have aV2 := (List.getElem?_eq_some_iff.1 aV).2
  have aT2 := (List.getElem?_eq_some_iff.1 aT).2
  simp [hi, hx]
  intro b9
  refine V.drawX (fun q => if q = 56 then some (.ro (aB bon)) else if q = 64 then some (.ro (aB boff)) else if q = 66 then some (.fn (aCh nv nt cf)) else none) (by kernel_rfl) (by kernel_rfl) (by simp) ?_
  simp [hk, hi, hx, aV, aT, lV, lT, rB, rI, aV2, aT2]
  refine ⟨ron.lend (by simp [hget]) (by simp) ⟨rfl, rfl⟩, roff.lend (by simp [hget]) (by simp) ⟨rfl, rfl⟩, hrule, fun b10 => ⟨by kernel_rfl, ?_⟩⟩
  refine V.drawX (fun _ => none) (by kernel_rfl) (by kernel_rfl) (by simp) ?_
  simp [hk, hi, hx, aV, aT, lV, lT, rB, rI, aV2, aT2]
  refine ⟨by kernel_rfl, ?_⟩
  cases cf
  · simp
    omega
  · simp [rI]
    omega

theorem round_b2 {n : Nat} {Q : PostQ} {bm b4 b6 : Nat} {g h4 : Nat → Value} {h5 h7 : Value} {c : Control} {s G : State} {i : Nat} {x : Signal} (hc : OkC c) (hf : Fine c) (hG : shapeS c G) (hxo : c.signals[i]? = some x) (hk : x.kind = 2) :
    vcC ⟨Tryz.prog, none, n⟩ (loopC Tryz.f86 0) (hdE (rkE bm b4 b6 h5 c) (rsE i h7)) (hcat (rsH g c G i h7) (rkH bm b4 b6 g h4 h5 c s G)) (LoopQ Q fun E' H' => ∃ s', True ∧ (∀ p ∈ rsE (i + 1) s', wk (E' p.1) p.2) ∧ (∀ p ∈ rkE bm b4 b6 h5 c, E' p.1 = p.2) ∧ subN (hcat (rsH g c G (i + 1) s') (rkH bm b4 b6 g h4 h5 c s G)) H') := by
  refine vc_part rfl ?_
  obtain ⟨hi, hx⟩ := List.getElem?_eq_some_iff.1 hxo
  have ha := hf.act
  have hin := hf.inp
  have hsg := hf.sig
  have hL := valuesOf_length hG
  obtain ⟨j1, j2, j3, j4, j5⟩ := hG
  have hox := hc.sigs x (List.mem_of_getElem? hxo)
  obtain ⟨v, hv⟩ : ∃ v, G.values[i]? = some v := ⟨_, List.getElem?_eq_getElem (by omega)⟩
  obtain ⟨t, ht⟩ : ∃ t, G.timers[i]? = some t := ⟨_, List.getElem?_eq_getElem (by omega)⟩
  have hon := hf.on hxo
  have r1 := (right_of_check hon.1).1
  have ron : CallFn Tryz.prog 115 [aE x.on, aBs (valuesOf G)] (aB (evalE x.on (valuesOf G))) := value_fn (SizeOf.sizeOf x.on + 1) x.on (by omega) hox.on (valuesOf G) (by have : countC c = 2 * c.actuators + c.inputs.length + c.signals.length := rfl; omega) (by rw [hL]; exact r1)
  have hst := sigStep_at (L := valuesOf G) hxo hv ht
  obtain ⟨nv, nt, cf, hst2, hrule⟩ : ∃ nv nt cf, stepV 2 v t (evalE x.on (valuesOf G)) false = (nv, nt, cf) ∧ CallFn Tryz.prog 138 [aCh v t false, aB (evalE x.on (valuesOf G)), aB false] (aCh nv nt cf) := ⟨_, _, _, by cases evalE x.on (valuesOf G) <;> simp [stepV] <;> split <;> rfl, rule2_fn v t _ false⟩
  rw [hk] at hst
  have hst3 := hst.trans hst2
  have mV := set_mix (B := G.values) (newV_at (s := G) hi) (by rw [newV_len]; omega)
  have mT := set_mix (B := G.timers) (newT_at (s := G) hi) (by rw [newT_len]; omega)
  have aV : ((newV c G).take i ++ G.values.drop i)[i]? = some v := by rw [mix_at (by rw [newV_len]; omega)]; exact hv
  have aT : ((newT c G).take i ++ G.timers.drop i)[i]? = some t := by rw [mix_at (by rw [newT_len]; omega)]; exact ht
  have bl := onceB_len c G i
  have bs := onceB_succ c G i
  have lV : i < ((newV c G).take i ++ G.values.drop i).length := (List.getElem?_eq_some_iff.1 aV).1
  have lT : i < ((newT c G).take i ++ G.timers.drop i).length := (List.getElem?_eq_some_iff.1 aT).1
  unfold rsH
  rw [bs, ← mV, ← mT, hst3]
  clear mV mT hst hst2 hst3 bs
  have hfc : 0 ≤ firstC c ∧ firstC c ≤ 100 := by unfold firstC; omega
  generalize (newV c G).take i ++ G.values.drop i = V1 at *
  generalize (newT c G).take i ++ G.timers.drop i = T1 at *
  generalize onceB c G i = B1 at *
  generalize evalE x.on (valuesOf G) = bon at *
  have aV2 := (List.getElem?_eq_some_iff.1 aV).2
  have aT2 := (List.getElem?_eq_some_iff.1 aT).2
  simp [hi, hx]
  intro b9
  refine V.drawX (fun q => if q = 56 then some (.ro (aB bon)) else if q = 64 then some (.ro (aB false)) else if q = 66 then some (.fn (aCh nv nt cf)) else none) (by kernel_rfl) (by kernel_rfl) (by simp) ?_
  simp [hk, hi, hx, aV, aT, lV, lT, rB, rI, aV2, aT2]
  refine ⟨ron.lend (by simp [hget]) (by simp) ⟨rfl, rfl⟩, hrule, fun b10 => ⟨by kernel_rfl, ?_⟩⟩
  refine V.drawX (fun _ => none) (by kernel_rfl) (by kernel_rfl) (by simp) ?_
  simp [hk, hi, hx, aV, aT, lV, lT, rB, rI, aV2, aT2]
  refine ⟨by kernel_rfl, ?_⟩
  cases cf
  · simp
    omega
  · simp [rI]
    omega

end Go.Proofs.YtakndgpdolfenaaGreat
end

/- Contracts: the reference's rounds: Line, Asked, Turned. -/
section
namespace Go.Proofs.YtakndgpdolfenaaGreat
set_option maxHeartbeats 4000000
set_option maxRecDepth 10000

end Go.Proofs.YtakndgpdolfenaaGreat
end

/- Plain: values 0, 1 and 2. -/
section
namespace Go.Proofs.YtakndgpdolfenaaGreat
set_option maxHeartbeats 1000000

def thF (strong : Int) (vs : List Int) : Int := if vs.any (· == strong) then strong else if vs.any (· == 2) then 2 else 1 - strong
mutual
def thE : Expr → List Int → Int
  | ⟨op, ix, args⟩, l => if op = 0 then ix else if op = 1 then l.getD ix.toNat 0
      else if op = 2 then (match thL args l with | [] => 0 | v :: _ => if v = 2 then 2 else 1 - v)
      else thF (if op = 4 then 1 else 0) (thL args l)
def thL : List Expr → List Int → List Int
  | [], _ => []
  | x :: xs, l => thE x l :: thL xs l
end
theorem thE_eq (x : Expr) (l : List Int) : thE x l = if x.op = 0 then x.index else if x.op = 1 then l.getD x.index.toNat 0
      else if x.op = 2 then (match thL x.args l with | [] => 0 | v :: _ => if v = 2 then 2 else 1 - v)
      else thF (if x.op = 4 then 1 else 0) (thL x.args l) := by cases x; simp only [thE]
theorem thL_map (l : List Int) : ∀ xs : List Expr, thL xs l = xs.map fun x => thE x l
  | [] => rfl
  | x :: xs => by simp [thL, thL_map l xs]
def T3 (n : Int) : Prop := n = 0 ∨ n = 1 ∨ n = 2
def A3 (l : List Int) : Prop := ∀ n ∈ l, T3 n
theorem thF_t3 {s : Int} (hs : s = 0 ∨ s = 1) {vs : List Int} : T3 (thF s vs) := by
  unfold thF T3
  split
  · omega
  · split <;> omega
theorem thE_t3 {n : Int} {l : List Int} (hl : A3 l) : ∀ (N : Nat) (x : Expr), SizeOf.sizeOf x < N → RightE n x → T3 (thE x l)
  | 0, _, h, _ => absurd h (Nat.not_lt_zero _)
  | N + 1, x, hN, hr => by
    have hn := hr.node
    have hargs : ∀ y ∈ x.args, T3 (thE y l) := fun y hy => thE_t3 hl N y (by have := Expr.lt_of_mem hy; omega) (hr.args y hy)
    rw [thE_eq]
    split
    · rename_i ho
      simp [nodeR, ho] at hn
      unfold T3
      omega
    · split
      · rw [List.getD_eq_getElem?_getD]
        cases h : l[x.index.toNat]? with
        | none => exact .inl rfl
        | some v => exact hl v (List.mem_of_getElem? h)
      · split
        · rw [thL_map]
          cases hx : x.args with
          | nil => exact .inl rfl
          | cons y ys =>
            have := hargs y (by rw [hx]; simp)
            simp only [List.map_cons]
            unfold T3 at this ⊢
            split <;> omega
        · exact thF_t3 (by split <;> omega)
theorem thE_congr {l m : List Int} : ∀ (N : Nat) (x : Expr), SizeOf.sizeOf x < N → (∀ k ∈ varsE x, l[k.toNat]? = m[k.toNat]?) → thE x l = thE x m
  | 0, _, h, _ => absurd h (Nat.not_lt_zero _)
  | N + 1, x, hN, h => by
    have hL : ∀ q : List Expr, (∀ y ∈ q, y ∈ x.args) → (∀ k ∈ varsL q, l[k.toNat]? = m[k.toNat]?) → thL q l = thL q m := by
      intro q
      induction q with
      | nil => intro _ _; rfl
      | cons y q ih =>
        intro hl hk
        have hm := hl y (by simp)
        simp only [thL]
        rw [ih (fun z hz => hl z (by simp [hz])) (fun k hkk => hk k (by simp [varsL, hkk])), thE_congr N y (by have := Expr.lt_of_mem hm; omega) (fun k hkk => hk k (by simp [varsL, hkk]))]
    rw [thE_eq, thE_eq, hL x.args (fun _ h => h) (fun k hk => h k (by rw [varsE_eq]; simp [hk]))]
    by_cases hop : x.op = 1
    · have := h x.index (by rw [varsE_eq]; simp [hop])
      simp [hop, List.getD_eq_getElem?_getD, this]
    · simp [hop]

def joinL : List Int → Int
  | [] => 0
  | v :: r => if r.all (· == v) then v else 2
def knownL (v : Int) : List Int := if v = 2 then [0, 1] else [v]
def mightL (x : Signal) (own : Int) (l : List Int) : List Int :=
  if x.kind = 2 then (knownL (thE x.on l)).map fun on => if on = 0 then 0 else own
  else (knownL (thE x.on l)).flatMap fun on => (knownL (thE x.off l)).map fun off => if on ≠ off then on else own
def mightP (x : Signal) (own : Int) (l : List Int) : Int := joinL (mightL x own l)
/-- The place of a signal's line. -/
def atP (c : Control) (i : Nat) : Nat := (firstC c).toNat + i
def gateT (c : Control) (l : List Int) : Nat → List Int
  | 0 => l
  | i + 1 => match c.signals[i]? with
    | some x => if x.kind = 0 then (gateT c l i).set (atP c i) (thE x.on (gateT c l i)) else gateT c l i
    | none => gateT c l i
def nextT (c : Control) (l : List Int) : Nat → List Int
  | 0 => l
  | i + 1 => match c.signals[i]? with
    | some x => if x.kind ≠ 0 then (nextT c l i).set (atP c i) (joinL [l.getD (atP c i) 0, mightP x (l.getD (atP c i) 0) l]) else nextT c l i
    | none => nextT c l i
def againP (c : Control) (l : List Int) : List Int := nextT c (gateT c l c.signals.length) c.signals.length
def itP (c : Control) (l : List Int) : Nat → List Int
  | 0 => l
  | k + 1 => againP c (itP c l k)
def finalP (c : Control) (l : List Int) : List Int := itP c l (2 * c.signals.length + 2)

theorem gateT_len (c : Control) (l : List Int) (i : Nat) : (gateT c l i).length = l.length := by
  induction i with
  | zero => rfl
  | succ i ih =>
    simp only [gateT]
    split
    · split <;> simp [ih]
    · exact ih
theorem nextT_len (c : Control) (l : List Int) (i : Nat) : (nextT c l i).length = l.length := by
  induction i with
  | zero => rfl
  | succ i ih =>
    simp only [nextT]
    split
    · split <;> simp [ih]
    · exact ih
theorem againP_len (c : Control) (l : List Int) : (againP c l).length = l.length := by rw [againP, nextT_len, gateT_len]
theorem itP_len (c : Control) (l : List Int) (k : Nat) : (itP c l k).length = l.length := by
  induction k with
  | zero => rfl
  | succ k ih => rw [itP, againP_len, ih]
theorem gateT_at {c : Control} {l : List Int} {i : Nat} {x : Signal} (h : c.signals[i]? = some x) : gateT c l (i + 1) = if x.kind = 0 then (gateT c l i).set (atP c i) (thE x.on (gateT c l i)) else gateT c l i := by simp only [gateT, h]
theorem nextT_at {c : Control} {l : List Int} {i : Nat} {x : Signal} (h : c.signals[i]? = some x) : nextT c l (i + 1) = if x.kind ≠ 0 then (nextT c l i).set (atP c i) (joinL [l.getD (atP c i) 0, mightP x (l.getD (atP c i) 0) l]) else nextT c l i := by simp only [nextT, h]

/-- Is a line not that of a gate? -/
def stillK (c : Control) (k : Nat) : Prop := (k : Int) < firstC c ∨ kindAt c (k - firstC c) ≠ 0 ∨ firstC c + c.signals.length ≤ k
theorem gateT_keep {c : Control} (h0 : 0 ≤ firstC c) {l : List Int} {k : Nat} : ∀ i : Nat, (stillK c k ∨ firstC c + i ≤ k) → (gateT c l i)[k]? = l[k]?
  | 0, _ => rfl
  | i + 1, h => by
    have ih := gateT_keep (l := l) h0 i (by rcases h with h | h; exact .inl h; exact .inr (by omega))
    simp only [gateT]
    split
    · rename_i x hx
      split
      · rename_i hk
        have hne : atP c i ≠ k := by
          rintro e
          obtain ⟨hlt, _⟩ := List.getElem?_eq_some_iff.1 hx
          have e2 : (k : Int) - firstC c = i := by simp only [atP] at e; omega
          rcases h with h | h
          · rcases h with h | h | h
            · omega
            · rw [e2] at h; apply h; simp [kindAt, hx, hk]
            · omega
          · omega
        rw [List.getElem?_set_ne hne]
        exact ih
      · exact ih
    · exact ih
theorem gateT_stay {c : Control} (h0 : 0 ≤ firstC c) {l : List Int} {j : Nat} : ∀ i : Nat, j < i → (gateT c l i)[atP c j]? = (gateT c l (j + 1))[atP c j]?
  | 0, h => absurd h (Nat.not_lt_zero _)
  | i + 1, h => by
    rcases Nat.lt_or_ge j i with h1 | h1
    · rw [← gateT_stay h0 i h1]
      conv => lhs; unfold gateT
      split
      · split
        · rw [List.getElem?_set_ne (by simp only [atP]; omega)]
        · rfl
      · rfl
    · obtain rfl : j = i := by omega
      rfl
/-- Gates are what they are by the other lines. -/
theorem gateT_same {c : Control} (hf : Fine c) {l m : List Int} (hl : l.length = m.length) (hp : ∀ k, stillK c k → l[k]? = m[k]?) : gateT c l c.signals.length = gateT c m c.signals.length := by
  have h0 : 0 ≤ firstC c := by have := hf.act; unfold firstC; omega
  have key : ∀ i, i ≤ c.signals.length → ∀ j, j < i → (gateT c l i)[atP c j]? = (gateT c m i)[atP c j]? := by
    intro i
    induction i with
    | zero => intro _ j hj; omega
    | succ i ih =>
      intro hi j hj
      have hx : c.signals[i]? = some c.signals[i] := List.getElem?_eq_getElem (by omega)
      by_cases hk : c.signals[i].kind = 0
      · rw [gateT_at hx, gateT_at hx, if_pos hk, if_pos hk]
        have he : thE c.signals[i].on (gateT c l i) = thE c.signals[i].on (gateT c m i) := by
          refine thE_congr (SizeOf.sizeOf c.signals[i].on + 1) _ (by omega) fun k hkv => ?_
          have hv := vars_check (hf.on hx).1 k hkv
          have hlt := late_not hf hx hk k hkv
          have hcn : countC c = firstC c + c.signals.length := rfl
          by_cases hpl : stillK c k.toNat
          · rw [gateT_keep h0 i (.inl hpl), gateT_keep h0 i (.inl hpl), hp _ hpl]
          · have h1 : firstC c ≤ k := by
              rcases Int.lt_or_le k (firstC c) with h | h
              · exact absurd (.inl (by omega)) hpl
              · exact h
            obtain ⟨q, hq⟩ : ∃ q : Nat, k - firstC c = q := ⟨(k - firstC c).toNat, by omega⟩
            have hq2 : q < i := by
              rcases hlt with h | h
              · omega
              · exfalso
                apply hpl
                refine .inr (.inl ?_)
                rw [show ((k.toNat : Nat) : Int) = k by omega]
                exact h
            have e : k.toNat = atP c q := by simp only [atP]; omega
            rw [e]
            exact ih (by omega) q hq2
        rcases Nat.lt_or_ge j i with h1 | h1
        · rw [List.getElem?_set_ne (by simp only [atP]; omega), List.getElem?_set_ne (by simp only [atP]; omega)]
          exact ih (by omega) j h1
        · obtain rfl : j = i := by omega
          rw [he, List.getElem?_set, List.getElem?_set, gateT_len, gateT_len, hl]
          simp
      · rw [gateT_at hx, gateT_at hx, if_neg hk, if_neg hk]
        rcases Nat.lt_or_ge j i with h1 | h1
        · exact ih (by omega) j h1
        · obtain rfl : j = i := by omega
          have hpl : stillK c (atP c j) := .inr (.inl (by rw [show ((atP c j : Nat) : Int) - firstC c = j by simp only [atP]; omega]; simp [kindAt, hx, hk]))
          rw [gateT_keep h0 j (.inl hpl), gateT_keep h0 j (.inl hpl), hp _ hpl]
  apply List.ext_getElem?
  intro k
  by_cases hpl : stillK c k
  · rw [gateT_keep h0 _ (.inl hpl), gateT_keep h0 _ (.inl hpl), hp _ hpl]
  · have h1 : firstC c ≤ k := by
      rcases Int.lt_or_le (k : Int) (firstC c) with h | h
      · exact absurd (.inl h) hpl
      · exact h
    have h2 : (k : Int) < firstC c + c.signals.length := by
      rcases Int.lt_or_le (k : Int) (firstC c + c.signals.length) with h | h
      · exact h
      · exact absurd (.inr (.inr h)) hpl
    have e : k = atP c (k - (firstC c).toNat) := by simp only [atP]; omega
    rw [e]
    exact key _ (Nat.le_refl _) _ (by omega)
theorem nextT_keep {c : Control} (h0 : 0 ≤ firstC c) {l : List Int} {k : Nat} : ∀ i : Nat, (¬ stillK c k ∨ (k : Int) < firstC c ∨ firstC c + i ≤ k) → (nextT c l i)[k]? = l[k]?
  | 0, _ => rfl
  | i + 1, h => by
    have ih := nextT_keep (l := l) h0 i (by rcases h with h | h | h; exact .inl h; exact .inr (.inl h); exact .inr (.inr (by omega)))
    simp only [nextT]
    split
    · rename_i x hx
      split
      · rename_i hk
        have hne : atP c i ≠ k := by
          rintro e
          have e2 : (k : Int) - firstC c = i := by simp only [atP] at e; omega
          rcases h with h | h | h
          · apply h
            refine .inr (.inl ?_)
            rw [e2]
            simpa [kindAt, hx] using hk
          · omega
          · omega
        rw [List.getElem?_set_ne hne]
        exact ih
      · exact ih
    · exact ih
theorem nextT_value {c : Control} (h0 : 0 ≤ firstC c) {l : List Int} {i : Nat} {x : Signal} (hx : c.signals[i]? = some x) (hk : x.kind ≠ 0) (hlen : atP c i < l.length) : ∀ j : Nat, i < j → (nextT c l j)[atP c i]? = some (joinL [l.getD (atP c i) 0, mightP x (l.getD (atP c i) 0) l])
  | 0, h => absurd h (Nat.not_lt_zero _)
  | j + 1, h => by
    rcases Nat.lt_or_ge i j with h1 | h1
    · have ih := nextT_value h0 hx hk hlen j h1
      conv => lhs; unfold nextT
      split
      · split
        · rw [List.getElem?_set_ne (by simp only [atP]; omega)]
          exact ih
        · exact ih
      · exact ih
    · obtain rfl : i = j := by omega
      rw [nextT_at hx, if_pos hk, List.getElem?_set_self (by rw [nextT_len]; exact hlen)]

/-! ### The values come to rest -/
theorem again_gate {c : Control} (hf : Fine c) {l m : List Int} (hl : l.length = m.length) (hp : ∀ k, stillK c k → l[k]? = m[k]?) : againP c l = againP c m := by
  unfold againP
  rw [gateT_same hf hl hp]
theorem again_line {c : Control} (h0 : 0 ≤ firstC c) {l : List Int} {k : Nat} (h : (k : Int) < firstC c ∨ firstC c + c.signals.length ≤ k) : (againP c l)[k]? = l[k]? := by
  unfold againP
  rw [nextT_keep h0 _ (by rcases h with h | h; exact .inr (.inl h); exact .inr (.inr h)), gateT_keep h0 _ (.inl (by rcases h with h | h; exact .inl h; exact .inr (.inr h)))]
/-- A memory or a timer: its value remains, or it becomes unknown. -/
theorem again_sig {c : Control} (h0 : 0 ≤ firstC c) {l : List Int} {i : Nat} {x : Signal} (hx : c.signals[i]? = some x) (hk : x.kind ≠ 0) (hlen : atP c i < l.length) :
    (againP c l)[atP c i]? = l[atP c i]? ∨ (againP c l)[atP c i]? = some 2 := by
  obtain ⟨hlt, _⟩ := List.getElem?_eq_some_iff.1 hx
  have hst : stillK c (atP c i) := .inr (.inl (by rw [show ((atP c i : Nat) : Int) - firstC c = i by simp only [atP]; omega]; simpa [kindAt, hx] using hk))
  have hg := gateT_keep (l := l) h0 c.signals.length (.inl hst)
  unfold againP
  rw [nextT_value h0 hx hk (by rw [gateT_len]; exact hlen) _ hlt]
  have hv : (gateT c l c.signals.length).getD (atP c i) 0 = l[atP c i] := by
    rw [List.getD_eq_getElem?_getD, hg, List.getElem?_eq_getElem hlen]
    rfl
  rw [hv, List.getElem?_eq_getElem hlen]
  simp only [joinL, List.all_cons, List.all_nil, Bool.and_true]
  split
  · exact .inl rfl
  · exact .inr rfl
/-- How many memories and timers are unknown. -/
def cntU (c : Control) (l : List Int) : Nat := (List.range c.signals.length).countP fun i : Nat => kindAt c i != 0 && l.getD (atP c i) 0 == 2
theorem cntU_le (c : Control) (l : List Int) : cntU c l ≤ c.signals.length := by
  have := List.countP_le_length (p := fun i : Nat => kindAt c i != 0 && l.getD (atP c i) 0 == 2) (l := List.range c.signals.length)
  simpa [cntU] using this
theorem countP_lt {p q : Nat → Bool} : ∀ {l : List Nat}, (∀ i ∈ l, p i = true → q i = true) → (∃ i ∈ l, q i = true ∧ p i = false) → l.countP p < l.countP q
  | [], _, ⟨i, hi, _⟩ => by simp at hi
  | a :: l, h, ⟨i, hi, hq, hp⟩ => by
    have hle : l.countP p ≤ l.countP q := List.countP_mono_left fun x hx => h x (by simp [hx])
    rw [List.countP_cons, List.countP_cons]
    rcases List.mem_cons.1 hi with rfl | hi
    · simp only [hq, hp, if_true, Bool.false_eq_true, if_false]
      omega
    · have ih := countP_lt (fun x hx => h x (by simp [hx])) ⟨i, hi, hq, hp⟩
      have := h a (by simp)
      cases hpa : p a
      · simp only [Bool.false_eq_true, if_false]
        omega
      · simp only [this hpa, if_true]
        omega
/-- Either no memory and no timer changes, or one more becomes unknown. -/
theorem again_step {c : Control} (hf : Fine c) {l : List Int} (hlen : (l.length : Int) = countC c) : (∀ k, stillK c k → (againP c l)[k]? = l[k]?) ∨ cntU c l < cntU c (againP c l) := by
  have h0 : 0 ≤ firstC c := by have := hf.act; unfold firstC; omega
  have hcn : countC c = firstC c + c.signals.length := rfl
  by_cases hall : ∀ i x, c.signals[i]? = some x → x.kind ≠ 0 → (againP c l)[atP c i]? = l[atP c i]?
  · left
    intro k hk
    by_cases h1 : (k : Int) < firstC c ∨ firstC c + c.signals.length ≤ k
    · exact again_line h0 h1
    · have e : k = atP c (k - (firstC c).toNat) := by simp only [atP]; omega
      have hil : k - (firstC c).toNat < c.signals.length := by omega
      rw [e]
      refine hall _ _ (List.getElem?_eq_getElem hil) ?_
      rcases hk with h | h | h
      · omega
      · rw [show (k : Int) - firstC c = ((k - (firstC c).toNat : Nat) : Int) by omega] at h
        simpa [kindAt, List.getElem?_eq_getElem hil] using h
      · omega
  · right
    simp only [Classical.not_forall] at hall
    obtain ⟨i, x, hx, hk, hne⟩ := hall
    obtain ⟨hlt, _⟩ := List.getElem?_eq_some_iff.1 hx
    have hat : atP c i < l.length := by simp only [atP]; omega
    have h2 : (againP c l)[atP c i]? = some 2 := by
      rcases again_sig h0 hx hk hat with h | h
      · exact absurd h hne
      · exact h
    refine countP_lt ?_ ⟨i, by simpa using hlt, ?_, ?_⟩
    · intro j hj hp
      simp only [List.mem_range] at hj
      simp only [Bool.and_eq_true, bne_iff_ne, ne_eq, beq_iff_eq] at hp ⊢
      refine ⟨hp.1, ?_⟩
      have hxj : c.signals[j]? = some c.signals[j] := List.getElem?_eq_getElem hj
      have hatj : atP c j < l.length := by simp only [atP]; omega
      have hkj : c.signals[j].kind ≠ 0 := by simpa [kindAt, hxj] using hp.1
      have hl2 : l[atP c j]? = some 2 := by
        have := hp.2
        rw [List.getD_eq_getElem?_getD, List.getElem?_eq_getElem hatj] at this
        rw [List.getElem?_eq_getElem hatj]
        simpa using this
      rw [List.getD_eq_getElem?_getD]
      rcases again_sig h0 hxj hkj hatj with h | h
      · rw [h, hl2]; rfl
      · rw [h]; rfl
    · simp only [Bool.and_eq_true, bne_iff_ne, ne_eq, beq_iff_eq]
      exact ⟨by simpa [kindAt, hx] using hk, by rw [List.getD_eq_getElem?_getD, h2]; rfl⟩
    · rw [Bool.and_eq_false_iff]
      right
      rw [List.getD_eq_getElem?_getD, beq_eq_false_iff_ne]
      intro e
      rw [List.getElem?_eq_getElem hat] at e
      rw [h2, List.getElem?_eq_getElem hat] at hne
      simp only [Option.getD_some] at e
      rw [e] at hne
      exact hne rfl
theorem it_fix {c : Control} {l : List Int} {k : Nat} (h : itP c l (k + 1) = itP c l k) : ∀ m, k ≤ m → itP c l m = itP c l k := by
  intro m hm
  induction m with
  | zero => obtain rfl : k = 0 := by omega
            rfl
  | succ m ih =>
    rcases Nat.lt_or_ge k (m + 1) with h1 | h1
    · rw [itP, ih (by omega)]
      exact h
    · obtain rfl : k = m + 1 := by omega
      rfl
theorem it_rest {c : Control} (hf : Fine c) {l : List Int} (hlen : (l.length : Int) = countC c) : itP c l (c.signals.length + 2) = itP c l (c.signals.length + 1) := by
  have key : ∀ j, (∃ i, i ≤ j ∧ ∀ k, stillK c k → (itP c l (i + 1))[k]? = (itP c l i)[k]?) ∨ j + 1 ≤ cntU c (itP c l (j + 1)) := by
    intro j
    induction j with
    | zero =>
      rcases again_step hf (l := itP c l 0) hlen with h | h
      · exact .inl ⟨0, by omega, h⟩
      · right; show 0 + 1 ≤ cntU c (againP c (itP c l 0)); omega
    | succ j ih =>
      rcases ih with ⟨i, hi, h⟩ | ih
      · exact .inl ⟨i, by omega, h⟩
      · rcases again_step hf (l := itP c l (j + 1)) (by rw [itP_len]; exact hlen) with h | h
        · exact .inl ⟨j + 1, by omega, h⟩
        · right; show j + 1 + 1 ≤ cntU c (againP c (itP c l (j + 1))); omega
  rcases key c.signals.length with ⟨i, hi, h⟩ | h
  · have e : itP c l (i + 2) = itP c l (i + 1) := again_gate hf (by rw [itP_len, itP_len]) h
    rw [it_fix e (c.signals.length + 2) (by omega), it_fix e (c.signals.length + 1) (by omega)]
  · have := cntU_le c (itP c l (c.signals.length + 1))
    omega
theorem it_final {c : Control} {l : List Int} {k : Nat} (hk : k ≤ c.signals.length + 2) (h : itP c l (k + 1) = itP c l k) : itP c l k = finalP c l :=
  (it_fix h (2 * c.signals.length + 2) (by omega)).symm

end Go.Proofs.YtakndgpdolfenaaGreat
end

/- Contracts: values 0, 1 and 2. -/
section
namespace Go.Proofs.YtakndgpdolfenaaGreat
set_option maxHeartbeats 4000000
set_option maxRecDepth 10000

/-- What a row of values comes to, so far. -/
def ovP (s : Int) (vs : List Int) : Int := if vs.any (· == 2) then 2 else 1 - s
theorem ovP_snoc {s : Int} {vs : List Int} {i : Nat} {v : Int} (h : vs[i]? = some v) : ovP s (vs.take (i + 1)) = if v = 2 then 2 else ovP s (vs.take i) := by
  unfold ovP
  rw [List.take_add_one, h]
  simp only [Option.toList_some, List.any_append, List.any_cons, List.any_nil, Bool.or_false]
  by_cases hv : v = 2
  · simp [hv]
  · simp [hv]
theorem thF_hit {s : Int} {vs : List Int} {i : Nat} {v : Int} (h : vs[i]? = some v) (hv : v = s) : thF s vs = s := by
  unfold thF
  rw [if_pos]
  rw [List.any_eq_true]
  exact ⟨v, List.mem_of_getElem? h, by simp [hv]⟩
theorem thF_no {s : Int} {vs : List Int} (h : NoF (· == s) vs) : thF s vs = ovP s vs := by
  unfold thF
  rw [h.any]
  rfl

theorem three_fn : ∀ (N : Nat) (x : Expr), SizeOf.sizeOf x < N → OkE x → ∀ l : List Int, l.length ≤ 256 → A3 l → RightE l.length x → CallFn Tryz.prog 51 [aE x, aIs l] (aI (thE x l))
  | 0, _, h, _, _, _, _, _ => absurd h (Nat.not_lt_zero _)
  | N + 1, x, hN, hx, l, hv, ha, hr => by
    have ih : ∀ a ∈ x.args, CallFn Tryz.prog 51 [aE a, aIs l] (aI (thE a l)) := fun a hm => three_fn N a (by have := Expr.lt_of_mem hm; omega) (hx.args a hm) l hv ha (hr.args a hm)
    have i3 : ∀ a ∈ x.args, T3 (thE a l) := fun a hm => thE_t3 ha (SizeOf.sizeOf a + 1) a (by omega) (hr.args a hm)
    have hn := hr.node
    have hlen := hx.len
    have hop : 0 ≤ x.op ∧ x.op < 5 := by
      unfold nodeR at hn
      split at hn <;> omega
    obtain ho | ho | ho | ho : x.op = 0 ∨ x.op = 1 ∨ x.op = 2 ∨ (x.op = 3 ∨ x.op = 4) := by omega
    · refine callFz_of Tryz.func51 rfl Tryz.ntmps51 (rs := [.tmp 4]) rfl (by kernel_rfl) (by simp) (by kernel_rfl) ?_
      simp [ho, thE_eq x]
    · have hix : 0 ≤ x.index ∧ x.index < l.length := by
        simp [nodeR, ho] at hn
        omega
      obtain ⟨k, hk⟩ : ∃ k : Nat, x.index = k := ⟨x.index.toNat, by omega⟩
      rw [hk] at hix
      have hkl : k < l.length := by omega
      refine callFz_of Tryz.func51 rfl Tryz.ntmps51 (rs := [.tmp 4]) rfl (by kernel_rfl) (by simp) (by kernel_rfl) ?_
      simp [ho, hk, hkl, thE_eq x]
    · have hl : x.args.length = 1 := by
        simp [nodeR, ho] at hn
        split at hn
        · cases hn
        · omega
      obtain ⟨y, hy⟩ : ∃ y, x.args = [y] := List.length_eq_one_iff.1 hl
      have e : thE x l = if thE y l = 2 then 2 else 1 - thE y l := by
        rw [thE_eq, if_neg (by omega), if_neg (by omega), if_pos ho, hy]
        simp [thL]
      have c := ih y (by simp [hy])
      have c3 := i3 y (by simp [hy])
      rw [e]
      generalize thE y l = v at *
      refine callFz_of Tryz.func51 rfl Tryz.ntmps51 (rs := [.tmp 4]) rfl (by kernel_rfl) (by simp) (by kernel_rfl) ?_
      simp [ho, hy, encE_eq]
      refine c.s ?_
      unfold T3 at c3
      obtain rfl | rfl | rfl := c3 <;> simp
    · obtain ⟨s, hs⟩ : ∃ s : Int, s = if x.op = 4 then 1 else 0 := ⟨_, rfl⟩
      have hs01 : s = 0 ∨ s = 1 := by rw [hs]; split <;> omega
      have e : thE x l = thF s (thL x.args l) := by
        rw [thE_eq, if_neg (by omega), if_neg (by omega), if_neg (by omega), hs]
      have hvl : ∀ (i : Nat) (y : Expr), x.args[i]? = some y → (thL x.args l)[i]? = some (thE y l) := by
        intro i y hy
        rw [thL_map, List.getElem?_map, hy]
        rfl
      have hvn : (thL x.args l).length = x.args.length := by rw [thL_map, List.length_map]
      rw [e]
      generalize thL x.args l = vs at *
      refine callFz_of Tryz.func51 rfl Tryz.ntmps51 (rs := [.tmp 4]) rfl (by kernel_rfl) (by simp) (by kernel_rfl) ?_
      have o0 : ¬ x.op = 0 ∧ ¬ x.op = 1 ∧ ¬ x.op = 2 := by omega
      have goal : ∀ (ho4 : x.op = 4 ↔ s = 1), True := fun _ => trivial
      rcases hs01 with rfl | rfl
      · have h4 : ¬ x.op = 4 := by intro h; rw [if_pos h] at hs; omega
        simp [o0.1, o0.2.1, o0.2.2, h4]
        refine V.forI (σ := Unit) x.args.length [1, 6, 41, 42] (by simp; exact rfl) (fun i _ => [(43, aI i), (7, aI (ovP 0 (vs.take i)))]) (fun _ _ => []) (fun i _ => NoF (· == 0) (vs.take i)) () (by simp) (by simp [ovP]) ⟨by simp; exact rfl, by simp⟩ ?_ ?_
        · rintro i - hi hI
          obtain ⟨y, hy⟩ : ∃ y, x.args[i] = y := ⟨_, rfl⟩
          have hy0 : x.args[i]? = some y := by rw [List.getElem?_eq_getElem hi, hy]
          have hm := List.mem_of_getElem? hy0
          have c := ih y hm
          have c3 := i3 y hm
          have hve := hvl i y hy0
          have hsn := ovP_snoc (s := 0) hve
          have hhit := thF_hit (s := 0) hve
          have hno : thE y l ≠ 0 → NoF (· == 0) (vs.take (i + 1)) := fun h => hI.snoc' hve (by simpa using h)
          rw [hsn]
          generalize thE y l = v at *
          generalize ovP 0 (vs.take i) = w at *
          simp [hi, hy, encE_eq]
          intro b9
          refine c.s ?_
          unfold T3 at c3
          obtain rfl | rfl | rfl := c3
          · simp [hhit rfl]
          · simp
            exact ⟨by omega, hno (by decide)⟩
          · simp
            exact ⟨by omega, hno (by decide)⟩
        · rintro - hI
          rw [← hvn, List.take_length] at hI
          rw [← hvn, List.take_length, thF_no hI]
          simp [hvn]
      · have h4 : x.op = 4 := by
          rcases Classical.em (x.op = 4) with h | h
          · exact h
          · rw [if_neg h] at hs; omega
        simp [h4]
        refine V.forI (σ := Unit) x.args.length [1, 6, 41, 42] (by simp; exact rfl) (fun i _ => [(43, aI i), (7, aI (ovP 1 (vs.take i)))]) (fun _ _ => []) (fun i _ => NoF (· == 1) (vs.take i)) () (by simp) (by simp [ovP]) ⟨by simp; exact rfl, by simp⟩ ?_ ?_
        · rintro i - hi hI
          obtain ⟨y, hy⟩ : ∃ y, x.args[i] = y := ⟨_, rfl⟩
          have hy0 : x.args[i]? = some y := by rw [List.getElem?_eq_getElem hi, hy]
          have hm := List.mem_of_getElem? hy0
          have c := ih y hm
          have c3 := i3 y hm
          have hve := hvl i y hy0
          have hsn := ovP_snoc (s := 1) hve
          have hhit := thF_hit (s := 1) hve
          have hno : thE y l ≠ 1 → NoF (· == 1) (vs.take (i + 1)) := fun h => hI.snoc' hve (by simpa using h)
          rw [hsn]
          generalize thE y l = v at *
          generalize ovP 1 (vs.take i) = w at *
          simp [hi, hy, encE_eq]
          intro b9
          refine c.s ?_
          unfold T3 at c3
          obtain rfl | rfl | rfl := c3
          · simp
            exact ⟨by omega, hno (by decide)⟩
          · simp [hhit rfl]
          · simp
            exact ⟨by omega, hno (by decide)⟩
        · rintro - hI
          rw [← hvn, List.take_length] at hI
          rw [← hvn, List.take_length, thF_no hI]
          simp [hvn]

theorem join_fn (v : Int) (r : List Int) (hr : r.length ≤ 1000) : CallFn Tryz.prog 52 [aIs (v :: r)] (aI (joinL (v :: r))) := by
  refine callFz_of Tryz.func52 rfl Tryz.ntmps52 (rs := [.tmp 2]) rfl (by kernel_rfl) (by simp) (by kernel_rfl) ?_
  have e : joinL (v :: r) = if (v :: r).all (· == v) then v else 2 := by simp [joinL]
  rw [e]
  generalize hxs : v :: r = xs
  have h0 : xs[0]? = some v := by rw [← hxs]; rfl
  have hlen : xs.length = r.length + 1 := by rw [← hxs]; rfl
  have hpos : 0 < xs.length := by omega
  have h00 : xs[0] = v := by rw [List.getElem?_eq_getElem hpos] at h0; exact Option.some.inj h0
  simp
  refine V.forI (σ := Unit) xs.length [0, 5, 6] (by simp; exact rfl) (fun i _ => [(7, aI i)]) (fun _ _ => []) (fun i _ => NoF (· != v) (xs.take i)) () (by simp) (by simp) ⟨by simp; exact rfl, by simp⟩ ?_ ?_
  · rintro i - hi hI
    obtain ⟨y, hy⟩ : ∃ y, xs[i] = y := ⟨_, rfl⟩
    have hyo : xs[i]? = some y := by rw [List.getElem?_eq_getElem hi, hy]
    by_cases hv : y = v
    · have hn := hI.snoc' hyo (by simp [hv])
      simp [hi, hy, hpos, h00, hv]
      exact ⟨by omega, hn⟩
    · have hne : xs.all (· == v) = false := by
        rw [List.all_eq_false]
        exact ⟨y, List.mem_of_getElem? hyo, by simpa using hv⟩
      simp [hi, hy, hpos, h00, hv, hne]
  · rintro - hI
    rw [List.take_length] at hI
    have ha : xs.all (· == v) = true := by
      rw [List.all_eq_true]
      intro y hy
      simpa using hI y hy
    simp [hpos, h00, ha]
theorem known_fn (v : Int) : CallFn Tryz.prog 92 [aI v] (aIs (knownL v)) := by
  refine callFz_of Tryz.func92 rfl Tryz.ntmps92 (rs := [.tmp 2]) rfl (by kernel_rfl) (by simp) (by kernel_rfl) ?_
  by_cases h : v = 2 <;> simp [h, knownL]
def joinI (a b : Int) : Int := if a = b then a else 2
end Go.Proofs.YtakndgpdolfenaaGreat
end

/- Contracts: settle.might, ref28.might. -/
section
namespace Go.Proofs.YtakndgpdolfenaaGreat
set_option maxHeartbeats 4000000
set_option maxRecDepth 10000

/-- What a signal might get where On is on and Off is one of bs. -/
def mgP (k own : Int) (bs : List Int) (on : Int) : List Int := if k = 2 then [if on = 0 then 0 else own] else bs.map fun off => if on ≠ off then on else own
theorem mightL_flat (x : Signal) (own : Int) (l : List Int) : mightL x own l = (knownL (thE x.on l)).flatMap (mgP x.kind own (knownL (thE x.off l))) := by
  unfold mightL mgP
  by_cases h : x.kind = 2
  · simp only [h, if_true]
    generalize knownL (thE x.on l) = q
    induction q with
    | nil => rfl
    | cons a q ih => simp [ih]
  · simp only [h, if_false]
theorem flat_take {α β : Type} {l : List α} {f : α → List β} {i : Nat} {a : α} (h : l[i]? = some a) : (l.take (i + 1)).flatMap f = (l.take i).flatMap f ++ f a := by
  rw [List.take_add_one, h]
  simp
theorem knownL_mem {v z : Int} (h : T3 v) (hz : z ∈ knownL v) : z = 0 ∨ z = 1 := by
  unfold knownL at hz
  unfold T3 at h
  split at hz
  · simpa using hz
  · simp at hz
    omega
theorem knownL_len (v : Int) : 0 < (knownL v).length ∧ (knownL v).length ≤ 2 := by
  unfold knownL
  split <;> simp

theorem might_fn (x : Signal) (own : Int) (l : List Int) (hx : OkS x) (hk : x.kind = 1 ∨ x.kind = 2) (hl : l.length ≤ 256) (ha : A3 l) (hon : RightE l.length x.on) (hoff : x.kind = 1 → RightE l.length x.off) :
    CallFn Tryz.prog 53 [aS x, aI own, aIs l] (aI (mightP x own l)) := by
  have c1 := three_fn (SizeOf.sizeOf x.on + 1) x.on (by omega) hx.on l hl ha hon
  have t1 := thE_t3 ha (SizeOf.sizeOf x.on + 1) x.on (by omega) hon
  have c2 := fun h => three_fn (SizeOf.sizeOf x.off + 1) x.off (by omega) hx.off l hl ha (hoff h)
  unfold mightP
  rw [mightL_flat]
  generalize thE x.on l = a at *
  generalize thE x.off l = b at *
  have hka := knownL_len a
  have hkb := knownL_len b
  have hm := fun z => knownL_mem (z := z) t1
  have kb := known_fn b
  refine callFz_of Tryz.func53 rfl Tryz.ntmps53 (rs := [.tmp 6]) rfl (by kernel_rfl) (by simp) (by kernel_rfl) ?_
  simp
  intro u12
  refine c1.s ?_
  simp
  refine (known_fn a).s ?_
  generalize knownL a = ks at *
  generalize knownL b = bs at *
  have hml : ∀ on, (mgP x.kind own bs on).length ≤ 2 ∧ 0 < (mgP x.kind own bs on).length := by
    intro on
    unfold mgP
    split <;> simp <;> omega
  have hfl : ∀ i, (((ks.take i).flatMap (mgP x.kind own bs))).length ≤ 2 * i := by
    intro i
    induction i with
    | zero => simp
    | succ i ih =>
      cases h : ks[i]? with
      | none =>
        rw [List.take_add_one, h]
        simp only [Option.toList_none, List.append_nil]
        omega
      | some a =>
        rw [flat_take h, List.length_append]
        have := hml a
        omega
  simp
  refine V.forI (σ := Value) ks.length [1, 2, 3, 6, 17, 18] (by simp; exact rfl) (fun i h => [(19, aI i), (7, .own 12 h)]) (fun i h => [(12, .seq h 3 1 (((ks.take i).flatMap (mgP x.kind own bs)).map rI))]) (fun _ _ => True) u12 trivial (by simp) ⟨by simp; exact rfl, by simp⟩ ?_ ?_
  · rintro i h hi -
    obtain ⟨y, hy⟩ : ∃ y, ks[i] = y := ⟨_, rfl⟩
    have hyo : ks[i]? = some y := by rw [List.getElem?_eq_getElem hi, hy]
    have hy01 := hm y (List.mem_of_getElem? hyo)
    have hl1 := hfl i
    rw [flat_take hyo]
    generalize (ks.take i).flatMap (mgP x.kind own bs) = zs at *
    rcases hk with hk | hk
    · have e : mgP x.kind own bs y = bs.map fun off => if y ≠ off then y else own := by unfold mgP; rw [if_neg (by omega)]
      rw [e]
      simp [hi, hy, hk]
      refine (c2 hk).s ?_
      simp
      refine kb.s ?_
      simp
      refine V.forI (σ := Value) bs.length [1, 2, 3, 6, 9, 17, 18, 19, 20, 21, 22, 23, 24, 25, 26, 27, 28, 29, 30, 31, 32, 33, 34, 35, 36, 37, 38, 39] (by simp; exact rfl) (fun j h => [(40, aI j), (7, .own 12 h)]) (fun j h => [(12, .seq h 3 1 ((zs ++ ((bs.take j).map fun off => if y ≠ off then y else own)).map rI))]) (fun _ _ => True) h trivial (by simp) ⟨by simp; exact rfl, by simp⟩ ?_ ?_
      · rintro j h hj -
        obtain ⟨q, hq⟩ : ∃ q, bs[j] = q := ⟨_, rfl⟩
        have hqo : bs[j]? = some q := by rw [List.getElem?_eq_getElem hj, hq]
        have e2 : (bs.take (j + 1)).map (fun off => if y ≠ off then y else own) = (bs.take j).map (fun off => if y ≠ off then y else own) ++ [if y ≠ q then y else own] := by
          rw [List.take_add_one, hqo]
          simp
        have hl2 : ((bs.take j).map (fun off => if y ≠ off then y else own)).length ≤ j := by simp; omega
        rw [e2]
        generalize (bs.take j).map (fun off => if y ≠ off then y else own) = ws at *
        by_cases hyq : y = q
        · simp [hj, hq, hyq, rI]
          omega
        · simp [hj, hq, hyq, rI]
          omega
      · rintro h -
        rw [List.take_length]
        simp
        omega
    · have e : mgP x.kind own bs y = [if y = 0 then 0 else own] := by unfold mgP; rw [if_pos hk]
      rw [e]
      rcases hy01 with rfl | rfl
      · simp [hi, hy, hk, rI]
        omega
      · simp [hi, hy, hk, rI]
        omega
  · rintro h -
    rw [List.take_length]
    have hl1 := hfl ks.length
    rw [List.take_length] at hl1
    obtain ⟨a0, ar, rfl⟩ : ∃ a0 ar, ks = a0 :: ar := by
      cases ks with
      | nil => simp at hka
      | cons a ar => exact ⟨a, ar, rfl⟩
    obtain ⟨v, r, hvr⟩ : ∃ v r, (a0 :: ar).flatMap (mgP x.kind own bs) = v :: r := by
      have := hml a0
      cases h : mgP x.kind own bs a0 with
      | nil => rw [h] at this; simp at this
      | cons v r => exact ⟨v, _, by simp [h]; rfl⟩
    rw [hvr] at hl1 ⊢
    have cj := join_fn v r (by simp only [List.length_cons] at hl1 hka; omega)
    generalize hvr2 : v :: r = vs at *
    simp
    refine cj.lend (by simp [hget]) (by simp) ?_
    simp

end Go.Proofs.YtakndgpdolfenaaGreat
end

/- Contracts: ref28.might. -/
section
namespace Go.Proofs.YtakndgpdolfenaaGreat
set_option maxHeartbeats 4000000
set_option maxRecDepth 10000

def jst : List Int → Int × Bool
  | [] => (0, true)
  | v :: r => (r.foldl joinI v, false)
def vlP (k own on off : Int) : Int := if k = 2 then (if on = 0 then 0 else own) else if on ≠ off then on else own
end Go.Proofs.YtakndgpdolfenaaGreat
end

/- Contracts: ref28.again, Final. -/
section
namespace Go.Proofs.YtakndgpdolfenaaGreat
set_option maxHeartbeats 4000000
set_option maxRecDepth 10000

theorem A3.set {l : List Int} (h : A3 l) {i : Nat} {v : Int} (hv : T3 v) : A3 (l.set i v) := by
  intro n hn
  rcases List.mem_or_eq_of_mem_set hn with h1 | h1
  · exact h n h1
  · rw [h1]; exact hv
theorem joinL_t3 {l : List Int} (h : A3 l) : T3 (joinL l) := by
  cases l with
  | nil => exact .inl rfl
  | cons v r =>
    have e : joinL (v :: r) = if r.all (· == v) then v else 2 := rfl
    rw [e]
    by_cases hr : r.all (· == v) = true
    · rw [if_pos hr]; exact h v (by simp)
    · rw [if_neg hr]; exact .inr (.inr rfl)
theorem knownL_a3 {v : Int} (h : T3 v) : A3 (knownL v) := by
  intro z hz
  rcases knownL_mem h hz with h | h
  · exact .inl h
  · exact .inr (.inl h)
theorem mightL_a3 {x : Signal} {own : Int} {l : List Int} (ho : T3 own) (hon : T3 (thE x.on l)) : A3 (mightL x own l) := by
  unfold mightL
  split
  · intro z hz
    obtain ⟨on, h1, rfl⟩ := List.mem_map.1 hz
    split
    · exact .inl rfl
    · exact ho
  · intro z hz
    obtain ⟨on, h1, h2⟩ := List.mem_flatMap.1 hz
    obtain ⟨off, h3, rfl⟩ := List.mem_map.1 h2
    split
    · exact knownL_a3 hon on h1
    · exact ho
theorem mightP_t3 {x : Signal} {own : Int} {l : List Int} (ho : T3 own) (hon : T3 (thE x.on l)) : T3 (mightP x own l) := joinL_t3 (mightL_a3 ho hon)
theorem getD_t3 {l : List Int} (h : A3 l) (k : Nat) : T3 (l.getD k 0) := by
  rw [List.getD_eq_getElem?_getD]
  cases hk : l[k]? with
  | none => exact .inl rfl
  | some v => exact h v (List.mem_of_getElem? hk)
theorem gateT_a3 {c : Control} (hf : Fine c) {l : List Int} (h : A3 l) : ∀ i, A3 (gateT c l i)
  | 0 => h
  | i + 1 => by
    have ih := gateT_a3 hf h i
    unfold gateT
    split
    · rename_i x hx
      split
      · exact ih.set (thE_t3 ih (SizeOf.sizeOf x.on + 1) x.on (by omega) (right_of_check (hf.on hx).1).1)
      · exact ih
    · exact ih
theorem nextT_a3 {c : Control} (hf : Fine c) {l : List Int} (h : A3 l) : ∀ i, A3 (nextT c l i)
  | 0 => h
  | i + 1 => by
    have ih := nextT_a3 hf h i
    unfold nextT
    split
    · rename_i x hx
      split
      · refine ih.set (joinL_t3 ?_)
        intro z hz
        have h1 := getD_t3 h (atP c i)
        have h2 : T3 (mightP x (l.getD (atP c i) 0) l) := mightP_t3 h1 (thE_t3 h (SizeOf.sizeOf x.on + 1) x.on (by omega) (right_of_check (hf.on hx).1).1)
        simp only [List.mem_cons, List.not_mem_nil, or_false] at hz
        rcases hz with rfl | rfl
        · exact h1
        · exact h2
      · exact ih
    · exact ih
theorem againP_a3 {c : Control} (hf : Fine c) {l : List Int} (h : A3 l) : A3 (againP c l) := nextT_a3 hf (gateT_a3 hf h _) _

end Go.Proofs.YtakndgpdolfenaaGreat
end

/- Contracts: ref28.Final, ref28.Unknown. -/
section
namespace Go.Proofs.YtakndgpdolfenaaGreat
set_option maxHeartbeats 4000000
set_option maxRecDepth 10000

def numL (vs : List Bool) : List Int := vs.map fun b => if b then 1 else 0
def setU (c : Control) (l : List Int) (ks : List Int) : List Int := ks.foldl (fun l k => l.set (2 * c.actuators + k).toNat 2) l
theorem setU_take {c : Control} {l ks : List Int} {i : Nat} {k : Int} (h : ks[i]? = some k) : setU c l (ks.take (i + 1)) = (setU c l (ks.take i)).set (2 * c.actuators + k).toNat 2 := by
  unfold setU
  rw [List.take_add_one, h, List.foldl_append]
  rfl
theorem setU_len (c : Control) : ∀ (ks l : List Int), (setU c l ks).length = l.length
  | [], _ => rfl
  | k :: ks, l => by
    have := setU_len c ks (l.set (2 * c.actuators + k).toNat 2)
    simp only [setU, List.foldl_cons] at this ⊢
    rw [this, List.length_set]
theorem setU_a3 (c : Control) : ∀ (ks l : List Int), A3 l → A3 (setU c l ks)
  | [], _, h => h
  | k :: ks, l, h => setU_a3 c ks _ (h.set (.inr (.inr rfl)))
theorem numL_a3 (vs : List Bool) : A3 (numL vs) := by
  intro z hz
  obtain ⟨b, _, rfl⟩ := List.mem_map.1 hz
  cases b
  · exact .inl rfl
  · exact .inr (.inl rfl)
theorem numL_len (vs : List Bool) : (numL vs).length = vs.length := by simp [numL]
theorem numL_take {vs : List Bool} {i : Nat} {b : Bool} (h : vs[i]? = some b) : numL (vs.take (i + 1)) = numL (vs.take i) ++ [if b then 1 else 0] := by
  unfold numL
  rw [List.take_add_one, h]
  simp
theorem itP_a3 {c : Control} (hf : Fine c) {l : List Int} (h : A3 l) : ∀ i, A3 (itP c l i)
  | 0 => h
  | i + 1 => againP_a3 hf (itP_a3 hf h i)
def startU (c : Control) (s : State) (ks : List Int) : List Int := setU c (numL (valuesOf s)) ks

/-! ### Unknown -/
/-- What is wrong with the unknown inputs: 0 for nothing. -/
def inputsE (n : Int) : Int → List Int → Int
  | _, [] => 0
  | p, k :: ks => if k < 0 ∨ n ≤ k then 6 else if k ≤ p then 9 else inputsE n k ks
def unknownR (c : Control) (s : State) (ks : List Int) : List Int × Int := if rightC c s ≠ 0 then ([], rightC c s) else if 16 < ks.length then ([], 5)
  else if inputsE c.inputs.length (-1) ks ≠ 0 then ([], inputsE c.inputs.length (-1) ks) else (finalP c (startU c s ks), 0)
theorem inputsE_all {n : Int} : ∀ {ks : List Int} {p : Int}, inputsE n p ks = 0 → ∀ k ∈ ks, 0 ≤ k ∧ k < n
  | k :: ks, p, h, z, hz => by
    unfold inputsE at h
    by_cases h1 : k < 0 ∨ n ≤ k
    · rw [if_pos h1] at h; cases h
    · rw [if_neg h1] at h
      by_cases h2 : k ≤ p
      · rw [if_pos h2] at h; cases h
      · rw [if_neg h2] at h
        rcases List.mem_cons.1 hz with rfl | hz
        · omega
        · exact inputsE_all h z hz
def prevK (ks : List Int) (i : Nat) : Int := if i = 0 then -1 else ks.getD (i - 1) 0
theorem inputsE_step {n : Int} {ks : List Int} {i : Nat} {k : Int} (h : ks[i]? = some k) : inputsE n (prevK ks i) (ks.drop i) = if k < 0 ∨ n ≤ k then 6 else if k ≤ prevK ks i then 9 else inputsE n (prevK ks (i + 1)) (ks.drop (i + 1)) := by
  obtain ⟨h1, h2⟩ := List.getElem?_eq_some_iff.1 h
  rw [List.drop_eq_getElem_cons h1, h2]
  have : prevK ks (i + 1) = k := by
    unfold prevK
    rw [if_neg (by omega), Nat.add_sub_cancel, List.getD_eq_getElem?_getD, h]
    rfl
  rw [this]
  rfl

end Go.Proofs.YtakndgpdolfenaaGreat
end

/- Contracts: a round of settle's machine, the whole. -/
section
namespace Go.Proofs.YtakndgpdolfenaaGreat
set_option maxHeartbeats 8000000
set_option maxRecDepth 10000

theorem sh_of {α : Type} {l : List α} (h : l.length ≤ 1000000) : Sh l := by unfold Sh; omega
theorem SameStates_l (a b : State) (ha : SmS a) (hb : SmS b) : CallFn Tryz.prog 69 [aSt a, aSt b] (aB (sameSt a b)) := by
  have c1 := eqI_fn a.ends b.ends (sh_of ha.ends) (sh_of hb.ends)
  have c2 := eqB_fn a.valves b.valves (sh_of ha.valves) (sh_of hb.valves)
  have c3 := eqB_fn a.inputs b.inputs (sh_of ha.inputs) (sh_of hb.inputs)
  have c4 := eqB_fn a.values b.values (sh_of ha.values) (sh_of hb.values)
  have c5 := eqI_fn a.timers b.timers (sh_of ha.timers) (sh_of hb.timers)
  refine callFz_of Tryz.func69 rfl Tryz.ntmps69 (rs := [.tmp 4]) rfl (by kernel_rfl) (by simp) (by kernel_rfl) ?_
  unfold sameSt
  generalize decide (a.ends = b.ends) = b1 at *
  generalize decide (a.valves = b.valves) = b2 at *
  generalize decide (a.inputs = b.inputs) = b3 at *
  generalize decide (a.values = b.values) = b4 at *
  generalize decide (a.timers = b.timers) = b5 at *
  simp
  refine c1.s ?_
  simp
  refine GCall.fn (aB b2) (fun _ => ⟨by first | trivial | assumption, c2⟩) ?_
  simp
  refine GCall.fn (aB b3) (fun _ => ⟨by first | trivial | assumption, c3⟩) ?_
  simp
  refine GCall.fn (aB b4) (fun _ => ⟨by first | trivial | assumption, c4⟩) ?_
  simp
  refine GCall.fn (aB b5) (fun _ => ⟨by first | trivial | assumption, c5⟩) ?_
  simp

theorem round_s {bm : Nat} {c : Control} {g : Nat → Value} {s : State} (hc : OkC c) (hf : Fine c) (hsh : shapeS c s) : CallS Tryz.prog 86 [.ptr 70 bm 0] (mcH bm c g s)
    fun r H' => r = .tuple [aB (!decide (roundS c s = s)), aIs (roundB c s)] ∧ H' = mcH bm c g (roundS c s) := by
  have hsm := sm_of hf hsh
  have ha := hf.act
  have hin := hf.inp
  have hsg := hf.sig
  have hgs := gates_shape hsh
  have hgm := sm_of hf hgs
  refine CallS.dropP (K := fun r H' => r = .tuple [aB (!decide (roundS c s = s)), aIs (roundB c s)] ∧ subP (mcH bm c g (roundS c s)) H') ?_ (fun _ _ h => ⟨_, h.2, h.1, rfl⟩)
  refine CallS.frzKeep (K := fun r H' => ∃ h7 : Value, r = .tuple [aB (!decide (roundS c s = s)), .own 72 h7] ∧ subP ((72, .seq h7 3 1 ((roundB c s).map rI)) :: mcH bm c g (roundS c s)) H') ?_ ?_
  · refine callS_of Tryz.func86 rfl Tryz.ntmps86 (rs := [.tmp 2, .tmp 3]) rfl (by kernel_rfl) (by simp) (by kernel_rfl) ?_
    simp [mcH]
    refine (copied_st s hsm).lend 80 (by simp [hget, packA, encSt]) fun h4 => ?_
    simp [stA, stH]
    intro b4
    refine ((CallS.frame (H1 := [(4, .box b4 [.own 80 (h4 0), .own 81 (h4 1), .own 82 (h4 2), .own 83 (h4 3), .own 84 (h4 4)]), (80, .seq (h4 0) 3 1 (s.ends.map rI)), (81, .seq (h4 1) 4 1 (s.valves.map rB)), (82, .seq (h4 2) 4 1 (s.inputs.map rB)), (83, .seq (h4 3) 4 1 (s.values.map rB)), (84, .seq (h4 4) 3 1 (s.timers.map rI))]) (mgates_s (bm := bm) (g := g) hc hf hsh)).perm List.perm_append_comm).mono ?_
    rintro r H' ⟨H2, rfl, rfl⟩
    have eR : roundS c s = onceS c (gatesP c s) := rfl
    have eB : roundB c s = onceB c (gatesP c s) c.signals.length := rfl
    have eE : (gatesP c s).ends = s.ends ∧ (gatesP c s).valves = s.valves ∧ (gatesP c s).inputs = s.inputs ∧ (gatesP c s).timers = s.timers := ⟨rfl, rfl, rfl, rfl⟩
    rw [eR, eB]
    generalize gatesP c s = G at *
    obtain ⟨e1, e2, e3, e5⟩ := eE
    simp [mcH]
    refine lines_s (bm := bm) (c := c) (g := g) (s := G) hgm 71 ⟨[(4, .box b4 [.own 80 (h4 0), .own 81 (h4 1), .own 82 (h4 2), .own 83 (h4 3), .own 84 (h4 4)]), (80, .seq (h4 0) 3 1 (s.ends.map rI)), (81, .seq (h4 1) 4 1 (s.valves.map rB)), (82, .seq (h4 2) 4 1 (s.inputs.map rB)), (83, .seq (h4 3) 4 1 (s.values.map rB)), (84, .seq (h4 4) 3 1 (s.timers.map rI))], by simp⟩ fun h5 => ?_
    simp
    refine rules_fn.s ?_
    simp
    intro b6
    have hL := valuesOf_length hgs
    refine V.forI (σ := Value) c.signals.length [0, 2, 3, 4, 5, 6, 25, 26] (by simp; exact rfl) (fun i h7 => [(27, aI i), (7, .own 72 h7)]) (fun i h7 => [(72, .seq h7 3 1 ((onceB c G i).map rI)), (63, .seq (g 3) 4 1 (((newV c G).take i ++ G.values.drop i).map rB)), (64, .seq (g 4) 3 1 (((newT c G).take i ++ G.timers.drop i).map rI))]) (fun _ _ => True) (.slice none 0 0) trivial (by simp) ⟨by simp; exact rfl, by simp [onceB, hget, hdel]⟩ ?_ ?_
    · rintro i h7 hi -
      have hxo : c.signals[i]? = some c.signals[i] := List.getElem?_eq_getElem hi
      have hon := (hf.on hxo).2
      obtain hk | hk | hk : c.signals[i].kind = 0 ∨ c.signals[i].kind = 1 ∨ c.signals[i].kind = 2 := by omega
      · exact vc_of_part rfl (round_b0 hc hf hgs hxo hk)
      · exact vc_of_part rfl (round_b1 hc hf hgs hxo hk)
      · exact vc_of_part rfl (round_b2 hc hf hgs hxo hk)
    · rintro h7 -
      have e63 : (newV c G).take c.signals.length ++ G.values.drop c.signals.length = newV c G := by
        rw [List.take_of_length_le (by rw [newV_len]; exact Nat.le_refl _), List.drop_of_length_le (by rw [hgs.2.2.2.1]; exact Nat.le_refl _), List.append_nil]
      have e64 : (newT c G).take c.signals.length ++ G.timers.drop c.signals.length = newT c G := by
        rw [List.take_of_length_le (by rw [newT_len]; exact Nat.le_refl _), List.drop_of_length_le (by rw [hgs.2.2.2.2]; exact Nat.le_refl _), List.append_nil]
      have hss := SameStates_l s (onceS c G) hsm (sm_of hf (once_shape hgs))
      rw [same_eq] at hss
      have eO : onceS c G = ⟨G.ends, G.valves, G.inputs, newV c G, newT c G⟩ := rfl
      have ed : decide (onceS c G = s) = decide (s = onceS c G) := by
        congr 1
        exact propext ⟨Eq.symm, Eq.symm⟩
      rw [ed]
      rw [e63, e64]
      generalize decide (s = onceS c G) = dd at hss
      rw [eO] at hss ⊢
      generalize newV c G = nv at *
      generalize newT c G = nt at *
      simp
      refine V.drawX (fun q => if q = 102 then some (.ro (aB dd)) else none) (by kernel_rfl) (by kernel_rfl) (by simp) ?_
      simp
      refine ⟨hss.lend (by simp [hget, packA, encSt]) (by simp) ⟨rfl, rfl⟩, ?_⟩
      refine subP_of ?_
      simp [mcH]
  · rintro r H' ⟨h7, rfl, K, k1, k2⟩
    obtain ⟨R, hR⟩ := k1.exists_perm_append
    refine ⟨[(72, .seq h7 3 1 ((roundB c s).map rI))], mcH bm c g (roundS c s) ++ R, ?_, ?_, ?_, _, List.sublist_append_left _ _, List.Perm.refl _⟩
    · exact ((k2.append_right R).symm.trans hR.symm)
    · simp [frz]
    · simp [frz, hget]

end Go.Proofs.YtakndgpdolfenaaGreat
end

/- Contracts: settle's machine comes to rest. -/
section
namespace Go.Proofs.YtakndgpdolfenaaGreat
set_option maxHeartbeats 4000000
set_option maxRecDepth 10000

theorem courseP_step {c : Control} {k : Nat} {n : Int} {s : State} {acc : List Int} : courseP c (k + 1) n s acc = if roundS c s = s then some (s, acc ++ roundB c s, n) else courseP c k (n + 1) (roundS c s) (acc ++ roundB c s) := rfl

theorem settle_s {bm : Nat} {c : Control} {g : Nat → Value} {s : State} (hc : OkC c) (hf : Fine c) (hsh : shapeS c s) : CallS Tryz.prog 89 [.ptr 70 bm 0] (mcH bm c g s)
    fun r H' => ∃ s', H' = mcH bm c g s' ∧ ((courseP c 65 0 s [] = none ∧ r = .tuple [aI 0, aIs [], aI 21]) ∨ ∃ bad n, courseP c 65 0 s [] = some (s', bad, n) ∧ r = .tuple [aI n, aIs (compI (sortI bad)), aI 0]) := by
  have ha := hf.act
  have hin := hf.inp
  have hsg := hf.sig
  obtain ⟨R, hR⟩ : ∃ R, courseP c 65 0 s [] = R := ⟨_, rfl⟩
  rw [hR]
  refine CallS.dropP (K := fun r H' => ∃ s', ((R = none ∧ r = .tuple [aI 0, aIs [], aI 21]) ∨ ∃ bad n, R = some (s', bad, n) ∧ r = .tuple [aI n, aIs (compI (sortI bad)), aI 0]) ∧ subP (mcH bm c g s') H') ?_ (fun r H' h => by
    obtain ⟨s', h1, h2⟩ := h
    exact ⟨_, h2, s', rfl, h1⟩)
  refine CallS.frzKeep (K := fun r H' => ∃ s', ((R = none ∧ r = .tuple [aI 0, .nils, aI 21]) ∧ subP (mcH bm c g s') H') ∨ ∃ bad n h, R = some (s', bad, n) ∧ r = .tuple [aI n, .own 73 h, aI 0] ∧ subP ((73, .seq h 3 1 ((compI (sortI bad)).map rI)) :: mcH bm c g s') H') ?_ ?_
  · refine callS_of Tryz.func89 rfl Tryz.ntmps89 (rs := [.tmp 2, .tmp 3, .tmp 4]) rfl (by kernel_rfl) (by simp) (by kernel_rfl) ?_
    simp
    refine V.forI (σ := Value × State × List Int) 65 [0] (by simp; exact rfl) (fun i p => [(2, aI 0), (3, .nils), (4, aI 0), (5, .own 73 p.1), (6, aI i)]) (fun i p => (73, .seq p.1 3 1 (p.2.2.map rI)) :: mcH bm c g p.2.1) (fun i p => R = courseP c (65 - i) i p.2.1 p.2.2 ∧ shapeS c p.2.1 ∧ p.2.2.length ≤ 64 * i) (.slice none 0 0, s, []) ⟨hR.symm, hsh, by simp⟩ (by simp) ⟨by simp [mcH]; exact rfl, by simp [mcH, hget, hdel]⟩ ?_ ?_
    · rintro i ⟨h, s1, acc⟩ hi ⟨hI, hs1, hl⟩
      dsimp only at hI hs1 hl ⊢
      obtain ⟨k, hk⟩ : ∃ k, 65 - i = k + 1 := ⟨64 - i, by omega⟩
      rw [hk, courseP_step] at hI
      have hk2 : 65 - (i + 1) = k := by omega
      have hi64 : (i : Int) ≤ 64 := by omega
      simp [hi64]
      refine ((CallS.frame (H1 := [(73, .seq h 3 1 (acc.map rI))]) (round_s (bm := bm) (g := g) hc hf hs1)).perm List.perm_append_comm).mono ?_
      rintro r H' ⟨H2, ⟨rfl, rfl⟩, rfl⟩
      have hrl := onceB_len c (gatesP c s1) c.signals.length
      rw [show onceB c (gatesP c s1) c.signals.length = roundB c s1 from rfl] at hrl
      have hs2 := round_shape hs1
      by_cases hr : roundS c s1 = s1
      · rw [if_pos hr] at hI
        simp [hr, mcH]
        intro u
        refine ⟨by omega, ?_⟩
        rw [← List.map_append]
        refine (CallS.frameL (H1 := mcH bm c g s1) (sort_c (t := 73) (e := 3) (zs := acc ++ roundB c s1) (by simp; omega))).mono ?_
        rintro r H' ⟨H2, ⟨rfl, rfl⟩, rfl⟩
        simp [mcH]
        refine (CallS.frameL (H1 := mcH bm c g s1) (comp_c (t := 73) (e := 3) (zs := sortI (acc ++ roundB c s1)) (by rw [sortI_len]; simp; omega))).mono ?_
        rintro r H' ⟨H2, ⟨h2, rfl, rfl⟩, rfl⟩
        simp [mcH]
        refine ⟨s1, _, _, hI, h2, ⟨rfl, rfl⟩, subP_of ?_⟩
        simp
      · rw [if_neg hr] at hI
        simp [hr, mcH]
        have hk3 : 64 - i = k := by omega
        rw [hk3]
        exact fun u => ⟨by omega, by omega, u, roundS c s1, acc ++ roundB c s1, ⟨hI, hs2, by simp; omega⟩, rfl, ⟨rfl, by simp⟩, rfl, rfl, rfl, rfl, rfl⟩
    · rintro ⟨h, s1, acc⟩ ⟨hI, hs1, hl⟩
      simp
      refine ⟨by rw [hI]; rfl, s1, subP_of ?_⟩
      simp
  · rintro r H' ⟨s', ⟨⟨h1, rfl⟩, K, k1, k2⟩ | ⟨bad, n, h, h1, rfl, K, k1, k2⟩⟩
    · exact ⟨[], H', by simp, by simp [frz, frzs], s', .inl ⟨h1, by simp [frz, frzs]⟩, K, k1, k2⟩
    · obtain ⟨R2, hR2⟩ := k1.exists_perm_append
      refine ⟨[(73, .seq h 3 1 ((compI (sortI bad)).map rI))], mcH bm c g s' ++ R2, (k2.append_right R2).symm.trans hR2.symm, by simp [frz, frzs], s', .inr ⟨bad, n, h1, by simp [frz, frzs, hget]⟩, _, List.sublist_append_left _ _, List.Perm.refl _⟩

end Go.Proofs.YtakndgpdolfenaaGreat
end

/- Contracts: Round, Rounds, Settle, Rests. -/
section
namespace Go.Proofs.YtakndgpdolfenaaGreat
set_option maxHeartbeats 4000000
set_option maxRecDepth 10000

def roundR (c : Control) (s : State) : State × List Int × Int := if rightC c s ≠ 0 then (noSt, [], rightC c s) else (roundS c s, roundB c s, 0)
def restsR (c : Control) (s : State) : Bool × Int := if rightC c s ≠ 0 then (false, rightC c s) else (decide (roundS c s = s), 0)
def courseR (c : Control) (s : State) : State × List Int × Int × Int := match courseP c 65 0 s [] with
  | some (x, bad, n) => (x, compI (sortI bad), n, 0)
  | none => (noSt, [], 0, 21)
def settleR (c : Control) (s : State) : State × List Int × Int := if rightC c s ≠ 0 then (noSt, [], rightC c s) else ((courseR c s).1, (courseR c s).2.1, (courseR c s).2.2.2)
def roundsR (c : Control) (s : State) : Int × Int := if rightC c s ≠ 0 then (0, rightC c s) else ((courseR c s).2.2.1, (courseR c s).2.2.2)

theorem Rests_fn (c : Control) (s : State) (hc : OkC c) (hs : SmS s) : CallFn Tryz.prog 44 [aC c, aSt s] (.tuple [aB (restsR c s).1, aI (restsR c s).2]) := by
  refine callFz_of Tryz.func44 rfl Tryz.ntmps44 (rs := [.tmp 4, .tmp 5]) rfl (by kernel_rfl) (by simp) (by kernel_rfl) ?_
  simp
  refine (of_s c s hc hs).mono ?_
  rintro r H' ⟨k1, k2⟩
  by_cases hz : rightC c s = 0
  · obtain ⟨z1, z2, z3⟩ := right_zero hz
    obtain ⟨bm, g, rfl, rfl⟩ := k1 hz
    simp
    refine (round_s (bm := bm) (g := g) hc (fine_of z1) z2).mono ?_
    rintro r H' ⟨rfl, rfl⟩
    simp [mcH, restsR, hz]
  · obtain ⟨rfl, rfl⟩ := k2 hz
    simp [hz, restsR]
theorem Settle_fn (c : Control) (s : State) (hc : OkC c) (hs : SmS s) : CallFn Tryz.prog 47 [aC c, aSt s] (.tuple [aSt (settleR c s).1, aIs (settleR c s).2.1, aI (settleR c s).2.2]) := by
  refine callFz_of Tryz.func47 rfl Tryz.ntmps47 (rs := [.cell 4 29, .tmp 5, .tmp 6]) rfl (by kernel_rfl) (by simp) (by kernel_rfl) ?_
  simp
  intro b4
  refine (CallS.frame (of_s c s hc hs)).mono ?_
  rintro r H' ⟨H2, ⟨k1, k2⟩, rfl⟩
  by_cases hz : rightC c s = 0
  · obtain ⟨z1, z2, z3⟩ := right_zero hz
    obtain ⟨bm, g, rfl, rfl⟩ := k1 hz
    simp
    refine (CallS.frame (settle_s (bm := bm) (g := g) hc (fine_of z1) z2)).mono ?_
    rintro r H' ⟨H2, ⟨s', rfl, ⟨h1, rfl⟩ | ⟨bad, n, h1, rfl⟩⟩, rfl⟩
    · simp [mcH, settleR, courseR, hz, h1, noSt, packA, encSt]
    · simp [mcH, settleR, courseR, hz, h1, packA, encSt]
  · obtain ⟨rfl, rfl⟩ := k2 hz
    simp [hz, settleR, noSt, packA, encSt]

end Go.Proofs.YtakndgpdolfenaaGreat
end

/- Contracts: settle.Unknown, its rounds. -/
section
namespace Go.Proofs.YtakndgpdolfenaaGreat
set_option maxHeartbeats 4000000
set_option maxRecDepth 10000

abbrev ukE (bm : Nat) (c : Control) : List (Nat × A) := [(3, .rptr (encC c)), (8, .ptr 70 bm 0)]
abbrev ukH (bm : Nat) (g : Nat → Value) (h7 : Value) (c : Control) (s : State) : Heap := (71, .seq h7 4 1 ((valuesOf s).map rB)) :: mcH bm c g s

theorem unk_r0 {nt : Nat} {Q : PostQ} {bm : Nat} {g : Nat → Value} {h7 h : Value} {c : Control} {s : State} {l0 : List Int} {i : Nat} (hc : OkC c) (hf : Fine c) (hl0 : (l0.length : Int) = countC c) (ha0 : A3 l0) (hi : i ≤ c.signals.length + 2)
    (hQ : ∀ (E' : Env) (H' : Heap) (hh : Value), E' 6 = .own 51 hh → E' 7 = aI 0 → hget 51 H' = some (.seq hh 3 1 ((finalP c l0).map rI)) → Q .ret E' H') :
    vcC ⟨Tryz.prog, none, nt⟩ (loopC Tryz.f14 3) (hdE (ukE bm c) [(6, .nils), (7, aI 0), (12, .own 50 h)]) (hcat [(50, .seq h 3 1 ((itP c l0 i).map rI))] (ukH bm g h7 c s))
      (LoopQ Q fun E' H' => ∃ s', itP c l0 (i + 1) ≠ itP c l0 i ∧ (∀ p ∈ [(6, .nils), (7, aI 0), (12, .own 51 s')], wk (E' p.1) p.2) ∧ (∀ p ∈ ukE bm c, E' p.1 = p.2) ∧ subN (hcat [(51, .seq s' 3 1 ((itP c l0 (i + 1)).map rI))] (ukH bm g h7 c s)) H') := by
  refine vc_part rfl ?_
  have hact := hf.act
  have hin := hf.inp
  have hsg := hf.sig
  have hcn : countC c = firstC c + c.signals.length := rfl
  obtain ⟨f, hf0⟩ : ∃ f : Nat, firstC c = f := ⟨(firstC c).toNat, by unfold firstC; omega⟩
  have hf1 : f ≤ 100 := by have : firstC c = 2 * c.actuators + c.inputs.length := rfl; omega
  have hat : ∀ i, atP c i = f + i := by intro i; simp only [atP]; omega
  have hil := itP_len c l0 i
  have hil2 := itP_a3 hf ha0 i
  have hil3 := itP_len c l0 (i + 1)
  have heq := eqI_fn (itP c l0 i) (itP c l0 (i + 1)) (by unfold Sh; omega) (by unfold Sh; omega)
  have hfin := fun h => it_final (c := c) (l := l0) (k := i) hi h
  have hnx : itP c l0 (i + 1) = nextT c (gateT c (itP c l0 i) c.signals.length) c.signals.length := rfl
  generalize itP c l0 (i + 1) = l2 at *
  generalize itP c l0 i = l1 at *
  simp
  refine (cloneI_o l1 (by omega)).lend 95 (by simp [hget]) (by simp) fun hb => ?_
  simp
  refine V.forI (σ := Unit) c.signals.length [3, 6, 7, 8, 12, 17, 95, 96, 97, 98, 99] (by simp; exact rfl) (fun k _ => [(100, aI k)]) (fun k _ => [(50, .seq h 3 1 ((gateT c l1 k).map rI))]) (fun _ _ => True) () trivial (by simp) ⟨by simp; exact rfl, by simp [gateT, hget, hdel]⟩ ?_ ?_
  · rintro k - hk -
    obtain ⟨x, hx⟩ : ∃ x, c.signals[k] = x := ⟨_, rfl⟩
    have hxo : c.signals[k]? = some x := by rw [List.getElem?_eq_getElem hk, hx]
    have hgl := gateT_len c l1 k
    have hga := gateT_a3 hf hil2 k
    have hon := (right_of_check (hf.on hxo).1).1
    rw [gateT_at hxo, hat]
    generalize gateT c l1 k = q at *
    have ct := three_fn (SizeOf.sizeOf x.on + 1) x.on (by omega) (hc.sigs x (List.mem_of_getElem? hxo)).on q (by omega) hga (by rw [hgl, hil, hl0]; exact hon)
    generalize thE x.on q = v at *
    have hlq : f + k < q.length := by omega
    have htn : ((f : Int) + k).toNat = f + k := by omega
    obtain ⟨q0, hqv⟩ : ∃ q0, q[f + k] = q0 := ⟨_, rfl⟩
    have hqx : q[f + k]? = some q0 := by rw [List.getElem?_eq_getElem hlq, hqv]
    by_cases hkd : x.kind = 0
    · simp [hk, hx, hkd]
      intro b19
      refine V.drawX (fun q => if q = 118 then some (.ro (aI v)) else none) (by kernel_rfl) (by kernel_rfl) (by simp) ?_
      simp [mcA, hk, hx, hf0, htn, hqx, hlq, rI]
      exact ⟨by omega, ct.lend (by simp [hget]) (by simp) ⟨rfl, rfl⟩, by omega, by kernel_rfl, by omega, by simp [hkd, rI]⟩
    · simp [hk, hx, hkd]
      omega
  · rintro - -
    have hgl := gateT_len c l1 c.signals.length
    have hga := gateT_a3 hf hil2 c.signals.length
    generalize gateT c l1 c.signals.length = q at *
    simp
    refine (cloneI_o q (by omega)).lend 51 (by simp [hget]) (by simp) fun hn => ?_
    simp
    refine V.forI (σ := Unit) c.signals.length [3, 6, 7, 8, 12, 17, 18, 19, 20, 95, 96, 97, 98, 99, 100, 101, 102, 103, 104, 105, 106, 107, 108, 109, 110, 111, 112, 113, 114, 115, 116, 117, 118, 119, 120, 121, 122, 123, 124, 125] (by simp; exact rfl) (fun k _ => [(126, aI k)]) (fun k _ => [(51, .seq hn 3 1 ((nextT c q k).map rI))]) (fun _ _ => True) () trivial (by simp) ⟨by simp; exact rfl, by simp [nextT, hget, hdel]⟩ ?_ ?_
    · rintro k - hk -
      obtain ⟨x, hx⟩ : ∃ x, c.signals[k] = x := ⟨_, rfl⟩
      have hxo : c.signals[k]? = some x := by rw [List.getElem?_eq_getElem hk, hx]
      have hnl := nextT_len c q k
      have hon := hf.on hxo
      have r1 := (right_of_check hon.1).1
      have hlq : f + k < q.length := by omega
      have htn : ((f : Int) + k).toNat = f + k := by omega
      obtain ⟨q0, hqv⟩ : ∃ q0, q[f + k] = q0 := ⟨_, rfl⟩
      have hqx : q[f + k]? = some q0 := by rw [List.getElem?_eq_getElem hlq, hqv]
      have hgd : q.getD (f + k) 0 = q0 := by rw [List.getD_eq_getElem?_getD, hqx]; rfl
      rw [nextT_at hxo, hat, hgd]
      generalize nextT c q k = z at *
      have hlz : f + k < z.length := by omega
      obtain ⟨z0, hzv⟩ : ∃ z0, z[f + k] = z0 := ⟨_, rfl⟩
      have hzx : z[f + k]? = some z0 := by rw [List.getElem?_eq_getElem hlz, hzv]
      by_cases hkd : x.kind = 0
      · simp [mcA, hk, hx, hkd, hf0]
        omega
      · have cm := might_fn x q0 q (hc.sigs x (List.mem_of_getElem? hxo)) (by omega) (by omega) hga (by rw [hgl, hil, hl0]; exact r1) (fun h1 => by rw [hgl, hil, hl0]; exact (right_of_check (off_ok hf hxo h1)).1)
        generalize mightP x q0 q = mv at *
        have jn := join_fn q0 [mv] (by simp)
        generalize joinL [q0, mv] = jv at *
        simp [mcA, hk, hx, hkd, hf0]
        intro b22
        refine ⟨by omega, ?_⟩
        refine V.drawX (fun q => if q = 152 then some (.ro (aI mv)) else if q = 154 then some (.fn (aI jv)) else none) (by kernel_rfl) (by kernel_rfl) (by simp) ?_
        simp [hk, hx, hlq, htn, hqx, hqv, hzx, hlz, rI]
        exact ⟨by omega, cm.lend (by simp [hget, encSt]) (by simp) ⟨rfl, rfl⟩, jn, by omega, by kernel_rfl, by omega, by simp [hkd, rI], hf0.symm⟩
    · rintro - -
      rw [← hnx]
      by_cases hr : l2 = l1
      · have h2 := hfin hr
        have hb2 : decide (l1 = l2) = true := by simp [hr]
        rw [hb2] at heq
        simp
        refine heq.lend (by simp [hget]) (by simp) ?_
        simp
        have h3 : l2 = finalP c l0 := hr.trans h2
        exact hQ _ _ hn (by simp) (by simp) (by simp [h3])
      · have hb2 : decide (l1 = l2) = false := by simp; exact fun e => hr e.symm
        rw [hb2] at heq
        simp
        refine heq.lend (by simp [hget]) (by simp) ?_
        simp [hr]

theorem unk_r1 {nt : Nat} {Q : PostQ} {bm : Nat} {g : Nat → Value} {h7 h : Value} {c : Control} {s : State} {l0 : List Int} {i : Nat} (hc : OkC c) (hf : Fine c) (hl0 : (l0.length : Int) = countC c) (ha0 : A3 l0) (hi : i ≤ c.signals.length + 2)
    (hQ : ∀ (E' : Env) (H' : Heap) (hh : Value), E' 6 = .own 50 hh → E' 7 = aI 0 → hget 50 H' = some (.seq hh 3 1 ((finalP c l0).map rI)) → Q .ret E' H') :
    vcC ⟨Tryz.prog, none, nt⟩ (loopC Tryz.f14 3) (hdE (ukE bm c) [(6, .nils), (7, aI 0), (12, .own 51 h)]) (hcat [(51, .seq h 3 1 ((itP c l0 i).map rI))] (ukH bm g h7 c s))
      (LoopQ Q fun E' H' => ∃ s', itP c l0 (i + 1) ≠ itP c l0 i ∧ (∀ p ∈ [(6, .nils), (7, aI 0), (12, .own 50 s')], wk (E' p.1) p.2) ∧ (∀ p ∈ ukE bm c, E' p.1 = p.2) ∧ subN (hcat [(50, .seq s' 3 1 ((itP c l0 (i + 1)).map rI))] (ukH bm g h7 c s)) H') := by
  refine vc_part rfl ?_
  have hact := hf.act
  have hin := hf.inp
  have hsg := hf.sig
  have hcn : countC c = firstC c + c.signals.length := rfl
  obtain ⟨f, hf0⟩ : ∃ f : Nat, firstC c = f := ⟨(firstC c).toNat, by unfold firstC; omega⟩
  have hf1 : f ≤ 100 := by have : firstC c = 2 * c.actuators + c.inputs.length := rfl; omega
  have hat : ∀ i, atP c i = f + i := by intro i; simp only [atP]; omega
  have hil := itP_len c l0 i
  have hil2 := itP_a3 hf ha0 i
  have hil3 := itP_len c l0 (i + 1)
  have heq := eqI_fn (itP c l0 i) (itP c l0 (i + 1)) (by unfold Sh; omega) (by unfold Sh; omega)
  have hfin := fun h => it_final (c := c) (l := l0) (k := i) hi h
  have hnx : itP c l0 (i + 1) = nextT c (gateT c (itP c l0 i) c.signals.length) c.signals.length := rfl
  generalize itP c l0 (i + 1) = l2 at *
  generalize itP c l0 i = l1 at *
  simp
  refine (cloneI_o l1 (by omega)).lend 95 (by simp [hget]) (by simp) fun hb => ?_
  simp
  refine V.forI (σ := Unit) c.signals.length [3, 6, 7, 8, 12, 17, 95, 96, 97, 98, 99] (by simp; exact rfl) (fun k _ => [(100, aI k)]) (fun k _ => [(51, .seq h 3 1 ((gateT c l1 k).map rI))]) (fun _ _ => True) () trivial (by simp) ⟨by simp; exact rfl, by simp [gateT, hget, hdel]⟩ ?_ ?_
  · rintro k - hk -
    obtain ⟨x, hx⟩ : ∃ x, c.signals[k] = x := ⟨_, rfl⟩
    have hxo : c.signals[k]? = some x := by rw [List.getElem?_eq_getElem hk, hx]
    have hgl := gateT_len c l1 k
    have hga := gateT_a3 hf hil2 k
    have hon := (right_of_check (hf.on hxo).1).1
    rw [gateT_at hxo, hat]
    generalize gateT c l1 k = q at *
    have ct := three_fn (SizeOf.sizeOf x.on + 1) x.on (by omega) (hc.sigs x (List.mem_of_getElem? hxo)).on q (by omega) hga (by rw [hgl, hil, hl0]; exact hon)
    generalize thE x.on q = v at *
    have hlq : f + k < q.length := by omega
    have htn : ((f : Int) + k).toNat = f + k := by omega
    obtain ⟨q0, hqv⟩ : ∃ q0, q[f + k] = q0 := ⟨_, rfl⟩
    have hqx : q[f + k]? = some q0 := by rw [List.getElem?_eq_getElem hlq, hqv]
    by_cases hkd : x.kind = 0
    · simp [hk, hx, hkd]
      intro b19
      refine V.drawX (fun q => if q = 118 then some (.ro (aI v)) else none) (by kernel_rfl) (by kernel_rfl) (by simp) ?_
      simp [mcA, hk, hx, hf0, htn, hqx, hlq, rI]
      exact ⟨by omega, ct.lend (by simp [hget]) (by simp) ⟨rfl, rfl⟩, by omega, by kernel_rfl, by omega, by simp [hkd, rI]⟩
    · simp [hk, hx, hkd]
      omega
  · rintro - -
    have hgl := gateT_len c l1 c.signals.length
    have hga := gateT_a3 hf hil2 c.signals.length
    generalize gateT c l1 c.signals.length = q at *
    simp
    refine (cloneI_o q (by omega)).lend 50 (by simp [hget]) (by simp) fun hn => ?_
    simp
    refine V.forI (σ := Unit) c.signals.length [3, 6, 7, 8, 12, 17, 18, 19, 20, 95, 96, 97, 98, 99, 100, 101, 102, 103, 104, 105, 106, 107, 108, 109, 110, 111, 112, 113, 114, 115, 116, 117, 118, 119, 120, 121, 122, 123, 124, 125] (by simp; exact rfl) (fun k _ => [(126, aI k)]) (fun k _ => [(50, .seq hn 3 1 ((nextT c q k).map rI))]) (fun _ _ => True) () trivial (by simp) ⟨by simp; exact rfl, by simp [nextT, hget, hdel]⟩ ?_ ?_
    · rintro k - hk -
      obtain ⟨x, hx⟩ : ∃ x, c.signals[k] = x := ⟨_, rfl⟩
      have hxo : c.signals[k]? = some x := by rw [List.getElem?_eq_getElem hk, hx]
      have hnl := nextT_len c q k
      have hon := hf.on hxo
      have r1 := (right_of_check hon.1).1
      have hlq : f + k < q.length := by omega
      have htn : ((f : Int) + k).toNat = f + k := by omega
      obtain ⟨q0, hqv⟩ : ∃ q0, q[f + k] = q0 := ⟨_, rfl⟩
      have hqx : q[f + k]? = some q0 := by rw [List.getElem?_eq_getElem hlq, hqv]
      have hgd : q.getD (f + k) 0 = q0 := by rw [List.getD_eq_getElem?_getD, hqx]; rfl
      rw [nextT_at hxo, hat, hgd]
      generalize nextT c q k = z at *
      have hlz : f + k < z.length := by omega
      obtain ⟨z0, hzv⟩ : ∃ z0, z[f + k] = z0 := ⟨_, rfl⟩
      have hzx : z[f + k]? = some z0 := by rw [List.getElem?_eq_getElem hlz, hzv]
      by_cases hkd : x.kind = 0
      · simp [mcA, hk, hx, hkd, hf0]
        omega
      · have cm := might_fn x q0 q (hc.sigs x (List.mem_of_getElem? hxo)) (by omega) (by omega) hga (by rw [hgl, hil, hl0]; exact r1) (fun h1 => by rw [hgl, hil, hl0]; exact (right_of_check (off_ok hf hxo h1)).1)
        generalize mightP x q0 q = mv at *
        have jn := join_fn q0 [mv] (by simp)
        generalize joinL [q0, mv] = jv at *
        simp [mcA, hk, hx, hkd, hf0]
        intro b22
        refine ⟨by omega, ?_⟩
        refine V.drawX (fun q => if q = 152 then some (.ro (aI mv)) else if q = 154 then some (.fn (aI jv)) else none) (by kernel_rfl) (by kernel_rfl) (by simp) ?_
        simp [hk, hx, hlq, htn, hqx, hqv, hzx, hlz, rI]
        exact ⟨by omega, cm.lend (by simp [hget, encSt]) (by simp) ⟨rfl, rfl⟩, jn, by omega, by kernel_rfl, by omega, by simp [hkd, rI], hf0.symm⟩
    · rintro - -
      rw [← hnx]
      by_cases hr : l2 = l1
      · have h2 := hfin hr
        have hb2 : decide (l1 = l2) = true := by simp [hr]
        rw [hb2] at heq
        simp
        refine heq.lend (by simp [hget]) (by simp) ?_
        simp
        have h3 : l2 = finalP c l0 := hr.trans h2
        exact hQ _ _ hn (by simp) (by simp) (by simp [h3])
      · have hb2 : decide (l1 = l2) = false := by simp; exact fun e => hr e.symm
        rw [hb2] at heq
        simp
        refine heq.lend (by simp [hget]) (by simp) ?_
        simp [hr]

end Go.Proofs.YtakndgpdolfenaaGreat
end

/- Contracts: settle.Unknown. -/
section
namespace Go.Proofs.YtakndgpdolfenaaGreat
set_option maxHeartbeats 4000000
set_option maxRecDepth 10000

theorem Unknown_fn (c : Control) (s : State) (ks : List Int) (hc : OkC c) (hs : SmS s) (hk : ks.length ≤ 1000) :
    CallFn Tryz.prog 14 [aC c, aSt s, aIs ks] (.tuple [aIs (unknownR c s ks).1, aI (unknownR c s ks).2]) := by
  refine callFz_of Tryz.func14 rfl Tryz.ntmps14 (rs := [.tmp 6, .tmp 7]) rfl (by kernel_rfl) (by simp) (by kernel_rfl) ?_
  simp
  refine (of_s c s hc hs).mono ?_
  rintro r H' ⟨k1, k2⟩
  unfold unknownR
  by_cases hz : rightC c s = 0
  · obtain ⟨z1, z2, z3⟩ := right_zero hz
    obtain ⟨bm, g, rfl, rfl⟩ := k1 hz
    clear k1 k2
    have hf := fine_of z1
    have hact := hf.act
    have hin := hf.inp
    have hsg := hf.sig
    have hcn : countC c = 2 * c.actuators + c.inputs.length + c.signals.length := rfl
    have hL := valuesOf_length z2
    by_cases h16 : 16 < ks.length
    · have h16' : (16 : Int) < ks.length := by omega
      simp [hz, h16, h16', mcH]
    · have h16' : ¬ (16 : Int) < ks.length := by omega
      have hall := inputsE_all (n := c.inputs.length) (ks := ks) (p := -1)
      simp only [hz, h16, ne_eq, not_true, if_false]
      obtain ⟨R, hR⟩ : ∃ R, inputsE c.inputs.length (-1) ks = R := ⟨_, rfl⟩
      rw [hR] at hall ⊢
      have h0 : R = inputsE c.inputs.length (prevK ks 0) (ks.drop 0) := by rw [← hR]; rfl
      simp [h16', mcH]
      refine V.forI (σ := Unit) ks.length [2, 3, 8, 36, 37] (by simp; exact rfl) (fun i _ => [(6, .nils), (7, aI 0), (38, aI i)]) (fun _ _ => []) (fun i _ => R = inputsE c.inputs.length (prevK ks i) (ks.drop i)) () h0 (by simp) ⟨by simp; exact rfl, by simp [hget, hdel]⟩ ?_ ?_
      · rintro i - hi hI
        obtain ⟨y, hy⟩ : ∃ y, ks[i] = y := ⟨_, rfl⟩
        have hyo : ks[i]? = some y := by rw [List.getElem?_eq_getElem hi, hy]
        rw [inputsE_step hyo] at hI
        by_cases h1 : y < 0
        · rw [if_pos (.inl h1)] at hI
          simp [hi, hy, h1, hI]
        · by_cases h2 : (c.inputs.length : Int) ≤ y
          · rw [if_pos (.inr h2)] at hI
            simp [hi, hy, h1, h2, hI]
          · rw [if_neg (by omega)] at hI
            cases i with
            | zero =>
              rw [if_neg (by simp [prevK]; omega)] at hI
              simp [hi, hyo, hy, h1, h2]
              simpa using hI
            | succ j =>
              have hj : j < ks.length := by omega
              have hji : (j : Int) + 1 < ks.length := by omega
              obtain ⟨w, hw⟩ : ∃ w, ks[j] = w := ⟨_, rfl⟩
              have hwo : ks[j]? = some w := by rw [List.getElem?_eq_getElem hj, hw]
              have hpk : prevK ks (j + 1) = w := by
                unfold prevK
                rw [if_neg (by omega), Nat.add_sub_cancel, List.getD_eq_getElem?_getD, hwo]
                rfl
              rw [hpk] at hI
              have hj1 : ((j + 1 : Nat) : Int) - 1 = j := by omega
              by_cases h3 : y ≤ w
              · rw [if_pos h3] at hI
                simp [hi, hj, hy, hw, hj1, h1, h2, h3, hI, hji]
                omega
              · rw [if_neg h3] at hI
                simp [hi, hj, hy, hw, hj1, h1, h2, h3, hji]
                exact ⟨by omega, by omega, by omega, hI⟩
      · rintro - hI
        rw [List.drop_length] at hI
        simp only [inputsE] at hI
        subst hI
        have hks := hall rfl
        simp
        refine lines_s (bm := bm) (c := c) (g := g) (s := s) hs 71 ⟨[], by simp [mcH]⟩ fun h7 => ?_
        have hsta : startU c s ks = setU c (numL (valuesOf s)) ks := rfl
        obtain ⟨vs, hvs⟩ : ∃ vs, valuesOf s = vs := ⟨_, rfl⟩
        rw [hvs] at hL hsta ⊢
        simp
        refine V.forI (σ := Value) vs.length [2, 3, 6, 7, 8, 67, 68] (by simp; exact rfl) (fun i h => [(69, aI i), (12, .own 50 h)]) (fun i h => [(50, .seq h 3 1 ((numL (vs.take i)).map rI))]) (fun _ _ => True) (.slice none 0 0) trivial (by simp) ⟨by simp; exact rfl, by simp [numL]⟩ ?_ ?_
        · rintro i h hi -
          obtain ⟨y, hy⟩ : ∃ y, vs[i] = y := ⟨_, rfl⟩
          have hyo : vs[i]? = some y := by rw [List.getElem?_eq_getElem hi, hy]
          have hnl := numL_len (vs.take i)
          rw [List.length_take] at hnl
          rw [numL_take hyo]
          generalize numL (vs.take i) = zs at *
          cases y
          · simp [hi, hyo, hy, rI, rB]
            omega
          · simp [hi, hyo, hy, rI, rB]
            omega
        · rintro h -
          rw [List.take_length]
          have hnl := numL_len vs
          have hna := numL_a3 vs
          generalize numL vs = zs at *
          simp
          refine V.forI (σ := Unit) ks.length [3, 6, 7, 8, 12, 81, 82] (by simp; exact rfl) (fun i _ => [(83, aI i)]) (fun i _ => [(50, .seq h 3 1 ((setU c zs (ks.take i)).map rI))]) (fun _ _ => True) () trivial (by simp) ⟨by simp; exact rfl, by simp [setU]⟩ ?_ ?_
          · rintro i - hi -
            obtain ⟨y, hy⟩ : ∃ y, ks[i] = y := ⟨_, rfl⟩
            have hyo : ks[i]? = some y := by rw [List.getElem?_eq_getElem hi, hy]
            have hy2 := hks y (List.mem_of_getElem? hyo)
            have hsl := setU_len c (ks.take i) zs
            rw [setU_take hyo]
            generalize setU c zs (ks.take i) = q at *
            obtain ⟨f, hfe⟩ : ∃ f : Nat, 2 * c.actuators + y = f := ⟨(2 * c.actuators + y).toNat, by omega⟩
            have hfq : f < q.length := by omega
            rw [hfe]
            have hqx : q[f]? = some q[f] := List.getElem?_eq_getElem hfq
            simp [hi, hy, hfe, hqx, rI]
            omega
          · rintro - -
            rw [List.take_length]
            have hsl := setU_len c ks zs
            have hsa := setU_a3 c ks zs hna
            rw [hsta]
            generalize setU c zs ks = l0 at *
            have hl0 : (l0.length : Int) = countC c := by omega
            subst hvs
            simp
            refine V.forI (σ := Value) (c.signals.length + 3) [3, 8] (by simp; exact rfl) (fun i h => [(6, .nils), (7, aI 0), (12, .own (50 + i % 2) h)]) (fun i h => [(50 + i % 2, .seq h 3 1 ((itP c l0 i).map rI))]) (fun i _ => ∀ j < i, itP c l0 (j + 1) ≠ itP c l0 j) h (by simp) (by simp) ⟨by simp; exact rfl, by simp [itP, hget, hdel]⟩ ?_ ?_
            · rintro i h hi hI
              rcases Nat.mod_two_eq_zero_or_one i with hp | hp
              · have hp1 : (i + 1) % 2 = 1 := by omega
                simp only [hp, hp1, Nat.add_zero, Nat.reduceAdd]
                refine vcC_mono _ ?_ (vc_of_part rfl (unk_r0 (Q := blockQ 7 (RetV Tryz.prog [.tmp 6, .tmp 7] fun r' H' => (frz H' r').1 ∧ (frz H' r').2 = .tuple [aIs (if ¬(0 : Int) = 0 then ([], 0) else (finalP c l0, (0 : Int))).1, aI (if ¬(0 : Int) = 0 then ([], 0) else (finalP c l0, (0 : Int))).2])) hc hf hl0 hsa (by omega) ?_))
                · intro e E' H' hq
                  cases e with
                  | normal =>
                    obtain ⟨s', h1, h2⟩ := hq
                    refine ⟨s', fun j hj => ?_, h2⟩
                    rcases Nat.lt_or_ge j i with h3 | h3
                    · exact hI j h3
                    · obtain rfl : j = i := by omega
                      exact h1
                  | _ => exact hq
                · intro E' H' hh h6 h7 hg
                  simp [h6, h7, hg]
              · have hp1 : (i + 1) % 2 = 0 := by omega
                simp only [hp, hp1, Nat.add_zero, Nat.reduceAdd]
                refine vcC_mono _ ?_ (vc_of_part rfl (unk_r1 (Q := blockQ 7 (RetV Tryz.prog [.tmp 6, .tmp 7] fun r' H' => (frz H' r').1 ∧ (frz H' r').2 = .tuple [aIs (if ¬(0 : Int) = 0 then ([], 0) else (finalP c l0, (0 : Int))).1, aI (if ¬(0 : Int) = 0 then ([], 0) else (finalP c l0, (0 : Int))).2])) hc hf hl0 hsa (by omega) ?_))
                · intro e E' H' hq
                  cases e with
                  | normal =>
                    obtain ⟨s', h1, h2⟩ := hq
                    refine ⟨s', fun j hj => ?_, h2⟩
                    rcases Nat.lt_or_ge j i with h3 | h3
                    · exact hI j h3
                    · obtain rfl : j = i := by omega
                      exact h1
                  | _ => exact hq
                · intro E' H' hh h6 h7 hg
                  simp [h6, h7, hg]
            · rintro h hI
              exact absurd (it_rest hf hl0) (hI (c.signals.length + 1) (by omega))
  · obtain ⟨rfl, rfl⟩ := k2 hz
    simp [hz]

end Go.Proofs.YtakndgpdolfenaaGreat
end

/- Contracts: the reference's rounds: Once. -/
section
namespace Go.Proofs.YtakndgpdolfenaaGreat
set_option maxHeartbeats 4000000
set_option maxRecDepth 10000

end Go.Proofs.YtakndgpdolfenaaGreat
end

/- Contracts: the reference's rounds: course. -/
section
namespace Go.Proofs.YtakndgpdolfenaaGreat
set_option maxHeartbeats 4000000
set_option maxRecDepth 10000

def insM (ns : List Int) (n : Int) : List Int := if n ∈ ns then ns else ns ++ [n]
def addM (ns bad : List Int) : List Int := bad.foldl insM ns
def courseB (c : Control) (s : State) : A := match courseP c 65 0 s [] with
  | some (x, bad, n) => .tuple [aSt x, aIs (compI (sortI bad)), aI n, aB true]
  | none => .tuple [aSt noSt, aIs [], aI 0, aB false]
end Go.Proofs.YtakndgpdolfenaaGreat
end

/- Contracts: the reference's Round, Rests, Rounds, Settle. -/
section
namespace Go.Proofs.YtakndgpdolfenaaGreat
set_option maxHeartbeats 4000000
set_option maxRecDepth 10000

end Go.Proofs.YtakndgpdolfenaaGreat
end

/- Contracts: law 28: Lamp, awake, Few, right. -/
section
namespace Go.Proofs.YtakndgpdolfenaaGreat
set_option maxHeartbeats 4000000
set_option maxRecDepth 10000

theorem line28_fn (n : Int) : CallFn Tryz.prog 87 [aI n] (aE (onX n)) := by
  refine callFz_of Tryz.func87 rfl Tryz.ntmps87 (rs := [.cell 2 47]) rfl (by kernel_rfl) (by simp) (by kernel_rfl) ?_
  simp
  exact ⟨rfl, rfl, rfl⟩
def notX (a : Int) : Expr := ⟨2, 0, [onX a]⟩
def lampC : Control := ⟨1, [[115, 116, 97, 114, 116], [115, 116, 111, 112]], [⟨[103, 111], 1, onX 2, onX 3, 0, false⟩, ⟨[108, 97, 109, 112], 0, notX 4, noX, 0, false⟩], [4], [5]⟩
def lampS (a b : Bool) : State := ⟨[0], [false], [a, b], [false, true], [0, 0]⟩
theorem notX_ok (a : Int) (ha : I64 a) : OkE (notX a) := OkE.mk _ (by simp [notX]) ((inR_i64 _).2 (by simp [notX])) ((inR_i64 _).2 (by simp [notX])) (by
  intro x hx
  simp only [notX, List.mem_cons, List.not_mem_nil, or_false] at hx
  rcases hx with rfl
  exact onX_ok a ha)
theorem lampC_ok : OkC lampC := ⟨by decide, by decide, by decide, by decide, by
  intro s hs
  simp only [lampC, List.mem_cons, List.not_mem_nil, or_false] at hs
  rcases hs with rfl | rfl
  · exact ⟨by decide, by decide, onX_ok 2 (by decide), onX_ok 3 (by decide), by decide⟩
  · exact ⟨by decide, by decide, notX_ok 4 (by decide), noX_ok, by decide⟩, by decide, by decide, by decide, by decide⟩
theorem lamp_check : checkC lampC = 0 := by decide +kernel
theorem lamp_first : firstSt lampC = lampS false false := by decide +kernel
theorem lampS_ok (a b : Bool) : SmS (lampS a b) := by constructor <;> simp [lampS]
theorem lamp_c1 : courseP lampC 65 0 (lampS true false) [] = some (⟨[0], [false], [true, false], [true, false], [0, 0]⟩, [], 2) := by decide +kernel
theorem lamp_r1 : rightC lampC (lampS true false) = 0 := by decide +kernel
theorem comp_nil : compI (sortI []) = [] := by
  rw [uniq_met (M := 6) (p := fun _ => false) (by decide) (by decide)]
  decide +kernel
theorem lamp_s1 : settleR lampC (lampS true false) = (⟨[0], [false], [true, false], [true, false], [0, 0]⟩, [], 0) := by
  unfold settleR courseR
  rw [lamp_r1, lamp_c1]
  simp [comp_nil]
theorem lamp_enc : encC lampC = [.int .i64 1, .sl [[.str [115, 116, 97, 114, 116]], [.str [115, 116, 111, 112]]], .sl [[.str [103, 111], .int .i64 1, .int .i64 (onX 2).op, .int .i64 (onX 2).index, .sl ((onX 2).args.map encE), .int .i64 (onX 3).op, .int .i64 (onX 3).index, .sl ((onX 3).args.map encE), .int .i64 0, .bool false],
    [.str [108, 97, 109, 112], .int .i64 0, .int .i64 2, .int .i64 0, .sl [[.int .i64 (onX 4).op, .int .i64 (onX 4).index, .sl ((onX 4).args.map encE)]], .int .i64 0, .int .i64 0, .sl [], .int .i64 0, .bool false]], .sl [[.int .i64 4]], .sl [[.int .i64 5]]] := by
  simp [lampC, notX, noX, encE_eq]
theorem Lamp_fn (a b : Bool) : CallFn Tryz.prog 46 [aB a, aB b] (.tuple [aC lampC, aSt (lampS a b)]) := by
  have l2 := line28_fn 2
  have l3 := line28_fn 3
  have l4 := line28_fn 4
  have lb := beginR_fn lampC lampC_ok (fine_of lamp_check)
  rw [lamp_first] at lb
  refine callFz_of Tryz.func46 rfl Tryz.ntmps46 (rs := [.cell 4 26, .cell 5 29]) rfl (by kernel_rfl) (by simp) (by kernel_rfl) ?_
  simp
  intro b4 b5
  refine l2.s ?_
  simp
  refine l3.s ?_
  simp
  refine l4.s ?_
  simp
  intro b7
  unfold aC at lb
  rw [lamp_enc] at lb
  refine lb.s ?_
  simp
  intro b8
  refine V.drawX (fun _ => none) (by kernel_rfl) (by kernel_rfl) (by simp) ?_
  simp
  exact ⟨⟨rfl, rfl, by simp [lampC, notX, noX, encE_eq], rfl, rfl⟩, rfl, rfl, rfl, rfl, rfl⟩

theorem Few28_fn (c : Control) (s : State) (hc : OkC c) (hs : OkSt s) : CallFn Tryz.prog 37 [aC c, aSt s] (aB (fewC c && fewS s)) := by
  refine callFz_of Tryz.func37 rfl Tryz.ntmps37 (rs := [.tmp 4]) rfl (by kernel_rfl) (by simp) (by kernel_rfl) ?_
  simp
  refine (Few_fn c hc).s ?_
  simp
  refine GCall.fn (aB (fewS s)) (fun h => ⟨by first | trivial | exact h, FewStates_fn s hs⟩) ?_
  simp
end Go.Proofs.YtakndgpdolfenaaGreat
end
