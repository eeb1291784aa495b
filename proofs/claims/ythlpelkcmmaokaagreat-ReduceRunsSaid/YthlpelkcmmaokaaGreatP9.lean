/- Texts joined by a program: Sa, Sb, Sc, Sd, Se, Sg. -/
import Derived.Test.YthlpelkcmmaokaaGreatP2
import Derived.Test.YthlpelkcmmaokaaGreatP3
import Derived.Test.YthlpelkcmmaokaaGreatP1
import Derived.Test.YthlpelkcmmaokaaGreatPZ
set_option linter.unusedSimpArgs false
set_option linter.unusedVariables false

/- Contracts: settle's machine. -/
section
namespace Go.Proofs.YthlpelkcmmaokaaGreat
set_option maxHeartbeats 4000000
set_option maxRecDepth 10000

/-! ### Values of expressions -/
theorem idxE_fn (xs : List Expr) (p : Expr → Bool) (f : FuncId) (first caps : List A) (hx : Sh xs) (hp : ∀ x ∈ xs, CallFn Tryz.prog f (first ++ [aE x] ++ caps) (aB (p x))) :
    CallFn Tryz.prog 182 [.dat (.sl (xs.map encE)), .fn f first caps] (aI (idxI (xs.findIdx? p))) := by
  refine callFz_of Tryz.func182 rfl Tryz.ntmps182 (rs := [.tmp 4]) rfl (by kernel_rfl) (by simp) (by kernel_rfl) ?_
  simp
  refine V.forI (σ := Unit) xs.length [0, 1, 7] (by simp; exact rfl) (fun i _ => [(8, aI i)]) (fun _ _ => []) (fun i _ => NoF p (xs.take i)) () (by simp) (by simp) ⟨by simp; exact rfl, by simp⟩ ?_ ?_
  · rintro i - hi hI
    obtain ⟨y, hy⟩ : ∃ y, xs[i] = y := ⟨_, rfl⟩
    have h1 : xs[i]? = some y := by rw [List.getElem?_eq_getElem hi, hy]
    have hs := findIdx_step (p := p) hI h1
    have hc := hp y (List.mem_of_getElem? h1)
    simp at hc
    simp [hi, hy, encE_eq]
    refine hc.s ?_
    cases e : p y
    · simp
      exact ⟨by omega, hs.1 e⟩
    · rw [hs.2 e]
      simp
  · rintro - hI
    rw [findIdx_none hI]
    simp
theorem containsE_fn (xs : List Expr) (p : Expr → Bool) (f : FuncId) (first caps : List A) (hx : Sh xs) (hp : ∀ x ∈ xs, CallFn Tryz.prog f (first ++ [aE x] ++ caps) (aB (p x))) :
    CallFn Tryz.prog 167 [.dat (.sl (xs.map encE)), .fn f first caps] (aB (xs.any p)) := by
  refine callFz_of Tryz.func167 rfl Tryz.ntmps167 (rs := [.tmp 4]) rfl (by kernel_rfl) (by simp) (by kernel_rfl) ?_
  simp
  refine (idxE_fn xs p f first caps hx hp).s ?_
  simp
  rw [idxI_ge, List.findIdx?_isSome]

theorem value_fn : ∀ (N : Nat) (x : Expr), SizeOf.sizeOf x < N → OkE x → ∀ vs : List Bool, vs.length ≤ 256 → RightE vs.length x → CallFn Tryz.prog 138 [aE x, aBs vs] (aB (evalE x vs))
  | 0, _, h, _, _, _, _ => absurd h (Nat.not_lt_zero _)
  | N + 1, x, hN, hx, vs, hv, hr => by
    have ih : ∀ a ∈ x.args, CallFn Tryz.prog 138 [aE a, aBs vs] (aB (evalE a vs)) := fun a ha => value_fn N a (by have := Expr.lt_of_mem ha; omega) (hx.args a ha) vs hv (hr.args a ha)
    have v1 : ∀ a ∈ x.args, CallFn Tryz.prog 168 ([] ++ [aE a] ++ [.rptr [.sl (vs.map encB)]]) (aB (!evalE a vs)) := by
      intro a ha
      have c := ih a ha
      generalize evalE a vs = b at *
      refine callFz_of Tryz.func168 rfl Tryz.ntmps168 (rs := [.tmp 3]) rfl (by kernel_rfl) (by simp) (by kernel_rfl) ?_
      simp
      refine c.s ?_
      simp
    have v2 : ∀ a ∈ x.args, CallFn Tryz.prog 169 ([] ++ [aE a] ++ [.rptr [.sl (vs.map encB)]]) (aB (evalE a vs)) := by
      intro a ha
      have c := ih a ha
      generalize evalE a vs = b at *
      refine callFz_of Tryz.func169 rfl Tryz.ntmps169 (rs := [.tmp 3]) rfl (by kernel_rfl) (by simp) (by kernel_rfl) ?_
      simp
      refine c.s ?_
      simp
    have k1 := containsE_fn x.args (fun a => !evalE a vs) 168 [] [.rptr [.sl (vs.map encB)]] hx.len v1
    have k2 := containsE_fn x.args (fun a => evalE a vs) 169 [] [.rptr [.sl (vs.map encB)]] hx.len v2
    have hn := hr.node
    have hlen := hx.len
    have hop : 0 ≤ x.op ∧ x.op < 5 := by
      unfold nodeR at hn
      split at hn <;> omega
    obtain ho | ho | ho | ho | ho : x.op = 0 ∨ x.op = 1 ∨ x.op = 2 ∨ x.op = 3 ∨ x.op = 4 := by omega
    · refine callFz_of Tryz.func138 rfl Tryz.ntmps138 (rs := [.tmp 4]) rfl (by kernel_rfl) (by simp) (by kernel_rfl) ?_
      simp [ho, evalE_eq x]
    · have hix : 0 ≤ x.index ∧ x.index < vs.length := by
        simp [nodeR, ho] at hn
        omega
      obtain ⟨k, hk⟩ : ∃ k : Nat, x.index = k := ⟨x.index.toNat, by omega⟩
      rw [hk] at hix
      have hkl : k < vs.length := by omega
      refine callFz_of Tryz.func138 rfl Tryz.ntmps138 (rs := [.tmp 4]) rfl (by kernel_rfl) (by simp) (by kernel_rfl) ?_
      simp [ho, hk, hkl, evalE_eq x]
    · have hl : x.args.length = 1 := by
        simp [nodeR, ho] at hn
        split at hn
        · cases hn
        · omega
      obtain ⟨y, hy⟩ : ∃ y, x.args = [y] := List.length_eq_one_iff.1 hl
      have e : evalE x vs = !(evalE y vs) := by
        rw [evalE_eq, if_neg (by omega), if_neg (by omega), if_pos ho, hy]
        simp [evalL]
      have c := ih y (by simp [hy])
      rw [e]
      generalize evalE y vs = b at *
      refine callFz_of Tryz.func138 rfl Tryz.ntmps138 (rs := [.tmp 4]) rfl (by kernel_rfl) (by simp) (by kernel_rfl) ?_
      simp [ho, hy]
      refine V.draw (fun t => if t = 26 then some (.fn (aB b)) else none) (by kernel_rfl) (by kernel_rfl) (by simp) ?_
      simp [ho, hy, encE_eq]
      exact c
    · have e : evalE x vs = !(x.args.any fun a => !evalE a vs) := by
        rw [evalE_eq, if_neg (by omega), if_neg (by omega), if_neg (by omega), if_pos ho, evalL_all, allT]
        exact List.all_eq_not_any_not
      rw [e]
      generalize (x.args.any fun a => !evalE a vs) = b at *
      refine callFz_of Tryz.func138 rfl Tryz.ntmps138 (rs := [.tmp 4]) rfl (by kernel_rfl) (by simp) (by kernel_rfl) ?_
      simp [ho]
      refine k1.s ?_
      simp
    · have e : evalE x vs = x.args.any fun a => evalE a vs := by
        rw [evalE_eq, if_neg (by omega), if_neg (by omega), if_neg (by omega), if_neg (by omega), evalL_any, anyT]
      rw [e]
      generalize (x.args.any fun a => evalE a vs) = b at *
      refine callFz_of Tryz.func138 rfl Tryz.ntmps138 (rs := [.tmp 4]) rfl (by kernel_rfl) (by simp) (by kernel_rfl) ?_
      simp [ho]
      refine k2.s ?_
      simp

/-! ### Rules -/
abbrev aCh (v : Bool) (t : Int) (b : Bool) : A := .record [.bool v, .int .i64 t, .bool b]
theorem rule0_fn (v : Bool) (t : Int) (b on off : Bool) : CallFn Tryz.prog 164 [aCh v t b, aB on, aB off] (aCh v t b) := by
  refine callFz_of Tryz.func164 rfl Tryz.ntmps164 (rs := [.cell 6 159]) rfl (by kernel_rfl) (by simp) (by kernel_rfl) ?_
  simp
theorem rule1_fn (v : Bool) (t : Int) (b on off : Bool) : CallFn Tryz.prog 165 [aCh v t b, aB on, aB off] (aCh (if on != off then on else v) t (on && off)) := by
  refine CallS.agg (az := []) ?_
  refine callFz_of Tryz.func165 rfl Tryz.ntmps165 (rs := [.cell 6 159]) rfl (by kernel_rfl) (by simp) (by kernel_rfl) ?_
  cases on <;> cases off <;> simp
theorem rule2_fn (v : Bool) (t : Int) (on off : Bool) : CallFn Tryz.prog 166 [aCh v t false, aB on, aB off] (aCh (if on = false then false else v) (if on = false then 0 else if t = 0 then 1 else t) false) := by
  refine CallS.agg (az := []) ?_
  refine callFz_of Tryz.func166 rfl Tryz.ntmps166 (rs := [.cell 6 159]) rfl (by kernel_rfl) (by simp) (by kernel_rfl) ?_
  cases on
  · simp
  · by_cases ht : t = 0 <;> simp [ht]
abbrev rulesA : List A := [.fn 164 [] [], .fn 165 [] [], .fn 166 [] []]
theorem rules_fn : CallFn Tryz.prog 137 [] (.agg rulesA) := by
  refine callFz_of Tryz.func137 rfl Tryz.ntmps137 (rs := [.cell 0 156]) rfl (by kernel_rfl) (by simp) (by kernel_rfl) ?_
  simp

/-! ### Slices of bools, one behind the other -/
theorem growB_o (n : Int) (h0 : 0 ≤ n) (h1 : n ≤ 4294967296) : CallOwn Tryz.prog 181 [.nils, aI n] 4 1 [] := by
  refine callO_of Tryz.func181 rfl Tryz.ntmps181 (rs := [.tmp 4]) rfl (by kernel_rfl) (by simp) (by kernel_rfl) ?_
  by_cases hn : 0 < n
  · simp [hn, Int.not_lt.2 h0]
    omega
  · have e : n = 0 := by omega
    subst e
    simp
def sumB (xss : List (List Bool)) : Nat := (xss.map List.length).sum
theorem concatB_o (xss : List (List Bool)) (h : sumB xss ≤ 4294967296) (h1 : xss.length ≤ 4294967296) : CallOwn Tryz.prog 163 [.dat (.sl (xss.map fun xs => [.sl (xs.map encB)]))] 4 1 (xss.flatten.map rB) := by
  refine callO_of Tryz.func163 rfl Tryz.ntmps163 (rs := [.tmp 2]) rfl (by kernel_rfl) (by simp) (by kernel_rfl) ?_
  have hle : ∀ i, (xss.take i).flatten.length ≤ sumB xss := by
    intro i
    have e : xss = xss.take i ++ xss.drop i := (List.take_append_drop i xss).symm
    have : sumB xss = sumB (xss.take i) + sumB (xss.drop i) := by
      unfold sumB
      conv => lhs; rw [e]
      rw [List.map_append, List.sum_append]
    rw [List.length_flatten]
    unfold sumB at this ⊢
    omega
  have hst : ∀ i y, xss[i]? = some y → (xss.take (i + 1)).flatten = (xss.take i).flatten ++ y := by
    intro i y hy
    rw [List.take_add_one, hy]
    simp
  obtain ⟨L, hL⟩ : ∃ L : Nat → Nat, ∀ i, L i = (xss.take i).flatten.length := ⟨_, fun _ => rfl⟩
  have hL0 : L 0 = 0 := by simp [hL]
  have hLs : ∀ i y, xss[i]? = some y → L (i + 1) = L i + y.length := by
    intro i y hy
    rw [hL, hL, hst i y hy, List.length_append]
  have hLm : ∀ i, L i ≤ sumB xss := fun i => by rw [hL]; exact hle i
  simp
  refine V.forI (σ := Unit) xss.length [0, 2, 9, 10] (by simp; exact rfl) (fun i _ => [(11, aI i), (3, aI (L i))]) (fun _ _ => []) (fun _ _ => True) () (by simp) (by simp [hL0]) ⟨by simp; exact rfl, by simp⟩ ?_ ?_
  · rintro i - hi -
    have hy := List.getElem?_eq_getElem hi
    have hs := hLs i _ hy
    have hl := hLm (i + 1)
    simp [hi, hs]
    omega
  · rintro - -
    have hl := hLm xss.length
    simp
    refine (growB_o _ (by omega) (by omega)).s 50 ?_
    intro hd
    simp
    refine V.forL (γ := Value) xss [2, 25, 26] (by simp; exact rfl) (fun i _ g => [(27, aI i), (6, .own 50 g)]) (fun i _ g => [(50, .seq g 4 1 ((xss.take i).flatten.map rB))]) (fun (_ : Unit) (_ : List Bool) => (Except.ok () : Except Unit Unit)) (fun _ _ => True) () hd trivial (by simp) ⟨by simp; exact rfl, by simp⟩ ?_ ?_
    · rintro i - g y hi hy - -
      have hy' : xss[i]? = some y := by rw [List.getElem?_eq_getElem hi, hy]
      have hs := hst i _ hy'
      have hl2 := hle (i + 1)
      rw [hs, List.length_append] at hl2
      rw [hs]
      generalize (xss.take i).flatten = zs at hl2
      simp [hi, hy]
      omega
    · rintro - g - -
      simp
/-! ### The machine -/
/-- The machine's cells, as data. -/
abbrev encM (c : Control) (s : State) : List L := encC c ++ (encSt s ++ [.int .i64 (firstC c)])
theorem lines_d (c : Control) (s : State) (h : SmS s) : CallOwn Tryz.prog 136 [.rptr (encM c s)] 4 1 ((valuesOf s).map rB) := by
  obtain ⟨h1, h2, h3, h4, h5⟩ := h
  refine callO_of Tryz.func136 rfl Tryz.ntmps136 (rs := [.tmp 2]) rfl (by kernel_rfl) (by simp) (by kernel_rfl) ?_
  simp
  refine V.forI (σ := Value) s.ends.length [0, 2, 10, 11] (by simp; exact rfl) (fun i g => [(12, aI i), (3, .own 50 g)]) (fun i g => [(50, .seq g 4 1 ((endsV (s.ends.take i)).map rB))]) (fun _ _ => True) (.slice none 0 0) trivial (by simp) ⟨by simp; exact rfl, by simp [endsV]⟩ ?_ ?_
  · rintro i g hi -
    obtain ⟨x, hx⟩ : ∃ x, s.ends[i] = x := ⟨_, rfl⟩
    have hs := endsV_take (show s.ends[i]? = some x by rw [List.getElem?_eq_getElem hi, hx])
    have hl := endsV_length (s.ends.take i)
    rw [List.length_take] at hl
    rw [hs]
    generalize endsV (s.ends.take i) = zs at hl ⊢
    simp [hi, hx]
    omega
  · rintro g -
    have hl := endsV_length s.ends
    rw [List.take_length]
    have hv : valuesOf s = endsV s.ends ++ s.inputs ++ s.values := rfl
    rw [hv]
    generalize endsV s.ends = zs at hl ⊢
    simp
    refine V.frz1 3 (τ := 50) (h := g) (e := 4) (sz := 1) (rows := zs.map rB) (by simp) (by simp [hget]) (by simp) ?_
    refine V.draw (fun t => if t = 36 then some (.own 4 1 ((zs ++ s.inputs ++ s.values).map rB)) else none) (by kernel_rfl) (by kernel_rfl) (by simp [hdel]) ?_
    have hcc := concatB_o [zs, s.inputs, s.values] (by simp [sumB]; omega) (by simp)
    simp at hcc
    simp [hdel]
    exact hcc

end Go.Proofs.YthlpelkcmmaokaaGreat
end

/- Contracts: settle's machine, its methods. -/
section
namespace Go.Proofs.YthlpelkcmmaokaaGreat
set_option maxHeartbeats 4000000
set_option maxRecDepth 10000

/-- The machine of one's own. -/
abbrev mcA (c : Control) (g : Nat → Value) : List A := [.dat (.int .i64 c.actuators), .dat (.sl (c.inputs.map encT)), .dat (.sl (c.signals.map encS)), .dat (.sl (c.plus.map encI)), .dat (.sl (c.minus.map encI)), .own 60 (g 0), .own 61 (g 1), .own 62 (g 2), .own 63 (g 3), .own 64 (g 4), aI (firstC c)]
abbrev mcH (bm : Nat) (c : Control) (g : Nat → Value) (s : State) : Heap := [(70, .box bm (mcA c g)), (60, .seq (g 0) 3 1 (s.ends.map rI)), (61, .seq (g 1) 4 1 (s.valves.map rB)), (62, .seq (g 2) 4 1 (s.inputs.map rB)), (63, .seq (g 3) 4 1 (s.values.map rB)), (64, .seq (g 4) 3 1 (s.timers.map rI))]

theorem lines_s {bm : Nat} {c : Control} {g : Nat → Value} {s : State} (hs : SmS s) (τ : Nat) {H : Heap} {K : A → Heap → Prop} (hH : ∃ R, H = mcH bm c g s ++ R) (hk : ∀ hd, K (.own τ hd) ((τ, .seq hd 4 1 ((valuesOf s).map rB)) :: H)) :
    CallS Tryz.prog 136 [.ptr 70 bm 0] H K := by
  obtain ⟨R, rfl⟩ := hH
  refine (lines_d c s hs).lendP τ (cs := mcA c g) ?_ ?_ ?_ ?_ hk
  · simp [hget]
  · simp [hget, encC, encSt]
  · simp
  · intro h; simp

theorem copied_st (s : State) (h : SmS s) : CallSt 105 [aSt s] s := by
  obtain ⟨h1, h2, h3, h4, h5⟩ := h
  refine CallSt.of (callS_of Tryz.func105 rfl Tryz.ntmps105 (rs := [.cell 2 53]) rfl (by kernel_rfl) (by simp) (by kernel_rfl) ?_)
  simp
  intro b2
  refine V.draw (fun t => if t = 5 then some (.own 3 1 (s.ends.map rI)) else if t = 8 then some (.own 4 1 (s.valves.map rB)) else if t = 11 then some (.own 4 1 (s.inputs.map rB)) else if t = 14 then some (.own 4 1 (s.values.map rB)) else if t = 17 then some (.own 3 1 (s.timers.map rI)) else none) (by kernel_rfl) (by kernel_rfl) (by simp) ?_
  simp
  intro u0
  refine ⟨cloneI_o s.ends (by omega), fun u1 => ⟨cloneB_o s.valves (by omega), fun u2 => ⟨cloneB_o s.inputs (by omega), fun u3 => ⟨cloneB_o s.values (by omega), fun u4 => ⟨cloneI_o s.timers (by omega), ?_⟩⟩⟩⟩⟩
  simp [stAt, hget, hdel]
theorem CallSt.sts {g : FuncId} {az : List A} {s : State} (h : CallSt g az s) : CallSts Tryz.prog g az [(3, 1, s.ends.map rI), (4, 1, s.valves.map rB), (4, 1, s.inputs.map rB), (4, 1, s.values.map rB), (3, 1, s.timers.map rI)] := by
  refine CallS.mono h ?_
  rintro r H' ⟨hh, rfl, rfl⟩
  exact ⟨.agg #[hh 0, hh 1, hh 2, hh 3, hh 4], rfl, rfl⟩

theorem of_s (c : Control) (s : State) (hc : OkC c) (hs : SmS s) : CallS Tryz.prog 71 [aC c, aSt s] [] fun r H' => (rightC c s = 0 → ∃ bm g, r = .tuple [.ptr 70 bm 0, aI 0] ∧ H' = mcH bm c g s) ∧ (rightC c s ≠ 0 → r = .tuple [.nilp, aI (rightC c s)] ∧ H' = []) := by
  have h : CallS Tryz.prog 71 [aC c, aSt s] [] fun r H' => (rightC c s = 0 → ∃ bm u, r = .tuple [.ptr 24 bm 0, aI 0] ∧ subP ((24, .box bm ([.dat (.int .i64 c.actuators), .dat (.sl (c.inputs.map encT)), .dat (.sl (c.signals.map encS)), .dat (.sl (c.plus.map encI)), .dat (.sl (c.minus.map encI)), .own 100150 (uf u 0), .own 100151 (uf u 1), .own 100152 (uf u 2), .own 100153 (uf u 3), .own 100154 (uf u 4), aI (firstC c)])) :: spreadL 100150 0 (hdrsL u 0 [(3, 1, s.ends.map rI), (4, 1, s.valves.map rB), (4, 1, s.inputs.map rB), (4, 1, s.values.map rB), (3, 1, s.timers.map rI)])) H') ∧ (rightC c s ≠ 0 → r = .tuple [.nilp, aI (rightC c s)]) := by
    refine callS_of Tryz.func71 rfl Tryz.ntmps71 (rs := [.tmp 4, .tmp 5]) rfl (by kernel_rfl) (by simp) (by kernel_rfl) ?_
    simp
    refine (Right_fn c s hc hs).s ?_
    simp
    by_cases hz : rightC c s = 0
    · obtain ⟨z1, z2, z3⟩ := right_zero hz
      have hf := fine_of z1
      have ha := hf.act
      have hin := hf.inp
      have hsg := hf.sig
      simp [hz]
      refine V.drawS (fun t => if t = 15 then some (.sts [(3, 1, s.ends.map rI), (4, 1, s.valves.map rB), (4, 1, s.inputs.map rB), (4, 1, s.values.map rB), (3, 1, s.timers.map rI)]) else none) (by kernel_rfl) (by kernel_rfl) (by simp) ?_
      simp
      exact fun u => ⟨(copied_st s hs).sts, by omega, by omega, fun b => ⟨fun _ => ⟨u, subP.refl _⟩, hz⟩⟩
    · simp [hz]
  have h2 := CallS.dropP (K' := fun r H' => (rightC c s = 0 → ∃ bm u, r = .tuple [.ptr 24 bm 0, aI 0] ∧ H' = (24, Ent.box bm ([.dat (.int .i64 c.actuators), .dat (.sl (c.inputs.map encT)), .dat (.sl (c.signals.map encS)), .dat (.sl (c.plus.map encI)), .dat (.sl (c.minus.map encI)), .own 100150 (uf u 0), .own 100151 (uf u 1), .own 100152 (uf u 2), .own 100153 (uf u 3), .own 100154 (uf u 4), aI (firstC c)])) :: spreadL 100150 0 (hdrsL u 0 [(3, 1, s.ends.map rI), (4, 1, s.valves.map rB), (4, 1, s.inputs.map rB), (4, 1, s.values.map rB), (3, 1, s.timers.map rI)])) ∧ (rightC c s ≠ 0 → r = .tuple [.nilp, aI (rightC c s)] ∧ H' = [])) h (by
    rintro r H' ⟨k1, k2⟩
    by_cases hz : rightC c s = 0
    · obtain ⟨bm, u, e1, e2⟩ := k1 hz
      exact ⟨_, e2, fun _ => ⟨bm, u, e1, rfl⟩, fun h => absurd hz h⟩
    · exact ⟨[], ⟨[], List.nil_sublist _, List.Perm.refl _⟩, fun h => absurd h hz, fun _ => ⟨k2 hz, rfl⟩⟩)
  refine ⟨h2.1, fun x args H0 hi hd => (h2.2 x args H0 hi hd).mono ?_⟩
  rintro _ _ ⟨y, v, r, H', rfl, rfl, hle, hi', hv, k1, k2⟩
  by_cases hz : rightC c s = 0
  · obtain ⟨bm, u, rfl, rfl⟩ := k1 hz
    refine ⟨y, v, .tuple [.ptr 70 bm 0, aI 0], mcH bm c (uf u) s, rfl, rfl, hle, ?_, ?_, fun _ => ⟨bm, uf u, rfl, rfl⟩, fun h => absurd hz h⟩
    · have h3 := hi'.same (e' := .box bm (mcA c (uf u))) (fun _ h => h) (by
        rintro ⟨cs, ty, q1, q2⟩
        refine ⟨cs, ty, q1, ?_⟩
        generalize cs.toList = l at q2
        rcases l with _ | ⟨a0, _ | ⟨a1, _ | ⟨a2, _ | ⟨a3, _ | ⟨a4, _ | ⟨a5, _ | ⟨a6, _ | ⟨a7, _ | ⟨a8, _ | ⟨a9, _ | ⟨a10, l⟩⟩⟩⟩⟩⟩⟩⟩⟩⟩⟩ <;> simp only [Ds, D] at q2 ⊢ <;> exact q2)
      exact h3.ents (by simp)
    · simp only [D] at hv ⊢
      obtain ⟨vs, e, hds⟩ := hv
      refine ⟨vs, e, ?_⟩
      generalize vs.toList = l at hds
      rcases l with _ | ⟨a0, _ | ⟨a1, l⟩⟩ <;> simp only [Ds, D] at hds ⊢ <;> exact hds
  · obtain ⟨rfl, rfl⟩ := k2 hz
    exact ⟨y, v, _, [], rfl, rfl, hle, hi', hv, fun h => absurd h hz, fun _ => ⟨rfl, rfl⟩⟩

/-! ### The gates of a machine -/
theorem mgates_s {bm : Nat} {c : Control} {g : Nat → Value} {s : State} (hc : OkC c) (hf : Fine c) (hsh : shapeS c s) : CallS Tryz.prog 135 [.ptr 70 bm 0] (mcH bm c g s) fun _ H' => H' = mcH bm c g (gatesP c s) := by
  have hsm := sm_of hf hsh
  have ha := hf.act
  have hin := hf.inp
  have hsg := hf.sig
  have hpl := preV_length hsh
  refine CallS.dropP (callS_of Tryz.func135 rfl Tryz.ntmps135 (rs := []) rfl (by kernel_rfl) (by simp) (by kernel_rfl) (K := fun _ H' => subP (mcH bm c g (gatesP c s)) H') ?_) (fun _ _ h => ⟨_, h, rfl⟩)
  simp [mcH]
  refine lines_s (bm := bm) (c := c) (g := g) (s := s) hsm 71 ⟨[], by simp⟩ fun h2 => ?_
  simp
  refine V.forI (σ := Unit) c.signals.length [0, 2, 12, 13] (by simp; exact rfl) (fun i _ => [(14, aI i)]) (fun i _ => [(63, .seq (g 3) 4 1 ((gvals c s i).map rB)), (71, .seq h2 4 1 ((preV s ++ gvals c s i).map rB))]) (fun _ _ => True) () trivial (by simp) ⟨by simp; exact rfl, by simp [gvals, hget, hdel, valuesOf_eq]⟩ ?_ ?_
  · rintro i - hi -
    obtain ⟨x, hx⟩ : ∃ x, c.signals[i] = x := ⟨_, rfl⟩
    have hxo : c.signals[i]? = some x := by rw [List.getElem?_eq_getElem hi, hx]
    have hgl := gvals_length c s i
    obtain ⟨hon, -⟩ := hf.on hxo
    obtain ⟨r1, r2, r3⟩ := right_of_check hon
    rw [gvals_at hxo]
    generalize gvals c s i = l at hgl ⊢
    have hil : i < l.length := by obtain ⟨_, _, _, h4, _⟩ := hsh; omega
    have hgi : l[i]? = some l[i] := List.getElem?_eq_getElem hil
    have hl' : ((preV s ++ l).length : Int) = countC c := by
      have := valuesOf_length (c := c) (s := { s with values := l }) ⟨hsh.1, hsh.2.1, hsh.2.2.1, hgl.trans hsh.2.2.2.1, hsh.2.2.2.2⟩
      exact this
    simp [hi, hx]
    intro b4
    by_cases hk : x.kind = 0
    · simp [hi, hx, hk]
      have ev := value_fn (SizeOf.sizeOf x.on + 1) x.on (by omega) (hc.sigs x (List.mem_of_getElem? hxo)).on (preV s ++ l) (by omega) (by rw [hl']; exact r1)
      refine ev.lend (by simp [hget, packA, encE_eq]) (by simp) ?_
      rw [valuesOf_with]
      generalize evalE x.on (preV s ++ l) = b
      simp
      have hpl2 : (preV s).length ≤ 10000000 := by unfold firstC at hpl; omega
      have ht : (((preV s).length : Int) + i).toNat = (preV s).length + i := by omega
      have hA : (List.map rB (preV s) ++ List.map rB l)[(preV s).length + i]? = some [A.dat (L.bool l[i])] := by
        rw [List.getElem?_append_right (by simp)]
        simp [hgi, rB, hil]
      have hS : ∀ r, (List.map rB (preV s) ++ List.map rB l).set ((preV s).length + i) r = List.map rB (preV s) ++ (List.map rB l).set i r := by
        intro r
        rw [List.set_append_right _ _ (by simp)]
        simp
      refine V.draw (fun _ => none) (by kernel_rfl) (by kernel_rfl) (by simp) ?_
      simp [mcA, ← hpl, hi, hx, hk, hgi, hil, rB, ht, hA, hS]
      omega
    · simp [hi, hx, hk]
      omega
  · rintro - -
    simp
    exact ⟨_, List.Sublist.cons_cons _ (List.Sublist.cons _ (List.Sublist.refl _)), (List.perm_middle (l₁ := [_, _, _, _]) (l₂ := [_]) (a := _)).symm⟩

end Go.Proofs.YthlpelkcmmaokaaGreat
end

/- Contracts: a round of settle's machine. -/
section
namespace Go.Proofs.YthlpelkcmmaokaaGreat
set_option maxHeartbeats 8000000
set_option maxRecDepth 10000

theorem set_mix {α : Type} {A B : List α} {i : Nat} {a : α} (ha : A[i]? = some a) (hl : A.length = B.length) : (A.take i ++ B.drop i).set i a = A.take (i + 1) ++ B.drop (i + 1) := by
  obtain ⟨h1, h2⟩ := List.getElem?_eq_some_iff.1 ha
  rw [List.set_append_right _ _ (by simp; omega), List.take_add_one, ha, List.append_assoc]
  congr 1
  rw [List.drop_eq_getElem_cons (by omega : i < B.length), List.length_take, Nat.min_eq_left (Nat.le_of_lt h1), Nat.sub_self]
  rfl
theorem mix_at {α : Type} {A B : List α} {i : Nat} (h : i ≤ A.length) : (A.take i ++ B.drop i)[i]? = B[i]? := by
  rw [List.getElem?_append_right (by simp; omega)]
  simp [Nat.min_eq_left h]
theorem newV_at {c : Control} {s : State} {i : Nat} (h : i < c.signals.length) : (newV c s)[i]? = some (sigStep c s (valuesOf s) i).1 := by simp [newV, h]
theorem newT_at {c : Control} {s : State} {i : Nat} (h : i < c.signals.length) : (newT c s)[i]? = some (sigStep c s (valuesOf s) i).2.1 := by simp [newT, h]
theorem newV_len (c : Control) (s : State) : (newV c s).length = c.signals.length := by simp [newV]
theorem newT_len (c : Control) (s : State) : (newT c s).length = c.signals.length := by simp [newT]
theorem sigStep_at {c : Control} {s : State} {L : List Bool} {i : Nat} {x : Signal} {v : Bool} {t : Int} (hx : c.signals[i]? = some x) (hv : s.values[i]? = some v) (ht : s.timers[i]? = some t) :
    sigStep c s L i = stepV x.kind v t (evalE x.on L) (x.kind == 1 && evalE x.off L) := by simp only [sigStep, hx, hv, ht]
theorem same_eq (a b : State) : sameSt a b = decide (a = b) := by
  cases a; cases b
  simp [sameSt, Bool.and_assoc]


theorem off_ok {c : Control} {i : Nat} {x : Signal} (hf : Fine c) (hxo : c.signals[i]? = some x) (hk : x.kind = 1) : checkE x.off (countC c) = 0 := by
  have h := hf.sigs i x hxo
  unfold signalE at h
  split at h
  · rename_i h1; exact absurd h h1
  · split at h
    · cases h
    · split at h
      · rename_i h1; exact absurd h h1
      · simp only [hk] at h
        simp [memE] at h
        by_cases h3 : checkE x.off (countC c) = 0
        · exact h3
        · simp [h3] at h

/-- What the round's loop keeps. -/
abbrev rkE (bm b4 b6 : Nat) (h5 : Value) (c : Control) : List (Nat × A) := [(0, .ptr 70 bm 0), (2, .dat (.bool false)), (3, .nils), (4, .ptr 4 b4 0), (5, .own 71 h5), (6, .ptr 6 b6 0), (25, .dat (.sl (c.signals.map encS))), (26, .dat (.int .i64 c.signals.length))]
abbrev rkH (bm b4 b6 : Nat) (g h4 : Nat → Value) (h5 : Value) (c : Control) (s G : State) : Heap := [(6, .box b6 rulesA), (71, .seq h5 4 1 ((valuesOf G).map rB)), (70, .box bm (mcA c g)), (60, .seq (g 0) 3 1 (G.ends.map rI)), (61, .seq (g 1) 4 1 (G.valves.map rB)), (62, .seq (g 2) 4 1 (G.inputs.map rB)), (4, .box b4 [.own 80 (h4 0), .own 81 (h4 1), .own 82 (h4 2), .own 83 (h4 3), .own 84 (h4 4)]), (80, .seq (h4 0) 3 1 (s.ends.map rI)), (81, .seq (h4 1) 4 1 (s.valves.map rB)), (82, .seq (h4 2) 4 1 (s.inputs.map rB)), (83, .seq (h4 3) 4 1 (s.values.map rB)), (84, .seq (h4 4) 3 1 (s.timers.map rI))]
abbrev rsE (i : Nat) (h7 : Value) : List (Nat × A) := [(27, aI i), (7, .own 72 h7)]
abbrev rsH (g : Nat → Value) (c : Control) (G : State) (i : Nat) (h7 : Value) : Heap := [(72, .seq h7 3 1 ((onceB c G i).map rI)), (63, .seq (g 3) 4 1 (((newV c G).take i ++ G.values.drop i).map rB)), (64, .seq (g 4) 3 1 (((newT c G).take i ++ G.timers.drop i).map rI))]

theorem round_b0 {n : Nat} {Q : PostQ} {bm b4 b6 : Nat} {g h4 : Nat → Value} {h5 h7 : Value} {c : Control} {s G : State} {i : Nat} {x : Signal} (hc : OkC c) (hf : Fine c) (hG : shapeS c G) (hxo : c.signals[i]? = some x) (hk : x.kind = 0) :
    vcC ⟨Tryz.prog, none, n⟩ (loopC Tryz.f106 0) (hdE (rkE bm b4 b6 h5 c) (rsE i h7)) (hcat (rsH g c G i h7) (rkH bm b4 b6 g h4 h5 c s G)) (LoopQ Q fun E' H' => ∃ s', True ∧ (∀ p ∈ rsE (i + 1) s', wk (E' p.1) p.2) ∧ (∀ p ∈ rkE bm b4 b6 h5 c, E' p.1 = p.2) ∧ subN (hcat (rsH g c G (i + 1) s') (rkH bm b4 b6 g h4 h5 c s G)) H') := by
  refine vc_part rfl ?_
  obtain ⟨hi, hx⟩ := List.getElem?_eq_some_iff.1 hxo
  have ha := hf.act
  have hin := hf.inp
  have hsg := hf.sig
  have hL := valuesOf_length hG
  obtain ⟨j1, j2, j3, j4, j5⟩ := hG
  have hox := hc.sigs x (List.mem_of_getElem? hxo)
  obtain ⟨v, hv⟩ : ∃ v, G.values[i]? = some v := ⟨_, List.getElem?_eq_getElem (by omega)⟩
  obtain ⟨t, ht⟩ : ∃ t, G.timers[i]? = some t := ⟨_, List.getElem?_eq_getElem (by omega)⟩
  have hon := hf.on hxo
  have r1 := (right_of_check hon.1).1
  have ron : CallFn Tryz.prog 138 [aE x.on, aBs (valuesOf G)] (aB (evalE x.on (valuesOf G))) := value_fn (SizeOf.sizeOf x.on + 1) x.on (by omega) hox.on (valuesOf G) (by have : countC c = 2 * c.actuators + c.inputs.length + c.signals.length := rfl; omega) (by rw [hL]; exact r1)
  have hst := sigStep_at (L := valuesOf G) hxo hv ht
  obtain ⟨nv, nt, cf, hst2, hrule⟩ : ∃ nv nt cf, stepV 0 v t (evalE x.on (valuesOf G)) false = (nv, nt, cf) ∧ CallFn Tryz.prog 164 [aCh v t false, aB (evalE x.on (valuesOf G)), aB false] (aCh nv nt cf) := ⟨v, t, false, rfl, rule0_fn v t false _ false⟩
  rw [hk] at hst
  have hst3 := hst.trans hst2
  have mV := set_mix (B := G.values) (newV_at (s := G) hi) (by rw [newV_len]; omega)
  have mT := set_mix (B := G.timers) (newT_at (s := G) hi) (by rw [newT_len]; omega)
  have aV : ((newV c G).take i ++ G.values.drop i)[i]? = some v := by rw [mix_at (by rw [newV_len]; omega)]; exact hv
  have aT : ((newT c G).take i ++ G.timers.drop i)[i]? = some t := by rw [mix_at (by rw [newT_len]; omega)]; exact ht
  have bl := onceB_len c G i
  have bs := onceB_succ c G i
  have lV : i < ((newV c G).take i ++ G.values.drop i).length := (List.getElem?_eq_some_iff.1 aV).1
  have lT : i < ((newT c G).take i ++ G.timers.drop i).length := (List.getElem?_eq_some_iff.1 aT).1
  unfold rsH
  rw [bs, ← mV, ← mT, hst3]
  clear mV mT hst hst2 hst3 bs
  have hfc : 0 ≤ firstC c ∧ firstC c ≤ 100 := by unfold firstC; omega
  generalize (newV c G).take i ++ G.values.drop i = V1 at *
  generalize (newT c G).take i ++ G.timers.drop i = T1 at *
  generalize onceB c G i = B1 at *
  generalize evalE x.on (valuesOf G) = bon at *
  have aV2 := (List.getElem?_eq_some_iff.1 aV).2
  have aT2 := (List.getElem?_eq_some_iff.1 aT).2
  simp [hi, hx]
  intro b9
  refine V.drawX (fun q => if q = 56 then some (.ro (aB bon)) else if q = 64 then some (.ro (aB false)) else if q = 66 then some (.fn (aCh nv nt cf)) else none) (by kernel_rfl) (by kernel_rfl) (by simp) ?_
  simp [hk, hi, hx, aV, aT, lV, lT, rB, rI, aV2, aT2]
  refine ⟨ron.lend (by simp [hget]) (by simp) ⟨rfl, rfl⟩, hrule, fun b10 => ⟨by kernel_rfl, ?_⟩⟩
  refine V.drawX (fun _ => none) (by kernel_rfl) (by kernel_rfl) (by simp) ?_
  simp [hk, hi, hx, aV, aT, lV, lT, rB, rI, aV2, aT2]
  refine ⟨by kernel_rfl, ?_⟩
  cases cf
  · simp
    omega
  · simp [rI]
    omega

theorem round_b1 {n : Nat} {Q : PostQ} {bm b4 b6 : Nat} {g h4 : Nat → Value} {h5 h7 : Value} {c : Control} {s G : State} {i : Nat} {x : Signal} (hc : OkC c) (hf : Fine c) (hG : shapeS c G) (hxo : c.signals[i]? = some x) (hk : x.kind = 1) :
    vcC ⟨Tryz.prog, none, n⟩ (loopC Tryz.f106 0) (hdE (rkE bm b4 b6 h5 c) (rsE i h7)) (hcat (rsH g c G i h7) (rkH bm b4 b6 g h4 h5 c s G)) (LoopQ Q fun E' H' => ∃ s', True ∧ (∀ p ∈ rsE (i + 1) s', wk (E' p.1) p.2) ∧ (∀ p ∈ rkE bm b4 b6 h5 c, E' p.1 = p.2) ∧ subN (hcat (rsH g c G (i + 1) s') (rkH bm b4 b6 g h4 h5 c s G)) H') := by
  refine vc_part rfl ?_
  obtain ⟨hi, hx⟩ := List.getElem?_eq_some_iff.1 hxo
  have ha := hf.act
  have hin := hf.inp
  have hsg := hf.sig
  have hL := valuesOf_length hG
  obtain ⟨j1, j2, j3, j4, j5⟩ := hG
  have hox := hc.sigs x (List.mem_of_getElem? hxo)
  obtain ⟨v, hv⟩ : ∃ v, G.values[i]? = some v := ⟨_, List.getElem?_eq_getElem (by omega)⟩
  obtain ⟨t, ht⟩ : ∃ t, G.timers[i]? = some t := ⟨_, List.getElem?_eq_getElem (by omega)⟩
  have hon := hf.on hxo
  have r1 := (right_of_check hon.1).1
  have ron : CallFn Tryz.prog 138 [aE x.on, aBs (valuesOf G)] (aB (evalE x.on (valuesOf G))) := value_fn (SizeOf.sizeOf x.on + 1) x.on (by omega) hox.on (valuesOf G) (by have : countC c = 2 * c.actuators + c.inputs.length + c.signals.length := rfl; omega) (by rw [hL]; exact r1)
  have roff : CallFn Tryz.prog 138 [aE x.off, aBs (valuesOf G)] (aB (evalE x.off (valuesOf G))) :=
    value_fn (SizeOf.sizeOf x.off + 1) x.off (by omega) hox.off (valuesOf G) (by have : countC c = 2 * c.actuators + c.inputs.length + c.signals.length := rfl; omega) (by rw [hL]; exact (right_of_check (off_ok hf hxo hk)).1)
  have hst := sigStep_at (L := valuesOf G) hxo hv ht
  obtain ⟨nv, nt, cf, hst2, hrule⟩ : ∃ nv nt cf, stepV 1 v t (evalE x.on (valuesOf G)) (evalE x.off (valuesOf G)) = (nv, nt, cf) ∧ CallFn Tryz.prog 165 [aCh v t false, aB (evalE x.on (valuesOf G)), aB (evalE x.off (valuesOf G))] (aCh nv nt cf) := ⟨_, _, _, by cases evalE x.on (valuesOf G) <;> cases evalE x.off (valuesOf G) <;> rfl, rule1_fn v t false _ _⟩
  rw [hk] at hst
  have hst3 := hst.trans hst2
  have mV := set_mix (B := G.values) (newV_at (s := G) hi) (by rw [newV_len]; omega)
  have mT := set_mix (B := G.timers) (newT_at (s := G) hi) (by rw [newT_len]; omega)
  have aV : ((newV c G).take i ++ G.values.drop i)[i]? = some v := by rw [mix_at (by rw [newV_len]; omega)]; exact hv
  have aT : ((newT c G).take i ++ G.timers.drop i)[i]? = some t := by rw [mix_at (by rw [newT_len]; omega)]; exact ht
  have bl := onceB_len c G i
  have bs := onceB_succ c G i
  have lV : i < ((newV c G).take i ++ G.values.drop i).length := (List.getElem?_eq_some_iff.1 aV).1
  have lT : i < ((newT c G).take i ++ G.timers.drop i).length := (List.getElem?_eq_some_iff.1 aT).1
  unfold rsH
  rw [bs, ← mV, ← mT, hst3]
  clear mV mT hst hst2 hst3 bs
  have hfc : 0 ≤ firstC c ∧ firstC c ≤ 100 := by unfold firstC; omega
  generalize (newV c G).take i ++ G.values.drop i = V1 at *
  generalize (newT c G).take i ++ G.timers.drop i = T1 at *
  generalize onceB c G i = B1 at *
  generalize evalE x.on (valuesOf G) = bon at *
  generalize evalE x.off (valuesOf G) = boff at *
  have aV2 := (List.getElem?_eq_some_iff.1 aV).2
  have aT2 := (List.getElem?_eq_some_iff.1 aT).2
  simp [hi, hx]
  intro b9
  refine V.drawX (fun q => if q = 56 then some (.ro (aB bon)) else if q = 64 then some (.ro (aB boff)) else if q = 66 then some (.fn (aCh nv nt cf)) else none) (by kernel_rfl) (by kernel_rfl) (by simp) ?_
  simp [hk, hi, hx, aV, aT, lV, lT, rB, rI, aV2, aT2]
  refine ⟨ron.lend (by simp [hget]) (by simp) ⟨rfl, rfl⟩, roff.lend (by simp [hget]) (by simp) ⟨rfl, rfl⟩, hrule, fun b10 => ⟨by kernel_rfl, ?_⟩⟩
  refine V.drawX (fun _ => none) (by kernel_rfl) (by kernel_rfl) (by simp) ?_
  simp [hk, hi, hx, aV, aT, lV, lT, rB, rI, aV2, aT2]
  refine ⟨by kernel_rfl, ?_⟩
  cases cf
  · simp
    omega
  · simp [rI]
    omega

theorem round_b2 {n : Nat} {Q : PostQ} {bm b4 b6 : Nat} {g h4 : Nat → Value} {h5 h7 : Value} {c : Control} {s G : State} {i : Nat} {x : Signal} (hc : OkC c) (hf : Fine c) (hG : shapeS c G) (hxo : c.signals[i]? = some x) (hk : x.kind = 2) :
    vcC ⟨Tryz.prog, none, n⟩ (loopC Tryz.f106 0) (hdE (rkE bm b4 b6 h5 c) (rsE i h7)) (hcat (rsH g c G i h7) (rkH bm b4 b6 g h4 h5 c s G)) (LoopQ Q fun E' H' => ∃ s', True ∧ (∀ p ∈ rsE (i + 1) s', wk (E' p.1) p.2) ∧ (∀ p ∈ rkE bm b4 b6 h5 c, E' p.1 = p.2) ∧ subN (hcat (rsH g c G (i + 1) s') (rkH bm b4 b6 g h4 h5 c s G)) H') := by
  refine vc_part rfl ?_
  obtain ⟨hi, hx⟩ := List.getElem?_eq_some_iff.1 hxo
  have ha := hf.act
  have hin := hf.inp
  have hsg := hf.sig
  have hL := valuesOf_length hG
  obtain ⟨j1, j2, j3, j4, j5⟩ := hG
  have hox := hc.sigs x (List.mem_of_getElem? hxo)
  obtain ⟨v, hv⟩ : ∃ v, G.values[i]? = some v := ⟨_, List.getElem?_eq_getElem (by omega)⟩
  obtain ⟨t, ht⟩ : ∃ t, G.timers[i]? = some t := ⟨_, List.getElem?_eq_getElem (by omega)⟩
  have hon := hf.on hxo
  have r1 := (right_of_check hon.1).1
  have ron : CallFn Tryz.prog 138 [aE x.on, aBs (valuesOf G)] (aB (evalE x.on (valuesOf G))) := value_fn (SizeOf.sizeOf x.on + 1) x.on (by omega) hox.on (valuesOf G) (by have : countC c = 2 * c.actuators + c.inputs.length + c.signals.length := rfl; omega) (by rw [hL]; exact r1)
  have hst := sigStep_at (L := valuesOf G) hxo hv ht
  obtain ⟨nv, nt, cf, hst2, hrule⟩ : ∃ nv nt cf, stepV 2 v t (evalE x.on (valuesOf G)) false = (nv, nt, cf) ∧ CallFn Tryz.prog 166 [aCh v t false, aB (evalE x.on (valuesOf G)), aB false] (aCh nv nt cf) := ⟨_, _, _, by cases evalE x.on (valuesOf G) <;> simp [stepV] <;> split <;> rfl, rule2_fn v t _ false⟩
  rw [hk] at hst
  have hst3 := hst.trans hst2
  have mV := set_mix (B := G.values) (newV_at (s := G) hi) (by rw [newV_len]; omega)
  have mT := set_mix (B := G.timers) (newT_at (s := G) hi) (by rw [newT_len]; omega)
  have aV : ((newV c G).take i ++ G.values.drop i)[i]? = some v := by rw [mix_at (by rw [newV_len]; omega)]; exact hv
  have aT : ((newT c G).take i ++ G.timers.drop i)[i]? = some t := by rw [mix_at (by rw [newT_len]; omega)]; exact ht
  have bl := onceB_len c G i
  have bs := onceB_succ c G i
  have lV : i < ((newV c G).take i ++ G.values.drop i).length := (List.getElem?_eq_some_iff.1 aV).1
  have lT : i < ((newT c G).take i ++ G.timers.drop i).length := (List.getElem?_eq_some_iff.1 aT).1
  unfold rsH
  rw [bs, ← mV, ← mT, hst3]
  clear mV mT hst hst2 hst3 bs
  have hfc : 0 ≤ firstC c ∧ firstC c ≤ 100 := by unfold firstC; omega
  generalize (newV c G).take i ++ G.values.drop i = V1 at *
  generalize (newT c G).take i ++ G.timers.drop i = T1 at *
  generalize onceB c G i = B1 at *
  generalize evalE x.on (valuesOf G) = bon at *
  have aV2 := (List.getElem?_eq_some_iff.1 aV).2
  have aT2 := (List.getElem?_eq_some_iff.1 aT).2
  simp [hi, hx]
  intro b9
  refine V.drawX (fun q => if q = 56 then some (.ro (aB bon)) else if q = 64 then some (.ro (aB false)) else if q = 66 then some (.fn (aCh nv nt cf)) else none) (by kernel_rfl) (by kernel_rfl) (by simp) ?_
  simp [hk, hi, hx, aV, aT, lV, lT, rB, rI, aV2, aT2]
  refine ⟨ron.lend (by simp [hget]) (by simp) ⟨rfl, rfl⟩, hrule, fun b10 => ⟨by kernel_rfl, ?_⟩⟩
  refine V.drawX (fun _ => none) (by kernel_rfl) (by kernel_rfl) (by simp) ?_
  simp [hk, hi, hx, aV, aT, lV, lT, rB, rI, aV2, aT2]
  refine ⟨by kernel_rfl, ?_⟩
  cases cf
  · simp
    omega
  · simp [rI]
    omega

end Go.Proofs.YthlpelkcmmaokaaGreat
end

/- Contracts: a round of settle's machine, the whole. -/
section
namespace Go.Proofs.YthlpelkcmmaokaaGreat
set_option maxHeartbeats 8000000
set_option maxRecDepth 10000

theorem sh_of {α : Type} {l : List α} (h : l.length ≤ 1000000) : Sh l := by unfold Sh; omega
theorem SameStates_l (a b : State) (ha : SmS a) (hb : SmS b) : CallFn Tryz.prog 139 [aSt a, aSt b] (aB (sameSt a b)) := by
  have c1 := eqI_fn a.ends b.ends (sh_of ha.ends) (sh_of hb.ends)
  have c2 := eqB_fn a.valves b.valves (sh_of ha.valves) (sh_of hb.valves)
  have c3 := eqB_fn a.inputs b.inputs (sh_of ha.inputs) (sh_of hb.inputs)
  have c4 := eqB_fn a.values b.values (sh_of ha.values) (sh_of hb.values)
  have c5 := eqI_fn a.timers b.timers (sh_of ha.timers) (sh_of hb.timers)
  refine callFz_of Tryz.func139 rfl Tryz.ntmps139 (rs := [.tmp 4]) rfl (by kernel_rfl) (by simp) (by kernel_rfl) ?_
  unfold sameSt
  generalize decide (a.ends = b.ends) = b1 at *
  generalize decide (a.valves = b.valves) = b2 at *
  generalize decide (a.inputs = b.inputs) = b3 at *
  generalize decide (a.values = b.values) = b4 at *
  generalize decide (a.timers = b.timers) = b5 at *
  simp
  refine c1.s ?_
  simp
  refine GCall.fn (aB b2) (fun _ => ⟨by first | trivial | assumption, c2⟩) ?_
  simp
  refine GCall.fn (aB b3) (fun _ => ⟨by first | trivial | assumption, c3⟩) ?_
  simp
  refine GCall.fn (aB b4) (fun _ => ⟨by first | trivial | assumption, c4⟩) ?_
  simp
  refine GCall.fn (aB b5) (fun _ => ⟨by first | trivial | assumption, c5⟩) ?_
  simp

theorem round_s {bm : Nat} {c : Control} {g : Nat → Value} {s : State} (hc : OkC c) (hf : Fine c) (hsh : shapeS c s) : CallS Tryz.prog 106 [.ptr 70 bm 0] (mcH bm c g s)
    fun r H' => r = .tuple [aB (!decide (roundS c s = s)), aIs (roundB c s)] ∧ H' = mcH bm c g (roundS c s) := by
  have hsm := sm_of hf hsh
  have ha := hf.act
  have hin := hf.inp
  have hsg := hf.sig
  have hgs := gates_shape hsh
  have hgm := sm_of hf hgs
  refine CallS.dropP (K := fun r H' => r = .tuple [aB (!decide (roundS c s = s)), aIs (roundB c s)] ∧ subP (mcH bm c g (roundS c s)) H') ?_ (fun _ _ h => ⟨_, h.2, h.1, rfl⟩)
  refine CallS.frzKeep (K := fun r H' => ∃ h7 : Value, r = .tuple [aB (!decide (roundS c s = s)), .own 72 h7] ∧ subP ((72, .seq h7 3 1 ((roundB c s).map rI)) :: mcH bm c g (roundS c s)) H') ?_ ?_
  · refine callS_of Tryz.func106 rfl Tryz.ntmps106 (rs := [.tmp 2, .tmp 3]) rfl (by kernel_rfl) (by simp) (by kernel_rfl) ?_
    simp [mcH]
    refine (copied_st s hsm).lend 80 (by simp [hget, packA, encSt]) fun h4 => ?_
    simp [stA, stH]
    intro b4
    refine ((CallS.frame (H1 := [(4, .box b4 [.own 80 (h4 0), .own 81 (h4 1), .own 82 (h4 2), .own 83 (h4 3), .own 84 (h4 4)]), (80, .seq (h4 0) 3 1 (s.ends.map rI)), (81, .seq (h4 1) 4 1 (s.valves.map rB)), (82, .seq (h4 2) 4 1 (s.inputs.map rB)), (83, .seq (h4 3) 4 1 (s.values.map rB)), (84, .seq (h4 4) 3 1 (s.timers.map rI))]) (mgates_s (bm := bm) (g := g) hc hf hsh)).perm List.perm_append_comm).mono ?_
    rintro r H' ⟨H2, rfl, rfl⟩
    have eR : roundS c s = onceS c (gatesP c s) := rfl
    have eB : roundB c s = onceB c (gatesP c s) c.signals.length := rfl
    have eE : (gatesP c s).ends = s.ends ∧ (gatesP c s).valves = s.valves ∧ (gatesP c s).inputs = s.inputs ∧ (gatesP c s).timers = s.timers := ⟨rfl, rfl, rfl, rfl⟩
    rw [eR, eB]
    generalize gatesP c s = G at *
    obtain ⟨e1, e2, e3, e5⟩ := eE
    simp [mcH]
    refine lines_s (bm := bm) (c := c) (g := g) (s := G) hgm 71 ⟨[(4, .box b4 [.own 80 (h4 0), .own 81 (h4 1), .own 82 (h4 2), .own 83 (h4 3), .own 84 (h4 4)]), (80, .seq (h4 0) 3 1 (s.ends.map rI)), (81, .seq (h4 1) 4 1 (s.valves.map rB)), (82, .seq (h4 2) 4 1 (s.inputs.map rB)), (83, .seq (h4 3) 4 1 (s.values.map rB)), (84, .seq (h4 4) 3 1 (s.timers.map rI))], by simp⟩ fun h5 => ?_
    simp
    refine rules_fn.s ?_
    simp
    intro b6
    have hL := valuesOf_length hgs
    refine V.forI (σ := Value) c.signals.length [0, 2, 3, 4, 5, 6, 25, 26] (by simp; exact rfl) (fun i h7 => [(27, aI i), (7, .own 72 h7)]) (fun i h7 => [(72, .seq h7 3 1 ((onceB c G i).map rI)), (63, .seq (g 3) 4 1 (((newV c G).take i ++ G.values.drop i).map rB)), (64, .seq (g 4) 3 1 (((newT c G).take i ++ G.timers.drop i).map rI))]) (fun _ _ => True) (.slice none 0 0) trivial (by simp) ⟨by simp; exact rfl, by simp [onceB, hget, hdel]⟩ ?_ ?_
    · rintro i h7 hi -
      have hxo : c.signals[i]? = some c.signals[i] := List.getElem?_eq_getElem hi
      have hon := (hf.on hxo).2
      obtain hk | hk | hk : c.signals[i].kind = 0 ∨ c.signals[i].kind = 1 ∨ c.signals[i].kind = 2 := by omega
      · exact vc_of_part rfl (round_b0 hc hf hgs hxo hk)
      · exact vc_of_part rfl (round_b1 hc hf hgs hxo hk)
      · exact vc_of_part rfl (round_b2 hc hf hgs hxo hk)
    · rintro h7 -
      have e63 : (newV c G).take c.signals.length ++ G.values.drop c.signals.length = newV c G := by
        rw [List.take_of_length_le (by rw [newV_len]; exact Nat.le_refl _), List.drop_of_length_le (by rw [hgs.2.2.2.1]; exact Nat.le_refl _), List.append_nil]
      have e64 : (newT c G).take c.signals.length ++ G.timers.drop c.signals.length = newT c G := by
        rw [List.take_of_length_le (by rw [newT_len]; exact Nat.le_refl _), List.drop_of_length_le (by rw [hgs.2.2.2.2]; exact Nat.le_refl _), List.append_nil]
      have hss := SameStates_l s (onceS c G) hsm (sm_of hf (once_shape hgs))
      rw [same_eq] at hss
      have eO : onceS c G = ⟨G.ends, G.valves, G.inputs, newV c G, newT c G⟩ := rfl
      have ed : decide (onceS c G = s) = decide (s = onceS c G) := by
        congr 1
        exact propext ⟨Eq.symm, Eq.symm⟩
      rw [ed]
      rw [e63, e64]
      generalize decide (s = onceS c G) = dd at hss
      rw [eO] at hss ⊢
      generalize newV c G = nv at *
      generalize newT c G = nt at *
      simp
      refine V.drawX (fun q => if q = 102 then some (.ro (aB dd)) else none) (by kernel_rfl) (by kernel_rfl) (by simp) ?_
      simp
      refine ⟨hss.lend (by simp [hget, packA, encSt]) (by simp) ⟨rfl, rfl⟩, ?_⟩
      refine subP_of ?_
      simp [mcH]
  · rintro r H' ⟨h7, rfl, K, k1, k2⟩
    obtain ⟨R, hR⟩ := k1.exists_perm_append
    refine ⟨[(72, .seq h7 3 1 ((roundB c s).map rI))], mcH bm c g (roundS c s) ++ R, ?_, ?_, ?_, _, List.sublist_append_left _ _, List.Perm.refl _⟩
    · exact ((k2.append_right R).symm.trans hR.symm)
    · simp [frz]
    · simp [frz, hget]

end Go.Proofs.YthlpelkcmmaokaaGreat
end

/- Contracts: settle's machine comes to rest. -/
section
namespace Go.Proofs.YthlpelkcmmaokaaGreat
set_option maxHeartbeats 4000000
set_option maxRecDepth 10000

theorem courseP_step {c : Control} {k : Nat} {n : Int} {s : State} {acc : List Int} : courseP c (k + 1) n s acc = if roundS c s = s then some (s, acc ++ roundB c s, n) else courseP c k (n + 1) (roundS c s) (acc ++ roundB c s) := rfl

theorem settle_s {bm : Nat} {c : Control} {g : Nat → Value} {s : State} (hc : OkC c) (hf : Fine c) (hsh : shapeS c s) : CallS Tryz.prog 72 [.ptr 70 bm 0] (mcH bm c g s)
    fun r H' => ∃ s', H' = mcH bm c g s' ∧ ((courseP c 65 0 s [] = none ∧ r = .tuple [aI 0, aIs [], aI 21]) ∨ ∃ bad n, courseP c 65 0 s [] = some (s', bad, n) ∧ r = .tuple [aI n, aIs (compI (sortI bad)), aI 0]) := by
  have ha := hf.act
  have hin := hf.inp
  have hsg := hf.sig
  obtain ⟨R, hR⟩ : ∃ R, courseP c 65 0 s [] = R := ⟨_, rfl⟩
  rw [hR]
  refine CallS.dropP (K := fun r H' => ∃ s', ((R = none ∧ r = .tuple [aI 0, aIs [], aI 21]) ∨ ∃ bad n, R = some (s', bad, n) ∧ r = .tuple [aI n, aIs (compI (sortI bad)), aI 0]) ∧ subP (mcH bm c g s') H') ?_ (fun r H' h => by
    obtain ⟨s', h1, h2⟩ := h
    exact ⟨_, h2, s', rfl, h1⟩)
  refine CallS.frzKeep (K := fun r H' => ∃ s', ((R = none ∧ r = .tuple [aI 0, .nils, aI 21]) ∧ subP (mcH bm c g s') H') ∨ ∃ bad n h, R = some (s', bad, n) ∧ r = .tuple [aI n, .own 73 h, aI 0] ∧ subP ((73, .seq h 3 1 ((compI (sortI bad)).map rI)) :: mcH bm c g s') H') ?_ ?_
  · refine callS_of Tryz.func72 rfl Tryz.ntmps72 (rs := [.tmp 2, .tmp 3, .tmp 4]) rfl (by kernel_rfl) (by simp) (by kernel_rfl) ?_
    simp
    refine V.forI (σ := Value × State × List Int) 65 [0] (by simp; exact rfl) (fun i p => [(2, aI 0), (3, .nils), (4, aI 0), (5, .own 73 p.1), (6, aI i)]) (fun i p => (73, .seq p.1 3 1 (p.2.2.map rI)) :: mcH bm c g p.2.1) (fun i p => R = courseP c (65 - i) i p.2.1 p.2.2 ∧ shapeS c p.2.1 ∧ p.2.2.length ≤ 64 * i) (.slice none 0 0, s, []) ⟨hR.symm, hsh, by simp⟩ (by simp) ⟨by simp [mcH]; exact rfl, by simp [mcH, hget, hdel]⟩ ?_ ?_
    · rintro i ⟨h, s1, acc⟩ hi ⟨hI, hs1, hl⟩
      dsimp only at hI hs1 hl ⊢
      obtain ⟨k, hk⟩ : ∃ k, 65 - i = k + 1 := ⟨64 - i, by omega⟩
      rw [hk, courseP_step] at hI
      have hk2 : 65 - (i + 1) = k := by omega
      have hi64 : (i : Int) ≤ 64 := by omega
      simp [hi64]
      refine ((CallS.frame (H1 := [(73, .seq h 3 1 (acc.map rI))]) (round_s (bm := bm) (g := g) hc hf hs1)).perm List.perm_append_comm).mono ?_
      rintro r H' ⟨H2, ⟨rfl, rfl⟩, rfl⟩
      have hrl := onceB_len c (gatesP c s1) c.signals.length
      rw [show onceB c (gatesP c s1) c.signals.length = roundB c s1 from rfl] at hrl
      have hs2 := round_shape hs1
      by_cases hr : roundS c s1 = s1
      · rw [if_pos hr] at hI
        simp [hr, mcH]
        intro u
        refine ⟨by omega, ?_⟩
        rw [← List.map_append]
        refine (CallS.frameL (H1 := mcH bm c g s1) (sort_c (t := 73) (e := 3) (zs := acc ++ roundB c s1) (by simp; omega))).mono ?_
        rintro r H' ⟨H2, ⟨rfl, rfl⟩, rfl⟩
        simp [mcH]
        refine (CallS.frameL (H1 := mcH bm c g s1) (comp_c (t := 73) (e := 3) (zs := sortI (acc ++ roundB c s1)) (by rw [sortI_len]; simp; omega))).mono ?_
        rintro r H' ⟨H2, ⟨h2, rfl, rfl⟩, rfl⟩
        simp [mcH]
        refine ⟨s1, _, _, hI, h2, ⟨rfl, rfl⟩, subP_of ?_⟩
        simp
      · rw [if_neg hr] at hI
        simp [hr, mcH]
        have hk3 : 64 - i = k := by omega
        rw [hk3]
        exact fun u => ⟨by omega, by omega, u, roundS c s1, acc ++ roundB c s1, ⟨hI, hs2, by simp; omega⟩, rfl, ⟨rfl, by simp⟩, rfl, rfl, rfl, rfl, rfl⟩
    · rintro ⟨h, s1, acc⟩ ⟨hI, hs1, hl⟩
      simp
      refine ⟨by rw [hI]; rfl, s1, subP_of ?_⟩
      simp
  · rintro r H' ⟨s', ⟨⟨h1, rfl⟩, K, k1, k2⟩ | ⟨bad, n, h, h1, rfl, K, k1, k2⟩⟩
    · exact ⟨[], H', by simp, by simp [frz, frzs], s', .inl ⟨h1, by simp [frz, frzs]⟩, K, k1, k2⟩
    · obtain ⟨R2, hR2⟩ := k1.exists_perm_append
      refine ⟨[(73, .seq h 3 1 ((compI (sortI bad)).map rI))], mcH bm c g s' ++ R2, (k2.append_right R2).symm.trans hR2.symm, by simp [frz, frzs], s', .inr ⟨bad, n, h1, by simp [frz, frzs, hget]⟩, _, List.sublist_append_left _ _, List.Perm.refl _⟩

end Go.Proofs.YthlpelkcmmaokaaGreat
end

/- Contracts: Settle. -/
section
namespace Go.Proofs.YthlpelkcmmaokaaGreat
set_option maxHeartbeats 4000000
set_option maxRecDepth 10000

def courseR (c : Control) (s : State) : State × List Int × Int × Int := match courseP c 65 0 s [] with
  | some (x, bad, n) => (x, compI (sortI bad), n, 0)
  | none => (noSt, [], 0, 21)
def settleR (c : Control) (s : State) : State × List Int × Int := if rightC c s ≠ 0 then (noSt, [], rightC c s) else ((courseR c s).1, (courseR c s).2.1, (courseR c s).2.2.2)

theorem Settle_fn (c : Control) (s : State) (hc : OkC c) (hs : SmS s) : CallFn Tryz.prog 36 [aC c, aSt s] (.tuple [aSt (settleR c s).1, aIs (settleR c s).2.1, aI (settleR c s).2.2]) := by
  refine callFz_of Tryz.func36 rfl Tryz.ntmps36 (rs := [.cell 4 53, .tmp 5, .tmp 6]) rfl (by kernel_rfl) (by simp) (by kernel_rfl) ?_
  simp
  intro b4
  refine (CallS.frame (of_s c s hc hs)).mono ?_
  rintro r H' ⟨H2, ⟨k1, k2⟩, rfl⟩
  by_cases hz : rightC c s = 0
  · obtain ⟨z1, z2, z3⟩ := right_zero hz
    obtain ⟨bm, g, rfl, rfl⟩ := k1 hz
    simp
    refine (CallS.frame (settle_s (bm := bm) (g := g) hc (fine_of z1) z2)).mono ?_
    rintro r H' ⟨H2, ⟨s', rfl, ⟨h1, rfl⟩ | ⟨bad, n, h1, rfl⟩⟩, rfl⟩
    · simp [mcH, settleR, courseR, hz, h1, noSt, packA, encSt]
    · simp [mcH, settleR, courseR, hz, h1, packA, encSt]
  · obtain ⟨rfl, rfl⟩ := k2 hz
    simp [hz, settleR, noSt, packA, encSt]

end Go.Proofs.YthlpelkcmmaokaaGreat
end
