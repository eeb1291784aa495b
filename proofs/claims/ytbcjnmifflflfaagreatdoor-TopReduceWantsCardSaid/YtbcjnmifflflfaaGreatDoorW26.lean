/- Texts joined by a program: Hy, Lt, Rzw. -/
import Derived.Lay
import Derived.Test.YtbcjnmifflflfaaGreatDoorRows
import Derived.WalkKit
import Derived.ProofKit
import Derived.OpenShut
import Derived.JoinedOf
import Derived.Handed
import Derived.Test.YtbcjnmifflflfaaGreatDoorW11
import Derived.Test.YtbcjnmifflflfaaGreatDoorW20
import Derived.Test.YtbcjnmifflflfaaGreatDoorW25
import Derived.Test.YtbcjnmifflflfaaGreatDoorW15
set_option linter.unusedSimpArgs false
set_option linter.unusedVariables false

section
namespace Go.Proofs.YtbcjnmifflflfaaGreatDoor
set_option maxHeartbeats 8000000
set_option maxRecDepth 10000
theorem tryRight_fn (c : Control) (s : State) (hc : OkC c) (hs : OkSt s) : CallFn Tryz.prog 43 [aC c, aSt s] (aB (rightB c s)) := by
  refine callFz_of Tryz.func43 rfl Tryz.ntmps43 (rs := [.tmp 4]) rfl (by kernel_rfl) (by simp) (by kernel_rfl) ?_
  simp
  refine (Few28b_fn c s hc hs).s ?_
  simp
  refine GCall.fn (aI (rightC c s)) (fun h => ⟨by first | trivial | exact h, RightR_fn c s hc (few_c h.1).1 (few_c h.1).2 (few_sm h.2)⟩) ?_
  simp [rightB]
theorem wants_d {m imgs : List Int} {g : Value} (hl : imgs.length ≤ 64) (hm : m.length ≤ 64) (h : sortI imgs = m) :
    vcC ⟨Tryz.prog, none, 109⟩ (restC Tryz.f10 11) (hdE [(4, aB false), (10, aIs m), (12, .own 50 g)] []) [(50, .seq g 3 1 (imgs.map rI))] (RetV Tryz.prog [.tmp 4] fun r' H' => (frz H' r').1 ∧ (frz H' r').2 = aB true) := by
  have ht := tryBack_fn
  have he := eqI_fn m m (by unfold Sh; omega) (by unfold Sh; omega)
  refine vc_rest rfl ?_
  simp
  refine (sort_c (t := 50) (e := 3) (h := g) (zs := imgs) (by omega)).mono ?_
  rintro r H' ⟨rfl, rfl⟩
  rw [h]
  simp
  refine CallS.freeze37 (az' := [aIs m, aIs m]) (Hf := [(50, .seq g 3 1 (m.map rI))]) (Hk := []) (he.s ?_) (by simp) 
  simp
  refine GCall.fn (aB true) (fun h => ⟨trivial, ht⟩) ?_
  simp
theorem wants_c {ks l m : List Int} (hl : l.length ≤ 64) (hk : ks.length ≤ 1000) (hr : ∀ k ∈ l, 0 ≤ k ∧ k < ks.length) (hm : m.length ≤ 64) (h : sortI (l.foldl (imgS ks) []) = m) :
    vcN ⟨Tryz.prog, none, 109⟩ 2 (restC Tryz.f10 9) (hdE [(4, aB false), (6, aIs ks), (9, aIs l), (10, aIs m)] []) [] (RetV Tryz.prog [.tmp 4] fun r' H' => (frz H' r').1 ∧ (frz H' r').2 = aB true) := by
  have hle : ∀ (q acc : List Int), (q.foldl (imgS ks) acc).length ≤ acc.length + q.length := by
    intro q
    induction q with
    | nil => intro acc; simp
    | cons k q ih =>
      intro acc
      have := ih (imgS ks acc k)
      have h2 : (imgS ks acc k).length ≤ acc.length + 1 := by unfold imgS; split <;> simp
      simp only [List.foldl_cons, List.length_cons]
      omega
  refine vcN_rest rfl ?_
  simp
  refine V.forI (σ := Value) l.length [6, 10, 70, 71] (by simp; exact rfl) (fun i g => [(4, aB false), (72, aI i), (12, .own 50 g)]) (fun i g => [(50, .seq g 3 1 (((l.take i).foldl (imgS ks) []).map rI))]) (fun _ _ => True) (.slice none 0 0) trivial (by simp) ⟨by simp; exact rfl, by simp⟩ ?_ ?_
  · rintro i g hi -
    obtain ⟨k, hk1⟩ : ∃ k, l[i] = k := ⟨_, rfl⟩
    have hko : l[i]? = some k := by rw [List.getElem?_eq_getElem hi, hk1]
    obtain ⟨r1, r2⟩ := hr k (List.mem_of_getElem? hko)
    have hlt : k.toNat < ks.length := by omega
    obtain ⟨y, hy⟩ : ∃ y, ks[k.toNat] = y := ⟨_, rfl⟩
    have hyo : ks[k.toNat]? = some y := by rw [List.getElem?_eq_getElem hlt, hy]
    have hyd : ks.getD k.toNat 0 = y := by rw [List.getD_eq_getElem?_getD, hyo]; rfl
    have hst : (l.take (i + 1)).foldl (imgS ks) [] = imgS ks ((l.take i).foldl (imgS ks) []) k := by
      rw [List.take_add_one, hko, List.foldl_append]
      rfl
    have hal := hle (l.take i) []
    rw [List.length_nil, List.length_take] at hal
    rw [hst]
    generalize (l.take i).foldl (imgS ks) [] = acc at *
    have hnv : noneV = -1099511627776 := rfl
    have hc := fun g => containsO_s acc y g (by unfold Sh; omega)
    unfold imgS
    rw [hyd, hnv]
    have n1 : ¬ k < 0 := by omega
    have n2 : ¬ (ks.length : Int) ≤ k := by omega
    simp [hi, hk1, hko, n1, n2, r1, r2, hlt, hy, hyo]
    refine GCall.ways (fun hq => ⟨by first | trivial | exact hq, (hc _).mono ?_⟩) (fun hq => ⟨aB false, ?_⟩)
    · rintro r H' ⟨rfl, rfl⟩
      have hq2 : ¬ y = -1099511627776 := by simpa using hq
      by_cases hin : y ∈ acc
      · simp [hin, hq2]
        omega
      · simp [hin, hq2]
        omega
    · have hq2 : y = -1099511627776 := by simpa using hq
      simp [hq2]
      omega
  · rintro g -
    rw [List.take_length] at *
    have hal := hle l []
    rw [List.length_nil] at hal
    simp
    exact V.cut [(4, aB false), (10, aIs m), (12, .own 50 g)] (by simp) (by simp) (vc_of_rest rfl (wants_d (by omega) hm h))
theorem wants_b {c x : Control} {s t : State} {b5 b8 : Nat} {ks l m : List Int} (h1 : CallFn Tryz.prog 41 [aC c, aSt s] (.tuple [aIs l, aI 0])) (h2 : CallFn Tryz.prog 41 [aC x, aSt t] (.tuple [aIs m, aI 0]))
    (hl : l.length ≤ 64) (hk : ks.length ≤ 1000) (hr : ∀ k ∈ l, 0 ≤ k ∧ k < ks.length) (hm : m.length ≤ 64) (h : sortI (l.foldl (imgS ks) []) = m) :
    vcN ⟨Tryz.prog, none, 109⟩ 3 (restC Tryz.f10 6) (hdE [(2, .rptr (encC c)), (3, .rptr (encSt s)), (4, aB false), (5, .ptr 5 b5 0), (6, aIs ks), (8, .ptr 8 b8 0)] [])
      [(8, .box b8 ((encSt t).map A.dat)), (5, .box b5 ((encC x).map A.dat))] (RetV Tryz.prog [.tmp 4] fun r' H' => (frz H' r').1 ∧ (frz H' r').2 = aB true) := by
  refine vcN_rest rfl ?_
  simp [encC, encSt]
  refine h1.s ?_
  simp
  refine h2.s ?_
  simp
  exact V.cutN 2 [(4, aB false), (6, aIs ks), (9, aIs l), (10, aIs m)] (by simp) (by simp) (vcN_of_rest rfl (wants_c hl hk hr hm h))
theorem wants_a {c x : Control} {s t : State} {b5 : Nat} {ks : List Int} {e : Int} (h1 : CallFn Tryz.prog 45 [aRel c x ks, aSt s] (.tuple [aSt t, aI e])) (he : e ≠ 0 → e = 16)
    (hv : e = 0 → ∀ b8, vcN ⟨Tryz.prog, none, 109⟩ 3 (restC Tryz.f10 6) (hdE [(2, .rptr (encC c)), (3, .rptr (encSt s)), (4, aB false), (5, .ptr 5 b5 0), (6, aIs ks), (8, .ptr 8 b8 0)] [])
      [(8, .box b8 ((encSt t).map A.dat)), (5, .box b5 ((encC x).map A.dat))] (RetV Tryz.prog [.tmp 4] fun r' H' => (frz H' r').1 ∧ (frz H' r').2 = aB true)) :
    vcN ⟨Tryz.prog, none, 109⟩ 2 (restC Tryz.f10 4) (hdE [(2, .rptr (encC c)), (3, .rptr (encSt s)), (4, aB false), (5, .ptr 5 b5 0), (6, aIs ks)] [])
      [(5, .box b5 ((encC x).map A.dat))] (RetV Tryz.prog [.tmp 4] fun r' H' => (frz H' r').1 ∧ (frz H' r').2 = aB true) := by
  have ht := tryBack_fn
  refine vcN_rest rfl ?_
  simp [encC]
  refine h1.s ?_
  simp
  intro b8
  by_cases h0 : e = 0
  · subst h0
    simp
    exact V.cutN 3 [(2, .rptr (encC c)), (3, .rptr (encSt s)), (4, aB false), (5, .ptr 5 b5 0), (6, aIs ks), (8, .ptr 8 b8 0)] (by simp [encC, encSt]) (by simp [encC, encSt]) (vcN_of_rest rfl (hv rfl b8))
  · have h2 := he h0
    subst h2
    simp
    refine GCall.fn (aB true) (fun h => ⟨trivial, ht⟩) ?_
    simp
theorem TopReduceWants_fn (c : Control) (s : State) (hc : OkC c) (hs : OkSt s) : CallFn Tryz.prog 10 [aC c, aSt s] (aB true) := by
  have ht := tryBack_fn
  have r1 := tryRight_fn c s hc hs
  refine callFz_cut 4 Tryz.func10 rfl Tryz.ntmps10 (rs := [.tmp 4]) rfl (by kernel_rfl) (by simp) (by kernel_rfl) ?_
  simp
  refine r1.s ?_
  by_cases hB : rightB c s = true
  · have hB2 := hB
    simp only [rightB, Bool.and_eq_true, beq_iff_eq] at hB2
    obtain ⟨⟨f1, f2⟩, hr⟩ := hB2
    have hsm := few_sm f2
    obtain ⟨hz, z2, z3⟩ := right_zero hr
    have hf := fine_of hz
    have hp := pil_of hz
    have hz2 := red_check hz hp
    have ho := red_ok hz hc
    have hf2 := fine_of hz2
    have hcl := count_le hf
    have hkl := keep_len hf
    have c1 := Reduce_fn c hc
    rw [show reduceQ c = (redC c, keepP c, 0) by simp [reduceQ, hz]] at c1
    have c3 := lines_fn c hf.sm
    have c8 := Carry_fn c (redC c) (keepP c) s hc ho (by omega) hsm
    have e8 := carry_err hz hr
    have v8 : ∀ t, carryQ c (redC c) (keepP c) s = (t, 0) → _ := fun t h => carry_vals hz h hr
    have w8 : ∀ t, carryQ c (redC c) (keepP c) s = (t, 0) → _ := fun t h => img_wants hz hr h
    have c9 := Wants29_fn c s hc hsm
    rw [show wantsR29 c s = (lineL c (gatesP c s), 0) by unfold wantsR29; rw [if_neg (by simp [hr])]] at c9
    have hln : ∀ (a : Control) (u : State), a.signals.length ≤ 64 → (lineL a u).length ≤ 64 := by
      intro a u h
      unfold lineL wantsL
      rw [List.length_map]
      have := List.length_filter_le (wantAt a u) (List.range a.signals.length)
      rw [List.length_range] at this
      omega
    have hWm : ∀ k ∈ lineL c (gatesP c s), 0 ≤ k ∧ k < (keepP c).length := by
      intro k hk
      unfold lineL at hk
      obtain ⟨i, hi, rfl⟩ := List.mem_map.1 hk
      have h2 := (mem_wants.1 hi).1
      have h3 := count_first c
      have h4 := hf.f0
      omega
    have l1 := hln c (gatesP c s) (by have := hf.sig; omega)
    generalize carryQ c (redC c) (keepP c) s = q at *
    obtain ⟨t, e⟩ := q
    simp [hB]
    refine c1.s ?_
    simp
    intro b5
    refine GCall.fn (aI (countC c)) (fun h => ⟨trivial, c3⟩) ?_
    simp [hkl]
    refine V.cutN 2 [(2, .rptr (encC c)), (3, .rptr (encSt s)), (4, aB false), (5, .ptr 5 b5 0), (6, aIs (keepP c))] (by simp [encC, encSt]) (by simp [encC]) (vcN_of_rest rfl (wants_a c8 e8 fun h0 b8 => ?_))
    simp only at h0
    subst h0
    obtain ⟨k1, k2⟩ := v8 t rfl
    have hsm2 := sm_of hf2 (right_zero k1).2.1
    have c10 := Wants29_fn (redC c) t ho hsm2
    rw [show wantsR29 (redC c) t = (lineL (redC c) (gatesP (redC c) t), 0) by unfold wantsR29; rw [if_neg (by simp [k1])]] at c10
    exact wants_b c9 c10 l1 (by omega) hWm (hln _ _ (by have := hf2.sig; omega)) (w8 t rfl)
  · simp [hB]
    exact ht.s (by simp)
end Go.Proofs.YtbcjnmifflflfaaGreatDoor
end

section
namespace Go.Proofs.YtbcjnmifflflfaaGreatDoor
open Go.ChangeShapes Go.WideShapes Go.ChangeAt Go.RowKit
variable {P : Program}
def cellsD : Nat → DataW Unit → Option (List Value)
  | 0, _ => none
  | _ + 1, .lit (.int k n) => some [.int k n]
  | m + 1, .agg ds => (ds.mapM (cellsD m)).map List.flatten
  | _, _ => none
def niceT (P : Program) : Nat → TypeId → Bool
  | 0, _ => false
  | m + 1, t => match P.underlying t with
    | some (.int _) => true
    | some (.array n e) => n * P.cellsOf e == P.cellsOf t && niceT P m e
    | _ => false
theorem chunks {α : Type} (sz : Nat) (cs : List α) : ∀ n, n * sz ≤ cs.length → ((List.range n).map fun i => (cs.drop (i * sz)).take sz).flatten = cs.take (n * sz)
  | 0, _ => by simp
  | n + 1, h => by
    rw [List.range_succ, List.map_append, List.flatten_append, chunks sz cs n (by rw [Nat.add_mul] at h; omega)]
    simp only [List.map_cons, List.map_nil, List.flatten_cons, List.flatten_nil, List.append_nil]
    rw [Nat.add_mul, Nat.one_mul, List.take_add]
theorem mapM_some {α β : Type} {f : α → Option β} : ∀ {l : List α} {r : List β}, l.mapM f = some r → l.map f = r.map some
  | [], r, h => by
    simp at h
    subst h
    rfl
  | a :: l, r, h => by
    rw [List.mapM_cons] at h
    cases ha : f a with
    | none => rw [ha] at h; simp at h
    | some b =>
      cases hl : l.mapM f with
      | none => rw [ha, hl] at h; simp at h
      | some s =>
        rw [ha, hl] at h
        simp at h
        subst h
        simp [ha, mapM_some hl]
theorem cells_of_trod {W : World} {base : Nat} {sp : Nat → Bool} {held : Bool} : ∀ (m fuel : Nat) (t : TypeId) (cs : List Value) (d : DataW Unit) (p : List MemPlace) (vs : List Value),
    DataW.trod (fun _ => ()) P W base sp held fuel t cs = some (d, p) → niceT P m t = true → cellsD m d = some vs → cs = vs
  | 0, _, _, _, _, _, _, _, h, _ => by simp [niceT] at h
  | m + 1, 0, _, _, _, _, _, h, _, _ => by simp [DataW.trod] at h
  | m + 1, fuel + 1, t, cs, d, p, vs, h, hn, hc => by
    unfold niceT at hn
    unfold DataW.trod at h
    split at hn
    · rename_i k hk
      rw [hk] at h
      split at h <;> rename_i e1 <;> try (simp at e1; done)
      all_goals first
        | (split at h
           · simp only [Option.some.injEq, Prod.mk.injEq] at h
             obtain ⟨rfl, rfl⟩ := h
             rename_i hkk
             simp only [cellsD, Option.some.injEq] at hc
             subst hc
             obtain ⟨rfl, _⟩ := hkk
             simp only [Option.some.injEq, TypeDesc.int.injEq] at e1
             subst e1
             rfl
           · cases h)
        | (cases h; done)
    · rename_i n e hk
      simp only [Bool.and_eq_true, beq_iff_eq] at hn
      rw [hk] at h
      simp only at h
      split at h
      · rename_i hl
        obtain ⟨xs, hx, e1⟩ := Option.map_eq_some_iff.1 h
        simp only [Prod.mk.injEq] at e1
        obtain ⟨rfl, -⟩ := e1
        simp only [cellsD] at hc
        obtain ⟨ys, hy, rfl⟩ := Option.map_eq_some_iff.1 hc
        have h1 := mapM_some hx
        have h2 := mapM_some hy
        have hlen : xs.length = n := by
          have := congrArg List.length h1
          simpa using this.symm
        have hlen2 : ys.length = n := by
          have := congrArg List.length h2
          simp at this
          omega
        have key : ((List.range n).map fun i => (cs.drop (i * P.cellsOf e)).take (P.cellsOf e)) = ys := by
          apply List.ext_getElem
          · simp [hlen2]
          · intro i a1 a2
            have b1 : ((List.range n).map fun i => DataW.trod (fun _ => ()) P W base sp held fuel e ((cs.drop (i * P.cellsOf e)).take (P.cellsOf e)))[i]? = (xs.map some)[i]? := by rw [h1]
            have b2 : ((xs.map (·.1)).map (cellsD m))[i]? = (ys.map some)[i]? := by rw [h2]
            have hi : i < n := by omega
            rw [List.getElem?_map, List.getElem?_range hi, List.getElem?_map, List.getElem?_eq_getElem (show i < xs.length by omega)] at b1
            rw [List.getElem?_map, List.getElem?_map, List.getElem?_eq_getElem (show i < xs.length by omega), List.getElem?_map, List.getElem?_eq_getElem a2] at b2
            simp only [Option.map_some, Option.some.injEq] at b1 b2
            have := cells_of_trod m fuel e _ xs[i].1 xs[i].2 ys[i] b1 hn.2 b2
            simpa using this
        rw [← key, chunks _ _ _ (by omega), List.take_of_length_le (by omega)]
      · cases h
    · cases hn
theorem laid_at {W : World} : ∀ {l : List (String × DataW Unit)} {ps : List MemPlace}, DataW.LaidVars P W l ps → ∀ {n : String} {d : DataW Unit}, (n, d) ∈ l →
    ∃ g t cs fuel p, P.globalNamed n = some g ∧ (P.globals[g]?).map (·.type) = some t ∧ W.var? P n = some cs ∧ DataW.trod (fun _ => ()) P W 0 (fun _ => true) false fuel t cs.toList = some (d, p)
  | [], _, _, _, _, h => by cases h
  | (n', d') :: r, ps, h, n, d, hm => by
    obtain ⟨g, t, cs, fuel, p, q, h1, h2, h3, h4, h5, _⟩ := h
    rcases List.mem_cons.1 hm with e | hm
    · cases e
      exact ⟨g, t, cs, fuel, p, h1, h2, h3, h4⟩
    · exact laid_at h5 hm
def tabB (P : Program) (g : Nat) : Bool := match (P.globals[g]?).map (·.type) with
  | some t => niceT P 4 t
  | none => false
theorem tab_one {W : World} {laid : List (String × DataW Unit)} (hL : laidMet P laid W) {n : String} {d : DataW Unit} (hm : (n, d) ∈ laid) {g : Nat} {ls : List L} (hg : P.globalNamed n = some g) (hB : tabB P g = true) (hc : cellsD 4 d = some (ls.map plV)) :
    (X0 W).ok g ∧ ∃ ty fr, (X0 W).w.heap[g]? = some (.cells (ls.map plV).toArray ty fr) := by
  obtain ⟨ps, hv, _, _⟩ := hL
  obtain ⟨g', t', cs, fuel, p, h1, h2, h3, h4⟩ := laid_at hv hm
  obtain rfl := Option.some.inj (hg.symm.trans h1)
  have hn : niceT P 4 t' = true := by
    unfold tabB at hB
    rw [h2] at hB
    exact hB
  have e := cells_of_trod 4 fuel t' cs.toList d p _ h4 hn hc
  unfold World.var? at h3
  rw [hg] at h3
  simp only [Option.bind_some] at h3
  split at h3
  · rename_i c ty fr hh
    simp only [Option.some.injEq] at h3
    subst h3
    refine ⟨(Array.getElem?_eq_some_iff.1 hh).1, ty, fr, ?_⟩
    show W.heap[g]? = _
    rw [hh, ← e]
  · cases h3
end Go.Proofs.YtbcjnmifflflfaaGreatDoor
end

section
namespace Go.Proofs.YtbcjnmifflflfaaGreatDoor.topReduceWants
open Go.ChangeShapes Go.WideShapes Go.ChangeAt Go.RowKit
set_option maxRecDepth 100000
theorem own : ownKnob Tryz.prog.godebug = none := by kernel_rfl
abbrev laidL : List (String × DataW Unit) := [("math/bits.deBruijn32tab", Rows.laid_math_bits_deBruijn32tab), ("math/bits.deBruijn64tab", Rows.laid_math_bits_deBruijn64tab), ("internal/strconv.uint64pow10", Rows.laid_internal_strconv_uint64pow10)]
theorem tabs {W : World} (hL : laidMet Tryz.prog laidL W) : Tabs (X0 W) := by
  unfold Tabs tabL
  refine List.forall_mem_cons.2 ⟨tab_one hL (n := "internal/strconv.uint64pow10") (d := Rows.laid_internal_strconv_uint64pow10) (List.Mem.tail _ (List.Mem.tail _ (List.Mem.head _))) (by kernel_rfl) (by kernel_rfl) (by kernel_rfl), ?_⟩
  refine List.forall_mem_cons.2 ⟨tab_one hL (n := "math/bits.deBruijn32tab") (d := Rows.laid_math_bits_deBruijn32tab) (List.Mem.head _) (by kernel_rfl) (by kernel_rfl) (by kernel_rfl), ?_⟩
  refine List.forall_mem_cons.2 ⟨tab_one hL (n := "math/bits.deBruijn64tab") (d := Rows.laid_math_bits_deBruijn64tab) (List.Mem.tail _ (List.Mem.head _)) (by kernel_rfl) (by kernel_rfl) (by kernel_rfl), ?_⟩
  exact fun _ h => nomatch h
theorem lifted (os : Os) (started : os.Started) (H : Type) (enc : TypeId × Value → H) :
    ReturnsInHanded {} Tryz.checked os 10 .any (fun w args => (Rows.topReduceWantsSpec.pre enc Tryz.prog Tryz.f10 Rows.topReduceWantsRow.domain false w args ∧ laidMet Tryz.prog laidL w) ∧ sizedMet enc Tryz.prog Tryz.f10 (OpenSpec.ofChange Rows.topReduceWantsSpec) false w args) (Rows.topReduceWantsSpec.post enc Tryz.prog Tryz.f10 false true false false) := by
  refine returnsInHanded_of_change_and (C := Tryz.checked) (X := fun w _ => laidMet Tryz.prog laidL w) (fun _ _ _ hh h => h.of_heap hh) own started (by kernel_rfl) Tryz.func10
    (ChangeSpec.witness_at (enc := enc) (C := Tryz.checked) (os := os) (X := fun w _ => laidMet Tryz.prog laidL w) false (World.laidAll Tryz.prog os laidL) #[.agg #[.int .i64 0, .slice none 0 0, .slice none 0 0, .slice none 0 0, .slice none 0 0], .agg #[.slice none 0 0, .slice none 0 0, .slice none 0 0, .slice none 0 0, .slice none 0 0]] 8 (World.laidAll_os _ _ _) (by kernel_rfl) (by kernel_rfl) (by kernel_rfl) (by kernel_rfl) (by kernel_rfl)
      (laidMet_laidAll _ (by kernel_rfl) (by kernel_rfl))) ?_
  intro W base args ds gs before hval0 hW hcnd _ hL _
  have hval : ∀ (j : Nat) t v, Tryz.f10.params[j]? = some t → args[j]? = some v → Value.okWide Tryz.prog W .any base t v := hval0
  have hW' := hW
  obtain ⟨p, q, hA0, hV, rfl, hfz, hnd⟩ := hW
  have hA : DataW.TrodAll enc Tryz.prog W 0 (fun _ => true) true Tryz.f10.params.toList args.toList ds p := hA0
  rw [Tryz.params10] at hA hval
  obtain ⟨v0, vs0, d0, ds0, p0, q0, hargs, rfl, rfl, h0, r0⟩ := trodAll_cons hA
  obtain ⟨v1, vs1, d1, ds1, p1, q1, rfl, rfl, rfl, h1, r1⟩ := trodAll_cons r0
  obtain ⟨rfl, rfl, rfl⟩ := trodAll_nil r1
  obtain rfl : args = #[v0, v1] := by cases args; simp_all
  obtain ⟨rfl, rfl⟩ := trodVars_none hV
  obtain ⟨x0, e0, k0⟩ := read_C (hval 0 26 v0 rfl rfl) h0
  obtain ⟨x1, e1, k1⟩ := read_St (hval 1 60 v1 rfl rfl) h1
  simp only [List.append_nil] at hW'
  exact law_of (az := [aC x0, aSt x1]) (tb := 4) (tabs hL) facts.1 facts.2.1 facts.2.2 (by decide +kernel) (by kernel_rfl) Tryz.underlying4 hW' rfl rfl rfl rfl ⟨e0, e1, trivial⟩ (TopReduceWants_fn x0 x1 k0 k1)
theorem band {a b : Bool} (h : a = true) (k : b = true) : (a && b) = true := by rw [h, k]; rfl
set_option maxHeartbeats 0 in
theorem joined : joinedFacts Tryz.prog 10 Tryz.f10 Rows.topReduceWantsSpec Rows.topReduceWantsRow = true := by
  unfold joinedFacts
  refine band (band (band (band (band (band (band (band (band (band (band (band (band (band (band (band (band (band (band (band (band (band (band (band (band (band (band (band (band (band (band ?_ ?_) ?_) ?_) ?_) ?_) ?_) ?_) ?_) ?_) ?_) ?_) ?_) ?_) ?_) ?_) ?_) ?_) ?_) ?_) ?_) ?_) ?_) ?_) ?_) ?_) ?_) ?_) ?_) ?_) ?_) ?_
  all_goals (as_aux_lemma => kernel_rfl)
theorem over : Rows.topReduceWantsRow.holds Tryz.pinned (OpenSpec.ofChange Rows.topReduceWantsSpec) :=
  OpenClaim.holds_of_wide 10 Tryz.f10 rfl rfl rfl rfl rfl rfl rfl ⟨rfl, rfl, rfl, rfl, rfl⟩ rfl rfl rfl rfl rfl (by kernel_rfl) Tryz.func10 joined
    (of_decide_eq_true (by kernel_rfl)) (by unfold Func.isWrapper; first | (rw [if_pos (by decide +kernel)]; kernel_rfl) | (rw [if_neg (by decide +kernel)]; exact ⟨rfl, rfl⟩))
    (fun os started H enc _ => lifted os started H enc)
theorem proved : Rows.TopReduceWantsSaid := over
end Go.Proofs.YtbcjnmifflflfaaGreatDoor.topReduceWants
end
