/- Texts joined by a program: Yl, Fxc, Fxd, Ym. -/
import Derived.Test.YtbcjnmifflflfaaGreatDoorP19
import Derived.Test.YtbcjnmifflflfaaGreatDoorP18
import Derived.Test.YtbcjnmifflflfaaGreatDoorP3
import Derived.Test.YtbcjnmifflflfaaGreatDoorP13
set_option linter.unusedSimpArgs false
set_option linter.unusedVariables false

/- Contracts: the needed lines. -/
section
namespace Go.Proofs.YtbcjnmifflflfaaGreatDoor
set_option maxHeartbeats 8000000
set_option maxRecDepth 10000

def mapK (ns : List Int) : List (L × L) := ns.map fun n => (.int .i64 n, .bool true)
theorem mget_K (n : Int) : ∀ ns : List Int, mget (mapK ns) (.int .i64 n) = if n ∈ ns then some (.bool true) else none
  | [] => rfl
  | m :: ns => by
    have ih := mget_K n ns
    simp only [mapK, List.map_cons, mget, leq] at ih ⊢
    by_cases h : m = n
    · simp [h]
    · have h2 : ¬ n = m := fun e => h e.symm
      simp [h, h2]
      simpa using ih
theorem mput_K {n : Int} : ∀ {ns : List Int}, n ∉ ns → mput (mapK ns) (.int .i64 n) (.bool true) = mapK (ns ++ [n])
  | [], _ => rfl
  | m :: ns, h => by
    have h1 : ¬ m = n := fun e => h (by simp [e])
    have ih := mput_K (n := n) (ns := ns) fun hm => h (by simp [hm])
    simp only [mapK, List.map_cons, List.cons_append, mput, leq] at ih ⊢
    simp [h1]
    simpa using ih
theorem nodup_len : ∀ {l m : List Int}, l.Nodup → (∀ v ∈ l, v ∈ m) → l.length ≤ m.length
  | [], _, _, _ => Nat.zero_le _
  | v :: l, m, hn, hs => by
    have h1 := List.nodup_cons.1 hn
    have h2 := nodup_len (l := l) (m := m.erase v) h1.2 (by
      intro w hw
      have hne : w ≠ v := fun e => h1.1 (e ▸ hw)
      exact (List.mem_erase_of_ne hne).2 (hs w (by simp [hw])))
    have h3 := hs v (by simp)
    rw [List.length_erase_of_mem h3] at h2
    have : 0 < m.length := List.length_pos_of_mem h3
    simp only [List.length_cons]
    omega

/-- Lines that were marked, and more. -/
structure Grown (c : Control) (ns ns' : List Int) : Prop where
  sub : ∀ v ∈ ns, v ∈ ns'
  nodup : ns'.Nodup
  closed : ∀ v ∈ ns', v ∉ ns → ∀ u ∈ useL c v, firstC c ≤ clsL c u → clsL c u ∈ ns'
  need : ∀ v ∈ ns', Need c v
theorem Grown.refl {c : Control} {ns : List Int} (h1 : ns.Nodup) (h2 : ∀ v ∈ ns, Need c v) : Grown c ns ns := ⟨fun _ h => h, h1, fun _ h k => absurd h k, h2⟩
theorem Grown.trans {c : Control} {ns ns1 ns2 : List Int} (h : Grown c ns ns1) (k : Grown c ns1 ns2) : Grown c ns ns2 := by
  refine ⟨fun v hv => k.sub v (h.sub v hv), k.nodup, fun v hv hn u hu h1 => ?_, k.need⟩
  by_cases h2 : v ∈ ns1
  · exact k.sub _ (h.closed v h2 hn u hu h1)
  · exact k.closed v hv h2 u hu h1
/-- Nothing is needed but what is marked. -/
theorem grown_all {c : Control} {ns : List Int} (h : Grown c [] ns) (hp : ∀ p, p ∈ c.plus ∨ p ∈ c.minus → firstC c ≤ clsL c p → clsL c p ∈ ns) : ∀ v, Need c v ↔ v ∈ ns := by
  intro v
  refine ⟨fun hv => ?_, h.need v⟩
  induction hv with
  | pilot h1 h2 => exact hp _ h1 h2
  | use h1 h2 h3 ih => exact h.closed _ ih (by simp) _ h2 h3
noncomputable abbrev capM (c : Control) (b5 b6 : Nat) : List A := [.rptr [.sl ((alikeC c).map encI)], .rptr (encC c), .ptr 5 b5 0, .ptr 6 b6 0]
noncomputable abbrev mkH (c : Control) (b5 b6 r : Nat) (ns : List Int) : Heap := [(6, .box b6 [.fn 109 [] (capM c b5 b6)]), (5, .box b5 [.map 10 r]), (10, .map r (.int .i64) (mapK ns))]
@[simp] theorem mp_ib : mpT Tryz.prog 166 = some (.int .i64, .bool false) := by kernel_rfl

theorem usesLen {c : Control} (hf : Fine c) {i : Nat} {s : Signal} (hi : c.signals[i]? = some s) : (usesL s).length ≤ 1000 := by
  rw [used_met hf hi]
  have := metB_len (countC c).toNat fun k => occE s.on k || occE s.off k
  have h2 : countC c ≤ 1000 := by have := hf.act; have := hf.inp; have := hf.sig; unfold countC; omega
  omega
theorem mark_s (c : Control) (hf : Fine c) (hc : OkC c) (hp : PilC c) (hz : checkC c = 0) (b5 b6 r : Nat) : ∀ (N : Nat) (ns : List Int) (line : Int), (needL c).length - ns.length < N → 0 ≤ line ∧ line < countC c → ns.Nodup → (∀ v ∈ ns, Need c v) → (firstC c ≤ clsL c line → Need c (clsL c line)) →
    CallS Tryz.prog 109 (aI line :: capM c b5 b6) (mkH c b5 b6 r ns) fun z H' => ∃ ns', z = .tuple [] ∧ H' = mkH c b5 b6 r ns' ∧ Grown c ns ns' ∧ (firstC c ≤ clsL c line → clsL c line ∈ ns')
  | 0, _, _, h, _, _, _, _ => absurd h (Nat.not_lt_zero _)
  | N + 1, ns, line, hN, hl, hnd, hne, hnl => by
    have hcl := cls_at hf hl
    have hcr := cls_range hf hl
    have hcn := count_first c
    have h0 := hf.f0
    have hal := alike_len hf
    refine CallS.dropP (callS_of Tryz.func109 rfl Tryz.ntmps109 (rs := []) rfl (by kernel_rfl) (by simp) (by kernel_rfl) (K := fun z H' => ∃ ns', z = .tuple [] ∧ (Grown c ns ns' ∧ (firstC c ≤ clsL c line → clsL c line ∈ ns')) ∧ subP (mkH c b5 b6 r ns') H') ?_) (fun z H' ⟨ns', h1, h2, h3⟩ => ⟨_, h3, ns', h1, rfl, h2⟩)
    generalize hq : clsL c line = q at *
    have hlt : line < (alikeC c).length := by omega
    have hlt2 : line.toNat < (alikeC c).length := by omega
    have hcl1 : (alikeC c)[line.toNat]'hlt2 = q := by
      rw [List.getElem?_eq_getElem hlt2] at hcl
      exact Option.some.inj hcl
    simp [hcl, hcl1, hl.1, hlt]
    refine (firstQ_fn c hf.sm).s ?_
    by_cases h1 : q < firstC c
    · by_cases h2 : q ∈ ns
      all_goals
        simp [mget_K, hcl1, h1, h2]
        exact ⟨ns, ⟨.refl hnd hne, fun h => absurd h (by omega)⟩, subP.refl _⟩
    · by_cases h2 : q ∈ ns
      · simp [mget_K, hcl1, h1, h2]
        exact ⟨ns, ⟨.refl hnd hne, fun _ => h2⟩, subP.refl _⟩
      · have hnq : Need c q := hnl (by omega)
        obtain ⟨n, x, k1, k2, k3, k4, k5⟩ := need_sig hf hp hnq
        have hu := Uses_fn c q hc
        have hue : usesP c q = (usesL x, 0) := usesP_sig hz (by omega) (by omega) h0 (by rw [k1, show (firstC c + (n : Int) - firstC c).toNat = n by omega]; exact k2)
        rw [hue, ← k5] at hu
        have hur : ∀ u ∈ useL c q, 0 ≤ u ∧ u < countC c := fun u h => use_range hf h
        have hul : (useL c q).length ≤ 1000 := by rw [k5]; exact usesLen hf k2
        have hnd2 : (ns ++ [q]).Nodup := List.nodup_append.2 ⟨hnd, by simp, by intro a ha b hb e; simp at hb; exact h2 (by rw [← hb, ← e]; exact ha)⟩
        have hne2 : ∀ v ∈ ns ++ [q], Need c v := by
          intro v hv
          rcases List.mem_append.1 hv with h | h
          · exact hne v h
          · simp at h; rw [h]; exact hnq
        have hlen : (ns ++ [q]).length ≤ (needL c).length := nodup_len hnd2 fun v hv => (mem_need hf hp).2 (hne2 v hv)
        simp only [List.length_append, List.length_cons, List.length_nil] at hlen
        have hus : ∀ u ∈ useL c q, firstC c ≤ clsL c u → Need c (clsL c u) := fun u hu h => .use hnq hu h
        have ih := mark_s c hf hc hp hz b5 b6 r N
        generalize hU : useL c q = us at *
        simp [mget_K, hcl1, h1, h2, mput_K]
        refine hu.s ?_
        simp
        refine V.for' [4, 31, 32] (fun p : Nat × List Int => [(33, aI p.1)]) (fun p => mkH c b5 b6 r p.2)
          (fun p => p.1 ≤ us.length ∧ Grown c (ns ++ [q]) p.2 ∧ ∀ u ∈ us.take p.1, firstC c ≤ clsL c u → clsL c u ∈ p.2) (fun p => us.length - p.1) (0, ns ++ [q]) ⟨⟨Nat.zero_le _, .refl hnd2 hne2, by simp⟩, by simp, subP.refl _⟩ ?_
        rintro ⟨i, ns1⟩ ⟨hi, hG, hI⟩
        simp only at hi hG hI
        by_cases hlt3 : i < us.length
        · obtain ⟨u, hu1⟩ : ∃ u, us[i]'hlt3 = u := ⟨_, rfl⟩
          have huo : us[i]? = some u := by rw [List.getElem?_eq_getElem hlt3, hu1]
          have hum : u ∈ us := List.mem_of_getElem? huo
          have hl1 := nodup_len (l := ns ++ [q]) (m := ns1) hnd2 hG.sub
          simp only [List.length_append, List.length_cons, List.length_nil] at hl1
          have hl2 : ns1.length ≤ (needL c).length := nodup_len hG.nodup fun v hv => (mem_need hf hp).2 (hG.need v hv)
          have ih1 := ih ns1 u (by omega) (hur u hum) hG.nodup hG.need (hus u hum)
          simp [hlt3, hu1]
          refine ih1.mono ?_
          rintro z H' ⟨ns2, rfl, rfl, hG2, hI2⟩
          simp
          refine ⟨by omega, i + 1, ns2, ⟨hlt3, hG.trans hG2, ?_⟩, by omega, by simp, subP.refl _⟩
          intro w hw hw1
          rw [List.take_add_one, huo] at hw
          rcases List.mem_append.1 hw with h | h
          · exact hG2.sub _ (hI w h hw1)
          · simp at h
            subst h
            exact hI2 hw1
        · obtain rfl : i = us.length := by omega
          rw [List.take_length] at hI
          simp
          refine ⟨ns1, ⟨⟨fun v hv => hG.sub v (by simp [hv]), hG.nodup, fun v hv hvn w hw hw1 => ?_, hG.need⟩, fun _ => hG.sub q (by simp)⟩, subP.refl _⟩
          by_cases hvq : v = q
          · subst hvq
            rw [hU] at hw
            exact hI w hw hw1
          · exact hG.closed v hv (by simp [hvn, hvq]) w hw hw1

end Go.Proofs.YtbcjnmifflflfaaGreatDoor
end

/- Ranging over a map. -/
section
namespace Go.Proofs.YtbcjnmifflflfaaGreatDoor
variable {P : Program}

theorem next_run {w : World} {b m c : Nat} {seen : Array Nat} {ms : Array MapEntry} (h1 : w.heap[b]? = some (.mapIter (some m) c seen c)) (h2 : w.heap[m]? = some (.map ms c)) (hst : ∀ e ∈ ms.toList, e.born < c) (ty : TypeId) :
    ((∀ e ∈ ms.toList, seen.contains e.born = true) ∧ ∃ d, (Instr.next (.pointer (some ⟨b, 0, none⟩)) false ty).run P w = .ok (.tuple #[.bool false]) { w with drawn := d }) ∨
    ∃ e d, e ∈ ms.toList ∧ seen.contains e.born = false ∧ (Instr.next (.pointer (some ⟨b, 0, none⟩)) false ty).run P w = .ok (.tuple #[.bool true, e.key, e.val]) { w with drawn := d, heap := w.heap.setIfInBounds b (.mapIter (some m) c (seen.push e.born) c) } := by
  have hno : (!seen.isEmpty && !ms.isEmpty && ms.all (·.born ≥ c)) = false := by
    by_cases hm : ms.isEmpty = true
    · simp [hm]
    · have : ∃ e, e ∈ ms.toList := by
        cases hl : ms.toList with
        | nil => exact absurd (by simpa [Array.isEmpty_iff] using hl) hm
        | cons e r => exact ⟨e, by simp⟩
      obtain ⟨e, he⟩ := this
      have hb := hst e he
      have : ms.all (fun e => decide (e.born ≥ c)) = false := by
        rw [Bool.eq_false_iff]
        intro hall
        rw [Array.all_eq_true'] at hall
        have := hall e (by simpa using he)
        simp at this
        omega
      simp [this]
  have hold : (ms.filter fun e => !seen.contains e.born).filter (·.born < c) = ms.filter fun e => !seen.contains e.born := by
    rw [Array.filter_eq_self]
    intro e he
    have := (Array.mem_filter.1 he).1
    simpa using hst e (by simpa using this)
  have hnew : (ms.filter fun e => !seen.contains e.born).filter (·.born ≥ c) = #[] := by
    rw [Array.filter_eq_empty_iff]
    intro e he
    have := (Array.mem_filter.1 he).1
    have := hst e (by simpa using this)
    simp
    omega
  obtain ⟨lf, hl⟩ : ∃ lf, lf = ms.filter fun e => !seen.contains e.born := ⟨_, rfl⟩
  rw [← hl] at hold hnew
  have hob : (getObj b).run P w = .ok (.mapIter (some m) c seen c) w := by simp [getObj, Sem.run, h1]
  have hom : (getObj m).run P w = .ok (.map ms c) w := MapKept.run_getObj_map h2
  by_cases hle : lf.isEmpty = true
  · refine .inl ⟨?_, w.drawn, ?_⟩
    · intro e he
      have h3 : lf = #[] := by simpa [Array.isEmpty_iff] using hle
      rw [h3] at hl
      have := Array.filter_eq_empty_iff.1 hl.symm e (by simpa using he)
      simpa using this
    · simp only [Instr.next, Sem.run_bind, hob, Result.andThen_ok, hom]
      rw [hno]
      simp only [Bool.false_eq_true, if_false, ← hl, hold, hnew, hle, if_true, Sem.run_bind, Sem.run_pure, Result.andThen_ok]
      have h3 : lf = #[] := by simpa [Array.isEmpty_iff] using hle
      rw [h3]
      simp [Question.forced]
  · have hne : 0 < lf.size := by
      rcases Nat.eq_zero_or_pos lf.size with h | h
      · exact absurd (by simpa [Array.isEmpty] using h) hle
      · exact h
    have hin : ∀ i (hi : i < lf.size), lf[i] ∈ ms.toList ∧ seen.contains lf[i].born = false := by
      intro i hi
      have h3 : lf[i] ∈ ms.filter fun e => !seen.contains e.born := by
        have := Array.getElem_mem hi
        generalize lf[i] = z at *
        rw [hl] at this
        exact this
      have h4 := Array.mem_filter.1 h3
      exact ⟨by simpa using h4.1, by simpa using h4.2⟩
    have hpart : ∀ i (hi : i < lf.size) d, (∀ k : Nat → Sem Value, (choose (.mapNext lf.size) >>= k).run P w = (k i).run P { w with drawn := d }) →
        (Instr.next (.pointer (some ⟨b, 0, none⟩)) false ty).run P w = .ok (.tuple #[.bool true, lf[i].key, lf[i].val]) { w with drawn := d, heap := w.heap.setIfInBounds b (.mapIter (some m) c (seen.push lf[i].born) c) } := by
      intro i hi d hk
      simp only [Instr.next, Sem.run_bind, hob, Result.andThen_ok, hom]
      rw [hno]
      simp only [Bool.false_eq_true, if_false, ← hl, hold, hnew]
      rw [if_neg (by simpa using hle)]
      simp only [Array.append_empty, Array.empty_append, Array.size_map]
      refine (hk _).trans ?_
      simp [hi, setObj, Sem.run, h1]
    by_cases h1s : lf.size ≤ 1
    · obtain ⟨a1, a2⟩ := hin 0 hne
      refine .inr ⟨lf[0], w.drawn, a1, a2, hpart 0 hne w.drawn fun k => ?_⟩
      simp [choose, Sem.run, Question.forced, h1s, bind, Sem.bind]
    · have hi := Nat.mod_lt (w.tape w.drawn (.mapNext lf.size)) hne
      obtain ⟨a1, a2⟩ := hin _ hi
      refine .inr ⟨_, w.drawn + 1, a1, a2, hpart _ hi (w.drawn + 1) fun k => ?_⟩
      simp [choose, Sem.run, Question.forced, h1s, Question.cut, bind, Sem.bind]

end Go.Proofs.YtbcjnmifflflfaaGreatDoor
end

/- Ranging over a map, as a loop. -/
section
namespace Go.Proofs.YtbcjnmifflflfaaGreatDoor
variable {P : Program}

theorem drew_le {x y : X} (h1 : y.w.heap = x.w.heap) (h2 : y.w.os = x.w.os) (h3 : y.w.output = x.w.output) (h4 : y.w.tape = x.w.tape) (h5 : y.ok = x.ok) (h6 : x.w.drawn ≤ y.w.drawn) {H : Heap} (hi : Inv x H) : x.le y ∧ Inv y H := by
  have hle : x.le y := ⟨fun b hb => ⟨by rw [h5]; exact hb, by rw [h1]⟩, h2, h3, h4, by rw [h1]; exact Nat.le_refl _, h6⟩
  refine ⟨hle, hi.step hle (fun b hb => ?_) (fun b hb => .inl (by rw [← h5]; exact hb)) (fun p _ b _ => by rw [h1])⟩
  rw [h5] at hb
  rw [h1]
  exact hi.bd b hb
/-- The head of a range over a map: nothing is left, or some entry that was not seen. -/
theorem W.nextMap {C : Cfg} {id : Nat} {ops : Array Oper} {o : Oper} {rest : List Oper} (hops : ops.toList = o :: rest) {t0 : Nat} (ho : o.op = .next (.tmp t0) false) (hg : o.guard = none)
    {E : Env} {R : Heap} {Q : PostQ} {g b1 m c : Nat} {seen : Array Nat} {ms : Array MapEntry} (hms : ∀ e ∈ ms.toList, e.born < c) (hE : E t0 = .ptr g b1 0) (hf : fitsOps C.n ops.toList = true)
    (h1 : (∀ e ∈ ms.toList, seen.contains e.born = true) → vcOps C.P ops.toList rest (put E o.dst (.tuple [.dat (.bool false)])) ((g, .raw b1 (.mapIter (some m) c seen c)) :: (89, .raw m (.map ms c)) :: R) fun E' H' => Q .normal E' H')
    (h2 : ∀ e ∈ ms.toList, seen.contains e.born = false → vcOps C.P ops.toList rest (put E o.dst (.tuple [.dat (.bool true), .any, .any])) ((g, .raw b1 (.mapIter (some m) c (seen.push e.born) c)) :: (89, .raw m (.map ms c)) :: R) fun E' H' => Q .normal E' H') :
    W C (.region id ops false) E ((g, .raw b1 (.mapIter (some m) c seen c)) :: (89, .raw m (.map ms c)) :: R) Q := by
  intro x act H0 mks hi he
  have hfo := fitsOps_ok hf
  have hf0 : fits C.n o.dst := hfo o (by rw [hops]; simp)
  have hfr : ∀ o' ∈ rest, fits C.n o'.dst := fun o' ho' => hfo o' (by rw [hops]; simp [ho'])
  have key : wpListIn (fw C.r) 0 C.P ops.toList.toArray (Post C.n H0 Q x) ops.toList act x.w := by
    conv => arg 6; rw [hops]
    simp only [wpListIn]
    have hw : Region.wanted o (yielded ops.toList.toArray act.tmps) = true := by simp [Region.wanted, hg]
    rw [if_pos hw]
    refine ⟨fun _ _ => trivial, ?_⟩
    have hdf : isDefer o.op = false := by rw [ho]; rfl
    rw [semAt_exec _ _ hdf]
    have hs1 : x.w.heap[b1]? = some (.mapIter (some m) c seen c) := hi.sat (g, .raw b1 (.mapIter (some m) c seen c)) (by simp)
    have hs2 : x.w.heap[m]? = some (.map ms c) := hi.sat (89, .raw m (.map ms c)) (by simp)
    have hd := he.slot t0
    rw [hE] at hd
    simp only [D] at hd
    have hx : ∀ {v : Value} {w' : World}, (Instr.next (.pointer (some ⟨b1, 0, none⟩)) false o.type).run C.P x.w = .ok v w' → (execOp act.eval o).run C.P x.w = .ok (.value v) w' := by
      intro v w' h
      have hev : act.eval (.tmp t0) = .pointer (some ⟨b1, 0, none⟩) := hd
      obtain ⟨dst, op, type, pos, after, guard⟩ := o
      simp only at ho
      subst ho
      simp only [execOp, hev]
      simp [h]
    rcases next_run (P := C.P) hs1 hs2 hms o.type with ⟨ha, d, hr⟩ | ⟨e, d, hem, hes, hr⟩
    · rw [hx hr]
      obtain ⟨hle, hiy⟩ := drew_le (x := x) (y := ⟨{ x.w with drawn := d }, x.ok⟩) rfl rfl rfl rfl rfl (Sem.run_drawn _ _ hr) hi
      exact vcOps_ok (C := C) (ops := ops.toList) (Q := Post C.n H0 Q x) (x0 := x) (H0 := marks mks ++ H0) rest _ _ _ hfr (h1 ha)
        (fun E' H' y a hk hle' hi' he' => ⟨y, E', H', mks, rfl, hle', hi', he', hk⟩) ⟨{ x.w with drawn := d }, x.ok⟩ _ hle hiy ((he.mono hle).put hf0 (by simp only [D]; exact ⟨_, rfl, by simp [Ds, D, RdL]⟩))
    · rw [hx hr]
      obtain ⟨hle1, hi1⟩ := raw_turn (H := (g, .raw b1 (.mapIter (some m) c seen c)) :: (89, .raw m (.map ms c)) :: R) (H0 := marks mks ++ H0) (g := g) (b := b1) (o := .mapIter (some m) c seen c) (o' := .mapIter (some m) c (seen.push e.born) c) hi (by simp [hget])
      obtain ⟨hle2, hi2⟩ := drew_le (x := ⟨{ x.w with heap := x.w.heap.setIfInBounds b1 (.mapIter (some m) c (seen.push e.born) c) }, x.ok⟩) (y := ⟨{ x.w with drawn := d, heap := x.w.heap.setIfInBounds b1 (.mapIter (some m) c (seen.push e.born) c) }, x.ok⟩) rfl rfl rfl rfl rfl (show x.w.drawn ≤ d from Sem.run_drawn _ _ hr) hi1
      have hle := hle1.trans hle2
      rw [show happ (some (g, .raw b1 (.mapIter (some m) c (seen.push e.born) c))) ((g, .raw b1 (.mapIter (some m) c seen c)) :: (89, .raw m (.map ms c)) :: R) = (g, .raw b1 (.mapIter (some m) c (seen.push e.born) c)) :: (89, .raw m (.map ms c)) :: R by simp [happ, hget, hset]] at hi2
      exact vcOps_ok (C := C) (ops := ops.toList) (Q := Post C.n H0 Q x) (x0 := x) (H0 := marks mks ++ H0) rest _ _ _ hfr (h2 e hem hes)
        (fun E' H' y a hk hle' hi' he' => ⟨y, E', H', mks, rfl, hle', hi', he', hk⟩) ⟨{ x.w with drawn := d, heap := x.w.heap.setIfInBounds b1 (.mapIter (some m) c (seen.push e.born) c) }, x.ok⟩ _ hle hi2 ((he.mono hle).put hf0 (by simp only [D]; exact ⟨_, rfl, by simp [Ds, D, RdL]⟩))
  exact wpIn_region_list (by simpa using key)

theorem unseen_lt {ms : List MapEntry} {seen : Array Nat} {e : MapEntry} (he : e ∈ ms) (hs : seen.contains e.born = false) :
    (ms.filter fun x => !(seen.push e.born).contains x.born).length < (ms.filter fun x => !seen.contains x.born).length := by
  have hsub : ∀ l : List MapEntry, (l.filter fun x => !(seen.push e.born).contains x.born).length ≤ (l.filter fun x => !seen.contains x.born).length := by
    intro l
    induction l with
    | nil => simp
    | cons a l ih =>
      by_cases h1 : seen.contains a.born = true
      · have h2 : (seen.push e.born).contains a.born = true := by
          simp only [Array.contains_iff_mem] at h1 ⊢
          simp [h1]
        simp only [List.filter_cons, h1, h2, Bool.not_true, Bool.false_eq_true, if_false]
        exact ih
      · have h1' : seen.contains a.born = false := by simpa using h1
        cases h2 : (seen.push e.born).contains a.born <;> simp only [List.filter_cons, h1', h2, Bool.not_false, Bool.not_true, if_true, Bool.false_eq_true, if_false, List.length_cons] <;> omega
  induction ms with
  | nil => cases he
  | cons a l ih =>
    rcases List.mem_cons.1 he with rfl | he
    · have h2 : (seen.push e.born).contains e.born = true := by simp [Array.contains_iff_mem]
      simp only [List.filter_cons, hs, h2, Bool.not_true, Bool.false_eq_true, if_false, Bool.not_false, if_true, List.length_cons]
      have := hsub l
      omega
    · have ih := ih he
      by_cases h1 : seen.contains a.born = true
      · have h2 : (seen.push e.born).contains a.born = true := by
          simp only [Array.contains_iff_mem] at h1 ⊢
          simp [h1]
        simp only [List.filter_cons, h1, h2, Bool.not_true, Bool.false_eq_true, if_false]
        exact ih
      · have h1' : seen.contains a.born = false := by simpa using h1
        cases h2 : (seen.push e.born).contains a.born <;> simp only [List.filter_cons, h1', h2, Bool.not_false, Bool.not_true, if_true, Bool.false_eq_true, if_false, List.length_cons] <;> omega
/-- A range over a map that does not change: every entry once, in some order. -/
theorem V.rangeMap {C : Cfg} {id : Nat} {ops : Array Oper} {o : Oper} {rest : List Oper} {b : Code} (hops : ops.toList = o :: rest) {t0 : Nat} (ho : o.op = .next (.tmp t0) false) (hg : o.guard = none)
    {E : Env} {H kh : Heap} {Q : PostQ} {σ : Type} {kv : List (Nat × A)} (Lv : List Nat) (hkv : kv = Lv.map fun t => (t, E t)) (sl : σ → List (Nat × A)) (Hs : σ → Heap) (I : Array Nat → σ → Prop)
    {g b1 m c : Nat} {ms : Array MapEntry} (hst : ∀ e ∈ ms.toList, e.born < c) (ht0 : ∀ s, hdE kv (sl s) t0 = .ptr g b1 0) (s0 : σ)
    (h0 : I #[] s0) (hE0 : ∀ p ∈ sl s0, wk (E p.1) p.2) (hH0 : subN ((g, .raw b1 (.mapIter (some m) c #[] c)) :: (89, .raw m (.map ms c)) :: hcat (Hs s0) kh) H)
    (hr : ∀ seen s e, I seen s → e ∈ ms.toList → seen.contains e.born = false → vcOps C.P ops.toList rest (put (hdE kv (sl s)) o.dst (.tuple [.dat (.bool true), .any, .any]))
      ((g, .raw b1 (.mapIter (some m) c (seen.push e.born) c)) :: (89, .raw m (.map ms c)) :: hcat (Hs s) kh) fun E' H' => vcC C b E' H' (LoopQ Q fun E' H' =>
        ∃ s', I (seen.push e.born) s' ∧ (∀ p ∈ sl s', wk (E' p.1) p.2) ∧ (∀ p ∈ kv, E' p.1 = p.2) ∧ subN ((g, .raw b1 (.mapIter (some m) c (seen.push e.born) c)) :: (89, .raw m (.map ms c)) :: hcat (Hs s') kh) H'))
    (he : ∀ seen s, I seen s → (∀ e ∈ ms.toList, seen.contains e.born = true) → vcOps C.P ops.toList rest (put (hdE kv (sl s)) o.dst (.tuple [.dat (.bool false)]))
      ((g, .raw b1 (.mapIter (some m) c seen c)) :: (89, .raw m (.map ms c)) :: hcat (Hs s) kh) fun E' H' => vcC C b E' H' (LoopQ Q fun _ _ => False)) :
    V C (.loop (.seq (.region id ops false) b)) E H Q := by
  intro hf x act H0 mks hi hen
  have hf2 : fitsOps C.n ops.toList = true ∧ fitsC C.n b = true := by
    simp only [fitsC, Bool.and_eq_true] at hf
    exact hf
  have hhead : ∀ {s : σ} {E' : Env} {y : X} {a : Act} {ds : List Deferred}, EnvOK C.n ds y a E' → (∀ p ∈ sl s, wk (E' p.1) p.2) → (∀ p ∈ kv, E' p.1 = p.2) → EnvOK C.n ds y a (hdE kv (sl s)) := by
    intro s E' y a ds h h1 h2
    refine ⟨h.defers, h.size, sets_wk h.slot _ _ h1 (sets_wk h.slot _ _ ?_ fun t => by simp [anyE, D])⟩
    intro p hp
    rw [h2 p hp]
    simp
  have h00 : ∀ p ∈ kv, E p.1 = p.2 := by
    intro p hp
    rw [hkv] at hp
    obtain ⟨t, _, rfl⟩ := List.mem_map.1 hp
    rfl
  let HH : Array Nat → σ → Heap := fun seen s => (g, .raw b1 (.mapIter (some m) c seen c)) :: (89, .raw m (.map ms c)) :: hcat (Hs s) kh
  have key : W C (.loop (.seq (.region id ops false) b)) (hdE kv (sl s0)) (HH #[] s0) Q := by
    refine W.loop (fun n E' H' => ∃ seen s, I seen s ∧ (ms.toList.filter fun x => !seen.contains x.born).length = n ∧ E' = hdE kv (sl s) ∧ H' = HH seen s) _ ⟨#[], s0, h0, rfl, rfl, rfl⟩ ?_
    rintro n _ _ ⟨seen, s, hI, rfl, rfl, rfl⟩
    have hbody : W C (.seq (.region id ops false) b) (hdE kv (sl s)) (HH seen s) (LoopQ Q fun E' H' =>
        ∃ e s', e ∈ ms.toList ∧ seen.contains e.born = false ∧ I (seen.push e.born) s' ∧ (∀ p ∈ sl s', wk (E' p.1) p.2) ∧ (∀ p ∈ kv, E' p.1 = p.2) ∧ subN (HH (seen.push e.born) s') H') := by
      refine W.seq ?_
      refine W.nextMap hops ho hg hst (ht0 s) hf2.1 (fun ha => ?_) (fun e hem hes => ?_)
      · refine vcOps_mono rest (fun E' H' hq => ?_) (he seen s hI ha)
        refine (vcC_ok b E' H' _ hf2.2 hq).mono ?_
        intro ex E2 H2 h
        cases ex <;> first | exact h | exact h.elim
      · refine vcOps_mono rest (fun E' H' hq => ?_) (hr seen s e hI hem hes)
        refine (vcC_ok b E' H' _ hf2.2 hq).mono ?_
        intro ex E2 H2 h
        cases ex <;> first | exact h | exact h.elim | (obtain ⟨s', k1, k2, k3, k4⟩ := h; exact ⟨e, s', hem, hes, k1, k2, k3, k4⟩)
    intro x act H0 mks hi hen
    refine wpIn_mono (hbody x act H0 mks hi hen) ?_
    rintro ex a' w' ⟨y, E', H', ms', rfl, hle, hi', he', hq⟩
    cases ex with
    | normal =>
      obtain ⟨e, s', h1, h2, h3, h4, h5, h6⟩ := hq
      exact ⟨y, _, _, ms', rfl, hle, subN_inv h6 hi', hhead he' h4 h5, _, unseen_lt h1 h2, seen.push e.born, s', h3, rfl, rfl, rfl⟩
    | exit k => exact ⟨y, E', H', ms', rfl, hle, hi', he', hq⟩
    | ret => exact ⟨y, E', H', ms', rfl, hle, hi', he', hq⟩
    | goto k => exact hq.elim
    | panic k => exact hq.elim
    | outgrown => exact hq.elim
  exact key x act H0 mks (subN_inv hH0 hi) (hhead hen hE0 h00)

end Go.Proofs.YtbcjnmifflflfaaGreatDoor
end

/- Contracts: the needed lines; Needed. -/
section
namespace Go.Proofs.YtbcjnmifflflfaaGreatDoor
set_option maxHeartbeats 8000000
set_option maxRecDepth 10000

/-- Memory seen otherwise, in a way that memory tells. -/
theorem V.ex {P : Program} {C : Cfg} {c : Code} {E : Env} {H : Heap} {Q : PostQ} {ι : Type} (Hs : ι → Heap) (hi : ∀ x H0, Inv x (H ++ H0) → ∃ i, Inv x (Hs i ++ H0)) (h : ∀ i, V C c E (Hs i) Q) : V C c E H Q := by
  intro hf x act H0 ms hx he
  obtain ⟨i, hi⟩ := hi x _ hx
  exact h i hf x act H0 ms hi he
/-- What a map of marked lines is in memory. -/
structure RawK (ns : List Int) (ms : Array MapEntry) (c : Nat) : Prop where
  keys : ms.toList.map (·.key) = ns.map (Value.int .i64)
  vals : ∀ e ∈ ms.toList, e.val = .bool true
  st : MapKept.Stamped ms c
theorem mapOK_keys {x : X} : ∀ {ns : List Int} {ms : List MapEntry}, MapOK x (mapK ns) ms → ms.map (·.key) = ns.map (Value.int .i64) ∧ ∀ e ∈ ms, e.val = .bool true
  | [], [], _ => by simp
  | [], _ :: _, h => by simp [mapK, MapP] at h
  | _ :: _, [], h => by simp [mapK, MapP] at h
  | n :: ns, m :: ms, h => by
    have h' : MapOK x ((.int .i64 n, .bool true) :: mapK ns) (m :: ms) := h
    simp only [MapP] at h'
    obtain ⟨h1, h2, h3⟩ := h'
    obtain ⟨k1, k2⟩ := mapOK_keys h3
    have h4 : m.key = .int .i64 n := by simpa [kv] using h1
    have h5 : m.val = .bool true := by simpa [RdL] using h2
    refine ⟨by simp [h4, k1], fun e he => ?_⟩
    rcases List.mem_cons.1 he with rfl | he
    · exact h5
    · exact k2 e he
theorem rot3 {α : Type} (a b c : α) (R : List α) : (c :: a :: b :: R).Perm (a :: b :: c :: R) := (List.perm_middle (l₁ := [a, b])).symm
theorem rawK_open {x : X} {c : Control} {b5 b6 r : Nat} {ns : List Int} {H0 : Heap} (h : Inv x (mkH c b5 b6 r ns ++ H0)) : ∃ p : {p : Array MapEntry × Nat // RawK ns p.1 p.2}, Inv x ([(6, .box b6 [.fn 109 [] (capM c b5 b6)]), (5, .box b5 [.map 89 r]), (89, .raw r (.map p.1.1 p.1.2))] ++ H0) := by
  have h1 : Inv x ((10, .map r (.int .i64) (mapK ns)) :: (6, .box b6 [.fn 109 [] (capM c b5 b6)]) :: (5, .box b5 [.map 10 r]) :: H0) := h.perm (rot3 _ _ _ _)
  obtain ⟨ms, cl, k1, k2, k3, k4⟩ := h1.sat (10, .map r (.int .i64) (mapK ns)) (by simp)
  obtain ⟨e1, e2⟩ := mapOK_keys k2
  refine ⟨⟨(ms, cl), e1, e2, k3⟩, ?_⟩
  have h2 : Inv x ((10, .raw r (.map ms cl)) :: (6, .box b6 [.fn 109 [] (capM c b5 b6)]) :: (5, .box b5 [.map 10 r]) :: H0) := h1.same (fun _ h => h) fun _ => k1
  have h3 := h2.perm (rot3 _ _ _ _)
  have h4 : Inv x ((5, .box b5 [.map 89 r]) :: (10, .raw r (.map ms cl)) :: (6, .box b6 [.fn 109 [] (capM c b5 b6)]) :: H0) := h3.same (fun _ h => h) (by
    rintro ⟨cc, ty, j1, j2⟩
    refine ⟨cc, ty, j1, ?_⟩
    generalize cc.toList = l at j2 ⊢
    rcases l with _ | ⟨v, _ | ⟨w, l⟩⟩ <;> simp [Ds, D] at j2 ⊢
    exact j2)
  have h5 : Inv x ((5, .box b5 [.map 89 r]) :: (89, .raw r (.map ms cl)) :: (6, .box b6 [.fn 109 [] (capM c b5 b6)]) :: H0) := h4.ents (by simp)
  exact h5.perm (rot3 _ _ _ _)
theorem born_eq {ms : List MapEntry} (h : (ms.map (·.born)).Nodup) {a b : MapEntry} (ha : a ∈ ms) (hb : b ∈ ms) (e : a.born = b.born) : a = b := by
  induction ms with
  | nil => cases ha
  | cons m ms ih =>
    simp only [List.map_cons, List.nodup_cons] at h
    rcases List.mem_cons.1 ha with h1 | h1 <;> rcases List.mem_cons.1 hb with h2 | h2
    · rw [h1, h2]
    · exact absurd (List.mem_map.2 ⟨b, h2, by rw [← e, h1]⟩) h.1
    · exact absurd (List.mem_map.2 ⟨a, h1, by rw [e, h2]⟩) h.1
    · exact ih h.2 h1 h2
theorem key_eq {ms : List MapEntry} (h : (ms.map (·.key)).Nodup) {a b : MapEntry} (ha : a ∈ ms) (hb : b ∈ ms) (e : a.key = b.key) : a = b := by
  induction ms with
  | nil => cases ha
  | cons m ms ih =>
    simp only [List.map_cons, List.nodup_cons] at h
    rcases List.mem_cons.1 ha with h1 | h1 <;> rcases List.mem_cons.1 hb with h2 | h2
    · rw [h1, h2]
    · exact absurd (List.mem_map.2 ⟨b, h2, by rw [← e, h1]⟩) h.1
    · exact absurd (List.mem_map.2 ⟨a, h1, by rw [e, h2]⟩) h.1
    · exact ih h.2 h1 h2
theorem stand_at {ms : Array MapEntry} {seen : Array Nat} {e : MapEntry} (h : (ms.toList.map (·.born)).Nodup) (he : e ∈ ms.toList) : standM ms (seen.push e.born) = some e := by
  unfold standM
  rw [Array.back?_push]
  simp only
  rw [← Array.find?_toList]
  cases hf : ms.toList.find? (fun x => x.born == e.born) with
  | none =>
    rw [List.find?_eq_none] at hf
    exact absurd (hf e he) (by simp)
  | some e' =>
    have h1 := List.find?_some hf
    have h2 := List.mem_of_find?_eq_some hf
    rw [born_eq h h2 he (by simpa using h1)]
/-- The keys that were seen. -/
structure Seen (ns : List Int) (ms : Array MapEntry) (seen : Array Nat) (out : List Int) : Prop where
  nodup : out.Nodup
  mem : ∀ n : Int, n ∈ out ↔ ∃ e ∈ ms.toList, e.key = .int .i64 n ∧ seen.contains e.born = true
theorem Seen.step {ns : List Int} {ms : Array MapEntry} {cl : Nat} (hR : RawK ns ms cl) {seen : Array Nat} {out : List Int} (h : Seen ns ms seen out) {e : MapEntry} (he : e ∈ ms.toList) (hs : seen.contains e.born = false) :
    ∃ n, e.key = .int .i64 n ∧ e.val = .bool true ∧ n ∈ ns ∧ Seen ns ms (seen.push e.born) (out ++ [n]) := by
  have hk : e.key ∈ ms.toList.map (·.key) := List.mem_map.2 ⟨e, he, rfl⟩
  rw [hR.keys] at hk
  obtain ⟨n, hn, hkn⟩ := List.mem_map.1 hk
  refine ⟨n, hkn.symm, hR.vals e he, hn, ?_, ?_⟩
  · refine List.nodup_append.2 ⟨h.nodup, by simp, ?_⟩
    intro a ha b hb
    simp at hb
    subst hb
    rintro rfl
    obtain ⟨e', h1, h2, h3⟩ := (h.mem a).1 ha
    have := key_eq hR.st.2.2 h1 he (h2.trans hkn)
    subst this
    rw [hs] at h3
    cases h3
  · intro m
    rw [List.mem_append, h.mem m]
    constructor
    · rintro (⟨e', h1, h2, h3⟩ | h1)
      · exact ⟨e', h1, h2, by simp only [Array.contains_iff_mem] at h3 ⊢; simp [h3]⟩
      · simp at h1
        subst h1
        exact ⟨e, he, hkn.symm, by simp [Array.contains_iff_mem]⟩
    · rintro ⟨e', h1, h2, h3⟩
      by_cases h4 : e'.born = e.born
      · have := born_eq hR.st.2.1 h1 he h4
        subst this
        rw [← hkn] at h2
        injection h2 with _ h2
        exact .inr (by simp [h2])
      · refine .inl ⟨e', h1, h2, ?_⟩
        simp only [Array.contains_iff_mem] at h3 ⊢
        simp only [Array.mem_push] at h3
        rcases h3 with h3 | h3
        · exact h3
        · exact absurd h3 h4
theorem Seen.all {ns : List Int} {ms : Array MapEntry} {cl : Nat} (hR : RawK ns ms cl) {seen : Array Nat} {out : List Int} (h : Seen ns ms seen out) (ha : ∀ e ∈ ms.toList, seen.contains e.born = true) : ∀ n, n ∈ out ↔ n ∈ ns := by
  intro n
  rw [h.mem n]
  have hk : Value.int .i64 n ∈ ms.toList.map (·.key) ↔ n ∈ ns := by
    rw [hR.keys]
    simp
  rw [← hk]
  constructor
  · rintro ⟨e, h1, h2, _⟩; exact List.mem_map.2 ⟨e, h1, h2⟩
  · intro h1
    obtain ⟨e, h2, h3⟩ := List.mem_map.1 h1
    exact ⟨e, h2, h3, ha e h2⟩
theorem sort_need {c : Control} (hf : Fine c) (hp : PilC c) {out : List Int} (h1 : out.Nodup) (h2 : ∀ v, v ∈ out ↔ Need c v) : sortI out = needL c := by
  refine lt_ext ?_ (need_sorted c) ?_
  · have hs := sortI_sorted out
    have hp : (sortI out).Perm out := List.mergeSort_perm _ _
    have hn : (sortI out).Nodup := hp.nodup_iff.2 h1
    have := hs.and hn
    refine this.imp ?_
    intro a b ⟨h3, h4⟩
    have : a ≠ b := h4
    omega
  · intro z
    have hp : (sortI out).Perm out := List.mergeSort_perm _ _
    rw [hp.mem_iff, h2 z, mem_need hf ‹PilC c›]
theorem needed_fn (c : Control) (hf : Fine c) (hc : OkC c) (hp : PilC c) (hz : checkC c = 0) : CallFn Tryz.prog 54 [aC c, aIs (alikeC c)] (aIs (needL c)) := by
  have hact := hf.act
  obtain ⟨M, hM⟩ : ∃ M : Nat, c.actuators = M := ⟨c.actuators.toNat, by omega⟩
  have hpl := hp.1
  have hml := hp.2.1
  refine callFz_cut 5 Tryz.func54 rfl Tryz.ntmps54 (rs := [.tmp 4]) rfl (by kernel_rfl) (by simp) (by kernel_rfl) ?_
  simp
  intro r b5 b6
  refine V.forI (σ := List Int) M [2, 4, 5, 6, 13] (by simp; exact rfl) (fun i _ => [(14, aI i)]) (fun _ ns => mkH c b5 b6 r ns) (fun i ns => Grown c [] ns ∧ ∀ p, p ∈ c.plus.take i ∨ p ∈ c.minus.take i → firstC c ≤ clsL c p → clsL c p ∈ ns) [] ⟨.refl (by simp) (by simp), by simp⟩ (by simp) ⟨by simp [mapK]; exact rfl, by simp [mapK]⟩ ?_ ?_
  · rintro i ns hi ⟨hG, hI⟩
    have hip : i < c.plus.length := by omega
    have him : i < c.minus.length := by omega
    obtain ⟨p, hp1⟩ : ∃ p, c.plus[i]'hip = p := ⟨_, rfl⟩
    obtain ⟨m, hm1⟩ : ∃ m, c.minus[i]'him = m := ⟨_, rfl⟩
    have hpo : c.plus[i]? = some p := by rw [List.getElem?_eq_getElem hip, hp1]
    have hmo : c.minus[i]? = some m := by rw [List.getElem?_eq_getElem him, hm1]
    have hpm := List.mem_of_getElem? hpo
    have hmm := List.mem_of_getElem? hmo
    have hi2 : (i : Int) < c.actuators := by omega
    simp [hi2, hM, hi]
    refine V.drawEndK 6 (by simp; exact rfl) (by simp; exact rfl) (fun _ => none) (by kernel_rfl) (by kernel_rfl) (by simp) ?_
    simp [hip, hp1]
    have k1 := mark_s c hf hc hp hz b5 b6 r ((needL c).length + 1) ns p (by omega) (hp.2.2.1 p hpm) hG.nodup hG.need (fun h => .pilot (.inl hpm) h)
    refine k1.mono ?_
    rintro z H' ⟨ns1, rfl, rfl, hG1, hI1⟩
    have hG2 := hG.trans hG1
    have k2 := mark_s c hf hc hp hz b5 b6 r ((needL c).length + 1) ns1 m (by omega) (hp.2.2.2 m hmm) hG2.nodup hG2.need (fun h => .pilot (.inr hmm) h)
    simp
    refine V.drawEndK 6 (by simp; exact rfl) (by simp; exact rfl) (fun _ => none) (by kernel_rfl) (by kernel_rfl) (by simp) ?_
    simp [him, hm1]
    refine k2.mono ?_
    rintro z H' ⟨ns2, rfl, rfl, hG3, hI3⟩
    simp
    refine ⟨by omega, ns2, ⟨hG2.trans hG3, ?_⟩, by simp⟩
    intro w hw hw1
    rw [List.take_add_one, List.take_add_one, hpo, hmo] at hw
    rcases hw with hw | hw
    · rcases List.mem_append.1 hw with hw | hw
      · exact hG3.sub _ (hG1.sub _ (hI w (.inl hw) hw1))
      · simp at hw
        subst hw
        exact hG3.sub _ (hI1 hw1)
    · rcases List.mem_append.1 hw with hw | hw
      · exact hG3.sub _ (hG1.sub _ (hI w (.inr hw) hw1))
      · simp at hw
        subst hw
        exact hI3 hw1
  · rintro ns ⟨hG, hI⟩
    have hall := grown_all hG fun p hp1 => hI p (by rw [List.take_of_length_le (by omega), List.take_of_length_le (by omega)]; exact hp1)
    have hlt : ¬ ((M : Int) < c.actuators) := by omega
    have hnl : ns.length ≤ 1000 := by
      have h1 := nodup_len hG.nodup fun v hv => (mem_need hf hp).2 (hG.need v hv)
      have h2 := need_len hf hp
      have := hf.sig
      omega
    simp [hlt]
    refine V.ex (P := Tryz.prog) (fun p : {p : Array MapEntry × Nat // RawK ns p.1 p.2} => [(6, .box b6 [.fn 109 [] (capM c b5 b6)]), (5, .box b5 [.map 89 r]), (89, .raw r (.map p.1.1 p.1.2))]) (fun x H0 h => rawK_open h) ?_
    rintro ⟨⟨ms, cl⟩, hR⟩
    simp only at hR
    refine V.cut [(4, .nils), (5, .ptr 5 b5 0)] (by simp) (Hs := [(5, .box b5 [.map 89 r]), (89, .raw r (.map ms cl))]) (by simp) ?_
    simp
    intro b
    refine V.rangeMap (σ := Value × List Int) (kh := []) rfl rfl rfl [4, 33] (by simp; exact rfl) (fun s => [(8, .own 41 s.1)]) (fun s => [(41, .seq s.1 3 1 (s.2.map rI))]) (fun seen s => Seen ns ms seen s.2) (g := 33) (b1 := b) (m := r) (c := cl) (ms := ms) hR.st.1 (by simp) (.slice none 0 0, []) ⟨by simp, by simp⟩ (by simp) (by simp) ?_ ?_
    · rintro seen ⟨h0, out⟩ e hS he hes
      simp only at hS
      obtain ⟨n, hk, hv, hn, hS2⟩ := hS.step hR he hes
      have hst := stand_at (seen := seen) hR.st.2.1 he
      have hol : out.length ≤ 1000 := by
        have := nodup_len hS2.nodup (m := ns) (fun v hv => by
          obtain ⟨e', h1, h2, h3⟩ := (hS2.mem v).1 hv
          have hk : e'.key ∈ ms.toList.map (·.key) := List.mem_map.2 ⟨e', h1, rfl⟩
          rw [hR.keys] at hk
          obtain ⟨n', hn', hkn⟩ := List.mem_map.1 hk
          rw [h2] at hkn
          injection hkn with _ hkn
          rw [← hkn]
          exact hn')
        simp at this
        omega
      simp [hst, hk, hv, vL]
      exact fun u => ⟨by omega, u, out ++ [n], hS2, rfl, by simp⟩
    · rintro seen ⟨h0, out⟩ hS ha
      simp only at hS
      have hso := sort_need hf hp hS.nodup fun v => (hS.all hR ha v).trans (hall v).symm
      simp
      have hol : out.length < 4611686018427387904 := by
        have := nodup_len hS.nodup (m := ns) fun v hv => (hS.all hR ha v).1 hv
        omega
      refine (((sort_c (t := 41) (e := 3) (h := h0) (zs := out) hol).frame (H1 := [(33, _), (89, _)])).perm (rot3 _ _ _ [])).mono ?_
      rintro z H' ⟨_, ⟨rfl, rfl⟩, rfl⟩
      simp [hso]

theorem pil_of {c : Control} (h : checkC c = 0) : PilC c := by
  unfold checkC at h
  split at h
  · cases h
  · split at h
    · cases h
    · split at h
      · rename_i h1; exact absurd h h1
      · split at h
        · rename_i h1; exact absurd h h1
        · unfold pilotE at h
          split at h
          · cases h
          · split at h
            · cases h
            · rename_i h1 h2
              simp only [List.any_append, Bool.or_eq_true, List.any_eq_true, decide_eq_true_eq, not_or, not_exists, not_and] at h2
              refine ⟨by omega, by omega, fun p hp => ?_, fun p hp => ?_⟩
              · have := h2.1 p hp
                omega
              · have := h2.2 p hp
                omega
noncomputable def neededQ (c : Control) : List Int × Int := if checkC c ≠ 0 then ([], checkC c) else (needL c, 0)
end Go.Proofs.YtbcjnmifflflfaaGreatDoor
end
