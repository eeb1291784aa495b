/- Texts joined by a program: Fxa, Fxb, Fxc, Fxd, Fxe, Fxf. -/
import Derived.Test.YthlpelkcmmaokaaGreatPZ
import Derived.Test.YthlpelkcmmaokaaGreatP0
import Derived.Test.YthlpelkcmmaokaaGreatP1
set_option linter.unusedSimpArgs false
set_option linter.unusedVariables false

/- A long code in parts: what is left behind some regions, as a theorem of its own. -/
section
namespace Go.Proofs.YthlpelkcmmaokaaGreat
variable {P : Program}

/-- What is left of a code behind k parts. -/
def restO : Nat → Code → Option Code
  | 0, c => some c
  | k + 1, .seq _ b => restO k b
  | _, _ => none
def restF (f : Func) (k : Nat) : Option Code := match f.body with
  | some c => restO k c
  | none => none
def restC (f : Func) (k : Nat) : Code := (restF f k).getD .skip
theorem vc_rest {f : Func} {k : Nat} {c : Code} {C : Cfg} {E : Env} {H : Heap} {Q : PostQ} (h : restF f k = some c) (hv : vcC C c E H Q) : vcC C (restC f k) E H Q := by
  unfold restC
  rw [h]
  exact hv
theorem vc_of_rest {f : Func} {k : Nat} {c : Code} {C : Cfg} {E : Env} {H : Heap} {Q : PostQ} (h : restF f k = some c) (hv : vcC C (restC f k) E H Q) : vcC C c E H Q := by
  unfold restC at hv
  rw [h] at hv
  exact hv
/-- The conditions of a code up to its part k; what is behind stands as it is. -/
def vcN (C : Cfg) : Nat → Code → Env → Heap → PostQ → Prop
  | 0, c, E, H, Q => V C c E H Q
  | k + 1, .seq a b, E, H, Q => vcC C a E H fun e E' H' => match e with
    | .normal => vcN C k b E' H' Q
    | .exit i => Q (.exit i) E' H'
    | .ret => Q .ret E' H'
    | _ => False
  | _ + 1, c, E, H, Q => vcC C c E H Q
theorem vcN_ok {C : Cfg} : ∀ (k : Nat) (c : Code) (E : Env) (H : Heap) (Q : PostQ), fitsC C.n c = true → vcN C k c E H Q → W C c E H Q
  | 0, c, E, H, Q, hf, h => h hf
  | k + 1, c, E, H, Q, hf, h => by
    cases c with
    | seq a b =>
      simp only [fitsC, Bool.and_eq_true] at hf
      refine W.seq ((vcC_ok a E H _ hf.1 h).mono ?_)
      intro e E' H' hq
      cases e with
      | normal => exact vcN_ok k b E' H' Q hf.2 hq
      | exit i => exact hq
      | ret => exact hq
      | goto l => exact hq
      | panic c => exact hq
      | outgrown => exact hq
    | _ => exact vcC_ok _ E H Q hf h
/-- From here on nothing is known but this. -/
theorem V.cut {C : Cfg} {c : Code} {E : Env} {H Hs : Heap} {Q : PostQ} (kv : List (Nat × A)) (hE : ∀ p ∈ kv, wk (E p.1) p.2) (hH : subN Hs H) (h : vcC C c (hdE kv []) Hs Q) : V C c E H Q := by
  intro hf x act H0 ms hi he
  refine vcC_ok c _ _ _ hf h x act H0 ms (subN_inv hH hi) ⟨he.defers, he.size, ?_⟩
  exact sets_wk he.slot [] _ (by simp) (sets_wk he.slot kv _ hE fun t => by simp [anyE, D])
theorem V.cutN {C : Cfg} (k : Nat) {c : Code} {E : Env} {H Hs : Heap} {Q : PostQ} (kv : List (Nat × A)) (hE : ∀ p ∈ kv, wk (E p.1) p.2) (hH : subN Hs H) (h : vcN C k c (hdE kv []) Hs Q) : V C c E H Q := by
  intro hf x act H0 ms hi he
  refine vcN_ok k c _ _ _ hf h x act H0 ms (subN_inv hH hi) ⟨he.defers, he.size, ?_⟩
  exact sets_wk he.slot [] _ (by simp) (sets_wk he.slot kv _ hE fun t => by simp [anyE, D])
theorem vcN_rest {f : Func} {j k : Nat} {c : Code} {C : Cfg} {E : Env} {H : Heap} {Q : PostQ} (h : restF f j = some c) (hv : vcN C k c E H Q) : vcN C k (restC f j) E H Q := by
  unfold restC
  rw [h]
  exact hv
theorem vcN_of_rest {f : Func} {j k : Nat} {c : Code} {C : Cfg} {E : Env} {H : Heap} {Q : PostQ} (h : restF f j = some c) (hv : vcN C k (restC f j) E H Q) : vcN C k c E H Q := by
  unfold restC at hv
  rw [h] at hv
  exact hv
theorem callFz_cut (k : Nat) {g : FuncId} {fn : Func} {c : Code} {n : Nat} {rs : List ResultVar} {az : List A} {r : A} (hf : P.funcs[g]? = some fn) (hb : fn.body = some c) (hn : fn.ntmps = n)
    (hr : fn.results = rs.toArray) (hnm : (fn.name == "runtime.NumGoroutine") = false) (hl : az.length ≤ n) (hfit : fitsC n c = true)
    (h : vcN ⟨P, none, n⟩ k c (envOf az) [] (RetV P rs fun r' H' => (frz H' r').1 ∧ (frz H' r').2 = r)) : CallFn P g az r :=
  (callS_ofW hf hb hn hr hnm hl hfit (vcN_ok k c _ [] _ hfit h)).frz fun _ _ h => h
attribute [simp] vcN

end Go.Proofs.YthlpelkcmmaokaaGreat
end

/- Families of slices: one of them at hand, the others together. -/
section
namespace Go.Proofs.YthlpelkcmmaokaaGreat
variable {P : Program}

abbrev Sq := Value × TypeId × Nat × List (List A)
def sq (q : Sq) : Ent := .seq q.1 q.2.1 q.2.2.1 q.2.2.2
theorem inv_shut {x : X} {t u : Nat} {q : Sq} {l : List Sq} {H : Heap} (h : Inv x ((u, sq q) :: (t, .seqs l) :: H)) : Inv x ((t, .seqs (q :: l)) :: H) := by
  have s1 : Ent.sat x (sq q) := h.sat (u, sq q) (by simp)
  have s2 : Ent.sat x (.seqs l) := h.sat (t, .seqs l) (by simp)
  have ap := List.pairwise_cons.1 h.apart
  have ap2 := List.pairwise_cons.1 ap.2
  refine ⟨h.bd, ?_, ?_, ?_⟩
  · intro p hp
    rcases List.mem_cons.1 hp with rfl | hp
    · refine ⟨fun q' hq' => ?_, List.pairwise_cons.2 ⟨fun q' hq' b hb => ?_, s2.2⟩⟩
      · rcases List.mem_cons.1 hq' with rfl | hq'
        · exact s1
        · exact s2.1 q' hq'
      · intro hb2
        exact ap.1 (t, .seqs l) (by simp) b hb ⟨q', hq', hb2⟩
    · exact h.sat p (by simp [hp])
  · intro p hp b hb
    rcases List.mem_cons.1 hp with rfl | hp
    · obtain ⟨q', hq', hb2⟩ := hb
      rcases List.mem_cons.1 hq' with rfl | hq'
      · exact h.own (u, sq q') (by simp) b hb2
      · exact h.own (t, .seqs l) (by simp) b ⟨q', hq', hb2⟩
    · exact h.own p (by simp [hp]) b hb
  · refine List.pairwise_cons.2 ⟨fun p hp b hb => ?_, ap2.2⟩
    obtain ⟨q', hq', hb2⟩ := hb
    rcases List.mem_cons.1 hq' with rfl | hq'
    · exact ap.1 p (by simp [hp]) b hb2
    · exact ap2.1 p hp b ⟨q', hq', hb2⟩
theorem inv_open {x : X} {t u : Nat} {q : Sq} {l : List Sq} {H : Heap} (h : Inv x ((t, .seqs (q :: l)) :: H)) : Inv x ((u, sq q) :: (t, .seqs l) :: H) := by
  have s : Ent.sat x (.seqs (q :: l)) := h.sat (t, .seqs (q :: l)) (by simp)
  obtain ⟨s1, s2⟩ := s
  have s3 := List.pairwise_cons.1 s2
  have ap := List.pairwise_cons.1 h.apart
  refine ⟨h.bd, ?_, ?_, ?_⟩
  · intro p hp
    rcases List.mem_cons.1 hp with rfl | hp
    · exact s1 q (by simp)
    · rcases List.mem_cons.1 hp with rfl | hp
      · exact ⟨fun q' hq' => s1 q' (by simp [hq']), s3.2⟩
      · exact h.sat p (by simp [hp])
  · intro p hp b hb
    rcases List.mem_cons.1 hp with rfl | hp
    · exact h.own (t, .seqs (q :: l)) (by simp) b ⟨q, by simp, hb⟩
    · rcases List.mem_cons.1 hp with rfl | hp
      · obtain ⟨q', hq', hb2⟩ := hb
        exact h.own (t, .seqs (q :: l)) (by simp) b ⟨q', by simp [hq'], hb2⟩
      · exact h.own p (by simp [hp]) b hb
  · refine List.pairwise_cons.2 ⟨fun p hp b hb hb2 => ?_, List.pairwise_cons.2 ⟨fun p hp b hb => ?_, ap.2⟩⟩
    · rcases List.mem_cons.1 hp with rfl | hp
      · obtain ⟨q', hq', hb3⟩ := hb2
        exact s3.1 q' hq' b hb hb3
      · exact ap.1 p hp b ⟨q, by simp, hb⟩ hb2
    · obtain ⟨q', hq', hb3⟩ := hb
      exact ap.1 p hp b ⟨q', by simp [hq'], hb3⟩
theorem inv_shuffle {x : X} {t : Nat} {l l' : List Sq} {H : Heap} (hp : l.Perm l') (h : Inv x ((t, .seqs l) :: H)) : Inv x ((t, .seqs l') :: H) := by
  have ap := List.pairwise_cons.1 h.apart
  have s : Ent.sat x (.seqs l) := h.sat (t, .seqs l) (by simp)
  refine ⟨h.bd, ?_, ?_, List.pairwise_cons.2 ⟨?_, ap.2⟩⟩
  · intro p hpp
    rcases List.mem_cons.1 hpp with rfl | hpp
    · refine ⟨fun q hq => s.1 q (hp.mem_iff.2 hq), (hp.pairwise_iff ?_).1 s.2⟩
      intro a b hab k h1 h2
      exact hab k h2 h1
    · exact h.sat p (by simp [hpp])
  · intro p hpp b hb
    rcases List.mem_cons.1 hpp with rfl | hpp
    · obtain ⟨q, hq, hb2⟩ := hb
      exact h.own (t, .seqs l) (by simp) b ⟨q, hp.mem_iff.2 hq, hb2⟩
    · exact h.own p (by simp [hpp]) b hb
  · intro p hpp b hb
    obtain ⟨q, hq, hb2⟩ := hb
    exact ap.1 p hpp b ⟨q, hp.mem_iff.2 hq, hb2⟩
/-- Another one at hand. -/
theorem inv_other {x : X} {t u : Nat} {a b : Sq} {l l' : List Sq} {H : Heap} (hp : (a :: l).Perm (b :: l')) (h : Inv x ((u, sq a) :: (t, .seqs l) :: H)) : Inv x ((u, sq b) :: (t, .seqs l') :: H) :=
  inv_open (inv_shuffle hp (inv_shut h))
/-- Memory seen otherwise. -/
theorem CallS.inv {g : FuncId} {az az' : List A} {H H' : Heap} {K : A → Heap → Prop} (hi : ∀ x H0, Inv x (H ++ H0) → Inv x (H' ++ H0)) (ha : ∀ x vs, Ds x az vs → Ds x az' vs) (h : CallS P g az' H' K) : CallS P g az H K :=
  ⟨h.1, fun x args H0 hx hd => h.2 x args H0 (hi x H0 hx) (ha x _ hd)⟩
theorem V.inv {C : Cfg} {c : Code} {E : Env} {H H' : Heap} {Q : PostQ} (hi : ∀ x H0, Inv x (H ++ H0) → Inv x (H' ++ H0)) (h : V C c E H' Q) : V C c E H Q := by
  intro hf x act H0 ms hx he
  exact h hf x act H0 ms (hi x _ hx) he

end Go.Proofs.YthlpelkcmmaokaaGreat
end

/- Ranging over a map. -/
section
namespace Go.Proofs.YthlpelkcmmaokaaGreat
variable {P : Program}

theorem next_run {w : World} {b m c : Nat} {seen : Array Nat} {ms : Array MapEntry} (h1 : w.heap[b]? = some (.mapIter (some m) c seen c)) (h2 : w.heap[m]? = some (.map ms c)) (hst : ∀ e ∈ ms.toList, e.born < c) (ty : TypeId) :
    ((∀ e ∈ ms.toList, seen.contains e.born = true) ∧ ∃ d, (Instr.next (.pointer (some ⟨b, 0, none⟩)) false ty).run P w = .ok (.tuple #[.bool false]) { w with drawn := d }) ∨
    ∃ e d, e ∈ ms.toList ∧ seen.contains e.born = false ∧ (Instr.next (.pointer (some ⟨b, 0, none⟩)) false ty).run P w = .ok (.tuple #[.bool true, e.key, e.val]) { w with drawn := d, heap := w.heap.setIfInBounds b (.mapIter (some m) c (seen.push e.born) c) } := by
  have hno : (!seen.isEmpty && !ms.isEmpty && ms.all (·.born ≥ c)) = false := by
    by_cases hm : ms.isEmpty = true
    · simp [hm]
    · have : ∃ e, e ∈ ms.toList := by
        cases hl : ms.toList with
        | nil => exact absurd (by simpa [Array.isEmpty_iff] using hl) hm
        | cons e r => exact ⟨e, by simp⟩
      obtain ⟨e, he⟩ := this
      have hb := hst e he
      have : ms.all (fun e => decide (e.born ≥ c)) = false := by
        rw [Bool.eq_false_iff]
        intro hall
        rw [Array.all_eq_true'] at hall
        have := hall e (by simpa using he)
        simp at this
        omega
      simp [this]
  have hold : (ms.filter fun e => !seen.contains e.born).filter (·.born < c) = ms.filter fun e => !seen.contains e.born := by
    rw [Array.filter_eq_self]
    intro e he
    have := (Array.mem_filter.1 he).1
    simpa using hst e (by simpa using this)
  have hnew : (ms.filter fun e => !seen.contains e.born).filter (·.born ≥ c) = #[] := by
    rw [Array.filter_eq_empty_iff]
    intro e he
    have := (Array.mem_filter.1 he).1
    have := hst e (by simpa using this)
    simp
    omega
  obtain ⟨lf, hl⟩ : ∃ lf, lf = ms.filter fun e => !seen.contains e.born := ⟨_, rfl⟩
  rw [← hl] at hold hnew
  have hob : (getObj b).run P w = .ok (.mapIter (some m) c seen c) w := by simp [getObj, Sem.run, h1]
  have hom : (getObj m).run P w = .ok (.map ms c) w := MapKept.run_getObj_map h2
  by_cases hle : lf.isEmpty = true
  · refine .inl ⟨?_, w.drawn, ?_⟩
    · intro e he
      have h3 : lf = #[] := by simpa [Array.isEmpty_iff] using hle
      rw [h3] at hl
      have := Array.filter_eq_empty_iff.1 hl.symm e (by simpa using he)
      simpa using this
    · simp only [Instr.next, Sem.run_bind, hob, Result.andThen_ok, hom]
      rw [hno]
      simp only [Bool.false_eq_true, if_false, ← hl, hold, hnew, hle, if_true, Sem.run_bind, Sem.run_pure, Result.andThen_ok]
      have h3 : lf = #[] := by simpa [Array.isEmpty_iff] using hle
      rw [h3]
      simp [Question.forced]
  · have hne : 0 < lf.size := by
      rcases Nat.eq_zero_or_pos lf.size with h | h
      · exact absurd (by simpa [Array.isEmpty] using h) hle
      · exact h
    have hin : ∀ i (hi : i < lf.size), lf[i] ∈ ms.toList ∧ seen.contains lf[i].born = false := by
      intro i hi
      have h3 : lf[i] ∈ ms.filter fun e => !seen.contains e.born := by
        have := Array.getElem_mem hi
        generalize lf[i] = z at *
        rw [hl] at this
        exact this
      have h4 := Array.mem_filter.1 h3
      exact ⟨by simpa using h4.1, by simpa using h4.2⟩
    have hpart : ∀ i (hi : i < lf.size) d, (∀ k : Nat → Sem Value, (choose (.mapNext lf.size) >>= k).run P w = (k i).run P { w with drawn := d }) →
        (Instr.next (.pointer (some ⟨b, 0, none⟩)) false ty).run P w = .ok (.tuple #[.bool true, lf[i].key, lf[i].val]) { w with drawn := d, heap := w.heap.setIfInBounds b (.mapIter (some m) c (seen.push lf[i].born) c) } := by
      intro i hi d hk
      simp only [Instr.next, Sem.run_bind, hob, Result.andThen_ok, hom]
      rw [hno]
      simp only [Bool.false_eq_true, if_false, ← hl, hold, hnew]
      rw [if_neg (by simpa using hle)]
      simp only [Array.append_empty, Array.empty_append, Array.size_map]
      refine (hk _).trans ?_
      simp [hi, setObj, Sem.run, h1]
    by_cases h1s : lf.size ≤ 1
    · obtain ⟨a1, a2⟩ := hin 0 hne
      refine .inr ⟨lf[0], w.drawn, a1, a2, hpart 0 hne w.drawn fun k => ?_⟩
      simp [choose, Sem.run, Question.forced, h1s, bind, Sem.bind]
    · have hi := Nat.mod_lt (w.tape w.drawn (.mapNext lf.size)) hne
      obtain ⟨a1, a2⟩ := hin _ hi
      refine .inr ⟨_, w.drawn + 1, a1, a2, hpart _ hi (w.drawn + 1) fun k => ?_⟩
      simp [choose, Sem.run, Question.forced, h1s, Question.cut, bind, Sem.bind]

end Go.Proofs.YthlpelkcmmaokaaGreat
end

/- Ranging over a map, as a loop. -/
section
namespace Go.Proofs.YthlpelkcmmaokaaGreat
variable {P : Program}

theorem drew_le {x y : X} (h1 : y.w.heap = x.w.heap) (h2 : y.w.os = x.w.os) (h3 : y.w.output = x.w.output) (h4 : y.w.tape = x.w.tape) (h5 : y.ok = x.ok) {H : Heap} (hi : Inv x H) : x.le y ∧ Inv y H := by
  have hle : x.le y := ⟨fun b hb => ⟨by rw [h5]; exact hb, by rw [h1]⟩, h2, h3, h4, by rw [h1]; exact Nat.le_refl _⟩
  refine ⟨hle, hi.step hle (fun b hb => ?_) (fun b hb => .inl (by rw [← h5]; exact hb)) (fun p _ b _ => by rw [h1])⟩
  rw [h5] at hb
  rw [h1]
  exact hi.bd b hb
/-- The head of a range over a map: nothing is left, or some entry that was not seen. -/
theorem W.nextMap {C : Cfg} {id : Nat} {ops : Array Oper} {o : Oper} {rest : List Oper} (hops : ops.toList = o :: rest) {t0 : Nat} (ho : o.op = .next (.tmp t0) false) (hg : o.guard = none)
    {E : Env} {R : Heap} {Q : PostQ} {g b1 m c : Nat} {seen : Array Nat} {ms : Array MapEntry} (hms : ∀ e ∈ ms.toList, e.born < c) (hE : E t0 = .ptr g b1 0) (hf : fitsOps C.n ops.toList = true)
    (h1 : (∀ e ∈ ms.toList, seen.contains e.born = true) → vcOps C.P ops.toList rest (put E o.dst (.tuple [.dat (.bool false)])) ((g, .raw b1 (.mapIter (some m) c seen c)) :: (89, .raw m (.map ms c)) :: R) fun E' H' => Q .normal E' H')
    (h2 : ∀ e ∈ ms.toList, seen.contains e.born = false → vcOps C.P ops.toList rest (put E o.dst (.tuple [.dat (.bool true), .any, .any])) ((g, .raw b1 (.mapIter (some m) c (seen.push e.born) c)) :: (89, .raw m (.map ms c)) :: R) fun E' H' => Q .normal E' H') :
    W C (.region id ops false) E ((g, .raw b1 (.mapIter (some m) c seen c)) :: (89, .raw m (.map ms c)) :: R) Q := by
  intro x act H0 mks hi he
  have hfo := fitsOps_ok hf
  have hf0 : fits C.n o.dst := hfo o (by rw [hops]; simp)
  have hfr : ∀ o' ∈ rest, fits C.n o'.dst := fun o' ho' => hfo o' (by rw [hops]; simp [ho'])
  have key : wpListIn (fw C.r) 0 C.P ops.toList.toArray (Post C.n H0 Q x) ops.toList act x.w := by
    conv => arg 6; rw [hops]
    simp only [wpListIn]
    have hw : Region.wanted o (yielded ops.toList.toArray act.tmps) = true := by simp [Region.wanted, hg]
    rw [if_pos hw]
    refine ⟨fun _ _ => trivial, ?_⟩
    have hdf : isDefer o.op = false := by rw [ho]; rfl
    rw [semAt_exec _ _ hdf]
    have hs1 : x.w.heap[b1]? = some (.mapIter (some m) c seen c) := hi.sat (g, .raw b1 (.mapIter (some m) c seen c)) (by simp)
    have hs2 : x.w.heap[m]? = some (.map ms c) := hi.sat (89, .raw m (.map ms c)) (by simp)
    have hd := he.slot t0
    rw [hE] at hd
    simp only [D] at hd
    have hx : ∀ {v : Value} {w' : World}, (Instr.next (.pointer (some ⟨b1, 0, none⟩)) false o.type).run C.P x.w = .ok v w' → (execOp act.eval o).run C.P x.w = .ok (.value v) w' := by
      intro v w' h
      have hev : act.eval (.tmp t0) = .pointer (some ⟨b1, 0, none⟩) := hd
      obtain ⟨dst, op, type, pos, after, guard⟩ := o
      simp only at ho
      subst ho
      simp only [execOp, hev]
      simp [h]
    rcases next_run (P := C.P) hs1 hs2 hms o.type with ⟨ha, d, hr⟩ | ⟨e, d, hem, hes, hr⟩
    · rw [hx hr]
      obtain ⟨hle, hiy⟩ := drew_le (x := x) (y := ⟨{ x.w with drawn := d }, x.ok⟩) rfl rfl rfl rfl rfl hi
      exact vcOps_ok (C := C) (ops := ops.toList) (Q := Post C.n H0 Q x) (x0 := x) (H0 := marks mks ++ H0) rest _ _ _ hfr (h1 ha)
        (fun E' H' y a hk hle' hi' he' => ⟨y, E', H', mks, rfl, hle', hi', he', hk⟩) ⟨{ x.w with drawn := d }, x.ok⟩ _ hle hiy ((he.mono hle).put hf0 (by simp only [D]; exact ⟨_, rfl, by simp [Ds, D, RdL]⟩))
    · rw [hx hr]
      obtain ⟨hle1, hi1⟩ := raw_turn (H := (g, .raw b1 (.mapIter (some m) c seen c)) :: (89, .raw m (.map ms c)) :: R) (H0 := marks mks ++ H0) (g := g) (b := b1) (o := .mapIter (some m) c seen c) (o' := .mapIter (some m) c (seen.push e.born) c) hi (by simp [hget])
      obtain ⟨hle2, hi2⟩ := drew_le (x := ⟨{ x.w with heap := x.w.heap.setIfInBounds b1 (.mapIter (some m) c (seen.push e.born) c) }, x.ok⟩) (y := ⟨{ x.w with drawn := d, heap := x.w.heap.setIfInBounds b1 (.mapIter (some m) c (seen.push e.born) c) }, x.ok⟩) rfl rfl rfl rfl rfl hi1
      have hle := hle1.trans hle2
      rw [show happ (some (g, .raw b1 (.mapIter (some m) c (seen.push e.born) c))) ((g, .raw b1 (.mapIter (some m) c seen c)) :: (89, .raw m (.map ms c)) :: R) = (g, .raw b1 (.mapIter (some m) c (seen.push e.born) c)) :: (89, .raw m (.map ms c)) :: R by simp [happ, hget, hset]] at hi2
      exact vcOps_ok (C := C) (ops := ops.toList) (Q := Post C.n H0 Q x) (x0 := x) (H0 := marks mks ++ H0) rest _ _ _ hfr (h2 e hem hes)
        (fun E' H' y a hk hle' hi' he' => ⟨y, E', H', mks, rfl, hle', hi', he', hk⟩) ⟨{ x.w with drawn := d, heap := x.w.heap.setIfInBounds b1 (.mapIter (some m) c (seen.push e.born) c) }, x.ok⟩ _ hle hi2 ((he.mono hle).put hf0 (by simp only [D]; exact ⟨_, rfl, by simp [Ds, D, RdL]⟩))
  exact wpIn_region_list (by simpa using key)

theorem unseen_lt {ms : List MapEntry} {seen : Array Nat} {e : MapEntry} (he : e ∈ ms) (hs : seen.contains e.born = false) :
    (ms.filter fun x => !(seen.push e.born).contains x.born).length < (ms.filter fun x => !seen.contains x.born).length := by
  have hsub : ∀ l : List MapEntry, (l.filter fun x => !(seen.push e.born).contains x.born).length ≤ (l.filter fun x => !seen.contains x.born).length := by
    intro l
    induction l with
    | nil => simp
    | cons a l ih =>
      by_cases h1 : seen.contains a.born = true
      · have h2 : (seen.push e.born).contains a.born = true := by
          simp only [Array.contains_iff_mem] at h1 ⊢
          simp [h1]
        simp only [List.filter_cons, h1, h2, Bool.not_true, Bool.false_eq_true, if_false]
        exact ih
      · have h1' : seen.contains a.born = false := by simpa using h1
        cases h2 : (seen.push e.born).contains a.born <;> simp only [List.filter_cons, h1', h2, Bool.not_false, Bool.not_true, if_true, Bool.false_eq_true, if_false, List.length_cons] <;> omega
  induction ms with
  | nil => cases he
  | cons a l ih =>
    rcases List.mem_cons.1 he with rfl | he
    · have h2 : (seen.push e.born).contains e.born = true := by simp [Array.contains_iff_mem]
      simp only [List.filter_cons, hs, h2, Bool.not_true, Bool.false_eq_true, if_false, Bool.not_false, if_true, List.length_cons]
      have := hsub l
      omega
    · have ih := ih he
      by_cases h1 : seen.contains a.born = true
      · have h2 : (seen.push e.born).contains a.born = true := by
          simp only [Array.contains_iff_mem] at h1 ⊢
          simp [h1]
        simp only [List.filter_cons, h1, h2, Bool.not_true, Bool.false_eq_true, if_false]
        exact ih
      · have h1' : seen.contains a.born = false := by simpa using h1
        cases h2 : (seen.push e.born).contains a.born <;> simp only [List.filter_cons, h1', h2, Bool.not_false, Bool.not_true, if_true, Bool.false_eq_true, if_false, List.length_cons] <;> omega
/-- A range over a map that does not change: every entry once, in some order. -/
theorem V.rangeMap {C : Cfg} {id : Nat} {ops : Array Oper} {o : Oper} {rest : List Oper} {b : Code} (hops : ops.toList = o :: rest) {t0 : Nat} (ho : o.op = .next (.tmp t0) false) (hg : o.guard = none)
    {E : Env} {H kh : Heap} {Q : PostQ} {σ : Type} {kv : List (Nat × A)} (Lv : List Nat) (hkv : kv = Lv.map fun t => (t, E t)) (sl : σ → List (Nat × A)) (Hs : σ → Heap) (I : Array Nat → σ → Prop)
    {g b1 m c : Nat} {ms : Array MapEntry} (hst : ∀ e ∈ ms.toList, e.born < c) (ht0 : ∀ s, hdE kv (sl s) t0 = .ptr g b1 0) (s0 : σ)
    (h0 : I #[] s0) (hE0 : ∀ p ∈ sl s0, wk (E p.1) p.2) (hH0 : subN ((g, .raw b1 (.mapIter (some m) c #[] c)) :: (89, .raw m (.map ms c)) :: hcat (Hs s0) kh) H)
    (hr : ∀ seen s e, I seen s → e ∈ ms.toList → seen.contains e.born = false → vcOps C.P ops.toList rest (put (hdE kv (sl s)) o.dst (.tuple [.dat (.bool true), .any, .any]))
      ((g, .raw b1 (.mapIter (some m) c (seen.push e.born) c)) :: (89, .raw m (.map ms c)) :: hcat (Hs s) kh) fun E' H' => vcC C b E' H' (LoopQ Q fun E' H' =>
        ∃ s', I (seen.push e.born) s' ∧ (∀ p ∈ sl s', wk (E' p.1) p.2) ∧ (∀ p ∈ kv, E' p.1 = p.2) ∧ subN ((g, .raw b1 (.mapIter (some m) c (seen.push e.born) c)) :: (89, .raw m (.map ms c)) :: hcat (Hs s') kh) H'))
    (he : ∀ seen s, I seen s → (∀ e ∈ ms.toList, seen.contains e.born = true) → vcOps C.P ops.toList rest (put (hdE kv (sl s)) o.dst (.tuple [.dat (.bool false)]))
      ((g, .raw b1 (.mapIter (some m) c seen c)) :: (89, .raw m (.map ms c)) :: hcat (Hs s) kh) fun E' H' => vcC C b E' H' (LoopQ Q fun _ _ => False)) :
    V C (.loop (.seq (.region id ops false) b)) E H Q := by
  intro hf x act H0 mks hi hen
  have hf2 : fitsOps C.n ops.toList = true ∧ fitsC C.n b = true := by
    simp only [fitsC, Bool.and_eq_true] at hf
    exact hf
  have hhead : ∀ {s : σ} {E' : Env} {y : X} {a : Act} {ds : List Deferred}, EnvOK C.n ds y a E' → (∀ p ∈ sl s, wk (E' p.1) p.2) → (∀ p ∈ kv, E' p.1 = p.2) → EnvOK C.n ds y a (hdE kv (sl s)) := by
    intro s E' y a ds h h1 h2
    refine ⟨h.defers, h.size, sets_wk h.slot _ _ h1 (sets_wk h.slot _ _ ?_ fun t => by simp [anyE, D])⟩
    intro p hp
    rw [h2 p hp]
    simp
  have h00 : ∀ p ∈ kv, E p.1 = p.2 := by
    intro p hp
    rw [hkv] at hp
    obtain ⟨t, _, rfl⟩ := List.mem_map.1 hp
    rfl
  let HH : Array Nat → σ → Heap := fun seen s => (g, .raw b1 (.mapIter (some m) c seen c)) :: (89, .raw m (.map ms c)) :: hcat (Hs s) kh
  have key : W C (.loop (.seq (.region id ops false) b)) (hdE kv (sl s0)) (HH #[] s0) Q := by
    refine W.loop (fun n E' H' => ∃ seen s, I seen s ∧ (ms.toList.filter fun x => !seen.contains x.born).length = n ∧ E' = hdE kv (sl s) ∧ H' = HH seen s) _ ⟨#[], s0, h0, rfl, rfl, rfl⟩ ?_
    rintro n _ _ ⟨seen, s, hI, rfl, rfl, rfl⟩
    have hbody : W C (.seq (.region id ops false) b) (hdE kv (sl s)) (HH seen s) (LoopQ Q fun E' H' =>
        ∃ e s', e ∈ ms.toList ∧ seen.contains e.born = false ∧ I (seen.push e.born) s' ∧ (∀ p ∈ sl s', wk (E' p.1) p.2) ∧ (∀ p ∈ kv, E' p.1 = p.2) ∧ subN (HH (seen.push e.born) s') H') := by
      refine W.seq ?_
      refine W.nextMap hops ho hg hst (ht0 s) hf2.1 (fun ha => ?_) (fun e hem hes => ?_)
      · refine vcOps_mono rest (fun E' H' hq => ?_) (he seen s hI ha)
        refine (vcC_ok b E' H' _ hf2.2 hq).mono ?_
        intro ex E2 H2 h
        cases ex <;> first | exact h | exact h.elim
      · refine vcOps_mono rest (fun E' H' hq => ?_) (hr seen s e hI hem hes)
        refine (vcC_ok b E' H' _ hf2.2 hq).mono ?_
        intro ex E2 H2 h
        cases ex <;> first | exact h | exact h.elim | (obtain ⟨s', k1, k2, k3, k4⟩ := h; exact ⟨e, s', hem, hes, k1, k2, k3, k4⟩)
    intro x act H0 mks hi hen
    refine wpIn_mono (hbody x act H0 mks hi hen) ?_
    rintro ex a' w' ⟨y, E', H', ms', rfl, hle, hi', he', hq⟩
    cases ex with
    | normal =>
      obtain ⟨e, s', h1, h2, h3, h4, h5, h6⟩ := hq
      exact ⟨y, _, _, ms', rfl, hle, subN_inv h6 hi', hhead he' h4 h5, _, unseen_lt h1 h2, seen.push e.born, s', h3, rfl, rfl, rfl⟩
    | exit k => exact ⟨y, E', H', ms', rfl, hle, hi', he', hq⟩
    | ret => exact ⟨y, E', H', ms', rfl, hle, hi', he', hq⟩
    | goto k => exact hq.elim
    | panic k => exact hq.elim
    | outgrown => exact hq.elim
  exact key x act H0 mks (subN_inv hH0 hi) (hhead hen hE0 h00)

end Go.Proofs.YthlpelkcmmaokaaGreat
end

/- Lending a part of what is owned. -/
section
namespace Go.Proofs.YthlpelkcmmaokaaGreat
variable {P : Program}

def flatB : Ent → Bool
  | .seq _ _ _ rows => rows.all (·.all flatV)
  | .box _ cs => cs.all flatV
  | _ => false
theorem flatB_ok {x y : X} {e : Ent} (h : flatB e = true) (hw : ∀ b, e.own b → y.w.heap[b]? = x.w.heap[b]?) (hs : e.sat x) : e.sat y := by
  cases e <;> simp only [flatB, Bool.false_eq_true] at h
  · rename_i b cs
    obtain ⟨c, ty, h1, h2⟩ := hs
    refine ⟨c, ty, by rw [hw b rfl]; exact h1, flatDs_ok (f := flatV) (fun a v ha hd => flatV_ok ha hd) h h2⟩
  · exact flatE_ok (by simpa [flatE] using h) hw hs
theorem Inv.rawsR {x : X} {A B : Heap} (hi : Inv x (A ++ B)) : Inv x (A ++ rawsOf x B) := by
  have hb : Inv x B := ⟨hi.bd, fun p hp => hi.sat p (List.mem_append.2 (.inr hp)), fun p hp => hi.own p (List.mem_append.2 (.inr hp)), (List.pairwise_append.1 hi.apart).2.1⟩
  have hr := hb.raws
  have ha := List.pairwise_append.1 hi.apart
  refine ⟨hi.bd, ?_, ?_, List.pairwise_append.2 ⟨ha.1, hr.apart, ?_⟩⟩
  · intro p hp
    rcases List.mem_append.1 hp with hp | hp
    · exact hi.sat p (List.mem_append.2 (.inl hp))
    · exact hr.sat p hp
  · intro p hp
    rcases List.mem_append.1 hp with hp | hp
    · exact hi.own p (List.mem_append.2 (.inl hp))
    · exact hr.own p hp
  · intro p hp q hq b h1 h2
    obtain ⟨q', hq', b', hb', rfl⟩ := rawsOf_mem hq
    simp only [Ent.own] at h2
    subst h2
    exact ha.2.2 p hp q' hq' _ h1 hb'
theorem CallS.lendF {g : FuncId} {az az' : List A} {H1 H2 : Heap} {K K' : A → Heap → Prop} (h : CallS P g az' H2 K')
    (hz : ∀ (x y : X) (H0 : Heap) (vs : List Value), Inv x (H1 ++ (H2 ++ H0)) → x.le y → y.w = x.w → (∀ b, (∃ p ∈ H1, p.2.own b) → y.ok b) → Ds x az vs → Ds y az' vs)
    (hk : ∀ r H', K' r H' → flatV r = true ∧ (∀ p ∈ H', flatB p.2 = true) ∧ K r (H' ++ H1)) : CallS P g az (H1 ++ H2) K := by
  refine ⟨h.1, fun x args H0 hi hd => ?_⟩
  have hi' : Inv x (H1 ++ (H2 ++ H0)) := by rwa [List.append_assoc] at hi
  obtain ⟨x', hw, hle, hi0, hok, hok'⟩ := hi'.freeze
  have hd' := hz x x' H0 _ hi' hle hw hok hd
  have hr := hi0.rawsR
  have := h.2 x' args (rawsOf x' H0) hr hd'
  rw [hw] at this
  refine this.mono ?_
  rintro _ _ ⟨y', v, r, H', rfl, rfl, hley, hiy, hv, hkk⟩
  obtain ⟨k1, k2, k3⟩ := hk r H' hkk
  let y : X := ⟨y'.w, fun b => y'.ok b ∧ ¬ ∃ p ∈ H1, p.2.own b⟩
  have hown : ∀ p ∈ H1, ∀ b, p.2.own b → b < x.w.heap.size ∧ ¬ x.ok b := fun p hp b hb => hi'.own p (List.mem_append.2 (.inl hp)) b hb
  have hlexy : x.le y := by
    refine ⟨fun b hb => ⟨⟨(hley.keep b (hle.keep b hb).1).1, fun ⟨p, hp, ho⟩ => (hown p hp b ho).2 hb⟩, ?_⟩, ?_, ?_, ?_, ?_⟩
    · exact ((hley.keep b (hle.keep b hb).1).2).trans (hle.keep b hb).2
    · exact hley.os.trans hle.os
    · exact hley.output.trans hle.output
    · exact hley.tape.trans hle.tape
    · exact Nat.le_trans hle.size hley.size
  have hH : ∀ p ∈ H1, ∀ b, p.2.own b → y'.ok b ∧ y'.w.heap[b]? = x.w.heap[b]? := fun p hp b hb => by
    have h1 := hley.keep b (hok b ⟨p, hp, hb⟩)
    exact ⟨h1.1, by rw [h1.2, hw]⟩
  have hH0 : ∀ p ∈ H0, ∀ b, p.2.own b → y'.w.heap[b]? = x.w.heap[b]? ∧ ¬ y'.ok b := fun p hp b hb => by
    have hm := rawsOf_of (x := x') hp hb
    have h1 : y'.w.heap[b]? = some _ := hiy.sat _ (List.mem_append.2 (.inr hm))
    have hlt := (hi0.own p (List.mem_append.2 (.inr hp)) b hb).1
    refine ⟨by rw [h1, ← hw]; simp [hlt], (hiy.own _ (List.mem_append.2 (.inr hm)) b rfl).2⟩
  have hsub : Inv x (H1 ++ H0) := by
    have hs : (H1 ++ H0).Sublist (H1 ++ (H2 ++ H0)) := (List.sublist_append_right H2 H0).append_left H1
    exact ⟨hi'.bd, fun p hp => hi'.sat p (hs.subset hp), fun p hp => hi'.own p (hs.subset hp), hi'.apart.sublist hs⟩
  refine ⟨y, v, r, H' ++ H1, rfl, rfl, hlexy, ?_, flatV_ok k1 hv, k3⟩
  rw [List.append_assoc]
  have sz : ∀ b, b < x.w.heap.size → b < y.w.heap.size := fun b hb => Nat.lt_of_lt_of_le hb hlexy.size
  refine ⟨fun b hb => hiy.bd b hb.1, ?_, ?_, ?_⟩
  · intro p hp
    rcases List.mem_append.1 hp with hp | hp
    · exact flatB_ok (x := y') (y := y) (k2 p hp) (fun _ _ => rfl) (hiy.sat p (List.mem_append.2 (.inl hp)))
    · refine Ent.sat_step hlexy (fun b hb => ?_) (hsub.sat p hp)
      rcases List.mem_append.1 hp with hp | hp
      · exact (hH p hp b hb).2
      · exact (hH0 p hp b hb).1
  · intro p hp b hb
    rcases List.mem_append.1 hp with hp | hp
    · have := hiy.own p (List.mem_append.2 (.inl hp)) b hb
      exact ⟨this.1, fun hh => this.2 hh.1⟩
    · rcases List.mem_append.1 hp with hp | hp
      · exact ⟨sz b (hown p hp b hb).1, fun hh => hh.2 ⟨p, hp, hb⟩⟩
      · exact ⟨sz b (hsub.own p (List.mem_append.2 (.inr hp)) b hb).1, fun hh => (hH0 p hp b hb).2 hh.1⟩
  · refine List.pairwise_append.2 ⟨(List.pairwise_append.1 hiy.apart).1, hsub.apart, ?_⟩
    intro p hp q hq b h1 h2
    have hpn := hiy.own p (List.mem_append.2 (.inl hp)) b h1
    rcases List.mem_append.1 hq with hq | hq
    · exact hpn.2 (hH q hq b h2).1
    · exact (List.pairwise_append.1 hiy.apart).2.2 p hp _ (rawsOf_of (x := x') hq h2) b h1 rfl

/-- An owned slice, lent. -/
theorem own_dat {x y : X} {H H0 : Heap} (hi : Inv x (H ++ H0)) (hle : x.le y) (hw : y.w = x.w) (hok : ∀ b, (∃ p ∈ H, p.2.own b) → y.ok b) {t e sz : Nat} {h v : Value} {rows : List (List A)}
    (hg : (t, Ent.seq h e sz rows) ∈ H) (hd : allD rows = true) (hv : D x (.own t h) v) : D y (.dat (.sl (rowsD rows))) v := by
  simp only [D] at hv ⊢
  rw [hv.1]
  exact seq_data (Ent.sat_step hle (fun b _ => by rw [hw]) (hi.sat _ (List.mem_append.2 (.inl hg)))) (fun b hb => hok b ⟨_, hg, hb⟩) hd
theorem Ds_ls {x : X} : ∀ {ls : List L} {vs : List Value}, Ds x (ls.map A.dat) vs → RdLs x ls vs
  | [], [], _ => by simp [RdLs]
  | l :: ls, v :: vs, h => by
    simp only [List.map_cons, Ds, D] at h
    simp only [RdLs]
    exact ⟨h.1, Ds_ls h.2⟩
  | [], _ :: _, h => by simp [Ds] at h
  | _ :: _, [], h => by simp [Ds] at h
/-- A box, lent. -/
theorem ptr_rptr {x y : X} {H H0 : Heap} (hi : Inv x (H ++ H0)) (hle : x.le y) (hw : y.w = x.w) (hok : ∀ b, (∃ p ∈ H, p.2.own b) → y.ok b) {t b : Nat} {ls : List L} {v : Value}
    (hg : (t, Ent.box b (ls.map A.dat)) ∈ H) (hv : D x (.ptr t b 0) v) : D y (.rptr ls) v := by
  obtain ⟨c, ty, k1, k2⟩ := hi.sat _ (List.mem_append.2 (.inl hg))
  simp only [D] at hv ⊢
  subst hv
  refine ⟨b, 0, rfl, rdCells_vals (hok b ⟨_, hg, rfl⟩) ls _ 0 (RdLs.mono hle _ _ (Ds_ls k2)) ?_⟩
  intro j u hj
  rw [hw]
  simp only [World.cell?, k1, Nat.zero_add]
  simpa using hj

end Go.Proofs.YthlpelkcmmaokaaGreat
end

/- Regions that draw their order and end with a call that changes memory. -/
section
namespace Go.Proofs.YthlpelkcmmaokaaGreat
variable {P : Program}

theorem ready_all {ops : List Oper} (hd : depB ops = true) {listed : Array Bool} (hsz : listed.size = ops.length) (hr : Region.ready .any ops.toArray listed = []) : ∀ k, k < ops.length → listed.getD k false = true := by
  intro k
  induction k using Nat.strongRecOn with
  | _ k ih =>
    intro hk
    cases hl : listed.getD k false with
    | true => rfl
    | false =>
      exfalso
      have hmem : k ∈ Region.ready .any ops.toArray listed := by
        refine mem_ready.2 ⟨?_, ops[k], by simp [hk], fun e he hb => ih e.on ?_ ?_⟩
        · rw [Array.getD_eq_getD_getElem?] at hl ⊢
          rw [Array.getElem?_eq_getElem (by omega)] at hl ⊢
          simpa using hl
        · exact depB_edge hd (List.getElem?_eq_getElem hk) he hb
        · exact Nat.lt_trans (depB_edge hd (List.getElem?_eq_getElem hk) he hb) hk
      rw [hr] at hmem
      cases hmem
theorem push_getD {l : Array Bool} {k : Nat} {b : Bool} : (l.push b).getD k false = if k = l.size then b else l.getD k false := by
  simp only [Array.getD_eq_getD_getElem?, Array.getElem?_push]
  split <;> simp
theorem push_getT {l : Array Bool} {k : Nat} {b : Bool} : (l.push b).getD k true = if k = l.size then b else l.getD k true := by
  simp only [Array.getD_eq_getD_getElem?, Array.getElem?_push]
  split <;> simp
theorem set_push {l : Array Bool} {i : Nat} {b : Bool} (h : i < l.size) : (l.push b).setIfInBounds i true = (l.setIfInBounds i true).push b := by
  apply Array.ext_getElem?
  intro k
  simp only [Array.getElem?_setIfInBounds, Array.getElem?_push, Array.size_push, Array.size_setIfInBounds]
  by_cases h1 : i = k
  · subst h1
    have h2 : ¬ i = l.size := by omega
    simp [h, h2]
    omega
  · simp [h1]
theorem getD_lt {l : Array Bool} {k : Nat} (h : k < l.size) : l.getD k true = l.getD k false := by
  simp only [Array.getD_eq_getD_getElem?, Array.getElem?_eq_getElem h, Option.getD_some]
theorem Oper.wp_mono2 {o : Oper} {a : Act} {w : World} {K K' : Act → World → Prop} {Q Q' : Exit → Act → World → Prop} (h : ∀ a w, K a w → K' a w) (hq : ∀ e a w, e ≠ .normal → Q e a w → Q' e a w)
    (hh : o.wp P a w K Q) : o.wp P a w K' Q' := by
  have hl : LetsOut Q → LetsOut Q' := fun ⟨a, w, h⟩ => ⟨a, w, hq _ _ _ (by simp) h⟩
  unfold Oper.wp at *
  generalize (execOp a.eval o).run P w = r at *
  cases r with
  | ok n w' =>
    cases n <;> simp only [Oper.upon] at hh ⊢ <;>
      first
        | exact h _ _ hh
        | exact Calls.mono hh (fun e w'' he => by cases e <;> first | exact h _ _ he | exact hq _ _ _ (by simp) he | exact hl he)
        | exact Rows.mono hh (fun _ _ he => h _ _ he)
  | halt x w' => cases x <;> simp only [Oper.upon] at hh ⊢ <;> exact hq _ _ _ (by simp) hh
theorem wpAny_last {pre : List Oper} {last : Oper} (hd : depB (pre ++ [last]) = true) (hrel : ∀ k, k < pre.length → relB (pre ++ [last]) pre.length k = true) (hg : ∀ o ∈ pre, o.guard = none)
    {Q Q' : Exit → Act → World → Prop} (hQ : ∀ e a w, e ≠ .normal → Q' e a w → Q e a w) (hQ' : ∀ a w, Q' .normal a w → wpOp P (pre ++ [last]).toArray Q pre.length (fun a w => Q .normal a w) a w) :
    ∀ (fuel : Nat) (listed : Array Bool) (a : Act) (w : World) (l : List Nat), listed.size = pre.length → Closed (pre ++ [last]) (fun k => (listed.push false).getD k false) → l.Nodup →
      (∀ k, k ∈ l ↔ k < pre.length ∧ listed.getD k false = false) → l.length = fuel → wpAny P .any pre.toArray Q' fuel listed a w → wpAny P .any (pre ++ [last]).toArray Q (fuel + 1) (listed.push false) a w := by
  have hlen : (pre ++ [last]).length = pre.length + 1 := by simp
  have hat : (pre ++ [last])[pre.length]? = some last := by simp
  have hrl : ∀ (listed : Array Bool), listed.size = pre.length → Closed (pre ++ [last]) (fun k => (listed.push false).getD k false) → pre.length ∈ Region.ready .any (pre ++ [last]).toArray (listed.push false) → ∀ k, k < pre.length → listed.getD k false = true := by
    intro listed hsz hc hm k hk
    obtain ⟨_, o, ho, h2⟩ := mem_ready.1 hm
    have ho' : (pre ++ [last])[pre.length]? = some o := by simpa using ho
    have := hc.ready (i := pre.length) (fun k hk => by
      obtain ⟨o', e, q1, q2, q3, q4⟩ := dirB_edge hk
      rw [ho'] at q1
      cases q1
      rw [← q4]
      exact h2 e q2 q3) (hrel k hk)
    simp only [push_getD, hsz] at this
    rwa [if_neg (by omega)] at this
  have hin : ∀ (listed : Array Bool), listed.size = pre.length → ∀ i, i ≠ pre.length → i ∈ Region.ready .any (pre ++ [last]).toArray (listed.push false) → i < pre.length ∧ i ∈ Region.ready .any pre.toArray listed := by
    intro listed hsz i hne hm
    obtain ⟨h1, o, ho, h2⟩ := mem_ready.1 hm
    have ho' : (pre ++ [last])[i]? = some o := by simpa using ho
    have hi : i < pre.length := by
      have := (List.getElem?_eq_some_iff.1 ho').1
      omega
    refine ⟨hi, mem_ready.2 ⟨?_, o, ?_, fun e he hb => ?_⟩⟩
    · rw [push_getT, if_neg (by omega)] at h1
      exact h1
    · rw [List.getElem?_append_left hi] at ho'
      simpa using ho'
    · have h3 := h2 e he hb
      have h4 := depB_edge hd ho' he hb
      rw [push_getD, if_neg (by omega)] at h3
      exact h3
  intro fuel
  induction fuel with
  | zero =>
    intro listed a w l hsz hc hnd hl hlen2 h
    have hnil : l = [] := List.eq_nil_of_length_eq_zero hlen2
    subst hnil
    have hall : ∀ k, k < pre.length → listed.getD k false = true := by
      intro k hk
      cases hh : listed.getD k false with
      | true => rfl
      | false => exact absurd ((hl k).2 ⟨hk, hh⟩) (by simp)
    refine ⟨fun hr => ?_, fun i hi => ?_⟩
    · have := ready_all hd (by simp [hsz]) hr pre.length (by simp)
      rw [push_getD, if_pos hsz.symm] at this
      cases this
    · have hin2 : i = pre.length := by
        rcases Nat.lt_or_ge i pre.length with h1 | h1
        · obtain ⟨_, h2⟩ := hin listed hsz i (by omega) hi
          have h3 := (mem_ready.1 h2).1
          rw [getD_lt (by omega), hall i h1] at h3
          cases h3
        · rcases Nat.lt_or_ge pre.length i with h2 | h2
          · obtain ⟨h3, _⟩ := hin listed hsz i (by omega) hi
            omega
          · omega
      subst hin2
      refine wpOp_mono (fun a w hq => ?_) (hQ' a w h.2)
      refine ⟨?_, hq⟩
      cases hr : Region.ready .any (pre ++ [last]).toArray ((listed.push false).setIfInBounds pre.length true) with
      | nil => rfl
      | cons k r =>
        have hm : k ∈ Region.ready .any (pre ++ [last]).toArray ((listed.push false).setIfInBounds pre.length true) := by rw [hr]; simp
        obtain ⟨h1, o, ho, _⟩ := mem_ready.1 hm
        have hk : k < pre.length + 1 := by
          have ho' : (pre ++ [last])[k]? = some o := by simpa using ho
          have := (List.getElem?_eq_some_iff.1 ho').1
          omega
        exfalso
        rw [Array.getD_eq_getD_getElem?, Array.getElem?_setIfInBounds] at h1
        by_cases hk2 : pre.length = k
        · subst hk2
          simp [hsz] at h1
        · rw [if_neg hk2, ← Array.getD_eq_getD_getElem?, push_getT, if_neg (by omega), getD_lt (by omega), hall k (by omega)] at h1
          cases h1
  | succ fuel ih =>
    intro listed a w l hsz hc hnd hl hlen2 h
    have hex : ∃ k, k < pre.length ∧ listed.getD k false = false := by
      cases l with
      | nil => simp at hlen2
      | cons k l => exact ⟨k, (hl k).1 (by simp)⟩
    obtain ⟨k0, hk0, hk1⟩ := hex
    refine ⟨fun hr => ?_, fun i hi => ?_⟩
    · have := ready_all hd (by simp [hsz]) hr pre.length (by simp)
      rw [push_getD, if_pos hsz.symm] at this
      cases this
    · have hne : i ≠ pre.length := by
        rintro rfl
        have := hrl listed hsz hc hi k0 hk0
        rw [hk1] at this
        cases this
      obtain ⟨hil, hir⟩ := hin listed hsz i hne hi
      have hSi : listed.getD i false = false := by
        have := (mem_ready.1 hir).1
        rwa [getD_lt (by omega)] at this
      have h1 := h.2 i hir
      have hS' : ∀ k, (listed.setIfInBounds i true).getD k false = (listed.getD k false || decide (k = i)) := by
        intro k
        by_cases hk : k = i
        · subst hk
          have : k < listed.size := by omega
          simp [Array.getD_eq_getD_getElem?, this]
        · simp [Array.getD_eq_getD_getElem?, Array.getElem?_setIfInBounds_ne (Ne.symm hk), hk]
      have hK : ∀ a w, wpAny P .any pre.toArray Q' fuel (listed.setIfInBounds i true) a w → wpAny P .any (pre ++ [last]).toArray Q (fuel + 1) ((listed.push false).setIfInBounds i true) a w := by
        intro a w h
        rw [set_push (by omega)]
        refine ih (listed.setIfInBounds i true) a w (l.erase i) (by simpa using hsz) ?_ (hnd.erase i) ?_ ?_ h
        · intro j m hj hm
          simp only [push_getD, hS', Array.size_setIfInBounds, hsz] at hj ⊢
          have hjl : j < pre.length := by
            rcases Nat.lt_or_ge j pre.length with h2 | h2
            · exact h2
            · exfalso
              by_cases h3 : j = pre.length
              · rw [if_pos h3] at hj; cases hj
              · unfold dirB at hm
                rw [List.getElem?_eq_none (by simp; omega)] at hm
                cases hm
          rw [if_neg (by omega)] at hj
          obtain ⟨o', e, q1, q2, q3, q4⟩ := dirB_edge hm
          have hml : m < j := by
            rw [← q4]
            exact depB_edge hd q1 q2 q3
          rw [if_neg (by omega)]
          simp only [Bool.or_eq_true, decide_eq_true_eq] at hj ⊢
          rcases hj with hj | hj
          · have := hc j m (by simp only [push_getD, hsz]; rw [if_neg (by omega)]; exact hj) hm
            simp only [push_getD, hsz] at this
            rw [if_neg (by omega)] at this
            exact .inl this
          · subst hj
            obtain ⟨_, o, ho, h2⟩ := mem_ready.1 hir
            have ho' : (pre ++ [last])[j]? = some o := by
              rw [List.getElem?_append_left hjl]
              simpa using ho
            rw [ho'] at q1
            cases q1
            rw [← q4]
            exact .inl (h2 e q2 q3)
        · intro k
          rw [hnd.mem_erase_iff, hl k, hS' k]
          by_cases hk : k = i
          · subst hk; simp
          · simp [hk]
        · rw [List.length_erase_of_mem ((hl i).2 ⟨hil, hSi⟩)]
          omega
      have hoe : (pre ++ [last]).toArray[i]? = pre.toArray[i]? := by
        simp [List.getElem?_append_left hil]
      unfold wpOp at h1 ⊢
      rw [hoe]
      have hoi : pre.toArray[i]? = some pre[i] := by simp [hil]
      rw [hoi] at h1 ⊢
      simp only at h1 ⊢
      have hgi := hg pre[i] (List.getElem_mem hil)
      have hw : ∀ y, Region.wanted pre[i] y = true := by intro y; simp [Region.wanted, hgi]
      rw [if_pos (hw _)] at h1 ⊢
      rcases h1 with h1 | ⟨h1, a', w', h2⟩
      · exact .inl (Oper.wp_mono2 hK hQ h1)
      · exact .inr ⟨h1, a', w', hQ _ _ _ (by simp) h2⟩

/-- The call at the end. -/
def endC (P : Program) (o : Oper) (E : Env) (H : Heap) (K : Env → Heap → Prop) : Prop := match callA E o.op with
  | some (p, g, az) => p ∧ CallS P g az H fun r H' => K (put E o.dst r) H'
  | none => False
theorem V.drawEnd {n : Nat} {id : Nat} {ops : Array Oper} {E : Env} {H : Heap} {Q : PostQ} (pre : List Oper) (last : Oper) (hops : ops.toList = pre ++ [last]) (ρ : Nat → Option CR) (hm : P.follows .mixedOrders = true) (hd : (depB pre && depB (pre ++ [last]) && ((List.range pre.length).all fun k => relB (pre ++ [last]) pre.length k) && ((pre ++ [last]).all fun o => o.guard.isNone)) = true)
    (hn : (H.map (·.1)).Nodup) (h : vcD P ρ pre 0 [] pre E H fun E' H' => endC P last E' H' fun E' H' => Q .normal E' H') : V ⟨P, none, n⟩ (.region id ops true) E H Q := by
  intro hf x act H00 ms hi he
  simp only [Bool.and_eq_true, List.all_eq_true, List.mem_range] at hd
  obtain ⟨⟨⟨hd1, hd2⟩, hd3⟩, hd4⟩ := hd
  have hg : ∀ o ∈ pre ++ [last], o.guard = none := fun o ho => by simpa using hd4 o ho
  have hops2 : ops = (pre ++ [last]).toArray := by rw [← hops]
  have hfit := fitsOps_ok hf
  rw [hops] at hfit
  generalize hH0 : marks ms ++ H00 = H0 at hi
  generalize hds : ms.map mk = ds at he
  have hlex := fun ν => vcD_lex (P := P) (E0 := E) (G0 := fun t => hget t H) (ν := ν) pre 0 [] E H (by simp) h rfl hn (fun k o hk => by omega)
  have L : LexOK P ρ pre E (fun t => hget t H) := ⟨hd1, fun ν i o ho => (hlex ν).1 i o (Nat.zero_le _) ho,
    fun ν i j oi oj t hij hoi hoj hc => (hlex ν).2.1 i j oi oj t (Nat.zero_le _) hij hoi hoj hc⟩
  refine wpIn_wide.2 (wp_region_any hm ?_)
  have hi' : Inv x.drew (H ++ H0) := hi.grow (X.drew_grow x)
  have he' : EnvOK n ds x.drew act E := he.mono (X.drew_grow x).le
  have hsz : ∀ m k, (Array.replicate m false).getD k false = false := by
    intro m k
    rw [Array.getD_eq_getD_getElem?]
    by_cases hk : k < m
    · simp [Array.getElem?_replicate, hk]
    · simp [Array.getElem?_replicate, hk]
  have hfun : ∀ m, (fun k => (Array.replicate m false).getD k false) = fun _ => false := fun m => funext (hsz m)
  have hee : ∀ (r : Nat → Option (Prop × A × Option (Nat × Ent))) m, eeS pre E r (fun _ => false) m = E := by
    intro r m
    induction m with
    | zero => rfl
    | succ m ih => simp [eeS, ih]
  have hgg : ∀ (r : Nat → Option (Prop × A × Option (Nat × Ent))) m, ggS pre (fun t => hget t H) r (fun _ => false) m = fun t => hget t H := by
    intro r m
    induction m with
    | zero => rfl
    | succ m ih => simp [ggS, ih]
  let Qf : Exit → Act → World → Prop := Post n H00 Q x
  let Qm : Exit → Act → World → Prop := fun e a w => match e with
    | .normal => wpOp P (pre ++ [last]).toArray Qf pre.length (fun a w => Qf .normal a w) a w
    | e => Qf e a w
  have key := region_any (H0 := H0) (x0 := x) (n := n) (ds := ds) (Q := Qm) L (fun o ho => hfit o (by simp [ho])) (by
      intro ν y a Hc hle hy hey hgt
      obtain ⟨Hn, q1, q2, q3⟩ := (hlex ν).2.2
      have hsub : ∀ t e, hget t Hn = some e → hget t Hc = some e := fun t e ht => by rw [hgt t, q2]; exact ht
      have hyn := subH_inv (subH_of q3 hsub) hy
      show wpOp P (pre ++ [last]).toArray Qf pre.length (fun a w => Qf .normal a w) a y.w
      have hlo : (pre ++ [last]).toArray[pre.length]? = some last := by simp
      unfold wpOp
      rw [hlo]
      simp only
      have hw : ∀ z, Region.wanted last z = true := by
        intro z
        have := hg last (by simp)
        simp [Region.wanted, this]
      rw [if_pos (hw _)]
      refine .inl ?_
      unfold endC at q1
      split at q1
      · rename_i p g az hca
        obtain ⟨hp, hc⟩ := q1
        obtain ⟨args, h1, h2⟩ := callA_ok (P := P) hca hp hey hc.1
        unfold Oper.wp
        rw [h1]
        show Calls P g args y.w _
        refine (hc.2 y args H0 hyn h2).mono ?_
        rintro _ _ ⟨z, v, r, H', rfl, rfl, hz, hiz, hrv, hk⟩
        refine ⟨z, _, H', ms, rfl, hle.trans hz, by rw [hH0]; exact hiz, ?_, hk⟩
        rw [hds]
        exact (hey.mono hz).put (hfit last (by simp)) hrv
      · exact q1.elim)
    pre.length (Array.replicate pre.length false) (fun _ => (.nilIface, 0)) x.drew act H (List.range pre.length) (by simp) List.nodup_range (by intro k; rw [hsz]; simp) (by simp) (by
      rw [hfun]; intro j i hj; cases hj) (X.drew_grow x).le hi' (by rw [hfun, hee]; exact he') (by intro t; rw [hfun, hgg])
  have key2 := wpAny_last (P := P) (Q := Qf) (Q' := Qm) hd2 (fun k hk => hd3 k hk) (fun o ho => hg o (by simp [ho])) (fun e a w hne hq => by
    cases e with
    | normal => exact absurd rfl hne
    | _ => exact hq) (fun a w hq => hq)
    pre.length (Array.replicate pre.length false) act x.drew.w (List.range pre.length) (by simp) (by
      intro j i hj
      simp only [push_getD, hsz] at hj
      split at hj <;> cases hj) List.nodup_range (by intro k; rw [hsz]; simp) (by simp) key
  have e1 : (Array.replicate pre.length false).push false = Array.replicate (pre.length + 1) false := by simp [Array.replicate_succ]
  have e2 : ops.size = pre.length + 1 := by rw [hops2]; simp
  rw [e1] at key2
  show wpAny P .any ops (Post n H00 Q x) ops.size (Array.replicate ops.size false) act x.drew.w
  rw [e2, hops2]
  exact key2
theorem V.drawEndK {n : Nat} {id : Nat} {ops : Array Oper} {E : Env} {H : Heap} {Q : PostQ} (k : Nat) {pre : List Oper} {last : Oper} (hp : ops.toList.take k = pre) (hl : ops.toList.drop k = [last]) (ρ : Nat → Option CR) (hm : P.follows .mixedOrders = true)
    (hd : (depB (ops.toList.take k) && depB ops.toList && ((List.range k).all fun j => relB ops.toList k j) && (ops.toList.all fun o => o.guard.isNone) && decide ((ops.toList.take k).length = k)) = true)
    (hn : (H.map (·.1)).Nodup) (h : vcD P ρ pre 0 [] pre E H fun E' H' => endC P last E' H' fun E' H' => Q .normal E' H') : V ⟨P, none, n⟩ (.region id ops true) E H Q := by
  have e : ops.toList = pre ++ [last] := by rw [← hp, ← hl, List.take_append_drop]
  simp only [Bool.and_eq_true, decide_eq_true_eq] at hd
  obtain ⟨h1, h2⟩ := hd
  rw [hp] at h1 h2
  rw [e] at h1
  refine V.drawEnd pre last e ρ hm ?_ hn h
  simp only [Bool.and_eq_true]
  rw [h2]
  exact h1
attribute [simp] endC

end Go.Proofs.YthlpelkcmmaokaaGreat
end
