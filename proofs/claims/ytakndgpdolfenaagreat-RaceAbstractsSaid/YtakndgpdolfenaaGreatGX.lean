/- Texts joined by a program: Fxa, Fxb, Fxe, Fxf, Fxg, Fxh. -/
import Derived.Test.YtakndgpdolfenaaGreatGZ
import Derived.Test.YtakndgpdolfenaaGreatG1
set_option linter.unusedSimpArgs false
set_option linter.unusedVariables false

/- A long code in parts: what is left behind some regions, as a theorem of its own. -/
section
namespace Go.Proofs.YtakndgpdolfenaaGreat
variable {P : Program}

/-- What is left of a code behind k parts. -/
def restO : Nat → Code → Option Code
  | 0, c => some c
  | k + 1, .seq _ b => restO k b
  | _, _ => none
def restF (f : Func) (k : Nat) : Option Code := match f.body with
  | some c => restO k c
  | none => none
def restC (f : Func) (k : Nat) : Code := (restF f k).getD .skip
/-- The conditions of a code up to its part k; what is behind stands as it is. -/
def vcN (C : Cfg) : Nat → Code → Env → Heap → PostQ → Prop
  | 0, c, E, H, Q => V C c E H Q
  | k + 1, .seq a b, E, H, Q => vcC C a E H fun e E' H' => match e with
    | .normal => vcN C k b E' H' Q
    | .exit i => Q (.exit i) E' H'
    | .ret => Q .ret E' H'
    | _ => False
  | _ + 1, c, E, H, Q => vcC C c E H Q
theorem vcN_ok {C : Cfg} : ∀ (k : Nat) (c : Code) (E : Env) (H : Heap) (Q : PostQ), fitsC C.n c = true → vcN C k c E H Q → W C c E H Q
  | 0, c, E, H, Q, hf, h => h hf
  | k + 1, c, E, H, Q, hf, h => by
    cases c with
    | seq a b =>
      simp only [fitsC, Bool.and_eq_true] at hf
      refine W.seq ((vcC_ok a E H _ hf.1 h).mono ?_)
      intro e E' H' hq
      cases e with
      | normal => exact vcN_ok k b E' H' Q hf.2 hq
      | exit i => exact hq
      | ret => exact hq
      | goto l => exact hq
      | panic c => exact hq
      | outgrown => exact hq
    | _ => exact vcC_ok _ E H Q hf h
/-- From here on nothing is known but this. -/
theorem V.cut {C : Cfg} {c : Code} {E : Env} {H Hs : Heap} {Q : PostQ} (kv : List (Nat × A)) (hE : ∀ p ∈ kv, wk (E p.1) p.2) (hH : subN Hs H) (h : vcC C c (hdE kv []) Hs Q) : V C c E H Q := by
  intro hf x act H0 ms hi he
  refine vcC_ok c _ _ _ hf h x act H0 ms (subN_inv hH hi) ⟨he.defers, he.size, ?_⟩
  exact sets_wk he.slot [] _ (by simp) (sets_wk he.slot kv _ hE fun t => by simp [anyE, D])
theorem V.cutN {C : Cfg} (k : Nat) {c : Code} {E : Env} {H Hs : Heap} {Q : PostQ} (kv : List (Nat × A)) (hE : ∀ p ∈ kv, wk (E p.1) p.2) (hH : subN Hs H) (h : vcN C k c (hdE kv []) Hs Q) : V C c E H Q := by
  intro hf x act H0 ms hi he
  refine vcN_ok k c _ _ _ hf h x act H0 ms (subN_inv hH hi) ⟨he.defers, he.size, ?_⟩
  exact sets_wk he.slot [] _ (by simp) (sets_wk he.slot kv _ hE fun t => by simp [anyE, D])
theorem callS_cut (k : Nat) {g : FuncId} {fn : Func} {c : Code} {n : Nat} {rs : List ResultVar} {az : List A} {H : Heap} {K : A → Heap → Prop} (hf : P.funcs[g]? = some fn) (hb : fn.body = some c) (hn : fn.ntmps = n)
    (hr : fn.results = rs.toArray) (hnm : (fn.name == "runtime.NumGoroutine") = false) (hl : az.length ≤ n) (hfit : fitsC n c = true)
    (h : vcN ⟨P, none, n⟩ k c (envOf az) H (RetV P rs K)) : CallS P g az H K := callS_ofW hf hb hn hr hnm hl hfit (vcN_ok k c _ H _ hfit h)
theorem callFz_cut (k : Nat) {g : FuncId} {fn : Func} {c : Code} {n : Nat} {rs : List ResultVar} {az : List A} {r : A} (hf : P.funcs[g]? = some fn) (hb : fn.body = some c) (hn : fn.ntmps = n)
    (hr : fn.results = rs.toArray) (hnm : (fn.name == "runtime.NumGoroutine") = false) (hl : az.length ≤ n) (hfit : fitsC n c = true)
    (h : vcN ⟨P, none, n⟩ k c (envOf az) [] (RetV P rs fun r' H' => (frz H' r').1 ∧ (frz H' r').2 = r)) : CallFn P g az r :=
  (callS_ofW hf hb hn hr hnm hl hfit (vcN_ok k c _ [] _ hfit h)).frz fun _ _ h => h
attribute [simp] vcN

end Go.Proofs.YtakndgpdolfenaaGreat
end

/- Families of slices: one of them at hand, the others together. -/
section
namespace Go.Proofs.YtakndgpdolfenaaGreat
variable {P : Program}

abbrev Sq := Value × TypeId × Nat × List (List A)
def sq (q : Sq) : Ent := .seq q.1 q.2.1 q.2.2.1 q.2.2.2
theorem inv_shut {x : X} {t u : Nat} {q : Sq} {l : List Sq} {H : Heap} (h : Inv x ((u, sq q) :: (t, .seqs l) :: H)) : Inv x ((t, .seqs (q :: l)) :: H) := by
  have s1 : Ent.sat x (sq q) := h.sat (u, sq q) (by simp)
  have s2 : Ent.sat x (.seqs l) := h.sat (t, .seqs l) (by simp)
  have ap := List.pairwise_cons.1 h.apart
  have ap2 := List.pairwise_cons.1 ap.2
  refine ⟨h.bd, ?_, ?_, ?_⟩
  · intro p hp
    rcases List.mem_cons.1 hp with rfl | hp
    · refine ⟨fun q' hq' => ?_, List.pairwise_cons.2 ⟨fun q' hq' b hb => ?_, s2.2⟩⟩
      · rcases List.mem_cons.1 hq' with rfl | hq'
        · exact s1
        · exact s2.1 q' hq'
      · intro hb2
        exact ap.1 (t, .seqs l) (by simp) b hb ⟨q', hq', hb2⟩
    · exact h.sat p (by simp [hp])
  · intro p hp b hb
    rcases List.mem_cons.1 hp with rfl | hp
    · obtain ⟨q', hq', hb2⟩ := hb
      rcases List.mem_cons.1 hq' with rfl | hq'
      · exact h.own (u, sq q') (by simp) b hb2
      · exact h.own (t, .seqs l) (by simp) b ⟨q', hq', hb2⟩
    · exact h.own p (by simp [hp]) b hb
  · refine List.pairwise_cons.2 ⟨fun p hp b hb => ?_, ap2.2⟩
    obtain ⟨q', hq', hb2⟩ := hb
    rcases List.mem_cons.1 hq' with rfl | hq'
    · exact ap.1 p (by simp [hp]) b hb2
    · exact ap2.1 p hp b ⟨q', hq', hb2⟩
theorem inv_open {x : X} {t u : Nat} {q : Sq} {l : List Sq} {H : Heap} (h : Inv x ((t, .seqs (q :: l)) :: H)) : Inv x ((u, sq q) :: (t, .seqs l) :: H) := by
  have s : Ent.sat x (.seqs (q :: l)) := h.sat (t, .seqs (q :: l)) (by simp)
  obtain ⟨s1, s2⟩ := s
  have s3 := List.pairwise_cons.1 s2
  have ap := List.pairwise_cons.1 h.apart
  refine ⟨h.bd, ?_, ?_, ?_⟩
  · intro p hp
    rcases List.mem_cons.1 hp with rfl | hp
    · exact s1 q (by simp)
    · rcases List.mem_cons.1 hp with rfl | hp
      · exact ⟨fun q' hq' => s1 q' (by simp [hq']), s3.2⟩
      · exact h.sat p (by simp [hp])
  · intro p hp b hb
    rcases List.mem_cons.1 hp with rfl | hp
    · exact h.own (t, .seqs (q :: l)) (by simp) b ⟨q, by simp, hb⟩
    · rcases List.mem_cons.1 hp with rfl | hp
      · obtain ⟨q', hq', hb2⟩ := hb
        exact h.own (t, .seqs (q :: l)) (by simp) b ⟨q', by simp [hq'], hb2⟩
      · exact h.own p (by simp [hp]) b hb
  · refine List.pairwise_cons.2 ⟨fun p hp b hb hb2 => ?_, List.pairwise_cons.2 ⟨fun p hp b hb => ?_, ap.2⟩⟩
    · rcases List.mem_cons.1 hp with rfl | hp
      · obtain ⟨q', hq', hb3⟩ := hb2
        exact s3.1 q' hq' b hb hb3
      · exact ap.1 p hp b ⟨q, by simp, hb⟩ hb2
    · obtain ⟨q', hq', hb3⟩ := hb
      exact ap.1 p hp b ⟨q', by simp [hq'], hb3⟩
theorem inv_shuffle {x : X} {t : Nat} {l l' : List Sq} {H : Heap} (hp : l.Perm l') (h : Inv x ((t, .seqs l) :: H)) : Inv x ((t, .seqs l') :: H) := by
  have ap := List.pairwise_cons.1 h.apart
  have s : Ent.sat x (.seqs l) := h.sat (t, .seqs l) (by simp)
  refine ⟨h.bd, ?_, ?_, List.pairwise_cons.2 ⟨?_, ap.2⟩⟩
  · intro p hpp
    rcases List.mem_cons.1 hpp with rfl | hpp
    · refine ⟨fun q hq => s.1 q (hp.mem_iff.2 hq), (hp.pairwise_iff ?_).1 s.2⟩
      intro a b hab k h1 h2
      exact hab k h2 h1
    · exact h.sat p (by simp [hpp])
  · intro p hpp b hb
    rcases List.mem_cons.1 hpp with rfl | hpp
    · obtain ⟨q, hq, hb2⟩ := hb
      exact h.own (t, .seqs l) (by simp) b ⟨q, hp.mem_iff.2 hq, hb2⟩
    · exact h.own p (by simp [hpp]) b hb
  · intro p hpp b hb
    obtain ⟨q, hq, hb2⟩ := hb
    exact ap.1 p hpp b ⟨q, hp.mem_iff.2 hq, hb2⟩
/-- Another one at hand. -/
theorem inv_other {x : X} {t u : Nat} {a b : Sq} {l l' : List Sq} {H : Heap} (hp : (a :: l).Perm (b :: l')) (h : Inv x ((u, sq a) :: (t, .seqs l) :: H)) : Inv x ((u, sq b) :: (t, .seqs l') :: H) :=
  inv_open (inv_shuffle hp (inv_shut h))
/-- Memory seen otherwise. -/
theorem CallS.inv {g : FuncId} {az az' : List A} {H H' : Heap} {K : A → Heap → Prop} (hi : ∀ x H0, Inv x (H ++ H0) → Inv x (H' ++ H0)) (ha : ∀ x vs, Ds x az vs → Ds x az' vs) (h : CallS P g az' H' K) : CallS P g az H K :=
  ⟨h.1, fun x args H0 hx hd => h.2 x args H0 (hi x H0 hx) (ha x _ hd)⟩
theorem V.inv {C : Cfg} {c : Code} {E : Env} {H H' : Heap} {Q : PostQ} (hi : ∀ x H0, Inv x (H ++ H0) → Inv x (H' ++ H0)) (h : V C c E H' Q) : V C c E H Q := by
  intro hf x act H0 ms hx he
  exact h hf x act H0 ms (hi x _ hx) he

end Go.Proofs.YtakndgpdolfenaaGreat
end

/- Lending a part of what is owned. -/
section
namespace Go.Proofs.YtakndgpdolfenaaGreat
variable {P : Program}

def flatB : Ent → Bool
  | .seq _ _ _ rows => rows.all (·.all flatV)
  | .box _ cs => cs.all flatV
  | _ => false
theorem Ds_ls {x : X} : ∀ {ls : List L} {vs : List Value}, Ds x (ls.map A.dat) vs → RdLs x ls vs
  | [], [], _ => by simp [RdLs]
  | l :: ls, v :: vs, h => by
    simp only [List.map_cons, Ds, D] at h
    simp only [RdLs]
    exact ⟨h.1, Ds_ls h.2⟩
  | [], _ :: _, h => by simp [Ds] at h
  | _ :: _, [], h => by simp [Ds] at h
/-- A box, lent. -/
theorem ptr_rptr {x y : X} {H H0 : Heap} (hi : Inv x (H ++ H0)) (hle : x.le y) (hw : y.w = x.w) (hok : ∀ b, (∃ p ∈ H, p.2.own b) → y.ok b) {t b : Nat} {ls : List L} {v : Value}
    (hg : (t, Ent.box b (ls.map A.dat)) ∈ H) (hv : D x (.ptr t b 0) v) : D y (.rptr ls) v := by
  obtain ⟨c, ty, k1, k2⟩ := hi.sat _ (List.mem_append.2 (.inl hg))
  simp only [D] at hv ⊢
  subst hv
  refine ⟨b, 0, rfl, rdCells_vals (hok b ⟨_, hg, rfl⟩) ls _ 0 (RdLs.mono hle _ _ (Ds_ls k2)) ?_⟩
  intro j u hj
  rw [hw]
  simp only [World.cell?, k1, Nat.zero_add]
  simpa using hj

end Go.Proofs.YtakndgpdolfenaaGreat
end

/- Regions that draw their order and end with a call that changes memory. -/
section
namespace Go.Proofs.YtakndgpdolfenaaGreat
variable {P : Program}

/-- The call at the end. -/
def endC (P : Program) (o : Oper) (E : Env) (H : Heap) (K : Env → Heap → Prop) : Prop := match callA E o.op with
  | some (p, g, az) => p ∧ CallS P g az H fun r H' => K (put E o.dst r) H'
  | none => False
attribute [simp] endC

end Go.Proofs.YtakndgpdolfenaaGreat
end

/- Steps between steps: memory seen otherwise on the way; regions in the order of the text with steps in ways of their own. -/
section
namespace Go.Proofs.YtakndgpdolfenaaGreat
variable {P : Program}
/-- What can be had without a step of the program. -/
def Gh (Q : Env → Heap → Prop) (E : Env) (H : Heap) : Prop :=
  ∀ (n : Nat) (ds : List Deferred) (x : X) (act : Act) (H0 : Heap), Inv x (H ++ H0) → EnvOK n ds x act E →
    ∃ (y : X) (E' : Env) (H' : Heap), y.w = x.w ∧ x.le y ∧ Inv y (H' ++ H0) ∧ EnvOK n ds y act E' ∧ Q E' H'
theorem Gh.here {Q : Env → Heap → Prop} {E : Env} {H : Heap} (h : Q E H) : Gh Q E H :=
  fun _ _ x _ _ hi he => ⟨x, E, H, rfl, .refl x, hi, he, h⟩
theorem Gh.bind {Q : Env → Heap → Prop} {E : Env} {H : Heap} (h : Gh (Gh Q) E H) : Gh Q E H := by
  intro n ds x act H0 hi he
  obtain ⟨y, E1, H1, w1, l1, i1, e1, h1⟩ := h n ds x act H0 hi he
  obtain ⟨z, E2, H2, w2, l2, i2, e2, h2⟩ := h1 n ds y act H0 i1 e1
  exact ⟨z, E2, H2, w2.trans w1, l1.trans l2, i2, e2, h2⟩
theorem Gh.mono {Q Q' : Env → Heap → Prop} {E : Env} {H : Heap} (h : Gh Q E H) (hq : ∀ E H, Q E H → Q' E H) : Gh Q' E H := by
  intro n ds x act H0 hi he
  obtain ⟨y, E1, H1, w1, l1, i1, e1, h1⟩ := h n ds x act H0 hi he
  exact ⟨y, E1, H1, w1, l1, i1, e1, hq _ _ h1⟩
@[congr] theorem Gh_congr {Q : Env → Heap → Prop} {E : Env} {H H' : Heap} {z : Prop} (_ : (True ∧ True) = z) (h : H = H') : Gh Q E H = Gh Q E H' := by rw [h]
theorem Gh.inv {Q : Env → Heap → Prop} {E : Env} {H H' : Heap} (hi : ∀ x H0, Inv x (H ++ H0) → Inv x (H' ++ H0)) (h : Gh Q E H') : Gh Q E H :=
  fun n ds x act H0 hx he => h n ds x act H0 (hi x H0 hx) he
theorem V.gh {C : Cfg} {c : Code} {E : Env} {H : Heap} {Q : PostQ} (h : V C c E H fun e E' H' => Gh (Q e) E' H') : V C c E H Q := by
  intro hf x act H0 ms hi he
  refine wpIn_mono (h hf x act H0 ms hi he) ?_
  rintro e a w ⟨y, E1, H1, ms', rfl, l1, i1, e1, g⟩
  obtain ⟨z, E2, H2, w2, l2, i2, e2, h2⟩ := g C.n (ms'.map mk) y a _ i1 e1
  exact ⟨z, E2, H2, ms', w2, l1.trans l2, i2, e2, h2⟩
/-- An owned slice of data, given up; a slot and a cell that hold it. -/
theorem freeze1 {x : X} {τ : Nat} {h : Value} {e sz : Nat} {rows : List (List A)} {H H0 : Heap} (hH : hget τ H = some (.seq h e sz rows)) (hd : allD rows = true) (hi : Inv x (H ++ H0)) :
    ∃ y : X, y.w = x.w ∧ x.le y ∧ Inv y (hdel τ H ++ H0) ∧ RdL y (.sl (rowsD rows)) h := by
  have hp := hdel_perm hH
  have hi1 : Inv x ([(τ, .seq h e sz rows)] ++ (hdel τ H ++ H0)) := by
    have := hi.perm (hp.symm.append_right H0)
    simpa using this
  obtain ⟨y, hw, hle, hi2, hok, _⟩ := hi1.freeze
  exact ⟨y, hw, hle, hi2, seq_data (Ent.sat_step hle (fun b _ => by rw [hw]) (hi1.sat (τ, .seq h e sz rows) (by simp))) (fun b hb => hok b ⟨_, List.mem_singleton.2 rfl, hb⟩) hd⟩
theorem Gh.frz1 {Q : Env → Heap → Prop} {E : Env} {H : Heap} (t : Nat) {τ : Nat} {h : Value} {e sz : Nat} {rows : List (List A)} (hE : E t = .own τ h) (hH : hget τ H = some (.seq h e sz rows)) (hd : allD rows = true)
    (hq : Gh Q (upd E t (.dat (.sl (rowsD rows)))) (hdel τ H)) : Gh Q E H := by
  intro n ds x act H0 hi he
  obtain ⟨y, hw, hle, hi2, hr⟩ := freeze1 hH hd hi
  have he2 : EnvOK n ds y act (upd E t (.dat (.sl (rowsD rows)))) := by
    have hm := he.mono hle
    refine ⟨hm.defers, hm.size, fun s => ?_⟩
    simp only [upd]
    split
    · rename_i hs
      subst hs
      have hv := hm.slot s
      rw [hE] at hv
      simp only [D] at hv ⊢
      rw [hv.1]
      exact hr
    · exact hm.slot s
  obtain ⟨z, E2, H2, w2, l2, i2, e2, h2⟩ := hq n ds y act H0 hi2 he2
  exact ⟨z, E2, H2, w2.trans hw, hle.trans l2, i2, e2, h2⟩
theorem Ds_app {x : X} {a b : List A} {vs : List Value} (h : Ds x (a ++ b) vs) : Ds x a (vs.take a.length) ∧ Ds x b (vs.drop a.length) := by
  have h1 := h.take a.length
  have h2 := h.drop a.length
  rw [List.take_left] at h1
  rw [List.drop_left] at h2
  exact ⟨h1, h2⟩
theorem Ds_set {x : X} {a a' : A} (hd : ∀ v, D x a v → D x a' v) : ∀ {r : List A} {vs : List Value} {j : Nat}, r[j]? = some a → Ds x r vs → Ds x (r.set j a') vs
  | [], _, _, h, _ => by simp at h
  | _ :: _, [], _, _, h => by simp [Ds] at h
  | b :: r, v :: vs, 0, hj, h => by
    simp only [List.getElem?_cons_zero, Option.some.injEq] at hj
    subst hj
    simp only [Ds] at h
    simp only [List.set_cons_zero, Ds]
    exact ⟨hd v h.1, h.2⟩
  | b :: r, v :: vs, j + 1, hj, h => by
    simp only [List.getElem?_cons_succ] at hj
    simp only [Ds] at h
    simp only [List.set_cons_succ, Ds]
    exact ⟨h.1, Ds_set hd hj h.2⟩
theorem Ds_rows {x : X} {r r' : List A} (hd : ∀ vs, Ds x r vs → Ds x r' vs) : ∀ {rs : List (List A)} {vs : List Value} {i : Nat}, rs[i]? = some r → Ds x rs.flatten vs → Ds x (rs.set i r').flatten vs
  | [], _, _, h, _ => by simp at h
  | q :: rs, vs, 0, hj, h => by
    simp only [List.getElem?_cons_zero, Option.some.injEq] at hj
    subst hj
    simp only [List.flatten_cons] at h
    obtain ⟨h1, h2⟩ := Ds_app h
    simp only [List.set_cons_zero, List.flatten_cons]
    rw [← List.take_append_drop q.length vs]
    exact (hd _ h1).append h2
  | q :: rs, vs, i + 1, hj, h => by
    simp only [List.getElem?_cons_succ] at hj
    simp only [List.flatten_cons] at h
    obtain ⟨h1, h2⟩ := Ds_app h
    simp only [List.set_cons_succ, List.flatten_cons]
    rw [← List.take_append_drop q.length vs]
    exact h1.append (Ds_rows hd hj h2)
theorem seq_swap {x : X} {hh : Value} {e sz i : Nat} {rs : List (List A)} {r r' : List A} (hr : rs[i]? = some r) (hl : r'.length = r.length) (hd : ∀ vs, Ds x r vs → Ds x r' vs) (hs : Ent.sat x (.seq hh e sz rs)) : Ent.sat x (.seq hh e sz (rs.set i r')) := by
  obtain ⟨xs, ho, h1, h2⟩ := hs
  refine ⟨xs, by simpa using ho, ?_, Ds_rows hd hr h2⟩
  intro q hq
  rcases List.mem_or_eq_of_mem_set hq with hq | rfl
  · exact h1 q hq
  · rw [hl]; exact h1 r (List.mem_of_getElem? hr)
theorem Inv.swap {x : X} {g : Nat} {e e' : Ent} {H H0 : Heap} (hg : hget g H = some e) (hs : e.sat x → e'.sat x) (ho : ∀ b, e'.own b → e.own b) (hi : Inv x (H ++ H0)) : Inv x (hset g e' H ++ H0) := by
  have h1 : Inv x ((g, e) :: (hdel g H ++ H0)) := hi.perm ((hdel_perm hg).symm.append_right H0)
  have h2 : Inv x ((g, e') :: (hdel g H ++ H0)) := by
    refine ⟨h1.bd, ?_, ?_, ?_⟩
    · intro p hp
      rcases List.mem_cons.1 hp with rfl | hp
      · exact hs (h1.sat (g, e) (by simp))
      · exact h1.sat p (by simp only [List.mem_cons]; exact .inr hp)
    · intro p hp b hb
      rcases List.mem_cons.1 hp with rfl | hp
      · exact h1.own (g, e) (by simp) b (ho b hb)
      · exact h1.own p (by simp only [List.mem_cons]; exact .inr hp) b hb
    · have := List.pairwise_cons.1 h1.apart
      exact List.pairwise_cons.2 ⟨fun q hq b hb => this.1 q hq b (ho b hb), this.2⟩
  exact h2.perm ((hset_perm hg).append_right H0).symm
/-- An owned slice of data that stands in a row of another one, given up. -/
theorem Gh.frzRow {Q : Env → Heap → Prop} {E : Env} {H : Heap} {g τ i j : Nat} {h hh : Value} {e sz e' sz' : Nat} {rows rs : List (List A)} {r : List A} {t : Nat} (hg : hget g (hdel τ H) = some (.seq hh e' sz' rs)) (hH : hget τ H = some (.seq h e sz rows)) (hd : allD rows = true)
    (hr : rs[i]? = some r) (hj : r[j]? = some (.own t h)) (hq : Gh Q E (hset g (.seq hh e' sz' (rs.set i (r.set j (.dat (.sl (rowsD rows)))))) (hdel τ H))) : Gh Q E H := by
  intro n ds x act H0 hi he
  obtain ⟨y, hw, hle, hi2, hrd⟩ := freeze1 hH hd hi
  have hi3 : Inv y (hset g (.seq hh e' sz' (rs.set i (r.set j (.dat (.sl (rowsD rows)))))) (hdel τ H) ++ H0) :=
    hi2.swap hg (fun hs => seq_swap hr (by simp) (fun vs hv => Ds_set (fun v hv => by simp only [D] at hv ⊢; rw [hv.1]; exact hrd) hj hv) hs) (fun b hb => hb)
  obtain ⟨z, E2, H2, w2, l2, i2, e2, h2⟩ := hq n ds y act H0 hi3 (he.mono hle)
  exact ⟨z, E2, H2, w2.trans hw, hle.trans l2, i2, e2, h2⟩
/-- A nil slice in a row, seen as an owned one. -/
theorem rowNil_inv {x : X} {H H0 : Heap} {g τ i j : Nat} {hh : Value} {e sz : Nat} {rs : List (List A)} {r : List A} (e' sz' : Nat) (hg : hget g H = some (.seq hh e sz rs)) (hr : rs[i]? = some r) (hj : r[j]? = some .nils) (hi : Inv x (H ++ H0)) :
    Inv x (((τ, .seq (.slice none 0 0) e' sz' []) :: hset g (.seq hh e sz (rs.set i (r.set j (.own τ (.slice none 0 0))))) H) ++ H0) := by
  have h1 := hi.swap (e' := .seq hh e sz (rs.set i (r.set j (.own τ (.slice none 0 0))))) hg (fun hs => seq_swap hr (by simp) (fun vs hv => Ds_set (fun v hv => by
    simp only [D] at hv ⊢
    subst hv
    exact ⟨rfl, _, _, _, rfl⟩) hj hv) hs) (fun b hb => hb)
  exact Inv.nil (t := τ) h1 ⟨rfl, rfl⟩
/-- A box whose cells are data, given up: a slot that points to it. -/
theorem Gh.frzP {Q : Env → Heap → Prop} {E : Env} {H : Heap} (t : Nat) {τ b : Nat} {ls : List L} (hE : E t = .ptr τ b 0) (hH : hget τ H = some (.box b (ls.map A.dat)))
    (hq : Gh Q (upd E t (.rptr ls)) (hdel τ H)) : Gh Q E H := by
  intro n ds x act H0 hi he
  have hp := hdel_perm hH
  have hi1 : Inv x ([(τ, .box b (ls.map A.dat))] ++ (hdel τ H ++ H0)) := by
    have := hi.perm (hp.symm.append_right H0)
    simpa using this
  obtain ⟨y, hw, hle, hi2, hok, _⟩ := hi1.freeze
  have he2 : EnvOK n ds y act (upd E t (.rptr ls)) := by
    have hm := he.mono hle
    refine ⟨hm.defers, hm.size, fun s => ?_⟩
    simp only [upd]
    split
    · rename_i hs
      subst hs
      have hv := he.slot s
      rw [hE] at hv
      exact ptr_rptr hi1 hle hw hok (List.mem_singleton.2 rfl) hv
    · exact hm.slot s
  obtain ⟨z, E2, H2, w2, l2, i2, e2, h2⟩ := hq n ds y act H0 hi2 he2
  exact ⟨z, E2, H2, w2.trans hw, hle.trans l2, i2, e2, h2⟩
/-- An owned slice that a cell of a box holds, given up. -/
theorem Gh.frzBox {Q : Env → Heap → Prop} {E : Env} {H : Heap} {g τ j b : Nat} {h : Value} {e sz : Nat} {rows : List (List A)} {cs : List A} {t : Nat} (hg : hget g (hdel τ H) = some (.box b cs)) (hH : hget τ H = some (.seq h e sz rows)) (hd : allD rows = true)
    (hj : cs[j]? = some (.own t h)) (hq : Gh Q E (hset g (.box b (cs.set j (.dat (.sl (rowsD rows))))) (hdel τ H))) : Gh Q E H := by
  intro n ds x act H0 hi he
  obtain ⟨y, hw, hle, hi2, hrd⟩ := freeze1 hH hd hi
  have hi3 : Inv y (hset g (.box b (cs.set j (.dat (.sl (rowsD rows))))) (hdel τ H) ++ H0) :=
    hi2.swap hg (fun ⟨c, ty, h1, h2⟩ => ⟨c, ty, h1, Ds_set (fun v hv => by simp only [D] at hv ⊢; rw [hv.1]; exact hrd) hj h2⟩) (fun b hb => hb)
  obtain ⟨z, E2, H2, w2, l2, i2, e2, h2⟩ := hq n ds y act H0 hi3 (he.mono hle)
  exact ⟨z, E2, H2, w2.trans hw, hle.trans l2, i2, e2, h2⟩
/-- Like 'V.forI'; behind a round memory can be seen otherwise. -/
theorem V.forG {C : Cfg} {E : Env} {H : Heap} {Q : PostQ} {c : Code} {σ : Type} {kv : List (Nat × A)} {kh : Heap} (n : Nat) (Lv : List Nat) (hkv : kv = Lv.map fun t => (t, E t)) (sl : Nat → σ → List (Nat × A)) (Hs : Nat → σ → Heap) (I : Nat → σ → Prop) (s0 : σ)
    (hI0 : I 0 s0) (hE0 : ∀ p ∈ sl 0 s0, wk (E p.1) p.2) (hH0 : kh = kpH (Hs 0 s0) H ∧ subN (hcat (Hs 0 s0) kh) H)
    (hb : ∀ i s, i < n → I i s → vcC C c (hdE kv (sl i s)) (hcat (Hs i s) kh) (LoopQ Q (Gh fun E' H' =>
      ∃ s', I (i + 1) s' ∧ (∀ p ∈ sl (i + 1) s', wk (E' p.1) p.2) ∧ (∀ p ∈ kv, E' p.1 = p.2) ∧ subN (hcat (Hs (i + 1) s') kh) H')))
    (he : ∀ s, I n s → vcC C c (hdE kv (sl n s)) (hcat (Hs n s) kh) (LoopQ Q fun _ _ => False)) : V C (.loop c) E H Q := by
  intro hf x act H0 ms hi hen
  have hhead : ∀ {i : Nat} {s : σ} {E' : Env} {y : X} {a : Act} {ds : List Deferred}, EnvOK C.n ds y a E' → (∀ p ∈ sl i s, wk (E' p.1) p.2) → (∀ p ∈ kv, E' p.1 = p.2) → EnvOK C.n ds y a (hdE kv (sl i s)) := by
    intro i s E' y a ds h h1 h2
    refine ⟨h.defers, h.size, sets_wk h.slot _ _ h1 (sets_wk h.slot _ _ ?_ fun t => by simp [anyE, D])⟩
    intro p hp
    rw [h2 p hp]
    simp
  have h00 : ∀ p ∈ kv, E p.1 = p.2 := by
    intro p hp
    rw [hkv] at hp
    obtain ⟨t, _, rfl⟩ := List.mem_map.1 hp
    rfl
  have key : W C (.loop c) (hdE kv (sl 0 s0)) (hcat (Hs 0 s0) kh) Q := by
    refine W.loop (fun m E' H' => ∃ i s, i ≤ n ∧ I i s ∧ n - i = m ∧ E' = hdE kv (sl i s) ∧ H' = hcat (Hs i s) kh) n ⟨0, s0, Nat.zero_le _, hI0, rfl, rfl, rfl⟩ ?_
    rintro m _ _ ⟨i, s, hin, hI, rfl, rfl, rfl⟩
    rcases Nat.lt_or_ge i n with hlt | hge
    · have hw := vcC_ok c _ _ _ hf (hb i s hlt hI)
      intro x act H0 ms hi hen
      refine wpIn_mono (hw x act H0 ms hi hen) ?_
      rintro e a' w' ⟨y, E', H', ms', rfl, hle, hi', he', hq⟩
      cases e with
      | normal =>
        obtain ⟨z, E2, H2, w2, l2, i2, e2, s', h1, h3, h4, h5⟩ := hq C.n (ms'.map mk) y a' _ hi' he'
        exact ⟨z, _, _, ms', w2, hle.trans l2, subN_inv h5 i2, hhead e2 h3 h4, n - (i + 1), by omega, i + 1, s', by omega, h1, rfl, rfl, rfl⟩
      | exit k => exact ⟨y, E', H', ms', rfl, hle, hi', he', hq⟩
      | ret => exact ⟨y, E', H', ms', rfl, hle, hi', he', hq⟩
      | goto k => exact hq.elim
      | panic k => exact hq.elim
      | outgrown => exact hq.elim
    · obtain rfl : i = n := by omega
      have hw := vcC_ok c _ _ _ hf (he s hI)
      intro x act H0 ms hi hen
      refine wpIn_mono (hw x act H0 ms hi hen) ?_
      rintro e a' w' ⟨y, E', H', ms', rfl, hle, hi', he', hq⟩
      cases e with
      | normal => exact hq.elim
      | exit k => exact ⟨y, E', H', ms', rfl, hle, hi', he', hq⟩
      | ret => exact ⟨y, E', H', ms', rfl, hle, hi', he', hq⟩
      | goto k => exact hq.elim
      | panic k => exact hq.elim
      | outgrown => exact hq.elim
  refine key x act H0 ms (subN_inv hH0.2 hi) (hhead hen hE0 h00)
/-! ### Regions in the order of the text, with steps in ways of their own; the steps at T make memory of one's own -/
def vcF (P : Program) (ρ : Nat → Option CR) (T : List Nat) (ops : List Oper) : List Oper → Env → Heap → (Env → Heap → Prop) → Prop
  | [], E, H, K => K E H
  | o :: rest, E, H, K => ∀ u b, match T.contains (o.dst.getD 0) && o.guard.isNone with
    | true => match heapF P u b (o.dst.getD 0) E (fun t => hget t H) o.op with
      | some (p, a, ch) => p ∧ vcF P ρ T ops rest (put E o.dst a) (happ ch H) K
      | none => False
    | false => match fStep P ρ u b ops o E (fun t => hget t H) with
      | some (p, a, ch) => p ∧ vcF P ρ T ops rest (put E o.dst a) (happ ch H) K
      | none => False
@[congr] theorem vcF_congr {P : Program} {ρ : Nat → Option CR} {T : List Nat} {ops : List Oper} {l : List Oper} {E : Env} {H H' : Heap} {K : Env → Heap → Prop} {z : Prop} (_ : (True ∧ True) = z)
    (h : H = H') : vcF P ρ T ops l E H K = vcF P ρ T ops l E H' K := by rw [h]
theorem vcF_ok {ρ : Nat → Option CR} {T : List Nat} {ops : List Oper} {n : Nat} {ds : List Deferred} {H0 : Heap} {x0 : X} {Q : Exit → Act → World → Prop} : ∀ (l : List Oper) (k : Nat) (E : Env) (H : Heap) (K : Env → Heap → Prop), ops.drop k = l → (∀ o ∈ l, fits n o.dst) → vcF P ρ T ops l E H K →
    (∀ E H x act, K E H → x0.le x → Inv x (H ++ H0) → EnvOK n ds x act E → Q .normal act x.w) → ∀ x act, x0.le x → Inv x (H ++ H0) → EnvOK n ds x act E → wpOps P ops.toArray Q ((List.range' k l.length)) act x.w
  | [], k, E, H, K, _, _, h, hq, x, act, hle, hi, he => by
    simp only [List.length_nil, List.range'_zero, wpOps]
    exact hq _ _ x act h hle hi he
  | o :: rest, k, E, H, K, hk, hf, h, hq, x, act, hle, hi, he => by
    have ho : ops[k]? = some o := by
      have := congrArg (·[0]?) hk
      simpa [List.getElem?_drop] using this
    have hk' : ops.drop (k + 1) = rest := by
      rw [← List.drop_drop, hk]
      rfl
    simp only [List.length_cons, List.range'_succ]
    rw [wpOps_cons]
    simp only [vcF] at h
    cases hT : (T.contains (o.dst.getD 0) && o.guard.isNone) with
    | true =>
      rw [hT] at h
      dsimp only at h
      have hg : o.guard = none := by
        have := (Bool.and_eq_true_iff.1 hT).2
        cases hgd : o.guard with
        | none => rfl
        | some _ => rw [hgd] at this; simp at this
      have hw : Region.wanted o (yielded ops.toArray act.tmps) = true := by simp [Region.wanted, hg]
      obtain ⟨u, b, v, y, p, a, ch, h1, h2, h3, h4, h5, h6⟩ := heapF_ok (P := P) (o := o) (E := E) (τ := o.dst.getD 0) (fun u b => by
        have := h u b
        split at this
        · rename_i p a ch hh; exact ⟨p, a, ch, hh, this.1⟩
        · exact this.elim) (fun t => rfl) hi he
      have hk2 := h u b
      rw [h1] at hk2
      have fin : ∀ v, D y a v → wpOps P ops.toArray Q (List.range' (k + 1) rest.length) (act.put o.dst v) y.w := fun v hd =>
        vcF_ok rest (k + 1) _ _ K hk' (fun o ho => hf o (by simp [ho])) hk2.2 hq y _ (hle.trans h4) h5 ((he.mono h4).put (hf o (by simp)) hd)
      unfold wpOp
      rw [show ops.toArray[k]? = some o by simpa using ho]
      simp only
      rw [if_pos hw]
      left
      show o.upon P act _ Q _
      rcases h3 with h3 | ⟨h3, rfl⟩
      · rw [h3]; exact fin v h6
      · rw [h3]; exact fin Go.undef h6
    | false =>
      rw [hT] at h
      dsimp only at h
      refine fStep_ok (ρ := ρ) (fun u b => ?_) (fun t => rfl) hi he (by simpa using ho) ?_
      · have := h u b
        split at this
        · rename_i p a ch hh; exact ⟨p, a, ch, hh, this.1⟩
        · exact this.elim
      · intro u b p a ch v y hh hle2 hi2 hd
        have := h u b
        rw [hh] at this
        exact vcF_ok rest (k + 1) _ _ K hk' (fun o ho => hf o (by simp [ho])) this.2 hq y _ (hle.trans hle2) hi2 ((he.mono hle2).put (hf o (by simp)) hd)
theorem V.regF {n : Nat} {id : Nat} {ops : Array Oper} {E : Env} {H : Heap} {Q : PostQ} (ρ : Nat → Option CR) (T : List Nat) (h : vcF P ρ T ops.toList ops.toList E H fun E' H' => Q .normal E' H') : V ⟨P, none, n⟩ (.region id ops false) E H Q := by
  intro hf x act H0 ms hi he
  refine wpIn_wide.2 (wp_region ?_)
  have := vcF_ok (P := P) (ρ := ρ) (T := T) (n := n) (ds := ms.map mk) (x0 := x) (Q := Post n H0 Q x) ops.toList 0 E H _ rfl (fitsOps_ok hf) h (fun E H y act hK hle hi he => ⟨y, E, H, ms, rfl, hle, hi, he, hK⟩) x act (.refl x) hi he
  rw [List.range_eq_range']
  simpa using this
theorem V.seq {C : Cfg} {a b : Code} {E : Env} {H : Heap} {Q : PostQ} (h : V C a E H fun e E' H' => match e with
    | .normal => vcC C b E' H' Q
    | .exit i => Q (.exit i) E' H'
    | .ret => Q .ret E' H'
    | _ => False) : V C (.seq a b) E H Q := by
  intro hf
  simp only [fitsC, Bool.and_eq_true] at hf
  refine W.seq ((h hf.1).mono ?_)
  intro e E' H' hq
  cases e <;> first | exact vcC_ok b _ _ _ hf.2 hq | exact hq
/-- Memory that is given up, seen as data. -/
theorem CallFn.give {g : FuncId} {az az' : List A} {Hc Hr H : Heap} {K : A → Heap → Prop} {r : A} (h : CallFn P g az' r) (hH : H = Hc ++ Hr) (hz : (frzs Hc az).1 ∧ (frzs Hc az).2 = az') (hk : K r Hr) : CallS P g az H K := by
  subst hH
  obtain ⟨hz1, rfl⟩ := hz
  refine ⟨h.1, fun x args H0 hi hd => ?_⟩
  rw [List.append_assoc] at hi
  obtain ⟨x', hw, hle, hi0, hok, _⟩ := hi.freeze
  have hd' := frzs_ok hi hle hw hok az _ hd hz1
  have := (CallS.frame (H1 := Hr) h).2 x' args H0 (by simpa using hi0) hd'
  rw [hw] at this
  refine this.mono ?_
  rintro _ _ ⟨y, v, r', H', rfl, rfl, hley, hiy, hv, H2, ⟨rfl, rfl⟩, rfl⟩
  exact ⟨y, v, _, _, rfl, rfl, hle.trans hley, by simpa using hiy, hv, hk⟩
attribute [simp] vcF
end Go.Proofs.YtakndgpdolfenaaGreat
end

/- Memory that is lent for a stretch of code. -/
section
namespace Go.Proofs.YtakndgpdolfenaaGreat
variable {P : Program}

def flatP : A → Bool
  | .ptr _ _ _ => true
  | a => flatV a
theorem flatP_ok {x y : X} {a : A} {v : Value} (h : flatP a = true) (hv : D x a v) : D y a v := by
  unfold flatP at h
  split at h
  · simpa [D] using hv
  · exact flatV_ok h hv
/-- A cell as it is seen in the stretch: what is data or lent, with the very value. -/
def lcA (Hl : Heap) (g : Value) : A → A
  | .dat (.sl xs) => .owd g xs
  | .own τ h => match hget τ Hl with
    | some (.seq _ _ _ rows) => .owd h (rowsD rows)
    | _ => .own τ h
  | a => a
def lcOK (Hl : Heap) : A → Prop
  | .dat (.sl _) => True
  | .own τ h => match hget τ Hl with
    | some (.seq h' _ _ rows) => h' = h ∧ allD rows = true
    | _ => True
  | a => flatV a = true
def lcs (Hl : Heap) (g : Nat → Value) : Nat → List A → List A
  | _, [] => []
  | i, a :: r => lcA Hl (g i) a :: lcs Hl g (i + 1) r
theorem lcA_in {x y : X} {Hl H0 : Heap} (hi : Inv x (Hl ++ H0)) (hle : x.le y) (hw : y.w = x.w) (hok : ∀ b, (∃ p ∈ Hl, p.2.own b) → y.ok b) {a : A} {v : Value} (ha : lcOK Hl a) (hv : D x a v) : D y (lcA Hl v a) v := by
  unfold lcA
  split
  · have := hv.mono hle
    simp only [D] at this ⊢
    exact ⟨trivial, this⟩
  · rename_i τ h
    split
    · rename_i h' e sz rows hg
      have hz : (frz Hl (.own τ h)).1 ∧ (frz Hl (.own τ h)).2 = .dat (.sl (rowsD rows)) := by
        simp only [lcOK, hg] at ha
        simp only [frz, hg]
        exact ⟨ha, trivial⟩
      have h1 := frz_ok hi hle hw hok (.own τ h) v hv hz.1
      rw [hz.2] at h1
      simp only [D] at h1 hv ⊢
      exact ⟨hv.1, h1⟩
    · exact hv.mono hle
  · exact hv.mono hle
theorem lcA_out {x y z : X} {Hl : Heap} (hle : x.le z) {a : A} {v u : Value} (ha : lcOK Hl a) (hv : D x a v) (hu : D y (lcA Hl v a) u) : D z a u := by
  unfold lcA at hu
  split at hu
  · simp only [D] at hu
    rw [hu.1]
    exact hv.mono hle
  · rename_i τ h
    split at hu
    · simp only [D] at hu hv ⊢
      exact ⟨hu.1, hv.2⟩
    · simpa [D] using hu
  · rename_i h1 h2
    have hf : flatV a = true := by
      unfold lcOK at ha
      split at ha
      · exact absurd rfl (h1 _)
      · exact absurd rfl (h2 _ _)
      · exact ha
    exact flatV_ok hf hu
theorem lcs_in {x y : X} {Hl H0 : Heap} (hi : Inv x (Hl ++ H0)) (hle : x.le y) (hw : y.w = x.w) (hok : ∀ b, (∃ p ∈ Hl, p.2.own b) → y.ok b) {g : Nat → Value} : ∀ {cs : List A} {vs : List Value} {k : Nat}, (∀ (i : Nat) v, vs[i]? = some v → g (k + i) = v) → (∀ a ∈ cs, lcOK Hl a) → Ds x cs vs → Ds y (lcs Hl g k cs) vs
  | [], [], _, _, _, _ => by simp [lcs, Ds]
  | a :: cs, v :: vs, k, hg, ha, hd => by
    simp only [Ds] at hd
    have h0 : g k = v := by simpa using hg 0 v rfl
    simp only [lcs, Ds, h0]
    refine ⟨lcA_in hi hle hw hok (ha a (by simp)) hd.1, lcs_in hi hle hw hok (k := k + 1) (fun i u hu => ?_) (fun b hb => ha b (by simp [hb])) hd.2⟩
    have := hg (i + 1) u (by simpa using hu)
    rw [← this]
    congr 1
    omega
  | [], _ :: _, _, _, _, h => by simp [Ds] at h
  | _ :: _, [], _, _, _, h => by simp [Ds] at h
theorem lcs_out {x y z : X} {Hl : Heap} (hle : x.le z) {g : Nat → Value} : ∀ {cs : List A} {vs us : List Value} {k : Nat}, (∀ (i : Nat) v, vs[i]? = some v → g (k + i) = v) → (∀ a ∈ cs, lcOK Hl a) → Ds x cs vs → Ds y (lcs Hl g k cs) us → Ds z cs us
  | [], [], [], _, _, _, _, _ => by simp [Ds]
  | a :: cs, v :: vs, u :: us, k, hg, ha, hd, hu => by
    simp only [Ds] at hd
    have h0 : g k = v := by simpa using hg 0 v rfl
    simp only [lcs, Ds, h0] at hu
    simp only [Ds]
    refine ⟨lcA_out hle (ha a (by simp)) hd.1 hu.1, lcs_out hle (k := k + 1) (fun i w hw => ?_) (fun b hb => ha b (by simp [hb])) hd.2 hu.2⟩
    have := hg (i + 1) w (by simpa using hw)
    rw [← this]
    congr 1
    omega
  | [], _ :: _, _, _, _, _, h, _ => by simp [Ds] at h
  | _ :: _, [], _, _, _, _, h, _ => by simp [Ds] at h
  | [], [], _ :: _, _, _, _, _, h => by simp [Ds, lcs] at h
  | _ :: _, _ :: _, [], _, _, _, _, h => by simp [Ds, lcs] at h
/-- An entry in the stretch. -/
def lbE (Hl : Heap) (g : Nat → Nat → Value) : Ent → Ent
  | .box b cs => .box b (lcs Hl (g b) 0 cs)
  | e => e
theorem lbE_own {Hl : Heap} {g : Nat → Nat → Value} {e : Ent} {b : Nat} : (lbE Hl g e).own b ↔ e.own b := by
  cases e <;> simp [lbE, Ent.own]
/-- What does not lie in lent memory. -/
def Indep (Hl : Heap) (a : A) : Prop := ∀ (x y z : X) (v : Value), (∀ p ∈ Hl, p.2.sat x) → (∀ p ∈ Hl, ∀ b, p.2.own b → y.w.heap[b]? = x.w.heap[b]?) → z.w = y.w → (∀ b, y.ok b → (∀ p ∈ Hl, ¬ p.2.own b) → z.ok b) → D y a v → D z a v
def keepE (T : List Nat) (E : Env) : Env := fun t => if T.contains t = true ∨ flatP (E t) = true then E t else .any
/-- The conditions of the first k parts of a code; behind them a condition of one's own. -/
def vcK (C : Cfg) (Qn : Env → Heap → Prop) : Nat → Code → Env → Heap → Prop
  | 0, _, E, H => Qn E H
  | k + 1, .seq a b, E, H => vcC C a E H fun e E' H' => match e with
    | .normal => vcK C Qn k b E' H'
    | _ => False
  | _ + 1, _, _, _ => False
theorem restO_fits {n : Nat} : ∀ {k : Nat} {c d : Code}, restO k c = some d → fitsC n c = true → fitsC n d = true
  | 0, c, d, h, hf => by
    simp only [restO, Option.some.injEq] at h
    rw [← h]
    exact hf
  | k + 1, c, d, h, hf => by
    cases c <;> simp only [restO, reduceCtorEq] at h
    simp only [fitsC, Bool.and_eq_true] at hf
    exact restO_fits h hf.2
theorem vcK_wp {C : Cfg} {Qn : Env → Heap → Prop} {R : Exit → Act → World → Prop} : ∀ (k : Nat) (c d : Code) (E : Env) (H : Heap), restO k c = some d → fitsC C.n c = true → vcK C Qn k c E H → ∀ x act H0 ms, Inv x (H ++ (marks ms ++ H0)) → EnvOK C.n (ms.map mk) x act E →
    (∀ a w, Post C.n H0 (fun _ E H => Qn E H) x .normal a w → d.wpIn (fw C.r) 0 C.P R a w) → c.wpIn (fw C.r) 0 C.P R act x.w
  | 0, c, d, E, H, hr, _, hv, x, act, H0, ms, hi, he, hd => by
    simp only [restO, Option.some.injEq] at hr
    rw [hr]
    exact hd act x.w ⟨x, E, H, ms, rfl, .refl x, hi, he, hv⟩
  | k + 1, c, d, E, H, hr, hf, hv, x, act, H0, ms, hi, he, hd => by
    cases c <;> simp only [restO, reduceCtorEq] at hr
    rename_i a b
    simp only [fitsC, Bool.and_eq_true] at hf
    have h1 := vcC_ok a E H _ hf.1 hv x act H0 ms hi he
    refine wpIn_seq (wpIn_mono h1 ?_)
    rintro e a' w' ⟨y, E', H', ms', rfl, hle, hi', he', hq⟩
    cases e with
    | normal =>
      refine vcK_wp k b d E' H' hr hf.2 hq y a' H0 ms' hi' he' ?_
      rintro a2 w2 ⟨y2, E2, H2, ms2, rfl, hle2, hi2, he2, hq2⟩
      exact hd a2 _ ⟨y2, E2, H2, ms2, rfl, hle.trans hle2, hi2, he2, hq2⟩
    | exit i => exact hq.elim
    | ret => exact hq.elim
    | goto l => exact hq.elim
    | panic c => exact hq.elim
    | outgrown => exact hq.elim
theorem V.lease {C : Cfg} {c d : Code} {E : Env} {Hl Hb : Heap} {Q : PostQ} (k : Nat) (T : List Nat) (hrest : restO k c = some d) (hb : ∀ p ∈ Hb, ∃ b cs, p.2 = .box b cs ∧ ∀ a ∈ cs, lcOK Hl a)
    (h : ∀ g, vcK C (fun E' H' => List.Sublist (Hb.map fun p => (p.1, lbE Hl g p.2)) H' ∧ (∀ t, T.contains t = true → Indep Hl (E' t)) ∧ V C d (keepE T E') (Hl ++ Hb) Q) k c E (Hb.map fun p => (p.1, lbE Hl g p.2))) : V C c E (Hl ++ Hb) Q := by
  intro hf x act H0 ms hi he
  have hi' : Inv x (Hl ++ (Hb ++ (marks ms ++ H0))) := by rw [← List.append_assoc]; exact hi
  obtain ⟨x', hw, hle, hi0, hok, hok'⟩ := hi'.freeze
  let g : Nat → Nat → Value := fun b i => match x.w.heap[b]? with
    | some (.cells c _ _) => c.toList.getD i Go.undef
    | _ => Go.undef
  have hgat : ∀ {b : Nat} {c : Array Value} {ty : TypeId} {q : Nat × Nat}, x.w.heap[b]? = some (.cells c ty q) → ∀ (i : Nat) v, c.toList[i]? = some v → g b (0 + i) = v := by
    intro b c ty q hc i v hv
    simp only [g, hc, Nat.zero_add]
    rw [List.getD_eq_getElem?_getD, hv]
    rfl
  have hraw : Inv x' (rawsOf x' H0) := (hi0.sub ((List.sublist_append_right (marks ms) H0).trans (List.sublist_append_right Hb _))).raws
  have hin : Inv x' ((Hb.map fun p => (p.1, lbE Hl g p.2)) ++ (marks ms ++ rawsOf x' H0)) := by
    refine ⟨hi0.bd, ?_, ?_, ?_⟩
    · intro p hp
      rcases List.mem_append.1 hp with hp | hp
      · obtain ⟨q, hq, rfl⟩ := List.mem_map.1 hp
        obtain ⟨b, cs, e, hcs⟩ := hb q hq
        have hs := hi'.sat q (by simp [hq])
        show (lbE Hl g q.2).sat x'
        rw [e] at hs ⊢
        obtain ⟨cc, ty, h1, h2⟩ := hs
        refine ⟨cc, ty, by rw [hw]; exact h1, ?_⟩
        exact lcs_in hi' hle hw hok (hgat h1) hcs h2
      · rcases List.mem_append.1 hp with hp | hp
        · exact hi0.sat p (by simp [hp])
        · exact hraw.sat p hp
    · intro p hp b ho
      rcases List.mem_append.1 hp with hp | hp
      · obtain ⟨q, hq, rfl⟩ := List.mem_map.1 hp
        exact hi0.own q (by simp [hq]) b (lbE_own.1 ho)
      · rcases List.mem_append.1 hp with hp | hp
        · exact hi0.own p (by simp [hp]) b ho
        · exact hraw.own p hp b ho
    · have ap := List.pairwise_append.1 hi0.apart
      have ap2 := List.pairwise_append.1 ap.2.1
      refine List.pairwise_append.2 ⟨?_, List.pairwise_append.2 ⟨ap2.1, hraw.apart, ?_⟩, ?_⟩
      · rw [List.pairwise_map]
        refine ap.1.imp ?_
        intro p q hpq b h1 h2
        exact hpq b (lbE_own.1 h1) (lbE_own.1 h2)
      · intro p hp q hq b h1 h2
        obtain ⟨r, hr, b', hb', rfl⟩ := rawsOf_mem hq
        simp only [Ent.own] at h2
        subst h2
        exact ap2.2.2 p hp r hr b h1 hb'
      · intro p hp q hq b h1 h2
        obtain ⟨r, hr, rfl⟩ := List.mem_map.1 hp
        have h1' := lbE_own.1 h1
        rcases List.mem_append.1 hq with hq | hq
        · exact ap.2.2 r hr q (by simp [hq]) b h1' h2
        · obtain ⟨u, hu, b', hb', rfl⟩ := rawsOf_mem hq
          simp only [Ent.own] at h2
          subst h2
          exact ap.2.2 r hr u (by simp [hu]) b h1' hb'
  rw [← hw]
  refine vcK_wp k c d E _ hrest hf (h g) x' act (rawsOf x' H0) ms hin (he.mono hle) ?_
  rintro a w' ⟨y, E', H', ms', rfl, hley, hiy, hey, hsub, hT, hq⟩
  let z : X := ⟨y.w, fun b => y.ok b ∧ ¬ ∃ p ∈ Hl, p.2.own b⟩
  have hown : ∀ p ∈ Hl, ∀ b, p.2.own b → b < x.w.heap.size ∧ ¬ x.ok b := fun p hp b hb => hi'.own p (List.mem_append.2 (.inl hp)) b hb
  have hlexz : x.le z := by
    refine ⟨fun b hb => ⟨⟨(hley.keep b (hle.keep b hb).1).1, fun ⟨p, hp, ho⟩ => (hown p hp b ho).2 hb⟩, ?_⟩, ?_, ?_, ?_, ?_, ?_⟩
    · exact ((hley.keep b (hle.keep b hb).1).2).trans (hle.keep b hb).2
    · exact hley.os.trans hle.os
    · exact hley.output.trans hle.output
    · exact hley.tape.trans hle.tape
    · exact Nat.le_trans hle.size hley.size
    · exact Nat.le_trans hle.drawn hley.drawn
  have hH : ∀ p ∈ Hl, ∀ b, p.2.own b → y.ok b ∧ y.w.heap[b]? = x.w.heap[b]? := fun p hp b hb => by
    have h1 := hley.keep b (hok b ⟨p, hp, hb⟩)
    exact ⟨h1.1, by rw [h1.2, hw]⟩
  have hH0 : ∀ p ∈ H0, ∀ b, p.2.own b → y.w.heap[b]? = x.w.heap[b]? ∧ ¬ y.ok b := fun p hp b hb => by
    have hm := rawsOf_of (x := x') hp hb
    have h1 : y.w.heap[b]? = some _ := hiy.sat _ (List.mem_append.2 (.inr (List.mem_append.2 (.inr hm))))
    have hlt := (hi0.own p (by simp [hp]) b hb).1
    refine ⟨by rw [h1, ← hw]; simp [hlt], (hiy.own _ (List.mem_append.2 (.inr (List.mem_append.2 (.inr hm)))) b rfl).2⟩
  have hboxes : ∀ p ∈ Hb, p.2.sat z ∧ ∀ b, p.2.own b → b < z.w.heap.size ∧ ¬ y.ok b := by
    intro p hp
    have hm : (p.1, lbE Hl g p.2) ∈ H' ++ (marks ms' ++ rawsOf x' H0) := List.mem_append.2 (.inl (hsub.subset (List.mem_map.2 ⟨p, hp, rfl⟩)))
    refine ⟨?_, fun b ho => hiy.own _ hm b (lbE_own.2 ho)⟩
    obtain ⟨b, cs, e, hcs⟩ := hb p hp
    have hs := hi'.sat p (by simp [hp])
    have hs2 : (lbE Hl g p.2).sat y := hiy.sat _ hm
    rw [e] at hs hs2 ⊢
    obtain ⟨cc, ty, h1, h2⟩ := hs
    obtain ⟨dd, ty2, h3, h4⟩ := hs2
    exact ⟨dd, ty2, h3, lcs_out hlexz (hgat h1) hcs h2 h4⟩
  have hout : Inv z ((Hl ++ Hb) ++ (marks ms' ++ H0)) := by
    have sz : ∀ b, b < x.w.heap.size → b < z.w.heap.size := fun b hb => Nat.lt_of_lt_of_le hb hlexz.size
    have apx := List.pairwise_append.1 hi'.apart
    have apx2 := List.pairwise_append.1 apx.2.1
    have apx3 := List.pairwise_append.1 apx2.2.1
    have apy := List.pairwise_append.1 hiy.apart
    have apy2 := List.pairwise_append.1 apy.2.1
    refine ⟨fun b hb => hiy.bd b hb.1, ?_, ?_, ?_⟩
    · intro p hp
      rcases List.mem_append.1 hp with hp | hp
      · rcases List.mem_append.1 hp with hp | hp
        · exact Ent.sat_step hlexz (fun b hb => (hH p hp b hb).2) (hi'.sat p (by simp [hp]))
        · exact (hboxes p hp).1
      · rcases List.mem_append.1 hp with hp | hp
        · have := hiy.sat p (by simp [hp])
          obtain ⟨m, hm, rfl⟩ := List.mem_map.1 hp
          exact this
        · exact Ent.sat_step hlexz (fun b hb => (hH0 p hp b hb).1) (hi'.sat p (by simp [hp]))
    · intro p hp b ho
      rcases List.mem_append.1 hp with hp | hp
      · rcases List.mem_append.1 hp with hp | hp
        · exact ⟨sz b (hown p hp b ho).1, fun hh => hh.2 ⟨p, hp, ho⟩⟩
        · exact ⟨((hboxes p hp).2 b ho).1, fun hh => ((hboxes p hp).2 b ho).2 hh.1⟩
      · rcases List.mem_append.1 hp with hp | hp
        · have := hiy.own p (by simp [hp]) b ho
          exact ⟨this.1, fun hh => this.2 hh.1⟩
        · exact ⟨sz b (hi'.own p (by simp [hp]) b ho).1, fun hh => (hH0 p hp b ho).2 hh.1⟩
    · refine List.pairwise_append.2 ⟨List.pairwise_append.2 ⟨apx.1, apx2.1, fun p hp q hq => apx.2.2 p hp q (by simp [hq])⟩, List.pairwise_append.2 ⟨apy2.1, apx3.2.1, ?_⟩, ?_⟩
      · intro p hp q hq b h1 h2
        exact apy2.2.2 p hp _ (rawsOf_of (x := x') hq h2) b h1 rfl
      · intro p hp q hq b h1 h2
        rcases List.mem_append.1 hp with hp | hp
        · rcases List.mem_append.1 hq with hq | hq
          · exact (hiy.own q (by simp [hq]) b h2).2 (hH p hp b h1).1
          · exact apx.2.2 p hp q (by simp [hq]) b h1 h2
        · rcases List.mem_append.1 hq with hq | hq
          · exact apy.2.2 (p.1, lbE Hl g p.2) (hsub.subset (List.mem_map.2 ⟨p, hp, rfl⟩)) q (by simp [hq]) b (lbE_own.2 h1) h2
          · exact apx2.2.2 p hp q (by simp [hq]) b h1 h2
  have henv : EnvOK C.n (ms'.map mk) z a (keepE T E') := by
    refine ⟨hey.defers, hey.size, fun t => ?_⟩
    have ht := hey.slot t
    unfold keepE
    split
    · rename_i hc
      rcases hc with hc | hc
      · exact hT t hc x y z _ (fun p hp => hi'.sat p (by simp [hp])) (fun p hp b hb => (hH p hp b hb).2) rfl (fun b hb hn => ⟨hb, fun ⟨p, hp, ho⟩ => hn p hp ho⟩) ht
      · exact flatP_ok hc ht
    · simp [D]
  have hfin := hq (restO_fits hrest hf) z a H0 ms' hout henv
  exact wpIn_mono hfin fun _ _ _ => Post.le hlexz fun _ _ _ h => h

end Go.Proofs.YtakndgpdolfenaaGreat
end
