/- Texts joined by a program: Fwj, Fwk, Fwl, Fwla. -/
import Derived.Test.YtakndgpdolfenaaGreatG0
set_option linter.unusedSimpArgs false
set_option linter.unusedVariables false

/- Regions in the order of the text; the conditions of a whole code; functions. -/
section
namespace Go.Proofs.YtakndgpdolfenaaGreat
variable {P : Program}

/-- The condition under which a guarded operation is carried out. -/
def gq (E : Env) (ops : List Oper) (j : Nat) (want : Bool) : Option Prop :=
  match (ops[j]?).bind (·.dst) with
  | some s => match E s with
    | .cond p (.dat (.bool b)) => some (p ∧ b = want)
    | .dat (.bool b) => some (b = want)
    | _ => none
  | none => none

/-- A guarded call: by its value alone, or in two ways. -/
def GCall (P : Program) (q p : Prop) (g : FuncId) (az : List A) (H : Heap) (K : A → Heap → Prop) : Prop :=
  (∃ r, (q → p ∧ CallFn P g az r) ∧ K r H) ∨ ((q → p ∧ CallS P g az H K) ∧ (¬ q → ∃ r, K r H))
theorem GCall.fn {q p : Prop} {g : FuncId} {az : List A} {H : Heap} {K : A → Heap → Prop} (r : A) (h : q → p ∧ CallFn P g az r) (hk : K r H) : GCall P q p g az H K := .inl ⟨r, h, hk⟩
theorem GCall.ways {q p : Prop} {g : FuncId} {az : List A} {H : Heap} {K : A → Heap → Prop} (h1 : q → p ∧ CallS P g az H K) (h2 : ¬ q → ∃ r, K r H) : GCall P q p g az H K := .inr ⟨h1, h2⟩

/-- A step on owned memory that only reads. -/
def reads : Op → Bool
  | .load .. => true
  | .indexAddr .. => true
  | .lookup .. => true
  | .call c => match c.callee with
    | .builtin .len => true
    | _ => false
  | _ => false
theorem reads_fix {u u' : Value} {b b' τ τ' : Nat} {E : Env} {G : Nat → Option Ent} {o : Op} (h : reads o = true) : heapF P u b τ E G o = heapF P u' b' τ' E G o := by
  cases o <;> simp only [reads, Bool.false_eq_true] at h <;> try rfl
  rename_i c
  simp only [heapF]
  split at h <;> try (cases h; done)
  rename_i hc
  rw [hc]
  split <;> first | rfl | (rename_i h1 _ _; cases h1)

/-- An operation that isn't guarded. -/
def vcOp (P : Program) (op : Op) (d : Option Nat) (E : Env) (H : Heap) (K : Env → Heap → Prop) : Prop :=
  match pureA P E op with
  | some (p, a) => p ∧ K (put E d a) H
  | none => match callA E op with
    | some (p, g, az) => p ∧ CallS P g az H fun r H' => K (put E d r) H'
    | none => match yldA E op with
    | some (p, l, az) => p ∧ CallY P l az H fun r H' => K (put E d r) H'
    | none => ∀ u b, match heapF P u b (d.getD 0) E (fun t => hget t H) op with
      | some (p, a, ch) => p ∧ K (put E d a) (happ ch H)
      | none => False

def vcOps (P : Program) (ops : List Oper) : List Oper → Env → Heap → (Env → Heap → Prop) → Prop
  | [], E, H, K => K E H
  | o :: rest, E, H, K => match o.guard with
    | none => vcOp P o.op o.dst E H fun E' H' => vcOps P ops rest E' H' K
    | some (j, want) => match gq E ops j want with
      | none => False
      | some q => match pureA P E o.op with
        | some (p, a) => (q → p) ∧ vcOps P ops rest (put E o.dst (.cond q a)) H K
        | none => match callA E o.op with
          | some (p, g, az) => GCall P q p g az H (fun r H' => vcOps P ops rest (put E o.dst (.cond q r)) H' K)
          | none => match heapF P .nilIface 0 0 E (fun t => hget t H) o.op with
            | some (p, a, none) => (q → p) ∧ reads o.op = true ∧ vcOps P ops rest (put E o.dst (.cond q a)) H K
            | _ => ¬ q ∧ vcOps P ops rest (put E o.dst (.cond q (.dat (.bool false)))) H K

def isDefer : Op → Bool
  | .defer _ => true
  | _ => false
theorem gq_ok {n : Nat} {ds : List Deferred} {x : X} {act : Act} {E : Env} (he : EnvOK n ds x act E) {ops : List Oper} {o : Oper} {j : Nat} {want : Bool} {q : Prop} (hg : o.guard = some (j, want))
    (h : gq E ops j want = some q) : (q → Region.wanted o (yielded ops.toArray act.tmps) = true) ∧ (¬ q → Region.wanted o (yielded ops.toArray act.tmps) = false) := by
  unfold gq at h
  split at h <;> try (simp at h; done)
  rename_i s hs
  have hsl := he.slot s
  have hy : yielded ops.toArray act.tmps j = match act.tmps[s]? with | some (.bool b) => some b | _ => none := by
    simp only [yielded, List.getElem?_toArray, hs, Option.bind_some]
    rfl
  have hun : ∀ v, act.tmps.getD s Go.undef = v → v ≠ Go.undef → act.tmps[s]? = some v := by
    intro v hv hne
    rw [Array.getD_eq_getD_getElem?] at hv
    cases hh : act.tmps[s]? with
    | none => rw [hh] at hv; exact absurd hv.symm hne
    | some u => rw [hh] at hv; simpa using hv
  have hnone : act.tmps.getD s Go.undef = Go.undef → yielded ops.toArray act.tmps j = none := by
    intro hv
    rw [hy]
    rw [Array.getD_eq_getD_getElem?] at hv
    cases hh : act.tmps[s]? with
    | none => rfl
    | some u => rw [hh] at hv; simp only [Option.getD_some] at hv; subst hv; rfl
  have hbool : ∀ b : Bool, act.tmps.getD s Go.undef = .bool b → yielded ops.toArray act.tmps j = some b := by
    intro b hv
    rw [hy, hun _ hv (by simp [Go.undef])]
  have hw : Region.wanted o (yielded ops.toArray act.tmps) = (yielded ops.toArray act.tmps j == some want) := by
    simp [Region.wanted, hg]
  split at h <;> try (simp at h; done)
  · rename_i p b hE
    simp only [Option.some.injEq] at h
    subst h
    rw [hE] at hsl
    simp only [D, RdL] at hsl
    constructor
    · rintro ⟨hp, rfl⟩
      rw [hw, hbool b (hsl.1 hp)]
      simp
    · intro hn
      by_cases hp : p
      · rw [hw, hbool b (hsl.1 hp)]
        have : b ≠ want := fun e => hn ⟨hp, e⟩
        simp [this]
      · rw [hw, hnone (hsl.2 hp)]
        rfl
  · rename_i b hE
    simp only [Option.some.injEq] at h
    subst h
    rw [hE] at hsl
    simp only [D, RdL] at hsl
    rw [hw, hbool b hsl]
    constructor
    · rintro rfl; simp
    · intro hn; simp [hn]

def fitsOps (n : Nat) (ops : List Oper) : Bool := ops.all fun o => match o.dst with
  | some t => decide (t < n)
  | none => true
theorem fitsOps_ok {n : Nat} {ops : List Oper} (h : fitsOps n ops = true) : ∀ o ∈ ops, fits n o.dst := by
  intro o ho
  have := List.all_eq_true.1 h o ho
  unfold fits
  cases hd : o.dst with
  | none => trivial
  | some t => rw [hd] at this; simpa using this

theorem semAt_exec {o : Oper} (r : Option Nat) (ρ : Operand → Value) (h : isDefer o.op = false) : o.semAt r ρ = execOp ρ o :=
  Oper.semAt_eq r ρ o fun c e => by rw [e] at h; simp [isDefer] at h

theorem vcOps_ok {C : Cfg} {ops : List Oper} {Q : Exit → Act → World → Prop} {x0 : X} {H0 : Heap} {ds : List Deferred} : ∀ (l : List Oper) (E : Env) (H : Heap) (K : Env → Heap → Prop), (∀ o ∈ l, fits C.n o.dst) → vcOps C.P ops l E H K →
    (∀ E H x act, K E H → x0.le x → Inv x (H ++ H0) → EnvOK C.n ds x act E → Q .normal act x.w) → ∀ x act, x0.le x → Inv x (H ++ H0) → EnvOK C.n ds x act E → wpListIn (fw C.r) 0 C.P ops.toArray Q l act x.w
  | [], E, H, K, _, h, hq, x, act, hle, hi, he => hq _ _ x act h hle hi he
  | o :: rest, E, H, K, hf, h, hq, x, act, hle, hi, he => by
    have hf0 := hf o (by simp)
    have hf' : ∀ o ∈ rest, fits C.n o.dst := fun o ho => hf o (by simp [ho])
    have ih := fun E H K h hq x act hle hi he => vcOps_ok (C := C) (ops := ops) (Q := Q) (x0 := x0) (H0 := H0) (ds := ds) rest E H K hf' h hq x act hle hi he
    simp only [vcOps] at h
    simp only [wpListIn]
    split at h
    · -- not guarded
      rename_i hg
      have hw : Region.wanted o (yielded ops.toArray act.tmps) = true := by simp [Region.wanted, hg]
      rw [if_pos hw]
      refine ⟨fun _ _ => trivial, ?_⟩
      unfold vcOp at h
      split at h
      · rename_i p a hp
        obtain ⟨hp1, hk⟩ := h
        have hdf : isDefer o.op = false := by cases ho : o.op <;> first | rfl | (rw [ho] at hp; simp [pureA] at hp)
        obtain ⟨u, y, h1, h2, h3⟩ := pureA_ok hp hp1 _ _ x act he hi.bd
        rw [semAt_exec _ _ hdf, h1]
        exact ih _ _ K hk hq y _ (hle.trans h2.le) (hi.grow h2) ((he.mono h2.le).put hf0 h3)
      · split at h
        · rename_i p g az hc
          obtain ⟨hp1, hcall⟩ := h
          have hdf : isDefer o.op = false := by cases ho : o.op <;> first | rfl | (rw [ho] at hc; simp [callA] at hc)
          obtain ⟨args, h1, h2⟩ := callA_ok hc hp1 he hcall.1
          rw [semAt_exec _ _ hdf, h1]
          refine ⟨fun hh => by simp [fw] at hh, ?_⟩
          have hcc := hcall.2 x args H0 hi h2
          have hcw : CallsIn (fw C.r) 0 C.P g args x.w (fun e w' => ∃ y v r H', e = .returned v ∧ y.w = w' ∧ x.le y ∧ Inv y (H' ++ H0) ∧ D y r v ∧ vcOps C.P ops rest (put E o.dst r) H' K) := by
            refine ⟨trivial, fun cs _ => ?_⟩
            obtain ⟨e, w', fr, hr, hs, hx⟩ := hcc cs
            refine ⟨e, w', fr, hr, ?_, hx⟩
            cases e with
            | returned v => exact (StepsIn.of_steps hs).mono fun m _ => fenced_wide C.P m
            | panicked ch => exact (StepsIn.of_steps hs).mono fun m _ => fenced_wide C.P m
            | outgrown => exact hs
          refine hcw.mono ?_
          rintro e w' ⟨y, v, r, H', rfl, rfl, h3, h4, h5, hk⟩
          exact ih _ _ K hk hq y _ (hle.trans h3) h4 ((he.mono h3).put hf0 h5)
        · split at h
          · rename_i p l az hc
            obtain ⟨hp1, hcall⟩ := h
            have hdf : isDefer o.op = false := by cases ho : o.op <;> first | rfl | (rw [ho] at hc; simp [yldA] at hc)
            obtain ⟨args, h1, h2⟩ := yldA_ok (P := C.P) hc hp1 he
            obtain ⟨f, tm, ag, bd, h3, h4⟩ := hcall x args H0 hi h2
            rw [semAt_exec _ _ hdf, h1, h3]
            refine ⟨fun hh => by simp [fw] at hh, ?_⟩
            refine RoundIn.mono (F := fw C.r) (R := fun e w' => ∃ y v r H', e = .returned v ∧ y.w = w' ∧ x.le y ∧ Inv y (H' ++ H0) ∧ D y r v ∧ vcOps C.P ops rest (put E o.dst r) H' K) h4 ?_
            rintro e w' ⟨y, v, r, H', rfl, rfl, h3, h4, h5, hk⟩
            exact ih _ _ K hk hq y _ (hle.trans h3) h4 ((he.mono h3).put hf0 h5)
          · rename_i hp _ hc
            have hF : ∀ u b, ∃ p a ch, heapF C.P u b (o.dst.getD 0) E (fun t => hget t H) o.op = some (p, a, ch) ∧ p := by
              intro u b
              have := h u b
              split at this
              · rename_i p a ch hh; exact ⟨p, a, ch, hh, this.1⟩
              · exact this.elim
            have hdf : isDefer o.op = false := by
              obtain ⟨p, a, ch, hh, _⟩ := hF .nilIface 0
              cases ho : o.op <;> first | rfl | (rw [ho] at hh; simp [heapF] at hh)
            obtain ⟨u, b, v, y, p, a, ch, hh, _, h1, h2, h3, h4⟩ := heapF_ok hF (fun _ => rfl) hi he
            have hk := h u b
            rw [hh] at hk
            replace hk := hk.2
            rw [semAt_exec _ _ hdf]
            rcases h1 with h1 | ⟨h1, rfl⟩
            · rw [h1]
              exact ih _ _ K hk hq y _ (hle.trans h2) h3 ((he.mono h2).put hf0 h4)
            · rw [h1]
              exact ih _ _ K hk hq y _ (hle.trans h2) h3 ((he.mono h2).put hf0 h4)
    · rename_i j want hg
      split at h <;> try (exact h.elim)
      rename_i q hgq
      obtain ⟨w1, w2⟩ := gq_ok he hg hgq
      split at h
      · rename_i p a hp
        obtain ⟨hp1, hk⟩ := h
        have hdf : isDefer o.op = false := by cases ho : o.op <;> first | rfl | (rw [ho] at hp; simp [pureA] at hp)
        by_cases hqq : q
        · rw [if_pos (w1 hqq)]
          refine ⟨fun _ _ => trivial, ?_⟩
          obtain ⟨u, y, h1, h2, h3⟩ := pureA_ok hp (hp1 hqq) _ _ x act he hi.bd
          rw [semAt_exec _ _ hdf, h1]
          exact ih _ _ K hk hq y _ (hle.trans h2.le) (hi.grow h2) ((he.mono h2.le).put hf0 (by simp only [D]; exact ⟨fun _ => h3, fun hn => absurd hqq hn⟩))
        · rw [if_neg (by rw [w2 hqq]; simp)]
          exact ⟨fun _ _ => trivial, ih _ _ K hk hq x _ hle hi (he.put hf0 (by simp only [D]; exact ⟨fun hn => absurd hn hqq, fun _ => by first | rfl | trivial⟩))⟩
      · split at h
        · rename_i p g az hc
          have hdf : isDefer o.op = false := by cases ho : o.op <;> first | rfl | (rw [ho] at hc; simp [callA] at hc)
          have callW : ∀ {K' : A → Heap → Prop} {args : Array Value}, CallS C.P g az H K' → Ds x az args.toList → CallsIn (fw C.r) 0 C.P g args x.w (fun e w' => ∃ y v r' H', e = .returned v ∧ y.w = w' ∧ x.le y ∧ Inv y (H' ++ H0) ∧ D y r' v ∧ K' r' H') := by
            intro K' args hcs h2
            refine ⟨trivial, fun cs _ => ?_⟩
            obtain ⟨e, w', fr, hr, hs, hx⟩ := hcs.2 x args H0 hi h2 cs
            refine ⟨e, w', fr, hr, ?_, hx⟩
            cases e with
            | returned v => exact (StepsIn.of_steps hs).mono fun m _ => fenced_wide C.P m
            | panicked ch => exact (StepsIn.of_steps hs).mono fun m _ => fenced_wide C.P m
            | outgrown => exact hs
          rcases h with ⟨r, hcall, hk⟩ | ⟨hcall, hk⟩
          · by_cases hqq : q
            · rw [if_pos (w1 hqq)]
              refine ⟨fun _ _ => trivial, ?_⟩
              have hcall' := hcall hqq
              obtain ⟨args, h1, h2⟩ := callA_ok hc hcall'.1 he hcall'.2.1
              rw [semAt_exec _ _ hdf, h1]
              refine ⟨fun hh => by simp [fw] at hh, ?_⟩
              have hcs : CallS C.P g az H (fun r' H' => r' = r ∧ H' = H) := hcall'.2.s ⟨rfl, rfl⟩
              refine (callW hcs h2).mono ?_
              rintro e w' ⟨y, v, r', H', rfl, rfl, h3, h4, h5, rfl, rfl⟩
              exact ih _ _ K hk hq y _ (hle.trans h3) h4 ((he.mono h3).put hf0 (by simp only [D]; exact ⟨fun _ => h5, fun hn => absurd hqq hn⟩))
            · rw [if_neg (by rw [w2 hqq]; simp)]
              exact ⟨fun _ _ => trivial, ih _ _ K hk hq x _ hle hi (he.put hf0 (by simp only [D]; exact ⟨fun hn => absurd hn hqq, fun _ => by first | rfl | trivial⟩))⟩
          · by_cases hqq : q
            · rw [if_pos (w1 hqq)]
              refine ⟨fun _ _ => trivial, ?_⟩
              have hcall' := hcall hqq
              obtain ⟨args, h1, h2⟩ := callA_ok hc hcall'.1 he hcall'.2.1
              rw [semAt_exec _ _ hdf, h1]
              refine ⟨fun hh => by simp [fw] at hh, ?_⟩
              refine (callW hcall'.2 h2).mono ?_
              rintro e w' ⟨y, v, r', H', rfl, rfl, h3, h4, h5, hk'⟩
              exact ih _ _ K hk' hq y _ (hle.trans h3) h4 ((he.mono h3).put hf0 (by simp only [D]; exact ⟨fun _ => h5, fun hn => absurd hqq hn⟩))
            · rw [if_neg (by rw [w2 hqq]; simp)]
              obtain ⟨r0, hk0⟩ := hk hqq
              exact ⟨fun _ _ => trivial, ih _ _ K hk0 hq x _ hle hi (he.put hf0 (by simp only [D]; exact ⟨fun hn => absurd hn hqq, fun _ => by first | rfl | trivial⟩))⟩
        · split at h
          rotate_left
          · obtain ⟨hnq, hk⟩ := h
            rw [if_neg (by rw [w2 hnq]; simp)]
            exact ⟨fun _ _ => trivial, ih _ _ K hk hq x _ hle hi (he.put hf0 (by simp only [D]; exact ⟨fun hn => absurd hn hnq, fun _ => by first | rfl | trivial⟩))⟩
          rename_i p a hh
          obtain ⟨hp1, hrd, hk⟩ := h
          have hdf : isDefer o.op = false := by cases ho : o.op <;> first | rfl | (rw [ho] at hrd; simp [reads] at hrd)
          by_cases hqq : q
          · rw [if_pos (w1 hqq)]
            refine ⟨fun _ _ => trivial, ?_⟩
            obtain ⟨u, b, v, y, p', a', ch', h1, h2, h3, h4, h5, h6⟩ := heapF_ok (P := C.P) (o := o) (E := E) (τ := 0) (fun u b => ⟨p, a, none, by rw [reads_fix hrd, hh], hp1 hqq⟩) (fun _ => rfl) hi he
            rw [reads_fix (u' := .nilIface) (b' := 0) (τ' := 0) hrd, hh] at h1
            simp only [Option.some.injEq, Prod.mk.injEq] at h1
            obtain ⟨rfl, rfl, rfl⟩ := h1
            rw [semAt_exec _ _ hdf]
            rcases h3 with h3 | ⟨h3, rfl⟩
            · rw [h3]
              exact ih _ _ K hk hq y _ (hle.trans h4) h5 ((he.mono h4).put hf0 (by simp only [D]; exact ⟨fun _ => h6, fun hn => absurd hqq hn⟩))
            · rw [h3]
              exact ih _ _ K hk hq y _ (hle.trans h4) h5 ((he.mono h4).put hf0 (by simp only [D]; exact ⟨fun _ => h6, fun hn => absurd hqq hn⟩))
          · rw [if_neg (by rw [w2 hqq]; simp)]
            exact ⟨fun _ _ => trivial, ih _ _ K hk hq x _ hle hi (he.put hf0 (by simp only [D]; exact ⟨fun hn => absurd hn hqq, fun _ => by first | rfl | trivial⟩))⟩

theorem W.region {C : Cfg} {id : Nat} {ops : Array Oper} {E : Env} {H : Heap} {Q : PostQ} (hf : fitsOps C.n ops.toList = true) (h : vcOps C.P ops.toList ops.toList E H fun E' H' => Q .normal E' H') :
    W C (.region id ops false) E H Q := by
  intro x act H0 ms hi he
  have := vcOps_ok (C := C) (ops := ops.toList) (Q := Post C.n H0 Q x) (x0 := x) (H0 := marks ms ++ H0) ops.toList E H _ (fitsOps_ok hf) h
    (fun E' H' y a hk hle hi' he' => ⟨y, E', H', ms, rfl, hle, hi', he', hk⟩) x act (.refl x) hi he
  exact wpIn_region_list (by simpa using this)

end Go.Proofs.YtakndgpdolfenaaGreat
end

/- The conditions of a whole code; functions from their bodies. -/
section
namespace Go.Proofs.YtakndgpdolfenaaGreat
variable {P : Program}

def fitsC (n : Nat) : Code → Bool
  | .region _ ops _ => fitsOps n ops.toList
  | .seq a b => fitsC n a && fitsC n b
  | .cond _ a b => fitsC n a && fitsC n b
  | .block _ c => fitsC n c
  | .loop c => fitsC n c
  | .scope c => fitsC n c
  | .rangeFunc _ ps a b => ps.all (· < n) && fitsC n a && fitsC n b
  | _ => true

/-- The triple, where the code's temporaries fit. -/
def V (C : Cfg) (c : Code) (E : Env) (H : Heap) (Q : PostQ) : Prop := fitsC C.n c = true → W C c E H Q

def vcC (C : Cfg) : Code → Env → Heap → PostQ → Prop
  | .skip, E, H, Q => Q .normal E H
  | .seq a b, E, H, Q => vcC C a E H fun e E' H' => match e with
    | .normal => vcC C b E' H' Q
    | .exit i => Q (.exit i) E' H'
    | .ret => Q .ret E' H'
    | _ => False
  | .cond c a b, E, H, Q => match st (ev E c) with
    | (p, .dat (.bool t)) => p ∧ (t = true → vcC C a E H Q) ∧ (t = false → vcC C b E H Q)
    | _ => False
  | .block id c, E, H, Q => vcC C c E H (blockQ id Q)
  | .exit id, E, H, Q => Q (.exit id) E H
  | .ret, E, H, Q => Q .ret E H
  | .region id ops d, E, H, Q => match d with
    | false => vcOps C.P ops.toList ops.toList E H fun E' H' => Q .normal E' H'
    | true => V C (.region id ops true) E H Q
  | .loop c, E, H, Q => V C (.loop c) E H Q
  | .rangeFunc f ps a b, E, H, Q => V C (.rangeFunc f ps a b) E H Q
  | _, _, _, _ => False

theorem W.cond' {C : Cfg} {E : Env} {H : Heap} {Q : PostQ} {c : Operand} {a b : Code} {t : Bool} {p : Prop} (hc : st (ev E c) = (p, .dat (.bool t))) (hp : p) (h1 : t = true → W C a E H Q) (h2 : t = false → W C b E H Q) :
    W C (.cond c a b) E H Q := by
  intro x act H0 ms hi he
  have h := st_ok (ev_ok he c) (by rw [hc]; exact hp)
  rw [hc] at h
  simp only [D, RdL] at h
  exact wpIn_cond_split h (fun e => h1 e x act H0 ms hi he) (fun e => h2 e x act H0 ms hi he)

theorem vcC_ok {C : Cfg} : ∀ (c : Code) (E : Env) (H : Heap) (Q : PostQ), fitsC C.n c = true → vcC C c E H Q → W C c E H Q
  | .skip, _, _, _, _, h => W.skip h
  | .seq a b, E, H, Q, hf, h => by
    simp only [fitsC, Bool.and_eq_true] at hf
    refine W.seq ((vcC_ok a E H _ hf.1 h).mono ?_)
    intro e E' H' hq
    cases e with
    | normal => exact vcC_ok b E' H' Q hf.2 hq
    | exit i => exact hq
    | ret => exact hq
    | goto l => exact hq
    | panic c => exact hq
    | outgrown => exact hq
  | .cond c a b, E, H, Q, hf, h => by
    simp only [fitsC, Bool.and_eq_true] at hf
    simp only [vcC] at h
    split at h
    · rename_i p t hst
      exact W.cond' hst h.1 (fun e => vcC_ok a E H Q hf.1 (h.2.1 e)) (fun e => vcC_ok b E H Q hf.2 (h.2.2 e))
    · exact h.elim
  | .block id c, E, H, Q, hf, h => W.block (vcC_ok c E H _ hf h)
  | .exit _, _, _, _, _, h => W.exit h
  | .ret, _, _, _, _, h => W.ret h
  | .region id ops d, E, H, Q, hf, h => by
    cases d with
    | false => exact W.region hf h
    | true => exact h hf
  | .loop c, _, _, _, hf, h => h hf
  | .rangeFunc _ _ _ _, _, _, _, hf, h => h hf
  | .scope _, _, _, _, _, h => h.elim
  | .label _, _, _, _, _, h => h.elim
  | .goto _, _, _, _, _, h => h.elim
  | .refuse _, _, _, _, _, h => h.elim

/-- What holds at a loop's head, and a round. -/
theorem V.loop {C : Cfg} {E : Env} {H : Heap} {Q : PostQ} {c : Code} (I : Nat → Env → Heap → Prop) (m : Nat) (h0 : I m E H)
    (hr : ∀ m E H, I m E H → vcC C c E H fun e E' H' => match e with
      | .normal => ∃ m', m' < m ∧ I m' E' H'
      | .exit i => Q (.exit i) E' H'
      | .ret => Q .ret E' H'
      | _ => False) : V C (.loop c) E H Q :=
  fun hf => W.loop I m h0 fun m E H hI => vcC_ok c E H _ hf (hr m E H hI)

def anyE : Env := fun _ => .any
def sets : List (Nat × A) → Env → Env
  | [], E => E
  | (t, a) :: r, E => upd (sets r E) t a
/-- The slots that a loop's rounds find as they were, and those that are given anew. -/
def headEnv (E : Env) (Lv : List Nat) (sl : List (Nat × A)) : Env := sets sl (sets (Lv.map fun t => (t, E t)) anyE)
def subH : Heap → Heap → Prop
  | [], _ => True
  | (t, e) :: r, H => hget t H = some e ∧ subH r (hdel t H)

theorem sets_weak {E : Env} : ∀ (l : List (Nat × A)) (F : Env), (∀ p ∈ l, E p.1 = p.2) → (∀ t, F t = .any ∨ F t = E t) → ∀ t, sets l F t = .any ∨ sets l F t = E t
  | [], F, _, hF, t => hF t
  | (s, a) :: r, F, hl, hF, t => by
    simp only [sets, upd]
    split
    · rename_i h; subst h; exact .inr (hl (t, a) (by simp)).symm
    · exact sets_weak r F (fun p hp => hl p (by simp [hp])) hF t

theorem EnvOK.weak {n : Nat} {ds : List Deferred} {x : X} {a : Act} {E F : Env} (h : EnvOK n ds x a E) (hw : ∀ t, F t = .any ∨ F t = E t) : EnvOK n ds x a F :=
  ⟨h.defers, h.size, fun t => by
    rcases hw t with h1 | h1
    · rw [h1]; simp [D]
    · rw [h1]; exact h.slot t⟩

theorem subH_inv {x : X} : ∀ {H H' H0 : Heap}, subH H H' → Inv x (H' ++ H0) → Inv x (H ++ H0)
  | [], H', H0, _, hi => hi.sub (List.sublist_append_right _ _)
  | (t, e) :: r, H', H0, h, hi => by
    have hp := hdel_perm (hget_app (H0 := H0) h.1)
    have hd : hdel t (H' ++ H0) = hdel t H' ++ H0 := by
      have : ∀ {K : Heap}, hget t K = some e → hdel t (K ++ H0) = hdel t K ++ H0 := by
        intro K
        induction K with
        | nil => intro h; simp [hget] at h
        | cons p r ih =>
          obtain ⟨s, e1⟩ := p
          simp only [hget, hdel, List.cons_append]
          split
          · intro _; rfl
          · intro h; simp [ih h]
      exact this h.1
    rw [hd] at hp
    have hi1 := hi.perm hp.symm
    -- the rest, then the entry again
    have hsub : ∃ K : Heap, K.Sublist (hdel t H' ++ H0) ∧ K.Perm (r ++ H0) := by
      have : ∀ (r : Heap) (K : Heap), subH r K → ∃ K' : Heap, K'.Sublist (K ++ H0) ∧ K'.Perm (r ++ H0) := by
        intro r
        induction r with
        | nil => intro K _; exact ⟨H0, List.sublist_append_right _ _, List.Perm.refl _⟩
        | cons p r ih =>
          intro K hK
          obtain ⟨s, e1⟩ := p
          obtain ⟨K', h1, h2⟩ := ih _ hK.2
          have hmem : ∀ {K K' : Heap} {e1 : Ent}, hget s K = some e1 → K'.Sublist (hdel s K ++ H0) → ∃ K2 : Heap, K2.Sublist (K ++ H0) ∧ K2.Perm ((s, e1) :: K') := by
            intro K
            induction K with
            | nil => intro _ _ h; simp [hget] at h
            | cons q K ihK =>
              obtain ⟨u, e2⟩ := q
              intro K' e1 hg hs
              simp only [hget] at hg
              simp only [hdel] at hs
              split at hg
              · rename_i hu
                subst hu
                simp only [if_true] at hs
                simp only [Option.some.injEq] at hg
                subst hg
                exact ⟨(u, e2) :: K', by simpa using hs, List.Perm.refl _⟩
              · rename_i hu
                simp only [hu, if_false, List.cons_append] at hs
                cases hs with
                | cons _ hs' =>
                  obtain ⟨K2, k1, k2⟩ := ihK hg hs'
                  exact ⟨K2, show List.Sublist K2 ((u, e2) :: (K ++ H0)) from k1.cons (u, e2), k2⟩
                | cons_cons _ hs' =>
                  obtain ⟨K2, k1, k2⟩ := ihK hg hs'
                  exact ⟨(u, e2) :: K2, show List.Sublist ((u, e2) :: K2) ((u, e2) :: (K ++ H0)) from k1.cons_cons (u, e2), (k2.cons _).trans (List.Perm.swap _ _ _)⟩
          obtain ⟨K2, k1, k2⟩ := hmem hK.1 h1
          exact ⟨K2, k1, k2.trans (show List.Perm ((s, e1) :: K') ((s, e1) :: (r ++ H0)) from h2.cons (s, e1))⟩
      exact this r _ h.2
    obtain ⟨K, k1, k2⟩ := hsub
    exact (hi1.sub (k1.cons_cons (t, e))).perm (show List.Perm ((t, e) :: (r ++ H0)) ((t, e) :: K) from (k2.cons (t, e)).symm)

/-- A loop whose state is told slot by slot. -/
theorem V.for {C : Cfg} {E : Env} {H : Heap} {Q : PostQ} {c : Code} {ι : Type} (Lv : List Nat) (sl : ι → List (Nat × A)) (Hs : ι → Heap) (I : ι → Prop) (μ : ι → Nat) (i0 : ι)
    (h0 : I i0 ∧ (∀ p ∈ sl i0, E p.1 = p.2) ∧ subH (Hs i0) H)
    (hr : ∀ i, I i → vcC C c (headEnv E Lv (sl i)) (Hs i) fun e E' H' => match e with
      | .normal => ∃ j, I j ∧ μ j < μ i ∧ (∀ p ∈ sl j, E' p.1 = p.2) ∧ (∀ t ∈ Lv, E' t = E t) ∧ subH (Hs j) H'
      | .exit i => Q (.exit i) E' H'
      | .ret => Q .ret E' H'
      | _ => False) : V C (.loop c) E H Q := by
  intro hf x act H0 ms hi he
  have hhead : ∀ {i : ι} {E' : Env}, (∀ p ∈ sl i, E' p.1 = p.2) → (∀ t ∈ Lv, E' t = E t) → ∀ t, headEnv E Lv (sl i) t = .any ∨ headEnv E Lv (sl i) t = E' t := by
    intro i E' h1 h2
    refine sets_weak _ _ h1 (sets_weak _ _ ?_ fun t => .inl rfl)
    intro p hp
    obtain ⟨t, ht, rfl⟩ := List.mem_map.1 hp
    exact h2 t ht
  have key : W C (.loop c) (headEnv E Lv (sl i0)) (Hs i0) Q := by
    refine W.loop (fun m E' H' => ∃ i, I i ∧ μ i = m ∧ E' = headEnv E Lv (sl i) ∧ H' = Hs i) (μ i0) ⟨i0, h0.1, rfl, rfl, rfl⟩ ?_
    rintro m _ _ ⟨i, hI, rfl, rfl, rfl⟩
    have hw := vcC_ok c _ _ _ hf (hr i hI)
    intro x act H0 ms hi he
    refine wpIn_mono (hw x act H0 ms hi he) ?_
    rintro e a' w' ⟨y, E', H', ms', rfl, hle, hi', he', hq⟩
    cases e with
    | normal =>
      obtain ⟨j, h1, h2, h3, h4, h5⟩ := hq
      exact ⟨y, _, _, ms', rfl, hle, subH_inv h5 hi', he'.weak (hhead h3 h4), μ j, h2, j, h1, rfl, rfl, rfl⟩
    | exit k => exact ⟨y, E', H', ms', rfl, hle, hi', he', hq⟩
    | ret => exact ⟨y, E', H', ms', rfl, hle, hi', he', hq⟩
    | goto k => exact hq.elim
    | panic k => exact hq.elim
    | outgrown => exact hq.elim
  exact key x act H0 ms (subH_inv h0.2.2 hi) (he.weak (hhead h0.2.1 fun _ _ => rfl))

/-- The closed fact on an element type. -/
def elB (P : Program) (e : TypeId) : Bool := match P.info? e with
  | some i => match i.zero with
    | some z => z.cells.size == i.size && decide (0 < i.size) && decide (i.bytes ≤ 4096)
    | none => false
  | none => false
theorem elOK_of {e : TypeId} (h : elB P e = true) : elOK P e := by
  unfold elB at h
  split at h <;> try (simp at h; done)
  rename_i i hi
  split at h <;> try (simp at h; done)
  rename_i z hz
  simp only [Bool.and_eq_true, beq_iff_eq, decide_eq_true_eq] at h
  exact ⟨i, z, hi, hz, h.1.1, h.1.2, h.2⟩

/-! ### Functions -/
def resA (P : Program) (E : Env) (H : Heap) : ResultVar → Option (Prop × A)
  | .tmp t => some (True, E t)
  | .cell a t => match E a with
    | .ptr g b off => match hget g H with
      | some (.box b' cs) => an (b' = b) (cellsA P t off cs)
      | _ => none
    | .rptr ls => loadA P t (.rptr ls)
    | _ => none
def ress (P : Program) (E : Env) (H : Heap) : List ResultVar → Option (Prop × List A)
  | [] => some (True, [])
  | r :: rs => match resA P E H r, ress P E H rs with
    | some (p, a), some (q, az) => some (p ∧ q, a :: az)
    | _, _ => none
def RetV (P : Program) (rs : List ResultVar) (K : A → Heap → Prop) : PostQ := fun e E H =>
  match e with
  | .exit _ => False
  | .goto _ => False
  | .panic _ => False
  | .outgrown => False
  | _ => match ress P E H rs with
    | some (p, az) => p ∧ (match az with
      | [a] => K a H
      | _ => K (.tuple az) H)
    | none => False

def resSem (tmps : Array Value) : ResultVar → Sem Value
  | .tmp t => pure (tmps.getD t Go.undef)
  | .cell a t => do loadVar t (← asAddr (tmps.getD a Go.undef))

theorem resA_ok {n : Nat} {ds : List Deferred} {x : X} {act : Act} {E : Env} {H H0 : Heap} (he : EnvOK n ds x act E) (hi : Inv x (H ++ H0)) {r : ResultVar} {p : Prop} {a : A} (h : resA P E H r = some (p, a)) (hp : p) :
    ∃ v, (resSem act.tmps r).run P x.w = .ok v x.w ∧ D x a v := by
  cases r with
  | tmp t =>
    simp only [resA, Option.some.injEq, Prod.mk.injEq] at h
    obtain ⟨_, rfl⟩ := h
    exact ⟨_, rfl, he.slot t⟩
  | cell s t =>
    simp only [resA] at h
    have hs := he.slot s
    split at h <;> try (simp at h; done)
    · rename_i g b off hE
      rw [hE] at hs
      simp only [D] at hs
      split at h <;> try (simp at h; done)
      rename_i b' cs hg
      obtain ⟨q, h1, rfl⟩ := an_some h
      obtain ⟨rfl, hq⟩ := hp
      obtain ⟨c, ty, hh, hdc⟩ := hget_sat hi hg
      obtain ⟨u, k1, k2⟩ := loadCells_ok hh (k := 0) hdc (fun j v hj => by simpa using hj) h1 hq
      exact ⟨u, by simp only [resSem, hs, asAddr, Sem.run_bind, Sem.run_pure, Result.andThen_ok]; simpa using k1, k2⟩
    · rename_i ls hE
      rw [hE] at hs
      obtain ⟨u, k1, k2⟩ := loadA_ok h hp hs
      simp only [D] at hs
      obtain ⟨b, off, e, _⟩ := hs
      refine ⟨u, ?_, k2⟩
      rw [e] at k1
      simp only [resSem, e]
      simpa [asAddr, Instr.loadAt, Instr.sureAddr] using k1

theorem ress_ok {n : Nat} {ds : List Deferred} {x : X} {act : Act} {E : Env} {H H0 : Heap} (he : EnvOK n ds x act E) (hi : Inv x (H ++ H0)) : ∀ {rs : List ResultVar} {p : Prop} {az : List A}, ress P E H rs = some (p, az) → p →
    ∃ vs, (rs.mapM (resSem act.tmps)).run P x.w = .ok vs x.w ∧ Ds x az vs
  | [], p, az, h, _ => by
    simp only [ress, Option.some.injEq, Prod.mk.injEq] at h
    obtain ⟨_, rfl⟩ := h
    exact ⟨[], by simp, by simp [Ds]⟩
  | r :: rs, p, az, h, hp => by
    simp only [ress] at h
    split at h <;> try (simp at h; done)
    rename_i q a q' az' h1 h2
    simp only [Option.some.injEq, Prod.mk.injEq] at h
    obtain ⟨rfl, rfl⟩ := h
    obtain ⟨v, k1, k2⟩ := resA_ok he hi h1 hp.1
    obtain ⟨vs, k3, k4⟩ := ress_ok he hi h2 hp.2
    refine ⟨v :: vs, ?_, by simp only [Ds]; exact ⟨k2, k4⟩⟩
    rw [List.mapM_cons, Sem.run_bind, k1]
    simp only [Result.andThen_ok, Sem.run_bind, k3, Sem.run_pure]

theorem results_ok {fn : Func} {x : X} {tmps vs : _} (h : (fn.results.toList.mapM (resSem tmps)).run P x.w = .ok vs x.w) :
    (results fn tmps).run P x.w = .ok (if h : vs.length = 1 then vs[0] else .tuple vs.toArray) x.w := by
  have e : results fn tmps = (do let vs ← fn.results.mapM (resSem tmps); pure (if h : vs.size = 1 then vs[0] else .tuple vs) : Sem Value) := rfl
  rw [e, Array.mapM_eq_mapM_toList]
  simp only [Sem.run_bind, Sem.run_map, h]
  simp

def envOf (az : List A) : Env := fun t => (az[t]?).getD .undef

/-- On the way out: the marks are taken. -/
theorem leaves_marks {fn : Func} {tmps : Array Value} {R : Ending → World → Prop} {H H0 : Heap} : ∀ (ms : List Nat) (y : X), Inv y (H ++ (marks ms ++ H0)) →
    (∀ y' : X, y.le y' → Inv y' (H ++ H0) → ∃ v, (results fn tmps).run P y'.w = .ok v y'.w ∧ R (.returned v) y'.w) → LeavesInM Fence.wide 0 P fn tmps R (ms.map mk) .returning y.w
  | [], y, hi, h => h y (.refl y) (by simpa [marks] using hi)
  | m :: ms, y, hi, h => by
    have hperm : ((0, Ent.raw m (.deferred (some []))) :: (H ++ (marks ms ++ H0))).Perm (H ++ (marks (m :: ms) ++ H0)) := by
      simp only [marks, List.map_cons, List.cons_append]
      exact List.perm_middle.symm
    have hi1 := hi.perm hperm
    have hs : y.w.heap[m]? = some (.deferred (some [])) := hi1.sat (0, .raw m _) (by simp)
    have hown := hi1.own (0, .raw m (.deferred (some []))) (by simp) m rfl
    let w' : World := { y.w with heap := y.w.heap.setIfInBounds m (.deferred none) }
    have hold : ∀ b, b ≠ m → w'.heap[b]? = y.w.heap[b]? := fun b hb => by simp [w', Array.getElem?_setIfInBounds_ne (Ne.symm hb)]
    have hle : y.le ⟨w', y.ok⟩ := ⟨fun b hb => ⟨hb, hold b fun e => hown.2 (e ▸ hb)⟩, rfl, rfl, rfl, by simp [w'], Nat.le_refl _⟩
    have hi2 : Inv ⟨w', y.ok⟩ (H ++ (marks ms ++ H0)) := by
      refine (hi1.sub (List.sublist_cons_self _ _)).step hle (fun b hb => by have := hi.bd b hb; simpa [w'] using this) (fun b hb => .inl hb) fun p hpp b hb => hold b fun e => ?_
      subst e
      exact (List.pairwise_cons.1 hi1.apart).1 p hpp b rfl hb
    refine ⟨by simp, .inl ⟨m, w', rfl, ?_, leaves_marks ms _ hi2 fun y' hle' hi' => h y' (hle.trans hle') hi'⟩⟩
    simp only [Instr.takeDeferred, Sem.run_bind, getObj, Sem.run, hs, Result.andThen_ok, setObj, Sem.run_pure]
    rfl

theorem callS_ofW {g : FuncId} {fn : Func} {c : Code} {n : Nat} {rs : List ResultVar} {az : List A} {H : Heap} {K : A → Heap → Prop} (hf : P.funcs[g]? = some fn) (hb : fn.body = some c) (hn : fn.ntmps = n)
    (hr : fn.results = rs.toArray) (hnm : (fn.name == "runtime.NumGoroutine") = false) (hl : az.length ≤ n) (hfit : fitsC n c = true)
    (h : W ⟨P, none, n⟩ c (envOf az) H (RetV P rs K)) : CallS P g az H K := by
  refine ⟨⟨fn, hf, by rw [hb]; rfl, hnm⟩, fun x args H0 hi hd => ?_⟩
  have hargs := hd.length
  simp only [Array.length_toList] at hargs
  refine (callsIn_wide (n := 0)).1 (callsIn_of_wp_marks hf hb trivial ?_)
  have he : EnvOK n [] x { tmps := args ++ Array.replicate (fn.ntmps - args.size) Go.undef, defers := [] } (envOf az) := by
    refine ⟨rfl, by simp; omega, fun t => ?_⟩
    simp only [envOf, Array.getD_eq_getD_getElem?, Array.getElem?_append]
    by_cases ht : t < args.size
    · simp only [ht, if_true]
      obtain ⟨a, ha⟩ : ∃ a, az[t]? = some a := ⟨_, List.getElem?_eq_getElem (by omega)⟩
      obtain ⟨v, h1, h2⟩ := hd.at ha
      simp only [Array.getElem?_toList] at h1
      simp [ha, h1, h2]
    · simp only [ht, if_false]
      have hx : az[t]? = none := List.getElem?_eq_none (by omega)
      rw [hx]
      have : ((Array.replicate (fn.ntmps - args.size) Go.undef)[t - args.size]?).getD Go.undef = Go.undef := by
        by_cases h2 : t - args.size < fn.ntmps - args.size
        · simp [Array.getElem?_replicate, h2]
        · simp [Array.getElem?_replicate, h2]
      simp [this, D]
  refine wpIn_mono (h x _ H0 [] hi he) ?_
  rintro e a w' ⟨y0, E', H', ms, rfl, hle0, hi0, he0, hq⟩
  have key : (match ress P E' H' rs with
    | some (p, az) => p ∧ (match az with
      | [a] => K a H'
      | _ => K (.tuple az) H')
    | none => False) → LeavesInM Fence.wide 0 P fn a.tmps (fun e w' => ∃ y v r H'', e = .returned v ∧ y.w = w' ∧ x.le y ∧ Inv y (H'' ++ H0) ∧ D y r v ∧ K r H'') a.defers .returning y0.w := by
    intro hq
    rw [he0.defers]
    refine leaves_marks ms y0 hi0 fun y hle1 hi' => ?_
    have hle := hle0.trans hle1
    have he' := he0.mono hle1
    split at hq
    · rename_i p az' hres
      obtain ⟨hp, hk⟩ := hq
      obtain ⟨vs, k1, k2⟩ := ress_ok he' hi' hres hp
      have k3 := results_ok (fn := fn) (by rw [hr]; simpa using k1)
      refine ⟨_, k3, ?_⟩
      split at hk
      · rename_i r
        obtain ⟨v, rfl, hv⟩ := k2.one
        exact ⟨y, v, r, H', by simp, rfl, hle, hi', hv, hk⟩
      · rename_i hne
        have hlen : vs.length ≠ 1 := by
          intro h1
          rw [k2.length] at h1
          obtain ⟨r, rfl⟩ := List.length_eq_one_iff.1 h1
          exact hne r rfl
        exact ⟨y, .tuple vs.toArray, .tuple az', H', by simp [hlen], rfl, hle, hi', by simp only [D]; exact ⟨_, rfl, by simpa using k2⟩, hk⟩
    · exact hq.elim
  cases e with
  | normal => exact key hq
  | ret => exact key hq
  | exit i => exact hq.elim
  | goto l => exact hq.elim
  | panic c => exact hq.elim
  | outgrown => exact hq.elim

theorem callS_of {g : FuncId} {fn : Func} {c : Code} {n : Nat} {rs : List ResultVar} {az : List A} {H : Heap} {K : A → Heap → Prop} (hf : P.funcs[g]? = some fn) (hb : fn.body = some c) (hn : fn.ntmps = n)
    (hr : fn.results = rs.toArray) (hnm : (fn.name == "runtime.NumGoroutine") = false) (hl : az.length ≤ n) (hfit : fitsC n c = true)
    (h : vcC ⟨P, none, n⟩ c (envOf az) H (RetV P rs K)) : CallS P g az H K :=
  callS_ofW hf hb hn hr hnm hl hfit (vcC_ok c _ H _ hfit h)

/-- What is owned behind a call and isn't wanted is let go. -/
theorem CallS.drop {g : FuncId} {az : List A} {H : Heap} {K K' : A → Heap → Prop} (h : CallS P g az H K) (hk : ∀ r H', K r H' → ∃ H'' : Heap, H''.Sublist H' ∧ K' r H'') : CallS P g az H K' := by
  refine ⟨h.1, fun x args H0 hi hd => (h.2 x args H0 hi hd).mono ?_⟩
  rintro _ _ ⟨y, v, r, H', a, b, c, d, e, f⟩
  obtain ⟨H'', h1, h2⟩ := hk r H' f
  exact ⟨y, v, r, H'', a, b, c, d.sub (h1.append (List.Sublist.refl _)), e, h2⟩

theorem callFn_of {g : FuncId} {fn : Func} {c : Code} {n : Nat} {rs : List ResultVar} {az : List A} {r : A} (hf : P.funcs[g]? = some fn) (hb : fn.body = some c) (hn : fn.ntmps = n)
    (hr : fn.results = rs.toArray) (hnm : (fn.name == "runtime.NumGoroutine") = false) (hl : az.length ≤ n) (hfit : fitsC n c = true)
    (h : vcC ⟨P, none, n⟩ c (envOf az) [] (RetV P rs fun r' _ => r' = r)) : CallFn P g az r :=
  (callS_of hf hb hn hr hnm hl hfit h).drop fun _ _ e => ⟨[], List.nil_sublist _, e, rfl⟩

end Go.Proofs.YtakndgpdolfenaaGreat
end

/- What simp needs to reckon the conditions of a code. -/
section
namespace Go.Proofs.YtakndgpdolfenaaGreat

attribute [simp] stR nilsA hasNil packB mvA nilcA cmpA isKL leq mget mput vcC vcOps vcOp pureA callA heapF ev kA st an an1 an2 evl evlp evs evp opt optp gq put upd envOf loadA fieldA indexA lenA binA boxA asL flatA buildA fillA splice packA toLs pickA unA partA cellsA
  sets headEnv subH anyE fldA idxA extA nilA maxA minA convA boundA sliceA builtinA bslA rowsA one1 blockQ RetV ress resA

attribute [simp] fitLs fitL leqs leq1
attribute [simp] rl_map rl_take rl_drop rl_app rl_nil rl_cons

/-! Told with proofs that aren't by definition: else simp can't use the congruences below where memory turns. -/
@[simp] theorem happ_s (t : Nat) (e : Ent) (H : Heap) : happ (some (t, e)) H = (match hget t H with | some _ => hset t e H | none => (t, e) :: H) := id rfl
@[simp] theorem happ_n (H : Heap) : happ none H = H := id rfl
@[simp] theorem hget_n (g : Nat) : hget g [] = none := id rfl
@[simp] theorem hget_c (g t : Nat) (e : Ent) (r : Heap) : hget g ((t, e) :: r) = if t = g then some e else hget g r := id rfl
@[simp] theorem hset_n (g : Nat) (e : Ent) : hset g e [] = [] := id rfl
@[simp] theorem hset_c (g t : Nat) (e e' : Ent) (r : Heap) : hset g e ((t, e') :: r) = if t = g then (t, e) :: r else (t, e') :: hset g e r := id rfl
@[simp] theorem hdel_n (g : Nat) : hdel g [] = [] := id rfl
@[simp] theorem hdel_c (g t : Nat) (e' : Ent) (r : Heap) : hdel g ((t, e') :: r) = if t = g then r else (t, e') :: hdel g r := id rfl
/-! What is in the rest stays as it is: simp takes such a rule only where it has turned something: hence '(True ∧ True) = z'. -/
@[congr] theorem CallS_congr {P : Program} {g : FuncId} {az az' : List A} {H H' : Heap} {K : A → Heap → Prop} {z : Prop} (_ : (True ∧ True) = z) (h1 : az = az') (h2 : H = H') : CallS P g az H K = CallS P g az' H' K := by rw [h1, h2]
@[congr] theorem V_congr {C : Cfg} {c : Code} {E : Env} {H H' : Heap} {Q : PostQ} {z : Prop} (_ : (True ∧ True) = z) (h : H = H') : V C c E H Q = V C c E H' Q := by rw [h]

@[congr] theorem vcC_congr {C : Cfg} {c : Code} {E : Env} {H H' : Heap} {Q : PostQ} {z : Prop} (_ : (True ∧ True) = z) (h : H = H') : vcC C c E H Q = vcC C c E H' Q := by rw [h]
@[congr] theorem vcOps_congr {P : Program} {ops l : List Oper} {E : Env} {H H' : Heap} {K : Env → Heap → Prop} {z : Prop} (_ : (True ∧ True) = z) (h : H = H') : vcOps P ops l E H K = vcOps P ops l E H' K := by rw [h]
@[congr] theorem vcOp_congr {P : Program} {op : Op} {d : Option Nat} {E : Env} {H H' : Heap} {K : Env → Heap → Prop} {z : Prop} (_ : (True ∧ True) = z) (h : H = H') : vcOp P op d E H K = vcOp P op d E H' K := by rw [h]
@[congr] theorem blockQ_congr {id : Nat} {Q : PostQ} {e e' : Exit} {E : Env} {H : Heap} {z : Prop} (_ : (True ∧ True) = z) (h : e = e') : blockQ id Q e E H = blockQ id Q e' E H := by rw [h]

@[simp] theorem inR_i64 (n : Int) : inR .i64 n ↔ -9223372036854775808 ≤ n ∧ n ≤ 9223372036854775807 := by
  unfold inR
  simp only [IntKind.wrap, IntKind.signed, IntKind.bits]
  simp
  omega
@[simp] theorem inR_i32 (n : Int) : inR .i32 n ↔ -2147483648 ≤ n ∧ n ≤ 2147483647 := by
  unfold inR
  simp only [IntKind.wrap, IntKind.signed, IntKind.bits]
  simp
  omega
@[simp] theorem inR_u8 (n : Int) : inR .u8 n ↔ 0 ≤ n ∧ n ≤ 255 := by
  unfold inR
  simp only [IntKind.wrap, IntKind.signed, IntKind.bits]
  simp
  omega

end Go.Proofs.YtakndgpdolfenaaGreat
end

/- What is owned, seen as data; steps in ways of their own: slices built as one's own, slices without room, slices given up. -/
section
namespace Go.Proofs.YtakndgpdolfenaaGreat
variable {P : Program}
/-! ### Data of what is owned -/
def unD : A → L
  | .dat l => l
  | .nils => .sl []
  | _ => .int .i64 0
def isD : A → Bool
  | .dat _ => true
  | .nils => true
  | _ => false
def rowsD (rows : List (List A)) : List (List L) := rows.map (·.map unD)
def allD (rows : List (List A)) : Bool := rows.all (·.all isD)
@[simp] theorem rowsD_map (xs : List (List L)) : rowsD (xs.map (·.map A.dat)) = xs := by
  simp only [rowsD, List.map_map]
  conv => rhs; rw [← List.map_id xs]
  apply List.map_congr_left
  intro r _
  simp only [Function.comp, List.map_map, id]
  conv => rhs; rw [← List.map_id r]
  rfl
@[simp] theorem allD_map (xs : List (List L)) : allD (xs.map (·.map A.dat)) = true := by simp [allD, isD]
@[simp] theorem rowsD_nil : rowsD [] = [] := rfl
@[simp] theorem rowsD_cons (r : List A) (rs : List (List A)) : rowsD (r :: rs) = r.map unD :: rowsD rs := rfl
@[simp] theorem rowsD_app (r rs : List (List A)) : rowsD (r ++ rs) = rowsD r ++ rowsD rs := by simp [rowsD]
@[simp] theorem allD_nil : allD [] = true := rfl
@[simp] theorem allD_cons (r : List A) (rs : List (List A)) : allD (r :: rs) = (r.all isD && allD rs) := rfl
@[simp] theorem allD_app (r rs : List (List A)) : allD (r ++ rs) = (allD r && allD rs) := by simp [allD]
@[simp] theorem unD_dat (l : L) : unD (.dat l) = l := rfl
@[simp] theorem unD_nils : unD .nils = .sl [] := rfl
@[simp] theorem isD_dat (l : L) : isD (.dat l) = true := rfl
@[simp] theorem isD_nils : isD .nils = true := rfl

theorem unD_ok {x : X} {a : A} {v : Value} (h : isD a = true) (hv : D x a v) : RdL x (unD a) v := by
  cases a <;> simp only [isD, Bool.false_eq_true] at h
  · simpa [unD, D] using hv
  · simp only [D] at hv; subst hv; simp [unD, RdL]

theorem unDs_ok {x : X} : ∀ {r : List A} {vs : List Value}, r.all isD = true → Ds x r vs → RdLs x (r.map unD) vs
  | [], [], _, _ => by simp [RdLs]
  | a :: r, v :: vs, h, hd => by
    simp only [List.all_cons, Bool.and_eq_true] at h
    simp only [Ds] at hd
    simp only [List.map_cons, RdLs]
    exact ⟨unD_ok h.1 hd.1, unDs_ok h.2 hd.2⟩
  | [], _ :: _, _, h => by simp [Ds] at h
  | _ :: _, [], _, h => by simp [Ds] at h

theorem rdCells_vals {x : X} {b : Nat} (hok : x.ok b) : ∀ (ls : List L) (vs : List Value) (off : Nat), RdLs x ls vs → (∀ j v, vs[j]? = some v → x.w.cell? ⟨b, off + j, none⟩ = some v) → RdCells x ls b off
  | [], _, _, _, _ => by simp [RdCells]
  | l :: ls, [], _, h, _ => by simp [RdLs] at h
  | l :: ls, v :: vs, off, h, hc => by
    simp only [RdLs] at h
    simp only [RdCells]
    refine ⟨⟨hok, v, by simpa using hc 0 v (by simp), h.1⟩, rdCells_vals hok ls vs (off + 1) h.2 fun j u hj => ?_⟩
    have := hc (j + 1) u (by simpa using hj)
    rwa [show off + 1 + j = off + (j + 1) by omega]

/-- An owned slice of data, when its block is seen as immutable. -/
theorem seq_data {x : X} {h : Value} {e sz : Nat} {rows : List (List A)} (hs : Ent.sat x (.seq h e sz rows)) (hok : ∀ b, h.ownBlock = some b → x.ok b) (hd : allD rows = true) : RdL x (.sl (rowsD rows)) h := by
  have hc := cells_own hs
  simp only [RdL]
  rcases hc with ⟨rfl, rfl⟩ | ⟨b, off, cap, news, rfl, h1, h2⟩
  · exact .inl ⟨rfl, rfl⟩
  · have hcap : rows.length ≤ cap := by
      obtain ⟨xs, ho, _⟩ := hs
      rcases ho.2 with ⟨e1, _⟩ | ⟨g, cap', cur, e1, _, _, h5, _⟩
      · cases e1
      · cases e1; exact h5
    refine .inr (.inl ⟨b, off, cap, by simp [rowsD], by simpa [rowsD] using hcap, rdRows_of_cells _ _ _ ?_⟩)
    have hfl : (rowsD rows).flatten = rows.flatten.map unD := by simp [rowsD, List.map_flatten]
    rw [hfl]
    refine rdCells_vals (hok b rfl) _ news off (unDs_ok ?_ h1) h2
    simp only [allD, List.all_eq_true] at hd
    rw [List.all_eq_true]
    intro a ha
    obtain ⟨r, hr, ha⟩ := List.mem_flatten.1 ha
    exact hd r hr a ha

/-- All that is owned is given up: its blocks are seen as immutable. -/
theorem Inv.freeze {x : X} {H H0 : Heap} (hi : Inv x (H ++ H0)) : ∃ y : X, y.w = x.w ∧ x.le y ∧ Inv y H0 ∧ (∀ b, (∃ p ∈ H, p.2.own b) → y.ok b) ∧ ∀ b, y.ok b → x.ok b ∨ ∃ p ∈ H, p.2.own b := by
  let y : X := ⟨x.w, fun b => x.ok b ∨ ∃ p ∈ H, p.2.own b⟩
  have hle : x.le y := ⟨fun b hb => ⟨.inl hb, rfl⟩, rfl, rfl, rfl, Nat.le_refl _, Nat.le_refl _⟩
  refine ⟨y, rfl, hle, ⟨?_, ?_, ?_, ?_⟩, fun b hb => .inr hb, fun b hb => hb⟩
  · rintro b (hb | ⟨p, hp, ho⟩)
    · exact hi.bd b hb
    · exact (hi.own p (List.mem_append.2 (.inl hp)) b ho).1
  · intro p hp
    exact Ent.sat_step hle (fun _ _ => rfl) (hi.sat p (List.mem_append.2 (.inr hp)))
  · intro p hp b hb
    have h1 := hi.own p (List.mem_append.2 (.inr hp)) b hb
    refine ⟨h1.1, ?_⟩
    rintro (h2 | ⟨q, hq, ho⟩)
    · exact h1.2 h2
    · exact (List.pairwise_append.1 hi.apart).2.2 q hq p hp b ho hb
  · exact (List.pairwise_append.1 hi.apart).2.1


/-! ### Slices that are built as one's own, cell by cell -/
def rowsW (sz : Nat) : Nat → List (Nat × A) → Option (List (List A))
  | _, [] => some []
  | k, (i, a) :: r => if i = k then (match flatA a with
      | some cs => if cs.length = sz then (rowsW sz (k + 1) r).map (cs :: ·) else none
      | none => none) else none
def evsR (E : Env) (ps : List (Nat × Operand)) : List (Nat × A) := ps.map fun (i, o) => (i, (stR (ev E o)).2)
def evpR (E : Env) (ps : List (Nat × Operand)) : Prop := ∀ p ∈ ps, (stR (ev E p.2)).1
theorem partsR_ok {n : Nat} {ds : List Deferred} {x : X} {act : Act} {E : Env} (he : EnvOK n ds x act E) : ∀ (ps : List (Nat × Operand)), evpR E ps → PartsOK x (evsR E ps) (ps.map fun (i, o) => (i, act.eval o))
  | [], _ => by simp [evsR, PartsOK]
  | (i, o) :: r, h => by
    simp only [evsR, List.map_cons, PartsOK, true_and]
    exact ⟨stR_ok (ev_ok he o) (h (i, o) (by simp)), partsR_ok he r fun p hp => h p (by simp [hp])⟩
theorem rowsW_ok {x : X} {sz : Nat} : ∀ (ps : List (Nat × A)) (qs : List (Nat × Value)) (k : Nat) (rows : List (List A)), rowsW sz k ps = some rows → PartsOK x ps qs →
    ∃ vs : List Value, qs = (vs.zipIdx k).map (fun (v, i) => (i, v)) ∧ vs.length = ps.length ∧ rows.length = ps.length ∧ (∀ v ∈ vs, v.cells.size = sz) ∧ (∀ r ∈ rows, r.length = sz) ∧ Ds x rows.flatten (vs.map (·.cells.toList)).flatten
  | [], [], k, rows, h, _ => by
    simp only [rowsW, Option.some.injEq] at h
    subst h
    exact ⟨[], by simp [Ds]⟩
  | [], _ :: _, _, _, _, hp => by simp [PartsOK] at hp
  | _ :: _, [], _, _, _, hp => by simp [PartsOK] at hp
  | (i, a) :: r, (j, v) :: s, k, rows, h, hp => by
    simp only [PartsOK] at hp
    obtain ⟨rfl, hv, hr⟩ := hp
    unfold rowsW at h
    split at h <;> try (simp at h; done)
    rename_i hik
    subst hik
    split at h <;> try (simp at h; done)
    rename_i cs hcs
    split at h <;> try (simp at h; done)
    rename_i hl
    simp only [Option.map_eq_some_iff] at h
    obtain ⟨rows', h1, rfl⟩ := h
    obtain ⟨vs, e1, e2, e3, e4, e6, e5⟩ := rowsW_ok r s (i + 1) rows' h1 hr
    have hd := flatA_ok hcs hv
    have hlc := hd.length
    refine ⟨v :: vs, by simp [e1, List.zipIdx_cons], by simp [e2], by simp [e3], ?_, ?_, ?_⟩
    · intro u hu
      rcases List.mem_cons.1 hu with rfl | hu
      · simpa [hl] using hlc
      · exact e4 u hu
    · intro q hq
      rcases List.mem_cons.1 hq with rfl | hq
      · exact hl
      · exact e6 q hq
    · simp only [List.flatten_cons, List.map_cons]
      exact hd.append e5
/-- A slice that is built, as one's own. -/
def bldF (P : Program) (E : Env) (u : Value) (τ : Nat) : Op → Option (Prop × A × Option (Nat × Ent))
  | .buildSlice t n ps => match slT P t with
    | some e => if n = ps.toList.length ∧ 0 ≤ n then (match rowsW (szT P e) 0 (evsR E ps.toList) with
      | some rows => some (evpR E ps.toList ∧ tk P e ≠ 0 ∧ 0 < szT P e ∧ n * szT P e ≤ 16777216 ∧ ((P.info? e).bind (·.zero)).isSome = true, .own τ u, some (τ, .seq u e (szT P e) rows))
      | none => none) else none
    | none => none
  | _ => none
theorem flatLenW {sz : Nat} : ∀ (rows : List (List A)), (∀ r ∈ rows, r.length = sz) → rows.flatten.length = rows.length * sz
  | [], _ => by simp
  | r :: rs, h => by
    simp only [List.flatten_cons, List.length_append, List.length_cons, flatLenW rs (fun q hq => h q (by simp [hq])), h r (by simp), Nat.add_mul]
    omega
theorem bldF_ok {o : Oper} {E : Env} {τ : Nat} (h : ∀ u, ∃ p a ch, bldF P E u τ o.op = some (p, a, ch) ∧ p) {n : Nat} {ds : List Deferred} {x : X} {act : Act} {H H0 : Heap}
    (hi : Inv x (H ++ H0)) (he : EnvOK n ds x act E) :
    ∃ u v y p a ch, bldF P E u τ o.op = some (p, a, ch) ∧ (execOp act.eval o).run P x.w = .ok (.value v) y.w ∧ x.le y ∧ Inv y (happ ch H ++ H0) ∧ D y a v := by
  obtain ⟨dst, op, type, pos, after, guard⟩ := o
  obtain ⟨p0, a0, c0, hh, hp0⟩ := h .nilIface
  have hh' := hh
  cases op <;> simp only [bldF] at hh <;> try (simp at hh; done)
  rename_i t len ps
  split at hh <;> try (simp at hh; done)
  rename_i e he'
  split at hh <;> try (simp at hh; done)
  rename_i hlen
  split at hh <;> try (simp at hh; done)
  rename_i rows hrows
  simp only [Option.some.injEq, Prod.mk.injEq] at hh
  obtain ⟨rfl, _, _⟩ := hh
  obtain ⟨h0, h1, hpos, h2, h3⟩ := hp0
  have hq : PartsOK x (evsR E ps.toList) (ps.map fun (i, y) => (i, act.eval y)).toList := by simpa using partsR_ok he ps.toList h0
  obtain ⟨vs, e1, e2, e3, e4, e6, e5⟩ := rowsW_ok _ _ 0 rows hrows hq
  have hpl : (evsR E ps.toList).length = ps.toList.length := by simp [evsR]
  rw [hpl] at e2 e3
  obtain ⟨z, hz⟩ := Option.isSome_iff_exists.1 h3
  obtain ⟨i, hinf⟩ := tk_info h1
  rw [hinf] at hz
  simp only [Option.bind_some] at hz
  have hzv : ∀ w, (zeroValue e).run P w = .ok z w := fun w => by simp [zeroValue, run_typeInfo w hinf, hz]
  let z0 : Array Value := if len * szT P e = 0 then #[] else z.cells
  let cv : Array Value := (Array.range (len * szT P e)).map (z0[· % z0.size]!)
  obtain ⟨ov, k1, k2⟩ := fill_seq (szT P e) vs 0 cv e4 (by simp [cv, e2, hlen.1])
  simp only [Nat.zero_mul, List.take_zero, List.nil_append] at k2
  have hov : Ds x rows.flatten ov.toList := by rw [k2]; exact e5
  have hle := X.mk'_le x (.cells ov e) hi.bd
  have hlr : rows.length = len := by rw [e3, hlen.1]
  have hsz : ov.size = len * szT P e := by
    have hl2 := hov.length
    simp only [Array.length_toList] at hl2
    rw [hl2, flatLenW rows e6, hlr]
  refine ⟨.slice (some ⟨x.w.heap.size, 0, none⟩) len len, .slice (some ⟨x.w.heap.size, 0, none⟩) len len, x.mk' (.cells ov e), _, _, _, by simp only [bldF, he', hrows, if_pos hlen]; rfl, ?_, hle, ?_, by simp [D]⟩
  · rw [← e1] at k1
    have hlim : ¬ len * szT P e > 2 ^ 24 := by omega
    have g1 : (newRow e ov).run P x.w = .ok ⟨x.w.heap.size, 0, none⟩ (x.mk' (.cells ov e)).w := by simp [newRow, X.mk']
    have hrun : (Instr.buildSlice t len (ps.map fun (i, y) => (i, act.eval y))).run P x.w = .ok (.slice (some ⟨x.w.heap.size, 0, none⟩) len len) (x.mk' (.cells ov e)).w := by
      simp only [Instr.buildSlice, Sem.run_bind, run_underlying (slT_und he'), Result.andThen_ok, run_sizeOf' h1, hlim, if_false, Sem.run_pure]
      have k1' : Instr.fill (fun i => some (i * szT P e, szT P e)) ((Array.range (len * szT P e)).map (z0[· % z0.size]!)) (ps.map fun (i, y) => (i, act.eval y)).toList = some ov := k1
      by_cases hc : len * szT P e = 0
      · simp only [z0, hc, if_true] at k1'
        simp only [hc, if_true, Sem.run_bind, Sem.run_pure, Result.andThen_ok, k1', g1]
      · simp only [z0, hc, if_false] at k1'
        simp only [hc, if_false, Sem.run_bind, Sem.run_pure, hzv, Result.andThen_ok, k1', g1]
    show (do pure (Next.value (← Instr.buildSlice t len (ps.map fun (i, y) => (i, act.eval y)))) : Sem Next).run P x.w = _
    simp [hrun]
  · refine happ_new ?_
    refine hi.fresh hle (fun b hb => Nat.lt_of_lt_of_le (hi.bd b hb) hle.size) (fun b hb => .inl hb) ?_ ?_ fun b hb => heap_alloc_old _ _ hb
    · refine ⟨ov.toList, ⟨by simp [hsz, hlr], .inr ⟨x.w.heap.size, len, ov, by simp [hlr], Nat.zero_le _, heap_alloc_new _ _, by simp [hlr], ?_, hsz, ?_⟩⟩, e6, hov.mono hle⟩
      · have : len ≤ 16777216 := Nat.le_trans (Nat.le_mul_of_pos_right _ hpos) h2
        simp only [maxLen]; omega
      · rw [List.take_of_length_le]
        simp [hsz, hlr]
    · intro b hb
      simp only [Ent.own, Value.ownBlock, Option.some.injEq] at hb
      subst hb
      refine ⟨Nat.le_refl _, ?_, by simp [X.mk']⟩
      intro hk
      exact absurd (hi.bd _ hk) (Nat.lt_irrefl _)
/-! ### Slices without room -/
def asSl : A → Option (List (List L))
  | .dat (.sl xs) => some xs
  | .nils => some []
  | _ => none
theorem asSl_ok {x : X} {a : A} {xs : List (List L)} {v : Value} (h : asSl a = some xs) (hv : D x a v) : RdL x (.sl xs) v := by
  unfold asSl at h
  split at h <;> simp only [Option.some.injEq, reduceCtorEq] at h <;> subst h
  · simpa [D] using hv
  · simp only [D] at hv
    subst hv
    simp [RdL]
def clipF (P : Program) (E : Env) : Op → Option (Prop × A)
  | .buildSlice t n ps => match an (evp E ps.toList) (bslA P t n (evs E ps.toList)) with
    | some (p, .dat (.sl rows)) => some (p, .clip rows)
    | _ => none
  | .slice t x lo hi (some mx) => match slT P t, asSl (st (ev E x)).2 with
    | some e, some xs => match boundA 0 (opt E lo), opt E hi, (st (ev E mx)).2 with
      | some (q, l), some (.dat (.int _ h)), .dat (.int _ m) => some ((st (ev E x)).1 ∧ optp E lo ∧ optp E hi ∧ (st (ev E mx)).1 ∧ q ∧ m = h ∧ 0 ≤ h ∧ l ≤ h.toNat ∧ h.toNat ≤ xs.length ∧ tk P e ≠ 0 ∧ rl xs (szT P e), .clip ((xs.take h.toNat).drop l))
      | _, _, _ => none
    | _, _ => none
  | .call c => match c.callee, c.args.toList, c.argTypes.toList with
    | .builtin .append, [x, y], [t, t'] => match slT P t, ev E x, asSl (st (ev E y)).2 with
      | some e, .clip xs, some ys => some ((st (ev E y)).1 ∧ t' = t ∧ elOK P e ∧ rl xs (szT P e) ∧ rl ys (szT P e) ∧ xs.length + ys.length ≤ 4294967296, .dat (.sl (xs ++ ys)))
      | _, _, _ => none
    | _, _, _ => none
  | .binOp op _ x y _ => match op, ev E x, ev E y with
    | .sub, .dat (.int k a), .dat (.int k' b) => some (k = k', .dat (.int k (k.wrap (a - b))))
    | _, _, _ => none
  | _ => none
theorem rdRows_cells {x : X} {sz : Nat} {xs : List (List L)} {b off : Nat} (hl : ∀ r ∈ xs, r.length = sz) (h : RdRows x xs b off) : ∃ vs, RdLs x xs.flatten vs ∧ vs.length = xs.length * sz ∧ ∀ j v, vs[j]? = some v → x.w.cell? ⟨b, off + j, none⟩ = some v := by
  obtain ⟨vs, h1, h2⟩ := RdCells.vals _ b off (rdCells_of_rows xs b off h)
  refine ⟨vs, h1, ?_, h2⟩
  rw [h1.length]
  clear h h1 h2
  induction xs with
  | nil => simp
  | cons r rs ih => simp only [List.flatten_cons, List.length_append, List.length_cons, ih (fun q hq => hl q (by simp [hq])), hl r (by simp), Nat.add_mul]; omega
theorem append_clip {x : X} {xs ys : List (List L)} {v u : Value} {t e : TypeId} (ty : TypeId) (ht : slT P t = some e) (he : elOK P e) (hx : rl xs (szT P e)) (hy : rl ys (szT P e)) (hn : xs.length + ys.length ≤ 4294967296)
    (hb : ∀ b, x.ok b → b < x.w.heap.size) (hv : RdL x (.sl xs) v) (hvc : ∃ a n, v = .slice a n n) (hu : RdL x (.sl ys) u) : ∃ r y, (Builtin.append_ #[t, t] ty #[v, u]).run P x.w = .ok r y.w ∧ Grow x y ∧ RdL y (.sl (xs ++ ys)) r := by
  obtain ⟨i, z, hinf, hz, hzs, hsz, hby⟩ := he
  have hsi : szT P e = i.size := elOK_sz hinf
  obtain ⟨a, n, rfl⟩ := hvc
  have hna : n = xs.length := by
    simp only [RdL] at hv
    rcases hv with ⟨e1, rfl⟩ | ⟨b, off, cap, e1, _⟩ | ⟨a', e1, rfl⟩
    · cases e1; rfl
    · cases e1; rfl
    · cases e1; rfl
  by_cases hy0 : ys = []
  · subst hy0
    obtain ⟨ad, c, rfl⟩ : ∃ ad c, u = .slice ad 0 c := by
      simp only [RdL] at hu
      rcases hu with ⟨rfl, _⟩ | ⟨b, off, cap, rfl, _⟩ | ⟨a', rfl, _⟩
      · exact ⟨_, _, rfl⟩
      · exact ⟨_, _, rfl⟩
      · exact ⟨_, _, rfl⟩
    refine ⟨.slice a n n, x, ?_, .refl x, by simpa using hv⟩
    have hfc : ∀ w, (Builtin.firstCells i.size 0 (.slice ad 0 c)).run P w = .ok #[] w := by
      intro w; cases ad <;> simp [Builtin.firstCells, loadCells, loadCellsFrom]
    cases a <;> simp [Builtin.append_, run_underlying (slT_und ht), sizeOf, run_typeInfo _ hinf, Builtin.lenOf, hfc, storeCells]
  · obtain ⟨b, off, cap, rfl, hcap, hr⟩ : ∃ b off cap, u = .slice (some ⟨b, off, none⟩) ys.length cap ∧ ys.length ≤ cap ∧ RdRows x ys b off := by
      simp only [RdL] at hu
      rcases hu with ⟨_, h⟩ | h | ⟨_, _, h⟩
      · exact absurd h hy0
      · exact h
      · exact absurd h hy0
    obtain ⟨news, n1, n2, n3⟩ := rdRows_cells hy hr
    have hpos : 0 < ys.length := List.length_pos_iff.2 hy0
    have hbb := Nat.mul_le_mul (show xs.length + ys.length ≤ 4294967296 by omega) hby
    have hdrew : ∀ (os : List Value), RdLs x xs.flatten os → RdLs x (xs ++ ys).flatten (os ++ news) := fun os ho => by
      rw [List.flatten_append]
      exact ho.append n1
    have fin : ∀ (os : List Value) (c : Nat) (cells : Array Value), RdLs x xs.flatten os → cells.toList.take (os ++ news).length = os ++ news → xs.length + ys.length ≤ c →
        Grow x (x.drew.new (.cells cells e)) ∧ RdL (x.drew.new (.cells cells e)) (.sl (xs ++ ys)) (.slice (some ⟨x.w.heap.size, 0, none⟩) (xs.length + ys.length) c) := by
      intro os c cells ho hc hlc
      have hg := (X.drew_grow x).trans (X.new_grow x.drew (.cells cells e) hb)
      refine ⟨hg, ?_⟩
      simp only [RdL]
      refine .inr (.inl ⟨x.w.heap.size, 0, c, by simp, by simpa using hlc, rdRows_of_cells _ _ _ ?_⟩)
      refine rdCells_new (c := cells) (ty := e) (fr := (0, 0)) (show x.drew.ok _ ∨ _ from .inr rfl) (heap_alloc_new x.w.drew _) _ (os ++ news) 0 ((hdrew os ho).mono hg.le) ?_
      intro j v hj
      have hjl := (List.getElem?_eq_some_iff.1 hj).1
      rw [Nat.zero_add, ← Array.getElem?_toList, ← hj]
      conv => rhs; rw [← hc]
      rw [List.getElem?_take_of_lt hjl]
    have htk : ∀ (os : List Value) (rest : Array Value), ((os.toArray ++ news.toArray ++ rest).toList).take (os ++ news).length = os ++ news := by
      intro os rest
      simp only [Array.toList_append, List.append_assoc]
      rw [← List.append_assoc]
      exact List.take_left
    have hnl : news.length = ys.length * i.size := by rw [n2, hsi]
    simp only [RdL] at hv
    rcases hv with ⟨e1, rfl⟩ | ⟨b1, off1, cap1, e1, _, hr1⟩ | ⟨a', e1, rfl⟩
    · cases e1
      have hrun := run_append_nil (P := P) x.w t ty e i z (slT_und ht) hinf hz ⟨b, off, none⟩ ys.length cap news hnl (fun j w hj => by rw [add_none]; exact n3 j w hj) hpos (by omega) (by
        have := Nat.mul_le_mul (show ys.length ≤ 4294967296 by omega) hby; omega)
      have hf := fin [] (grownCap x.w ys.length 0 e) (news.toArray ++ Builtin.zeroCells z.cells (grownCap x.w ys.length 0 e - ys.length)) (by simp [RdLs]) (by simp) (by have := grownCap_ge x.w ys.length 0 e; simpa using this)
      exact ⟨_, _, hrun, hf.1, by simpa using hf.2⟩
    · cases e1
      obtain ⟨olds, o1, o2, o3⟩ := rdRows_cells hx hr1
      have hrun := run_append_grow (P := P) x.w t ty e i z (slT_und ht) hinf hz ⟨b1, off1, none⟩ xs.length xs.length olds (by rw [o2, hsi]) (fun j w hj => by rw [add_none]; exact o3 j w hj) ⟨b, off, none⟩ ys.length cap news hnl (fun j w hj => by rw [add_none]; exact n3 j w hj) (by omega) (by omega) (by
        have h1 := nextslicecap_le (need := xs.length + ys.length) (old := xs.length) (by omega)
        have h2 := Nat.mul_le_mul h1 hby
        omega)
      have hf := fin olds (grownCap x.w (xs.length + ys.length) xs.length e) (olds.toArray ++ news.toArray ++ Builtin.zeroCells z.cells (grownCap x.w (xs.length + ys.length) xs.length e - (xs.length + ys.length))) o1 (htk _ _) (grownCap_ge x.w (xs.length + ys.length) xs.length e)
      exact ⟨_, _, hrun, hf.1, hf.2⟩
    · cases e1
      have hrun := run_append_grow (P := P) x.w t ty e i z (slT_und ht) hinf hz a' 0 0 [] (by simp) (fun j w hj => by simp at hj) ⟨b, off, none⟩ ys.length cap news hnl (fun j w hj => by rw [add_none]; exact n3 j w hj) (by omega) (by omega) (by
        rw [Nat.zero_add, nextslicecap_zero hpos]
        have := Nat.mul_le_mul (show ys.length ≤ 4294967296 by omega) hby
        omega)
      have hf := fin [] (grownCap x.w (0 + ys.length) 0 e) ((([] : List Value).toArray) ++ news.toArray ++ Builtin.zeroCells z.cells (grownCap x.w (0 + ys.length) 0 e - (0 + ys.length))) (by simp [RdLs]) (htk _ _) (by simpa using grownCap_ge x.w (0 + ys.length) 0 e)
      exact ⟨_, _, hrun, hf.1, hf.2⟩
theorem run_slice3 {l h m len cap : Nat} {lo : Option Value} {vh vm : Value} (w : World) (hl : (lo = none ∧ l = 0) ∨ ∃ k, lo = some (.int k l)) (hh : ∃ k, vh = .int k h) (hm : ∃ k, vm = .int k m)
    (h1 : l ≤ h) (h2 : h ≤ m) (h3 : m ≤ cap) : (Instr.sliceBounds true len cap lo (some vh) (some vm)).run P w = .ok (l, h, m) w := by
  obtain ⟨k1, rfl⟩ := hh
  obtain ⟨k2, rfl⟩ := hm
  rcases hl with ⟨rfl, rfl⟩ | ⟨k3, rfl⟩
  · have a1 : (h : Int) ≤ m := by omega
    have a2 : (m : Int) ≤ cap := by omega
    simp [Instr.sliceBounds, Instr.sliceBound, asIntOf, h2, h3]
  · have a1 : (h : Int) ≤ m := by omega
    have a2 : (m : Int) ≤ cap := by omega
    have a3 : (l : Int) ≤ h := by omega
    simp [Instr.sliceBounds, Instr.sliceBound, asIntOf, h1, h2, h3]
theorem clipF_ok {o : Oper} {E : Env} {p : Prop} {a : A} (h : clipF P E o.op = some (p, a)) (hp : p) : PureOK P o E a := by
  intro n ds x act he hb
  obtain ⟨dst, op, type, pos, after, guard⟩ := o
  have v1 : ∀ {s : Sem Value} {u : Value} {y : X}, s.run P x.w = .ok u y.w → (do pure (Next.value (← s)) : Sem Next).run P x.w = .ok (.value u) y.w := by
    intro s u y hs; simp [hs]
  cases op <;> simp only [clipF] at h <;> try (simp at h; done)
  case binOp op t y z ty =>
    have hy := ev_ok he y
    have hz := ev_ok he z
    split at h <;> try (simp at h; done)
    rename_i k1 a k2 b e1 e2
    simp only [Option.some.injEq, Prod.mk.injEq] at h
    obtain ⟨rfl, rfl⟩ := h
    subst hp
    rw [e1] at hy
    rw [e2] at hz
    simp only [D, RdL] at hy hz
    refine ⟨.int k1 (k1.wrap (a - b)), x, ?_, .refl x, by simp [D, RdL]⟩
    have : (do eqGuard .sub t y z (act.eval y) (act.eval z); binOp .sub t (act.eval y) (act.eval z) : Sem Value).run P x.w = .ok (.int k1 (k1.wrap (a - b))) x.w := by
      rw [hy, hz]
      simp [eqGuard, binOp, Op.intArith]
    exact v1 this
  case buildSlice t len ps =>
    split at h <;> try (simp at h; done)
    rename_i p' rows hbs
    simp only [Option.some.injEq, Prod.mk.injEq] at h
    obtain ⟨rfl, rfl⟩ := h
    obtain ⟨q, h1, rfl⟩ := an_some hbs
    obtain ⟨u, y, k1, k2, k3, ad, k4⟩ := bslA_ok' (qs := ps.map fun (i, x) => (i, act.eval x)) h1 hp.2 hb (by simpa using parts_ok he ps.toList hp.1)
    refine ⟨u, y, v1 k1, k2, ?_⟩
    simp only [D]
    simp only [D] at k3
    exact ⟨k3, ad, len, k4⟩
  case slice t y lo hi mx =>
    cases mx with
    | none => simp at h
    | some m =>
      simp only at h
      split at h <;> try (simp at h; done)
      rename_i e xs hsl hxs
      split at h <;> try (simp at h; done)
      rename_i q l k1 h' k2 m' hlo hhi hmx
      simp only [Option.some.injEq, Prod.mk.injEq] at h
      obtain ⟨rfl, rfl⟩ := h
      obtain ⟨p1, p2, p3, p4, p5, p6, p7, p8, p9, p10, p11⟩ := hp
      have hv := asSl_ok hxs (st_ok (ev_ok he y) p1)
      have hlo' := boundA_ok hlo p5 (opt_ok he lo p2)
      have hhi' := opt_ok he hi p3
      rw [hhi] at hhi'
      have hmx' := st_ok (ev_ok he m) p4
      rw [hmx] at hmx'
      simp only [D, RdL] at hmx'
      cases hi with
      | none => simp [opt] at hhi
      | some hi =>
        simp only [Option.map_some, OptOK, D, RdL] at hhi'
        subst p6
        have e1 : (m' : Int) = (m'.toNat : Nat) := by omega
        generalize hK : m'.toNat = K at *
        rw [e1] at hhi' hmx'
        have vv : ∀ (a : Option Addr) (cap : Nat), K ≤ cap → act.eval y = .slice a xs.length cap → (Instr.sliceAt t (act.eval y) (lo.map act.eval) (some (act.eval hi)) (some (act.eval m))).run P x.w = .ok (.slice (if K = l then a else a.map (·.add (l * szT P e))) (K - l) (K - l)) x.w := by
          intro a cap hc hy
          rw [hy]
          simp only [Instr.sliceAt, Instr.slice, Sem.run_bind, run_underlying (slT_und hsl), Result.andThen_ok]
          rw [run_slice3 x.w hlo' ⟨_, hhi'⟩ ⟨_, hmx'⟩ p8 (Nat.le_refl _) hc]
          simp [run_sizeOf' p10]
        simp only [RdL] at hv
        have hlen : ((xs.take K).drop l).length = K - l := by simp; omega
        rcases hv with ⟨hy, hx0⟩ | ⟨b, off, cap, hy, hc, hr⟩ | ⟨a, hy, hx0⟩
        · have h0 : xs.length = 0 := by rw [hx0]; rfl
          have := vv none 0 (by omega) (by rw [h0]; exact hy)
          refine ⟨_, x, v1 this, .refl x, ?_⟩
          simp only [D, RdL, Option.map_none, ite_self]
          have hKl : K - l = 0 := by omega
          rw [hKl]
          exact ⟨.inl ⟨rfl, by rw [hx0]; simp⟩, _, _, rfl⟩
        · have := vv _ cap (by omega) hy
          refine ⟨_, x, v1 this, .refl x, ?_⟩
          simp only [D, RdL]
          refine ⟨?_, _, _, rfl⟩
          by_cases hKl : K = l
          · refine .inr (.inr ⟨⟨b, off, none⟩, ?_, ?_⟩)
            · simp [hKl]
            · rw [hKl]; simp
          · refine .inr (.inl ⟨b, off + l * szT P e, K - l, ?_, by rw [hlen]; exact Nat.le_refl _, ?_⟩)
            · simp [hKl, hlen, add_none]
            · have h1 := RdRows.take K xs b off hr
              exact RdRows.drop l _ b off (fun r hr' => p11 r (List.mem_of_mem_take hr')) h1
        · have h0 : xs.length = 0 := by rw [hx0]; rfl
          have := vv (some a) 0 (by omega) (by rw [h0]; exact hy)
          refine ⟨_, x, v1 this, .refl x, ?_⟩
          simp only [D, RdL]
          have hKl : K = l := by omega
          simp only [hKl, if_true, Nat.sub_self]
          exact ⟨.inr (.inr ⟨a, rfl, by rw [hx0]; simp⟩), _, _, rfl⟩
  case call c =>
    split at h <;> try (simp at h; done)
    rename_i y z t t' e1 e2 e3
    split at h <;> try (simp at h; done)
    rename_i e xs ys hsl hxs hys
    simp only [Option.some.injEq, Prod.mk.injEq] at h
    obtain ⟨rfl, rfl⟩ := h
    obtain ⟨p1, rfl, p3, p4, p5, p6⟩ := hp
    have hy := ev_ok he y
    rw [hxs] at hy
    simp only [D] at hy
    obtain ⟨r, w, k1, k2, k3⟩ := append_clip type hsl p3 p4 p5 p6 hb hy.1 hy.2 (asSl_ok hys (st_ok (ev_ok he z) p1))
    refine ⟨r, w, ?_, k2, by simpa [D] using k3⟩
    have ea : c.args.map act.eval = #[act.eval y, act.eval z] := by
      apply Array.toList_inj.1
      simp [e2]
    have et : c.argTypes = #[t', t'] := by
      apply Array.toList_inj.1
      simpa using e3
    simp only [execOp, resolve, e1, Sem.run_bind, Sem.run_pure, Result.andThen_ok, invoke, ea, et]
    simp only [builtin, Sem.run_bind, k1, Result.andThen_ok, Sem.run_pure]
end Go.Proofs.YtakndgpdolfenaaGreat
end
