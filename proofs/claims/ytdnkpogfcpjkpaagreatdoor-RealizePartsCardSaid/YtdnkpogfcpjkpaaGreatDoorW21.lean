/- Texts joined by a program: Fxj, Fxk, Jc, Jd, Fxl, Sra, Sn. -/
import Derived.Test.YtdnkpogfcpjkpaaGreatDoorProg
import Derived.KernelRfl
import Derived.Test.YtdnkpogfcpjkpaaGreatDoorW18
import Derived.Test.YtdnkpogfcpjkpaaGreatDoorW16
set_option linter.unusedSimpArgs false
set_option linter.unusedVariables false
set_option linter.unnecessarySimpa false

section
namespace Go.Proofs.YtdnkpogfcpjkpaaGreatDoor
variable {P : Program}
def Sees (a b : A) : Prop := ∀ x v, D x a v → D x b v
theorem Sees.agg : ∀ {l m : List A}, l.length = m.length → (∀ (i : Nat) (a b : A), l[i]? = some a → m[i]? = some b → wk a b) → Sees (.agg l) (.agg m) := by
  intro l m hl h x v hv
  simp only [D] at hv ⊢
  obtain ⟨vs, e, hd⟩ := hv
  refine ⟨vs, e, ?_⟩
  generalize vs.toList = us at hd
  induction l generalizing m us with
  | nil =>
    cases m with
    | nil => exact hd
    | cons b m => simp at hl
  | cons a l ih =>
    cases m with
    | nil => simp at hl
    | cons b m =>
      cases us with
      | nil => simp [Ds] at hd
      | cons u us =>
        simp only [Ds] at hd ⊢
        exact ⟨wk_ok (h 0 a b rfl rfl) hd.1, ih (by simpa using hl) (fun i a b ha hb => h (i + 1) a b (by simpa using ha) (by simpa using hb)) us hd.2⟩
def swA (sw : Nat → Option A) (o : Oper) (a : A) : A := (sw (o.dst.getD 0)).getD a
def swP (sw : Nat → Option A) (o : Oper) (a : A) : Prop := match sw (o.dst.getD 0) with
  | some b => Sees a b
  | none => True
theorem sw_ok {sw : Nat → Option A} {o : Oper} {a : A} (h : swP sw o a) {x : X} {v : Value} (hv : D x a v) : D x (swA sw o a) v := by
  unfold swA
  unfold swP at h
  split at h
  · rename_i b hb
    rw [hb]
    exact h x v hv
  · rename_i hb
    rw [hb]
    exact hv
def vcS (P : Program) (ρ : Nat → Option CR) (T : List Nat) (sw : Nat → Option A) (ops : List Oper) : List Oper → Env → Heap → (Env → Heap → Prop) → Prop
  | [], E, H, K => K E H
  | o :: rest, E, H, K => ∀ u b, match T.contains (o.dst.getD 0) && o.guard.isNone with
    | true => match heapF P u b (o.dst.getD 0) E (fun t => hget t H) o.op with
      | some (p, a, ch) => p ∧ swP sw o a ∧ vcS P ρ T sw ops rest (put E o.dst (swA sw o a)) (happ ch H) K
      | none => False
    | false => match fStep P ρ u b ops o E (fun t => hget t H) with
      | some (p, a, ch) => p ∧ swP sw o a ∧ vcS P ρ T sw ops rest (put E o.dst (swA sw o a)) (happ ch H) K
      | none => False
@[congr] theorem vcS_congr {P : Program} {ρ : Nat → Option CR} {T : List Nat} {sw : Nat → Option A} {ops : List Oper} {l : List Oper} {E : Env} {H H' : Heap} {K : Env → Heap → Prop} {z : Prop} (_ : (True ∧ True) = z)
    (h : H = H') : vcS P ρ T sw ops l E H K = vcS P ρ T sw ops l E H' K := by rw [h]
theorem vcS_ok {ρ : Nat → Option CR} {T : List Nat} {sw : Nat → Option A} {ops : List Oper} {n : Nat} {ds : List Deferred} {H0 : Heap} {x0 : X} {Q : Exit → Act → World → Prop} : ∀ (l : List Oper) (k : Nat) (E : Env) (H : Heap) (K : Env → Heap → Prop), ops.drop k = l → (∀ o ∈ l, fits n o.dst) → vcS P ρ T sw ops l E H K →
    (∀ E H x act, K E H → x0.le x → Inv x (H ++ H0) → EnvOK n ds x act E → Q .normal act x.w) → ∀ x act, x0.le x → Inv x (H ++ H0) → EnvOK n ds x act E → wpOps P ops.toArray Q ((List.range' k l.length)) act x.w
  | [], k, E, H, K, _, _, h, hq, x, act, hle, hi, he => by
    simp only [List.length_nil, List.range'_zero, wpOps]
    exact hq _ _ x act h hle hi he
  | o :: rest, k, E, H, K, hk, hf, h, hq, x, act, hle, hi, he => by
    have ho : ops[k]? = some o := by
      have := congrArg (·[0]?) hk
      simpa [List.getElem?_drop] using this
    have hk' : ops.drop (k + 1) = rest := by
      rw [← List.drop_drop, hk]
      rfl
    simp only [List.length_cons, List.range'_succ]
    rw [wpOps_cons]
    simp only [vcS] at h
    cases hT : (T.contains (o.dst.getD 0) && o.guard.isNone) with
    | true =>
      rw [hT] at h
      dsimp only at h
      have hg : o.guard = none := by
        have := (Bool.and_eq_true_iff.1 hT).2
        cases hgd : o.guard with
        | none => rfl
        | some _ => rw [hgd] at this; simp at this
      have hw : Region.wanted o (yielded ops.toArray act.tmps) = true := by simp [Region.wanted, hg]
      obtain ⟨u, b, v, y, p, a, ch, h1, h2, h3, h4, h5, h6⟩ := heapF_ok (P := P) (o := o) (E := E) (τ := o.dst.getD 0) (fun u b => by
        have := h u b
        split at this
        · rename_i p a ch hh; exact ⟨p, a, ch, hh, this.1⟩
        · exact this.elim) (fun t => rfl) hi he
      have hk2 := h u b
      rw [h1] at hk2
      have fin : ∀ v, D y a v → wpOps P ops.toArray Q (List.range' (k + 1) rest.length) (act.put o.dst v) y.w := fun v hd =>
        vcS_ok rest (k + 1) _ _ K hk' (fun o ho => hf o (by simp [ho])) hk2.2.2 hq y _ (hle.trans h4) h5 ((he.mono h4).put (hf o (by simp)) (sw_ok hk2.2.1 hd))
      unfold wpOp
      rw [show ops.toArray[k]? = some o by simpa using ho]
      simp only
      rw [if_pos hw]
      left
      show o.upon P act _ Q _
      rcases h3 with h3 | ⟨h3, rfl⟩
      · rw [h3]; exact fin v h6
      · rw [h3]; exact fin Go.undef h6
    | false =>
      rw [hT] at h
      dsimp only at h
      refine fStep_ok (ρ := ρ) (fun u b => ?_) (fun t => rfl) hi he (by simpa using ho) ?_
      · have := h u b
        split at this
        · rename_i p a ch hh; exact ⟨p, a, ch, hh, this.1⟩
        · exact this.elim
      · intro u b p a ch v y hh hle2 hi2 hd
        have := h u b
        rw [hh] at this
        exact vcS_ok rest (k + 1) _ _ K hk' (fun o ho => hf o (by simp [ho])) this.2.2 hq y _ (hle.trans hle2) hi2 ((he.mono hle2).put (hf o (by simp)) (sw_ok this.2.1 hd))
attribute [simp] vcS swA swP
end Go.Proofs.YtdnkpogfcpjkpaaGreatDoor
end

section
namespace Go.Proofs.YtdnkpogfcpjkpaaGreatDoor
variable {P : Program}
def bodyO (f : Func) (k : Nat) : Option Code := match loopO f k with
  | some (.seq _ (.seq (.block _ c) _)) => some c
  | _ => none
def bodyF (f : Func) (k j : Nat) : Option Code := match bodyO f k with
  | some c => restO j c
  | none => none
def bodyC (f : Func) (k j : Nat) : Code := (bodyF f k j).getD .skip
theorem V.of_vc {C : Cfg} {c : Code} {E : Env} {H : Heap} {Q : PostQ} (h : vcC C c E H Q) : V C c E H Q := fun hf => vcC_ok c E H Q hf h
theorem V.of_vcN {C : Cfg} (k : Nat) {c : Code} {E : Env} {H : Heap} {Q : PostQ} (h : vcN C k c E H Q) : V C c E H Q := fun hf => vcN_ok k c E H Q hf h
theorem V.cutV {C : Cfg} {c : Code} {E : Env} {H Hs : Heap} {Q : PostQ} (kv : List (Nat × A)) (hE : ∀ p ∈ kv, wk (E p.1) p.2) (hH : subN Hs H) (h : V C c (hdE kv []) Hs Q) : V C c E H Q := by
  intro hf x act H0 ms hi he
  refine h hf x act H0 ms (subN_inv hH hi) ⟨he.defers, he.size, ?_⟩
  exact sets_wk he.slot [] _ (by simp) (sets_wk he.slot kv _ hE fun t => by simp [anyE, D])
theorem V.body {f : Func} {k j : Nat} {c : Code} {C : Cfg} {E : Env} {H : Heap} {Q : PostQ} (h : bodyF f k j = some c) (hv : V C c E H Q) : V C (bodyC f k j) E H Q := by
  unfold bodyC
  rw [h]
  exact hv
def Rm (H H' : Heap) : Prop := ∀ x H0, Inv x (H ++ H0) → Inv x (H' ++ H0)
theorem Rm.sub {H H' : Heap} (h : subN H' H) : Rm H H' := fun _ _ hi => subN_inv h hi
theorem Rm.trans {H H' K : Heap} (h : Rm H H') (k : Rm H' K) : Rm H K := fun x H0 hi => k x H0 (h x H0 hi)
theorem Rm.mark {m m' : Nat} {e : Ent} {H : Heap} : Rm ((m, e) :: H) ((m', e) :: H) := by
  intro x H0 hi
  refine ⟨hi.bd, ?_, ?_, ?_⟩
  · intro p hp
    rcases List.mem_cons.1 hp with rfl | hp
    · exact hi.sat (m, e) (by simp)
    · exact hi.sat p (List.mem_cons_of_mem _ hp)
  · intro p hp
    rcases List.mem_cons.1 hp with rfl | hp
    · exact hi.own (m, e) (by simp)
    · exact hi.own p (List.mem_cons_of_mem _ hp)
  · have h := hi.apart
    simp only [List.cons_append, List.pairwise_cons] at h ⊢
    exact ⟨fun p hp => h.1 p hp, h.2⟩
theorem Rm.same : ∀ {H H' : Heap}, H.length = H'.length → (∀ (i : Nat) (p q : Nat × Ent), H[i]? = some p → H'[i]? = some q → (∀ x, p.2.sat x → q.2.sat x) ∧ ∀ b, q.2.own b → p.2.own b) → Rm H H' := by
  intro H H' hl h x H0 hi
  have key : ∀ p ∈ H', ∃ q ∈ H, (∀ x, q.2.sat x → p.2.sat x) ∧ ∀ b, p.2.own b → q.2.own b := by
    intro p hp
    obtain ⟨i, hi1, hi2⟩ := List.getElem_of_mem hp
    have hq : H[i]? = some H[i] := List.getElem?_eq_getElem (by omega)
    exact ⟨H[i], List.getElem_mem _, h i _ p hq (by rw [List.getElem?_eq_getElem hi1, hi2])⟩
  refine ⟨hi.bd, ?_, ?_, ?_⟩
  · intro p hp
    rcases List.mem_append.1 hp with hp | hp
    · obtain ⟨q, hq, h1, h2⟩ := key p hp
      exact h1 x (hi.sat q (List.mem_append_left _ hq))
    · exact hi.sat p (List.mem_append_right _ hp)
  · intro p hp b hb
    rcases List.mem_append.1 hp with hp | hp
    · obtain ⟨q, hq, h1, h2⟩ := key p hp
      exact hi.own q (List.mem_append_left _ hq) b (h2 b hb)
    · exact hi.own p (List.mem_append_right _ hp) b hb
  · have ha := List.pairwise_append.1 hi.apart
    refine List.pairwise_append.2 ⟨?_, ha.2.1, fun p hp q hq b hb => ?_⟩
    · rw [List.pairwise_iff_getElem]
      intro i j hi1 hj1 hij b hb hb2
      have hp := List.pairwise_iff_getElem.1 ha.1 i j (by omega) (by omega) hij
      exact hp b ((h i H[i] H'[i] (List.getElem?_eq_getElem _) (List.getElem?_eq_getElem _)).2 b hb) ((h j H[j] H'[j] (List.getElem?_eq_getElem _) (List.getElem?_eq_getElem _)).2 b hb2)
    · obtain ⟨r, hr, _, h2⟩ := key p hp
      exact ha.2.2 r hr q hq b (h2 b hb)
def BodyQ (id : Nat) (Q : PostQ) (nx : Env → Heap → Prop) : PostQ := fun e E H => match e with
  | .normal => nx E H
  | .exit k => if k = id then nx E H else Q (.exit k) E H
  | .ret => Q .ret E H
  | _ => False
@[simp] theorem BodyQ_n (id : Nat) (Q : PostQ) (nx : Env → Heap → Prop) (E : Env) (H : Heap) : BodyQ id Q nx .normal E H = nx E H := rfl
theorem BodyQ_x (id : Nat) (Q : PostQ) (nx : Env → Heap → Prop) (E : Env) (H : Heap) : BodyQ id Q nx (.exit id) E H = nx E H := if_pos rfl
@[simp] theorem BodyQ_r (id : Nat) (Q : PostQ) (nx : Env → Heap → Prop) (E : Env) (H : Heap) : BodyQ id Q nx .ret E H = Q .ret E H := rfl
@[congr] theorem BodyQ_congr {id : Nat} {Q : PostQ} {nx : Env → Heap → Prop} {e e' : Exit} {E : Env} {H : Heap} {z : Prop} (_ : (True ∧ True) = z) (h : e = e') : BodyQ id Q nx e E H = BodyQ id Q nx e' E H := by rw [h]
theorem V.forB {C : Cfg} {E : Env} {H : Heap} {Q : PostQ} {id : Nat} {head inner post : Code} {σ : Type} {kv : List (Nat × A)} {kh : Heap} (n : Nat) (Lv : List Nat) (hkv : kv = Lv.map fun t => (t, E t)) (sl sb : Nat → σ → List (Nat × A)) (Hs : Nat → σ → Heap) (I : Nat → σ → Prop) (s0 : σ)
    (hI0 : I 0 s0) (hE0 : ∀ p ∈ sl 0 s0, wk (E p.1) p.2) (hH0 : kh = kpH (Hs 0 s0) H ∧ subN (hcat (Hs 0 s0) kh) H)
    (hh : ∀ i s, i < n → I i s → vcC C head (hdE kv (sl i s)) (hcat (Hs i s) kh) (LoopQ (fun _ _ _ => False) fun E' H' => (∀ p ∈ sl i s, E' p.1 = p.2) ∧ (∀ p ∈ kv, E' p.1 = p.2) ∧ H' = hcat (Hs i s) kh))
    (hb : ∀ i s, i < n → I i s → V C inner (hdE kv (sl i s)) (hcat (Hs i s) kh) (BodyQ id Q fun E' H' => ∃ s', I (i + 1) s' ∧ (∀ p ∈ sb i s', wk (E' p.1) p.2) ∧ (∀ p ∈ kv, E' p.1 = p.2) ∧ subN (hcat (Hs (i + 1) s') kh) H'))
    (hp : ∀ i s, i < n → I (i + 1) s → vcC C post (hdE kv (sb i s)) (hcat (Hs (i + 1) s) kh) (LoopQ (fun _ _ _ => False) fun E' H' =>
      ∃ s', I (i + 1) s' ∧ (∀ p ∈ sl (i + 1) s', wk (E' p.1) p.2) ∧ (∀ p ∈ kv, E' p.1 = p.2) ∧ subN (hcat (Hs (i + 1) s') kh) H'))
    (he : ∀ s, I n s → vcC C head (hdE kv (sl n s)) (hcat (Hs n s) kh) (LoopQ Q fun _ _ => False)) : V C (.loop (.seq head (.seq (.block id inner) post))) E H Q := by
  intro hf x act H0 ms hi hen
  have hf2 := hf
  simp only [fitsC, Bool.and_eq_true] at hf2
  obtain ⟨f1, f2, f3⟩ := hf2
  have hset : ∀ {sl : List (Nat × A)} {E' : Env} {y : X} {a : Act} {ds : List Deferred}, EnvOK C.n ds y a E' → (∀ p ∈ sl, wk (E' p.1) p.2) → (∀ p ∈ kv, E' p.1 = p.2) → EnvOK C.n ds y a (hdE kv sl) := by
    intro sl E' y a ds h h1 h2
    refine ⟨h.defers, h.size, sets_wk h.slot _ _ h1 (sets_wk h.slot _ _ ?_ fun t => by simp [anyE, D])⟩
    intro p hp
    rw [h2 p hp]
    simp
  have h00 : ∀ p ∈ kv, E p.1 = p.2 := by
    intro p hp
    rw [hkv] at hp
    obtain ⟨t, _, rfl⟩ := List.mem_map.1 hp
    rfl
  have key : W C (.loop (.seq head (.seq (.block id inner) post))) (hdE kv (sl 0 s0)) (hcat (Hs 0 s0) kh) Q := by
    refine W.loop (fun m E' H' => ∃ i s, i ≤ n ∧ I i s ∧ n - i = m ∧ E' = hdE kv (sl i s) ∧ H' = hcat (Hs i s) kh) n ⟨0, s0, Nat.zero_le _, hI0, rfl, rfl, rfl⟩ ?_
    rintro m _ _ ⟨i, s, hin, hI, rfl, rfl, rfl⟩
    rcases Nat.lt_or_ge i n with hlt | hge
    · refine W.seq ?_
      intro x act H0 ms hi hen
      refine wpIn_mono (vcC_ok head _ _ _ f1 (hh i s hlt hI) x act H0 ms hi hen) ?_
      rintro e a' w' ⟨y, E', H', ms', rfl, hle, hi', he', hq⟩
      cases e with
      | normal =>
        obtain ⟨q1, q2, rfl⟩ := hq
        refine ⟨y, hdE kv (sl i s), _, ms', rfl, hle, hi', hset he' (fun p hp => .inl (q1 p hp)) q2, ?_⟩
        refine W.seq (W.block ((hb i s hlt hI f2).mono ?_))
        have key2 : ∀ E' H', (∃ s', I (i + 1) s' ∧ (∀ p ∈ sb i s', wk (E' p.1) p.2) ∧ (∀ p ∈ kv, E' p.1 = p.2) ∧ subN (hcat (Hs (i + 1) s') kh) H') → W C post E' H' fun e E' H' => match e with
            | .normal => ∃ m', m' < n - i ∧ ∃ i s, i ≤ n ∧ I i s ∧ n - i = m' ∧ E' = hdE kv (sl i s) ∧ H' = hcat (Hs i s) kh
            | .exit k => Q (.exit k) E' H'
            | .ret => Q .ret E' H'
            | _ => False := by
          rintro E' H' ⟨s', r1, r2, r3, r4⟩ x act H0 ms hi hen
          refine wpIn_mono (vcC_ok post _ _ _ f3 (hp i s' hlt r1) x act H0 ms (subN_inv r4 hi) (hset hen r2 r3)) ?_
          rintro e a' w' ⟨y, E2, H2, ms', rfl, hle, hi', he', hq⟩
          cases e with
          | normal =>
            obtain ⟨s2, h1, h3, h4, h5⟩ := hq
            exact ⟨y, _, _, ms', rfl, hle, subN_inv h5 hi', hset he' h3 h4, n - (i + 1), by omega, i + 1, s2, by omega, h1, rfl, rfl, rfl⟩
          | exit k => exact hq.elim
          | ret => exact hq.elim
          | goto k => exact hq.elim
          | panic k => exact hq.elim
          | outgrown => exact hq.elim
        intro e E' H' hq
        cases e with
        | normal => exact key2 E' H' hq
        | exit k =>
          simp only [BodyQ] at hq
          simp only [blockQ]
          split at hq
          · rename_i hk
            rw [if_pos hk]
            exact key2 E' H' hq
          · rename_i hk
            rw [if_neg hk]
            exact hq
        | ret => exact hq
        | goto k => exact hq.elim
        | panic k => exact hq.elim
        | outgrown => exact hq.elim
      | exit k => exact hq.elim
      | ret => exact hq.elim
      | goto k => exact hq.elim
      | panic k => exact hq.elim
      | outgrown => exact hq.elim
    · obtain rfl : i = n := by omega
      refine W.seq ?_
      intro x act H0 ms hi hen
      refine wpIn_mono (vcC_ok head _ _ _ f1 (he s hI) x act H0 ms hi hen) ?_
      rintro e a' w' ⟨y, E', H', ms', rfl, hle, hi', he', hq⟩
      cases e with
      | normal => exact hq.elim
      | exit k => exact ⟨y, E', H', ms', rfl, hle, hi', he', hq⟩
      | ret => exact ⟨y, E', H', ms', rfl, hle, hi', he', hq⟩
      | goto k => exact hq.elim
      | panic k => exact hq.elim
      | outgrown => exact hq.elim
  exact key x act H0 ms (subN_inv hH0.2 hi) (hset hen hE0 h00)
end Go.Proofs.YtdnkpogfcpjkpaaGreatDoor
end

section
namespace Go.Proofs.YtdnkpogfcpjkpaaGreatDoor
set_option maxHeartbeats 16000000
set_option maxRecDepth 100000
theorem gate_fn0 (n : Int) : CallFn Tryz.prog 178 [aI n] (.fn 213 [] [.rptr [.int .i64 n]]) := by
  refine callFz_of Tryz.func178 rfl Tryz.ntmps178 (rs := [.tmp 2]) rfl (by kernel_rfl) (by simp) (by kernel_rfl) ?_
  simp
theorem gateV_fn0 (n : Int) : CallFn Tryz.prog 179 [aI n] (.fn 214 [] [.rptr [.int .i64 n]]) := by
  refine callFz_of Tryz.func179 rfl Tryz.ntmps179 (rs := [.tmp 2]) rfl (by kernel_rfl) (by simp) (by kernel_rfl) ?_
  simp
theorem merge_fn0 (b : Bool) : CallFn Tryz.prog 180 [aB b] (.fn 215 [] [.rptr [.bool b]]) := by
  refine callFz_of Tryz.func180 rfl Tryz.ntmps180 (rs := [.tmp 2]) rfl (by kernel_rfl) (by simp) (by kernel_rfl) ?_
  simp
def catR : List (List A) := [
  [.dat (.str [115, 117, 112, 112, 108, 121]), .dat (.str [90]), .dat (.sl []), .dat (.sl [[.str [49]]]), .dat (.sl []), .dat (.sl []), .dat (.sl []), .dat (.str []), .dat (.str []), aI 1, .fn 174 [] [], .fn 175 [] []],
  [.dat (.str [99, 121, 108, 105, 110, 100, 101, 114]), .dat (.str [65]), .dat (.sl []), .dat (.sl []), .dat (.sl []), .dat (.sl []), .dat (.sl [[.str [50]], [.str [52]]]), .dat (.str []), .dat (.str []), aI 1, .fn 174 [] [], .fn 175 [] []],
  [.dat (.str [118, 97, 108, 118, 101, 53, 50]), .dat (.str [86]), .dat (.sl [[.str [49]]]), .dat (.sl [[.str [50]], [.str [52]]]), .dat (.sl [[.str [51]], [.str [53]]]), .dat (.sl [[.str [49, 50]], [.str [49, 52]]]), .dat (.sl []), .dat (.str [49, 52]), .dat (.str [49, 50]), aI 2, .fn 176 [] [], .fn 177 [] []],
  [.dat (.str [118, 97, 108, 118, 101, 53, 50, 115]), .dat (.str [86]), .dat (.sl [[.str [49]]]), .dat (.sl [[.str [50]], [.str [52]]]), .dat (.sl [[.str [51]], [.str [53]]]), .dat (.sl [[.str [49, 52]]]), .dat (.sl []), .dat (.str [49, 52]), .dat (.str []), aI 2, .fn 176 [] [], .fn 177 [] []],
  [.dat (.str [118, 97, 108, 118, 101, 51, 50]), .dat (.str [86]), .dat (.sl [[.str [49]]]), .dat (.sl [[.str [50]]]), .dat (.sl [[.str [51]]]), .dat (.sl [[.str [49, 50]]]), .dat (.sl []), .dat (.str [49, 50]), .dat (.str []), aI 2, .fn 213 [] [.rptr [.int .i64 1]], .fn 214 [] [.rptr [.int .i64 1]]],
  [.dat (.str [118, 97, 108, 118, 101, 51, 50, 111]), .dat (.str [86]), .dat (.sl [[.str [49]]]), .dat (.sl [[.str [50]]]), .dat (.sl [[.str [51]]]), .dat (.sl [[.str [49, 48]]]), .dat (.sl []), .dat (.str [49, 48]), .dat (.str []), aI 2, .fn 213 [] [.rptr [.int .i64 0]], .fn 214 [] [.rptr [.int .i64 0]]],
  [.dat (.str [108, 105, 109, 105, 116]), .dat (.str [83]), .dat (.sl [[.str [49]]]), .dat (.sl [[.str [50]]]), .dat (.sl [[.str [51]]]), .dat (.sl []), .dat (.sl []), .dat (.str []), .dat (.str []), aI 2, .fn 213 [] [.rptr [.int .i64 1]], .fn 214 [] [.rptr [.int .i64 1]]],
  [.dat (.str [98, 117, 116, 116, 111, 110]), .dat (.str [83]), .dat (.sl [[.str [49]]]), .dat (.sl [[.str [50]]]), .dat (.sl [[.str [51]]]), .dat (.sl []), .dat (.sl []), .dat (.str []), .dat (.str []), aI 2, .fn 213 [] [.rptr [.int .i64 1]], .fn 214 [] [.rptr [.int .i64 1]]],
  [.dat (.str [115, 104, 117, 116, 116, 108, 101]), .dat (.str [86]), .dat (.sl [[.str [49]], [.str [49, 49]]]), .dat (.sl [[.str [50]]]), .dat (.sl []), .dat (.sl []), .dat (.sl []), .dat (.str []), .dat (.str []), aI 1, .fn 215 [] [.rptr [.bool false]], .fn 175 [] []],
  [.dat (.str [116, 119, 105, 110]), .dat (.str [86]), .dat (.sl [[.str [49]], [.str [49, 49]]]), .dat (.sl [[.str [50]]]), .dat (.sl []), .dat (.sl []), .dat (.sl []), .dat (.str []), .dat (.str []), aI 1, .fn 215 [] [.rptr [.bool true]], .fn 175 [] []],
  [.dat (.str [113, 117, 105, 99, 107]), .dat (.str [86]), .dat (.sl [[.str [49]]]), .dat (.sl [[.str [50]]]), .dat (.sl [[.str [51]]]), .dat (.sl []), .dat (.sl []), .dat (.str []), .dat (.str []), aI 1, .fn 181 [] [], .fn 175 [] []],
  [.dat (.str [116, 104, 114, 111, 116, 116, 108, 101]), .dat (.str [86]), .dat (.sl [[.str [49]]]), .dat (.sl [[.str [50]]]), .dat (.sl []), .dat (.sl []), .dat (.sl []), .dat (.str []), .dat (.str []), aI 1, .fn 181 [] [], .fn 175 [] []],
  [.dat (.str [100, 101, 108, 97, 121]), .dat (.str [86]), .dat (.sl [[.str [49]]]), .dat (.sl [[.str [50]]]), .dat (.sl [[.str [51]]]), .dat (.sl [[.str [49, 50]]]), .dat (.sl []), .dat (.str [49, 50]), .dat (.str []), aI 2, .fn 213 [] [.rptr [.int .i64 1]], .fn 214 [] [.rptr [.int .i64 1]]],
  [.dat (.str [99, 111, 117, 110, 116, 101, 114]), .dat (.str [86]), .dat (.sl [[.str [49]]]), .dat (.sl [[.str [50]]]), .dat (.sl [[.str [51]]]), .dat (.sl [[.str [49, 50]]]), .dat (.sl []), .dat (.str [49, 50]), .dat (.str []), aI 2, .fn 213 [] [.rptr [.int .i64 1]], .fn 214 [] [.rptr [.int .i64 1]]]]
theorem catalogue_fn : CallFn Tryz.prog 126 [] (.agg catR.flatten) := by
  have g0 := gate_fn0 0
  have g1 := gate_fn0 1
  have v0 := gateV_fn0 0
  have v1 := gateV_fn0 1
  have m0 := merge_fn0 false
  have m1 := merge_fn0 true
  refine callFz_cut 3 Tryz.func126 rfl Tryz.ntmps126 (rs := [.cell 0 190]) rfl (by kernel_rfl) (by simp) (by kernel_rfl) ?_
  simp
  intro b
  refine V.cutV [(0, .ptr 0 b 0), (1, .dat (.sl [[.str [49]]])), (2, .dat (.sl [[.str [50]]])), (3, .dat (.sl [[.str [51]]])), (4, .dat (.sl [[.str [49]], [.str [49, 49]]]))] (Hs := [(0, .box b _)]) (by simp) (by simp; rfl) ?_
  refine V.seq (V.regF (fun t => if t = 32 ∨ t = 47 ∨ t = 54 ∨ t = 81 ∨ t = 89 then some (.fn (.fn 213 [] [.rptr [.int .i64 1]])) else if t = 33 ∨ t = 48 ∨ t = 55 ∨ t = 82 ∨ t = 90 then some (.fn (.fn 214 [] [.rptr [.int .i64 1]]))
    else if t = 40 then some (.fn (.fn 213 [] [.rptr [.int .i64 0]])) else if t = 41 then some (.fn (.fn 214 [] [.rptr [.int .i64 0]])) else if t = 60 then some (.fn (.fn 215 [] [.rptr [.bool false]])) else if t = 65 then some (.fn (.fn 215 [] [.rptr [.bool true]])) else none) [] ?_)
  dsimp only [List.append, List.toList_toArray]
  simp
  exact ⟨g1, v1, g0, v0, g1, v1, g1, v1, m0, m1, g1, v1, g1, v1, rfl⟩
theorem cat_nil : hasNil catR.flatten = false := rfl
theorem cat_len : catR.flatten.length = 168 := rfl
theorem cat_cases {Q : Nat → Prop} (h : Q 0 ∧ Q 1 ∧ Q 2 ∧ Q 3 ∧ Q 4 ∧ Q 5 ∧ Q 6 ∧ Q 7 ∧ Q 8 ∧ Q 9 ∧ Q 10 ∧ Q 11 ∧ Q 12 ∧ Q 13) : ∀ k, k < 14 → Q k := by
  obtain ⟨h0, h1, h2, h3, h4, h5, h6, h7, h8, h9, h10, h11, h12, h13⟩ := h
  intro k hk
  have : k = 0 ∨ k = 1 ∨ k = 2 ∨ k = 3 ∨ k = 4 ∨ k = 5 ∨ k = 6 ∨ k = 7 ∨ k = 8 ∨ k = 9 ∨ k = 10 ∨ k = 11 ∨ k = 12 ∨ k = 13 := by omega
  rcases this with rfl | rfl | rfl | rfl | rfl | rfl | rfl | rfl | rfl | rfl | rfl | rfl | rfl | rfl <;> assumption
abbrev rowOf (k : Nat) : List A := catR.getD k []
theorem cat_row : ∀ k, k < 14 → List.take 12 (List.drop (k * 12) catR.flatten) = rowOf k := cat_cases ⟨rfl, rfl, rfl, rfl, rfl, rfl, rfl, rfl, rfl, rfl, rfl, rfl, rfl, rfl⟩
def cellB : A → Bool
  | .any => false
  | .undef => false
  | .record _ => false
  | .agg _ => false
  | .tuple _ => false
  | .cond _ _ => false
  | .nn _ => false
  | .clip _ => false
  | _ => true
theorem row_len : ∀ k, k < 14 → (rowOf k).length = 12 := cat_cases ⟨rfl, rfl, rfl, rfl, rfl, rfl, rfl, rfl, rfl, rfl, rfl, rfl, rfl, rfl⟩
theorem row_ls : ∀ k, k < 14 → toLs (rowOf k) = none := cat_cases ⟨rfl, rfl, rfl, rfl, rfl, rfl, rfl, rfl, rfl, rfl, rfl, rfl, rfl, rfl⟩
theorem row_nil : ∀ k, k < 14 → hasNil (rowOf k) = false := cat_cases ⟨rfl, rfl, rfl, rfl, rfl, rfl, rfl, rfl, rfl, rfl, rfl, rfl, rfl, rfl⟩
theorem row_cell : ∀ k, k < 14 → (rowOf k).all cellB = true := cat_cases ⟨rfl, rfl, rfl, rfl, rfl, rfl, rfl, rfl, rfl, rfl, rfl, rfl, rfl, rfl⟩
theorem row_frz : ∀ k, k < 14 → ∀ H, (frz H (.agg (rowOf k))).1 ∧ (frz H (.agg (rowOf k))).2 = .agg (rowOf k) := by
  refine cat_cases ⟨?_, ?_, ?_, ?_, ?_, ?_, ?_, ?_, ?_, ?_, ?_, ?_, ?_, ?_⟩
  all_goals
    intro H
    exact ⟨by simp [rowOf, catR], by simp [rowOf, catR]⟩
theorem cat_sum : (List.map List.length catR).sum = 168 := rfl
theorem find_fn (k : Nat) (hk : k < 14) : CallFn Tryz.prog 97 [aI k] (.tuple [.agg (rowOf k), aI 0]) := by
  have hc := catalogue_fn
  have h1 := cat_row k hk
  have h2 := row_len k hk
  have h3 := row_ls k hk
  have h4 := row_nil k hk
  refine callFz_of Tryz.func97 rfl Tryz.ntmps97 (rs := [.cell 2 159, .tmp 3]) rfl (by kernel_rfl) (by simp) (by kernel_rfl) ?_
  simp
  intro b2
  refine ⟨by omega, fun h => ?_⟩
  refine hc.s ?_
  have h5 := row_cell k hk
  have h6 := row_frz k hk
  simp only [cat_nil]
  generalize hR : rowOf k = R at *
  simp [cat_nil, cat_len, h1, h2, h3, h4, cat_sum]
  refine ⟨⟨by omega, by omega⟩, fun x hx => ?_, ?_⟩
  · have hx2 := List.all_eq_true.1 h5 x hx
    cases x <;> exact hx2
  · have h7 : List.take 12 R = R := List.take_of_length_le (by omega)
    rw [h7, h3]
    exact h6 _
def cellL : A → L
  | .dat l => l
  | _ => .int .i64 0
end Go.Proofs.YtdnkpogfcpjkpaaGreatDoor
end

section
namespace Go.Proofs.YtdnkpogfcpjkpaaGreatDoor
set_option maxHeartbeats 8000000
set_option maxRecDepth 10000
def clsL (n : Nat) : Int := if 65 ≤ n ∧ n ≤ 90 then 1 else if 97 ≤ n ∧ n ≤ 122 then 1 else if 48 ≤ n ∧ n ≤ 57 then 2 else if n = 95 then 3 else 0
theorem rng_tab : tabF 1 = some [.int .u8 65, .int .u8 90, .int .u8 1, .int .u8 97, .int .u8 122, .int .u8 1, .int .u8 48, .int .u8 57, .int .u8 2, .int .u8 95, .int .u8 95, .int .u8 3, .int .u8 32, .int .u8 32, .int .u8 5, .int .u8 10, .int .u8 10, .int .u8 5] := rfl
theorem class_fn (n : Nat) (hn : n < 256) (h : clsL n ≠ 0) : CallFn Tryz.prog 127 [.dat (.int .u8 n)] (aI (clsL n)) := by
  refine callFz_of Tryz.func127 rfl Tryz.ntmps127 (rs := [.tmp 2]) rfl (by kernel_rfl) (by simp) (by kernel_rfl) ?_
  simp
  refine V.forI (σ := Unit) 6 [0] (by simp; exact rfl) (fun i _ => [(2, aI 0), (5, aI i)]) (fun _ _ => []) (fun i _ => (1 ≤ i → ¬ (65 ≤ n ∧ n ≤ 90)) ∧ (2 ≤ i → ¬ (97 ≤ n ∧ n ≤ 122)) ∧ (3 ≤ i → ¬ (48 ≤ n ∧ n ≤ 57)) ∧ (4 ≤ i → n ≠ 95)) () (by simp) (by simp) ⟨by simp; exact rfl, by simp⟩ ?_ ?_
  · rintro i - hi ⟨h1, h2, h3, h4⟩
    have : i = 0 ∨ i = 1 ∨ i = 2 ∨ i = 3 ∨ i = 4 ∨ i = 5 := by omega
    rcases this with rfl | rfl | rfl | rfl | rfl | rfl
    all_goals
      unfold clsL at h
      simp [rng_tab]
      unfold clsL
      simp only [Nat.zero_le, Nat.le_refl, forall_const, Nat.reduceLeDiff] at h1 h2 h3 h4
      refine ⟨fun a b => ?_, fun a => ?_⟩
      · (repeat' split at h) <;> (repeat' split) <;> omega
      · omega
  · rintro - ⟨h1, h2, h3, h4⟩
    exfalso
    unfold clsL at h
    rw [if_neg (h1 (by omega)), if_neg (h2 (by omega)), if_neg (h3 (by omega)), if_neg (h4 (by omega))] at h
    exact h rfl
def LexB (b : UInt8) : Prop := clsL b.toNat ≠ 0
abbrev cls3 : List (List L) := [[.int .i64 1], [.int .i64 2], [.int .i64 3]]
theorem cls_some {n : Nat} (h : clsL n ≠ 0) : clsL n = 1 ∨ clsL n = 2 ∨ clsL n = 3 := by
  unfold clsL at h ⊢
  (repeat' split) <;> simp_all
theorem run_fn (s : List UInt8) (hs : s.length ≤ 1000000) (h : ∀ b ∈ s, LexB b) : CallFn Tryz.prog 128 [aT s, .dat (.sl cls3)] (aI s.length) := by
  refine callFz_of Tryz.func128 rfl Tryz.ntmps128 (rs := [.tmp 4]) rfl (by kernel_rfl) (by simp) (by kernel_rfl) ?_
  simp
  refine V.forI (σ := Unit) s.length [0, 1, 10] (by simp; exact rfl) (fun i _ => [(4, aI 0), (11, aI i)]) (fun _ _ => []) (fun _ _ => True) () trivial (by simp) ⟨by simp; exact rfl, by simp⟩ ?_ ?_
  · rintro i - hi -
    obtain ⟨b, hb1⟩ : ∃ b, s[i] = b := ⟨_, rfl⟩
    have hbo : s[i]? = some b := by rw [List.getElem?_eq_getElem hi, hb1]
    have hb := h b (List.mem_of_getElem? hbo)
    have hcf := class_fn b.toNat b.toNat_lt hb
    have hc3 := cls_some hb
    generalize clsL b.toNat = k at *
    simp [hi]
    refine V.forI (σ := Unit) 3 [0, 1, 4, 5, 10, 11, 14, 15] (by simp; exact rfl) (fun j _ => [(6, aB (decide (k ≤ j))), (16, aI j)]) (fun _ _ => []) (fun _ _ => True) () trivial (by simp; omega) ⟨by simp; exact rfl, by simp⟩ ?_ ?_
    · rintro j - hj -
      have : j = 0 ∨ j = 1 ∨ j = 2 := by omega
      rcases this with rfl | rfl | rfl
      all_goals
        simp [hbo, hb1, hi]
        refine GCall.fn (aI k) (fun h => ⟨h, hcf⟩) ?_
        simp
        rcases hc3 with rfl | rfl | rfl <;> rfl
    · rintro - -
      simp
      omega
  · rintro - -
    simp
structure WordB (s : List UInt8) : Prop where
  head : ∃ b r, s = b :: r ∧ clsL b.toNat = 1
  all : ∀ b ∈ s, LexB b
  len : s.length ≤ 24
theorem Word_fn (s : List UInt8) (h : WordB s) : CallFn Tryz.prog 98 [aT s] (aI 0) := by
  obtain ⟨⟨b, r, rfl, hb⟩, ha, hl⟩ := h
  have hcf := class_fn b.toNat b.toNat_lt (by rw [hb]; decide)
  rw [hb] at hcf
  have hrf := run_fn (b :: r) (by omega) ha
  simp at hl hrf
  refine callFz_of Tryz.func98 rfl Tryz.ntmps98 (rs := [.tmp 2]) rfl (by kernel_rfl) (by simp) (by kernel_rfl) ?_
  simp
  refine GCall.fn (aI 1) (fun _ => ⟨trivial, hcf⟩) ?_
  simp
  refine GCall.fn (aI (r.length + 1)) (fun _ => ⟨trivial, hrf⟩) ?_
  simp
  omega
structure PartB (k : Nat) (name : List UInt8) (d : Int) : Prop where
  kind : k < 14
  word : WordB name
  delay : (k = 12 → 1 ≤ d ∧ d ≤ 1000000) ∧ (k ≠ 12 → d = 0)
theorem partCheck_fn {k : Nat} {name : List UInt8} {d : Int} (h : PartB k name d) : CallFn Tryz.prog 49 [.record [.int .i64 k, .str name, .int .i64 d]] (aI 0) := by
  have hf := find_fn k h.kind
  have hl := row_len k h.kind
  have hcell := row_cell k h.kind
  have hw := Word_fn name h.word
  obtain ⟨d1, d2⟩ := h.delay
  generalize rowOf k = R at *
  refine callFz_cut 2 Tryz.func49 rfl Tryz.ntmps49 (rs := [.tmp 2]) rfl (by kernel_rfl) (by simp) (by kernel_rfl) ?_
  simp
  refine hf.s ?_
  simp
  intro b3
  refine ⟨⟨hl, by omega, fun x hx => ?_⟩, ?_⟩
  · have hx2 := List.all_eq_true.1 hcell x hx
    cases x <;> exact hx2
  · refine V.cutV [(1, .rptr [.int .i64 k, .str name, .int .i64 d]), (2, aI 0)] (Hs := []) (by simp) (by simp) (V.of_vc ?_)
    simp
    refine hw.s ?_
    simp
    by_cases h12 : k = 12
    · have := d1 h12
      have hk : (k : Int) = 12 := by omega
      simp [hk]
      omega
    · have := d2 h12
      have hk : ¬ ((k : Int) = 12) := by omega
      simp [hk, this]
end Go.Proofs.YtdnkpogfcpjkpaaGreatDoor
end

section
namespace Go.Proofs.YtdnkpogfcpjkpaaGreatDoor
variable {P : Program}
theorem ds_take {x : X} : ∀ (ls : List L) {rest : List A} {vs : List Value}, Ds x (ls.map A.dat ++ rest) vs → RdLs x ls (vs.take ls.length)
  | [], _, _, _ => by simp [RdLs]
  | l :: ls, rest, v :: vs, h => by
    simp only [List.map_cons, List.cons_append, Ds, D] at h
    simp only [List.length_cons, List.take_succ_cons, RdLs]
    exact ⟨h.1, ds_take ls h.2⟩
  | l :: ls, rest, [], h => by simp [Ds] at h
theorem Gh.frzPre {Q : Env → Heap → Prop} {E : Env} {H : Heap} (t : Nat) {τ b : Nat} {ls : List L} {rest : List A} (hE : E t = .ptr τ b 0) (hH : hget τ H = some (.box b (ls.map A.dat ++ rest)))
    (hq : Gh Q (upd E t (.rptr ls)) (hdel τ H)) : Gh Q E H := by
  intro n ds x act H0 hi he
  have hp := hdel_perm hH
  have hi1 : Inv x ([(τ, .box b (ls.map A.dat ++ rest))] ++ (hdel τ H ++ H0)) := by
    have := hi.perm (hp.symm.append_right H0)
    simpa using this
  obtain ⟨y, hw, hle, hi2, hok, _⟩ := hi1.freeze
  have he2 : EnvOK n ds y act (upd E t (.rptr ls)) := by
    have hm := he.mono hle
    refine ⟨hm.defers, hm.size, fun s => ?_⟩
    simp only [upd]
    split
    · rename_i hs
      subst hs
      have hv := he.slot s
      rw [hE] at hv
      obtain ⟨c, ty, k1, k2⟩ := hi1.sat (τ, .box b (ls.map A.dat ++ rest)) (by simp)
      simp only [D] at hv ⊢
      rw [hv]
      refine ⟨b, 0, rfl, rdCells_vals (hok b ⟨_, List.mem_singleton.2 rfl, rfl⟩) ls _ 0 (RdLs.mono hle _ _ (ds_take ls k2)) ?_⟩
      intro j u hj
      rw [hw]
      simp only [World.cell?, k1, Nat.zero_add]
      have hj2 : c.toList[j]? = some u := by
        rw [List.getElem?_take] at hj
        split at hj
        · exact hj
        · cases hj
      simpa using hj2
    · exact hm.slot s
  obtain ⟨z, E2, H2, w2, l2, i2, e2, h2⟩ := hq n ds y act H0 hi2 he2
  exact ⟨z, E2, H2, w2.trans hw, hle.trans l2, i2, e2, h2⟩
theorem rows1 {x : X} : ∀ (ls : List L) (b off : Nat), RdCells x ls b off → RdRows x (ls.map fun l => [l]) b off
  | [], _, _, _ => by simp [RdRows]
  | l :: ls, b, off, h => by
    simp only [RdCells] at h
    simp only [List.map_cons, RdRows, RdCells, List.length_singleton]
    exact ⟨⟨h.1, trivial⟩, rows1 ls b (off + 1) h.2⟩
theorem sliceArr_ok {o : Oper} {t e : TypeId} {n : Nat} {x : Operand} {E : Env} {ls : List L} (ho : o.op = .slice t x none none none) (hu : arT P t = some (n, e)) (hs : tk P e ≠ 0) (hE : ev E x = .rptr ls) (hn : n ≤ ls.length) :
    PureOK P o E (.dat (.sl ((ls.take n).map fun l => [l]))) := by
  intro m ds y act he hb
  obtain ⟨dst, op, type, pos, after, guard⟩ := o
  simp only at ho
  subst ho
  have hv := ev_ok he x
  rw [hE] at hv
  simp only [D] at hv
  obtain ⟨b, off, hv, hc⟩ := hv
  refine ⟨.slice (some ⟨b, off, none⟩) n n, y, ?_, Grow.refl y, ?_⟩
  · simp [execOp, Instr.sliceAt, run_underlying (arT_und hu), hv, Instr.sureAddr, Instr.sliceBounds, run_sizeOf' hs, add_none]
  · simp only [D, RdL]
    refine .inr (.inl ⟨b, off, n, ?_, ?_, rows1 _ _ _ (RdCells.take n ls b off hc)⟩)
    · simp; omega
    · simp; omega
def vcT (P : Program) (ρ : Nat → Option CR) (T : List Nat) (hd : Nat → Option A) (ops : List Oper) : List Oper → Env → Heap → (Env → Heap → Prop) → Prop
  | [], E, H, K => K E H
  | o :: rest, E, H, K => match hd (o.dst.getD 0), o.guard with
    | some a, none => PureOK P o E a ∧ vcT P ρ T hd ops rest (put E o.dst a) H K
    | _, _ => ∀ u b, match T.contains (o.dst.getD 0) && o.guard.isNone with
      | true => match heapF P u b (o.dst.getD 0) E (fun t => hget t H) o.op with
        | some (p, a, ch) => p ∧ vcT P ρ T hd ops rest (put E o.dst a) (happ ch H) K
        | none => False
      | false => match fStep P ρ u b ops o E (fun t => hget t H) with
        | some (p, a, ch) => p ∧ vcT P ρ T hd ops rest (put E o.dst a) (happ ch H) K
        | none => False
@[congr] theorem vcT_congr {P : Program} {ρ : Nat → Option CR} {T : List Nat} {hd : Nat → Option A} {ops : List Oper} {l : List Oper} {E : Env} {H H' : Heap} {K : Env → Heap → Prop} {z : Prop} (_ : (True ∧ True) = z)
    (h : H = H') : vcT P ρ T hd ops l E H K = vcT P ρ T hd ops l E H' K := by rw [h]
theorem vcT_ok {ρ : Nat → Option CR} {T : List Nat} {hd : Nat → Option A} {ops : List Oper} {n : Nat} {ds : List Deferred} {H0 : Heap} {x0 : X} {Q : Exit → Act → World → Prop} : ∀ (l : List Oper) (k : Nat) (E : Env) (H : Heap) (K : Env → Heap → Prop), ops.drop k = l → (∀ o ∈ l, fits n o.dst) → vcT P ρ T hd ops l E H K →
    (∀ E H x act, K E H → x0.le x → Inv x (H ++ H0) → EnvOK n ds x act E → Q .normal act x.w) → ∀ x act, x0.le x → Inv x (H ++ H0) → EnvOK n ds x act E → wpOps P ops.toArray Q ((List.range' k l.length)) act x.w
  | [], k, E, H, K, _, _, h, hq, x, act, hle, hi, he => by
    simp only [List.length_nil, List.range'_zero, wpOps]
    exact hq _ _ x act h hle hi he
  | o :: rest, k, E, H, K, hk, hf, h, hq, x, act, hle, hi, he => by
    have ho : ops[k]? = some o := by
      have := congrArg (·[0]?) hk
      simpa [List.getElem?_drop] using this
    have hk' : ops.drop (k + 1) = rest := by
      rw [← List.drop_drop, hk]
      rfl
    simp only [List.length_cons, List.range'_succ]
    rw [wpOps_cons]
    simp only [vcT] at h
    split at h
    · rename_i a hh hg
      obtain ⟨u, y, h1, h2, h3⟩ := h.1 _ _ x act he hi.bd
      have hw : Region.wanted o (yielded ops.toArray act.tmps) = true := by simp [Region.wanted, hg]
      unfold wpOp
      rw [show ops.toArray[k]? = some o by simpa using ho]
      simp only
      rw [if_pos hw]
      left
      show o.upon P act _ Q _
      rw [h1]
      exact vcT_ok rest (k + 1) _ _ K hk' (fun o ho => hf o (by simp [ho])) h.2 hq y _ (hle.trans h2.le) (hi.grow h2) ((he.mono h2.le).put (hf o (by simp)) h3)
    · cases hT : (T.contains (o.dst.getD 0) && o.guard.isNone) with
      | true =>
        rw [hT] at h
        dsimp only at h
        have hg : o.guard = none := by
          have := (Bool.and_eq_true_iff.1 hT).2
          cases hgd : o.guard with
          | none => rfl
          | some _ => rw [hgd] at this; simp at this
        have hw : Region.wanted o (yielded ops.toArray act.tmps) = true := by simp [Region.wanted, hg]
        obtain ⟨u, b, v, y, p, a, ch, h1, h2, h3, h4, h5, h6⟩ := heapF_ok (P := P) (o := o) (E := E) (τ := o.dst.getD 0) (fun u b => by
          have := h u b
          split at this
          · rename_i p a ch hh; exact ⟨p, a, ch, hh, this.1⟩
          · exact this.elim) (fun t => rfl) hi he
        have hk2 := h u b
        rw [h1] at hk2
        have fin : ∀ v, D y a v → wpOps P ops.toArray Q (List.range' (k + 1) rest.length) (act.put o.dst v) y.w := fun v hd =>
          vcT_ok rest (k + 1) _ _ K hk' (fun o ho => hf o (by simp [ho])) hk2.2 hq y _ (hle.trans h4) h5 ((he.mono h4).put (hf o (by simp)) hd)
        unfold wpOp
        rw [show ops.toArray[k]? = some o by simpa using ho]
        simp only
        rw [if_pos hw]
        left
        show o.upon P act _ Q _
        rcases h3 with h3 | ⟨h3, rfl⟩
        · rw [h3]; exact fin v h6
        · rw [h3]; exact fin Go.undef h6
      | false =>
        rw [hT] at h
        dsimp only at h
        refine fStep_ok (ρ := ρ) (fun u b => ?_) (fun t => rfl) hi he (by simpa using ho) ?_
        · have := h u b
          split at this
          · rename_i p a ch hh; exact ⟨p, a, ch, hh, this.1⟩
          · exact this.elim
        · intro u b p a ch v y hh hle2 hi2 hd
          have := h u b
          rw [hh] at this
          exact vcT_ok rest (k + 1) _ _ K hk' (fun o ho => hf o (by simp [ho])) this.2 hq y _ (hle.trans hle2) hi2 ((he.mono hle2).put (hf o (by simp)) hd)
theorem V.regD {n : Nat} {id : Nat} {ops : Array Oper} {E : Env} {H : Heap} {Q : PostQ} (ρ : Nat → Option CR) (T : List Nat) (hd : Nat → Option A) (h : vcT P ρ T hd ops.toList ops.toList E H fun E' H' => Q .normal E' H') : V ⟨P, none, n⟩ (.region id ops false) E H Q := by
  intro hf x act H0 ms hi he
  refine wpIn_wide.2 (wp_region ?_)
  have := vcT_ok (P := P) (ρ := ρ) (T := T) (hd := hd) (n := n) (ds := ms.map mk) (x0 := x) (Q := Post n H0 Q x) ops.toList 0 E H _ rfl (fitsOps_ok hf) h (fun E H y act hK hle hi he => ⟨y, E, H, ms, rfl, hle, hi, he, hK⟩) x act (.refl x) hi he
  rw [List.range_eq_range']
  simpa using this
attribute [simp] vcT
end Go.Proofs.YtdnkpogfcpjkpaaGreatDoor
end

section
namespace Go.Proofs.YtdnkpogfcpjkpaaGreatDoor
open Go.Sort
abbrev rT (s : List UInt8) : List A := [.dat (.str s)]
variable {P : Program} {ρ : Go.Shelf.Ren}
theorem rT_vals {x : X} : ∀ {zs : List (List UInt8)} {vs : List Value}, Ds x (zs.map rT).flatten vs → vs = zs.map (encStr)
  | [], [], _ => rfl
  | z :: zs, v :: vs, h => by
    simp only [List.map_cons, List.flatten_cons, List.cons_append, List.nil_append, rT, Ds, D, RdL] at h
    rw [h.1, rT_vals h.2, List.map_cons]
  | [], _ :: _, h => by simp [Ds] at h
  | _ :: _, [], h => by simp [Ds, rT] at h
theorem rT_Ds {x : X} : ∀ (zs : List (List UInt8)), Ds x (zs.map rT).flatten (zs.map (encStr))
  | [] => by simp [Ds]
  | z :: zs => by
    simp only [List.map_cons, List.flatten_cons, List.cons_append, List.nil_append, rT, Ds, D, RdL]
    exact ⟨trivial, rT_Ds zs⟩
theorem rT_len {zs : List (List UInt8)} : ∀ r ∈ zs.map rT, r.length = 1 := by
  intro r hr
  obtain ⟨z, _, rfl⟩ := List.mem_map.1 hr
  rfl
theorem strs_own {x : X} {h : Value} {e : TypeId} {zs : List (List UInt8)} (hs : Ent.sat x (.seq h e 1 (zs.map rT))) :
    (h = .slice none 0 0 ∧ zs = []) ∨ ∃ g cap cur, h = .slice (some ⟨g, 0, none⟩) zs.length cap ∧ x.w.heap[g]? = some (.cells cur e (0, 0)) ∧ zs.length ≤ cap ∧ cap ≤ maxLen ∧ cur.size = cap ∧ cur.toList.take zs.length = zs.map (encStr) := by
  obtain ⟨xs, ⟨h1, h2⟩, h3, h4⟩ := hs
  have hx := rT_vals h4
  subst hx
  rcases h2 with ⟨rfl, h0⟩ | ⟨g, cap, cur, rfl, _, h5, h6, h7, h8, h9⟩
  · exact .inl ⟨rfl, by simpa using h0⟩
  · refine .inr ⟨g, cap, cur, by simp, h5, by simpa using h6, h7, by simpa using h8, by simpa using h9⟩
theorem strs_holds {x : X} {g : Nat} {cur : Array Value} {e : TypeId} {zs : List (List UInt8)} (h5 : x.w.heap[g]? = some (.cells cur e (0, 0))) (h9 : cur.toList.take zs.length = zs.map (encStr)) :
    Holds (encStr) x.w g 0 zs.toArray := by
  intro j hj
  have hj' : j < zs.length := by simpa using hj
  have hc : cur[j]? = some (encStr zs[j]) := by
    have : (cur.toList.take zs.length)[j]? = some (encStr zs[j]) := by rw [h9]; simp [hj']
    rw [List.getElem?_take] at this
    simpa [hj'] using this
  constructor
  · have hz : zs.toArray[j]! = zs[j] := by simp [hj']
    rw [hz]
    simp [World.cell?, h5, hc]
  · simp [World.frozen?, h5]
theorem putRowT_block {w : World} {g n : Nat} {cur : Array Value} {e : TypeId} (h5 : w.heap[g]? = some (.cells cur e (0, 0))) (d : Array (List UInt8)) (os : Array Obj) :
    (grow (putRow (encStr) (Sort.ahead w n) g 0 d) os).heap[g]? = some (.cells (putCells (encStr) 0 d cur) e (0, 0)) ∧ ∀ k, k < w.heap.size → k ≠ g → (grow (putRow (encStr) (Sort.ahead w n) g 0 d) os).heap[k]? = w.heap[k]? := by
  have hlt := (Array.getElem?_eq_some_iff.1 h5).1
  have hsz : (putRow (encStr) (Sort.ahead w n) g 0 d).heap.size = w.heap.size := by simp [putRow, mapBlock, Sort.ahead]
  have hgr : ∀ k, k < w.heap.size → (grow (putRow (encStr) (Sort.ahead w n) g 0 d) os).heap[k]? = (putRow (encStr) (Sort.ahead w n) g 0 d).heap[k]? := by
    intro k hk
    simp only [grow]
    rw [Array.getElem?_append_left (by rw [hsz]; exact hk)]
  constructor
  · rw [hgr g hlt]
    simp [putRow, mapBlock, Sort.ahead, Array.getElem?_modify, h5, onCells]
  · intro k hk hne
    rw [hgr k hk]
    simp [putRow, mapBlock, Sort.ahead, Array.getElem?_modify, Ne.symm hne]
theorem putCellsT_take (d : Array (List UInt8)) (cur : Array Value) (m : Nat) (hm : m ≤ d.size) (hd : d.size ≤ cur.size) : (putCells (encStr) 0 d cur).toList.take m = (d.toList.take m).map (encStr) := by
  apply List.ext_getElem?
  intro k
  rw [List.getElem?_take, List.getElem?_map, List.getElem?_take]
  split
  · rename_i hk
    have h1 : k < cur.size := by omega
    have h2 : k < d.size := by omega
    simp [putCells, h1, h2]
  · simp
theorem seq_putRowT {x : X} {H : Heap} {t g cap q : Nat} {e : TypeId} {zs : List (List UInt8)} (hi : Inv x ((t, .seq (.slice (some ⟨g, 0, none⟩) zs.length cap) e 1 (zs.map rT)) :: H)) (d : List (List UInt8)) (hd : d.length = zs.length) (m : Nat) (hm : m ≤ d.length) (os : Array Obj) :
    ∃ y : X, y.w = grow (putRow (encStr) (Sort.ahead x.w q) g 0 d.toArray) os ∧ x.le y ∧ Inv y ((t, .seq (.slice (some ⟨g, 0, none⟩) m cap) e 1 ((d.take m).map rT)) :: H) := by
  have hs := hi.sat _ (List.mem_cons_self)
  rcases strs_own hs with ⟨h, _⟩ | ⟨g', cap', cur, h, h5, h6, h7, h8, h9⟩
  · cases h
  · cases h
    obtain ⟨b1, b2⟩ := putRowT_block (n := q) h5 d.toArray os
    have hlt := (Array.getElem?_eq_some_iff.1 h5).1
    have hsz : x.w.heap.size ≤ (grow (putRow (encStr) (Sort.ahead x.w q) g 0 d.toArray) os).heap.size := by simp [grow, putRow, mapBlock, Sort.ahead]
    let y : X := ⟨grow (putRow (encStr) (Sort.ahead x.w q) g 0 d.toArray) os, x.ok⟩
    have hfin : x.le y ∧ Inv y ((t, .seq (.slice (some ⟨g, 0, none⟩) m cap) e 1 ((d.take m).map rT)) :: H) := by
     refine hi.ofOwn (y := y) (g' := t) (h' := .slice (some ⟨g, 0, none⟩) m cap) (rows' := (d.take m).map rT) rfl ?_ ?_ ?_ ?_
     · have hrl : ((d.take m).map rT).length = m := by rw [List.length_map, List.length_take]; omega
       have hrv : ((d.take m).map (encStr)).length = m * 1 := by rw [List.length_map, List.length_take]; omega
       have hpt := putCellsT_take d.toArray cur m (by simpa using hm) (by rw [List.size_toArray]; omega)
       have hps : (putCells (encStr) 0 d.toArray cur).size = cap * 1 := by simp [putCells, h8]
       refine ⟨(d.take m).map (encStr), ⟨by rw [hrl]; exact hrv, .inr ⟨g, cap, _, by rw [hrl], Nat.zero_le _, b1, by rw [hrl]; omega, h7, hps, ?_⟩⟩, rT_len, rT_Ds _⟩
       rw [hrl, Nat.mul_one]
       exact hpt
     · refine ⟨rfl, rfl, rfl, hsz, ?_⟩
       intro k hk hne
       exact b2 k hk fun e => hne (by simp [Value.ownBlock, e])
     · show x.w.drawn ≤ (grow (putRow (encStr) (Sort.ahead x.w q) g 0 d.toArray) os).drawn
       simp [grow, putRow, mapBlock, Sort.ahead]
     · intro k hk
       simp only [Value.ownBlock, Option.some.injEq] at hk
       subst hk
       exact ⟨.inl rfl, Nat.lt_of_lt_of_le hlt hsz⟩
    exact ⟨y, rfl, hfin⟩
def sortT (zs : List (List UInt8)) : List (List UInt8) := zs.mergeSort fun x y => decide (x ≤ y)
theorem sortT_len (zs : List (List UInt8)) : (sortT zs).length = zs.length := by simp [sortT]
theorem sortT_s (Ly : Go.Proofs.Lays.n190 P ρ) (hc : Callable P (ρ.f 190)) {e t : Nat} {h : Value} {zs : List (List UInt8)} (hz : zs.length < 4611686018427387904) :
    CallS P (ρ.f 190) [.own t h] [(t, .seq h e 1 (zs.map rT))] fun r H' => r = .tuple [] ∧ H' = [(t, .seq h e 1 ((sortT zs).map rT))] := by
  refine ⟨hc, fun x args H0 hi hd => ?_⟩
  obtain rfl := Ds_one hd
  have hs := hi.sat _ (List.mem_cons_self)
  rcases strs_own hs with ⟨rfl, rfl⟩ | ⟨g, cap, cur, rfl, h5, h6, h7, h8, h9⟩
  · refine (Any.slices_Sort_string_none Ly none 0 x.w).mono ?_
    rintro _ _ ⟨rfl, rfl⟩
    exact ⟨x, _, .tuple [], _, rfl, rfl, .refl x, by simpa [sortT] using hi, unit_D x, rfl, rfl⟩
  · refine (Any.slices_Sort_string Ly g 0 cap zs x.w (strs_holds h5 h9) (Array.getElem?_eq_some_iff.1 h5).1 hz).mono ?_
    rintro _ _ ⟨rfl, n, os, rfl⟩
    obtain ⟨y, k1, k2, k3⟩ := seq_putRowT hi (q := n) (sortT zs) (sortT_len zs) (sortT zs).length (Nat.le_refl _) os
    rw [List.take_length, sortT_len] at k3
    exact ⟨y, _, .tuple [], _, rfl, k1, k2, k3, unit_D y, rfl, rfl⟩
end Go.Proofs.YtdnkpogfcpjkpaaGreatDoor
end

section
namespace Go.Proofs.YtdnkpogfcpjkpaaGreatDoor
set_option maxRecDepth 100000
set_option maxHeartbeats 4000000
def sortTRen : Go.Shelf.Ren := ⟨fun | 125 => 112 | 128 => 154 | 129 => 155 | 190 => 185 | 258 => 218 | 302 => 230 | 303 => 231 | 304 => 232 | 305 => 233 | 306 => 234 | 307 => 235 | 308 => 236 | 309 => 237 | 310 => 238 | 329 => 197 | 330 => 198 | 333 => 242 | 334 => 243 | 335 => 244 | 336 => 245 | 344 => 246 | n => n, fun | 0 => 0 | 3 => 3 | 4 => 4 | 5 => 5 | 9 => 9 | 31 => 22 | 46 => 182 | 51 => 219 | 53 => 221 | 131 => 143 | 182 => 212 | 183 => 213 | 218 => 258 | 222 => 262 | 228 => 283 | 229 => 40 | n => n, fun n => n⟩
theorem sortTLays : Go.Proofs.Lays.n190 Tryz.prog sortTRen := { 
  mixed := by kernel_rfl,
  f125 := by kernel_rfl,
  f128 := by kernel_rfl,
  f129 := by kernel_rfl,
  f190 := by kernel_rfl,
  f258 := by kernel_rfl,
  f302 := by kernel_rfl,
  f303 := by kernel_rfl,
  f304 := by kernel_rfl,
  f305 := by kernel_rfl,
  f306 := by kernel_rfl,
  f307 := by kernel_rfl,
  f308 := by kernel_rfl,
  f309 := by kernel_rfl,
  f310 := by kernel_rfl,
  f329 := by kernel_rfl,
  f330 := by kernel_rfl,
  f333 := by kernel_rfl,
  f334 := by kernel_rfl,
  f335 := by kernel_rfl,
  f336 := by kernel_rfl,
  f344 := by kernel_rfl,
  t0 := Tryz.underlying0,
  a0 := Tryz.isAgg0,
  z0 := Tryz.sizeOf0,
  v0 := Tryz.zeroValue0,
  t3 := Tryz.underlying3,
  a3 := Tryz.isAgg3,
  z3 := Tryz.sizeOf3,
  v3 := Tryz.zeroValue3,
  t4 := Tryz.underlying4,
  a4 := Tryz.isAgg4,
  z4 := Tryz.sizeOf4,
  v4 := Tryz.zeroValue4,
  t5 := Tryz.underlying5,
  a5 := Tryz.isAgg5,
  z5 := Tryz.sizeOf5,
  v5 := Tryz.zeroValue5,
  t9 := Tryz.underlying9,
  a9 := Tryz.isAgg9,
  z9 := Tryz.sizeOf9,
  v9 := Tryz.zeroValue9,
  t31 := Tryz.underlying22,
  a31 := Tryz.isAgg22,
  z31 := Tryz.sizeOf22,
  v31 := Tryz.zeroValue22,
  t46 := Tryz.underlying182,
  a46 := Tryz.isAgg182,
  z46 := Tryz.sizeOf182,
  v46 := Tryz.zeroValue182,
  t51 := Tryz.underlying219,
  a51 := Tryz.isAgg219,
  z51 := Tryz.sizeOf219,
  v51 := Tryz.zeroValue219,
  t53 := Tryz.underlying221,
  a53 := Tryz.isAgg221,
  z53 := Tryz.sizeOf221,
  v53 := Tryz.zeroValue221,
  t131 := Tryz.underlying143,
  a131 := Tryz.isAgg143,
  z131 := Tryz.sizeOf143,
  v131 := Tryz.zeroValue143,
  t182 := Tryz.underlying212,
  a182 := Tryz.isAgg212,
  z182 := Tryz.sizeOf212,
  v182 := Tryz.zeroValue212,
  t183 := Tryz.underlying213,
  a183 := Tryz.isAgg213,
  z183 := Tryz.sizeOf213,
  v183 := Tryz.zeroValue213,
  t218 := Tryz.underlying258,
  a218 := Tryz.isAgg258,
  z218 := Tryz.sizeOf258,
  v218 := Tryz.zeroValue258,
  t222 := Tryz.underlying262,
  a222 := Tryz.isAgg262,
  z222 := Tryz.sizeOf262,
  v222 := Tryz.zeroValue262,
  t228 := Tryz.underlying283,
  a228 := Tryz.isAgg283,
  z228 := Tryz.sizeOf283,
  v228 := Tryz.zeroValue283,
  t229 := Tryz.underlying40,
  a229 := Tryz.isAgg40,
  z229 := Tryz.sizeOf40,
  v229 := Tryz.zeroValue40 }
end Go.Proofs.YtdnkpogfcpjkpaaGreatDoor
end
