/- Texts joined by a program: Hk, Yn, Yo, Yp, Yq, Yr, Ys, Yt. -/
import Derived.Test.YtbcjnmifflflfaaGreatDoorW23
import Derived.Test.YtbcjnmifflflfaaGreatDoorW19
import Derived.Test.YtbcjnmifflflfaaGreatDoorW16
set_option linter.unusedSimpArgs false
set_option linter.unusedVariables false

section
namespace Go.Proofs.YtbcjnmifflflfaaGreatDoor
open Go.Sort
set_option maxHeartbeats 8000000
set_option maxRecDepth 10000
section gen
variable {P : Program}
theorem CallS.res {g : FuncId} {az : List A} {H : Heap} {K K' : A → Heap → Prop} (h : CallS P g az H K)
    (hk : ∀ r H', K r H' → ∃ r' H'', (∀ x H0, Inv x (H' ++ H0) → Inv x (H'' ++ H0)) ∧ (∀ x v, D x r v → D x r' v) ∧ K' r' H'') : CallS P g az H K' := by
  refine ⟨h.1, fun x args H0 hi hd => (h.2 x args H0 hi hd).mono ?_⟩
  rintro _ _ ⟨y, v, r, H', rfl, rfl, hle, hiy, hv, hkr⟩
  obtain ⟨r', H'', a1, a2, a3⟩ := hk r H' hkr
  exact ⟨y, v, r', H'', rfl, rfl, hle, a1 y H0 hiy, a2 y v hv, a3⟩
theorem sets_D {x : X} {tv : Nat → Value} : ∀ (l : List (Nat × A)) (F : Env), (∀ p ∈ l, D x p.2 (tv p.1)) → (∀ t, D x (F t) (tv t)) → ∀ t, D x (sets l F t) (tv t)
  | [], _, _, hF => hF
  | p :: l, F, hl, hF => by
    intro t
    obtain ⟨s, a⟩ := p
    show D x (upd (sets l F) s a t) (tv t)
    unfold upd
    by_cases h : t = s
    · rw [if_pos h, h]
      exact hl (s, a) (by simp)
    · rw [if_neg h]
      exact sets_D l F (fun q hq => hl q (by simp [hq])) hF t
theorem V.cutI {C : Cfg} {c : Code} {E : Env} {H Hs : Heap} {Q : PostQ} (kv : List (Nat × A)) (hE : ∀ p ∈ kv, ∀ x v, D x (E p.1) v → D x p.2 v) (hi : ∀ x H0, Inv x (H ++ H0) → Inv x (Hs ++ H0)) (h : vcC C c (hdE kv []) Hs Q) : V C c E H Q := by
  intro hf x act H0 ms hinv he
  refine vcC_ok c _ _ _ hf h x act H0 ms (hi x _ hinv) ⟨he.defers, he.size, ?_⟩
  refine sets_D [] _ (by simp) (sets_D kv _ (fun p hp => hE p hp x _ (he.slot p.1)) fun t => ?_)
  simp [anyE, D]
end gen
theorem joined_s {t b : Nat} (kind : Int) (letter : List UInt8) : CallS Tryz.prog 116 [.ptr t b 0, aI kind, .dat (.str letter)] [] fun r H' => ∃ b4, r = .fn 201 [] [.ptr 3 b4 0, .rptr [.int .i64 kind], .rptr [.str letter]] ∧ H' = [(3, .box b4 [.ptr t b 0])] := by
  refine callS_of Tryz.func116 rfl Tryz.ntmps116 (rs := [.tmp 6]) rfl (by kernel_rfl) (by simp) (by kernel_rfl) ?_
  simp
theorem Ds_c {x : X} {a a' : A} {az az' : List A} (h1 : ∀ v, D x a v → D x a' v) (h2 : ∀ vs, Ds x az vs → Ds x az' vs) : ∀ vs, Ds x (a :: az) vs → Ds x (a' :: az') vs
  | [], h => by simp [Ds] at h
  | v :: vs, h => by simp only [Ds] at h ⊢; exact ⟨h1 v h.1, h2 vs h.2⟩
theorem D_fn {x : X} {f : FuncId} {fs fs' cs cs' : List A} (h1 : ∀ vs, Ds x fs vs → Ds x fs' vs) (h2 : ∀ vs, Ds x cs vs → Ds x cs' vs) : ∀ v, D x (.fn f fs cs) v → D x (.fn f fs' cs') v := by
  intro v hv
  simp only [D] at hv ⊢
  obtain ⟨a, b, e, k1, k2⟩ := hv
  exact ⟨a, b, e, h1 _ k1, h2 _ k2⟩
theorem D_tag {x : X} {t t' b o : Nat} : ∀ v, D x (.ptr t b o) v → D x (.ptr t' b o) v := fun v hv => by simpa only [D] using hv
theorem D_mtag {x : X} {t t' b : Nat} : ∀ v, D x (.map t b) v → D x (.map t' b) v := fun v hv => by simpa only [D] using hv
theorem D_nilo {x : X} {t : Nat} : ∀ v, D x .nils v → D x (.own t (.slice none 0 0)) v := fun v hv => by
  simp only [D] at hv ⊢
  exact ⟨hv, none, 0, 0, rfl⟩
theorem Ds_i {x : X} {az : List A} : ∀ vs, Ds x az vs → Ds x az vs := fun _ h => h
theorem D_i {x : X} {a : A} : ∀ v, D x a v → D x a v := fun _ h => h
theorem box_sat {x : X} {b : Nat} {cs cs' : List A} (h : ∀ vs, Ds x cs vs → Ds x cs' vs) : Ent.sat x (.box b cs) → Ent.sat x (.box b cs') := by
  rintro ⟨c, ty, h1, h2⟩
  exact ⟨c, ty, h1, h _ h2⟩
theorem maker_inv {c : Control} {b12 b14 b4 b5 : Nat} {x : X} {H0 : Heap} (hi : Inv x ([(75, Ent.box b5 [A.ptr 14 b14 0]), (74, .box b4 [.ptr 14 b14 0]),
      (14, .box b14 [.dat (.int .i64 c.actuators), .dat (.sl (c.inputs.map encT)), .dat (.sl (c.signals.map encS)), .dat (.sl (c.plus.map encI)), .dat (.sl (c.minus.map encI)), .nils, .nils, .dat (.int .i64 0), .dat (.int .i64 0), .map 12 b12,
        .fn 113 [.ptr 14 b14 0] [], .fn 114 [.ptr 14 b14 0] [], .fn 115 [.ptr 14 b14 0] [],
        .fn 201 [] [.ptr 74 b4 0, .rptr [.int .i64 9], .rptr [.str [80]]], .fn 201 [] [.ptr 75 b5 0, .rptr [.int .i64 8], .rptr [.str [81]]]]),
      (12, .mapS b12 (.int .i64) [])] ++ H0)) : Inv x (mkrH c b14 b4 b5 b12 (.slice none 0 0) (.slice none 0 0) mk0 ++ H0) := by
  have tg : ∀ vs, Ds x [A.ptr 14 b14 0] vs → Ds x [A.ptr 70 b14 0] vs := Ds_c D_tag Ds_i
  have h1 := Inv.swap (g := 75) (e' := .box b5 [.ptr 70 b14 0]) rfl (box_sat tg) (fun _ h => h) hi
  simp only [hset, if_true] at h1
  have h2 := Inv.swap (g := 74) (e' := .box b4 [.ptr 70 b14 0]) rfl (box_sat tg) (fun _ h => h) h1
  simp only [hset, show ¬ (75 : Nat) = 74 by omega, if_true, if_false] at h2
  have h3 := Inv.swap (g := 14) (e' := .box b14 (mkrC c b14 b4 b5 b12 (.slice none 0 0) (.slice none 0 0) mk0)) rfl (box_sat (Ds_c D_i (Ds_c D_i (Ds_c D_i (Ds_c D_i (Ds_c D_i (Ds_c D_nilo (Ds_c D_nilo (Ds_c D_i (Ds_c D_i (Ds_c D_mtag
    (Ds_c (D_fn tg Ds_i) (Ds_c (D_fn tg Ds_i) (Ds_c (D_fn tg Ds_i) Ds_i)))))))))))))) (fun _ h => h) h2
  simp only [hset, show ¬ (75 : Nat) = 14 by omega, show ¬ (74 : Nat) = 14 by omega, if_true, if_false] at h3
  have h4 := Inv.nil (t := 72) (e := .seq (.slice none 0 0) 186 4 []) (Inv.nil (t := 71) (e := .seq (.slice none 0 0) 137 7 []) h3 ⟨rfl, rfl⟩) ⟨rfl, rfl⟩
  have h5 : Inv x ([(72, Ent.seq (.slice none 0 0) 186 4 []), (71, .seq (.slice none 0 0) 137 7 []), (75, .box b5 [.ptr 70 b14 0]), (74, .box b4 [.ptr 70 b14 0]), (70, .box b14 (mkrC c b14 b4 b5 b12 (.slice none 0 0) (.slice none 0 0) mk0)), (73, .mapS b12 (.int .i64) [])] ++ H0) := h4.ents (by simp)
  refine h5.perm ?_
  exact (perm_at [_, _, _, _, _, _] (0, .box 0 []) 6 rfl [4, 1, 0, 5, 3, 2] (by decide)).append_right H0
theorem joinedR {t b : Nat} (τ : Nat) (kind : Int) (letter : List UInt8) (H : Heap) : CallS Tryz.prog 116 [.ptr t b 0, aI kind, .dat (.str letter)] H fun r H' => ∃ b4, r = .fn 201 [] [.ptr τ b4 0, .rptr [.int .i64 kind], .rptr [.str letter]] ∧ H' = (τ, .box b4 [.ptr t b 0]) :: H := by
  refine (CallS.frame (H := []) (H1 := H) (joined_s kind letter)).res ?_
  rintro r H' ⟨_, ⟨b4, rfl, rfl⟩, rfl⟩
  refine ⟨_, _, fun x H0 hi => hi.ents (by simp), fun x v hv => ?_, b4, rfl, rfl⟩
  exact D_fn Ds_i (Ds_c D_tag Ds_i) v hv
theorem Compare_fnT (a b : List UInt8) : CallFn Tryz.prog 121 [.dat (.str a), .dat (.str b)] (aI (Go.Lib.compareBytes a b)) := by
  refine ⟨⟨_, Tryz.func121, by kernel_rfl, by kernel_rfl⟩, fun x args H0 hi hd => ?_⟩
  obtain ⟨u, v, e, hu, hv⟩ := Ds.two hd
  simp only [D, RdL] at hu hv
  subst hu hv
  have ha : args = #[.string ⟨a.toArray⟩, .string ⟨b.toArray⟩] := by
    rcases args with ⟨l⟩
    simp only at e
    rw [e]
  subst ha
  refine (Any.strings_Compare scLays ⟨a.toArray⟩ ⟨b.toArray⟩ x.w).mono ?_
  rintro _ _ ⟨rfl, rfl⟩
  refine ⟨x, _, _, [], rfl, rfl, .refl x, by simpa using hi, ?_, rfl, rfl⟩
  simp only [D, RdL]
theorem drawn1_fn (a b : Made) : CallFn Tryz.prog 120 [.agg (rMade a), .agg (rMade b)] (aI (Go.Lib.compareBytes a.name b.name)) := by
  obtain ⟨ak, an, ad, asg, aa, av, al⟩ := a
  obtain ⟨bk, bn, bd, bs, ba, bv, bl⟩ := b
  refine callFz_of Tryz.func120 rfl Tryz.ntmps120 (rs := [.tmp 4]) rfl (by kernel_rfl) (by simp) (by kernel_rfl) ?_
  cases aa <;> cases ba
  all_goals
    simp [argA]
    intros
    refine (Compare_fnT an bn).s ?_
    simp
theorem few_whole {c : Control} (hc : OkR c) : FewM (wholeM c) 60000 := by
  have f0 := few_start hc
  have f1 := few_gates hc f0 c.signals.length (Nat.le_refl _)
  have f2 := few_sigs hc f1 c.signals.length
  have hlen := hc.len
  have hact := hc.act
  have f4 : FewM (wholeM c) (200 + 256 * c.signals.length + 520 * c.signals.length + 2 * c.actuators.toNat) := few_fold (fun m n i h => few_pil h i) f2.1 _
  exact f4.mono (by omega)
theorem made_ord : OrdOK (fun _ : Made => True) fun a b => Go.Lib.compareBytes a.name b.name := by
  have ho := ltB_ord Made.name
  refine ⟨fun a _ => ?_, fun a b c _ _ _ h1 h2 => ?_, fun a b c _ _ _ h1 h2 => ?_⟩
  · rw [cmpT_lt, ltB_irrefl]
    simp
  · rw [cmpT_lt] at *
    exact ltB_trans h1 h2
  · rw [cmpT_lt] at *
    have := ho.ntrans c b a (by simpa using h2) (by simpa using h1)
    simpa using this
theorem sortM_s (l : List Made) (hl : l.length ≤ 1000000) {t : Nat} {h : Value} : CallS Tryz.prog 119 [.own t h, .fn 120 [] []] [(t, .seq h 137 7 (l.map rMade))] fun r H' => r = .tuple [] ∧ ∃ l' : List Made, l'.Perm l ∧ l'.Pairwise (fun a b => byName b a = false) ∧ H' = [(t, .seq h 137 7 (l'.map rMade))] := by
  refine (sortA_s sfrealizemadeLays 7 (by exact Tryz.isAgg137) (by exact Tryz.sizeOf137) ⟨_, Tryz.func119, by kernel_rfl, by kernel_rfl⟩
    ⟨_, Tryz.func120, by kernel_rfl, by kernel_rfl⟩ rMade (fun _ => rfl) (fun p => ?_) (fun _ => True) (fun a b => Go.Lib.compareBytes a.name b.name) (fun a b _ _ => drawn1_fn a b) made_ord l (fun _ _ => trivial) (by omega)).mono ?_
  · unfold rMade argA
    cases p.arg <;> rfl
  · rintro r H' ⟨rfl, l', h1, h2, rfl⟩
    refine ⟨rfl, l', h1, h2.imp fun {a b} hab => ?_, rfl⟩
    rw [cmpT_lt] at hab
    unfold byName
    simpa using hab
theorem drawn_s (c : Control) (hc : OkC c) : CallS Tryz.prog 60 [aC c] [] fun r H' => (checkC c ≠ 0 ∧ r = .tuple [.nilp, aI (checkC c)]) ∨
    (checkC c = 0 ∧ ∃ b b4 b5 bg hp hj ps, r = .tuple [.ptr 70 b 0, aI 0] ∧ ps.Perm (wholeM c).parts ∧ ps.Pairwise (fun a b => byName b a = false) ∧ H' = mkrH c b b4 b5 bg hp hj { wholeM c with parts := ps }) := by
  refine callS_cut 4 Tryz.func60 rfl Tryz.ntmps60 (rs := [.tmp 2, .tmp 3]) rfl (by kernel_rfl) (by simp) (by kernel_rfl) ?_
  have hck := Check_fn c hc
  simp
  refine hck.s ?_
  simp
  intro hz b12 b14
  refine (joinedR 74 9 [80] _).mono ?_
  rintro _ _ ⟨b4, rfl, rfl⟩
  simp
  refine (joinedR 75 8 [81] _).mono ?_
  rintro _ _ ⟨b5, rfl, rfl⟩
  simp
  refine V.cutI (Hs := mkrH c b14 b4 b5 b12 (.slice none 0 0) (.slice none 0 0) mk0) [(5, .ptr 70 b14 0)] ?_ ?_ ?_
  · simp [D]
  · exact fun x H0 hi => maker_inv hi
  · have hR := okR_of hz
    have hact := hR.act
    have hinp := hR.inp
    simp
    refine ((machine37_s hR.sm ⟨by omega, by omega⟩ (by omega)).on0 rfl).mono ?_
    rintro _ _ ⟨rfl, hp1, hj1, rfl⟩
    simp
    refine ((signals37_s hR).on0 rfl).mono ?_
    rintro _ _ ⟨rfl, hp2, hj2, rfl⟩
    simp
    have hfw := few_whole hR
    refine ((sortM_s (wholeM c).parts (by have := hfw.1; omega)).frame.c1).mono ?_
    rintro _ _ ⟨_, ⟨_, ⟨rfl, ps, hps1, hps2, rfl⟩, rfl⟩, rfl⟩
    simp
    exact ⟨hz, b4, b5, b12, hp2, hj2, ps, hps1, hps2, ⟨rfl, rfl, rfl, rfl, rfl⟩, ⟨rfl, rfl⟩, rfl, rfl, rfl, rfl⟩
def countR (c : Control) : Int × Int := if checkC c ≠ 0 then (0, checkC c) else (countM c, 0)
theorem Count37_fn (c : Control) (hc : OkC c) : CallFn Tryz.prog 15 [aC c] (.tuple [aI (countR c).1, aI (countR c).2]) := by
  have hd := drawn_s c hc
  unfold countR
  refine callFz_of Tryz.func15 rfl Tryz.ntmps15 (rs := [.tmp 2, .tmp 3]) rfl (by kernel_rfl) (by simp) (by kernel_rfl) ?_
  simp
  refine hd.mono ?_
  rintro r H' (⟨hz, rfl⟩ | ⟨hz, b, b4, b5, bg, hp, hj, ps, rfl, hperm, -, rfl⟩)
  · simp [hz]
  · have hl := hperm.length_eq
    rw [whole_len] at hl
    simp [hz, hl]
end Go.Proofs.YtbcjnmifflflfaaGreatDoor
end

section
namespace Go.Proofs.YtbcjnmifflflfaaGreatDoor
set_option maxHeartbeats 8000000
set_option maxRecDepth 10000
def onB (w : List Bool) (k : Int) : Bool := w.getD k.toNat false
theorem on_set {w : List Bool} {k j : Int} (hk : 0 ≤ k ∧ k < w.length) (hj : 0 ≤ j) (b : Bool) : onB (w.set k.toNat b) j = if j = k then b else onB w j := by
  unfold onB
  rw [List.getD_eq_getElem?_getD, List.getD_eq_getElem?_getD, List.getElem?_set]
  by_cases h : j = k
  · subst h
    rw [if_pos rfl, if_pos rfl, if_pos (by omega)]
    rfl
  · rw [if_neg (by omega), if_neg h]
structure Sound (c : Control) (w : List Bool) : Prop where
  len : (w.length : Int) = countC c
  need : ∀ k, 0 ≤ k → onB w k = true → firstC c ≤ k → Need c k
def ClB (c : Control) (w : List Bool) : Prop := ∀ j, firstC c ≤ j → onB w j = true → ∀ u ∈ useL c j, onB w (clsL c u) = true
def leB (w w' : List Bool) : Prop := ∀ k, 0 ≤ k → onB w k = true → onB w' k = true
theorem leB.set {w w1 : List Bool} {k : Int} (h : leB w w1) (hk : 0 ≤ k ∧ k < w1.length) : leB w (w1.set k.toNat true) := by
  intro j hj h1
  rw [on_set hk hj]
  split
  · rfl
  · exact h j hj h1
theorem Sound.set {c : Control} {w : List Bool} {k : Int} (h : Sound c w) (hk : 0 ≤ k ∧ k < countC c) (hn : firstC c ≤ k → Need c k) : Sound c (w.set k.toNat true) := by
  refine ⟨by simpa using h.len, fun j hj h1 h2 => ?_⟩
  rw [on_set (by have := h.len; omega) hj] at h1
  split at h1
  · rename_i e
    subst e
    exact hn h2
  · exact h.need j hj h1 h2
open Classical in
structure Pass (c : Control) (w0 w : List Bool) (i : Nat) : Prop where
  sound : Sound c w
  le : leB w0 w
  stay : ClB c w0 → w = w0
  done : ∀ j : Nat, j < i → onB w0 (firstC c + j) = true → ∀ u ∈ useL c (firstC c + j), onB w (clsL c u) = true
end Go.Proofs.YtbcjnmifflflfaaGreatDoor
end

section
namespace Go.Proofs.YtbcjnmifflflfaaGreatDoor
set_option maxHeartbeats 8000000
set_option maxRecDepth 10000
def posI (l : List Int) (t : Int) : Nat := (l.filter fun w => decide (w < t)).length
theorem posI_cut {l : List Int} {t : Int} : ∀ {i : Nat}, i ≤ l.length → (∀ k, k < i → ∀ v, l[k]? = some v → v < t) → (∀ k, i ≤ k → ∀ v, l[k]? = some v → t ≤ v) → posI l t = i := by
  intro i hi h1 h2
  unfold posI
  have e : l = l.take i ++ l.drop i := (List.take_append_drop i l).symm
  conv => lhs; rw [e]
  rw [List.filter_append, List.filter_eq_self.2, List.filter_eq_nil_iff.2]
  · simp
    omega
  · intro v hv
    obtain ⟨k, hk⟩ := List.getElem?_of_mem hv
    rw [List.getElem?_drop] at hk
    have := h2 (i + k) (by omega) v hk
    simp
    omega
  · intro v hv
    obtain ⟨k, hk⟩ := List.getElem?_of_mem hv
    have hki : k < i := by
      have := (List.getElem?_eq_some_iff.1 hk).1
      simp at this
      omega
    rw [List.getElem?_take] at hk
    rw [if_pos hki] at hk
    have := h1 k hki v hk
    simp
    omega
theorem nanC_fn (n : Int) : CallFn Tryz.prog 196 [aI n] (aB false) := by
  refine callFz_of Tryz.func196 rfl Tryz.ntmps196 (rs := [.tmp 2]) rfl (by kernel_rfl) (by simp) (by kernel_rfl) ?_
  simp
theorem nanS_fn (n : Int) : CallFn Tryz.prog 112 [aI n] (aB false) := by
  refine callFz_of Tryz.func112 rfl Tryz.ntmps112 (rs := [.tmp 2]) rfl (by kernel_rfl) (by simp) (by kernel_rfl) ?_
  simp
theorem less_fn (n m : Int) : CallFn Tryz.prog 111 [aI n, aI m] (aB (decide (n < m))) := by
  have c1 := nanC_fn n
  have c2 := nanC_fn m
  refine callFz_of Tryz.func111 rfl Tryz.ntmps111 (rs := [.tmp 4]) rfl (by kernel_rfl) (by simp) (by kernel_rfl) ?_
  simp
  refine c1.s ?_
  simp
  refine GCall.fn (aB false) (fun h => ⟨h, c2⟩) ?_
  simp
theorem u64_ok {n : Int} (h0 : 0 ≤ n) (h1 : n ≤ 4611686018427387904) : inR .u64 n := by
  unfold inR
  simp only [IntKind.wrap, IntKind.signed, IntKind.bits]
  simp
  omega
theorem shr_one (n : Nat) : shrI .u64 n 1 = ((n / 2 : Nat) : Int) := by
  unfold shrI
  simp [IntKind.bits]
  rw [Int.fdiv_eq_ediv_of_nonneg _ (by omega)]
theorem bsearch_fn (l : List Int) (t : Int) (hs : l.Pairwise (· < ·)) (hl : l.length ≤ 1000000) : CallFn Tryz.prog 57 [aIs l, aI t] (.tuple [aI (posI l t), aB (decide (t ∈ l))]) := by
  have hpw := List.pairwise_iff_getElem.1 hs
  refine callFz_of Tryz.func57 rfl Tryz.ntmps57 (rs := [.tmp 4, .tmp 5]) rfl (by kernel_rfl) (by simp) (by kernel_rfl) ?_
  simp
  refine V.for' [0, 1, 4, 5, 6] (fun p : Nat × Nat => [(7, aI p.1), (8, aI p.2)]) (fun _ => []) (fun p => p.1 ≤ p.2 ∧ p.2 ≤ l.length ∧ (∀ k, k < p.1 → ∀ v, l[k]? = some v → v < t) ∧ ∀ k, p.2 ≤ k → ∀ v, l[k]? = some v → t ≤ v) (fun p => p.2 - p.1) (0, l.length) ⟨⟨Nat.zero_le _, Nat.le_refl _, fun k h => absurd h (Nat.not_lt_zero _), fun k h v hv => ?_⟩, by simp, subP.refl _⟩ ?_
  · rw [List.getElem?_eq_none h] at hv
    cases hv
  · rintro ⟨i, j⟩ ⟨hij, hj, hA, hB⟩
    simp only at hij hj hA hB
    by_cases hlt : i < j
    · obtain ⟨m, hm⟩ : ∃ m : Nat, (i + j) / 2 = m := ⟨_, rfl⟩
      have hml : m < l.length := by omega
      obtain ⟨v, hv⟩ : ∃ v, l[m]'hml = v := ⟨_, rfl⟩
      have hvo : l[m]? = some v := by rw [List.getElem?_eq_getElem hml, hv]
      have hsh := shr_one (i + j)
      rw [hm] at hsh
      have hu := u64_ok (n := (i : Int) + j) (by omega) (by omega)
      have c1 := less_fn v t
      simp at hsh
      simp [hlt, hsh, hml, hv]
      refine ⟨by omega, hu, by omega, c1.s ?_⟩
      by_cases hvt : v < t
      · simp [hvt]
        refine ⟨by omega, m + 1, j, ⟨by omega, hj, fun k hk w hw => ?_, hB⟩, by omega, ?_⟩
        · rcases Nat.lt_or_ge k m with h | h
          · obtain ⟨hkl, hw2⟩ := List.getElem?_eq_some_iff.1 hw
            have := hpw k m hkl hml h
            omega
          · obtain rfl : k = m := by omega
            rw [hvo] at hw
            cases hw
            exact hvt
        · simp [subP.refl]
      · simp [hvt]
        refine ⟨i, m, ⟨by omega, by omega, hA, fun k hk w hw => ?_⟩, by omega, ?_⟩
        · rcases Nat.lt_or_ge m k with h | h
          · obtain ⟨hkl, hw2⟩ := List.getElem?_eq_some_iff.1 hw
            have := hpw m k hml hkl h
            omega
          · obtain rfl : k = m := by omega
            rw [hvo] at hw
            cases hw
            omega
        · simp [subP.refl]
    · obtain rfl : i = j := by omega
      have hpos := posI_cut hj hA hB
      rw [hpos]
      by_cases hil : i < l.length
      · obtain ⟨v, hv⟩ : ∃ v, l[i]'hil = v := ⟨_, rfl⟩
        have hvo : l[i]? = some v := by rw [List.getElem?_eq_getElem hil, hv]
        have hmem : decide (t ∈ l) = (v == t) := by
          rw [Bool.eq_iff_iff]
          simp only [decide_eq_true_eq, beq_iff_eq]
          constructor
          · intro h
            obtain ⟨k, hk⟩ := List.getElem?_of_mem h
            obtain ⟨hkl, hk2⟩ := List.getElem?_eq_some_iff.1 hk
            rcases Nat.lt_trichotomy k i with h1 | h1 | h1
            · have := hA k h1 t hk
              omega
            · subst h1
              rw [hvo] at hk
              cases hk
              rfl
            · have h2 := hpw i k hil hkl h1
              have h3 := hB i (Nat.le_refl _) v hvo
              omega
          · rintro rfl
            exact List.mem_of_getElem? hvo
        rw [hmem]
        have c1 := nanS_fn v
        have c2 := nanS_fn t
        simp [hil, hv]
        refine GCall.fn (aB false) (fun h => ⟨h, c1⟩) ?_
        simp
        refine GCall.fn (aB false) (fun h => ⟨h, c2⟩) ?_
        simp
      · have hmem : decide (t ∈ l) = false := by
          rw [decide_eq_false_iff_not]
          intro h
          obtain ⟨k, hk⟩ := List.getElem?_of_mem h
          have := (List.getElem?_eq_some_iff.1 hk).1
          have := hA k (by omega) t hk
          omega
        rw [hmem]
        have c1 := nanS_fn t
        simp [hil]
        refine GCall.fn (aB false) (fun h => h.elim) ?_
        simp
        refine GCall.fn (aB false) (fun h => h.elim) ?_
        simp
end Go.Proofs.YtbcjnmifflflfaaGreatDoor
end

section
namespace Go.Proofs.YtbcjnmifflflfaaGreatDoor
set_option maxHeartbeats 8000000
set_option maxRecDepth 10000
abbrev rT (s : List UInt8) : List A := [.dat (.str s)]
theorem rowsD_T (xs : List (List UInt8)) : rowsD (xs.map rT) = xs.map encT := by unfold rowsD; rw [List.map_map]; rfl
theorem allD_T (xs : List (List UInt8)) : allD (xs.map rT) = true := by simp [allD, rT, isD]
attribute [simp] rowsD_T allD_T
theorem cloneT_o (xs : List (List UInt8)) (hx : xs.length ≤ 4294967296) : CallOwn Tryz.prog 58 [aTs xs] 9 1 (xs.map rT) := by
  refine CallS.nilcase (az := []) (bz := []) ?_ ?_
  · intro hn
    have hn : xs = [] := by simpa using hn
    subst hn
    refine callO_of Tryz.func58 rfl Tryz.ntmps58 (rs := [.tmp 2]) rfl (by kernel_rfl) (by simp) (by kernel_rfl) ?_
    simp
  · refine callO_of Tryz.func58 rfl Tryz.ntmps58 (rs := [.tmp 2]) rfl (by kernel_rfl) (by simp) (by kernel_rfl) ?_
    simp
    omega
abbrev zeroC : List A := [.dat (.int .i64 0), .nils, .nils, .nils, .nils]
noncomputable abbrev rkv (c : Control) (b2 : Nat) : List (Nat × A) := [(1, .rptr (encC c)), (2, .ptr 2 b2 0), (3, .nils), (4, aI 0), (8, aIs (keepP c))]
theorem reduce_a {c : Control} {b2 : Nat} (hz : checkC c = 0) (hc : OkC c)
    (hrest : vcN ⟨Tryz.prog, none, 142⟩ 1 (restC Tryz.f14 6) (hdE (rkv c b2 ++ [(7, aIs (needL c))]) []) [(2, .box b2 zeroC)] (RetV Tryz.prog [.cell 2 26, .tmp 3, .tmp 4] fun r' H' => (frz H' r').1 ∧ (frz H' r').2 = .tuple [aC (redC c), aIs (keepP c), aI 0])) :
    vcN ⟨Tryz.prog, none, 142⟩ 3 (restC Tryz.f14 3) (hdE [(1, .rptr (encC c)), (2, .ptr 2 b2 0), (3, .nils), (4, aI 0), (6, aIs (alikeC c))] []) [(2, .box b2 zeroC)] (RetV Tryz.prog [.cell 2 26, .tmp 3, .tmp 4] fun r' H' => (frz H' r').1 ∧ (frz H' r').2 = .tuple [aC (redC c), aIs (keepP c), aI 0]) := by
  have hf := fine_of hz
  have hp := pil_of hz
  have hact := hf.act
  have hin := hf.inp
  have hsg := hf.sig
  have h0 := hf.f0
  have hcn := count_first c
  have hcb : countC c ≤ 1000 := by unfold countC; omega
  have hal := alike_len hf
  have hkl := keep_len hf
  have hnl := need_len hf hp
  obtain ⟨M, hM⟩ : ∃ M : Nat, countC c = M := ⟨(countC c).toNat, by omega⟩
  refine vcN_rest rfl ?_
  simp
  refine (needed_fn c hf hc hp hz).s ?_
  simp
  refine (linesQ_fn c hf.sm).s ?_
  simp
  intro u
  refine ⟨by omega, ?_⟩
  refine V.forI (σ := List Int) M [1, 2, 3, 4, 7, 8, 32, 33] (by simp; exact rfl) (fun i _ => [(34, aI i)]) (fun _ ks => [(31, .seq u 3 1 (ks.map rI))]) (fun i ks => (ks.length : Int) = countC c ∧ ks.take i = (keepP c).take i) (List.replicate (countC c).toNat 0) ⟨by simp; omega, by simp⟩ (by simp) ⟨by simp; exact rfl, by simp⟩ ?_ ?_
  · rintro i ks hi ⟨hl, hI⟩
    have hir : (0 : Int) ≤ i ∧ (i : Int) < countC c := by omega
    have g1 := cls_at hf hir
    have k1 := keep_at hir
    rw [Int.toNat_natCast] at g1 k1
    have hial : i < (alikeC c).length := by omega
    have g2 : (alikeC c)[i]'hial = clsL c i := by
      rw [List.getElem?_eq_getElem hial] at g1
      exact Option.some.inj g1
    have hkeep : ∀ v, v = keepL c i → (((ks.set i v).length : Int) = countC c ∧ (ks.set i v).take (i + 1) = (keepP c).take (i + 1)) := by
      rintro v rfl
      refine ⟨by simpa using hl, ?_⟩
      rw [List.take_add_one, List.take_add_one, k1, List.take_set_of_le (Nat.le_refl _), hI, List.getElem?_set_self (by omega)]
    have hkd : keepL c i = if clsL c i < firstC c then clsL c i else if clsL c i ∈ needL c then firstC c + posI (needL c) (clsL c i) else noneV := by
      unfold keepL
      by_cases h1 : clsL c i < firstC c
      · rw [if_pos h1, if_pos h1]
      · rw [if_neg h1, if_neg h1]
        by_cases h2 : Need c (clsL c i)
        · rw [if_pos h2, if_pos ((mem_need hf hp).2 h2)]
          rfl
        · rw [if_neg h2, if_neg fun h => h2 ((mem_need hf hp).1 h)]
    have hsq := bsearch_fn (needL c) (clsL c i) (need_sorted c) (by omega)
    have hpl : posI (needL c) (clsL c i) ≤ (needL c).length := List.length_filter_le _ _
    generalize clsL c i = q at *
    generalize needL c = nl at *
    have hikl : i < ks.length := by omega
    obtain ⟨w, hw⟩ : ∃ w, ks[i]? = some w := ⟨_, List.getElem?_eq_getElem hikl⟩
    simp [hial, g2, hikl, hw]
    refine (firstQ_fn c hf.sm).s ?_
    by_cases h1 : q < firstC c
    · rw [if_pos h1] at hkd
      have h1' : ¬ firstC c ≤ q := by omega
      have := hkeep q hkd.symm
      simp [h1']
      exact ⟨by omega, ks.set i q, this, by rw [List.map_set]⟩
    · rw [if_neg h1] at hkd
      have h1' : firstC c ≤ q := by omega
      simp [h1', hikl, hw]
      refine hsq.s ?_
      by_cases h2 : q ∈ nl
      · rw [if_pos h2] at hkd
        have := hkeep _ hkd.symm
        simp [h1', h2]
        refine (firstQ_fn c hf.sm).s ?_
        simp [hikl, hw]
        exact ⟨by omega, by omega, ks.set i (firstC c + (posI nl q : Int)), this, by rw [List.map_set]⟩
      · rw [if_neg h2] at hkd
        have := hkeep _ hkd.symm
        simp [h1', h2]
        exact ⟨by omega, ks.set i noneV, this, by rw [List.map_set]; rfl⟩
  · rintro ks ⟨hl, hI⟩
    have hks : ks = keepP c := by
      rw [List.take_of_length_le (by omega), List.take_of_length_le (by omega)] at hI
      exact hI
    subst hks
    have hlt : ¬ M < (alikeC c).length := by omega
    simp [hlt]
    refine V.frz1 8 (τ := 31) (h := u) (e := 3) (sz := 1) (rows := (keepP c).map rI) (by simp) (by simp [hget]) (by simp) ?_
    exact V.cutN 1 (rkv c b2 ++ [(7, aIs (needL c))]) (by simp) (by simp) (vcN_of_rest rfl hrest)
theorem count_le0 {c : Control} (hf : Fine c) : countC c ≤ 92 := by
  have := hf.act
  have := hf.inp
  have := hf.sig
  unfold countC
  omega
abbrev outH (c : Control) (b13 : Nat) (m h1 h2 h3 : Value) (sg : List Signal) (pl mi : List Int) : Heap :=
  [(13, .box b13 [.dat (.int .i64 c.actuators), .own 69 m, .own 201 h1, .own 202 h2, .own 203 h3]), (69, .seq m 9 1 (c.inputs.map rT)), (201, .seq h1 86 10 (sg.map sigA)), (202, .seq h2 3 1 (pl.map rI)), (203, .seq h3 3 1 (mi.map rI))]
theorem box_nils {x : X} {c : Control} {b13 b2 : Nat} {m : Value} {H : Heap} (h : Inv x ((13, .box b13 [.dat (.int .i64 c.actuators), .own 69 m, .nils, .nils, .nils]) :: (69, .seq m 9 1 (c.inputs.map rT)) :: (2, .box b2 zeroC) :: H)) :
    Inv x (outH c b13 m (.slice none 0 0) (.slice none 0 0) (.slice none 0 0) [] [] [] ++ ((2, .box b2 zeroC) :: H)) := by
  have h1 : Inv x ((13, .box b13 [.dat (.int .i64 c.actuators), .own 69 m, .own 201 (.slice none 0 0), .own 202 (.slice none 0 0), .own 203 (.slice none 0 0)]) :: (69, .seq m 9 1 (c.inputs.map rT)) :: (2, .box b2 zeroC) :: H) := by
    refine h.same (fun _ h => h) ?_
    rintro ⟨cc, ty, k1, k2⟩
    refine ⟨cc, ty, k1, ?_⟩
    generalize cc.toList = l at k2 ⊢
    rcases l with _ | ⟨v1, _ | ⟨v2, _ | ⟨v3, _ | ⟨v4, _ | ⟨v5, _ | ⟨v6, l⟩⟩⟩⟩⟩⟩ <;> simp [Ds, D] at k2 ⊢
    exact k2
  have h2 := Inv.nil (t := 203) (e := .seq (.slice none 0 0) 3 1 []) (Inv.nil (t := 202) (e := .seq (.slice none 0 0) 3 1 []) (Inv.nil (t := 201) (e := .seq (.slice none 0 0) 86 10 []) h1 ⟨rfl, rfl⟩) ⟨rfl, rfl⟩) ⟨rfl, rfl⟩
  refine h2.perm ?_
  show ([(13, _), (69, _), (201, _), (202, _), (203, _)] ++ ((2, Ent.box b2 zeroC) :: H)).Perm ([(203, _), (202, _), (201, _), (13, _), (69, _)] ++ ((2, Ent.box b2 zeroC) :: H))
  exact ((perm_at [_, _, _, _, _] (0, .box 0 []) 5 rfl [3, 4, 2, 1, 0] (by decide)).append_right _)
theorem reduce_b {c : Control} {b2 : Nat} (hz : checkC c = 0) (hc : OkC c)
    (hrest : ∀ (b13 : Nat) (m : Value), vcN ⟨Tryz.prog, none, 142⟩ 1 (restC Tryz.f14 7) (hdE (rkv c b2 ++ [(7, aIs (needL c)), (13, .ptr 13 b13 0)]) []) (outH c b13 m (.slice none 0 0) (.slice none 0 0) (.slice none 0 0) [] [] [] ++ [(2, .box b2 zeroC)]) (RetV Tryz.prog [.cell 2 26, .tmp 3, .tmp 4] fun r' H' => (frz H' r').1 ∧ (frz H' r').2 = .tuple [aC (redC c), aIs (keepP c), aI 0])) :
    vcN ⟨Tryz.prog, none, 142⟩ 1 (restC Tryz.f14 6) (hdE (rkv c b2 ++ [(7, aIs (needL c))]) []) [(2, .box b2 zeroC)] (RetV Tryz.prog [.cell 2 26, .tmp 3, .tmp 4] fun r' H' => (frz H' r').1 ∧ (frz H' r').2 = .tuple [aC (redC c), aIs (keepP c), aI 0]) := by
  have hf := fine_of hz
  have hin := hf.inp
  refine vcN_rest rfl ?_
  simp
  refine V.draw (fun s => if s = 69 then some (.own 9 1 (c.inputs.map rT)) else none) (by kernel_rfl) (by kernel_rfl) (by simp) ?_
  simp
  intro u
  refine ⟨cloneT_o c.inputs (by omega), fun b => ?_⟩
  refine V.inv (H' := outH c b u (.slice none 0 0) (.slice none 0 0) (.slice none 0 0) [] [] [] ++ [(2, .box b2 zeroC)]) (fun x H0 h => ?_) ?_
  · have := box_nils (c := c) (b13 := b) (b2 := b2) (m := u) (H := H0) h
    rw [List.append_assoc]
    exact this
  · exact V.cutN 1 (rkv c b2 ++ [(7, aIs (needL c)), (13, .ptr 13 b 0)]) (by simp) (by simp) (vcN_of_rest rfl (hrest b u))
theorem red_row {c : Control} (hz : checkC c = 0) (hc : OkC c) {b2 b13 : Nat} {m h1 : Value} {Q : PostQ} {i : Nat} (hi : i < (needL c).length) :
    vcC ⟨Tryz.prog, none, 142⟩ (loopC Tryz.f14 1) (hdE (rkv c b2 ++ [(13, .ptr 13 b13 0), (71, aIs (needL c)), (72, aI (needL c).length)]) [(73, aI i)]) (hcat (outH c b13 m h1 (.slice none 0 0) (.slice none 0 0) (((redC c).signals).take i) [] []) [(2, .box b2 zeroC)])
      (LoopQ Q fun E' H' => ∃ h2, True ∧ (∀ p ∈ [(73, aI (i + 1 : Nat))], wk (E' p.1) p.2) ∧ (∀ p ∈ rkv c b2 ++ [(13, .ptr 13 b13 0), (71, aIs (needL c)), (72, aI (needL c).length)], E' p.1 = p.2) ∧ subN (hcat (outH c b13 m h2 (.slice none 0 0) (.slice none 0 0) (((redC c).signals).take (i + 1)) [] []) [(2, .box b2 zeroC)]) H') := by
  have hf := fine_of hz
  have hp := pil_of hz
  have hact := hf.act
  have hin := hf.inp
  have hsg := hf.sig
  have h0 := hf.f0
  have hcn := count_first c
  have hcb := count_le0 hf
  have hkl := keep_len hf
  have hnl := need_len hf hp
  obtain ⟨k, hk1⟩ : ∃ k, (needL c)[i]'hi = k := ⟨_, rfl⟩
  have hko : (needL c)[i]? = some k := by rw [List.getElem?_eq_getElem hi, hk1]
  have hkn : Need c k := (mem_need hf hp).1 (List.mem_of_getElem? hko)
  obtain ⟨n, x, e1, e2, e3⟩ := red_at hf hp hkn
  rw [pos_at hko] at e3
  obtain ⟨hnl2, hx1⟩ := List.getElem?_eq_some_iff.1 e2
  have ox := hc.sigs x (List.mem_of_getElem? e2)
  have rx := sig_right hf e2
  rw [← hkl] at rx
  have c1 := replaced_fn (keepP c) (by omega) _ x.on (Nat.lt_succ_self _) ox.on rx.1
  have c2 := replaced_fn (keepP c) (by omega) _ x.off (Nat.lt_succ_self _) ox.off rx.2
  have hred : redX c x = { x with on := repE x.on (keepP c), off := repE x.off (keepP c) } := rfl
  rw [List.take_add_one, e3, hred]
  have hsl : ((redC c).signals.take i).length ≤ 1000 := by simp [redC]; omega
  generalize (redC c).signals.take i = sg at *
  generalize needL c = nl at *
  generalize okX x.on (keepP c) = b1 at *
  generalize okX x.off (keepP c) = b2' at *
  generalize repE x.on (keepP c) = p at *
  generalize repE x.off (keepP c) = q at *
  have hkf : k - firstC c = n := by omega
  refine vc_part rfl ?_
  simp [hi, hk1]
  refine V.draw (fun s => if s = 81 then some (.fn (aI (firstC c))) else none) (by kernel_rfl) (by kernel_rfl) (by simp) ?_
  simp [hkf, hnl2, hx1, e2]
  refine ⟨firstQ_fn c hf.sm, by omega, fun b16 => ?_⟩
  refine c1.s ?_
  simp
  refine c2.s ?_
  simp
  omega
theorem reduce_c {c : Control} (hz : checkC c = 0) (hc : OkC c) {b2 b13 : Nat} {m : Value}
    (hrest : ∀ h1, vcC ⟨Tryz.prog, none, 142⟩ (restC Tryz.f14 8) (hdE (rkv c b2 ++ [(13, .ptr 13 b13 0)]) []) (outH c b13 m h1 (.slice none 0 0) (.slice none 0 0) (redC c).signals [] [] ++ [(2, .box b2 zeroC)]) (RetV Tryz.prog [.cell 2 26, .tmp 3, .tmp 4] fun r' H' => (frz H' r').1 ∧ (frz H' r').2 = .tuple [aC (redC c), aIs (keepP c), aI 0])) :
    vcN ⟨Tryz.prog, none, 142⟩ 1 (restC Tryz.f14 7) (hdE (rkv c b2 ++ [(7, aIs (needL c)), (13, .ptr 13 b13 0)]) []) (outH c b13 m (.slice none 0 0) (.slice none 0 0) (.slice none 0 0) [] [] [] ++ [(2, .box b2 zeroC)]) (RetV Tryz.prog [.cell 2 26, .tmp 3, .tmp 4] fun r' H' => (frz H' r').1 ∧ (frz H' r').2 = .tuple [aC (redC c), aIs (keepP c), aI 0]) := by
  have hf := fine_of hz
  have hp := pil_of hz
  have hnl := need_len hf hp
  have hsg := hf.sig
  have hsl : (redC c).signals.length = (needL c).length := by simp [redC]
  refine vcN_rest rfl ?_
  simp
  refine V.forI (σ := Value) (kv := rkv c b2 ++ [(13, .ptr 13 b13 0), (71, aIs (needL c)), (72, aI (needL c).length)]) (needL c).length [1, 2, 3, 4, 8, 13, 71, 72] (by simp) (fun i _ => [(73, aI i)]) (fun i h => outH c b13 m h (.slice none 0 0) (.slice none 0 0) (((redC c).signals).take i) [] []) (fun _ _ => True) (.slice none 0 0) trivial (by simp) ⟨by simp; exact rfl, by simp⟩ ?_ ?_
  · rintro i h hi -
    exact vc_of_part rfl (red_row hz hc hi)
  · rintro h -
    rw [List.take_of_length_le (by omega)]
    simp
    exact V.cut (rkv c b2 ++ [(13, .ptr 13 b13 0)]) (by simp) (by simp) (vc_of_rest rfl (hrest h))
theorem red_pm {c : Control} (hz : checkC c = 0) {b2 b13 : Nat} {m h1 h2 h3 : Value} {Q : PostQ} {i : Nat} (hi : (i : Int) < c.actuators) :
    vcC ⟨Tryz.prog, none, 142⟩ (loopC Tryz.f14 2) (hdE (rkv c b2 ++ [(13, .ptr 13 b13 0), (109, aI c.actuators)]) [(110, aI i)]) (hcat (outH c b13 m h1 h2 h3 (redC c).signals ((redC c).plus.take i) ((redC c).minus.take i)) [(2, .box b2 zeroC)])
      (LoopQ Q fun E' H' => ∃ hh : Value × Value, True ∧ (∀ p ∈ [(110, aI (i + 1 : Nat))], wk (E' p.1) p.2) ∧ (∀ p ∈ rkv c b2 ++ [(13, .ptr 13 b13 0), (109, aI c.actuators)], E' p.1 = p.2) ∧ subN (hcat (outH c b13 m h1 hh.1 hh.2 (redC c).signals ((redC c).plus.take (i + 1)) ((redC c).minus.take (i + 1))) [(2, .box b2 zeroC)]) H') := by
  have hf := fine_of hz
  have hp := pil_of hz
  have hact := hf.act
  have h0 := hf.f0
  have hcb := count_le0 hf
  have hkl := keep_len hf
  have hpl := hp.1
  have hml := hp.2.1
  have hip : i < c.plus.length := by omega
  have him : i < c.minus.length := by omega
  obtain ⟨p, hp1⟩ : ∃ p, c.plus[i]'hip = p := ⟨_, rfl⟩
  obtain ⟨mm, hm1⟩ : ∃ m, c.minus[i]'him = m := ⟨_, rfl⟩
  have hpo : c.plus[i]? = some p := by rw [List.getElem?_eq_getElem hip, hp1]
  have hmo : c.minus[i]? = some mm := by rw [List.getElem?_eq_getElem him, hm1]
  have hpr := hp.2.2.1 p (List.mem_of_getElem? hpo)
  have hmr := hp.2.2.2 mm (List.mem_of_getElem? hmo)
  have g1 := keep_at hpr
  have g2 := keep_at hmr
  have hpk : p.toNat < (keepP c).length := by omega
  have hmk : mm.toNat < (keepP c).length := by omega
  have hpk1 : p < (keepP c).length := by omega
  have hmk1 : mm < (keepP c).length := by omega
  have g3 : (keepP c)[p.toNat]'hpk = keepL c p := by
    rw [List.getElem?_eq_getElem hpk] at g1
    exact Option.some.inj g1
  have g4 : (keepP c)[mm.toNat]'hmk = keepL c mm := by
    rw [List.getElem?_eq_getElem hmk] at g2
    exact Option.some.inj g2
  have e1 : (redC c).plus.take (i + 1) = (redC c).plus.take i ++ [keepL c p] := by
    rw [List.take_add_one]
    simp [redC, hpo]
  have e2 : (redC c).minus.take (i + 1) = (redC c).minus.take i ++ [keepL c mm] := by
    rw [List.take_add_one]
    simp [redC, hmo]
  have l1 : ((redC c).plus.take i).length ≤ 1000 := by simp [redC]; omega
  have l2 : ((redC c).minus.take i).length ≤ 1000 := by simp [redC]; omega
  rw [e1, e2]
  generalize (redC c).plus.take i = pl at *
  generalize (redC c).minus.take i = mi at *
  generalize keepL c p = kp at *
  generalize keepL c mm = km at *
  refine vc_part rfl ?_
  simp [hi]
  refine V.drawX (fun _ => none) (by kernel_rfl) (by kernel_rfl) (by simp) ?_
  simp [hip, hp1, him, hm1, g1, g2, g3, g4, hpr.1, hmr.1, hpk1, hmk1]
  exact ⟨by omega, by omega, by kernel_rfl, by omega, by omega⟩
theorem rowsD_Sg (xs : List Signal) : rowsD (xs.map sigA) = xs.map encS := by unfold rowsD; rw [List.map_map]; rfl
theorem allD_Sg (xs : List Signal) : allD (xs.map sigA) = true := by simp [allD, sigA, isD]
theorem reduce_d {c : Control} (hz : checkC c = 0) {b2 b13 : Nat} {m h1 : Value} :
    vcC ⟨Tryz.prog, none, 142⟩ (restC Tryz.f14 8) (hdE (rkv c b2 ++ [(13, .ptr 13 b13 0)]) []) (outH c b13 m h1 (.slice none 0 0) (.slice none 0 0) (redC c).signals [] [] ++ [(2, .box b2 zeroC)]) (RetV Tryz.prog [.cell 2 26, .tmp 3, .tmp 4] fun r' H' => (frz H' r').1 ∧ (frz H' r').2 = .tuple [aC (redC c), aIs (keepP c), aI 0]) := by
  have hf := fine_of hz
  have hp := pil_of hz
  have hact := hf.act
  have hpl : ((redC c).plus.length : Int) = c.actuators := by simp [redC]; exact hp.1
  have hml : ((redC c).minus.length : Int) = c.actuators := by simp [redC]; exact hp.2.1
  obtain ⟨M, hM⟩ : ∃ M : Nat, c.actuators = M := ⟨c.actuators.toNat, by omega⟩
  refine vc_rest rfl ?_
  simp
  refine V.forI (σ := Value × Value) (kv := rkv c b2 ++ [(13, .ptr 13 b13 0), (109, aI c.actuators)]) M [1, 2, 3, 4, 8, 13, 109] (by simp) (fun i _ => [(110, aI i)]) (fun i hh => outH c b13 m h1 hh.1 hh.2 (redC c).signals ((redC c).plus.take i) ((redC c).minus.take i)) (fun _ _ => True) (.slice none 0 0, .slice none 0 0) trivial (by simp) ⟨by simp; exact rfl, by simp⟩ ?_ ?_
  · rintro i ⟨h2, h3⟩ hi -
    exact vc_of_part rfl (red_pm hz (by omega))
  · rintro ⟨h2, h3⟩ -
    rw [List.take_of_length_le (by omega), List.take_of_length_le (by omega)]
    have hlt : ¬ ((M : Int) < c.actuators) := by omega
    simp [hlt]
    exact ⟨allD_Sg _, rfl, rfl, rowsD_Sg _⟩
def emptyC : Control := ⟨0, [], [], [], []⟩
noncomputable def reduceQ (c : Control) : Control × List Int × Int := if checkC c ≠ 0 then (emptyC, [], checkC c) else (redC c, keepP c, 0)
theorem Reduce_fn (c : Control) (hc : OkC c) : CallFn Tryz.prog 14 [aC c] (.tuple [aC (reduceQ c).1, aIs (reduceQ c).2.1, aI (reduceQ c).2.2]) := by
  refine callFz_cut 3 Tryz.func14 rfl Tryz.ntmps14 (rs := [.cell 2 26, .tmp 3, .tmp 4]) rfl (by kernel_rfl) (by simp) (by kernel_rfl) ?_
  simp
  intro b2
  refine (Check_fn c hc).s ?_
  simp
  by_cases hz : checkC c = 0
  · have hf := fine_of hz
    have e : reduceQ c = (redC c, keepP c, 0) := by simp [reduceQ, hz]
    rw [e]
    simp [hz]
    refine (classes_fn c hf hc).s ?_
    simp
    exact V.cutN 3 [(1, .rptr (encC c)), (2, .ptr 2 b2 0), (3, .nils), (4, aI 0), (6, aIs (alikeC c))] (by simp) (by simp) (vcN_of_rest rfl (reduce_a hz hc (reduce_b hz hc fun b13 m => reduce_c hz hc fun h1 => reduce_d hz)))
  · have e : reduceQ c = (emptyC, [], checkC c) := by simp [reduceQ, hz]
    rw [e]
    simp [hz, emptyC]
end Go.Proofs.YtbcjnmifflflfaaGreatDoor
end

section
namespace Go.Proofs.YtbcjnmifflflfaaGreatDoor
set_option maxHeartbeats 8000000
set_option maxRecDepth 10000
end Go.Proofs.YtbcjnmifflflfaaGreatDoor
end

section
namespace Go.Proofs.YtbcjnmifflflfaaGreatDoor
set_option maxHeartbeats 8000000
set_option maxRecDepth 10000
end Go.Proofs.YtbcjnmifflflfaaGreatDoor
end

section
namespace Go.Proofs.YtbcjnmifflflfaaGreatDoor
set_option maxHeartbeats 8000000
set_option maxRecDepth 10000
theorem does_end {x z : Signal} {p q : Expr} {b12 b13 b14 b16 : Nat} {e1 e2 s1 s2 : Bool} (c5 : CallFn Tryz.prog 191 [aE p, aE z.on] (aB s1)) (c6 : CallFn Tryz.prog 191 [aE q, aE z.off] (aB s2)) :
    vcC ⟨Tryz.prog, none, 110⟩ (restC Tryz.f168 8) (hdE [(12, .ptr 12 b12 0), (13, .ptr 13 b13 0), (14, .ptr 14 b14 0), (15, aB e1), (16, .ptr 16 b16 0), (17, aB e2)] [])
      [(16, .box b16 ((encE q).map A.dat)), (14, .box b14 ((encE p).map A.dat)), (13, .box b13 (sigA z)), (12, .box b12 (sigA x))] (RetV Tryz.prog [.tmp 8] fun r' H' => (frz H' r').1 ∧ (frz H' r').2 = aB (e1 && e2 && x.kind == z.kind && x.delay == z.delay && x.init == z.init && s1 && s2)) := by
  refine vc_rest rfl ?_
  simp [encE_eq]
  refine GCall.fn (aB s1) (fun h => ⟨by first | exact h | trivial, c5⟩) ?_
  simp
  refine GCall.fn (aB s2) (fun h => ⟨by first | exact h | trivial, c6⟩) ?_
  simp
theorem does_mid {x z : Signal} {p q : Expr} {l : List Int} {b12 b13 : Nat} {e1 e2 s1 s2 : Bool} (c1 : CallFn Tryz.prog 59 [aE x.on, aIs l] (.tuple [aE p, aB e1])) (c2 : CallFn Tryz.prog 59 [aE x.off, aIs l] (.tuple [aE q, aB e2]))
    (c5 : CallFn Tryz.prog 191 [aE p, aE z.on] (aB s1)) (c6 : CallFn Tryz.prog 191 [aE q, aE z.off] (aB s2)) :
    vcN ⟨Tryz.prog, none, 110⟩ 2 (restC Tryz.f168 6) (hdE [(2, aIs l), (12, .ptr 12 b12 0), (13, .ptr 13 b13 0)] [])
      [(13, .box b13 (sigA z)), (12, .box b12 (sigA x))] (RetV Tryz.prog [.tmp 8] fun r' H' => (frz H' r').1 ∧ (frz H' r').2 = aB (e1 && e2 && x.kind == z.kind && x.delay == z.delay && x.init == z.init && s1 && s2)) := by
  refine vcN_rest rfl ?_
  simp
  refine c1.s ?_
  simp
  intro b14
  refine c2.s ?_
  simp
  intro b16
  exact V.cut [(12, .ptr 12 b12 0), (13, .ptr 13 b13 0), (14, .ptr 14 b14 0), (15, aB e1), (16, .ptr 16 b16 0), (17, aB e2)] (by simp) (by simp [encE_eq]) (vc_of_rest rfl (does_end (b12 := b12) (b13 := b13) (b14 := b14) (b16 := b16) c5 c6))
structure RelL (a b : Control) (ks : List Int) : Prop where
  len : (ks.length : Int) = countC a
  far : ∀ v ∈ ks, farB b v = false
theorem RelL.i64 {a b : Control} {ks : List Int} (h : RelL a b ks) (hb : Fine b) : ∀ v ∈ ks, I64 v := by
  intro v hv
  have h1 := h.far v hv
  have := hb.act
  have := hb.inp
  have := hb.sig
  unfold farB countC at h1
  simp at h1
  by_cases h2 : v = noneV
  · rw [h2]
    exact ⟨by decide, by decide⟩
  · have := h1 h2
    exact ⟨by omega, by omega⟩
def fitT (b : Control) (ks : List Int) (x : Signal) (y : Int) : Bool := if y < firstC b then false else match b.signals[(y - firstC b).toNat]? with
    | none => false
    | some z => okX x.on ks && okX x.off ks && x.kind == z.kind && x.delay == z.delay && x.init == z.init && eqE (repE x.on ks) z.on && eqE (repE x.off ks) z.off
theorem does_tail {a b : Control} {ks : List Int} {i : Nat} {x : Signal} {y : Int} (ha : Fine a) (hb : Fine b) (oa : OkC a) (ob : OkC b) (hR : RelL a b ks) (hx : a.signals[i]? = some x) (hyr : 0 ≤ y ∧ y < countC b) :
    vcN ⟨Tryz.prog, none, 110⟩ 2 (restC Tryz.f168 4) (hdE [(2, aIs ks), (3, aI (firstC a + i)), (4, .rptr (encC a)), (5, .rptr (encC b)), (9, aI y)] []) [] (RetV Tryz.prog [.tmp 8] fun r' H' => (frz H' r').1 ∧ (frz H' r').2 = aB (fitT b ks x y)) := by
  have h0 := ha.f0
  have h1 := hb.f0
  have hca := count_first a
  have hcb := count_first b
  have hla := count_le0 ha
  have hlb := count_le0 hb
  have hlen := hR.len
  obtain ⟨hi, hx1⟩ := List.getElem?_eq_some_iff.1 hx
  have rx := sig_right ha hx
  have ca := firstQ_fn a ha.sm
  have cb := firstQ_fn b hb.sm
  refine vcN_rest rfl ?_
  unfold fitT
  simp
  refine cb.s ?_
  by_cases hyb : y < firstC b
  · rw [if_pos hyb]
    simp [hyb]
  · rw [if_neg hyb]
    obtain ⟨j, hj⟩ : ∃ j : Nat, y = firstC b + j := ⟨(y - firstC b).toNat, by omega⟩
    have hjl : j < b.signals.length := by omega
    have hz : b.signals[j]? = some b.signals[j] := List.getElem?_eq_getElem hjl
    obtain ⟨z, hz1⟩ : ∃ z, b.signals[j]'hjl = z := ⟨_, rfl⟩
    rw [hz1] at hz
    have e1 : y - firstC b = j := by omega
    have e2 : firstC a + (i : Int) - firstC a = i := by omega
    have e3 : (y - firstC b).toNat = j := by omega
    rw [e3, hz]
    simp only
    have rz := sig_right hb hz
    have lx := fine_light ha hx
    have lz := fine_light hb hz
    have ox := oa.sigs x (List.mem_of_getElem? hx)
    have oz := ob.sigs z (List.mem_of_getElem? hz)
    rw [← hlen] at rx
    have c1 := replaced_fn ks (by omega) _ x.on (Nat.lt_succ_self _) ox.on rx.1
    have c2 := replaced_fn ks (by omega) _ x.off (Nat.lt_succ_self _) ox.off rx.2
    have hI := hR.i64 hb
    have o1 := rep_ok hI _ x.on (Nat.lt_succ_self _) ox.on
    have o3 := rep_ok hI _ x.off (Nat.lt_succ_self _) ox.off
    have c5 := sameE_fn _ _ o1 oz.on
    have c6 := sameE_fn _ _ o3 oz.off
    have s1 : sameX (repE x.on ks) z.on = eqE (repE x.on ks) z.on := by unfold sameX; rw [rep_light rx.1, lx.1, lz.1]; rfl
    have s2 : sameX (repE x.off ks) z.off = eqE (repE x.off ks) z.off := by unfold sameX; rw [rep_light rx.2, lx.2, lz.2]; rfl
    rw [s1] at c5
    rw [s2] at c6
    have hyb2 : firstC b ≤ y := by omega
    generalize repE x.on ks = p at *
    generalize repE x.off ks = q at *
    generalize okX x.on ks = b1 at *
    generalize okX x.off ks = b2 at *
    generalize eqE p z.on = s1' at *
    generalize eqE q z.off = s2' at *
    simp [hyb]
    refine V.draw (fun s => if s = 47 then some (.fn (aI (firstC a))) else if s = 55 then some (.fn (aI (firstC b))) else none) (by kernel_rfl) (by kernel_rfl) (by simp) ?_
    simp [e1, e2, hi, hx1, hjl, hz1, hx, hz]
    exact ⟨ca, by omega, cb, by omega, fun b12 b13 => V.cutN 2 [(2, aIs ks), (12, .ptr 12 b12 0), (13, .ptr 13 b13 0)] (by simp) (by simp) (vcN_of_rest rfl (does_mid (b12 := b12) (b13 := b13) c1 c2 c5 c6))⟩
theorem does_fn (a b : Control) (ks : List Int) (i : Nat) (hi : i < a.signals.length) (ha : Fine a) (hb : Fine b) (oa : OkC a) (ob : OkC b) (hR : RelL a b ks) : CallFn Tryz.prog 168 [aC a, aC b, aIs ks, aI (firstC a + i)] (aB (fitB a b ks i)) := by
  have h0 := ha.f0
  have h1 := hb.f0
  have hca := count_first a
  have hcb := count_first b
  have hla := count_le0 ha
  have hlb := count_le0 hb
  have hlen := hR.len
  have hkr : 0 ≤ firstC a + (i : Int) ∧ firstC a + (i : Int) < countC a := by omega
  have hx : a.signals[i]? = some a.signals[i] := List.getElem?_eq_getElem hi
  obtain ⟨x, hx1⟩ : ∃ x, a.signals[i]'hi = x := ⟨_, rfl⟩
  rw [hx1] at hx
  have cr := repeats_fn a (firstC a + i) ha.sm h0 hkr
  have hrep : repP a (firstC a + i) = (x.on.index, x.kind == 0 && x.on.op == 1) := by
    unfold repP
    rw [if_neg (by omega), show (firstC a + (i : Int) - firstC a).toNat = i by omega, hx]
  rw [hrep] at cr
  have hil : (firstC a + (i : Int)).toNat < ks.length := by omega
  obtain ⟨y, hy⟩ : ∃ y, ks[(firstC a + (i : Int)).toNat]'hil = y := ⟨_, rfl⟩
  have hyo : ks[(firstC a + (i : Int)).toNat]? = some y := by rw [List.getElem?_eq_getElem hil, hy]
  have hyf := hR.far y (List.mem_of_getElem? hyo)
  have hfit : fitB a b ks i = fitX a b ks x y := by
    unfold fitB
    rw [hx]
    simp only
    rw [List.getD_eq_getElem?_getD, hyo]
    rfl
  have rx := sig_right ha hx
  have hil1 : firstC a + (i : Int) < ks.length := by omega
  have hil2 : 0 ≤ firstC a + (i : Int) := by omega
  rw [hfit]
  unfold fitX
  by_cases hn : y = noneV
  · rw [if_pos hn]
    refine callFz_cut 4 Tryz.func168 rfl Tryz.ntmps168 (rs := [.tmp 8]) rfl (by kernel_rfl) (by simp) (by kernel_rfl) ?_
    simp [hyo, hil1, hil2, hy, hn, noneV]
  · have hn2 : ¬ y = -1099511627776 := hn
    have hyr : 0 ≤ y ∧ y < countC b := by
      unfold farB at hyf
      simp at hyf
      have := hyf hn
      omega
    rw [if_neg hn]
    refine callFz_cut 4 Tryz.func168 rfl Tryz.ntmps168 (rs := [.tmp 8]) rfl (by kernel_rfl) (by simp) (by kernel_rfl) ?_
    simp [hyo, hil1, hil2, hy, hn2]
    refine cr.s ?_
    have htl := does_tail ha hb oa ob hR hx hyr
    by_cases hrp : x.kind = 0 ∧ x.on.op = 1
    · have hv : x.on.index ∈ varsE x.on := by rw [varsE_eq]; simp [hrp.2]
      have hix := vars_check (ha.on hx).1 x.on.index hv
      have hxl : x.on.index.toNat < ks.length := by omega
      have hxl1 : x.on.index < ks.length := by omega
      obtain ⟨w, hw⟩ : ∃ w, ks[x.on.index.toNat]'hxl = w := ⟨_, rfl⟩
      have hwo : ks[x.on.index.toNat]? = some w := by rw [List.getElem?_eq_getElem hxl, hw]
      have hwg : ks.getD x.on.index.toNat 0 = w := by rw [List.getD_eq_getElem?_getD, hwo]; rfl
      rw [hwg]
      by_cases hwy : w = y
      · rw [if_pos ⟨hrp.1, hrp.2, hwy⟩]
        simp [hrp.1, hrp.2, hxl1, hix.1, hwo, hw, hwy]
      · rw [if_neg (fun h => hwy h.2.2)]
        simp [hrp.1, hrp.2, hxl1, hix.1, hwo, hw, hwy]
        exact V.cutN 2 [(2, aIs ks), (3, aI (firstC a + i)), (4, .rptr (encC a)), (5, .rptr (encC b)), (9, aI y)] (by simp) (by simp) (vcN_of_rest rfl htl)
    · rw [if_neg (fun h => hrp ⟨h.1, h.2.1⟩)]
      have hrb : (x.kind == 0 && x.on.op == 1) = false := by
        rw [Bool.and_eq_false_iff]
        by_cases hk : x.kind = 0
        · right
          simp
          exact fun h => hrp ⟨hk, h⟩
        · left
          simpa using hk
      cases hw : ks[x.on.index.toNat]? with
      | none =>
        simp [hrb, hw]
        exact V.cutN 2 [(2, aIs ks), (3, aI (firstC a + i)), (4, .rptr (encC a)), (5, .rptr (encC b)), (9, aI y)] (by simp) (by simp) (vcN_of_rest rfl htl)
      | some w =>
        simp [hrb, hw]
        exact V.cutN 2 [(2, aIs ks), (3, aI (firstC a + i)), (4, .rptr (encC a)), (5, .rptr (encC b)), (9, aI y)] (by simp) (by simp) (vcN_of_rest rfl htl)
end Go.Proofs.YtbcjnmifflflfaaGreatDoor
end

section
namespace Go.Proofs.YtbcjnmifflflfaaGreatDoor
set_option maxHeartbeats 8000000
set_option maxRecDepth 10000
theorem allN_bad {p : Nat → Bool} {n i : Nat} (hi : i < n) (h : p i = false) : (List.range n).all p = false := by
  rw [List.all_eq_false]
  exact ⟨i, List.mem_range.2 hi, by simp [h]⟩
theorem allN_good {p : Nat → Bool} {n : Nat} (h : ∀ i, i < n → p i = true) : (List.range n).all p = true := by
  rw [List.all_eq_true]
  exact fun i hi => h i (List.mem_range.1 hi)
def frA (ks : List Int) (k : Nat) : Bool := ks.getD k 0 == k
def frB (a b : Control) (ks : List Int) (i : Nat) : Bool := ks.getD (a.plus.getD i 0).toNat 0 == b.plus.getD i 0 && ks.getD (a.minus.getD i 0).toNat 0 == b.minus.getD i 0
theorem frame_is (a b : Control) (ks : List Int) : frameB a b ks = (a.actuators == b.actuators && decide (a.inputs = b.inputs) && (List.range (firstC a).toNat).all (frA ks) && (List.range a.actuators.toNat).all (frB a b ks)) := rfl
theorem frB_at {a b : Control} {ks : List Int} (pa : PilC a) (pb : PilC b) (hR : RelL a b ks) {i : Nat} (hi : (i : Int) < a.actuators) (hab : a.actuators = b.actuators) :
    ∃ (p m p' m' u v : Int), a.plus[i]? = some p ∧ a.minus[i]? = some m ∧ b.plus[i]? = some p' ∧ b.minus[i]? = some m' ∧ (0 ≤ p ∧ p < ks.length ∧ ks[p.toNat]? = some u) ∧ (0 ≤ m ∧ m < ks.length ∧ ks[m.toNat]? = some v) ∧ frB a b ks i = (u == p' && v == m') := by
  have l1 := pa.1
  have l2 := pa.2.1
  have l3 := pb.1
  have l4 := pb.2.1
  have hlen := hR.len
  have g1 : a.plus[i]? = some a.plus[i] := List.getElem?_eq_getElem (by omega)
  have g2 : a.minus[i]? = some a.minus[i] := List.getElem?_eq_getElem (by omega)
  have g3 : b.plus[i]? = some b.plus[i] := List.getElem?_eq_getElem (by omega)
  have g4 : b.minus[i]? = some b.minus[i] := List.getElem?_eq_getElem (by omega)
  generalize a.plus[i] = p at *
  generalize a.minus[i] = m at *
  generalize b.plus[i] = p' at *
  generalize b.minus[i] = m' at *
  have r1 := pa.2.2.1 p (List.mem_of_getElem? g1)
  have r2 := pa.2.2.2 m (List.mem_of_getElem? g2)
  have k1 : ks[p.toNat]? = some ks[p.toNat] := List.getElem?_eq_getElem (by omega)
  have k2 : ks[m.toNat]? = some ks[m.toNat] := List.getElem?_eq_getElem (by omega)
  refine ⟨p, m, p', m', _, _, g1, g2, g3, g4, ⟨r1.1, by omega, k1⟩, ⟨r2.1, by omega, k2⟩, ?_⟩
  unfold frB
  simp only [List.getD_eq_getElem?_getD, g1, g2, g3, g4, Option.getD_some, k1, k2]
theorem framed_fn (a b : Control) (ks : List Int) (ha : Fine a) (hb : Fine b) (pa : PilC a) (pb : PilC b) (hR : RelL a b ks) : CallFn Tryz.prog 167 [aC a, aC b, aIs ks] (aB (frameB a b ks)) := by
  have h0 := ha.f0
  have hact := ha.act
  have hla := count_le0 ha
  have hca := count_first a
  have hlen := hR.len
  have i1 := ha.inp
  have i2 := hb.inp
  have c1 := eqT_fn a.inputs b.inputs (by unfold Sh; omega) (by unfold Sh; omega)
  have hp1 := pa.1
  have hm1 := pa.2.1
  have hp2 := pb.1
  have hm2 := pb.2.1
  obtain ⟨F, hF⟩ : ∃ F : Nat, firstC a = F := ⟨(firstC a).toNat, by omega⟩
  obtain ⟨M, hM⟩ : ∃ M : Nat, a.actuators = M := ⟨a.actuators.toNat, by omega⟩
  rw [frame_is, show (firstC a).toNat = F by omega, show a.actuators.toNat = M by omega]
  refine callFz_of Tryz.func167 rfl Tryz.ntmps167 (rs := [.tmp 6]) rfl (by kernel_rfl) (by simp) (by kernel_rfl) ?_
  simp
  refine GCall.fn (aB (decide (a.inputs = b.inputs))) (fun h => ⟨by first | exact h | trivial, c1⟩) ?_
  by_cases hab : a.actuators = b.actuators ∧ a.inputs = b.inputs
  · obtain ⟨h1, h2⟩ := hab
    simp [← h1, ← h2]
    refine (firstQ_fn a ha.sm).s ?_
    simp [hF]
    refine V.forI (σ := Unit) F [2, 3, 4, 23] (by simp; exact rfl) (fun i _ => [(24, aI i)]) (fun _ _ => []) (fun i _ => ∀ j, j < i → frA ks j = true) () (by intro j hj; omega) (by simp) ⟨by simp; exact rfl, by simp⟩ ?_ ?_
    · rintro i - hi hI
      have hil : i < ks.length := by omega
      have hiF : (i : Int) < firstC a := by omega
      obtain ⟨w, hw⟩ : ∃ w, ks[i]'hil = w := ⟨_, rfl⟩
      have hwo : ks[i]? = some w := by rw [List.getElem?_eq_getElem hil, hw]
      have hfr : frA ks i = (w == i) := by unfold frA; rw [List.getD_eq_getElem?_getD, hwo]; rfl
      by_cases h : w = i
      · have hI2 : ∀ j, j < i + 1 → frA ks j = true := by
          intro j hj
          rcases Nat.lt_or_ge j i with h3 | h3
          · exact hI j h3
          · obtain rfl : j = i := by omega
            rw [hfr, h]
            simp
        simp [hiF, hil, hw, h]
        exact ⟨by omega, hI2⟩
      · have hbad : (List.range F).all (frA ks) = false := allN_bad hi (by rw [hfr]; simpa using h)
        rw [hbad]
        simp [hiF, hil, hw, h]
    · rintro - hI
      have hgood := allN_good hI
      rw [hgood]
      have hFl : ¬ ((F : Int) < firstC a) := by omega
      simp [hFl]
      refine V.forI (σ := Unit) M [2, 3, 4, 35] (by simp; exact rfl) (fun i _ => [(36, aI i)]) (fun _ _ => []) (fun i _ => ∀ j, j < i → frB a b ks j = true) () (by intro j hj; omega) (by simp) ⟨by simp; exact rfl, by simp⟩ ?_ ?_
      · rintro i - hi hI
        obtain ⟨p, m, p', m', u, v, g1, g2, g3, g4, ⟨r1, r2, k1⟩, ⟨r3, r4, k2⟩, hfr⟩ := frB_at pa pb hR (i := i) (by omega) h1
        obtain ⟨w1, x1⟩ := List.getElem?_eq_some_iff.1 g1
        obtain ⟨w2, x2⟩ := List.getElem?_eq_some_iff.1 g2
        obtain ⟨w3, x3⟩ := List.getElem?_eq_some_iff.1 g3
        obtain ⟨w4, x4⟩ := List.getElem?_eq_some_iff.1 g4
        obtain ⟨w5, x5⟩ := List.getElem?_eq_some_iff.1 k1
        obtain ⟨w6, x6⟩ := List.getElem?_eq_some_iff.1 k2
        have hiM : (i : Int) < a.actuators := by omega
        simp [hiM]
        refine V.draw (fun _ => none) (by kernel_rfl) (by kernel_rfl) (by simp) ?_
        simp [w1, w2, w3, w4, w5, w6, x1, x2, x3, x4, x5, x6, r1, r2, r3, r4, g1, g2, g3, g4, k1, k2]
        refine ⟨fun h _ _ => ⟨i, hi, ?_⟩, fun e1 e2 => ⟨by omega, fun j hj => ?_⟩⟩
        · rw [hfr, Bool.and_eq_false_iff]
          rcases h with h | h
          · exact .inl (by simpa using h)
          · exact .inr (by simpa using h)
        · rcases Nat.lt_or_ge j i with h3 | h3
          · exact hI j h3
          · obtain rfl : j = i := by omega
            rw [hfr, e1, e2]
            simp
      · rintro - hI
        have hgood := allN_good hI
        rw [hgood]
        have hMl : ¬ ((M : Int) < a.actuators) := by omega
        simp [hMl, ← h1, ← h2]
  · have e : (a.actuators == b.actuators && decide (a.inputs = b.inputs)) = false := by
      rw [Bool.eq_false_iff]
      intro h
      simp only [Bool.and_eq_true, beq_iff_eq, decide_eq_true_eq] at h
      exact hab h
    rw [e]
    by_cases h1 : a.actuators = b.actuators
    · have h2 : ¬ a.inputs = b.inputs := fun h => hab ⟨h1, h⟩
      simp [h1, h2]
    · simp [h1]
end Go.Proofs.YtbcjnmifflflfaaGreatDoor
end
