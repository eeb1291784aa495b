/- Texts joined by a program: Hk, Yn, Yo, Yp, Yq, Yr, Zd, Ys, Yt, Yu, Zg, Yv, Ze, Yw, Hl. -/
import Derived.Test.YtbcjnmifflflfaaGreatDoorP21
import Derived.Test.YtbcjnmifflflfaaGreatDoorP20
import Derived.Test.YtbcjnmifflflfaaGreatDoorP18
import Derived.Test.YtbcjnmifflflfaaGreatDoorP19
import Derived.Test.YtbcjnmifflflfaaGreatDoorP17
import Derived.Test.YtbcjnmifflflfaaGreatDoorP13
import Derived.Test.YtbcjnmifflflfaaGreatDoorP16
set_option linter.unusedSimpArgs false
set_option linter.unusedVariables false

/- Contracts of realize: drawn, Count. -/
section
namespace Go.Proofs.YtbcjnmifflflfaaGreatDoor
open Go.Sort
set_option maxHeartbeats 8000000
set_option maxRecDepth 10000

section gen
variable {P : Program}
theorem CallS.res {g : FuncId} {az : List A} {H : Heap} {K K' : A → Heap → Prop} (h : CallS P g az H K)
    (hk : ∀ r H', K r H' → ∃ r' H'', (∀ x H0, Inv x (H' ++ H0) → Inv x (H'' ++ H0)) ∧ (∀ x v, D x r v → D x r' v) ∧ K' r' H'') : CallS P g az H K' := by
  refine ⟨h.1, fun x args H0 hi hd => (h.2 x args H0 hi hd).mono ?_⟩
  rintro _ _ ⟨y, v, r, H', rfl, rfl, hle, hiy, hv, hkr⟩
  obtain ⟨r', H'', a1, a2, a3⟩ := hk r H' hkr
  exact ⟨y, v, r', H'', rfl, rfl, hle, a1 y H0 hiy, a2 y v hv, a3⟩
theorem sets_D {x : X} {tv : Nat → Value} : ∀ (l : List (Nat × A)) (F : Env), (∀ p ∈ l, D x p.2 (tv p.1)) → (∀ t, D x (F t) (tv t)) → ∀ t, D x (sets l F t) (tv t)
  | [], _, _, hF => hF
  | p :: l, F, hl, hF => by
    intro t
    obtain ⟨s, a⟩ := p
    show D x (upd (sets l F) s a t) (tv t)
    unfold upd
    by_cases h : t = s
    · rw [if_pos h, h]
      exact hl (s, a) (by simp)
    · rw [if_neg h]
      exact sets_D l F (fun q hq => hl q (by simp [hq])) hF t
/-- From here on the slots and the memory are seen otherwise. -/
theorem V.cutI {C : Cfg} {c : Code} {E : Env} {H Hs : Heap} {Q : PostQ} (kv : List (Nat × A)) (hE : ∀ p ∈ kv, ∀ x v, D x (E p.1) v → D x p.2 v) (hi : ∀ x H0, Inv x (H ++ H0) → Inv x (Hs ++ H0)) (h : vcC C c (hdE kv []) Hs Q) : V C c E H Q := by
  intro hf x act H0 ms hinv he
  refine vcC_ok c _ _ _ hf h x act H0 ms (hi x _ hinv) ⟨he.defers, he.size, ?_⟩
  refine sets_D [] _ (by simp) (sets_D kv _ (fun p hp => hE p hp x _ (he.slot p.1)) fun t => ?_)
  simp [anyE, D]
end gen
theorem joined_s {t b : Nat} (kind : Int) (letter : List UInt8) : CallS Tryz.prog 116 [.ptr t b 0, aI kind, .dat (.str letter)] [] fun r H' => ∃ b4, r = .fn 201 [] [.ptr 3 b4 0, .rptr [.int .i64 kind], .rptr [.str letter]] ∧ H' = [(3, .box b4 [.ptr t b 0])] := by
  refine callS_of Tryz.func116 rfl Tryz.ntmps116 (rs := [.tmp 6]) rfl (by kernel_rfl) (by simp) (by kernel_rfl) ?_
  simp
theorem Ds_c {x : X} {a a' : A} {az az' : List A} (h1 : ∀ v, D x a v → D x a' v) (h2 : ∀ vs, Ds x az vs → Ds x az' vs) : ∀ vs, Ds x (a :: az) vs → Ds x (a' :: az') vs
  | [], h => by simp [Ds] at h
  | v :: vs, h => by simp only [Ds] at h ⊢; exact ⟨h1 v h.1, h2 vs h.2⟩
theorem D_fn {x : X} {f : FuncId} {fs fs' cs cs' : List A} (h1 : ∀ vs, Ds x fs vs → Ds x fs' vs) (h2 : ∀ vs, Ds x cs vs → Ds x cs' vs) : ∀ v, D x (.fn f fs cs) v → D x (.fn f fs' cs') v := by
  intro v hv
  simp only [D] at hv ⊢
  obtain ⟨a, b, e, k1, k2⟩ := hv
  exact ⟨a, b, e, h1 _ k1, h2 _ k2⟩
theorem D_tag {x : X} {t t' b o : Nat} : ∀ v, D x (.ptr t b o) v → D x (.ptr t' b o) v := fun v hv => by simpa only [D] using hv
theorem D_mtag {x : X} {t t' b : Nat} : ∀ v, D x (.map t b) v → D x (.map t' b) v := fun v hv => by simpa only [D] using hv
theorem D_nilo {x : X} {t : Nat} : ∀ v, D x .nils v → D x (.own t (.slice none 0 0)) v := fun v hv => by
  simp only [D] at hv ⊢
  exact ⟨hv, none, 0, 0, rfl⟩
theorem Ds_i {x : X} {az : List A} : ∀ vs, Ds x az vs → Ds x az vs := fun _ h => h
theorem D_i {x : X} {a : A} : ∀ v, D x a v → D x a v := fun _ h => h
theorem box_sat {x : X} {b : Nat} {cs cs' : List A} (h : ∀ vs, Ds x cs vs → Ds x cs' vs) : Ent.sat x (.box b cs) → Ent.sat x (.box b cs') := by
  rintro ⟨c, ty, h1, h2⟩
  exact ⟨c, ty, h1, h _ h2⟩
theorem maker_inv {c : Control} {b12 b14 b4 b5 : Nat} {x : X} {H0 : Heap} (hi : Inv x ([(75, Ent.box b5 [A.ptr 14 b14 0]), (74, .box b4 [.ptr 14 b14 0]),
      (14, .box b14 [.dat (.int .i64 c.actuators), .dat (.sl (c.inputs.map encT)), .dat (.sl (c.signals.map encS)), .dat (.sl (c.plus.map encI)), .dat (.sl (c.minus.map encI)), .nils, .nils, .dat (.int .i64 0), .dat (.int .i64 0), .map 12 b12,
        .fn 113 [.ptr 14 b14 0] [], .fn 114 [.ptr 14 b14 0] [], .fn 115 [.ptr 14 b14 0] [],
        .fn 201 [] [.ptr 74 b4 0, .rptr [.int .i64 9], .rptr [.str [80]]], .fn 201 [] [.ptr 75 b5 0, .rptr [.int .i64 8], .rptr [.str [81]]]]),
      (12, .mapS b12 (.int .i64) [])] ++ H0)) : Inv x (mkrH c b14 b4 b5 b12 (.slice none 0 0) (.slice none 0 0) mk0 ++ H0) := by
  have tg : ∀ vs, Ds x [A.ptr 14 b14 0] vs → Ds x [A.ptr 70 b14 0] vs := Ds_c D_tag Ds_i
  have h1 := Inv.swap (g := 75) (e' := .box b5 [.ptr 70 b14 0]) rfl (box_sat tg) (fun _ h => h) hi
  simp only [hset, if_true] at h1
  have h2 := Inv.swap (g := 74) (e' := .box b4 [.ptr 70 b14 0]) rfl (box_sat tg) (fun _ h => h) h1
  simp only [hset, show ¬ (75 : Nat) = 74 by omega, if_true, if_false] at h2
  have h3 := Inv.swap (g := 14) (e' := .box b14 (mkrC c b14 b4 b5 b12 (.slice none 0 0) (.slice none 0 0) mk0)) rfl (box_sat (Ds_c D_i (Ds_c D_i (Ds_c D_i (Ds_c D_i (Ds_c D_i (Ds_c D_nilo (Ds_c D_nilo (Ds_c D_i (Ds_c D_i (Ds_c D_mtag
    (Ds_c (D_fn tg Ds_i) (Ds_c (D_fn tg Ds_i) (Ds_c (D_fn tg Ds_i) Ds_i)))))))))))))) (fun _ h => h) h2
  simp only [hset, show ¬ (75 : Nat) = 14 by omega, show ¬ (74 : Nat) = 14 by omega, if_true, if_false] at h3
  have h4 := Inv.nil (t := 72) (e := .seq (.slice none 0 0) 186 4 []) (Inv.nil (t := 71) (e := .seq (.slice none 0 0) 137 7 []) h3 ⟨rfl, rfl⟩) ⟨rfl, rfl⟩
  have h5 : Inv x ([(72, Ent.seq (.slice none 0 0) 186 4 []), (71, .seq (.slice none 0 0) 137 7 []), (75, .box b5 [.ptr 70 b14 0]), (74, .box b4 [.ptr 70 b14 0]), (70, .box b14 (mkrC c b14 b4 b5 b12 (.slice none 0 0) (.slice none 0 0) mk0)), (73, .mapS b12 (.int .i64) [])] ++ H0) := h4.ents (by simp)
  refine h5.perm ?_
  exact (perm_at [_, _, _, _, _, _] (0, .box 0 []) 6 rfl [4, 1, 0, 5, 3, 2] (by decide)).append_right H0
theorem joinedR {t b : Nat} (τ : Nat) (kind : Int) (letter : List UInt8) (H : Heap) : CallS Tryz.prog 116 [.ptr t b 0, aI kind, .dat (.str letter)] H fun r H' => ∃ b4, r = .fn 201 [] [.ptr τ b4 0, .rptr [.int .i64 kind], .rptr [.str letter]] ∧ H' = (τ, .box b4 [.ptr t b 0]) :: H := by
  refine (CallS.frame (H := []) (H1 := H) (joined_s kind letter)).res ?_
  rintro r H' ⟨_, ⟨b4, rfl, rfl⟩, rfl⟩
  refine ⟨_, _, fun x H0 hi => hi.ents (by simp), fun x v hv => ?_, b4, rfl, rfl⟩
  exact D_fn Ds_i (Ds_c D_tag Ds_i) v hv
theorem Compare_fnT (a b : List UInt8) : CallFn Tryz.prog 121 [.dat (.str a), .dat (.str b)] (aI (Go.Lib.compareBytes a b)) := by
  refine ⟨⟨_, Tryz.func121, by kernel_rfl, by kernel_rfl⟩, fun x args H0 hi hd => ?_⟩
  obtain ⟨u, v, e, hu, hv⟩ := Ds.two hd
  simp only [D, RdL] at hu hv
  subst hu hv
  have ha : args = #[.string ⟨a.toArray⟩, .string ⟨b.toArray⟩] := by
    rcases args with ⟨l⟩
    simp only at e
    rw [e]
  subst ha
  refine (Any.strings_Compare scLays ⟨a.toArray⟩ ⟨b.toArray⟩ x.w).mono ?_
  rintro _ _ ⟨rfl, rfl⟩
  refine ⟨x, _, _, [], rfl, rfl, .refl x, by simpa using hi, ?_, rfl, rfl⟩
  simp only [D, RdL]
theorem drawn1_fn (a b : Made) : CallFn Tryz.prog 120 [.agg (rMade a), .agg (rMade b)] (aI (Go.Lib.compareBytes a.name b.name)) := by
  obtain ⟨ak, an, ad, asg, aa, av, al⟩ := a
  obtain ⟨bk, bn, bd, bs, ba, bv, bl⟩ := b
  refine callFz_of Tryz.func120 rfl Tryz.ntmps120 (rs := [.tmp 4]) rfl (by kernel_rfl) (by simp) (by kernel_rfl) ?_
  cases aa <;> cases ba
  all_goals
    simp [argA]
    intros
    refine (Compare_fnT an bn).s ?_
    simp
theorem few_whole {c : Control} (hc : OkR c) : FewM (wholeM c) 60000 := by
  have f0 := few_start hc
  have f1 := few_gates hc f0 c.signals.length (Nat.le_refl _)
  have f2 := few_sigs hc f1 c.signals.length
  have hlen := hc.len
  have hact := hc.act
  have f4 : FewM (wholeM c) (200 + 256 * c.signals.length + 520 * c.signals.length + 2 * c.actuators.toNat) := few_fold (fun m n i h => few_pil h i) f2.1 _
  exact f4.mono (by omega)
theorem made_ord : OrdOK (fun _ : Made => True) fun a b => Go.Lib.compareBytes a.name b.name := by
  have ho := ltB_ord Made.name
  refine ⟨fun a _ => ?_, fun a b c _ _ _ h1 h2 => ?_, fun a b c _ _ _ h1 h2 => ?_⟩
  · rw [cmpT_lt, ltB_irrefl]
    simp
  · rw [cmpT_lt] at *
    exact ltB_trans h1 h2
  · rw [cmpT_lt] at *
    have := ho.ntrans c b a (by simpa using h2) (by simpa using h1)
    simpa using this
theorem sortM_s (l : List Made) (hl : l.length ≤ 1000000) {t : Nat} {h : Value} : CallS Tryz.prog 119 [.own t h, .fn 120 [] []] [(t, .seq h 137 7 (l.map rMade))] fun r H' => r = .tuple [] ∧ ∃ l' : List Made, l'.Perm l ∧ l'.Pairwise (fun a b => byName b a = false) ∧ H' = [(t, .seq h 137 7 (l'.map rMade))] := by
  refine (sortA_s sfrealizemadeLays 7 (by exact Tryz.isAgg137) (by exact Tryz.sizeOf137) ⟨_, Tryz.func119, by kernel_rfl, by kernel_rfl⟩
    ⟨_, Tryz.func120, by kernel_rfl, by kernel_rfl⟩ rMade (fun _ => rfl) (fun p => ?_) (fun _ => True) (fun a b => Go.Lib.compareBytes a.name b.name) (fun a b _ _ => drawn1_fn a b) made_ord l (fun _ _ => trivial) (by omega)).mono ?_
  · unfold rMade argA
    cases p.arg <;> rfl
  · rintro r H' ⟨rfl, l', h1, h2, rfl⟩
    refine ⟨rfl, l', h1, h2.imp fun {a b} hab => ?_, rfl⟩
    rw [cmpT_lt] at hab
    unfold byName
    simpa using hab
theorem drawn_s (c : Control) (hc : OkC c) : CallS Tryz.prog 60 [aC c] [] fun r H' => (checkC c ≠ 0 ∧ r = .tuple [.nilp, aI (checkC c)]) ∨
    (checkC c = 0 ∧ ∃ b b4 b5 bg hp hj ps, r = .tuple [.ptr 70 b 0, aI 0] ∧ ps.Perm (wholeM c).parts ∧ ps.Pairwise (fun a b => byName b a = false) ∧ H' = mkrH c b b4 b5 bg hp hj { wholeM c with parts := ps }) := by
  refine callS_cut 4 Tryz.func60 rfl Tryz.ntmps60 (rs := [.tmp 2, .tmp 3]) rfl (by kernel_rfl) (by simp) (by kernel_rfl) ?_
  have hck := Check_fn c hc
  simp
  refine hck.s ?_
  simp
  intro hz b12 b14
  refine (joinedR 74 9 [80] _).mono ?_
  rintro _ _ ⟨b4, rfl, rfl⟩
  simp
  refine (joinedR 75 8 [81] _).mono ?_
  rintro _ _ ⟨b5, rfl, rfl⟩
  simp
  refine V.cutI (Hs := mkrH c b14 b4 b5 b12 (.slice none 0 0) (.slice none 0 0) mk0) [(5, .ptr 70 b14 0)] ?_ ?_ ?_
  · simp [D]
  · exact fun x H0 hi => maker_inv hi
  · have hR := okR_of hz
    have hact := hR.act
    have hinp := hR.inp
    simp
    refine ((machine37_s hR.sm ⟨by omega, by omega⟩ (by omega)).on0 rfl).mono ?_
    rintro _ _ ⟨rfl, hp1, hj1, rfl⟩
    simp
    refine ((signals37_s hR).on0 rfl).mono ?_
    rintro _ _ ⟨rfl, hp2, hj2, rfl⟩
    simp
    have hfw := few_whole hR
    refine ((sortM_s (wholeM c).parts (by have := hfw.1; omega)).frame.c1).mono ?_
    rintro _ _ ⟨_, ⟨_, ⟨rfl, ps, hps1, hps2, rfl⟩, rfl⟩, rfl⟩
    simp
    exact ⟨hz, b4, b5, b12, hp2, hj2, ps, hps1, hps2, ⟨rfl, rfl, rfl, rfl, rfl⟩, ⟨rfl, rfl⟩, rfl, rfl, rfl, rfl⟩
def countR (c : Control) : Int × Int := if checkC c ≠ 0 then (0, checkC c) else (countM c, 0)
theorem Count37_fn (c : Control) (hc : OkC c) : CallFn Tryz.prog 15 [aC c] (.tuple [aI (countR c).1, aI (countR c).2]) := by
  have hd := drawn_s c hc
  unfold countR
  refine callFz_of Tryz.func15 rfl Tryz.ntmps15 (rs := [.tmp 2, .tmp 3]) rfl (by kernel_rfl) (by simp) (by kernel_rfl) ?_
  simp
  refine hd.mono ?_
  rintro r H' (⟨hz, rfl⟩ | ⟨hz, b, b4, b5, bg, hp, hj, ps, rfl, hperm, -, rfl⟩)
  · simp [hz]
  · have hl := hperm.length_eq
    rw [whole_len] at hl
    simp [hz, hl]
end Go.Proofs.YtbcjnmifflflfaaGreatDoor
end

/- Contracts: the reference's needed lines. -/
section
namespace Go.Proofs.YtbcjnmifflflfaaGreatDoor
set_option maxHeartbeats 8000000
set_option maxRecDepth 10000

def onB (w : List Bool) (k : Int) : Bool := w.getD k.toNat false
theorem on_set {w : List Bool} {k j : Int} (hk : 0 ≤ k ∧ k < w.length) (hj : 0 ≤ j) (b : Bool) : onB (w.set k.toNat b) j = if j = k then b else onB w j := by
  unfold onB
  rw [List.getD_eq_getElem?_getD, List.getD_eq_getElem?_getD, List.getElem?_set]
  by_cases h : j = k
  · subst h
    rw [if_pos rfl, if_pos rfl, if_pos (by omega)]
    rfl
  · rw [if_neg (by omega), if_neg h]
/-- Marked lines are needed, or ahead of the signals. -/
structure Sound (c : Control) (w : List Bool) : Prop where
  len : (w.length : Int) = countC c
  need : ∀ k, 0 ≤ k → onB w k = true → firstC c ≤ k → Need c k
def ClB (c : Control) (w : List Bool) : Prop := ∀ j, firstC c ≤ j → onB w j = true → ∀ u ∈ useL c j, onB w (clsL c u) = true
def leB (w w' : List Bool) : Prop := ∀ k, 0 ≤ k → onB w k = true → onB w' k = true
theorem leB.set {w w1 : List Bool} {k : Int} (h : leB w w1) (hk : 0 ≤ k ∧ k < w1.length) : leB w (w1.set k.toNat true) := by
  intro j hj h1
  rw [on_set hk hj]
  split
  · rfl
  · exact h j hj h1
theorem Sound.set {c : Control} {w : List Bool} {k : Int} (h : Sound c w) (hk : 0 ≤ k ∧ k < countC c) (hn : firstC c ≤ k → Need c k) : Sound c (w.set k.toNat true) := by
  refine ⟨by simpa using h.len, fun j hj h1 h2 => ?_⟩
  rw [on_set (by have := h.len; omega) hj] at h1
  split at h1
  · rename_i e
    subst e
    exact hn h2
  · exact h.need j hj h1 h2
def cntB (c : Control) (w : List Bool) : Nat := ((List.range c.signals.length).filter fun j : Nat => onB w (firstC c + j)).length
open Classical in
noncomputable def wantB (c : Control) : List Bool := (List.range (countC c).toNat).map fun k : Nat => decide (Need c k)
noncomputable abbrev wkv (c : Control) (u : Value) : List (Nat × A) := [(1, .rptr (encC c)), (2, .nils), (3, aI (firstC c)), (4, aIs (alikeC c)), (5, .own 18 u)]
/-- A pass so far. -/
structure Pass (c : Control) (w0 w : List Bool) (i : Nat) : Prop where
  sound : Sound c w
  le : leB w0 w
  stay : ClB c w0 → w = w0
  done : ∀ j : Nat, j < i → onB w0 (firstC c + j) = true → ∀ u ∈ useL c (firstC c + j), onB w (clsL c u) = true
end Go.Proofs.YtbcjnmifflflfaaGreatDoor
end

/- Contracts: Needed of the reference; searching in what is sorted; copies of names. -/
section
namespace Go.Proofs.YtbcjnmifflflfaaGreatDoor
set_option maxHeartbeats 8000000
set_option maxRecDepth 10000

/-! ### What is sorted -/
def posI (l : List Int) (t : Int) : Nat := (l.filter fun w => decide (w < t)).length
theorem posI_cut {l : List Int} {t : Int} : ∀ {i : Nat}, i ≤ l.length → (∀ k, k < i → ∀ v, l[k]? = some v → v < t) → (∀ k, i ≤ k → ∀ v, l[k]? = some v → t ≤ v) → posI l t = i := by
  intro i hi h1 h2
  unfold posI
  have e : l = l.take i ++ l.drop i := (List.take_append_drop i l).symm
  conv => lhs; rw [e]
  rw [List.filter_append, List.filter_eq_self.2, List.filter_eq_nil_iff.2]
  · simp
    omega
  · intro v hv
    obtain ⟨k, hk⟩ := List.getElem?_of_mem hv
    rw [List.getElem?_drop] at hk
    have := h2 (i + k) (by omega) v hk
    simp
    omega
  · intro v hv
    obtain ⟨k, hk⟩ := List.getElem?_of_mem hv
    have hki : k < i := by
      have := (List.getElem?_eq_some_iff.1 hk).1
      simp at this
      omega
    rw [List.getElem?_take] at hk
    rw [if_pos hki] at hk
    have := h1 k hki v hk
    simp
    omega
theorem nanC_fn (n : Int) : CallFn Tryz.prog 196 [aI n] (aB false) := by
  refine callFz_of Tryz.func196 rfl Tryz.ntmps196 (rs := [.tmp 2]) rfl (by kernel_rfl) (by simp) (by kernel_rfl) ?_
  simp
theorem nanS_fn (n : Int) : CallFn Tryz.prog 112 [aI n] (aB false) := by
  refine callFz_of Tryz.func112 rfl Tryz.ntmps112 (rs := [.tmp 2]) rfl (by kernel_rfl) (by simp) (by kernel_rfl) ?_
  simp
theorem less_fn (n m : Int) : CallFn Tryz.prog 111 [aI n, aI m] (aB (decide (n < m))) := by
  have c1 := nanC_fn n
  have c2 := nanC_fn m
  refine callFz_of Tryz.func111 rfl Tryz.ntmps111 (rs := [.tmp 4]) rfl (by kernel_rfl) (by simp) (by kernel_rfl) ?_
  simp
  refine c1.s ?_
  simp
  refine GCall.fn (aB false) (fun h => ⟨h, c2⟩) ?_
  simp
theorem u64_ok {n : Int} (h0 : 0 ≤ n) (h1 : n ≤ 4611686018427387904) : inR .u64 n := by
  unfold inR
  simp only [IntKind.wrap, IntKind.signed, IntKind.bits]
  simp
  omega
theorem shr_one (n : Nat) : shrI .u64 n 1 = ((n / 2 : Nat) : Int) := by
  unfold shrI
  simp [IntKind.bits]
  rw [Int.fdiv_eq_ediv_of_nonneg _ (by omega)]
theorem bsearch_fn (l : List Int) (t : Int) (hs : l.Pairwise (· < ·)) (hl : l.length ≤ 1000000) : CallFn Tryz.prog 57 [aIs l, aI t] (.tuple [aI (posI l t), aB (decide (t ∈ l))]) := by
  have hpw := List.pairwise_iff_getElem.1 hs
  refine callFz_of Tryz.func57 rfl Tryz.ntmps57 (rs := [.tmp 4, .tmp 5]) rfl (by kernel_rfl) (by simp) (by kernel_rfl) ?_
  simp
  refine V.for' [0, 1, 4, 5, 6] (fun p : Nat × Nat => [(7, aI p.1), (8, aI p.2)]) (fun _ => []) (fun p => p.1 ≤ p.2 ∧ p.2 ≤ l.length ∧ (∀ k, k < p.1 → ∀ v, l[k]? = some v → v < t) ∧ ∀ k, p.2 ≤ k → ∀ v, l[k]? = some v → t ≤ v) (fun p => p.2 - p.1) (0, l.length) ⟨⟨Nat.zero_le _, Nat.le_refl _, fun k h => absurd h (Nat.not_lt_zero _), fun k h v hv => ?_⟩, by simp, subP.refl _⟩ ?_
  · rw [List.getElem?_eq_none h] at hv
    cases hv
  · rintro ⟨i, j⟩ ⟨hij, hj, hA, hB⟩
    simp only at hij hj hA hB
    by_cases hlt : i < j
    · obtain ⟨m, hm⟩ : ∃ m : Nat, (i + j) / 2 = m := ⟨_, rfl⟩
      have hml : m < l.length := by omega
      obtain ⟨v, hv⟩ : ∃ v, l[m]'hml = v := ⟨_, rfl⟩
      have hvo : l[m]? = some v := by rw [List.getElem?_eq_getElem hml, hv]
      have hsh := shr_one (i + j)
      rw [hm] at hsh
      have hu := u64_ok (n := (i : Int) + j) (by omega) (by omega)
      have c1 := less_fn v t
      simp at hsh
      simp [hlt, hsh, hml, hv]
      refine ⟨by omega, hu, by omega, c1.s ?_⟩
      by_cases hvt : v < t
      · simp [hvt]
        refine ⟨by omega, m + 1, j, ⟨by omega, hj, fun k hk w hw => ?_, hB⟩, by omega, ?_⟩
        · rcases Nat.lt_or_ge k m with h | h
          · obtain ⟨hkl, hw2⟩ := List.getElem?_eq_some_iff.1 hw
            have := hpw k m hkl hml h
            omega
          · obtain rfl : k = m := by omega
            rw [hvo] at hw
            cases hw
            exact hvt
        · simp [subP.refl]
      · simp [hvt]
        refine ⟨i, m, ⟨by omega, by omega, hA, fun k hk w hw => ?_⟩, by omega, ?_⟩
        · rcases Nat.lt_or_ge m k with h | h
          · obtain ⟨hkl, hw2⟩ := List.getElem?_eq_some_iff.1 hw
            have := hpw m k hml hkl h
            omega
          · obtain rfl : k = m := by omega
            rw [hvo] at hw
            cases hw
            omega
        · simp [subP.refl]
    · obtain rfl : i = j := by omega
      have hpos := posI_cut hj hA hB
      rw [hpos]
      by_cases hil : i < l.length
      · obtain ⟨v, hv⟩ : ∃ v, l[i]'hil = v := ⟨_, rfl⟩
        have hvo : l[i]? = some v := by rw [List.getElem?_eq_getElem hil, hv]
        have hmem : decide (t ∈ l) = (v == t) := by
          rw [Bool.eq_iff_iff]
          simp only [decide_eq_true_eq, beq_iff_eq]
          constructor
          · intro h
            obtain ⟨k, hk⟩ := List.getElem?_of_mem h
            obtain ⟨hkl, hk2⟩ := List.getElem?_eq_some_iff.1 hk
            rcases Nat.lt_trichotomy k i with h1 | h1 | h1
            · have := hA k h1 t hk
              omega
            · subst h1
              rw [hvo] at hk
              cases hk
              rfl
            · have h2 := hpw i k hil hkl h1
              have h3 := hB i (Nat.le_refl _) v hvo
              omega
          · rintro rfl
            exact List.mem_of_getElem? hvo
        rw [hmem]
        have c1 := nanS_fn v
        have c2 := nanS_fn t
        simp [hil, hv]
        refine GCall.fn (aB false) (fun h => ⟨h, c1⟩) ?_
        simp
        refine GCall.fn (aB false) (fun h => ⟨h, c2⟩) ?_
        simp
      · have hmem : decide (t ∈ l) = false := by
          rw [decide_eq_false_iff_not]
          intro h
          obtain ⟨k, hk⟩ := List.getElem?_of_mem h
          have := (List.getElem?_eq_some_iff.1 hk).1
          have := hA k (by omega) t hk
          omega
        rw [hmem]
        have c1 := nanS_fn t
        simp [hil]
        refine GCall.fn (aB false) (fun h => h.elim) ?_
        simp
        refine GCall.fn (aB false) (fun h => h.elim) ?_
        simp

end Go.Proofs.YtbcjnmifflflfaaGreatDoor
end

/- Contracts: Reduce. -/
section
namespace Go.Proofs.YtbcjnmifflflfaaGreatDoor
set_option maxHeartbeats 8000000
set_option maxRecDepth 10000

abbrev rT (s : List UInt8) : List A := [.dat (.str s)]
theorem rowsD_T (xs : List (List UInt8)) : rowsD (xs.map rT) = xs.map encT := by unfold rowsD; rw [List.map_map]; rfl
theorem allD_T (xs : List (List UInt8)) : allD (xs.map rT) = true := by simp [allD, rT, isD]
attribute [simp] rowsD_T allD_T
theorem cloneT_o (xs : List (List UInt8)) (hx : xs.length ≤ 4294967296) : CallOwn Tryz.prog 58 [aTs xs] 9 1 (xs.map rT) := by
  refine CallS.nilcase (az := []) (bz := []) ?_ ?_
  · intro hn
    have hn : xs = [] := by simpa using hn
    subst hn
    refine callO_of Tryz.func58 rfl Tryz.ntmps58 (rs := [.tmp 2]) rfl (by kernel_rfl) (by simp) (by kernel_rfl) ?_
    simp
  · refine callO_of Tryz.func58 rfl Tryz.ntmps58 (rs := [.tmp 2]) rfl (by kernel_rfl) (by simp) (by kernel_rfl) ?_
    simp
    omega
abbrev zeroC : List A := [.dat (.int .i64 0), .nils, .nils, .nils, .nils]
noncomputable abbrev rkv (c : Control) (b2 : Nat) : List (Nat × A) := [(1, .rptr (encC c)), (2, .ptr 2 b2 0), (3, .nils), (4, aI 0), (8, aIs (keepP c))]

theorem reduce_a {c : Control} {b2 : Nat} (hz : checkC c = 0) (hc : OkC c)
    (hrest : vcN ⟨Tryz.prog, none, 142⟩ 1 (restC Tryz.f14 6) (hdE (rkv c b2 ++ [(7, aIs (needL c))]) []) [(2, .box b2 zeroC)] (RetV Tryz.prog [.cell 2 26, .tmp 3, .tmp 4] fun r' H' => (frz H' r').1 ∧ (frz H' r').2 = .tuple [aC (redC c), aIs (keepP c), aI 0])) :
    vcN ⟨Tryz.prog, none, 142⟩ 3 (restC Tryz.f14 3) (hdE [(1, .rptr (encC c)), (2, .ptr 2 b2 0), (3, .nils), (4, aI 0), (6, aIs (alikeC c))] []) [(2, .box b2 zeroC)] (RetV Tryz.prog [.cell 2 26, .tmp 3, .tmp 4] fun r' H' => (frz H' r').1 ∧ (frz H' r').2 = .tuple [aC (redC c), aIs (keepP c), aI 0]) := by
  have hf := fine_of hz
  have hp := pil_of hz
  have hact := hf.act
  have hin := hf.inp
  have hsg := hf.sig
  have h0 := hf.f0
  have hcn := count_first c
  have hcb : countC c ≤ 1000 := by unfold countC; omega
  have hal := alike_len hf
  have hkl := keep_len hf
  have hnl := need_len hf hp
  obtain ⟨M, hM⟩ : ∃ M : Nat, countC c = M := ⟨(countC c).toNat, by omega⟩
  refine vcN_rest rfl ?_
  simp
  refine (needed_fn c hf hc hp hz).s ?_
  simp
  refine (linesQ_fn c hf.sm).s ?_
  simp
  intro u
  refine ⟨by omega, ?_⟩
  refine V.forI (σ := List Int) M [1, 2, 3, 4, 7, 8, 32, 33] (by simp; exact rfl) (fun i _ => [(34, aI i)]) (fun _ ks => [(31, .seq u 3 1 (ks.map rI))]) (fun i ks => (ks.length : Int) = countC c ∧ ks.take i = (keepP c).take i) (List.replicate (countC c).toNat 0) ⟨by simp; omega, by simp⟩ (by simp) ⟨by simp; exact rfl, by simp⟩ ?_ ?_
  · rintro i ks hi ⟨hl, hI⟩
    have hir : (0 : Int) ≤ i ∧ (i : Int) < countC c := by omega
    have g1 := cls_at hf hir
    have k1 := keep_at hir
    rw [Int.toNat_natCast] at g1 k1
    have hial : i < (alikeC c).length := by omega
    have g2 : (alikeC c)[i]'hial = clsL c i := by
      rw [List.getElem?_eq_getElem hial] at g1
      exact Option.some.inj g1
    have hkeep : ∀ v, v = keepL c i → (((ks.set i v).length : Int) = countC c ∧ (ks.set i v).take (i + 1) = (keepP c).take (i + 1)) := by
      rintro v rfl
      refine ⟨by simpa using hl, ?_⟩
      rw [List.take_add_one, List.take_add_one, k1, List.take_set_of_le (Nat.le_refl _), hI, List.getElem?_set_self (by omega)]
    have hkd : keepL c i = if clsL c i < firstC c then clsL c i else if clsL c i ∈ needL c then firstC c + posI (needL c) (clsL c i) else noneV := by
      unfold keepL
      by_cases h1 : clsL c i < firstC c
      · rw [if_pos h1, if_pos h1]
      · rw [if_neg h1, if_neg h1]
        by_cases h2 : Need c (clsL c i)
        · rw [if_pos h2, if_pos ((mem_need hf hp).2 h2)]
          rfl
        · rw [if_neg h2, if_neg fun h => h2 ((mem_need hf hp).1 h)]
    have hsq := bsearch_fn (needL c) (clsL c i) (need_sorted c) (by omega)
    have hpl : posI (needL c) (clsL c i) ≤ (needL c).length := List.length_filter_le _ _
    generalize clsL c i = q at *
    generalize needL c = nl at *
    have hikl : i < ks.length := by omega
    obtain ⟨w, hw⟩ : ∃ w, ks[i]? = some w := ⟨_, List.getElem?_eq_getElem hikl⟩
    simp [hial, g2, hikl, hw]
    refine (firstQ_fn c hf.sm).s ?_
    by_cases h1 : q < firstC c
    · rw [if_pos h1] at hkd
      have h1' : ¬ firstC c ≤ q := by omega
      have := hkeep q hkd.symm
      simp [h1']
      exact ⟨by omega, ks.set i q, this, by rw [List.map_set]⟩
    · rw [if_neg h1] at hkd
      have h1' : firstC c ≤ q := by omega
      simp [h1', hikl, hw]
      refine hsq.s ?_
      by_cases h2 : q ∈ nl
      · rw [if_pos h2] at hkd
        have := hkeep _ hkd.symm
        simp [h1', h2]
        refine (firstQ_fn c hf.sm).s ?_
        simp [hikl, hw]
        exact ⟨by omega, by omega, ks.set i (firstC c + (posI nl q : Int)), this, by rw [List.map_set]⟩
      · rw [if_neg h2] at hkd
        have := hkeep _ hkd.symm
        simp [h1', h2]
        exact ⟨by omega, ks.set i noneV, this, by rw [List.map_set]; rfl⟩
  · rintro ks ⟨hl, hI⟩
    have hks : ks = keepP c := by
      rw [List.take_of_length_le (by omega), List.take_of_length_le (by omega)] at hI
      exact hI
    subst hks
    have hlt : ¬ M < (alikeC c).length := by omega
    simp [hlt]
    refine V.frz1 8 (τ := 31) (h := u) (e := 3) (sz := 1) (rows := (keepP c).map rI) (by simp) (by simp [hget]) (by simp) ?_
    exact V.cutN 1 (rkv c b2 ++ [(7, aIs (needL c))]) (by simp) (by simp) (vcN_of_rest rfl hrest)


theorem count_le0 {c : Control} (hf : Fine c) : countC c ≤ 92 := by
  have := hf.act
  have := hf.inp
  have := hf.sig
  unfold countC
  omega
/-- The reduced control as it grows. -/
abbrev outH (c : Control) (b13 : Nat) (m h1 h2 h3 : Value) (sg : List Signal) (pl mi : List Int) : Heap :=
  [(13, .box b13 [.dat (.int .i64 c.actuators), .own 69 m, .own 201 h1, .own 202 h2, .own 203 h3]), (69, .seq m 9 1 (c.inputs.map rT)), (201, .seq h1 86 10 (sg.map sigA)), (202, .seq h2 3 1 (pl.map rI)), (203, .seq h3 3 1 (mi.map rI))]
theorem box_nils {x : X} {c : Control} {b13 b2 : Nat} {m : Value} {H : Heap} (h : Inv x ((13, .box b13 [.dat (.int .i64 c.actuators), .own 69 m, .nils, .nils, .nils]) :: (69, .seq m 9 1 (c.inputs.map rT)) :: (2, .box b2 zeroC) :: H)) :
    Inv x (outH c b13 m (.slice none 0 0) (.slice none 0 0) (.slice none 0 0) [] [] [] ++ ((2, .box b2 zeroC) :: H)) := by
  have h1 : Inv x ((13, .box b13 [.dat (.int .i64 c.actuators), .own 69 m, .own 201 (.slice none 0 0), .own 202 (.slice none 0 0), .own 203 (.slice none 0 0)]) :: (69, .seq m 9 1 (c.inputs.map rT)) :: (2, .box b2 zeroC) :: H) := by
    refine h.same (fun _ h => h) ?_
    rintro ⟨cc, ty, k1, k2⟩
    refine ⟨cc, ty, k1, ?_⟩
    generalize cc.toList = l at k2 ⊢
    rcases l with _ | ⟨v1, _ | ⟨v2, _ | ⟨v3, _ | ⟨v4, _ | ⟨v5, _ | ⟨v6, l⟩⟩⟩⟩⟩⟩ <;> simp [Ds, D] at k2 ⊢
    exact k2
  have h2 := Inv.nil (t := 203) (e := .seq (.slice none 0 0) 3 1 []) (Inv.nil (t := 202) (e := .seq (.slice none 0 0) 3 1 []) (Inv.nil (t := 201) (e := .seq (.slice none 0 0) 86 10 []) h1 ⟨rfl, rfl⟩) ⟨rfl, rfl⟩) ⟨rfl, rfl⟩
  refine h2.perm ?_
  show ([(13, _), (69, _), (201, _), (202, _), (203, _)] ++ ((2, Ent.box b2 zeroC) :: H)).Perm ([(203, _), (202, _), (201, _), (13, _), (69, _)] ++ ((2, Ent.box b2 zeroC) :: H))
  exact ((perm_at [_, _, _, _, _] (0, .box 0 []) 5 rfl [3, 4, 2, 1, 0] (by decide)).append_right _)
theorem reduce_b {c : Control} {b2 : Nat} (hz : checkC c = 0) (hc : OkC c)
    (hrest : ∀ (b13 : Nat) (m : Value), vcN ⟨Tryz.prog, none, 142⟩ 1 (restC Tryz.f14 7) (hdE (rkv c b2 ++ [(7, aIs (needL c)), (13, .ptr 13 b13 0)]) []) (outH c b13 m (.slice none 0 0) (.slice none 0 0) (.slice none 0 0) [] [] [] ++ [(2, .box b2 zeroC)]) (RetV Tryz.prog [.cell 2 26, .tmp 3, .tmp 4] fun r' H' => (frz H' r').1 ∧ (frz H' r').2 = .tuple [aC (redC c), aIs (keepP c), aI 0])) :
    vcN ⟨Tryz.prog, none, 142⟩ 1 (restC Tryz.f14 6) (hdE (rkv c b2 ++ [(7, aIs (needL c))]) []) [(2, .box b2 zeroC)] (RetV Tryz.prog [.cell 2 26, .tmp 3, .tmp 4] fun r' H' => (frz H' r').1 ∧ (frz H' r').2 = .tuple [aC (redC c), aIs (keepP c), aI 0]) := by
  have hf := fine_of hz
  have hin := hf.inp
  refine vcN_rest rfl ?_
  simp
  refine V.draw (fun s => if s = 69 then some (.own 9 1 (c.inputs.map rT)) else none) (by kernel_rfl) (by kernel_rfl) (by simp) ?_
  simp
  intro u
  refine ⟨cloneT_o c.inputs (by omega), fun b => ?_⟩
  refine V.inv (H' := outH c b u (.slice none 0 0) (.slice none 0 0) (.slice none 0 0) [] [] [] ++ [(2, .box b2 zeroC)]) (fun x H0 h => ?_) ?_
  · have := box_nils (c := c) (b13 := b) (b2 := b2) (m := u) (H := H0) h
    rw [List.append_assoc]
    exact this
  · exact V.cutN 1 (rkv c b2 ++ [(7, aIs (needL c)), (13, .ptr 13 b 0)]) (by simp) (by simp) (vcN_of_rest rfl (hrest b u))

theorem red_row {c : Control} (hz : checkC c = 0) (hc : OkC c) {b2 b13 : Nat} {m h1 : Value} {Q : PostQ} {i : Nat} (hi : i < (needL c).length) :
    vcC ⟨Tryz.prog, none, 142⟩ (loopC Tryz.f14 1) (hdE (rkv c b2 ++ [(13, .ptr 13 b13 0), (71, aIs (needL c)), (72, aI (needL c).length)]) [(73, aI i)]) (hcat (outH c b13 m h1 (.slice none 0 0) (.slice none 0 0) (((redC c).signals).take i) [] []) [(2, .box b2 zeroC)])
      (LoopQ Q fun E' H' => ∃ h2, True ∧ (∀ p ∈ [(73, aI (i + 1 : Nat))], wk (E' p.1) p.2) ∧ (∀ p ∈ rkv c b2 ++ [(13, .ptr 13 b13 0), (71, aIs (needL c)), (72, aI (needL c).length)], E' p.1 = p.2) ∧ subN (hcat (outH c b13 m h2 (.slice none 0 0) (.slice none 0 0) (((redC c).signals).take (i + 1)) [] []) [(2, .box b2 zeroC)]) H') := by
  have hf := fine_of hz
  have hp := pil_of hz
  have hact := hf.act
  have hin := hf.inp
  have hsg := hf.sig
  have h0 := hf.f0
  have hcn := count_first c
  have hcb := count_le0 hf
  have hkl := keep_len hf
  have hnl := need_len hf hp
  obtain ⟨k, hk1⟩ : ∃ k, (needL c)[i]'hi = k := ⟨_, rfl⟩
  have hko : (needL c)[i]? = some k := by rw [List.getElem?_eq_getElem hi, hk1]
  have hkn : Need c k := (mem_need hf hp).1 (List.mem_of_getElem? hko)
  obtain ⟨n, x, e1, e2, e3⟩ := red_at hf hp hkn
  rw [pos_at hko] at e3
  obtain ⟨hnl2, hx1⟩ := List.getElem?_eq_some_iff.1 e2
  have ox := hc.sigs x (List.mem_of_getElem? e2)
  have rx := sig_right hf e2
  rw [← hkl] at rx
  have c1 := replaced_fn (keepP c) (by omega) _ x.on (Nat.lt_succ_self _) ox.on rx.1
  have c2 := replaced_fn (keepP c) (by omega) _ x.off (Nat.lt_succ_self _) ox.off rx.2
  have hred : redX c x = { x with on := repE x.on (keepP c), off := repE x.off (keepP c) } := rfl
  rw [List.take_add_one, e3, hred]
  have hsl : ((redC c).signals.take i).length ≤ 1000 := by simp [redC]; omega
  generalize (redC c).signals.take i = sg at *
  generalize needL c = nl at *
  generalize okX x.on (keepP c) = b1 at *
  generalize okX x.off (keepP c) = b2' at *
  generalize repE x.on (keepP c) = p at *
  generalize repE x.off (keepP c) = q at *
  have hkf : k - firstC c = n := by omega
  refine vc_part rfl ?_
  simp [hi, hk1]
  refine V.draw (fun s => if s = 81 then some (.fn (aI (firstC c))) else none) (by kernel_rfl) (by kernel_rfl) (by simp) ?_
  simp [hkf, hnl2, hx1, e2]
  refine ⟨firstQ_fn c hf.sm, by omega, fun b16 => ?_⟩
  refine c1.s ?_
  simp
  refine c2.s ?_
  simp
  omega
theorem reduce_c {c : Control} (hz : checkC c = 0) (hc : OkC c) {b2 b13 : Nat} {m : Value}
    (hrest : ∀ h1, vcC ⟨Tryz.prog, none, 142⟩ (restC Tryz.f14 8) (hdE (rkv c b2 ++ [(13, .ptr 13 b13 0)]) []) (outH c b13 m h1 (.slice none 0 0) (.slice none 0 0) (redC c).signals [] [] ++ [(2, .box b2 zeroC)]) (RetV Tryz.prog [.cell 2 26, .tmp 3, .tmp 4] fun r' H' => (frz H' r').1 ∧ (frz H' r').2 = .tuple [aC (redC c), aIs (keepP c), aI 0])) :
    vcN ⟨Tryz.prog, none, 142⟩ 1 (restC Tryz.f14 7) (hdE (rkv c b2 ++ [(7, aIs (needL c)), (13, .ptr 13 b13 0)]) []) (outH c b13 m (.slice none 0 0) (.slice none 0 0) (.slice none 0 0) [] [] [] ++ [(2, .box b2 zeroC)]) (RetV Tryz.prog [.cell 2 26, .tmp 3, .tmp 4] fun r' H' => (frz H' r').1 ∧ (frz H' r').2 = .tuple [aC (redC c), aIs (keepP c), aI 0]) := by
  have hf := fine_of hz
  have hp := pil_of hz
  have hnl := need_len hf hp
  have hsg := hf.sig
  have hsl : (redC c).signals.length = (needL c).length := by simp [redC]
  refine vcN_rest rfl ?_
  simp
  refine V.forI (σ := Value) (kv := rkv c b2 ++ [(13, .ptr 13 b13 0), (71, aIs (needL c)), (72, aI (needL c).length)]) (needL c).length [1, 2, 3, 4, 8, 13, 71, 72] (by simp) (fun i _ => [(73, aI i)]) (fun i h => outH c b13 m h (.slice none 0 0) (.slice none 0 0) (((redC c).signals).take i) [] []) (fun _ _ => True) (.slice none 0 0) trivial (by simp) ⟨by simp; exact rfl, by simp⟩ ?_ ?_
  · rintro i h hi -
    exact vc_of_part rfl (red_row hz hc hi)
  · rintro h -
    rw [List.take_of_length_le (by omega)]
    simp
    exact V.cut (rkv c b2 ++ [(13, .ptr 13 b13 0)]) (by simp) (by simp) (vc_of_rest rfl (hrest h))

theorem red_pm {c : Control} (hz : checkC c = 0) {b2 b13 : Nat} {m h1 h2 h3 : Value} {Q : PostQ} {i : Nat} (hi : (i : Int) < c.actuators) :
    vcC ⟨Tryz.prog, none, 142⟩ (loopC Tryz.f14 2) (hdE (rkv c b2 ++ [(13, .ptr 13 b13 0), (109, aI c.actuators)]) [(110, aI i)]) (hcat (outH c b13 m h1 h2 h3 (redC c).signals ((redC c).plus.take i) ((redC c).minus.take i)) [(2, .box b2 zeroC)])
      (LoopQ Q fun E' H' => ∃ hh : Value × Value, True ∧ (∀ p ∈ [(110, aI (i + 1 : Nat))], wk (E' p.1) p.2) ∧ (∀ p ∈ rkv c b2 ++ [(13, .ptr 13 b13 0), (109, aI c.actuators)], E' p.1 = p.2) ∧ subN (hcat (outH c b13 m h1 hh.1 hh.2 (redC c).signals ((redC c).plus.take (i + 1)) ((redC c).minus.take (i + 1))) [(2, .box b2 zeroC)]) H') := by
  have hf := fine_of hz
  have hp := pil_of hz
  have hact := hf.act
  have h0 := hf.f0
  have hcb := count_le0 hf
  have hkl := keep_len hf
  have hpl := hp.1
  have hml := hp.2.1
  have hip : i < c.plus.length := by omega
  have him : i < c.minus.length := by omega
  obtain ⟨p, hp1⟩ : ∃ p, c.plus[i]'hip = p := ⟨_, rfl⟩
  obtain ⟨mm, hm1⟩ : ∃ m, c.minus[i]'him = m := ⟨_, rfl⟩
  have hpo : c.plus[i]? = some p := by rw [List.getElem?_eq_getElem hip, hp1]
  have hmo : c.minus[i]? = some mm := by rw [List.getElem?_eq_getElem him, hm1]
  have hpr := hp.2.2.1 p (List.mem_of_getElem? hpo)
  have hmr := hp.2.2.2 mm (List.mem_of_getElem? hmo)
  have g1 := keep_at hpr
  have g2 := keep_at hmr
  have hpk : p.toNat < (keepP c).length := by omega
  have hmk : mm.toNat < (keepP c).length := by omega
  have hpk1 : p < (keepP c).length := by omega
  have hmk1 : mm < (keepP c).length := by omega
  have g3 : (keepP c)[p.toNat]'hpk = keepL c p := by
    rw [List.getElem?_eq_getElem hpk] at g1
    exact Option.some.inj g1
  have g4 : (keepP c)[mm.toNat]'hmk = keepL c mm := by
    rw [List.getElem?_eq_getElem hmk] at g2
    exact Option.some.inj g2
  have e1 : (redC c).plus.take (i + 1) = (redC c).plus.take i ++ [keepL c p] := by
    rw [List.take_add_one]
    simp [redC, hpo]
  have e2 : (redC c).minus.take (i + 1) = (redC c).minus.take i ++ [keepL c mm] := by
    rw [List.take_add_one]
    simp [redC, hmo]
  have l1 : ((redC c).plus.take i).length ≤ 1000 := by simp [redC]; omega
  have l2 : ((redC c).minus.take i).length ≤ 1000 := by simp [redC]; omega
  rw [e1, e2]
  generalize (redC c).plus.take i = pl at *
  generalize (redC c).minus.take i = mi at *
  generalize keepL c p = kp at *
  generalize keepL c mm = km at *
  refine vc_part rfl ?_
  simp [hi]
  refine V.drawX (fun _ => none) (by kernel_rfl) (by kernel_rfl) (by simp) ?_
  simp [hip, hp1, him, hm1, g1, g2, g3, g4, hpr.1, hmr.1, hpk1, hmk1]
  exact ⟨by omega, by omega, by kernel_rfl, by omega, by omega⟩
theorem rowsD_Sg (xs : List Signal) : rowsD (xs.map sigA) = xs.map encS := by unfold rowsD; rw [List.map_map]; rfl
theorem allD_Sg (xs : List Signal) : allD (xs.map sigA) = true := by simp [allD, sigA, isD]

theorem reduce_d {c : Control} (hz : checkC c = 0) {b2 b13 : Nat} {m h1 : Value} :
    vcC ⟨Tryz.prog, none, 142⟩ (restC Tryz.f14 8) (hdE (rkv c b2 ++ [(13, .ptr 13 b13 0)]) []) (outH c b13 m h1 (.slice none 0 0) (.slice none 0 0) (redC c).signals [] [] ++ [(2, .box b2 zeroC)]) (RetV Tryz.prog [.cell 2 26, .tmp 3, .tmp 4] fun r' H' => (frz H' r').1 ∧ (frz H' r').2 = .tuple [aC (redC c), aIs (keepP c), aI 0]) := by
  have hf := fine_of hz
  have hp := pil_of hz
  have hact := hf.act
  have hpl : ((redC c).plus.length : Int) = c.actuators := by simp [redC]; exact hp.1
  have hml : ((redC c).minus.length : Int) = c.actuators := by simp [redC]; exact hp.2.1
  obtain ⟨M, hM⟩ : ∃ M : Nat, c.actuators = M := ⟨c.actuators.toNat, by omega⟩
  refine vc_rest rfl ?_
  simp
  refine V.forI (σ := Value × Value) (kv := rkv c b2 ++ [(13, .ptr 13 b13 0), (109, aI c.actuators)]) M [1, 2, 3, 4, 8, 13, 109] (by simp) (fun i _ => [(110, aI i)]) (fun i hh => outH c b13 m h1 hh.1 hh.2 (redC c).signals ((redC c).plus.take i) ((redC c).minus.take i)) (fun _ _ => True) (.slice none 0 0, .slice none 0 0) trivial (by simp) ⟨by simp; exact rfl, by simp⟩ ?_ ?_
  · rintro i ⟨h2, h3⟩ hi -
    exact vc_of_part rfl (red_pm hz (by omega))
  · rintro ⟨h2, h3⟩ -
    rw [List.take_of_length_le (by omega), List.take_of_length_le (by omega)]
    have hlt : ¬ ((M : Int) < c.actuators) := by omega
    simp [hlt]
    exact ⟨allD_Sg _, rfl, rfl, rowsD_Sg _⟩

def emptyC : Control := ⟨0, [], [], [], []⟩
noncomputable def reduceQ (c : Control) : Control × List Int × Int := if checkC c ≠ 0 then (emptyC, [], checkC c) else (redC c, keepP c, 0)
theorem Reduce_fn (c : Control) (hc : OkC c) : CallFn Tryz.prog 14 [aC c] (.tuple [aC (reduceQ c).1, aIs (reduceQ c).2.1, aI (reduceQ c).2.2]) := by
  refine callFz_cut 3 Tryz.func14 rfl Tryz.ntmps14 (rs := [.cell 2 26, .tmp 3, .tmp 4]) rfl (by kernel_rfl) (by simp) (by kernel_rfl) ?_
  simp
  intro b2
  refine (Check_fn c hc).s ?_
  simp
  by_cases hz : checkC c = 0
  · have hf := fine_of hz
    have e : reduceQ c = (redC c, keepP c, 0) := by simp [reduceQ, hz]
    rw [e]
    simp [hz]
    refine (classes_fn c hf hc).s ?_
    simp
    exact V.cutN 3 [(1, .rptr (encC c)), (2, .ptr 2 b2 0), (3, .nils), (4, aI 0), (6, aIs (alikeC c))] (by simp) (by simp) (vcN_of_rest rfl (reduce_a hz hc (reduce_b hz hc fun b13 m => reduce_c hz hc fun h1 => reduce_d hz)))
  · have e : reduceQ c = (emptyC, [], checkC c) := by simp [reduceQ, hz]
    rw [e]
    simp [hz, emptyC]

end Go.Proofs.YtbcjnmifflflfaaGreatDoor
end

/- Contracts: the reference's reduced control. -/
section
namespace Go.Proofs.YtbcjnmifflflfaaGreatDoor
set_option maxHeartbeats 8000000
set_option maxRecDepth 10000

open Classical in
noncomputable def placeL (c : Control) (k : Int) : Int := if k < firstC c then k else if Need c k then firstC c + posN c k else noneV
noncomputable def placeP (c : Control) : List Int := (List.range (countC c).toNat).map fun k : Nat => placeL c k
noncomputable abbrev dkv (c : Control) (b2 : Nat) : List (Nat × A) := [(1, .rptr (encC c)), (2, .ptr 2 b2 0), (3, .nils)]
noncomputable abbrev resD (c : Control) : A → Heap → Prop := fun r' H' => (frz H' r').1 ∧ (frz H' r').2 = .tuple [aC (redC c), aIs (keepP c)]

/-- The reduced control as it grows. -/
abbrev outV (c : Control) (b12 : Nat) (m h1 h2 h3 : Value) (sg : List Signal) (pl mi : List Int) : Heap :=
  [(12, .box b12 [.dat (.int .i64 c.actuators), .own 70 m, .own 201 h1, .own 202 h2, .own 203 h3]), (70, .seq m 9 1 (c.inputs.map rT)), (201, .seq h1 86 10 (sg.map sigA)), (202, .seq h2 3 1 (pl.map rI)), (203, .seq h3 3 1 (mi.map rI))]
noncomputable abbrev ekv (c : Control) (b2 b12 : Nat) : List (Nat × A) := dkv c b2 ++ [(4, aI (firstC c)), (6, aBs (wantB c)), (10, aIs (keepP c)), (12, .ptr 12 b12 0)]
end Go.Proofs.YtbcjnmifflflfaaGreatDoor
end

/- Contracts: the reference's reduced control, to the end. -/
section
namespace Go.Proofs.YtbcjnmifflflfaaGreatDoor
set_option maxHeartbeats 8000000
set_option maxRecDepth 10000

end Go.Proofs.YtbcjnmifflflfaaGreatDoor
end

/- Plain laws: the relation of the reduced control proves; reducing twice. -/
section
namespace Go.Proofs.YtbcjnmifflflfaaGreatDoor
set_option maxHeartbeats 1000000
set_option maxRecDepth 10000

/-! ### What proves -/
def frameB (a b : Control) (ks : List Int) : Bool := a.actuators == b.actuators && decide (a.inputs = b.inputs) && (List.range (firstC a).toNat).all (fun k : Nat => ks.getD k 0 == k) &&
  (List.range a.actuators.toNat).all fun i : Nat => ks.getD (a.plus.getD i 0).toNat 0 == b.plus.getD i 0 && ks.getD (a.minus.getD i 0).toNat 0 == b.minus.getD i 0
def fitX (a b : Control) (ks : List Int) (x : Signal) (y : Int) : Bool :=
  if y = noneV then true else if x.kind = 0 ∧ x.on.op = 1 ∧ ks.getD x.on.index.toNat 0 = y then true else if y < firstC b then false else match b.signals[(y - firstC b).toNat]? with
    | none => false
    | some z => okX x.on ks && okX x.off ks && x.kind == z.kind && x.delay == z.delay && x.init == z.init && eqE (repE x.on ks) z.on && eqE (repE x.off ks) z.off
def fitB (a b : Control) (ks : List Int) (i : Nat) : Bool := match a.signals[i]? with
  | none => true
  | some x => fitX a b ks x (ks.getD (firstC a + i).toNat 0)
def farB (b : Control) (k : Int) : Bool := decide (k ≠ noneV) && (decide (k < 0) || decide (countC b ≤ k))
def provesB (a b : Control) (ks : List Int) : Bool := frameB a b ks && (List.range a.signals.length).all (fitB a b ks)
def verifyQ (a b : Control) (ks : List Int) : Int :=
  if checkC a ≠ 0 then checkC a else if checkC b ≠ 0 then checkC b else if (ks.length : Int) ≠ countC a then 8 else if ks.any (farB b) = true then 2 else if provesB a b ks = true then 0 else 15

/-! ### The relation proves -/
end Go.Proofs.YtbcjnmifflflfaaGreatDoor
end

/- Contracts: what proves: the program's does, the reference's fits. -/
section
namespace Go.Proofs.YtbcjnmifflflfaaGreatDoor
set_option maxHeartbeats 8000000
set_option maxRecDepth 10000

/-- Lists that may be relations: as many numbers as there are lines, each a line of the other control or none. -/
structure RelL (a b : Control) (ks : List Int) : Prop where
  len : (ks.length : Int) = countC a
  far : ∀ v ∈ ks, farB b v = false
theorem RelL.i64 {a b : Control} {ks : List Int} (h : RelL a b ks) (hb : Fine b) : ∀ v ∈ ks, I64 v := by
  intro v hv
  have h1 := h.far v hv
  have := hb.act
  have := hb.inp
  have := hb.sig
  unfold farB countC at h1
  simp at h1
  by_cases h2 : v = noneV
  · rw [h2]
    exact ⟨by decide, by decide⟩
  · have := h1 h2
    exact ⟨by omega, by omega⟩
/-- What is asked of a signal that is kept and repeats no line with the same image. -/
def fitT (b : Control) (ks : List Int) (x : Signal) (y : Int) : Bool := if y < firstC b then false else match b.signals[(y - firstC b).toNat]? with
    | none => false
    | some z => okX x.on ks && okX x.off ks && x.kind == z.kind && x.delay == z.delay && x.init == z.init && eqE (repE x.on ks) z.on && eqE (repE x.off ks) z.off
end Go.Proofs.YtbcjnmifflflfaaGreatDoor
end

/- Contracts: frames of relations, and Verify. -/
section
namespace Go.Proofs.YtbcjnmifflflfaaGreatDoor
set_option maxHeartbeats 8000000
set_option maxRecDepth 10000

def frA (ks : List Int) (k : Nat) : Bool := ks.getD k 0 == k
def frB (a b : Control) (ks : List Int) (i : Nat) : Bool := ks.getD (a.plus.getD i 0).toNat 0 == b.plus.getD i 0 && ks.getD (a.minus.getD i 0).toNat 0 == b.minus.getD i 0
end Go.Proofs.YtbcjnmifflflfaaGreatDoor
end

/- Contracts: Verify. -/
section
namespace Go.Proofs.YtbcjnmifflflfaaGreatDoor
set_option maxHeartbeats 8000000
set_option maxRecDepth 10000

end Go.Proofs.YtbcjnmifflflfaaGreatDoor
end

/- Plain: the chapter's example, reckoned out. -/
section
namespace Go.Proofs.YtbcjnmifflflfaaGreatDoor
set_option maxHeartbeats 2000000
set_option maxRecDepth 10000

def ownB (c : Control) (n : Nat) : Bool := rootP c (firstC c + n) == firstC c + n
def idB (c : Control) (o : Option (List Int)) (a b : Nat) : Bool := match c.signals[a]?, c.signals[b]? with
  | some x, some y => (match o with
    | none => true
    | some l => l.getD (firstC c + a).toNat 0 == l.getD (firstC c + b).toNat 0) && alikeX o x y
  | _, _ => false
def leadB (c : Control) (o : Option (List Int)) (n : Nat) : Nat := ((List.range n).find? fun j => ownB c j && idB c o j n).getD n
def divB (c : Control) (o : Option (List Int)) : List Int := (List.range (countC c).toNat).map fun k : Nat => if rootP c k < firstC c then rootP c k else firstC c + leadB c o (rootP c k - firstC c).toNat
def clsB (c : Control) : Nat → Option (List Int)
  | 0 => none
  | k + 1 => some (divB c (clsB c k))
def notR (a : Int) : Expr := ⟨2, 0, [onX a]⟩
def lampR : Control := ⟨1, [[115, 116, 97, 114, 116]], [⟨[103, 111], 1, onX 2, onX 1, 0, false⟩, ⟨[97, 103, 97, 105, 110], 0, onX 3, noX, 0, false⟩, ⟨[116, 111, 111], 1, onX 2, onX 1, 0, false⟩, ⟨[98, 97, 99, 107], 0, notR 4, noX, 0, false⟩, ⟨[108, 97, 109, 112], 0, notR 2, noX, 0, false⟩], [5], [6]⟩
def lampZ : Control := ⟨1, [[115, 116, 97, 114, 116]], [⟨[103, 111], 1, onX 2, onX 1, 0, false⟩, ⟨[98, 97, 99, 107], 0, notR 3, noX, 0, false⟩], [3], [4]⟩
end Go.Proofs.YtbcjnmifflflfaaGreatDoor
end

/- Contracts: law 38: Lamp, awake. -/
section
namespace Go.Proofs.YtbcjnmifflflfaaGreatDoor
set_option maxHeartbeats 4000000
set_option maxRecDepth 10000

def kgood : List Int := [0, 1, 2, 3, 3, 3, 4, noneV]
def kbad : List Int := [0, 1, 2, 3, 3, 3, 4, 4]
end Go.Proofs.YtbcjnmifflflfaaGreatDoor
end

/- Plain laws: reducing a reduced control changes nothing. -/
section
namespace Go.Proofs.YtbcjnmifflflfaaGreatDoor
set_option maxHeartbeats 1000000
set_option maxRecDepth 10000

/-- The class of a line behind some divisions. -/
noncomputable def stL (c : Control) (k : Nat) (l : Int) : Int := divL c (clsO c k) l
section red
variable {c : Control} (hz : checkC c = 0) (hp : PilC c)
include hz hp
end red

end Go.Proofs.YtbcjnmifflflfaaGreatDoor
end

/- Laws of chapter 38: Classes, Reduces, Verifies, Proves. -/
section
namespace Go.Proofs.YtbcjnmifflflfaaGreatDoor
set_option maxHeartbeats 4000000
set_option maxRecDepth 10000

theorem keep_i64 {c : Control} (hz : checkC c = 0) {k : Int} (hk : 0 ≤ k ∧ k < countC c) : I64 (keepL c k) := by
  have hf := fine_of hz
  have hp := pil_of hz
  have h1 := count_le hf
  have h2 := red_count_le hf hp
  rcases keep_range hf hp hk with h | h
  · rw [h]; decide
  · constructor <;> omega
theorem keepP_i64 {c : Control} (hz : checkC c = 0) : ∀ v ∈ keepP c, I64 v := by
  have hf := fine_of hz
  have hfc := hf.f0
  have hcn := count_first c
  intro v hv
  unfold keepP at hv
  obtain ⟨k, hk, rfl⟩ := List.mem_map.1 hv
  rw [List.mem_range] at hk
  exact keep_i64 hz (by omega)
theorem red_ok {c : Control} (hz : checkC c = 0) (hc : OkC c) : OkC (redC c) := by
  have hf := fine_of hz
  have hp := pil_of hz
  have hl := need_len hf hp
  have hs := hf.sig
  have hact := hf.act
  refine ⟨hc.actuators, hc.inputs, hc.names, ?_, ?_, ?_, ?_, ?_, ?_⟩
  · show ((needL c).map _).length ≤ _
    rw [List.length_map]
    omega
  · intro s hs
    obtain ⟨k, hk, rfl⟩ := List.mem_map.1 hs
    obtain ⟨n, x, -, hx, -, e, -⟩ := need_sig hf hp ((mem_need hf hp).1 hk)
    have ho := hc.sigs x (List.mem_of_getElem? hx)
    rw [e]
    exact ⟨ho.name, ho.kind, rep_ok (keepP_i64 hz) _ x.on (Nat.lt_succ_self _) ho.on, rep_ok (keepP_i64 hz) _ x.off (Nat.lt_succ_self _) ho.off, ho.delay⟩
  · show (c.plus.map _).length ≤ _
    rw [List.length_map]
    exact hc.plus
  · show (c.minus.map _).length ≤ _
    rw [List.length_map]
    exact hc.minus
  · intro v hv
    obtain ⟨k, hk, rfl⟩ := List.mem_map.1 hv
    exact keep_i64 hz (hp.2.2.1 k hk)
  · intro v hv
    obtain ⟨k, hk, rfl⟩ := List.mem_map.1 hv
    exact keep_i64 hz (hp.2.2.2 k hk)
end Go.Proofs.YtbcjnmifflflfaaGreatDoor
end

/- The law: the circuit of a reduced control has no more parts. -/
section
namespace Go.Proofs.YtbcjnmifflflfaaGreatDoor
set_option maxHeartbeats 8000000
set_option maxRecDepth 10000

def lnX (n : Int) : Expr := ⟨1, n, []⟩
def backC : Control := ⟨1, [[115, 116, 97, 114, 116]], [⟨[103, 111], 1, ⟨3, 0, [lnX 2, lnX 0]⟩, lnX 1, 0, false⟩, ⟨[98, 97, 99, 107], 0, ⟨2, 0, [lnX 3]⟩, ⟨0, 0, []⟩, 0, false⟩], [3], [4]⟩
theorem lnX_ok {n : Int} (h : inR .i64 n) : OkE (lnX n) := .mk _ (by simp [lnX]) (by simp [lnX]) h (by simp [lnX])
theorem backC_ok : OkC backC := ⟨by decide, by decide, by decide, by decide, by
  intro s hs
  simp only [backC, List.mem_cons, List.not_mem_nil, or_false] at hs
  rcases hs with rfl | rfl
  · exact ⟨by decide, by decide, .mk _ (by simp) (by simp) (by simp) (by
      intro a ha
      simp only [List.mem_cons, List.not_mem_nil, or_false] at ha
      rcases ha with rfl | rfl
      · exact lnX_ok (by simp)
      · exact lnX_ok (by simp)), lnX_ok (by simp), by decide⟩
  · exact ⟨by decide, by decide, .mk _ (by simp) (by simp) (by simp) (by
      intro a ha
      simp only [List.mem_cons, List.not_mem_nil, or_false] at ha
      rw [ha]
      exact lnX_ok (by simp)), .mk _ (by simp) (by simp) (by simp) (by simp), by decide⟩, by decide, by decide, by decide, by decide⟩
theorem backC_check : checkC backC = 0 := by decide +kernel
theorem backC_count : countM backC = 9 := by decide +kernel
theorem Back1_fn (n : Int) : CallFn Tryz.prog 106 [aI n] (aE (lnX n)) := by
  refine callFz_of Tryz.func106 rfl Tryz.ntmps106 (rs := [.cell 2 84]) rfl (by kernel_rfl) (by simp) (by kernel_rfl) ?_
  simp [lnX]
theorem Back_fn : CallFn Tryz.prog 51 [] (aC backC) := by
  have b0 := Back1_fn 0
  have b1 := Back1_fn 1
  have b2 := Back1_fn 2
  have b3 := Back1_fn 3
  refine callFz_of Tryz.func51 rfl Tryz.ntmps51 (rs := [.cell 0 26]) rfl (by kernel_rfl) (by simp) (by kernel_rfl) ?_
  simp
  intro c0
  refine b2.s ?_
  simp
  refine b0.s ?_
  simp
  refine b1.s ?_
  simp
  refine b3.s ?_
  simp [backC, lnX, encE]
theorem tryBack_fn : CallFn Tryz.prog 13 [] (aB true) := by
  have h1 := Back_fn
  have h2 := Count37_fn backC backC_ok
  rw [show countR backC = (9, 0) by unfold countR; rw [backC_check, backC_count]; rfl] at h2
  refine callFz_of Tryz.func13 rfl Tryz.ntmps13 (rs := [.tmp 0]) rfl (by kernel_rfl) (by simp) (by kernel_rfl) ?_
  simp
  refine h1.s ?_
  simp
  refine h2.s ?_
  simp
theorem TopReduceCount_fn (c : Control) (hc : OkC c) : CallFn Tryz.prog 3 [aC c] (aB true) := by
  have ht := tryBack_fn
  refine callFz_of Tryz.func3 rfl Tryz.ntmps3 (rs := [.tmp 2]) rfl (by kernel_rfl) (by simp) (by kernel_rfl) ?_
  simp
  refine (Few_fn c hc).s ?_
  by_cases hfw : fewC c = true
  · have hpm := few_c hfw
    have d1 := CheckR_fn c hc hpm.1 hpm.2
    simp [hfw]
    refine GCall.fn (aI (checkC c)) (fun h => ⟨trivial, d1⟩) ?_
    simp
    by_cases hz : checkC c = 0
    · have hf := fine_of hz
      have hp := pil_of hz
      have ho := red_ok hz hc
      have c1 := Reduce_fn c hc
      rw [show reduceQ c = (redC c, keepP c, 0) by simp [reduceQ, hz]] at c1
      have c2 := Count37_fn c hc
      rw [show countR c = ((countM c : Int), 0) by unfold countR; rw [hz]; rfl] at c2
      have c3 := Count37_fn (redC c) ho
      have hrz := red_check hz hp
      rw [show countR (redC c) = ((countM (redC c) : Int), 0) by unfold countR; rw [hrz]; rfl] at c3
      have hle := count_red hf hp
      have hse := red_sigs hf hp
      simp [hz]
      refine c1.s ?_
      simp
      intro b3
      refine c2.s ?_
      simp
      refine c3.s ?_
      simp
      refine GCall.fn (aB true) (fun _ => ⟨trivial, ht⟩) ?_
      simp [hle, hse]
    · simp [hz]
      refine ht.s ?_
      simp
  · simp [hfw]
    refine GCall.fn (aI 0) (fun h => h.elim) ?_
    simp
    refine ht.s ?_
    simp
end Go.Proofs.YtbcjnmifflflfaaGreatDoor
end
