/- Texts joined by a program: Yj, Yk, Yl, Ym, Yn, Yo, Zc, Yp, Yq, Yr. -/
import Derived.Test.YthlpelkcmmaokaaGreatP4
import Derived.Test.YthlpelkcmmaokaaGreatPX
import Derived.Test.YthlpelkcmmaokaaGreatP2
set_option linter.unusedSimpArgs false
set_option linter.unusedVariables false

/- Contracts: the classes, divided once. -/
section
namespace Go.Proofs.YthlpelkcmmaokaaGreat
set_option maxHeartbeats 8000000
set_option maxRecDepth 10000

@[simp] theorem mp_look : mpT Tryz.prog 140 = none := by kernel_rfl
@[simp] theorem rm_look : rmT Tryz.prog 140 = some 142 := by kernel_rfl

theorem idxG_s (xs : List Int) (p : Int → Bool) (f : FuncId) (first caps : List A) (H : Heap) (hx : Sh xs) (hp : ∀ n ∈ xs, CallS Tryz.prog f (first ++ [aI n] ++ caps) H fun r H' => r = aB (p n) ∧ H' = H) :
    CallS Tryz.prog 118 [aIs xs, .fn f first caps] H fun r H' => r = aI (idxI (xs.findIdx? p)) ∧ H' = H := by
  refine CallS.rt (k := 1000) (CallS.dropP (callS_of Tryz.func118 rfl Tryz.ntmps118 (rs := [.tmp 4]) rfl (by kernel_rfl) (by simp) (by kernel_rfl) (K := fun r H' => r = aI (idxI (xs.findIdx? p)) ∧ subP (rt 1000 H) H') ?_) ?_)
  · simp
    refine V.for' [0, 1, 7] (fun i : Nat => [(8, aI i)]) (fun _ => rt 1000 H) (fun i => i ≤ xs.length ∧ NoF p (xs.take i)) (fun i => xs.length - i) 0 ⟨by simp, by simp, subP.refl _⟩ ?_
    rintro i ⟨hi, hI⟩
    by_cases hlt : i < xs.length
    · have h1 := List.getElem?_eq_getElem hlt
      have hs := findIdx_step (p := p) hI h1
      have hc := (hp xs[i] (List.getElem_mem hlt)).rt' (k := 1000)
      simp at hc
      simp [hlt, h1]
      refine hc.mono ?_
      rintro r H' ⟨H2, rfl, rfl, rfl⟩
      cases e : p xs[i]
      · simp
        exact ⟨by omega, i + 1, ⟨hlt, hs.1 e⟩, by omega, by simp, subP.refl _⟩
      · rw [hs.2 e]
        simp
        exact subP.refl _
    · obtain rfl : i = xs.length := by omega
      rw [findIdx_none hI]
      simp
      exact subP.refl _
  · rintro r H' ⟨rfl, h⟩
    exact ⟨_, h, _, rfl, rfl, rfl⟩

theorem perm_at {α : Type} (G : List α) (d : α) (n : Nat) (hn : G.length = n) (ix : List Nat) (h : ix.Perm (List.range n)) : (ix.map fun i => G.getD i d).Perm G := by
  subst hn
  have h1 := h.map fun i => G.getD i d
  refine h1.trans ?_
  have e : (List.range G.length).map (fun i => G.getD i d) = G := by
    apply List.ext_getElem
    · simp
    · intro i h1 h2
      simp [h2]
  rw [e]
theorem perm7 {α : Type} (a b c d e f g : α) : [c, b, g, a, d, e, f].Perm [a, b, c, d, e, f, g] := perm_at [a, b, c, d, e, f, g] a 7 rfl [2, 1, 6, 0, 3, 4, 5] (by decide)
theorem perm6 {α : Type} (a b c d e f : α) : [c, b, a, d, e, f].Perm [a, b, c, d, e, f] := perm_at [a, b, c, d, e, f] a 6 rfl [2, 1, 0, 3, 4, 5] (by decide)
theorem Ds.three {x : X} {a b c : A} {vs : List Value} (h : Ds x [a, b, c] vs) : ∃ u v w, vs = [u, v, w] ∧ D x a u ∧ D x b v ∧ D x c w := by
  rcases vs with _ | ⟨u, _ | ⟨v, _ | ⟨w, _ | ⟨z, l⟩⟩⟩⟩ <;> simp only [Ds, and_false] at h
  exact ⟨u, v, w, rfl, h.1, h.2.1, h.2.2.1⟩
theorem idx_lend {f : FuncId} {c : Control} {x : Signal} {o3 o3' : A} {h0 : Value} {xs : List Int} {b8 : Nat} {H2 : Heap} {r0 : A} (hr : flatV r0 = true) (h3 : ∀ (w1 w2 : X) v, w1.le w2 → D w1 o3 v → D w2 o3' v)
    (h2 : ∀ p ∈ H2, flatB p.2 = true) (h : CallS Tryz.prog 118 [aIs xs, .fn f [] [.rptr (encC c), o3', .rptr (encS x)]] H2 fun r H' => r = r0 ∧ H' = H2) :
    CallS Tryz.prog 118 [.own 90 h0, .fn f [] [.rptr (encC c), o3, .ptr 8 b8 0]] ([(90, .seq h0 3 1 (xs.map rI)), (8, .box b8 (sigA x))] ++ H2) fun r H' => r = r0 ∧ H' = H2 ++ [(90, .seq h0 3 1 (xs.map rI)), (8, .box b8 (sigA x))] := by
  refine CallS.lendF h ?_ ?_
  · intro X Y H0 vs hi hle hw hok hd
    obtain ⟨v, w, rfl, d1, d2⟩ := Ds.two hd
    have e1 := own_dat (e := 3) (sz := 1) (H := [(90, .seq h0 3 1 (xs.map rI)), (8, .box b8 (sigA x))]) hi hle hw hok (by simp) (allD_I xs) d1
    rw [rowsD_I] at e1
    refine ⟨e1, ?_, trivial⟩
    simp only [D] at d2 ⊢
    obtain ⟨fs, cs, e, d3, d4⟩ := d2
    refine ⟨fs, cs, e, d3.mono hle, ?_⟩
    obtain ⟨v1, v2, v3, e4, k1, k2, k3⟩ := Ds.three d4
    rw [e4]
    exact ⟨k1.mono hle, h3 _ _ _ hle k2, ptr_rptr (ls := encS x) (H := [(90, .seq h0 3 1 (xs.map rI)), (8, .box b8 (sigA x))]) hi hle hw hok (by simp) k3, trivial⟩
  · rintro r H' ⟨rfl, rfl⟩
    exact ⟨hr, h2, rfl, rfl⟩

theorem idx_none {c : Control} {x : Signal} {b3 b8 : Nat} {h0 : Value} {xs : List Int} (hf : Fine c) (hs : Sh xs) (hxs : ∀ v ∈ xs, ∃ (n : Nat) (y : Signal), v = firstC c + n ∧ c.signals[n]? = some y) :
    CallS Tryz.prog 118 [.own 90 h0, .fn 117 [] [.rptr (encC c), .ptr 3 b3 0, .ptr 8 b8 0]] ([(90, .seq h0 3 1 (xs.map rI)), (8, .box b8 (sigA x))] ++ [(3, .box b3 [.nils])])
      fun r H' => r = aI (idxI (xs.findIdx? (likeAt c none x))) ∧ H' = [(3, .box b3 [.nils])] ++ [(90, .seq h0 3 1 (xs.map rI)), (8, .box b8 (sigA x))] := by
  refine idx_lend rfl (fun X Y v hle hd => D.mono hle _ _ hd) (by simp [flatB, flatV]) (idxG_s xs _ _ _ _ _ hs ?_)
  intro v hv
  obtain ⟨m, y, rfl, hy⟩ := hxs v hv
  have e : likeAt c none x (firstC c + m) = true := by rw [like_at hy]; rfl
  rw [e]
  exact like_none c m x y b3 hf hy
theorem idx_some {c : Control} {l : List Int} {a : Nat} {x : Signal} {b8 : Nat} {h0 : Value} {xs : List Int} (hf : Fine c) (hc : OkC c) (ho : OkO c (some l)) (hx : c.signals[a]? = some x) (hs : Sh xs) (hxs : ∀ v ∈ xs, ∃ (n : Nat) (y : Signal), v = firstC c + n ∧ c.signals[n]? = some y) :
    CallS Tryz.prog 118 [.own 90 h0, .fn 117 [] [.rptr (encC c), .rptr [.sl (l.map encI)], .ptr 8 b8 0]] ([(90, .seq h0 3 1 (xs.map rI)), (8, .box b8 (sigA x))] ++ [])
      fun r H' => r = aI (idxI (xs.findIdx? (likeAt c (some l) x))) ∧ H' = [] ++ [(90, .seq h0 3 1 (xs.map rI)), (8, .box b8 (sigA x))] := by
  refine idx_lend rfl (fun X Y v hle hd => D.mono hle _ _ hd) (by simp) (idxG_s xs _ _ _ _ _ hs ?_)
  intro v hv
  obtain ⟨m, y, rfl, hy⟩ := hxs v hv
  rw [like_at hy]
  exact like_some c l a m x y hf hc hx hy ho

theorem key_look (k d : Int) (i : Bool) (o : Int) : keyA (.record [.int .i64 k, .int .i64 d, .bool i, .int .i64 o]) = some (keyV k d i o) := by simp [keyA, cellVs, cellV, keyV]

theorem divided_none (c : Control) (hf : Fine c) (hc : OkC c) : CallFn Tryz.prog 81 [aC c, .nils] (aIs (divP c none)) := by
  have hsm := hf.sm
  have hact := hf.act
  have hin := hf.inp
  have hsg := hf.sig
  have hcn : countC c = firstC c + c.signals.length := rfl
  have hfc : firstC c = 2 * c.actuators + c.inputs.length := rfl
  obtain ⟨M, hM⟩ : ∃ M : Nat, countC c = M := ⟨(countC c).toNat, by omega⟩
  refine callFz_of Tryz.func81 rfl Tryz.ntmps81 (rs := [.tmp 4]) rfl (by kernel_rfl) (by simp) (by kernel_rfl) ?_
  simp
  intro b3
  refine (linesQ_fn c hsm).s ?_
  simp [hM]
  intro u
  refine ⟨by omega, fun b16 => ?_⟩
  refine V.inv (H' := [(90, sq nilS), (91, .seqs []), (16, .raw b16 (.map (msF []) 0)), (15, .seq u 3 1 ((outA c none 0).map rI)), (3, .box b3 [.nils])]) ?_ ?_
  · intro x H0 h
    have h1 : Inv x ((90, .seq (.slice none 0 0) 3 1 []) :: (91, .seqs []) :: _) := Inv.nil (Inv.fam (t := 91) h) ⟨rfl, rfl⟩
    rw [outA_zero, hM]
    exact (by simpa [sq, nilS, msF, msL] using h1)
  refine V.forI (σ := Sq × List Sq × List Grp × List Sq) M [2, 3, 4, 5, 6, 18] (by simp; exact rfl) (fun k g => [(19, aI k)]) (fun k g => [(90, sq g.1), (91, .seqs g.2.1), (16, .raw b16 (.map (msF g.2.2.1) g.2.2.1.length)), (15, .seq u 3 1 ((outA c none k).map rI)), (3, .box b3 [.nils])])
    (fun k g => Fam c none k g.2.2.1 ∧ (g.1 :: g.2.1).Perm (g.2.2.1.map rF ++ g.2.2.2)) (nilS, [], [], [nilS]) ⟨Fam.zero c none (by omega), by simp⟩ (by simp) ⟨by simp; exact rfl, by simp⟩ ?_ ?_
  · rintro k ⟨q, l, fam, sp⟩ hk ⟨hF, hp⟩
    simp only at hF hp
    have ml := outA_len c none k
    have ms := outA_set (o := none) (k := k) (c := c) (by omega)
    have hkr : (0 : Int) ≤ k ∧ (k : Int) < countC c := by omega
    have hr := root_range hf _ (k : Int) (Nat.le_refl _) hkr
    have c1 := root_fn c k hf hkr
    have hgl : gL c none k = if rootP c k = k then divL c none k else k := rfl
    have hsk := hF.skip (k := k)
    rw [← ms]
    generalize outA c none k = outQ at *
    have hok : outQ[k]? = some outQ[k] := List.getElem?_eq_getElem (by omega)
    have hol : k < outQ.length := by omega
    generalize outQ[k] = ok at *
    generalize gL c none k = v at *
    have hown : rootP c (rootP c k) = rootP c k := by rw [root_step hf hr.1, if_neg (by rw [hr.2]; decide)]
    simp [hk, hol, hok]
    refine (firstQ_fn c hsm).s ?_
    simp
    refine GCall.fn (aI (rootP c k)) (fun h => ⟨h, c1⟩) ?_
    generalize hr0 : rootP c k = r at *
    by_cases h1 : (k : Int) < firstC c
    · have hv : v = k := by
        rw [hgl]
        split
        · rename_i e
          rw [own_divL (hr0.trans e), if_pos h1]
        · rfl
      simp [h1]
      exact ⟨by omega, q.1, q.2.1, q.2.2.1, q.2.2.2, l, fam, ⟨hsk (.inl h1), sp, hp⟩, rfl, rfl, ⟨rfl, rfl⟩, by rw [hv]⟩
    · by_cases h2 : r = k
      · subst h2
        obtain ⟨n, hn⟩ : ∃ n : Nat, (k : Int) = firstC c + n := ⟨((k : Int) - firstC c).toNat, by omega⟩
        have hnl : n < c.signals.length := by omega
        obtain ⟨x, hx1⟩ : ∃ x, c.signals[n]'hnl = x := ⟨_, rfl⟩
        have hx : c.signals[n]? = some x := by rw [List.getElem?_eq_getElem hnl, hx1]
        have ho : ownQ c n := by
          unfold ownQ
          rw [← hn]
          exact hr0
        have hox := hc.sigs _ (List.mem_of_getElem? hx)
        have hg0 : goodK Tryz.prog 142 (keyV x.kind x.delay x.init 0) := look_good x.init hox.kind hox.delay ⟨by decide, by decide⟩
        have e1 : (k : Int) - firstC c = n := by omega
        simp [h1]
        refine ⟨by omega, V.fact (P := Tryz.prog) (p := ∀ s ∈ q :: l, isHd s.1) (fun x H0 h => inv_hd h) fun hhd => ?_⟩
        obtain ⟨h0, xs, l', fam1, i, a1, a2, a3, a4, a5, a6, a7, a8, a9⟩ := hF.at hf hn hx ho (key := keyV x.kind x.delay x.init 0) rfl hg0 hp hhd
        have hgm := hF.good.map
        refine V.inv (H' := [(90, .seq h0 3 1 (xs.map rI)), (91, .seqs l'), (16, .raw b16 (.map (msF fam) fam.length)), (15, .seq u 3 1 ((outQ.map rI).set k [.dat (.int .i64 k)])), (3, .box b3 [.nils])]) (fun X H0 h => a1 X _ h) ?_
        refine V.draw (fun s => if s = 41 then some (.fn (aI (firstC c))) else none) (by kernel_rfl) (by kernel_rfl) (by simp) ?_
        simp [e1, hx, hx1, hnl, a2, a3, hgm, hg0, key_look]
        refine ⟨firstQ_fn c hsm, by omega, fun b8 b9 => ?_⟩
        refine (((idx_none (x := x) (b3 := b3) (b8 := b8) (h0 := h0) hf (by unfold Sh; omega) a5).frame (H1 := [(9, _), (91, _), (16, _), (15, _)])).perm (perm7 _ _ _ _ _ _ _)).mono ?_
        rintro r' H' ⟨_, ⟨rfl, rfl⟩, rfl⟩
        rw [if_pos rfl] at hgl
        cases hj : xs.findIdx? (likeAt c none x) with
        | some j =>
          obtain ⟨hjl, hjp, _⟩ := List.findIdx?_eq_some_iff_getElem.1 hj
          obtain ⟨w, hw⟩ : ∃ w, xs[j] = w := ⟨_, rfl⟩
          have hwm : w ∈ xs := by rw [← hw]; exact List.getElem_mem hjl
          have hwo : xs[j]? = some w := by rw [List.getElem?_eq_getElem hjl, hw]
          rw [hw] at hjp
          obtain ⟨d1, d2, sp', d3⟩ := a8 w hwm hjp
          simp [key_look, a2, a3, hgm, hg0, hjl, hw, hwo, hol]
          exact ⟨by omega, h0, 3, 1, xs.map rI, l', fam, ⟨d2, sp', d3⟩, rfl, rfl, ⟨rfl, rfl⟩, by rw [hgl, ← d1]⟩
        | none =>
          have hno : ∀ v ∈ xs, likeAt c none x v = false := by
            intro v hv
            have := (List.findIdx?_eq_none_iff.1 hj) v hv
            simpa using this
          obtain ⟨d1, d2⟩ := a9 hno
          simp [key_look, a3, hgm, hg0, a6, a7, hol]
          intro u1
          obtain ⟨fam2, f1, f2, f3, sp', f4⟩ := d2 u1
          have e2 : xs.map rI ++ [[.dat (.int .i64 (k : Int))]] = (xs ++ [(k : Int)]).map rI := by simp
          simp [hdrA, f1]
          exact ⟨by omega, by omega, u1, 3, 1, (xs ++ [(k : Int)]).map rI, l', fam2, ⟨f3, sp', f4⟩, by rw [e2]; rfl, rfl, ⟨rfl, f2.symm⟩, by rw [hgl, d1]⟩
      · have hv : v = k := by rw [hgl, if_neg h2]
        simp [h1, h2]
        exact ⟨by omega, by omega, q.1, q.2.1, q.2.2.1, q.2.2.2, l, fam, ⟨hsk (.inr h2), sp, hp⟩, rfl, rfl, ⟨rfl, rfl⟩, by rw [hv]⟩
  · rintro ⟨q, l, fam, sp⟩ ⟨hF, hp⟩
    simp only at hF hp
    rw [outA_all (by omega)]
    have hl0 : (outB c none 0).length = M := by rw [outB_len]; omega
    simp [hl0]
    refine V.forI (σ := Unit) M [2, 4, 5, 86] (by simp; exact rfl) (fun k _ => [(87, aI k)]) (fun k _ => [(15, .seq u 3 1 ((outB c none k).map rI))]) (fun _ _ => True) () trivial (by simp [outB_len, hM]) ⟨by simp; exact rfl, by simp⟩ ?_ ?_
    · rintro k - hk -
      have hkr : (0 : Int) ≤ k ∧ (k : Int) < countC c := by omega
      have ml := outB_len c none k
      have ms := outB_set (o := none) (k := k) (c := c) (by omega)
      have hr := root_range hf _ (k : Int) (Nat.le_refl _) hkr
      have c1 := root_fn c k hf hkr
      have hro := outB_root hf (o := none) (k := k) (m := k) (by omega)
      rw [← ms]
      generalize outB c none k = outQ at *
      generalize rootP c k = r at *
      generalize divL c none k = v at *
      have hol : k < outQ.length := by omega
      obtain ⟨w, hw⟩ : ∃ w, outQ[k]? = some w := ⟨_, List.getElem?_eq_getElem hol⟩
      simp [hk]
      refine c1.s ?_
      simp [hro, hw]
      omega
    · rintro - -
      rw [outB_all (by omega)]
      simp

theorem divided_some (c : Control) (od : List Int) (hf : Fine c) (hc : OkC c) (ho : OkO c (some od)) : CallFn Tryz.prog 81 [aC c, aIs od] (aIs (divP c (some od))) := by
  have hsm := hf.sm
  have hact := hf.act
  have hin := hf.inp
  have hsg := hf.sig
  obtain ⟨hol0, hoi⟩ := ho od rfl
  have hod : ∀ j, I64 (od.getD j 0) := by
    intro j
    rcases Nat.lt_or_ge j od.length with h | h
    · rw [List.getD_eq_getElem?_getD, List.getElem?_eq_getElem h]
      exact hoi _ (List.getElem_mem h)
    · rw [List.getD_eq_getElem?_getD, List.getElem?_eq_none h]
      exact ⟨by decide, by decide⟩
  have hcn : countC c = firstC c + c.signals.length := rfl
  have hfc : firstC c = 2 * c.actuators + c.inputs.length := rfl
  obtain ⟨M, hM⟩ : ∃ M : Nat, countC c = M := ⟨(countC c).toNat, by omega⟩
  refine callFz_of Tryz.func81 rfl Tryz.ntmps81 (rs := [.tmp 4]) rfl (by kernel_rfl) (by simp) (by kernel_rfl) ?_
  simp
  refine (linesQ_fn c hsm).s ?_
  simp [hM]
  intro u
  refine ⟨by omega, fun b16 => ?_⟩
  refine V.inv (H' := [(90, sq nilS), (91, .seqs []), (16, .raw b16 (.map (msF []) 0)), (15, .seq u 3 1 ((outA c (some od) 0).map rI))]) ?_ ?_
  · intro x H0 h
    have h1 : Inv x ((90, .seq (.slice none 0 0) 3 1 []) :: (91, .seqs []) :: _) := Inv.nil (Inv.fam (t := 91) h) ⟨rfl, rfl⟩
    rw [outA_zero, hM]
    exact (by simpa [sq, nilS, msF, msL] using h1)
  refine V.forI (σ := Sq × List Sq × List Grp × List Sq) M [2, 3, 4, 5, 6, 18] (by simp; exact rfl) (fun k g => [(19, aI k)]) (fun k g => [(90, sq g.1), (91, .seqs g.2.1), (16, .raw b16 (.map (msF g.2.2.1) g.2.2.1.length)), (15, .seq u 3 1 ((outA c (some od) k).map rI))])
    (fun k g => Fam c (some od) k g.2.2.1 ∧ (g.1 :: g.2.1).Perm (g.2.2.1.map rF ++ g.2.2.2)) (nilS, [], [], [nilS]) ⟨Fam.zero c (some od) (by omega), by simp⟩ (by simp) ⟨by simp; exact rfl, by simp⟩ ?_ ?_
  · rintro k ⟨q, l, fam, sp⟩ hk ⟨hF, hp⟩
    simp only at hF hp
    have ml := outA_len c (some od) k
    have ms := outA_set (o := some od) (k := k) (c := c) (by omega)
    have hkr : (0 : Int) ≤ k ∧ (k : Int) < countC c := by omega
    have hr := root_range hf _ (k : Int) (Nat.le_refl _) hkr
    have c1 := root_fn c k hf hkr
    have hgl : gL c (some od) k = if rootP c k = k then divL c (some od) k else k := rfl
    have hsk := hF.skip (k := k)
    rw [← ms]
    generalize outA c (some od) k = outQ at *
    have hok : outQ[k]? = some outQ[k] := List.getElem?_eq_getElem (by omega)
    have hol : k < outQ.length := by omega
    generalize outQ[k] = ok at *
    generalize gL c (some od) k = v at *
    have hown : rootP c (rootP c k) = rootP c k := by rw [root_step hf hr.1, if_neg (by rw [hr.2]; decide)]
    simp [hk, hol, hok]
    refine (firstQ_fn c hsm).s ?_
    simp
    refine GCall.fn (aI (rootP c k)) (fun h => ⟨h, c1⟩) ?_
    generalize hr0 : rootP c k = r at *
    by_cases h1 : (k : Int) < firstC c
    · have hv : v = k := by
        rw [hgl]
        split
        · rename_i e
          rw [own_divL (hr0.trans e), if_pos h1]
        · rfl
      simp [h1]
      exact ⟨by omega, q.1, q.2.1, q.2.2.1, q.2.2.2, l, fam, ⟨hsk (.inl h1), sp, hp⟩, rfl, rfl, ⟨rfl, rfl⟩, by rw [hv]⟩
    · by_cases h2 : r = k
      · subst h2
        obtain ⟨n, hn⟩ : ∃ n : Nat, (k : Int) = firstC c + n := ⟨((k : Int) - firstC c).toNat, by omega⟩
        have hnl : n < c.signals.length := by omega
        obtain ⟨x, hx1⟩ : ∃ x, c.signals[n]'hnl = x := ⟨_, rfl⟩
        have hx : c.signals[n]? = some x := by rw [List.getElem?_eq_getElem hnl, hx1]
        have how : ownQ c n := by
          unfold ownQ
          rw [← hn]
          exact hr0
        have hox := hc.sigs _ (List.mem_of_getElem? hx)
        have hg0 : goodK Tryz.prog 142 (keyV x.kind x.delay x.init (od.getD k 0)) := look_good x.init hox.kind hox.delay (hod k)
        have e1 : (k : Int) - firstC c = n := by omega
        have hon : od ≠ [] := by
          rintro rfl
          simp at hol0
          omega
        have hkd : k < od.length := by omega
        obtain ⟨okey, hok2⟩ : ∃ w, od[k]'hkd = w := ⟨_, rfl⟩
        have e5 : od.getD k 0 = okey := by rw [List.getD_eq_getElem?_getD, List.getElem?_eq_getElem hkd, hok2]; rfl
        have hkey : keyV x.kind x.delay x.init (od.getD k 0) = keyX (some od) k x := rfl
        rw [e5] at hkey hg0
        simp [h1]
        refine ⟨by omega, V.fact (P := Tryz.prog) (p := ∀ s ∈ q :: l, isHd s.1) (fun x H0 h => inv_hd h) fun hhd => ?_⟩
        obtain ⟨h0, xs, l', fam1, i, a1, a2, a3, a4, a5, a6, a7, a8, a9⟩ := hF.at hf hn hx how (key := keyV x.kind x.delay x.init okey) hkey hg0 hp hhd
        have hgm := hF.good.map
        refine V.inv (H' := [(90, .seq h0 3 1 (xs.map rI)), (91, .seqs l'), (16, .raw b16 (.map (msF fam) fam.length)), (15, .seq u 3 1 ((outQ.map rI).set k [.dat (.int .i64 k)]))]) (fun X H0 h => a1 X _ h) ?_
        refine V.draw (fun s => if s = 41 then some (.fn (aI (firstC c))) else none) (by kernel_rfl) (by kernel_rfl) (by simp) ?_
        simp [e1, hx, hx1, hnl, a2, a3, hgm, hg0, key_look, hon, hok2, hkd]
        refine ⟨firstQ_fn c hsm, by omega, fun b8 b9 => ?_⟩
        refine (((idx_some (x := x) (b8 := b8) (h0 := h0) hf hc ho hx (by unfold Sh; omega) a5).frame (H1 := [(9, _), (91, _), (16, _), (15, _)])).perm (perm6 _ _ _ _ _ _)).mono ?_
        rintro r' H' ⟨_, ⟨rfl, rfl⟩, rfl⟩
        rw [if_pos rfl] at hgl
        cases hj : xs.findIdx? (likeAt c (some od) x) with
        | some j =>
          obtain ⟨hjl, hjp, _⟩ := List.findIdx?_eq_some_iff_getElem.1 hj
          obtain ⟨w, hw⟩ : ∃ w, xs[j] = w := ⟨_, rfl⟩
          have hwm : w ∈ xs := by rw [← hw]; exact List.getElem_mem hjl
          have hwo : xs[j]? = some w := by rw [List.getElem?_eq_getElem hjl, hw]
          rw [hw] at hjp
          obtain ⟨d1, d2, sp', d3⟩ := a8 w hwm hjp
          simp [key_look, a2, a3, hgm, hg0, hjl, hw, hwo, hol]
          exact ⟨by omega, h0, 3, 1, xs.map rI, l', fam, ⟨d2, sp', d3⟩, rfl, rfl, ⟨rfl, rfl⟩, by rw [hgl, ← d1]⟩
        | none =>
          have hno : ∀ v ∈ xs, likeAt c (some od) x v = false := by
            intro v hv
            have := (List.findIdx?_eq_none_iff.1 hj) v hv
            simpa using this
          obtain ⟨d1, d2⟩ := a9 hno
          simp [key_look, a3, hgm, hg0, a6, a7, hol]
          intro u1
          obtain ⟨fam2, f1, f2, f3, sp', f4⟩ := d2 u1
          have e2 : xs.map rI ++ [[.dat (.int .i64 (k : Int))]] = (xs ++ [(k : Int)]).map rI := by simp
          simp [hdrA, f1]
          exact ⟨by omega, by omega, u1, 3, 1, (xs ++ [(k : Int)]).map rI, l', fam2, ⟨f3, sp', f4⟩, by rw [e2]; rfl, rfl, ⟨rfl, f2.symm⟩, by rw [hgl, d1]⟩
      · have hv : v = k := by rw [hgl, if_neg h2]
        simp [h1, h2]
        exact ⟨by omega, by omega, q.1, q.2.1, q.2.2.1, q.2.2.2, l, fam, ⟨hsk (.inr h2), sp, hp⟩, rfl, rfl, ⟨rfl, rfl⟩, by rw [hv]⟩
  · rintro ⟨q, l, fam, sp⟩ ⟨hF, hp⟩
    simp only at hF hp
    rw [outA_all (by omega)]
    have hl0 : (outB c (some od) 0).length = M := by rw [outB_len]; omega
    simp [hl0]
    refine V.forI (σ := Unit) M [2, 4, 5, 86] (by simp; exact rfl) (fun k _ => [(87, aI k)]) (fun k _ => [(15, .seq u 3 1 ((outB c (some od) k).map rI))]) (fun _ _ => True) () trivial (by simp [outB_len, hM]) ⟨by simp; exact rfl, by simp⟩ ?_ ?_
    · rintro k - hk -
      have hkr : (0 : Int) ≤ k ∧ (k : Int) < countC c := by omega
      have ml := outB_len c (some od) k
      have ms := outB_set (o := some od) (k := k) (c := c) (by omega)
      have hr := root_range hf _ (k : Int) (Nat.le_refl _) hkr
      have c1 := root_fn c k hf hkr
      have hro := outB_root hf (o := some od) (k := k) (m := k) (by omega)
      rw [← ms]
      generalize outB c (some od) k = outQ at *
      generalize rootP c k = r at *
      generalize divL c (some od) k = v at *
      have hol : k < outQ.length := by omega
      obtain ⟨w, hw⟩ : ∃ w, outQ[k]? = some w := ⟨_, List.getElem?_eq_getElem hol⟩
      simp [hk]
      refine c1.s ?_
      simp [hro, hw]
      omega
    · rintro - -
      rw [outB_all (by omega)]
      simp

end Go.Proofs.YthlpelkcmmaokaaGreat
end

/- Contracts: the classes; Root, Classes. -/
section
namespace Go.Proofs.YthlpelkcmmaokaaGreat
set_option maxHeartbeats 8000000
set_option maxRecDepth 10000

theorem okO_cls {c : Control} (hf : Fine c) (k : Nat) : OkO c (some (clsP c k)) := by
  intro l h
  cases h
  have h0 : 0 ≤ firstC c := by have := hf.act; unfold firstC; omega
  have hcn : countC c ≤ 1000 := by have := hf.act; have := hf.inp; have := hf.sig; unfold countC; omega
  refine ⟨cls_length h0 k, fun v hv => ?_⟩
  have := cls_mem hf hv
  exact ⟨by omega, by omega⟩
theorem cls_sh {c : Control} (hf : Fine c) (k : Nat) : Sh (clsP c k) := by
  have h0 : 0 ≤ firstC c := by have := hf.act; unfold firstC; omega
  have := cls_length h0 k
  have hcn : countC c ≤ 1000 := by have := hf.act; have := hf.inp; have := hf.sig; unfold countC; omega
  unfold Sh
  omega
theorem classes_fn (c : Control) (hf : Fine c) (hc : OkC c) : CallFn Tryz.prog 45 [aC c] (aIs (alikeC c)) := by
  refine callFz_of Tryz.func45 rfl Tryz.ntmps45 (rs := [.tmp 2]) rfl (by kernel_rfl) (by simp) (by kernel_rfl) ?_
  simp
  refine (divided_none c hf hc).s ?_
  simp
  refine V.for' [1] (fun k : Nat => [(3, aIs (clsP c k)), (2, .nils)]) (fun _ => []) (fun k => k ≤ leads c (clsO c k)) (fun k => c.signals.length - k) 0 ⟨Nat.zero_le _, by simp [clsP, clsO], subP.refl _⟩ ?_
  rintro k hk
  have c1 := divided_some c (clsP c k) hf hc (okO_cls hf k)
  rw [← cls_succ] at c1
  have c2 := eqI_fn (clsP c (k + 1)) (clsP c k) (cls_sh hf _) (cls_sh hf _)
  have hm := cls_more hf hk
  have ha := cls_alike hk
  have hle := leads_le c (clsO c (k + 1))
  generalize hP : clsP c (k + 1) = p at *
  generalize hQ : clsP c k = q at *
  simp
  refine c1.s ?_
  simp
  refine c2.s ?_
  by_cases h : p = q
  · simp [h, ha h]
  · simp [h]
    have h1 := hm h
    exact ⟨k + 1, h1, by omega, by rw [hP], subP.refl _⟩

/-! ### Root, Classes -/
noncomputable def rootQ (c : Control) (k : Int) : Int × Int := if checkC c ≠ 0 then (0, checkC c) else if k < 0 ∨ countC c ≤ k then (0, 6) else (rootP c k, 0)
theorem Root_fn (c : Control) (k : Int) (hc : OkC c) : CallFn Tryz.prog 12 [aC c, aI k] (.tuple [aI (rootQ c k).1, aI (rootQ c k).2]) := by
  refine callFz_of Tryz.func12 rfl Tryz.ntmps12 (rs := [.tmp 4, .tmp 5]) rfl (by kernel_rfl) (by simp) (by kernel_rfl) ?_
  simp
  refine (Check_fn c hc).s ?_
  simp
  by_cases hz : checkC c = 0
  · have hf := fine_of hz
    have hl := linesQ_fn c hf.sm
    simp [hz]
    refine GCall.fn (aI (countC c)) (fun h => ⟨h, hl⟩) ?_
    by_cases h1 : k < 0
    · simp [h1, rootQ, hz]
    · by_cases h2 : countC c ≤ k
      · simp [h1, h2, rootQ, hz]
        omega
      · have c1 := root_fn c k hf (by omega)
        simp [h1, h2, rootQ, hz]
        refine ⟨by omega, c1.s ?_⟩
        simp [h1, h2, rootQ, hz]
  · simp [hz, rootQ]
noncomputable def classesQ (c : Control) : List Int × Int := if checkC c ≠ 0 then ([], checkC c) else (alikeC c, 0)
theorem Classes_fn (c : Control) (hc : OkC c) : CallFn Tryz.prog 14 [aC c] (.tuple [aIs (classesQ c).1, aI (classesQ c).2]) := by
  refine callFz_of Tryz.func14 rfl Tryz.ntmps14 (rs := [.tmp 2, .tmp 3]) rfl (by kernel_rfl) (by simp) (by kernel_rfl) ?_
  simp
  refine (Check_fn c hc).s ?_
  simp
  by_cases hz : checkC c = 0
  · have hf := fine_of hz
    have c1 := classes_fn c hf hc
    simp [hz, classesQ]
    refine c1.s ?_
    simp [hz, classesQ]
  · simp [hz, classesQ]
end Go.Proofs.YthlpelkcmmaokaaGreat
end

/- Contracts: the needed lines. -/
section
namespace Go.Proofs.YthlpelkcmmaokaaGreat
set_option maxHeartbeats 8000000
set_option maxRecDepth 10000

def mapK (ns : List Int) : List (L × L) := ns.map fun n => (.int .i64 n, .bool true)
theorem mget_K (n : Int) : ∀ ns : List Int, mget (mapK ns) (.int .i64 n) = if n ∈ ns then some (.bool true) else none
  | [] => rfl
  | m :: ns => by
    have ih := mget_K n ns
    simp only [mapK, List.map_cons, mget, leq] at ih ⊢
    by_cases h : m = n
    · simp [h]
    · have h2 : ¬ n = m := fun e => h e.symm
      simp [h, h2]
      simpa using ih
theorem mput_K {n : Int} : ∀ {ns : List Int}, n ∉ ns → mput (mapK ns) (.int .i64 n) (.bool true) = mapK (ns ++ [n])
  | [], _ => rfl
  | m :: ns, h => by
    have h1 : ¬ m = n := fun e => h (by simp [e])
    have ih := mput_K (n := n) (ns := ns) fun hm => h (by simp [hm])
    simp only [mapK, List.map_cons, List.cons_append, mput, leq] at ih ⊢
    simp [h1]
    simpa using ih
theorem nodup_len : ∀ {l m : List Int}, l.Nodup → (∀ v ∈ l, v ∈ m) → l.length ≤ m.length
  | [], _, _, _ => Nat.zero_le _
  | v :: l, m, hn, hs => by
    have h1 := List.nodup_cons.1 hn
    have h2 := nodup_len (l := l) (m := m.erase v) h1.2 (by
      intro w hw
      have hne : w ≠ v := fun e => h1.1 (e ▸ hw)
      exact (List.mem_erase_of_ne hne).2 (hs w (by simp [hw])))
    have h3 := hs v (by simp)
    rw [List.length_erase_of_mem h3] at h2
    have : 0 < m.length := List.length_pos_of_mem h3
    simp only [List.length_cons]
    omega

/-- Lines that were marked, and more. -/
structure Grown (c : Control) (ns ns' : List Int) : Prop where
  sub : ∀ v ∈ ns, v ∈ ns'
  nodup : ns'.Nodup
  closed : ∀ v ∈ ns', v ∉ ns → ∀ u ∈ useL c v, firstC c ≤ clsL c u → clsL c u ∈ ns'
  need : ∀ v ∈ ns', Need c v
theorem Grown.refl {c : Control} {ns : List Int} (h1 : ns.Nodup) (h2 : ∀ v ∈ ns, Need c v) : Grown c ns ns := ⟨fun _ h => h, h1, fun _ h k => absurd h k, h2⟩
theorem Grown.trans {c : Control} {ns ns1 ns2 : List Int} (h : Grown c ns ns1) (k : Grown c ns1 ns2) : Grown c ns ns2 := by
  refine ⟨fun v hv => k.sub v (h.sub v hv), k.nodup, fun v hv hn u hu h1 => ?_, k.need⟩
  by_cases h2 : v ∈ ns1
  · exact k.sub _ (h.closed v h2 hn u hu h1)
  · exact k.closed v hv h2 u hu h1
/-- Nothing is needed but what is marked. -/
theorem grown_all {c : Control} {ns : List Int} (h : Grown c [] ns) (hp : ∀ p, p ∈ c.plus ∨ p ∈ c.minus → firstC c ≤ clsL c p → clsL c p ∈ ns) : ∀ v, Need c v ↔ v ∈ ns := by
  intro v
  refine ⟨fun hv => ?_, h.need v⟩
  induction hv with
  | pilot h1 h2 => exact hp _ h1 h2
  | use h1 h2 h3 ih => exact h.closed _ ih (by simp) _ h2 h3
noncomputable abbrev capM (c : Control) (b5 b6 : Nat) : List A := [.rptr [.sl ((alikeC c).map encI)], .rptr (encC c), .ptr 5 b5 0, .ptr 6 b6 0]
noncomputable abbrev mkH (c : Control) (b5 b6 r : Nat) (ns : List Int) : Heap := [(6, .box b6 [.fn 83 [] (capM c b5 b6)]), (5, .box b5 [.map 10 r]), (10, .map r (.int .i64) (mapK ns))]
@[simp] theorem mp_ib : mpT Tryz.prog 98 = some (.int .i64, .bool false) := by kernel_rfl

theorem usesLen {c : Control} (hf : Fine c) {i : Nat} {s : Signal} (hi : c.signals[i]? = some s) : (usesL s).length ≤ 1000 := by
  rw [used_met hf hi]
  have := metB_len (countC c).toNat fun k => occE s.on k || occE s.off k
  have h2 : countC c ≤ 1000 := by have := hf.act; have := hf.inp; have := hf.sig; unfold countC; omega
  omega
theorem mark_s (c : Control) (hf : Fine c) (hc : OkC c) (hp : PilC c) (hz : checkC c = 0) (b5 b6 r : Nat) : ∀ (N : Nat) (ns : List Int) (line : Int), (needL c).length - ns.length < N → 0 ≤ line ∧ line < countC c → ns.Nodup → (∀ v ∈ ns, Need c v) → (firstC c ≤ clsL c line → Need c (clsL c line)) →
    CallS Tryz.prog 83 (aI line :: capM c b5 b6) (mkH c b5 b6 r ns) fun z H' => ∃ ns', z = .tuple [] ∧ H' = mkH c b5 b6 r ns' ∧ Grown c ns ns' ∧ (firstC c ≤ clsL c line → clsL c line ∈ ns')
  | 0, _, _, h, _, _, _, _ => absurd h (Nat.not_lt_zero _)
  | N + 1, ns, line, hN, hl, hnd, hne, hnl => by
    have hcl := cls_at hf hl
    have hcr := cls_range hf hl
    have hcn := count_first c
    have h0 := hf.f0
    have hal := alike_len hf
    refine CallS.dropP (callS_of Tryz.func83 rfl Tryz.ntmps83 (rs := []) rfl (by kernel_rfl) (by simp) (by kernel_rfl) (K := fun z H' => ∃ ns', z = .tuple [] ∧ (Grown c ns ns' ∧ (firstC c ≤ clsL c line → clsL c line ∈ ns')) ∧ subP (mkH c b5 b6 r ns') H') ?_) (fun z H' ⟨ns', h1, h2, h3⟩ => ⟨_, h3, ns', h1, rfl, h2⟩)
    generalize hq : clsL c line = q at *
    have hlt : line < (alikeC c).length := by omega
    have hlt2 : line.toNat < (alikeC c).length := by omega
    have hcl1 : (alikeC c)[line.toNat]'hlt2 = q := by
      rw [List.getElem?_eq_getElem hlt2] at hcl
      exact Option.some.inj hcl
    simp [hcl, hcl1, hl.1, hlt]
    refine (firstQ_fn c hf.sm).s ?_
    by_cases h1 : q < firstC c
    · by_cases h2 : q ∈ ns
      all_goals
        simp [mget_K, hcl1, h1, h2]
        exact ⟨ns, ⟨.refl hnd hne, fun h => absurd h (by omega)⟩, subP.refl _⟩
    · by_cases h2 : q ∈ ns
      · simp [mget_K, hcl1, h1, h2]
        exact ⟨ns, ⟨.refl hnd hne, fun _ => h2⟩, subP.refl _⟩
      · have hnq : Need c q := hnl (by omega)
        obtain ⟨n, x, k1, k2, k3, k4, k5⟩ := need_sig hf hp hnq
        have hu := Uses_fn c q hc
        have hue : usesP c q = (usesL x, 0) := usesP_sig hz (by omega) (by omega) h0 (by rw [k1, show (firstC c + (n : Int) - firstC c).toNat = n by omega]; exact k2)
        rw [hue, ← k5] at hu
        have hur : ∀ u ∈ useL c q, 0 ≤ u ∧ u < countC c := fun u h => use_range hf h
        have hul : (useL c q).length ≤ 1000 := by rw [k5]; exact usesLen hf k2
        have hnd2 : (ns ++ [q]).Nodup := List.nodup_append.2 ⟨hnd, by simp, by intro a ha b hb e; simp at hb; exact h2 (by rw [← hb, ← e]; exact ha)⟩
        have hne2 : ∀ v ∈ ns ++ [q], Need c v := by
          intro v hv
          rcases List.mem_append.1 hv with h | h
          · exact hne v h
          · simp at h; rw [h]; exact hnq
        have hlen : (ns ++ [q]).length ≤ (needL c).length := nodup_len hnd2 fun v hv => (mem_need hf hp).2 (hne2 v hv)
        simp only [List.length_append, List.length_cons, List.length_nil] at hlen
        have hus : ∀ u ∈ useL c q, firstC c ≤ clsL c u → Need c (clsL c u) := fun u hu h => .use hnq hu h
        have ih := mark_s c hf hc hp hz b5 b6 r N
        generalize hU : useL c q = us at *
        simp [mget_K, hcl1, h1, h2, mput_K]
        refine hu.s ?_
        simp
        refine V.for' [4, 31, 32] (fun p : Nat × List Int => [(33, aI p.1)]) (fun p => mkH c b5 b6 r p.2)
          (fun p => p.1 ≤ us.length ∧ Grown c (ns ++ [q]) p.2 ∧ ∀ u ∈ us.take p.1, firstC c ≤ clsL c u → clsL c u ∈ p.2) (fun p => us.length - p.1) (0, ns ++ [q]) ⟨⟨Nat.zero_le _, .refl hnd2 hne2, by simp⟩, by simp, subP.refl _⟩ ?_
        rintro ⟨i, ns1⟩ ⟨hi, hG, hI⟩
        simp only at hi hG hI
        by_cases hlt3 : i < us.length
        · obtain ⟨u, hu1⟩ : ∃ u, us[i]'hlt3 = u := ⟨_, rfl⟩
          have huo : us[i]? = some u := by rw [List.getElem?_eq_getElem hlt3, hu1]
          have hum : u ∈ us := List.mem_of_getElem? huo
          have hl1 := nodup_len (l := ns ++ [q]) (m := ns1) hnd2 hG.sub
          simp only [List.length_append, List.length_cons, List.length_nil] at hl1
          have hl2 : ns1.length ≤ (needL c).length := nodup_len hG.nodup fun v hv => (mem_need hf hp).2 (hG.need v hv)
          have ih1 := ih ns1 u (by omega) (hur u hum) hG.nodup hG.need (hus u hum)
          simp [hlt3, hu1]
          refine ih1.mono ?_
          rintro z H' ⟨ns2, rfl, rfl, hG2, hI2⟩
          simp
          refine ⟨by omega, i + 1, ns2, ⟨hlt3, hG.trans hG2, ?_⟩, by omega, by simp, subP.refl _⟩
          intro w hw hw1
          rw [List.take_add_one, huo] at hw
          rcases List.mem_append.1 hw with h | h
          · exact hG2.sub _ (hI w h hw1)
          · simp at h
            subst h
            exact hI2 hw1
        · obtain rfl : i = us.length := by omega
          rw [List.take_length] at hI
          simp
          refine ⟨ns1, ⟨⟨fun v hv => hG.sub v (by simp [hv]), hG.nodup, fun v hv hvn w hw hw1 => ?_, hG.need⟩, fun _ => hG.sub q (by simp)⟩, subP.refl _⟩
          by_cases hvq : v = q
          · subst hvq
            rw [hU] at hw
            exact hI w hw hw1
          · exact hG.closed v hv (by simp [hvn, hvq]) w hw hw1

end Go.Proofs.YthlpelkcmmaokaaGreat
end

/- Contracts: the needed lines; Needed. -/
section
namespace Go.Proofs.YthlpelkcmmaokaaGreat
set_option maxHeartbeats 8000000
set_option maxRecDepth 10000

/-- Memory seen otherwise, in a way that memory tells. -/
theorem V.ex {P : Program} {C : Cfg} {c : Code} {E : Env} {H : Heap} {Q : PostQ} {ι : Type} (Hs : ι → Heap) (hi : ∀ x H0, Inv x (H ++ H0) → ∃ i, Inv x (Hs i ++ H0)) (h : ∀ i, V C c E (Hs i) Q) : V C c E H Q := by
  intro hf x act H0 ms hx he
  obtain ⟨i, hi⟩ := hi x _ hx
  exact h i hf x act H0 ms hi he
/-- What a map of marked lines is in memory. -/
structure RawK (ns : List Int) (ms : Array MapEntry) (c : Nat) : Prop where
  keys : ms.toList.map (·.key) = ns.map (Value.int .i64)
  vals : ∀ e ∈ ms.toList, e.val = .bool true
  st : MapKept.Stamped ms c
theorem mapOK_keys {x : X} : ∀ {ns : List Int} {ms : List MapEntry}, MapOK x (mapK ns) ms → ms.map (·.key) = ns.map (Value.int .i64) ∧ ∀ e ∈ ms, e.val = .bool true
  | [], [], _ => by simp
  | [], _ :: _, h => by simp [mapK, MapOK] at h
  | _ :: _, [], h => by simp [mapK, MapOK] at h
  | n :: ns, m :: ms, h => by
    have h' : MapOK x ((.int .i64 n, .bool true) :: mapK ns) (m :: ms) := h
    simp only [MapOK] at h'
    obtain ⟨h1, h2, h3⟩ := h'
    obtain ⟨k1, k2⟩ := mapOK_keys h3
    have h4 : m.key = .int .i64 n := by simpa [kv] using h1
    have h5 : m.val = .bool true := by simpa [RdL] using h2
    refine ⟨by simp [h4, k1], fun e he => ?_⟩
    rcases List.mem_cons.1 he with rfl | he
    · exact h5
    · exact k2 e he
theorem rot3 {α : Type} (a b c : α) (R : List α) : (c :: a :: b :: R).Perm (a :: b :: c :: R) := (List.perm_middle (l₁ := [a, b])).symm
theorem rawK_open {x : X} {c : Control} {b5 b6 r : Nat} {ns : List Int} {H0 : Heap} (h : Inv x (mkH c b5 b6 r ns ++ H0)) : ∃ p : {p : Array MapEntry × Nat // RawK ns p.1 p.2}, Inv x ([(6, .box b6 [.fn 83 [] (capM c b5 b6)]), (5, .box b5 [.map 89 r]), (89, .raw r (.map p.1.1 p.1.2))] ++ H0) := by
  have h1 : Inv x ((10, .map r (.int .i64) (mapK ns)) :: (6, .box b6 [.fn 83 [] (capM c b5 b6)]) :: (5, .box b5 [.map 10 r]) :: H0) := h.perm (rot3 _ _ _ _)
  obtain ⟨ms, cl, k1, k2, k3, k4⟩ := h1.sat (10, .map r (.int .i64) (mapK ns)) (by simp)
  obtain ⟨e1, e2⟩ := mapOK_keys k2
  refine ⟨⟨(ms, cl), e1, e2, k3⟩, ?_⟩
  have h2 : Inv x ((10, .raw r (.map ms cl)) :: (6, .box b6 [.fn 83 [] (capM c b5 b6)]) :: (5, .box b5 [.map 10 r]) :: H0) := h1.same (fun _ h => h) fun _ => k1
  have h3 := h2.perm (rot3 _ _ _ _)
  have h4 : Inv x ((5, .box b5 [.map 89 r]) :: (10, .raw r (.map ms cl)) :: (6, .box b6 [.fn 83 [] (capM c b5 b6)]) :: H0) := h3.same (fun _ h => h) (by
    rintro ⟨cc, ty, j1, j2⟩
    refine ⟨cc, ty, j1, ?_⟩
    generalize cc.toList = l at j2 ⊢
    rcases l with _ | ⟨v, _ | ⟨w, l⟩⟩ <;> simp [Ds, D] at j2 ⊢
    exact j2)
  have h5 : Inv x ((5, .box b5 [.map 89 r]) :: (89, .raw r (.map ms cl)) :: (6, .box b6 [.fn 83 [] (capM c b5 b6)]) :: H0) := h4.ents (by simp)
  exact h5.perm (rot3 _ _ _ _)
theorem born_eq {ms : List MapEntry} (h : (ms.map (·.born)).Nodup) {a b : MapEntry} (ha : a ∈ ms) (hb : b ∈ ms) (e : a.born = b.born) : a = b := by
  induction ms with
  | nil => cases ha
  | cons m ms ih =>
    simp only [List.map_cons, List.nodup_cons] at h
    rcases List.mem_cons.1 ha with h1 | h1 <;> rcases List.mem_cons.1 hb with h2 | h2
    · rw [h1, h2]
    · exact absurd (List.mem_map.2 ⟨b, h2, by rw [← e, h1]⟩) h.1
    · exact absurd (List.mem_map.2 ⟨a, h1, by rw [e, h2]⟩) h.1
    · exact ih h.2 h1 h2
theorem key_eq {ms : List MapEntry} (h : (ms.map (·.key)).Nodup) {a b : MapEntry} (ha : a ∈ ms) (hb : b ∈ ms) (e : a.key = b.key) : a = b := by
  induction ms with
  | nil => cases ha
  | cons m ms ih =>
    simp only [List.map_cons, List.nodup_cons] at h
    rcases List.mem_cons.1 ha with h1 | h1 <;> rcases List.mem_cons.1 hb with h2 | h2
    · rw [h1, h2]
    · exact absurd (List.mem_map.2 ⟨b, h2, by rw [← e, h1]⟩) h.1
    · exact absurd (List.mem_map.2 ⟨a, h1, by rw [e, h2]⟩) h.1
    · exact ih h.2 h1 h2
theorem stand_at {ms : Array MapEntry} {seen : Array Nat} {e : MapEntry} (h : (ms.toList.map (·.born)).Nodup) (he : e ∈ ms.toList) : standM ms (seen.push e.born) = some e := by
  unfold standM
  rw [Array.back?_push]
  simp only
  rw [← Array.find?_toList]
  cases hf : ms.toList.find? (fun x => x.born == e.born) with
  | none =>
    rw [List.find?_eq_none] at hf
    exact absurd (hf e he) (by simp)
  | some e' =>
    have h1 := List.find?_some hf
    have h2 := List.mem_of_find?_eq_some hf
    rw [born_eq h h2 he (by simpa using h1)]
/-- The keys that were seen. -/
structure Seen (ns : List Int) (ms : Array MapEntry) (seen : Array Nat) (out : List Int) : Prop where
  nodup : out.Nodup
  mem : ∀ n : Int, n ∈ out ↔ ∃ e ∈ ms.toList, e.key = .int .i64 n ∧ seen.contains e.born = true
theorem Seen.step {ns : List Int} {ms : Array MapEntry} {cl : Nat} (hR : RawK ns ms cl) {seen : Array Nat} {out : List Int} (h : Seen ns ms seen out) {e : MapEntry} (he : e ∈ ms.toList) (hs : seen.contains e.born = false) :
    ∃ n, e.key = .int .i64 n ∧ e.val = .bool true ∧ n ∈ ns ∧ Seen ns ms (seen.push e.born) (out ++ [n]) := by
  have hk : e.key ∈ ms.toList.map (·.key) := List.mem_map.2 ⟨e, he, rfl⟩
  rw [hR.keys] at hk
  obtain ⟨n, hn, hkn⟩ := List.mem_map.1 hk
  refine ⟨n, hkn.symm, hR.vals e he, hn, ?_, ?_⟩
  · refine List.nodup_append.2 ⟨h.nodup, by simp, ?_⟩
    intro a ha b hb
    simp at hb
    subst hb
    rintro rfl
    obtain ⟨e', h1, h2, h3⟩ := (h.mem a).1 ha
    have := key_eq hR.st.2.2 h1 he (h2.trans hkn)
    subst this
    rw [hs] at h3
    cases h3
  · intro m
    rw [List.mem_append, h.mem m]
    constructor
    · rintro (⟨e', h1, h2, h3⟩ | h1)
      · exact ⟨e', h1, h2, by simp only [Array.contains_iff_mem] at h3 ⊢; simp [h3]⟩
      · simp at h1
        subst h1
        exact ⟨e, he, hkn.symm, by simp [Array.contains_iff_mem]⟩
    · rintro ⟨e', h1, h2, h3⟩
      by_cases h4 : e'.born = e.born
      · have := born_eq hR.st.2.1 h1 he h4
        subst this
        rw [← hkn] at h2
        injection h2 with _ h2
        exact .inr (by simp [h2])
      · refine .inl ⟨e', h1, h2, ?_⟩
        simp only [Array.contains_iff_mem] at h3 ⊢
        simp only [Array.mem_push] at h3
        rcases h3 with h3 | h3
        · exact h3
        · exact absurd h3 h4
theorem Seen.all {ns : List Int} {ms : Array MapEntry} {cl : Nat} (hR : RawK ns ms cl) {seen : Array Nat} {out : List Int} (h : Seen ns ms seen out) (ha : ∀ e ∈ ms.toList, seen.contains e.born = true) : ∀ n, n ∈ out ↔ n ∈ ns := by
  intro n
  rw [h.mem n]
  have hk : Value.int .i64 n ∈ ms.toList.map (·.key) ↔ n ∈ ns := by
    rw [hR.keys]
    simp
  rw [← hk]
  constructor
  · rintro ⟨e, h1, h2, _⟩; exact List.mem_map.2 ⟨e, h1, h2⟩
  · intro h1
    obtain ⟨e, h2, h3⟩ := List.mem_map.1 h1
    exact ⟨e, h2, h3, ha e h2⟩
theorem sort_need {c : Control} (hf : Fine c) (hp : PilC c) {out : List Int} (h1 : out.Nodup) (h2 : ∀ v, v ∈ out ↔ Need c v) : sortI out = needL c := by
  refine lt_ext ?_ (need_sorted c) ?_
  · have hs := sortI_sorted out
    have hp : (sortI out).Perm out := List.mergeSort_perm _ _
    have hn : (sortI out).Nodup := hp.nodup_iff.2 h1
    have := hs.and hn
    refine this.imp ?_
    intro a b ⟨h3, h4⟩
    have : a ≠ b := h4
    omega
  · intro z
    have hp : (sortI out).Perm out := List.mergeSort_perm _ _
    rw [hp.mem_iff, h2 z, mem_need hf ‹PilC c›]
theorem needed_fn (c : Control) (hf : Fine c) (hc : OkC c) (hp : PilC c) (hz : checkC c = 0) : CallFn Tryz.prog 47 [aC c, aIs (alikeC c)] (aIs (needL c)) := by
  have hact := hf.act
  obtain ⟨M, hM⟩ : ∃ M : Nat, c.actuators = M := ⟨c.actuators.toNat, by omega⟩
  have hpl := hp.1
  have hml := hp.2.1
  refine callFz_cut 5 Tryz.func47 rfl Tryz.ntmps47 (rs := [.tmp 4]) rfl (by kernel_rfl) (by simp) (by kernel_rfl) ?_
  simp
  intro r b5 b6
  refine V.forI (σ := List Int) M [2, 4, 5, 6, 13] (by simp; exact rfl) (fun i _ => [(14, aI i)]) (fun _ ns => mkH c b5 b6 r ns) (fun i ns => Grown c [] ns ∧ ∀ p, p ∈ c.plus.take i ∨ p ∈ c.minus.take i → firstC c ≤ clsL c p → clsL c p ∈ ns) [] ⟨.refl (by simp) (by simp), by simp⟩ (by simp) ⟨by simp [mapK]; exact rfl, by simp [mapK]⟩ ?_ ?_
  · rintro i ns hi ⟨hG, hI⟩
    have hip : i < c.plus.length := by omega
    have him : i < c.minus.length := by omega
    obtain ⟨p, hp1⟩ : ∃ p, c.plus[i]'hip = p := ⟨_, rfl⟩
    obtain ⟨m, hm1⟩ : ∃ m, c.minus[i]'him = m := ⟨_, rfl⟩
    have hpo : c.plus[i]? = some p := by rw [List.getElem?_eq_getElem hip, hp1]
    have hmo : c.minus[i]? = some m := by rw [List.getElem?_eq_getElem him, hm1]
    have hpm := List.mem_of_getElem? hpo
    have hmm := List.mem_of_getElem? hmo
    have hi2 : (i : Int) < c.actuators := by omega
    simp [hi2, hM, hi]
    refine V.drawEndK 6 (by simp; exact rfl) (by simp; exact rfl) (fun _ => none) (by kernel_rfl) (by kernel_rfl) (by simp) ?_
    simp [hip, hp1]
    have k1 := mark_s c hf hc hp hz b5 b6 r ((needL c).length + 1) ns p (by omega) (hp.2.2.1 p hpm) hG.nodup hG.need (fun h => .pilot (.inl hpm) h)
    refine k1.mono ?_
    rintro z H' ⟨ns1, rfl, rfl, hG1, hI1⟩
    have hG2 := hG.trans hG1
    have k2 := mark_s c hf hc hp hz b5 b6 r ((needL c).length + 1) ns1 m (by omega) (hp.2.2.2 m hmm) hG2.nodup hG2.need (fun h => .pilot (.inr hmm) h)
    simp
    refine V.drawEndK 6 (by simp; exact rfl) (by simp; exact rfl) (fun _ => none) (by kernel_rfl) (by kernel_rfl) (by simp) ?_
    simp [him, hm1]
    refine k2.mono ?_
    rintro z H' ⟨ns2, rfl, rfl, hG3, hI3⟩
    simp
    refine ⟨by omega, ns2, ⟨hG2.trans hG3, ?_⟩, by simp⟩
    intro w hw hw1
    rw [List.take_add_one, List.take_add_one, hpo, hmo] at hw
    rcases hw with hw | hw
    · rcases List.mem_append.1 hw with hw | hw
      · exact hG3.sub _ (hG1.sub _ (hI w (.inl hw) hw1))
      · simp at hw
        subst hw
        exact hG3.sub _ (hI1 hw1)
    · rcases List.mem_append.1 hw with hw | hw
      · exact hG3.sub _ (hG1.sub _ (hI w (.inr hw) hw1))
      · simp at hw
        subst hw
        exact hI3 hw1
  · rintro ns ⟨hG, hI⟩
    have hall := grown_all hG fun p hp1 => hI p (by rw [List.take_of_length_le (by omega), List.take_of_length_le (by omega)]; exact hp1)
    have hlt : ¬ ((M : Int) < c.actuators) := by omega
    have hnl : ns.length ≤ 1000 := by
      have h1 := nodup_len hG.nodup fun v hv => (mem_need hf hp).2 (hG.need v hv)
      have h2 := need_len hf hp
      have := hf.sig
      omega
    simp [hlt]
    refine V.ex (P := Tryz.prog) (fun p : {p : Array MapEntry × Nat // RawK ns p.1 p.2} => [(6, .box b6 [.fn 83 [] (capM c b5 b6)]), (5, .box b5 [.map 89 r]), (89, .raw r (.map p.1.1 p.1.2))]) (fun x H0 h => rawK_open h) ?_
    rintro ⟨⟨ms, cl⟩, hR⟩
    simp only at hR
    refine V.cut [(4, .nils), (5, .ptr 5 b5 0)] (by simp) (Hs := [(5, .box b5 [.map 89 r]), (89, .raw r (.map ms cl))]) (by simp) ?_
    simp
    intro b
    refine V.rangeMap (σ := Value × List Int) (kh := []) rfl rfl rfl [4, 33] (by simp; exact rfl) (fun s => [(8, .own 41 s.1)]) (fun s => [(41, .seq s.1 3 1 (s.2.map rI))]) (fun seen s => Seen ns ms seen s.2) (g := 33) (b1 := b) (m := r) (c := cl) (ms := ms) hR.st.1 (by simp) (.slice none 0 0, []) ⟨by simp, by simp⟩ (by simp) (by simp) ?_ ?_
    · rintro seen ⟨h0, out⟩ e hS he hes
      simp only at hS
      obtain ⟨n, hk, hv, hn, hS2⟩ := hS.step hR he hes
      have hst := stand_at (seen := seen) hR.st.2.1 he
      have hol : out.length ≤ 1000 := by
        have := nodup_len hS2.nodup (m := ns) (fun v hv => by
          obtain ⟨e', h1, h2, h3⟩ := (hS2.mem v).1 hv
          have hk : e'.key ∈ ms.toList.map (·.key) := List.mem_map.2 ⟨e', h1, rfl⟩
          rw [hR.keys] at hk
          obtain ⟨n', hn', hkn⟩ := List.mem_map.1 hk
          rw [h2] at hkn
          injection hkn with _ hkn
          rw [← hkn]
          exact hn')
        simp at this
        omega
      simp [hst, hk, hv, vL]
      exact fun u => ⟨by omega, u, out ++ [n], hS2, rfl, by simp⟩
    · rintro seen ⟨h0, out⟩ hS ha
      simp only at hS
      have hso := sort_need hf hp hS.nodup fun v => (hS.all hR ha v).trans (hall v).symm
      simp
      have hol : out.length < 4611686018427387904 := by
        have := nodup_len hS.nodup (m := ns) fun v hv => (hS.all hR ha v).1 hv
        omega
      refine (((sort_c (t := 41) (e := 3) (h := h0) (zs := out) hol).frame (H1 := [(33, _), (89, _)])).perm (rot3 _ _ _ [])).mono ?_
      rintro z H' ⟨_, ⟨rfl, rfl⟩, rfl⟩
      simp [hso]

theorem pil_of {c : Control} (h : checkC c = 0) : PilC c := by
  unfold checkC at h
  split at h
  · cases h
  · split at h
    · cases h
    · split at h
      · rename_i h1; exact absurd h h1
      · split at h
        · rename_i h1; exact absurd h h1
        · unfold pilotE at h
          split at h
          · cases h
          · split at h
            · cases h
            · rename_i h1 h2
              simp only [List.any_append, Bool.or_eq_true, List.any_eq_true, decide_eq_true_eq, not_or, not_exists, not_and] at h2
              refine ⟨by omega, by omega, fun p hp => ?_, fun p hp => ?_⟩
              · have := h2.1 p hp
                omega
              · have := h2.2 p hp
                omega
noncomputable def neededQ (c : Control) : List Int × Int := if checkC c ≠ 0 then ([], checkC c) else (needL c, 0)
theorem Needed_fn (c : Control) (hc : OkC c) : CallFn Tryz.prog 17 [aC c] (.tuple [aIs (neededQ c).1, aI (neededQ c).2]) := by
  refine callFz_of Tryz.func17 rfl Tryz.ntmps17 (rs := [.tmp 2, .tmp 3]) rfl (by kernel_rfl) (by simp) (by kernel_rfl) ?_
  simp
  refine (Check_fn c hc).s ?_
  simp
  by_cases hz : checkC c = 0
  · have hf := fine_of hz
    have c1 := classes_fn c hf hc
    have c2 := needed_fn c hf hc (pil_of hz) hz
    simp [hz, neededQ]
    refine V.draw (fun s => if s = 12 then some (.fn (aIs (alikeC c))) else if s = 13 then some (.fn (aIs (needL c))) else none) (by kernel_rfl) (by kernel_rfl) (by simp) ?_
    simp [hz, neededQ]
    exact ⟨c1, c2⟩
  · simp [hz, neededQ]

end Go.Proofs.YthlpelkcmmaokaaGreat
end

/- Contracts: the reference's needed lines. -/
section
namespace Go.Proofs.YthlpelkcmmaokaaGreat
set_option maxHeartbeats 8000000
set_option maxRecDepth 10000

def onB (w : List Bool) (k : Int) : Bool := w.getD k.toNat false
theorem on_set {w : List Bool} {k j : Int} (hk : 0 ≤ k ∧ k < w.length) (hj : 0 ≤ j) (b : Bool) : onB (w.set k.toNat b) j = if j = k then b else onB w j := by
  unfold onB
  rw [List.getD_eq_getElem?_getD, List.getD_eq_getElem?_getD, List.getElem?_set]
  by_cases h : j = k
  · subst h
    rw [if_pos rfl, if_pos rfl, if_pos (by omega)]
    rfl
  · rw [if_neg (by omega), if_neg h]
/-- Marked lines are needed, or ahead of the signals. -/
structure Sound (c : Control) (w : List Bool) : Prop where
  len : (w.length : Int) = countC c
  need : ∀ k, 0 ≤ k → onB w k = true → firstC c ≤ k → Need c k
def ClB (c : Control) (w : List Bool) : Prop := ∀ j, firstC c ≤ j → onB w j = true → ∀ u ∈ useL c j, onB w (clsL c u) = true
def leB (w w' : List Bool) : Prop := ∀ k, 0 ≤ k → onB w k = true → onB w' k = true
theorem leB.set {w w1 : List Bool} {k : Int} (h : leB w w1) (hk : 0 ≤ k ∧ k < w1.length) : leB w (w1.set k.toNat true) := by
  intro j hj h1
  rw [on_set hk hj]
  split
  · rfl
  · exact h j hj h1
theorem Sound.set {c : Control} {w : List Bool} {k : Int} (h : Sound c w) (hk : 0 ≤ k ∧ k < countC c) (hn : firstC c ≤ k → Need c k) : Sound c (w.set k.toNat true) := by
  refine ⟨by simpa using h.len, fun j hj h1 h2 => ?_⟩
  rw [on_set (by have := h.len; omega) hj] at h1
  split at h1
  · rename_i e
    subst e
    exact hn h2
  · exact h.need j hj h1 h2
def cntB (c : Control) (w : List Bool) : Nat := ((List.range c.signals.length).filter fun j : Nat => onB w (firstC c + j)).length
open Classical in
noncomputable def wantB (c : Control) : List Bool := (List.range (countC c).toNat).map fun k : Nat => decide (Need c k)
noncomputable abbrev wkv (c : Control) (u : Value) : List (Nat × A) := [(1, .rptr (encC c)), (2, .nils), (3, aI (firstC c)), (4, aIs (alikeC c)), (5, .own 18 u)]
/-- A pass so far. -/
structure Pass (c : Control) (w0 w : List Bool) (i : Nat) : Prop where
  sound : Sound c w
  le : leB w0 w
  stay : ClB c w0 → w = w0
  done : ∀ j : Nat, j < i → onB w0 (firstC c + j) = true → ∀ u ∈ useL c (firstC c + j), onB w (clsL c u) = true
end Go.Proofs.YthlpelkcmmaokaaGreat
end

/- Contracts: Needed of the reference; searching in what is sorted; copies of names. -/
section
namespace Go.Proofs.YthlpelkcmmaokaaGreat
set_option maxHeartbeats 8000000
set_option maxRecDepth 10000

/-! ### What is sorted -/
def posI (l : List Int) (t : Int) : Nat := (l.filter fun w => decide (w < t)).length
theorem posI_cut {l : List Int} {t : Int} : ∀ {i : Nat}, i ≤ l.length → (∀ k, k < i → ∀ v, l[k]? = some v → v < t) → (∀ k, i ≤ k → ∀ v, l[k]? = some v → t ≤ v) → posI l t = i := by
  intro i hi h1 h2
  unfold posI
  have e : l = l.take i ++ l.drop i := (List.take_append_drop i l).symm
  conv => lhs; rw [e]
  rw [List.filter_append, List.filter_eq_self.2, List.filter_eq_nil_iff.2]
  · simp
    omega
  · intro v hv
    obtain ⟨k, hk⟩ := List.getElem?_of_mem hv
    rw [List.getElem?_drop] at hk
    have := h2 (i + k) (by omega) v hk
    simp
    omega
  · intro v hv
    obtain ⟨k, hk⟩ := List.getElem?_of_mem hv
    have hki : k < i := by
      have := (List.getElem?_eq_some_iff.1 hk).1
      simp at this
      omega
    rw [List.getElem?_take] at hk
    rw [if_pos hki] at hk
    have := h1 k hki v hk
    simp
    omega
theorem nanC_fn (n : Int) : CallFn Tryz.prog 125 [aI n] (aB false) := by
  refine callFz_of Tryz.func125 rfl Tryz.ntmps125 (rs := [.tmp 2]) rfl (by kernel_rfl) (by simp) (by kernel_rfl) ?_
  simp
theorem nanS_fn (n : Int) : CallFn Tryz.prog 88 [aI n] (aB false) := by
  refine callFz_of Tryz.func88 rfl Tryz.ntmps88 (rs := [.tmp 2]) rfl (by kernel_rfl) (by simp) (by kernel_rfl) ?_
  simp
theorem less_fn (n m : Int) : CallFn Tryz.prog 87 [aI n, aI m] (aB (decide (n < m))) := by
  have c1 := nanC_fn n
  have c2 := nanC_fn m
  refine callFz_of Tryz.func87 rfl Tryz.ntmps87 (rs := [.tmp 4]) rfl (by kernel_rfl) (by simp) (by kernel_rfl) ?_
  simp
  refine c1.s ?_
  simp
  refine GCall.fn (aB false) (fun h => ⟨h, c2⟩) ?_
  simp
theorem u64_ok {n : Int} (h0 : 0 ≤ n) (h1 : n ≤ 4611686018427387904) : inR .u64 n := by
  unfold inR
  simp only [IntKind.wrap, IntKind.signed, IntKind.bits]
  simp
  omega
theorem shr_one (n : Nat) : shrI .u64 n 1 = ((n / 2 : Nat) : Int) := by
  unfold shrI
  simp [IntKind.bits]
  rw [Int.fdiv_eq_ediv_of_nonneg _ (by omega)]
theorem bsearch_fn (l : List Int) (t : Int) (hs : l.Pairwise (· < ·)) (hl : l.length ≤ 1000000) : CallFn Tryz.prog 50 [aIs l, aI t] (.tuple [aI (posI l t), aB (decide (t ∈ l))]) := by
  have hpw := List.pairwise_iff_getElem.1 hs
  refine callFz_of Tryz.func50 rfl Tryz.ntmps50 (rs := [.tmp 4, .tmp 5]) rfl (by kernel_rfl) (by simp) (by kernel_rfl) ?_
  simp
  refine V.for' [0, 1, 4, 5, 6] (fun p : Nat × Nat => [(7, aI p.1), (8, aI p.2)]) (fun _ => []) (fun p => p.1 ≤ p.2 ∧ p.2 ≤ l.length ∧ (∀ k, k < p.1 → ∀ v, l[k]? = some v → v < t) ∧ ∀ k, p.2 ≤ k → ∀ v, l[k]? = some v → t ≤ v) (fun p => p.2 - p.1) (0, l.length) ⟨⟨Nat.zero_le _, Nat.le_refl _, fun k h => absurd h (Nat.not_lt_zero _), fun k h v hv => ?_⟩, by simp, subP.refl _⟩ ?_
  · rw [List.getElem?_eq_none h] at hv
    cases hv
  · rintro ⟨i, j⟩ ⟨hij, hj, hA, hB⟩
    simp only at hij hj hA hB
    by_cases hlt : i < j
    · obtain ⟨m, hm⟩ : ∃ m : Nat, (i + j) / 2 = m := ⟨_, rfl⟩
      have hml : m < l.length := by omega
      obtain ⟨v, hv⟩ : ∃ v, l[m]'hml = v := ⟨_, rfl⟩
      have hvo : l[m]? = some v := by rw [List.getElem?_eq_getElem hml, hv]
      have hsh := shr_one (i + j)
      rw [hm] at hsh
      have hu := u64_ok (n := (i : Int) + j) (by omega) (by omega)
      have c1 := less_fn v t
      simp at hsh
      simp [hlt, hsh, hml, hv]
      refine ⟨by omega, hu, by omega, c1.s ?_⟩
      by_cases hvt : v < t
      · simp [hvt]
        refine ⟨by omega, m + 1, j, ⟨by omega, hj, fun k hk w hw => ?_, hB⟩, by omega, ?_⟩
        · rcases Nat.lt_or_ge k m with h | h
          · obtain ⟨hkl, hw2⟩ := List.getElem?_eq_some_iff.1 hw
            have := hpw k m hkl hml h
            omega
          · obtain rfl : k = m := by omega
            rw [hvo] at hw
            cases hw
            exact hvt
        · simp [subP.refl]
      · simp [hvt]
        refine ⟨i, m, ⟨by omega, by omega, hA, fun k hk w hw => ?_⟩, by omega, ?_⟩
        · rcases Nat.lt_or_ge m k with h | h
          · obtain ⟨hkl, hw2⟩ := List.getElem?_eq_some_iff.1 hw
            have := hpw m k hml hkl h
            omega
          · obtain rfl : k = m := by omega
            rw [hvo] at hw
            cases hw
            omega
        · simp [subP.refl]
    · obtain rfl : i = j := by omega
      have hpos := posI_cut hj hA hB
      rw [hpos]
      by_cases hil : i < l.length
      · obtain ⟨v, hv⟩ : ∃ v, l[i]'hil = v := ⟨_, rfl⟩
        have hvo : l[i]? = some v := by rw [List.getElem?_eq_getElem hil, hv]
        have hmem : decide (t ∈ l) = (v == t) := by
          rw [Bool.eq_iff_iff]
          simp only [decide_eq_true_eq, beq_iff_eq]
          constructor
          · intro h
            obtain ⟨k, hk⟩ := List.getElem?_of_mem h
            obtain ⟨hkl, hk2⟩ := List.getElem?_eq_some_iff.1 hk
            rcases Nat.lt_trichotomy k i with h1 | h1 | h1
            · have := hA k h1 t hk
              omega
            · subst h1
              rw [hvo] at hk
              cases hk
              rfl
            · have h2 := hpw i k hil hkl h1
              have h3 := hB i (Nat.le_refl _) v hvo
              omega
          · rintro rfl
            exact List.mem_of_getElem? hvo
        rw [hmem]
        have c1 := nanS_fn v
        have c2 := nanS_fn t
        simp [hil, hv]
        refine GCall.fn (aB false) (fun h => ⟨h, c1⟩) ?_
        simp
        refine GCall.fn (aB false) (fun h => ⟨h, c2⟩) ?_
        simp
      · have hmem : decide (t ∈ l) = false := by
          rw [decide_eq_false_iff_not]
          intro h
          obtain ⟨k, hk⟩ := List.getElem?_of_mem h
          have := (List.getElem?_eq_some_iff.1 hk).1
          have := hA k (by omega) t hk
          omega
        rw [hmem]
        have c1 := nanS_fn t
        simp [hil]
        refine GCall.fn (aB false) (fun h => h.elim) ?_
        simp
        refine GCall.fn (aB false) (fun h => h.elim) ?_
        simp

end Go.Proofs.YthlpelkcmmaokaaGreat
end

/- Plain laws: the reduced control is right. -/
section
namespace Go.Proofs.YthlpelkcmmaokaaGreat
set_option maxHeartbeats 1000000
set_option maxRecDepth 10000

/-! ### What a check asks -/
theorem chk_parts {c : Control} (h : checkC c = 0) : (1 ≤ c.actuators ∧ c.actuators ≤ 6) ∧ (c.inputs.length ≤ 16 ∧ c.signals.length ≤ 64) ∧ (∀ i, i < c.inputs.length → inpE c i = 0) ∧ (∀ i, i < c.signals.length → sigE c i = 0) ∧ pilotE c = 0 := by
  unfold checkC at h
  split at h
  · cases h
  · split at h
    · cases h
    · split at h
      · rename_i h1; exact absurd h h1
      · split at h
        · rename_i h1; exact absurd h h1
        · rename_i h1 h2 h3 h4
          exact ⟨by omega, by omega, firstErr_zero (Classical.not_not.1 h3), firstErr_zero (Classical.not_not.1 h4), h⟩
theorem chk_of {c : Control} (h1 : 1 ≤ c.actuators ∧ c.actuators ≤ 6) (h2 : c.inputs.length ≤ 16 ∧ c.signals.length ≤ 64) (h3 : ∀ i, i < c.inputs.length → inpE c i = 0) (h4 : ∀ i, i < c.signals.length → sigE c i = 0) (h5 : pilotE c = 0) : checkC c = 0 := by
  unfold checkC
  rw [if_neg (by omega), if_neg (by omega), firstErr_all h3, firstErr_all h4]
  simpa using h5
theorem sig_parts {c : Control} {i : Int} {s : Signal} {names : List (List UInt8)} (h : signalE c i s names = 0) :
    nameE s.name names = 0 ∧ (0 ≤ s.kind ∧ s.kind < 3) ∧ checkE s.on (countC c) = 0 ∧ (s.kind = 0 → lateC c i s.on = false ∧ zeroE s.off = true ∧ s.init = false ∧ s.delay = 0) ∧ (s.kind = 1 → checkE s.off (countC c) = 0 ∧ s.delay = 0) ∧ (s.kind = 2 → (1 ≤ s.delay ∧ s.delay ≤ 1000000) ∧ zeroE s.off = true ∧ s.init = false) := by
  unfold signalE at h
  split at h
  · rename_i h1; exact absurd h h1
  · rename_i h1
    split at h
    · cases h
    · rename_i h2
      split at h
      · rename_i h3; exact absurd h h3
      · rename_i h3
        refine ⟨Classical.not_not.1 h1, by omega, Classical.not_not.1 h3, fun k => ?_, fun k => ?_, fun k => ?_⟩
        · rw [if_pos k] at h
          unfold gateE at h
          split at h
          · cases h
          · rename_i h4
            split at h
            · cases h
            · rename_i h5
              simp at h4 h5
              exact ⟨h4, h5.1.1, h5.1.2, h5.2⟩
        · rw [if_neg (by omega), if_pos k] at h
          unfold memE at h
          split at h
          · rename_i h4; exact absurd h h4
          · rename_i h4
            split at h
            · cases h
            · rename_i h5
              exact ⟨Classical.not_not.1 h4, Classical.not_not.1 h5⟩
        · rw [if_neg (by omega), if_neg (by omega)] at h
          unfold timE at h
          split at h
          · cases h
          · split at h
            · cases h
            · rename_i h4 h5
              simp at h5
              exact ⟨by omega, h5.1, h5.2⟩
theorem sig_of {c : Control} {i : Int} {s : Signal} {names : List (List UInt8)} (h1 : nameE s.name names = 0) (h2 : 0 ≤ s.kind ∧ s.kind < 3) (h3 : checkE s.on (countC c) = 0) (h4 : s.kind = 0 → lateC c i s.on = false ∧ zeroE s.off = true ∧ s.init = false ∧ s.delay = 0)
    (h5 : s.kind = 1 → checkE s.off (countC c) = 0 ∧ s.delay = 0) (h6 : s.kind = 2 → (1 ≤ s.delay ∧ s.delay ≤ 1000000) ∧ zeroE s.off = true ∧ s.init = false) : signalE c i s names = 0 := by
  unfold signalE
  rw [if_neg (by rw [h1]; simp), if_neg (by omega), if_neg (by rw [h3]; simp)]
  by_cases k0 : s.kind = 0
  · rw [if_pos k0]
    obtain ⟨a, b, d, e⟩ := h4 k0
    unfold gateE
    simp [a, b, d, e]
  · rw [if_neg k0]
    by_cases k1 : s.kind = 1
    · rw [if_pos k1]
      obtain ⟨a, b⟩ := h5 k1
      unfold memE
      simp [a, b]
    · rw [if_neg k1]
      obtain ⟨a, b, d⟩ := h6 (by omega)
      unfold timE
      rw [if_neg (by omega)]
      simp [b, d]
theorem name_parts {s : List UInt8} {names : List (List UInt8)} (h : nameE s names = 0) : wordS s ≠ false ∧ s.length ≤ 24 ∧ s ∉ names := by
  unfold nameE at h
  split at h
  · cases h
  · rename_i h1
    split at h
    · cases h
    · rename_i h2
      split at h
      · cases h
      · rename_i h3
        exact ⟨h1, by omega, h3⟩
theorem name_of {s : List UInt8} {names : List (List UInt8)} (h1 : wordS s ≠ false) (h2 : s.length ≤ 24) (h3 : s ∉ names) : nameE s names = 0 := by
  unfold nameE
  rw [if_neg h1, if_neg (by omega), if_neg h3]

/-! ### Gates use gates ahead of them -/
theorem root_far {c : Control} (hf : Fine c) : ∀ (k : Nat) (l : Int), farL c l ≤ k → 0 ≤ l ∧ l < countC c → farL c (rootP c l) ≤ farL c l := by
  intro k
  induction k with
  | zero =>
    intro l hk hl
    have := far_zero hf.f0 (by omega) hl.2
    rw [root_step hf hl, if_neg (by simp [this])]
    exact Nat.le_refl _
  | succ k ih =>
    intro l hk hl
    rw [root_step hf hl]
    by_cases h : (repP c l).2 = true
    · rw [if_pos h]
      obtain ⟨a, b, d⟩ := rep_far hf hl h
      have := ih _ (by omega) ⟨a, b⟩
      omega
    · rw [if_neg h]
      exact Nat.le_refl _
theorem kindAt_sig {c : Control} {n : Nat} {x : Signal} (h : c.signals[n]? = some x) : kindAt c n = x.kind := by
  unfold kindAt
  rw [Int.toNat_natCast, h]
  rfl
theorem gate_before {c : Control} (hf : Fine c) {n : Nat} {x : Signal} (hx : c.signals[n]? = some x) (hk : x.kind = 0) {u : Int} (hu : u ∈ varsE x.on) (h1 : firstC c ≤ clsL c u) (h2 : kindAt c (clsL c u - firstC c) = 0) : clsL c u < firstC c + n := by
  have hur := vars_check (hf.on hx).1 u hu
  have hcf := count_first c
  have h0 := hf.f0
  obtain ⟨hr, _⟩ := cls_le hf hur h1
  obtain ⟨m, n', a1, a2, a3, a4, a5, a6, a7⟩ := cls_lead hf hur hr
  have hxm : c.signals[m]? = some c.signals[m] := List.getElem?_eq_getElem (by omega)
  have hxn : c.signals[n']? = some c.signals[n'] := List.getElem?_eq_getElem (by omega)
  have hid := class_id hxm hxn a7
  rw [a2, show firstC c + (m : Int) - firstC c = m by omega, kindAt_sig hxm] at h2
  have hfar := root_far hf _ u (Nat.le_refl _) hur
  have h3 : farL c (rootP c u) = n' + 1 := by
    unfold farL
    rw [if_pos ⟨by omega, by rw [a1, show firstC c + (n' : Int) - firstC c = n' by omega, kindAt_sig hxn, ← hid.1]; exact h2⟩, a1]
    omega
  have h4 : firstC c ≤ u ∧ kindAt c (u - firstC c) = 0 ∧ farL c u = (u - firstC c).toNat + 1 := by
    by_cases h : firstC c ≤ u ∧ kindAt c (u - firstC c) = 0
    · exact ⟨h.1, h.2, by unfold farL; rw [if_pos h]⟩
    · unfold farL at hfar
      rw [if_neg h] at hfar
      unfold farL at h3
      omega
  rcases late_not hf hx hk u hu with h | h
  · omega
  · exact absurd h4.2.1 h

/-! ### The reduced control is right -/
theorem kind_red {c : Control} (hf : Fine c) (hp : PilC c) {k : Int} (h : Need c k) : kindAt (redC c) (posN c k) = kindAt c (k - firstC c) := by
  obtain ⟨n, x, h1, h2, h3⟩ := red_at hf hp h
  rw [kindAt_sig h3, h1, show firstC c + (n : Int) - firstC c = n by omega, kindAt_sig h2]
  rfl
theorem named_low {c : Control} {k : Int} (hk : k < firstC c) : namedC (redC c) k = namedC c k := by
  unfold namedC
  rw [red_first]
  simp only [redC, hk, if_true]
theorem mem_names {c : Control} {n : Nat} {s : List UInt8} : s ∈ namesB c n ↔ ∃ j : Nat, j < n ∧ namedC c j = s := by
  unfold namesB
  simp
theorem red_names {c : Control} (hf : Fine c) (hp : PilC c) {k : Int} (h : Need c k) {s : List UInt8} (hs : s ∈ namesB (redC c) (2 * c.actuators.toNat + c.inputs.length + posN c k)) : s ∈ namesB c (2 * c.actuators.toNat + c.inputs.length + (k - firstC c).toNat) := by
  have hact := hf.act
  have hfd : firstC c = 2 * c.actuators + c.inputs.length := rfl
  have hkr := need_range hf hp h
  obtain ⟨j, hj, rfl⟩ := mem_names.1 hs
  rcases Int.lt_or_le (j : Int) (firstC c) with h1 | h1
  · exact mem_names.2 ⟨j, by omega, (named_low h1).symm⟩
  · obtain ⟨i, hi⟩ : ∃ i : Nat, (j : Int) = firstC c + i := ⟨((j : Int) - firstC c).toNat, by omega⟩
    have hip : i < posN c k := by omega
    have hpl := (pos_need hf hp h).2
    obtain ⟨k', hk'⟩ : ∃ k', (needL c)[i]? = some k' := ⟨_, List.getElem?_eq_getElem (by omega)⟩
    have hn' : Need c k' := (mem_need hf hp).1 (List.mem_of_getElem? hk')
    have hpos := pos_at hk'
    obtain ⟨n, x, e1, e2, e3⟩ := red_at hf hp hn'
    rw [hpos] at e3
    have hlt : k' < k := by
      rcases Int.lt_trichotomy k' k with h2 | h2 | h2
      · exact h2
      · subst h2; omega
      · have := pos_lt hf hp h hn' h2
        omega
    have e4 : namedC (redC c) j = x.name := by
      have := named_sig (c := redC c) (k := (j : Int)) (s := redX c x) (by rw [red_first]; omega) (by rw [red_first]; simp [redC]; omega) (by rw [red_first, show ((j : Int) - firstC c).toNat = i by omega]; exact e3)
      rw [this]
      rfl
    have e5 : namedC c k' = x.name := named_sig (by omega) (by omega) (by rw [e1, show (firstC c + (n : Int) - firstC c).toNat = n by omega]; exact e2)
    refine mem_names.2 ⟨k'.toNat, by omega, ?_⟩
    rw [Int.toNat_of_nonneg (by omega), e5, e4]
theorem count_le {c : Control} (hf : Fine c) : countC c ≤ 92 := by
  have := hf.act
  have := hf.inp
  have := hf.sig
  unfold countC
  omega
theorem red_check {c : Control} (hz : checkC c = 0) (hp : PilC c) : checkC (redC c) = 0 := by
  have hf := fine_of hz
  obtain ⟨p1, p2, p3, p4, p5⟩ := chk_parts hz
  have hact := hf.act
  have h0 := hf.f0
  have hfd : firstC c = 2 * c.actuators + c.inputs.length := rfl
  have hnl := need_len hf hp
  have hrc : 0 ≤ countC (redC c) ∧ countC (redC c) ≤ 256 := by
    have := red_count_le hf hp
    have := count_le hf
    have := red_count c
    omega
  refine chk_of p1 ⟨p2.1, ?_⟩ ?_ ?_ ?_
  · simp [redC]
    omega
  · intro i hi
    have hi' : i < c.inputs.length := hi
    have := p3 i hi'
    have ha : (redC c).actuators = c.actuators := rfl
    unfold inpE at this ⊢
    have e1 : namedC (redC c) ((2 * (redC c).actuators.toNat + i : Nat) : Int) = namedC c ((2 * c.actuators.toNat + i : Nat) : Int) := named_low (by omega)
    have e2 : namesB (redC c) (2 * (redC c).actuators.toNat + i) = namesB c (2 * c.actuators.toNat + i) := by
      unfold namesB
      apply List.map_congr_left
      intro k hk
      have hk2 : k < 2 * c.actuators.toNat + i := List.mem_range.1 hk
      exact named_low (by omega)
    rw [e1, e2]
    exact this
  · intro i hi
    have hy : (redC c).signals[i]? = some (redC c).signals[i] := List.getElem?_eq_getElem hi
    generalize (redC c).signals[i] = y at *
    obtain ⟨k, n, x, e1, e2, e3, e4, e5, e6, e7, e8⟩ := red_sig hf hp hy
    unfold sigE
    rw [hy]
    simp only
    obtain ⟨s1, s2, s3, s4, s5, s6⟩ := sig_parts (hf.sigs n x e4)
    have hon : ∀ u ∈ varsE x.on, 0 ≤ (keepP c).getD u.toNat 0 ∧ (keepP c).getD u.toNat 0 < countC (redC c) := by
      intro u hu
      rw [keep_getD (vars_check s3 u hu)]
      exact keep_use hf hp e2 (by rw [e8]; exact (met_uses hf e4 u).2 (.inl hu))
    subst e5
    refine sig_of ?_ s2 (check_rep s3 hrc hon) (fun hk => ?_) (fun hk => ?_) (fun hk => ?_)
    · obtain ⟨a1, a2, a3⟩ := name_parts s1
      refine name_of a1 a2 fun hm => a3 ?_
      have := red_names hf hp e2 (s := x.name) (by rw [e7]; exact hm)
      rwa [show (k - firstC c).toNat = n by omega] at this
    · obtain ⟨a1, a2, a3, a4⟩ := s4 hk
      refine ⟨?_, by show zeroE (repE x.off (keepP c)) = true; rw [zero_rep a2]; exact a2, a3, a4⟩
      rw [lateC_any]
      rw [List.any_eq_false]
      intro v hv
      have hv' : v ∈ varsE (repE x.on (keepP c)) := hv
      rw [vars_rep (keepP c) _ x.on (Nat.lt_succ_self _) (right_of_check s3).1] at hv'
      obtain ⟨u, hu, rfl⟩ := List.mem_map.1 hv'
      have hur := vars_check s3 u hu
      rw [keep_getD hur, red_first]
      simp only [Bool.and_eq_true, decide_eq_true_eq, beq_iff_eq, not_and]
      intro h1 h2
      unfold keepL at h1 h2
      by_cases h3 : clsL c u < firstC c
      · rw [if_pos h3] at h1
        omega
      · have hn : Need c (clsL c u) := .use e2 (by rw [e8]; exact (met_uses hf e4 u).2 (.inl hu)) (by omega)
        rw [if_neg h3, if_pos hn] at h1 h2
        rw [show firstC c + (posN c (clsL c u) : Int) - firstC c = posN c (clsL c u) by omega, kind_red hf hp hn] at h2
        have h4 := gate_before hf e4 hk hu (by omega) h2
        have h5 := pos_lt hf hp hn e2 (by omega)
        omega
    · obtain ⟨a1, a2⟩ := s5 hk
      refine ⟨check_rep a1 hrc fun u hu => ?_, a2⟩
      rw [keep_getD (vars_check a1 u hu)]
      exact keep_use hf hp e2 (by rw [e8]; exact (met_uses hf e4 u).2 (.inr hu))
    · obtain ⟨a1, a2, a3⟩ := s6 hk
      exact ⟨a1, by show zeroE (repE x.off (keepP c)) = true; rw [zero_rep a2]; exact a2, a3⟩
  · unfold pilotE
    have e1 : ((redC c).plus.length : Int) = (redC c).actuators := by simp [redC]; exact hp.1
    have e2 : ((redC c).minus.length : Int) = (redC c).actuators := by simp [redC]; exact hp.2.1
    rw [if_neg (by omega), if_neg]
    simp only [List.any_append, Bool.or_eq_true, List.any_eq_true, decide_eq_true_eq, not_or, not_exists, not_and]
    refine ⟨fun v hv => ?_, fun v hv => ?_⟩
    · have hv' : v ∈ c.plus.map (keepL c) := hv
      obtain ⟨p, h1, rfl⟩ := List.mem_map.1 hv'
      have := keep_pilot hf hp (.inl h1)
      omega
    · have hv' : v ∈ c.minus.map (keepL c) := hv
      obtain ⟨p, h1, rfl⟩ := List.mem_map.1 hv'
      have := keep_pilot hf hp (.inr h1)
      omega
theorem red_few {c : Control} (hz : checkC c = 0) (hp : PilC c) (hw : fewC c = true) : fewC (redC c) = true := by
  have hf := fine_of hz
  have hz2 := red_check hz hp
  have hf2 := fine_of hz2
  have hnl := need_len hf hp
  simp only [fewC, fewN, Bool.and_eq_true, Bool.not_eq_true', Bool.or_eq_false_iff, decide_eq_false_iff_not] at hw ⊢
  obtain ⟨⟨⟨⟨⟨h1, h2⟩, h3⟩, h4⟩, h5⟩, h6⟩ := hw
  have hsl : (redC c).signals.length = (needL c).length := by simp [redC]
  have hpl : (redC c).plus.length = c.plus.length := by simp [redC]
  have hml : (redC c).minus.length = c.minus.length := by simp [redC]
  have hil : (redC c).inputs = c.inputs := rfl
  have hsg := hf.sig
  simp only [Bool.and_eq_false_iff, decide_eq_false_iff_not] at h1 ⊢
  refine ⟨⟨⟨⟨⟨⟨by rw [hil]; exact h1.1, ?_⟩, by omega⟩, by omega⟩, by omega⟩, by rw [hil]; exact h5⟩, ?_⟩
  · rcases h1.2 with h | h
    · left; omega
    · omega
  · rw [List.any_eq_false]
    intro y hy
    obtain ⟨i, hi⟩ := List.getElem?_of_mem hy
    obtain ⟨k, n, x, e1, e2, e3, e4, e5, e6, e7, e8⟩ := red_sig hf hp hi
    have hl := fine_light hf2 hi
    have h7 := (List.any_eq_false.1 h6) x (List.mem_of_getElem? e4)
    unfold heavyB at h7 ⊢
    simp only [Bool.or_eq_true, not_or, Bool.not_eq_true', Bool.not_eq_false] at h7 ⊢
    rw [hl.1, hl.2]
    subst e5
    exact ⟨⟨h7.1.1, by simp⟩, by simp⟩

end Go.Proofs.YthlpelkcmmaokaaGreat
end

/- Contracts: Reduce. -/
section
namespace Go.Proofs.YthlpelkcmmaokaaGreat
set_option maxHeartbeats 8000000
set_option maxRecDepth 10000

abbrev rT (s : List UInt8) : List A := [.dat (.str s)]
theorem rowsD_T (xs : List (List UInt8)) : rowsD (xs.map rT) = xs.map encT := by unfold rowsD; rw [List.map_map]; rfl
theorem allD_T (xs : List (List UInt8)) : allD (xs.map rT) = true := by simp [allD, rT, isD]
attribute [simp] rowsD_T allD_T
theorem cloneT_o (xs : List (List UInt8)) (hx : xs.length ≤ 4294967296) : CallOwn Tryz.prog 51 [aTs xs] 9 1 (xs.map rT) := by
  refine CallS.nilcase (az := []) (bz := []) ?_ ?_
  · intro hn
    have hn : xs = [] := by simpa using hn
    subst hn
    refine callO_of Tryz.func51 rfl Tryz.ntmps51 (rs := [.tmp 2]) rfl (by kernel_rfl) (by simp) (by kernel_rfl) ?_
    simp
  · refine callO_of Tryz.func51 rfl Tryz.ntmps51 (rs := [.tmp 2]) rfl (by kernel_rfl) (by simp) (by kernel_rfl) ?_
    simp
    omega
abbrev zeroC : List A := [.dat (.int .i64 0), .nils, .nils, .nils, .nils]
noncomputable abbrev rkv (c : Control) (b2 : Nat) : List (Nat × A) := [(1, .rptr (encC c)), (2, .ptr 2 b2 0), (3, .nils), (4, aI 0), (8, aIs (keepP c))]

theorem reduce_a {c : Control} {b2 : Nat} (hz : checkC c = 0) (hc : OkC c)
    (hrest : vcN ⟨Tryz.prog, none, 142⟩ 1 (restC Tryz.f19 6) (hdE (rkv c b2 ++ [(7, aIs (needL c))]) []) [(2, .box b2 zeroC)] (RetV Tryz.prog [.cell 2 26, .tmp 3, .tmp 4] fun r' H' => (frz H' r').1 ∧ (frz H' r').2 = .tuple [aC (redC c), aIs (keepP c), aI 0])) :
    vcN ⟨Tryz.prog, none, 142⟩ 3 (restC Tryz.f19 3) (hdE [(1, .rptr (encC c)), (2, .ptr 2 b2 0), (3, .nils), (4, aI 0), (6, aIs (alikeC c))] []) [(2, .box b2 zeroC)] (RetV Tryz.prog [.cell 2 26, .tmp 3, .tmp 4] fun r' H' => (frz H' r').1 ∧ (frz H' r').2 = .tuple [aC (redC c), aIs (keepP c), aI 0]) := by
  have hf := fine_of hz
  have hp := pil_of hz
  have hact := hf.act
  have hin := hf.inp
  have hsg := hf.sig
  have h0 := hf.f0
  have hcn := count_first c
  have hcb : countC c ≤ 1000 := by unfold countC; omega
  have hal := alike_len hf
  have hkl := keep_len hf
  have hnl := need_len hf hp
  obtain ⟨M, hM⟩ : ∃ M : Nat, countC c = M := ⟨(countC c).toNat, by omega⟩
  refine vcN_rest rfl ?_
  simp
  refine (needed_fn c hf hc hp hz).s ?_
  simp
  refine (linesQ_fn c hf.sm).s ?_
  simp
  intro u
  refine ⟨by omega, ?_⟩
  refine V.forI (σ := List Int) M [1, 2, 3, 4, 7, 8, 32, 33] (by simp; exact rfl) (fun i _ => [(34, aI i)]) (fun _ ks => [(31, .seq u 3 1 (ks.map rI))]) (fun i ks => (ks.length : Int) = countC c ∧ ks.take i = (keepP c).take i) (List.replicate (countC c).toNat 0) ⟨by simp; omega, by simp⟩ (by simp) ⟨by simp; exact rfl, by simp⟩ ?_ ?_
  · rintro i ks hi ⟨hl, hI⟩
    have hir : (0 : Int) ≤ i ∧ (i : Int) < countC c := by omega
    have g1 := cls_at hf hir
    have k1 := keep_at hir
    rw [Int.toNat_natCast] at g1 k1
    have hial : i < (alikeC c).length := by omega
    have g2 : (alikeC c)[i]'hial = clsL c i := by
      rw [List.getElem?_eq_getElem hial] at g1
      exact Option.some.inj g1
    have hkeep : ∀ v, v = keepL c i → (((ks.set i v).length : Int) = countC c ∧ (ks.set i v).take (i + 1) = (keepP c).take (i + 1)) := by
      rintro v rfl
      refine ⟨by simpa using hl, ?_⟩
      rw [List.take_add_one, List.take_add_one, k1, List.take_set_of_le (Nat.le_refl _), hI, List.getElem?_set_self (by omega)]
    have hkd : keepL c i = if clsL c i < firstC c then clsL c i else if clsL c i ∈ needL c then firstC c + posI (needL c) (clsL c i) else noneV := by
      unfold keepL
      by_cases h1 : clsL c i < firstC c
      · rw [if_pos h1, if_pos h1]
      · rw [if_neg h1, if_neg h1]
        by_cases h2 : Need c (clsL c i)
        · rw [if_pos h2, if_pos ((mem_need hf hp).2 h2)]
          rfl
        · rw [if_neg h2, if_neg fun h => h2 ((mem_need hf hp).1 h)]
    have hsq := bsearch_fn (needL c) (clsL c i) (need_sorted c) (by omega)
    have hpl : posI (needL c) (clsL c i) ≤ (needL c).length := List.length_filter_le _ _
    generalize clsL c i = q at *
    generalize needL c = nl at *
    have hikl : i < ks.length := by omega
    obtain ⟨w, hw⟩ : ∃ w, ks[i]? = some w := ⟨_, List.getElem?_eq_getElem hikl⟩
    simp [hial, g2, hikl, hw]
    refine (firstQ_fn c hf.sm).s ?_
    by_cases h1 : q < firstC c
    · rw [if_pos h1] at hkd
      have h1' : ¬ firstC c ≤ q := by omega
      have := hkeep q hkd.symm
      simp [h1']
      exact ⟨by omega, ks.set i q, this, by rw [List.map_set]⟩
    · rw [if_neg h1] at hkd
      have h1' : firstC c ≤ q := by omega
      simp [h1', hikl, hw]
      refine hsq.s ?_
      by_cases h2 : q ∈ nl
      · rw [if_pos h2] at hkd
        have := hkeep _ hkd.symm
        simp [h1', h2]
        refine (firstQ_fn c hf.sm).s ?_
        simp [hikl, hw]
        exact ⟨by omega, by omega, ks.set i (firstC c + (posI nl q : Int)), this, by rw [List.map_set]⟩
      · rw [if_neg h2] at hkd
        have := hkeep _ hkd.symm
        simp [h1', h2]
        exact ⟨by omega, ks.set i noneV, this, by rw [List.map_set]; rfl⟩
  · rintro ks ⟨hl, hI⟩
    have hks : ks = keepP c := by
      rw [List.take_of_length_le (by omega), List.take_of_length_le (by omega)] at hI
      exact hI
    subst hks
    have hlt : ¬ M < (alikeC c).length := by omega
    simp [hlt]
    refine V.frz1 8 (τ := 31) (h := u) (e := 3) (sz := 1) (rows := (keepP c).map rI) (by simp) (by simp [hget]) (by simp) ?_
    exact V.cutN 1 (rkv c b2 ++ [(7, aIs (needL c))]) (by simp) (by simp) (vcN_of_rest rfl hrest)


theorem count_le0 {c : Control} (hf : Fine c) : countC c ≤ 92 := by
  have := hf.act
  have := hf.inp
  have := hf.sig
  unfold countC
  omega
/-- The reduced control as it grows. -/
abbrev outH (c : Control) (b13 : Nat) (m h1 h2 h3 : Value) (sg : List Signal) (pl mi : List Int) : Heap :=
  [(13, .box b13 [.dat (.int .i64 c.actuators), .own 69 m, .own 201 h1, .own 202 h2, .own 203 h3]), (69, .seq m 9 1 (c.inputs.map rT)), (201, .seq h1 76 10 (sg.map sigA)), (202, .seq h2 3 1 (pl.map rI)), (203, .seq h3 3 1 (mi.map rI))]
theorem box_nils {x : X} {c : Control} {b13 b2 : Nat} {m : Value} {H : Heap} (h : Inv x ((13, .box b13 [.dat (.int .i64 c.actuators), .own 69 m, .nils, .nils, .nils]) :: (69, .seq m 9 1 (c.inputs.map rT)) :: (2, .box b2 zeroC) :: H)) :
    Inv x (outH c b13 m (.slice none 0 0) (.slice none 0 0) (.slice none 0 0) [] [] [] ++ ((2, .box b2 zeroC) :: H)) := by
  have h1 : Inv x ((13, .box b13 [.dat (.int .i64 c.actuators), .own 69 m, .own 201 (.slice none 0 0), .own 202 (.slice none 0 0), .own 203 (.slice none 0 0)]) :: (69, .seq m 9 1 (c.inputs.map rT)) :: (2, .box b2 zeroC) :: H) := by
    refine h.same (fun _ h => h) ?_
    rintro ⟨cc, ty, k1, k2⟩
    refine ⟨cc, ty, k1, ?_⟩
    generalize cc.toList = l at k2 ⊢
    rcases l with _ | ⟨v1, _ | ⟨v2, _ | ⟨v3, _ | ⟨v4, _ | ⟨v5, _ | ⟨v6, l⟩⟩⟩⟩⟩⟩ <;> simp [Ds, D] at k2 ⊢
    exact k2
  have h2 := Inv.nil (t := 203) (e := .seq (.slice none 0 0) 3 1 []) (Inv.nil (t := 202) (e := .seq (.slice none 0 0) 3 1 []) (Inv.nil (t := 201) (e := .seq (.slice none 0 0) 76 10 []) h1 ⟨rfl, rfl⟩) ⟨rfl, rfl⟩) ⟨rfl, rfl⟩
  refine h2.perm ?_
  show ([(13, _), (69, _), (201, _), (202, _), (203, _)] ++ ((2, Ent.box b2 zeroC) :: H)).Perm ([(203, _), (202, _), (201, _), (13, _), (69, _)] ++ ((2, Ent.box b2 zeroC) :: H))
  exact ((perm_at [_, _, _, _, _] (0, .box 0 []) 5 rfl [3, 4, 2, 1, 0] (by decide)).append_right _)
theorem reduce_b {c : Control} {b2 : Nat} (hz : checkC c = 0) (hc : OkC c)
    (hrest : ∀ (b13 : Nat) (m : Value), vcN ⟨Tryz.prog, none, 142⟩ 1 (restC Tryz.f19 7) (hdE (rkv c b2 ++ [(7, aIs (needL c)), (13, .ptr 13 b13 0)]) []) (outH c b13 m (.slice none 0 0) (.slice none 0 0) (.slice none 0 0) [] [] [] ++ [(2, .box b2 zeroC)]) (RetV Tryz.prog [.cell 2 26, .tmp 3, .tmp 4] fun r' H' => (frz H' r').1 ∧ (frz H' r').2 = .tuple [aC (redC c), aIs (keepP c), aI 0])) :
    vcN ⟨Tryz.prog, none, 142⟩ 1 (restC Tryz.f19 6) (hdE (rkv c b2 ++ [(7, aIs (needL c))]) []) [(2, .box b2 zeroC)] (RetV Tryz.prog [.cell 2 26, .tmp 3, .tmp 4] fun r' H' => (frz H' r').1 ∧ (frz H' r').2 = .tuple [aC (redC c), aIs (keepP c), aI 0]) := by
  have hf := fine_of hz
  have hin := hf.inp
  refine vcN_rest rfl ?_
  simp
  refine V.draw (fun s => if s = 69 then some (.own 9 1 (c.inputs.map rT)) else none) (by kernel_rfl) (by kernel_rfl) (by simp) ?_
  simp
  intro u
  refine ⟨cloneT_o c.inputs (by omega), fun b => ?_⟩
  refine V.inv (H' := outH c b u (.slice none 0 0) (.slice none 0 0) (.slice none 0 0) [] [] [] ++ [(2, .box b2 zeroC)]) (fun x H0 h => ?_) ?_
  · have := box_nils (c := c) (b13 := b) (b2 := b2) (m := u) (H := H0) h
    rw [List.append_assoc]
    exact this
  · exact V.cutN 1 (rkv c b2 ++ [(7, aIs (needL c)), (13, .ptr 13 b 0)]) (by simp) (by simp) (vcN_of_rest rfl (hrest b u))

theorem red_row {c : Control} (hz : checkC c = 0) (hc : OkC c) {b2 b13 : Nat} {m h1 : Value} {Q : PostQ} {i : Nat} (hi : i < (needL c).length) :
    vcC ⟨Tryz.prog, none, 142⟩ (loopC Tryz.f19 1) (hdE (rkv c b2 ++ [(13, .ptr 13 b13 0), (71, aIs (needL c)), (72, aI (needL c).length)]) [(73, aI i)]) (hcat (outH c b13 m h1 (.slice none 0 0) (.slice none 0 0) (((redC c).signals).take i) [] []) [(2, .box b2 zeroC)])
      (LoopQ Q fun E' H' => ∃ h2, True ∧ (∀ p ∈ [(73, aI (i + 1 : Nat))], wk (E' p.1) p.2) ∧ (∀ p ∈ rkv c b2 ++ [(13, .ptr 13 b13 0), (71, aIs (needL c)), (72, aI (needL c).length)], E' p.1 = p.2) ∧ subN (hcat (outH c b13 m h2 (.slice none 0 0) (.slice none 0 0) (((redC c).signals).take (i + 1)) [] []) [(2, .box b2 zeroC)]) H') := by
  have hf := fine_of hz
  have hp := pil_of hz
  have hact := hf.act
  have hin := hf.inp
  have hsg := hf.sig
  have h0 := hf.f0
  have hcn := count_first c
  have hcb := count_le0 hf
  have hkl := keep_len hf
  have hnl := need_len hf hp
  obtain ⟨k, hk1⟩ : ∃ k, (needL c)[i]'hi = k := ⟨_, rfl⟩
  have hko : (needL c)[i]? = some k := by rw [List.getElem?_eq_getElem hi, hk1]
  have hkn : Need c k := (mem_need hf hp).1 (List.mem_of_getElem? hko)
  obtain ⟨n, x, e1, e2, e3⟩ := red_at hf hp hkn
  rw [pos_at hko] at e3
  obtain ⟨hnl2, hx1⟩ := List.getElem?_eq_some_iff.1 e2
  have ox := hc.sigs x (List.mem_of_getElem? e2)
  have rx := sig_right hf e2
  rw [← hkl] at rx
  have c1 := replaced_fn (keepP c) (by omega) _ x.on (Nat.lt_succ_self _) ox.on rx.1
  have c2 := replaced_fn (keepP c) (by omega) _ x.off (Nat.lt_succ_self _) ox.off rx.2
  have hred : redX c x = { x with on := repE x.on (keepP c), off := repE x.off (keepP c) } := rfl
  rw [List.take_add_one, e3, hred]
  have hsl : ((redC c).signals.take i).length ≤ 1000 := by simp [redC]; omega
  generalize (redC c).signals.take i = sg at *
  generalize needL c = nl at *
  generalize okV x.on (keepP c) = b1 at *
  generalize okV x.off (keepP c) = b2' at *
  generalize repE x.on (keepP c) = p at *
  generalize repE x.off (keepP c) = q at *
  have hkf : k - firstC c = n := by omega
  refine vc_part rfl ?_
  simp [hi, hk1]
  refine V.draw (fun s => if s = 81 then some (.fn (aI (firstC c))) else none) (by kernel_rfl) (by kernel_rfl) (by simp) ?_
  simp [hkf, hnl2, hx1, e2]
  refine ⟨firstQ_fn c hf.sm, by omega, fun b16 => ?_⟩
  refine c1.s ?_
  simp
  refine c2.s ?_
  simp
  omega
theorem reduce_c {c : Control} (hz : checkC c = 0) (hc : OkC c) {b2 b13 : Nat} {m : Value}
    (hrest : ∀ h1, vcC ⟨Tryz.prog, none, 142⟩ (restC Tryz.f19 8) (hdE (rkv c b2 ++ [(13, .ptr 13 b13 0)]) []) (outH c b13 m h1 (.slice none 0 0) (.slice none 0 0) (redC c).signals [] [] ++ [(2, .box b2 zeroC)]) (RetV Tryz.prog [.cell 2 26, .tmp 3, .tmp 4] fun r' H' => (frz H' r').1 ∧ (frz H' r').2 = .tuple [aC (redC c), aIs (keepP c), aI 0])) :
    vcN ⟨Tryz.prog, none, 142⟩ 1 (restC Tryz.f19 7) (hdE (rkv c b2 ++ [(7, aIs (needL c)), (13, .ptr 13 b13 0)]) []) (outH c b13 m (.slice none 0 0) (.slice none 0 0) (.slice none 0 0) [] [] [] ++ [(2, .box b2 zeroC)]) (RetV Tryz.prog [.cell 2 26, .tmp 3, .tmp 4] fun r' H' => (frz H' r').1 ∧ (frz H' r').2 = .tuple [aC (redC c), aIs (keepP c), aI 0]) := by
  have hf := fine_of hz
  have hp := pil_of hz
  have hnl := need_len hf hp
  have hsg := hf.sig
  have hsl : (redC c).signals.length = (needL c).length := by simp [redC]
  refine vcN_rest rfl ?_
  simp
  refine V.forI (σ := Value) (kv := rkv c b2 ++ [(13, .ptr 13 b13 0), (71, aIs (needL c)), (72, aI (needL c).length)]) (needL c).length [1, 2, 3, 4, 8, 13, 71, 72] (by simp) (fun i _ => [(73, aI i)]) (fun i h => outH c b13 m h (.slice none 0 0) (.slice none 0 0) (((redC c).signals).take i) [] []) (fun _ _ => True) (.slice none 0 0) trivial (by simp) ⟨by simp; exact rfl, by simp⟩ ?_ ?_
  · rintro i h hi -
    exact vc_of_part rfl (red_row hz hc hi)
  · rintro h -
    rw [List.take_of_length_le (by omega)]
    simp
    exact V.cut (rkv c b2 ++ [(13, .ptr 13 b13 0)]) (by simp) (by simp) (vc_of_rest rfl (hrest h))

theorem red_pm {c : Control} (hz : checkC c = 0) {b2 b13 : Nat} {m h1 h2 h3 : Value} {Q : PostQ} {i : Nat} (hi : (i : Int) < c.actuators) :
    vcC ⟨Tryz.prog, none, 142⟩ (loopC Tryz.f19 2) (hdE (rkv c b2 ++ [(13, .ptr 13 b13 0), (109, aI c.actuators)]) [(110, aI i)]) (hcat (outH c b13 m h1 h2 h3 (redC c).signals ((redC c).plus.take i) ((redC c).minus.take i)) [(2, .box b2 zeroC)])
      (LoopQ Q fun E' H' => ∃ hh : Value × Value, True ∧ (∀ p ∈ [(110, aI (i + 1 : Nat))], wk (E' p.1) p.2) ∧ (∀ p ∈ rkv c b2 ++ [(13, .ptr 13 b13 0), (109, aI c.actuators)], E' p.1 = p.2) ∧ subN (hcat (outH c b13 m h1 hh.1 hh.2 (redC c).signals ((redC c).plus.take (i + 1)) ((redC c).minus.take (i + 1))) [(2, .box b2 zeroC)]) H') := by
  have hf := fine_of hz
  have hp := pil_of hz
  have hact := hf.act
  have h0 := hf.f0
  have hcb := count_le0 hf
  have hkl := keep_len hf
  have hpl := hp.1
  have hml := hp.2.1
  have hip : i < c.plus.length := by omega
  have him : i < c.minus.length := by omega
  obtain ⟨p, hp1⟩ : ∃ p, c.plus[i]'hip = p := ⟨_, rfl⟩
  obtain ⟨mm, hm1⟩ : ∃ m, c.minus[i]'him = m := ⟨_, rfl⟩
  have hpo : c.plus[i]? = some p := by rw [List.getElem?_eq_getElem hip, hp1]
  have hmo : c.minus[i]? = some mm := by rw [List.getElem?_eq_getElem him, hm1]
  have hpr := hp.2.2.1 p (List.mem_of_getElem? hpo)
  have hmr := hp.2.2.2 mm (List.mem_of_getElem? hmo)
  have g1 := keep_at hpr
  have g2 := keep_at hmr
  have hpk : p.toNat < (keepP c).length := by omega
  have hmk : mm.toNat < (keepP c).length := by omega
  have hpk1 : p < (keepP c).length := by omega
  have hmk1 : mm < (keepP c).length := by omega
  have g3 : (keepP c)[p.toNat]'hpk = keepL c p := by
    rw [List.getElem?_eq_getElem hpk] at g1
    exact Option.some.inj g1
  have g4 : (keepP c)[mm.toNat]'hmk = keepL c mm := by
    rw [List.getElem?_eq_getElem hmk] at g2
    exact Option.some.inj g2
  have e1 : (redC c).plus.take (i + 1) = (redC c).plus.take i ++ [keepL c p] := by
    rw [List.take_add_one]
    simp [redC, hpo]
  have e2 : (redC c).minus.take (i + 1) = (redC c).minus.take i ++ [keepL c mm] := by
    rw [List.take_add_one]
    simp [redC, hmo]
  have l1 : ((redC c).plus.take i).length ≤ 1000 := by simp [redC]; omega
  have l2 : ((redC c).minus.take i).length ≤ 1000 := by simp [redC]; omega
  rw [e1, e2]
  generalize (redC c).plus.take i = pl at *
  generalize (redC c).minus.take i = mi at *
  generalize keepL c p = kp at *
  generalize keepL c mm = km at *
  refine vc_part rfl ?_
  simp [hi]
  refine V.drawX (fun _ => none) (by kernel_rfl) (by kernel_rfl) (by simp) ?_
  simp [hip, hp1, him, hm1, g1, g2, g3, g4, hpr.1, hmr.1, hpk1, hmk1]
  exact ⟨by omega, by omega, by kernel_rfl, by omega, by omega⟩
theorem rowsD_Sg (xs : List Signal) : rowsD (xs.map sigA) = xs.map encS := by unfold rowsD; rw [List.map_map]; rfl
theorem allD_Sg (xs : List Signal) : allD (xs.map sigA) = true := by simp [allD, sigA, isD]

theorem reduce_d {c : Control} (hz : checkC c = 0) {b2 b13 : Nat} {m h1 : Value} :
    vcC ⟨Tryz.prog, none, 142⟩ (restC Tryz.f19 8) (hdE (rkv c b2 ++ [(13, .ptr 13 b13 0)]) []) (outH c b13 m h1 (.slice none 0 0) (.slice none 0 0) (redC c).signals [] [] ++ [(2, .box b2 zeroC)]) (RetV Tryz.prog [.cell 2 26, .tmp 3, .tmp 4] fun r' H' => (frz H' r').1 ∧ (frz H' r').2 = .tuple [aC (redC c), aIs (keepP c), aI 0]) := by
  have hf := fine_of hz
  have hp := pil_of hz
  have hact := hf.act
  have hpl : ((redC c).plus.length : Int) = c.actuators := by simp [redC]; exact hp.1
  have hml : ((redC c).minus.length : Int) = c.actuators := by simp [redC]; exact hp.2.1
  obtain ⟨M, hM⟩ : ∃ M : Nat, c.actuators = M := ⟨c.actuators.toNat, by omega⟩
  refine vc_rest rfl ?_
  simp
  refine V.forI (σ := Value × Value) (kv := rkv c b2 ++ [(13, .ptr 13 b13 0), (109, aI c.actuators)]) M [1, 2, 3, 4, 8, 13, 109] (by simp) (fun i _ => [(110, aI i)]) (fun i hh => outH c b13 m h1 hh.1 hh.2 (redC c).signals ((redC c).plus.take i) ((redC c).minus.take i)) (fun _ _ => True) (.slice none 0 0, .slice none 0 0) trivial (by simp) ⟨by simp; exact rfl, by simp⟩ ?_ ?_
  · rintro i ⟨h2, h3⟩ hi -
    exact vc_of_part rfl (red_pm hz (by omega))
  · rintro ⟨h2, h3⟩ -
    rw [List.take_of_length_le (by omega), List.take_of_length_le (by omega)]
    have hlt : ¬ ((M : Int) < c.actuators) := by omega
    simp [hlt]
    exact ⟨allD_Sg _, rfl, rfl, rowsD_Sg _⟩

def emptyC : Control := ⟨0, [], [], [], []⟩
noncomputable def reduceQ (c : Control) : Control × List Int × Int := if checkC c ≠ 0 then (emptyC, [], checkC c) else (redC c, keepP c, 0)
theorem Reduce_fn (c : Control) (hc : OkC c) : CallFn Tryz.prog 19 [aC c] (.tuple [aC (reduceQ c).1, aIs (reduceQ c).2.1, aI (reduceQ c).2.2]) := by
  refine callFz_cut 3 Tryz.func19 rfl Tryz.ntmps19 (rs := [.cell 2 26, .tmp 3, .tmp 4]) rfl (by kernel_rfl) (by simp) (by kernel_rfl) ?_
  simp
  intro b2
  refine (Check_fn c hc).s ?_
  simp
  by_cases hz : checkC c = 0
  · have hf := fine_of hz
    have e : reduceQ c = (redC c, keepP c, 0) := by simp [reduceQ, hz]
    rw [e]
    simp [hz]
    refine (classes_fn c hf hc).s ?_
    simp
    exact V.cutN 3 [(1, .rptr (encC c)), (2, .ptr 2 b2 0), (3, .nils), (4, aI 0), (6, aIs (alikeC c))] (by simp) (by simp) (vcN_of_rest rfl (reduce_a hz hc (reduce_b hz hc fun b13 m => reduce_c hz hc fun h1 => reduce_d hz)))
  · have e : reduceQ c = (emptyC, [], checkC c) := by simp [reduceQ, hz]
    rw [e]
    simp [hz, emptyC]

end Go.Proofs.YthlpelkcmmaokaaGreat
end

/- Contracts: the reference's reduced control. -/
section
namespace Go.Proofs.YthlpelkcmmaokaaGreat
set_option maxHeartbeats 8000000
set_option maxRecDepth 10000

open Classical in
noncomputable def placeL (c : Control) (k : Int) : Int := if k < firstC c then k else if Need c k then firstC c + posN c k else noneV
noncomputable def placeP (c : Control) : List Int := (List.range (countC c).toNat).map fun k : Nat => placeL c k
noncomputable abbrev dkv (c : Control) (b2 : Nat) : List (Nat × A) := [(1, .rptr (encC c)), (2, .ptr 2 b2 0), (3, .nils)]
noncomputable abbrev resD (c : Control) : A → Heap → Prop := fun r' H' => (frz H' r').1 ∧ (frz H' r').2 = .tuple [aC (redC c), aIs (keepP c)]

/-- The reduced control as it grows. -/
abbrev outV (c : Control) (b12 : Nat) (m h1 h2 h3 : Value) (sg : List Signal) (pl mi : List Int) : Heap :=
  [(12, .box b12 [.dat (.int .i64 c.actuators), .own 70 m, .own 201 h1, .own 202 h2, .own 203 h3]), (70, .seq m 9 1 (c.inputs.map rT)), (201, .seq h1 76 10 (sg.map sigA)), (202, .seq h2 3 1 (pl.map rI)), (203, .seq h3 3 1 (mi.map rI))]
noncomputable abbrev ekv (c : Control) (b2 b12 : Nat) : List (Nat × A) := dkv c b2 ++ [(4, aI (firstC c)), (6, aBs (wantB c)), (10, aIs (keepP c)), (12, .ptr 12 b12 0)]
end Go.Proofs.YthlpelkcmmaokaaGreat
end

/- Contracts: the reference's reduced control, to the end. -/
section
namespace Go.Proofs.YthlpelkcmmaokaaGreat
set_option maxHeartbeats 8000000
set_option maxRecDepth 10000

end Go.Proofs.YthlpelkcmmaokaaGreat
end
