/- Texts joined by a program: Db, Dc, Dd, De, Df, Pa. -/
import Derived.Test.YtbcjnmifflflfaaGreatDoorW11
set_option linter.unusedSimpArgs false
set_option linter.unusedVariables false

section
namespace Go.Proofs.YtbcjnmifflflfaaGreatDoor
set_option maxHeartbeats 2000000
set_option maxRecDepth 10000
theorem CallS.rt' {P : Program} {k : Nat} {g : FuncId} {az : List A} {H : Heap} {K : A → Heap → Prop} (h : CallS P g az H K) : CallS P g az (Go.Proofs.YtbcjnmifflflfaaGreatDoor.rt k H) fun r H' => ∃ H2, H' = Go.Proofs.YtbcjnmifflflfaaGreatDoor.rt k H2 ∧ K r H2 := by
  refine ⟨h.1, fun x args H0 hi hd => (h.2 x args H0 (hi.ents (by simp [rt_snd])) hd).mono ?_⟩
  rintro _ _ ⟨y, v, r, H', a, b, c, d, e, g⟩
  exact ⟨y, v, r, Go.Proofs.YtbcjnmifflflfaaGreatDoor.rt k H', a, b, c, d.ents (by simp [rt_snd]), e, H', rfl, g⟩
theorem get!_list (s : List UInt8) (i : Nat) (h : i < s.length) : (ByteArray.mk s.toArray).get! i = s[i] := by
  simp [ByteArray.get!, h]
theorem decode_ascii {s : List UInt8} {i : Nat} (h : i < s.length) (hb : s[i].toNat < 128) : Utf8.decode ⟨s.toArray⟩ i = (s[i].toNat, 1) := by
  simp [Utf8.decode, get!_list s i h, hb]
theorem decode_high {s : List UInt8} {i : Nat} (h : i < s.length) (hb : 128 ≤ s[i].toNat) : 128 ≤ (Utf8.decode ⟨s.toArray⟩ i).1 ∧ (Utf8.decode ⟨s.toArray⟩ i).1 ≤ 1114111 := by
  have hv : ∀ c : Nat, Utf8.valid c = true → c ≤ 1114111 := by
    intro c hc
    simp [Utf8.valid] at hc
    omega
  have hlt : s[i].toNat < 256 := s[i].toNat_lt
  simp only [Utf8.decode, Nat.add_zero, get!_list s i h, Utf8.runeError]
  rw [if_neg (by omega)]
  split
  · split <;> simp <;> omega
  · split
    · split
      · rename_i h1
        simp only [Bool.and_eq_true, decide_eq_true_eq] at h1
        exact ⟨by simp only []; omega, hv _ h1.2⟩
      · simp
    · split
      · split
        · rename_i h1
          simp only [Bool.and_eq_true, decide_eq_true_eq] at h1
          exact ⟨by simp only []; omega, hv _ h1.2⟩
        · simp
      · simp
theorem indexFuncS_fn (s : List UInt8) (hs : Sh s) (p : Int → Bool) (hp : ∀ r, 128 ≤ r → p r = true) (f : FuncId) (first caps : List A)
    (hf : ∀ r, 0 ≤ r → r ≤ 1114111 → CallFn Tryz.prog f (first ++ [.dat (.int .i32 r)] ++ caps) (aB (p r))) :
    CallFn Tryz.prog 308 [aT s, .fn f first caps, aB true] (aI (idxI (s.findIdx? fun b => p b.toNat))) := by
  refine callFz_of Tryz.func308 rfl Tryz.ntmps308 (rs := [.tmp 6]) rfl (by kernel_rfl) (by simp) (by kernel_rfl) ?_
  simp
  intro b
  refine V.forI (σ := Unit) s.length [1, 2, 10] (by simp; exact rfl) (fun _ _ => []) (fun i _ => [(10, .raw b (.stringIter ⟨s.toArray⟩ i))]) (fun i _ => NoF (fun b : UInt8 => p b.toNat) (s.take i)) () (by simp) (by simp) ⟨by simp; exact rfl, by simp⟩ ?_ ?_
  · rintro i - hi hI
    have h1 := List.getElem?_eq_getElem hi
    have hs1 := findIdx_step (p := fun b : UInt8 => p b.toNat) hI h1
    have hsz : i < (ByteArray.mk s.toArray).size := by simpa [ByteArray.size] using hi
    rcases Nat.lt_or_ge s[i].toNat 128 with hb | hb
    · have hd := decode_ascii hi hb
      have hc := hf s[i].toNat (by omega) (by omega)
      simp at hc
      simp [hsz, hd]
      refine hc.s ?_
      cases e : p s[i].toNat
      · simp
        exact hs1.1 e
      · rw [hs1.2 e]
        simp
    · have hd := decode_high hi hb
      have hc := hf (Utf8.decode ⟨s.toArray⟩ i).1 (by omega) (by omega)
      have e1 := hp (Utf8.decode ⟨s.toArray⟩ i).1 (by omega)
      have e2 := hp s[i].toNat (by omega)
      simp at hc
      simp [hsz]
      refine hc.s ?_
      rw [e1, hs1.2 e2]
      simp
  · rintro - hI
    rw [findIdx_none hI]
    have hsz : ¬ s.length < (ByteArray.mk s.toArray).size := by simp [ByteArray.size]
    simp [hsz]
theorem IndexFuncS_fn (s : List UInt8) (hs : Sh s) (p : Int → Bool) (hp : ∀ r, 128 ≤ r → p r = true) (f : FuncId) (first caps : List A)
    (hf : ∀ r, 0 ≤ r → r ≤ 1114111 → CallFn Tryz.prog f (first ++ [.dat (.int .i32 r)] ++ caps) (aB (p r))) :
    CallFn Tryz.prog 284 [aT s, .fn f first caps] (aI (idxI (s.findIdx? fun b => p b.toNat))) := by
  refine callFz_of Tryz.func284 rfl Tryz.ntmps284 (rs := [.tmp 4]) rfl (by kernel_rfl) (by simp) (by kernel_rfl) ?_
  simp
  refine (indexFuncS_fn s hs p hp f first caps hf).s ?_
  simp
theorem ContainsFuncS_fn (s : List UInt8) (hs : Sh s) (p : Int → Bool) (hp : ∀ r, 128 ≤ r → p r = true) (f : FuncId) (first caps : List A)
    (hf : ∀ r, 0 ≤ r → r ≤ 1114111 → CallFn Tryz.prog f (first ++ [.dat (.int .i32 r)] ++ caps) (aB (p r))) :
    CallFn Tryz.prog 240 [aT s, .fn f first caps] (aB (s.any fun b => p b.toNat)) := by
  refine callFz_of Tryz.func240 rfl Tryz.ntmps240 (rs := [.tmp 4]) rfl (by kernel_rfl) (by simp) (by kernel_rfl) ?_
  simp
  refine (IndexFuncS_fn s hs p hp f first caps hf).s ?_
  simp
  rw [idxI_ge, List.findIdx?_isSome]
def badR (r : Int) : Bool := decide (122 < r) || !partI r
theorem badR_fn (r : Int) (h0 : 0 ≤ r) (h1 : r ≤ 1114111) : CallFn Tryz.prog 241 [.dat (.int .i32 r)] (aB (badR r)) := by
  refine callFz_of Tryz.func241 rfl Tryz.ntmps241 (rs := [.tmp 2]) rfl (by kernel_rfl) (by simp) (by kernel_rfl) ?_
  simp [reads]
  refine ⟨by omega, GCall.fn (aB (partI r)) (fun h => ⟨by omega, part_fn r h0 (by omega)⟩) ?_⟩
  simp [reads, badR]
def wordS (s : List UInt8) : Bool := match s with
  | [] => false
  | b :: _ => decide (97 ≤ b.toNat) && decide (b.toNat ≤ 122) && s.all partB
def nameE (s : List UInt8) (seen : List (List UInt8)) : Int := if wordS s = false then 3 else if s.length > 24 then 17 else if s ∈ seen then 7 else 0
theorem badR_part (b : UInt8) : badR b.toNat = !partB b := by
  simp only [badR, partI, partB]
  have := b.toNat_lt
  rw [Bool.eq_iff_iff]
  simp
  omega
theorem all_bad (s : List UInt8) : (s.any fun b => badR b.toNat) = !s.all partB := by
  simp only [badR_part]
  induction s with
  | nil => rfl
  | cons b s ih => simp [ih]
def mapOf (names : List (List UInt8)) : List (L × L) := names.zipIdx.map fun p => (.str p.1, .int .i64 p.2)
theorem mget_of_aux (s : List UInt8) : ∀ (names : List (List UInt8)) (k : Nat), mget ((names.zipIdx k).map fun p => (L.str p.1, L.int .i64 p.2)) (.str s) = (names.findIdx? (· == s)).map fun i => .int .i64 (i + k : Nat)
  | [], _ => rfl
  | n :: ns, k => by
    simp only [List.zipIdx_cons, List.map_cons, mget, leq, List.findIdx?_cons]
    by_cases h : n = s
    · simp [h]
    · simp only [beq_iff_eq, h, if_false, mget_of_aux s ns (k + 1)]
      cases ns.findIdx? (· == s) <;> simp
      omega
theorem mget_of (names : List (List UInt8)) (s : List UInt8) : mget (mapOf names) (.str s) = (names.findIdx? (· == s)).map fun i => .int .i64 i := by
  have := mget_of_aux s names 0
  simpa [mapOf] using this
theorem mput_of_aux (s : List UInt8) (v : L) : ∀ (names : List (List UInt8)) (k : Nat), s ∉ names → mput ((names.zipIdx k).map fun p => (L.str p.1, L.int .i64 p.2)) (.str s) v = (names.zipIdx k).map (fun p => (L.str p.1, L.int .i64 p.2)) ++ [(.str s, v)]
  | [], _, _ => rfl
  | n :: ns, k, h => by
    simp only [List.mem_cons, not_or] at h
    simp only [List.zipIdx_cons, List.map_cons, mput, leq, beq_iff_eq, Ne.symm h.1, if_false, mput_of_aux s v ns (k + 1) h.2, List.cons_append]
theorem mput_of {names : List (List UInt8)} {s : List UInt8} (h : s ∉ names) : mput (mapOf names) (.str s) (.int .i64 names.length) = mapOf (names ++ [s]) := by
  have := mput_of_aux s (.int .i64 names.length) names 0 h
  simp only [mapOf, this, List.zipIdx_append, List.map_append]
  simp
@[simp] theorem mapOf_length (names : List (List UInt8)) : (mapOf names).length = names.length := by simp [mapOf]
end Go.Proofs.YtbcjnmifflflfaaGreatDoor
end

section
namespace Go.Proofs.YtbcjnmifflflfaaGreatDoor
set_option maxHeartbeats 2000000
set_option maxRecDepth 10000
abbrev chkBox (b r : Nat) (c : Control) : Nat × Ent := (32, .box b [.dat (.int .i64 c.actuators), .dat (.sl (c.inputs.map encT)), .dat (.sl (c.signals.map encS)), .dat (.sl (c.plus.map encI)), .dat (.sl (c.minus.map encI)), .map 30 r,
  .fn 181 [.ptr 32 b 0] [], .fn 182 [.ptr 32 b 0] [], .fn 183 [.ptr 32 b 0] []])
abbrev chkMap (r : Nat) (names : List (List UInt8)) : Nat × Ent := (30, .map r .string (mapOf names))
theorem cname_s (b r : Nat) (c : Control) (s : List UInt8) (hs : Sh s) (names : List (List UInt8)) (hn : names.length ≤ 1000000) : CallS Tryz.prog 185 [.ptr 32 b 0, aT s] [chkBox b r c, chkMap r names]
    fun rr H' => rr = aI (nameE s names) ∧ H' = [chkBox b r c, chkMap r (if nameE s names = 0 then names ++ [s] else names)] := by
  refine CallS.dropP (callS_of Tryz.func185 rfl Tryz.ntmps185 (rs := [.tmp 4]) rfl (by kernel_rfl) (by simp) (by kernel_rfl) (K := fun rr H' => rr = aI (nameE s names) ∧ subP [chkBox b r c, chkMap r (if nameE s names = 0 then names ++ [s] else names)] H') ?_) ?_
  · cases s with
    | nil =>
      simp [reads]
      refine GCall.fn (aB false) (by simp) ?_
      simp [nameE, wordS, subP.refl]
    | cons b0 s' =>
      simp [reads]
      refine GCall.fn (aB (!(b0 :: s').all partB)) (fun h => ⟨h, ?_⟩) ?_
      · rw [← all_bad]
        exact ContainsFuncS_fn (b0 :: s') hs badR (by intro r h; simp [badR]; omega) _ [] [] (fun r h0 h1 => by simpa using badR_fn r h0 h1)
      · simp [reads]
        have hlen : (b0 :: s').length = s'.length + 1 := rfl
        refine ⟨fun h => ?_, fun h1 h2 h3 h4 => ?_⟩
        · have e : nameE (b0 :: s') names = 3 := by
            rw [nameE, if_pos]
            simp [wordS]
            intro g1 g2 g3
            rcases h with (h | h) | h | h
            · omega
            · omega
            · rw [h] at g3; cases g3
            · exact h
          simp [e, subP.refl]
        · have hw : wordS (b0 :: s') = true := by
            simp [wordS]
            exact ⟨⟨by omega, by omega⟩, h3, h4⟩
          refine ⟨fun h5 => ?_, fun h5 => ⟨fun h6 => ?_, fun h6 => ?_⟩⟩
          · have e : nameE (b0 :: s') names = 17 := by simp [nameE, hw]; omega
            simp [e, subP.refl]
          · rw [mget_of] at h6
            have hm : (b0 :: s') ∈ names := by
              simp [List.findIdx?_isSome] at h6
              exact h6
            have e : nameE (b0 :: s') names = 7 := by simp [nameE, hw, hm]; omega
            simp [e, subP.refl]
          · rw [mget_of] at h6
            have hm : (b0 :: s') ∉ names := by
              simp at h6
              intro hm
              exact h6 _ hm rfl
            have e : nameE (b0 :: s') names = 0 := by simp [nameE, hw, hm]; omega
            refine V.draw (fun _ => none) (by kernel_rfl) (by kernel_rfl) (by simp) ?_
            simp [e]
            rw [mput_of hm]
            exact subP.refl _
  · rintro rr H' ⟨h1, h2⟩
    exact ⟨_, h2, h1, rfl⟩
mutual
def varsE : Expr → List Int
  | ⟨op, ix, args⟩ => (if op = 1 then [ix] else []) ++ varsL args
def varsL : List Expr → List Int
  | [] => []
  | x :: xs => varsE x ++ varsL xs
end
theorem varsE_eq (x : Expr) : varsE x = (if x.op = 1 then [x.index] else []) ++ varsL x.args := by cases x; simp [varsE]
theorem varsL_mem {n : Int} {y : Expr} (hn : n ∈ varsE y) : ∀ {l : List Expr}, y ∈ l → n ∈ varsL l
  | [], h => by simp at h
  | z :: l, h => by
    simp only [varsL, List.mem_append]
    rcases List.mem_cons.1 h with rfl | h
    · exact .inl hn
    · exact .inr (varsL_mem hn h)
theorem visitV_s {σ : Type} {b3 b4 : Nat} {f : FuncId} {first caps : List A} {Hc : σ → Heap} {step : σ → Int → σ} : ∀ (N : Nat) (x : Expr), SizeOf.sizeOf x < N → OkE x → ∀ (s : σ),
    (∀ s, ∀ n ∈ varsE x, CallS Tryz.prog f (first ++ aI n :: caps) (Hc s) fun _ H' => H' = Hc (step s n)) →
    CallS Tryz.prog 246 [aE x, .ptr 3 b3 0, .ptr 4 b4 0] ((4, .box b4 [.fn 246 [] [.ptr 3 b3 0, .ptr 4 b4 0]]) :: (3, .box b3 [.fn f first caps]) :: rt 1000 (Hc s))
      fun _ H' => H' = (4, .box b4 [.fn 246 [] [.ptr 3 b3 0, .ptr 4 b4 0]]) :: (3, .box b3 [.fn f first caps]) :: rt 1000 (Hc ((varsE x).foldl step s))
  | 0, _, h, _, _, _ => absurd h (Nat.not_lt_zero _)
  | N + 1, x, hN, hx, s, hf => by
    refine CallS.dropP (callS_of Tryz.func246 rfl Tryz.ntmps246 (rs := []) rfl (by kernel_rfl) (by simp) (by kernel_rfl) (K := fun _ H' => subP ((4, .box b4 [.fn 246 [] [.ptr 3 b3 0, .ptr 4 b4 0]]) :: (3, .box b3 [.fn f first caps]) :: rt 1000 (Hc ((varsE x).foldl step s))) H') ?_) (fun _ _ h => ⟨_, h, rfl⟩)
    have hset : ∃ s1 : σ, s1 = (if x.op = 1 then step s x.index else s) ∧ (varsL x.args).foldl step s1 = (varsE x).foldl step s := by
      refine ⟨_, rfl, ?_⟩
      rw [varsE_eq]
      by_cases h : x.op = 1 <;> simp [h]
    obtain ⟨s1, hs1, he⟩ := hset
    by_cases hop : x.op = 1
    all_goals simp [hop]
    · rw [if_pos hop] at hs1
      refine ((hf s x.index (by rw [varsE_eq]; simp [hop])).rt'.c1.c1).mono ?_
      rintro r H' ⟨_, ⟨_, ⟨H1, rfl, rfl⟩, rfl⟩, rfl⟩
      rw [← hs1]
      simp
      refine V.for' [2, 14, 15] (fun p => [(16, .dat (.int .i64 (p.1 : Nat)))]) (fun p => (4, .box b4 [.fn 246 [] [.ptr 3 b3 0, .ptr 4 b4 0]]) :: (3, .box b3 [.fn f first caps]) :: rt 1000 (Hc p.2))
        (fun p : Nat × σ => p.1 ≤ x.args.length ∧ (varsL (x.args.drop p.1)).foldl step p.2 = (varsE x).foldl step s) (fun p => x.args.length - p.1) (0, s1) ⟨by simp [he], by simp, subP.refl _⟩ ?_
      rintro ⟨i, s2⟩ ⟨hi, hinv⟩
      simp only at hi hinv
      have hlen := hx.len
      by_cases hlt : i < x.args.length
      · obtain ⟨y, hy1⟩ : ∃ y, x.args[i]'hlt = y := ⟨_, rfl⟩
        have hmem : y ∈ x.args := by rw [← hy1]; exact List.getElem_mem hlt
        rw [List.drop_eq_getElem_cons hlt, hy1, varsL, List.foldl_append] at hinv
        simp [hlt, hy1, encE_eq]
        intro b
        have ih := visitV_s (b3 := b3) (b4 := b4) (Hc := Hc) (step := step) (f := f) (first := first) (caps := caps) N y (by have := Expr.lt_of_mem hmem; omega) (hx.args y hmem) s2 (fun s n hn => hf s n (by rw [varsE_eq]; exact List.mem_append.2 (.inr (varsL_mem hn hmem))))
        refine ih.c1.mono ?_
        rintro r H' ⟨H2, rfl, rfl⟩
        simp
        exact ⟨by omega, i + 1, _, ⟨hlt, hinv⟩, by omega, by simp, (subP.refl _).c _⟩
      · have hie : i = x.args.length := by omega
        subst hie
        simp [varsL] at hinv
        simp [hinv]
        exact subP.refl _
    · rw [if_neg hop] at hs1
      refine V.for' [2, 14, 15] (fun p => [(16, .dat (.int .i64 (p.1 : Nat)))]) (fun p => (4, .box b4 [.fn 246 [] [.ptr 3 b3 0, .ptr 4 b4 0]]) :: (3, .box b3 [.fn f first caps]) :: rt 1000 (Hc p.2))
        (fun p : Nat × σ => p.1 ≤ x.args.length ∧ (varsL (x.args.drop p.1)).foldl step p.2 = (varsE x).foldl step s) (fun p => x.args.length - p.1) (0, s1) ⟨by simp [he], by simp, by rw [hs1]; exact subP.refl _⟩ ?_
      rintro ⟨i, s2⟩ ⟨hi, hinv⟩
      simp only at hi hinv
      have hlen := hx.len
      by_cases hlt : i < x.args.length
      · obtain ⟨y, hy1⟩ : ∃ y, x.args[i]'hlt = y := ⟨_, rfl⟩
        have hmem : y ∈ x.args := by rw [← hy1]; exact List.getElem_mem hlt
        rw [List.drop_eq_getElem_cons hlt, hy1, varsL, List.foldl_append] at hinv
        simp [hlt, hy1, encE_eq]
        intro b
        have ih := visitV_s (b3 := b3) (b4 := b4) (Hc := Hc) (step := step) (f := f) (first := first) (caps := caps) N y (by have := Expr.lt_of_mem hmem; omega) (hx.args y hmem) s2 (fun s n hn => hf s n (by rw [varsE_eq]; exact List.mem_append.2 (.inr (varsL_mem hn hmem))))
        refine ih.c1.mono ?_
        rintro r H' ⟨H2, rfl, rfl⟩
        simp
        exact ⟨by omega, i + 1, _, ⟨hlt, hinv⟩, by omega, by simp, (subP.refl _).c _⟩
      · have hie : i = x.args.length := by omega
        subst hie
        simp [varsL] at hinv
        simp [hinv]
        exact subP.refl _
theorem each_s {σ : Type} {f : FuncId} {first caps : List A} {Hc : σ → Heap} {step : σ → Int → σ} (x : Expr) (hx : OkE x) (s : σ) (hf : ∀ s, ∀ n ∈ varsE x, CallS Tryz.prog f (first ++ aI n :: caps) (Hc s) fun _ H' => H' = Hc (step s n)) :
    CallS Tryz.prog 194 [aE x, .fn f first caps] (Hc s) fun _ H' => H' = Hc ((varsE x).foldl step s) := by
  refine CallS.rt (k := 1000) (CallS.dropP (callS_of Tryz.func194 rfl Tryz.ntmps194 (rs := []) rfl (by kernel_rfl) (by simp) (by kernel_rfl) (K := fun _ H' => subP (rt 1000 (Hc ((varsE x).foldl step s))) H') ?_) ?_)
  · simp
    intro b3 b4
    refine (visitV_s (SizeOf.sizeOf x + 1) x (by omega) hx s hf).mono ?_
    rintro r H' rfl
    simp
    exact ((subP.refl _).c _).c _
  · rintro r H' h
    exact ⟨_, h, _, rfl, rfl⟩
end Go.Proofs.YtbcjnmifflflfaaGreatDoor
end

section
namespace Go.Proofs.YtbcjnmifflflfaaGreatDoor
set_option maxHeartbeats 2000000
set_option maxRecDepth 10000
def kindAt (c : Control) (k : Int) : Int := ((c.signals[k.toNat]?).map (·.kind)).getD 0
def lateStep (c : Control) (i : Int) (late : Bool) (line : Int) : Bool := late || (decide (i ≤ line - firstC c) && kindAt c (line - firstC c) == 0)
def lateC (c : Control) (i : Int) (x : Expr) : Bool := (varsE x).foldl (lateStep c i) false
theorem gate1_s (b r b2 b5 b6 : Nat) (c : Control) (h : Sm c) (s5 : List A) (i : Int) (h0 : 0 ≤ i ∧ i < c.signals.length) (late : Bool) (line : Int) (hl : 0 ≤ line ∧ line < countC c) :
    CallS Tryz.prog 238 [aI line, .ptr 2 b2 0, .ptr 6 b6 0, .rptr [.int .i64 i]] [(6, .box b6 [.dat (.bool late)]), (5, .box b5 s5), (2, .box b2 [.ptr 32 b 0]), chkBox b r c]
      fun _ H' => H' = [(6, .box b6 [.dat (.bool (lateStep c i late line))]), (5, .box b5 s5), (2, .box b2 [.ptr 32 b 0]), chkBox b r c] := by
  have hs := h
  obtain ⟨g1, g2, g3⟩ := h
  have hcn : countC c = firstC c + c.signals.length := rfl
  have hfc : firstC c = 2 * c.actuators + c.inputs.length := rfl
  refine CallS.dropP (callS_of Tryz.func238 rfl Tryz.ntmps238 (rs := []) rfl (by kernel_rfl) (by simp) (by kernel_rfl) (K := fun _ H' => subP [(6, .box b6 [.dat (.bool (lateStep c i late line))]), (5, .box b5 s5), (2, .box b2 [.ptr 32 b 0]), chkBox b r c] H') ?_) (fun _ _ h => ⟨_, h, rfl⟩)
  simp
  refine (first_fn c hs).s ?_
  simp
  refine ⟨by omega, ?_⟩
  obtain ⟨y, hy⟩ : ∃ y, c.signals[(line - firstC c).toNat]? = some y := ⟨_, List.getElem?_eq_getElem (by omega)⟩
  by_cases hk : i ≤ line - firstC c
  · simp [hk, hy]
    refine ⟨fun h => ⟨h, by omega, by omega⟩, ?_⟩
    have e : lateStep c i late line = (late || y.kind == 0) := by simp [lateStep, hk, kindAt, hy]
    rw [e]
    exact subP.refl _
  · simp [hk, hy]
    have e : lateStep c i late line = late := by simp [lateStep, hk]
    rw [e]
    exact subP.refl _
abbrev sigA (s : Signal) : List A := [.dat (.str s.name), .dat (.int .i64 s.kind), .dat (.int .i64 s.on.op), .dat (.int .i64 s.on.index), .dat (.sl (s.on.args.map encE)), .dat (.int .i64 s.off.op), .dat (.int .i64 s.off.index), .dat (.sl (s.off.args.map encE)), .dat (.int .i64 s.delay), .dat (.bool s.init)]
def gateE (c : Control) (i : Int) (s : Signal) : Int := if lateC c i s.on then 9 else if !zeroE s.off || s.init || s.delay != 0 then 3 else 0
def memE (c : Control) (s : Signal) : Int := if checkE s.off (countC c) ≠ 0 then checkE s.off (countC c) else if s.delay ≠ 0 then 3 else 0
def timE (s : Signal) : Int := if s.delay < 1 ∨ s.delay > 1000000 then 2 else if !zeroE s.off || s.init then 3 else 0
theorem gate_s (b r : Nat) (c : Control) (h : Sm c) (i : Nat) (s : Signal) (hi : c.signals[i]? = some s) (hx : OkS s) (hv : ∀ n ∈ varsE s.on, 0 ≤ n ∧ n < countC c) : CallS Tryz.prog 181 [.ptr 32 b 0, aI i] [chkBox b r c] fun rr H' => rr = aI (gateE c i s) ∧ H' = [chkBox b r c] := by
  have hs := h
  obtain ⟨g1, g2, g3⟩ := h
  obtain ⟨hlt, hy1⟩ := List.getElem?_eq_some_iff.1 hi
  refine CallS.dropP (callS_of Tryz.func181 rfl Tryz.ntmps181 (rs := [.tmp 4]) rfl (by kernel_rfl) (by simp) (by kernel_rfl) (K := fun rr H' => rr = aI (gateE c i s) ∧ subP [chkBox b r c] H') ?_) (fun _ _ h => ⟨_, h.2, h.1, rfl⟩)
  simp
  intro b2
  refine V.draw (fun _ => none) (by kernel_rfl) (by kernel_rfl) (by simp) ?_
  simp [hy1, hlt]
  intro b5 b6
  refine (each_s (σ := Bool) (f := 238) (first := []) (caps := [.ptr 2 b2 0, .ptr 6 b6 0, .rptr [.int .i64 i]]) (Hc := fun late => [(6, .box b6 [.dat (.bool late)]), (5, .box b5 (sigA s)), (2, .box b2 [.ptr 32 b 0]), chkBox b r c]) (step := lateStep c i) s.on hx.on false (fun late n hn => by simpa using gate1_s b r b2 b5 b6 c hs (sigA s) i ⟨by omega, by omega⟩ late n (hv n hn))).mono ?_
  rintro rr H' rfl
  simp
  have e : lateC c i s.on = (varsE s.on).foldl (lateStep c i) false := rfl
  rw [← e]
  cases hlate : lateC c i s.on
  · simp
    refine (zero_fn s.off).s ?_
    simp [gateE, hlate]
    have hsub : subP [chkBox b r c] [(6, .box b6 [.dat (.bool false)]), (5, .box b5 (sigA s)), (2, .box b2 [.ptr 32 b 0]), chkBox b r c] := (((subP.refl _).c _).c _).c _
    refine ⟨fun h => ⟨fun h1 h2 h3 => ?_, hsub⟩, fun h1 h2 h3 => ⟨⟨⟨h1, h2⟩, h3⟩, hsub⟩⟩
    rcases h with (h | h) | h <;> simp_all
  · simp [gateE, hlate]
    exact (((subP.refl _).c _).c _).c _
theorem memory_s (b r : Nat) (c : Control) (h : Sm c) (i : Nat) (s : Signal) (hi : c.signals[i]? = some s) (hx : OkS s) : CallS Tryz.prog 182 [.ptr 32 b 0, aI i] [chkBox b r c] fun rr H' => rr = aI (memE c s) ∧ H' = [chkBox b r c] := by
  obtain ⟨hlt, hy1⟩ := List.getElem?_eq_some_iff.1 hi
  refine CallS.dropP (callS_of Tryz.func182 rfl Tryz.ntmps182 (rs := [.tmp 4]) rfl (by kernel_rfl) (by simp) (by kernel_rfl) (K := fun rr H' => rr = aI (memE c s) ∧ subP [chkBox b r c] H') ?_) (fun _ _ h => ⟨_, h.2, h.1, rfl⟩)
  simp
  refine V.draw (fun t => if t = 19 then some (.fn (aI (countC c))) else if t = 20 then some (.fn (aI (checkE s.off (countC c)))) else none) (by kernel_rfl) (by kernel_rfl) (by simp) ?_
  have e1 := count_c c h
  have e2 := check_fn s.off hx.off (countC c)
  simp [hy1, hlt] at e1 e2 ⊢
  refine ⟨e1, e2, fun hc => ?_, fun hc => ⟨fun hd => ?_, fun hd => ?_⟩⟩
  · simp [memE, hc, subP.refl]
  · simp [memE, hc, hd, subP.refl]
  · simp [memE, hc, hd, subP.refl]
theorem timer_s (b r : Nat) (c : Control) (i : Nat) (s : Signal) (hi : c.signals[i]? = some s) (hx : OkS s) : CallS Tryz.prog 183 [.ptr 32 b 0, aI i] [chkBox b r c] fun rr H' => rr = aI (timE s) ∧ H' = [chkBox b r c] := by
  obtain ⟨hlt, hy1⟩ := List.getElem?_eq_some_iff.1 hi
  refine CallS.dropP (callS_of Tryz.func183 rfl Tryz.ntmps183 (rs := [.tmp 4]) rfl (by kernel_rfl) (by simp) (by kernel_rfl) (K := fun rr H' => rr = aI (timE s) ∧ subP [chkBox b r c] H') ?_) (fun _ _ h => ⟨_, h.2, h.1, rfl⟩)
  simp [hy1, hlt]
  intro b5
  have hsub : ∀ l, subP [chkBox b r c] [(5, .box b5 l), chkBox b r c] := fun l => (subP.refl _).c _
  refine ⟨fun hd => ?_, fun h1 h2 => ?_⟩
  · simp [timE, hsub]
    omega
  · refine (zero_fn s.off).s ?_
    cases hz : zeroE s.off <;> cases hi2 : s.init <;> simp [timE, hz, hi2, hsub] <;> omega
def signalE (c : Control) (i : Int) (s : Signal) (names : List (List UInt8)) : Int :=
  if nameE s.name names ≠ 0 then nameE s.name names
  else if s.kind < 0 ∨ s.kind ≥ 3 then 1
  else if checkE s.on (countC c) ≠ 0 then checkE s.on (countC c)
  else if s.kind = 0 then gateE c i s else if s.kind = 1 then memE c s else timE s
theorem signal_s (b r : Nat) (c : Control) (h : Sm c) (i : Nat) (s : Signal) (hi : c.signals[i]? = some s) (hx : OkS s) (names : List (List UInt8)) (hn : names.length ≤ 1000000) (hv : checkE s.on (countC c) = 0 → ∀ n ∈ varsE s.on, 0 ≤ n ∧ n < countC c) :
    CallS Tryz.prog 186 [.ptr 32 b 0, aI i] [chkBox b r c, chkMap r names] fun rr H' => rr = aI (signalE c i s names) ∧ H' = [chkBox b r c, chkMap r (if nameE s.name names = 0 then names ++ [s.name] else names)] := by
  obtain ⟨hlt, hy1⟩ := List.getElem?_eq_some_iff.1 hi
  refine CallS.dropP (callS_of Tryz.func186 rfl Tryz.ntmps186 (rs := [.tmp 4]) rfl (by kernel_rfl) (by simp) (by kernel_rfl) (K := fun rr H' => rr = aI (signalE c i s names) ∧ subP [chkBox b r c, chkMap r (if nameE s.name names = 0 then names ++ [s.name] else names)] H') ?_) (fun _ _ h => ⟨_, h.2, h.1, rfl⟩)
  simp [hy1, hlt]
  intro b5
  refine (cname_s b r c s.name hx.name names hn).c1.mono ?_
  rintro rr H' ⟨_, ⟨rfl, rfl⟩, rfl⟩
  by_cases hne : nameE s.name names = 0
  · have hsub : ∀ l, subP [chkBox b r c, chkMap r (names ++ [s.name])] [(5, .box b5 l), chkBox b r c, chkMap r (names ++ [s.name])] := fun l => (subP.refl _).c _
    simp [hne]
    refine ⟨fun hk => ?_, fun hk0 hk3 => ?_⟩
    · simp [signalE, hne, hsub]
      omega
    · refine V.draw (fun t => if t = 37 then some (.fn (aI (countC c))) else if t = 38 then some (.fn (aI (checkE s.on (countC c)))) else none) (by kernel_rfl) (by kernel_rfl) (by simp) ?_
      have e1 := count_c c h
      have e2 := check_fn s.on hx.on (countC c)
      simp at e1 e2 ⊢
      refine ⟨e1, e2, fun hc => ?_, fun hc => ?_⟩
      · simp [signalE, hne, hc, hsub, Int.not_lt.2 hk0]
        omega
      · obtain hk | hk | hk : s.kind = 0 ∨ s.kind = 1 ∨ s.kind = 2 := by omega
        · have e : signalE c i s names = gateE c i s := by simp [signalE, hne, hc, hk]
          refine V.draw (fun t => if t = 50 then some (.ro (aI (signalE c i s names))) else none) (by kernel_rfl) (by kernel_rfl) (by simp) ?_
          simp [hk, hsub]
          rw [e]
          exact ⟨gate_s b r c h i s hi hx (hv hc), by rw [if_pos hne]; exact hsub _⟩
        · have e : signalE c i s names = memE c s := by simp [signalE, hne, hc, hk]
          refine V.draw (fun t => if t = 50 then some (.ro (aI (signalE c i s names))) else none) (by kernel_rfl) (by kernel_rfl) (by simp) ?_
          simp [hk, hsub]
          rw [e]
          exact ⟨memory_s b r c h i s hi hx, by rw [if_pos hne]; exact hsub _⟩
        · have e : signalE c i s names = timE s := by simp [signalE, hne, hc, hk]
          refine V.draw (fun t => if t = 50 then some (.ro (aI (signalE c i s names))) else none) (by kernel_rfl) (by kernel_rfl) (by simp) ?_
          simp [hk, hsub]
          rw [e]
          exact ⟨timer_s b r c i s hi hx, by rw [if_pos hne]; exact hsub _⟩
  · have hsub : ∀ l, subP [chkBox b r c, chkMap r names] [(5, .box b5 l), chkBox b r c, chkMap r names] := fun l => (subP.refl _).c _
    simp [hne, signalE, hsub]
end Go.Proofs.YtbcjnmifflflfaaGreatDoor
end

section
namespace Go.Proofs.YtbcjnmifflflfaaGreatDoor
set_option maxHeartbeats 2000000
set_option maxRecDepth 10000
theorem grow_o (n : Int) (h0 : 0 ≤ n) (h1 : n ≤ 4294967296) : CallOwn Tryz.prog 243 [.nils, aI n] 3 1 [] := by
  refine callO_of Tryz.func243 rfl Tryz.ntmps243 (rs := [.tmp 4]) rfl (by kernel_rfl) (by simp) (by kernel_rfl) ?_
  by_cases hn : 0 < n
  · simp [hn, Int.not_lt.2 h0]
    omega
  · have e : n = 0 := by omega
    subst e
    simp
def sumL (xss : List (List Int)) : Nat := (xss.map List.length).sum
theorem concat_o (xss : List (List Int)) (h : sumL xss ≤ 4294967296) (h1 : xss.length ≤ 4294967296) : CallOwn Tryz.prog 187 [.dat (.sl (xss.map fun xs => [.sl (xs.map encI)]))] 3 1 (xss.flatten.map rI) := by
  refine callO_of Tryz.func187 rfl Tryz.ntmps187 (rs := [.tmp 2]) rfl (by kernel_rfl) (by simp) (by kernel_rfl) ?_
  have hle : ∀ i, (xss.take i).flatten.length ≤ sumL xss := by
    intro i
    have e : xss = xss.take i ++ xss.drop i := (List.take_append_drop i xss).symm
    have : sumL xss = sumL (xss.take i) + sumL (xss.drop i) := by
      unfold sumL
      conv => lhs; rw [e]
      rw [List.map_append, List.sum_append]
    rw [List.length_flatten]
    unfold sumL at this ⊢
    omega
  have hst : ∀ i y, xss[i]? = some y → (xss.take (i + 1)).flatten = (xss.take i).flatten ++ y := by
    intro i y hy
    rw [List.take_add_one, hy]
    simp
  obtain ⟨L, hL⟩ : ∃ L : Nat → Nat, ∀ i, L i = (xss.take i).flatten.length := ⟨_, fun _ => rfl⟩
  have hL0 : L 0 = 0 := by simp [hL]
  have hLs : ∀ i y, xss[i]? = some y → L (i + 1) = L i + y.length := by
    intro i y hy
    rw [hL, hL, hst i y hy, List.length_append]
  have hLm : ∀ i, L i ≤ sumL xss := fun i => by rw [hL]; exact hle i
  simp
  refine V.forI (σ := Unit) xss.length [0, 2, 9, 10] (by simp; exact rfl) (fun i _ => [(11, aI i), (3, aI (L i))]) (fun _ _ => []) (fun _ _ => True) () (by simp) (by simp [hL0]) ⟨by simp; exact rfl, by simp⟩ ?_ ?_
  · rintro i - hi -
    have hy := List.getElem?_eq_getElem hi
    have hs := hLs i _ hy
    have hl := hLm (i + 1)
    simp [hi, hs]
    omega
  · rintro - -
    have hl := hLm xss.length
    simp
    refine (grow_o _ (by omega) (by omega)).s 50 ?_
    intro hd
    simp
    refine V.forL (γ := Value) xss [2, 25, 26] (by simp; exact rfl) (fun i _ g => [(27, aI i), (6, .own 50 g)]) (fun i _ g => [(50, .seq g 3 1 ((xss.take i).flatten.map rI))]) (fun (_ : Unit) (_ : List Int) => (Except.ok () : Except Unit Unit)) (fun _ _ => True) () hd trivial (by simp) ⟨by simp; exact rfl, by simp⟩ ?_ ?_
    · rintro i - g y hi hy - -
      have hy' : xss[i]? = some y := by rw [List.getElem?_eq_getElem hi, hy]
      have hs := hst i _ hy'
      have hl2 := hle (i + 1)
      rw [hs, List.length_append] at hl2
      rw [hs]
      generalize (xss.take i).flatten = zs at hl2
      simp [hi, hy]
      omega
    · rintro - g - -
      simp
theorem rowsD_I (xs : List Int) : rowsD (xs.map rI) = xs.map encI := by unfold rowsD; rw [List.map_map]; rfl
theorem rowsD_B (xs : List Bool) : rowsD (xs.map rB) = xs.map encB := by unfold rowsD; rw [List.map_map]; rfl
theorem allD_I (xs : List Int) : allD (xs.map rI) = true := by simp [allD, isD]
theorem allD_B (xs : List Bool) : allD (xs.map rB) = true := by simp [allD, isD]
attribute [simp] rowsD_I rowsD_B allD_I allD_B
theorem concat_fn (xss : List (List Int)) (h : sumL xss ≤ 4294967296) (h1 : xss.length ≤ 4294967296) : CallFn Tryz.prog 187 [.dat (.sl (xss.map fun xs => [.sl (xs.map encI)]))] (aIs xss.flatten) := by
  have := (concat_o xss h h1).fn (by simp [allD, isD])
  rwa [rowsD_I] at this
def firstErr {ι : Type} (f : ι → Int) : List ι → Int
  | [] => 0
  | x :: xs => if f x ≠ 0 then f x else firstErr f xs
def NoE (f : Nat → Int) (n : Nat) : Prop := ∀ j, j < n → f j = 0
theorem NoE.zero (f : Nat → Int) : NoE f 0 := fun j h => absurd h (Nat.not_lt_zero j)
theorem NoE.succ {f : Nat → Int} {n : Nat} (h : NoE f n) (e : f n = 0) : NoE f (n + 1) := fun j hj => by
  rcases Nat.lt_or_ge j n with h1 | h1
  · exact h j h1
  · obtain rfl : j = n := by omega
    exact e
theorem firstErr_app {ι : Type} (f : ι → Int) : ∀ (l r : List ι), (∀ x ∈ l, f x = 0) → firstErr f (l ++ r) = firstErr f r
  | [], _, _ => rfl
  | x :: l, r, h => by
    simp only [List.cons_append, firstErr, h x (by simp), ne_eq, not_true_eq_false, if_false]
    exact firstErr_app f l r fun y hy => h y (by simp [hy])
theorem firstErr_at {f : Nat → Int} {n i : Nat} (h : NoE f i) (hi : i < n) (e : f i ≠ 0) : firstErr f (List.range n) = f i := by
  have e1 : List.range n = List.range i ++ (i :: (List.range n).drop (i + 1)) := by
    have h1 := List.take_append_drop i (List.range n)
    rw [List.take_range, Nat.min_eq_left (by omega)] at h1
    rw [← h1]
    congr 1
    rw [h1, List.drop_eq_getElem_cons (by simpa using hi)]
    simp
  rw [e1, firstErr_app f _ _ (fun x hx => h x (by simpa using hx))]
  simp [firstErr, e]
theorem firstErr_all {f : Nat → Int} {n : Nat} (h : NoE f n) : firstErr f (List.range n) = 0 := by
  have := firstErr_app f (List.range n) [] (fun x hx => h x (by simpa using hx))
  simpa [firstErr] using this
theorem firstErr_zero {f : Nat → Int} : ∀ {n : Nat}, firstErr f (List.range n) = 0 → NoE f n := by
  intro n h j hj
  by_cases hz : f j = 0
  · exact hz
  · -- the least index with an error
    have hex : ∃ k, k ≤ j ∧ f k ≠ 0 ∧ NoE f k := by
      clear h hj n
      induction j using Nat.strongRecOn with
      | ind j ih =>
        by_cases hn : NoE f j
        · exact ⟨j, Nat.le_refl _, hz, hn⟩
        · simp only [NoE, Classical.not_forall] at hn
          obtain ⟨m, hm, hmz⟩ := hn
          obtain ⟨k, h1, h2, h3⟩ := ih m hm hmz
          exact ⟨k, by omega, h2, h3⟩
    obtain ⟨k, h1, h2, h3⟩ := hex
    rw [firstErr_at h3 (by omega) h2] at h
    exact absurd h h2
def namesB (c : Control) (n : Nat) : List (List UInt8) := (List.range n).map fun k : Nat => namedC c k
theorem namesB_succ (c : Control) (n : Nat) : namesB c (n + 1) = namesB c n ++ [namedC c n] := by simp [namesB, List.range_succ]
@[simp] theorem namesB_length (c : Control) (n : Nat) : (namesB c n).length = n := by simp [namesB]
def inpE (c : Control) (i : Nat) : Int := nameE (namedC c (2 * c.actuators.toNat + i : Nat)) (namesB c (2 * c.actuators.toNat + i))
def sigE (c : Control) (i : Nat) : Int := match c.signals[i]? with
  | some s => signalE c i s (namesB c (2 * c.actuators.toNat + c.inputs.length + i))
  | none => 0
def pilotE (c : Control) : Int :=
  if (c.plus.length : Int) ≠ c.actuators ∨ (c.minus.length : Int) ≠ c.actuators then 8
  else if (c.plus ++ c.minus).any (fun l => decide (l < 0) || decide (countC c ≤ l)) then 6 else 0
def checkC (c : Control) : Int :=
  if c.actuators < 1 ∨ c.actuators > 6 then 2
  else if c.inputs.length > 16 ∨ c.signals.length > 64 then 5
  else if firstErr (inpE c) (List.range c.inputs.length) ≠ 0 then firstErr (inpE c) (List.range c.inputs.length)
  else if firstErr (sigE c) (List.range c.signals.length) ≠ 0 then firstErr (sigE c) (List.range c.signals.length)
  else pilotE c
theorem lineName_eq (k : Nat) (hk : k < 12) : lineName k = [UInt8.ofNat (97 + k / 2), UInt8.ofNat (48 + k % 2)] := by
  unfold lineName
  have ed : Int.tdiv (k : Int) 2 = ((k / 2 : Nat) : Int) := by rw [Int.tdiv_eq_ediv_of_nonneg (by omega)]; rfl
  have em : Int.tmod (k : Int) 2 = ((k % 2 : Nat) : Int) := by rw [Int.tmod_eq_emod_of_nonneg (by omega)]; rfl
  rw [ed, em, encU_ascii (by omega) (by omega), encU_ascii (by omega) (by omega)]
  simp only [List.singleton_append, List.cons.injEq, and_true]
  constructor <;> congr 1
theorem lineName_inj {j k : Nat} (hj : j < 12) (hk : k < 12) (h : lineName j = lineName k) : j = k := by
  rw [lineName_eq j hj, lineName_eq k hk] at h
  simp only [List.cons.injEq, and_true] at h
  obtain ⟨h1, h2⟩ := h
  have e1 := congrArg UInt8.toNat h1
  have e2 := congrArg UInt8.toNat h2
  simp only [UInt8.toNat_ofNat'] at e1 e2
  omega
theorem named_line {c : Control} {k : Nat} (h : (k : Int) < 2 * c.actuators) : namedC c k = lineName k := by
  unfold namedC; rw [if_pos h]
theorem closure1_fn (c : Control) (h : Sm c) (n : Int) : CallFn Tryz.prog 188 [aI n, .rptr (encC c)] (aB (decide (n < 0) || decide (countC c ≤ n))) := by
  refine callFz_of Tryz.func188 rfl Tryz.ntmps188 (rs := [.tmp 3]) rfl (by kernel_rfl) (by simp) (by kernel_rfl) ?_
  simp
  refine GCall.fn (aI (countC c)) (fun hn => ⟨by omega, count_c c h⟩) ?_
  simp
end Go.Proofs.YtbcjnmifflflfaaGreatDoor
end

section
namespace Go.Proofs.YtbcjnmifflflfaaGreatDoor
set_option maxHeartbeats 4000000
set_option maxRecDepth 10000
theorem vars_right {n : Int} : ∀ (N : Nat) (x : Expr), SizeOf.sizeOf x < N → RightE n x → ∀ k ∈ varsE x, 0 ≤ k ∧ k < n
  | 0, _, h, _, _, _ => absurd h (Nat.not_lt_zero _)
  | N + 1, x, hN, hr, k, hk => by
    rw [varsE_eq] at hk
    rcases List.mem_append.1 hk with hk | hk
    · split at hk
      · rename_i hop
        simp only [List.mem_singleton] at hk
        subst hk
        have := hr.node
        unfold nodeR at this
        simp only [hop] at this
        split at this <;> try omega
        split at this <;> try omega
        simp at this
        omega
      · simp at hk
    · have hL : ∀ l : List Expr, (∀ y ∈ l, y ∈ x.args) → k ∈ varsL l → 0 ≤ k ∧ k < n := by
        intro l
        induction l with
        | nil => intro _ h; simp [varsL] at h
        | cons y l ih =>
          intro hl h
          simp only [varsL, List.mem_append] at h
          rcases h with h | h
          · have hm := hl y (by simp)
            exact vars_right N y (by have := Expr.lt_of_mem hm; omega) (hr.args y hm) k h
          · exact ih (fun z hz => hl z (by simp [hz])) h
      exact hL x.args (fun _ h => h) hk
theorem vars_check {x : Expr} {n : Int} (h : checkE x n = 0) : ∀ k ∈ varsE x, 0 ≤ k ∧ k < n := vars_right (SizeOf.sizeOf x + 1) x (by omega) (right_of_check h).1
theorem line_notin {c : Control} {k : Nat} (h : (k : Int) < 2 * c.actuators) (ha : c.actuators ≤ 6) : namedC c k ∉ namesB c k := by
  intro hm
  obtain ⟨j, hj, e⟩ := List.mem_map.1 hm
  simp only [List.mem_range] at hj
  rw [named_line (c := c) (k := j) (by omega), named_line h] at e
  have := lineName_inj (by omega) (by omega) e
  omega
theorem check_s (c : Control) (hc : OkC c) : CallS Tryz.prog 107 [aC c] [] fun r H' => (checkC c = 0 → ∃ m, r = .tuple [.map 30 m, aI 0] ∧ H' = [chkMap m (namesB c (countC c).toNat)]) ∧ (checkC c ≠ 0 → r = .tuple [.any, aI (checkC c)] ∧ H' = []) := by
  refine CallS.dropP (callS_of Tryz.func107 rfl Tryz.ntmps107 (rs := [.tmp 2, .tmp 3]) rfl (by kernel_rfl) (by simp) (by kernel_rfl) (K := fun r H' => (checkC c = 0 → ∃ m, r = .tuple [.map 30 m, aI 0] ∧ subP [chkMap m (namesB c (countC c).toNat)] H') ∧ (checkC c ≠ 0 → r = .tuple [.any, aI (checkC c)])) ?_) ?_
  · by_cases ha : c.actuators < 1 ∨ c.actuators > 6
    · have e : checkC c = 2 := by simp [checkC, ha]
      rw [e]
      simp
      intro h1 h2
      omega
    · have ha' : 1 ≤ c.actuators ∧ c.actuators ≤ 6 ∧ ¬ c.actuators < 1 ∧ ¬ 6 < c.actuators := by omega
      by_cases hm : c.inputs.length > 16 ∨ c.signals.length > 64
      · have e : checkC c = 5 := by simp only [checkC]; rw [if_neg ha, if_pos hm]
        rw [e]
        simp [ha'.1, ha'.2]
        intro h1 h2
        omega
      · have hsm : Sm c := ⟨by omega, by omega, by omega⟩
        obtain ⟨N, hN⟩ : ∃ N : Nat, c.actuators = N := ⟨c.actuators.toNat, by omega⟩
        have hNN : c.actuators.toNat = N := by omega
        have hm' : (c.inputs.length : Int) ≤ 16 ∧ (c.signals.length : Int) ≤ 64 ∧ ¬ 16 < (c.inputs.length : Int) ∧ ¬ 64 < (c.signals.length : Int) := by omega
        have hcn : countC c = 2 * c.actuators + c.inputs.length + c.signals.length := rfl
        have e : checkC c = if firstErr (inpE c) (List.range c.inputs.length) ≠ 0 then firstErr (inpE c) (List.range c.inputs.length)
            else if firstErr (sigE c) (List.range c.signals.length) ≠ 0 then firstErr (sigE c) (List.range c.signals.length) else pilotE c := by
          simp only [checkC]; rw [if_neg ha, if_neg hm]
        simp [ha'.1, ha'.2, hm'.1, hm'.2]
        intro m b
        refine ⟨by omega, ?_⟩
        refine V.forI (σ := Unit) (2 * N) [1, 2, 3, 4, 45] (by simp; exact rfl) (fun i _ => [(46, aI i)]) (fun i _ => [chkMap m (namesB c i)]) (fun _ _ => True) () trivial (by simp) ⟨by simp; exact rfl, by simp [namesB, mapOf]⟩ ?_ ?_
        · rintro i - hi -
          have hin : (i : Int) < 2 * c.actuators := by omega
          simp [hin]
          refine V.draw (fun t => if t = 55 then some (.fn (aT (namedC c i))) else none) (by kernel_rfl) (by kernel_rfl) (by simp) ?_
          have e1 := named_fn c hsm ⟨by omega, by omega⟩ i (by omega) (by omega)
          have e2 := mput_of (line_notin (c := c) (k := i) hin (by omega))
          simp at e1 e2 ⊢
          rw [e2, ← namesB_succ]
          exact ⟨e1, by omega, rfl⟩
        · rintro - -
          have hin : ¬ ((N : Int) < c.actuators) ∧ c.actuators ≤ N := by omega
          simp [hin.1, hin.2]
          refine V.forI (σ := Unit) c.inputs.length [1, 4, 59, 60] (by simp; exact rfl) (fun i _ => [(61, aI i)]) (fun i _ => [chkMap m (namesB c (2 * N + i))]) (fun i _ => NoE (inpE c) i) () (NoE.zero _) (by simp) ⟨by simp; exact rfl, by simp⟩ ?_ ?_
          · rintro i - hi hI
            obtain ⟨y, hy⟩ : ∃ y, c.inputs[i] = y := ⟨_, rfl⟩
            have hn : namedC c (2 * N + i : Nat) = y := by
              refine named_inp (by omega) (by simp only [firstC]; omega) ?_
              rw [← hy, show ((2 * N + i : Nat) - 2 * c.actuators : Int).toNat = i by omega]
              exact List.getElem?_eq_getElem hi
            have hin : inpE c i = nameE y (namesB c (2 * N + i)) := by rw [inpE, hNN, hn]
            simp [hi, hy]
            refine ((cname_s b m c y (hc.names y (hy ▸ List.getElem_mem hi)) (namesB c (2 * N + i)) (by simp; omega)).perm (List.Perm.swap _ _ _)).mono ?_
            rintro rr H' ⟨rfl, rfl⟩
            rw [← hin]
            by_cases hz : inpE c i = 0
            · have hs := namesB_succ c (2 * N + i)
              rw [hn] at hs
              simp [hz]
              exact ⟨by omega, hI.succ hz, by rw [← hs]; rfl⟩
            · have hf := firstErr_at hI hi hz
              have e' : checkC c = inpE c i := by rw [e, hf, if_pos hz]
              simp [hz, e']
          · rintro - hI
            have hf := firstErr_all hI
            rw [hf] at e
            simp at e
            simp
            refine V.forI (σ := Unit) c.signals.length [1, 4, 74] (by simp; exact rfl) (fun i _ => [(75, aI i)]) (fun i _ => [chkMap m (namesB c (2 * N + c.inputs.length + i))]) (fun i _ => NoE (sigE c) i) () (NoE.zero _) (by simp) ⟨by simp; exact rfl, by simp⟩ ?_ ?_
            · rintro i - hi hI2
              obtain ⟨y, hy⟩ : ∃ y, c.signals[i] = y := ⟨_, rfl⟩
              have hyo : c.signals[i]? = some y := by rw [List.getElem?_eq_getElem hi, hy]
              have hn : namedC c (2 * N + c.inputs.length + i : Nat) = y.name := by
                refine named_sig (s := y) (by simp only [firstC]; omega) (by simp only [firstC]; omega) ?_
                rw [show ((2 * N + c.inputs.length + i : Nat) - firstC c : Int).toNat = i by simp only [firstC]; omega]
                exact hyo
              have hsE : sigE c i = signalE c i y (namesB c (2 * N + c.inputs.length + i)) := by simp only [sigE, hyo, hNN]
              simp [hi]
              refine ((signal_s b m c hsm i y hyo (hc.sigs y (hy ▸ List.getElem_mem hi)) (namesB c (2 * N + c.inputs.length + i)) (by simp; omega) (fun h => vars_check h)).perm (List.Perm.swap _ _ _)).mono ?_
              rintro rr H' ⟨rfl, rfl⟩
              rw [← hsE]
              by_cases hz : sigE c i = 0
              · have hs := namesB_succ c (2 * N + c.inputs.length + i)
                rw [hn] at hs
                have hne : nameE y.name (namesB c (2 * N + c.inputs.length + i)) = 0 := by
                  rw [hsE] at hz
                  by_cases h0 : nameE y.name (namesB c (2 * N + c.inputs.length + i)) = 0
                  · exact h0
                  · simp [signalE, h0] at hz
                simp [hz, hne]
                exact ⟨by omega, hI2.succ hz, by rw [← hs]; rfl⟩
              · have hf := firstErr_at hI2 hi hz
                have e' : checkC c = sigE c i := by rw [e, hf, if_neg hz]
                simp [hz, e']
            · rintro - hI2
              have hf := firstErr_all hI2
              rw [hf] at e
              simp at e
              by_cases hpl : (c.plus.length : Int) ≠ c.actuators ∨ (c.minus.length : Int) ≠ c.actuators
              · have e' : checkC c = 8 := by rw [e, pilotE, if_pos hpl]
                rw [e']
                simp
                intro h1 h2
                omega
              · have h1 : (c.plus.length : Int) = c.actuators := by omega
                have h2 : (c.minus.length : Int) = c.actuators := by omega
                have e' : checkC c = if (c.plus ++ c.minus).any (fun l => decide (l < 0) || decide (countC c ≤ l)) then 6 else 0 := by rw [e, pilotE, if_neg hpl]
                have hcc := concat_fn [c.plus, c.minus] (by simp [sumL]; omega) (by simp)
                simp at hcc
                simp [h1, h2]
                refine hcc.s ?_
                simp
                refine (containsF_fn (c.plus ++ c.minus) (fun l => decide (l < 0) || decide (countC c ≤ l)) 188 [] [.rptr (encC c)] (by simp; omega) (fun n _ => by simpa using closure1_fn c hsm n)).s ?_
                cases hany : (c.plus ++ c.minus).any (fun l => decide (l < 0) || decide (countC c ≤ l))
                · rw [hany] at e'
                  simp at e'
                  rw [e']
                  simp
                  rw [show (countC c).toNat = 2 * N + c.inputs.length + c.signals.length by omega]
                  exact ⟨_, List.singleton_sublist.2 (List.mem_cons_self), List.Perm.refl _⟩
                · rw [hany] at e'
                  simp at e'
                  rw [e']
                  simp
  · rintro r H' ⟨h1, h2⟩
    by_cases hz : checkC c = 0
    · obtain ⟨m, e1, e2⟩ := h1 hz
      exact ⟨_, e2, fun _ => ⟨m, e1, rfl⟩, fun h => absurd hz h⟩
    · exact ⟨[], ⟨[], List.nil_sublist _, List.Perm.refl _⟩, fun h => absurd h hz, fun _ => ⟨h2 hz, rfl⟩⟩
theorem Check_fn (c : Control) (hc : OkC c) : CallFn Tryz.prog 52 [aC c] (aI (checkC c)) := by
  refine callFz_of Tryz.func52 rfl Tryz.ntmps52 (rs := [.tmp 2]) rfl (by kernel_rfl) (by simp) (by kernel_rfl) ?_
  simp
  refine (CallS.frame (H1 := []) (check_s c hc)).mono ?_
  rintro r H' ⟨H2, ⟨h1, h2⟩, rfl⟩
  by_cases hz : checkC c = 0
  · obtain ⟨m, rfl, rfl⟩ := h1 hz
    simp [hz]
  · obtain ⟨rfl, rfl⟩ := h2 hz
    simp
end Go.Proofs.YtbcjnmifflflfaaGreatDoor
end

section
namespace Go.Proofs.YtbcjnmifflflfaaGreatDoor
set_option maxHeartbeats 1000000
mutual
def szE : Expr → Nat
  | ⟨_, _, args⟩ => 1 + szL args
def szL : List Expr → Nat
  | [] => 0
  | x :: xs => szE x + szL xs
end
mutual
def dpE : Expr → Nat
  | ⟨_, _, args⟩ => 1 + dpL args
def dpL : List Expr → Nat
  | [] => 0
  | x :: xs => max (dpE x) (dpL xs)
end
theorem szE_eq (x : Expr) : szE x = 1 + szL x.args := by cases x; simp [szE]
theorem dpE_eq (x : Expr) : dpE x = 1 + dpL x.args := by cases x; simp [dpE]
mutual
def ndE : Expr → List Expr
  | ⟨op, ix, args⟩ => ⟨op, ix, args⟩ :: ndL args
def ndL : List Expr → List Expr
  | [] => []
  | x :: xs => ndE x ++ ndL xs
end
mutual
theorem ndE_len : ∀ x : Expr, (ndE x).length = szE x
  | ⟨op, ix, args⟩ => by simp [ndE, szE, ndL_len args]; omega
theorem ndL_len : ∀ l : List Expr, (ndL l).length = szL l
  | [] => by simp [ndL, szL]
  | x :: xs => by simp [ndL, szL, ndE_len x, ndL_len xs]
end
mutual
theorem preE_all : ∀ (x : Expr) (d : Int), d + dpE x ≤ 17 → (preE x d).map (·.2) = ndE x ∧ ∀ p ∈ preE x d, p.1 ≤ 16
  | ⟨op, ix, args⟩, d, h => by
    simp only [dpE] at h
    have hd : d ≤ 16 := by omega
    obtain ⟨h1, h2⟩ := preL_all args (d + 1) (by omega)
    simp only [preE, hd, if_true, List.map_cons, ndE, h1, true_and]
    intro p hp
    rcases List.mem_cons.1 hp with rfl | hp
    · exact hd
    · exact h2 p hp
theorem preL_all : ∀ (l : List Expr) (d : Int), d + dpL l ≤ 17 → (preL l d).map (·.2) = ndL l ∧ ∀ p ∈ preL l d, p.1 ≤ 16
  | [], _, _ => by simp [preL, ndL]
  | x :: xs, d, h => by
    simp only [dpL] at h
    obtain ⟨h1, h2⟩ := preE_all x d (by omega)
    obtain ⟨h3, h4⟩ := preL_all xs d (by omega)
    simp only [preL, List.map_append, ndL, h1, h3, true_and]
    intro p hp
    rcases List.mem_append.1 hp with hp | hp
    · exact h2 p hp
    · exact h4 p hp
end
mutual
theorem preE_deep : ∀ (x : Expr) (d : Int), d ≤ 17 → 17 < d + dpE x → ∃ p ∈ preE x d, p.1 > 16
  | ⟨op, ix, args⟩, d, h0, h => by
    simp only [dpE] at h
    by_cases hd : d ≤ 16
    · obtain ⟨p, hp, h1⟩ := preL_deep args (d + 1) (by omega) (by omega)
      exact ⟨p, by simp only [preE, hd, if_true]; exact List.mem_cons_of_mem _ hp, h1⟩
    · exact ⟨(d, ⟨op, ix, args⟩), by simp [preE], by simp only; omega⟩
theorem preL_deep : ∀ (l : List Expr) (d : Int), d ≤ 17 → 17 < d + dpL l → ∃ p ∈ preL l d, p.1 > 16
  | [], d, h0, h => by simp only [dpL] at h; omega
  | x :: xs, d, h0, h => by
    simp only [dpL] at h
    by_cases hx : 17 < d + dpE x
    · obtain ⟨p, hp, h1⟩ := preE_deep x d h0 hx
      exact ⟨p, by simp only [preL]; exact List.mem_append.2 (.inl hp), h1⟩
    · obtain ⟨p, hp, h1⟩ := preL_deep xs d h0 (by omega)
      exact ⟨p, by simp only [preL]; exact List.mem_append.2 (.inr hp), h1⟩
end
theorem measFold_ok : ∀ (l : List (Int × Expr)) (s : Int × Int), (∀ p ∈ l, p.1 ≤ 16) → s.1 + l.length ≤ 256 → ∃ s', l.foldlM measS s = .ok s'
  | [], s, _, _ => ⟨s, rfl⟩
  | p :: l, s, h, hl => by
    have h0 := h p (by simp)
    simp only [List.length_cons] at hl
    simp only [List.foldlM_cons, measS]
    rw [if_neg (by omega)]
    exact measFold_ok l _ (fun q hq => h q (by simp [hq])) (by simp only; omega)
theorem measFold_err : ∀ (l : List (Int × Expr)) (s : Int × Int), ((∃ p ∈ l, p.1 > 16) ∨ s.1 + l.length > 256 ∧ l ≠ []) → s.1 ≤ 256 → l.foldlM measS s = .error ()
  | [], s, h, _ => by rcases h with ⟨p, hp, _⟩ | h; simp at hp; exact absurd rfl h.2
  | p :: l, s, h, hs => by
    simp only [List.foldlM_cons, measS]
    by_cases hc : s.1 + 1 > 256 ∨ p.1 > 16
    · rw [if_pos hc]; rfl
    · rw [if_neg hc]
      refine measFold_err l _ ?_ (by simp only; omega)
      rcases h with ⟨q, hq, h1⟩ | h
      · rcases List.mem_cons.1 hq with rfl | hq
        · omega
        · exact .inl ⟨q, hq, h1⟩
      · simp only [List.length_cons] at h
        refine .inr ⟨by simp only; omega, ?_⟩
        rintro rfl
        simp at h
        omega
theorem meas_iff (x : Expr) : (∃ s, meas x = .ok s) ↔ szE x ≤ 256 ∧ dpE x ≤ 16 := by
  constructor
  · rintro ⟨s, h⟩
    by_cases hd : dpE x ≤ 16
    · refine ⟨?_, hd⟩
      obtain ⟨h1, h2⟩ := preE_all x 1 (by omega)
      have hl : (preE x 1).length = szE x := by rw [← ndE_len, ← h1, List.length_map]
      rcases Nat.lt_or_ge 256 (szE x) with hg | hg
      · have := measFold_err (preE x 1) (0, 0) (.inr ⟨by simp only; omega, by rw [preE_eq]; simp⟩) (by simp)
        unfold meas at h
        rw [this] at h
        cases h
      · exact hg
    · obtain ⟨p, hp, h1⟩ := preE_deep x 1 (by omega) (by omega)
      have := measFold_err (preE x 1) (0, 0) (.inl ⟨p, hp, h1⟩) (by simp)
      unfold meas at h
      rw [this] at h
      cases h
  · rintro ⟨h1, h2⟩
    obtain ⟨h3, h4⟩ := preE_all x 1 (by omega)
    have hl : (preE x 1).length = szE x := by rw [← ndE_len, ← h3, List.length_map]
    exact measFold_ok _ _ h4 (by simp only; omega)
mutual
theorem deep_iff : ∀ (x : Expr) (m : Int), deepE x m = decide ((dpE x : Int) ≤ m)
  | ⟨op, ix, args⟩, m => by
    have e : dpE ⟨op, ix, args⟩ = 1 + dpL args := by simp [dpE]
    simp only [deepE]
    by_cases h1 : m < 1
    · rw [if_pos h1]
      exact (decide_eq_false (by rw [e]; omega)).symm
    · rw [if_neg h1]
      by_cases h2 : m = 1
      · rw [if_pos h2]
        subst h2
        cases args with
        | nil => exact (decide_eq_true (by rw [e]; simp [dpL])).symm
        | cons y l =>
          have : 1 ≤ dpE y := by rw [dpE_eq]; omega
          exact (decide_eq_false (by rw [e]; simp only [dpL]; omega)).symm
      · rw [if_neg h2, deepL_iff args (m - 1) (by omega)]
        exact decide_eq_decide.2 (by rw [e]; omega)
theorem deepL_iff : ∀ (l : List Expr) (m : Int), 0 ≤ m → deepL l m = decide ((dpL l : Int) ≤ m)
  | [], m, h => by simp [deepL, dpL, h]
  | x :: xs, m, h => by
    simp only [deepL, dpL, deep_iff x m, deepL_iff xs m h]
    rw [← Bool.decide_and]
    exact decide_eq_decide.2 (by omega)
end
mutual
theorem cnt_iff : ∀ (x : Expr) (m : Int), 0 ≤ m → ((szE x : Int) ≤ m → cntE x m = szE x) ∧ (m < szE x → m < cntE x m)
  | ⟨op, ix, args⟩, m, h => by
    simp only [cntE, szE]
    by_cases h0 : m = 0
    · subst h0
      refine ⟨fun h => by omega, fun _ => ?_⟩
      have := cntL_iff args 0 1 (by omega)
      by_cases hs : (1 : Int) + szL args ≤ 0
      · omega
      · exact this.2 (by omega)
    · have := cntL_iff args m 1 (by omega)
      refine ⟨fun h1 => ?_, fun h1 => this.2 (by omega)⟩
      have h2 := this.1 (by omega)
      omega
theorem cntL_iff : ∀ (l : List Expr) (m n : Int), 0 ≤ n → (n + szL l ≤ m → cntL l m n = n + szL l) ∧ (m < n + szL l → m < cntL l m n)
  | [], m, n, _ => by simp [cntL, szL]
  | x :: xs, m, n, hn => by
    simp only [cntL, szL]
    by_cases h : n ≤ m
    · rw [if_pos h]
      have h1 := cnt_iff x (m - n) (by omega)
      by_cases hx : (szE x : Int) ≤ m - n
      · have e := h1.1 hx
        have h2 := cntL_iff xs m (n + cntE x (m - n)) (by omega)
        rw [e] at h2 ⊢
        refine ⟨fun h3 => ?_, fun h3 => h2.2 (by omega)⟩
        have := h2.1 (by omega)
        omega
      · have e := h1.2 (by omega)
        have h2 := cntL_iff xs m (n + cntE x (m - n)) (by omega)
        exact ⟨fun h3 => by omega, fun _ => h2.2 (by omega)⟩
    · rw [if_neg h]
      exact ⟨fun h1 => by omega, fun _ => by omega⟩
end
theorem light_iff (x : Expr) : lightE x = true ↔ szE x ≤ 256 ∧ dpE x ≤ 16 := by
  unfold lightE
  rw [Bool.and_eq_true, deep_iff, decide_eq_true_eq, decide_eq_true_eq]
  have := cnt_iff x 256 (by omega)
  constructor
  · rintro ⟨h1, h2⟩
    refine ⟨?_, by omega⟩
    rcases Nat.lt_or_ge 256 (szE x) with h | h
    · have := this.2 (by omega); omega
    · exact h
  · rintro ⟨h1, h2⟩
    exact ⟨by have := this.1 (by omega); omega, by omega⟩
theorem szL_ge : ∀ l : List Expr, l.length ≤ szL l
  | [] => by simp [szL]
  | x :: xs => by have := szL_ge xs; have : 1 ≤ szE x := by rw [szE_eq]; omega
                  simp only [szL, List.length_cons]; omega
theorem node_same (x : Expr) (n : Int) (h : szE x ≤ 256) : nodeR x n = nodeT x n := by
  have hl := szL_ge x.args
  rw [szE_eq] at h
  unfold nodeR nodeT
  by_cases h1 : x.op < 0 ∨ x.op ≥ 5
  · rw [if_pos h1, if_pos h1]
  · rw [if_neg h1, if_neg h1]
    obtain ho | ho | ho | ho | ho : x.op = 0 ∨ x.op = 1 ∨ x.op = 2 ∨ x.op = 3 ∨ x.op = 4 := by omega
    all_goals
      simp only [ho]
      simp
      try simp only [← List.length_eq_zero_iff]
      repeat' split
      all_goals first | rfl | omega
mutual
theorem nodes_list : ∀ (x : Expr) (n : Int), nodesE x n = firstErr (fun y => nodeT y n) (ndE x)
  | ⟨op, ix, args⟩, n => by simp only [nodesE, ndE, firstErr, nodesL_list args n]
theorem nodesL_list : ∀ (l : List Expr) (n : Int), nodesL l n = firstErr (fun y => nodeT y n) (ndL l)
  | [], n => by simp [nodesL, ndL, firstErr]
  | x :: xs, n => by
    simp only [nodesL, ndL, nodes_list x n, nodesL_list xs n]
    generalize ndE x = a
    induction a with
    | nil => simp [firstErr]
    | cons y a ih =>
      simp only [List.cons_append, firstErr]
      by_cases h : nodeT y n = 0
      · simp only [h, ne_eq, not_true_eq_false, if_false]; exact ih
      · simp [h]
end
mutual
theorem ndE_sz : ∀ (x : Expr) (y : Expr), y ∈ ndE x → szE y ≤ szE x
  | ⟨op, ix, args⟩, y, h => by
    simp only [ndE] at h
    rcases List.mem_cons.1 h with rfl | h
    · exact Nat.le_refl _
    · have := ndL_sz args y h; simp only [szE]; omega
theorem ndL_sz : ∀ (l : List Expr) (y : Expr), y ∈ ndL l → szE y ≤ szL l
  | [], y, h => by simp [ndL] at h
  | x :: xs, y, h => by
    simp only [ndL] at h
    simp only [szL]
    rcases List.mem_append.1 h with h | h
    · have := ndE_sz x y h; omega
    · have := ndL_sz xs y h; omega
end
theorem nodeFold (n : Int) : ∀ l : List (Int × Expr), (match l.foldlM (nodeS n) () with | .ok _ => 0 | .error e => e) = firstErr (fun y => nodeR y n) (l.map (·.2))
  | [] => rfl
  | p :: l => by
    simp only [List.foldlM_cons, List.map_cons, firstErr, nodeS]
    by_cases h : nodeR p.2 n = 0
    · simp only [h, ne_eq, not_true_eq_false, if_false]
      exact nodeFold n l
    · simp only [h, ne_eq, not_false_eq_true, if_true]
      rfl
theorem firstErr_congr {ι : Type} {f g : ι → Int} : ∀ {l : List ι}, (∀ x ∈ l, f x = g x) → firstErr f l = firstErr g l
  | [], _ => rfl
  | x :: l, h => by
    have ih := firstErr_congr (l := l) fun y hy => h y (List.mem_cons_of_mem _ hy)
    simp only [firstErr, h x List.mem_cons_self, ih]
theorem check_same (x : Expr) (n : Int) : refCheckE x n = checkE x n := by
  unfold refCheckE checkE
  by_cases hn : n < 0 ∨ n > 256
  · rw [if_pos hn, if_pos hn]
  · rw [if_neg hn, if_neg hn]
    by_cases hl : szE x ≤ 256 ∧ dpE x ≤ 16
    · have h1 : lightE x = true := (light_iff x).2 hl
      obtain ⟨s, h2⟩ := (meas_iff x).2 hl
      rw [h1, h2]
      simp only [Bool.true_eq_false, if_false]
      have hk := nodeFold n (preE x 1)
      rw [(preE_all x 1 (by omega)).1, firstErr_congr fun y hy => node_same y n (Nat.le_trans (ndE_sz x y hy) hl.1), ← nodes_list] at hk
      cases hf : (preE x 1).foldlM (nodeS n) () with
      | ok u => rw [hf] at hk; simp only at hk ⊢; exact hk.symm
      | error e => rw [hf] at hk; simp only at hk ⊢; exact hk.symm
    · have h1 : lightE x = false := by
        cases h : lightE x
        · rfl
        · exact absurd ((light_iff x).1 h) hl
      have h2 : ∃ e, meas x = .error e := by
        cases h : meas x with
        | ok s => exact absurd ((meas_iff x).1 ⟨s, h⟩) hl
        | error e => exact ⟨e, rfl⟩
      obtain ⟨e, h2⟩ := h2
      rw [h1, h2]
      simp
end Go.Proofs.YtbcjnmifflflfaaGreatDoor
end
