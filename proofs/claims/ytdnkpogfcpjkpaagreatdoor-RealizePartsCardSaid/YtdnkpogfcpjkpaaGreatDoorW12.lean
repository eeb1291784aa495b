/- Texts joined by a program: Db, Dc, Dd, Ha, Hb, Hc, De. -/
import Derived.Lib.ItoaNum
import Derived.Test.YtdnkpogfcpjkpaaGreatDoorW11
set_option linter.unusedSimpArgs false
set_option linter.unusedVariables false
set_option linter.unnecessarySimpa false

section
namespace Go.Proofs.YtdnkpogfcpjkpaaGreatDoor
set_option maxHeartbeats 2000000
set_option maxRecDepth 10000
theorem CallS.rt' {P : Program} {k : Nat} {g : FuncId} {az : List A} {H : Heap} {K : A → Heap → Prop} (h : CallS P g az H K) : CallS P g az (Go.Proofs.YtdnkpogfcpjkpaaGreatDoor.rt k H) fun r H' => ∃ H2, H' = Go.Proofs.YtdnkpogfcpjkpaaGreatDoor.rt k H2 ∧ K r H2 := by
  refine ⟨h.1, fun x args H0 hi hd => (h.2 x args H0 (hi.ents (by simp [rt_snd])) hd).mono ?_⟩
  rintro _ _ ⟨y, v, r, H', a, b, c, d, e, g⟩
  exact ⟨y, v, r, Go.Proofs.YtdnkpogfcpjkpaaGreatDoor.rt k H', a, b, c, d.ents (by simp [rt_snd]), e, H', rfl, g⟩
theorem get!_list (s : List UInt8) (i : Nat) (h : i < s.length) : (ByteArray.mk s.toArray).get! i = s[i] := by
  simp [ByteArray.get!, h]
theorem decode_ascii {s : List UInt8} {i : Nat} (h : i < s.length) (hb : s[i].toNat < 128) : Utf8.decode ⟨s.toArray⟩ i = (s[i].toNat, 1) := by
  simp [Utf8.decode, get!_list s i h, hb]
theorem decode_high {s : List UInt8} {i : Nat} (h : i < s.length) (hb : 128 ≤ s[i].toNat) : 128 ≤ (Utf8.decode ⟨s.toArray⟩ i).1 ∧ (Utf8.decode ⟨s.toArray⟩ i).1 ≤ 1114111 := by
  have hv : ∀ c : Nat, Utf8.valid c = true → c ≤ 1114111 := by
    intro c hc
    simp [Utf8.valid] at hc
    omega
  have hlt : s[i].toNat < 256 := s[i].toNat_lt
  simp only [Utf8.decode, Nat.add_zero, get!_list s i h, Utf8.runeError]
  rw [if_neg (by omega)]
  split
  · split <;> simp <;> omega
  · split
    · split
      · rename_i h1
        simp only [Bool.and_eq_true, decide_eq_true_eq] at h1
        exact ⟨by simp only []; omega, hv _ h1.2⟩
      · simp
    · split
      · split
        · rename_i h1
          simp only [Bool.and_eq_true, decide_eq_true_eq] at h1
          exact ⟨by simp only []; omega, hv _ h1.2⟩
        · simp
      · simp
theorem indexFuncS_fn (s : List UInt8) (hs : Sh s) (p : Int → Bool) (hp : ∀ r, 128 ≤ r → p r = true) (f : FuncId) (first caps : List A)
    (hf : ∀ r, 0 ≤ r → r ≤ 1114111 → CallFn Tryz.prog f (first ++ [.dat (.int .i32 r)] ++ caps) (aB (p r))) :
    CallFn Tryz.prog 239 [aT s, .fn f first caps, aB true] (aI (idxI (s.findIdx? fun b => p b.toNat))) := by
  refine callFz_of Tryz.func239 rfl Tryz.ntmps239 (rs := [.tmp 6]) rfl (by kernel_rfl) (by simp) (by kernel_rfl) ?_
  simp
  intro b
  refine V.forI (σ := Unit) s.length [1, 2, 10] (by simp; exact rfl) (fun _ _ => []) (fun i _ => [(10, .raw b (.stringIter ⟨s.toArray⟩ i))]) (fun i _ => NoF (fun b : UInt8 => p b.toNat) (s.take i)) () (by simp) (by simp) ⟨by simp; exact rfl, by simp⟩ ?_ ?_
  · rintro i - hi hI
    have h1 := List.getElem?_eq_getElem hi
    have hs1 := findIdx_step (p := fun b : UInt8 => p b.toNat) hI h1
    have hsz : i < (ByteArray.mk s.toArray).size := by simpa [ByteArray.size] using hi
    rcases Nat.lt_or_ge s[i].toNat 128 with hb | hb
    · have hd := decode_ascii hi hb
      have hc := hf s[i].toNat (by omega) (by omega)
      simp at hc
      simp [hsz, hd]
      refine hc.s ?_
      cases e : p s[i].toNat
      · simp
        exact hs1.1 e
      · rw [hs1.2 e]
        simp
    · have hd := decode_high hi hb
      have hc := hf (Utf8.decode ⟨s.toArray⟩ i).1 (by omega) (by omega)
      have e1 := hp (Utf8.decode ⟨s.toArray⟩ i).1 (by omega)
      have e2 := hp s[i].toNat (by omega)
      simp at hc
      simp [hsz]
      refine hc.s ?_
      rw [e1, hs1.2 e2]
      simp
  · rintro - hI
    rw [findIdx_none hI]
    have hsz : ¬ s.length < (ByteArray.mk s.toArray).size := by simp [ByteArray.size]
    simp [hsz]
theorem IndexFuncS_fn (s : List UInt8) (hs : Sh s) (p : Int → Bool) (hp : ∀ r, 128 ≤ r → p r = true) (f : FuncId) (first caps : List A)
    (hf : ∀ r, 0 ≤ r → r ≤ 1114111 → CallFn Tryz.prog f (first ++ [.dat (.int .i32 r)] ++ caps) (aB (p r))) :
    CallFn Tryz.prog 221 [aT s, .fn f first caps] (aI (idxI (s.findIdx? fun b => p b.toNat))) := by
  refine callFz_of Tryz.func221 rfl Tryz.ntmps221 (rs := [.tmp 4]) rfl (by kernel_rfl) (by simp) (by kernel_rfl) ?_
  simp
  refine (indexFuncS_fn s hs p hp f first caps hf).s ?_
  simp
theorem ContainsFuncS_fn (s : List UInt8) (hs : Sh s) (p : Int → Bool) (hp : ∀ r, 128 ≤ r → p r = true) (f : FuncId) (first caps : List A)
    (hf : ∀ r, 0 ≤ r → r ≤ 1114111 → CallFn Tryz.prog f (first ++ [.dat (.int .i32 r)] ++ caps) (aB (p r))) :
    CallFn Tryz.prog 191 [aT s, .fn f first caps] (aB (s.any fun b => p b.toNat)) := by
  refine callFz_of Tryz.func191 rfl Tryz.ntmps191 (rs := [.tmp 4]) rfl (by kernel_rfl) (by simp) (by kernel_rfl) ?_
  simp
  refine (IndexFuncS_fn s hs p hp f first caps hf).s ?_
  simp
  rw [idxI_ge, List.findIdx?_isSome]
def badR (r : Int) : Bool := decide (122 < r) || !partI r
theorem badR_fn (r : Int) (h0 : 0 ≤ r) (h1 : r ≤ 1114111) : CallFn Tryz.prog 192 [.dat (.int .i32 r)] (aB (badR r)) := by
  refine callFz_of Tryz.func192 rfl Tryz.ntmps192 (rs := [.tmp 2]) rfl (by kernel_rfl) (by simp) (by kernel_rfl) ?_
  simp [reads]
  refine ⟨by omega, GCall.fn (aB (partI r)) (fun h => ⟨by omega, part_fn r h0 (by omega)⟩) ?_⟩
  simp [reads, badR]
def wordS (s : List UInt8) : Bool := match s with
  | [] => false
  | b :: _ => decide (97 ≤ b.toNat) && decide (b.toNat ≤ 122) && s.all partB
def nameE (s : List UInt8) (seen : List (List UInt8)) : Int := if wordS s = false then 3 else if s.length > 24 then 17 else if s ∈ seen then 7 else 0
theorem badR_part (b : UInt8) : badR b.toNat = !partB b := by
  simp only [badR, partI, partB]
  have := b.toNat_lt
  rw [Bool.eq_iff_iff]
  simp
  omega
theorem all_bad (s : List UInt8) : (s.any fun b => badR b.toNat) = !s.all partB := by
  simp only [badR_part]
  induction s with
  | nil => rfl
  | cons b s ih => simp [ih]
def mapOf (names : List (List UInt8)) : List (L × L) := names.zipIdx.map fun p => (.str p.1, .int .i64 p.2)
theorem mget_of_aux (s : List UInt8) : ∀ (names : List (List UInt8)) (k : Nat), mget ((names.zipIdx k).map fun p => (L.str p.1, L.int .i64 p.2)) (.str s) = (names.findIdx? (· == s)).map fun i => .int .i64 (i + k : Nat)
  | [], _ => rfl
  | n :: ns, k => by
    simp only [List.zipIdx_cons, List.map_cons, mget, leq, List.findIdx?_cons]
    by_cases h : n = s
    · simp [h]
    · simp only [beq_iff_eq, h, if_false, mget_of_aux s ns (k + 1)]
      cases ns.findIdx? (· == s) <;> simp
      omega
theorem mget_of (names : List (List UInt8)) (s : List UInt8) : mget (mapOf names) (.str s) = (names.findIdx? (· == s)).map fun i => .int .i64 i := by
  have := mget_of_aux s names 0
  simpa [mapOf] using this
theorem mput_of_aux (s : List UInt8) (v : L) : ∀ (names : List (List UInt8)) (k : Nat), s ∉ names → mput ((names.zipIdx k).map fun p => (L.str p.1, L.int .i64 p.2)) (.str s) v = (names.zipIdx k).map (fun p => (L.str p.1, L.int .i64 p.2)) ++ [(.str s, v)]
  | [], _, _ => rfl
  | n :: ns, k, h => by
    simp only [List.mem_cons, not_or] at h
    simp only [List.zipIdx_cons, List.map_cons, mput, leq, beq_iff_eq, Ne.symm h.1, if_false, mput_of_aux s v ns (k + 1) h.2, List.cons_append]
theorem mput_of {names : List (List UInt8)} {s : List UInt8} (h : s ∉ names) : mput (mapOf names) (.str s) (.int .i64 names.length) = mapOf (names ++ [s]) := by
  have := mput_of_aux s (.int .i64 names.length) names 0 h
  simp only [mapOf, this, List.zipIdx_append, List.map_append]
  simp
@[simp] theorem mapOf_length (names : List (List UInt8)) : (mapOf names).length = names.length := by simp [mapOf]
end Go.Proofs.YtdnkpogfcpjkpaaGreatDoor
end

section
namespace Go.Proofs.YtdnkpogfcpjkpaaGreatDoor
set_option maxHeartbeats 2000000
set_option maxRecDepth 10000
abbrev chkBox (b r : Nat) (c : Control) : Nat × Ent := (32, .box b [.dat (.int .i64 c.actuators), .dat (.sl (c.inputs.map encT)), .dat (.sl (c.signals.map encS)), .dat (.sl (c.plus.map encI)), .dat (.sl (c.minus.map encI)), .map 30 r,
  .fn 137 [.ptr 32 b 0] [], .fn 138 [.ptr 32 b 0] [], .fn 139 [.ptr 32 b 0] []])
abbrev chkMap (r : Nat) (names : List (List UInt8)) : Nat × Ent := (30, .map r .string (mapOf names))
theorem cname_s (b r : Nat) (c : Control) (s : List UInt8) (hs : Sh s) (names : List (List UInt8)) (hn : names.length ≤ 1000000) : CallS Tryz.prog 141 [.ptr 32 b 0, aT s] [chkBox b r c, chkMap r names]
    fun rr H' => rr = aI (nameE s names) ∧ H' = [chkBox b r c, chkMap r (if nameE s names = 0 then names ++ [s] else names)] := by
  refine CallS.dropP (callS_of Tryz.func141 rfl Tryz.ntmps141 (rs := [.tmp 4]) rfl (by kernel_rfl) (by simp) (by kernel_rfl) (K := fun rr H' => rr = aI (nameE s names) ∧ subP [chkBox b r c, chkMap r (if nameE s names = 0 then names ++ [s] else names)] H') ?_) ?_
  · cases s with
    | nil =>
      simp [reads]
      refine GCall.fn (aB false) (by simp) ?_
      simp [nameE, wordS, subP.refl]
    | cons b0 s' =>
      simp [reads]
      refine GCall.fn (aB (!(b0 :: s').all partB)) (fun h => ⟨h, ?_⟩) ?_
      · rw [← all_bad]
        exact ContainsFuncS_fn (b0 :: s') hs badR (by intro r h; simp [badR]; omega) _ [] [] (fun r h0 h1 => by simpa using badR_fn r h0 h1)
      · simp [reads]
        have hlen : (b0 :: s').length = s'.length + 1 := rfl
        refine ⟨fun h => ?_, fun h1 h2 h3 h4 => ?_⟩
        · have e : nameE (b0 :: s') names = 3 := by
            rw [nameE, if_pos]
            simp [wordS]
            intro g1 g2 g3
            rcases h with (h | h) | h | h
            · omega
            · omega
            · rw [h] at g3; cases g3
            · exact h
          simp [e, subP.refl]
        · have hw : wordS (b0 :: s') = true := by
            simp [wordS]
            exact ⟨⟨by omega, by omega⟩, h3, h4⟩
          refine ⟨fun h5 => ?_, fun h5 => ⟨fun h6 => ?_, fun h6 => ?_⟩⟩
          · have e : nameE (b0 :: s') names = 17 := by simp [nameE, hw]; omega
            simp [e, subP.refl]
          · rw [mget_of] at h6
            have hm : (b0 :: s') ∈ names := by
              simp [List.findIdx?_isSome] at h6
              exact h6
            have e : nameE (b0 :: s') names = 7 := by simp [nameE, hw, hm]; omega
            simp [e, subP.refl]
          · rw [mget_of] at h6
            have hm : (b0 :: s') ∉ names := by
              simp at h6
              intro hm
              exact h6 _ hm rfl
            have e : nameE (b0 :: s') names = 0 := by simp [nameE, hw, hm]; omega
            refine V.draw (fun _ => none) (by kernel_rfl) (by kernel_rfl) (by simp) ?_
            simp [e]
            rw [mput_of hm]
            exact subP.refl _
  · rintro rr H' ⟨h1, h2⟩
    exact ⟨_, h2, h1, rfl⟩
mutual
def varsE : Expr → List Int
  | ⟨op, ix, args⟩ => (if op = 1 then [ix] else []) ++ varsL args
def varsL : List Expr → List Int
  | [] => []
  | x :: xs => varsE x ++ varsL xs
end
theorem varsE_eq (x : Expr) : varsE x = (if x.op = 1 then [x.index] else []) ++ varsL x.args := by cases x; simp [varsE]
theorem varsL_mem {n : Int} {y : Expr} (hn : n ∈ varsE y) : ∀ {l : List Expr}, y ∈ l → n ∈ varsL l
  | [], h => by simp at h
  | z :: l, h => by
    simp only [varsL, List.mem_append]
    rcases List.mem_cons.1 h with rfl | h
    · exact .inl hn
    · exact .inr (varsL_mem hn h)
theorem visitV_s {σ : Type} {b3 b4 : Nat} {f : FuncId} {first caps : List A} {Hc : σ → Heap} {step : σ → Int → σ} : ∀ (N : Nat) (x : Expr), SizeOf.sizeOf x < N → OkE x → ∀ (s : σ),
    (∀ s, ∀ n ∈ varsE x, CallS Tryz.prog f (first ++ aI n :: caps) (Hc s) fun _ H' => H' = Hc (step s n)) →
    CallS Tryz.prog 220 [aE x, .ptr 3 b3 0, .ptr 4 b4 0] ((4, .box b4 [.fn 220 [] [.ptr 3 b3 0, .ptr 4 b4 0]]) :: (3, .box b3 [.fn f first caps]) :: rt 1000 (Hc s))
      fun _ H' => H' = (4, .box b4 [.fn 220 [] [.ptr 3 b3 0, .ptr 4 b4 0]]) :: (3, .box b3 [.fn f first caps]) :: rt 1000 (Hc ((varsE x).foldl step s))
  | 0, _, h, _, _, _ => absurd h (Nat.not_lt_zero _)
  | N + 1, x, hN, hx, s, hf => by
    refine CallS.dropP (callS_of Tryz.func220 rfl Tryz.ntmps220 (rs := []) rfl (by kernel_rfl) (by simp) (by kernel_rfl) (K := fun _ H' => subP ((4, .box b4 [.fn 220 [] [.ptr 3 b3 0, .ptr 4 b4 0]]) :: (3, .box b3 [.fn f first caps]) :: rt 1000 (Hc ((varsE x).foldl step s))) H') ?_) (fun _ _ h => ⟨_, h, rfl⟩)
    have hset : ∃ s1 : σ, s1 = (if x.op = 1 then step s x.index else s) ∧ (varsL x.args).foldl step s1 = (varsE x).foldl step s := by
      refine ⟨_, rfl, ?_⟩
      rw [varsE_eq]
      by_cases h : x.op = 1 <;> simp [h]
    obtain ⟨s1, hs1, he⟩ := hset
    by_cases hop : x.op = 1
    all_goals simp [hop]
    · rw [if_pos hop] at hs1
      refine ((hf s x.index (by rw [varsE_eq]; simp [hop])).rt'.c1.c1).mono ?_
      rintro r H' ⟨_, ⟨_, ⟨H1, rfl, rfl⟩, rfl⟩, rfl⟩
      rw [← hs1]
      simp
      refine V.for' [2, 14, 15] (fun p => [(16, .dat (.int .i64 (p.1 : Nat)))]) (fun p => (4, .box b4 [.fn 220 [] [.ptr 3 b3 0, .ptr 4 b4 0]]) :: (3, .box b3 [.fn f first caps]) :: rt 1000 (Hc p.2))
        (fun p : Nat × σ => p.1 ≤ x.args.length ∧ (varsL (x.args.drop p.1)).foldl step p.2 = (varsE x).foldl step s) (fun p => x.args.length - p.1) (0, s1) ⟨by simp [he], by simp, subP.refl _⟩ ?_
      rintro ⟨i, s2⟩ ⟨hi, hinv⟩
      simp only at hi hinv
      have hlen := hx.len
      by_cases hlt : i < x.args.length
      · obtain ⟨y, hy1⟩ : ∃ y, x.args[i]'hlt = y := ⟨_, rfl⟩
        have hmem : y ∈ x.args := by rw [← hy1]; exact List.getElem_mem hlt
        rw [List.drop_eq_getElem_cons hlt, hy1, varsL, List.foldl_append] at hinv
        simp [hlt, hy1, encE_eq]
        intro b
        have ih := visitV_s (b3 := b3) (b4 := b4) (Hc := Hc) (step := step) (f := f) (first := first) (caps := caps) N y (by have := Expr.lt_of_mem hmem; omega) (hx.args y hmem) s2 (fun s n hn => hf s n (by rw [varsE_eq]; exact List.mem_append.2 (.inr (varsL_mem hn hmem))))
        refine ih.c1.mono ?_
        rintro r H' ⟨H2, rfl, rfl⟩
        simp
        exact ⟨by omega, i + 1, _, ⟨hlt, hinv⟩, by omega, by simp, (subP.refl _).c _⟩
      · have hie : i = x.args.length := by omega
        subst hie
        simp [varsL] at hinv
        simp [hinv]
        exact subP.refl _
    · rw [if_neg hop] at hs1
      refine V.for' [2, 14, 15] (fun p => [(16, .dat (.int .i64 (p.1 : Nat)))]) (fun p => (4, .box b4 [.fn 220 [] [.ptr 3 b3 0, .ptr 4 b4 0]]) :: (3, .box b3 [.fn f first caps]) :: rt 1000 (Hc p.2))
        (fun p : Nat × σ => p.1 ≤ x.args.length ∧ (varsL (x.args.drop p.1)).foldl step p.2 = (varsE x).foldl step s) (fun p => x.args.length - p.1) (0, s1) ⟨by simp [he], by simp, by rw [hs1]; exact subP.refl _⟩ ?_
      rintro ⟨i, s2⟩ ⟨hi, hinv⟩
      simp only at hi hinv
      have hlen := hx.len
      by_cases hlt : i < x.args.length
      · obtain ⟨y, hy1⟩ : ∃ y, x.args[i]'hlt = y := ⟨_, rfl⟩
        have hmem : y ∈ x.args := by rw [← hy1]; exact List.getElem_mem hlt
        rw [List.drop_eq_getElem_cons hlt, hy1, varsL, List.foldl_append] at hinv
        simp [hlt, hy1, encE_eq]
        intro b
        have ih := visitV_s (b3 := b3) (b4 := b4) (Hc := Hc) (step := step) (f := f) (first := first) (caps := caps) N y (by have := Expr.lt_of_mem hmem; omega) (hx.args y hmem) s2 (fun s n hn => hf s n (by rw [varsE_eq]; exact List.mem_append.2 (.inr (varsL_mem hn hmem))))
        refine ih.c1.mono ?_
        rintro r H' ⟨H2, rfl, rfl⟩
        simp
        exact ⟨by omega, i + 1, _, ⟨hlt, hinv⟩, by omega, by simp, (subP.refl _).c _⟩
      · have hie : i = x.args.length := by omega
        subst hie
        simp [varsL] at hinv
        simp [hinv]
        exact subP.refl _
theorem each_s {σ : Type} {f : FuncId} {first caps : List A} {Hc : σ → Heap} {step : σ → Int → σ} (x : Expr) (hx : OkE x) (s : σ) (hf : ∀ s, ∀ n ∈ varsE x, CallS Tryz.prog f (first ++ aI n :: caps) (Hc s) fun _ H' => H' = Hc (step s n)) :
    CallS Tryz.prog 188 [aE x, .fn f first caps] (Hc s) fun _ H' => H' = Hc ((varsE x).foldl step s) := by
  refine CallS.rt (k := 1000) (CallS.dropP (callS_of Tryz.func188 rfl Tryz.ntmps188 (rs := []) rfl (by kernel_rfl) (by simp) (by kernel_rfl) (K := fun _ H' => subP (rt 1000 (Hc ((varsE x).foldl step s))) H') ?_) ?_)
  · simp
    intro b3 b4
    refine (visitV_s (SizeOf.sizeOf x + 1) x (by omega) hx s hf).mono ?_
    rintro r H' rfl
    simp
    exact ((subP.refl _).c _).c _
  · rintro r H' h
    exact ⟨_, h, _, rfl, rfl⟩
end Go.Proofs.YtdnkpogfcpjkpaaGreatDoor
end

section
namespace Go.Proofs.YtdnkpogfcpjkpaaGreatDoor
set_option maxHeartbeats 2000000
set_option maxRecDepth 10000
def kindAt (c : Control) (k : Int) : Int := ((c.signals[k.toNat]?).map (·.kind)).getD 0
def lateStep (c : Control) (i : Int) (late : Bool) (line : Int) : Bool := late || (decide (i ≤ line - firstC c) && kindAt c (line - firstC c) == 0)
def lateC (c : Control) (i : Int) (x : Expr) : Bool := (varsE x).foldl (lateStep c i) false
theorem gate1_s (b r b2 b5 b6 : Nat) (c : Control) (h : Sm c) (s5 : List A) (i : Int) (h0 : 0 ≤ i ∧ i < c.signals.length) (late : Bool) (line : Int) (hl : 0 ≤ line ∧ line < countC c) :
    CallS Tryz.prog 189 [aI line, .ptr 2 b2 0, .ptr 6 b6 0, .rptr [.int .i64 i]] [(6, .box b6 [.dat (.bool late)]), (5, .box b5 s5), (2, .box b2 [.ptr 32 b 0]), chkBox b r c]
      fun _ H' => H' = [(6, .box b6 [.dat (.bool (lateStep c i late line))]), (5, .box b5 s5), (2, .box b2 [.ptr 32 b 0]), chkBox b r c] := by
  have hs := h
  obtain ⟨g1, g2, g3⟩ := h
  have hcn : countC c = firstC c + c.signals.length := rfl
  have hfc : firstC c = 2 * c.actuators + c.inputs.length := rfl
  refine CallS.dropP (callS_of Tryz.func189 rfl Tryz.ntmps189 (rs := []) rfl (by kernel_rfl) (by simp) (by kernel_rfl) (K := fun _ H' => subP [(6, .box b6 [.dat (.bool (lateStep c i late line))]), (5, .box b5 s5), (2, .box b2 [.ptr 32 b 0]), chkBox b r c] H') ?_) (fun _ _ h => ⟨_, h, rfl⟩)
  simp
  refine (first_fn c hs).s ?_
  simp
  refine ⟨by omega, ?_⟩
  obtain ⟨y, hy⟩ : ∃ y, c.signals[(line - firstC c).toNat]? = some y := ⟨_, List.getElem?_eq_getElem (by omega)⟩
  by_cases hk : i ≤ line - firstC c
  · simp [hk, hy]
    refine ⟨fun h => ⟨h, by omega, by omega⟩, ?_⟩
    have e : lateStep c i late line = (late || y.kind == 0) := by simp [lateStep, hk, kindAt, hy]
    rw [e]
    exact subP.refl _
  · simp [hk, hy]
    have e : lateStep c i late line = late := by simp [lateStep, hk]
    rw [e]
    exact subP.refl _
abbrev sigA (s : Signal) : List A := [.dat (.str s.name), .dat (.int .i64 s.kind), .dat (.int .i64 s.on.op), .dat (.int .i64 s.on.index), .dat (.sl (s.on.args.map encE)), .dat (.int .i64 s.off.op), .dat (.int .i64 s.off.index), .dat (.sl (s.off.args.map encE)), .dat (.int .i64 s.delay), .dat (.bool s.init)]
def gateE (c : Control) (i : Int) (s : Signal) : Int := if lateC c i s.on then 9 else if !zeroE s.off || s.init || s.delay != 0 then 3 else 0
def memE (c : Control) (s : Signal) : Int := if checkE s.off (countC c) ≠ 0 then checkE s.off (countC c) else if s.delay ≠ 0 then 3 else 0
def timE (s : Signal) : Int := if s.delay < 1 ∨ s.delay > 1000000 then 2 else if !zeroE s.off || s.init then 3 else 0
theorem gate_s (b r : Nat) (c : Control) (h : Sm c) (i : Nat) (s : Signal) (hi : c.signals[i]? = some s) (hx : OkS s) (hv : ∀ n ∈ varsE s.on, 0 ≤ n ∧ n < countC c) : CallS Tryz.prog 137 [.ptr 32 b 0, aI i] [chkBox b r c] fun rr H' => rr = aI (gateE c i s) ∧ H' = [chkBox b r c] := by
  have hs := h
  obtain ⟨g1, g2, g3⟩ := h
  obtain ⟨hlt, hy1⟩ := List.getElem?_eq_some_iff.1 hi
  refine CallS.dropP (callS_of Tryz.func137 rfl Tryz.ntmps137 (rs := [.tmp 4]) rfl (by kernel_rfl) (by simp) (by kernel_rfl) (K := fun rr H' => rr = aI (gateE c i s) ∧ subP [chkBox b r c] H') ?_) (fun _ _ h => ⟨_, h.2, h.1, rfl⟩)
  simp
  intro b2
  refine V.draw (fun _ => none) (by kernel_rfl) (by kernel_rfl) (by simp) ?_
  simp [hy1, hlt]
  intro b5 b6
  refine (each_s (σ := Bool) (f := 189) (first := []) (caps := [.ptr 2 b2 0, .ptr 6 b6 0, .rptr [.int .i64 i]]) (Hc := fun late => [(6, .box b6 [.dat (.bool late)]), (5, .box b5 (sigA s)), (2, .box b2 [.ptr 32 b 0]), chkBox b r c]) (step := lateStep c i) s.on hx.on false (fun late n hn => by simpa using gate1_s b r b2 b5 b6 c hs (sigA s) i ⟨by omega, by omega⟩ late n (hv n hn))).mono ?_
  rintro rr H' rfl
  simp
  have e : lateC c i s.on = (varsE s.on).foldl (lateStep c i) false := rfl
  rw [← e]
  cases hlate : lateC c i s.on
  · simp
    refine (zero_fn s.off).s ?_
    simp [gateE, hlate]
    have hsub : subP [chkBox b r c] [(6, .box b6 [.dat (.bool false)]), (5, .box b5 (sigA s)), (2, .box b2 [.ptr 32 b 0]), chkBox b r c] := (((subP.refl _).c _).c _).c _
    refine ⟨fun h => ⟨fun h1 h2 h3 => ?_, hsub⟩, fun h1 h2 h3 => ⟨⟨⟨h1, h2⟩, h3⟩, hsub⟩⟩
    rcases h with (h | h) | h <;> simp_all
  · simp [gateE, hlate]
    exact (((subP.refl _).c _).c _).c _
theorem memory_s (b r : Nat) (c : Control) (h : Sm c) (i : Nat) (s : Signal) (hi : c.signals[i]? = some s) (hx : OkS s) : CallS Tryz.prog 138 [.ptr 32 b 0, aI i] [chkBox b r c] fun rr H' => rr = aI (memE c s) ∧ H' = [chkBox b r c] := by
  obtain ⟨hlt, hy1⟩ := List.getElem?_eq_some_iff.1 hi
  refine CallS.dropP (callS_of Tryz.func138 rfl Tryz.ntmps138 (rs := [.tmp 4]) rfl (by kernel_rfl) (by simp) (by kernel_rfl) (K := fun rr H' => rr = aI (memE c s) ∧ subP [chkBox b r c] H') ?_) (fun _ _ h => ⟨_, h.2, h.1, rfl⟩)
  simp
  refine V.draw (fun t => if t = 19 then some (.fn (aI (countC c))) else if t = 20 then some (.fn (aI (checkE s.off (countC c)))) else none) (by kernel_rfl) (by kernel_rfl) (by simp) ?_
  have e1 := count_c c h
  have e2 := check_fn s.off hx.off (countC c)
  simp [hy1, hlt] at e1 e2 ⊢
  refine ⟨e1, e2, fun hc => ?_, fun hc => ⟨fun hd => ?_, fun hd => ?_⟩⟩
  · simp [memE, hc, subP.refl]
  · simp [memE, hc, hd, subP.refl]
  · simp [memE, hc, hd, subP.refl]
theorem timer_s (b r : Nat) (c : Control) (i : Nat) (s : Signal) (hi : c.signals[i]? = some s) (hx : OkS s) : CallS Tryz.prog 139 [.ptr 32 b 0, aI i] [chkBox b r c] fun rr H' => rr = aI (timE s) ∧ H' = [chkBox b r c] := by
  obtain ⟨hlt, hy1⟩ := List.getElem?_eq_some_iff.1 hi
  refine CallS.dropP (callS_of Tryz.func139 rfl Tryz.ntmps139 (rs := [.tmp 4]) rfl (by kernel_rfl) (by simp) (by kernel_rfl) (K := fun rr H' => rr = aI (timE s) ∧ subP [chkBox b r c] H') ?_) (fun _ _ h => ⟨_, h.2, h.1, rfl⟩)
  simp [hy1, hlt]
  intro b5
  have hsub : ∀ l, subP [chkBox b r c] [(5, .box b5 l), chkBox b r c] := fun l => (subP.refl _).c _
  refine ⟨fun hd => ?_, fun h1 h2 => ?_⟩
  · simp [timE, hsub]
    omega
  · refine (zero_fn s.off).s ?_
    cases hz : zeroE s.off <;> cases hi2 : s.init <;> simp [timE, hz, hi2, hsub] <;> omega
def signalE (c : Control) (i : Int) (s : Signal) (names : List (List UInt8)) : Int :=
  if nameE s.name names ≠ 0 then nameE s.name names
  else if s.kind < 0 ∨ s.kind ≥ 3 then 1
  else if checkE s.on (countC c) ≠ 0 then checkE s.on (countC c)
  else if s.kind = 0 then gateE c i s else if s.kind = 1 then memE c s else timE s
theorem signal_s (b r : Nat) (c : Control) (h : Sm c) (i : Nat) (s : Signal) (hi : c.signals[i]? = some s) (hx : OkS s) (names : List (List UInt8)) (hn : names.length ≤ 1000000) (hv : checkE s.on (countC c) = 0 → ∀ n ∈ varsE s.on, 0 ≤ n ∧ n < countC c) :
    CallS Tryz.prog 142 [.ptr 32 b 0, aI i] [chkBox b r c, chkMap r names] fun rr H' => rr = aI (signalE c i s names) ∧ H' = [chkBox b r c, chkMap r (if nameE s.name names = 0 then names ++ [s.name] else names)] := by
  obtain ⟨hlt, hy1⟩ := List.getElem?_eq_some_iff.1 hi
  refine CallS.dropP (callS_of Tryz.func142 rfl Tryz.ntmps142 (rs := [.tmp 4]) rfl (by kernel_rfl) (by simp) (by kernel_rfl) (K := fun rr H' => rr = aI (signalE c i s names) ∧ subP [chkBox b r c, chkMap r (if nameE s.name names = 0 then names ++ [s.name] else names)] H') ?_) (fun _ _ h => ⟨_, h.2, h.1, rfl⟩)
  simp [hy1, hlt]
  intro b5
  refine (cname_s b r c s.name hx.name names hn).c1.mono ?_
  rintro rr H' ⟨_, ⟨rfl, rfl⟩, rfl⟩
  by_cases hne : nameE s.name names = 0
  · have hsub : ∀ l, subP [chkBox b r c, chkMap r (names ++ [s.name])] [(5, .box b5 l), chkBox b r c, chkMap r (names ++ [s.name])] := fun l => (subP.refl _).c _
    simp [hne]
    refine ⟨fun hk => ?_, fun hk0 hk3 => ?_⟩
    · simp [signalE, hne, hsub]
      omega
    · refine V.draw (fun t => if t = 37 then some (.fn (aI (countC c))) else if t = 38 then some (.fn (aI (checkE s.on (countC c)))) else none) (by kernel_rfl) (by kernel_rfl) (by simp) ?_
      have e1 := count_c c h
      have e2 := check_fn s.on hx.on (countC c)
      simp at e1 e2 ⊢
      refine ⟨e1, e2, fun hc => ?_, fun hc => ?_⟩
      · simp [signalE, hne, hc, hsub, Int.not_lt.2 hk0]
        omega
      · obtain hk | hk | hk : s.kind = 0 ∨ s.kind = 1 ∨ s.kind = 2 := by omega
        · have e : signalE c i s names = gateE c i s := by simp [signalE, hne, hc, hk]
          refine V.draw (fun t => if t = 50 then some (.ro (aI (signalE c i s names))) else none) (by kernel_rfl) (by kernel_rfl) (by simp) ?_
          simp [hk, hsub]
          rw [e]
          exact ⟨gate_s b r c h i s hi hx (hv hc), by rw [if_pos hne]; exact hsub _⟩
        · have e : signalE c i s names = memE c s := by simp [signalE, hne, hc, hk]
          refine V.draw (fun t => if t = 50 then some (.ro (aI (signalE c i s names))) else none) (by kernel_rfl) (by kernel_rfl) (by simp) ?_
          simp [hk, hsub]
          rw [e]
          exact ⟨memory_s b r c h i s hi hx, by rw [if_pos hne]; exact hsub _⟩
        · have e : signalE c i s names = timE s := by simp [signalE, hne, hc, hk]
          refine V.draw (fun t => if t = 50 then some (.ro (aI (signalE c i s names))) else none) (by kernel_rfl) (by kernel_rfl) (by simp) ?_
          simp [hk, hsub]
          rw [e]
          exact ⟨timer_s b r c i s hi hx, by rw [if_pos hne]; exact hsub _⟩
  · have hsub : ∀ l, subP [chkBox b r c, chkMap r names] [(5, .box b5 l), chkBox b r c, chkMap r names] := fun l => (subP.refl _).c _
    simp [hne, signalE, hsub]
end Go.Proofs.YtdnkpogfcpjkpaaGreatDoor
end

section
namespace Go.Proofs.YtdnkpogfcpjkpaaGreatDoor
set_option maxHeartbeats 1000000
structure Pin where
  part : List UInt8
  port : List UInt8
  deriving DecidableEq
abbrev noPin : Pin := ⟨[], []⟩
abbrev encPin (p : Pin) : List L := [.str p.part, .str p.port]
structure Made where
  kind : Int
  name : List UInt8
  delay : Int
  signal : Int
  arg : Option Expr
  valve : Int
  line : Int
structure Mk where
  parts : List Made
  joins : List (Pin × Pin)
  number : Nat
  signal : Int
  gates : List (Int × Pin)
abbrev numT (n : Nat) : List UInt8 := Go.Lib.decDigits n
def letterT (a : Nat) : List UInt8 := [UInt8.ofNat (65 + a)]
def ownT (c : Control) (i : Nat) : List UInt8 := (if kindAt c i = 2 then 84 else 77) :: numT i
abbrev supPin : Pin := ⟨[83], [49]⟩
def joinD (a b : Pin) : List (Pin × Pin) := if a = noPin ∨ b = noPin then [] else [(a, b)]
def Mk.add (m : Mk) (kind : Int) (name : List UInt8) (delay line : Int) : Mk := { m with parts := m.parts ++ [⟨kind, name, delay, m.signal, none, -1, line⟩] }
def Mk.join (m : Mk) (a b : Pin) : Mk := { m with joins := m.joins ++ joinD a b }
def Mk.feed (m : Mk) (name : List UInt8) : Mk := m.join supPin ⟨name, [49]⟩
def getG : List (Int × Pin) → Int → Option Pin
  | [], _ => none
  | q :: r, k => if q.1 = k then some q.2 else getG r k
def putG : List (Int × Pin) → Int → Pin → List (Int × Pin)
  | [], k, p => [(k, p)]
  | q :: r, k, p => if q.1 = k then (k, p) :: r else q :: putG r k p
def portM (c : Control) (gates : List (Int × Pin)) (line : Int) : Pin :=
  if line < 2 * c.actuators then ⟨letterT (line.toNat / 2) ++ numT (line.toNat % 2), [50]⟩
  else if line < firstC c then ⟨c.inputs.getD (line - 2 * c.actuators).toNat [], [50]⟩
  else if kindAt c (line - firstC c) = 1 then ⟨ownT c (line - firstC c).toNat, [52]⟩
  else if kindAt c (line - firstC c) = 2 then ⟨ownT c (line - firstC c).toNat, [50]⟩
  else (getG gates line).getD noPin
structure Dl where
  parts : List Made
  joins : List (Pin × Pin)
  num : Nat
  pin : Pin
def airD (fl : Bool) (p : Pin) : List (Pin × Pin) := if fl = true then joinD p supPin else joinD supPin p
def notD (fl : Bool) (sg : Int) (d : Dl) (x : Expr) : Dl :=
  ⟨d.parts ++ [⟨5, 78 :: numT d.num, 0, sg, some x, -1, -1⟩], d.joins ++ airD fl ⟨78 :: numT d.num, [49]⟩ ++ joinD d.pin ⟨78 :: numT d.num, [49, 48]⟩, d.num + 1, ⟨78 :: numT d.num, [50]⟩⟩
def twinD (sg kind : Int) (letter : UInt8) (d : Dl) (p : Pin) : Dl :=
  ⟨d.parts ++ [⟨kind, letter :: numT d.num, 0, sg, none, -1, -1⟩], d.joins ++ joinD d.pin ⟨letter :: numT d.num, [49]⟩ ++ joinD p ⟨letter :: numT d.num, [49, 49]⟩, d.num + 1, ⟨letter :: numT d.num, [50]⟩⟩
structure Ds' where
  parts : List Made
  joins : List (Pin × Pin)
  num : Nat
  pins : List Pin
def foldD (sg : Int) (op : Int) (r : Ds') : Dl := match r.pins with
  | p :: ps => ps.foldl (twinD sg (if op = 3 then 9 else 8) (if op = 3 then 80 else 81)) ⟨r.parts, r.joins, r.num, p⟩
  | [] => ⟨r.parts, r.joins, r.num, noPin⟩
def notsD (fl : Bool) (sg : Int) (r : Ds') (x : Option Expr) : Dl := match x with
  | some y => notD fl sg ⟨r.parts, r.joins, r.num, r.pins.headD noPin⟩ y
  | none => ⟨r.parts, r.joins, r.num, noPin⟩
mutual
def exprD (fl : Bool) (pf : Int → Pin) (sg : Int) : Expr → Nat → Dl
  | ⟨op, ix, args⟩, k =>
    if op = 0 then ⟨[], [], k, if ix = 1 then supPin else noPin⟩
    else if op = 1 then ⟨[], [], k, pf ix⟩
    else if op = 2 then notsD fl sg (argsD fl pf sg args k) args.head?
    else foldD sg op (argsD fl pf sg args k)
def argsD (fl : Bool) (pf : Int → Pin) (sg : Int) : List Expr → Nat → Ds'
  | [], k => ⟨[], [], k, []⟩
  | x :: xs, k =>
    ⟨(exprD fl pf sg x k).parts ++ (argsD fl pf sg xs (exprD fl pf sg x k).num).parts, (exprD fl pf sg x k).joins ++ (argsD fl pf sg xs (exprD fl pf sg x k).num).joins,
      (argsD fl pf sg xs (exprD fl pf sg x k).num).num, (exprD fl pf sg x k).pin :: (argsD fl pf sg xs (exprD fl pf sg x k).num).pins⟩
end
theorem exprD_eq (fl : Bool) (pf : Int → Pin) (sg : Int) (x : Expr) (k : Nat) : exprD fl pf sg x k =
    if x.op = 0 then ⟨[], [], k, if x.index = 1 then supPin else noPin⟩
    else if x.op = 1 then ⟨[], [], k, pf x.index⟩
    else if x.op = 2 then notsD fl sg (argsD fl pf sg x.args k) x.args.head?
    else foldD sg x.op (argsD fl pf sg x.args k) := by
  cases x
  rw [exprD]
theorem argsD_snoc (fl : Bool) (pf : Int → Pin) (sg : Int) (y : Expr) : ∀ (xs : List Expr) (k : Nat), argsD fl pf sg (xs ++ [y]) k =
    ⟨(argsD fl pf sg xs k).parts ++ (exprD fl pf sg y (argsD fl pf sg xs k).num).parts, (argsD fl pf sg xs k).joins ++ (exprD fl pf sg y (argsD fl pf sg xs k).num).joins,
      (exprD fl pf sg y (argsD fl pf sg xs k).num).num, (argsD fl pf sg xs k).pins ++ [(exprD fl pf sg y (argsD fl pf sg xs k).num).pin]⟩
  | [], k => by simp [argsD]
  | x :: xs, k => by simp [argsD, argsD_snoc fl pf sg y xs]
theorem argsD_len (fl : Bool) (pf : Int → Pin) (sg : Int) : ∀ (xs : List Expr) (k : Nat), (argsD fl pf sg xs k).pins.length = xs.length
  | [], k => rfl
  | x :: xs, k => by simp [argsD, argsD_len fl pf sg xs]
def Mk.app (m : Mk) (d : Dl) : Mk := { m with parts := m.parts ++ d.parts, joins := m.joins ++ d.joins, number := d.num }
def Mk.expr (c : Control) (m : Mk) (x : Expr) : Dl := exprD false (portM c m.gates) m.signal x m.number
def Mk.valve (m : Mk) (a : Int) : Mk := { m with parts := m.parts.set (m.parts.length - 1) (match m.parts[m.parts.length - 1]? with
  | some p => { p with valve := a }
  | none => ⟨0, [], 0, 0, none, 0, 0⟩) }
def actM (m : Mk) (a : Nat) : Mk :=
  (((((((((m.add 1 (letterT a) 0 (-1)).add 6 (letterT a ++ [48]) 0 (2 * a)).feed (letterT a ++ [48])).add 6 (letterT a ++ [49]) 0 (2 * a + 1)).feed (letterT a ++ [49])).add 2 (86 :: letterT a) 0 (-1)).valve a).feed (86 :: letterT a)).join
    ⟨86 :: letterT a, [50]⟩ ⟨letterT a, [50]⟩).join ⟨86 :: letterT a, [52]⟩ ⟨letterT a, [52]⟩
def inM (c : Control) (m : Mk) (i : Nat) : Mk := (m.add 7 (c.inputs.getD i []) 0 (2 * c.actuators + i)).feed (c.inputs.getD i [])
def machineM (c : Control) : Mk := (List.range c.inputs.length).foldl (inM c) ((List.range c.actuators.toNat).foldl actM ((⟨[], [], 0, -1, []⟩ : Mk).add 0 [83] 0 (-1)))
def Mk.sig (m : Mk) (i : Nat) : Mk := { m with signal := i }
def gateM (c : Control) (m : Mk) (i : Nat) : Mk :=
  if kindAt c i = 0 then
    { (m.sig i).app ((m.sig i).expr c (((c.signals[i]?).map (·.on)).getD ⟨0, 0, []⟩)) with gates := putG m.gates (firstC c + i) ((m.sig i).expr c (((c.signals[i]?).map (·.on)).getD ⟨0, 0, []⟩)).pin }
  else m.sig i
def Mk.to (c : Control) (m : Mk) (x : Expr) (p : Pin) : Mk := (m.app (m.expr c x)).join (m.expr c x).pin p
def sigM (c : Control) (m : Mk) (i : Nat) : Mk := match c.signals[i]? with
  | some x =>
    if x.kind = 1 then (((((m.sig i).add 2 (ownT c i) 0 (firstC c + i)).feed (ownT c i)).to c x.on ⟨ownT c i, [49, 52]⟩).to c x.off ⟨ownT c i, [49, 50]⟩)
    else if x.kind = 2 then (((m.sig i).add 12 (ownT c i) x.delay (firstC c + i)).feed (ownT c i)).to c x.on ⟨ownT c i, [49, 50]⟩
    else m.sig i
  | none => m
def pilM (c : Control) (m : Mk) (a : Nat) : Mk :=
  (m.join (portM c m.gates (c.plus.getD a 0)) ⟨86 :: letterT a, [49, 52]⟩).join (portM c m.gates (c.minus.getD a 0)) ⟨86 :: letterT a, [49, 50]⟩
def wholeM (c : Control) : Mk := (List.range c.actuators.toNat).foldl (pilM c) ((List.range c.signals.length).foldl (sigM c) ((List.range c.signals.length).foldl (gateM c) (machineM c)))
end Go.Proofs.YtdnkpogfcpjkpaaGreatDoor
end

section
namespace Go.Proofs.YtdnkpogfcpjkpaaGreatDoor
set_option maxHeartbeats 1000000
mutual
def sizeN : Expr → Nat
  | ⟨_, _, args⟩ => 1 + sizeNL args
def sizeNL : List Expr → Nat
  | [] => 0
  | x :: xs => sizeN x + sizeNL xs
end
theorem sizeN_eq (x : Expr) : sizeN x = 1 + sizeNL x.args := by cases x; rw [sizeN]
theorem size_pre : ∀ (N : Nat) (x : Expr), SizeOf.sizeOf x < N → ∀ d : Int, (∀ p ∈ preE x d, p.1 ≤ 16) → sizeN x = (preE x d).length
  | 0, _, h, _, _ => absurd h (Nat.not_lt_zero _)
  | N + 1, x, hN, d, h1 => by
    have hd : d ≤ 16 := h1 (d, x) (by rw [preE_eq]; simp)
    have key : ∀ l : List Expr, (∀ y ∈ l, y ∈ x.args) → sizeNL l = (preL l (d + 1)).length := by
      intro l
      induction l with
      | nil => intro _; rfl
      | cons y l ih =>
        intro hl
        have hy := hl y (by simp)
        rw [sizeNL, preL, List.length_append, ih fun z hz => hl z (by simp [hz])]
        rw [size_pre N y (by have := Expr.lt_of_mem hy; omega) (d + 1) fun p hp => h1 p ?_]
        rw [preE_eq, if_pos hd]
        exact List.mem_cons_of_mem _ (preL_mem hp hy)
    rw [sizeN_eq, preE_eq, if_pos hd, key x.args fun _ h => h, List.length_cons]
    omega
theorem meas_len : ∀ {l : List (Int × Expr)} {s s' : Int × Int}, l.foldlM measS s = .ok s' → s'.1 = s.1 + l.length ∧ (l ≠ [] → s'.1 ≤ 256)
  | [], s, s', h => by
    simp only [List.foldlM_nil, pure, Except.pure, Except.ok.injEq] at h
    subst h
    exact ⟨by simp, fun h => absurd rfl h⟩
  | q :: r, s, s', h => by
    rw [List.foldlM_cons] at h
    cases hs : measS s q with
    | error e => rw [hs] at h; simp [bind, Except.bind] at h
    | ok s1 =>
      rw [hs] at h
      have h2 := meas_len (l := r) (s := s1) (s' := s') h
      unfold measS at hs
      split at hs
      · cases hs
      · rename_i hc
        simp only [Except.ok.injEq] at hs
        subst hs
        refine ⟨by rw [h2.1]; simp; omega, fun _ => ?_⟩
        cases r with
        | nil => have := h2.1; simp at this; omega
        | cons a b => exact h2.2 (by simp)
theorem size_check {x : Expr} {n : Int} (h : checkE x n = 0) : sizeN x ≤ 256 := by
  unfold checkE at h
  split at h
  · cases h
  · split at h
    · cases h
    · rename_i s hm
      have h1 := meas_len hm
      rw [size_pre (SizeOf.sizeOf x + 1) x (by omega) 1 fun p hp => ?_]
      · have h2 := h1.2 (by rw [preE_eq]; simp)
        rw [h1.1] at h2
        simp only at h2
        omega
      · obtain ⟨s1, s2, h3⟩ := fold_ok hm p hp
        unfold measS at h3
        split at h3
        · cases h3
        · omega
structure Small (k : Nat) (n : Nat) (ps : List Made) (js : List (Pin × Pin)) (m : Nat) : Prop where
  num : m = k + ps.length
  parts : ps.length ≤ n
  joins : js.length ≤ 3 * ps.length
theorem joinD_len (a b : Pin) : (joinD a b).length ≤ 1 := by
  unfold joinD
  split <;> simp
theorem airD_len (fl : Bool) (p : Pin) : (airD fl p).length ≤ 1 := by
  unfold airD
  split <;> exact joinD_len _ _
theorem twin_small {sg kind : Int} {letter : UInt8} {k : Nat} : ∀ (ps : List Pin) {n : Nat} {d : Dl}, Small k n d.parts d.joins d.num → Small k (n + ps.length) (ps.foldl (twinD sg kind letter) d).parts (ps.foldl (twinD sg kind letter) d).joins (ps.foldl (twinD sg kind letter) d).num
  | [], n, d, h => by simpa using h
  | p :: ps, n, d, h => by
    have h1 : Small k (n + 1) (twinD sg kind letter d p).parts (twinD sg kind letter d p).joins (twinD sg kind letter d p).num := by
      obtain ⟨a1, a2, a3⟩ := h
      have j1 := joinD_len d.pin ⟨letter :: numT d.num, [49]⟩
      have j2 := joinD_len p ⟨letter :: numT d.num, [49, 49]⟩
      refine ⟨?_, ?_, ?_⟩
      · simp only [twinD, List.length_append, List.length_cons, List.length_nil]; omega
      · simp only [twinD, List.length_append, List.length_cons, List.length_nil]; omega
      · simp only [twinD, List.length_append, List.length_cons, List.length_nil]; omega
    have h2 := twin_small (sg := sg) (kind := kind) (letter := letter) ps h1
    rw [List.foldl_cons, List.length_cons, show n + (ps.length + 1) = n + 1 + ps.length by omega]
    exact h2
theorem sizeN_pos (x : Expr) : 1 ≤ sizeN x := by rw [sizeN_eq]; omega
theorem sizeNL_len : ∀ xs : List Expr, xs.length ≤ sizeNL xs
  | [] => by simp
  | x :: xs => by
    have := sizeNL_len xs
    have := sizeN_pos x
    rw [sizeNL, List.length_cons]
    omega
mutual
theorem expr_small (fl : Bool) (pf : Int → Pin) (sg : Int) : ∀ (x : Expr) (k : Nat), Small k (sizeN x - 1) (exprD fl pf sg x k).parts (exprD fl pf sg x k).joins (exprD fl pf sg x k).num
  | ⟨op, ix, args⟩, k => by
    have h := args_small fl pf sg args k
    have hl := argsD_len fl pf sg args k
    have hn := sizeNL_len args
    rw [exprD_eq, sizeN_eq]
    dsimp only
    split
    · exact ⟨by simp, by simp, by simp⟩
    · split
      · exact ⟨by simp, by simp, by simp⟩
      · generalize argsD fl pf sg args k = r at *
        obtain ⟨r1, r2, r3, r4⟩ := r
        dsimp only at h hl ⊢
        split
        · obtain ⟨a1, a2, a3⟩ := h
          have j1 := airD_len fl ⟨78 :: numT r3, [49]⟩
          have j2 := joinD_len (r4.headD noPin) ⟨78 :: numT r3, [49, 48]⟩
          cases args with
          | nil => exact ⟨a1, by simp only [notsD, List.head?_nil]; omega, a3⟩
          | cons y ys =>
            simp only [List.length_cons] at a2 hn
            simp only [List.head?_cons, notsD]
            refine ⟨?_, ?_, ?_⟩
            · simp only [notD, List.length_append, List.length_cons, List.length_nil]; omega
            · simp only [notD, List.length_append, List.length_cons, List.length_nil]; omega
            · simp only [notD, List.length_append, List.length_cons, List.length_nil]; omega
        · unfold foldD
          dsimp only
          cases r4 with
          | nil => exact ⟨h.num, by have := h.parts; dsimp only; omega, h.joins⟩
          | cons p ps =>
            have h2 := twin_small (sg := sg) (kind := if op = 3 then 9 else 8) (letter := if op = 3 then 80 else 81) ps (d := ⟨r1, r2, r3, p⟩) h
            simp only [List.length_cons] at hl
            exact ⟨h2.num, Nat.le_trans h2.parts (by omega), h2.joins⟩
theorem args_small (fl : Bool) (pf : Int → Pin) (sg : Int) : ∀ (xs : List Expr) (k : Nat), Small k (sizeNL xs - xs.length) (argsD fl pf sg xs k).parts (argsD fl pf sg xs k).joins (argsD fl pf sg xs k).num
  | [], k => ⟨by simp [argsD], by simp [argsD], by simp [argsD]⟩
  | x :: xs, k => by
    obtain ⟨a1, a2, a3⟩ := expr_small fl pf sg x k
    obtain ⟨b1, b2, b3⟩ := args_small fl pf sg xs (exprD fl pf sg x k).num
    have hn := sizeNL_len xs
    have hx := sizeN_pos x
    rw [argsD, sizeNL]
    refine ⟨?_, ?_, ?_⟩
    · simp only [List.length_append]; omega
    · simp only [List.length_append, List.length_cons]; omega
    · simp only [List.length_append]; omega
end
end Go.Proofs.YtdnkpogfcpjkpaaGreatDoor
end

section
namespace Go.Proofs.YtdnkpogfcpjkpaaGreatDoor
set_option maxHeartbeats 1000000
structure Dr where
  gears : List Made
  links : List (Pin × Pin)
  ends : List Pin
  count : Nat
def Dr.link (d : Dr) (a b : Pin) : Dr := { d with links := d.links ++ joinD a b }
def Dr.put (d : Dr) (p : Made) (air : Bool) : Dr := { d with gears := d.gears ++ [p], links := d.links ++ (if air = true then joinD ⟨p.name, [49]⟩ supPin else []) }
def Dr.ended (d : Dr) (l : List Pin) : Dr := { d with ends := d.ends ++ l }
def Dr.app (d : Dr) (x : Dl) : Dr := { d with gears := d.gears ++ x.parts, links := d.links ++ x.joins, count := x.num }
def Dr.expr (d : Dr) (x : Expr) (sg : Int) : Dl := exprD true (fun i => d.ends.getD i.toNat noPin) sg x d.count
def actR (d : Dr) (a : Nat) : Dr :=
  ((((((d.put ⟨1, letterT a, 0, -1, none, -1, -1⟩ false).put ⟨6, letterT a ++ [48], 0, -1, none, -1, 2 * a⟩ true).put ⟨6, letterT a ++ [49], 0, -1, none, -1, 2 * a + 1⟩ true).put ⟨2, 86 :: letterT a, 0, -1, none, a, -1⟩ true).link
    ⟨86 :: letterT a, [50]⟩ ⟨letterT a, [50]⟩).link ⟨86 :: letterT a, [52]⟩ ⟨letterT a, [52]⟩).ended [⟨letterT a ++ [48], [50]⟩, ⟨letterT a ++ [49], [50]⟩]
def inR37 (c : Control) (d : Dr) (i : Nat) : Dr := (d.put ⟨7, c.inputs.getD i [], 0, -1, none, -1, 2 * c.actuators + i⟩ true).ended [⟨c.inputs.getD i [], [50]⟩]
def sigF (c : Control) (d : Dr) (i : Nat) : Dr := match c.signals[i]? with
  | some x =>
    if x.kind = 1 then (d.put ⟨2, ownT c i, 0, i, none, -1, firstC c + i⟩ true).ended [⟨ownT c i, [52]⟩]
    else if x.kind = 2 then (d.put ⟨12, ownT c i, x.delay, i, none, -1, firstC c + i⟩ true).ended [⟨ownT c i, [50]⟩]
    else d.ended [noPin]
  | none => d
def frameR (c : Control) : Dr := (List.range c.signals.length).foldl (sigF c) ((List.range c.inputs.length).foldl (inR37 c) ((List.range c.actuators.toNat).foldl actR ((⟨[], [], [], 0⟩ : Dr).put ⟨0, [83], 0, -1, none, -1, -1⟩ false)))
def gateR (c : Control) (d : Dr) (i : Nat) : Dr := match c.signals[i]? with
  | some x => if x.kind = 0 then { d.app (d.expr x.on i) with ends := d.ends.set (firstC c + i).toNat (d.expr x.on i).pin } else d
  | none => d
def Dr.to (d : Dr) (x : Expr) (sg : Int) (p : Pin) : Dr := (d.app (d.expr x sg)).link (d.expr x sg).pin p
def sigR (c : Control) (d : Dr) (i : Nat) : Dr := match c.signals[i]? with
  | some x =>
    if x.kind = 0 then d
    else if x.kind = 2 then d.to x.on i ⟨ownT c i, [49, 50]⟩
    else (d.to x.on i ⟨ownT c i, [49, 52]⟩).to x.off i ⟨ownT c i, [49, 50]⟩
  | none => d
def pilR (c : Control) (d : Dr) (a : Nat) : Dr :=
  (d.link (d.ends.getD (c.plus.getD a 0).toNat noPin) ⟨86 :: letterT a, [49, 52]⟩).link (d.ends.getD (c.minus.getD a 0).toNat noPin) ⟨86 :: letterT a, [49, 50]⟩
def wholeR (c : Control) : Dr := (List.range c.actuators.toNat).foldl (pilR c) ((List.range c.signals.length).foldl (sigR c) ((List.range c.signals.length).foldl (gateR c) (frameR c)))
inductive Flips : List (Pin × Pin) → List (Pin × Pin) → Prop
  | nil : Flips [] []
  | keep {p l m} : Flips l m → Flips (p :: l) (p :: m)
  | swap {a b l m} : Flips l m → Flips ((a, b) :: l) ((b, a) :: m)
theorem Flips.refl : ∀ l, Flips l l
  | [] => .nil
  | _ :: l => .keep (Flips.refl l)
theorem Flips.app {l m l' m' : List (Pin × Pin)} (h : Flips l m) (h' : Flips l' m') : Flips (l ++ l') (m ++ m') := by
  induction h with
  | nil => exact h'
  | keep _ ih => exact .keep ih
  | swap _ ih => exact .swap ih
theorem Flips.length {l m : List (Pin × Pin)} (h : Flips l m) : l.length = m.length := by
  induction h with
  | nil => rfl
  | keep _ ih => simp [ih]
  | swap _ ih => simp [ih]
theorem joinD_flip (a b : Pin) : Flips (joinD a b) (joinD b a) := by
  unfold joinD
  by_cases h : a = noPin ∨ b = noPin
  · rw [if_pos h, if_pos h.symm]
    exact .nil
  · rw [if_neg h, if_neg fun e => h e.symm]
    exact .swap .nil
theorem airD_flip (p : Pin) : Flips (airD false p) (airD true p) := joinD_flip _ _
structure SameD (a b : Dl) : Prop where
  parts : a.parts = b.parts
  joins : Flips a.joins b.joins
  num : a.num = b.num
  pin : a.pin = b.pin
theorem twin_same {sg kind : Int} {letter : UInt8} : ∀ (ps : List Pin) {a b : Dl}, SameD a b → SameD (ps.foldl (twinD sg kind letter) a) (ps.foldl (twinD sg kind letter) b)
  | [], a, b, h => h
  | p :: ps, a, b, h => by
    refine twin_same ps ?_
    obtain ⟨a1, a2, a3, a4⟩ := a
    obtain ⟨b1, b2, b3, b4⟩ := b
    obtain ⟨rfl, h2, rfl, rfl⟩ := h
    exact ⟨rfl, (h2.app (Flips.refl _)).app (Flips.refl _), rfl, rfl⟩
mutual
theorem expr_same {pf qf : Int → Pin} (sg : Int) : ∀ (x : Expr) (k : Nat), (∀ v ∈ varsE x, pf v = qf v) → SameD (exprD false pf sg x k) (exprD true qf sg x k)
  | ⟨op, ix, args⟩, k, h => by
    have ha := args_same (pf := pf) (qf := qf) sg args k fun v hv => h v (by simp only [varsE]; exact List.mem_append_right _ hv)
    obtain ⟨h1, h2, h3, h4⟩ := ha
    rw [exprD_eq, exprD_eq]
    dsimp only
    split
    · exact ⟨rfl, .nil, rfl, rfl⟩
    · split
      · rename_i h1
        exact ⟨rfl, .nil, rfl, h ix (by simp [varsE, h1])⟩
      · generalize argsD false pf sg args k = r at *
        generalize argsD true qf sg args k = q at *
        obtain ⟨r1, r2, r3, r4⟩ := r
        obtain ⟨q1, q2, q3, q4⟩ := q
        dsimp only at h1 h2 h3 h4 ⊢
        subst h1 h3 h4
        split
        · unfold notsD
          cases args.head? with
          | none => exact ⟨rfl, h2, rfl, rfl⟩
          | some y => exact ⟨rfl, (h2.app (airD_flip _)).app (Flips.refl _), rfl, rfl⟩
        · unfold foldD
          dsimp only
          cases r4 with
          | nil => exact ⟨rfl, h2, rfl, rfl⟩
          | cons p ps => exact twin_same ps ⟨rfl, h2, rfl, rfl⟩
theorem args_same {pf qf : Int → Pin} (sg : Int) : ∀ (xs : List Expr) (k : Nat), (∀ v ∈ varsL xs, pf v = qf v) → (argsD false pf sg xs k).parts = (argsD true qf sg xs k).parts ∧ Flips (argsD false pf sg xs k).joins (argsD true qf sg xs k).joins ∧
    (argsD false pf sg xs k).num = (argsD true qf sg xs k).num ∧ (argsD false pf sg xs k).pins = (argsD true qf sg xs k).pins
  | [], k, _ => ⟨rfl, .nil, rfl, rfl⟩
  | x :: xs, k, h => by
    obtain ⟨a1, a2, a3, a4⟩ := expr_same (pf := pf) (qf := qf) sg x k fun v hv => h v (by simp only [varsL]; exact List.mem_append_left _ hv)
    obtain ⟨b1, b2, b3, b4⟩ := args_same (pf := pf) (qf := qf) sg xs (exprD false pf sg x k).num fun v hv => h v (by simp only [varsL]; exact List.mem_append_right _ hv)
    simp only [argsD]
    rw [← a3]
    exact ⟨by rw [a1, b1], a2.app b2, b3, by rw [a4, b4]⟩
end
end Go.Proofs.YtdnkpogfcpjkpaaGreatDoor
end

section
namespace Go.Proofs.YtdnkpogfcpjkpaaGreatDoor
set_option maxHeartbeats 2000000
set_option maxRecDepth 10000
theorem grow_o (n : Int) (h0 : 0 ≤ n) (h1 : n ≤ 4294967296) : CallOwn Tryz.prog 195 [.nils, aI n] 3 1 [] := by
  refine callO_of Tryz.func195 rfl Tryz.ntmps195 (rs := [.tmp 4]) rfl (by kernel_rfl) (by simp) (by kernel_rfl) ?_
  by_cases hn : 0 < n
  · simp [hn, Int.not_lt.2 h0]
    omega
  · have e : n = 0 := by omega
    subst e
    simp
def sumL (xss : List (List Int)) : Nat := (xss.map List.length).sum
theorem concat_o (xss : List (List Int)) (h : sumL xss ≤ 4294967296) (h1 : xss.length ≤ 4294967296) : CallOwn Tryz.prog 144 [.dat (.sl (xss.map fun xs => [.sl (xs.map encI)]))] 3 1 (xss.flatten.map rI) := by
  refine callO_of Tryz.func144 rfl Tryz.ntmps144 (rs := [.tmp 2]) rfl (by kernel_rfl) (by simp) (by kernel_rfl) ?_
  have hle : ∀ i, (xss.take i).flatten.length ≤ sumL xss := by
    intro i
    have e : xss = xss.take i ++ xss.drop i := (List.take_append_drop i xss).symm
    have : sumL xss = sumL (xss.take i) + sumL (xss.drop i) := by
      unfold sumL
      conv => lhs; rw [e]
      rw [List.map_append, List.sum_append]
    rw [List.length_flatten]
    unfold sumL at this ⊢
    omega
  have hst : ∀ i y, xss[i]? = some y → (xss.take (i + 1)).flatten = (xss.take i).flatten ++ y := by
    intro i y hy
    rw [List.take_add_one, hy]
    simp
  obtain ⟨L, hL⟩ : ∃ L : Nat → Nat, ∀ i, L i = (xss.take i).flatten.length := ⟨_, fun _ => rfl⟩
  have hL0 : L 0 = 0 := by simp [hL]
  have hLs : ∀ i y, xss[i]? = some y → L (i + 1) = L i + y.length := by
    intro i y hy
    rw [hL, hL, hst i y hy, List.length_append]
  have hLm : ∀ i, L i ≤ sumL xss := fun i => by rw [hL]; exact hle i
  simp
  refine V.forI (σ := Unit) xss.length [0, 2, 9, 10] (by simp; exact rfl) (fun i _ => [(11, aI i), (3, aI (L i))]) (fun _ _ => []) (fun _ _ => True) () (by simp) (by simp [hL0]) ⟨by simp; exact rfl, by simp⟩ ?_ ?_
  · rintro i - hi -
    have hy := List.getElem?_eq_getElem hi
    have hs := hLs i _ hy
    have hl := hLm (i + 1)
    simp [hi, hs]
    omega
  · rintro - -
    have hl := hLm xss.length
    simp
    refine (grow_o _ (by omega) (by omega)).s 50 ?_
    intro hd
    simp
    refine V.forL (γ := Value) xss [2, 25, 26] (by simp; exact rfl) (fun i _ g => [(27, aI i), (6, .own 50 g)]) (fun i _ g => [(50, .seq g 3 1 ((xss.take i).flatten.map rI))]) (fun (_ : Unit) (_ : List Int) => (Except.ok () : Except Unit Unit)) (fun _ _ => True) () hd trivial (by simp) ⟨by simp; exact rfl, by simp⟩ ?_ ?_
    · rintro i - g y hi hy - -
      have hy' : xss[i]? = some y := by rw [List.getElem?_eq_getElem hi, hy]
      have hs := hst i _ hy'
      have hl2 := hle (i + 1)
      rw [hs, List.length_append] at hl2
      rw [hs]
      generalize (xss.take i).flatten = zs at hl2
      simp [hi, hy]
      omega
    · rintro - g - -
      simp
theorem rowsD_I (xs : List Int) : rowsD (xs.map rI) = xs.map encI := by unfold rowsD; rw [List.map_map]; rfl
theorem rowsD_B (xs : List Bool) : rowsD (xs.map rB) = xs.map encB := by unfold rowsD; rw [List.map_map]; rfl
theorem allD_I (xs : List Int) : allD (xs.map rI) = true := by simp [allD, isD]
theorem allD_B (xs : List Bool) : allD (xs.map rB) = true := by simp [allD, isD]
attribute [simp] rowsD_I rowsD_B allD_I allD_B
theorem concat_fn (xss : List (List Int)) (h : sumL xss ≤ 4294967296) (h1 : xss.length ≤ 4294967296) : CallFn Tryz.prog 144 [.dat (.sl (xss.map fun xs => [.sl (xs.map encI)]))] (aIs xss.flatten) := by
  have := (concat_o xss h h1).fn (by simp [allD, isD])
  rwa [rowsD_I] at this
def firstErr {ι : Type} (f : ι → Int) : List ι → Int
  | [] => 0
  | x :: xs => if f x ≠ 0 then f x else firstErr f xs
def NoE (f : Nat → Int) (n : Nat) : Prop := ∀ j, j < n → f j = 0
theorem NoE.zero (f : Nat → Int) : NoE f 0 := fun j h => absurd h (Nat.not_lt_zero j)
theorem NoE.succ {f : Nat → Int} {n : Nat} (h : NoE f n) (e : f n = 0) : NoE f (n + 1) := fun j hj => by
  rcases Nat.lt_or_ge j n with h1 | h1
  · exact h j h1
  · obtain rfl : j = n := by omega
    exact e
theorem firstErr_app {ι : Type} (f : ι → Int) : ∀ (l r : List ι), (∀ x ∈ l, f x = 0) → firstErr f (l ++ r) = firstErr f r
  | [], _, _ => rfl
  | x :: l, r, h => by
    simp only [List.cons_append, firstErr, h x (by simp), ne_eq, not_true_eq_false, if_false]
    exact firstErr_app f l r fun y hy => h y (by simp [hy])
theorem firstErr_at {f : Nat → Int} {n i : Nat} (h : NoE f i) (hi : i < n) (e : f i ≠ 0) : firstErr f (List.range n) = f i := by
  have e1 : List.range n = List.range i ++ (i :: (List.range n).drop (i + 1)) := by
    have h1 := List.take_append_drop i (List.range n)
    rw [List.take_range, Nat.min_eq_left (by omega)] at h1
    rw [← h1]
    congr 1
    rw [h1, List.drop_eq_getElem_cons (by simpa using hi)]
    simp
  rw [e1, firstErr_app f _ _ (fun x hx => h x (by simpa using hx))]
  simp [firstErr, e]
theorem firstErr_all {f : Nat → Int} {n : Nat} (h : NoE f n) : firstErr f (List.range n) = 0 := by
  have := firstErr_app f (List.range n) [] (fun x hx => h x (by simpa using hx))
  simpa [firstErr] using this
theorem firstErr_zero {f : Nat → Int} : ∀ {n : Nat}, firstErr f (List.range n) = 0 → NoE f n := by
  intro n h j hj
  by_cases hz : f j = 0
  · exact hz
  · -- the least index with an error
    have hex : ∃ k, k ≤ j ∧ f k ≠ 0 ∧ NoE f k := by
      clear h hj n
      induction j using Nat.strongRecOn with
      | ind j ih =>
        by_cases hn : NoE f j
        · exact ⟨j, Nat.le_refl _, hz, hn⟩
        · simp only [NoE, Classical.not_forall] at hn
          obtain ⟨m, hm, hmz⟩ := hn
          obtain ⟨k, h1, h2, h3⟩ := ih m hm hmz
          exact ⟨k, by omega, h2, h3⟩
    obtain ⟨k, h1, h2, h3⟩ := hex
    rw [firstErr_at h3 (by omega) h2] at h
    exact absurd h h2
def namesB (c : Control) (n : Nat) : List (List UInt8) := (List.range n).map fun k : Nat => namedC c k
theorem namesB_succ (c : Control) (n : Nat) : namesB c (n + 1) = namesB c n ++ [namedC c n] := by simp [namesB, List.range_succ]
@[simp] theorem namesB_length (c : Control) (n : Nat) : (namesB c n).length = n := by simp [namesB]
def inpE (c : Control) (i : Nat) : Int := nameE (namedC c (2 * c.actuators.toNat + i : Nat)) (namesB c (2 * c.actuators.toNat + i))
def sigE (c : Control) (i : Nat) : Int := match c.signals[i]? with
  | some s => signalE c i s (namesB c (2 * c.actuators.toNat + c.inputs.length + i))
  | none => 0
def pilotE (c : Control) : Int :=
  if (c.plus.length : Int) ≠ c.actuators ∨ (c.minus.length : Int) ≠ c.actuators then 8
  else if (c.plus ++ c.minus).any (fun l => decide (l < 0) || decide (countC c ≤ l)) then 6 else 0
def checkC (c : Control) : Int :=
  if c.actuators < 1 ∨ c.actuators > 6 then 2
  else if c.inputs.length > 16 ∨ c.signals.length > 64 then 5
  else if firstErr (inpE c) (List.range c.inputs.length) ≠ 0 then firstErr (inpE c) (List.range c.inputs.length)
  else if firstErr (sigE c) (List.range c.signals.length) ≠ 0 then firstErr (sigE c) (List.range c.signals.length)
  else pilotE c
theorem lineName_eq (k : Nat) (hk : k < 12) : lineName k = [UInt8.ofNat (97 + k / 2), UInt8.ofNat (48 + k % 2)] := by
  unfold lineName
  have ed : Int.tdiv (k : Int) 2 = ((k / 2 : Nat) : Int) := by rw [Int.tdiv_eq_ediv_of_nonneg (by omega)]; rfl
  have em : Int.tmod (k : Int) 2 = ((k % 2 : Nat) : Int) := by rw [Int.tmod_eq_emod_of_nonneg (by omega)]; rfl
  rw [ed, em, encU_ascii (by omega) (by omega), encU_ascii (by omega) (by omega)]
  simp only [List.singleton_append, List.cons.injEq, and_true]
  constructor <;> congr 1
theorem lineName_inj {j k : Nat} (hj : j < 12) (hk : k < 12) (h : lineName j = lineName k) : j = k := by
  rw [lineName_eq j hj, lineName_eq k hk] at h
  simp only [List.cons.injEq, and_true] at h
  obtain ⟨h1, h2⟩ := h
  have e1 := congrArg UInt8.toNat h1
  have e2 := congrArg UInt8.toNat h2
  simp only [UInt8.toNat_ofNat'] at e1 e2
  omega
theorem named_line {c : Control} {k : Nat} (h : (k : Int) < 2 * c.actuators) : namedC c k = lineName k := by
  unfold namedC; rw [if_pos h]
theorem closure1_fn (c : Control) (h : Sm c) (n : Int) : CallFn Tryz.prog 145 [aI n, .rptr (encC c)] (aB (decide (n < 0) || decide (countC c ≤ n))) := by
  refine callFz_of Tryz.func145 rfl Tryz.ntmps145 (rs := [.tmp 3]) rfl (by kernel_rfl) (by simp) (by kernel_rfl) ?_
  simp
  refine GCall.fn (aI (countC c)) (fun hn => ⟨by omega, count_c c h⟩) ?_
  simp
end Go.Proofs.YtdnkpogfcpjkpaaGreatDoor
end
