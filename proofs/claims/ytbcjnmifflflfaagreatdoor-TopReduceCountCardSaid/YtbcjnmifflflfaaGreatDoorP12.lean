/- Texts joined by a program: Dc, Dd, Ha, Hb, Hc, So, Sk, Fwy, Fwx. -/
import Derived.Lib.ItoaNum
import Derived.Shelf.Sort.Plain
import Derived.Shelf.Slices.CompactI
import Derived.Shelf.Slices.In.SortNone
import Derived.Shelf.Strconv.Itoa3
import Derived.Shelf.Small.Strs
import Derived.Test.YtbcjnmifflflfaaGreatDoorProg
import Derived.KernelRfl
import Derived.Test.YtbcjnmifflflfaaGreatDoorP11
import Derived.Test.YtbcjnmifflflfaaGreatDoorP10
set_option linter.unusedSimpArgs false
set_option linter.unusedVariables false

/- Contracts: control's checker. -/
section
namespace Go.Proofs.YtbcjnmifflflfaaGreatDoor
set_option maxHeartbeats 2000000
set_option maxRecDepth 10000

abbrev chkBox (b r : Nat) (c : Control) : Nat × Ent := (32, .box b [.dat (.int .i64 c.actuators), .dat (.sl (c.inputs.map encT)), .dat (.sl (c.signals.map encS)), .dat (.sl (c.plus.map encI)), .dat (.sl (c.minus.map encI)), .map 30 r,
  .fn 181 [.ptr 32 b 0] [], .fn 182 [.ptr 32 b 0] [], .fn 183 [.ptr 32 b 0] []])
abbrev chkMap (r : Nat) (names : List (List UInt8)) : Nat × Ent := (30, .map r .string (mapOf names))

theorem cname_s (b r : Nat) (c : Control) (s : List UInt8) (hs : Sh s) (names : List (List UInt8)) (hn : names.length ≤ 1000000) : CallS Tryz.prog 185 [.ptr 32 b 0, aT s] [chkBox b r c, chkMap r names]
    fun rr H' => rr = aI (nameE s names) ∧ H' = [chkBox b r c, chkMap r (if nameE s names = 0 then names ++ [s] else names)] := by
  refine CallS.dropP (callS_of Tryz.func185 rfl Tryz.ntmps185 (rs := [.tmp 4]) rfl (by kernel_rfl) (by simp) (by kernel_rfl) (K := fun rr H' => rr = aI (nameE s names) ∧ subP [chkBox b r c, chkMap r (if nameE s names = 0 then names ++ [s] else names)] H') ?_) ?_
  · cases s with
    | nil =>
      simp [reads]
      refine GCall.fn (aB false) (by simp) ?_
      simp [nameE, wordS, subP.refl]
    | cons b0 s' =>
      simp [reads]
      refine GCall.fn (aB (!(b0 :: s').all partB)) (fun h => ⟨h, ?_⟩) ?_
      · rw [← all_bad]
        exact ContainsFuncS_fn (b0 :: s') hs badR (by intro r h; simp [badR]; omega) _ [] [] (fun r h0 h1 => by simpa using badR_fn r h0 h1)
      · simp [reads]
        have hlen : (b0 :: s').length = s'.length + 1 := rfl
        refine ⟨fun h => ?_, fun h1 h2 h3 h4 => ?_⟩
        · have e : nameE (b0 :: s') names = 3 := by
            rw [nameE, if_pos]
            simp [wordS]
            intro g1 g2 g3
            rcases h with (h | h) | h | h
            · omega
            · omega
            · rw [h] at g3; cases g3
            · exact h
          simp [e, subP.refl]
        · have hw : wordS (b0 :: s') = true := by
            simp [wordS]
            exact ⟨⟨by omega, by omega⟩, h3, h4⟩
          refine ⟨fun h5 => ?_, fun h5 => ⟨fun h6 => ?_, fun h6 => ?_⟩⟩
          · have e : nameE (b0 :: s') names = 17 := by simp [nameE, hw]; omega
            simp [e, subP.refl]
          · rw [mget_of] at h6
            have hm : (b0 :: s') ∈ names := by
              simp [List.findIdx?_isSome] at h6
              exact h6
            have e : nameE (b0 :: s') names = 7 := by simp [nameE, hw, hm]; omega
            simp [e, subP.refl]
          · rw [mget_of] at h6
            have hm : (b0 :: s') ∉ names := by
              simp at h6
              intro hm
              exact h6 _ hm rfl
            have e : nameE (b0 :: s') names = 0 := by simp [nameE, hw, hm]; omega
            refine V.draw (fun _ => none) (by kernel_rfl) (by kernel_rfl) (by simp) ?_
            simp [e]
            rw [mput_of hm]
            exact subP.refl _
  · rintro rr H' ⟨h1, h2⟩
    exact ⟨_, h2, h1, rfl⟩


/-! ### Variables of an expression, in preorder -/
mutual
def varsE : Expr → List Int
  | ⟨op, ix, args⟩ => (if op = 1 then [ix] else []) ++ varsL args
def varsL : List Expr → List Int
  | [] => []
  | x :: xs => varsE x ++ varsL xs
end
theorem varsE_eq (x : Expr) : varsE x = (if x.op = 1 then [x.index] else []) ++ varsL x.args := by cases x; simp [varsE]

theorem varsL_mem {n : Int} {y : Expr} (hn : n ∈ varsE y) : ∀ {l : List Expr}, y ∈ l → n ∈ varsL l
  | [], h => by simp at h
  | z :: l, h => by
    simp only [varsL, List.mem_append]
    rcases List.mem_cons.1 h with rfl | h
    · exact .inl hn
    · exact .inr (varsL_mem hn h)

theorem visitV_s {σ : Type} {b3 b4 : Nat} {f : FuncId} {first caps : List A} {Hc : σ → Heap} {step : σ → Int → σ} : ∀ (N : Nat) (x : Expr), SizeOf.sizeOf x < N → OkE x → ∀ (s : σ),
    (∀ s, ∀ n ∈ varsE x, CallS Tryz.prog f (first ++ aI n :: caps) (Hc s) fun _ H' => H' = Hc (step s n)) →
    CallS Tryz.prog 246 [aE x, .ptr 3 b3 0, .ptr 4 b4 0] ((4, .box b4 [.fn 246 [] [.ptr 3 b3 0, .ptr 4 b4 0]]) :: (3, .box b3 [.fn f first caps]) :: rt 1000 (Hc s))
      fun _ H' => H' = (4, .box b4 [.fn 246 [] [.ptr 3 b3 0, .ptr 4 b4 0]]) :: (3, .box b3 [.fn f first caps]) :: rt 1000 (Hc ((varsE x).foldl step s))
  | 0, _, h, _, _, _ => absurd h (Nat.not_lt_zero _)
  | N + 1, x, hN, hx, s, hf => by
    refine CallS.dropP (callS_of Tryz.func246 rfl Tryz.ntmps246 (rs := []) rfl (by kernel_rfl) (by simp) (by kernel_rfl) (K := fun _ H' => subP ((4, .box b4 [.fn 246 [] [.ptr 3 b3 0, .ptr 4 b4 0]]) :: (3, .box b3 [.fn f first caps]) :: rt 1000 (Hc ((varsE x).foldl step s))) H') ?_) (fun _ _ h => ⟨_, h, rfl⟩)
    have hset : ∃ s1 : σ, s1 = (if x.op = 1 then step s x.index else s) ∧ (varsL x.args).foldl step s1 = (varsE x).foldl step s := by
      refine ⟨_, rfl, ?_⟩
      rw [varsE_eq]
      by_cases h : x.op = 1 <;> simp [h]
    obtain ⟨s1, hs1, he⟩ := hset
    by_cases hop : x.op = 1
    all_goals simp [hop]
    · rw [if_pos hop] at hs1
      refine ((hf s x.index (by rw [varsE_eq]; simp [hop])).rt'.c1.c1).mono ?_
      rintro r H' ⟨_, ⟨_, ⟨H1, rfl, rfl⟩, rfl⟩, rfl⟩
      rw [← hs1]
      simp
      refine V.for' [2, 14, 15] (fun p => [(16, .dat (.int .i64 (p.1 : Nat)))]) (fun p => (4, .box b4 [.fn 246 [] [.ptr 3 b3 0, .ptr 4 b4 0]]) :: (3, .box b3 [.fn f first caps]) :: rt 1000 (Hc p.2))
        (fun p : Nat × σ => p.1 ≤ x.args.length ∧ (varsL (x.args.drop p.1)).foldl step p.2 = (varsE x).foldl step s) (fun p => x.args.length - p.1) (0, s1) ⟨by simp [he], by simp, subP.refl _⟩ ?_
      rintro ⟨i, s2⟩ ⟨hi, hinv⟩
      simp only at hi hinv
      have hlen := hx.len
      by_cases hlt : i < x.args.length
      · obtain ⟨y, hy1⟩ : ∃ y, x.args[i]'hlt = y := ⟨_, rfl⟩
        have hmem : y ∈ x.args := by rw [← hy1]; exact List.getElem_mem hlt
        rw [List.drop_eq_getElem_cons hlt, hy1, varsL, List.foldl_append] at hinv
        simp [hlt, hy1, encE_eq]
        intro b
        have ih := visitV_s (b3 := b3) (b4 := b4) (Hc := Hc) (step := step) (f := f) (first := first) (caps := caps) N y (by have := Expr.lt_of_mem hmem; omega) (hx.args y hmem) s2 (fun s n hn => hf s n (by rw [varsE_eq]; exact List.mem_append.2 (.inr (varsL_mem hn hmem))))
        refine ih.c1.mono ?_
        rintro r H' ⟨H2, rfl, rfl⟩
        simp
        exact ⟨by omega, i + 1, _, ⟨hlt, hinv⟩, by omega, by simp, (subP.refl _).c _⟩
      · have hie : i = x.args.length := by omega
        subst hie
        simp [varsL] at hinv
        simp [hinv]
        exact subP.refl _
    · rw [if_neg hop] at hs1
      refine V.for' [2, 14, 15] (fun p => [(16, .dat (.int .i64 (p.1 : Nat)))]) (fun p => (4, .box b4 [.fn 246 [] [.ptr 3 b3 0, .ptr 4 b4 0]]) :: (3, .box b3 [.fn f first caps]) :: rt 1000 (Hc p.2))
        (fun p : Nat × σ => p.1 ≤ x.args.length ∧ (varsL (x.args.drop p.1)).foldl step p.2 = (varsE x).foldl step s) (fun p => x.args.length - p.1) (0, s1) ⟨by simp [he], by simp, by rw [hs1]; exact subP.refl _⟩ ?_
      rintro ⟨i, s2⟩ ⟨hi, hinv⟩
      simp only at hi hinv
      have hlen := hx.len
      by_cases hlt : i < x.args.length
      · obtain ⟨y, hy1⟩ : ∃ y, x.args[i]'hlt = y := ⟨_, rfl⟩
        have hmem : y ∈ x.args := by rw [← hy1]; exact List.getElem_mem hlt
        rw [List.drop_eq_getElem_cons hlt, hy1, varsL, List.foldl_append] at hinv
        simp [hlt, hy1, encE_eq]
        intro b
        have ih := visitV_s (b3 := b3) (b4 := b4) (Hc := Hc) (step := step) (f := f) (first := first) (caps := caps) N y (by have := Expr.lt_of_mem hmem; omega) (hx.args y hmem) s2 (fun s n hn => hf s n (by rw [varsE_eq]; exact List.mem_append.2 (.inr (varsL_mem hn hmem))))
        refine ih.c1.mono ?_
        rintro r H' ⟨H2, rfl, rfl⟩
        simp
        exact ⟨by omega, i + 1, _, ⟨hlt, hinv⟩, by omega, by simp, (subP.refl _).c _⟩
      · have hie : i = x.args.length := by omega
        subst hie
        simp [varsL] at hinv
        simp [hinv]
        exact subP.refl _

theorem each_s {σ : Type} {f : FuncId} {first caps : List A} {Hc : σ → Heap} {step : σ → Int → σ} (x : Expr) (hx : OkE x) (s : σ) (hf : ∀ s, ∀ n ∈ varsE x, CallS Tryz.prog f (first ++ aI n :: caps) (Hc s) fun _ H' => H' = Hc (step s n)) :
    CallS Tryz.prog 194 [aE x, .fn f first caps] (Hc s) fun _ H' => H' = Hc ((varsE x).foldl step s) := by
  refine CallS.rt (k := 1000) (CallS.dropP (callS_of Tryz.func194 rfl Tryz.ntmps194 (rs := []) rfl (by kernel_rfl) (by simp) (by kernel_rfl) (K := fun _ H' => subP (rt 1000 (Hc ((varsE x).foldl step s))) H') ?_) ?_)
  · simp
    intro b3 b4
    refine (visitV_s (SizeOf.sizeOf x + 1) x (by omega) hx s hf).mono ?_
    rintro r H' rfl
    simp
    exact ((subP.refl _).c _).c _
  · rintro r H' h
    exact ⟨_, h, _, rfl, rfl⟩

end Go.Proofs.YtbcjnmifflflfaaGreatDoor
end

/- Contracts: control's checker, signals. -/
section
namespace Go.Proofs.YtbcjnmifflflfaaGreatDoor
set_option maxHeartbeats 2000000
set_option maxRecDepth 10000

def kindAt (c : Control) (k : Int) : Int := ((c.signals[k.toNat]?).map (·.kind)).getD 0
def lateStep (c : Control) (i : Int) (late : Bool) (line : Int) : Bool := late || (decide (i ≤ line - firstC c) && kindAt c (line - firstC c) == 0)
def lateC (c : Control) (i : Int) (x : Expr) : Bool := (varsE x).foldl (lateStep c i) false

theorem gate1_s (b r b2 b5 b6 : Nat) (c : Control) (h : Sm c) (s5 : List A) (i : Int) (h0 : 0 ≤ i ∧ i < c.signals.length) (late : Bool) (line : Int) (hl : 0 ≤ line ∧ line < countC c) :
    CallS Tryz.prog 238 [aI line, .ptr 2 b2 0, .ptr 6 b6 0, .rptr [.int .i64 i]] [(6, .box b6 [.dat (.bool late)]), (5, .box b5 s5), (2, .box b2 [.ptr 32 b 0]), chkBox b r c]
      fun _ H' => H' = [(6, .box b6 [.dat (.bool (lateStep c i late line))]), (5, .box b5 s5), (2, .box b2 [.ptr 32 b 0]), chkBox b r c] := by
  have hs := h
  obtain ⟨g1, g2, g3⟩ := h
  have hcn : countC c = firstC c + c.signals.length := rfl
  have hfc : firstC c = 2 * c.actuators + c.inputs.length := rfl
  refine CallS.dropP (callS_of Tryz.func238 rfl Tryz.ntmps238 (rs := []) rfl (by kernel_rfl) (by simp) (by kernel_rfl) (K := fun _ H' => subP [(6, .box b6 [.dat (.bool (lateStep c i late line))]), (5, .box b5 s5), (2, .box b2 [.ptr 32 b 0]), chkBox b r c] H') ?_) (fun _ _ h => ⟨_, h, rfl⟩)
  simp
  refine (first_fn c hs).s ?_
  simp
  refine ⟨by omega, ?_⟩
  obtain ⟨y, hy⟩ : ∃ y, c.signals[(line - firstC c).toNat]? = some y := ⟨_, List.getElem?_eq_getElem (by omega)⟩
  by_cases hk : i ≤ line - firstC c
  · simp [hk, hy]
    refine ⟨fun h => ⟨h, by omega, by omega⟩, ?_⟩
    have e : lateStep c i late line = (late || y.kind == 0) := by simp [lateStep, hk, kindAt, hy]
    rw [e]
    exact subP.refl _
  · simp [hk, hy]
    have e : lateStep c i late line = late := by simp [lateStep, hk]
    rw [e]
    exact subP.refl _

/-- A signal's cells. -/
abbrev sigA (s : Signal) : List A := [.dat (.str s.name), .dat (.int .i64 s.kind), .dat (.int .i64 s.on.op), .dat (.int .i64 s.on.index), .dat (.sl (s.on.args.map encE)), .dat (.int .i64 s.off.op), .dat (.int .i64 s.off.index), .dat (.sl (s.off.args.map encE)), .dat (.int .i64 s.delay), .dat (.bool s.init)]
def gateE (c : Control) (i : Int) (s : Signal) : Int := if lateC c i s.on then 9 else if !zeroE s.off || s.init || s.delay != 0 then 3 else 0
def memE (c : Control) (s : Signal) : Int := if checkE s.off (countC c) ≠ 0 then checkE s.off (countC c) else if s.delay ≠ 0 then 3 else 0
def timE (s : Signal) : Int := if s.delay < 1 ∨ s.delay > 1000000 then 2 else if !zeroE s.off || s.init then 3 else 0

theorem gate_s (b r : Nat) (c : Control) (h : Sm c) (i : Nat) (s : Signal) (hi : c.signals[i]? = some s) (hx : OkS s) (hv : ∀ n ∈ varsE s.on, 0 ≤ n ∧ n < countC c) : CallS Tryz.prog 181 [.ptr 32 b 0, aI i] [chkBox b r c] fun rr H' => rr = aI (gateE c i s) ∧ H' = [chkBox b r c] := by
  have hs := h
  obtain ⟨g1, g2, g3⟩ := h
  obtain ⟨hlt, hy1⟩ := List.getElem?_eq_some_iff.1 hi
  refine CallS.dropP (callS_of Tryz.func181 rfl Tryz.ntmps181 (rs := [.tmp 4]) rfl (by kernel_rfl) (by simp) (by kernel_rfl) (K := fun rr H' => rr = aI (gateE c i s) ∧ subP [chkBox b r c] H') ?_) (fun _ _ h => ⟨_, h.2, h.1, rfl⟩)
  simp
  intro b2
  refine V.draw (fun _ => none) (by kernel_rfl) (by kernel_rfl) (by simp) ?_
  simp [hy1, hlt]
  intro b5 b6
  refine (each_s (σ := Bool) (f := 238) (first := []) (caps := [.ptr 2 b2 0, .ptr 6 b6 0, .rptr [.int .i64 i]]) (Hc := fun late => [(6, .box b6 [.dat (.bool late)]), (5, .box b5 (sigA s)), (2, .box b2 [.ptr 32 b 0]), chkBox b r c]) (step := lateStep c i) s.on hx.on false (fun late n hn => by simpa using gate1_s b r b2 b5 b6 c hs (sigA s) i ⟨by omega, by omega⟩ late n (hv n hn))).mono ?_
  rintro rr H' rfl
  simp
  have e : lateC c i s.on = (varsE s.on).foldl (lateStep c i) false := rfl
  rw [← e]
  cases hlate : lateC c i s.on
  · simp
    refine (zero_fn s.off).s ?_
    simp [gateE, hlate]
    have hsub : subP [chkBox b r c] [(6, .box b6 [.dat (.bool false)]), (5, .box b5 (sigA s)), (2, .box b2 [.ptr 32 b 0]), chkBox b r c] := (((subP.refl _).c _).c _).c _
    refine ⟨fun h => ⟨fun h1 h2 h3 => ?_, hsub⟩, fun h1 h2 h3 => ⟨⟨⟨h1, h2⟩, h3⟩, hsub⟩⟩
    rcases h with (h | h) | h <;> simp_all
  · simp [gateE, hlate]
    exact (((subP.refl _).c _).c _).c _


theorem memory_s (b r : Nat) (c : Control) (h : Sm c) (i : Nat) (s : Signal) (hi : c.signals[i]? = some s) (hx : OkS s) : CallS Tryz.prog 182 [.ptr 32 b 0, aI i] [chkBox b r c] fun rr H' => rr = aI (memE c s) ∧ H' = [chkBox b r c] := by
  obtain ⟨hlt, hy1⟩ := List.getElem?_eq_some_iff.1 hi
  refine CallS.dropP (callS_of Tryz.func182 rfl Tryz.ntmps182 (rs := [.tmp 4]) rfl (by kernel_rfl) (by simp) (by kernel_rfl) (K := fun rr H' => rr = aI (memE c s) ∧ subP [chkBox b r c] H') ?_) (fun _ _ h => ⟨_, h.2, h.1, rfl⟩)
  simp
  refine V.draw (fun t => if t = 19 then some (.fn (aI (countC c))) else if t = 20 then some (.fn (aI (checkE s.off (countC c)))) else none) (by kernel_rfl) (by kernel_rfl) (by simp) ?_
  have e1 := count_c c h
  have e2 := check_fn s.off hx.off (countC c)
  simp [hy1, hlt] at e1 e2 ⊢
  refine ⟨e1, e2, fun hc => ?_, fun hc => ⟨fun hd => ?_, fun hd => ?_⟩⟩
  · simp [memE, hc, subP.refl]
  · simp [memE, hc, hd, subP.refl]
  · simp [memE, hc, hd, subP.refl]

theorem timer_s (b r : Nat) (c : Control) (i : Nat) (s : Signal) (hi : c.signals[i]? = some s) (hx : OkS s) : CallS Tryz.prog 183 [.ptr 32 b 0, aI i] [chkBox b r c] fun rr H' => rr = aI (timE s) ∧ H' = [chkBox b r c] := by
  obtain ⟨hlt, hy1⟩ := List.getElem?_eq_some_iff.1 hi
  refine CallS.dropP (callS_of Tryz.func183 rfl Tryz.ntmps183 (rs := [.tmp 4]) rfl (by kernel_rfl) (by simp) (by kernel_rfl) (K := fun rr H' => rr = aI (timE s) ∧ subP [chkBox b r c] H') ?_) (fun _ _ h => ⟨_, h.2, h.1, rfl⟩)
  simp [hy1, hlt]
  intro b5
  have hsub : ∀ l, subP [chkBox b r c] [(5, .box b5 l), chkBox b r c] := fun l => (subP.refl _).c _
  refine ⟨fun hd => ?_, fun h1 h2 => ?_⟩
  · simp [timE, hsub]
    omega
  · refine (zero_fn s.off).s ?_
    cases hz : zeroE s.off <;> cases hi2 : s.init <;> simp [timE, hz, hi2, hsub] <;> omega

def signalE (c : Control) (i : Int) (s : Signal) (names : List (List UInt8)) : Int :=
  if nameE s.name names ≠ 0 then nameE s.name names
  else if s.kind < 0 ∨ s.kind ≥ 3 then 1
  else if checkE s.on (countC c) ≠ 0 then checkE s.on (countC c)
  else if s.kind = 0 then gateE c i s else if s.kind = 1 then memE c s else timE s

theorem signal_s (b r : Nat) (c : Control) (h : Sm c) (i : Nat) (s : Signal) (hi : c.signals[i]? = some s) (hx : OkS s) (names : List (List UInt8)) (hn : names.length ≤ 1000000) (hv : checkE s.on (countC c) = 0 → ∀ n ∈ varsE s.on, 0 ≤ n ∧ n < countC c) :
    CallS Tryz.prog 186 [.ptr 32 b 0, aI i] [chkBox b r c, chkMap r names] fun rr H' => rr = aI (signalE c i s names) ∧ H' = [chkBox b r c, chkMap r (if nameE s.name names = 0 then names ++ [s.name] else names)] := by
  obtain ⟨hlt, hy1⟩ := List.getElem?_eq_some_iff.1 hi
  refine CallS.dropP (callS_of Tryz.func186 rfl Tryz.ntmps186 (rs := [.tmp 4]) rfl (by kernel_rfl) (by simp) (by kernel_rfl) (K := fun rr H' => rr = aI (signalE c i s names) ∧ subP [chkBox b r c, chkMap r (if nameE s.name names = 0 then names ++ [s.name] else names)] H') ?_) (fun _ _ h => ⟨_, h.2, h.1, rfl⟩)
  simp [hy1, hlt]
  intro b5
  refine (cname_s b r c s.name hx.name names hn).c1.mono ?_
  rintro rr H' ⟨_, ⟨rfl, rfl⟩, rfl⟩
  by_cases hne : nameE s.name names = 0
  · have hsub : ∀ l, subP [chkBox b r c, chkMap r (names ++ [s.name])] [(5, .box b5 l), chkBox b r c, chkMap r (names ++ [s.name])] := fun l => (subP.refl _).c _
    simp [hne]
    refine ⟨fun hk => ?_, fun hk0 hk3 => ?_⟩
    · simp [signalE, hne, hsub]
      omega
    · refine V.draw (fun t => if t = 37 then some (.fn (aI (countC c))) else if t = 38 then some (.fn (aI (checkE s.on (countC c)))) else none) (by kernel_rfl) (by kernel_rfl) (by simp) ?_
      have e1 := count_c c h
      have e2 := check_fn s.on hx.on (countC c)
      simp at e1 e2 ⊢
      refine ⟨e1, e2, fun hc => ?_, fun hc => ?_⟩
      · simp [signalE, hne, hc, hsub, Int.not_lt.2 hk0]
        omega
      · obtain hk | hk | hk : s.kind = 0 ∨ s.kind = 1 ∨ s.kind = 2 := by omega
        · have e : signalE c i s names = gateE c i s := by simp [signalE, hne, hc, hk]
          refine V.draw (fun t => if t = 50 then some (.ro (aI (signalE c i s names))) else none) (by kernel_rfl) (by kernel_rfl) (by simp) ?_
          simp [hk, hsub]
          rw [e]
          exact ⟨gate_s b r c h i s hi hx (hv hc), by rw [if_pos hne]; exact hsub _⟩
        · have e : signalE c i s names = memE c s := by simp [signalE, hne, hc, hk]
          refine V.draw (fun t => if t = 50 then some (.ro (aI (signalE c i s names))) else none) (by kernel_rfl) (by kernel_rfl) (by simp) ?_
          simp [hk, hsub]
          rw [e]
          exact ⟨memory_s b r c h i s hi hx, by rw [if_pos hne]; exact hsub _⟩
        · have e : signalE c i s names = timE s := by simp [signalE, hne, hc, hk]
          refine V.draw (fun t => if t = 50 then some (.ro (aI (signalE c i s names))) else none) (by kernel_rfl) (by kernel_rfl) (by simp) ?_
          simp [hk, hsub]
          rw [e]
          exact ⟨timer_s b r c i s hi hx, by rw [if_pos hne]; exact hsub _⟩
  · have hsub : ∀ l, subP [chkBox b r c, chkMap r names] [(5, .box b5 l), chkBox b r c, chkMap r names] := fun l => (subP.refl _).c _
    simp [hne, signalE, hsub]

end Go.Proofs.YtbcjnmifflflfaaGreatDoor
end

/- Plain: the parts and joins of a control's circuit, as they are made one after the other. -/
section
namespace Go.Proofs.YtbcjnmifflflfaaGreatDoor
set_option maxHeartbeats 1000000

/-- A port of a part by names. -/
structure Pin where
  part : List UInt8
  port : List UInt8
  deriving DecidableEq
abbrev noPin : Pin := ⟨[], []⟩
abbrev encPin (p : Pin) : List L := [.str p.part, .str p.port]
/-- A part that was made. -/
structure Made where
  kind : Int
  name : List UInt8
  delay : Int
  signal : Int
  arg : Option Expr
  valve : Int
  line : Int
/-- What was made so far. -/
structure Mk where
  parts : List Made
  joins : List (Pin × Pin)
  number : Nat
  signal : Int
  gates : List (Int × Pin)
abbrev numT (n : Nat) : List UInt8 := Go.Lib.decDigits n
def letterT (a : Nat) : List UInt8 := [UInt8.ofNat (65 + a)]
def ownT (c : Control) (i : Nat) : List UInt8 := (if kindAt c i = 2 then 84 else 77) :: numT i
abbrev supPin : Pin := ⟨[83], [49]⟩
def joinD (a b : Pin) : List (Pin × Pin) := if a = noPin ∨ b = noPin then [] else [(a, b)]
def Mk.add (m : Mk) (kind : Int) (name : List UInt8) (delay line : Int) : Mk := { m with parts := m.parts ++ [⟨kind, name, delay, m.signal, none, -1, line⟩] }
def Mk.join (m : Mk) (a b : Pin) : Mk := { m with joins := m.joins ++ joinD a b }
def Mk.feed (m : Mk) (name : List UInt8) : Mk := m.join supPin ⟨name, [49]⟩
def getG : List (Int × Pin) → Int → Option Pin
  | [], _ => none
  | q :: r, k => if q.1 = k then some q.2 else getG r k
def putG : List (Int × Pin) → Int → Pin → List (Int × Pin)
  | [], k, p => [(k, p)]
  | q :: r, k, p => if q.1 = k then (k, p) :: r else q :: putG r k p
/-- The port of a line. -/
def portM (c : Control) (gates : List (Int × Pin)) (line : Int) : Pin :=
  if line < 2 * c.actuators then ⟨letterT (line.toNat / 2) ++ numT (line.toNat % 2), [50]⟩
  else if line < firstC c then ⟨c.inputs.getD (line - 2 * c.actuators).toNat [], [50]⟩
  else if kindAt c (line - firstC c) = 1 then ⟨ownT c (line - firstC c).toNat, [52]⟩
  else if kindAt c (line - firstC c) = 2 then ⟨ownT c (line - firstC c).toNat, [50]⟩
  else (getG gates line).getD noPin
/-- What an expression adds: parts, joins, the next number; and its port. -/
structure Dl where
  parts : List Made
  joins : List (Pin × Pin)
  num : Nat
  pin : Pin
/-- A part's port 1 and the supply; the reference has them the other way round. -/
def airD (fl : Bool) (p : Pin) : List (Pin × Pin) := if fl = true then joinD p supPin else joinD supPin p
def notD (fl : Bool) (sg : Int) (d : Dl) (x : Expr) : Dl :=
  ⟨d.parts ++ [⟨5, 78 :: numT d.num, 0, sg, some x, -1, -1⟩], d.joins ++ airD fl ⟨78 :: numT d.num, [49]⟩ ++ joinD d.pin ⟨78 :: numT d.num, [49, 48]⟩, d.num + 1, ⟨78 :: numT d.num, [50]⟩⟩
def twinD (sg kind : Int) (letter : UInt8) (d : Dl) (p : Pin) : Dl :=
  ⟨d.parts ++ [⟨kind, letter :: numT d.num, 0, sg, none, -1, -1⟩], d.joins ++ joinD d.pin ⟨letter :: numT d.num, [49]⟩ ++ joinD p ⟨letter :: numT d.num, [49, 49]⟩, d.num + 1, ⟨letter :: numT d.num, [50]⟩⟩
/-- What several expressions add. -/
structure Ds' where
  parts : List Made
  joins : List (Pin × Pin)
  num : Nat
  pins : List Pin
def foldD (sg : Int) (op : Int) (r : Ds') : Dl := match r.pins with
  | p :: ps => ps.foldl (twinD sg (if op = 3 then 9 else 8) (if op = 3 then 80 else 81)) ⟨r.parts, r.joins, r.num, p⟩
  | [] => ⟨r.parts, r.joins, r.num, noPin⟩
def notsD (fl : Bool) (sg : Int) (r : Ds') (x : Option Expr) : Dl := match x with
  | some y => notD fl sg ⟨r.parts, r.joins, r.num, r.pins.headD noPin⟩ y
  | none => ⟨r.parts, r.joins, r.num, noPin⟩
mutual
def exprD (fl : Bool) (pf : Int → Pin) (sg : Int) : Expr → Nat → Dl
  | ⟨op, ix, args⟩, k =>
    if op = 0 then ⟨[], [], k, if ix = 1 then supPin else noPin⟩
    else if op = 1 then ⟨[], [], k, pf ix⟩
    else if op = 2 then notsD fl sg (argsD fl pf sg args k) args.head?
    else foldD sg op (argsD fl pf sg args k)
def argsD (fl : Bool) (pf : Int → Pin) (sg : Int) : List Expr → Nat → Ds'
  | [], k => ⟨[], [], k, []⟩
  | x :: xs, k =>
    ⟨(exprD fl pf sg x k).parts ++ (argsD fl pf sg xs (exprD fl pf sg x k).num).parts, (exprD fl pf sg x k).joins ++ (argsD fl pf sg xs (exprD fl pf sg x k).num).joins,
      (argsD fl pf sg xs (exprD fl pf sg x k).num).num, (exprD fl pf sg x k).pin :: (argsD fl pf sg xs (exprD fl pf sg x k).num).pins⟩
end
theorem exprD_eq (fl : Bool) (pf : Int → Pin) (sg : Int) (x : Expr) (k : Nat) : exprD fl pf sg x k =
    if x.op = 0 then ⟨[], [], k, if x.index = 1 then supPin else noPin⟩
    else if x.op = 1 then ⟨[], [], k, pf x.index⟩
    else if x.op = 2 then notsD fl sg (argsD fl pf sg x.args k) x.args.head?
    else foldD sg x.op (argsD fl pf sg x.args k) := by
  cases x
  rw [exprD]
theorem argsD_snoc (fl : Bool) (pf : Int → Pin) (sg : Int) (y : Expr) : ∀ (xs : List Expr) (k : Nat), argsD fl pf sg (xs ++ [y]) k =
    ⟨(argsD fl pf sg xs k).parts ++ (exprD fl pf sg y (argsD fl pf sg xs k).num).parts, (argsD fl pf sg xs k).joins ++ (exprD fl pf sg y (argsD fl pf sg xs k).num).joins,
      (exprD fl pf sg y (argsD fl pf sg xs k).num).num, (argsD fl pf sg xs k).pins ++ [(exprD fl pf sg y (argsD fl pf sg xs k).num).pin]⟩
  | [], k => by simp [argsD]
  | x :: xs, k => by simp [argsD, argsD_snoc fl pf sg y xs]
theorem argsD_len (fl : Bool) (pf : Int → Pin) (sg : Int) : ∀ (xs : List Expr) (k : Nat), (argsD fl pf sg xs k).pins.length = xs.length
  | [], k => rfl
  | x :: xs, k => by simp [argsD, argsD_len fl pf sg xs]
def Mk.app (m : Mk) (d : Dl) : Mk := { m with parts := m.parts ++ d.parts, joins := m.joins ++ d.joins, number := d.num }
/-- The parts of an expression of a signal. -/
def Mk.expr (c : Control) (m : Mk) (x : Expr) : Dl := exprD false (portM c m.gates) m.signal x m.number
/-- The last part gets a valve. -/
def Mk.valve (m : Mk) (a : Int) : Mk := { m with parts := m.parts.set (m.parts.length - 1) (match m.parts[m.parts.length - 1]? with
  | some p => { p with valve := a }
  | none => ⟨0, [], 0, 0, none, 0, 0⟩) }
/-- The parts of an actuator. -/
def actM (m : Mk) (a : Nat) : Mk :=
  (((((((((m.add 1 (letterT a) 0 (-1)).add 6 (letterT a ++ [48]) 0 (2 * a)).feed (letterT a ++ [48])).add 6 (letterT a ++ [49]) 0 (2 * a + 1)).feed (letterT a ++ [49])).add 2 (86 :: letterT a) 0 (-1)).valve a).feed (86 :: letterT a)).join
    ⟨86 :: letterT a, [50]⟩ ⟨letterT a, [50]⟩).join ⟨86 :: letterT a, [52]⟩ ⟨letterT a, [52]⟩
def inM (c : Control) (m : Mk) (i : Nat) : Mk := (m.add 7 (c.inputs.getD i []) 0 (2 * c.actuators + i)).feed (c.inputs.getD i [])
def machineM (c : Control) : Mk := (List.range c.inputs.length).foldl (inM c) ((List.range c.actuators.toNat).foldl actM ((⟨[], [], 0, -1, []⟩ : Mk).add 0 [83] 0 (-1)))
def Mk.sig (m : Mk) (i : Nat) : Mk := { m with signal := i }
def gateM (c : Control) (m : Mk) (i : Nat) : Mk :=
  if kindAt c i = 0 then
    { (m.sig i).app ((m.sig i).expr c (((c.signals[i]?).map (·.on)).getD ⟨0, 0, []⟩)) with gates := putG m.gates (firstC c + i) ((m.sig i).expr c (((c.signals[i]?).map (·.on)).getD ⟨0, 0, []⟩)).pin }
  else m.sig i
/-- The parts of an expression, joined to a port. -/
def Mk.to (c : Control) (m : Mk) (x : Expr) (p : Pin) : Mk := (m.app (m.expr c x)).join (m.expr c x).pin p
def sigM (c : Control) (m : Mk) (i : Nat) : Mk := match c.signals[i]? with
  | some x =>
    if x.kind = 1 then (((((m.sig i).add 2 (ownT c i) 0 (firstC c + i)).feed (ownT c i)).to c x.on ⟨ownT c i, [49, 52]⟩).to c x.off ⟨ownT c i, [49, 50]⟩)
    else if x.kind = 2 then (((m.sig i).add 12 (ownT c i) x.delay (firstC c + i)).feed (ownT c i)).to c x.on ⟨ownT c i, [49, 50]⟩
    else m.sig i
  | none => m
def pilM (c : Control) (m : Mk) (a : Nat) : Mk :=
  (m.join (portM c m.gates (c.plus.getD a 0)) ⟨86 :: letterT a, [49, 52]⟩).join (portM c m.gates (c.minus.getD a 0)) ⟨86 :: letterT a, [49, 50]⟩
/-- All parts and joins. -/
def wholeM (c : Control) : Mk := (List.range c.actuators.toNat).foldl (pilM c) ((List.range c.signals.length).foldl (sigM c) ((List.range c.signals.length).foldl (gateM c) (machineM c)))
end Go.Proofs.YtbcjnmifflflfaaGreatDoor
end

/- Plain: how much realize makes. -/
section
namespace Go.Proofs.YtbcjnmifflflfaaGreatDoor
set_option maxHeartbeats 1000000

mutual
def sizeN : Expr → Nat
  | ⟨_, _, args⟩ => 1 + sizeNL args
def sizeNL : List Expr → Nat
  | [] => 0
  | x :: xs => sizeN x + sizeNL xs
end
theorem sizeN_eq (x : Expr) : sizeN x = 1 + sizeNL x.args := by cases x; rw [sizeN]
theorem size_pre : ∀ (N : Nat) (x : Expr), SizeOf.sizeOf x < N → ∀ d : Int, (∀ p ∈ preE x d, p.1 ≤ 16) → sizeN x = (preE x d).length
  | 0, _, h, _, _ => absurd h (Nat.not_lt_zero _)
  | N + 1, x, hN, d, h1 => by
    have hd : d ≤ 16 := h1 (d, x) (by rw [preE_eq]; simp)
    have key : ∀ l : List Expr, (∀ y ∈ l, y ∈ x.args) → sizeNL l = (preL l (d + 1)).length := by
      intro l
      induction l with
      | nil => intro _; rfl
      | cons y l ih =>
        intro hl
        have hy := hl y (by simp)
        rw [sizeNL, preL, List.length_append, ih fun z hz => hl z (by simp [hz])]
        rw [size_pre N y (by have := Expr.lt_of_mem hy; omega) (d + 1) fun p hp => h1 p ?_]
        rw [preE_eq, if_pos hd]
        exact List.mem_cons_of_mem _ (preL_mem hp hy)
    rw [sizeN_eq, preE_eq, if_pos hd, key x.args fun _ h => h, List.length_cons]
    omega
theorem meas_len : ∀ {l : List (Int × Expr)} {s s' : Int × Int}, l.foldlM measS s = .ok s' → s'.1 = s.1 + l.length ∧ (l ≠ [] → s'.1 ≤ 256)
  | [], s, s', h => by
    simp only [List.foldlM_nil, pure, Except.pure, Except.ok.injEq] at h
    subst h
    exact ⟨by simp, fun h => absurd rfl h⟩
  | q :: r, s, s', h => by
    rw [List.foldlM_cons] at h
    cases hs : measS s q with
    | error e => rw [hs] at h; simp [bind, Except.bind] at h
    | ok s1 =>
      rw [hs] at h
      have h2 := meas_len (l := r) (s := s1) (s' := s') h
      unfold measS at hs
      split at hs
      · cases hs
      · rename_i hc
        simp only [Except.ok.injEq] at hs
        subst hs
        refine ⟨by rw [h2.1]; simp; omega, fun _ => ?_⟩
        cases r with
        | nil => have := h2.1; simp at this; omega
        | cons a b => exact h2.2 (by simp)
theorem size_check {x : Expr} {n : Int} (h : checkE x n = 0) : sizeN x ≤ 256 := by
  unfold checkE at h
  split at h
  · cases h
  · split at h
    · cases h
    · rename_i s hm
      have h1 := meas_len hm
      rw [size_pre (SizeOf.sizeOf x + 1) x (by omega) 1 fun p hp => ?_]
      · have h2 := h1.2 (by rw [preE_eq]; simp)
        rw [h1.1] at h2
        simp only at h2
        omega
      · obtain ⟨s1, s2, h3⟩ := fold_ok hm p hp
        unfold measS at h3
        split at h3
        · cases h3
        · omega
/-- What an expression adds: as many parts as numbers, no more than it has nodes. -/
structure Small (k : Nat) (n : Nat) (ps : List Made) (js : List (Pin × Pin)) (m : Nat) : Prop where
  num : m = k + ps.length
  parts : ps.length ≤ n
  joins : js.length ≤ 3 * ps.length
theorem joinD_len (a b : Pin) : (joinD a b).length ≤ 1 := by
  unfold joinD
  split <;> simp
theorem airD_len (fl : Bool) (p : Pin) : (airD fl p).length ≤ 1 := by
  unfold airD
  split <;> exact joinD_len _ _
theorem twin_small {sg kind : Int} {letter : UInt8} {k : Nat} : ∀ (ps : List Pin) {n : Nat} {d : Dl}, Small k n d.parts d.joins d.num → Small k (n + ps.length) (ps.foldl (twinD sg kind letter) d).parts (ps.foldl (twinD sg kind letter) d).joins (ps.foldl (twinD sg kind letter) d).num
  | [], n, d, h => by simpa using h
  | p :: ps, n, d, h => by
    have h1 : Small k (n + 1) (twinD sg kind letter d p).parts (twinD sg kind letter d p).joins (twinD sg kind letter d p).num := by
      obtain ⟨a1, a2, a3⟩ := h
      have j1 := joinD_len d.pin ⟨letter :: numT d.num, [49]⟩
      have j2 := joinD_len p ⟨letter :: numT d.num, [49, 49]⟩
      refine ⟨?_, ?_, ?_⟩
      · simp only [twinD, List.length_append, List.length_cons, List.length_nil]; omega
      · simp only [twinD, List.length_append, List.length_cons, List.length_nil]; omega
      · simp only [twinD, List.length_append, List.length_cons, List.length_nil]; omega
    have h2 := twin_small (sg := sg) (kind := kind) (letter := letter) ps h1
    rw [List.foldl_cons, List.length_cons, show n + (ps.length + 1) = n + 1 + ps.length by omega]
    exact h2
theorem sizeN_pos (x : Expr) : 1 ≤ sizeN x := by rw [sizeN_eq]; omega
theorem sizeNL_len : ∀ xs : List Expr, xs.length ≤ sizeNL xs
  | [] => by simp
  | x :: xs => by
    have := sizeNL_len xs
    have := sizeN_pos x
    rw [sizeNL, List.length_cons]
    omega
mutual
theorem expr_small (fl : Bool) (pf : Int → Pin) (sg : Int) : ∀ (x : Expr) (k : Nat), Small k (sizeN x - 1) (exprD fl pf sg x k).parts (exprD fl pf sg x k).joins (exprD fl pf sg x k).num
  | ⟨op, ix, args⟩, k => by
    have h := args_small fl pf sg args k
    have hl := argsD_len fl pf sg args k
    have hn := sizeNL_len args
    rw [exprD_eq, sizeN_eq]
    dsimp only
    split
    · exact ⟨by simp, by simp, by simp⟩
    · split
      · exact ⟨by simp, by simp, by simp⟩
      · generalize argsD fl pf sg args k = r at *
        obtain ⟨r1, r2, r3, r4⟩ := r
        dsimp only at h hl ⊢
        split
        · obtain ⟨a1, a2, a3⟩ := h
          have j1 := airD_len fl ⟨78 :: numT r3, [49]⟩
          have j2 := joinD_len (r4.headD noPin) ⟨78 :: numT r3, [49, 48]⟩
          cases args with
          | nil => exact ⟨a1, by simp only [notsD, List.head?_nil]; omega, a3⟩
          | cons y ys =>
            simp only [List.length_cons] at a2 hn
            simp only [List.head?_cons, notsD]
            refine ⟨?_, ?_, ?_⟩
            · simp only [notD, List.length_append, List.length_cons, List.length_nil]; omega
            · simp only [notD, List.length_append, List.length_cons, List.length_nil]; omega
            · simp only [notD, List.length_append, List.length_cons, List.length_nil]; omega
        · unfold foldD
          dsimp only
          cases r4 with
          | nil => exact ⟨h.num, by have := h.parts; dsimp only; omega, h.joins⟩
          | cons p ps =>
            have h2 := twin_small (sg := sg) (kind := if op = 3 then 9 else 8) (letter := if op = 3 then 80 else 81) ps (d := ⟨r1, r2, r3, p⟩) h
            simp only [List.length_cons] at hl
            exact ⟨h2.num, Nat.le_trans h2.parts (by omega), h2.joins⟩
theorem args_small (fl : Bool) (pf : Int → Pin) (sg : Int) : ∀ (xs : List Expr) (k : Nat), Small k (sizeNL xs - xs.length) (argsD fl pf sg xs k).parts (argsD fl pf sg xs k).joins (argsD fl pf sg xs k).num
  | [], k => ⟨by simp [argsD], by simp [argsD], by simp [argsD]⟩
  | x :: xs, k => by
    obtain ⟨a1, a2, a3⟩ := expr_small fl pf sg x k
    obtain ⟨b1, b2, b3⟩ := args_small fl pf sg xs (exprD fl pf sg x k).num
    have hn := sizeNL_len xs
    have hx := sizeN_pos x
    rw [argsD, sizeNL]
    refine ⟨?_, ?_, ?_⟩
    · simp only [List.length_append]; omega
    · simp only [List.length_append, List.length_cons]; omega
    · simp only [List.length_append]; omega
end
end Go.Proofs.YtbcjnmifflflfaaGreatDoor
end

/- Plain: the draft of a control's circuit, as the reference makes it. -/
section
namespace Go.Proofs.YtbcjnmifflflfaaGreatDoor
set_option maxHeartbeats 1000000

/-- What was made so far; the valve and the line of a part are told along, though the reference does not keep them. -/
structure Dr where
  gears : List Made
  links : List (Pin × Pin)
  ends : List Pin
  count : Nat
def Dr.link (d : Dr) (a b : Pin) : Dr := { d with links := d.links ++ joinD a b }
def Dr.put (d : Dr) (p : Made) (air : Bool) : Dr := { d with gears := d.gears ++ [p], links := d.links ++ (if air = true then joinD ⟨p.name, [49]⟩ supPin else []) }
def Dr.ended (d : Dr) (l : List Pin) : Dr := { d with ends := d.ends ++ l }
def Dr.app (d : Dr) (x : Dl) : Dr := { d with gears := d.gears ++ x.parts, links := d.links ++ x.joins, count := x.num }
def Dr.expr (d : Dr) (x : Expr) (sg : Int) : Dl := exprD true (fun i => d.ends.getD i.toNat noPin) sg x d.count
def actR (d : Dr) (a : Nat) : Dr :=
  ((((((d.put ⟨1, letterT a, 0, -1, none, -1, -1⟩ false).put ⟨6, letterT a ++ [48], 0, -1, none, -1, 2 * a⟩ true).put ⟨6, letterT a ++ [49], 0, -1, none, -1, 2 * a + 1⟩ true).put ⟨2, 86 :: letterT a, 0, -1, none, a, -1⟩ true).link
    ⟨86 :: letterT a, [50]⟩ ⟨letterT a, [50]⟩).link ⟨86 :: letterT a, [52]⟩ ⟨letterT a, [52]⟩).ended [⟨letterT a ++ [48], [50]⟩, ⟨letterT a ++ [49], [50]⟩]
def inR37 (c : Control) (d : Dr) (i : Nat) : Dr := (d.put ⟨7, c.inputs.getD i [], 0, -1, none, -1, 2 * c.actuators + i⟩ true).ended [⟨c.inputs.getD i [], [50]⟩]
def sigF (c : Control) (d : Dr) (i : Nat) : Dr := match c.signals[i]? with
  | some x =>
    if x.kind = 1 then (d.put ⟨2, ownT c i, 0, i, none, -1, firstC c + i⟩ true).ended [⟨ownT c i, [52]⟩]
    else if x.kind = 2 then (d.put ⟨12, ownT c i, x.delay, i, none, -1, firstC c + i⟩ true).ended [⟨ownT c i, [50]⟩]
    else d.ended [noPin]
  | none => d
def frameR (c : Control) : Dr := (List.range c.signals.length).foldl (sigF c) ((List.range c.inputs.length).foldl (inR37 c) ((List.range c.actuators.toNat).foldl actR ((⟨[], [], [], 0⟩ : Dr).put ⟨0, [83], 0, -1, none, -1, -1⟩ false)))
def gateR (c : Control) (d : Dr) (i : Nat) : Dr := match c.signals[i]? with
  | some x => if x.kind = 0 then { d.app (d.expr x.on i) with ends := d.ends.set (firstC c + i).toNat (d.expr x.on i).pin } else d
  | none => d
def Dr.to (d : Dr) (x : Expr) (sg : Int) (p : Pin) : Dr := (d.app (d.expr x sg)).link (d.expr x sg).pin p
def sigR (c : Control) (d : Dr) (i : Nat) : Dr := match c.signals[i]? with
  | some x =>
    if x.kind = 0 then d
    else if x.kind = 2 then d.to x.on i ⟨ownT c i, [49, 50]⟩
    else (d.to x.on i ⟨ownT c i, [49, 52]⟩).to x.off i ⟨ownT c i, [49, 50]⟩
  | none => d
def pilR (c : Control) (d : Dr) (a : Nat) : Dr :=
  (d.link (d.ends.getD (c.plus.getD a 0).toNat noPin) ⟨86 :: letterT a, [49, 52]⟩).link (d.ends.getD (c.minus.getD a 0).toNat noPin) ⟨86 :: letterT a, [49, 50]⟩
def wholeR (c : Control) : Dr := (List.range c.actuators.toNat).foldl (pilR c) ((List.range c.signals.length).foldl (sigR c) ((List.range c.signals.length).foldl (gateR c) (frameR c)))

/-! ### Both have the same parts and joins -/
/-- Lists of pairs, whose pairs may be the other way round. -/
inductive Flips : List (Pin × Pin) → List (Pin × Pin) → Prop
  | nil : Flips [] []
  | keep {p l m} : Flips l m → Flips (p :: l) (p :: m)
  | swap {a b l m} : Flips l m → Flips ((a, b) :: l) ((b, a) :: m)
theorem Flips.refl : ∀ l, Flips l l
  | [] => .nil
  | _ :: l => .keep (Flips.refl l)
theorem Flips.app {l m l' m' : List (Pin × Pin)} (h : Flips l m) (h' : Flips l' m') : Flips (l ++ l') (m ++ m') := by
  induction h with
  | nil => exact h'
  | keep _ ih => exact .keep ih
  | swap _ ih => exact .swap ih
theorem Flips.length {l m : List (Pin × Pin)} (h : Flips l m) : l.length = m.length := by
  induction h with
  | nil => rfl
  | keep _ ih => simp [ih]
  | swap _ ih => simp [ih]
/-- The same expression, here and there. -/
structure SameD (a b : Dl) : Prop where
  parts : a.parts = b.parts
  joins : Flips a.joins b.joins
  num : a.num = b.num
  pin : a.pin = b.pin
end Go.Proofs.YtbcjnmifflflfaaGreatDoor
end

/- Contracts out of the kit's shelf: slices.Sort, slices.Compact at []int, on owned slices. -/
section
namespace Go.Proofs.YtbcjnmifflflfaaGreatDoor
open Go.Sort
variable {P : Program} {ρ : Go.Shelf.Ren}

theorem rI_vals {x : X} : ∀ {zs : List Int} {vs : List Value}, Ds x (zs.map rI).flatten vs → vs = zs.map (Value.int .i64)
  | [], [], _ => rfl
  | z :: zs, v :: vs, h => by
    simp only [List.map_cons, List.flatten_cons, List.cons_append, List.nil_append, rI, Ds, D, RdL] at h
    rw [h.1, rI_vals h.2, List.map_cons]
  | [], _ :: _, h => by simp [Ds] at h
  | _ :: _, [], h => by simp [Ds, rI] at h
theorem rI_Ds {x : X} : ∀ (zs : List Int), Ds x (zs.map rI).flatten (zs.map (Value.int .i64))
  | [] => by simp [Ds]
  | z :: zs => by
    simp only [List.map_cons, List.flatten_cons, List.cons_append, List.nil_append, rI, Ds, D, RdL]
    exact ⟨trivial, rI_Ds zs⟩
theorem rI_len {zs : List Int} : ∀ r ∈ zs.map rI, r.length = 1 := by
  intro r hr
  obtain ⟨z, _, rfl⟩ := List.mem_map.1 hr
  rfl

/-- What an owned slice of numbers is. -/
theorem ints_own {x : X} {h : Value} {e : TypeId} {zs : List Int} (hs : Ent.sat x (.seq h e 1 (zs.map rI))) :
    (h = .slice none 0 0 ∧ zs = []) ∨ ∃ g cap cur, h = .slice (some ⟨g, 0, none⟩) zs.length cap ∧ x.w.heap[g]? = some (.cells cur e (0, 0)) ∧ zs.length ≤ cap ∧ cap ≤ maxLen ∧ cur.size = cap ∧ cur.toList.take zs.length = zs.map (Value.int .i64) := by
  obtain ⟨xs, ⟨h1, h2⟩, h3, h4⟩ := hs
  have hx := rI_vals h4
  subst hx
  rcases h2 with ⟨rfl, h0⟩ | ⟨g, cap, cur, rfl, _, h5, h6, h7, h8, h9⟩
  · exact .inl ⟨rfl, by simpa using h0⟩
  · refine .inr ⟨g, cap, cur, by simp, h5, by simpa using h6, h7, by simpa using h8, by simpa using h9⟩
theorem ints_holds {x : X} {g : Nat} {cur : Array Value} {e : TypeId} {zs : List Int} (h5 : x.w.heap[g]? = some (.cells cur e (0, 0))) (h9 : cur.toList.take zs.length = zs.map (Value.int .i64)) :
    Holds (Value.int .i64) x.w g 0 zs.toArray := by
  intro j hj
  have hj' : j < zs.length := by simpa using hj
  have hc : cur[j]? = some (.int .i64 zs[j]) := by
    have : (cur.toList.take zs.length)[j]? = some (.int .i64 zs[j]) := by rw [h9]; simp [hj']
    rw [List.getElem?_take] at this
    simpa [hj'] using this
  constructor
  · have hz : zs.toArray[j]! = zs[j] := by simp [hj']
    rw [hz]
    simp [World.cell?, h5, hc]
  · simp [World.frozen?, h5]

theorem putRow_block {w : World} {g n : Nat} {cur : Array Value} {e : TypeId} (h5 : w.heap[g]? = some (.cells cur e (0, 0))) (d : Array Int) (os : Array Obj) :
    (grow (putRow (Value.int .i64) (Sort.ahead w n) g 0 d) os).heap[g]? = some (.cells (putCells (Value.int .i64) 0 d cur) e (0, 0)) ∧ ∀ k, k < w.heap.size → k ≠ g → (grow (putRow (Value.int .i64) (Sort.ahead w n) g 0 d) os).heap[k]? = w.heap[k]? := by
  have hlt := (Array.getElem?_eq_some_iff.1 h5).1
  have hsz : (putRow (Value.int .i64) (Sort.ahead w n) g 0 d).heap.size = w.heap.size := by simp [putRow, mapBlock, Sort.ahead]
  have hgr : ∀ k, k < w.heap.size → (grow (putRow (Value.int .i64) (Sort.ahead w n) g 0 d) os).heap[k]? = (putRow (Value.int .i64) (Sort.ahead w n) g 0 d).heap[k]? := by
    intro k hk
    simp only [grow]
    rw [Array.getElem?_append_left (by rw [hsz]; exact hk)]
  constructor
  · rw [hgr g hlt]
    simp [putRow, mapBlock, Sort.ahead, Array.getElem?_modify, h5, onCells]
  · intro k hk hne
    rw [hgr k hk]
    simp [putRow, mapBlock, Sort.ahead, Array.getElem?_modify, Ne.symm hne]
theorem putCells_take (d : Array Int) (cur : Array Value) (m : Nat) (hm : m ≤ d.size) (hd : d.size ≤ cur.size) : (putCells (Value.int .i64) 0 d cur).toList.take m = (d.toList.take m).map (Value.int .i64) := by
  apply List.ext_getElem?
  intro k
  rw [List.getElem?_take, List.getElem?_map, List.getElem?_take]
  split
  · rename_i hk
    have h1 : k < cur.size := by omega
    have h2 : k < d.size := by omega
    simp [putCells, h1, h2]
  · simp

theorem seq_putRow {x : X} {H : Heap} {t g cap q : Nat} {e : TypeId} {zs : List Int} (hi : Inv x ((t, .seq (.slice (some ⟨g, 0, none⟩) zs.length cap) e 1 (zs.map rI)) :: H)) (d : List Int) (hd : d.length = zs.length) (m : Nat) (hm : m ≤ d.length) (os : Array Obj) :
    ∃ y : X, y.w = grow (putRow (Value.int .i64) (Sort.ahead x.w q) g 0 d.toArray) os ∧ x.le y ∧ Inv y ((t, .seq (.slice (some ⟨g, 0, none⟩) m cap) e 1 ((d.take m).map rI)) :: H) := by
  have hs := hi.sat _ (List.mem_cons_self)
  rcases ints_own hs with ⟨h, _⟩ | ⟨g', cap', cur, h, h5, h6, h7, h8, h9⟩
  · cases h
  · cases h
    obtain ⟨b1, b2⟩ := putRow_block (n := q) h5 d.toArray os
    have hlt := (Array.getElem?_eq_some_iff.1 h5).1
    have hsz : x.w.heap.size ≤ (grow (putRow (Value.int .i64) (Sort.ahead x.w q) g 0 d.toArray) os).heap.size := by simp [grow, putRow, mapBlock, Sort.ahead]
    let y : X := ⟨grow (putRow (Value.int .i64) (Sort.ahead x.w q) g 0 d.toArray) os, x.ok⟩
    have hfin : x.le y ∧ Inv y ((t, .seq (.slice (some ⟨g, 0, none⟩) m cap) e 1 ((d.take m).map rI)) :: H) := by
     refine hi.ofOwn (y := y) (g' := t) (h' := .slice (some ⟨g, 0, none⟩) m cap) (rows' := (d.take m).map rI) rfl ?_ ?_ ?_ ?_
     · have hrl : ((d.take m).map rI).length = m := by rw [List.length_map, List.length_take]; omega
       have hrv : ((d.take m).map (Value.int .i64)).length = m * 1 := by rw [List.length_map, List.length_take]; omega
       have hpt := putCells_take d.toArray cur m (by simpa using hm) (by rw [List.size_toArray]; omega)
       have hps : (putCells (Value.int .i64) 0 d.toArray cur).size = cap * 1 := by simp [putCells, h8]
       refine ⟨(d.take m).map (Value.int .i64), ⟨by rw [hrl]; exact hrv, .inr ⟨g, cap, _, by rw [hrl], Nat.zero_le _, b1, by rw [hrl]; omega, h7, hps, ?_⟩⟩, rI_len, rI_Ds _⟩
       rw [hrl, Nat.mul_one]
       exact hpt
     · refine ⟨rfl, rfl, rfl, hsz, ?_⟩
       intro k hk hne
       exact b2 k hk fun e => hne (by simp [Value.ownBlock, e])
     · show x.w.drawn ≤ (grow (putRow (Value.int .i64) (Sort.ahead x.w q) g 0 d.toArray) os).drawn
       simp [grow, putRow, mapBlock, Sort.ahead]
     · intro k hk
       simp only [Value.ownBlock, Option.some.injEq] at hk
       subst hk
       exact ⟨.inl rfl, Nat.lt_of_lt_of_le hlt hsz⟩
    exact ⟨y, rfl, hfin⟩

theorem Ds_one {x : X} {t : Nat} {h : Value} {args : Array Value} (hd : Ds x [.own t h] args.toList) : args = #[h] := by
  rcases args with ⟨l⟩
  rcases l with _ | ⟨a, _ | ⟨b, l⟩⟩ <;> simp [Ds, D] at hd
  rw [hd.1]
theorem unit_D (y : X) : D y (.tuple []) (.tuple #[]) := by simp [D, Ds]

def sortI (zs : List Int) : List Int := zs.mergeSort fun x y => decide (x ≤ y)
theorem sortI_len (zs : List Int) : (sortI zs).length = zs.length := by simp [sortI]
theorem sortI_s (Ly : Go.Proofs.Lays.n189 P ρ) (hc : Callable P (ρ.f 189)) {e t : Nat} {h : Value} {zs : List Int} (hz : zs.length < 4611686018427387904) :
    CallS P (ρ.f 189) [.own t h] [(t, .seq h e 1 (zs.map rI))] fun r H' => r = .tuple [] ∧ H' = [(t, .seq h e 1 ((sortI zs).map rI))] := by
  refine ⟨hc, fun x args H0 hi hd => ?_⟩
  obtain rfl := Ds_one hd
  have hs := hi.sat _ (List.mem_cons_self)
  rcases ints_own hs with ⟨rfl, rfl⟩ | ⟨g, cap, cur, rfl, h5, h6, h7, h8, h9⟩
  · refine (Any.slices_Sort_int_none Ly none 0 x.w).mono ?_
    rintro _ _ ⟨rfl, rfl⟩
    exact ⟨x, _, .tuple [], _, rfl, rfl, .refl x, by simpa [sortI] using hi, unit_D x, rfl, rfl⟩
  · refine (Any.slices_Sort_int Ly g 0 cap zs x.w (ints_holds h5 h9) (Array.getElem?_eq_some_iff.1 h5).1 hz).mono ?_
    rintro _ _ ⟨rfl, n, os, rfl⟩
    obtain ⟨y, k1, k2, k3⟩ := seq_putRow hi (q := n) (sortI zs) (sortI_len zs) (sortI zs).length (Nat.le_refl _) os
    rw [List.take_length, sortI_len] at k3
    exact ⟨y, _, .tuple [], _, rfl, k1, k2, k3, unit_D y, rfl, rfl⟩

def compI (zs : List Int) : List Int := Go.Lib.compact zs
theorem compI_le (zs : List Int) : (compI zs).length ≤ zs.length := by
  unfold compI Go.Lib.compact Go.Lib.compactUpTo
  rw [List.length_map]
  exact Nat.le_trans (List.length_filter_le _ _) (by simp)
/-- Compact: what comes back is the same slice, shorter. -/
theorem compI_s (Ly : Go.Proofs.Lays2.n20 P ρ) (hc : Callable P (ρ.f 20)) {e t : Nat} {h : Value} {zs : List Int} (hz : zs.length ≤ 9223372036854775807) :
    CallS P (ρ.f 20) [.own t h] [(t, .seq h e 1 (zs.map rI))] fun r H' => ∃ h2, r = .own t h2 ∧ H' = [(t, .seq h2 e 1 ((compI zs).map rI))] := by
  refine ⟨hc, fun x args H0 hi hd => ?_⟩
  obtain rfl := Ds_one hd
  have hs := hi.sat _ (List.mem_cons_self)
  rcases ints_own hs with ⟨rfl, rfl⟩ | ⟨g, cap, cur, rfl, h5, h6, h7, h8, h9⟩
  · refine (Any.slices_Compact_int_empty Ly none 0 x.w).mono ?_
    rintro _ _ ⟨rfl, rfl⟩
    exact ⟨x, _, .own t _, _, rfl, rfl, .refl x, hi, by simp only [D]; exact ⟨rfl, _, _, _, rfl⟩, _, rfl, by simp [compI, Go.Lib.compact, Go.Lib.compactUpTo]⟩
  · refine (Any.slices_Compact_int Ly g 0 cap zs x.w (ints_holds h5 h9) hz h6).mono ?_
    rintro _ _ ⟨rfl, q, rfl⟩
    have hle := compI_le zs
    obtain ⟨y, k1, k2, k3⟩ := seq_putRow hi (q := q) (compI zs ++ List.replicate (zs.length - (compI zs).length) 0) (by simp; omega) (compI zs).length (by simp) #[]
    rw [List.take_left] at k3
    refine ⟨y, _, .own t (.slice (some ⟨g, 0, none⟩) (compI zs).length cap), _, rfl, by rw [k1, grow_empty]; rfl, k2, k3, by simp [D, compI], _, rfl, rfl⟩

end Go.Proofs.YtbcjnmifflflfaaGreatDoor
end

/- Contracts of the kit's shelf at this program: the tables of numbers. Written by a program (wip/gen_shelf2.py). -/
section
namespace Go.Proofs.YtbcjnmifflflfaaGreatDoor
set_option maxRecDepth 100000
set_option maxHeartbeats 4000000
def itRen : Go.Shelf.Ren := ⟨fun | 129 => 178 | 171 => 133 | 243 => 208 | 246 => 264 | 283 => 292 | 284 => 293 | 285 => 294 | 286 => 295 | 317 => 311 | 318 => 312 | 319 => 313 | 320 => 314 | 337 => 326 | 338 => 327 | n => n, fun | 0 => 0 | 2 => 2 | 3 => 3 | 4 => 4 | 5 => 5 | 9 => 9 | 20 => 20 | 37 => 357 | 46 => 169 | 51 => 250 | 53 => 252 | 171 => 355 | 173 => 358 | 212 => 372 | 213 => 373 | 232 => 381 | 233 => 382 | n => n, fun | 17 => 2 | 18 => 3 | 19 => 4 | n => n⟩
theorem itLays0 : Go.Proofs.Lays.n171 Tryz.prog itRen := { 
  mixed := by kernel_rfl,
  f129 := by kernel_rfl,
  f171 := by kernel_rfl,
  f243 := by kernel_rfl,
  f246 := by kernel_rfl,
  f283 := by kernel_rfl,
  f284 := by kernel_rfl,
  f285 := by kernel_rfl,
  f286 := by kernel_rfl,
  f317 := by kernel_rfl,
  f318 := by kernel_rfl,
  f319 := by kernel_rfl,
  f320 := by kernel_rfl,
  f337 := by kernel_rfl,
  f338 := by kernel_rfl,
  t0 := Tryz.underlying0,
  a0 := Tryz.isAgg0,
  z0 := Tryz.sizeOf0,
  v0 := Tryz.zeroValue0,
  t2 := Tryz.underlying2,
  a2 := Tryz.isAgg2,
  z2 := Tryz.sizeOf2,
  v2 := Tryz.zeroValue2,
  t3 := Tryz.underlying3,
  a3 := Tryz.isAgg3,
  z3 := Tryz.sizeOf3,
  v3 := Tryz.zeroValue3,
  t4 := Tryz.underlying4,
  a4 := Tryz.isAgg4,
  z4 := Tryz.sizeOf4,
  v4 := Tryz.zeroValue4,
  t5 := Tryz.underlying5,
  a5 := Tryz.isAgg5,
  z5 := Tryz.sizeOf5,
  v5 := Tryz.zeroValue5,
  t9 := Tryz.underlying9,
  a9 := Tryz.isAgg9,
  z9 := Tryz.sizeOf9,
  v9 := Tryz.zeroValue9,
  t20 := Tryz.underlying20,
  a20 := Tryz.isAgg20,
  z20 := Tryz.sizeOf20,
  v20 := Tryz.zeroValue20,
  t37 := Tryz.underlying357,
  a37 := Tryz.isAgg357,
  z37 := Tryz.sizeOf357,
  v37 := Tryz.zeroValue357,
  t46 := Tryz.underlying169,
  a46 := Tryz.isAgg169,
  z46 := Tryz.sizeOf169,
  v46 := Tryz.zeroValue169,
  t51 := Tryz.underlying250,
  a51 := Tryz.isAgg250,
  z51 := Tryz.sizeOf250,
  v51 := Tryz.zeroValue250,
  t53 := Tryz.underlying252,
  a53 := Tryz.isAgg252,
  z53 := Tryz.sizeOf252,
  v53 := Tryz.zeroValue252,
  t171 := Tryz.underlying355,
  a171 := Tryz.isAgg355,
  z171 := Tryz.sizeOf355,
  v171 := Tryz.zeroValue355,
  t173 := Tryz.underlying358,
  a173 := Tryz.isAgg358,
  z173 := Tryz.sizeOf358,
  v173 := Tryz.zeroValue358,
  t212 := Tryz.underlying372,
  a212 := Tryz.isAgg372,
  z212 := Tryz.sizeOf372,
  v212 := Tryz.zeroValue372,
  t213 := Tryz.underlying373,
  a213 := Tryz.isAgg373,
  z213 := Tryz.sizeOf373,
  t232 := Tryz.underlying381,
  a232 := Tryz.isAgg381,
  z232 := Tryz.sizeOf381,
  v232 := Tryz.zeroValue381,
  t233 := Tryz.underlying382,
  a233 := Tryz.isAgg382,
  z233 := Tryz.sizeOf382,
  v233 := Tryz.zeroValue382,
  g17 := by kernel_rfl,
  g18 := by kernel_rfl,
  g19 := by kernel_rfl }
theorem itLays : Go.Proofs.LaysM.n171 Tryz.prog itRen := { itLays0 with 
  i0 := by kernel_rfl,
  i2 := by kernel_rfl,
  i3 := by kernel_rfl,
  i4 := by kernel_rfl,
  i5 := by kernel_rfl,
  i9 := by kernel_rfl,
  i20 := by kernel_rfl,
  i37 := by kernel_rfl,
  i46 := by kernel_rfl,
  i51 := by kernel_rfl,
  i53 := by kernel_rfl,
  i171 := by kernel_rfl,
  i173 := by kernel_rfl,
  i212 := by kernel_rfl,
  i232 := by kernel_rfl,
  i233 := by kernel_rfl,
  m17 := by kernel_rfl,
  m18 := by kernel_rfl,
  m19 := by kernel_rfl }
def scRen : Go.Shelf.Ren := ⟨fun | 106 => 121 | 213 => 204 | 265 => 255 | n => n, fun | 3 => 3 | 9 => 9 | n => n, fun n => n⟩
theorem scLays : Go.Proofs.Lays.n106 Tryz.prog scRen := { 
  mixed := by kernel_rfl,
  f106 := by kernel_rfl,
  f213 := by kernel_rfl,
  f265 := by kernel_rfl,
  t3 := Tryz.underlying3,
  a3 := Tryz.isAgg3,
  z3 := Tryz.sizeOf3,
  v3 := Tryz.zeroValue3,
  t9 := Tryz.underlying9,
  a9 := Tryz.isAgg9,
  z9 := Tryz.sizeOf9,
  v9 := Tryz.zeroValue9 }
end Go.Proofs.YtbcjnmifflflfaaGreatDoor
end

/- Lending to methods: pointers to boxes, seen as pointers to data. -/
section
namespace Go.Proofs.YtbcjnmifflflfaaGreatDoor
variable {P : Program}

theorem rdLs_Ds' {x : X} : ∀ {ls : List L} {vs : List Value}, RdLs x ls vs → Ds x (ls.map A.dat) vs
  | [], [], _ => by simp [Ds]
  | l :: ls, v :: vs, h => by
    simp only [RdLs] at h
    simp only [List.map_cons, Ds, D]
    exact ⟨h.1, rdLs_Ds' h.2⟩
  | [], _ :: _, h => by simp [RdLs] at h
  | _ :: _, [], h => by simp [RdLs] at h
/-- A cell as data, where its slice is among what is owned. -/
def frzC (H : Heap) : A → Option L
  | .dat l => some l
  | .nils => some (.sl [])
  | .own t h => match hget t H with
    | some (.seq h' _ _ rows) => if allD rows = true then some (.sl (rowsD rows)) else none
    | _ => none
  | _ => none
def hdrOk (H : Heap) : A → Prop
  | .own t h => match hget t H with
    | some (.seq h' _ _ _) => h' = h
    | _ => True
  | _ => True
def frzCs (H : Heap) : List A → Option (List L)
  | [] => some []
  | a :: r => match frzC H a, frzCs H r with
    | some l, some ls => some (l :: ls)
    | _, _ => none
/-- A slot's slice is seen as data from here on. -/
theorem V.frz1 {C : Cfg} {c : Code} {E : Env} {H : Heap} {Q : PostQ} (t : Nat) {τ : Nat} {h : Value} {e sz : Nat} {rows : List (List A)} (hE : E t = .own τ h) (hH : hget τ H = some (.seq h e sz rows)) (hd : allD rows = true)
    (hv : V C c (upd E t (.dat (.sl (rowsD rows)))) (hdel τ H) Q) : V C c E H Q := by
  intro hf x act H0 ms hi he
  have hp := hdel_perm hH
  have hi1 : Inv x ([(τ, .seq h e sz rows)] ++ (hdel τ H ++ (marks ms ++ H0))) := by
    have := hi.perm (hp.symm.append_right (marks ms ++ H0))
    simpa using this
  obtain ⟨y, hw, hle, hi2, hok, _⟩ := hi1.freeze
  have he2 : EnvOK C.n (ms.map mk) y act (upd E t (.dat (.sl (rowsD rows)))) := by
    have hm := he.mono hle
    refine ⟨hm.defers, hm.size, fun s => ?_⟩
    simp only [upd]
    split
    · rename_i hs
      subst hs
      have hv := hm.slot s
      rw [hE] at hv
      simp only [D] at hv ⊢
      rw [hv.1]
      exact seq_data (Ent.sat_step hle (fun b _ => by rw [hw]) (hi1.sat (τ, .seq h e sz rows) (by simp))) (fun b hb => hok b ⟨_, List.mem_singleton.2 rfl, hb⟩) hd
    · exact hm.slot s
  have := hv hf y act H0 ms hi2 he2
  rw [hw] at this
  exact wpIn_mono this fun _ _ _ => Post.le hle fun _ _ _ h => h
/-- A struct of data, seen cell by cell: what is boxed of it can be written. -/
theorem CallS.agg {g : FuncId} {ls : List L} {az bz : List A} {H : Heap} {K : A → Heap → Prop} (h : CallS P g (az ++ .agg (ls.map A.dat) :: bz) H K) : CallS P g (az ++ .record ls :: bz) H K := by
  refine ⟨h.1, fun x args H0 hi hd => h.2 x args H0 hi ?_⟩
  have e := List.take_append_drop az.length args.toList
  have ht := hd.take az.length
  have hdr := hd.drop az.length
  simp only [List.take_left, List.drop_left] at ht hdr
  rw [← e]
  refine ht.append ?_
  generalize args.toList.drop az.length = l at hdr
  cases l with
  | nil => simp [Ds] at hdr
  | cons v l =>
    simp only [Ds, D] at hdr ⊢
    obtain ⟨⟨vs, rfl, hr⟩, h2⟩ := hdr
    refine ⟨⟨vs, rfl, ?_⟩, h2⟩
    exact rdLs_Ds' hr
attribute [simp] frzC frzCs hdrOk

end Go.Proofs.YtbcjnmifflflfaaGreatDoor
end

/- Slices built from data that are kept as owned. -/
section
namespace Go.Proofs.YtbcjnmifflflfaaGreatDoor
variable {P : Program}

/-- Like 'bslA', but the rows are the caller's own. -/
def bslO (P : Program) (t : TypeId) (len : Nat) (ps : List (Nat × A)) : Option (Prop × TypeId × List (List L)) :=
  match slT P t with
  | some e => if len = ps.length ∧ 0 < len then (match rowsA (szT P e) 0 ps with
      | some rows => some (tk P e ≠ 0 ∧ 0 < szT P e ∧ len * szT P e ≤ 16777216 ∧ ((P.info? e).bind (·.zero)).isSome = true, e, rows)
      | none => none) else none
  | none => none

/-- A slice without room. -/
def tightV (u : Value) : Prop := ∃ a n, u = .slice a n n
/-- A region's operations, none guarded, where the slices built at the slots T are kept as owned. -/
def vcOpsT (P : Program) (T : List Nat) : List Oper → Env → Heap → (Env → Heap → Prop) → Prop
  | [], E, H, K => K E H
  | o :: rest, E, H, K => o.guard = none ∧ match o.op, T.contains (o.dst.getD 0) with
    | .buildSlice t n ps, true => match bslO P t n (evs E ps.toList) with
      | some (p, e, rows) => (evp E ps.toList ∧ p) ∧ ∀ u, tightV u → vcOpsT P T rest (put E o.dst (.own (o.dst.getD 0) u)) ((o.dst.getD 0, .seq u e (szT P e) (rows.map (·.map A.dat))) :: H) K
      | none => False
    | op, _ => vcOp P op o.dst E H fun E' H' => vcOpsT P T rest E' H' K

def vcCT (C : Cfg) (T : List Nat) : Code → Env → Heap → PostQ → Prop
  | .seq a b, E, H, Q => vcCT C T a E H fun e E' H' => match e with
    | .normal => vcCT C T b E' H' Q
    | .exit i => Q (.exit i) E' H'
    | .ret => Q .ret E' H'
    | _ => False
  | .ret, E, H, Q => Q .ret E H
  | .region id ops d, E, H, Q => match d with
    | false => vcOpsT C.P T ops.toList E H fun E' H' => Q .normal E' H'
    | true => V C (.region id ops true) E H Q
  | _, _, _, _ => False

/-! ### Drawn regions with calls that give structs of slices -/
@[simp] theorem xpH_n : xpH [] = [] := id rfl
@[simp] theorem xpH_box (t b : Nat) (cs : List A) (H : Heap) : xpH ((t, .box b cs) :: H) = (t, .box b cs) :: xpH H := id rfl
@[simp] theorem xpH_seq (t : Nat) (h : Value) (e sz : Nat) (rows : List (List A)) (H : Heap) : xpH ((t, .seq h e sz rows) :: H) = (t, .seq h e sz rows) :: xpH H := id rfl
@[simp] theorem xpH_raw (t b : Nat) (o : Obj) (H : Heap) : xpH ((t, .raw b o) :: H) = (t, .raw b o) :: xpH H := id rfl
@[simp] theorem xpH_map (t b : Nat) (d : TypeDesc) (es : List (L × L)) (H : Heap) : xpH ((t, .map b d es) :: H) = (t, .map b d es) :: xpH H := id rfl
@[simp] theorem xpH_mapS (t b : Nat) (d : TypeDesc) (es : List (L × List L)) (H : Heap) : xpH ((t, .mapS b d es) :: H) = (t, .mapS b d es) :: xpH H := id rfl
@[simp] theorem xpH_seqs (t : Nat) (l : List (Value × TypeId × Nat × List (List A))) (H : Heap) : xpH ((t, .seqs l) :: H) = spreadL (stB t) 0 l ++ xpH H := id rfl
theorem V.drawS {n : Nat} {id : Nat} {ops : Array Oper} {E : Env} {H : Heap} {Q : PostQ} (ρ : Nat → Option CR) (hm : P.follows .mixedOrders = true) (hd : depB ops.toList = true) (hn : (H.map (·.1)).Nodup)
    (h : vcD P ρ ops.toList 0 [] ops.toList E H fun E' H' => Q .normal E' (xpH H')) : V ⟨P, none, n⟩ (.region id ops true) E H Q := by
  have h1 : V ⟨P, none, n⟩ (.region id ops true) E H (fun e E' H' => match e with | .normal => Q .normal E' (xpH H') | e => Q e E' H') := V.draw ρ hm hd hn h
  intro hf x act H0 ms hi he
  refine wpIn_mono (h1 hf x act H0 ms hi he) ?_
  rintro e a' w' ⟨y, E', H', ms', rfl, hle, hi', he', hq⟩
  cases e with
  | normal => exact ⟨y, E', xpH H', ms', rfl, hle, Inv.xp (A0 := []) hi', he', hq⟩
  | exit k => exact ⟨y, E', H', ms', rfl, hle, hi', he', hq⟩
  | ret => exact ⟨y, E', H', ms', rfl, hle, hi', he', hq⟩
  | goto k => exact ⟨y, E', H', ms', rfl, hle, hi', he', hq⟩
  | panic k => exact ⟨y, E', H', ms', rfl, hle, hi', he', hq⟩
  | outgrown => exact ⟨y, E', H', ms', rfl, hle, hi', he', hq⟩
attribute [simp] spreadL hdrsL ownsL stB
attribute [simp] vcCT vcOpsT bslO

end Go.Proofs.YtbcjnmifflflfaaGreatDoor
end
