/- Texts joined by a program: Ca, Cb, Cc, Cd, Ce, Cf, Da, La, Db, Dc, Dd, De, Df, Pa, Ea, Eb, Ec, Ed, Ee, Ef, Cg, Eg, Eh, Ei, Ej, Ek, Lo. -/
import Derived.Test.YtakndgpdolfenaaGreatG1
set_option linter.unusedSimpArgs false
set_option linter.unusedVariables false

/- Contracts: preorder. -/
section
namespace Go.Proofs.YtakndgpdolfenaaGreat
set_option maxHeartbeats 2000000
set_option maxRecDepth 10000

theorem visit_call {σ δ : Type} {l : Nat} {Hc : σ → Heap} {Hd : δ → Heap} {step : σ → Int × Expr → Except δ σ} {b2 b3 : Nat} : ∀ (N : Nat) (x : Expr), SizeOf.sizeOf x < N → OkE x → ∀ (d : Int), 1 ≤ d → d ≤ 17 → ∀ (s : σ),
    (∀ s p, p ∈ preE x d → CallY Tryz.prog l [.dat (.int .i64 p.1), aE p.2] (Hc s) (yK Hc Hd (step s p))) →
    CallS Tryz.prog 190 [aE x, .dat (.int .i64 d), .ptr 2 b2 0, .ptr 3 b3 0] ((3, .box b3 [.fn 190 [] [.ptr 2 b2 0, .ptr 3 b3 0]]) :: (2, .box b2 [.yld l]) :: rt 1000 (Hc s))
      fun r H' => match (preE x d).foldlM step s with
        | .ok s' => r = .dat (.bool true) ∧ H' = (3, .box b3 [.fn 190 [] [.ptr 2 b2 0, .ptr 3 b3 0]]) :: (2, .box b2 [.yld l]) :: rt 1000 (Hc s')
        | .error e => r = .dat (.bool false) ∧ H' = (3, .box b3 [.fn 190 [] [.ptr 2 b2 0, .ptr 3 b3 0]]) :: (2, .box b2 [.yld l]) :: rt 1000 (Hd e)
  | 0, _, h, _, _, _, _, _, _ => absurd h (Nat.not_lt_zero _)
  | N + 1, x, hN, hx, d, hd1, hd2, s, hy => by
    refine CallS.dropP (callS_of Tryz.func190 rfl Tryz.ntmps190 (rs := [.tmp 6]) rfl (by kernel_rfl) (by simp) (by kernel_rfl) (K := fun r H' => match (preE x d).foldlM step s with
        | .ok s' => r = .dat (.bool true) ∧ subP ((3, .box b3 [.fn 190 [] [.ptr 2 b2 0, .ptr 3 b3 0]]) :: (2, .box b2 [.yld l]) :: rt 1000 (Hc s')) H'
        | .error e => r = .dat (.bool false) ∧ subP ((3, .box b3 [.fn 190 [] [.ptr 2 b2 0, .ptr 3 b3 0]]) :: (2, .box b2 [.yld l]) :: rt 1000 (Hd e)) H') ?_) ?_
    · simp
      refine ((hy s (d, x) (by rw [preE_eq]; simp)).rt.c1.c1).mono ?_
      rintro r H' ⟨_, ⟨_, ⟨H1, rfl, hk⟩, rfl⟩, rfl⟩
      simp only [yK] at hk
      rw [preE_eq, List.foldlM_cons]
      cases hst : step s (d, x) with
      | error e =>
        rw [hst] at hk
        obtain ⟨rfl, rfl⟩ := hk
        simp [bind, Except.bind, subP.refl]
      | ok s1 =>
        rw [hst] at hk
        obtain ⟨rfl, rfl⟩ := hk
        simp only [bind, Except.bind]
        simp
        refine V.for' [1, 3, 15, 16] (fun p => [(17, .dat (.int .i64 (p.1 : Nat)))]) (fun p => (3, .box b3 [.fn 190 [] [.ptr 2 b2 0, .ptr 3 b3 0]]) :: (2, .box b2 [.yld l]) :: rt 1000 (Hc p.2))
          (fun p : Nat × σ => p.1 ≤ x.args.length ∧ (if d ≤ 16 then preL (x.args.drop p.1) (d + 1) else []).foldlM step p.2 = (if d ≤ 16 then preL x.args (d + 1) else []).foldlM step s1) (fun p => x.args.length - p.1) (0, s1) ⟨by simp, by simp, subP.refl _⟩ ?_
        rintro ⟨i, s2⟩ ⟨hi, hinv⟩
        simp only at hi hinv
        have hlen := hx.len
        have hadv : ∀ {y : Expr} {rest : List Expr}, x.args.drop i = y :: rest → d ≤ 16 → (preE y (d + 1) ++ preL rest (d + 1)).foldlM step s2 = (preL x.args (d + 1)).foldlM step s1 := by
          intro y rest h hd
          rw [h] at hinv
          simpa [hd, preL] using hinv
        by_cases hlt : i < x.args.length
        · obtain ⟨y, hy1⟩ : ∃ y, x.args[i]'hlt = y := ⟨_, rfl⟩
          have hy0 : x.args[i]? = some y := by rw [List.getElem?_eq_getElem hlt, hy1]
          have hmem : y ∈ x.args := List.mem_of_getElem? hy0
          have hdrop : x.args.drop i = y :: x.args.drop (i + 1) := by
            rw [List.drop_eq_getElem_cons hlt]
            rw [hy1]
          simp [hlt, hy1, encE_eq, reads, Nat.not_le.2 hlt]
          intro b
          refine ⟨by omega, ?_⟩
          refine GCall.ways (fun hd => ⟨hd, ?_⟩) (fun hd => ⟨.dat (.bool true), ?_⟩)
          · have hsub : ∀ p ∈ preE y (d + 1), p ∈ preE x d := by
              intro p hp
              rw [preE_eq, if_pos hd]
              refine List.mem_cons_of_mem _ ?_
              have : ∀ (l : List Expr), y ∈ l → p ∈ preL l (d + 1) := by
                intro l
                induction l with
                | nil => simp
                | cons z l ih =>
                  intro hz
                  simp only [preL, List.mem_append]
                  rcases List.mem_cons.1 hz with rfl | hz
                  · exact .inl hp
                  · exact .inr (ih hz)
              exact this _ hmem
            have ih := visit_call (Hc := Hc) (Hd := Hd) (step := step) (b2 := b2) (b3 := b3) (l := l) N y (by have := Expr.lt_of_mem hmem; omega) (hx.args y hmem) (d + 1) (by omega) (by omega) s2 (fun s p hp => hy s p (hsub p hp))
            refine ih.c1.mono ?_
            rintro r H' ⟨H2, hk, rfl⟩
            have hA := hadv hdrop hd
            rw [List.foldlM_append] at hA
            cases hf : (preE y (d + 1)).foldlM step s2 with
            | error e =>
              rw [hf] at hk hA
              obtain ⟨rfl, rfl⟩ := hk
              simp only [bind, Except.bind] at hA
              simp [hd, ← hA]
              exact (subP.refl _).c _
            | ok s3 =>
              rw [hf] at hk hA
              obtain ⟨rfl, rfl⟩ := hk
              simp only [bind, Except.bind] at hA
              simp [hd]
              exact ⟨by omega, i + 1, s3, ⟨hlt, hA⟩, by omega, by simp, (subP.refl _).c _⟩
          · simp [hd]
            refine ⟨by omega, i + 1, s2, ⟨hlt, ?_⟩, by omega, by simp, (subP.refl _).c _⟩
            simpa [hd] using hinv
        · have hie : i = x.args.length := by omega
          subst hie
          simp
          have hinv' : Except.ok s2 = (if d ≤ 16 then preL x.args (d + 1) else []).foldlM step s1 := by
            rw [← hinv]
            split <;> simp [preL, pure, Except.pure]
          rw [← hinv']
          exact subP.refl _
    · intro r H' hk
      cases hf : (preE x d).foldlM step s with
      | error e =>
        rw [hf] at hk
        exact ⟨_, hk.2, hk.1, rfl⟩
      | ok s3 =>
        rw [hf] at hk
        exact ⟨_, hk.2, hk.1, rfl⟩

/-- The iterator: a fold over the nodes. -/
theorem preorder_call {σ δ : Type} {l : Nat} {Hc : σ → Heap} {Hd : δ → Heap} {step : σ → Int × Expr → Except δ σ} {x : Expr} (hx : OkE x) (s : σ)
    (hy : ∀ s p, p ∈ preE x 1 → CallY Tryz.prog l [.dat (.int .i64 p.1), aE p.2] (Hc s) (yK Hc Hd (step s p))) :
    CallS Tryz.prog 189 [.yld l, .rptr [.int .i64 x.op, .int .i64 x.index, .sl (x.args.map encE)]] (Hc s) fun _ H' => match (preE x 1).foldlM step s with
        | .ok s' => H' = Hc s'
        | .error e => H' = Hd e := by
  refine CallS.rt (k := 1000) (CallS.dropP (callS_of Tryz.func189 rfl Tryz.ntmps189 (rs := []) rfl (by kernel_rfl) (by simp) (by kernel_rfl) (K := fun _ H' => match (preE x 1).foldlM step s with
        | .ok s' => subP (rt 1000 (Hc s')) H'
        | .error e => subP (rt 1000 (Hd e)) H') ?_) ?_)
  · simp
    intro b2 b3
    refine (visit_call (SizeOf.sizeOf x + 1) x (by omega) hx 1 (by omega) (by omega) s hy).mono ?_
    intro r H' hk
    cases hf : (preE x 1).foldlM step s with
    | error e =>
      rw [hf] at hk
      obtain ⟨_, rfl⟩ := hk
      simp
      exact ((subP.refl _).c _).c _
    | ok s3 =>
      rw [hf] at hk
      obtain ⟨_, rfl⟩ := hk
      simp
      exact ((subP.refl _).c _).c _
  · intro r H' hk
    cases hf : (preE x 1).foldlM step s with
    | error e =>
      rw [hf] at hk
      exact ⟨_, hk, _, rfl, rfl⟩
    | ok s3 =>
      rw [hf] at hk
      exact ⟨_, hk, _, rfl, rfl⟩

theorem preorder_fn (x : Expr) : CallFn Tryz.prog 154 [aE x] (.fn 189 [] [.rptr [.int .i64 x.op, .int .i64 x.index, .sl (x.args.map encE)]]) := by
  refine callFn_of Tryz.func154 rfl Tryz.ntmps154 (rs := [.tmp 2]) rfl (by kernel_rfl) (by simp) (by kernel_rfl) ?_
  simp

theorem preorder_iter (x : Expr) (hx : OkE x) : IterS Tryz.prog 189 [] [.rptr [.int .i64 x.op, .int .i64 x.index, .sl (x.args.map encE)]] (preE x 1) fun p => [.dat (.int .i64 p.1), aE p.2] :=
  fun _ _ _ _ s hy => preorder_call hx s hy

/-- What measure comes to: the number of nodes and the depth, if none is too great. -/
def measS (s : Int × Int) (p : Int × Expr) : Except Unit (Int × Int) := if s.1 + 1 > 256 ∨ p.1 > 16 then .error () else .ok (s.1 + 1, max s.2 p.1)
def meas (x : Expr) : Except Unit (Int × Int) := (preE x 1).foldlM measS (0, 0)

theorem measure_fn (x : Expr) (hx : OkE x) : CallFn Tryz.prog 153 [aE x] (.tuple (match meas x with
    | .ok (n, d) => [.dat (.int .i64 n), .dat (.int .i64 d), .dat (.bool true)]
    | .error _ => [.dat (.int .i64 0), .dat (.int .i64 0), .dat (.bool false)])) := by
  refine callFn_of Tryz.func153 rfl Tryz.ntmps153 (rs := [.cell 2 3, .cell 3 3, .cell 4 4]) rfl (by kernel_rfl) (by simp) (by kernel_rfl) ?_
  simp
  intro b1 b2 b3 b4 b5
  refine (preorder_fn x).s ?_
  refine V.rangeFold (items := preE x 1) (enc := fun p => [.dat (.int .i64 p.1), aE p.2]) 100 (by simp) trivial (preorder_iter x hx)
    (fun s : Int × Int => [(6, .box b5 [.dat (.int .i64 s.2)]), (5, .box b4 [.dat (.int .i64 s.1)]), (4, .box b3 [.dat (.bool false)]), (3, .box b2 [.dat (.int .i64 0)]), (2, .box b1 [.dat (.int .i64 0)])])
    (fun _ : Unit => [(4, .box b3 [.dat (.bool false)]), (3, .box b2 [.dat (.int .i64 0)]), (2, .box b1 [.dat (.int .i64 0)])])
    (fun _ => none) measS (fun s => 0 ≤ s.1 ∧ s.1 ≤ 256) (0, 0) (by simp) ?_ (subP.refl _) (by simp) ?_ ?_
  · rintro ⟨n, m⟩ p s' ⟨h1, h2⟩ h
    simp only [measS] at h
    split at h
    · cases h
    · simp only [Except.ok.injEq] at h
      subst h
      simp only at *
      omega
  · rintro l ⟨n, m⟩ ⟨d, y⟩ ⟨h1, h2⟩ hp
    simp only at h1 h2
    have hmax : (if m < d then d else m) = max m d := by split <;> omega
    simp [hmax]
    refine ⟨by omega, ?_, ?_⟩
    · intro h
      simp only [measS]
      rw [if_pos (by simp only [gt_iff_lt]; exact h)]
      exact ⟨rfl, ((subP.refl _).c _).c _⟩
    · intro h h'
      simp only [measS]
      rw [if_neg (by simp only [gt_iff_lt]; omega)]
      exact subP.refl _
  · intro o ho
    cases o with
    | error e => simp [meas, ho, jX]
    | ok s =>
      obtain ⟨n, m⟩ := s
      simp [meas, ho]
      refine V.draw (fun _ => none) (by kernel_rfl) (by kernel_rfl) (by simp) ?_
      simp [meas, ho]

end Go.Proofs.YtakndgpdolfenaaGreat
end

/- Contracts: boolexp's shapes, node, Check, eval. -/
section
namespace Go.Proofs.YtakndgpdolfenaaGreat
set_option maxHeartbeats 2000000
set_option maxRecDepth 10000

theorem every_fn (b : Bool) : CallFn Tryz.prog 191 [.dat (.bool b)] (.fn 205 [] [.rptr [.bool b]]) := by
  refine callFn_of Tryz.func191 rfl Tryz.ntmps191 (rs := [.tmp 2]) rfl (by kernel_rfl) (by simp) (by kernel_rfl) ?_
  simp

abbrev shapesA : List A := [.dat (.int .i64 0), .dat (.int .i64 0), .nilf, .dat (.int .i64 0), .dat (.int .i64 0), .nilf, .dat (.int .i64 1), .dat (.int .i64 1), .fn 205 [] [.rptr [.bool false]],
  .dat (.int .i64 2), .dat (.int .i64 256), .fn 205 [] [.rptr [.bool true]], .dat (.int .i64 2), .dat (.int .i64 256), .fn 192 [] []]

theorem shapes_fn : CallFn Tryz.prog 156 [] (.agg shapesA) := by
  refine callFn_of Tryz.func156 rfl Tryz.ntmps156 (rs := [.cell 0 189]) rfl (by kernel_rfl) (by simp) (by kernel_rfl) ?_
  simp
  intro b
  refine (every_fn false).s ?_
  simp
  refine (every_fn true).s ?_
  simp

def nodeR (x : Expr) (n : Int) : Int :=
  if x.op < 0 ∨ x.op ≥ 5 then 1
  else
    let k : Int := x.args.length
    let lm : Int × Int := if x.op ≤ 1 then (0, 0) else if x.op = 2 then (1, 1) else (2, 256)
    if k < lm.1 ∨ k > lm.2 then 3
    else
      let most := if x.op = 0 then 1 else if x.op = 1 then n - 1 else 0
      if x.index < 0 ∨ x.index > most then 2 else 0

theorem node_fn (x : Expr) (hx : OkE x) (n : Int) (hn : 0 ≤ n ∧ n ≤ 256) : CallFn Tryz.prog 155 [aE x, .dat (.int .i64 n)] (.dat (.int .i64 (nodeR x n))) := by
  refine callFn_of Tryz.func155 rfl Tryz.ntmps155 (rs := [.tmp 4]) rfl (by kernel_rfl) (by simp) (by kernel_rfl) ?_
  simp
  refine ⟨fun h => by simp [nodeR, h], fun h0 h5 => ?_⟩
  have h := hx.len
  obtain ho | ho | ho | ho | ho : x.op = 0 ∨ x.op = 1 ∨ x.op = 2 ∨ x.op = 3 ∨ x.op = 4 := by omega
  all_goals
    refine V.draw (fun s => if s = 15 then some (.fn (.agg shapesA)) else none) (by kernel_rfl) (by kernel_rfl) (by simp) ?_
    simp [ho, reads, Region.binds]
    refine ⟨shapes_fn, ?_⟩
    and_intros <;> intros <;> simp only [nodeR, ho] <;> (cases hk : x.args <;> simp_all <;> omega)

def nodeS (n : Int) (_ : Unit) (p : Int × Expr) : Except Int Unit := if nodeR p.2 n ≠ 0 then .error (nodeR p.2 n) else .ok ()
def checkE (x : Expr) (n : Int) : Int :=
  if n < 0 ∨ n > 256 then 2
  else match meas x with
    | .error _ => 5
    | .ok _ => match (preE x 1).foldlM (nodeS n) () with
      | .ok _ => 0
      | .error e => e

theorem preE_ok : ∀ (N : Nat) (x : Expr), SizeOf.sizeOf x < N → OkE x → ∀ (d : Int), ∀ p ∈ preE x d, OkE p.2
  | 0, _, h, _, _, _, _ => absurd h (Nat.not_lt_zero _)
  | N + 1, x, hN, hx, d, p, hp => by
    rw [preE_eq] at hp
    rcases List.mem_cons.1 hp with rfl | hp
    · exact hx
    · split at hp
      · have : ∀ l : List Expr, (∀ y ∈ l, y ∈ x.args) → p ∈ preL l (d + 1) → OkE p.2 := by
          intro l
          induction l with
          | nil => intro _ h; simp [preL] at h
          | cons y l ih =>
            intro hl h
            simp only [preL, List.mem_append] at h
            rcases h with h | h
            · have hm := hl y (by simp)
              exact preE_ok N y (by have := Expr.lt_of_mem hm; omega) (hx.args y hm) (d + 1) p h
            · exact ih (fun y hy => hl y (by simp [hy])) h
        exact this x.args (fun _ h => h) hp
      · simp at hp

theorem check_fn (x : Expr) (hx : OkE x) (n : Int) : CallFn Tryz.prog 123 [aE x, .dat (.int .i64 n)] (.dat (.int .i64 (checkE x n))) := by
  refine callFn_of Tryz.func123 rfl Tryz.ntmps123 (rs := [.cell 4 32]) rfl (by kernel_rfl) (by simp) (by kernel_rfl) ?_
  simp
  intro b
  refine ⟨fun h => by simp [checkE, h], fun h0 h1 => ?_⟩
  refine (measure_fn x hx).s ?_
  cases hm : meas x with
  | error e => simp [checkE, hm, Int.not_lt.2 h0, Int.not_lt.2 h1]
  | ok s =>
    obtain ⟨k, d⟩ := s
    simp
    refine (preorder_fn x).s ?_
    refine V.rangeFold (items := preE x 1) (enc := fun p => [.dat (.int .i64 p.1), aE p.2]) 100 (by simp) trivial (preorder_iter x hx)
      (fun _ : Unit => [(4, .box b [.dat (.int .i64 0)])]) (fun e : Int => [(4, .box b [.dat (.int .i64 e)])]) (fun _ => none) (nodeS n) (fun _ => True) () trivial (fun _ _ _ _ _ => trivial) (subP.refl _) (by simp) ?_ ?_
    · rintro l ⟨⟩ ⟨d, y⟩ _ hp
      simp
      intro b1
      refine (node_fn y (preE_ok (SizeOf.sizeOf x + 1) x (by omega) hx 1 _ hp) n ⟨h0, h1⟩).s ?_
      simp
      by_cases hz : nodeR y n = 0
      · simp [nodeS, hz]
        exact (subP.refl _).c _
      · simp [nodeS, hz, jX]
        exact (subP.refl _).c _
    · intro o ho
      cases o with
      | error e => simp [checkE, hm, ho, jX, Int.not_lt.2 h0, Int.not_lt.2 h1]
      | ok s => simp [checkE, hm, ho, jX, Int.not_lt.2 h0, Int.not_lt.2 h1]

end Go.Proofs.YtakndgpdolfenaaGreat
end

/- Contracts: boolexp's eval. -/
section
namespace Go.Proofs.YtakndgpdolfenaaGreat
set_option maxHeartbeats 2000000
set_option maxRecDepth 10000




inductive RightE (n : Int) : Expr → Prop
  | mk (x : Expr) (h : nodeR x n = 0) (hr : ∀ a ∈ x.args, RightE n a) : RightE n x
theorem RightE.node {n : Int} {x : Expr} (h : RightE n x) : nodeR x n = 0 := by cases h; assumption
theorem RightE.args {n : Int} {x : Expr} (h : RightE n x) : ∀ a ∈ x.args, RightE n a := by cases h; assumption

mutual
def evalE : Expr → List Bool → Bool
  | ⟨op, ix, args⟩, vs => if op = 0 then ix == 1 else if op = 1 then vs.getD ix.toNat false else if op = 2 then (evalL args vs).all (· == false) else if op = 3 then (evalL args vs).all (· == true) else !(evalL args vs).all (· == false)
def evalL : List Expr → List Bool → List Bool
  | [], _ => []
  | x :: xs, vs => evalE x vs :: evalL xs vs
end
theorem evalE_eq (x : Expr) (vs : List Bool) : evalE x vs = if x.op = 0 then x.index == 1 else if x.op = 1 then vs.getD x.index.toNat false else if x.op = 2 then (evalL x.args vs).all (· == false) else if x.op = 3 then (evalL x.args vs).all (· == true) else !(evalL x.args vs).all (· == false) := by
  cases x; simp [evalE]

def allS (b : Bool) (_ : Unit) (v : Bool) : Except Unit Unit := if v = b then .ok () else .error ()
theorem allS_eq (b : Bool) : ∀ vs : List Bool, vs.foldlM (allS b) () = if vs.all (· == b) then .ok () else .error ()
  | [] => by simp [pure, Except.pure]
  | v :: vs => by
    simp only [List.foldlM_cons, allS]
    by_cases h : v = b
    · simp [h, bind, Except.bind, allS_eq b vs]
    · simp [h, bind, Except.bind]

theorem all_call {f : FuncId} {first caps : List A} {items : List Bool} (b : Bool) (hit : IterS Tryz.prog f first caps items fun v => [.dat (.bool v)]) : CallFn Tryz.prog 205 [.fn f first caps, .rptr [.bool b]] (.dat (.bool (items.all (· == b)))) := by
  refine callFn_of Tryz.func205 rfl Tryz.ntmps205 (rs := [.cell 3 4]) rfl (by kernel_rfl) (by simp) (by kernel_rfl) ?_
  simp
  intro b1
  refine V.rangeFold 100 (by simp) trivial hit (fun _ : Unit => [(3, .box b1 [.dat (.bool false)])]) (fun _ : Unit => [(3, .box b1 [.dat (.bool false)])]) (fun _ => none) (allS b) (fun _ => True) () trivial (fun _ _ _ _ _ => trivial) (subP.refl _) (by simp) ?_ ?_
  · rintro l ⟨⟩ v _ hp
    simp
    by_cases hv : v = b
    · simp [allS, hv, subP.refl]
    · simp [allS, hv, jX, subP.refl]
  · intro o ho
    rw [allS_eq] at ho
    cases o with
    | ok s => 
      cases ha : items.all (· == b) with
      | true => simp [ha]
      | false => rw [ha] at ho; simp at ho
    | error e =>
      cases ha : items.all (· == b) with
      | true => rw [ha] at ho; simp at ho
      | false => simp [jX, ha]

theorem none_call {f : FuncId} {first caps : List A} {items : List Bool} (hit : IterS Tryz.prog f first caps items fun v => [.dat (.bool v)]) : CallFn Tryz.prog 192 [.fn f first caps] (.dat (.bool (!items.all (· == false)))) := by
  refine callFn_of Tryz.func192 rfl Tryz.ntmps192 (rs := [.tmp 2]) rfl (by kernel_rfl) (by simp) (by kernel_rfl) ?_
  simp
  refine (every_fn false).s ?_
  simp
  refine (all_call false hit).s ?_
  simp

theorem evalL_drop {args : List Expr} {vs : List Bool} {i : Nat} {y : Expr} (h : args[i]? = some y) : evalL (args.drop i) vs = evalE y vs :: evalL (args.drop (i + 1)) vs := by
  obtain ⟨hlt, hy⟩ := List.getElem?_eq_some_iff.1 h
  rw [List.drop_eq_getElem_cons hlt, hy, evalL]
theorem evalL_mem {vs : List Bool} {y : Expr} : ∀ {args : List Expr}, y ∈ args → evalE y vs ∈ evalL args vs
  | [], h => by simp at h
  | z :: l, h => by
    rw [evalL]
    rcases List.mem_cons.1 h with rfl | h
    · simp
    · exact List.mem_cons_of_mem _ (evalL_mem h)

theorem eval_iter (x : Expr) (hx : OkE x) (vs : List Bool) (ih : ∀ a ∈ x.args, CallFn Tryz.prog 124 [aE a, aBs vs] (.dat (.bool (evalE a vs)))) :
    IterS Tryz.prog 157 [] [.rptr [.int .i64 x.op, .int .i64 x.index, .sl (x.args.map encE)], .rptr [.sl (vs.map encB)]] (evalL x.args vs) fun v => [.dat (.bool v)] := by
  intro σ δ l Hc Hd step s hy
  refine CallS.rt (k := 1000) (CallS.dropP (callS_of Tryz.func157 rfl Tryz.ntmps157 (rs := []) rfl (by kernel_rfl) (by simp) (by kernel_rfl) (K := fun _ H' => match (evalL x.args vs).foldlM step s with
        | .ok s' => subP (rt 1000 (Hc s')) H'
        | .error e => subP (rt 1000 (Hd e)) H') ?_) ?_)
  · simp
    refine V.for' [0, 1, 2, 7, 8] (fun p => [(9, .dat (.int .i64 (p.1 : Nat)))]) (fun p => rt 1000 (Hc p.2))
      (fun p : Nat × σ => p.1 ≤ x.args.length ∧ (evalL (x.args.drop p.1) vs).foldlM step p.2 = (evalL x.args vs).foldlM step s) (fun p => x.args.length - p.1) (0, s) ⟨by simp, by simp, subP.refl _⟩ ?_
    rintro ⟨i, s2⟩ ⟨hi, hinv⟩
    simp only at hi hinv
    have hlen := hx.len
    by_cases hlt : i < x.args.length
    · obtain ⟨y, hy1⟩ : ∃ y, x.args[i]'hlt = y := ⟨_, rfl⟩
      have hy0 : x.args[i]? = some y := by rw [List.getElem?_eq_getElem hlt, hy1]
      have hmem : y ∈ x.args := List.mem_of_getElem? hy0
      rw [evalL_drop hy0, List.foldlM_cons] at hinv
      simp [hlt, hy1, encE_eq, Nat.not_le.2 hlt]
      intro b
      refine (ih y hmem).s ?_
      simp
      refine (hy s2 (evalE y vs) (evalL_mem hmem)).rt.c1.mono ?_
      rintro r H' ⟨_, ⟨H1, rfl, hk⟩, rfl⟩
      simp only [yK] at hk
      cases hst : step s2 (evalE y vs) with
      | error e =>
        rw [hst] at hk hinv
        obtain ⟨rfl, rfl⟩ := hk
        simp only [bind, Except.bind] at hinv
        simp [← hinv]
        exact (subP.refl _).c _
      | ok s3 =>
        rw [hst] at hk hinv
        obtain ⟨rfl, rfl⟩ := hk
        simp only [bind, Except.bind] at hinv
        simp
        exact ⟨by omega, i + 1, s3, ⟨hlt, hinv⟩, by omega, by simp, (subP.refl _).c _⟩
    · have hie : i = x.args.length := by omega
      subst hie
      simp
      rw [← hinv]
      simp [evalL, pure, Except.pure]
      exact subP.refl _
  · intro r H' hk
    cases hf : (evalL x.args vs).foldlM step s with
    | error e =>
      rw [hf] at hk
      exact ⟨_, hk, _, rfl, rfl⟩
    | ok s3 =>
      rw [hf] at hk
      exact ⟨_, hk, _, rfl, rfl⟩

theorem eval_fn : ∀ (N : Nat) (x : Expr), SizeOf.sizeOf x < N → OkE x → ∀ vs : List Bool, vs.length ≤ 256 → RightE vs.length x → CallFn Tryz.prog 124 [aE x, aBs vs] (.dat (.bool (evalE x vs)))
  | 0, _, h, _, _, _, _ => absurd h (Nat.not_lt_zero _)
  | N + 1, x, hN, hx, vs, hv, hr => by
    have ih : ∀ a ∈ x.args, CallFn Tryz.prog 124 [aE a, aBs vs] (.dat (.bool (evalE a vs))) := fun a ha => eval_fn N a (by have := Expr.lt_of_mem ha; omega) (hx.args a ha) vs hv (hr.args a ha)
    have hit : IterS Tryz.prog 157 [] [.rptr [.int .i64 x.op, .int .i64 x.index, .sl (x.args.map encE)], .rptr [.sl (vs.map encB)]] (evalL x.args vs) fun v => [.dat (.bool v)] := eval_iter x hx vs ih
    have hn := hr.node
    have hop : 0 ≤ x.op ∧ x.op < 5 := by
      unfold nodeR at hn
      split at hn <;> omega
    refine callFn_of Tryz.func124 rfl Tryz.ntmps124 (rs := [.tmp 4]) rfl (by kernel_rfl) (by simp) (by kernel_rfl) ?_
    obtain ho | ho | ho | ho | ho : x.op = 0 ∨ x.op = 1 ∨ x.op = 2 ∨ x.op = 3 ∨ x.op = 4 := by omega
    · simp [ho, evalE_eq x]
    · have hix : 0 ≤ x.index ∧ x.index < vs.length := by
        simp [nodeR, ho] at hn
        omega
      obtain ⟨k, hk⟩ : ∃ k : Nat, x.index = k := ⟨x.index.toNat, by omega⟩
      rw [hk] at hix
      have hkl : k < vs.length := by omega
      simp [ho, hk, hkl, evalE_eq x]
    · have e : evalE x vs = (evalL x.args vs).all (· == false) := by rw [evalE_eq, if_neg (by omega), if_neg (by omega), if_pos ho]
      simp [ho]
      refine V.draw (fun s => if s = 19 then some (.fn (.agg shapesA)) else if s = 25 then some (.fn (.dat (.bool (evalE x vs)))) else none) (by kernel_rfl) (by kernel_rfl) (by simp) ?_
      simp [ho, reads, Region.binds]
      rw [ho] at hit
      exact ⟨shapes_fn, by rw [e]; exact all_call false hit⟩
    · have e : evalE x vs = (evalL x.args vs).all (· == true) := by rw [evalE_eq, if_neg (by omega), if_neg (by omega), if_neg (by omega), if_pos ho]
      simp [ho]
      refine V.draw (fun s => if s = 19 then some (.fn (.agg shapesA)) else if s = 25 then some (.fn (.dat (.bool (evalE x vs)))) else none) (by kernel_rfl) (by kernel_rfl) (by simp) ?_
      simp [ho, reads, Region.binds]
      rw [ho] at hit
      exact ⟨shapes_fn, by rw [e]; exact all_call true hit⟩
    · have e : evalE x vs = !(evalL x.args vs).all (· == false) := by rw [evalE_eq, if_neg (by omega), if_neg (by omega), if_neg (by omega), if_neg (by omega)]
      simp [ho]
      refine V.draw (fun s => if s = 19 then some (.fn (.agg shapesA)) else if s = 25 then some (.fn (.dat (.bool (evalE x vs)))) else none) (by kernel_rfl) (by kernel_rfl) (by simp) ?_
      simp [ho, reads, Region.binds]
      rw [ho] at hit
      exact ⟨shapes_fn, by rw [e]; exact none_call hit⟩

end Go.Proofs.YtakndgpdolfenaaGreat
end

/- Contracts: boolexp.Eval, equal, Same; the reference's count, Deep, Light, node. -/
section
namespace Go.Proofs.YtakndgpdolfenaaGreat
set_option maxHeartbeats 2000000
set_option maxRecDepth 10000

theorem fold_ok {σ δ ι : Type} {step : σ → ι → Except δ σ} : ∀ {items : List ι} {s s' : σ}, items.foldlM step s = .ok s' → ∀ p ∈ items, ∃ s1 s2, step s1 p = .ok s2
  | [], _, _, _, p, hp => by simp at hp
  | q :: r, s, s', h, p, hp => by
    rw [List.foldlM_cons] at h
    cases hs : step s q with
    | error e => rw [hs] at h; simp [bind, Except.bind] at h
    | ok s1 =>
      rw [hs] at h
      rcases List.mem_cons.1 hp with rfl | hp
      · exact ⟨s, s1, hs⟩
      · exact fold_ok (s := s1) (s' := s') h p hp

theorem preL_mem {y : Expr} {d : Int} {p : Int × Expr} (hp : p ∈ preE y d) : ∀ {l : List Expr}, y ∈ l → p ∈ preL l d
  | [], h => by simp at h
  | z :: l, h => by
    simp only [preL, List.mem_append]
    rcases List.mem_cons.1 h with rfl | h
    · exact .inl hp
    · exact .inr (preL_mem hp h)

theorem right_of {n : Int} : ∀ (N : Nat) (x : Expr), SizeOf.sizeOf x < N → ∀ d : Int, (∀ p ∈ preE x d, p.1 ≤ 16) → (∀ p ∈ preE x d, nodeR p.2 n = 0) → RightE n x
  | 0, _, h, _, _, _ => absurd h (Nat.not_lt_zero _)
  | N + 1, x, hN, d, h1, h2 => by
    have hd : d ≤ 16 := h1 (d, x) (by rw [preE_eq]; simp)
    refine .mk x (h2 (d, x) (by rw [preE_eq]; simp)) fun a ha => ?_
    have hsub : ∀ p ∈ preE a (d + 1), p ∈ preE x d := fun p hp => by
      rw [preE_eq, if_pos hd]
      exact List.mem_cons_of_mem _ (preL_mem hp ha)
    exact right_of N a (by have := Expr.lt_of_mem ha; omega) (d + 1) (fun p hp => h1 p (hsub p hp)) fun p hp => h2 p (hsub p hp)

theorem right_of_check {x : Expr} {n : Int} (h : checkE x n = 0) : RightE n x ∧ 0 ≤ n ∧ n ≤ 256 := by
  unfold checkE at h
  split at h
  · simp at h
  · rename_i hn
    split at h
    · simp at h
    · rename_i s hm
      split at h
      · rename_i u hf
        refine ⟨right_of (SizeOf.sizeOf x + 1) x (by omega) 1 (fun p hp => ?_) fun p hp => ?_, by omega, by omega⟩
        · obtain ⟨s1, s2, h1⟩ := fold_ok hm p hp
          unfold measS at h1
          split at h1
          · cases h1
          · omega
        · obtain ⟨s1, s2, h1⟩ := fold_ok hf p hp
          unfold nodeS at h1
          split at h1
          · cases h1
          · rename_i h2; simpa using h2
      · rename_i e hf
        -- an error is never 0
        have : ∀ (l : List (Int × Expr)), l.foldlM (nodeS n) () = .error e → e ≠ 0 := by
          intro l
          induction l with
          | nil => intro h; simp [pure, Except.pure] at h
          | cons p l ih =>
            intro h
            rw [List.foldlM_cons] at h
            by_cases hz : nodeR p.2 n = 0
            · simp only [nodeS, hz, ne_eq, not_true_eq_false, if_false] at h
              exact ih h
            · simp only [nodeS, hz, ne_eq, not_false_eq_true, if_true] at h
              injection h with h
              rw [← h]; exact hz
        exact absurd h (this _ hf)

theorem evalx_fn (x : Expr) (hx : OkE x) (vs : List Bool) (hv : vs.length ≤ 9223372036854775807) : CallFn Tryz.prog 99 [aE x, aBs vs] (.tuple (if checkE x vs.length = 0 then [.dat (.bool (evalE x vs)), .dat (.int .i64 0)] else [.dat (.bool false), .dat (.int .i64 (checkE x vs.length))])) := by
  refine callFn_of Tryz.func99 rfl Tryz.ntmps99 (rs := [.tmp 4, .tmp 5]) rfl (by kernel_rfl) (by simp) (by kernel_rfl) ?_
  simp
  refine (check_fn x hx vs.length).s ?_
  simp
  by_cases hc : checkE x vs.length = 0
  · obtain ⟨h1, h2, h3⟩ := right_of_check hc
    simp [hc]
    refine (eval_fn (SizeOf.sizeOf x + 1) x (by omega) hx vs (by omega) h1).s ?_
    simp [hc]
  · simp [hc]

end Go.Proofs.YtakndgpdolfenaaGreat
end

/- Contracts: the reference's count, Deep, Light. -/
section
namespace Go.Proofs.YtakndgpdolfenaaGreat
set_option maxHeartbeats 2000000
set_option maxRecDepth 10000

mutual
def cntE : Expr → Int → Int
  | ⟨_, _, args⟩, m => cntL args m 1
def cntL : List Expr → Int → Int → Int
  | [], _, n => n
  | x :: xs, m, n => if n ≤ m then cntL xs m (n + cntE x (m - n)) else n
end
theorem cntE_eq (x : Expr) (m : Int) : cntE x m = cntL x.args m 1 := by cases x; simp [cntE]

theorem cnt_le : ∀ (N : Nat) (x : Expr), SizeOf.sizeOf x < N → ∀ m : Int, 0 ≤ m → 1 ≤ cntE x m ∧ cntE x m ≤ m + 1
  | 0, _, h, _, _ => absurd h (Nat.not_lt_zero _)
  | N + 1, x, hN, m, hm => by
    rw [cntE_eq]
    have : ∀ l : List Expr, (∀ y ∈ l, y ∈ x.args) → ∀ n : Int, 1 ≤ n → n ≤ m + 1 → 1 ≤ cntL l m n ∧ cntL l m n ≤ m + 1 := by
      intro l
      induction l with
      | nil => intro _ n h1 h2; simp [cntL]; omega
      | cons y l ih =>
        intro hl n h1 h2
        rw [cntL]
        split
        · rename_i hle
          have hy := cnt_le N y (by have := Expr.lt_of_mem (hl y (by simp)); omega) (m - n) (by omega)
          exact ih (fun z hz => hl z (by simp [hz])) _ (by omega) (by omega)
        · exact ⟨h1, h2⟩
    exact this x.args (fun _ h => h) 1 (by omega) (by omega)

theorem count_fn : ∀ (N : Nat) (x : Expr), SizeOf.sizeOf x < N → OkE x → ∀ m : Int, 0 ≤ m → m ≤ 100000 → CallFn Tryz.prog 129 [aE x, .dat (.int .i64 m)] (.dat (.int .i64 (cntE x m)))
  | 0, _, h, _, _, _, _ => absurd h (Nat.not_lt_zero _)
  | N + 1, x, hN, hx, m, h0, h1 => by
    refine callFn_of Tryz.func129 rfl Tryz.ntmps129 (rs := [.tmp 4]) rfl (by kernel_rfl) (by simp) (by kernel_rfl) ?_
    simp
    refine V.for [1, 2] (fun p : Nat × Int => [(6, .dat (.int .i64 (p.1 : Nat))), (5, .dat (.int .i64 p.2))]) (fun _ => [])
      (fun p => p.1 ≤ x.args.length ∧ 1 ≤ p.2 ∧ p.2 ≤ m + 1 ∧ cntL (x.args.drop p.1) m p.2 = cntE x m) (fun p => x.args.length - p.1) (0, 1) ⟨by simp [cntE_eq]; omega, by simp, by simp⟩ ?_
    rintro ⟨i, n⟩ ⟨hi, hn1, hn2, hinv⟩
    simp only at hi hn1 hn2 hinv
    have hlen := hx.len
    by_cases hlt : i < x.args.length
    · obtain ⟨y, hy1⟩ : ∃ y, x.args[i]'hlt = y := ⟨_, rfl⟩
      have hy0 : x.args[i]? = some y := by rw [List.getElem?_eq_getElem hlt, hy1]
      have hmem : y ∈ x.args := List.mem_of_getElem? hy0
      rw [List.drop_eq_getElem_cons hlt, hy1, cntL] at hinv
      by_cases hnm : n ≤ m
      · rw [if_pos hnm] at hinv
        have hle := cnt_le N y (by have := Expr.lt_of_mem hmem; omega) (m - n) (by omega)
        simp [hlt, hy1, hnm, encE_eq]
        refine ⟨by omega, ?_⟩
        refine (count_fn N y (by have := Expr.lt_of_mem hmem; omega) (hx.args y hmem) (m - n) (by omega) (by omega)).s ?_
        simp
        exact ⟨by omega, by omega, i + 1, n + cntE y (m - n), ⟨by omega, by omega, by omega, hinv⟩, by omega, by simp, rfl⟩
      · rw [if_neg hnm] at hinv
        simp [hlt, hnm, hinv]
        intro h
        exact absurd h (by omega)
    · have hie : i = x.args.length := by omega
      subst hie
      simp [cntL] at hinv
      simp [hinv]

mutual
def deepE : Expr → Int → Bool
  | ⟨_, _, args⟩, m => if m < 1 then false else if m = 1 then args.length == 0 else deepL args (m - 1)
def deepL : List Expr → Int → Bool
  | [], _ => true
  | x :: xs, m => deepE x m && deepL xs m
end
theorem deepE_eq (x : Expr) (m : Int) : deepE x m = if m < 1 then false else if m = 1 then x.args.length == 0 else deepL x.args (m - 1) := by cases x; simp [deepE]

theorem deep_fn : ∀ (N : Nat) (x : Expr), SizeOf.sizeOf x < N → OkE x → ∀ m : Int, -100000 ≤ m → m ≤ 100000 → CallFn Tryz.prog 130 [aE x, .dat (.int .i64 m)] (.dat (.bool (deepE x m)))
  | 0, _, h, _, _, _, _ => absurd h (Nat.not_lt_zero _)
  | N + 1, x, hN, hx, m, h0, h1 => by
    refine callFn_of Tryz.func130 rfl Tryz.ntmps130 (rs := [.tmp 4]) rfl (by kernel_rfl) (by simp) (by kernel_rfl) ?_
    by_cases hm1 : m < 1
    · simp [hm1, deepE_eq x]
    by_cases hm2 : m = 1
    · subst hm2
      simp [deepE_eq x]
      cases x.args <;> simp
      omega
    have e : deepE x m = deepL x.args (m - 1) := by rw [deepE_eq, if_neg hm1, if_neg hm2]
    simp [hm1, hm2]
    refine V.for [1, 2] (fun i : Nat => [(5, .dat (.int .i64 (i : Nat)))]) (fun _ => [])
      (fun i => i ≤ x.args.length ∧ deepL (x.args.drop i) (m - 1) = deepE x m) (fun i => x.args.length - i) 0 ⟨by simp [e], by simp, by simp⟩ ?_
    rintro i ⟨hi, hinv⟩
    have hlen := hx.len
    by_cases hlt : i < x.args.length
    · obtain ⟨y, hy1⟩ : ∃ y, x.args[i]'hlt = y := ⟨_, rfl⟩
      have hy0 : x.args[i]? = some y := by rw [List.getElem?_eq_getElem hlt, hy1]
      have hmem : y ∈ x.args := List.mem_of_getElem? hy0
      rw [List.drop_eq_getElem_cons hlt, hy1, deepL] at hinv
      simp [hlt, hy1, encE_eq]
      refine ⟨by omega, ?_⟩
      refine (deep_fn N y (by have := Expr.lt_of_mem hmem; omega) (hx.args y hmem) (m - 1) (by omega) (by omega)).s ?_
      simp
      cases hd : deepE y (m - 1) with
      | false => simp [hd] at hinv; simp [hinv]
      | true =>
        simp [hd] at hinv
        simp
        exact ⟨by omega, i + 1, ⟨hlt, hinv⟩, by omega, by simp⟩
    · have hie : i = x.args.length := by omega
      subst hie
      simp [deepL] at hinv
      simp [← hinv]

def lightE (x : Expr) : Bool := decide (cntE x 256 ≤ 256) && deepE x 16

theorem light_fn (x : Expr) (hx : OkE x) : CallFn Tryz.prog 106 [aE x] (.dat (.bool (lightE x))) := by
  refine callFn_of Tryz.func106 rfl Tryz.ntmps106 (rs := [.tmp 2]) rfl (by kernel_rfl) (by simp) (by kernel_rfl) ?_
  simp
  refine (count_fn (SizeOf.sizeOf x + 1) x (by omega) hx 256 (by omega) (by omega)).s ?_
  simp
  refine GCall.fn (.dat (.bool (deepE x 16))) (fun h => ⟨by first | trivial | exact h, deep_fn (SizeOf.sizeOf x + 1) x (by omega) hx 16 (by omega) (by omega)⟩) ?_
  by_cases h : cntE x 256 ≤ 256
  · simp [h, lightE]
  · simp [h, lightE]

end Go.Proofs.YtakndgpdolfenaaGreat
end

/- Contracts: the reference's node, nodes, Check, Occurs. -/
section
namespace Go.Proofs.YtakndgpdolfenaaGreat
set_option maxHeartbeats 2000000
set_option maxRecDepth 10000

def nodeT (x : Expr) (n : Int) : Int :=
  if x.op < 0 ∨ x.op ≥ 5 then 1
  else
    let k : Int := x.args.length
    if (x.op ≤ 1 ∧ k ≠ 0) ∨ (x.op = 2 ∧ k ≠ 1) ∨ (x.op ≥ 3 ∧ k < 2) then 3
    else
      let most := if x.op = 0 then 2 else if x.op = 1 then n else 1
      if x.index < 0 ∨ x.index ≥ most then 2 else 0

theorem nodeT_fn (x : Expr) (n : Int) : CallFn Tryz.prog 199 [aE x, .dat (.int .i64 n)] (.dat (.int .i64 (nodeT x n))) := by
  refine callFn_of Tryz.func199 rfl Tryz.ntmps199 (rs := [.tmp 4]) rfl (by kernel_rfl) (by simp) (by kernel_rfl) ?_
  by_cases hop : x.op < 0 ∨ x.op ≥ 5
  · simp [nodeT, hop]
    omega
  · obtain ho | ho | ho | ho | ho : x.op = 0 ∨ x.op = 1 ∨ x.op = 2 ∨ x.op = 3 ∨ x.op = 4 := by omega
    all_goals
      simp [ho, reads]
      and_intros <;> intros <;> simp only [nodeT, ho] <;> (cases hk : x.args <;> simp_all <;> omega)

mutual
def nodesE : Expr → Int → Int
  | ⟨op, ix, args⟩, n => if nodeT ⟨op, ix, args⟩ n ≠ 0 then nodeT ⟨op, ix, args⟩ n else nodesL args n
def nodesL : List Expr → Int → Int
  | [], _ => 0
  | x :: xs, n => if nodesE x n ≠ 0 then nodesE x n else nodesL xs n
end
theorem nodesE_eq (x : Expr) (n : Int) : nodesE x n = if nodeT x n ≠ 0 then nodeT x n else nodesL x.args n := by cases x; simp [nodesE]

theorem nodes_fn : ∀ (N : Nat) (x : Expr), SizeOf.sizeOf x < N → OkE x → ∀ n : Int, CallFn Tryz.prog 170 [aE x, .dat (.int .i64 n)] (.dat (.int .i64 (nodesE x n)))
  | 0, _, h, _, _ => absurd h (Nat.not_lt_zero _)
  | N + 1, x, hN, hx, n => by
    refine callFn_of Tryz.func170 rfl Tryz.ntmps170 (rs := [.tmp 4]) rfl (by kernel_rfl) (by simp) (by kernel_rfl) ?_
    simp
    refine (nodeT_fn x n).s ?_
    by_cases hz : nodeT x n = 0
    · have e : nodesE x n = nodesL x.args n := by rw [nodesE_eq, if_neg (by simp [hz])]
      simp [hz]
      refine V.for [1, 2] (fun i : Nat => [(6, .dat (.int .i64 (i : Nat)))]) (fun _ => [])
        (fun i => i ≤ x.args.length ∧ nodesL (x.args.drop i) n = nodesE x n) (fun i => x.args.length - i) 0 ⟨by simp [e], by simp, by simp⟩ ?_
      rintro i ⟨hi, hinv⟩
      have hlen := hx.len
      by_cases hlt : i < x.args.length
      · obtain ⟨y, hy1⟩ : ∃ y, x.args[i]'hlt = y := ⟨_, rfl⟩
        have hy0 : x.args[i]? = some y := by rw [List.getElem?_eq_getElem hlt, hy1]
        have hmem : y ∈ x.args := List.mem_of_getElem? hy0
        rw [List.drop_eq_getElem_cons hlt, hy1, nodesL] at hinv
        simp [hlt, hy1, encE_eq]
        refine (nodes_fn N y (by have := Expr.lt_of_mem hmem; omega) (hx.args y hmem) n).s ?_
        by_cases hd : nodesE y n = 0
        · simp [hd] at hinv
          simp [hd]
          exact ⟨by omega, i + 1, ⟨hlt, hinv⟩, by omega, by simp⟩
        · simp [hd] at hinv
          rw [← hinv]
          simp [hd]
      · have hie : i = x.args.length := by omega
        subst hie
        simp [nodesL] at hinv
        simp [← hinv]
    · have e : nodesE x n = nodeT x n := by rw [nodesE_eq, if_pos hz]
      rw [e]
      simp [hz]

def refCheckE (x : Expr) (n : Int) : Int := if n < 0 ∨ n > 256 then 2 else if lightE x = false then 5 else nodesE x n

theorem refCheck_fn (x : Expr) (hx : OkE x) (n : Int) : CallFn Tryz.prog 133 [aE x, .dat (.int .i64 n)] (.dat (.int .i64 (refCheckE x n))) := by
  refine callFn_of Tryz.func133 rfl Tryz.ntmps133 (rs := [.tmp 4]) rfl (by kernel_rfl) (by simp) (by kernel_rfl) ?_
  simp
  refine ⟨fun h => by simp [refCheckE, h], fun h0 h1 => ?_⟩
  refine (light_fn x hx).s ?_
  cases hl : lightE x with
  | false => simp [refCheckE, hl, Int.not_lt.2 h0, Int.not_lt.2 h1]
  | true =>
    simp
    refine (nodes_fn (SizeOf.sizeOf x + 1) x (by omega) hx n).s ?_
    simp [refCheckE, hl, Int.not_lt.2 h0, Int.not_lt.2 h1]

end Go.Proofs.YtakndgpdolfenaaGreat
end

/- Contracts: the small functions of control and its reference. -/
section
namespace Go.Proofs.YtakndgpdolfenaaGreat
set_option maxHeartbeats 2000000
set_option maxRecDepth 10000

def firstC (c : Control) : Int := 2 * c.actuators + c.inputs.length
def countC (c : Control) : Int := 2 * c.actuators + c.inputs.length + c.signals.length

theorem first_fn (c : Control) (h : Sm c) : CallFn Tryz.prog 100 [aC c] (aI (firstC c)) := by
  obtain ⟨h1, h2, h3⟩ := h
  refine callFz_of Tryz.func100 rfl Tryz.ntmps100 (rs := [.tmp 2]) rfl (by kernel_rfl) (by simp) (by kernel_rfl) ?_
  simp [firstC]
  omega
theorem signals_fn (c : Control) (h : Sm c) : CallFn Tryz.prog 21 [aC c] (aI (firstC c)) := by
  obtain ⟨h1, h2, h3⟩ := h
  refine callFz_of Tryz.func21 rfl Tryz.ntmps21 (rs := [.tmp 2]) rfl (by kernel_rfl) (by simp) (by kernel_rfl) ?_
  simp [firstC]
  omega
theorem lines_fn (c : Control) (h : Sm c) : CallFn Tryz.prog 16 [aC c] (aI (countC c)) := by
  obtain ⟨h1, h2, h3⟩ := h
  refine callFz_of Tryz.func16 rfl Tryz.ntmps16 (rs := [.tmp 2]) rfl (by kernel_rfl) (by simp) (by kernel_rfl) ?_
  simp [countC]
  omega
theorem count_c (c : Control) (h : Sm c) : CallFn Tryz.prog 151 [aC c] (aI (countC c)) := by
  refine callFz_of Tryz.func151 rfl Tryz.ntmps151 (rs := [.tmp 2]) rfl (by kernel_rfl) (by simp) (by kernel_rfl) ?_
  simp
  refine V.draw (fun s => if s = 4 then some (.fn (aI (firstC c))) else none) (by kernel_rfl) (by kernel_rfl) (by simp) ?_
  have := first_fn c h
  obtain ⟨h1, h2, h3⟩ := h
  simp [reads, firstC, countC]
  simp [firstC] at this
  exact ⟨this, by omega, by omega⟩
def zeroE (x : Expr) : Bool := x.op == 0 && x.index == 0 && (x.args.length : Int) == 0
theorem zero_fn (x : Expr) : CallFn Tryz.prog 184 [aE x] (aB (zeroE x)) := by
  refine callFz_of Tryz.func184 rfl Tryz.ntmps184 (rs := [.tmp 2]) rfl (by kernel_rfl) (by simp) (by kernel_rfl) ?_
  simp [reads, zeroE]
theorem zeroR_fn (x : Expr) : CallFn Tryz.prog 135 [aE x] (aB (zeroE x)) := by
  refine callFz_of Tryz.func135 rfl Tryz.ntmps135 (rs := [.tmp 2]) rfl (by kernel_rfl) (by simp) (by kernel_rfl) ?_
  simp [reads, zeroE]

/-! ### Names of lines -/
def digC (k : Int) : List UInt8 := encU k
def lineName (k : Int) : List UInt8 := encU (97 + k.tdiv 2) ++ encU (48 + k.tmod 2)
def namedC (c : Control) (k : Int) : List UInt8 :=
  if k < 2 * c.actuators then lineName k
  else if k < firstC c then c.inputs.getD (k - 2 * c.actuators).toNat []
  else ((c.signals[(k - firstC c).toNat]?).map (·.name)).getD []

theorem encU_ascii {n : Int} (h0 : 0 ≤ n) (h1 : n < 128) : encU n = [UInt8.ofNat n.toNat] := by
  have hv : Utf8.valid n = true := by simp [Utf8.valid]; omega
  simp only [encU, Utf8.encode, hv, if_true]
  rw [if_pos (by omega)]
theorem named_sig {c : Control} {k : Int} {s : Signal} (h0 : firstC c ≤ k) (ha : 2 * c.actuators ≤ firstC c) (hs : c.signals[(k - firstC c).toNat]? = some s) : namedC c k = s.name := by
  unfold namedC
  rw [if_neg (by omega), if_neg (by omega), hs]
  rfl
theorem named_inp {c : Control} {k : Int} {s : List UInt8} (h0 : 2 * c.actuators ≤ k) (h1 : k < firstC c) (hs : c.inputs[(k - 2 * c.actuators).toNat]? = some s) : namedC c k = s := by
  unfold namedC
  rw [if_neg (by omega), if_pos h1, List.getD_eq_getElem?_getD, hs]
  rfl
theorem getI {α : Type} {l : List α} {k : Int} (h0 : 0 ≤ k) (h1 : k < l.length) : ∃ y, l[k.toNat]? = some y := ⟨_, List.getElem?_eq_getElem (by omega)⟩

theorem named_fn (c : Control) (h : Sm c) (ha : 0 ≤ c.actuators ∧ c.actuators ≤ 6) (k : Int) (h0 : 0 ≤ k) (h1 : k < countC c) : CallFn Tryz.prog 146 [aC c, aI k] (aT (namedC c k)) := by
  have hs := h
  obtain ⟨g1, g2, g3⟩ := h
  have hf : firstC c = 2 * c.actuators + c.inputs.length := rfl
  have hcn : countC c = 2 * c.actuators + c.inputs.length + c.signals.length := rfl
  refine callFz_of Tryz.func146 rfl Tryz.ntmps146 (rs := [.tmp 4]) rfl (by kernel_rfl) (by simp) (by kernel_rfl) ?_
  simp
  refine (first_fn c hs).s ?_
  by_cases hk1 : k < 2 * c.actuators
  · simp [hk1]
    have ed : k.tdiv 2 = k / 2 := Int.tdiv_eq_ediv_of_nonneg h0
    have em : k.tmod 2 = k % 2 := Int.tmod_eq_emod_of_nonneg h0
    have e1 := encU_ascii (n := 97 + k.tdiv 2) (by omega) (by omega)
    have e2 := encU_ascii (n := 48 + k.tmod 2) (by omega) (by omega)
    rw [show namedC c k = encU (97 + k.tdiv 2) ++ encU (48 + k.tmod 2) by unfold namedC; rw [if_pos hk1]; rfl, e1, e2]
    simp
    omega
  · by_cases hk2 : k < firstC c
    · obtain ⟨y, hy⟩ := getI (l := c.inputs) (k := k - 2 * c.actuators) (by omega) (by omega)
      rw [named_inp (by omega) hk2 hy]
      simp [hk1, hk2, hy]
      omega
    · obtain ⟨y, hy⟩ := getI (l := c.signals) (k := k - firstC c) (by omega) (by omega)
      rw [named_sig (by omega) (by omega) hy]
      simp [hk1, hk2, hy]
      omega
theorem NamedR_fn (c : Control) (h : Sm c) (ha : 0 ≤ c.actuators ∧ c.actuators ≤ 6) (k : Int) (h0 : 0 ≤ k) (h1 : k < countC c) : CallFn Tryz.prog 131 [aC c, aI k] (aT (namedC c k)) := by
  have hs := h
  obtain ⟨g1, g2, g3⟩ := h
  have hf : firstC c = 2 * c.actuators + c.inputs.length := rfl
  have hcn : countC c = 2 * c.actuators + c.inputs.length + c.signals.length := rfl
  refine callFz_of Tryz.func131 rfl Tryz.ntmps131 (rs := [.tmp 4]) rfl (by kernel_rfl) (by simp) (by kernel_rfl) ?_
  by_cases hk1 : k < 2 * c.actuators
  · simp [hk1]
    refine ⟨by omega, V.draw (fun _ => none) (by kernel_rfl) (by kernel_rfl) (by simp) ?_⟩
    have ed : k.tdiv 2 = k / 2 := Int.tdiv_eq_ediv_of_nonneg h0
    have em : k.tmod 2 = k % 2 := Int.tmod_eq_emod_of_nonneg h0
    have e1 := encU_ascii (n := 97 + k.tdiv 2) (by omega) (by omega)
    have e2 := encU_ascii (n := 48 + k.tmod 2) (by omega) (by omega)
    rw [show namedC c k = encU (97 + k.tdiv 2) ++ encU (48 + k.tmod 2) by unfold namedC; rw [if_pos hk1]; rfl, e1, e2]
    simp [reads]
    obtain hk | hk | hk | hk | hk | hk | hk | hk | hk | hk | hk | hk : k = 0 ∨ k = 1 ∨ k = 2 ∨ k = 3 ∨ k = 4 ∨ k = 5 ∨ k = 6 ∨ k = 7 ∨ k = 8 ∨ k = 9 ∨ k = 10 ∨ k = 11 := by omega
    all_goals (subst hk; simp) <;> omega
  · simp [hk1]
    refine ⟨by omega, (signals_fn c hs).s ?_⟩
    by_cases hk2 : k < firstC c
    · obtain ⟨y, hy⟩ := getI (l := c.inputs) (k := k - 2 * c.actuators) (by omega) (by omega)
      rw [named_inp (by omega) hk2 hy]
      simp [hk2, hy]
      omega
    · obtain ⟨y, hy⟩ := getI (l := c.signals) (k := k - firstC c) (by omega) (by omega)
      rw [named_sig (by omega) (by omega) hy]
      simp [hk2]
      refine V.draw (fun s => if s = 40 then some (.fn (aI (firstC c))) else none) (by kernel_rfl) (by kernel_rfl) (by simp) ?_
      simp [reads, hy]
      exact ⟨signals_fn c hs, by omega⟩

/-! ### Names -/
def partB (b : UInt8) : Bool := (97 ≤ b.toNat && b.toNat ≤ 122) || (65 ≤ b.toNat && b.toNat ≤ 90) || (48 ≤ b.toNat && b.toNat ≤ 57) || b.toNat == 95
def partI (b : Int) : Bool := (decide (97 ≤ b) && decide (b ≤ 122)) || (decide (65 ≤ b) && decide (b ≤ 90)) || (decide (48 ≤ b) && decide (b ≤ 57)) || b == 95
theorem part_fn (b : Int) (h0 : 0 ≤ b) (h1 : b ≤ 255) : CallFn Tryz.prog 187 [.dat (.int .u8 b)] (aB (partI b)) := by
  refine callFz_of Tryz.func187 rfl Tryz.ntmps187 (rs := [.tmp 2]) rfl (by kernel_rfl) (by simp) (by kernel_rfl) ?_
  simp [reads, partI]
  omega

end Go.Proofs.YtakndgpdolfenaaGreat
end

/- Contracts: the library's slices. Written by a program (wip/gen_la.py). -/
section
namespace Go.Proofs.YtakndgpdolfenaaGreat
set_option maxHeartbeats 2000000
set_option maxRecDepth 10000

theorem take_eq {α : Type} {xs ys : List α} {i : Nat} {x y : α} (h : xs.take i = ys.take i) (hx : xs[i]? = some x) (hy : ys[i]? = some y) (e : x = y) : xs.take (i + 1) = ys.take (i + 1) := by
  rw [List.take_add_one, List.take_add_one, h, hx, hy, e]
theorem ne_of_get {α : Type} {xs ys : List α} {i : Nat} {x y : α} (hx : xs[i]? = some x) (hy : ys[i]? = some y) (e : x ≠ y) : xs ≠ ys := by
  rintro rfl; rw [hx] at hy; exact e (Option.some.inj hy)
def NoF {α : Type} (p : α → Bool) (xs : List α) : Prop := ∀ y ∈ xs, p y = false
@[simp] theorem NoF_nil {α : Type} (p : α → Bool) : NoF p [] = True := by simp [NoF]
theorem findIdx_step {α : Type} {p : α → Bool} {xs : List α} {i : Nat} {x : α} (h : NoF p (xs.take i)) (hx : xs[i]? = some x) : (p x = false → NoF p (xs.take (i + 1))) ∧ (p x = true → xs.findIdx? p = some i) := by
  obtain ⟨hi, rfl⟩ := List.getElem?_eq_some_iff.1 hx
  constructor
  · intro e y hy
    rw [List.take_add_one, hx] at hy
    rcases List.mem_append.1 hy with hy | hy
    · exact h y hy
    · simp at hy; subst hy; exact e
  · intro e
    rw [List.findIdx?_eq_some_iff_getElem]
    refine ⟨hi, e, fun j hj => ?_⟩
    have := h xs[j] (List.mem_take_iff_getElem.2 ⟨j, by omega, rfl⟩)
    simp [this]
theorem findIdx_none {α : Type} {p : α → Bool} {xs : List α} (h : NoF p (xs.take xs.length)) : xs.findIdx? p = none := by
  rw [List.take_length] at h
  rw [List.findIdx?_eq_none_iff]
  intro x hx
  simp [h x hx]
/-- The index that the library gives. -/
def idxI (o : Option Nat) : Int := match o with
  | some i => i
  | none => -1
@[simp] theorem idxI_some (i : Nat) : idxI (some i) = i := rfl
@[simp] theorem idxI_none : idxI none = -1 := rfl
theorem idxI_ge (o : Option Nat) : decide (0 ≤ idxI o) = o.isSome := by cases o <;> simp [idxI] <;> omega


theorem eqI_fn (xs ys : List (Int)) (hx : Sh xs) (hy : Sh ys) : CallFn Tryz.prog 34 [aIs xs, aIs ys] (aB (decide (xs = ys))) := by
  refine callFz_of Tryz.func34 rfl Tryz.ntmps34 (rs := [.tmp 4]) rfl (by kernel_rfl) (by simp) (by kernel_rfl) ?_
  by_cases hl : xs.length = ys.length
  · simp [hl]
    refine V.forI (σ := Unit) xs.length [0, 1, 12] (by simp; exact rfl) (fun i _ => [(13, aI i)]) (fun _ _ => []) (fun i _ => xs.take i = ys.take i) () (by simp) (by simp) ⟨by simp; exact rfl, by simp⟩ ?_ ?_
    · rintro i - hi hI
      have h1 := List.getElem?_eq_getElem hi
      have h2 := List.getElem?_eq_getElem (show i < ys.length by omega)
      simp [← hl, hi]
      refine V.draw (fun _ => none) (by kernel_rfl) (by kernel_rfl) (by simp) ?_
      simp [reads, h1, h2, ← hl, hi]
      by_cases e : xs[i] = ys[i]
      · simp [e]
        exact ⟨by omega, take_eq hI h1 h2 e⟩
      · simp [e]
        exact ne_of_get h1 h2 e
    · rintro - hI
      rw [List.take_length, hl, List.take_length] at hI
      simp [hl, hI]
  · have hl' : ¬ (xs.length : Int) = ys.length := by omega
    simp [hl']
    rintro rfl
    exact hl rfl

theorem sameI_fn (xs ys : List (Int)) (hx : Sh xs) (hy : Sh ys) : CallFn Tryz.prog 82 [aIs xs, aIs ys] (aB (decide (xs = ys))) := by
  refine callFz_of Tryz.func82 rfl Tryz.ntmps82 (rs := [.tmp 4]) rfl (by kernel_rfl) (by simp) (by kernel_rfl) ?_
  by_cases hl : xs.length = ys.length
  · simp [hl]
    refine V.forI (σ := Unit) xs.length [0, 1] (by simp; exact rfl) (fun i _ => [(5, aI i)]) (fun _ _ => []) (fun i _ => xs.take i = ys.take i) () (by simp) (by simp) ⟨by simp; exact rfl, by simp⟩ ?_ ?_
    · rintro i - hi hI
      have h1 := List.getElem?_eq_getElem hi
      have h2 := List.getElem?_eq_getElem (show i < ys.length by omega)
      simp [← hl, hi]
      refine V.draw (fun _ => none) (by kernel_rfl) (by kernel_rfl) (by simp) ?_
      simp [reads, h1, h2, ← hl, hi]
      by_cases e : xs[i] = ys[i]
      · simp [e]
        exact ⟨by omega, take_eq hI h1 h2 e⟩
      · simp [e]
        exact ne_of_get h1 h2 e
    · rintro - hI
      rw [List.take_length, hl, List.take_length] at hI
      simp [hl, hI]
  · have hl' : ¬ (xs.length : Int) = ys.length := by omega
    simp [hl']
    rintro rfl
    exact hl rfl

theorem eqB_fn (xs ys : List (Bool)) (hx : Sh xs) (hy : Sh ys) : CallFn Tryz.prog 22 [aBs xs, aBs ys] (aB (decide (xs = ys))) := by
  refine callFz_of Tryz.func22 rfl Tryz.ntmps22 (rs := [.tmp 4]) rfl (by kernel_rfl) (by simp) (by kernel_rfl) ?_
  by_cases hl : xs.length = ys.length
  · simp [hl]
    refine V.forI (σ := Unit) xs.length [0, 1, 12] (by simp; exact rfl) (fun i _ => [(13, aI i)]) (fun _ _ => []) (fun i _ => xs.take i = ys.take i) () (by simp) (by simp) ⟨by simp; exact rfl, by simp⟩ ?_ ?_
    · rintro i - hi hI
      have h1 := List.getElem?_eq_getElem hi
      have h2 := List.getElem?_eq_getElem (show i < ys.length by omega)
      simp [← hl, hi]
      refine V.draw (fun _ => none) (by kernel_rfl) (by kernel_rfl) (by simp) ?_
      simp [reads, h1, h2, ← hl, hi]
      by_cases e : xs[i] = ys[i]
      · simp [e]
        exact ⟨by omega, take_eq hI h1 h2 e⟩
      · simp [e]
        exact ne_of_get h1 h2 e
    · rintro - hI
      rw [List.take_length, hl, List.take_length] at hI
      simp [hl, hI]
  · have hl' : ¬ (xs.length : Int) = ys.length := by omega
    simp [hl']
    rintro rfl
    exact hl rfl

theorem sameB_fn (xs ys : List (Bool)) (hx : Sh xs) (hy : Sh ys) : CallFn Tryz.prog 83 [aBs xs, aBs ys] (aB (decide (xs = ys))) := by
  refine callFz_of Tryz.func83 rfl Tryz.ntmps83 (rs := [.tmp 4]) rfl (by kernel_rfl) (by simp) (by kernel_rfl) ?_
  by_cases hl : xs.length = ys.length
  · simp [hl]
    refine V.forI (σ := Unit) xs.length [0, 1] (by simp; exact rfl) (fun i _ => [(5, aI i)]) (fun _ _ => []) (fun i _ => xs.take i = ys.take i) () (by simp) (by simp) ⟨by simp; exact rfl, by simp⟩ ?_ ?_
    · rintro i - hi hI
      have h1 := List.getElem?_eq_getElem hi
      have h2 := List.getElem?_eq_getElem (show i < ys.length by omega)
      simp [← hl, hi]
      refine V.draw (fun _ => none) (by kernel_rfl) (by kernel_rfl) (by simp) ?_
      simp [reads, h1, h2, ← hl, hi]
      by_cases e : xs[i] = ys[i]
      · simp [e]
        exact ⟨by omega, take_eq hI h1 h2 e⟩
      · simp [e]
        exact ne_of_get h1 h2 e
    · rintro - hI
      rw [List.take_length, hl, List.take_length] at hI
      simp [hl, hI]
  · have hl' : ¬ (xs.length : Int) = ys.length := by omega
    simp [hl']
    rintro rfl
    exact hl rfl

theorem idxF_fn (xs : List Int) (p : Int → Bool) (f : FuncId) (first caps : List A) (hx : Sh xs) (hp : ∀ n ∈ xs, CallFn Tryz.prog f (first ++ [aI n] ++ caps) (aB (p n))) :
    CallFn Tryz.prog 152 [aIs xs, .fn f first caps] (aI (idxI (xs.findIdx? p))) := by
  refine callFz_of Tryz.func152 rfl Tryz.ntmps152 (rs := [.tmp 4]) rfl (by kernel_rfl) (by simp) (by kernel_rfl) ?_
  simp
  refine V.forI (σ := Unit) xs.length [0, 1, 7] (by simp; exact rfl) (fun i _ => [(8, aI i)]) (fun _ _ => []) (fun i _ => NoF p (xs.take i)) () (by simp) (by simp) ⟨by simp; exact rfl, by simp⟩ ?_ ?_
  · rintro i - hi hI
    have h1 := List.getElem?_eq_getElem hi
    have hs := findIdx_step (p := p) hI h1
    have hc := hp xs[i] (List.getElem_mem hi)
    simp at hc
    simp [hi, h1]
    refine hc.s ?_
    cases e : p xs[i]
    · simp
      exact ⟨by omega, hs.1 e⟩
    · rw [hs.2 e]
      simp
  · rintro - hI
    rw [findIdx_none hI]
    simp
theorem containsF_fn (xs : List Int) (p : Int → Bool) (f : FuncId) (first caps : List A) (hx : Sh xs) (hp : ∀ n ∈ xs, CallFn Tryz.prog f (first ++ [aI n] ++ caps) (aB (p n))) :
    CallFn Tryz.prog 122 [aIs xs, .fn f first caps] (aB (xs.any p)) := by
  refine callFz_of Tryz.func122 rfl Tryz.ntmps122 (rs := [.tmp 4]) rfl (by kernel_rfl) (by simp) (by kernel_rfl) ?_
  simp
  refine (idxF_fn xs p f first caps hx hp).s ?_
  simp
  rw [idxI_ge, List.findIdx?_isSome]

theorem CallS.nilcase {g : FuncId} {xs : List (List L)} {az bz : List A} {H : Heap} {K : A → Heap → Prop} (h1 : xs = [] → CallS Tryz.prog g (az ++ .nils :: bz) H K) (h2 : CallS Tryz.prog g (az ++ .nn xs :: bz) H K) : CallS Tryz.prog g (az ++ .dat (.sl xs) :: bz) H K := by
  refine ⟨h2.1, fun x args H0 hi hd => ?_⟩
  have key : ∀ {b : A}, (∀ v, D x (.dat (.sl xs)) v → D x b v → True) → True := fun _ => trivial
  have hl := hd.length
  have hsplit : ∃ v us ws, args.toList = us ++ v :: ws ∧ Ds x az us ∧ D x (.dat (.sl xs)) v ∧ Ds x bz ws := by
    have e := List.take_append_drop az.length args.toList
    have ht := hd.take az.length
    have hdr := hd.drop az.length
    simp only [List.take_left, List.drop_left] at ht hdr
    cases hw : args.toList.drop az.length with
    | nil => rw [hw] at hdr; simp [Ds] at hdr
    | cons v ws =>
      rw [hw] at hdr e
      simp only [Ds] at hdr
      exact ⟨v, _, ws, e.symm, ht, hdr.1, hdr.2⟩
  obtain ⟨v, us, ws, e, d1, d2, d3⟩ := hsplit
  by_cases hv : v = .slice none 0 0
  · subst hv
    have hx : xs = [] := by
      simp only [D, RdL] at d2
      rcases d2 with ⟨_, h⟩ | ⟨b, off, cap, h, _⟩ | ⟨_, h, _⟩
      · exact h
      · cases h
      · cases h
    refine (h1 hx).2 x args H0 hi ?_
    rw [e]
    exact d1.append (by simp [Ds, D]; exact d3)
  · refine h2.2 x args H0 hi ?_
    rw [e]
    exact d1.append (by simp only [Ds, D]; exact ⟨⟨by simpa [D] using d2, hv⟩, d3⟩)



theorem cloneI_o (xs : List (Int)) (hx : xs.length ≤ 4294967296) : CallOwn Tryz.prog 50 [aIs xs] 3 1 (xs.map rI) := by
  refine CallS.nilcase (az := []) (bz := []) ?_ ?_
  · intro hn
    have hn : xs = [] := by simpa using hn
    subst hn
    refine callO_of Tryz.func50 rfl Tryz.ntmps50 (rs := [.tmp 2]) rfl (by kernel_rfl) (by simp) (by kernel_rfl) ?_
    simp
  · refine callO_of Tryz.func50 rfl Tryz.ntmps50 (rs := [.tmp 2]) rfl (by kernel_rfl) (by simp) (by kernel_rfl) ?_
    simp
    omega

theorem cloneB_o (xs : List (Bool)) (hx : xs.length ≤ 4294967296) : CallOwn Tryz.prog 97 [aBs xs] 4 1 (xs.map rB) := by
  refine CallS.nilcase (az := []) (bz := []) ?_ ?_
  · intro hn
    have hn : xs = [] := by simpa using hn
    subst hn
    refine callO_of Tryz.func97 rfl Tryz.ntmps97 (rs := [.tmp 2]) rfl (by kernel_rfl) (by simp) (by kernel_rfl) ?_
    simp
  · refine callO_of Tryz.func97 rfl Tryz.ntmps97 (rs := [.tmp 2]) rfl (by kernel_rfl) (by simp) (by kernel_rfl) ?_
    simp
    omega
end Go.Proofs.YtakndgpdolfenaaGreat
end

/- Contracts: names. -/
section
namespace Go.Proofs.YtakndgpdolfenaaGreat
set_option maxHeartbeats 2000000
set_option maxRecDepth 10000

theorem CallS.rt' {P : Program} {k : Nat} {g : FuncId} {az : List A} {H : Heap} {K : A → Heap → Prop} (h : CallS P g az H K) : CallS P g az (Go.Proofs.YtakndgpdolfenaaGreat.rt k H) fun r H' => ∃ H2, H' = Go.Proofs.YtakndgpdolfenaaGreat.rt k H2 ∧ K r H2 := by
  refine ⟨h.1, fun x args H0 hi hd => (h.2 x args H0 (hi.ents (by simp [rt_snd])) hd).mono ?_⟩
  rintro _ _ ⟨y, v, r, H', a, b, c, d, e, g⟩
  exact ⟨y, v, r, Go.Proofs.YtakndgpdolfenaaGreat.rt k H', a, b, c, d.ents (by simp [rt_snd]), e, H', rfl, g⟩

theorem get!_list (s : List UInt8) (i : Nat) (h : i < s.length) : (ByteArray.mk s.toArray).get! i = s[i] := by
  simp [ByteArray.get!, h]
theorem decode_ascii {s : List UInt8} {i : Nat} (h : i < s.length) (hb : s[i].toNat < 128) : Utf8.decode ⟨s.toArray⟩ i = (s[i].toNat, 1) := by
  simp [Utf8.decode, get!_list s i h, hb]
theorem decode_high {s : List UInt8} {i : Nat} (h : i < s.length) (hb : 128 ≤ s[i].toNat) : 128 ≤ (Utf8.decode ⟨s.toArray⟩ i).1 ∧ (Utf8.decode ⟨s.toArray⟩ i).1 ≤ 1114111 := by
  have hv : ∀ c : Nat, Utf8.valid c = true → c ≤ 1114111 := by
    intro c hc
    simp [Utf8.valid] at hc
    omega
  have hlt : s[i].toNat < 256 := s[i].toNat_lt
  simp only [Utf8.decode, Nat.add_zero, get!_list s i h, Utf8.runeError]
  rw [if_neg (by omega)]
  split
  · split <;> simp <;> omega
  · split
    · split
      · rename_i h1
        simp only [Bool.and_eq_true, decide_eq_true_eq] at h1
        exact ⟨by simp only []; omega, hv _ h1.2⟩
      · simp
    · split
      · split
        · rename_i h1
          simp only [Bool.and_eq_true, decide_eq_true_eq] at h1
          exact ⟨by simp only []; omega, hv _ h1.2⟩
        · simp
      · simp

/-- A search in a text, for what all great signs are. -/
theorem indexFuncS_fn (s : List UInt8) (hs : Sh s) (p : Int → Bool) (hp : ∀ r, 128 ≤ r → p r = true) (f : FuncId) (first caps : List A)
    (hf : ∀ r, 0 ≤ r → r ≤ 1114111 → CallFn Tryz.prog f (first ++ [.dat (.int .i32 r)] ++ caps) (aB (p r))) :
    CallFn Tryz.prog 209 [aT s, .fn f first caps, aB true] (aI (idxI (s.findIdx? fun b => p b.toNat))) := by
  refine callFz_of Tryz.func209 rfl Tryz.ntmps209 (rs := [.tmp 6]) rfl (by kernel_rfl) (by simp) (by kernel_rfl) ?_
  simp
  intro b
  refine V.forI (σ := Unit) s.length [1, 2, 10] (by simp; exact rfl) (fun _ _ => []) (fun i _ => [(10, .raw b (.stringIter ⟨s.toArray⟩ i))]) (fun i _ => NoF (fun b : UInt8 => p b.toNat) (s.take i)) () (by simp) (by simp) ⟨by simp; exact rfl, by simp⟩ ?_ ?_
  · rintro i - hi hI
    have h1 := List.getElem?_eq_getElem hi
    have hs1 := findIdx_step (p := fun b : UInt8 => p b.toNat) hI h1
    have hsz : i < (ByteArray.mk s.toArray).size := by simpa [ByteArray.size] using hi
    rcases Nat.lt_or_ge s[i].toNat 128 with hb | hb
    · have hd := decode_ascii hi hb
      have hc := hf s[i].toNat (by omega) (by omega)
      simp at hc
      simp [hsz, hd]
      refine hc.s ?_
      cases e : p s[i].toNat
      · simp
        exact hs1.1 e
      · rw [hs1.2 e]
        simp
    · have hd := decode_high hi hb
      have hc := hf (Utf8.decode ⟨s.toArray⟩ i).1 (by omega) (by omega)
      have e1 := hp (Utf8.decode ⟨s.toArray⟩ i).1 (by omega)
      have e2 := hp s[i].toNat (by omega)
      simp at hc
      simp [hsz]
      refine hc.s ?_
      rw [e1, hs1.2 e2]
      simp
  · rintro - hI
    rw [findIdx_none hI]
    have hsz : ¬ s.length < (ByteArray.mk s.toArray).size := by simp [ByteArray.size]
    simp [hsz]
theorem IndexFuncS_fn (s : List UInt8) (hs : Sh s) (p : Int → Bool) (hp : ∀ r, 128 ≤ r → p r = true) (f : FuncId) (first caps : List A)
    (hf : ∀ r, 0 ≤ r → r ≤ 1114111 → CallFn Tryz.prog f (first ++ [.dat (.int .i32 r)] ++ caps) (aB (p r))) :
    CallFn Tryz.prog 204 [aT s, .fn f first caps] (aI (idxI (s.findIdx? fun b => p b.toNat))) := by
  refine callFz_of Tryz.func204 rfl Tryz.ntmps204 (rs := [.tmp 4]) rfl (by kernel_rfl) (by simp) (by kernel_rfl) ?_
  simp
  refine (indexFuncS_fn s hs p hp f first caps hf).s ?_
  simp
theorem ContainsFuncS_fn (s : List UInt8) (hs : Sh s) (p : Int → Bool) (hp : ∀ r, 128 ≤ r → p r = true) (f : FuncId) (first caps : List A)
    (hf : ∀ r, 0 ≤ r → r ≤ 1114111 → CallFn Tryz.prog f (first ++ [.dat (.int .i32 r)] ++ caps) (aB (p r))) :
    CallFn Tryz.prog 185 [aT s, .fn f first caps] (aB (s.any fun b => p b.toNat)) := by
  refine callFz_of Tryz.func185 rfl Tryz.ntmps185 (rs := [.tmp 4]) rfl (by kernel_rfl) (by simp) (by kernel_rfl) ?_
  simp
  refine (IndexFuncS_fn s hs p hp f first caps hf).s ?_
  simp
  rw [idxI_ge, List.findIdx?_isSome]

def badR (r : Int) : Bool := decide (122 < r) || !partI r
theorem badR_fn (r : Int) (h0 : 0 ≤ r) (h1 : r ≤ 1114111) : CallFn Tryz.prog 186 [.dat (.int .i32 r)] (aB (badR r)) := by
  refine callFz_of Tryz.func186 rfl Tryz.ntmps186 (rs := [.tmp 2]) rfl (by kernel_rfl) (by simp) (by kernel_rfl) ?_
  simp [reads]
  refine ⟨by omega, GCall.fn (aB (partI r)) (fun h => ⟨by omega, part_fn r h0 (by omega)⟩) ?_⟩
  simp [reads, badR]

def wordS (s : List UInt8) : Bool := match s with
  | [] => false
  | b :: _ => decide (97 ≤ b.toNat) && decide (b.toNat ≤ 122) && s.all partB
def nameE (s : List UInt8) (seen : List (List UInt8)) : Int := if wordS s = false then 3 else if s.length > 24 then 17 else if s ∈ seen then 7 else 0

theorem badR_part (b : UInt8) : badR b.toNat = !partB b := by
  simp only [badR, partI, partB]
  have := b.toNat_lt
  rw [Bool.eq_iff_iff]
  simp
  omega
theorem all_bad (s : List UInt8) : (s.any fun b => badR b.toNat) = !s.all partB := by
  simp only [badR_part]
  induction s with
  | nil => rfl
  | cons b s ih => simp [ih]

/-! The names that were met, as a map. -/
def mapOf (names : List (List UInt8)) : List (L × L) := names.zipIdx.map fun p => (.str p.1, .int .i64 p.2)
theorem mget_of_aux (s : List UInt8) : ∀ (names : List (List UInt8)) (k : Nat), mget ((names.zipIdx k).map fun p => (L.str p.1, L.int .i64 p.2)) (.str s) = (names.findIdx? (· == s)).map fun i => .int .i64 (i + k : Nat)
  | [], _ => rfl
  | n :: ns, k => by
    simp only [List.zipIdx_cons, List.map_cons, mget, leq, List.findIdx?_cons]
    by_cases h : n = s
    · simp [h]
    · simp only [beq_iff_eq, h, if_false, mget_of_aux s ns (k + 1)]
      cases ns.findIdx? (· == s) <;> simp
      omega
theorem mget_of (names : List (List UInt8)) (s : List UInt8) : mget (mapOf names) (.str s) = (names.findIdx? (· == s)).map fun i => .int .i64 i := by
  have := mget_of_aux s names 0
  simpa [mapOf] using this
theorem mput_of_aux (s : List UInt8) (v : L) : ∀ (names : List (List UInt8)) (k : Nat), s ∉ names → mput ((names.zipIdx k).map fun p => (L.str p.1, L.int .i64 p.2)) (.str s) v = (names.zipIdx k).map (fun p => (L.str p.1, L.int .i64 p.2)) ++ [(.str s, v)]
  | [], _, _ => rfl
  | n :: ns, k, h => by
    simp only [List.mem_cons, not_or] at h
    simp only [List.zipIdx_cons, List.map_cons, mput, leq, beq_iff_eq, Ne.symm h.1, if_false, mput_of_aux s v ns (k + 1) h.2, List.cons_append]
theorem mput_of {names : List (List UInt8)} {s : List UInt8} (h : s ∉ names) : mput (mapOf names) (.str s) (.int .i64 names.length) = mapOf (names ++ [s]) := by
  have := mput_of_aux s (.int .i64 names.length) names 0 h
  simp only [mapOf, this, List.zipIdx_append, List.map_append]
  simp
@[simp] theorem mapOf_length (names : List (List UInt8)) : (mapOf names).length = names.length := by simp [mapOf]

end Go.Proofs.YtakndgpdolfenaaGreat
end

/- Contracts: control's checker. -/
section
namespace Go.Proofs.YtakndgpdolfenaaGreat
set_option maxHeartbeats 2000000
set_option maxRecDepth 10000

abbrev chkBox (b r : Nat) (c : Control) : Nat × Ent := (32, .box b [.dat (.int .i64 c.actuators), .dat (.sl (c.inputs.map encT)), .dat (.sl (c.signals.map encS)), .dat (.sl (c.plus.map encI)), .dat (.sl (c.minus.map encI)), .map 30 r,
  .fn 143 [.ptr 32 b 0] [], .fn 144 [.ptr 32 b 0] [], .fn 145 [.ptr 32 b 0] []])
abbrev chkMap (r : Nat) (names : List (List UInt8)) : Nat × Ent := (30, .map r .string (mapOf names))

theorem cname_s (b r : Nat) (c : Control) (s : List UInt8) (hs : Sh s) (names : List (List UInt8)) (hn : names.length ≤ 1000000) : CallS Tryz.prog 147 [.ptr 32 b 0, aT s] [chkBox b r c, chkMap r names]
    fun rr H' => rr = aI (nameE s names) ∧ H' = [chkBox b r c, chkMap r (if nameE s names = 0 then names ++ [s] else names)] := by
  refine CallS.dropP (callS_of Tryz.func147 rfl Tryz.ntmps147 (rs := [.tmp 4]) rfl (by kernel_rfl) (by simp) (by kernel_rfl) (K := fun rr H' => rr = aI (nameE s names) ∧ subP [chkBox b r c, chkMap r (if nameE s names = 0 then names ++ [s] else names)] H') ?_) ?_
  · cases s with
    | nil =>
      simp [reads]
      refine GCall.fn (aB false) (by simp) ?_
      simp [nameE, wordS, subP.refl]
    | cons b0 s' =>
      simp [reads]
      refine GCall.fn (aB (!(b0 :: s').all partB)) (fun h => ⟨h, ?_⟩) ?_
      · rw [← all_bad]
        exact ContainsFuncS_fn (b0 :: s') hs badR (by intro r h; simp [badR]; omega) _ [] [] (fun r h0 h1 => by simpa using badR_fn r h0 h1)
      · simp [reads]
        have hlen : (b0 :: s').length = s'.length + 1 := rfl
        refine ⟨fun h => ?_, fun h1 h2 h3 h4 => ?_⟩
        · have e : nameE (b0 :: s') names = 3 := by
            rw [nameE, if_pos]
            simp [wordS]
            intro g1 g2 g3
            rcases h with (h | h) | h | h
            · omega
            · omega
            · rw [h] at g3; cases g3
            · exact h
          simp [e, subP.refl]
        · have hw : wordS (b0 :: s') = true := by
            simp [wordS]
            exact ⟨⟨by omega, by omega⟩, h3, h4⟩
          refine ⟨fun h5 => ?_, fun h5 => ⟨fun h6 => ?_, fun h6 => ?_⟩⟩
          · have e : nameE (b0 :: s') names = 17 := by simp [nameE, hw]; omega
            simp [e, subP.refl]
          · rw [mget_of] at h6
            have hm : (b0 :: s') ∈ names := by
              simp [List.findIdx?_isSome] at h6
              exact h6
            have e : nameE (b0 :: s') names = 7 := by simp [nameE, hw, hm]; omega
            simp [e, subP.refl]
          · rw [mget_of] at h6
            have hm : (b0 :: s') ∉ names := by
              simp at h6
              intro hm
              exact h6 _ hm rfl
            have e : nameE (b0 :: s') names = 0 := by simp [nameE, hw, hm]; omega
            refine V.draw (fun _ => none) (by kernel_rfl) (by kernel_rfl) (by simp) ?_
            simp [e]
            rw [mput_of hm]
            exact subP.refl _
  · rintro rr H' ⟨h1, h2⟩
    exact ⟨_, h2, h1, rfl⟩


/-! ### Variables of an expression, in preorder -/
mutual
def varsE : Expr → List Int
  | ⟨op, ix, args⟩ => (if op = 1 then [ix] else []) ++ varsL args
def varsL : List Expr → List Int
  | [] => []
  | x :: xs => varsE x ++ varsL xs
end
theorem varsE_eq (x : Expr) : varsE x = (if x.op = 1 then [x.index] else []) ++ varsL x.args := by cases x; simp [varsE]

theorem varsL_mem {n : Int} {y : Expr} (hn : n ∈ varsE y) : ∀ {l : List Expr}, y ∈ l → n ∈ varsL l
  | [], h => by simp at h
  | z :: l, h => by
    simp only [varsL, List.mem_append]
    rcases List.mem_cons.1 h with rfl | h
    · exact .inl hn
    · exact .inr (varsL_mem hn h)

theorem visitV_s {σ : Type} {b3 b4 : Nat} {f : FuncId} {first caps : List A} {Hc : σ → Heap} {step : σ → Int → σ} : ∀ (N : Nat) (x : Expr), SizeOf.sizeOf x < N → OkE x → ∀ (s : σ),
    (∀ s, ∀ n ∈ varsE x, CallS Tryz.prog f (first ++ aI n :: caps) (Hc s) fun _ H' => H' = Hc (step s n)) →
    CallS Tryz.prog 203 [aE x, .ptr 3 b3 0, .ptr 4 b4 0] ((4, .box b4 [.fn 203 [] [.ptr 3 b3 0, .ptr 4 b4 0]]) :: (3, .box b3 [.fn f first caps]) :: rt 1000 (Hc s))
      fun _ H' => H' = (4, .box b4 [.fn 203 [] [.ptr 3 b3 0, .ptr 4 b4 0]]) :: (3, .box b3 [.fn f first caps]) :: rt 1000 (Hc ((varsE x).foldl step s))
  | 0, _, h, _, _, _ => absurd h (Nat.not_lt_zero _)
  | N + 1, x, hN, hx, s, hf => by
    refine CallS.dropP (callS_of Tryz.func203 rfl Tryz.ntmps203 (rs := []) rfl (by kernel_rfl) (by simp) (by kernel_rfl) (K := fun _ H' => subP ((4, .box b4 [.fn 203 [] [.ptr 3 b3 0, .ptr 4 b4 0]]) :: (3, .box b3 [.fn f first caps]) :: rt 1000 (Hc ((varsE x).foldl step s))) H') ?_) (fun _ _ h => ⟨_, h, rfl⟩)
    have hset : ∃ s1 : σ, s1 = (if x.op = 1 then step s x.index else s) ∧ (varsL x.args).foldl step s1 = (varsE x).foldl step s := by
      refine ⟨_, rfl, ?_⟩
      rw [varsE_eq]
      by_cases h : x.op = 1 <;> simp [h]
    obtain ⟨s1, hs1, he⟩ := hset
    by_cases hop : x.op = 1
    all_goals simp [hop]
    · rw [if_pos hop] at hs1
      refine ((hf s x.index (by rw [varsE_eq]; simp [hop])).rt'.c1.c1).mono ?_
      rintro r H' ⟨_, ⟨_, ⟨H1, rfl, rfl⟩, rfl⟩, rfl⟩
      rw [← hs1]
      simp
      refine V.for' [2, 14, 15] (fun p => [(16, .dat (.int .i64 (p.1 : Nat)))]) (fun p => (4, .box b4 [.fn 203 [] [.ptr 3 b3 0, .ptr 4 b4 0]]) :: (3, .box b3 [.fn f first caps]) :: rt 1000 (Hc p.2))
        (fun p : Nat × σ => p.1 ≤ x.args.length ∧ (varsL (x.args.drop p.1)).foldl step p.2 = (varsE x).foldl step s) (fun p => x.args.length - p.1) (0, s1) ⟨by simp [he], by simp, subP.refl _⟩ ?_
      rintro ⟨i, s2⟩ ⟨hi, hinv⟩
      simp only at hi hinv
      have hlen := hx.len
      by_cases hlt : i < x.args.length
      · obtain ⟨y, hy1⟩ : ∃ y, x.args[i]'hlt = y := ⟨_, rfl⟩
        have hmem : y ∈ x.args := by rw [← hy1]; exact List.getElem_mem hlt
        rw [List.drop_eq_getElem_cons hlt, hy1, varsL, List.foldl_append] at hinv
        simp [hlt, hy1, encE_eq]
        intro b
        have ih := visitV_s (b3 := b3) (b4 := b4) (Hc := Hc) (step := step) (f := f) (first := first) (caps := caps) N y (by have := Expr.lt_of_mem hmem; omega) (hx.args y hmem) s2 (fun s n hn => hf s n (by rw [varsE_eq]; exact List.mem_append.2 (.inr (varsL_mem hn hmem))))
        refine ih.c1.mono ?_
        rintro r H' ⟨H2, rfl, rfl⟩
        simp
        exact ⟨by omega, i + 1, _, ⟨hlt, hinv⟩, by omega, by simp, (subP.refl _).c _⟩
      · have hie : i = x.args.length := by omega
        subst hie
        simp [varsL] at hinv
        simp [hinv]
        exact subP.refl _
    · rw [if_neg hop] at hs1
      refine V.for' [2, 14, 15] (fun p => [(16, .dat (.int .i64 (p.1 : Nat)))]) (fun p => (4, .box b4 [.fn 203 [] [.ptr 3 b3 0, .ptr 4 b4 0]]) :: (3, .box b3 [.fn f first caps]) :: rt 1000 (Hc p.2))
        (fun p : Nat × σ => p.1 ≤ x.args.length ∧ (varsL (x.args.drop p.1)).foldl step p.2 = (varsE x).foldl step s) (fun p => x.args.length - p.1) (0, s1) ⟨by simp [he], by simp, by rw [hs1]; exact subP.refl _⟩ ?_
      rintro ⟨i, s2⟩ ⟨hi, hinv⟩
      simp only at hi hinv
      have hlen := hx.len
      by_cases hlt : i < x.args.length
      · obtain ⟨y, hy1⟩ : ∃ y, x.args[i]'hlt = y := ⟨_, rfl⟩
        have hmem : y ∈ x.args := by rw [← hy1]; exact List.getElem_mem hlt
        rw [List.drop_eq_getElem_cons hlt, hy1, varsL, List.foldl_append] at hinv
        simp [hlt, hy1, encE_eq]
        intro b
        have ih := visitV_s (b3 := b3) (b4 := b4) (Hc := Hc) (step := step) (f := f) (first := first) (caps := caps) N y (by have := Expr.lt_of_mem hmem; omega) (hx.args y hmem) s2 (fun s n hn => hf s n (by rw [varsE_eq]; exact List.mem_append.2 (.inr (varsL_mem hn hmem))))
        refine ih.c1.mono ?_
        rintro r H' ⟨H2, rfl, rfl⟩
        simp
        exact ⟨by omega, i + 1, _, ⟨hlt, hinv⟩, by omega, by simp, (subP.refl _).c _⟩
      · have hie : i = x.args.length := by omega
        subst hie
        simp [varsL] at hinv
        simp [hinv]
        exact subP.refl _

theorem each_s {σ : Type} {f : FuncId} {first caps : List A} {Hc : σ → Heap} {step : σ → Int → σ} (x : Expr) (hx : OkE x) (s : σ) (hf : ∀ s, ∀ n ∈ varsE x, CallS Tryz.prog f (first ++ aI n :: caps) (Hc s) fun _ H' => H' = Hc (step s n)) :
    CallS Tryz.prog 182 [aE x, .fn f first caps] (Hc s) fun _ H' => H' = Hc ((varsE x).foldl step s) := by
  refine CallS.rt (k := 1000) (CallS.dropP (callS_of Tryz.func182 rfl Tryz.ntmps182 (rs := []) rfl (by kernel_rfl) (by simp) (by kernel_rfl) (K := fun _ H' => subP (rt 1000 (Hc ((varsE x).foldl step s))) H') ?_) ?_)
  · simp
    intro b3 b4
    refine (visitV_s (SizeOf.sizeOf x + 1) x (by omega) hx s hf).mono ?_
    rintro r H' rfl
    simp
    exact ((subP.refl _).c _).c _
  · rintro r H' h
    exact ⟨_, h, _, rfl, rfl⟩

end Go.Proofs.YtakndgpdolfenaaGreat
end

/- Contracts: control's checker, signals. -/
section
namespace Go.Proofs.YtakndgpdolfenaaGreat
set_option maxHeartbeats 2000000
set_option maxRecDepth 10000

def kindAt (c : Control) (k : Int) : Int := ((c.signals[k.toNat]?).map (·.kind)).getD 0
def lateStep (c : Control) (i : Int) (late : Bool) (line : Int) : Bool := late || (decide (i ≤ line - firstC c) && kindAt c (line - firstC c) == 0)
def lateC (c : Control) (i : Int) (x : Expr) : Bool := (varsE x).foldl (lateStep c i) false

theorem gate1_s (b r b2 b5 b6 : Nat) (c : Control) (h : Sm c) (s5 : List A) (i : Int) (h0 : 0 ≤ i ∧ i < c.signals.length) (late : Bool) (line : Int) (hl : 0 ≤ line ∧ line < countC c) :
    CallS Tryz.prog 183 [aI line, .ptr 2 b2 0, .ptr 6 b6 0, .rptr [.int .i64 i]] [(6, .box b6 [.dat (.bool late)]), (5, .box b5 s5), (2, .box b2 [.ptr 32 b 0]), chkBox b r c]
      fun _ H' => H' = [(6, .box b6 [.dat (.bool (lateStep c i late line))]), (5, .box b5 s5), (2, .box b2 [.ptr 32 b 0]), chkBox b r c] := by
  have hs := h
  obtain ⟨g1, g2, g3⟩ := h
  have hcn : countC c = firstC c + c.signals.length := rfl
  have hfc : firstC c = 2 * c.actuators + c.inputs.length := rfl
  refine CallS.dropP (callS_of Tryz.func183 rfl Tryz.ntmps183 (rs := []) rfl (by kernel_rfl) (by simp) (by kernel_rfl) (K := fun _ H' => subP [(6, .box b6 [.dat (.bool (lateStep c i late line))]), (5, .box b5 s5), (2, .box b2 [.ptr 32 b 0]), chkBox b r c] H') ?_) (fun _ _ h => ⟨_, h, rfl⟩)
  simp
  refine (first_fn c hs).s ?_
  simp
  refine ⟨by omega, ?_⟩
  obtain ⟨y, hy⟩ : ∃ y, c.signals[(line - firstC c).toNat]? = some y := ⟨_, List.getElem?_eq_getElem (by omega)⟩
  by_cases hk : i ≤ line - firstC c
  · simp [hk, hy]
    refine ⟨fun h => ⟨h, by omega, by omega⟩, ?_⟩
    have e : lateStep c i late line = (late || y.kind == 0) := by simp [lateStep, hk, kindAt, hy]
    rw [e]
    exact subP.refl _
  · simp [hk, hy]
    have e : lateStep c i late line = late := by simp [lateStep, hk]
    rw [e]
    exact subP.refl _

/-- A signal's cells. -/
abbrev sigA (s : Signal) : List A := [.dat (.str s.name), .dat (.int .i64 s.kind), .dat (.int .i64 s.on.op), .dat (.int .i64 s.on.index), .dat (.sl (s.on.args.map encE)), .dat (.int .i64 s.off.op), .dat (.int .i64 s.off.index), .dat (.sl (s.off.args.map encE)), .dat (.int .i64 s.delay), .dat (.bool s.init)]
def gateE (c : Control) (i : Int) (s : Signal) : Int := if lateC c i s.on then 9 else if !zeroE s.off || s.init || s.delay != 0 then 3 else 0
def memE (c : Control) (s : Signal) : Int := if checkE s.off (countC c) ≠ 0 then checkE s.off (countC c) else if s.delay ≠ 0 then 3 else 0
def timE (s : Signal) : Int := if s.delay < 1 ∨ s.delay > 1000000 then 2 else if !zeroE s.off || s.init then 3 else 0

theorem gate_s (b r : Nat) (c : Control) (h : Sm c) (i : Nat) (s : Signal) (hi : c.signals[i]? = some s) (hx : OkS s) (hv : ∀ n ∈ varsE s.on, 0 ≤ n ∧ n < countC c) : CallS Tryz.prog 143 [.ptr 32 b 0, aI i] [chkBox b r c] fun rr H' => rr = aI (gateE c i s) ∧ H' = [chkBox b r c] := by
  have hs := h
  obtain ⟨g1, g2, g3⟩ := h
  obtain ⟨hlt, hy1⟩ := List.getElem?_eq_some_iff.1 hi
  refine CallS.dropP (callS_of Tryz.func143 rfl Tryz.ntmps143 (rs := [.tmp 4]) rfl (by kernel_rfl) (by simp) (by kernel_rfl) (K := fun rr H' => rr = aI (gateE c i s) ∧ subP [chkBox b r c] H') ?_) (fun _ _ h => ⟨_, h.2, h.1, rfl⟩)
  simp
  intro b2
  refine V.draw (fun _ => none) (by kernel_rfl) (by kernel_rfl) (by simp) ?_
  simp [hy1, hlt]
  intro b5 b6
  refine (each_s (σ := Bool) (f := 183) (first := []) (caps := [.ptr 2 b2 0, .ptr 6 b6 0, .rptr [.int .i64 i]]) (Hc := fun late => [(6, .box b6 [.dat (.bool late)]), (5, .box b5 (sigA s)), (2, .box b2 [.ptr 32 b 0]), chkBox b r c]) (step := lateStep c i) s.on hx.on false (fun late n hn => by simpa using gate1_s b r b2 b5 b6 c hs (sigA s) i ⟨by omega, by omega⟩ late n (hv n hn))).mono ?_
  rintro rr H' rfl
  simp
  have e : lateC c i s.on = (varsE s.on).foldl (lateStep c i) false := rfl
  rw [← e]
  cases hlate : lateC c i s.on
  · simp
    refine (zero_fn s.off).s ?_
    simp [gateE, hlate]
    have hsub : subP [chkBox b r c] [(6, .box b6 [.dat (.bool false)]), (5, .box b5 (sigA s)), (2, .box b2 [.ptr 32 b 0]), chkBox b r c] := (((subP.refl _).c _).c _).c _
    refine ⟨fun h => ⟨fun h1 h2 h3 => ?_, hsub⟩, fun h1 h2 h3 => ⟨⟨⟨h1, h2⟩, h3⟩, hsub⟩⟩
    rcases h with (h | h) | h <;> simp_all
  · simp [gateE, hlate]
    exact (((subP.refl _).c _).c _).c _


theorem memory_s (b r : Nat) (c : Control) (h : Sm c) (i : Nat) (s : Signal) (hi : c.signals[i]? = some s) (hx : OkS s) : CallS Tryz.prog 144 [.ptr 32 b 0, aI i] [chkBox b r c] fun rr H' => rr = aI (memE c s) ∧ H' = [chkBox b r c] := by
  obtain ⟨hlt, hy1⟩ := List.getElem?_eq_some_iff.1 hi
  refine CallS.dropP (callS_of Tryz.func144 rfl Tryz.ntmps144 (rs := [.tmp 4]) rfl (by kernel_rfl) (by simp) (by kernel_rfl) (K := fun rr H' => rr = aI (memE c s) ∧ subP [chkBox b r c] H') ?_) (fun _ _ h => ⟨_, h.2, h.1, rfl⟩)
  simp
  refine V.draw (fun t => if t = 19 then some (.fn (aI (countC c))) else if t = 20 then some (.fn (aI (checkE s.off (countC c)))) else none) (by kernel_rfl) (by kernel_rfl) (by simp) ?_
  have e1 := count_c c h
  have e2 := check_fn s.off hx.off (countC c)
  simp [hy1, hlt] at e1 e2 ⊢
  refine ⟨e1, e2, fun hc => ?_, fun hc => ⟨fun hd => ?_, fun hd => ?_⟩⟩
  · simp [memE, hc, subP.refl]
  · simp [memE, hc, hd, subP.refl]
  · simp [memE, hc, hd, subP.refl]

theorem timer_s (b r : Nat) (c : Control) (i : Nat) (s : Signal) (hi : c.signals[i]? = some s) (hx : OkS s) : CallS Tryz.prog 145 [.ptr 32 b 0, aI i] [chkBox b r c] fun rr H' => rr = aI (timE s) ∧ H' = [chkBox b r c] := by
  obtain ⟨hlt, hy1⟩ := List.getElem?_eq_some_iff.1 hi
  refine CallS.dropP (callS_of Tryz.func145 rfl Tryz.ntmps145 (rs := [.tmp 4]) rfl (by kernel_rfl) (by simp) (by kernel_rfl) (K := fun rr H' => rr = aI (timE s) ∧ subP [chkBox b r c] H') ?_) (fun _ _ h => ⟨_, h.2, h.1, rfl⟩)
  simp [hy1, hlt]
  intro b5
  have hsub : ∀ l, subP [chkBox b r c] [(5, .box b5 l), chkBox b r c] := fun l => (subP.refl _).c _
  refine ⟨fun hd => ?_, fun h1 h2 => ?_⟩
  · simp [timE, hsub]
    omega
  · refine (zero_fn s.off).s ?_
    cases hz : zeroE s.off <;> cases hi2 : s.init <;> simp [timE, hz, hi2, hsub] <;> omega

def signalE (c : Control) (i : Int) (s : Signal) (names : List (List UInt8)) : Int :=
  if nameE s.name names ≠ 0 then nameE s.name names
  else if s.kind < 0 ∨ s.kind ≥ 3 then 1
  else if checkE s.on (countC c) ≠ 0 then checkE s.on (countC c)
  else if s.kind = 0 then gateE c i s else if s.kind = 1 then memE c s else timE s

theorem signal_s (b r : Nat) (c : Control) (h : Sm c) (i : Nat) (s : Signal) (hi : c.signals[i]? = some s) (hx : OkS s) (names : List (List UInt8)) (hn : names.length ≤ 1000000) (hv : checkE s.on (countC c) = 0 → ∀ n ∈ varsE s.on, 0 ≤ n ∧ n < countC c) :
    CallS Tryz.prog 148 [.ptr 32 b 0, aI i] [chkBox b r c, chkMap r names] fun rr H' => rr = aI (signalE c i s names) ∧ H' = [chkBox b r c, chkMap r (if nameE s.name names = 0 then names ++ [s.name] else names)] := by
  obtain ⟨hlt, hy1⟩ := List.getElem?_eq_some_iff.1 hi
  refine CallS.dropP (callS_of Tryz.func148 rfl Tryz.ntmps148 (rs := [.tmp 4]) rfl (by kernel_rfl) (by simp) (by kernel_rfl) (K := fun rr H' => rr = aI (signalE c i s names) ∧ subP [chkBox b r c, chkMap r (if nameE s.name names = 0 then names ++ [s.name] else names)] H') ?_) (fun _ _ h => ⟨_, h.2, h.1, rfl⟩)
  simp [hy1, hlt]
  intro b5
  refine (cname_s b r c s.name hx.name names hn).c1.mono ?_
  rintro rr H' ⟨_, ⟨rfl, rfl⟩, rfl⟩
  by_cases hne : nameE s.name names = 0
  · have hsub : ∀ l, subP [chkBox b r c, chkMap r (names ++ [s.name])] [(5, .box b5 l), chkBox b r c, chkMap r (names ++ [s.name])] := fun l => (subP.refl _).c _
    simp [hne]
    refine ⟨fun hk => ?_, fun hk0 hk3 => ?_⟩
    · simp [signalE, hne, hsub]
      omega
    · refine V.draw (fun t => if t = 37 then some (.fn (aI (countC c))) else if t = 38 then some (.fn (aI (checkE s.on (countC c)))) else none) (by kernel_rfl) (by kernel_rfl) (by simp) ?_
      have e1 := count_c c h
      have e2 := check_fn s.on hx.on (countC c)
      simp at e1 e2 ⊢
      refine ⟨e1, e2, fun hc => ?_, fun hc => ?_⟩
      · simp [signalE, hne, hc, hsub, Int.not_lt.2 hk0]
        omega
      · obtain hk | hk | hk : s.kind = 0 ∨ s.kind = 1 ∨ s.kind = 2 := by omega
        · have e : signalE c i s names = gateE c i s := by simp [signalE, hne, hc, hk]
          refine V.draw (fun t => if t = 50 then some (.ro (aI (signalE c i s names))) else none) (by kernel_rfl) (by kernel_rfl) (by simp) ?_
          simp [hk, hsub]
          rw [e]
          exact ⟨gate_s b r c h i s hi hx (hv hc), by rw [if_pos hne]; exact hsub _⟩
        · have e : signalE c i s names = memE c s := by simp [signalE, hne, hc, hk]
          refine V.draw (fun t => if t = 50 then some (.ro (aI (signalE c i s names))) else none) (by kernel_rfl) (by kernel_rfl) (by simp) ?_
          simp [hk, hsub]
          rw [e]
          exact ⟨memory_s b r c h i s hi hx, by rw [if_pos hne]; exact hsub _⟩
        · have e : signalE c i s names = timE s := by simp [signalE, hne, hc, hk]
          refine V.draw (fun t => if t = 50 then some (.ro (aI (signalE c i s names))) else none) (by kernel_rfl) (by kernel_rfl) (by simp) ?_
          simp [hk, hsub]
          rw [e]
          exact ⟨timer_s b r c i s hi hx, by rw [if_pos hne]; exact hsub _⟩
  · have hsub : ∀ l, subP [chkBox b r c, chkMap r names] [(5, .box b5 l), chkBox b r c, chkMap r names] := fun l => (subP.refl _).c _
    simp [hne, signalE, hsub]

end Go.Proofs.YtakndgpdolfenaaGreat
end

/- Contracts: control.check. -/
section
namespace Go.Proofs.YtakndgpdolfenaaGreat
set_option maxHeartbeats 2000000
set_option maxRecDepth 10000

/-! ### Concat -/
theorem grow_o (n : Int) (h0 : 0 ≤ n) (h1 : n ≤ 4294967296) : CallOwn Tryz.prog 188 [.nils, aI n] 3 1 [] := by
  refine callO_of Tryz.func188 rfl Tryz.ntmps188 (rs := [.tmp 4]) rfl (by kernel_rfl) (by simp) (by kernel_rfl) ?_
  by_cases hn : 0 < n
  · simp [hn, Int.not_lt.2 h0]
    omega
  · have e : n = 0 := by omega
    subst e
    simp

def sumL (xss : List (List Int)) : Nat := (xss.map List.length).sum
theorem concat_o (xss : List (List Int)) (h : sumL xss ≤ 4294967296) (h1 : xss.length ≤ 4294967296) : CallOwn Tryz.prog 149 [.dat (.sl (xss.map fun xs => [.sl (xs.map encI)]))] 3 1 (xss.flatten.map rI) := by
  refine callO_of Tryz.func149 rfl Tryz.ntmps149 (rs := [.tmp 2]) rfl (by kernel_rfl) (by simp) (by kernel_rfl) ?_
  have hle : ∀ i, (xss.take i).flatten.length ≤ sumL xss := by
    intro i
    have e : xss = xss.take i ++ xss.drop i := (List.take_append_drop i xss).symm
    have : sumL xss = sumL (xss.take i) + sumL (xss.drop i) := by
      unfold sumL
      conv => lhs; rw [e]
      rw [List.map_append, List.sum_append]
    rw [List.length_flatten]
    unfold sumL at this ⊢
    omega
  have hst : ∀ i y, xss[i]? = some y → (xss.take (i + 1)).flatten = (xss.take i).flatten ++ y := by
    intro i y hy
    rw [List.take_add_one, hy]
    simp
  obtain ⟨L, hL⟩ : ∃ L : Nat → Nat, ∀ i, L i = (xss.take i).flatten.length := ⟨_, fun _ => rfl⟩
  have hL0 : L 0 = 0 := by simp [hL]
  have hLs : ∀ i y, xss[i]? = some y → L (i + 1) = L i + y.length := by
    intro i y hy
    rw [hL, hL, hst i y hy, List.length_append]
  have hLm : ∀ i, L i ≤ sumL xss := fun i => by rw [hL]; exact hle i
  simp
  refine V.forI (σ := Unit) xss.length [0, 2, 9, 10] (by simp; exact rfl) (fun i _ => [(11, aI i), (3, aI (L i))]) (fun _ _ => []) (fun _ _ => True) () (by simp) (by simp [hL0]) ⟨by simp; exact rfl, by simp⟩ ?_ ?_
  · rintro i - hi -
    have hy := List.getElem?_eq_getElem hi
    have hs := hLs i _ hy
    have hl := hLm (i + 1)
    simp [hi, hs]
    omega
  · rintro - -
    have hl := hLm xss.length
    simp
    refine (grow_o _ (by omega) (by omega)).s 50 ?_
    intro hd
    simp
    refine V.forL (γ := Value) xss [2, 25, 26] (by simp; exact rfl) (fun i _ g => [(27, aI i), (6, .own 50 g)]) (fun i _ g => [(50, .seq g 3 1 ((xss.take i).flatten.map rI))]) (fun (_ : Unit) (_ : List Int) => (Except.ok () : Except Unit Unit)) (fun _ _ => True) () hd trivial (by simp) ⟨by simp; exact rfl, by simp⟩ ?_ ?_
    · rintro i - g y hi hy - -
      have hy' : xss[i]? = some y := by rw [List.getElem?_eq_getElem hi, hy]
      have hs := hst i _ hy'
      have hl2 := hle (i + 1)
      rw [hs, List.length_append] at hl2
      rw [hs]
      generalize (xss.take i).flatten = zs at hl2
      simp [hi, hy]
      omega
    · rintro - g - -
      simp

theorem rowsD_I (xs : List Int) : rowsD (xs.map rI) = xs.map encI := by unfold rowsD; rw [List.map_map]; rfl
theorem rowsD_B (xs : List Bool) : rowsD (xs.map rB) = xs.map encB := by unfold rowsD; rw [List.map_map]; rfl
theorem allD_I (xs : List Int) : allD (xs.map rI) = true := by simp [allD, isD]
theorem allD_B (xs : List Bool) : allD (xs.map rB) = true := by simp [allD, isD]
attribute [simp] rowsD_I rowsD_B allD_I allD_B
theorem concat_fn (xss : List (List Int)) (h : sumL xss ≤ 4294967296) (h1 : xss.length ≤ 4294967296) : CallFn Tryz.prog 149 [.dat (.sl (xss.map fun xs => [.sl (xs.map encI)]))] (aIs xss.flatten) := by
  have := (concat_o xss h h1).fn (by simp [allD, isD])
  rwa [rowsD_I] at this

/-! ### First errors -/
def firstErr {ι : Type} (f : ι → Int) : List ι → Int
  | [] => 0
  | x :: xs => if f x ≠ 0 then f x else firstErr f xs
def NoE (f : Nat → Int) (n : Nat) : Prop := ∀ j, j < n → f j = 0
theorem NoE.zero (f : Nat → Int) : NoE f 0 := fun j h => absurd h (Nat.not_lt_zero j)
theorem NoE.succ {f : Nat → Int} {n : Nat} (h : NoE f n) (e : f n = 0) : NoE f (n + 1) := fun j hj => by
  rcases Nat.lt_or_ge j n with h1 | h1
  · exact h j h1
  · obtain rfl : j = n := by omega
    exact e
theorem firstErr_app {ι : Type} (f : ι → Int) : ∀ (l r : List ι), (∀ x ∈ l, f x = 0) → firstErr f (l ++ r) = firstErr f r
  | [], _, _ => rfl
  | x :: l, r, h => by
    simp only [List.cons_append, firstErr, h x (by simp), ne_eq, not_true_eq_false, if_false]
    exact firstErr_app f l r fun y hy => h y (by simp [hy])
theorem firstErr_at {f : Nat → Int} {n i : Nat} (h : NoE f i) (hi : i < n) (e : f i ≠ 0) : firstErr f (List.range n) = f i := by
  have e1 : List.range n = List.range i ++ (i :: (List.range n).drop (i + 1)) := by
    have h1 := List.take_append_drop i (List.range n)
    rw [List.take_range, Nat.min_eq_left (by omega)] at h1
    rw [← h1]
    congr 1
    rw [h1, List.drop_eq_getElem_cons (by simpa using hi)]
    simp
  rw [e1, firstErr_app f _ _ (fun x hx => h x (by simpa using hx))]
  simp [firstErr, e]
theorem firstErr_all {f : Nat → Int} {n : Nat} (h : NoE f n) : firstErr f (List.range n) = 0 := by
  have := firstErr_app f (List.range n) [] (fun x hx => h x (by simpa using hx))
  simpa [firstErr] using this
theorem firstErr_zero {f : Nat → Int} : ∀ {n : Nat}, firstErr f (List.range n) = 0 → NoE f n := by
  intro n h j hj
  by_cases hz : f j = 0
  · exact hz
  · -- the least index with an error
    have hex : ∃ k, k ≤ j ∧ f k ≠ 0 ∧ NoE f k := by
      clear h hj n
      induction j using Nat.strongRecOn with
      | ind j ih =>
        by_cases hn : NoE f j
        · exact ⟨j, Nat.le_refl _, hz, hn⟩
        · simp only [NoE, Classical.not_forall] at hn
          obtain ⟨m, hm, hmz⟩ := hn
          obtain ⟨k, h1, h2, h3⟩ := ih m hm hmz
          exact ⟨k, by omega, h2, h3⟩
    obtain ⟨k, h1, h2, h3⟩ := hex
    rw [firstErr_at h3 (by omega) h2] at h
    exact absurd h h2

/-! ### The check -/
def namesB (c : Control) (n : Nat) : List (List UInt8) := (List.range n).map fun k : Nat => namedC c k
theorem namesB_succ (c : Control) (n : Nat) : namesB c (n + 1) = namesB c n ++ [namedC c n] := by simp [namesB, List.range_succ]
@[simp] theorem namesB_length (c : Control) (n : Nat) : (namesB c n).length = n := by simp [namesB]
def inpE (c : Control) (i : Nat) : Int := nameE (namedC c (2 * c.actuators.toNat + i : Nat)) (namesB c (2 * c.actuators.toNat + i))
def sigE (c : Control) (i : Nat) : Int := match c.signals[i]? with
  | some s => signalE c i s (namesB c (2 * c.actuators.toNat + c.inputs.length + i))
  | none => 0
def pilotE (c : Control) : Int :=
  if (c.plus.length : Int) ≠ c.actuators ∨ (c.minus.length : Int) ≠ c.actuators then 8
  else if (c.plus ++ c.minus).any (fun l => decide (l < 0) || decide (countC c ≤ l)) then 6 else 0
def checkC (c : Control) : Int :=
  if c.actuators < 1 ∨ c.actuators > 6 then 2
  else if c.inputs.length > 16 ∨ c.signals.length > 64 then 5
  else if firstErr (inpE c) (List.range c.inputs.length) ≠ 0 then firstErr (inpE c) (List.range c.inputs.length)
  else if firstErr (sigE c) (List.range c.signals.length) ≠ 0 then firstErr (sigE c) (List.range c.signals.length)
  else pilotE c

theorem lineName_eq (k : Nat) (hk : k < 12) : lineName k = [UInt8.ofNat (97 + k / 2), UInt8.ofNat (48 + k % 2)] := by
  unfold lineName
  have ed : Int.tdiv (k : Int) 2 = ((k / 2 : Nat) : Int) := by rw [Int.tdiv_eq_ediv_of_nonneg (by omega)]; rfl
  have em : Int.tmod (k : Int) 2 = ((k % 2 : Nat) : Int) := by rw [Int.tmod_eq_emod_of_nonneg (by omega)]; rfl
  rw [ed, em, encU_ascii (by omega) (by omega), encU_ascii (by omega) (by omega)]
  simp only [List.singleton_append, List.cons.injEq, and_true]
  constructor <;> congr 1
theorem lineName_inj {j k : Nat} (hj : j < 12) (hk : k < 12) (h : lineName j = lineName k) : j = k := by
  rw [lineName_eq j hj, lineName_eq k hk] at h
  simp only [List.cons.injEq, and_true] at h
  obtain ⟨h1, h2⟩ := h
  have e1 := congrArg UInt8.toNat h1
  have e2 := congrArg UInt8.toNat h2
  simp only [UInt8.toNat_ofNat'] at e1 e2
  omega
theorem named_line {c : Control} {k : Nat} (h : (k : Int) < 2 * c.actuators) : namedC c k = lineName k := by
  unfold namedC; rw [if_pos h]

theorem closure1_fn (c : Control) (h : Sm c) (n : Int) : CallFn Tryz.prog 150 [aI n, .rptr (encC c)] (aB (decide (n < 0) || decide (countC c ≤ n))) := by
  refine callFz_of Tryz.func150 rfl Tryz.ntmps150 (rs := [.tmp 3]) rfl (by kernel_rfl) (by simp) (by kernel_rfl) ?_
  simp
  refine GCall.fn (aI (countC c)) (fun hn => ⟨by omega, count_c c h⟩) ?_
  simp

end Go.Proofs.YtakndgpdolfenaaGreat
end

/- Contracts: control.check, Check. -/
section
namespace Go.Proofs.YtakndgpdolfenaaGreat
set_option maxHeartbeats 4000000
set_option maxRecDepth 10000

theorem vars_right {n : Int} : ∀ (N : Nat) (x : Expr), SizeOf.sizeOf x < N → RightE n x → ∀ k ∈ varsE x, 0 ≤ k ∧ k < n
  | 0, _, h, _, _, _ => absurd h (Nat.not_lt_zero _)
  | N + 1, x, hN, hr, k, hk => by
    rw [varsE_eq] at hk
    rcases List.mem_append.1 hk with hk | hk
    · split at hk
      · rename_i hop
        simp only [List.mem_singleton] at hk
        subst hk
        have := hr.node
        unfold nodeR at this
        simp only [hop] at this
        split at this <;> try omega
        split at this <;> try omega
        simp at this
        omega
      · simp at hk
    · have hL : ∀ l : List Expr, (∀ y ∈ l, y ∈ x.args) → k ∈ varsL l → 0 ≤ k ∧ k < n := by
        intro l
        induction l with
        | nil => intro _ h; simp [varsL] at h
        | cons y l ih =>
          intro hl h
          simp only [varsL, List.mem_append] at h
          rcases h with h | h
          · have hm := hl y (by simp)
            exact vars_right N y (by have := Expr.lt_of_mem hm; omega) (hr.args y hm) k h
          · exact ih (fun z hz => hl z (by simp [hz])) h
      exact hL x.args (fun _ h => h) hk
theorem vars_check {x : Expr} {n : Int} (h : checkE x n = 0) : ∀ k ∈ varsE x, 0 ≤ k ∧ k < n := vars_right (SizeOf.sizeOf x + 1) x (by omega) (right_of_check h).1

theorem line_notin {c : Control} {k : Nat} (h : (k : Int) < 2 * c.actuators) (ha : c.actuators ≤ 6) : namedC c k ∉ namesB c k := by
  intro hm
  obtain ⟨j, hj, e⟩ := List.mem_map.1 hm
  simp only [List.mem_range] at hj
  rw [named_line (c := c) (k := j) (by omega), named_line h] at e
  have := lineName_inj (by omega) (by omega) e
  omega

theorem check_s (c : Control) (hc : OkC c) : CallS Tryz.prog 119 [aC c] [] fun r H' => (checkC c = 0 → ∃ m, r = .tuple [.map 30 m, aI 0] ∧ H' = [chkMap m (namesB c (countC c).toNat)]) ∧ (checkC c ≠ 0 → r = .tuple [.any, aI (checkC c)] ∧ H' = []) := by
  refine CallS.dropP (callS_of Tryz.func119 rfl Tryz.ntmps119 (rs := [.tmp 2, .tmp 3]) rfl (by kernel_rfl) (by simp) (by kernel_rfl) (K := fun r H' => (checkC c = 0 → ∃ m, r = .tuple [.map 30 m, aI 0] ∧ subP [chkMap m (namesB c (countC c).toNat)] H') ∧ (checkC c ≠ 0 → r = .tuple [.any, aI (checkC c)])) ?_) ?_
  · by_cases ha : c.actuators < 1 ∨ c.actuators > 6
    · have e : checkC c = 2 := by simp [checkC, ha]
      rw [e]
      simp
      intro h1 h2
      omega
    · have ha' : 1 ≤ c.actuators ∧ c.actuators ≤ 6 ∧ ¬ c.actuators < 1 ∧ ¬ 6 < c.actuators := by omega
      by_cases hm : c.inputs.length > 16 ∨ c.signals.length > 64
      · have e : checkC c = 5 := by simp only [checkC]; rw [if_neg ha, if_pos hm]
        rw [e]
        simp [ha'.1, ha'.2]
        intro h1 h2
        omega
      · have hsm : Sm c := ⟨by omega, by omega, by omega⟩
        obtain ⟨N, hN⟩ : ∃ N : Nat, c.actuators = N := ⟨c.actuators.toNat, by omega⟩
        have hNN : c.actuators.toNat = N := by omega
        have hm' : (c.inputs.length : Int) ≤ 16 ∧ (c.signals.length : Int) ≤ 64 ∧ ¬ 16 < (c.inputs.length : Int) ∧ ¬ 64 < (c.signals.length : Int) := by omega
        have hcn : countC c = 2 * c.actuators + c.inputs.length + c.signals.length := rfl
        have e : checkC c = if firstErr (inpE c) (List.range c.inputs.length) ≠ 0 then firstErr (inpE c) (List.range c.inputs.length)
            else if firstErr (sigE c) (List.range c.signals.length) ≠ 0 then firstErr (sigE c) (List.range c.signals.length) else pilotE c := by
          simp only [checkC]; rw [if_neg ha, if_neg hm]
        simp [ha'.1, ha'.2, hm'.1, hm'.2]
        intro m b
        refine ⟨by omega, ?_⟩
        refine V.forI (σ := Unit) (2 * N) [1, 2, 3, 4, 45] (by simp; exact rfl) (fun i _ => [(46, aI i)]) (fun i _ => [chkMap m (namesB c i)]) (fun _ _ => True) () trivial (by simp) ⟨by simp; exact rfl, by simp [namesB, mapOf]⟩ ?_ ?_
        · rintro i - hi -
          have hin : (i : Int) < 2 * c.actuators := by omega
          simp [hin]
          refine V.draw (fun t => if t = 55 then some (.fn (aT (namedC c i))) else none) (by kernel_rfl) (by kernel_rfl) (by simp) ?_
          have e1 := named_fn c hsm ⟨by omega, by omega⟩ i (by omega) (by omega)
          have e2 := mput_of (line_notin (c := c) (k := i) hin (by omega))
          simp at e1 e2 ⊢
          rw [e2, ← namesB_succ]
          exact ⟨e1, by omega, rfl⟩
        · rintro - -
          have hin : ¬ ((N : Int) < c.actuators) ∧ c.actuators ≤ N := by omega
          simp [hin.1, hin.2]
          refine V.forI (σ := Unit) c.inputs.length [1, 4, 59, 60] (by simp; exact rfl) (fun i _ => [(61, aI i)]) (fun i _ => [chkMap m (namesB c (2 * N + i))]) (fun i _ => NoE (inpE c) i) () (NoE.zero _) (by simp) ⟨by simp; exact rfl, by simp⟩ ?_ ?_
          · rintro i - hi hI
            obtain ⟨y, hy⟩ : ∃ y, c.inputs[i] = y := ⟨_, rfl⟩
            have hn : namedC c (2 * N + i : Nat) = y := by
              refine named_inp (by omega) (by simp only [firstC]; omega) ?_
              rw [← hy, show ((2 * N + i : Nat) - 2 * c.actuators : Int).toNat = i by omega]
              exact List.getElem?_eq_getElem hi
            have hin : inpE c i = nameE y (namesB c (2 * N + i)) := by rw [inpE, hNN, hn]
            simp [hi, hy]
            refine ((cname_s b m c y (hc.names y (hy ▸ List.getElem_mem hi)) (namesB c (2 * N + i)) (by simp; omega)).perm (List.Perm.swap _ _ _)).mono ?_
            rintro rr H' ⟨rfl, rfl⟩
            rw [← hin]
            by_cases hz : inpE c i = 0
            · have hs := namesB_succ c (2 * N + i)
              rw [hn] at hs
              simp [hz]
              exact ⟨by omega, hI.succ hz, by rw [← hs]; rfl⟩
            · have hf := firstErr_at hI hi hz
              have e' : checkC c = inpE c i := by rw [e, hf, if_pos hz]
              simp [hz, e']
          · rintro - hI
            have hf := firstErr_all hI
            rw [hf] at e
            simp at e
            simp
            refine V.forI (σ := Unit) c.signals.length [1, 4, 74] (by simp; exact rfl) (fun i _ => [(75, aI i)]) (fun i _ => [chkMap m (namesB c (2 * N + c.inputs.length + i))]) (fun i _ => NoE (sigE c) i) () (NoE.zero _) (by simp) ⟨by simp; exact rfl, by simp⟩ ?_ ?_
            · rintro i - hi hI2
              obtain ⟨y, hy⟩ : ∃ y, c.signals[i] = y := ⟨_, rfl⟩
              have hyo : c.signals[i]? = some y := by rw [List.getElem?_eq_getElem hi, hy]
              have hn : namedC c (2 * N + c.inputs.length + i : Nat) = y.name := by
                refine named_sig (s := y) (by simp only [firstC]; omega) (by simp only [firstC]; omega) ?_
                rw [show ((2 * N + c.inputs.length + i : Nat) - firstC c : Int).toNat = i by simp only [firstC]; omega]
                exact hyo
              have hsE : sigE c i = signalE c i y (namesB c (2 * N + c.inputs.length + i)) := by simp only [sigE, hyo, hNN]
              simp [hi]
              refine ((signal_s b m c hsm i y hyo (hc.sigs y (hy ▸ List.getElem_mem hi)) (namesB c (2 * N + c.inputs.length + i)) (by simp; omega) (fun h => vars_check h)).perm (List.Perm.swap _ _ _)).mono ?_
              rintro rr H' ⟨rfl, rfl⟩
              rw [← hsE]
              by_cases hz : sigE c i = 0
              · have hs := namesB_succ c (2 * N + c.inputs.length + i)
                rw [hn] at hs
                have hne : nameE y.name (namesB c (2 * N + c.inputs.length + i)) = 0 := by
                  rw [hsE] at hz
                  by_cases h0 : nameE y.name (namesB c (2 * N + c.inputs.length + i)) = 0
                  · exact h0
                  · simp [signalE, h0] at hz
                simp [hz, hne]
                exact ⟨by omega, hI2.succ hz, by rw [← hs]; rfl⟩
              · have hf := firstErr_at hI2 hi hz
                have e' : checkC c = sigE c i := by rw [e, hf, if_neg hz]
                simp [hz, e']
            · rintro - hI2
              have hf := firstErr_all hI2
              rw [hf] at e
              simp at e
              by_cases hpl : (c.plus.length : Int) ≠ c.actuators ∨ (c.minus.length : Int) ≠ c.actuators
              · have e' : checkC c = 8 := by rw [e, pilotE, if_pos hpl]
                rw [e']
                simp
                intro h1 h2
                omega
              · have h1 : (c.plus.length : Int) = c.actuators := by omega
                have h2 : (c.minus.length : Int) = c.actuators := by omega
                have e' : checkC c = if (c.plus ++ c.minus).any (fun l => decide (l < 0) || decide (countC c ≤ l)) then 6 else 0 := by rw [e, pilotE, if_neg hpl]
                have hcc := concat_fn [c.plus, c.minus] (by simp [sumL]; omega) (by simp)
                simp at hcc
                simp [h1, h2]
                refine hcc.s ?_
                simp
                refine (containsF_fn (c.plus ++ c.minus) (fun l => decide (l < 0) || decide (countC c ≤ l)) 150 [] [.rptr (encC c)] (by simp; omega) (fun n _ => by simpa using closure1_fn c hsm n)).s ?_
                cases hany : (c.plus ++ c.minus).any (fun l => decide (l < 0) || decide (countC c ≤ l))
                · rw [hany] at e'
                  simp at e'
                  rw [e']
                  simp
                  rw [show (countC c).toNat = 2 * N + c.inputs.length + c.signals.length by omega]
                  exact ⟨_, List.singleton_sublist.2 (List.mem_cons_self), List.Perm.refl _⟩
                · rw [hany] at e'
                  simp at e'
                  rw [e']
                  simp
  · rintro r H' ⟨h1, h2⟩
    by_cases hz : checkC c = 0
    · obtain ⟨m, e1, e2⟩ := h1 hz
      exact ⟨_, e2, fun _ => ⟨m, e1, rfl⟩, fun h => absurd hz h⟩
    · exact ⟨[], ⟨[], List.nil_sublist _, List.Perm.refl _⟩, fun h => absurd h hz, fun _ => ⟨h2 hz, rfl⟩⟩

theorem Check_fn (c : Control) (hc : OkC c) : CallFn Tryz.prog 95 [aC c] (aI (checkC c)) := by
  refine callFz_of Tryz.func95 rfl Tryz.ntmps95 (rs := [.tmp 2]) rfl (by kernel_rfl) (by simp) (by kernel_rfl) ?_
  simp
  refine (CallS.frame (H1 := []) (check_s c hc)).mono ?_
  rintro r H' ⟨H2, ⟨h1, h2⟩, rfl⟩
  by_cases hz : checkC c = 0
  · obtain ⟨m, rfl, rfl⟩ := h1 hz
    simp [hz]
  · obtain ⟨rfl, rfl⟩ := h2 hz
    simp

end Go.Proofs.YtakndgpdolfenaaGreat
end

/- Plain laws: the two checks of expressions are one. -/
section
namespace Go.Proofs.YtakndgpdolfenaaGreat
set_option maxHeartbeats 1000000

mutual
def szE : Expr → Nat
  | ⟨_, _, args⟩ => 1 + szL args
def szL : List Expr → Nat
  | [] => 0
  | x :: xs => szE x + szL xs
end
mutual
def dpE : Expr → Nat
  | ⟨_, _, args⟩ => 1 + dpL args
def dpL : List Expr → Nat
  | [] => 0
  | x :: xs => max (dpE x) (dpL xs)
end
theorem szE_eq (x : Expr) : szE x = 1 + szL x.args := by cases x; simp [szE]
theorem dpE_eq (x : Expr) : dpE x = 1 + dpL x.args := by cases x; simp [dpE]
/- All nodes, in preorder. -/
mutual
def ndE : Expr → List Expr
  | ⟨op, ix, args⟩ => ⟨op, ix, args⟩ :: ndL args
def ndL : List Expr → List Expr
  | [] => []
  | x :: xs => ndE x ++ ndL xs
end
mutual
theorem ndE_len : ∀ x : Expr, (ndE x).length = szE x
  | ⟨op, ix, args⟩ => by simp [ndE, szE, ndL_len args]; omega
theorem ndL_len : ∀ l : List Expr, (ndL l).length = szL l
  | [] => by simp [ndL, szL]
  | x :: xs => by simp [ndL, szL, ndE_len x, ndL_len xs]
end

/- Where nothing is too deep, the preorder has all nodes. -/
mutual
theorem preE_all : ∀ (x : Expr) (d : Int), d + dpE x ≤ 17 → (preE x d).map (·.2) = ndE x ∧ ∀ p ∈ preE x d, p.1 ≤ 16
  | ⟨op, ix, args⟩, d, h => by
    simp only [dpE] at h
    have hd : d ≤ 16 := by omega
    obtain ⟨h1, h2⟩ := preL_all args (d + 1) (by omega)
    simp only [preE, hd, if_true, List.map_cons, ndE, h1, true_and]
    intro p hp
    rcases List.mem_cons.1 hp with rfl | hp
    · exact hd
    · exact h2 p hp
theorem preL_all : ∀ (l : List Expr) (d : Int), d + dpL l ≤ 17 → (preL l d).map (·.2) = ndL l ∧ ∀ p ∈ preL l d, p.1 ≤ 16
  | [], _, _ => by simp [preL, ndL]
  | x :: xs, d, h => by
    simp only [dpL] at h
    obtain ⟨h1, h2⟩ := preE_all x d (by omega)
    obtain ⟨h3, h4⟩ := preL_all xs d (by omega)
    simp only [preL, List.map_append, ndL, h1, h3, true_and]
    intro p hp
    rcases List.mem_append.1 hp with hp | hp
    · exact h2 p hp
    · exact h4 p hp
end
/- Where something is too deep, there is a node below. -/
mutual
theorem preE_deep : ∀ (x : Expr) (d : Int), d ≤ 17 → 17 < d + dpE x → ∃ p ∈ preE x d, p.1 > 16
  | ⟨op, ix, args⟩, d, h0, h => by
    simp only [dpE] at h
    by_cases hd : d ≤ 16
    · obtain ⟨p, hp, h1⟩ := preL_deep args (d + 1) (by omega) (by omega)
      exact ⟨p, by simp only [preE, hd, if_true]; exact List.mem_cons_of_mem _ hp, h1⟩
    · exact ⟨(d, ⟨op, ix, args⟩), by simp [preE], by simp only; omega⟩
theorem preL_deep : ∀ (l : List Expr) (d : Int), d ≤ 17 → 17 < d + dpL l → ∃ p ∈ preL l d, p.1 > 16
  | [], d, h0, h => by simp only [dpL] at h; omega
  | x :: xs, d, h0, h => by
    simp only [dpL] at h
    by_cases hx : 17 < d + dpE x
    · obtain ⟨p, hp, h1⟩ := preE_deep x d h0 hx
      exact ⟨p, by simp only [preL]; exact List.mem_append.2 (.inl hp), h1⟩
    · obtain ⟨p, hp, h1⟩ := preL_deep xs d h0 (by omega)
      exact ⟨p, by simp only [preL]; exact List.mem_append.2 (.inr hp), h1⟩
end

theorem measFold_ok : ∀ (l : List (Int × Expr)) (s : Int × Int), (∀ p ∈ l, p.1 ≤ 16) → s.1 + l.length ≤ 256 → ∃ s', l.foldlM measS s = .ok s'
  | [], s, _, _ => ⟨s, rfl⟩
  | p :: l, s, h, hl => by
    have h0 := h p (by simp)
    simp only [List.length_cons] at hl
    simp only [List.foldlM_cons, measS]
    rw [if_neg (by omega)]
    exact measFold_ok l _ (fun q hq => h q (by simp [hq])) (by simp only; omega)
theorem measFold_err : ∀ (l : List (Int × Expr)) (s : Int × Int), ((∃ p ∈ l, p.1 > 16) ∨ s.1 + l.length > 256 ∧ l ≠ []) → s.1 ≤ 256 → l.foldlM measS s = .error ()
  | [], s, h, _ => by rcases h with ⟨p, hp, _⟩ | h; simp at hp; exact absurd rfl h.2
  | p :: l, s, h, hs => by
    simp only [List.foldlM_cons, measS]
    by_cases hc : s.1 + 1 > 256 ∨ p.1 > 16
    · rw [if_pos hc]; rfl
    · rw [if_neg hc]
      refine measFold_err l _ ?_ (by simp only; omega)
      rcases h with ⟨q, hq, h1⟩ | h
      · rcases List.mem_cons.1 hq with rfl | hq
        · omega
        · exact .inl ⟨q, hq, h1⟩
      · simp only [List.length_cons] at h
        refine .inr ⟨by simp only; omega, ?_⟩
        rintro rfl
        simp at h
        omega
theorem meas_iff (x : Expr) : (∃ s, meas x = .ok s) ↔ szE x ≤ 256 ∧ dpE x ≤ 16 := by
  constructor
  · rintro ⟨s, h⟩
    by_cases hd : dpE x ≤ 16
    · refine ⟨?_, hd⟩
      obtain ⟨h1, h2⟩ := preE_all x 1 (by omega)
      have hl : (preE x 1).length = szE x := by rw [← ndE_len, ← h1, List.length_map]
      rcases Nat.lt_or_ge 256 (szE x) with hg | hg
      · have := measFold_err (preE x 1) (0, 0) (.inr ⟨by simp only; omega, by rw [preE_eq]; simp⟩) (by simp)
        unfold meas at h
        rw [this] at h
        cases h
      · exact hg
    · obtain ⟨p, hp, h1⟩ := preE_deep x 1 (by omega) (by omega)
      have := measFold_err (preE x 1) (0, 0) (.inl ⟨p, hp, h1⟩) (by simp)
      unfold meas at h
      rw [this] at h
      cases h
  · rintro ⟨h1, h2⟩
    obtain ⟨h3, h4⟩ := preE_all x 1 (by omega)
    have hl : (preE x 1).length = szE x := by rw [← ndE_len, ← h3, List.length_map]
    exact measFold_ok _ _ h4 (by simp only; omega)

mutual
theorem deep_iff : ∀ (x : Expr) (m : Int), deepE x m = decide ((dpE x : Int) ≤ m)
  | ⟨op, ix, args⟩, m => by
    have e : dpE ⟨op, ix, args⟩ = 1 + dpL args := by simp [dpE]
    simp only [deepE]
    by_cases h1 : m < 1
    · rw [if_pos h1]
      exact (decide_eq_false (by rw [e]; omega)).symm
    · rw [if_neg h1]
      by_cases h2 : m = 1
      · rw [if_pos h2]
        subst h2
        cases args with
        | nil => exact (decide_eq_true (by rw [e]; simp [dpL])).symm
        | cons y l =>
          have : 1 ≤ dpE y := by rw [dpE_eq]; omega
          exact (decide_eq_false (by rw [e]; simp only [dpL]; omega)).symm
      · rw [if_neg h2, deepL_iff args (m - 1) (by omega)]
        exact decide_eq_decide.2 (by rw [e]; omega)
theorem deepL_iff : ∀ (l : List Expr) (m : Int), 0 ≤ m → deepL l m = decide ((dpL l : Int) ≤ m)
  | [], m, h => by simp [deepL, dpL, h]
  | x :: xs, m, h => by
    simp only [deepL, dpL, deep_iff x m, deepL_iff xs m h]
    rw [← Bool.decide_and]
    exact decide_eq_decide.2 (by omega)
end
mutual
theorem cnt_iff : ∀ (x : Expr) (m : Int), 0 ≤ m → ((szE x : Int) ≤ m → cntE x m = szE x) ∧ (m < szE x → m < cntE x m)
  | ⟨op, ix, args⟩, m, h => by
    simp only [cntE, szE]
    by_cases h0 : m = 0
    · subst h0
      refine ⟨fun h => by omega, fun _ => ?_⟩
      have := cntL_iff args 0 1 (by omega)
      by_cases hs : (1 : Int) + szL args ≤ 0
      · omega
      · exact this.2 (by omega)
    · have := cntL_iff args m 1 (by omega)
      refine ⟨fun h1 => ?_, fun h1 => this.2 (by omega)⟩
      have h2 := this.1 (by omega)
      omega
theorem cntL_iff : ∀ (l : List Expr) (m n : Int), 0 ≤ n → (n + szL l ≤ m → cntL l m n = n + szL l) ∧ (m < n + szL l → m < cntL l m n)
  | [], m, n, _ => by simp [cntL, szL]
  | x :: xs, m, n, hn => by
    simp only [cntL, szL]
    by_cases h : n ≤ m
    · rw [if_pos h]
      have h1 := cnt_iff x (m - n) (by omega)
      by_cases hx : (szE x : Int) ≤ m - n
      · have e := h1.1 hx
        have h2 := cntL_iff xs m (n + cntE x (m - n)) (by omega)
        rw [e] at h2 ⊢
        refine ⟨fun h3 => ?_, fun h3 => h2.2 (by omega)⟩
        have := h2.1 (by omega)
        omega
      · have e := h1.2 (by omega)
        have h2 := cntL_iff xs m (n + cntE x (m - n)) (by omega)
        exact ⟨fun h3 => by omega, fun _ => h2.2 (by omega)⟩
    · rw [if_neg h]
      exact ⟨fun h1 => by omega, fun _ => by omega⟩
end
theorem light_iff (x : Expr) : lightE x = true ↔ szE x ≤ 256 ∧ dpE x ≤ 16 := by
  unfold lightE
  rw [Bool.and_eq_true, deep_iff, decide_eq_true_eq, decide_eq_true_eq]
  have := cnt_iff x 256 (by omega)
  constructor
  · rintro ⟨h1, h2⟩
    refine ⟨?_, by omega⟩
    rcases Nat.lt_or_ge 256 (szE x) with h | h
    · have := this.2 (by omega); omega
    · exact h
  · rintro ⟨h1, h2⟩
    exact ⟨by have := this.1 (by omega); omega, by omega⟩

/-- Arguments are fewer than the nodes. -/
theorem szL_ge : ∀ l : List Expr, l.length ≤ szL l
  | [] => by simp [szL]
  | x :: xs => by have := szL_ge xs; have : 1 ≤ szE x := by rw [szE_eq]; omega
                  simp only [szL, List.length_cons]; omega
theorem node_same (x : Expr) (n : Int) (h : szE x ≤ 256) : nodeR x n = nodeT x n := by
  have hl := szL_ge x.args
  rw [szE_eq] at h
  unfold nodeR nodeT
  by_cases h1 : x.op < 0 ∨ x.op ≥ 5
  · rw [if_pos h1, if_pos h1]
  · rw [if_neg h1, if_neg h1]
    obtain ho | ho | ho | ho | ho : x.op = 0 ∨ x.op = 1 ∨ x.op = 2 ∨ x.op = 3 ∨ x.op = 4 := by omega
    all_goals
      simp only [ho]
      simp
      try simp only [← List.length_eq_zero_iff]
      repeat' split
      all_goals first | rfl | omega
mutual
theorem nodes_list : ∀ (x : Expr) (n : Int), nodesE x n = firstErr (fun y => nodeT y n) (ndE x)
  | ⟨op, ix, args⟩, n => by simp only [nodesE, ndE, firstErr, nodesL_list args n]
theorem nodesL_list : ∀ (l : List Expr) (n : Int), nodesL l n = firstErr (fun y => nodeT y n) (ndL l)
  | [], n => by simp [nodesL, ndL, firstErr]
  | x :: xs, n => by
    simp only [nodesL, ndL, nodes_list x n, nodesL_list xs n]
    generalize ndE x = a
    induction a with
    | nil => simp [firstErr]
    | cons y a ih =>
      simp only [List.cons_append, firstErr]
      by_cases h : nodeT y n = 0
      · simp only [h, ne_eq, not_true_eq_false, if_false]; exact ih
      · simp [h]
end
mutual
theorem ndE_sz : ∀ (x : Expr) (y : Expr), y ∈ ndE x → szE y ≤ szE x
  | ⟨op, ix, args⟩, y, h => by
    simp only [ndE] at h
    rcases List.mem_cons.1 h with rfl | h
    · exact Nat.le_refl _
    · have := ndL_sz args y h; simp only [szE]; omega
theorem ndL_sz : ∀ (l : List Expr) (y : Expr), y ∈ ndL l → szE y ≤ szL l
  | [], y, h => by simp [ndL] at h
  | x :: xs, y, h => by
    simp only [ndL] at h
    simp only [szL]
    rcases List.mem_append.1 h with h | h
    · have := ndE_sz x y h; omega
    · have := ndL_sz xs y h; omega
end
theorem nodeFold (n : Int) : ∀ l : List (Int × Expr), (match l.foldlM (nodeS n) () with | .ok _ => 0 | .error e => e) = firstErr (fun y => nodeR y n) (l.map (·.2))
  | [] => rfl
  | p :: l => by
    simp only [List.foldlM_cons, List.map_cons, firstErr, nodeS]
    by_cases h : nodeR p.2 n = 0
    · simp only [h, ne_eq, not_true_eq_false, if_false]
      exact nodeFold n l
    · simp only [h, ne_eq, not_false_eq_true, if_true]
      rfl
theorem firstErr_congr {ι : Type} {f g : ι → Int} : ∀ {l : List ι}, (∀ x ∈ l, f x = g x) → firstErr f l = firstErr g l
  | [], _ => rfl
  | x :: l, h => by
    have ih := firstErr_congr (l := l) fun y hy => h y (List.mem_cons_of_mem _ hy)
    simp only [firstErr, h x List.mem_cons_self, ih]

theorem check_same (x : Expr) (n : Int) : refCheckE x n = checkE x n := by
  unfold refCheckE checkE
  by_cases hn : n < 0 ∨ n > 256
  · rw [if_pos hn, if_pos hn]
  · rw [if_neg hn, if_neg hn]
    by_cases hl : szE x ≤ 256 ∧ dpE x ≤ 16
    · have h1 : lightE x = true := (light_iff x).2 hl
      obtain ⟨s, h2⟩ := (meas_iff x).2 hl
      rw [h1, h2]
      simp only [Bool.true_eq_false, if_false]
      have hk := nodeFold n (preE x 1)
      rw [(preE_all x 1 (by omega)).1, firstErr_congr fun y hy => node_same y n (Nat.le_trans (ndE_sz x y hy) hl.1), ← nodes_list] at hk
      cases hf : (preE x 1).foldlM (nodeS n) () with
      | ok u => rw [hf] at hk; simp only at hk ⊢; exact hk.symm
      | error e => rw [hf] at hk; simp only at hk ⊢; exact hk.symm
    · have h1 : lightE x = false := by
        cases h : lightE x
        · rfl
        · exact absurd ((light_iff x).1 h) hl
      have h2 : ∃ e, meas x = .error e := by
        cases h : meas x with
        | ok s => exact absurd ((meas_iff x).1 ⟨s, h⟩) hl
        | error e => exact ⟨e, rfl⟩
      obtain ⟨e, h2⟩ := h2
      rw [h1, h2]
      simp

end Go.Proofs.YtakndgpdolfenaaGreat
end

/- Contracts: the reference's names, signals, check. -/
section
namespace Go.Proofs.YtakndgpdolfenaaGreat
set_option maxHeartbeats 4000000
set_option maxRecDepth 10000

theorem refCheckC_fn (x : Expr) (hx : OkE x) (n : Int) : CallFn Tryz.prog 133 [aE x, aI n] (aI (checkE x n)) := by
  rw [← check_same]; exact refCheck_fn x hx n

def okW (s : List UInt8) (i : Nat) : Prop := wordS (s.take i) = true ∨ i = 0
theorem okW_step {s : List UInt8} {i : Nat} {b : UInt8} (h : okW s i) (hb : s[i]? = some b) : (wordS (s.take (i + 1)) = true ↔ (partB b = true ∧ (i = 0 → 97 ≤ b.toNat ∧ b.toNat ≤ 122))) := by
  have e : s.take (i + 1) = s.take i ++ [b] := by rw [List.take_add_one, hb]; rfl
  rw [e]
  by_cases h0 : i = 0
  · subst h0
    simp [wordS]
    constructor
    · rintro ⟨⟨h1, h2⟩, h3⟩; exact ⟨h3, h1, h2⟩
    · rintro ⟨h3, h1, h2⟩; exact ⟨⟨h1, h2⟩, h3⟩
  · rcases h with h | h
    · cases ht : s.take i with
      | nil => rw [ht] at h; simp [wordS] at h
      | cons a t =>
        rw [ht] at h
        simp [wordS] at h ⊢
        simp [h, h0]
        intro _ x hx
        exact h.2.2 x hx
    · exact absurd h h0
theorem wordS_mono {s : List UInt8} {i : Nat} (h : wordS s = true) (hi : 0 < i) : wordS (s.take i) = true := by
  cases s with
  | nil => simp [wordS] at h
  | cons a t =>
    obtain ⟨j, rfl⟩ : ∃ j, i = j + 1 := ⟨i - 1, by omega⟩
    simp [wordS] at h ⊢
    exact ⟨h.1, h.2.1, fun x hx => h.2.2 x (List.mem_of_mem_take hx)⟩

theorem wordR_fn (s : List UInt8) (hs : Sh s) : CallFn Tryz.prog 132 [aT s] (aB (wordS s)) := by
  refine callFz_of Tryz.func132 rfl Tryz.ntmps132 (rs := [.tmp 2]) rfl (by kernel_rfl) (by simp) (by kernel_rfl) ?_
  simp
  refine V.forI (σ := Unit) s.length [0] (by simp; exact rfl) (fun i _ => [(3, aI i)]) (fun _ _ => []) (fun i _ => okW s i) () (.inr rfl) (by simp) ⟨by simp; exact rfl, by simp⟩ ?_ ?_
  · rintro i - hi hI
    obtain ⟨b, hb⟩ : ∃ b, s[i] = b := ⟨_, rfl⟩
    have hbo : s[i]? = some b := by rw [List.getElem?_eq_getElem hi, hb]
    have hstep := okW_step hI hbo
    have hlt := b.toNat_lt
    simp [hi]
    refine V.draw (fun _ => none) (by kernel_rfl) (by kernel_rfl) (by simp) ?_
    simp [hi, hb]
    refine ⟨by omega, by omega, by omega, ?_⟩
    have hp : partB b = true ↔ ((97 ≤ b.toNat ∧ b.toNat ≤ 122) ∨ (65 ≤ b.toNat ∧ b.toNat ≤ 90) ∨ (48 ≤ b.toNat ∧ b.toNat ≤ 57) ∨ b.toNat = 95) := by
      simp [partB]
      omega
    refine ⟨by omega, fun hbad => ?_, fun h1 h2 => ⟨by omega, .inl (hstep.2 ⟨hp.2 (by omega), fun h => by have := h1 h; omega⟩)⟩⟩
    cases hw : wordS s
    · rfl
    · obtain ⟨h3, h4⟩ := hstep.1 (wordS_mono hw (by omega))
      have h5 := hp.1 h3
      omega
  · rintro - hI
    have e : (s != []) = wordS s := by
      rcases hI with h | h
      · rw [List.take_length] at h
        rw [h]
        cases s <;> simp_all [wordS]
      · have : s = [] := List.length_eq_zero_iff.1 h
        subst this
        rfl
    simp
    exact e

theorem nameR_fn (c : Control) (h : Sm c) (hc : OkC c) (ha : 0 ≤ c.actuators ∧ c.actuators ≤ 6) (k : Nat) (h1 : (k : Int) < countC c) : CallFn Tryz.prog 110 [aC c, aI k] (aI (nameE (namedC c k) (namesB c k))) := by
  have hs := h
  obtain ⟨g1, g2, g3⟩ := h
  have hcn : countC c = 2 * c.actuators + c.inputs.length + c.signals.length := rfl
  have hSh : Sh (namedC c k) := by
    unfold namedC
    split
    · rename_i hk
      have : k < 12 := by omega
      rw [lineName_eq k this]
      simp
    · split
      · rw [List.getD_eq_getElem?_getD]
        cases hi : c.inputs[((k : Int) - 2 * c.actuators).toNat]? with
        | none => simp
        | some y => exact hc.names y (List.mem_of_getElem? hi)
      · cases hi : c.signals[((k : Int) - firstC c).toNat]? with
        | none => simp
        | some y => exact (hc.sigs y (List.mem_of_getElem? hi)).name
  refine callFz_of Tryz.func110 rfl Tryz.ntmps110 (rs := [.tmp 4]) rfl (by kernel_rfl) (by simp) (by kernel_rfl) ?_
  simp
  refine (NamedR_fn c hs ha k (by omega) h1).s ?_
  simp
  refine (wordR_fn (namedC c k) hSh).s ?_
  cases hw : wordS (namedC c k)
  · simp [nameE, hw]
  · by_cases hl : (namedC c k).length > 24
    · simp [nameE, hw, hl]
      intro h
      omega
    · have hl' : ¬ 24 < (namedC c k).length := hl
      have hl2 : ((namedC c k).length : Int) ≤ 24 := by omega
      simp [hl2, Int.not_lt.2 hl2]
      refine V.forI (σ := Unit) k [1, 2, 5] (by simp; exact rfl) (fun i _ => [(6, aI i)]) (fun _ _ => []) (fun i _ => ∀ j, j < i → namedC c j ≠ namedC c k) () (by simp) (by simp) ⟨by simp; exact rfl, by simp⟩ ?_ ?_
      · rintro i - hi hI
        simp [hi]
        refine (NamedR_fn c hs ha i (by omega) (by omega)).s ?_
        by_cases e : namedC c i = namedC c k
        · have hm : namedC c k ∈ namesB c k := List.mem_map.2 ⟨i, by simpa using hi, e⟩
          simp [nameE, hw, hl', hm, e]
        · simp [e]
          refine ⟨by omega, fun j hj => ?_⟩
          rcases Nat.lt_or_ge j i with h | h
          · exact hI j h
          · obtain rfl : j = i := by omega
            exact e
      · rintro - hI
        have hm : namedC c k ∉ namesB c k := by
          intro hm
          obtain ⟨j, hj, e⟩ := List.mem_map.1 hm
          exact hI j (by simpa using hj) e
        simp [nameE, hw, hl', hm]

mutual
def occE : Expr → Int → Bool
  | ⟨op, ix, args⟩, k => if op = 1 then ix == k else occL args k
def occL : List Expr → Int → Bool
  | [], _ => false
  | x :: xs, k => occE x k || occL xs k
end
theorem occE_eq (x : Expr) (k : Int) : occE x k = if x.op = 1 then x.index == k else occL x.args k := by cases x; simp [occE]
theorem occurs_fn : ∀ (N : Nat) (x : Expr), SizeOf.sizeOf x < N → OkE x → ∀ k : Int, CallFn Tryz.prog 171 [aE x, aI k] (aB (occE x k))
  | 0, _, h, _, _ => absurd h (Nat.not_lt_zero _)
  | N + 1, x, hN, hx, k => by
    refine callFz_of Tryz.func171 rfl Tryz.ntmps171 (rs := [.tmp 4]) rfl (by kernel_rfl) (by simp) (by kernel_rfl) ?_
    by_cases hop : x.op = 1
    · simp [hop, occE_eq]
    · have e : occE x k = occL x.args k := by rw [occE_eq, if_neg hop]
      simp [hop]
      refine V.forI (σ := Unit) x.args.length [1, 2] (by simp; exact rfl) (fun i _ => [(5, aI i)]) (fun _ _ => []) (fun i _ => occL (x.args.drop i) k = occE x k) () (by simp [e]) (by simp) ⟨by simp; exact rfl, by simp⟩ ?_ ?_
      · rintro i - hi hI
        obtain ⟨y, hy⟩ : ∃ y, x.args[i] = y := ⟨_, rfl⟩
        have hmem : y ∈ x.args := hy ▸ List.getElem_mem hi
        have hlen := hx.len
        rw [List.drop_eq_getElem_cons hi, hy, occL] at hI
        simp [hi, hy, encE_eq]
        refine (occurs_fn N y (by have := Expr.lt_of_mem hmem; omega) (hx.args y hmem) k).s ?_
        cases ho : occE y k
        · rw [ho] at hI
          simp at hI
          simp
          exact ⟨by omega, hI⟩
        · rw [ho] at hI
          simp at hI
          simp [hI]
      · rintro - hI
        simp [occL] at hI
        simp [← hI]


theorem foldl_or (f : Int → Bool) : ∀ (l : List Int) (b : Bool), l.foldl (fun b n => b || f n) b = (b || l.any f)
  | [], b => by simp
  | n :: l, b => by simp [foldl_or f l, Bool.or_assoc]
theorem lateC_any (c : Control) (i : Int) (x : Expr) : lateC c i x = (varsE x).any fun n => decide (i ≤ n - firstC c) && kindAt c (n - firstC c) == 0 := by
  unfold lateC
  have : lateStep c i = fun b n => b || (decide (i ≤ n - firstC c) && kindAt c (n - firstC c) == 0) := rfl
  rw [this, foldl_or]
  rfl
/-- In a right expression, what occurs is among the variables. -/
theorem occ_vars {n : Int} : ∀ (N : Nat) (x : Expr), SizeOf.sizeOf x < N → RightE n x → ∀ k, occE x k = (varsE x).any (· == k)
  | 0, _, h, _, _ => absurd h (Nat.not_lt_zero _)
  | N + 1, x, hN, hr, k => by
    have hL : ∀ l : List Expr, (∀ y ∈ l, y ∈ x.args) → occL l k = (varsL l).any (· == k) := by
      intro l
      induction l with
      | nil => intro _; rfl
      | cons y l ih =>
        intro hl
        have hm := hl y (by simp)
        simp only [occL, varsL, List.any_append]
        rw [ih (fun z hz => hl z (by simp [hz])), occ_vars N y (by have := Expr.lt_of_mem hm; omega) (hr.args y hm) k]
    rw [occE_eq, varsE_eq]
    by_cases hop : x.op = 1
    · have hn := hr.node
      have hargs : x.args = [] := by
        unfold nodeR at hn
        simp only [hop] at hn
        split at hn <;> try omega
        split at hn <;> try omega
        rename_i h
        simp at h
        exact List.length_eq_zero_iff.1 (by omega)
      simp [hop, hargs, varsL]
    · simp [hop]
      simpa using hL x.args fun _ h => h
theorem occ_check {x : Expr} {n : Int} (h : checkE x n = 0) (k : Int) : occE x k = (varsE x).any (· == k) := occ_vars (SizeOf.sizeOf x + 1) x (by omega) (right_of_check h).1 k

theorem late_fn (c : Control) (h : Sm c) (i : Nat) (s : Signal) (hi : c.signals[i]? = some s) (hx : OkS s) (hr : checkE s.on (countC c) = 0) : CallFn Tryz.prog 134 [aC c, aI i] (aB (lateC c i s.on)) := by
  have hs := h
  obtain ⟨g1, g2, g3⟩ := h
  obtain ⟨hlt, hy1⟩ := List.getElem?_eq_some_iff.1 hi
  have hcn : countC c = firstC c + c.signals.length := rfl
  have hfc : firstC c = 2 * c.actuators + c.inputs.length := rfl
  refine callFz_of Tryz.func134 rfl Tryz.ntmps134 (rs := [.tmp 4]) rfl (by kernel_rfl) (by simp) (by kernel_rfl) ?_
  simp
  refine V.forI (σ := Unit) (c.signals.length - i) [1, 2] (by simp; exact rfl) (fun m _ => [(5, aI (i + m : Nat))]) (fun _ _ => []) (fun m _ => ∀ j, i ≤ j → j < i + m → kindAt c j = 0 → occE s.on (firstC c + j) = false) () (by intro j h1 h2; omega) (by simp) ⟨by simp; exact rfl, by simp⟩ ?_ ?_
  · rintro m - hm hI
    have hj : i + m < c.signals.length := by omega
    have hji : (i : Int) + m < c.signals.length := by omega
    obtain ⟨y, hy⟩ : ∃ y, c.signals[i + m] = y := ⟨_, rfl⟩
    have hyo : c.signals[i + m]? = some y := by rw [List.getElem?_eq_getElem hj, hy]
    have hka : kindAt c ((i + m : Nat) : Int) = y.kind := by unfold kindAt; rw [Int.toNat_natCast, hyo]; rfl
    simp [hji]
    refine V.draw (fun t => if t = 29 then some (.fn (aI (firstC c))) else if t = 32 then some (.fn (aB (occE s.on (firstC c + (i + m : Nat))))) else none) (by kernel_rfl) (by kernel_rfl) (by simp) ?_
    have e1 := signals_fn c hs
    have e2 := occurs_fn (SizeOf.sizeOf s.on + 1) s.on (by omega) hx.on (firstC c + (i + m : Nat))
    simp at e1 e2
    have hti : ((i : Int) + m).toNat = i + m := by omega
    simp [hji, hti, hyo, hy1, hlt, e1, e2, hj, hy]
    refine ⟨by omega, fun h => ⟨h, by omega, by omega⟩, fun hk ho => ?_, fun hno => ⟨by omega, ?_, by omega⟩⟩
    · rw [occ_check hr, List.any_eq_true] at ho
      obtain ⟨n, hn, e⟩ := ho
      simp only [beq_iff_eq] at e
      rw [lateC_any, List.any_eq_true]
      refine ⟨n, hn, ?_⟩
      rw [show n - firstC c = ((i + m : Nat) : Int) by omega, hka, hk]
      simp
      omega
    · intro j h1 h2 h3
      rcases Nat.lt_or_ge j (i + m) with h | h
      · exact hI j h1 h h3
      · obtain rfl : j = i + m := by omega
        rw [hka] at h3
        have := hno h3
        simpa using this
  · rintro - hI
    have e : i + (c.signals.length - i) = c.signals.length := by omega
    rw [e]
    have hl : lateC c i s.on = false := by
      rw [lateC_any, List.any_eq_false]
      intro n hn
      have hv := vars_check hr n hn
      simp only [Bool.and_eq_true, decide_eq_true_eq, beq_iff_eq, not_and]
      intro h1 h2
      obtain ⟨j, hj⟩ : ∃ j : Nat, n - firstC c = j := ⟨(n - firstC c).toNat, by omega⟩
      rw [hj] at h1 h2
      have := hI j (by omega) (by omega) h2
      rw [occ_check hr, List.any_eq_false] at this
      exact this n hn (by simp; omega)
    simp [hl]

def pilotsF (c : Control) (l : List Int) : Bool := l.any fun n => decide (n < 0) || decide (countC c ≤ n)

theorem signalR_fn (c : Control) (h : Sm c) (hc : OkC c) (ha : 0 ≤ c.actuators ∧ c.actuators ≤ 6) (i : Nat) (s : Signal) (hi : c.signals[i]? = some s) : CallFn Tryz.prog 111 [aC c, aI i] (aI (sigE c i)) := by
  have hs := h
  obtain ⟨g1, g2, g3⟩ := h
  obtain ⟨hlt, hy1⟩ := List.getElem?_eq_some_iff.1 hi
  have hcn : countC c = firstC c + c.signals.length := rfl
  have hfc : firstC c = 2 * c.actuators + c.inputs.length := rfl
  have hx : OkS s := hc.sigs s (List.mem_of_getElem? hi)
  obtain ⟨N, hN⟩ : ∃ N : Nat, c.actuators = N := ⟨c.actuators.toNat, by omega⟩
  have hNN : c.actuators.toNat = N := by omega
  have hk : firstC c + i = ((2 * N + c.inputs.length + i : Nat) : Int) := by omega
  have hn : namedC c (2 * N + c.inputs.length + i : Nat) = s.name := by
    refine named_sig (s := s) (by omega) (by omega) ?_
    rw [show ((2 * N + c.inputs.length + i : Nat) - firstC c : Int).toNat = i by omega]
    exact hi
  have e0 : sigE c i = signalE c i s (namesB c (2 * N + c.inputs.length + i)) := by simp only [sigE, hi, hNN]
  rw [e0]
  generalize hnm : namesB c (2 * N + c.inputs.length + i) = names
  have c1 := nameR_fn c hs hc ha (2 * N + c.inputs.length + i) (by omega)
  rw [hn, hnm, ← hk] at c1
  refine callFz_of Tryz.func111 rfl Tryz.ntmps111 (rs := [.tmp 4]) rfl (by kernel_rfl) (by simp) (by kernel_rfl) ?_
  simp [hy1, hlt]
  intro b5
  refine V.draw (fun t => if t = 18 then some (.fn (aI (firstC c))) else if t = 21 then some (.fn (aI (nameE s.name names))) else none) (by kernel_rfl) (by kernel_rfl) (by simp) ?_
  have c2 := signals_fn c hs
  try simp at c1
  try simp at c2
  simp [c1, c2]
  refine ⟨by omega, fun h1 => by simp [signalE, h1], fun h1 => ⟨fun h2 => ?_, fun h2 h3 => ?_⟩⟩
  · simp [signalE, h1]
    omega
  · refine V.draw (fun t => if t = 36 then some (.fn (aI (countC c))) else if t = 37 then some (.fn (aI (checkE s.on (countC c)))) else none) (by kernel_rfl) (by kernel_rfl) (by simp) ?_
    have c3 := lines_fn c hs
    have c4 := refCheckC_fn s.on hx.on (countC c)
    try simp at c3
    try simp at c4
    simp [c3, c4]
    have hk03 : ¬ (s.kind < 0 ∨ s.kind ≥ 3) := by omega
    refine ⟨fun h4 => by simp [signalE, h1, h4]; omega, fun h4 => ?_⟩
    have e1 : signalE c i s names = if s.kind = 0 then gateE c i s else if s.kind = 1 then memE c s else timE s := by
      unfold signalE; rw [if_neg (by simp [h1]), if_neg hk03, if_neg (by simp [h4])]
    rw [e1]
    have c5 := late_fn c hs i s hi hx h4
    have c6 := zeroR_fn s.off
    obtain hk | hk | hk : s.kind = 0 ∨ s.kind = 1 ∨ s.kind = 2 := by omega
    · simp only [hk, if_true]
      refine V.draw (fun _ => none) (by kernel_rfl) (by kernel_rfl) (by simp) ?_
      simp
      refine GCall.fn (aB (lateC c i s.on)) (fun _ => ⟨by first | trivial | assumption, c5⟩) ?_
      cases hl : lateC c i s.on
      · simp
        refine GCall.fn (aB (zeroE s.off)) (fun _ => ⟨by first | trivial | assumption, c6⟩) ?_
        simp
        cases hz : zeroE s.off <;> cases hin : s.init <;> simp [gateE, hl, hz, hin]
      · simp [gateE, hl]
    · simp only [hk]
      refine V.draw (fun _ => none) (by kernel_rfl) (by kernel_rfl) (by simp) ?_
      have c7 := refCheckC_fn s.off hx.off (countC c)
      simp
      refine V.draw (fun t => if t = 51 then some (.fn (aI (countC c))) else if t = 52 then some (.fn (aI (checkE s.off (countC c)))) else none) (by kernel_rfl) (by kernel_rfl) (by simp) ?_
      simp [c3, c7]
      refine ⟨fun h5 => by simp [memE, h5], fun h5 => ?_⟩
      refine GCall.fn (aB false) (by simp) ?_
      simp
      refine GCall.fn (aB false) (by simp) ?_
      simp [memE, h5]
    · simp only [hk]
      refine V.draw (fun _ => none) (by kernel_rfl) (by kernel_rfl) (by simp) ?_
      simp
      refine GCall.fn (aB false) (by simp) ?_
      simp
      refine ⟨fun h5 => by simp [timE]; omega, fun h5 h6 => ?_⟩
      refine GCall.fn (aB (zeroE s.off)) (fun _ => ⟨by first | trivial | assumption, c6⟩) ?_
      cases hz : zeroE s.off <;> cases hin : s.init <;> simp [timE, hz, hin] <;> omega

end Go.Proofs.YtakndgpdolfenaaGreat
end

/- Contracts: the reference's check of controls. -/
section
namespace Go.Proofs.YtakndgpdolfenaaGreat
set_option maxHeartbeats 4000000
set_option maxRecDepth 10000

def badP (c : Control) (n : Int) : Bool := decide (n < 0) || decide (countC c ≤ n)
theorem NoF.any {α : Type} {p : α → Bool} {xs : List α} (h : NoF p xs) : xs.any p = false := by
  rw [List.any_eq_false]
  intro x hx
  simp [h x hx]
theorem pilotsR_fn (c : Control) (h : Sm c) (hp : c.plus.length ≤ 1000000) (hm : c.minus.length ≤ 1000000) : CallFn Tryz.prog 112 [aC c] (aI (pilotE c)) := by
  refine callFz_of Tryz.func112 rfl Tryz.ntmps112 (rs := [.tmp 2]) rfl (by kernel_rfl) (by simp) (by kernel_rfl) ?_
  by_cases hpl : (c.plus.length : Int) ≠ c.actuators ∨ (c.minus.length : Int) ≠ c.actuators
  · simp [pilotE, hpl]
    intro h1 h2
    omega
  · have h1 : (c.plus.length : Int) = c.actuators := by omega
    have h2 : (c.minus.length : Int) = c.actuators := by omega
    have e' : pilotE c = if (c.plus ++ c.minus).any (badP c) then 6 else 0 := by rw [pilotE, if_neg hpl]; rfl
    rw [List.any_append] at e'
    simp [h1, h2]
    refine V.forI (σ := Unit) 2 [1, 24, 25] (by simp; exact rfl) (fun i _ => [(26, aI i)]) (fun _ _ => []) (fun i _ => (1 ≤ i → NoF (badP c) c.plus) ∧ (2 ≤ i → NoF (badP c) c.minus)) () (by simp) (by simp) ⟨by simp; exact rfl, by simp⟩ ?_ ?_
    · rintro i - hi hI
      obtain ⟨ys, hys, hly, hbad, hgood⟩ : ∃ ys : List Int, ([[L.sl (c.plus.map encI)], [L.sl (c.minus.map encI)]] : List (List L))[i]? = some [L.sl (ys.map encI)] ∧ ys.length ≤ 1000000 ∧ (ys.any (badP c) = true → pilotE c = 6) ∧
          (NoF (badP c) ys → (1 ≤ i + 1 → NoF (badP c) c.plus) ∧ (2 ≤ i + 1 → NoF (badP c) c.minus)) := by
        obtain rfl | rfl : i = 0 ∨ i = 1 := by omega
        · exact ⟨c.plus, rfl, hp, fun h => by rw [e', h]; rfl, fun h => ⟨fun _ => h, fun h => by omega⟩⟩
        · exact ⟨c.minus, rfl, hm, fun h => by rw [e', h]; simp, fun h => ⟨fun _ => hI.1 (by omega), fun _ => h⟩⟩
      have hi' : (i : Int) < 2 := by omega
      simp [hi', hys]
      refine V.forI (σ := Unit) ys.length [1, 4, 24, 25, 26, 27, 28, 29] (by simp; exact rfl) (fun j _ => [(5, aI j)]) (fun _ _ => []) (fun j _ => NoF (badP c) (ys.take j)) () (by simp) (by simp) ⟨by simp; exact rfl, by simp⟩ ?_ ?_
      · rintro j - hj hJ
        obtain ⟨y, hy⟩ : ∃ y, ys[j] = y := ⟨_, rfl⟩
        have hs := findIdx_step hJ (List.getElem?_eq_getElem hj)
        rw [hy] at hs
        have c3 := lines_fn c h
        simp [hj]
        refine V.draw (fun t => if t = 47 then some (.fn (aI (countC c))) else none) (by kernel_rfl) (by kernel_rfl) (by simp) ?_
        try simp at c3
        simp [hj, hy, c3]
        refine ⟨fun hb => ?_, fun hb1 hb2 => ⟨by omega, hs.1 (by simp [badP]; omega)⟩⟩
        rw [hbad]
        rw [← List.findIdx?_isSome, hs.2 (by simp [badP]; omega)]
        rfl
      · rintro - hJ
        rw [List.take_length] at hJ
        obtain ⟨g1, g2⟩ := hgood hJ
        simp
        refine ⟨by omega, g1 (by omega), ?_⟩
        intro h
        exact g2 (by omega)
    · rintro - ⟨g1, g2⟩
      rw [e', (g1 (by omega)).any, (g2 (by omega)).any]
      simp

theorem CheckR_fn (c : Control) (hc : OkC c) (hp : c.plus.length ≤ 1000000) (hm : c.minus.length ≤ 1000000) : CallFn Tryz.prog 84 [aC c] (aI (checkC c)) := by
  refine callFz_of Tryz.func84 rfl Tryz.ntmps84 (rs := [.tmp 2]) rfl (by kernel_rfl) (by simp) (by kernel_rfl) ?_
  by_cases ha : c.actuators < 1 ∨ c.actuators > 6
  · have e : checkC c = 2 := by simp [checkC, ha]
    rw [e]
    simp
    intro h1 h2
    omega
  · have ha' : 1 ≤ c.actuators ∧ c.actuators ≤ 6 ∧ ¬ c.actuators < 1 ∧ ¬ 6 < c.actuators := by omega
    by_cases hmx : c.inputs.length > 16 ∨ c.signals.length > 64
    · have e : checkC c = 5 := by simp only [checkC]; rw [if_neg ha, if_pos hmx]
      rw [e]
      simp [ha'.1, ha'.2]
      intro h1 h2
      omega
    · have hsm : Sm c := ⟨by omega, by omega, by omega⟩
      obtain ⟨N, hN⟩ : ∃ N : Nat, c.actuators = N := ⟨c.actuators.toNat, by omega⟩
      have hNN : c.actuators.toNat = N := by omega
      have hm' : (c.inputs.length : Int) ≤ 16 ∧ (c.signals.length : Int) ≤ 64 ∧ ¬ 16 < (c.inputs.length : Int) ∧ ¬ 64 < (c.signals.length : Int) := by omega
      have hcn : countC c = 2 * c.actuators + c.inputs.length + c.signals.length := rfl
      have e : checkC c = if firstErr (inpE c) (List.range c.inputs.length) ≠ 0 then firstErr (inpE c) (List.range c.inputs.length)
          else if firstErr (sigE c) (List.range c.signals.length) ≠ 0 then firstErr (sigE c) (List.range c.signals.length) else pilotE c := by
        simp only [checkC]; rw [if_neg ha, if_neg hmx]
      simp [ha'.1, ha'.2, hm'.1, hm'.2]
      refine V.forI (σ := Unit) c.inputs.length [1] (by simp; exact rfl) (fun i _ => [(3, aI i)]) (fun _ _ => []) (fun i _ => NoE (inpE c) i) () (NoE.zero _) (by simp) ⟨by simp; exact rfl, by simp⟩ ?_ ?_
      · rintro i - hi hI
        have c1 := nameR_fn c hsm hc ⟨by omega, by omega⟩ (2 * N + i) (by omega)
        have hin : inpE c i = nameE (namedC c (2 * N + i : Nat)) (namesB c (2 * N + i)) := by rw [inpE, hNN]
        rw [← hin, show ((2 * N + i : Nat) : Int) = 2 * c.actuators + i by omega] at c1
        simp [hi]
        refine ⟨by omega, by omega, c1.s ?_⟩
        by_cases hz : inpE c i = 0
        · simp [hz]
          exact ⟨by omega, hI.succ hz⟩
        · have hf := firstErr_at hI hi hz
          have e' : checkC c = inpE c i := by rw [e, hf, if_pos hz]
          simp [hz, e']
      · rintro - hI
        have hf := firstErr_all hI
        rw [hf] at e
        simp at e
        simp
        refine V.forI (σ := Unit) c.signals.length [1] (by simp; exact rfl) (fun i _ => [(5, aI i)]) (fun _ _ => []) (fun i _ => NoE (sigE c) i) () (NoE.zero _) (by simp) ⟨by simp; exact rfl, by simp⟩ ?_ ?_
        · rintro i - hi hI2
          have c1 := signalR_fn c hsm hc ⟨by omega, by omega⟩ i _ (List.getElem?_eq_getElem hi)
          simp [hi]
          refine c1.s ?_
          by_cases hz : sigE c i = 0
          · simp [hz]
            exact ⟨by omega, hI2.succ hz⟩
          · have hf := firstErr_at hI2 hi hz
            have e' : checkC c = sigE c i := by rw [e, hf, if_neg hz]
            simp [hz, e']
        · rintro - hI2
          have hf := firstErr_all hI2
          rw [hf] at e
          simp at e
          rw [e]
          simp
          refine (pilotsR_fn c hsm hp hm).s ?_
          simp

end Go.Proofs.YtakndgpdolfenaaGreat
end

/- Contracts: values of lines, fitting states. -/
section
namespace Go.Proofs.YtakndgpdolfenaaGreat
set_option maxHeartbeats 4000000
set_option maxRecDepth 10000

theorem comp_B : ((fun x => List.map A.dat x) ∘ encB) = rB := rfl
theorem comp_I : ((fun x => List.map A.dat x) ∘ encI) = rI := rfl
attribute [simp] comp_B comp_I
def endsV (l : List Int) : List Bool := l.flatMap fun x => [x == 0, x == 2]
def valuesOf (s : State) : List Bool := endsV s.ends ++ s.inputs ++ s.values
theorem endsV_take {l : List Int} {i : Nat} {x : Int} (h : l[i]? = some x) : endsV (l.take (i + 1)) = endsV (l.take i) ++ [x == 0, x == 2] := by
  rw [List.take_add_one, h]
  simp [endsV]
theorem endsV_length (l : List Int) : (endsV l).length = 2 * l.length := by
  induction l with
  | nil => rfl
  | cons x l ih => simp only [endsV, List.flatMap_cons, List.length_append] at ih ⊢; rw [ih]; simp; omega
structure SmS (s : State) : Prop where
  ends : s.ends.length ≤ 1000000
  valves : s.valves.length ≤ 1000000
  inputs : s.inputs.length ≤ 1000000
  values : s.values.length ≤ 1000000
  timers : s.timers.length ≤ 1000000

theorem values_o (s : State) (h : SmS s) : CallOwn Tryz.prog 98 [aSt s] 4 1 ((valuesOf s).map rB) := by
  obtain ⟨h1, h2, h3, h4, h5⟩ := h
  refine callO_of Tryz.func98 rfl Tryz.ntmps98 (rs := [.tmp 2]) rfl (by kernel_rfl) (by simp) (by kernel_rfl) ?_
  simp
  refine V.forI (σ := Value) s.ends.length [1, 2, 7, 8] (by simp; exact rfl) (fun i g => [(9, aI i), (3, .own 50 g)]) (fun i g => [(50, .seq g 4 1 ((endsV (s.ends.take i)).map rB))]) (fun _ _ => True) (.slice none 0 0) trivial (by simp) ⟨by simp; exact rfl, by simp [endsV]⟩ ?_ ?_
  · rintro i g hi -
    obtain ⟨x, hx⟩ : ∃ x, s.ends[i] = x := ⟨_, rfl⟩
    have hs := endsV_take (show s.ends[i]? = some x by rw [List.getElem?_eq_getElem hi, hx])
    have hl := endsV_length (s.ends.take i)
    rw [List.length_take] at hl
    rw [hs]
    generalize endsV (s.ends.take i) = zs at hl ⊢
    simp [hi, hx]
    omega
  · rintro g -
    have hl := endsV_length s.ends
    rw [List.take_length]
    have hv : valuesOf s = endsV s.ends ++ s.inputs ++ s.values := rfl
    rw [hv]
    generalize endsV s.ends = zs at hl ⊢
    simp
    refine V.draw (fun _ => none) (by kernel_rfl) (by kernel_rfl) (by simp) ?_
    simp
    omega
theorem ValuesR_o (c : Control) (s : State) (h : SmS s) (ha : c.actuators = s.ends.length) : CallOwn Tryz.prog 45 [aC c, aSt s] 4 1 ((valuesOf s).map rB) := by
  obtain ⟨h1, h2, h3, h4, h5⟩ := h
  refine callO_of Tryz.func45 rfl Tryz.ntmps45 (rs := [.tmp 4]) rfl (by kernel_rfl) (by simp) (by kernel_rfl) ?_
  simp
  refine V.forI (σ := Value) s.ends.length [2, 3, 4] (by simp; exact rfl) (fun i g => [(6, aI i), (5, .own 50 g)]) (fun i g => [(50, .seq g 4 1 ((endsV (s.ends.take i)).map rB))]) (fun _ _ => True) (.slice none 0 0) trivial (by simp) ⟨by simp; exact rfl, by simp [endsV]⟩ ?_ ?_
  · rintro i g hi -
    obtain ⟨x, hx⟩ : ∃ x, s.ends[i] = x := ⟨_, rfl⟩
    have hs := endsV_take (show s.ends[i]? = some x by rw [List.getElem?_eq_getElem hi, hx])
    have hl := endsV_length (s.ends.take i)
    have hia : (i : Int) < c.actuators := by omega
    rw [List.length_take] at hl
    rw [hs]
    generalize endsV (s.ends.take i) = zs at hl ⊢
    simp [hi, hia]
    refine V.draw (fun _ => none) (by kernel_rfl) (by kernel_rfl) (by simp) ?_
    simp [hi, hx]
    omega
  · rintro g -
    have hl := endsV_length s.ends
    rw [List.take_length]
    have hv : valuesOf s = endsV s.ends ++ s.inputs ++ s.values := rfl
    rw [hv]
    generalize endsV s.ends = zs at hl ⊢
    simp [ha]
    omega

end Go.Proofs.YtakndgpdolfenaaGreat
end

/- Contracts: fitting states, Right. -/
section
namespace Go.Proofs.YtakndgpdolfenaaGreat
set_option maxHeartbeats 4000000
set_option maxRecDepth 10000

def outR (m n : Int) : Bool := decide (n < 0) || decide (m ≤ n)
theorem unknown_fn (m : Int) : CallFn Tryz.prog 120 [aI m] (.fn 121 [] [.rptr [.int .i64 m]]) := by
  refine callFz_of Tryz.func120 rfl Tryz.ntmps120 (rs := [.tmp 2]) rfl (by kernel_rfl) (by simp) (by kernel_rfl) ?_
  simp
theorem unknown1_fn (m n : Int) : CallFn Tryz.prog 121 [aI n, .rptr [.int .i64 m]] (aB (outR m n)) := by
  refine callFz_of Tryz.func121 rfl Tryz.ntmps121 (rs := [.tmp 3]) rfl (by kernel_rfl) (by simp) (by kernel_rfl) ?_
  simp [outR]

def tstE (x : Signal) (v : Bool) (t : Int) : Int := if (x.kind ≠ 2 ∧ t ≠ 0) ∨ (x.kind = 2 ∧ v ≠ (t == 2)) then 14 else 0
def tsE (c : Control) (s : State) (i : Nat) : Int := match c.signals[i]?, s.values[i]?, s.timers[i]? with
  | some x, some v, some t => tstE x v t
  | _, _, _ => 0
def shapeS (c : Control) (s : State) : Prop := (s.ends.length : Int) = c.actuators ∧ (s.valves.length : Int) = c.actuators ∧ s.inputs.length = c.inputs.length ∧ s.values.length = c.signals.length ∧ s.timers.length = c.signals.length
instance (c : Control) (s : State) : Decidable (shapeS c s) := by unfold shapeS; exact inferInstance
def fitsSt (c : Control) (s : State) : Int :=
  if ¬ shapeS c s then 8
  else if s.ends.any (outR 4) || s.timers.any (outR 3) then 1
  else firstErr (tsE c s) (List.range s.timers.length)

theorem fits_fn (c : Control) (s : State) (hs : SmS s) : CallFn Tryz.prog 96 [aC c, aSt s] (aI (fitsSt c s)) := by
  refine callFz_of Tryz.func96 rfl Tryz.ntmps96 (rs := [.tmp 4]) rfl (by kernel_rfl) (by simp) (by kernel_rfl) ?_
  have hsm := hs
  obtain ⟨g1, g2, g3, g4, g5⟩ := hs
  by_cases hsh : shapeS c s
  · have e : fitsSt c s = if s.ends.any (outR 4) || s.timers.any (outR 3) then 1 else firstErr (tsE c s) (List.range s.timers.length) := by rw [fitsSt, if_neg (by simpa using hsh)]
    obtain ⟨h1, h2, h3, h4, h5⟩ := hsh
    simp [h1, h2, h3, h4, h5]
    have c1 := unknown_fn 4
    have c2 := unknown_fn 3
    have c3 := containsF_fn s.ends (outR 4) 121 [] [.rptr [.int .i64 4]] (by omega) (fun n _ => by simpa using unknown1_fn 4 n)
    have c4 := containsF_fn s.timers (outR 3) 121 [] [.rptr [.int .i64 3]] (by omega) (fun n _ => by simpa using unknown1_fn 3 n)
    obtain ⟨be, hbe⟩ : ∃ b, s.ends.any (outR 4) = b := ⟨_, rfl⟩
    obtain ⟨bt, hbt⟩ : ∃ b, s.timers.any (outR 3) = b := ⟨_, rfl⟩
    rw [hbe] at c3 e
    rw [hbt] at c4 e
    refine V.draw (fun t => if t = 53 then some (.fn (.fn 121 [] [.rptr [.int .i64 4]])) else if t = 54 then some (.fn (aB be)) else if t = 59 then some (.fn (.fn 121 [] [.rptr [.int .i64 3]])) else if t = 60 then some (.fn (aB bt)) else none) (by kernel_rfl) (by kernel_rfl) (by simp) ?_
    simp [c1, c2, c3, c4]
    refine ⟨fun h => by rcases h with rfl | rfl <;> simp [e], ?_⟩
    rintro rfl rfl
    simp at e
    refine V.forI (σ := Unit) s.timers.length [2, 3, 63, 64] (by simp; exact rfl) (fun i _ => [(65, aI i)]) (fun _ _ => []) (fun i _ => NoE (tsE c s) i) () (NoE.zero _) (by simp [h5]) ⟨by simp; exact rfl, by simp⟩ ?_ ?_
    · rintro i - hi hI
      obtain ⟨x, hx⟩ : ∃ x, c.signals[i]'(by omega) = x := ⟨_, rfl⟩
      obtain ⟨v, hv⟩ : ∃ v, s.values[i]'(by omega) = v := ⟨_, rfl⟩
      obtain ⟨t, ht⟩ : ∃ t, s.timers[i] = t := ⟨_, rfl⟩
      have hxo : c.signals[i]? = some x := by rw [List.getElem?_eq_getElem (by omega), hx]
      have hvo : s.values[i]? = some v := by rw [List.getElem?_eq_getElem (by omega), hv]
      have hto : s.timers[i]? = some t := by rw [List.getElem?_eq_getElem (by omega), ht]
      have hE : tsE c s i = tstE x v t := by simp only [tsE, hxo, hvo, hto]
      have hic : i < c.signals.length := by omega
      have hiv : i < s.values.length := by omega
      by_cases hbad : (x.kind ≠ 2 ∧ t ≠ 0) ∨ (x.kind = 2 ∧ v ≠ (t == 2))
      · have hz : tsE c s i = 14 := by rw [hE, tstE, if_pos hbad]
        have hf := firstErr_at hI hi (by rw [hz]; decide)
        have e' : fitsSt c s = 14 := by rw [e, hf, hz]
        simp [← h5, hi, hx, hv, ht, hic, hiv, e', h4]
        exact ⟨fun h => ⟨h, fun h2 => ⟨h, h2⟩⟩, fun a b => by
          rcases hbad with ⟨p, q⟩ | ⟨p, q⟩
          · exact absurd (a p) q
          · exact absurd (b p) q⟩
      · have hz : tsE c s i = 0 := by rw [hE, tstE, if_neg hbad]
        simp [← h5, hi, hx, hv, ht, hic, hiv, h4]
        have hn := hI.succ hz
        exact ⟨fun h => ⟨h, fun h2 => ⟨h, h2⟩⟩, fun hb => absurd hb hbad, fun _ _ => ⟨by omega, hn⟩⟩
    · rintro - hI
      have hf := firstErr_all hI
      rw [hf] at e
      simp [e, h5]
  · have e : fitsSt c s = 8 := by rw [fitsSt, if_pos hsh]
    rw [e]
    simp
    unfold shapeS at hsh
    intros
    omega

end Go.Proofs.YtakndgpdolfenaaGreat
end

/- Contracts: the reference's fitting states, Right, Value, Name, Line. -/
section
namespace Go.Proofs.YtakndgpdolfenaaGreat
set_option maxHeartbeats 4000000
set_option maxRecDepth 10000

theorem NoF.snoc' {α : Type} {p : α → Bool} {xs : List α} {i : Nat} {x : α} (h : NoF p (xs.take i)) (hx : xs[i]? = some x) (hp : p x = false) : NoF p (xs.take (i + 1)) := by
  rw [List.take_add_one, hx]
  intro y hy
  simp only [Option.toList_some, List.mem_append, List.mem_singleton] at hy
  rcases hy with hy | rfl
  · exact h y hy
  · exact hp
theorem any_at {α : Type} {p : α → Bool} {xs : List α} {i : Nat} {x : α} (hx : xs[i]? = some x) (hp : p x = true) : xs.any p = true := by
  rw [List.any_eq_true]
  exact ⟨x, List.mem_of_getElem? hx, hp⟩

theorem fitsR_fn (c : Control) (s : State) (hs : SmS s) : CallFn Tryz.prog 85 [aC c, aSt s] (aI (fitsSt c s)) := by
  refine callFz_of Tryz.func85 rfl Tryz.ntmps85 (rs := [.tmp 4]) rfl (by kernel_rfl) (by simp) (by kernel_rfl) ?_
  have hsm := hs
  obtain ⟨g1, g2, g3, g4, g5⟩ := hs
  by_cases hsh : shapeS c s
  · have e : fitsSt c s = if s.ends.any (outR 4) || s.timers.any (outR 3) then 1 else firstErr (tsE c s) (List.range s.timers.length) := by rw [fitsSt, if_neg (by simpa using hsh)]
    obtain ⟨h1, h2, h3, h4, h5⟩ := hsh
    simp [h1, h2, h3, h4, h5]
    refine V.forI (σ := Unit) s.ends.length [2, 3] (by simp; exact rfl) (fun i _ => [(5, aI i)]) (fun _ _ => []) (fun i _ => NoF (outR 4) (s.ends.take i)) () (by simp [NoF]) (by simp) ⟨by simp; exact rfl, by simp⟩ ?_ ?_
    · rintro i - hi hI
      obtain ⟨x, hx⟩ : ∃ x, s.ends[i] = x := ⟨_, rfl⟩
      have hxo : s.ends[i]? = some x := by rw [List.getElem?_eq_getElem (by omega), hx]
      by_cases hb : outR 4 x = true
      · have e' : fitsSt c s = 1 := by rw [e, any_at hxo hb]; rfl
        simp [outR] at hb
        simp [hi, hx, e']
        intro a b
        omega
      · have hn := hI.snoc' hxo (by simpa using hb)
        simp [outR] at hb
        obtain ⟨b1, b2⟩ := hb
        simp [hi, hx, hn, b1, b2, Int.not_lt.2 b1]
        omega
    · rintro - hI
      rw [List.take_length] at hI
      have ha := hI.any
      rw [ha] at e
      simp at e
      simp
      refine V.forI (σ := Unit) s.timers.length [2, 3] (by simp; exact rfl) (fun i _ => [(6, aI i)]) (fun _ _ => []) (fun i _ => NoF (outR 3) (s.timers.take i)) () (by simp [NoF]) (by simp) ⟨by simp; exact rfl, by simp⟩ ?_ ?_
      · rintro i - hi hI
        obtain ⟨x, hx⟩ : ∃ x, s.timers[i] = x := ⟨_, rfl⟩
        have hxo : s.timers[i]? = some x := by rw [List.getElem?_eq_getElem (by omega), hx]
        by_cases hb : outR 3 x = true
        · have e' : fitsSt c s = 1 := by rw [e, if_pos]; obtain ⟨y, hy, hp⟩ := List.any_eq_true.1 (any_at hxo hb); exact ⟨y, hy, hp⟩
          simp [outR] at hb
          simp [hi, hx, e', ← h5]
          intro a b
          omega
        · have hn := hI.snoc' hxo (by simpa using hb)
          simp [outR] at hb
          obtain ⟨b1, b2⟩ := hb
          simp [hi, hx, hn, b1, b2, Int.not_lt.2 b1, ← h5]
          omega
      · rintro - hI
        rw [List.take_length] at hI
        have hb : ¬ ∃ x, x ∈ s.timers ∧ outR 3 x = true := by
          rintro ⟨y, hy, hp⟩
          rw [hI y hy] at hp
          cases hp
        rw [if_neg hb] at e
        simp [h5]
        refine V.forI (σ := Unit) s.timers.length [2, 3] (by simp; exact rfl) (fun i _ => [(7, aI i)]) (fun _ _ => []) (fun i _ => NoE (tsE c s) i) () (NoE.zero _) (by simp) ⟨by simp; exact rfl, by simp⟩ ?_ ?_
        · rintro i - hi hI
          obtain ⟨x, hx⟩ : ∃ x, c.signals[i]'(by omega) = x := ⟨_, rfl⟩
          obtain ⟨v, hv⟩ : ∃ v, s.values[i]'(by omega) = v := ⟨_, rfl⟩
          obtain ⟨t, ht⟩ : ∃ t, s.timers[i] = t := ⟨_, rfl⟩
          have hxo : c.signals[i]? = some x := by rw [List.getElem?_eq_getElem (by omega), hx]
          have hvo : s.values[i]? = some v := by rw [List.getElem?_eq_getElem (by omega), hv]
          have hto : s.timers[i]? = some t := by rw [List.getElem?_eq_getElem (by omega), ht]
          have hE : tsE c s i = tstE x v t := by simp only [tsE, hxo, hvo, hto]
          have hic : i < c.signals.length := by omega
          have hiv : i < s.values.length := by omega
          by_cases hbad : (x.kind ≠ 2 ∧ t ≠ 0) ∨ (x.kind = 2 ∧ v ≠ (t == 2))
          · have hz : tsE c s i = 14 := by rw [hE, tstE, if_pos hbad]
            have hf := firstErr_at hI hi (by rw [hz]; decide)
            have e' : fitsSt c s = 14 := by rw [e, hf, hz]
            simp [← h5, hi, hx, hv, ht, hic, hiv, h4]
            refine V.draw (fun _ => none) (by kernel_rfl) (by kernel_rfl) (by simp) ?_
            simp [← h5, hi, hx, hv, ht, hic, hiv, e', h4]
            exact ⟨fun h => ⟨h, fun h2 => ⟨h, h2⟩⟩, fun a b => by
              rcases hbad with ⟨p, q⟩ | ⟨p, q⟩
              · exact absurd (a p) q
              · exact absurd (b p) q⟩
          · have hz : tsE c s i = 0 := by rw [hE, tstE, if_neg hbad]
            have hn := hI.succ hz
            simp [← h5, hi, hx, hv, ht, hic, hiv, h4]
            refine V.draw (fun _ => none) (by kernel_rfl) (by kernel_rfl) (by simp) ?_
            simp [← h5, hi, hx, hv, ht, hic, hiv, h4]
            exact ⟨fun h => ⟨h, fun h2 => ⟨h, h2⟩⟩, fun hb => absurd hb hbad, fun _ _ => ⟨by omega, hn⟩⟩
        · rintro - hI
          have hf := firstErr_all hI
          rw [hf] at e
          simp [e, h5]
  · have e : fitsSt c s = 8 := by rw [fitsSt, if_pos hsh]
    rw [e]
    simp
    unfold shapeS at hsh
    intros
    omega

/-! ### What a right control has -/
structure Fine (c : Control) : Prop where
  act : 1 ≤ c.actuators ∧ c.actuators ≤ 6
  inp : c.inputs.length ≤ 16
  sig : c.signals.length ≤ 64
  sigs : ∀ (i : Nat) (s : Signal), c.signals[i]? = some s → signalE c i s (namesB c (2 * c.actuators.toNat + c.inputs.length + i)) = 0
theorem fine_of {c : Control} (h : checkC c = 0) : Fine c := by
  unfold checkC at h
  split at h
  · cases h
  · split at h
    · cases h
    · split at h
      · rename_i h1; exact absurd h h1
      · split at h
        · rename_i h1; exact absurd h h1
        · rename_i h1 h2 h3 h4
          have hz := firstErr_zero (Classical.not_not.1 h4)
          refine ⟨by omega, by omega, by omega, fun i s hi => ?_⟩
          obtain ⟨hlt, _⟩ := List.getElem?_eq_some_iff.1 hi
          have := hz i hlt
          simp only [sigE, hi] at this
          exact this
theorem Fine.sm {c : Control} (h : Fine c) : Sm c := by
  obtain ⟨h1, h2, h3, _⟩ := h
  exact ⟨by omega, by omega, by omega⟩
theorem Fine.on {c : Control} (h : Fine c) {i : Nat} {s : Signal} (hi : c.signals[i]? = some s) : checkE s.on (countC c) = 0 ∧ 0 ≤ s.kind ∧ s.kind ≤ 2 := by
  have := h.sigs i s hi
  unfold signalE at this
  split at this
  · rename_i h1; exact absurd this h1
  · split at this
    · cases this
    · split at this
      · rename_i h1; exact absurd this h1
      · rename_i h1 h2 h3
        exact ⟨Classical.not_not.1 h3, by omega⟩

def rightC (c : Control) (s : State) : Int := if checkC c ≠ 0 then checkC c else fitsSt c s
theorem Right_fn (c : Control) (s : State) (hc : OkC c) (hs : SmS s) : CallFn Tryz.prog 57 [aC c, aSt s] (aI (rightC c s)) := by
  refine callFz_of Tryz.func57 rfl Tryz.ntmps57 (rs := [.tmp 4]) rfl (by kernel_rfl) (by simp) (by kernel_rfl) ?_
  simp
  refine (Check_fn c hc).s ?_
  simp
  by_cases hz : checkC c = 0
  · simp [hz]
    refine (fits_fn c s hs).s ?_
    simp [rightC, hz]
  · simp [hz, rightC]
theorem RightR_fn (c : Control) (s : State) (hc : OkC c) (hp : c.plus.length ≤ 1000000) (hm : c.minus.length ≤ 1000000) (hs : SmS s) : CallFn Tryz.prog 43 [aC c, aSt s] (aI (rightC c s)) := by
  refine callFz_of Tryz.func43 rfl Tryz.ntmps43 (rs := [.tmp 4]) rfl (by kernel_rfl) (by simp) (by kernel_rfl) ?_
  simp
  refine (CheckR_fn c hc hp hm).s ?_
  simp
  by_cases hz : checkC c = 0
  · simp [hz]
    refine (fitsR_fn c s hs).s ?_
    simp [rightC, hz]
  · simp [hz, rightC]
theorem right_zero {c : Control} {s : State} (h : rightC c s = 0) : checkC c = 0 ∧ shapeS c s ∧ fitsSt c s = 0 := by
  unfold rightC at h
  split at h
  · rename_i h1; exact absurd h h1
  · rename_i h1
    refine ⟨Classical.not_not.1 h1, ?_, h⟩
    unfold fitsSt at h
    split at h
    · cases h
    · rename_i h2; exact Classical.not_not.1 h2
theorem valuesOf_length {c : Control} {s : State} (h : shapeS c s) : ((valuesOf s).length : Int) = countC c := by
  obtain ⟨h1, h2, h3, h4, h5⟩ := h
  have := endsV_length s.ends
  simp [valuesOf, countC, this]
  omega
theorem values_fn (s : State) (h : SmS s) : CallFn Tryz.prog 98 [aSt s] (aBs (valuesOf s)) := by
  have := (values_o s h).fn (by simp)
  rwa [rowsD_B] at this
theorem ValuesR_fn (c : Control) (s : State) (h : SmS s) (ha : c.actuators = s.ends.length) : CallFn Tryz.prog 45 [aC c, aSt s] (aBs (valuesOf s)) := by
  have := (ValuesR_o c s h ha).fn (by simp)
  rwa [rowsD_B] at this

def valueP (c : Control) (s : State) (k : Int) : Bool × Int :=
  if rightC c s ≠ 0 then (false, rightC c s) else if k < 0 ∨ countC c ≤ k then (false, 6) else ((valuesOf s)[k.toNat]?.getD false, 0)
def nameP (c : Control) (k : Int) : List UInt8 × Int :=
  if checkC c ≠ 0 then ([], checkC c) else if k < 0 ∨ countC c ≤ k then ([], 6) else (namedC c k, 0)
end Go.Proofs.YtakndgpdolfenaaGreat
end

/- Contracts: states of one's own: Copy, Computed, gates. -/
section
namespace Go.Proofs.YtakndgpdolfenaaGreat
set_option maxHeartbeats 4000000
set_option maxRecDepth 10000

/-- A state of one's own: its slices under the marks τ .. τ + 4. -/
def stA (τ : Nat) (g : Nat → Value) : A := .agg [.own τ (g 0), .own (τ + 1) (g 1), .own (τ + 2) (g 2), .own (τ + 3) (g 3), .own (τ + 4) (g 4)]
def stH (τ : Nat) (g : Nat → Value) (s : State) : Heap := [(τ, .seq (g 0) 3 1 (s.ends.map rI)), (τ + 1, .seq (g 1) 4 1 (s.valves.map rB)), (τ + 2, .seq (g 2) 4 1 (s.inputs.map rB)), (τ + 3, .seq (g 3) 4 1 (s.values.map rB)), (τ + 4, .seq (g 4) 3 1 (s.timers.map rI))]
def CallSt (g : FuncId) (az : List A) (s : State) : Prop := CallS Tryz.prog g az [] fun r H' => ∃ h, r = stA 0 h ∧ H' = stH 0 h s
theorem Ds5 {x : X} {l : List Value} {t0 t1 t2 t3 t4 u0 u1 u2 u3 u4 : Nat} {h0 h1 h2 h3 h4 : Value} (h : Ds x [.own t0 h0, .own t1 h1, .own t2 h2, .own t3 h3, .own t4 h4] l) : Ds x [.own u0 h0, .own u1 h1, .own u2 h2, .own u3 h3, .own u4 h4] l := by
  rcases l with _ | ⟨a, _ | ⟨b, _ | ⟨c, _ | ⟨d, _ | ⟨e, l⟩⟩⟩⟩⟩ <;> simp only [Ds, D] at h ⊢ <;> try exact h
theorem CallSt.s {g : FuncId} {az : List A} {s : State} (h : CallSt g az s) {H : Heap} {K : A → Heap → Prop} (τ : Nat) (hk : ∀ hd, K (stA τ hd) (stH τ hd s ++ H)) : CallS Tryz.prog g az H K := by
  refine ⟨h.1, fun x args H0 hi hd => ((CallS.frame (H1 := H) h).2 x args H0 hi hd).mono ?_⟩
  rintro _ _ ⟨y, v, r, H', rfl, rfl, hle, hi', hv, H2, ⟨hh, rfl, rfl⟩, rfl⟩
  refine ⟨y, v, stA τ hh, _, rfl, rfl, hle, hi'.ents (H' := (stH τ hh s ++ H) ++ H0) (by simp [stH]), ?_, hk hh⟩
  simp only [stA, D] at hv ⊢
  obtain ⟨vs, e, hds⟩ := hv
  exact ⟨vs, e, Ds5 hds⟩
def stAt (H : Heap) (s : State) : A → Prop
  | .agg [.own t0 h0, .own t1 h1, .own t2 h2, .own t3 h3, .own t4 h4] => hget t0 H = some (.seq h0 3 1 (s.ends.map rI)) ∧ hget t1 (hdel t0 H) = some (.seq h1 4 1 (s.valves.map rB)) ∧ hget t2 (hdel t1 (hdel t0 H)) = some (.seq h2 4 1 (s.inputs.map rB)) ∧
      hget t3 (hdel t2 (hdel t1 (hdel t0 H))) = some (.seq h3 4 1 (s.values.map rB)) ∧ hget t4 (hdel t3 (hdel t2 (hdel t1 (hdel t0 H)))) = some (.seq h4 3 1 (s.timers.map rI))
  | _ => False
theorem CallSt.of {g : FuncId} {az : List A} {s : State} (h : CallS Tryz.prog g az [] fun r H' => stAt H' s r) : CallSt g az s := by
  refine ⟨h.1, fun x args H0 hi hd => (h.2 x args H0 hi hd).mono ?_⟩
  rintro _ _ ⟨y, v, r, H', rfl, rfl, hle, hi', hv, hk⟩
  unfold stAt at hk
  split at hk
  · rename_i t0 h0 t1 h1 t2 h2 t3 h3 t4 h4
    obtain ⟨k0, k1, k2, k3, k4⟩ := hk
    have p0 := hdel_perm k0
    have p1 := hdel_perm k1
    have p2 := hdel_perm k2
    have p3 := hdel_perm k3
    have p4 := hdel_perm k4
    have hp := p0.trans ((p1.trans ((p2.trans ((p3.trans (p4.cons _)).cons _)).cons _)).cons _)
    have hi2 := hi'.perm (hp.symm.append_right H0)
    refine ⟨y, v, stA 0 (fun i => [h0, h1, h2, h3, h4].getD i default), stH 0 (fun i => [h0, h1, h2, h3, h4].getD i default) s, rfl, rfl, hle, ?_, ?_, _, rfl, rfl⟩
    · have hi3 := hi2.sub (H' := [(t0, .seq h0 3 1 (s.ends.map rI)), (t1, .seq h1 4 1 (s.valves.map rB)), (t2, .seq h2 4 1 (s.inputs.map rB)), (t3, .seq h3 4 1 (s.values.map rB)), (t4, .seq h4 3 1 (s.timers.map rI))] ++ H0) (List.Sublist.append (by simp) (List.Sublist.refl _))
      exact hi3.ents (by simp [stH])
    · simp only [stA, D] at hv ⊢
      obtain ⟨vs, e, hds⟩ := hv
      exact ⟨vs, e, Ds5 hds⟩
  · exact hk.elim
/-- As data. -/
theorem CallSt.fn {g : FuncId} {az : List A} {s : State} (h : CallSt g az s) : CallFn Tryz.prog g az (aSt s) := by
  refine CallS.fn h ?_
  rintro r H' ⟨hh, rfl, rfl⟩
  simp [stA, stH, hget, packA, aSt, encSt]
theorem copyR_o (s : State) (h : SmS s) : CallSt 107 [aSt s] s := by
  obtain ⟨h1, h2, h3, h4, h5⟩ := h
  refine CallSt.of (callS_of Tryz.func107 rfl Tryz.ntmps107 (rs := [.cell 2 29]) rfl (by kernel_rfl) (by simp) (by kernel_rfl) ?_)
  simp
  intro b2
  refine V.draw (fun _ => none) (by kernel_rfl) (by kernel_rfl) (by simp) ?_
  simp
  have g0 : s.ends.length ≤ 4294967296 := by omega
  have g1 : s.valves.length ≤ 4294967296 := by omega
  have g2 : s.inputs.length ≤ 4294967296 := by omega
  have g3 : s.values.length ≤ 4294967296 := by omega
  have g4 : s.timers.length ≤ 4294967296 := by omega
  simp [g0, g1, g2, g3, g4, stAt, hget, hdel]

/-! ### The gates -/
def gvals (c : Control) (s : State) : Nat → List Bool
  | 0 => s.values
  | i + 1 => match c.signals[i]? with
    | some x => if x.kind = 0 then (gvals c s i).set i (evalE x.on (valuesOf { s with values := gvals c s i })) else gvals c s i
    | none => gvals c s i
def gatesP (c : Control) (s : State) : State := { s with values := gvals c s c.signals.length }
theorem gvals_length (c : Control) (s : State) (i : Nat) : (gvals c s i).length = s.values.length := by
  induction i with
  | zero => rfl
  | succ i ih =>
    simp only [gvals]
    split
    · split
      · simp [ih]
      · exact ih
    · exact ih
theorem gvals_at {c : Control} {s : State} {i : Nat} {x : Signal} (h : c.signals[i]? = some x) : gvals c s (i + 1) = if x.kind = 0 then (gvals c s i).set i (evalE x.on (valuesOf { s with values := gvals c s i })) else gvals c s i := by
  simp only [gvals, h]

end Go.Proofs.YtakndgpdolfenaaGreat
end

/- Contracts: the reference's value of expressions. -/
section
namespace Go.Proofs.YtakndgpdolfenaaGreat
set_option maxHeartbeats 4000000
set_option maxRecDepth 10000

theorem evalL_map (vs : List Bool) : ∀ xs : List Expr, evalL xs vs = xs.map fun x => evalE x vs
  | [] => rfl
  | x :: xs => by simp [evalL, evalL_map vs xs]
def allT (xs : List Expr) (vs : List Bool) : Bool := xs.all fun x => evalE x vs
def anyT (xs : List Expr) (vs : List Bool) : Bool := xs.any fun x => evalE x vs
theorem allT_snoc {xs : List Expr} {vs : List Bool} {i : Nat} {y : Expr} (h : xs[i]? = some y) : allT (xs.take (i + 1)) vs = (allT (xs.take i) vs && evalE y vs) := by
  unfold allT
  rw [List.take_add_one, h]
  simp [List.all_append]
theorem anyT_snoc {xs : List Expr} {vs : List Bool} {i : Nat} {y : Expr} (h : xs[i]? = some y) : anyT (xs.take (i + 1)) vs = (anyT (xs.take i) vs || evalE y vs) := by
  unfold anyT
  rw [List.take_add_one, h]
  simp [List.any_append]
theorem evalL_all (xs : List Expr) (vs : List Bool) : (evalL xs vs).all (· == true) = allT xs vs := by
  rw [evalL_map, allT, List.all_map]
  congr 1
  funext x
  simp
theorem evalL_any (xs : List Expr) (vs : List Bool) : (!(evalL xs vs).all (· == false)) = anyT xs vs := by
  rw [evalL_map, anyT, List.all_map, List.not_all_eq_any_not]
  congr 1
  funext x
  show (!(evalE x vs == false)) = evalE x vs
  cases evalE x vs <;> rfl

theorem holds_fn : ∀ (N : Nat) (x : Expr), SizeOf.sizeOf x < N → OkE x → ∀ vs : List Bool, vs.length ≤ 256 → RightE vs.length x → CallFn Tryz.prog 108 [aE x, aBs vs] (aB (evalE x vs))
  | 0, _, h, _, _, _, _ => absurd h (Nat.not_lt_zero _)
  | N + 1, x, hN, hx, vs, hv, hr => by
    have ih : ∀ a ∈ x.args, CallFn Tryz.prog 108 [aE a, aBs vs] (aB (evalE a vs)) := fun a ha => holds_fn N a (by have := Expr.lt_of_mem ha; omega) (hx.args a ha) vs hv (hr.args a ha)
    have hn := hr.node
    have hlen := hx.len
    have hop : 0 ≤ x.op ∧ x.op < 5 := by
      unfold nodeR at hn
      split at hn <;> omega
    have key : x.op = 3 ∨ x.op = 4 → ∀ (c : Bool), c = true → CallFn Tryz.prog 108 [aE x, aBs vs] (aB (evalE x vs)) := by
      intro ho _ _
      have e : evalE x vs = if x.op = 3 then allT x.args vs else anyT x.args vs := by
        rw [evalE_eq, if_neg (by omega), if_neg (by omega), if_neg (by omega), evalL_all, evalL_any]
      have o0 : ¬ x.op = 0 := by omega
      have o1 : ¬ x.op = 1 := by omega
      have o2 : ¬ x.op = 2 := by omega
      refine callFz_of Tryz.func108 rfl Tryz.ntmps108 (rs := [.tmp 4]) rfl (by kernel_rfl) (by simp) (by kernel_rfl) ?_
      simp [o0, o1, o2]
      refine V.forI (σ := Unit) x.args.length [1, 2, 4] (by simp; exact rfl) (fun i _ => [(5, aB (allT (x.args.take i) vs)), (6, aB (anyT (x.args.take i) vs)), (7, aI i)]) (fun _ _ => []) (fun _ _ => True) () trivial (by simp [allT, anyT]) ⟨by simp; exact rfl, by simp⟩ ?_ ?_
      · rintro i - hi -
        obtain ⟨y, hy⟩ : ∃ y, x.args[i] = y := ⟨_, rfl⟩
        have hy0 : x.args[i]? = some y := by rw [List.getElem?_eq_getElem hi, hy]
        rw [allT_snoc hy0, anyT_snoc hy0]
        simp [hi, hy, encE_eq]
        refine (ih y (List.mem_of_getElem? hy0)).s ?_
        generalize evalE y vs = b1
        generalize allT (x.args.take i) vs = b2
        generalize anyT (x.args.take i) vs = b3
        simp
        omega
      · rintro - -
        rw [List.take_length]
        simp
        refine ⟨fun h => ⟨h, fun h2 => ⟨h, h2⟩⟩, ?_⟩
        rw [e]
        rcases ho with ho | ho <;> simp [ho]
    obtain ho | ho | ho | ho : x.op = 0 ∨ x.op = 1 ∨ x.op = 2 ∨ (x.op = 3 ∨ x.op = 4) := by omega
    · refine callFz_of Tryz.func108 rfl Tryz.ntmps108 (rs := [.tmp 4]) rfl (by kernel_rfl) (by simp) (by kernel_rfl) ?_
      simp [ho, evalE_eq x]
    · have hix : 0 ≤ x.index ∧ x.index < vs.length := by
        simp [nodeR, ho] at hn
        omega
      obtain ⟨k, hk⟩ : ∃ k : Nat, x.index = k := ⟨x.index.toNat, by omega⟩
      rw [hk] at hix
      have hkl : k < vs.length := by omega
      refine callFz_of Tryz.func108 rfl Tryz.ntmps108 (rs := [.tmp 4]) rfl (by kernel_rfl) (by simp) (by kernel_rfl) ?_
      simp [ho, hk, hkl, evalE_eq x]
    · have hl : x.args.length = 1 := by
        simp [nodeR, ho] at hn
        split at hn
        · cases hn
        · omega
      obtain ⟨y, hy⟩ : ∃ y, x.args = [y] := List.length_eq_one_iff.1 hl
      have e : evalE x vs = !(evalE y vs) := by
        rw [evalE_eq, if_neg (by omega), if_neg (by omega), if_pos ho, hy]
        simp [evalL]
      refine callFz_of Tryz.func108 rfl Tryz.ntmps108 (rs := [.tmp 4]) rfl (by kernel_rfl) (by simp) (by kernel_rfl) ?_
      simp [ho, hy, encE_eq]
      refine (ih y (by simp [hy])).s ?_
      simp [e]
    · exact key ho true rfl

end Go.Proofs.YtakndgpdolfenaaGreat
end

/- Contracts: the gates of a state. -/
section
namespace Go.Proofs.YtakndgpdolfenaaGreat
set_option maxHeartbeats 4000000
set_option maxRecDepth 10000

def preV (s : State) : List Bool := endsV s.ends ++ s.inputs
theorem valuesOf_with (s : State) (l : List Bool) : valuesOf { s with values := l } = preV s ++ l := rfl
theorem valuesOf_eq (s : State) : valuesOf s = preV s ++ s.values := rfl
theorem preV_length {c : Control} {s : State} (h : shapeS c s) : ((preV s).length : Int) = firstC c := by
  obtain ⟨h1, h2, h3, h4, h5⟩ := h
  have := endsV_length s.ends
  simp [preV, firstC, this]
  omega
theorem SmS.with {s : State} (h : SmS s) {l : List Bool} (hl : l.length = s.values.length) : SmS { s with values := l } := ⟨h.ends, h.valves, h.inputs, by show l.length ≤ _; rw [hl]; exact h.values, h.timers⟩

theorem computedR_o (c : Control) (s : State) (hc : OkC c) (hf : Fine c) (hs : SmS s) (hsh : shapeS c s) : CallSt 77 [aC c, aSt s] (gatesP c s) := by
  have hsm := hf.sm
  have hcs := hf.sig
  refine CallSt.of (callS_of Tryz.func77 rfl Tryz.ntmps77 (rs := [.cell 4 29]) rfl (by kernel_rfl) (by simp) (by kernel_rfl) ?_)
  simp
  intro b4
  refine (copyR_o s hs).s 60 fun hd => ?_
  simp [stA, stH]
  intro b5
  refine V.forI (σ := Unit) c.signals.length [2, 4, 5] (by simp; exact rfl) (fun i _ => [(6, aI i)]) (fun i _ => [(63, .seq (hd 3) 4 1 ((gvals c s i).map rB))]) (fun _ _ => True) () trivial (by simp) ⟨by simp; exact rfl, by simp [gvals, hget, hdel]⟩ ?_ ?_
  · rintro i - hi -
    obtain ⟨x, hx⟩ : ∃ x, c.signals[i] = x := ⟨_, rfl⟩
    have hxo : c.signals[i]? = some x := by rw [List.getElem?_eq_getElem hi, hx]
    have hgl := gvals_length c s i
    obtain ⟨hon, -⟩ := hf.on hxo
    obtain ⟨r1, r2, r3⟩ := right_of_check hon
    have hlen := valuesOf_length hsh
    rw [gvals_at hxo]
    generalize gvals c s i = l at hgl ⊢
    have hil : i < l.length := by obtain ⟨_, _, _, h4, _⟩ := hsh; omega
    have hgi : l[i]? = some l[i] := List.getElem?_eq_getElem hil
    by_cases hk : x.kind = 0
    · simp [hi, hx, hk]
      refine V.draw (fun t => if t = 34 then some (.ro (aBs (preV s ++ l))) else if t = 35 then some (.fn (aB (evalE x.on (preV s ++ l)))) else none) (by kernel_rfl) (by kernel_rfl) (by simp) ?_
      simp [hi, hx, hk, hgi, hil, valuesOf_with, rB]
      refine ⟨((ValuesR_o c { s with values := l } (hs.with hgl) hsh.1.symm).lendFn (H := [(60, .seq (hd 0) 3 1 (s.ends.map rI)), (61, .seq (hd 1) 4 1 (s.valves.map rB)), (62, .seq (hd 2) 4 1 (s.inputs.map rB)), (63, .seq (hd 3) 4 1 (l.map rB)), (64, .seq (hd 4) 3 1 (s.timers.map rI))]) ?_ ?_ ?_).mono ?_, ?_⟩
      · simp [hget, packA, encSt]
      · intro h; simp [valuesOf_with]
      · simp
      · rintro r H' ⟨rfl, rfl⟩
        simp [valuesOf_with]
      · have hl' : ((preV s ++ l).length : Int) = countC c := by
          have := valuesOf_length (c := c) (s := { s with values := l }) ⟨hsh.1, hsh.2.1, hsh.2.2.1, hgl.trans hsh.2.2.2.1, hsh.2.2.2.2⟩
          exact this
        exact ⟨holds_fn (SizeOf.sizeOf x.on + 1) x.on (by omega) (hc.sigs x (List.mem_of_getElem? hxo)).on (preV s ++ l) (by omega) (by rw [hl']; exact r1), by omega⟩
    · simp [hi, hx, hk]
      omega
  · rintro - -
    simp
    simp [stAt, hget, hdel, gatesP]

theorem gates_o (c : Control) (s : State) (hc : OkC c) (hf : Fine c) (hs : SmS s) (hsh : shapeS c s) : CallSt 58 [aC c, aSt s] (gatesP c s) := by
  have hsm := hf.sm
  have hcs := hf.sig
  have hpl := preV_length hsh
  obtain ⟨s1, s2, s3, s4, s5⟩ := hs
  have hs' : SmS s := ⟨s1, s2, s3, s4, s5⟩
  refine CallSt.of (callS_of Tryz.func58 rfl Tryz.ntmps58 (rs := [.cell 4 29]) rfl (by kernel_rfl) (by simp) (by kernel_rfl) ?_)
  simp
  intro b4
  refine V.draw (fun t => if t = 13 then some (.own 3 1 (s.ends.map rI)) else if t = 16 then some (.own 4 1 (s.valves.map rB)) else if t = 19 then some (.own 4 1 (s.inputs.map rB)) else if t = 22 then some (.own 4 1 (s.values.map rB)) else if t = 25 then some (.own 3 1 (s.timers.map rI)) else none) (by kernel_rfl) (by kernel_rfl) (by simp) ?_
  simp
  intro u0
  refine ⟨cloneI_o s.ends (by omega), fun u1 => ⟨cloneB_o s.valves (by omega), fun u2 => ⟨cloneB_o s.inputs (by omega), fun u3 => ⟨cloneB_o s.values (by omega), fun u4 => ⟨cloneI_o s.timers (by omega), ?_⟩⟩⟩⟩⟩
  intro b5
  refine (values_o s hs').lend 70 (by simp [hget, packA, encSt]) (by intro h; simp) ?_
  intro h6
  simp
  refine V.forI (σ := Unit) c.signals.length [2, 4, 5, 6, 30, 31] (by simp; exact rfl) (fun i _ => [(32, aI i)]) (fun i _ => [(22, .seq u3 4 1 ((gvals c s i).map rB)), (70, .seq h6 4 1 ((preV s ++ gvals c s i).map rB))]) (fun _ _ => True) () trivial (by simp) ⟨by simp; exact rfl, by simp [gvals, hget, hdel, valuesOf_eq]⟩ ?_ ?_
  · rintro i - hi -
    obtain ⟨x, hx⟩ : ∃ x, c.signals[i] = x := ⟨_, rfl⟩
    have hxo : c.signals[i]? = some x := by rw [List.getElem?_eq_getElem hi, hx]
    have hgl := gvals_length c s i
    obtain ⟨hon, -⟩ := hf.on hxo
    obtain ⟨r1, r2, r3⟩ := right_of_check hon
    have hlen := valuesOf_length hsh
    rw [gvals_at hxo]
    generalize gvals c s i = l at hgl ⊢
    have hil : i < l.length := by obtain ⟨_, _, _, h4, _⟩ := hsh; omega
    have hgi : l[i]? = some l[i] := List.getElem?_eq_getElem hil
    have hl' : ((preV s ++ l).length : Int) = countC c := by
      have := valuesOf_length (c := c) (s := { s with values := l }) ⟨hsh.1, hsh.2.1, hsh.2.2.1, hgl.trans hsh.2.2.2.1, hsh.2.2.2.2⟩
      exact this
    simp [hi, hx]
    intro b8
    by_cases hk : x.kind = 0
    · simp [hi, hx, hk]
      have ev := evalx_fn x.on (hc.sigs x (List.mem_of_getElem? hxo)).on (preV s ++ l) (by omega)
      rw [hl', hon] at ev
      simp only [if_true] at ev
      refine ev.lend (by simp [hget, packA, encE_eq]) (by simp) ?_
      rw [valuesOf_with]
      generalize evalE x.on (preV s ++ l) = b
      simp
      refine V.draw (fun t => if t = 52 then some (.fn (aI (firstC c))) else none) (by kernel_rfl) (by kernel_rfl) (by simp) ?_
      have hp1 := first_fn c hsm
      have hpl2 : (preV s).length ≤ 10000000 := by have := hf.act; have := hf.inp; unfold firstC at hpl; omega
      rw [← hpl] at hp1 ⊢
      have ht : (((preV s).length : Int) + i).toNat = (preV s).length + i := by omega
      have hA : (List.map rB (preV s) ++ List.map rB l)[(preV s).length + i]? = some [A.dat (L.bool l[i])] := by
        rw [List.getElem?_append_right (by simp)]
        simp [hgi, rB, hil]
      have hS : ∀ r, (List.map rB (preV s) ++ List.map rB l).set ((preV s).length + i) r = List.map rB (preV s) ++ (List.map rB l).set i r := by
        intro r
        rw [List.set_append_right _ _ (by simp)]
        simp
      simp [hi, hx, hk, hgi, hil, rB, ht, hA, hS]
      exact ⟨hp1, by omega, by omega, by omega, by omega⟩
    · simp [hi, hx, hk]
      omega
  · rintro - -
    simp [stAt, hget, hdel, gatesP]

end Go.Proofs.YtakndgpdolfenaaGreat
end

/- Contracts: Gates, Eval, Line, First, Begin. -/
section
namespace Go.Proofs.YtakndgpdolfenaaGreat
set_option maxHeartbeats 4000000
set_option maxRecDepth 10000

theorem allD_rep (n : Nat) (l : L) : allD (List.replicate n [A.dat l]) = true := by simp [allD, List.all_replicate, isD]
theorem rowsD_rep (n : Nat) (l : L) : rowsD (List.replicate n [A.dat l]) = List.replicate n [l] := by simp [rowsD]
attribute [simp] allD_rep rowsD_rep
def noSt : State := ⟨[], [], [], [], []⟩
theorem CallSt.lend {g : FuncId} {az az' : List A} {s : State} (h : CallSt g az' s) {H : Heap} {K : A → Heap → Prop} (τ : Nat) (hz : (frzs H az).1 ∧ (frzs H az).2 = az') (hk : ∀ hd, K (stA τ hd) (stH τ hd s ++ H)) : CallS Tryz.prog g az H K := by
  refine CallS.lend (K' := fun r H' => ∃ hd, r = stA τ hd ∧ H' = stH τ hd s) (h.s τ fun hd => ⟨hd, rfl, by simp⟩) hz ?_
  rintro r H' ⟨hd, rfl, rfl⟩
  refine ⟨by simp [stA], ?_, hk hd⟩
  intro p hp
  simp only [stH, List.mem_cons, List.not_mem_nil, or_false] at hp
  rcases hp with rfl | rfl | rfl | rfl | rfl <;> simp

def gatesR (c : Control) (s : State) : State × Int := if rightC c s ≠ 0 then (noSt, rightC c s) else (gatesP c s, 0)
theorem Gates_fn (c : Control) (s : State) (hc : OkC c) (hs : SmS s) : CallFn Tryz.prog 18 [aC c, aSt s] (.tuple [aSt (gatesR c s).1, aI (gatesR c s).2]) := by
  refine callFz_of Tryz.func18 rfl Tryz.ntmps18 (rs := [.cell 4 29, .tmp 5]) rfl (by kernel_rfl) (by simp) (by kernel_rfl) ?_
  simp
  intro b4
  refine (Right_fn c s hc hs).s ?_
  simp
  by_cases hz : rightC c s = 0
  · obtain ⟨z1, z2, z3⟩ := right_zero hz
    simp [hz]
    refine (gates_o c s hc (fine_of z1) hs z2).s 60 fun hd => ?_
    simp [stA, stH, hget, packA, gatesR, hz, encSt]
  · simp [hz, gatesR, noSt, packA, encSt]
def evalP (c : Control) (s : State) (x : Expr) : Bool × Int := if rightC c s ≠ 0 then (false, rightC c s) else if checkE x (countC c) ≠ 0 then (false, checkE x (countC c)) else (evalE x (valuesOf s), 0)
theorem EvalC_fn (c : Control) (s : State) (x : Expr) (hc : OkC c) (hs : SmS s) (hx : OkE x) : CallFn Tryz.prog 94 [aC c, aSt s, aE x] (.tuple [aB (evalP c s x).1, aI (evalP c s x).2]) := by
  refine callFz_of Tryz.func94 rfl Tryz.ntmps94 (rs := [.tmp 6, .tmp 7]) rfl (by kernel_rfl) (by simp) (by kernel_rfl) ?_
  simp
  refine (Right_fn c s hc hs).s ?_
  simp
  by_cases hz : rightC c s = 0
  · obtain ⟨z1, z2, z3⟩ := right_zero hz
    have hl := valuesOf_length z2
    have hsm := (fine_of z1).sm
    simp [hz]
    refine V.draw (fun t => if t = 17 then some (.fn (aBs (valuesOf s))) else if t = 18 then some (.fn (.tuple [aB (evalP c s x).1, aI (evalP c s x).2])) else none) (by kernel_rfl) (by kernel_rfl) (by simp) ?_
    have ev := evalx_fn x hx (valuesOf s) (by have := hsm.act; have := hsm.inp; have := hsm.sig; unfold countC at hl; omega)
    rw [hl] at ev
    have e : (A.tuple (if checkE x (countC c) = 0 then [.dat (.bool (evalE x (valuesOf s))), .dat (.int .i64 0)] else [.dat (.bool false), .dat (.int .i64 (checkE x (countC c)))])) = .tuple [aB (evalP c s x).1, aI (evalP c s x).2] := by
      by_cases h : checkE x (countC c) = 0 <;> simp [evalP, hz, h]
    rw [e] at ev
    have hv := values_fn s hs
    simp
    exact ⟨hv, ev⟩
  · simp [hz, evalP]
/-- A new state. -/
def initV (c : Control) (i : Nat) : List Bool := (c.signals.take i).map (·.init) ++ List.replicate (c.signals.length - i) false
def newSt (c : Control) (i : Nat) : State := ⟨List.replicate c.actuators.toNat 0, List.replicate c.actuators.toNat false, List.replicate c.inputs.length false, initV c i, List.replicate c.signals.length 0⟩
def firstSt (c : Control) : State := gatesP c (newSt c c.signals.length)
theorem initV_length (c : Control) (i : Nat) (h : i ≤ c.signals.length) : (initV c i).length = c.signals.length := by
  simp [initV]
  omega
theorem initV_set {c : Control} {i : Nat} {x : Signal} (h : c.signals[i]? = some x) : (initV c i).set i x.init = initV c (i + 1) := by
  obtain ⟨hlt, hx⟩ := List.getElem?_eq_some_iff.1 h
  unfold initV
  rw [List.set_append_right _ _ (by simp; omega), List.take_add_one, h]
  simp only [Option.toList_some, List.map_append, List.map_cons, List.map_nil, List.append_assoc, List.singleton_append]
  congr 1
  have e : c.signals.length - i = (c.signals.length - (i + 1)) + 1 := by omega
  rw [e, List.replicate_succ]
  simp [Nat.min_eq_left (Nat.le_of_lt hlt)]
theorem newSt_sm {c : Control} (h : Fine c) : SmS (newSt c c.signals.length) := by
  obtain ⟨h1, h2, h3, _⟩ := h
  have := initV_length c c.signals.length (Nat.le_refl _)
  refine ⟨?_, ?_, ?_, ?_, ?_⟩ <;> simp [newSt] <;> omega
theorem newSt_shape {c : Control} (h : Fine c) : shapeS c (newSt c c.signals.length) := by
  obtain ⟨h1, h2, h3, _⟩ := h
  have := initV_length c c.signals.length (Nat.le_refl _)
  refine ⟨?_, ?_, ?_, ?_, ?_⟩ <;> simp [newSt] <;> omega

theorem beginR_fn (c : Control) (hc : OkC c) (hf : Fine c) : CallFn Tryz.prog 88 [aC c] (aSt (firstSt c)) := by
  have hcs := hf.sig
  have hsm := hf.sm
  have ha := hf.act
  have hin := hf.inp
  refine callFz_of Tryz.func88 rfl Tryz.ntmps88 (rs := [.cell 2 29]) rfl (by kernel_rfl) (by simp) (by kernel_rfl) ?_
  simp
  intro b2
  refine V.draw (fun _ => none) (by kernel_rfl) (by kernel_rfl) (by simp) ?_
  simp
  intro u0
  refine ⟨by omega, fun u1 => ⟨by omega, fun u2 => ⟨by omega, fun u3 => ⟨by omega, fun u4 => ⟨by omega, ?_⟩⟩⟩⟩⟩
  intro b3
  refine V.forI (σ := Unit) c.signals.length [1, 2, 3] (by simp; exact rfl) (fun i _ => [(4, aI i)]) (fun i _ => [(18, .seq u3 4 1 ((initV c i).map rB))]) (fun _ _ => True) () trivial (by simp) ⟨by simp; exact rfl, by simp [hget, hdel, initV, rB]⟩ ?_ ?_
  · rintro i - hi -
    obtain ⟨x, hx⟩ : ∃ x, c.signals[i] = x := ⟨_, rfl⟩
    have hxo : c.signals[i]? = some x := by rw [List.getElem?_eq_getElem hi, hx]
    rw [← initV_set hxo]
    have hl := initV_length c i (by omega)
    generalize initV c i = l at hl ⊢
    have hil : i < l.length := by omega
    have hgi : l[i]? = some l[i] := List.getElem?_eq_getElem hil
    simp [hi, hx]
    refine V.draw (fun _ => none) (by kernel_rfl) (by kernel_rfl) (by simp) ?_
    simp [hi, hx, hil, hgi, rB]
    omega
  · rintro - -
    simp
    refine (computedR_o c (newSt c c.signals.length) hc hf (newSt_sm hf) (newSt_shape hf)).lend 60 ?_ ?_
    · simp [hget, packA, encSt, newSt]
    · intro hd
      simp [stA, stH, hget, packA, firstSt, encSt]

def lineP (c : Control) (s : List UInt8) : Int × Int := if checkC c ≠ 0 then (0, checkC c) else match (namesB c (countC c).toNat).findIdx? (· == s) with
  | some k => (k, 0)
  | none => (0, 6)
end Go.Proofs.YtakndgpdolfenaaGreat
end

/- Contracts: same states, few states, few controls. -/
section
namespace Go.Proofs.YtakndgpdolfenaaGreat
set_option maxHeartbeats 4000000
set_option maxRecDepth 10000

def sameSt (a b : State) : Bool := decide (a.ends = b.ends) && decide (a.valves = b.valves) && decide (a.inputs = b.inputs) && decide (a.values = b.values) && decide (a.timers = b.timers)
theorem SameStates_fn (a b : State) (ha : OkSt a) (hb : OkSt b) : CallFn Tryz.prog 69 [aSt a, aSt b] (aB (sameSt a b)) := by
  have c1 := eqI_fn a.ends b.ends ha.ends hb.ends
  have c2 := eqB_fn a.valves b.valves ha.valves hb.valves
  have c3 := eqB_fn a.inputs b.inputs ha.inputs hb.inputs
  have c4 := eqB_fn a.values b.values ha.values hb.values
  have c5 := eqI_fn a.timers b.timers ha.timers hb.timers
  refine callFz_of Tryz.func69 rfl Tryz.ntmps69 (rs := [.tmp 4]) rfl (by kernel_rfl) (by simp) (by kernel_rfl) ?_
  unfold sameSt
  generalize decide (a.ends = b.ends) = b1 at *
  generalize decide (a.valves = b.valves) = b2 at *
  generalize decide (a.inputs = b.inputs) = b3 at *
  generalize decide (a.values = b.values) = b4 at *
  generalize decide (a.timers = b.timers) = b5 at *
  simp
  refine c1.s ?_
  simp
  refine GCall.fn (aB b2) (fun _ => ⟨by first | trivial | assumption, c2⟩) ?_
  simp
  refine GCall.fn (aB b3) (fun _ => ⟨by first | trivial | assumption, c3⟩) ?_
  simp
  refine GCall.fn (aB b4) (fun _ => ⟨by first | trivial | assumption, c4⟩) ?_
  simp
  refine GCall.fn (aB b5) (fun _ => ⟨by first | trivial | assumption, c5⟩) ?_
  simp

theorem SameStatesR_fn (a b : State) (ha : OkSt a) (hb : OkSt b) : CallFn Tryz.prog 41 [aSt a, aSt b] (aB (sameSt a b)) := by
  have c1 := sameI_fn a.ends b.ends ha.ends hb.ends
  have c2 := sameB_fn a.valves b.valves ha.valves hb.valves
  have c3 := sameB_fn a.inputs b.inputs ha.inputs hb.inputs
  have c4 := sameB_fn a.values b.values ha.values hb.values
  have c5 := sameI_fn a.timers b.timers ha.timers hb.timers
  refine callFz_of Tryz.func41 rfl Tryz.ntmps41 (rs := [.tmp 4]) rfl (by kernel_rfl) (by simp) (by kernel_rfl) ?_
  unfold sameSt
  generalize decide (a.ends = b.ends) = b1 at *
  generalize decide (a.valves = b.valves) = b2 at *
  generalize decide (a.inputs = b.inputs) = b3 at *
  generalize decide (a.values = b.values) = b4 at *
  generalize decide (a.timers = b.timers) = b5 at *
  simp
  refine c1.s ?_
  simp
  refine GCall.fn (aB b2) (fun _ => ⟨by first | trivial | assumption, c2⟩) ?_
  simp
  refine GCall.fn (aB b3) (fun _ => ⟨by first | trivial | assumption, c3⟩) ?_
  simp
  refine GCall.fn (aB b4) (fun _ => ⟨by first | trivial | assumption, c4⟩) ?_
  simp
  refine GCall.fn (aB b5) (fun _ => ⟨by first | trivial | assumption, c5⟩) ?_
  simp

def fewS (s : State) : Bool := decide ((s.ends.length : Int) ≤ 40) && decide ((s.valves.length : Int) ≤ 40) && decide ((s.inputs.length : Int) ≤ 200) && decide ((s.values.length : Int) ≤ 200) && decide ((s.timers.length : Int) ≤ 200)
theorem FewStates_fn (s : State) (hs : OkSt s) : CallFn Tryz.prog 31 [aSt s] (aB (fewS s)) := by
  have h1 := hs.ends
  have h2 := hs.valves
  have h3 := hs.inputs
  have h4 := hs.values
  have h5 := hs.timers
  refine callFz_of Tryz.func31 rfl Tryz.ntmps31 (rs := [.tmp 2]) rfl (by kernel_rfl) (by simp) (by kernel_rfl) ?_
  simp [fewS]
theorem few_sm {s : State} (h : fewS s = true) : SmS s := by
  simp only [fewS, Bool.and_eq_true, decide_eq_true_eq] at h
  exact ⟨by omega, by omega, by omega, by omega, by omega⟩

def fewN (c : Control) : Bool := !(((((decide ((c.inputs.length : Int) > 32) || (decide ((c.signals.length : Int) > 16) && decide ((c.signals.length : Int) ≤ 64))) || decide ((c.signals.length : Int) > 128)) || decide ((c.plus.length : Int) > 40)) || decide ((c.minus.length : Int) > 40)))
def longB (s : List UInt8) : Bool := decide ((s.length : Int) > 200)
def heavyB (s : Signal) : Bool := longB s.name || !lightE s.on || !lightE s.off
def fewC (c : Control) : Bool := fewN c && !(c.inputs.any longB) && !(c.signals.any heavyB)
theorem few_c {c : Control} (h : fewC c = true) : c.plus.length ≤ 1000000 ∧ c.minus.length ≤ 1000000 := by
  simp only [fewC, fewN, Bool.and_eq_true, Bool.not_eq_true', Bool.or_eq_false_iff, decide_eq_false_iff_not] at h
  obtain ⟨⟨⟨⟨⟨h1, h2⟩, h3⟩, h4⟩, h5⟩, h6⟩ := h
  omega

theorem Few_fn (c : Control) (hc : OkC c) : CallFn Tryz.prog 75 [aC c] (aB (fewC c)) := by
  have h1 := hc.inputs
  have h2 := hc.signals
  have h3 := hc.plus
  have h4 := hc.minus
  refine callFz_of Tryz.func75 rfl Tryz.ntmps75 (rs := [.tmp 2]) rfl (by kernel_rfl) (by simp) (by kernel_rfl) ?_
  by_cases hn : fewN c = true
  · have e : fewC c = (!(c.inputs.any longB) && !(c.signals.any heavyB)) := by rw [fewC, hn]; rfl
    have hn' := hn
    simp only [fewN, Bool.not_eq_true', Bool.or_eq_false_iff, Bool.and_eq_false_iff, decide_eq_false_iff_not] at hn'
    obtain ⟨⟨⟨⟨k1, k2⟩, k3⟩, k4⟩, k5⟩ := hn'
    simp [fewN] at hn
    simp [hn]
    refine ⟨fun h => by omega, fun _ => ?_⟩
    refine V.forI (σ := Unit) c.inputs.length [1] (by simp; exact rfl) (fun i _ => [(3, aI i)]) (fun _ _ => []) (fun i _ => NoF longB (c.inputs.take i)) () (by simp [NoF]) (by simp) ⟨by simp; exact rfl, by simp⟩ ?_ ?_
    · rintro i - hi hI
      obtain ⟨x, hx⟩ : ∃ x, c.inputs[i] = x := ⟨_, rfl⟩
      have hxo : c.inputs[i]? = some x := by rw [List.getElem?_eq_getElem (by omega), hx]
      by_cases hb : longB x = true
      · have e' : fewC c = false := by rw [e, any_at hxo hb]; rfl
        simp [longB] at hb
        simp [hi, hx, e']
        intro h
        omega
      · have hn2 := hI.snoc' hxo (by simpa using hb)
        simp [longB] at hb
        simp [hi, hx, hn2]
        exact ⟨fun h => by omega, fun _ => by omega⟩
    · rintro - hI
      rw [List.take_length] at hI
      have ha := hI.any
      rw [ha] at e
      simp at e
      simp
      refine V.forI (σ := Unit) c.signals.length [1] (by simp; exact rfl) (fun i _ => [(4, aI i)]) (fun _ _ => []) (fun i _ => NoF heavyB (c.signals.take i)) () (by simp [NoF]) (by simp) ⟨by simp; exact rfl, by simp⟩ ?_ ?_
      · rintro i - hi hI
        obtain ⟨x, hx⟩ : ∃ x, c.signals[i] = x := ⟨_, rfl⟩
        have hxo : c.signals[i]? = some x := by rw [List.getElem?_eq_getElem (by omega), hx]
        have hok := hc.sigs x (List.mem_of_getElem? hxo)
        have q1 := light_fn x.on hok.on
        have q2 := light_fn x.off hok.off
        have e' : heavyB x = true → fewC c = false := by
          intro hb
          rw [e, any_at hxo hb]; rfl
        have hn2 : heavyB x = false → NoF heavyB (c.signals.take (i + 1)) := fun hb => hI.snoc' hxo hb
        simp only [heavyB] at e' hn2
        generalize lightE x.on = b1 at *
        generalize lightE x.off = b2 at *
        simp [hi, hx]
        intro b5
        refine GCall.fn (aB b1) (fun h => ⟨by first | trivial | exact h, q1⟩) ?_
        simp
        refine GCall.fn (aB b2) (fun h => ⟨by first | trivial | exact h, q2⟩) ?_
        have hlen : (c.signals.length : Int) ≤ 9223372036854775807 := by omega
        generalize fewC c = fw at e' ⊢
        by_cases hb : (x.name.length : Int) ≤ 200
        · have hb' : longB x.name = false := by simp [longB]; omega
          rw [hb'] at e' hn2
          cases b1 <;> cases b2 <;> simp [hb, Int.not_lt.2 hb] at e' hn2 ⊢ <;> first | (simp [e']; done) | exact ⟨by omega, hn2⟩
        · have hb' : longB x.name = true := by simp [longB]; omega
          rw [hb'] at e'
          simp at e'
          simp [hb, Int.not_le.1 hb, e']
      · rintro - hI
        rw [List.take_length] at hI
        have ha := hI.any
        have e2 : fewC c = true := by rw [e, ha]; rfl
        simp [e2]
  · have e : fewC c = false := by rw [fewC]; simp [hn]
    rw [e]
    simp [fewN] at hn
    simp
    exact ⟨fun h => ⟨h, fun h2 => ⟨h, h2⟩⟩, fun a b d e f => absurd (hn a (by omega) d e) (by omega)⟩

def rightB (c : Control) (s : State) : Bool := fewC c && fewS s && (rightC c s == 0)
end Go.Proofs.YtakndgpdolfenaaGreat
end

/- Contracts: the law's own controls. -/
section
namespace Go.Proofs.YtakndgpdolfenaaGreat
set_option maxHeartbeats 4000000
set_option maxRecDepth 10000

/-- Some of what is owned is given up. -/
theorem CallS.frzKeep {P : Program} {g : FuncId} {az : List A} {H : Heap} {K K' : A → Heap → Prop} (h : CallS P g az H K) (hk : ∀ r H', K r H' → ∃ Hf Hk : Heap, (Hf ++ Hk).Perm H' ∧ (Go.Proofs.YtakndgpdolfenaaGreat.frz Hf r).1 ∧ K' (Go.Proofs.YtakndgpdolfenaaGreat.frz Hf r).2 Hk) : CallS P g az H K' := by
  refine ⟨h.1, fun x args H0 hi hd => (h.2 x args H0 hi hd).mono ?_⟩
  rintro _ _ ⟨y, v, r, H', rfl, rfl, hle, hi', hv, hkk⟩
  obtain ⟨Hf, Hk, hp, h1, h2⟩ := hk r H' hkk
  have hi2 : Inv y (Hf ++ (Hk ++ H0)) := by
    rw [← List.append_assoc]
    exact hi'.perm (hp.append_right H0)
  obtain ⟨z, hw, hle2, hi3, hok, _⟩ := hi2.freeze
  exact ⟨z, v, _, Hk, rfl, hw, hle.trans hle2, hi3, frz_ok hi2 hle2 hw hok r v hv h1, h2⟩

def onX (n : Int) : Expr := ⟨1, n, []⟩
def bothX (a b : Int) : Expr := ⟨3, 0, [onX a, onX b]⟩
def noX : Expr := ⟨0, 0, []⟩
def twoC : Control := ⟨2, [[115, 116, 97, 114, 116]], [⟨[102, 105, 114, 115, 116], 0, bothX 4 0, noX, 0, false⟩, ⟨[109], 1, onX 5, onX 3, 0, false⟩, ⟨[119], 2, onX 3, noX, 50, false⟩], [6, 1], [7, 0]⟩
def twoN : List (List UInt8) := [[97, 48], [97, 49], [98, 48], [98, 49], [115, 116, 97, 114, 116], [102, 105, 114, 115, 116], [109], [119]]
def twoS : State := ⟨[0, 0], [false, false], [false], [false, false, false], [0, 0, 0]⟩
def twoT : State := { twoS with inputs := [true] }
def twoG : State := { twoT with values := [true, false, false] }
/-- The same with its signals as the caller's own. -/
def twoA (t : Nat) (h : Value) : A := .agg [aI 2, aTs twoC.inputs, .own t h, aIs twoC.plus, aIs twoC.minus]
def twoH (t : Nat) (h : Value) : Heap := [(t, .seq h 49 10 (twoC.signals.map fun s => (encS s).map A.dat))]
def twoL : Control := ⟨2, [[115, 116, 97, 114, 116]], [⟨[102, 105, 114, 115, 116], 0, onX 5, noX, 0, false⟩, ⟨[109], 1, onX 5, onX 3, 0, false⟩, ⟨[119], 2, onX 3, noX, 50, false⟩], [6, 1], [7, 0]⟩
def twoM : Control := ⟨2, [[97, 48]], twoC.signals, [6, 1], [7, 0]⟩
end Go.Proofs.YtakndgpdolfenaaGreat
end

/- Contracts: the law is awake. -/
section
namespace Go.Proofs.YtakndgpdolfenaaGreat
set_option maxHeartbeats 4000000
set_option maxRecDepth 10000

theorem onX_ok (n : Int) (h : I64 n) : OkE (onX n) := OkE.mk _ (by simp [onX]) ((inR_i64 _).2 (by simp [onX])) ((inR_i64 _).2 h) (by simp [onX])
theorem noX_ok : OkE noX := OkE.mk _ (by simp [noX]) ((inR_i64 _).2 (by simp [noX])) ((inR_i64 _).2 (by simp [noX])) (by simp [noX])
end Go.Proofs.YtakndgpdolfenaaGreat
end

/- Contracts of slices.Index and slices.Contains over ints. -/
section
namespace Go.Proofs.YtakndgpdolfenaaGreat
set_option maxHeartbeats 4000000
set_option maxRecDepth 10000

theorem idxI_fn (xs : List Int) (v : Int) (hx : Sh xs) : CallFn Tryz.prog 56 [aIs xs, aI v] (aI (idxI (xs.findIdx? (v == ·)))) := by
  refine callFz_of Tryz.func56 rfl Tryz.ntmps56 (rs := [.tmp 4]) rfl (by kernel_rfl) (by simp) (by kernel_rfl) ?_
  simp
  refine V.forI (σ := Unit) xs.length [0, 1, 7] (by simp; exact rfl) (fun i _ => [(8, aI i)]) (fun _ _ => []) (fun i _ => NoF (v == ·) (xs.take i)) () (by simp) (by simp) ⟨by simp; exact rfl, by simp⟩ ?_ ?_
  · rintro i - hi hI
    have h1 := List.getElem?_eq_getElem hi
    have hs := findIdx_step (p := (v == ·)) hI h1
    simp [hi, h1]
    cases e : (v == xs[i])
    · simp at e
      simp [e]
      exact ⟨by omega, hs.1 (by simp [e])⟩
    · have e2 := hs.2 e
      simp at e
      rw [e2]
      simp [e]
  · rintro - hI
    rw [findIdx_none hI]
    simp
theorem containsI_fn (xs : List Int) (v : Int) (hx : Sh xs) : CallFn Tryz.prog 17 [aIs xs, aI v] (aB (decide (v ∈ xs))) := by
  refine callFz_of Tryz.func17 rfl Tryz.ntmps17 (rs := [.tmp 4]) rfl (by kernel_rfl) (by simp) (by kernel_rfl) ?_
  simp
  refine (idxI_fn xs v hx).s ?_
  simp
  rw [← decide_eq_true_iff (p := 0 ≤ _), idxI_ge, List.findIdx?_isSome]
  simp
end Go.Proofs.YtakndgpdolfenaaGreat
end
