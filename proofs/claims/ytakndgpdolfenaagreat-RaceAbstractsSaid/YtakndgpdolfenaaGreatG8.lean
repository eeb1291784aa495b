/- Texts joined by a program: Bi, Bk, Bp, Bm, Bl, Bq, Bv, Bn, Bo, Bw, By, Br, Bs, Bu, Bx. -/
import Derived.Test.YtakndgpdolfenaaGreatG7
import Derived.Test.YtakndgpdolfenaaGreatG4
import Derived.Test.YtakndgpdolfenaaGreatG2
import Derived.Test.YtakndgpdolfenaaGreatGX
set_option linter.unusedSimpArgs false
set_option linter.unusedVariables false

/- Contracts of the reference of race: order, who asks, behind a move, places, few, same. -/
section
namespace Go.Proofs.YtakndgpdolfenaaGreat
set_option maxHeartbeats 4000000
set_option maxRecDepth 10000

def askL (c : Control) (s : State) (k : Nat) : List Int := ((List.range k).filter (wantAt c s)).map Int.ofNat
abbrev wantI (c : Control) (s : State) : List Int := (wantsL c s).map Int.ofNat
/-- The place of a state among others. -/
def placeS (l : List State) (t : State) : Int := match l.findIdx? fun a => decide (ordS a t = 0) with
  | some k => k
  | none => -1
theorem free_le (c : Control) : ∀ i, freeN c i ≤ i
  | 0 => Nat.le_refl _
  | i + 1 => by
    have := free_le c i
    simp only [freeN]
    split <;> omega
def few29 (c : Control) (s : State) : Bool := (fewC c && fewS s) && ((decide (freeN c c.signals.length ≤ 5) && decide (c.signals.length ≤ 9)) || decide (rightC c s ≠ 0))
theorem few29_fn (c : Control) (s : State) (hc : OkC c) (hs : OkSt s) : CallFn Tryz.prog 12 [aC c, aSt s] (aB (few29 c s)) := by
  have h1 := Few28_fn c s hc hs
  unfold few29
  refine callFz_of Tryz.func12 rfl Tryz.ntmps12 (rs := [.tmp 4]) rfl (by kernel_rfl) (by simp) (by kernel_rfl) ?_
  simp
  refine h1.s ?_
  cases hfew : (fewC c && fewS s) with
  | false => simp
  | true =>
    rw [Bool.and_eq_true] at hfew
    have hsm := few_sm hfew.2
    have hpm := few_c hfew.1
    have hright := RightR_fn c s hc hpm.1 hpm.2 hsm
    have hsig := hc.signals
    simp
    refine V.forI (σ := Unit) c.signals.length [2, 3, 4] (by simp; exact rfl) (fun i _ => [(5, aI (freeN c i)), (6, aI i)]) (fun _ _ => []) (fun _ _ => True) () trivial (by simp [freeN]) ⟨by simp; exact rfl, by simp⟩ ?_ ?_
    · rintro i - hi -
      obtain ⟨x, hx⟩ : ∃ x, c.signals[i]? = some x := ⟨_, List.getElem?_eq_getElem hi⟩
      have hx1 := (List.getElem?_eq_some_iff.1 hx).2
      have hk := kindAt_at hx
      have hle : freeN c i ≤ i := free_le c i
      simp [hi, hx, hx1]
      by_cases h0 : x.kind = 0
      · have e : freeN c (i + 1) = freeN c i := by simp only [freeN]; rw [hk, if_pos h0]
        simp [h0, e]
        omega
      · have e : freeN c (i + 1) = freeN c i + 1 := by simp only [freeN]; rw [hk, if_neg h0]
        simp [h0, e]
        omega
    · rintro - -
      simp
      refine GCall.fn (aI (rightC c s)) (fun _ => ⟨by first | trivial | assumption, hright⟩) ?_
      simp
      rw [show ∀ x : Int, (x != 0) = !decide (x = 0) from fun x => by by_cases h : x = 0 <;> simp [h]]
      congr 2 <;> rw [decide_eq_decide] <;> omega
end Go.Proofs.YtakndgpdolfenaaGreat
end

/- Contracts of race: Wants, Move, Compare. -/
section
namespace Go.Proofs.YtakndgpdolfenaaGreat
set_option maxHeartbeats 4000000
set_option maxRecDepth 10000

def lineL (c : Control) (s : State) : List Int := (wantsL c s).map fun i : Nat => firstC c + i
def wantsR29 (c : Control) (s : State) : List Int × Int := if rightC c s ≠ 0 then ([], rightC c s) else (lineL c (gatesP c s), 0)
theorem chL_lines (c : Control) (s : State) : (chL c s c.signals.length).map (fun x => x.1) = lineL c s := by
  unfold chL lineL wantsL
  rw [List.map_map]
  rfl
theorem Wants29_fn (c : Control) (s : State) (hc : OkC c) (hs : SmS s) : CallFn Tryz.prog 15 [aC c, aSt s] (.tuple [aIs (wantsR29 c s).1, aI (wantsR29 c s).2]) := by
  have hbeg := begin29_fn c s hc hs
  unfold wantsR29
  unfold gatesR at hbeg
  by_cases hr : rightC c s = 0
  · have hcalm := calm_of hr
    have hsg := hcalm.fine.sig
    have hw := wants_fn c (gatesP c s) hc hcalm.right
    rw [if_neg (by simp [hr])] at hbeg ⊢
    have hl := chL_lines c (gatesP c s)
    have hn := chL_len c (gatesP c s) c.signals.length
    generalize gatesP c s = G at *
    rw [← hl]
    obtain ⟨X, hX⟩ : ∃ X, chL c G c.signals.length = X := ⟨_, rfl⟩
    rw [hX] at hw hn ⊢
    have hrl := rl_map (f := encCh) (n := 3) (fun _ => rfl) X
    refine CallS.agg (az := [aC c]) (bz := []) ?_
    refine callFz_of Tryz.func15 rfl Tryz.ntmps15 (rs := [.tmp 4, .tmp 5]) rfl (by kernel_rfl) (by simp) (by kernel_rfl) ?_
    simp
    intro b4
    refine hbeg.s ?_
    simp
    refine hw.s ?_
    simp
    refine V.forI (σ := Value) X.length [4, 5, 21, 22] (by simp; exact rfl) (fun i g => [(7, .own 50 g), (23, aI i)]) (fun i g => [(50, .seq g 3 1 ((X.take i).map fun x => rI x.1))]) (fun _ _ => True) (.slice none 0 0) trivial (by simp) ⟨by simp; exact rfl, by simp⟩ ?_ ?_
    · rintro i g hi -
      obtain ⟨x, hx⟩ : ∃ x, X[i]? = some x := ⟨_, List.getElem?_eq_getElem hi⟩
      have hx1 := (List.getElem?_eq_some_iff.1 hx).2
      simp [hi, hx, hx1, hrl, encCh, List.take_add_one]
      omega
    · rintro g -
      simp
      rw [show (X.map fun x => rI x.1) = (X.map fun x => x.1).map rI by rw [List.map_map]; rfl]
      have e1 := rowsD_I (X.map fun x => x.1)
      have e2 := allD_I (X.map fun x => x.1)
      rw [e1, e2, List.map_map]
      exact ⟨rfl, rfl⟩
  · rw [if_pos hr] at hbeg ⊢
    generalize rightC c s = e at *
    refine CallS.agg (az := [aC c]) (bz := []) ?_
    refine callFz_of Tryz.func15 rfl Tryz.ntmps15 (rs := [.tmp 4, .tmp 5]) rfl (by kernel_rfl) (by simp) (by kernel_rfl) ?_
    simp
    intro b4
    refine hbeg.s ?_
    simp [hr]
/-- What 'Move' gives. -/
def moveR (c : Control) (s : State) (line : Int) : State × Int :=
  if rightC c s ≠ 0 then (noSt, rightC c s) else
    if line < firstC c ∨ line ≥ firstC c + c.signals.length then (noSt, 6) else
      if wantAt c (gatesP c s) (line - firstC c).toNat = true then (moveS c (gatesP c s) (line - firstC c).toNat, 0) else (noSt, 14)
def NoLine (X : List ChT) (l : Int) (i : Nat) : Prop := ∀ m x, m < i → X[m]? = some x → x.1 ≠ l
theorem Move_fn (c : Control) (s : State) (line : Int) (hc : OkC c) (hs : SmS s) (hl : -9223372036854775808 ≤ line ∧ line < 9223372036854775808) : CallFn Tryz.prog 39 [aC c, aSt s, aI line] (.tuple [aSt (moveR c s line).1, aI (moveR c s line).2]) := by
  have hbeg := begin29_fn c s hc hs
  unfold moveR
  unfold gatesR at hbeg
  by_cases hr : rightC c s = 0
  · have hcalm := calm_of hr
    have hsg := hcalm.fine.sig
    have ha := hcalm.fine.act
    have hin := hcalm.fine.inp
    have hw := wants_fn c (gatesP c s) hc hcalm.right
    have hmd := fun {i : Nat} (hi : i < c.signals.length) => made_fn c (gatesP c s) hc hcalm.right hi
    rw [if_neg (by simp [hr])] at hbeg ⊢
    have hn := chL_len c (gatesP c s) c.signals.length
    generalize gatesP c s = G at *
    obtain ⟨X, hX⟩ : ∃ X, chL c G c.signals.length = X := ⟨_, rfl⟩
    have hmem : ∀ x, x ∈ X ↔ ∃ j, j < c.signals.length ∧ wantAt c G j = true ∧ x = chAt c G j := by
      intro x
      rw [← hX]
      unfold chL
      rw [List.mem_map]
      constructor
      · rintro ⟨j, h1, rfl⟩
        rw [List.mem_filter, List.mem_range] at h1
        exact ⟨j, h1.1, h1.2, rfl⟩
      · rintro ⟨j, h1, h2, rfl⟩
        exact ⟨j, by rw [List.mem_filter, List.mem_range]; exact ⟨h1, h2⟩, rfl⟩
    rw [hX] at hw hn
    have hrl := rl_map (f := encCh) (n := 3) (fun _ => rfl) X
    obtain ⟨F, hF⟩ : ∃ F, firstC c = F := ⟨_, rfl⟩
    have hF2 : 2 * c.actuators + (c.inputs.length : Int) = F := hF
    rw [hF]
    refine CallS.agg (az := [aC c]) (bz := [aI line]) ?_
    refine callFz_of Tryz.func39 rfl Tryz.ntmps39 (rs := [.cell 6 29, .tmp 7]) rfl (by kernel_rfl) (by simp) (by kernel_rfl) ?_
    simp
    intro b4 b6
    refine hbeg.s ?_
    simp [hF2]
    refine ⟨by omega, by omega, fun _ => ⟨by omega, by omega, by omega⟩, ?_⟩
    by_cases hout : line < F ∨ F + c.signals.length ≤ line
    · simp [hout, noSt]
      intro h1 h2
      omega
    · obtain ⟨k, rfl⟩ : ∃ k : Nat, line = F + k := ⟨(line - F).toNat, by omega⟩
      rw [show (F + (k : Int) - F).toNat = k by omega]
      have hk : k < c.signals.length := by omega
      have hmk := hmd hk
      refine ⟨fun h => by omega, fun _ _ => ?_⟩
      rw [show (if F + (k : Int) < F ∨ F + (k : Int) ≥ F + c.signals.length then (noSt, 6) else if wantAt c G k = true then (moveS c G k, 0) else (noSt, 14) : State × Int) = (if wantAt c G k = true then (moveS c G k, 0) else (noSt, 14)) from if_neg (by omega)]
      refine hw.s ?_
      simp
      refine V.forI (σ := Unit) X.length [2, 3, 4, 6, 44, 45] (by simp; exact rfl) (fun i _ => [(7, aI 0), (46, aI i)]) (fun _ _ => []) (fun i _ => NoLine X (F + k) i) () (by intro m x hm; omega) (by simp) ⟨by simp; exact rfl, by simp⟩ ?_ ?_
      · rintro i - hi hI
        obtain ⟨x, hx⟩ : ∃ x, X[i]? = some x := ⟨_, List.getElem?_eq_getElem hi⟩
        have hx1 := (List.getElem?_eq_some_iff.1 hx).2
        obtain ⟨j, j1, j2, j3⟩ := (hmem x).1 (List.mem_of_getElem? hx)
        have hxl : x.1 = F + j := by rw [j3, ← hF]; rfl
        by_cases hjk : j = k
        · subst hjk
          rw [← j3] at hmk
          simp [hi, hx, hx1, hrl, encCh, hxl]
          intro b11
          have e3 : encCh x = [.int .i64 (F + j), .int .i64 x.2.1, .bool x.2.2] := by unfold encCh; rw [hxl]
          rw [e3] at hmk
          refine hmk.s ?_
          simp [j2]
        · have : ¬ x.1 = F + k := by omega
          simp [hi, hx, hx1, hrl, encCh, this]
          refine ⟨by omega, fun m y hm hy => ?_⟩
          rcases Nat.lt_or_ge m i with h1 | h1
          · exact hI m y h1 hy
          · have e : m = i := by omega
            subst e
            rw [hx] at hy
            cases hy
            exact this
      · rintro - hI
        have hno : wantAt c G k = false := by
          cases hwk : wantAt c G k with
          | false => rfl
          | true =>
            obtain ⟨m, hm, e⟩ := List.mem_iff_getElem.1 ((hmem (chAt c G k)).2 ⟨k, hk, hwk, rfl⟩)
            exact absurd (show (chAt c G k).1 = F + k by unfold chAt; rw [hF]) (hI m _ hm (by rw [List.getElem?_eq_getElem hm, e]))
        simp [hno, noSt]
  · rw [if_pos hr] at hbeg ⊢
    generalize rightC c s = e at *
    refine CallS.agg (az := [aC c]) (bz := [aI line]) ?_
    refine callFz_of Tryz.func39 rfl Tryz.ntmps39 (rs := [.cell 6 29, .tmp 7]) rfl (by kernel_rfl) (by simp) (by kernel_rfl) ?_
    simp
    intro b4 b6
    refine hbeg.s ?_
    simp [hr, noSt]
def cmpR29 (a b : State) : Int × Int := if b.values.length ≠ a.values.length ∨ a.timers.length ≠ a.values.length ∨ b.timers.length ≠ a.values.length then (0, 8) else (ordS a b, 0)
theorem ordS_range (a b : State) : ordS a b = -1 ∨ ordS a b = 0 ∨ ordS a b = 1 := by
  unfold ordS
  split
  · rename_i h
    have : ∀ l m : List Bool, cmpB l m = -1 ∨ cmpB l m = 0 ∨ cmpB l m = 1 := by
      intro l
      induction l with
      | nil => intro m; exact .inr (.inl rfl)
      | cons a l ih =>
        intro m
        cases m with
        | nil => exact .inr (.inl rfl)
        | cons b m =>
          unfold cmpB
          split
          · exact ih m
          · split
            · exact .inr (.inr rfl)
            · exact .inl rfl
    exact this _ _
  · exact cmpI_range _ _
theorem Compare_fn (a b : State) (h1 : Sh a.values) (h2 : Sh a.timers) (h3 : Sh b.values) (h4 : Sh b.timers) : CallFn Tryz.prog 35 [aSt a, aSt b] (.tuple [aI (cmpR29 a b).1, aI (cmpR29 a b).2]) := by
  have ho := ordS_range a b
  have hcm := fun h => compare_fn a b h h1 h2 h4
  unfold cmpR29
  generalize ordS a b = o at *
  have hcc := cmp1_fn o 0
  refine callFz_of Tryz.func35 rfl Tryz.ntmps35 (rs := [.tmp 4, .tmp 5]) rfl (by kernel_rfl) (by simp) (by kernel_rfl) ?_
  simp
  by_cases e1 : b.values.length = a.values.length
  · by_cases e2 : a.timers.length = a.values.length
    · by_cases e3 : b.timers.length = a.values.length
      · simp [e1, e2, e3]
        refine (hcm e1).s ?_
        simp
        refine hcc.s ?_
        rw [if_neg (by omega)]
        rcases ho with rfl | rfl | rfl <;> simp [cmp1]
      · rw [if_pos (by omega)]
        simp [e1, e2, e3]
        intro h
        omega
    · rw [if_pos (by omega)]
      simp [e1, e2]
      first | done | (intro h; omega)
  · rw [if_pos (by omega)]
    simp [e1]
    first | done | (intro h; omega)
end Go.Proofs.YtakndgpdolfenaaGreat
end

/- Contracts of the reference of race: Wants, Move, Compare, Same. -/
section
namespace Go.Proofs.YtakndgpdolfenaaGreat
set_option maxHeartbeats 4000000
set_option maxRecDepth 10000

/-- Whether two lists of states are equal. -/
def sameL (a b : List State) : Bool := decide (a = b)
theorem sameSt_eq (a b : State) : sameSt a b = decide (a = b) := by
  unfold sameSt
  rw [Bool.eq_iff_iff]
  simp only [Bool.and_eq_true, decide_eq_true_eq]
  constructor
  · rintro ⟨⟨⟨⟨h1, h2⟩, h3⟩, h4⟩, h5⟩
    cases a
    cases b
    simp only at h1 h2 h3 h4 h5
    rw [h1, h2, h3, h4, h5]
  · rintro rfl
    exact ⟨⟨⟨⟨rfl, rfl⟩, rfl⟩, rfl⟩, rfl⟩
end Go.Proofs.YtakndgpdolfenaaGreat
end

/- Lists of those before: one of a family of slices at hand; how far a search has come. -/
section
namespace Go.Proofs.YtakndgpdolfenaaGreat
set_option maxHeartbeats 1000000
set_option maxRecDepth 10000

theorem Inv.fam0 {x : X} {H : Heap} {t : Nat} (h : Inv x H) : Inv x ((t, .seqs []) :: H) := by
  refine ⟨h.bd, ?_, ?_, List.pairwise_cons.2 ⟨?_, h.apart⟩⟩
  · intro p hp
    rcases List.mem_cons.1 hp with rfl | hp
    · exact ⟨by simp, .nil⟩
    · exact h.sat p hp
  · intro p hp b hb
    rcases List.mem_cons.1 hp with rfl | hp
    · obtain ⟨q, hq, _⟩ := hb
      cases hq
    · exact h.own p hp b hb
  · rintro p hp b ⟨q, hq, _⟩
    cases hq
def nilQ : Sq := (.slice none 0 0, 3, 1, [])
theorem Inv.famN {x : X} {H : Heap} (t : Nat) (h : Inv x H) : ∀ n, Inv x ((t, .seqs (List.replicate n nilQ)) :: H)
  | 0 => Inv.fam0 h
  | n + 1 => by
    have ih := Inv.famN t h n
    have h1 : Inv x ((90, .seq (.slice none 0 0) 3 1 []) :: (t, .seqs (List.replicate n nilQ)) :: H) := Inv.nil ih ⟨rfl, rfl⟩
    have h2 : Inv x ((90, sq nilQ) :: (t, .seqs (List.replicate n nilQ)) :: H) := h1
    exact inv_shut h2
theorem Ds_nils {x : X} : ∀ {n : Nat} {vs : List Value}, Ds x (List.replicate n [A.nils]).flatten vs → Ds x (List.replicate n [A.own 90 (.slice none 0 0)]).flatten vs
  | 0, vs, h => by simpa using h
  | n + 1, [], h => by simp [List.replicate_succ, Ds] at h
  | n + 1, v :: vs, h => by
    rw [List.replicate_succ, List.flatten_cons] at h ⊢
    simp only [List.cons_append, List.nil_append, Ds] at h ⊢
    refine ⟨?_, Ds_nils h.2⟩
    have := h.1
    simp only [D] at this ⊢
    subst this
    exact ⟨rfl, _, _, _, rfl⟩
theorem seq_nils {x : X} {h : Value} {e n : Nat} (hs : Ent.sat x (.seq h e 1 (List.replicate n [A.nils]))) : Ent.sat x (.seq h e 1 (List.replicate n [A.own 90 (.slice none 0 0)])) := by
  obtain ⟨xs, ho, h1, h2⟩ := hs
  refine ⟨xs, by simpa using ho, ?_, Ds_nils h2⟩
  intro q hq
  rw [(List.mem_replicate.1 hq).2]
  rfl
abbrev rNt (n : Nat) : List A := rI (n : Int)
/-- A family of slices of numbers: where each is, and what it holds. -/
def famQ (f : Nat → Value) (B : Nat → List Nat) (k : Nat) : Sq := (f k, 3, 1, (B k).map rNt)
def famL (f : Nat → Value) (B : Nat → List Nat) (N : Nat) : List Sq := (List.range N).map (famQ f B)
def rowsF (f : Nat → Value) (N : Nat) : List (List A) := (List.range N).map fun k => [A.own 90 (f k)]
theorem rowsF_len (f : Nat → Value) (N : Nat) : (rowsF f N).length = N := by simp [rowsF]
theorem rowsF_at {f : Nat → Value} {N k : Nat} (h : k < N) : (rowsF f N)[k]? = some [A.own 90 (f k)] := by
  unfold rowsF
  rw [List.getElem?_map, List.getElem?_range h]
  rfl
def updF {α : Type} (f : Nat → α) (k : Nat) (h : α) : Nat → α := fun j => if j = k then h else f j
theorem map_set_at {α : Type} {N k : Nat} {f : Nat → α} (hk : k < N) (v : α) : ((List.range N).map f).set k v = (List.range N).map (updF f k v) := by
  apply List.ext_getElem
  · simp
  · intro i h1 h2
    rw [List.getElem_set]
    simp only [List.length_map, List.length_range] at h2
    split
    · rename_i e
      subst e
      simp [updF]
    · rename_i e
      have : i ≠ k := fun h => e h.symm
      simp [updF, this]
theorem rowsF_set {f : Nat → Value} {N k : Nat} (hk : k < N) (h : Value) : (rowsF f N).set k [A.own 90 h] = rowsF (updF f k h) N := by
  unfold rowsF
  rw [map_set_at hk]
  apply List.map_congr_left
  intro i _
  unfold updF
  split <;> rfl
theorem fam_open {f : Nat → Value} {B : Nat → List Nat} {N k : Nat} {q : Sq} {l : List Sq} (hk : k < N) (hp : (q :: l).Perm (famL f B N)) :
    ∃ l', (q :: l).Perm (famQ f B k :: l') ∧ ∀ h c, (famQ (updF f k h) (updF B k c) k :: l').Perm (famL (updF f k h) (updF B k c) N) := by
  have hr : (List.range N).Perm (k :: (List.range N).erase k) := List.perm_cons_erase (List.mem_range.2 hk)
  have h1 : (famL f B N).Perm (famQ f B k :: ((List.range N).erase k).map (famQ f B)) := hr.map (famQ f B)
  refine ⟨((List.range N).erase k).map (famQ f B), hp.trans h1, fun h c => ?_⟩
  have h2 : (famL (updF f k h) (updF B k c) N).Perm (famQ (updF f k h) (updF B k c) k :: ((List.range N).erase k).map (famQ (updF f k h) (updF B k c))) := hr.map _
  have e : ((List.range N).erase k).map (famQ (updF f k h) (updF B k c)) = ((List.range N).erase k).map (famQ f B) := by
    apply List.map_congr_left
    intro j hj
    have : j ≠ k := fun e => (List.Nodup.not_mem_erase List.nodup_range) (e ▸ hj)
    simp [famQ, updF, this]
  rw [e] at h2
  exact h2.symm
theorem inv_otherG {x : X} {t u : Nat} {a b : Sq} {l l' : List Sq} {H H0 : Heap} (hp : (a :: l).Perm (b :: l')) (hu : hget u H = some (sq a)) (ht : hget t (hdel u H) = some (.seqs l)) (h : Inv x (H ++ H0)) :
    Inv x (((u, sq b) :: (t, .seqs l') :: hdel t (hdel u H)) ++ H0) := by
  have h1 : H.Perm ((u, sq a) :: (t, .seqs l) :: hdel t (hdel u H)) := (hdel_perm hu).trans ((hdel_perm ht).cons _)
  have h2 := h.perm (h1.symm.append_right H0)
  exact inv_other hp h2
/-! ### Who comes before, found one by one -/
/-- Those before k when the first j of what follows i are seen. -/
def befM (nx : Nat → List Nat) (i j k : Nat) : List Nat := befN nx i k ++ (((nx i).take j).filter fun m => decide (m = k)).map fun _ => i
theorem befM_zero (nx : Nat → List Nat) (i : Nat) : befM nx i 0 = befN nx i := by
  funext k
  simp [befM]
theorem befM_all (nx : Nat → List Nat) (i : Nat) : befM nx i (nx i).length = befN nx (i + 1) := by
  funext k
  unfold befM befN
  rw [List.take_length, List.range_succ, List.flatMap_append, List.flatMap_singleton]
theorem befM_succ {nx : Nat → List Nat} {i j k : Nat} (h : (nx i)[j]? = some k) : befM nx i (j + 1) = updF (befM nx i j) k (befM nx i j k ++ [i]) := by
  funext m
  unfold befM updF
  rw [List.take_add_one, h, List.filter_append, List.map_append]
  by_cases e : m = k
  · subst e
    simp
  · have : ¬ k = m := fun h => e h.symm
    simp [e, this]
theorem befN_len {nx : Nat → List Nat} {K : Nat} (h : ∀ i, (nx i).length ≤ K) (k : Nat) : ∀ i, (befN nx i k).length ≤ i * K
  | 0 => by simp [befN]
  | i + 1 => by
    have ih := befN_len h k i
    rw [← befM_all]
    unfold befM
    rw [List.length_append, List.length_map]
    have h1 := List.length_filter_le (fun m => decide (m = k)) ((nx i).take (nx i).length)
    rw [List.take_length] at h1
    rw [List.take_length]
    have h2 := h i
    rw [Nat.add_mul, Nat.one_mul]
    omega
theorem befM_len {nx : Nat → List Nat} {K : Nat} (h : ∀ i, (nx i).length ≤ K) (i j k : Nat) : (befM nx i j k).length ≤ i * K + K := by
  unfold befM
  rw [List.length_append, List.length_map]
  have h0 := befN_len h k i
  have h1 := List.length_filter_le (fun m => decide (m = k)) ((nx i).take j)
  have h2 := List.length_take_le j (nx i)
  have h3 := h i
  have h4 := List.length_take_le' j (nx i)
  omega
/-- How many follow, of the first i. -/
def leftAt (nx : Nat → List Nat) (N i : Nat) : List Int := (List.range N).map fun k => if k < i then ((nx k).length : Int) else 0
theorem leftAt_zero (nx : Nat → List Nat) (N : Nat) : leftAt nx N 0 = List.replicate N 0 := by
  unfold leftAt
  apply List.ext_getElem <;> simp
theorem leftAt_len (nx : Nat → List Nat) (N i : Nat) : (leftAt nx N i).length = N := by simp [leftAt]
theorem leftAt_set {nx : Nat → List Nat} {N i : Nat} (h : i < N) : (leftAt nx N i).set i ((nx i).length : Int) = leftAt nx N (i + 1) := by
  unfold leftAt
  rw [map_set_at h]
  apply List.map_congr_left
  intro k _
  unfold updF
  by_cases e : k = i
  · subst e
    simp
  · by_cases h1 : k < i
    · simp [e, h1, show k < i + 1 by omega]
    · simp [e, h1, show ¬ k < i + 1 by omega]
theorem leftAt_all (nx : Nat → List Nat) (N : Nat) : leftAt nx N N = (kahAt nx N 0).1 := by
  unfold leftAt kahAt
  apply List.map_congr_left
  intro k hk
  rw [if_pos (List.mem_range.1 hk)]
/-- Which of the first i have nothing that follows. -/
def readyAt (nx : Nat → List Nat) (i : Nat) : List Nat := (List.range i).filter fun k => (nx k).isEmpty
theorem readyAt_succ (nx : Nat → List Nat) (i : Nat) : readyAt nx (i + 1) = if (nx i).isEmpty = true then readyAt nx i ++ [i] else readyAt nx i := by
  unfold readyAt
  rw [List.range_succ, List.filter_append]
  by_cases h : (nx i).isEmpty = true
  · simp [h]
  · simp [h]
theorem readyAt_len (nx : Nat → List Nat) (i : Nat) : (readyAt nx i).length ≤ i := by
  unfold readyAt
  have := List.length_filter_le (fun k => (nx k).isEmpty) (List.range i)
  rw [List.length_range] at this
  exact this
/-- Numbers that are no greater and no less than this. -/
def InB (b : Int) (l : List Int) : Prop := ∀ v ∈ l, -b ≤ v ∧ v ≤ 1000000
theorem kah_len {nx : Nat → List Nat} {N n : Nat} : (kahAt nx N n).1.length = N := (kah_ok nx N n).len
theorem kFold_len : ∀ (ps : List Nat) (p : KahT), (ps.foldl kStep p).1.length = p.1.length ∧ (ps.foldl kStep p).2.length ≤ p.2.length + ps.length
  | [], p => by simp
  | a :: ps, p => by
    have ih := kFold_len ps (kStep p a)
    rw [List.foldl_cons]
    refine ⟨ih.1.trans (by simp [kStep]), Nat.le_trans ih.2 ?_⟩
    unfold kStep
    simp only [List.length_cons]
    split
    · simp
      omega
    · simp
theorem kStep_in {b : Int} {p : KahT} (h : InB b p.1) (hb : 0 ≤ b) (k : Nat) : InB (b + 1) (kStep p k).1 := by
  intro v hv
  rcases List.mem_or_eq_of_mem_set (show v ∈ p.1.set k _ from hv) with h1 | h1
  · have := h v h1
    omega
  · have : -b ≤ p.1.getD k 0 ∧ p.1.getD k 0 ≤ 1000000 := by
      rw [List.getD_eq_getElem?_getD]
      cases e : p.1[k]? with
      | none => exact ⟨by show -b ≤ 0; omega, by decide⟩
      | some w => exact h w (List.mem_of_getElem? e)
    omega
theorem kFold_in {b : Int} (hb : 0 ≤ b) : ∀ (ps : List Nat) {p : KahT}, InB b p.1 → InB (b + ps.length) (ps.foldl kStep p).1
  | [], p, h => by simpa using h
  | a :: ps, p, h => by
    have h1 := kFold_in (b := b + 1) (by omega) ps (kStep_in h hb a)
    rw [List.foldl_cons]
    rw [show b + ((a :: ps).length : Int) = b + 1 + (ps.length : Int) by simp; omega]
    exact h1
theorem kah_in {nx : Nat → List Nat} {N : Nat} (h : ∀ i, (nx i).length ≤ 64) (hN : N ≤ 16384) : ∀ n : Nat, InB ((n : Int) * 1048576) (kahAt nx N n).1
  | 0 => by
    intro v hv
    obtain ⟨k, -, rfl⟩ := List.mem_map.1 (show v ∈ (List.range N).map _ from hv)
    have := h k
    omega
  | n + 1 => by
    have ih := kah_in h hN n
    rw [kahAt]
    have mono : ∀ {a b : Int} {l : List Int}, a ≤ b → InB a l → InB b l := fun hab hl v hv => by have := hl v hv; omega
    split
    · exact mono (by omega) ih
    · rename_i r hr
      have h1 := kFold_in (b := (n : Int) * 1048576) (by omega) (befN nx N r) ih
      have h2 := befN_len h r N
      exact mono (by omega) h1

end Go.Proofs.YtakndgpdolfenaaGreat
end

/- Contracts of race: the way. -/
section
namespace Go.Proofs.YtakndgpdolfenaaGreat
set_option maxHeartbeats 4000000
set_option maxRecDepth 10000

/-- A row when i pairs have changed places. -/
def revAt (xs : List Int) (i : Nat) : List Int := (List.range xs.length).map fun k => if k < i ∨ xs.length ≤ k + i then xs.getD (xs.length - 1 - k) 0 else xs.getD k 0
theorem revAt_len (xs : List Int) (i : Nat) : (revAt xs i).length = xs.length := by simp [revAt]
theorem revAt_at {xs : List Int} {i k : Nat} (hk : k < xs.length) : (revAt xs i)[k]? = some (if k < i ∨ xs.length ≤ k + i then xs.getD (xs.length - 1 - k) 0 else xs.getD k 0) := by
  unfold revAt
  rw [List.getElem?_map, List.getElem?_range hk]
  rfl
theorem revAt_zero (xs : List Int) : revAt xs 0 = xs := by
  apply List.ext_getElem?
  intro k
  rcases Nat.lt_or_ge k xs.length with h | h
  · rw [revAt_at h, if_neg (by omega), List.getD_eq_getElem?_getD, List.getElem?_eq_getElem h]
    rfl
  · rw [List.getElem?_eq_none (by rw [revAt_len]; exact h), List.getElem?_eq_none h]
theorem revAt_all (xs : List Int) : revAt xs (xs.length / 2) = xs.reverse := by
  apply List.ext_getElem?
  intro k
  rcases Nat.lt_or_ge k xs.length with h | h
  · rw [revAt_at h, List.getElem?_reverse h]
    split
    · rw [List.getD_eq_getElem?_getD, List.getElem?_eq_getElem (by omega)]
      rfl
    · rw [show xs.length - 1 - k = k by omega, List.getD_eq_getElem?_getD, List.getElem?_eq_getElem h]
      rfl
  · rw [List.getElem?_eq_none (by rw [revAt_len]; exact h), List.getElem?_eq_none (by simp; exact h)]
theorem revAt_step {xs : List Int} {i : Nat} (h : i < xs.length / 2) : ((revAt xs i).set i (xs.getD (xs.length - 1 - i) 0)).set (xs.length - 1 - i) (xs.getD i 0) = revAt xs (i + 1) := by
  apply List.ext_getElem?
  intro k
  rw [List.getElem?_set, List.length_set, revAt_len, List.getElem?_set, revAt_len]
  rcases Nat.lt_or_ge k xs.length with hk | hk
  · rw [revAt_at hk, revAt_at hk]
    by_cases e1 : xs.length - 1 - i = k
    · rw [if_pos e1, if_pos (by omega), if_pos (by omega), show xs.length - 1 - k = i by omega]
    · rw [if_neg e1]
      by_cases e2 : i = k
      · rw [if_pos e2, if_pos (by omega), if_pos (by omega), e2]
      · rw [if_neg e2]
        by_cases h3 : k < i ∨ xs.length ≤ k + i
        · rw [if_pos h3, if_pos (by omega)]
        · rw [if_neg h3, if_neg (by omega)]
  · rw [if_neg (by omega), if_neg (by omega), List.getElem?_eq_none (by rw [revAt_len]; exact hk), List.getElem?_eq_none (by rw [revAt_len]; exact hk)]
theorem reverse_s (xs : List Int) (hx : xs.length ≤ 1000000) {t e : Nat} {h : Value} : CallS Tryz.prog 70 [.own t h] [(t, .seq h e 1 (xs.map rI))] fun r H' => r = .tuple [] ∧ H' = [(t, .seq h e 1 (xs.reverse.map rI))] := by
  refine callS_of Tryz.func70 rfl Tryz.ntmps70 (rs := []) rfl (by kernel_rfl) (by simp) (by kernel_rfl) ?_
  simp
  refine ⟨⟨by omega, by omega⟩, ?_⟩
  refine V.forI (σ := Unit) (xs.length / 2) [0] (by simp; exact rfl) (fun i _ => [(2, aI i), (3, aI ((xs.length : Int) - 1 - i))]) (fun i _ => [(t, .seq h e 1 ((revAt xs i).map rI))]) (fun _ _ => True) () trivial (by simp) ⟨by simp; exact rfl, by simp [revAt_zero]⟩ ?_ ?_
  · rintro i - hi -
    have hl := revAt_len xs i
    have h1 : i < xs.length := by omega
    have h2 : xs.length - 1 - i < xs.length := by omega
    have a1 := revAt_at (i := i) h1
    have a2 := revAt_at (i := i) h2
    rw [if_neg (by omega)] at a1 a2
    have hst := revAt_step hi
    simp
    rw [show (xs.length : Int) - 1 - (i : Int) = ((xs.length - 1 - i : Nat) : Int) by omega]
    refine ⟨fun hlt => ?_, by omega⟩
    obtain ⟨j, hj⟩ : ∃ j, xs.length - 1 - i = j := ⟨_, rfl⟩
    rw [hj] at a2 h2 hlt hst ⊢
    obtain ⟨x, ex⟩ : ∃ x, xs.getD i 0 = x := ⟨_, rfl⟩
    obtain ⟨y, ey⟩ : ∃ y, xs.getD j 0 = y := ⟨_, rfl⟩
    rw [ex] at a1 hst
    rw [ey] at a2 hst
    have b1 := (List.getElem?_eq_some_iff.1 a1).2
    have b2 := (List.getElem?_eq_some_iff.1 a2).2
    generalize revAt xs (i + 1) = N at *
    generalize revAt xs i = M at *
    refine V.drawX (fun _ => none) (by kernel_rfl) (by kernel_rfl) (by simp) ?_
    simp [hl, h1, h2, a1, a2, b1, b2]
    refine ⟨by kernel_rfl, by omega, by omega, by omega, ?_⟩
    rw [← hst, List.map_set, List.map_set]
    congr 1
    rw [List.getElem_set_ne (by omega), List.getElem_map]
    rfl
  · rintro - -
    simp [revAt_all]
    omega
theorem way1_fn (a to : State) (b l : Int) (x : List Int) (st : Bool) (ha : OkSt a) (hb : OkSt to) :
    CallFn Tryz.prog 68 [.record [.sl (a.ends.map encI), .sl (a.valves.map encB), .sl (a.inputs.map encB), .sl (a.values.map encB), .sl (a.timers.map encI), .int .i64 b, .int .i64 l, .sl (x.map encI), .bool st], .rptr (encSt to)] (aB (sameSt a to)) := by
  have hsm := SameStates_fn a to ha hb
  generalize sameSt a to = r at *
  refine callFz_of Tryz.func68 rfl Tryz.ntmps68 (rs := [.tmp 3]) rfl (by kernel_rfl) (by simp) (by kernel_rfl) ?_
  simp
  refine hsm.s ?_
  simp
/-- What a state that is met looks like in memory. -/
theorem met_okst {c : Control} {s t : State} (hs : Calm c s) (ho : OkSt s) (ht : t ∈ (metL c s).map Nod.st) : OkSt t := by
  obtain ⟨m1, m2, m3, m4⟩ := met_calm hs ht
  obtain ⟨t1, t2, t3⟩ := calm_txt m1
  have hsg := m1.fine.sig
  refine ⟨by rw [m2]; exact ho.ends, by rw [m3]; exact ho.valves, by rw [m4]; exact ho.inputs, by show t.values.length ≤ _; omega, by show t.timers.length ≤ _; omega, by rw [m2]; exact ho.endsI, ?_⟩
  intro n hn
  have := t3 n hn
  show _ ∧ _
  omega
def wayK (c : Control) (s t : State) : Option Nat := (metL c s).findIdx? fun n => sameSt n.st t
theorem idxNod_fn {c : Control} {s t : State} (hs : Calm c s) (ho : OkSt s) (ht : OkSt t) (hm : (metL c s).length ≤ 16384) :
    CallFn Tryz.prog 67 [.dat (.sl (nodL c s)), .fn 68 [] [.rptr (encSt t)]] (aI (idxI (wayK c s t))) := by
  have hNl := nodL_len c s
  have hNr := nodL_rl c s
  have hNa := fun {k : Nat} {n : Nod} (h : (metL c s)[k]? = some n) => nodL_at h
  obtain ⟨N, hN⟩ : ∃ N, nodL c s = N := ⟨_, rfl⟩
  rw [hN] at hNl hNr hNa ⊢
  unfold wayK
  refine callFz_of Tryz.func67 rfl Tryz.ntmps67 (rs := [.tmp 4]) rfl (by kernel_rfl) (by simp) (by kernel_rfl) ?_
  simp
  refine V.forI (σ := Unit) N.length [0, 1, 7] (by simp; exact rfl) (fun i _ => [(8, aI i)]) (fun _ _ => []) (fun i _ => NoF (fun n : Nod => sameSt n.st t) ((metL c s).take i)) () (by simp) (by simp) ⟨by simp; exact rfl, by simp⟩ ?_ ?_
  · rintro i - hi hI
    obtain ⟨n, hn⟩ : ∃ n, (metL c s)[i]? = some n := ⟨_, List.getElem?_eq_getElem (by omega)⟩
    have hrow := hNa hn
    have hrow1 := (List.getElem?_eq_some_iff.1 hrow).2
    have hst := findIdx_step (p := fun n : Nod => sameSt n.st t) hI hn
    have hc := way1_fn n.st t n.bef n.line ((wantsL c n.st).map fun w => (nxN c s n w : Int)) (wantsL c n.st).isEmpty (met_okst hs ho (List.mem_map.2 ⟨n, List.mem_of_getElem? hn, rfl⟩)) ht
    simp at hc
    simp [hi, hrow, hrow1, hNr, packA]
    refine hc.s ?_
    cases e : sameSt n.st t
    · simp
      exact ⟨by omega, hst.1 e⟩
    · rw [hst.2 e]
      simp
  · rintro - hI
    rw [hNl] at hI
    rw [findIdx_none hI]
    simp
theorem wayN_len (l : List Nod) : ∀ f k, (wayN l f k).length ≤ f
  | 0, k => by simp [wayN]
  | f + 1, k => by
    rw [wayN]
    split
    · simp
    · split
      · simp
      · rename_i n _ _
        have := wayN_len l f n.bef.toNat
        rw [List.length_append]
        simp only [List.length_cons, List.length_nil]
        omega
def wayV (M : List Nod) : Option Nat → List Int × Int
  | some k => (wayL M k, 0)
  | none => ([], 6)
/-- What 'Way' gives. -/
def wayR (c : Control) (s t : State) : List Int × Int := if rightC c s ≠ 0 then ([], rightC c s) else if rightC c t ≠ 0 then ([], rightC c t) else wayV (metL c (gatesP c s)) (wayK c (gatesP c s) t)
theorem Way_fn (c : Control) (s t : State) (hc : OkC c) (hs : OkSt s) (hs1 : SmS s) (ht : OkSt t) (ht1 : SmS t) (hm : MetSm c s) : CallFn Tryz.prog 32 [aC c, aSt s, aSt t] (.tuple [aIs (wayR c s t).1, aI (wayR c s t).2]) := by
  have hR1 := Right_fn c s hc hs1
  have hR2 := Right_fn c t hc ht1
  have hre := reached_fn c s hc hs1 hm
  unfold reachA at hre
  unfold wayR
  by_cases hr : rightC c s = 0
  · by_cases hr2 : rightC c t = 0
    · have hcalm := calm_of hr
      have hoG : OkSt (gatesP c s) := by
        obtain ⟨t1, t2, t3⟩ := calm_txt hcalm
        have hsg := hcalm.fine.sig
        exact ⟨hs.ends, hs.valves, hs.inputs, by show (gatesP c s).values.length ≤ _; omega, hs.timers, hs.endsI, hs.timersI⟩
      have hml := hm hr
      rw [if_neg (by simp [hr])] at hre ⊢
      rw [if_neg (by simp [hr2])]
      have hix := idxNod_fn hcalm hoG ht hml
      generalize gatesP c s = G at *
      have hok := met_ok hcalm
      have hNl := nodL_len c G
      have hNr := nodL_rl c G
      have hNa := fun {k : Nat} {n : Nod} (h : (metL c G)[k]? = some n) => nodL_at h
      obtain ⟨N, hN⟩ : ∃ N, nodL c G = N := ⟨_, rfl⟩
      rw [hN] at hNl hNr hNa hre hix
      rw [hr] at hR1
      rw [hr2] at hR2
      refine callFz_of Tryz.func32 rfl Tryz.ntmps32 (rs := [.tmp 6, .tmp 7]) rfl (by kernel_rfl) (by simp) (by kernel_rfl) ?_
      simp
      refine hR1.s ?_
      simp
      refine hR2.s ?_
      simp
      refine hre.s ?_
      simp
      refine hix.s ?_
      cases hk : wayK c G t with
      | none => simp [wayV]
      | some k =>
        rw [show wayV (metL c G) (some k) = (wayL (metL c G) k, 0) from rfl]
        have hkl : k < (metL c G).length := by
          unfold wayK at hk
          exact (List.findIdx?_eq_some_iff_getElem.1 hk).1
        simp
        have hwl : (wayL (metL c G) k).length ≤ k + 1 := wayN_len _ _ _
        obtain ⟨W, hW⟩ : ∃ W, wayL (metL c G) k = W := ⟨_, rfl⟩
        rw [hW] at hwl ⊢
        have hz : k < N.length := by omega
        refine V.forI (σ := Nat × List Int × Value) W.length [6, 7, 10] (by simp; exact rfl) (fun i p => [(12, aI p.1), (13, .own 50 p.2.2)]) (fun i p => [(50, .seq p.2.2 3 1 (p.2.1.map rI))])
          (fun i p => p.1 < (metL c G).length ∧ p.2.1.length = i ∧ wayL (metL c G) p.1 ++ p.2.1.reverse = W) (k, [], .slice none 0 0) ⟨hkl, rfl, by simp [hW]⟩ (by simp) ⟨by simp; exact rfl, by simp⟩ ?_ ?_
        · rintro i ⟨j, R, g⟩ hi ⟨hj, hR, hcat⟩
          simp only at hj hR hcat
          obtain ⟨n, hn⟩ : ∃ n, (metL c G)[j]? = some n := ⟨_, List.getElem?_eq_getElem hj⟩
          have hj0 : j ≠ 0 := by
            rintro rfl
            rw [way_first hok] at hcat
            have := congrArg List.length hcat
            simp at this
            omega
          obtain ⟨m, w, q, m1, m2, m3, m4, m5, m6⟩ := hok.from_ j n hn hj0
          have hws := way_step hok hn m2 hj0
          rw [hws] at hcat
          have hrow := hNa hn
          rw [m2] at hrow
          have hrow1 := (List.getElem?_eq_some_iff.1 hrow).2
          have hjN : j < N.length := by omega
          generalize n.line = li at *
          simp [hjN, hrow, hrow1, hNr]
          intro g2
          refine ⟨by omega, m, R ++ [li], ⟨by omega, by simp [hR], by rw [← hcat]; simp⟩, ?_⟩
          simp
        · rintro ⟨j, R, g⟩ ⟨hj, hR, hcat⟩
          simp only at hj hR hcat
          have hw0 : wayL (metL c G) j = [] := by
            have := congrArg List.length hcat
            rw [List.length_append, List.length_reverse] at this
            exact List.eq_nil_of_length_eq_zero (by omega)
          rw [hw0, List.nil_append] at hcat
          have hj0 : j = 0 := Classical.byContradiction fun hne => by
            obtain ⟨n, hn⟩ : ∃ n, (metL c G)[j]? = some n := ⟨_, List.getElem?_eq_getElem hj⟩
            obtain ⟨m, w, q, m1, m2, m3, m4, m5, m6⟩ := hok.from_ j n hn hne
            rw [way_step hok hn m2 hne] at hw0
            simp at hw0
          subst hj0
          have hrow := hNa hok.head
          have hrow1 := (List.getElem?_eq_some_iff.1 hrow).2
          have hjN : 0 < N.length := by omega
          have hrv := reverse_s R (by omega) (t := 50) (e := 3) (h := g)
          rw [hcat] at hrv
          simp [hjN, hrow, hrow1, hNr]
          refine hrv.mono ?_
          rintro _ _ ⟨rfl, rfl⟩
          simp
    · rw [if_neg (by simp [hr]), if_pos hr2]
      rw [hr] at hR1
      generalize rightC c t = e at *
      refine callFz_of Tryz.func32 rfl Tryz.ntmps32 (rs := [.tmp 6, .tmp 7]) rfl (by kernel_rfl) (by simp) (by kernel_rfl) ?_
      simp
      refine hR1.s ?_
      simp
      refine hR2.s ?_
      simp [hr2]
  · rw [if_pos hr]
    generalize rightC c s = e at *
    refine callFz_of Tryz.func32 rfl Tryz.ntmps32 (rs := [.tmp 6, .tmp 7]) rfl (by kernel_rfl) (by simp) (by kernel_rfl) ?_
    simp
    refine hR1.s ?_
    simp [hr]
end Go.Proofs.YtakndgpdolfenaaGreat
end

/- Contracts of the reference of race: what is reached. -/
section
namespace Go.Proofs.YtakndgpdolfenaaGreat
set_option maxHeartbeats 8000000
set_option maxRecDepth 10000

def waysF (W : Nat → List Int) (m : Nat) : List (List A) := (List.range m).map fun j => [A.dat (.sl ((W j).map encI))]
end Go.Proofs.YtakndgpdolfenaaGreat
end

/- Contracts of the reference of race: all ends. -/
section
namespace Go.Proofs.YtakndgpdolfenaaGreat
set_option maxHeartbeats 8000000
set_option maxRecDepth 10000

/-- The ends among the first i that are met, in order. -/
def sortAt (c : Control) (s : State) (i : Nat) : List State := (endsAt c s i).foldl insS []
end Go.Proofs.YtakndgpdolfenaaGreat
end

/- Contracts of race: whether signals may change without end. -/
section
namespace Go.Proofs.YtakndgpdolfenaaGreat
set_option maxHeartbeats 8000000
set_option maxRecDepth 10000

theorem nodL_nx {c : Control} {s : State} {k : Nat} {n : Nod} (h : (metL c s)[k]? = some n) : (nodL c s)[k]? = some [.sl (n.st.ends.map encI), .sl (n.st.valves.map encB), .sl (n.st.inputs.map encB), .sl (n.st.values.map encB), .sl (n.st.timers.map encI),
    .int .i64 n.bef, .int .i64 n.line, .sl ((nextN c s k).map fun j : Nat => encI j), .bool (nextN c s k).isEmpty] := by
  have e : nextN c s k = (wantsL c n.st).map (nxN c s n) := by
    unfold nextN
    rw [h]
    rfl
  rw [nodL_at h, e]
  simp
theorem next_len (c : Control) (s : State) (hs : Calm c s) (k : Nat) : (nextN c s k).length ≤ 64 := by
  have hsg := hs.fine.sig
  unfold nextN
  split
  · simp
  · rw [List.length_map]
    unfold wantsL
    have := List.length_filter_le (wantAt c (by assumption : Nod).st) (List.range c.signals.length)
    rw [List.length_range] at this
    omega
theorem endless_fn {c : Control} {s : State} (hs : Calm c s) (hm : (metL c s).length ≤ 16384) : CallFn Tryz.prog 61 [.rptr [.sl (nodL c s)]] (aB (turnsP c s)) := by
  have hNl := nodL_len c s
  have hNr := nodL_rl c s
  have hNa := fun {k : Nat} {n : Nod} (h : (metL c s)[k]? = some n) => nodL_nx h
  have hlt := fun {i j : Nat} (h : j ∈ nextN c s i) => next_lt hs h
  have h64 := next_len c s hs
  have h0 : 0 < (metL c s).length := (List.getElem?_eq_some_iff.1 (met_ok hs).head).1
  unfold turnsP
  obtain ⟨X, hX⟩ : ∃ X, nodL c s = X := ⟨_, rfl⟩
  rw [hX] at hNl hNr hNa ⊢
  obtain ⟨nx, hnx⟩ : ∃ nx, nextN c s = nx := ⟨_, rfl⟩
  rw [hnx] at hNa hlt h64 ⊢
  obtain ⟨N, hN⟩ : ∃ N, (metL c s).length = N := ⟨_, rfl⟩
  rw [hN] at hNl hm h0 hlt ⊢
  have hNi : (X.length : Int) = N := by rw [hNl]
  refine callFz_of Tryz.func61 rfl Tryz.ntmps61 (rs := [.tmp 2]) rfl (by kernel_rfl) (by simp) (by kernel_rfl) ?_
  simp [hNl]
  intro u
  refine ⟨by omega, fun v => ⟨by omega, ?_⟩⟩
  refine V.inv (H' := [(90, sq nilQ), (91, .seqs (List.replicate (N - 1) nilQ)), (24, .seq v 24 1 (rowsF (fun _ => .slice none 0 0) N)), (18, .seq u 3 1 ((leftAt nx N 0).map rI))]) ?_ ?_
  · intro x H0 h
    have h1 := Inv.swap (g := 24) (e' := .seq v 24 1 (List.replicate N [A.own 90 (.slice none 0 0)])) rfl seq_nils (fun _ hb => hb) h
    have h2 := Inv.famN 91 h1 N
    rw [show N = (N - 1) + 1 by omega, List.replicate_succ] at h2
    have h3 := inv_open (u := 90) h2
    have e1 : rowsF (fun _ => Value.slice none 0 0) N = List.replicate N [A.own 90 (.slice none 0 0)] := by apply List.ext_getElem <;> simp [rowsF]
    have e2 : (leftAt nx N 0).map rI = List.replicate N [A.dat (.int .i64 0)] := by rw [leftAt_zero, List.map_replicate]
    rw [show N - 1 + 1 = N by omega] at h3
    rw [e1, e2]
    exact h3
  have hk0 := fun (i j : Nat) => show (nx i).getD j 0 < N from by
    rw [List.getD_eq_getElem?_getD]
    cases e : (nx i)[j]? with
    | none => exact h0
    | some k => exact hlt (List.mem_of_getElem? e)
  have hfam0 : (nilQ :: List.replicate (N - 1) nilQ).Perm (famL (fun _ => .slice none 0 0) (befN nx 0) N) := by
    have e : famL (fun _ => .slice none 0 0) (befN nx 0) N = nilQ :: List.replicate (N - 1) nilQ := by
      rw [← List.replicate_succ, show N - 1 + 1 = N by omega]
      apply List.ext_getElem <;> simp [famL, famQ, nilQ, befN]
    rw [e]
  refine V.forG (σ := Value × (Nat → Value) × Sq × List Sq) N [0, 2, 3, 4, 28, 29] (by simp; exact rfl) (fun i p => [(5, .own 50 p.1), (30, aI i)])
    (fun i p => [(90, sq p.2.2.1), (91, .seqs p.2.2.2), (50, .seq p.1 3 1 ((readyAt nx i).map rNt)), (24, .seq v 24 1 (rowsF p.2.1 N)), (18, .seq u 3 1 ((leftAt nx N i).map rI))])
    (fun i p => (p.2.2.1 :: p.2.2.2).Perm (famL p.2.1 (befN nx i) N)) (.slice none 0 0, fun _ => .slice none 0 0, nilQ, List.replicate (N - 1) nilQ) hfam0 (by simp) ⟨by simp; exact rfl, by simp [readyAt]⟩ ?_ ?_
  · rintro i ⟨g, f, q, l⟩ hi hp
    simp only at hp
    obtain ⟨n, hn⟩ : ∃ n, (metL c s)[i]? = some n := ⟨_, List.getElem?_eq_getElem (by omega)⟩
    have hrow := hNa hn
    have hrow1 := (List.getElem?_eq_some_iff.1 hrow).2
    have hiX : i < X.length := by omega
    have hll := leftAt_len nx N i
    have hls := leftAt_set (nx := nx) hi
    have hrs := readyAt_succ nx i
    have hrl := readyAt_len nx i
    have hil : i < (leftAt nx N i).length := by omega
    have hn64 := h64 i
    simp [hi, hrow, hrow1, hNr, hNl, packA, hil]
    intro b7
    rw [show (((leftAt nx N i).map rI).set i [A.dat (.int .i64 (nx i).length)]) = (leftAt nx N (i + 1)).map rI by rw [← hls, List.map_set]]
    rw [← befM_zero] at hp
    obtain ⟨l1, p1, p2⟩ := fam_open (hk0 i 0) hp
    obtain ⟨NB, hNB⟩ : ∃ NB : List A, [A.dat (L.sl (List.map encI n.st.ends)), A.dat (L.sl (List.map encB n.st.valves)), A.dat (L.sl (List.map encB n.st.inputs)), A.dat (L.sl (List.map encB n.st.values)), A.dat (L.sl (List.map encI n.st.timers)), A.dat (L.int IntKind.i64 n.bef), A.dat (L.int IntKind.i64 n.line), A.dat (L.sl (List.map (fun j : Nat => encI j) (nx i))), A.dat (L.bool (nx i).isEmpty)] = NB := ⟨_, rfl⟩
    have hNB8 : NB[8]? = some (A.dat (L.bool (nx i).isEmpty)) := by rw [← hNB]; rfl
    have hNBl : NB.length = 9 := by rw [← hNB]; rfl
    refine V.inv (H' := [(90, sq (famQ f (befM nx i 0) ((nx i).getD 0 0))), (91, .seqs l1), (7, .box b7 NB), (50, .seq g 3 1 ((readyAt nx i).map rNt)), (24, .seq v 24 1 (rowsF f N)), (18, .seq u 3 1 ((leftAt nx N (i + 1)).map rI))]) ?_ ?_
    · intro x H0 hx
      rw [hNB] at hx
      exact inv_otherG p1 rfl rfl hx
    refine V.forG (σ := (Nat → Value) × List Sq) (nx i).length [0, 2, 3, 4, 5, 6, 7, 28, 29, 30, 31, 32, 33, 34, 35, 36, 37, 38, 39, 40, 41, 42, 43] (by simp; exact rfl) (fun j p => [(44, aI j)])
      (fun j p => [(90, .seq (p.1 ((nx i).getD j 0)) 3 1 ((befM nx i j ((nx i).getD j 0)).map rNt)), (91, .seqs p.2), (24, .seq v 24 1 (rowsF p.1 N))])
      (fun j p => (famQ p.1 (befM nx i j) ((nx i).getD j 0) :: p.2).Perm (famL p.1 (befM nx i j) N)) (f, l1) (p1.symm.trans hp) (by simp) ⟨by simp; exact rfl, by simp [famQ, sq]⟩ ?_ ?_
    · rintro j ⟨f, l1⟩ hj hp
      simp only at hp
      obtain ⟨k, hk⟩ : ∃ k, (nx i)[j]? = some k := ⟨_, List.getElem?_eq_getElem hj⟩
      have hk1 := (List.getElem?_eq_some_iff.1 hk).2
      have hkd : (nx i).getD j 0 = k := by rw [List.getD_eq_getElem?_getD, hk]; rfl
      have hkN := hk0 i j
      rw [hkd] at hp hkN ⊢
      have hsuc := befM_succ hk
      have hlen := befM_len h64 i j k
      obtain ⟨l2, p3, p4⟩ := fam_open hkN hp
      have hra := rowsF_at (f := f) hkN
      have hrl2 := rowsF_len f N
      have hrs2 := rowsF_set (f := f) hkN
      obtain ⟨R, hR⟩ : ∃ R, rowsF f N = R := ⟨_, rfl⟩
      have hkR : k < R.length := by rw [← hR, rowsF_len]; exact hkN
      rw [hR] at hra hrl2 hrs2
      have hra1 := (List.getElem?_eq_some_iff.1 hra).2
      have hpl := p3.cons_inv
      simp [hj, hk, hk1, hR, hra, hra1, hkR, hkN]
      intro u1
      refine ⟨by omega, ⟨by omega, by omega⟩, ?_⟩
      have hq : famQ (updF f k u1) (updF (befM nx i j) k (befM nx i j k ++ [i])) k = (u1, 3, 1, (befM nx i j k).map rNt ++ [[A.dat (.int .i64 i)]]) := by simp [famQ, updF]
      have p5 := p4 u1 (befM nx i j k ++ [i])
      rw [hq, ← hsuc] at p5
      have p5' := (List.Perm.cons _ hpl).trans p5
      obtain ⟨l3, p6, p7⟩ := fam_open (hk0 i (j + 1)) p5'
      refine Gh.inv (fun x H0 hx => inv_otherG (t := 91) (u := 90) p6 rfl rfl hx) (Gh.here ?_)
      refine ⟨(updF f k u1, l3), p6.symm.trans p5', by simp, by simp, ?_⟩
      rw [hrs2]
      simp [sq, famQ]
    · rintro ⟨f, l1⟩ hp
      simp only at hp
      rw [befM_all] at hp
      have hba : befM nx i (nx i).length = befN nx (i + 1) := befM_all nx i
      generalize (nx i).getD (nx i).length 0 = kk at *
      cases he : (nx i).isEmpty with
      | true =>
        rw [he] at hNB8
        rw [he, if_pos rfl] at hrs
        have hNB9 := (List.getElem?_eq_some_iff.1 hNB8).2
        simp [hNB8, hNBl, hNB9, hba]
        intro g2
        refine ⟨by omega, ⟨by omega, by omega⟩, Gh.here ⟨(g2, f, famQ f (befN nx (i + 1)) kk, l1), hp, by simp, by simp, ?_⟩⟩
        rw [hrs]
        simp [famQ, sq]
      | false =>
        rw [he] at hNB8
        rw [he, if_neg (by decide)] at hrs
        have hNB9 := (List.getElem?_eq_some_iff.1 hNB8).2
        simp [hNB8, hNBl, hNB9, hba]
        refine ⟨⟨by omega, by omega⟩, Gh.here ⟨(g, f, famQ f (befN nx (i + 1)) kk, l1), hp, by simp, by simp, ?_⟩⟩
        rw [hrs]
        simp [famQ, sq]
  · rintro ⟨g, f, q, l⟩ hp
    simp only at hp
    have hr0 : readyAt nx N = (kahAt nx N 0).2 := rfl
    rw [leftAt_all, hr0]
    simp [hNl]
    have hrN := fun (i : Nat) => show (kahAt nx N i).2.getD i 0 < N from by
      rw [List.getD_eq_getElem?_getD]
      cases e : (kahAt nx N i).2[i]? with
      | none => exact h0
      | some k => exact (kah_ok nx N i).lt k (List.mem_of_getElem? e)
    have hblen := fun k => befN_len h64 k N
    obtain ⟨l1, p1, p2⟩ := fam_open (hrN 0) hp
    refine V.inv (H' := [(90, sq (famQ f (befN nx N) ((kahAt nx N 0).2.getD 0 0))), (91, .seqs l1), (50, .seq g 3 1 ((kahAt nx N 0).2.map rNt)), (24, .seq v 24 1 (rowsF f N)), (18, .seq u 3 1 ((kahAt nx N 0).1.map rI))]) ?_ ?_
    · intro x H0 hx
      exact inv_otherG p1 rfl rfl hx
    refine V.forG (σ := Value × List Sq) (kahN nx N) [0, 2, 3, 4] (by simp; exact rfl) (fun i p => [(5, .own 50 p.1), (10, aI i)])
      (fun i p => [(90, .seq (f ((kahAt nx N i).2.getD i 0)) 3 1 ((befN nx N ((kahAt nx N i).2.getD i 0)).map rNt)), (91, .seqs p.2), (50, .seq p.1 3 1 ((kahAt nx N i).2.map rNt)), (18, .seq u 3 1 ((kahAt nx N i).1.map rI))])
      (fun i p => (famQ f (befN nx N) ((kahAt nx N i).2.getD i 0) :: p.2).Perm (famL f (befN nx N) N)) (g, l1) (p1.symm.trans hp) (by simp) ⟨by simp; exact rfl, by simp [famQ, sq]⟩ ?_ ?_
    · rintro i ⟨g, l1⟩ hi hp
      simp only at hp
      have hmore := kah_more hi
      have hle := kah_le nx N i
      have hin := kah_in h64 hm i
      have hln := kah_len (nx := nx) (N := N) (n := i)
      have hkn : kahN nx N ≤ N := kah_le nx N N
      obtain ⟨r, hr⟩ : ∃ r, (kahAt nx N i).2[i]? = some r := ⟨_, List.getElem?_eq_getElem hmore⟩
      have hr1 := (List.getElem?_eq_some_iff.1 hr).2
      have hrd : (kahAt nx N i).2.getD i 0 = r := by rw [List.getD_eq_getElem?_getD, hr]; rfl
      have hrlt : r < N := by rw [← hrd]; exact hrN i
      have hstep : (befN nx N r).foldl kStep (kahAt nx N i) = kahAt nx N (i + 1) := by rw [kahAt, hr]
      rw [hrd] at hp ⊢
      have hra := rowsF_at (f := f) hrlt
      have hrl2 := rowsF_len f N
      obtain ⟨R, hR⟩ : ∃ R, rowsF f N = R := ⟨_, rfl⟩
      rw [hR] at hra hrl2
      have hra1 := (List.getElem?_eq_some_iff.1 hra).2
      have hrR : r < R.length := by omega
      have hbl := hblen r
      have hbN : ∀ {k : Nat}, k ∈ befN nx N r → k < N := fun h => bef_lt h
      generalize hK : kahAt nx N i = K at *
      obtain ⟨B, hB⟩ : ∃ B, befN nx N r = B := ⟨_, rfl⟩
      rw [hB] at hbl hbN hstep ⊢
      simp [hR, hr, hr1, hmore, hra, hra1, hrR]
      refine V.forI (σ := Value) B.length [0, 2, 3, 4, 10, 66, 67, 68, 69, 72, 73, 74, 75, 76, 77, 78, 79] (by simp; exact rfl) (fun j g => [(5, .own 50 g), (80, aI j)])
        (fun j g => [(50, .seq g 3 1 (((B.take j).foldl kStep K).2.map rNt)), (18, .seq u 3 1 (((B.take j).foldl kStep K).1.map rI))]) (fun _ _ => True) g trivial (by simp) ⟨by simp; exact rfl, by simp⟩ ?_ ?_
      · rintro j g hj -
        obtain ⟨k, hk⟩ : ∃ k, B[j]? = some k := ⟨_, List.getElem?_eq_getElem hj⟩
        have hk1 := (List.getElem?_eq_some_iff.1 hk).2
        have hkN := hbN (List.mem_of_getElem? hk)
        have hsucc : (B.take (j + 1)).foldl kStep K = kStep ((B.take j).foldl kStep K) k := by
          rw [List.take_add_one, hk, List.foldl_append]
          rfl
        have hfl := kFold_len (B.take j) K
        have hfi := kFold_in (by omega) (B.take j) hin
        have htl := List.length_take_le j B
        have htl2 := List.length_take_le' j B
        generalize (B.take j).foldl kStep K = T at *
        have hkT : k < T.1.length := by omega
        have hTk := List.getElem?_eq_getElem hkT
        obtain ⟨w, hw⟩ : ∃ w, T.1[k] = w := ⟨_, rfl⟩
        rw [hw] at hTk
        have hwb := hfi w (List.mem_of_getElem? hTk)
        have hwd : T.1.getD k 0 = w := by rw [List.getD_eq_getElem?_getD, hTk]; rfl
        have hsucc2 : kStep T k = (T.1.set k (w - 1), if w - 1 = 0 then T.2 ++ [k] else T.2) := by unfold kStep; rw [hwd]
        rw [hsucc2] at hsucc
        rw [hsucc]
        simp [hj, hk, hk1, hkT, hTk, hw]
        refine ⟨⟨by omega, by omega⟩, fun h1 => ?_, fun h1 => ?_⟩
        · rw [if_pos h1]
          refine ⟨by omega, ⟨by omega, by omega⟩, ?_⟩
          simp
        · rw [if_neg h1]
          exact ⟨⟨by omega, by omega⟩, rfl⟩
      · rintro g -
        rw [List.take_length, hstep]
        simp
        refine ⟨⟨by omega, by omega⟩, ?_⟩
        obtain ⟨l3, p3, p4⟩ := fam_open (hrN (i + 1)) hp
        subst hB
        refine Gh.inv (fun x H0 hx => inv_otherG (t := 91) (u := 90) p3 rfl rfl hx) (Gh.here ?_)
        refine ⟨(g, l3), p3.symm.trans hp, by simp, by simp, ?_⟩
        simp [sq, famQ, hR]
    · rintro ⟨g, l1⟩ hp
      simp only at hp
      have hal : (kahAt nx N (kahN nx N)).2.length = kahN nx N := by rw [kah_all]; rfl
      simp [hal, hNl]
end Go.Proofs.YtakndgpdolfenaaGreat
end

/- Contracts of race: Endless, Safe. -/
section
namespace Go.Proofs.YtakndgpdolfenaaGreat
set_option maxHeartbeats 4000000
set_option maxRecDepth 10000

def turnsR (c : Control) (s : State) : Bool × Int := if rightC c s ≠ 0 then (false, rightC c s) else (turnsP c (gatesP c s), 0)
def safeR29 (c : Control) (s : State) : Bool × Int := if rightC c s ≠ 0 then (false, rightC c s) else (safeP c (gatesP c s), 0)
theorem Endless_fn (c : Control) (s : State) (hc : OkC c) (hs : SmS s) (hm : MetSm c s) : CallFn Tryz.prog 28 [aC c, aSt s] (.tuple [aB (turnsR c s).1, aI (turnsR c s).2]) := by
  have hre := reached_fn c s hc hs hm
  unfold reachA at hre
  unfold turnsR
  by_cases hr : rightC c s = 0
  · have hen := endless_fn (calm_of hr) (hm hr)
    rw [if_neg (by simp [hr])] at hre ⊢
    generalize nodL c (gatesP c s) = N at *
    generalize turnsP c (gatesP c s) = E at *
    refine callFz_of Tryz.func28 rfl Tryz.ntmps28 (rs := [.tmp 4, .tmp 5]) rfl (by kernel_rfl) (by simp) (by kernel_rfl) ?_
    simp
    refine hre.s ?_
    simp
    refine hen.s ?_
    simp
  · rw [if_pos hr] at hre ⊢
    generalize rightC c s = e at *
    refine callFz_of Tryz.func28 rfl Tryz.ntmps28 (rs := [.tmp 4, .tmp 5]) rfl (by kernel_rfl) (by simp) (by kernel_rfl) ?_
    simp
    refine hre.s ?_
    simp [hr]
theorem Safe_fn (c : Control) (s : State) (hc : OkC c) (hs : SmS s) (hm : MetSm c s) : CallFn Tryz.prog 20 [aC c, aSt s] (.tuple [aB (safeR29 c s).1, aI (safeR29 c s).2]) := by
  have hre := reached_fn c s hc hs hm
  unfold reachA at hre
  unfold safeR29 safeP
  by_cases hr : rightC c s = 0
  · have hen := endless_fn (calm_of hr) (hm hr)
    have hed := ends_fn (calm_of hr) (hm hr)
    rw [if_neg (by simp [hr])] at hre ⊢
    generalize nodL c (gatesP c s) = N at *
    generalize turnsP c (gatesP c s) = T at *
    generalize endsS c (gatesP c s) = E at *
    refine callFz_of Tryz.func20 rfl Tryz.ntmps20 (rs := [.tmp 4, .tmp 5]) rfl (by kernel_rfl) (by simp) (by kernel_rfl) ?_
    simp
    refine hre.s ?_
    simp
    refine hed.s ?_
    simp
    refine GCall.fn (aB T) (fun _ => ⟨by first | trivial | assumption, hen⟩) ?_
    simp
    congr 1
    by_cases h : E.length = 1
    · simp [h]
    · rw [decide_eq_false h, beq_eq_false_iff_ne]
      omega
  · rw [if_pos hr] at hre ⊢
    generalize rightC c s = e at *
    refine callFz_of Tryz.func20 rfl Tryz.ntmps20 (rs := [.tmp 4, .tmp 5]) rfl (by kernel_rfl) (by simp) (by kernel_rfl) ?_
    simp
    refine hre.s ?_
    simp [hr]
end Go.Proofs.YtakndgpdolfenaaGreat
end

/- Contracts of the reference of race: whether states are reached again. -/
section
namespace Go.Proofs.YtakndgpdolfenaaGreat
set_option maxHeartbeats 8000000
set_option maxRecDepth 10000

def nextR (nx : Nat → List Nat) (i : Nat) : List (List L) := (List.range i).map fun k => [.sl ((nx k).map fun j : Nat => encI j)]
/-- A sweep that has come to k. -/
def sweepAt (nx : Nat → List Nat) (g : List Bool) (k : Nat) : List Bool := (List.range k).foldl (goneStep nx) g
end Go.Proofs.YtakndgpdolfenaaGreat
end

/- Contracts of the reference of race: Ends, Critical, Safe. -/
section
namespace Go.Proofs.YtakndgpdolfenaaGreat
set_option maxHeartbeats 4000000
set_option maxRecDepth 10000

end Go.Proofs.YtakndgpdolfenaaGreat
end

/- Plain: the examples of the law of race. -/
section
namespace Go.Proofs.YtakndgpdolfenaaGreat
set_option maxHeartbeats 4000000
set_option maxRecDepth 10000

def notY (n : Int) : Expr := ⟨2, 0, [onX n]⟩
def andY (a b : Expr) : Expr := ⟨3, 0, [a, b]⟩
def sigM (x y : Expr) : Signal := ⟨[109], 1, x, y, 0, false⟩
def sigN (x : Expr) : Signal := ⟨[110], 1, x, noX, 0, false⟩
def pairOf (a b : Signal) : Control := ⟨1, [[115, 116, 97, 114, 116]], [a, b], [3], [4]⟩
def pairC (m n : Expr) : Control := pairOf (sigM (andY (onX 2) m) noX) (sigN (andY (onX 2) n))
def pairS : State := ⟨[0], [false], [true], [false, false], [0, 0]⟩
def pairE (a b : Bool) : State := ⟨[0], [false], [true], [a, b], [0, 0]⟩
abbrev pair1 : Control := pairC (notY 4) (notY 3)
abbrev pair2 : Control := pairC (onX 2) (onX 3)
abbrev pair3 : Control := pairOf (sigM (notY 3) (onX 3)) (sigN (andY (onX 2) (onX 3)))
theorem p1_met : (metL pair1 (gatesP pair1 pairS)).length ≤ 16384 := by decide +kernel
theorem p2_met : (metL pair2 (gatesP pair2 pairS)).length ≤ 16384 := by decide +kernel
theorem p3_met : (metL pair3 (gatesP pair3 pairS)).length ≤ 16384 := by decide +kernel
theorem p1_ends : endsR pair1 pairS = ([pairE false true, pairE true false], 0) := by decide +kernel
theorem p1_wants : wantsR29 pair1 pairS = ([3, 4], 0) := by decide +kernel
theorem p2_safe : safeR29 pair2 pairS = (true, 0) := by decide +kernel
theorem p2_ends : endsR pair2 pairS = ([pairE true true], 0) := by decide +kernel
theorem p2_way : wayR pair2 pairS (pairE true true) = ([3, 4], 0) := by decide +kernel
theorem p3_turns : turnsR pair3 pairS = (true, 0) := by decide +kernel
theorem p3_ends : endsR pair3 pairS = ([], 0) := by decide +kernel
theorem p1_first : firstSt pair1 = ⟨[0], [false], [false], [false, false], [0, 0]⟩ := by decide +kernel
theorem p2_first : firstSt pair2 = ⟨[0], [false], [false], [false, false], [0, 0]⟩ := by decide +kernel
end Go.Proofs.YtakndgpdolfenaaGreat
end

/- Contracts: the law of race is awake. -/
section
namespace Go.Proofs.YtakndgpdolfenaaGreat
set_option maxHeartbeats 4000000
set_option maxRecDepth 10000

theorem beginR_o (c : Control) (hc : OkC c) (hf : Fine c) : CallSt 88 [aC c] (firstSt c) := by
  have hcs := hf.sig
  have hsm := hf.sm
  have ha := hf.act
  have hin := hf.inp
  refine CallSt.of (callS_of Tryz.func88 rfl Tryz.ntmps88 (rs := [.cell 2 29]) rfl (by kernel_rfl) (by simp) (by kernel_rfl) ?_)
  simp
  intro b2
  refine V.draw (fun _ => none) (by kernel_rfl) (by kernel_rfl) (by simp) ?_
  simp
  intro u0
  refine ⟨by omega, fun u1 => ⟨by omega, fun u2 => ⟨by omega, fun u3 => ⟨by omega, fun u4 => ⟨by omega, ?_⟩⟩⟩⟩⟩
  intro b3
  refine V.forI (σ := Unit) c.signals.length [1, 2, 3] (by simp; exact rfl) (fun i _ => [(4, aI i)]) (fun i _ => [(18, .seq u3 4 1 ((initV c i).map rB))]) (fun _ _ => True) () trivial (by simp) ⟨by simp; exact rfl, by simp [hget, hdel, initV, rB]⟩ ?_ ?_
  · rintro i - hi -
    obtain ⟨x, hx⟩ : ∃ x, c.signals[i] = x := ⟨_, rfl⟩
    have hxo : c.signals[i]? = some x := by rw [List.getElem?_eq_getElem hi, hx]
    rw [← initV_set hxo]
    have hl := initV_length c i (by omega)
    generalize initV c i = l at hl ⊢
    have hil : i < l.length := by omega
    have hgi : l[i]? = some l[i] := List.getElem?_eq_getElem hil
    simp [hi, hx]
    refine V.draw (fun _ => none) (by kernel_rfl) (by kernel_rfl) (by simp) ?_
    simp [hi, hx, hil, hgi, rB]
    omega
  · rintro - -
    simp
    refine (computedR_o c (newSt c c.signals.length) hc hf (newSt_sm hf) (newSt_shape hf)).lend 60 ?_ ?_
    · simp [hget, packA, encSt, newSt]
    · intro hd
      simp [stA, stH, stAt, hget, hdel, firstSt]
theorem line29_fn (n : Int) : CallFn Tryz.prog 64 [aI n] (aE (onX n)) := by
  refine callFz_of Tryz.func64 rfl Tryz.ntmps64 (rs := [.cell 2 47]) rfl (by kernel_rfl) (by simp) (by kernel_rfl) ?_
  simp
  exact ⟨rfl, rfl, rfl⟩
theorem not29_fn (n : Int) : CallFn Tryz.prog 63 [aI n] (aE (notY n)) := by
  have h := line29_fn n
  refine callFz_of Tryz.func63 rfl Tryz.ntmps63 (rs := [.cell 2 47]) rfl (by kernel_rfl) (by simp) (by kernel_rfl) ?_
  simp
  intro b2
  refine h.s ?_
  simp [packA, notY, encE_eq]
def pair0 : State := ⟨[0], [false], [false], [false, false], [0, 0]⟩
theorem pair_fn (m n : Expr) (hc : OkC (pairC m n)) (hk : checkC (pairC m n) = 0) (h0 : firstSt (pairC m n) = pair0) : CallFn Tryz.prog 62 [aE m, aE n] (.tuple [aC (pairC m n), aSt pairS]) := by
  have hb := beginR_o _ hc (fine_of hk)
  rw [h0] at hb
  refine callFz_of Tryz.func62 rfl Tryz.ntmps62 (rs := [.cell 4 26, .cell 5 29]) rfl (by kernel_rfl) (by simp) (by kernel_rfl) ?_
  simp
  intro b4 b5 b6 b7 b8
  obtain ⟨R, hR⟩ : ∃ R, encC (pairC m n) = R := ⟨_, rfl⟩
  have hb2 : CallSt 88 [A.record (encC (pairC m n))] pair0 := hb
  rw [hR] at hb2
  simp [pairC, pairOf, sigM, sigN, andY, onX, noX, encC, encS, encT, encE_eq] at hR
  subst hR
  refine hb2.s 60 fun hd => ?_
  simp [stA, stH, pair0, packA]
  intro b9
  refine V.drawX (fun _ => none) (by kernel_rfl) (by kernel_rfl) (by simp) ?_
  simp [packA, pairC, pairOf, sigM, sigN, andY, onX, noX, pairS, encC, encS, encT, encE_eq, hget, hdel]
def pairA (t : Nat) (h : Value) : A := .tuple [.agg [aI 1, aTs [[115, 116, 97, 114, 116]], .own t h, aIs [3], aIs [4]], aSt pairS]
def pairR (m n : Expr) : List (List A) := (pairC m n).signals.map fun s => (encS s).map A.dat
abbrev pairH (m n : Expr) (t : Nat) (h : Value) : Nat × Ent := (t, .seq h 49 10 (pairR m n))
theorem pairR_d (m n : Expr) : rowsD (pairR m n) = (pairC m n).signals.map encS ∧ allD (pairR m n) = true := by
  constructor
  · simp [pairR, rowsD, pairC, pairOf]
  · simp [pairR, allD, pairC, pairOf, isD, encS]
theorem pair_k (m n : Expr) (hc : OkC (pairC m n)) (hk : checkC (pairC m n) = 0) (h0 : firstSt (pairC m n) = pair0) : CallS Tryz.prog 62 [aE m, aE n] [] fun r H' => ∃ h e1 e2 Hr, tightV h ∧ r = pairA 25 h ∧ H' = e1 :: e2 :: pairH m n 25 h :: Hr := by
  have hb := beginR_o _ hc (fine_of hk)
  rw [h0] at hb
  obtain ⟨R, hR⟩ : ∃ R, encC (pairC m n) = R := ⟨_, rfl⟩
  have hb2 : CallSt 88 [A.record (encC (pairC m n))] pair0 := hb
  rw [hR] at hb2
  simp [pairC, pairOf, sigM, sigN, andY, onX, noX, encC, encS, encT, encE_eq] at hR
  subst hR
  have key : CallS Tryz.prog 62 [aE m, aE n] [] fun r H' => ∃ h hd, tightV h ∧ r = .tuple [.agg [aI 1, aTs [[115, 116, 97, 114, 116]], .own 25 h, aIs [3], aIs [4]], stA 60 hd] ∧ ∃ e1 e2 Hr, H' = e1 :: (stH 60 hd pairS ++ e2 :: pairH m n 25 h :: Hr) := by
    refine callT_of [25] Tryz.func62 rfl Tryz.ntmps62 (rs := [.cell 4 26, .cell 5 29]) rfl (by kernel_rfl) (by simp) (by kernel_rfl) ?_
    simp
    intro b4 b5 b6 b7 u htu b8
    refine hb2.lend 60 (by simp [hget, packA]) fun hd => ?_
    simp [stA, stH, pair0, packA]
    intro b9
    refine V.drawX (fun _ => none) (by kernel_rfl) (by kernel_rfl) (by simp) ?_
    simp [packA, pairC, pairOf, sigM, sigN, andY, onX, noX, pairS, encS, encE_eq, hget, hdel]
    refine ⟨u, htu, hd, ⟨rfl, rfl⟩, ?_⟩
    simp [stH, pairR, pairC, pairOf, sigM, sigN, andY, onX, noX, encS, encE_eq]
  refine key.frzKeep ?_
  rintro _ _ ⟨h, hd, ht, rfl, e1, e2, Hr, rfl⟩
  refine ⟨stH 60 hd pairS, e1 :: e2 :: pairH m n 25 h :: Hr, List.perm_middle, ?_, h, e1, e2, Hr, ht, ?_, rfl⟩
  · simp [stA, stH, pairS, hget]
  · simp [stA, stH, pairS, hget, packA, pairA, encSt]
theorem pair_s {H : Heap} {K : A → Heap → Prop} (m n : Expr) (hc : OkC (pairC m n)) (hck : checkC (pairC m n) = 0) (h0 : firstSt (pairC m n) = pair0) (t : Nat) (hk : ∀ h, tightV h → K (pairA t h) (pairH m n t h :: H)) : CallS Tryz.prog 62 [aE m, aE n] H K := by
  have hp := pair_k m n hc hck h0
  refine ⟨hp.1, fun x args H0 hi hd => ((CallS.frame (H1 := H) hp).2 x args H0 hi hd).mono ?_⟩
  rintro _ _ ⟨y, v, r, H', rfl, rfl, hle, hi', hv, H2, ⟨h, e1, e2, Hr, ht, rfl, rfl⟩, rfl⟩
  refine ⟨y, v, pairA t h, pairH m n t h :: H, rfl, rfl, hle, ?_, ?_, hk h ht⟩
  · have h2 : Inv y ((pairH m n 25 h :: H) ++ H0) := hi'.sub (show List.Sublist (pairH m n 25 h :: (H ++ H0)) (e1 :: e2 :: pairH m n 25 h :: ((Hr ++ H) ++ H0)) from .cons _ (.cons _ (.cons_cons _ (by rw [List.append_assoc]; exact List.sublist_append_right _ _))))
    exact h2.ents (by simp)
  · simp only [pairA, D] at hv ⊢
    obtain ⟨vs, e, hds⟩ := hv
    refine ⟨vs, e, ?_⟩
    generalize vs.toList = l at hds
    obtain ⟨a1, a2, rfl, d1, d2⟩ := Ds.two hds
    refine ⟨?_, d2, trivial⟩
    simp only [D] at d1 ⊢
    obtain ⟨us, e2, hd2⟩ := d1
    refine ⟨us, e2, ?_⟩
    generalize us.toList = l2 at hd2
    rcases l2 with _ | ⟨a1, _ | ⟨a2, _ | ⟨a3, _ | ⟨a4, _ | ⟨a5, l2⟩⟩⟩⟩⟩ <;> simp only [Ds, D] at hd2 ⊢ <;> try exact hd2
theorem notY_ok (n : Int) (h : I64 n) : OkE (notY n) := OkE.mk _ (by simp [notY]) ((inR_i64 _).2 (by simp [notY])) ((inR_i64 _).2 (by simp [notY])) (by
  intro x hx
  simp only [notY, List.mem_cons, List.not_mem_nil, or_false] at hx
  rw [hx]
  exact onX_ok n h)
theorem andY_ok {a b : Expr} (ha : OkE a) (hb : OkE b) : OkE (andY a b) := OkE.mk _ (by simp [andY]) ((inR_i64 _).2 (by simp [andY])) ((inR_i64 _).2 (by simp [andY])) (by
  intro x hx
  simp only [andY, List.mem_cons, List.not_mem_nil, or_false] at hx
  rcases hx with rfl | rfl
  · exact ha
  · exact hb)
theorem pairOf_ok {x y z : Expr} (hx : OkE x) (hy : OkE y) (hz : OkE z) : OkC (pairOf (sigM x y) (sigN z)) := by
  refine ⟨by show I64 1; decide, by show ([[115, 116, 97, 114, 116]] : List (List UInt8)).length ≤ _; decide, ?_, by show (2 : Nat) ≤ _; decide, ?_, by show (1 : Nat) ≤ _; decide, by show (1 : Nat) ≤ _; decide, by show ∀ n ∈ [3], I64 n; decide, by show ∀ n ∈ [4], I64 n; decide⟩
  · intro s hs
    simp only [pairOf, List.mem_cons, List.not_mem_nil, or_false] at hs
    rw [hs]
    show ([115, 116, 97, 114, 116] : List UInt8).length ≤ _
    decide
  intro s hs
  simp only [pairOf, List.mem_cons, List.not_mem_nil, or_false] at hs
  rcases hs with rfl | rfl
  · exact ⟨by show ([109] : List UInt8).length ≤ _; decide, by show I64 1; decide, hx, hy, by show I64 0; decide⟩
  · exact ⟨by show ([110] : List UInt8).length ≤ _; decide, by show I64 1; decide, hz, noX_ok, by show I64 0; decide⟩
theorem pair1_ok : OkC pair1 := pairOf_ok (andY_ok (onX_ok 2 (by decide)) (notY_ok 4 (by decide))) noX_ok (andY_ok (onX_ok 2 (by decide)) (notY_ok 3 (by decide)))
theorem pair2_ok : OkC pair2 := pairOf_ok (andY_ok (onX_ok 2 (by decide)) (onX_ok 2 (by decide))) noX_ok (andY_ok (onX_ok 2 (by decide)) (onX_ok 3 (by decide)))
theorem pair3_ok : OkC pair3 := pairOf_ok (notY_ok 3 (by decide)) (onX_ok 3 (by decide)) (andY_ok (onX_ok 2 (by decide)) (onX_ok 3 (by decide)))
theorem pair1_check : checkC pair1 = 0 := by decide +kernel
theorem pair2_check : checkC pair2 = 0 := by decide +kernel
theorem pairS_ok : OkSt pairS := ⟨by decide, by decide, by decide, by decide, by decide, by decide, by decide⟩
theorem pairE_ok : OkSt (pairE true true) := ⟨by decide, by decide, by decide, by decide, by decide, by decide, by decide⟩
theorem pairS_sm : SmS pairS := by constructor <;> decide
theorem pairE_sm : SmS (pairE true true) := by constructor <;> decide
/-- Two numbers that stand nowhere side by side in a block of one's own, which has no room, do not lie there. -/
theorem indep_two {m : Nat} {h : Value} {e : TypeId} {sz : Nat} {rows : List (List A)} {k l : Int} (ht : tightV h) (hno : ∀ (x : X) (i : Nat) (u v : A), rows.flatten[i]? = some u → rows.flatten[i + 1]? = some v → D x u (.int .i64 k) → D x v (.int .i64 l) → False) : Indep [(m, .seq h e sz rows)] (aIs [k, l]) := by
  intro x y z v hs hy hz hok hv
  have hs := hs _ (List.mem_singleton.2 rfl)
  have hy := hy _ (List.mem_singleton.2 rfl)
  simp only [List.mem_singleton, forall_eq] at hok
  obtain ⟨xs, ⟨h1, h2⟩, h3, h4⟩ := hs
  simp only [D, RdL, List.map_cons, List.map_nil] at hv ⊢
  rcases hv with ⟨_, hv⟩ | ⟨b, off, cap, rfl, hc, hr⟩ | ⟨a, _, hv⟩
  · simp at hv
  · refine .inr (.inl ⟨b, off, cap, rfl, hc, ?_⟩)
    simp only [RdRows, RdCells, encI, and_true, RdL, List.length_cons, List.length_nil] at hr ⊢
    obtain ⟨⟨hb, u, hu, rfl⟩, _, w, hw, rfl⟩ := hr
    have hn : ¬ (Ent.seq h e sz rows).own b := by
      intro ho
      rcases h2 with ⟨rfl, _⟩ | ⟨g, cap', cur, rfl, _, hg, _, _, hsz, hx⟩
      · simp [Ent.own, Value.ownBlock] at ho
      · obtain ⟨a', n', hten⟩ := ht
        simp only [Value.slice.injEq] at hten
        obtain ⟨_, e1, e2⟩ := hten
        simp only [Ent.own, Value.ownBlock, Option.some.injEq] at ho
        subst ho
        have hcell : ∀ (i : Nat) (q : Value), y.w.cell? ⟨g, i, none⟩ = some q → xs[i]? = some q := by
          intro i q hq
          have hyg := hy g (by simp [Ent.own, Value.ownBlock])
          rw [hg] at hyg
          simp only [World.cell?, hyg] at hq
          rw [← hx, List.take_of_length_le (by simp [hsz, e1, e2])]
          simpa using hq
        have c1 := hcell _ _ hu
        have c2 := hcell _ _ hw
        have get : ∀ (i : Nat) (q : Value), xs[i]? = some q → ∃ a, rows.flatten[i]? = some a ∧ D x a q := by
          intro i q hq
          have hl := h4.length
          obtain ⟨hi, _⟩ := List.getElem?_eq_some_iff.1 hq
          obtain ⟨q', hq', hd⟩ := h4.at (List.getElem?_eq_getElem (show i < rows.flatten.length by omega))
          rw [hq] at hq'
          cases hq'
          exact ⟨_, List.getElem?_eq_getElem _, hd⟩
        obtain ⟨a1, ha1, d1⟩ := get _ _ c1
        obtain ⟨a2, ha2, d2⟩ := get _ _ c2
        exact hno x off a1 a2 ha1 ha2 d1 d2
    refine ⟨⟨hok b hb hn, _, by rw [hz]; exact hu, rfl⟩, hok b hb hn, _, by rw [hz]; exact hw, rfl⟩
  · simp at hv
theorem rdl_int {x : X} {l : L} {n : Int} (h : RdL x l (.int .i64 n)) : l = .int .i64 n := by
  cases l with
  | int k m =>
    simp only [RdL, Value.int.injEq] at h
    rw [h.1, h.2]
  | bool b => simp [RdL] at h
  | str s => simp [RdL] at h
  | sl xs => simp [RdL] at h
def npL (k l : Int) : List L → Prop
  | a :: b :: r => ¬ (a = .int .i64 k ∧ b = .int .i64 l) ∧ npL k l (b :: r)
  | _ => True
theorem npL_at {k l : Int} : ∀ {ls : List L}, npL k l ls → ∀ i, ls[i]? = some (.int .i64 k) → ls[i + 1]? = some (.int .i64 l) → False
  | [], _, i, h, _ => by simp at h
  | [a], _, i, _, h => by simp at h
  | a :: b :: r, h, 0, h1, h2 => by
    simp only [npL] at h
    simp at h1 h2
    exact h.1 ⟨h1, h2⟩
  | a :: b :: r, h, i + 1, h1, h2 => by
    simp only [npL] at h
    exact npL_at h.2 i (by simpa using h1) (by simpa using h2)
theorem pair2_indep {m : Nat} {h : Value} {e : TypeId} (ht : tightV h) : Indep [(m, .seq h e 10 (pairR (onX 2) (onX 3)))] (aIs [3, 4]) := by
  refine indep_two ht ?_
  intro x i u v hu hv d1 d2
  have hf : (pairR (onX 2) (onX 3)).flatten = ((pairC (onX 2) (onX 3)).signals.flatMap encS).map A.dat := by
    unfold pairR
    rw [← List.flatMap_def, List.map_flatMap]
  rw [hf, List.getElem?_map] at hu hv
  obtain ⟨u1, hu1, rfl⟩ := Option.map_eq_some_iff.1 hu
  obtain ⟨v1, hv1, rfl⟩ := Option.map_eq_some_iff.1 hv
  simp only [D] at d1 d2
  rw [rdl_int d1] at hu1
  rw [rdl_int d2] at hv1
  refine npL_at ?_ i hu1 hv1
  simp [pairC, pairOf, sigM, sigN, andY, onX, noX, npL]
theorem awake29_fn : CallFn Tryz.prog 23 [] (aB true) := by
  have n4 := not29_fn 4
  have n3 := not29_fn 3
  have l2 := line29_fn 2
  have l3 := line29_fn 3
  have q1 := pair_fn (notY 4) (notY 3) pair1_ok pair1_check p1_first
  have a1 := Ends_fn pair1 pairS pair1_ok pairS_sm (fun _ => p1_met)
  have a2 := Wants29_fn pair1 pairS pair1_ok pairS_sm
  have a3 := Critical_fn pair1 pairS pair1_ok pairS_sm (fun _ => p1_met)
  rw [p1_ends] at a1 a3
  rw [p1_wants] at a2
  have e1 := eqB_fn [false, true] [false, true] (by decide) (by decide)
  have e2 := eqB_fn [true, false] [true, false] (by decide) (by decide)
  have e3 := eqI_fn [3, 4] [3, 4] (by decide) (by decide)
  have e4 := eqB_fn [true, true] [true, true] (by decide) (by decide)
  refine callFz_cut 5 Tryz.func23 rfl Tryz.ntmps23 (rs := [.tmp 0]) rfl (by kernel_rfl) (by simp) (by kernel_rfl) ?_
  simp
  refine n4.s ?_
  simp
  refine n3.s ?_
  simp
  refine q1.s ?_
  simp
  intro b1 b2
  refine a1.s ?_
  simp
  refine a2.s ?_
  simp
  refine a3.s ?_
  simp
  refine V.cutN (Hs := [(2, .box b2 ((encSt pairS).map A.dat)), (1, .box b1 ((encC pair1).map A.dat))]) 2 [(0, aB false), (1, .ptr 1 b1 0), (2, .ptr 2 b2 0), (3, .dat (.sl [encSt (pairE false true), encSt (pairE true false)])), (4, aI 0), (5, aIs [3, 4]), (6, aI 0), (7, aB true), (8, aI 0)] (by simp) (by simp [encSt, encC]) ?_
  simp only [vcN]
  simp
  refine GCall.fn (aB true) (fun _ => ⟨trivial, e1⟩) ?_
  simp
  refine GCall.fn (aB true) (fun _ => ⟨trivial, e2⟩) ?_
  simp
  refine GCall.fn (aB true) (fun _ => ⟨trivial, e3⟩) ?_
  simp
  refine l2.s ?_
  simp
  refine l3.s ?_
  simp
  refine pair_s (onX 2) (onX 3) pair2_ok pair2_check p2_first 200 fun h hth => ?_
  simp [pairA]
  obtain ⟨R, hR⟩ : ∃ R, pairR (onX 2) (onX 3) = R := ⟨_, rfl⟩
  have hRd := pairR_d (onX 2) (onX 3)
  rw [hR] at hRd ⊢
  have a4 := Safe_fn pair2 pairS pair2_ok pairS_sm (fun _ => p2_met)
  have a5 := Ends_fn pair2 pairS pair2_ok pairS_sm (fun _ => p2_met)
  have a6 := Way_fn pair2 pairS (pairE true true) pair2_ok pairS_ok pairS_sm pairE_ok pairE_sm (fun _ => p2_met)
  have a7 := Endless_fn pair3 pairS pair3_ok pairS_sm (fun _ => p3_met)
  have a8 := Ends_fn pair3 pairS pair3_ok pairS_sm (fun _ => p3_met)
  rw [p2_safe] at a4
  rw [p2_ends] at a5
  rw [p2_way] at a6
  rw [p3_turns] at a7
  rw [p3_ends] at a8
  refine V.cutN (Hs := [(200, .seq h 49 10 R), (2, .box b2 ((encSt pairS).map A.dat)), (1, .box b1 [aI 1, aTs [[115, 116, 97, 114, 116]], .own 200 h, aIs [3], aIs [4]])]) 0 [(0, aB false), (1, .ptr 1 b1 0), (2, .ptr 2 b2 0)] (by simp) (by simp [encSt, pairS]) ?_
  simp only [vcN]
  refine V.lease (Hl := [(200, .seq h 49 10 R)]) (Hb := [(2, .box b2 ((encSt pairS).map A.dat)), (1, .box b1 [aI 1, aTs [[115, 116, 97, 114, 116]], .own 200 h, aIs [3], aIs [4]])]) 4 [10] rfl ?_ fun g => ?_
  · intro p hp
    simp only [List.mem_cons, List.not_mem_nil, or_false] at hp
    rcases hp with rfl | rfl
    · refine ⟨b2, _, rfl, ?_⟩
      simp [encSt, lcOK]
    · refine ⟨b1, _, rfl, ?_⟩
      simp [lcOK, hget, hRd, flatV, flatL]
  simp only [vcK]
  simp [lbE, lcs, lcA, hget, hRd, encSt, packA]
  refine a4.s ?_
  simp
  refine a5.s ?_
  simp
  refine GCall.fn (aB true) (fun _ => ⟨trivial, e4⟩) ?_
  simp
  refine V.drawX (fun t => if t = 122 then some (.fn (.tuple [aIs [3, 4], aI 0])) else none) (by kernel_rfl) (by kernel_rfl) (by simp) ?_
  simp [packA]
  refine ⟨a6, by simp [lbE, lcs, lcA, hget, hRd], ?_, ?_⟩
  · rw [← hR]
    exact pair2_indep hth
  refine V.cutN (Hs := [(200, .seq h 49 10 R), (2, .box b2 ((encSt pairS).map A.dat)), (1, .box b1 [aI 1, aTs [[115, 116, 97, 114, 116]], .own 200 h, aIs [3], aIs [4]])]) 2 [(0, aB false), (1, .ptr 1 b1 0), (2, .ptr 2 b2 0), (4, aI 0), (10, aIs [3, 4])] (by simp [keepE, flatP, flatV, flatL]) (by simp [encSt, pairS]) ?_
  simp only [vcN]
  rw [show R = pairR (onX 2) (onX 3) from hR.symm]
  simp [pairR, pairC, pairOf, sigM, sigN, andY, onX, noX, encS, encE_eq]
  refine V.drawX (fun t => if t = 129 then some (.fn (aE (notY 3))) else if t = 130 then some (.fn (aE (onX 3))) else none) (by kernel_rfl) (by kernel_rfl) (by simp) ?_
  simp [packA, notY, onX, encE_eq]
  refine ⟨n3, l3, by kernel_rfl, ?_⟩
  refine a7.lend (by simp [hget, packA, rowsD, allD, isD, unD, encC, encS, encT, encE_eq, pairOf, sigM, sigN, andY, notY, onX, noX, encSt, pairS]) (by simp) ?_
  simp
  refine V.cut (Hs := [(200, .seq h 49 10 [encS (sigM (notY 3) (onX 3)) |>.map A.dat, encS (sigN (andY (onX 2) (onX 3))) |>.map A.dat]), (2, .box b2 ((encSt pairS).map A.dat)), (1, .box b1 [aI 1, aTs [[115, 116, 97, 114, 116]], .own 200 h, aIs [3], aIs [4]])]) [(0, aB false), (1, .ptr 1 b1 0), (2, .ptr 2 b2 0), (4, aI 0), (6, aI 0), (10, aIs [3, 4]), (11, aB true)] (by simp) (by simp [encS, sigM, sigN, andY, notY, onX, noX, encE_eq]) ?_
  simp [encS, sigM, sigN, andY, notY, onX, noX, encE_eq]
  refine a8.lend (by simp [hget, packA, rowsD, allD, isD, unD, encC, encS, encT, encE_eq, pairOf, sigM, sigN, andY, notY, onX, noX, encSt, pairS]) (by simp) ?_
  simp
  refine GCall.fn (aB true) (fun _ => ⟨trivial, e3⟩) ?_
  simp
end Go.Proofs.YtakndgpdolfenaaGreat
end

/- Contracts of the reference of race: Move. -/
section
namespace Go.Proofs.YtakndgpdolfenaaGreat
set_option maxHeartbeats 4000000
set_option maxRecDepth 10000

end Go.Proofs.YtakndgpdolfenaaGreat
end

/- Contracts of the reference of race: the way. -/
section
namespace Go.Proofs.YtakndgpdolfenaaGreat
set_option maxHeartbeats 8000000
set_option maxRecDepth 10000

end Go.Proofs.YtakndgpdolfenaaGreat
end
