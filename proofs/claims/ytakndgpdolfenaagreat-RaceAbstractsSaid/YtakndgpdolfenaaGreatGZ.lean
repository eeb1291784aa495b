/- Texts joined by a program: Fwz. -/
import Derived.Test.YtakndgpdolfenaaGreatG1
set_option linter.unusedSimpArgs false
set_option linter.unusedVariables false

/- Parts of a walk as theorems of their own: the round of a loop. -/
section
namespace Go.Proofs.YtakndgpdolfenaaGreat
variable {P : Program}

def loopsC : Code → List Code
  | .loop c => c :: loopsC c
  | .seq a b => loopsC a ++ loopsC b
  | .cond _ a b => loopsC a ++ loopsC b
  | .block _ c => loopsC c
  | .scope c => loopsC c
  | _ => []
def loopO (f : Func) (k : Nat) : Option Code := match f.body with
  | some c => (loopsC c)[k]?
  | none => none
/-- The round of a function's loop (in the order of the text). -/
def loopC (f : Func) (k : Nat) : Code := (loopO f k).getD .skip
theorem vc_part {f : Func} {k : Nat} {c : Code} {C : Cfg} {E : Env} {H : Heap} {Q : PostQ} (h : loopO f k = some c) (hv : vcC C c E H Q) : vcC C (loopC f k) E H Q := by
  unfold loopC
  rw [h]
  exact hv
theorem vc_of_part {f : Func} {k : Nat} {c : Code} {C : Cfg} {E : Env} {H : Heap} {Q : PostQ} (h : loopO f k = some c) (hv : vcC C (loopC f k) E H Q) : vcC C c E H Q := by
  unfold loopC at hv
  rw [h] at hv
  exact hv

theorem sub_ins {t : Nat} {e : Ent} : ∀ {H K : Heap}, hget t H = some e → K.Sublist (hdel t H) → ∃ K' : Heap, K'.Sublist H ∧ K'.Perm ((t, e) :: K)
  | [], _, h, _ => by simp at h
  | (s, e1) :: r, K, h, hs => by
    rw [hget_c] at h
    rw [hdel_c] at hs
    by_cases hst : s = t
    · subst hst
      rw [if_pos rfl] at h hs
      cases h
      exact ⟨(s, e) :: K, hs.cons_cons _, List.Perm.refl _⟩
    · rw [if_neg hst] at h hs
      cases hs with
      | cons _ h2 =>
        obtain ⟨K', k1, k2⟩ := sub_ins h h2
        exact ⟨K', k1.cons _, k2⟩
      | cons_cons _ h2 =>
        obtain ⟨K', k1, k2⟩ := sub_ins h h2
        exact ⟨(s, e1) :: K', k1.cons_cons _, (k2.cons _).trans (List.Perm.swap _ _ _)⟩
theorem subP_of : ∀ {H' H : Heap}, subH H' H → subP H' H
  | [], H, _ => ⟨[], List.nil_sublist _, List.Perm.refl _⟩
  | (t, e) :: r, H, h => by
    simp only [subH] at h
    obtain ⟨K, k1, k2⟩ := subP_of h.2
    obtain ⟨K', k3, k4⟩ := sub_ins h.1 k1
    exact ⟨K', k3, k4.trans (k2.cons _)⟩

/-! ### Drawn regions, with one look for all orders at the end -/
def accC (i : Nat) (r : List Nat) (c : Option Nat) (acc : List (Nat × List Nat × Option Nat)) : List (Nat × List Nat × Option Nat) := match r, c with
  | [], none => acc
  | _, _ => (i, r, c) :: acc
def prsC (i : Nat) (q : List Nat × Option Nat) : List (Nat × List Nat × Option Nat) → List (Nat × Nat) → List (Nat × Nat)
  | [], prs => prs
  | z :: acc, prs => prsC i q acc (if tagC z.2 q = true then (i, z.1) :: prs else prs)
def chkD (ops : List Oper) (prs : List (Nat × Nat)) : Bool := prs.all fun p => dirB ops p.1 p.2 || relB ops p.1 p.2
@[congr] theorem chkD_congr {ops : List Oper} {prs prs' : List (Nat × Nat)} {z : Prop} (_ : (True ∧ True) = z) (h : prs = prs') : chkD ops prs = chkD ops prs' := by rw [h]
@[simp] theorem chkD_nil (ops : List Oper) : chkD ops [] = true := id rfl
@[simp] theorem accC_n (i : Nat) (acc : List (Nat × List Nat × Option Nat)) : accC i [] none acc = acc := id rfl
@[simp] theorem accC_c (i t : Nat) (r : List Nat) (c : Option Nat) (acc : List (Nat × List Nat × Option Nat)) : accC i (t :: r) c acc = (i, t :: r, c) :: acc := id rfl
@[simp] theorem accC_s (i t : Nat) (r : List Nat) (acc : List (Nat × List Nat × Option Nat)) : accC i r (some t) acc = (i, r, some t) :: acc := by cases r <;> rfl
@[simp] theorem prsC_n (i : Nat) (q : List Nat × Option Nat) (prs : List (Nat × Nat)) : prsC i q [] prs = prs := id rfl
@[simp] theorem prsC_c (i : Nat) (q : List Nat × Option Nat) (z : Nat × List Nat × Option Nat) (acc : List (Nat × List Nat × Option Nat)) (prs : List (Nat × Nat)) : prsC i q (z :: acc) prs = prsC i q acc (if tagC z.2 q = true then (i, z.1) :: prs else prs) := id rfl

theorem prsC_chk {ops : List Oper} {i : Nat} {q : List Nat × Option Nat} : ∀ (acc : List (Nat × List Nat × Option Nat)) (prs : List (Nat × Nat)), chkD ops (prsC i q acc prs) = true → chkD ops prs = true ∧ ∀ z ∈ acc, dOr (tagC z.2 q) (dOr (!dirB ops i z.1) (relB ops i z.1)) = true
  | [], prs, h => ⟨h, by simp⟩
  | z :: acc, prs, h => by
    rw [prsC_c] at h
    obtain ⟨h1, h2⟩ := prsC_chk acc _ h
    cases ht : tagC z.2 q with
    | false =>
      rw [ht] at h1
      simp only [Bool.false_eq_true, if_false] at h1
      refine ⟨h1, ?_⟩
      intro z' hz
      rcases List.mem_cons.1 hz with rfl | hz
      · rw [ht, dOr_f]
      · exact h2 z' hz
    | true =>
      rw [ht] at h1
      simp only [if_true, chkD, List.all_cons, Bool.and_eq_true] at h1
      refine ⟨h1.2, ?_⟩
      intro z' hz
      rcases List.mem_cons.1 hz with rfl | hz
      · rw [ht, dOr_t]
        have h3 := h1.1
        cases hd : dirB ops i z'.1 with
        | true => rfl
        | false => rw [hd] at h3; simpa using h3
      · exact h2 z' hz

def vcX (P : Program) (ρ : Nat → Option CR) (ops : List Oper) : Nat → List (Nat × List Nat × Option Nat) → List (Nat × Nat) → List Oper → Env → Heap → (Env → Heap → Prop) → Prop
  | _, _, prs, [], E, H, K => chkD ops prs = true ∧ K E H
  | i, acc, prs, o :: rest, E, H, K => ∀ u b, match fStep P ρ u b ops o E (fun t => hget t H) with
    | some (p, a, ch) => p ∧ vcX P ρ ops (i + 1) (accC i (rdT E o) (chT ch) acc) (prsC i (rdT E o, chT ch) acc prs) rest (put E o.dst a) (happ ch H) K
    | none => False
@[congr] theorem vcX_congr {P : Program} {ρ : Nat → Option CR} {ops : List Oper} {i i' : Nat} {acc acc' : List (Nat × List Nat × Option Nat)} {prs prs' : List (Nat × Nat)} {l l' : List Oper} {E : Env} {H H' : Heap} {K : Env → Heap → Prop} {z : Prop} (_ : (True ∧ True) = z)
    (h1 : i = i') (h2 : acc = acc') (h3 : prs = prs') (h4 : H = H') : vcX P ρ ops i acc prs l E H K = vcX P ρ ops i' acc' prs' l E H' K := by rw [h1, h2, h3, h4]

theorem vcX_D {ρ : Nat → Option CR} {ops : List Oper} {K : Env → Heap → Prop} : ∀ (l : List Oper) (i : Nat) (acc : List (Nat × List Nat × Option Nat)) (prs : List (Nat × Nat)) (E : Env) (H : Heap), vcX P ρ ops i acc prs l E H K →
    chkD ops prs = true ∧ ∀ accD : List (Nat × List Nat × Option Nat), (∀ z ∈ accD, z ∈ acc ∨ z.2 = ([], none)) → vcD P ρ ops i accD l E H K
  | [], i, acc, prs, E, H, h => ⟨h.1, fun _ _ => h.2⟩
  | o :: l, i, acc, prs, E, H, h => by
    simp only [vcX] at h
    constructor
    · have h0 := h .nilIface 0
      split at h0
      · exact (prsC_chk acc prs (vcX_D l _ _ _ _ _ h0.2).1).1
      · exact h0.elim
    · intro accD hacc
      simp only [vcD]
      intro u b
      have h0 := h u b
      split at h0
      · rename_i p a ch hs
        rw [hs]
        obtain ⟨k1, k2⟩ := vcX_D l _ _ _ _ _ h0.2
        obtain ⟨-, k3⟩ := prsC_chk acc prs k1
        refine ⟨h0.1, List.all_eq_true.2 fun z hz => ?_, k2 _ fun z hz => ?_⟩
        · rcases hacc z hz with h1 | h1
          · exact k3 z h1
          · rw [h1]
            have : tagC ([], none) (rdT E o, chT ch) = false := by
              cases hc : chT ch <;> simp [tagC]
            rw [this, dOr_f]
        · rcases List.mem_cons.1 hz with rfl | hz
          · generalize rdT E o = r
            generalize chT ch = c
            cases r with
            | nil => cases c with
              | none => exact .inr rfl
              | some t => exact .inl (by simp)
            | cons t r => exact .inl (by simp)
          · rcases hacc z hz with h1 | h1
            · left
              generalize rdT E o = r
              generalize chT ch = c
              cases r with
              | nil => cases c with
                | none => exact h1
                | some t => simp [h1]
              | cons t r => simp [h1]
            · exact .inr h1
      · exact h0.elim

theorem V.drawX {n : Nat} {id : Nat} {ops : Array Oper} {E : Env} {H : Heap} {Q : PostQ} (ρ : Nat → Option CR) (hm : P.follows .mixedOrders = true) (hd : depB ops.toList = true) (hn : (H.map (·.1)).Nodup)
    (h : vcX P ρ ops.toList 0 [] [] ops.toList E H fun E' H' => Q .normal E' H') : V ⟨P, none, n⟩ (.region id ops true) E H Q :=
  V.draw ρ hm hd hn ((vcX_D _ _ _ _ _ _ h).2 [] (by simp))
attribute [simp] vcX

end Go.Proofs.YtakndgpdolfenaaGreat
end
