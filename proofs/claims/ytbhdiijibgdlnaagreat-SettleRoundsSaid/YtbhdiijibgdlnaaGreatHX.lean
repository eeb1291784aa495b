/- Texts joined by a program: Fxa. -/
import Derived.Test.YtbhdiijibgdlnaaGreatHZ
set_option linter.unusedSimpArgs false
set_option linter.unusedVariables false

/- A long code in parts: what is left behind some regions, as a theorem of its own. -/
section
namespace Go.Proofs.YtbhdiijibgdlnaaGreat
variable {P : Program}

/-- What is left of a code behind k parts. -/
def restO : Nat → Code → Option Code
  | 0, c => some c
  | k + 1, .seq _ b => restO k b
  | _, _ => none
def restF (f : Func) (k : Nat) : Option Code := match f.body with
  | some c => restO k c
  | none => none
def restC (f : Func) (k : Nat) : Code := (restF f k).getD .skip
theorem vc_rest {f : Func} {k : Nat} {c : Code} {C : Cfg} {E : Env} {H : Heap} {Q : PostQ} (h : restF f k = some c) (hv : vcC C c E H Q) : vcC C (restC f k) E H Q := by
  unfold restC
  rw [h]
  exact hv
theorem vc_of_rest {f : Func} {k : Nat} {c : Code} {C : Cfg} {E : Env} {H : Heap} {Q : PostQ} (h : restF f k = some c) (hv : vcC C (restC f k) E H Q) : vcC C c E H Q := by
  unfold restC at hv
  rw [h] at hv
  exact hv
/-- The conditions of a code up to its part k; what is behind stands as it is. -/
def vcN (C : Cfg) : Nat → Code → Env → Heap → PostQ → Prop
  | 0, c, E, H, Q => V C c E H Q
  | k + 1, .seq a b, E, H, Q => vcC C a E H fun e E' H' => match e with
    | .normal => vcN C k b E' H' Q
    | .exit i => Q (.exit i) E' H'
    | .ret => Q .ret E' H'
    | _ => False
  | _ + 1, c, E, H, Q => vcC C c E H Q
theorem vcN_ok {C : Cfg} : ∀ (k : Nat) (c : Code) (E : Env) (H : Heap) (Q : PostQ), fitsC C.n c = true → vcN C k c E H Q → W C c E H Q
  | 0, c, E, H, Q, hf, h => h hf
  | k + 1, c, E, H, Q, hf, h => by
    cases c with
    | seq a b =>
      simp only [fitsC, Bool.and_eq_true] at hf
      refine W.seq ((vcC_ok a E H _ hf.1 h).mono ?_)
      intro e E' H' hq
      cases e with
      | normal => exact vcN_ok k b E' H' Q hf.2 hq
      | exit i => exact hq
      | ret => exact hq
      | goto l => exact hq
      | panic c => exact hq
      | outgrown => exact hq
    | _ => exact vcC_ok _ E H Q hf h
/-- From here on nothing is known but this. -/
theorem V.cut {C : Cfg} {c : Code} {E : Env} {H Hs : Heap} {Q : PostQ} (kv : List (Nat × A)) (hE : ∀ p ∈ kv, wk (E p.1) p.2) (hH : subN Hs H) (h : vcC C c (hdE kv []) Hs Q) : V C c E H Q := by
  intro hf x act H0 ms hi he
  refine vcC_ok c _ _ _ hf h x act H0 ms (subN_inv hH hi) ⟨he.defers, he.size, ?_⟩
  exact sets_wk he.slot [] _ (by simp) (sets_wk he.slot kv _ hE fun t => by simp [anyE, D])
theorem V.cutN {C : Cfg} (k : Nat) {c : Code} {E : Env} {H Hs : Heap} {Q : PostQ} (kv : List (Nat × A)) (hE : ∀ p ∈ kv, wk (E p.1) p.2) (hH : subN Hs H) (h : vcN C k c (hdE kv []) Hs Q) : V C c E H Q := by
  intro hf x act H0 ms hi he
  refine vcN_ok k c _ _ _ hf h x act H0 ms (subN_inv hH hi) ⟨he.defers, he.size, ?_⟩
  exact sets_wk he.slot [] _ (by simp) (sets_wk he.slot kv _ hE fun t => by simp [anyE, D])
theorem vcN_rest {f : Func} {j k : Nat} {c : Code} {C : Cfg} {E : Env} {H : Heap} {Q : PostQ} (h : restF f j = some c) (hv : vcN C k c E H Q) : vcN C k (restC f j) E H Q := by
  unfold restC
  rw [h]
  exact hv
theorem vcN_of_rest {f : Func} {j k : Nat} {c : Code} {C : Cfg} {E : Env} {H : Heap} {Q : PostQ} (h : restF f j = some c) (hv : vcN C k (restC f j) E H Q) : vcN C k c E H Q := by
  unfold restC at hv
  rw [h] at hv
  exact hv
theorem callFz_cut (k : Nat) {g : FuncId} {fn : Func} {c : Code} {n : Nat} {rs : List ResultVar} {az : List A} {r : A} (hf : P.funcs[g]? = some fn) (hb : fn.body = some c) (hn : fn.ntmps = n)
    (hr : fn.results = rs.toArray) (hnm : (fn.name == "runtime.NumGoroutine") = false) (hl : az.length ≤ n) (hfit : fitsC n c = true)
    (h : vcN ⟨P, none, n⟩ k c (envOf az) [] (RetV P rs fun r' H' => (frz H' r').1 ∧ (frz H' r').2 = r)) : CallFn P g az r :=
  (callS_ofW hf hb hn hr hnm hl hfit (vcN_ok k c _ [] _ hfit h)).frz fun _ _ h => h
attribute [simp] vcN

end Go.Proofs.YtbhdiijibgdlnaaGreat
end
