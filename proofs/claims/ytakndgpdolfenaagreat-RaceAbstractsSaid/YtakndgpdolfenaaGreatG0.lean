/- Texts joined by a program: Fwa, Fwb, Fwba, Fwc, Fwd, Fwe, Fwf, Fwg, Fwh, Fwha, Fwi. -/
import Derived.Test.YtakndgpdolfenaaGreatProg
import Derived.WalkKit
import Derived.CallsIn
import Derived.TacticsIn
import Derived.RangeFuncRecord
import Derived.RangeFuncIn
import Derived.Deep.LoopGhost
import Derived.MapKept
import Derived.ChangeKeysEq
import Derived.Laws.Tables
import Derived.DeepKeys3
import Derived.WideKeyMaps
import Derived.Lib.AppendZeros
set_option linter.unusedSimpArgs false
set_option linter.unusedVariables false

/- Abstract values and what it means that a machine value matches one: the ground of the framework. -/
section
namespace Go.Proofs.YtakndgpdolfenaaGreat

/-- Immutable data, az flat cells. -/
inductive L where
  | int (k : IntKind) (n : Int)
  | bool (b : Bool)
  | str (s : List UInt8)
  | sl (xs : List (List L))
  deriving Inhabited

/-- A world with the blocks that stay az they are. -/
structure X where
  w : World
  ok : Nat → Prop

/-- No step takes draws back. -/
theorem ask_drawn {α : Type} (a : Ask α) : ∀ (w : World), w.drawn ≤ (w.ask a).2.drawn := by
  induction a with
  | done a => intro w; exact Nat.le_refl _
  | ask what range k ih =>
    intro w
    unfold World.ask
    dsimp only
    split
    · exact ih _ w
    · have h2 := ih ((Question.extern what range).cut (w.tape w.drawn (Question.extern what range))) { w with drawn := w.drawn + 1 }
      exact Nat.le_trans (Nat.le_succ _) h2
theorem sys_drawn (w : World) (c : Sys) : w.drawn ≤ (w.sys c).2.drawn := by
  unfold World.sys
  have h := ask_drawn (Kernel.perform c w.os) w
  split
  · exact Nat.le_refl _
  · rename_i r os w' heq
    rw [heq] at h
    exact h
theorem viewStore_drawn {P : Program} {w w' : World} {a k : Addr} {u : TypeId} {v : Value} {b : Bool} {l : List Addr} (h : w.viewStore P a u k v b = .ok (w', l)) : w'.drawn = w.drawn := by
  unfold World.viewStore at h
  simp only [bind, Except.bind, pure, Except.pure] at h
  repeat' (split at h)
  all_goals first
    | (cases h; done)
    | (simp only [Except.ok.injEq, Prod.mk.injEq] at h; rw [← h.1])
theorem Sem.run_drawn {P : Program} {α : Type} (s : Sem α) : ∀ (w : World) {a : α} {w' : World}, s.run P w = .ok a w' → w.drawn ≤ w'.drawn := by
  induction s with
  | pure a => intro w b w' h; simp only [Sem.run, Result.ok.injEq] at h; rw [h.2]; exact Nat.le_refl _
  | load m a k ih =>
    intro w b w' h
    simp only [Sem.run] at h
    split at h
    · exact ih _ w h
    · split at h
      · exact ih _ w h
      · cases h
  | store m a v k ih =>
    intro w b w' h
    cases v
    case agg => simp only [Sem.run] at h; cases h
    case tuple => simp only [Sem.run] at h; cases h
    all_goals
      simp only [Sem.run] at h
      split at h
      · split at h
        · cases h
        · have h2 := ih _ h
          exact h2
      · split at h
        · rename_i w2 l heq
          have h2 := ih _ h
          unfold World.farStore at heq
          split at heq
          · split at heq
            · rename_i r hvs
              simp only [Except.ok.injEq] at heq
              subst heq
              rw [← viewStore_drawn hvs]
              exact h2
            · cases heq
          · cases heq
        · cases h
  | new o k ih => intro w b w' h; simp only [Sem.run] at h; have h2 := ih _ _ h; exact h2
  | shape r k ih => intro w b w' h; simp only [Sem.run] at h; exact ih _ _ h
  | freeze a n k ih =>
    intro w b w' h
    simp only [Sem.run] at h
    have := ih _ h
    unfold World.freeze at this
    split at this <;> exact this
  | frozen a k ih => intro w b w' h; simp only [Sem.run] at h; exact ih _ _ h
  | getObj r k ih =>
    intro w b w' h
    simp only [Sem.run] at h
    split at h
    · cases h
    · exact ih _ _ h
    · cases h
  | setObj r o k ih =>
    intro w b w' h
    simp only [Sem.run] at h
    split at h
    · cases h
    · have h2 := ih _ h
      exact h2
    · cases h
  | choose q k ih =>
    intro w b w' h
    simp only [Sem.run] at h
    split at h
    · exact ih _ _ h
    · have h2 := ih _ _ h
      exact Nat.le_trans (Nat.le_succ _) h2
  | sys c k ih =>
    intro w b w' h
    simp only [Sem.run] at h
    have h2 := ih _ _ h
    exact Nat.le_trans (sys_drawn w c) h2
  | program k ih => intro w b w' h; simp only [Sem.run] at h; exact ih _ _ h
  | mark m k ih => intro w b w' h; simp only [Sem.run] at h; exact ih _ h
  | halt h => intro w b w' h; simp only [Sem.run] at h; cases h
mutual
def RdL (x : X) : L → Value → Prop
  | .int k n, v => v = .int k n
  | .bool b, v => v = .bool b
  | .str s, v => v = .string ⟨s.toArray⟩
  | .sl xs, v => (v = .slice none 0 0 ∧ xs = []) ∨ (∃ b off cap, v = .slice (some ⟨b, off, none⟩) xs.length cap ∧ xs.length ≤ cap ∧ RdRows x xs b off) ∨ ∃ a, v = .slice (some a) 0 0 ∧ xs = []
def RdRows (x : X) : List (List L) → Nat → Nat → Prop
  | [], _, _ => True
  | r :: rs, b, off => RdCells x r b off ∧ RdRows x rs b (off + r.length)
def RdCells (x : X) : List L → Nat → Nat → Prop
  | [], _, _ => True
  | l :: ls, b, off => (x.ok b ∧ ∃ v, x.w.cell? ⟨b, off, none⟩ = some v ∧ RdL x l v) ∧ RdCells x ls b (off + 1)
end

/-- Values against data, one by one. -/
def RdLs (x : X) : List L → List Value → Prop
  | [], [] => True
  | l :: ls, v :: vs => RdL x l v ∧ RdLs x ls vs
  | _, _ => False

/-- The order of worlds: what is immutable stays, and stays az it is. -/
structure X.le (x y : X) : Prop where
  keep : ∀ b, x.ok b → y.ok b ∧ y.w.heap[b]? = x.w.heap[b]?
  os : y.w.os = x.w.os
  output : y.w.output = x.w.output
  tape : y.w.tape = x.w.tape
  size : x.w.heap.size ≤ y.w.heap.size
  drawn : x.w.drawn ≤ y.w.drawn

theorem X.le.refl (x : X) : x.le x := ⟨fun _ h => ⟨h, rfl⟩, rfl, rfl, rfl, Nat.le_refl _, Nat.le_refl _⟩
theorem X.le.trans {x y z : X} (h : x.le y) (k : y.le z) : x.le z :=
  ⟨fun b hb => ⟨(k.keep b (h.keep b hb).1).1, (k.keep b (h.keep b hb).1).2.trans (h.keep b hb).2⟩, k.os.trans h.os, k.output.trans h.output,
   k.tape.trans h.tape, Nat.le_trans h.size k.size, Nat.le_trans h.drawn k.drawn⟩

theorem X.le.cell {x y : X} (h : x.le y) {b off : Nat} (hb : x.ok b) : y.w.cell? ⟨b, off, none⟩ = x.w.cell? ⟨b, off, none⟩ := by
  simp only [World.cell?, (h.keep b hb).2]

mutual
theorem RdL.mono {x y : X} (h : x.le y) : ∀ (l : L) (v : Value), RdL x l v → RdL y l v
  | .int _ _, _, hv => by simpa [RdL] using hv
  | .bool _, _, hv => by simpa [RdL] using hv
  | .str _, _, hv => by simpa [RdL] using hv
  | .sl xs, v, hv => by
    simp only [RdL] at hv ⊢
    rcases hv with hv | ⟨b, off, cap, e, hc, hr⟩ | hv
    · exact .inl hv
    · exact .inr (.inl ⟨b, off, cap, e, hc, RdRows.mono h xs b off hr⟩)
    · exact .inr (.inr hv)
theorem RdRows.mono {x y : X} (h : x.le y) : ∀ (xs : List (List L)) (b off : Nat), RdRows x xs b off → RdRows y xs b off
  | [], _, _, _ => by simp [RdRows]
  | r :: rs, b, off, hr => by
    simp only [RdRows] at hr ⊢
    exact ⟨RdCells.mono h r b off hr.1, RdRows.mono h rs b (off + r.length) hr.2⟩
theorem RdCells.mono {x y : X} (h : x.le y) : ∀ (ls : List L) (b off : Nat), RdCells x ls b off → RdCells y ls b off
  | [], _, _, _ => by simp [RdCells]
  | l :: ls, b, off, hr => by
    simp only [RdCells] at hr ⊢
    obtain ⟨⟨hb, v, hc, hv⟩, hr⟩ := hr
    exact ⟨⟨(h.keep b hb).1, v, by rw [h.cell hb]; exact hc, RdL.mono h l v hv⟩, RdCells.mono h ls b (off + 1) hr⟩
end

theorem RdLs.mono {x y : X} (h : x.le y) : ∀ (ls : List L) (vs : List Value), RdLs x ls vs → RdLs y ls vs
  | [], [], _ => by simp [RdLs]
  | l :: ls, v :: vs, hr => by
    simp only [RdLs] at hr ⊢
    exact ⟨RdL.mono h l v hr.1, RdLs.mono h ls vs hr.2⟩
  | [], _ :: _, hr => by simp [RdLs] at hr
  | _ :: _, [], hr => by simp [RdLs] at hr

theorem RdLs.length {x : X} : ∀ {ls : List L} {vs : List Value}, RdLs x ls vs → vs.length = ls.length
  | [], [], _ => rfl
  | l :: ls, v :: vs, hr => by simp only [RdLs] at hr; simp [RdLs.length hr.2]
  | [], _ :: _, hr => by simp [RdLs] at hr
  | _ :: _, [], hr => by simp [RdLs] at hr

theorem RdCells.drop {x : X} : ∀ (k : Nat) (ls : List L) (b off : Nat), RdCells x ls b off → RdCells x (ls.drop k) b (off + k)
  | 0, ls, b, off, h => by simpa using h
  | k + 1, [], b, off, h => by simp [RdCells]
  | k + 1, l :: ls, b, off, h => by
    simp only [RdCells] at h
    have := RdCells.drop k ls b (off + 1) h.2
    simpa [Nat.add_assoc, Nat.add_comm 1 k] using this

theorem RdCells.take {x : X} : ∀ (k : Nat) (ls : List L) (b off : Nat), RdCells x ls b off → RdCells x (ls.take k) b off
  | 0, ls, b, off, h => by simp [RdCells]
  | k + 1, [], b, off, h => by simp [RdCells]
  | k + 1, l :: ls, b, off, h => by
    simp only [RdCells] at h
    simp only [List.take_succ_cons, RdCells]
    exact ⟨h.1, RdCells.take k ls b (off + 1) h.2⟩

/-- The values that lie in cells that read az data. -/
theorem RdCells.vals {x : X} : ∀ (ls : List L) (b off : Nat), RdCells x ls b off → ∃ vs, RdLs x ls vs ∧ ∀ j v, vs[j]? = some v → x.w.cell? ⟨b, off + j, none⟩ = some v
  | [], b, off, h => ⟨[], by simp [RdLs], by simp⟩
  | l :: ls, b, off, h => by
    simp only [RdCells] at h
    obtain ⟨⟨_, v, hc, hv⟩, hr⟩ := h
    obtain ⟨vs, h1, h2⟩ := RdCells.vals ls b (off + 1) hr
    refine ⟨v :: vs, by simp only [RdLs]; exact ⟨hv, h1⟩, fun j u hj => ?_⟩
    cases j with
    | zero => simp at hj; subst hj; simpa using hc
    | succ j => simp at hj; have := h2 j u hj; simpa [Nat.add_assoc, Nat.add_comm 1 j] using this

theorem RdRows.get {x : X} {sz : Nat} : ∀ (i : Nat) (xs : List (List L)) (b off : Nat) (r : List L), (∀ r ∈ xs, r.length = sz) → RdRows x xs b off → xs[i]? = some r → RdCells x r b (off + i * sz)
  | _, [], _, _, _, _, _, h => by simp at h
  | 0, r :: rs, b, off, r', _, h, hr => by
    simp at hr; subst hr
    simp only [RdRows] at h
    simpa using h.1
  | i + 1, r :: rs, b, off, r', hs, h, hr => by
    simp at hr
    simp only [RdRows] at h
    have h1 := hs r (by simp)
    have := RdRows.get i rs b (off + r.length) r' (fun r hr => hs r (by simp [hr])) h.2 hr
    rw [h1] at this
    rw [Nat.succ_mul, Nat.add_comm (i * sz) sz, ← Nat.add_assoc]; exact this

theorem RdRows.drop {x : X} {sz : Nat} : ∀ (k : Nat) (xs : List (List L)) (b off : Nat), (∀ r ∈ xs, r.length = sz) → RdRows x xs b off → RdRows x (xs.drop k) b (off + k * sz)
  | 0, _, _, _, _, h => by simpa using h
  | k + 1, [], _, _, _, _ => by simp [RdRows]
  | k + 1, r :: rs, b, off, hs, h => by
    simp only [RdRows] at h
    have h1 := hs r (by simp)
    have := RdRows.drop k rs b (off + r.length) (fun r hr => hs r (by simp [hr])) h.2
    rw [h1] at this
    simp only [List.drop_succ_cons]
    rw [Nat.succ_mul, Nat.add_comm (k * sz) sz, ← Nat.add_assoc]; exact this

theorem RdRows.take {x : X} : ∀ (k : Nat) (xs : List (List L)) (b off : Nat), RdRows x xs b off → RdRows x (xs.take k) b off
  | 0, _, _, _, _ => by simp [RdRows]
  | k + 1, [], _, _, _ => by simp [RdRows]
  | k + 1, r :: rs, b, off, h => by
    simp only [RdRows] at h
    simp only [List.take_succ_cons, RdRows]
    exact ⟨h.1, RdRows.take k rs b (off + r.length) h.2⟩

/-- Abstract values. -/
inductive A where
  | any
  | undef
  | dat (l : L)
  | nn (xs : List (List L))
  | record (ls : List L)
  | agg (az : List A)
  | tuple (az : List A)
  | ptr (t b off : Nat)
  | rptr (ls : List L)
  | nilp
  | nils
  | own (t : Nat) (h : Value)
  | fn (f : FuncId) (first caps : List A)
  | nilf
  | map (t r : Nat)
  | yld (l : Nat)
  | cond (p : Prop) (a : A)
  | eptr (t : Nat) (h : Value) (sz i j : Nat)
  | clip (xs : List (List L))
  | owd (h : Value) (xs : List (List L))
  deriving Inhabited

mutual
def D (x : X) : A → Value → Prop
  | .any, _ => True
  | .undef, v => v = Go.undef
  | .dat l, v => RdL x l v
  | .nn xs, v => RdL x (.sl xs) v ∧ v ≠ .slice none 0 0
  | .record ls, v => ∃ vs, v = .agg vs ∧ RdLs x ls vs.toList
  | .agg az, v => ∃ vs, v = .agg vs ∧ Ds x az vs.toList
  | .tuple az, v => ∃ vs, v = .tuple vs ∧ Ds x az vs.toList
  | .ptr _ b off, v => v = .pointer (some ⟨b, off, none⟩)
  | .rptr ls, v => ∃ b off, v = .pointer (some ⟨b, off, none⟩) ∧ RdCells x ls b off
  | .nilp, v => v = .pointer none
  | .nils, v => v = .slice none 0 0
  | .own _ h, v => v = h ∧ ∃ a n c, h = .slice a n c
  | .fn f first caps, v => ∃ fs cs, v = .func (.func f) fs cs ∧ Ds x first fs.toList ∧ Ds x caps cs.toList
  | .nilf, v => v = .nilFunc
  | .map _ r, v => v = .map (some r)
  | .yld l, v => v = .func (.yield l) #[] #[]
  | .cond p a, v => (p → D x a v) ∧ (¬p → v = Go.undef)
  | .eptr _ h sz i j, v => ∃ b off n cap, h = .slice (some ⟨b, off, none⟩) n cap ∧ v = .pointer (some ⟨b, off + i * sz + j, none⟩)
  | .clip xs, v => RdL x (.sl xs) v ∧ ∃ a n, v = .slice a n n
  | .owd h xs, v => v = h ∧ RdL x (.sl xs) v
def Ds (x : X) : List A → List Value → Prop
  | [], [] => True
  | a :: az, v :: vs => D x a v ∧ Ds x az vs
  | [], _ :: _ => False
  | _ :: _, [] => False
end

mutual
theorem D.mono {x y : X} (h : x.le y) : ∀ (a : A) (v : Value), D x a v → D y a v
  | .any, _, _ => by simp [D]
  | .undef, _, hv => by simpa [D] using hv
  | .dat l, v, hv => by simp only [D] at hv ⊢; exact RdL.mono h l v hv
  | .nn xs, v, hv => by simp only [D] at hv ⊢; exact ⟨RdL.mono h _ v hv.1, hv.2⟩
  | .clip xs, v, hv => by simp only [D] at hv ⊢; exact ⟨RdL.mono h _ v hv.1, hv.2⟩
  | .owd g xs, v, hv => by simp only [D] at hv ⊢; exact ⟨hv.1, RdL.mono h _ v hv.2⟩
  | .record ls, v, hv => by
    simp only [D] at hv ⊢
    obtain ⟨vs, e, hr⟩ := hv
    exact ⟨vs, e, RdLs.mono h ls _ hr⟩
  | .agg az, v, hv => by
    simp only [D] at hv ⊢
    obtain ⟨vs, e, hr⟩ := hv
    exact ⟨vs, e, Ds.mono h az _ hr⟩
  | .tuple az, v, hv => by
    simp only [D] at hv ⊢
    obtain ⟨vs, e, hr⟩ := hv
    exact ⟨vs, e, Ds.mono h az _ hr⟩
  | .ptr _ _ _, _, hv => by simpa [D] using hv
  | .rptr ls, v, hv => by
    simp only [D] at hv ⊢
    obtain ⟨b, off, e, hr⟩ := hv
    exact ⟨b, off, e, RdCells.mono h ls b off hr⟩
  | .nilp, _, hv => by simpa [D] using hv
  | .nils, _, hv => by simpa [D] using hv
  | .own _ _, _, hv => by simpa [D] using hv
  | .fn f first caps, v, hv => by
    simp only [D] at hv ⊢
    obtain ⟨fs, cs, e, h1, h2⟩ := hv
    exact ⟨fs, cs, e, Ds.mono h first _ h1, Ds.mono h caps _ h2⟩
  | .nilf, _, hv => by simpa [D] using hv
  | .map _ _, _, hv => by simpa [D] using hv
  | .yld _, _, hv => by simpa [D] using hv
  | .cond p a, v, hv => by simp only [D] at hv ⊢; exact ⟨fun hp => D.mono h a v (hv.1 hp), hv.2⟩
  | .eptr _ _ _ _ _, _, hv => by simpa [D] using hv
theorem Ds.mono {x y : X} (h : x.le y) : ∀ (az : List A) (vs : List Value), Ds x az vs → Ds y az vs
  | [], [], _ => by simp [Ds]
  | a :: az, v :: vs, hr => by
    simp only [Ds] at hr ⊢
    exact ⟨D.mono h a v hr.1, Ds.mono h az vs hr.2⟩
  | [], _ :: _, hr => by simp [Ds] at hr
  | _ :: _, [], hr => by simp [Ds] at hr
end

theorem Ds.get {x : X} : ∀ {az : List A} {vs : List Value} (i : Nat), Ds x az vs → D x (az.getD i .any) (vs.getD i Go.undef)
  | [], [], i, _ => by simp [D]
  | a :: az, v :: vs, 0, h => by simp only [Ds] at h; simpa using h.1
  | a :: az, v :: vs, i + 1, h => by simp only [Ds] at h; simpa using Ds.get i h.2
  | [], _ :: _, _, h => by simp [Ds] at h
  | _ :: _, [], _, h => by simp [Ds] at h

theorem Ds.length {x : X} : ∀ {az : List A} {vs : List Value}, Ds x az vs → vs.length = az.length
  | [], [], _ => rfl
  | a :: az, v :: vs, h => by simp only [Ds] at h; simp [Ds.length h.2]
  | [], _ :: _, h => by simp [Ds] at h
  | _ :: _, [], h => by simp [Ds] at h

theorem Ds.append {x : X} : ∀ {az bz : List A} {vs us : List Value}, Ds x az vs → Ds x bz us → Ds x (az ++ bz) (vs ++ us)
  | [], _, [], _, _, h => by simpa using h
  | a :: az, _, v :: vs, _, h, k => by simp only [Ds] at h; simp only [List.cons_append, Ds]; exact ⟨h.1, Ds.append h.2 k⟩
  | [], _, _ :: _, _, h, _ => by simp [Ds] at h
  | _ :: _, _, [], _, h, _ => by simp [Ds] at h
theorem Ds.take {x : X} : ∀ (k : Nat) {az : List A} {vs : List Value}, Ds x az vs → Ds x (az.take k) (vs.take k)
  | 0, _, _, _ => by simp [Ds]
  | k + 1, [], [], _ => by simp [Ds]
  | k + 1, a :: az, v :: vs, h => by simp only [Ds] at h; simp only [List.take_succ_cons, Ds]; exact ⟨h.1, Ds.take k h.2⟩
  | _ + 1, [], _ :: _, h => by simp [Ds] at h
  | _ + 1, _ :: _, [], h => by simp [Ds] at h
theorem Ds.drop {x : X} : ∀ (k : Nat) {az : List A} {vs : List Value}, Ds x az vs → Ds x (az.drop k) (vs.drop k)
  | 0, _, _, h => by simpa using h
  | k + 1, [], [], _ => by simp [Ds]
  | k + 1, a :: az, v :: vs, h => by simp only [Ds] at h; simpa using Ds.drop k h.2
  | _ + 1, [], _ :: _, h => by simp [Ds] at h
  | _ + 1, _ :: _, [], h => by simp [Ds] at h
theorem Ds.at {x : X} {az : List A} {vs : List Value} {i : Nat} {a : A} (h : Ds x az vs) (ha : az[i]? = some a) : ∃ v, vs[i]? = some v ∧ D x a v := by
  have hl := h.length
  have hi : i < az.length := by
    rcases Nat.lt_or_ge i az.length with h | h
    · exact h
    · simp [List.getElem?_eq_none h] at ha
  have := Ds.get i h
  rw [List.getElem?_eq_getElem hi] at ha
  cases ha
  refine ⟨vs[i]'(by omega), List.getElem?_eq_getElem (by omega), ?_⟩
  simpa [List.getD, List.getElem?_eq_getElem hi, List.getElem?_eq_getElem (show i < vs.length by omega)] using this
theorem Ds.of_ls {x : X} : ∀ {ls : List L} {vs : List Value}, RdLs x ls vs → Ds x (ls.map .dat) vs
  | [], [], _ => by simp [Ds]
  | l :: ls, v :: vs, h => by simp only [RdLs] at h; simp only [List.map_cons, Ds, D]; exact ⟨h.1, Ds.of_ls h.2⟩
  | [], _ :: _, h => by simp [RdLs] at h
  | _ :: _, [], h => by simp [RdLs] at h
theorem RdLs.take {x : X} : ∀ (k : Nat) {ls : List L} {vs : List Value}, RdLs x ls vs → RdLs x (ls.take k) (vs.take k)
  | 0, _, _, _ => by simp [RdLs]
  | k + 1, [], [], _ => by simp [RdLs]
  | k + 1, a :: az, v :: vs, h => by simp only [RdLs] at h; simp only [List.take_succ_cons, RdLs]; exact ⟨h.1, RdLs.take k h.2⟩
  | _ + 1, [], _ :: _, h => by simp [RdLs] at h
  | _ + 1, _ :: _, [], h => by simp [RdLs] at h
theorem RdLs.drop {x : X} : ∀ (k : Nat) {ls : List L} {vs : List Value}, RdLs x ls vs → RdLs x (ls.drop k) (vs.drop k)
  | 0, _, _, h => by simpa using h
  | k + 1, [], [], _ => by simp [RdLs]
  | k + 1, a :: az, v :: vs, h => by simp only [RdLs] at h; simpa using RdLs.drop k h.2
  | _ + 1, [], _ :: _, h => by simp [RdLs] at h
  | _ + 1, _ :: _, [], h => by simp [RdLs] at h
theorem RdLs.append {x : X} : ∀ {az bz : List L} {vs us : List Value}, RdLs x az vs → RdLs x bz us → RdLs x (az ++ bz) (vs ++ us)
  | [], _, [], _, _, h => by simpa using h
  | a :: az, _, v :: vs, _, h, k => by simp only [RdLs] at h; simp only [List.cons_append, RdLs]; exact ⟨h.1, RdLs.append h.2 k⟩
  | [], _, _ :: _, _, h, _ => by simp [RdLs] at h
  | _ :: _, _, [], _, h, _ => by simp [RdLs] at h
theorem RdLs.at {x : X} : ∀ (i : Nat) {ls : List L} {vs : List Value} {l : L}, RdLs x ls vs → ls[i]? = some l → ∃ v, vs[i]? = some v ∧ RdL x l v
  | _, [], _, _, _, h => by simp at h
  | 0, l :: ls, v :: vs, l', h, e => by simp at e; subst e; simp only [RdLs] at h; exact ⟨v, rfl, h.1⟩
  | i + 1, l :: ls, v :: vs, l', h, e => by simp only [RdLs] at h; simp at e; simpa using RdLs.at i h.2 e
  | _, _ :: _, [], _, h, _ => by simp [RdLs] at h

end Go.Proofs.YtakndgpdolfenaaGreat
end

/- Owned memory, states, the triple W over code, and its rules for the control structure. -/
section
namespace Go.Proofs.YtakndgpdolfenaaGreat

abbrev Env := Nat → A

/-- The value of a plain key. -/
def kv : L → Value
  | .int k n => .int k n
  | .bool b => .bool b
  | .str s => .string ⟨s.toArray⟩
  | .sl _ => .nilIface
def MapOK (x : X) : List (L × L) → List MapEntry → Prop
  | [], [] => True
  | (k, l) :: r, m :: ms => m.key = kv k ∧ RdL x l m.val ∧ MapOK x r ms
  | [], _ :: _ => False
  | _ :: _, [] => False
theorem MapOK.mono {x y : X} (h : x.le y) : ∀ (es : List (L × L)) (ms : List MapEntry), MapOK x es ms → MapOK y es ms
  | [], [], _ => by simp [MapOK]
  | (k, l) :: r, m :: ms, hm => by
    simp only [MapOK] at hm ⊢
    exact ⟨hm.1, hm.2.1.mono h, MapOK.mono h r ms hm.2.2⟩
  | [], _ :: _, hm => by simp [MapOK] at hm
  | _ :: _, [], hm => by simp [MapOK] at hm
inductive Ent where
  | box (b : Nat) (cs : List A)
  | seq (h : Value) (e : TypeId) (sz : Nat) (rows : List (List A))
  | raw (b : Nat) (o : Obj)
  | map (b : Nat) (d : TypeDesc) (es : List (L × L))
  | loop (b n : Nat) (s : LoopState) (pe : Option Code) (ps : Array Tmp) (asg body : Code) (E : Env)
  | seqs (l : List (Value × TypeId × Nat × List (List A)))

abbrev Heap := List (Nat × Ent)

def Ent.own : Ent → Nat → Prop
  | .box b _, k => k = b
  | .seq h _ _ _, k => h.ownBlock = some k
  | .raw b _, k => k = b
  | .map b _ _, k => k = b
  | .loop b _ _ _ _ _ _ _, k => k = b
  | .seqs l, k => ∃ q ∈ l, q.1.ownBlock = some k

def Ent.sat (x : X) : Ent → Prop
  | .box b cs => ∃ c ty, x.w.heap[b]? = some (.cells c ty (0, 0)) ∧ Ds x cs c.toList
  | .seq h e sz rows => ∃ xs, x.w.ownsRow 0 e sz h rows.length xs ∧ (∀ r ∈ rows, r.length = sz) ∧ Ds x rows.flatten xs
  | .raw b o => x.w.heap[b]? = some o
  | .map b d es => ∃ ms c, x.w.heap[b]? = some (.map ms c) ∧ MapOK x es ms.toList ∧ MapKept.Stamped ms c ∧ ∀ m ∈ ms.toList, MapKept.IsKey d m.key
  | .loop b n s pe ps asg body E => ∃ r : Loop, x.w.heap[b]? = some (.loop r) ∧ r.state = s ∧ r.pending = pe ∧ r.params = ps ∧ r.assign = asg ∧ r.body = body ∧ r.tmps.size = n ∧ ∀ t, D x (E t) (r.tmps.getD t Go.undef)
  | .seqs l => (∀ q ∈ l, ∃ xs, x.w.ownsRow 0 q.2.1 q.2.2.1 q.1 q.2.2.2.length xs ∧ (∀ r ∈ q.2.2.2, r.length = q.2.2.1) ∧ Ds x q.2.2.2.flatten xs) ∧ l.Pairwise (fun p q => ∀ b, p.1.ownBlock = some b → q.1.ownBlock ≠ some b)

theorem Ent.sat_step {x y : X} (h : x.le y) {e : Ent} (hb : ∀ b, e.own b → y.w.heap[b]? = x.w.heap[b]?) (hs : e.sat x) : e.sat y := by
  cases e with
  | box b cs =>
    obtain ⟨c, ty, h1, h2⟩ := hs
    exact ⟨c, ty, by rw [hb b rfl]; exact h1, h2.mono h⟩
  | seq v e sz rows =>
    obtain ⟨xs, ⟨h1, h2⟩, h3, h4⟩ := hs
    refine ⟨xs, ⟨h1, ?_⟩, h3, h4.mono h⟩
    rcases h2 with h2 | ⟨g, cap, cur, rfl, h5, h6, h7⟩
    · exact .inl h2
    · exact .inr ⟨g, cap, cur, rfl, h5, by rw [hb g rfl]; exact h6, h7⟩
  | raw b o => show y.w.heap[b]? = some o; rw [hb b rfl]; exact hs
  | map b d es =>
    obtain ⟨ms, c, h1, h2, h3⟩ := hs
    exact ⟨ms, c, by rw [hb b rfl]; exact h1, h2.mono h, h3⟩
  | loop b n s pe ps asg body E =>
    obtain ⟨r, h1, h2, h3, h4, h5, h6, h7, h8⟩ := hs
    exact ⟨r, by rw [hb b rfl]; exact h1, h2, h3, h4, h5, h6, h7, fun t => (h8 t).mono h⟩
  | seqs l =>
    refine ⟨fun q hq => ?_, hs.2⟩
    obtain ⟨xs, ⟨h1, h2⟩, h3, h4⟩ := hs.1 q hq
    refine ⟨xs, ⟨h1, ?_⟩, h3, h4.mono h⟩
    rcases h2 with h2 | ⟨g, cap, cur, e1, h5, h6, h7⟩
    · exact .inl h2
    · exact .inr ⟨g, cap, cur, e1, h5, by rw [hb g ⟨q, hq, by rw [e1]; rfl⟩]; exact h6, h7⟩

structure Inv (x : X) (H : Heap) : Prop where
  bd : ∀ b, x.ok b → b < x.w.heap.size
  sat : ∀ p ∈ H, p.2.sat x
  own : ∀ p ∈ H, ∀ b, p.2.own b → b < x.w.heap.size ∧ ¬ x.ok b
  apart : H.Pairwise fun p q => ∀ b, p.2.own b → ¬ q.2.own b

theorem Inv.sub {x : X} {H H' : Heap} (h : Inv x H) (s : H'.Sublist H) : Inv x H' :=
  ⟨h.bd, fun p hp => h.sat p (s.subset hp), fun p hp => h.own p (s.subset hp), h.apart.sublist s⟩

theorem Inv.perm {x : X} {H H' : Heap} (h : Inv x H) (s : H'.Perm H) : Inv x H' :=
  ⟨h.bd, fun p hp => h.sat p (s.subset hp), fun p hp => h.own p (s.subset hp),
   (s.pairwise_iff (fun {p q} hpq b h1 h2 => hpq b h2 h1)).2 h.apart⟩

/-- Nothing of the owned blocks has turned; what is newly immutable is new memory. -/
theorem Inv.step {x y : X} {H : Heap} (h : Inv x H) (le : x.le y) (hb : ∀ b, y.ok b → b < y.w.heap.size)
    (hn : ∀ b, y.ok b → x.ok b ∨ x.w.heap.size ≤ b) (hs : ∀ p ∈ H, ∀ b, p.2.own b → y.w.heap[b]? = x.w.heap[b]?) : Inv y H :=
  ⟨hb, fun p hp => Ent.sat_step le (hs p hp) (h.sat p hp),
   fun p hp b ho => ⟨Nat.lt_of_lt_of_le (h.own p hp b ho).1 le.size, fun hk => (hn b hk).elim (h.own p hp b ho).2 (fun hle => Nat.not_lt.2 hle (h.own p hp b ho).1)⟩,
   h.apart⟩

structure EnvOK (n : Nat) (ds : List Deferred) (x : X) (a : Act) (E : Env) : Prop where
  defers : a.defers = ds
  size : a.tmps.size = n
  slot : ∀ t, D x (E t) (a.tmps.getD t Go.undef)

theorem EnvOK.mono {n : Nat} {ds : List Deferred} {x y : X} {a : Act} {E : Env} (h : EnvOK n ds x a E) (le : x.le y) : EnvOK n ds y a E :=
  ⟨h.defers, h.size, fun t => (h.slot t).mono le⟩

def upd (E : Env) (t : Nat) (a : A) : Env := fun s => if s = t then a else E s
def put (E : Env) : Option Nat → A → Env
  | some t, a => upd E t a
  | none, _ => E
def fits (n : Nat) : Option Nat → Prop
  | some t => t < n
  | none => True

theorem EnvOK.put {n : Nat} {ds : List Deferred} {x : X} {act : Act} {E : Env} (h : EnvOK n ds x act E) {dst : Option Nat} (hf : fits n dst)
    {a : A} {v : Value} (hv : D x a v) : EnvOK n ds x (act.put dst v) (put E dst a) := by
  cases dst with
  | none => exact h
  | some t =>
    refine ⟨h.defers, by simpa [Act.put] using h.size, fun s => ?_⟩
    have ht : t < act.tmps.size := by rw [h.size]; exact hf
    by_cases e : s = t
    · subst e
      simpa [Go.Proofs.YtakndgpdolfenaaGreat.put, upd, Act.put, Array.getD_eq_getD_getElem?, ht] using hv
    · have := h.slot s
      simpa [Go.Proofs.YtakndgpdolfenaaGreat.put, upd, e, Act.put, Array.getD_eq_getD_getElem?, Array.getElem?_setIfInBounds_ne (Ne.symm e)] using this

def fw (r : Option Nat) : Fence := { fn := fun _ => True, depth := none, alive := false, round := r }

abbrev PostQ := Exit → Env → Heap → Prop

/-- The marks that ranges over functions leave among the deferred calls, and their blocks. -/
def mk (m : Nat) : Deferred := { target := .collected m, args := #[] }
def marks (ms : List Nat) : Heap := ms.map fun m => (0, .raw m (.deferred (some [])))

def Post (n : Nat) (H0 : Heap) (Q : PostQ) (x : X) : Exit → Act → World → Prop := fun e a w' =>
  ∃ x' E' H' ms, x'.w = w' ∧ x.le x' ∧ Inv x' (H' ++ (marks ms ++ H0)) ∧ EnvOK n (ms.map mk) x' a E' ∧ Q e E' H'

theorem Post.le {n : Nat} {H0 : Heap} {Q Q' : PostQ} {x y : X} (le : x.le y) (hq : ∀ e E H, Q e E H → Q' e E H) {e : Exit} {a : Act} {w : World}
    (h : Post n H0 Q y e a w) : Post n H0 Q' x e a w := by
  obtain ⟨x', E', H', ms, h1, h2, h3, h4, h5⟩ := h
  exact ⟨x', E', H', ms, h1, le.trans h2, h3, h4, hq _ _ _ h5⟩

/-- The parameters of a walk: the program, the round that the frame is of, the number of temporaries. -/
structure Cfg where
  P : Program
  r : Option Nat
  n : Nat

def W (C : Cfg) (c : Code) (E : Env) (H : Heap) (Q : PostQ) : Prop :=
  ∀ x act H0 ms, Inv x (H ++ (marks ms ++ H0)) → EnvOK C.n (ms.map mk) x act E → c.wpIn (fw C.r) 0 C.P (Post C.n H0 Q x) act x.w

variable {C : Cfg} {E : Env} {H : Heap} {Q : PostQ}

theorem W.mono {c : Code} {Q' : PostQ} (h : W C c E H Q) (hq : ∀ e E H, Q e E H → Q' e E H) : W C c E H Q' :=
  fun x act H0 ms hi he => wpIn_mono (h x act H0 ms hi he) fun _ _ _ => Post.le (X.le.refl _) hq

theorem W.skip (h : Q .normal E H) : W C .skip E H Q :=
  fun x _ _ ms hi he => wpIn_skip ⟨x, E, H, ms, rfl, X.le.refl _, hi, he, h⟩
theorem W.exit {id : Nat} (h : Q (.exit id) E H) : W C (.exit id) E H Q :=
  fun x _ _ ms hi he => wpIn_exit ⟨x, E, H, ms, rfl, X.le.refl _, hi, he, h⟩
theorem W.ret (h : Q .ret E H) : W C .ret E H Q :=
  fun x _ _ ms hi he => wpIn_ret ⟨x, E, H, ms, rfl, X.le.refl _, hi, he, h⟩

def seqQ (C : Cfg) (b : Code) (Q : PostQ) : PostQ := fun e E H =>
  match e with
  | .normal => W C b E H Q
  | .exit i => Q (.exit i) E H
  | .ret => Q .ret E H
  | _ => False

theorem W.seq {a b : Code} (h : W C a E H (seqQ C b Q)) : W C (.seq a b) E H Q := by
  intro x act H0 ms hi he
  refine wpIn_seq (wpIn_mono (h x act H0 ms hi he) ?_)
  rintro e a' w' ⟨x', E', H', ms', rfl, hle, hi', he', hq⟩
  cases e with
  | normal => exact wpIn_mono (hq x' a' H0 ms' hi' he') fun _ _ _ => Post.le hle fun _ _ _ h => h
  | exit i => exact ⟨x', E', H', ms', rfl, hle, hi', he', hq⟩
  | ret => exact ⟨x', E', H', ms', rfl, hle, hi', he', hq⟩
  | goto l => exact hq.elim
  | panic ch => exact hq.elim
  | outgrown => exact hq.elim

def blockQ (id : Nat) (Q : PostQ) : PostQ := fun e E H =>
  match e with
  | .exit i => if i = id then Q .normal E H else Q (.exit i) E H
  | .normal => Q .normal E H
  | .ret => Q .ret E H
  | _ => False

theorem W.block {id : Nat} {c : Code} (h : W C c E H (blockQ id Q)) : W C (.block id c) E H Q := by
  intro x act H0 ms hi he
  refine wpIn_block (wpIn_mono (h x act H0 ms hi he) ?_)
  rintro e a' w' ⟨x', E', H', ms', rfl, hle, hi', he', hq⟩
  cases e with
  | normal => exact ⟨x', E', H', ms', rfl, hle, hi', he', hq⟩
  | exit i =>
    simp only [blockQ] at hq
    simp only [Exit.inBlock]
    split at hq
    · rename_i h1; simp only [h1, if_true]; exact ⟨x', E', H', ms', rfl, hle, hi', he', hq⟩
    · rename_i h1; simp only [h1, if_false]; exact ⟨x', E', H', ms', rfl, hle, hi', he', hq⟩
  | ret => exact ⟨x', E', H', ms', rfl, hle, hi', he', hq⟩
  | goto l => exact hq.elim
  | panic ch => exact hq.elim
  | outgrown => exact hq.elim

/-- What an operand is. -/
def kA : Value → A
  | .int k n => .dat (.int k n)
  | .bool b => .dat (.bool b)
  | .string s => .dat (.str s.data.toList)
  | .slice none 0 0 => .nils
  | .pointer none => .nilp
  | .nilFunc => .nilf
  | _ => .any

def ev (E : Env) : Operand → A
  | .tmp t => E t
  | .const v => kA v
  | .func f => .fn f [] []
  | .global _ => .any

theorem kA_ok (x : X) (v : Value) : D x (kA v) v := by
  unfold kA
  split <;> simp [D, RdL]

theorem ev_ok {n : Nat} {ds : List Deferred} {x : X} {act : Act} (he : EnvOK n ds x act E) (o : Operand) : D x (ev E o) (act.eval o) := by
  cases o with
  | tmp t => exact he.slot t
  | const v => exact kA_ok x v
  | global g => simp [ev, D]
  | func f => simp only [ev, Act.eval, D]; exact ⟨#[], #[], rfl, by simp [Ds], by simp [Ds]⟩

theorem W.cond {c : Operand} {a b : Code} {t : Bool} (hc : ev E c = .dat (.bool t)) (h1 : t = true → W C a E H Q) (h2 : t = false → W C b E H Q) :
    W C (.cond c a b) E H Q := by
  intro x act H0 ms hi he
  have h := ev_ok he c
  rw [hc] at h
  simp only [D, RdL] at h
  exact wpIn_cond_split h (fun e => h1 e x act H0 ms hi he) (fun e => h2 e x act H0 ms hi he)

/-- A loop: what holds at every round's head, with a number that every round lowers. -/
theorem W.loop {c : Code} (I : Nat → Env → Heap → Prop) (m : Nat) (h0 : I m E H)
    (hr : ∀ m E H, I m E H → W C c E H fun e E' H' => match e with
      | .normal => ∃ m', m' < m ∧ I m' E' H'
      | .exit i => Q (.exit i) E' H'
      | .ret => Q .ret E' H'
      | _ => False) : W C (.loop c) E H Q := by
  intro x act H0 ms hi he
  let J : Nat → Act → World → Prop := fun m a w => ∃ x' E' H' ms', x'.w = w ∧ x.le x' ∧ Inv x' (H' ++ (marks ms' ++ H0)) ∧ EnvOK C.n (ms'.map mk) x' a E' ∧ I m E' H'
  refine wpIn_loop (fun a w => ∃ m, J m a w) (fun a w => leastOf (fun m => J m a w)) ⟨m, x, E, H, ms, rfl, X.le.refl _, hi, he, h0⟩ ?_
  intro a w hj
  obtain ⟨x1, E1, H1, ms1, rfl, hle, hi1, he1, hI⟩ := (leastOf_spec hj).1
  refine wpIn_mono (hr _ E1 H1 hI x1 a H0 ms1 hi1 he1) ?_
  rintro e a' w' ⟨x', E', H', ms', rfl, hle', hi', he', hq⟩
  cases e with
  | normal =>
    obtain ⟨m', hlt, hI'⟩ := hq
    have hJ' : J m' a' x'.w := ⟨x', E', H', ms', rfl, hle.trans hle', hi', he', hI'⟩
    exact ⟨⟨m', hJ'⟩, Nat.lt_of_le_of_lt ((leastOf_spec (p := fun m => J m a' x'.w) ⟨m', hJ'⟩).2 m' hJ') hlt⟩
  | exit i => exact ⟨x', E', H', ms', rfl, hle.trans hle', hi', he', hq⟩
  | ret => exact ⟨x', E', H', ms', rfl, hle.trans hle', hi', he', hq⟩
  | goto l => exact hq.elim
  | panic ch => exact hq.elim
  | outgrown => exact hq.elim

end Go.Proofs.YtakndgpdolfenaaGreat
end

/- Comparing structs whose leaves are whole numbers, truth values and texts. -/
section
namespace Go.Proofs.YtakndgpdolfenaaGreat
variable {P : Program}
/-- The kinds of the leaves of a struct's fields, in order. -/
def lkFs (P : Program) (g : TypeId → Option (List TypeDesc)) : Nat → List Field → Option (List TypeDesc)
  | _, [] => some []
  | o, f :: r => if f.name ≠ "_" ∧ f.offset = o then
      match g f.type with
      | some ks => if ks.length = P.cellsOf f.type then (lkFs P g (o + ks.length) r).map (ks ++ ·) else none
      | none => none
    else none
def lkT (P : Program) : Nat → TypeId → Option (List TypeDesc)
  | 0, _ => none
  | d + 1, t => match P.underlying t with
    | some .bool => some [.bool]
    | some (.int k) => some [.int k]
    | some .string => some [.string]
    | some (.struct fs) => if P.stoodInHeld t then none else lkFs P (lkT P d) 0 fs.toList
    | _ => none
def fitV : TypeDesc → Value → Prop
  | .bool, .bool _ => True
  | .int k, .int k' _ => k' = k
  | .string, .string _ => True
  | _, _ => False
def FitVs : List TypeDesc → List Value → Prop
  | [], [] => True
  | k :: ks, v :: vs => fitV k v ∧ FitVs ks vs
  | _, _ => False
theorem FitVs.split : ∀ {ks ls : List TypeDesc} {vs : List Value}, FitVs (ks ++ ls) vs → FitVs ks (vs.take ks.length) ∧ FitVs ls (vs.drop ks.length)
  | [], ls, vs, h => ⟨by simp [FitVs], by simpa using h⟩
  | k :: ks, ls, [], h => by simp [FitVs] at h
  | k :: ks, ls, v :: vs, h => by
    simp only [List.cons_append, FitVs] at h
    have := FitVs.split h.2
    simp only [List.length_cons, List.take_succ_cons, List.drop_succ_cons, FitVs]
    exact ⟨⟨h.1, this.1⟩, this.2⟩
theorem FitVs.length : ∀ {ks : List TypeDesc} {vs : List Value}, FitVs ks vs → vs.length = ks.length
  | [], [], _ => rfl
  | [], _ :: _, h => by simp [FitVs] at h
  | _ :: _, [], h => by simp [FitVs] at h
  | _ :: ks, _ :: vs, h => by simp only [FitVs] at h; simp [FitVs.length h.2]
/-- A value of a type with these leaves. -/
def okV (P : Program) (t : TypeId) (ks : List TypeDesc) (a : Value) : Prop := ((∃ fs, P.underlying t = some (.struct fs)) ∧ ∃ xs, a = .agg xs ∧ FitVs ks xs.toList) ∨ (P.plainKey t = true ∧ FitVs ks [a])
def EqK (P : Program) (dd : Nat) (t : TypeId) (ks : List TypeDesc) : Prop := ∀ (w : World) (a b : Value), okV P t ks a → okV P t ks b →
  ∃ r : Bool, (Op.equalIn dd t a b).run P w = .ok r w ∧ (r = true ↔ a = b)
/-- A type that is a struct, or a leaf. -/
def kT (P : Program) (t : TypeId) (ks : List TypeDesc) : Prop := (∃ fs, P.underlying t = some (.struct fs)) ∨ (P.plainKey t = true ∧ ks.length = 1)
theorem part_okV {t : TypeId} {ks : List TypeDesc} (hk : kT P t ks) (hl : ks.length = P.cellsOf t) {xs : Array Value} {o : Nat} (hf : FitVs ks ((xs.toList.drop o).take ks.length)) (w : World) :
    ∃ a, (part t xs o).run P w = .ok a w ∧ okV P t ks a ∧ (((∃ fs, P.underlying t = some (.struct fs)) ∧ a = .agg ((xs.toList.drop o).take ks.length).toArray) ∨ (P.plainKey t = true ∧ (xs.toList.drop o).take ks.length = [a])) := by
  rcases hk with ⟨fs, hu⟩ | ⟨hp, h1⟩
  · obtain ⟨i, hi⟩ := info_of_underlying hu
    have hx : xs.extract o (o + P.cellsOf t) = ((xs.toList.drop o).take ks.length).toArray := by
      apply Array.toList_inj.1
      rw [Array.toList_extract, hl]
      simp [List.extract]
    refine ⟨.agg ((xs.toList.drop o).take ks.length).toArray, ?_, .inl ⟨⟨fs, hu⟩, _, rfl, by simpa using hf⟩, .inl ⟨⟨fs, hu⟩, rfl⟩⟩
    rw [← hx]
    simp [part, isAgg, run_underlying hu, run_sizeOf w hi]
  · have hlen := hf.length
    rw [h1] at hlen hf
    match hq : (xs.toList.drop o).take 1, hlen, hf with
    | [a], _, hf =>
      have ha : xs[o]? = some a := by
        rw [← Array.getElem?_toList]
        have : ((xs.toList.drop o).take 1)[0]? = some a := by rw [hq]; rfl
        rw [List.getElem?_take_of_lt (by omega), List.getElem?_drop] at this
        simpa using this
      refine ⟨a, run_part_plain w hp ha, .inr ⟨hp, hf⟩, .inr ⟨hp, by rw [h1]; exact hq⟩⟩
theorem plain_struct {t : TypeId} {fs : Array Field} (h : P.underlying t = some (.struct fs)) : P.plainKey t = false := by simp [Program.plainKey, h]
theorem run_eqFs {dd : Nat} {g : TypeId → Option (List TypeDesc)} (hg : ∀ t ks, g t = some ks → kT P t ks ∧ EqK P dd t ks) (w : World) (xs ys : Array Value) : ∀ (fs : List Field) (o : Nat) (ks : List TypeDesc), lkFs P g o fs = some ks →
    FitVs ks (xs.toList.drop o) → FitVs ks (ys.toList.drop o) → ∃ r : Bool, (Op.eqFields dd xs ys fs).run P w = .ok r w ∧ (r = true ↔ xs.toList.drop o = ys.toList.drop o)
  | [], o, ks, h, hx, hy => by
    simp only [lkFs, Option.some.injEq] at h
    subst h
    have h1 := hx.length
    have h2 := hy.length
    refine ⟨true, by simp [Op.eqFields], ?_⟩
    rw [List.eq_nil_of_length_eq_zero h1, List.eq_nil_of_length_eq_zero h2]
    simp
  | f :: fs, o, ks, h, hx, hy => by
    unfold lkFs at h
    split at h <;> try (cases h; done)
    rename_i hn
    split at h <;> try (cases h; done)
    rename_i ka hka
    split at h <;> try (cases h; done)
    rename_i hl
    simp only [Option.map_eq_some_iff] at h
    obtain ⟨kb, hkb, rfl⟩ := h
    obtain ⟨hn, ho⟩ := hn
    obtain ⟨hkt, heq⟩ := hg _ _ hka
    obtain ⟨x1, x2⟩ := hx.split
    obtain ⟨y1, y2⟩ := hy.split
    rw [List.drop_drop] at x2 y2
    obtain ⟨a, a1, a2, a3⟩ := part_okV hkt hl x1 w
    obtain ⟨b, b1, b2, b3⟩ := part_okV hkt hl y1 w
    obtain ⟨r, r1, r2⟩ := heq w a b a2 b2
    obtain ⟨r', r3, r4⟩ := run_eqFs hg w xs ys fs (o + ka.length) kb hkb x2 y2
    have hab : a = b ↔ (xs.toList.drop o).take ka.length = (ys.toList.drop o).take ka.length := by
      rcases a3 with ⟨⟨_, hu⟩, ea⟩ | ⟨hp, ea⟩
      · rcases b3 with ⟨_, eb⟩ | ⟨hp, eb⟩
        · rw [ea, eb]; simp
        · rw [plain_struct hu] at hp; cases hp
      · rcases b3 with ⟨⟨_, hu⟩, eb⟩ | ⟨_, eb⟩
        · rw [plain_struct hu] at hp; cases hp
        · rw [ea, eb]; simp
    have hall : xs.toList.drop o = ys.toList.drop o ↔ (xs.toList.drop o).take ka.length = (ys.toList.drop o).take ka.length ∧ xs.toList.drop (o + ka.length) = ys.toList.drop (o + ka.length) := by
      constructor
      · intro e
        refine ⟨by rw [e], ?_⟩
        rw [← List.drop_drop, ← List.drop_drop, e]
      · rintro ⟨e1, e2⟩
        rw [← List.take_append_drop ka.length (xs.toList.drop o), ← List.take_append_drop ka.length (ys.toList.drop o), e1, List.drop_drop, List.drop_drop, e2]
    rw [ho.symm] at a1 b1
    simp only [Op.eqFields, hn, ne_eq, not_false_eq_true, if_true, Sem.run_bind, a1, b1, r1, Result.andThen_ok]
    cases r
    · refine ⟨false, by simp, ?_⟩
      rw [hall, ← hab, ← r2]
      simp
    · refine ⟨r', by simpa using r3, ?_⟩
      rw [r4, hall, ← hab, ← r2]
      simp
theorem eq_leaf {d : Nat} {t : TypeId} {k : TypeDesc} (hu : P.underlying t = some k) (hk : k = .bool ∨ (∃ q, k = .int q) ∨ k = .string) : kT P t [k] ∧ EqK P (d + 1) t [k] := by
  have hp : P.plainKey t = true := by rcases hk with rfl | ⟨q, rfl⟩ | rfl <;> simp [Program.plainKey, hu]
  refine ⟨.inr ⟨hp, rfl⟩, ?_⟩
  intro w a b ha hb
  rcases ha with ⟨⟨_, h⟩, _⟩ | ⟨_, ha⟩
  · rw [plain_struct h] at hp; cases hp
  rcases hb with ⟨⟨_, h⟩, _⟩ | ⟨_, hb⟩
  · rw [plain_struct h] at hp; cases hp
  simp only [FitVs, and_true] at ha hb
  rcases hk with rfl | ⟨q, rfl⟩ | rfl
  · cases a <;> simp only [fitV] at ha
    cases b <;> simp only [fitV] at hb
    rename_i a b
    exact ⟨a == b, by simp [Op.equalIn, run_underlying hu], by simp⟩
  · cases a <;> simp only [fitV] at ha
    cases b <;> simp only [fitV] at hb
    subst ha
    subst hb
    rename_i a _ b
    exact ⟨a == b, by simp [Op.equalIn, run_underlying hu], by simp⟩
  · cases a <;> simp only [fitV] at ha
    cases b <;> simp only [fitV] at hb
    rename_i a b
    exact ⟨a.toList == b.toList, run_equalIn_string w d t a b hu, by simp [ByteArray.toList_eq]; exact ⟨fun h => ByteArray.ext h, fun h => h ▸ rfl⟩⟩
theorem lkT_ok (d : Nat) : ∀ (m : Nat) (t : TypeId) (ks : List TypeDesc), lkT P m t = some ks → kT P t ks ∧ EqK P (d + m) t ks
  | 0, _, _, h => by cases h
  | m + 1, t, ks, h => by
    unfold lkT at h
    split at h <;> try (cases h; done)
    · rename_i hu
      simp only [Option.some.injEq] at h
      subst h
      exact eq_leaf hu (.inl rfl)
    · rename_i q hu
      simp only [Option.some.injEq] at h
      subst h
      exact eq_leaf hu (.inr (.inl ⟨q, rfl⟩))
    · rename_i hu
      simp only [Option.some.injEq] at h
      subst h
      exact eq_leaf hu (.inr (.inr rfl))
    · rename_i fs hu
      split at h <;> try (cases h; done)
      rename_i hst
      refine ⟨.inl ⟨fs, hu⟩, ?_⟩
      intro w a b ha hb
      obtain ⟨xs, rfl, hx⟩ : ∃ xs, a = .agg xs ∧ FitVs ks xs.toList := by
        rcases ha with ⟨_, h⟩ | ⟨hp, _⟩
        · exact h
        · rw [plain_struct hu] at hp; cases hp
      obtain ⟨ys, rfl, hy⟩ : ∃ xs, b = .agg xs ∧ FitVs ks xs.toList := by
        rcases hb with ⟨_, h⟩ | ⟨hp, _⟩
        · exact h
        · rw [plain_struct hu] at hp; cases hp
      have hfs : P.fieldsOf t = fs := by simp [Program.fieldsOf, hu]
      obtain ⟨r, hr, hiff⟩ := run_eqFs (dd := d + m) (lkT_ok d m) w xs ys fs.toList 0 ks h (by simpa using hx) (by simpa using hy)
      refine ⟨r, ?_, ?_⟩
      · rw [show d + (m + 1) = (d + m) + 1 from rfl, run_equalIn_struct w (d + m) t xs ys (by rw [hfs]; exact hu) (by simpa using hst), hfs]
        exact hr
      · rw [hiff]
        simp
/-- The kinds of the leaves of a struct that can be compared. -/
def cmpT (P : Program) (t : TypeId) : Option (List TypeDesc) := match P.underlying t with
  | some (.struct _) => if P.eqGuardType P.depth t then none else lkT P 6 t
  | _ => none
def fitL : TypeDesc → L → Bool
  | .bool, .bool _ => true
  | .int k, .int k' _ => k' == k
  | .string, .str _ => true
  | _, _ => false
def fitLs : List TypeDesc → List L → Bool
  | [], [] => true
  | k :: ks, l :: ls => fitL k l && fitLs ks ls
  | _, _ => false
def leq1 : L → L → Bool
  | .int _ a, .int _ b => a == b
  | .bool a, .bool b => a == b
  | .str a, .str b => a == b
  | _, _ => false
def leqs : List L → List L → Bool
  | [], [] => true
  | a :: az, b :: bs => leq1 a b && leqs az bs
  | _, _ => false
theorem fitL_ok {x : X} {k : TypeDesc} {l : L} {v : Value} (h : fitL k l = true) (hv : RdL x l v) : fitV k v ∧ v = kv l := by
  cases l <;> cases k <;> simp [fitL] at h <;> simp only [RdL] at hv <;> subst hv <;> simp [fitV, kv, h]
theorem fitLs_ok {x : X} : ∀ {ks : List TypeDesc} {ls : List L} {vs : List Value}, fitLs ks ls = true → RdLs x ls vs → FitVs ks vs
  | [], [], [], _, _ => by simp [FitVs]
  | [], _ :: _, _, h, _ => by simp [fitLs] at h
  | _ :: _, [], _, h, _ => by simp [fitLs] at h
  | [], [], _ :: _, _, hv => by simp [RdLs] at hv
  | k :: ks, l :: ls, [], _, hv => by simp [RdLs] at hv
  | k :: ks, l :: ls, v :: vs, h, hv => by
    simp only [fitLs, Bool.and_eq_true] at h
    simp only [RdLs] at hv
    exact ⟨(fitL_ok h.1 hv.1).1, fitLs_ok h.2 hv.2⟩
theorem leqs_ok {x : X} : ∀ {ks : List TypeDesc} {ls ms : List L} {vs us : List Value}, fitLs ks ls = true → fitLs ks ms = true → RdLs x ls vs → RdLs x ms us → (leqs ls ms = true ↔ vs = us)
  | [], [], [], [], [], _, _, _, _ => by simp [leqs]
  | [], _ :: _, _, _, _, h, _, _, _ => by simp [fitLs] at h
  | [], _, _ :: _, _, _, _, h, _, _ => by simp [fitLs] at h
  | _ :: _, [], _, _, _, h, _, _, _ => by simp [fitLs] at h
  | _ :: _, _, [], _, _, _, h, _, _ => by simp [fitLs] at h
  | [], [], [], _ :: _, _, _, _, h, _ => by simp [RdLs] at h
  | [], [], [], _, _ :: _, _, _, _, h => by simp [RdLs] at h
  | k :: ks, l :: ls, _ :: _, [], _, _, _, h, _ => by simp [RdLs] at h
  | k :: ks, l :: ls, _ :: _, _, [], _, _, _, h => by simp [RdLs] at h
  | k :: ks, l :: ls, m :: ms, v :: vs, u :: us, h1, h2, h3, h4 => by
    simp only [fitLs, Bool.and_eq_true] at h1 h2
    simp only [RdLs] at h3 h4
    have ih := leqs_ok h1.2 h2.2 h3.2 h4.2
    have e1 := (fitL_ok h1.1 h3.1).2
    have e2 := (fitL_ok h2.1 h4.1).2
    simp only [leqs, Bool.and_eq_true, ih, List.cons.injEq]
    refine and_congr ?_ Iff.rfl
    subst e1
    subst e2
    have a1 := h1.1
    have a2 := h2.1
    cases k <;> cases l <;> simp [fitL] at a1 <;> cases m <;> simp [fitL] at a2 <;> simp [leq1, kv, a1, a2]
theorem struct_eq {t : TypeId} {ks : List TypeDesc} (ht : cmpT P t = some ks) {x : X} {ls ms : List L} (h1 : fitLs ks ls = true) (h2 : fitLs ks ms = true) {vs us : Array Value} (hv : RdLs x ls vs.toList) (hu : RdLs x ms us.toList) (ox oy : Operand) :
    (do eqGuard .eql t ox oy (.agg vs) (.agg us); binOp .eql t (.agg vs) (.agg us) : Sem Value).run P x.w = .ok (.bool (leqs ls ms)) x.w ∧
    (do eqGuard .neq t ox oy (.agg vs) (.agg us); binOp .neq t (.agg vs) (.agg us) : Sem Value).run P x.w = .ok (.bool (!leqs ls ms)) x.w := by
  unfold cmpT at ht
  split at ht <;> try (cases ht; done)
  rename_i fs hut
  split at ht <;> try (cases ht; done)
  rename_i hg
  obtain ⟨_, heq⟩ := lkT_ok (10000 - 6) 6 t ks ht
  obtain ⟨r, hr, hiff⟩ := heq x.w (.agg vs) (.agg us) (.inl ⟨⟨fs, hut⟩, _, rfl, fitLs_ok h1 hv⟩) (.inl ⟨⟨fs, hut⟩, _, rfl, fitLs_ok h2 hu⟩)
  have hl := leqs_ok h1 h2 hv hu
  have er : r = leqs ls ms := by
    rw [Bool.eq_iff_iff, hiff, hl]
    simp [Array.toList_inj]
  have hr' : (Op.equal t (.agg vs) (.agg us)).run P x.w = .ok (leqs ls ms) x.w := by
    rw [← er]
    exact hr
  have hg' : P.eqGuardType P.depth t = false := by simpa using hg
  constructor
  · simp [eqGuard, binOp, hr', hg']
  · simp [eqGuard, binOp, hr', hg']
end Go.Proofs.YtakndgpdolfenaaGreat
end

/- Operations that only read or make immutable memory: what they come to on abstract values, and that this is so. -/
section
namespace Go.Proofs.YtakndgpdolfenaaGreat

def tk (P : Program) (t : TypeId) : Nat :=
  match P.underlying t, P.info? t with
  | some (.struct _), some _ => 2
  | some (.array _ _), some _ => 2
  | some _, some _ => 1
  | _, _ => 0
def foff (P : Program) (t : TypeId) (k : Nat) : Option (Nat × TypeId) :=
  match P.underlying t with
  | some (.struct fs) => (fs[k]?).map fun f => (f.offset, f.type)
  | _ => none
def slT (P : Program) (t : TypeId) : Option TypeId :=
  match P.underlying t with
  | some (.slice e) => some e
  | _ => none
def arT (P : Program) (t : TypeId) : Option (Nat × TypeId) :=
  match P.underlying t with
  | some (.array n e) => some (n, e)
  | _ => none
def isStr (P : Program) (t : TypeId) : Bool :=
  match P.underlying t with
  | some .string => true
  | _ => false
def isBool (P : Program) (t : TypeId) : Bool :=
  match P.underlying t with
  | some .bool => true
  | _ => false
def intT (P : Program) (t : TypeId) : Option IntKind :=
  match P.underlying t with
  | some (.int k) => some k
  | _ => none
abbrev szT (P : Program) (t : TypeId) : Nat := P.cellsOf t

variable {P : Program}

theorem slT_und {t e : TypeId} (h : slT P t = some e) : P.underlying t = some (.slice e) := by
  unfold slT at h; split at h <;> simp_all
theorem arT_und {t e : TypeId} {n : Nat} (h : arT P t = some (n, e)) : P.underlying t = some (.array n e) := by
  unfold arT at h; split at h <;> simp_all
theorem isStr_und {t : TypeId} (h : isStr P t = true) : P.underlying t = some .string := by
  unfold isStr at h; split at h <;> simp_all
theorem isBool_und {t : TypeId} (h : isBool P t = true) : P.underlying t = some .bool := by
  unfold isBool at h; split at h <;> simp_all
theorem intT_und {t : TypeId} {k : IntKind} (h : intT P t = some k) : P.underlying t = some (.int k) := by
  unfold intT at h; split at h <;> simp_all
theorem foff_und {t k o ft : Nat} (h : foff P t k = some (o, ft)) : ∃ fs f, P.underlying t = some (.struct fs) ∧ fs[k]? = some f ∧ f.offset = o ∧ f.type = ft := by
  unfold foff at h
  split at h
  · rename_i fs hu
    simp only [Option.map_eq_some_iff, Prod.mk.injEq] at h
    obtain ⟨f, h1, h2, h3⟩ := h
    exact ⟨fs, f, hu, h1, h2, h3⟩
  · simp at h
theorem tk_info {t : TypeId} (h : tk P t ≠ 0) : ∃ i, P.info? t = some i := by
  unfold tk at h; split at h <;> simp_all
theorem tk_one {t : TypeId} (h : tk P t = 1) : ∃ d i, P.underlying t = some d ∧ P.info? t = some i ∧ (∀ f, d ≠ .struct f) ∧ (∀ n e, d ≠ .array n e) := by
  unfold tk at h
  split at h <;> try (simp at h; done)
  rename_i d i h1 h2 h3 h4
  exact ⟨d, i, h3, h4, fun f e => h1 f e, fun n e' e => h2 n e' e⟩
theorem tk_two {t : TypeId} (h : tk P t = 2) : ∃ d i, P.underlying t = some d ∧ P.info? t = some i ∧ ((∃ f, d = .struct f) ∨ ∃ n e, d = .array n e) := by
  unfold tk at h
  split at h <;> try (simp at h; done)
  · rename_i f i h3 h4; exact ⟨_, i, h3, h4, .inl ⟨f, rfl⟩⟩
  · rename_i n e i h3 h4; exact ⟨_, i, h3, h4, .inr ⟨n, e, rfl⟩⟩

theorem run_isAgg1 {t : TypeId} (h : tk P t = 1) (w : World) : (isAgg t).run P w = .ok false w := by
  obtain ⟨d, i, h1, _, h3, h4⟩ := tk_one h
  unfold isAgg
  rw [Sem.run_bind, run_underlying h1]
  simp only [Result.andThen_ok]
  cases d <;> first | rfl | exact absurd rfl (h3 _) | exact absurd rfl (h4 _ _)
theorem run_isAgg2 {t : TypeId} (h : tk P t = 2) (w : World) : (isAgg t).run P w = .ok true w := by
  obtain ⟨d, i, h1, _, h3⟩ := tk_two h
  unfold isAgg
  rw [Sem.run_bind, run_underlying h1]
  simp only [Result.andThen_ok]
  rcases h3 with ⟨f, rfl⟩ | ⟨n, e, rfl⟩ <;> rfl
theorem run_sizeOf' {t : TypeId} (h : tk P t ≠ 0) (w : World) : (sizeOf t).run P w = .ok (szT P t) w := by
  obtain ⟨i, hi⟩ := tk_info h
  simp [sizeOf, run_typeInfo _ hi, szT, Program.cellsOf, hi]

theorem add_none (b off j : Nat) : (⟨b, off, none⟩ : Addr).add j = ⟨b, off + j, none⟩ := by
  unfold Addr.add; split
  · rename_i h; simp [h]
  · rfl

theorem run_loadVar1 {t : TypeId} (h : tk P t = 1) {w : World} {a : Addr} {v : Value} (hc : w.cell? a = some v) : (loadVar t a).run P w = .ok v w := by
  unfold loadVar
  rw [Sem.run_bind, run_isAgg1 h]
  simp [hc]
theorem run_loadVar2 {t : TypeId} (h : tk P t = 2) {w : World} {b off : Nat} {vs : List Value} (hl : vs.length = szT P t)
    (hc : ∀ j v, vs[j]? = some v → w.cell? ⟨b, off + j, none⟩ = some v) : (loadVar t ⟨b, off, none⟩).run P w = .ok (.agg vs.toArray) w := by
  unfold loadVar
  rw [Sem.run_bind, run_isAgg2 h]
  simp only [Result.andThen_ok, if_true, Sem.run_bind, run_sizeOf' (show tk P t ≠ 0 by omega), ← hl]
  rw [run_loadCells_list w ⟨b, off, none⟩ vs (fun j v hj => by rw [add_none]; exact hc j v hj)]
  rfl

/-- From a world to a later one in which no old block has turned. -/
structure Grow (x y : X) : Prop where
  le : x.le y
  new : ∀ b, y.ok b → x.ok b ∨ x.w.heap.size ≤ b
  bd : (∀ b, x.ok b → b < x.w.heap.size) → ∀ b, y.ok b → b < y.w.heap.size
  old : ∀ b, b < x.w.heap.size → y.w.heap[b]? = x.w.heap[b]?

theorem Grow.refl (x : X) : Grow x x := ⟨X.le.refl x, fun _ h => .inl h, fun h => h, fun _ _ => rfl⟩
theorem Grow.trans {x y z : X} (h : Grow x y) (k : Grow y z) : Grow x z :=
  ⟨h.le.trans k.le, fun b hb => (k.new b hb).elim (h.new b) (fun hle => .inr (Nat.le_trans h.le.size hle)), fun hx => k.bd (h.bd hx),
   fun b hb => (k.old b (Nat.lt_of_lt_of_le hb h.le.size)).trans (h.old b hb)⟩
theorem Inv.grow {x y : X} {H : Heap} (h : Inv x H) (g : Grow x y) : Inv y H :=
  h.step g.le (g.bd h.bd) g.new fun p hp b ho => g.old b (h.own p hp b ho).1

/-- A new immutable block. -/
def X.new (x : X) (o : Obj) : X := ⟨x.w.alloc o, fun b => x.ok b ∨ b = x.w.heap.size⟩
theorem heap_alloc_old (w : World) (o : Obj) {b : Nat} (h : b < w.heap.size) : (w.alloc o).heap[b]? = w.heap[b]? := by
  show (w.heap.push o)[b]? = _
  rw [Array.getElem?_push, if_neg (by omega)]
theorem heap_alloc_new (w : World) (o : Obj) : (w.alloc o).heap[w.heap.size]? = some o := by
  show (w.heap.push o)[w.heap.size]? = _
  simp
theorem X.new_grow (x : X) (o : Obj) (hb : ∀ b, x.ok b → b < x.w.heap.size) : Grow x (x.new o) :=
  ⟨⟨fun b h => ⟨.inl h, heap_alloc_old _ _ (hb b h)⟩, rfl, rfl, rfl, by simp [X.new], Nat.le_refl _⟩, fun b h => h.elim .inl fun e => .inr (Nat.le_of_eq e.symm),
   fun hx b h => by rcases h with h | h; exact Nat.lt_of_lt_of_le (hx b h) (by simp [X.new]); subst h; simp [X.new],
   fun b h => heap_alloc_old _ _ h⟩

def X.drew (x : X) : X := ⟨x.w.drew, x.ok⟩
theorem X.drew_grow (x : X) : Grow x x.drew := ⟨⟨fun _ h => ⟨h, rfl⟩, rfl, rfl, rfl, Nat.le_refl _, Nat.le_succ _⟩, fun _ h => .inl h, fun h => h, fun _ _ => rfl⟩

/-- A row of new cells reads as the data. -/
theorem rdCells_new {x : X} {b : Nat} {c : Array Value} {ty : TypeId} {fr : Nat × Nat} (hok : x.ok b) (hh : x.w.heap[b]? = some (.cells c ty fr)) :
    ∀ (ls : List L) (vs : List Value) (off : Nat), RdLs x ls vs → (∀ j v, vs[j]? = some v → c[off + j]? = some v) → RdCells x ls b off
  | [], _, _, _, _ => by simp [RdCells]
  | l :: ls, [], _, h, _ => by simp [RdLs] at h
  | l :: ls, v :: vs, off, h, hc => by
    simp only [RdLs] at h
    simp only [RdCells]
    refine ⟨⟨hok, v, ?_, h.1⟩, rdCells_new hok hh ls vs (off + 1) h.2 fun j u hj => ?_⟩
    · have := hc 0 v (by simp)
      simp only [Nat.add_zero] at this
      simp [World.cell?, hh, this]
    · have := hc (j + 1) u (by simpa using hj)
      rwa [Nat.add_assoc, Nat.add_comm 1 j]

/-- The flat cells of a value that is data. -/
def asL : A → Option (List L)
  | .dat l => some [l]
  | .record ls => some ls
  | .nils => some [.sl []]
  | _ => none

theorem RdL.cells {x : X} {l : L} {v : Value} (h : RdL x l v) : v.cells = #[v] := by
  cases l <;> simp only [RdL] at h
  · subst h; rfl
  · subst h; rfl
  · subst h; rfl
  · rcases h with ⟨rfl, _⟩ | ⟨b, off, cap, rfl, _, _⟩ | ⟨a, rfl, _⟩ <;> rfl

theorem asL_ok {x : X} {a : A} {ls : List L} {v : Value} (h : asL a = some ls) (hv : D x a v) : RdLs x ls v.cells.toList := by
  cases a <;> simp only [asL, Option.some.injEq, reduceCtorEq] at h
  · subst h
    simp only [D] at hv
    rw [hv.cells]
    simpa [RdLs] using hv
  · subst h
    simp only [D] at hv
    obtain ⟨vs, rfl, hr⟩ := hv
    exact hr
  · subst h
    simp only [D] at hv
    subst hv
    simp [Value.cells, RdLs, RdL]

def toLs : List A → Option (List L)
  | [] => some []
  | .dat l :: r => (toLs r).map (l :: ·)
  | .nils :: r => (toLs r).map (.sl [] :: ·)
  | .owd _ xs :: r => (toLs r).map (.sl xs :: ·)
  | _ :: _ => none
def packA (az : List A) : A :=
  match toLs az with
  | some ls => .record ls
  | none => .agg az

theorem toLs_ok {x : X} : ∀ {az : List A} {ls : List L} {vs : List Value}, toLs az = some ls → Ds x az vs → RdLs x ls vs
  | [], ls, [], h, _ => by simp [toLs] at h; subst h; simp [RdLs]
  | [], ls, _ :: _, _, h => by simp [Ds] at h
  | _ :: _, _, [], _, h => by simp [Ds] at h
  | a :: az, ls, v :: vs, h, hd => by
    simp only [Ds] at hd
    cases a <;> simp only [toLs, Option.map_eq_some_iff, reduceCtorEq] at h
    · obtain ⟨ls', h1, rfl⟩ := h
      simp only [RdLs]
      exact ⟨by simpa [D] using hd.1, toLs_ok h1 hd.2⟩
    · obtain ⟨ls', h1, rfl⟩ := h
      simp only [RdLs]
      have := hd.1
      simp only [D] at this
      exact ⟨by simp [RdL, this], toLs_ok h1 hd.2⟩
    · obtain ⟨ls', h1, rfl⟩ := h
      simp only [RdLs]
      have := hd.1
      simp only [D] at this
      exact ⟨this.2, toLs_ok h1 hd.2⟩

theorem packA_ok {x : X} {az : List A} {vs : Array Value} (h : Ds x az vs.toList) : D x (packA az) (.agg vs) := by
  unfold packA
  split
  · rename_i ls hl
    simp only [D]; exact ⟨vs, rfl, toLs_ok hl h⟩
  · simp only [D]; exact ⟨vs, rfl, h⟩

def hasNil : List A → Bool
  | [] => false
  | .nils :: _ => true
  | _ :: r => hasNil r
/-- A struct that was made: with slices that are known to be nil, cell by cell. -/
def packB (az : List A) : A := match hasNil az with
  | true => .agg az
  | false => packA az
theorem packB_ok {x : X} {az : List A} {vs : Array Value} (h : Ds x az vs.toList) : D x (packB az) (.agg vs) := by
  unfold packB
  split
  · simp only [D]; exact ⟨vs, rfl, h⟩
  · exact packA_ok h
/-- What is stored: as it is. -/
def stR : A → Prop × A
  | .cond p a => (p, a)
  | .nn xs => (True, .dat (.sl xs))
  | .clip xs => (True, .dat (.sl xs))
  | .owd _ xs => (True, .dat (.sl xs))
  | a => (True, a)
theorem stR_ok {x : X} {a : A} {v : Value} (h : D x a v) (hp : (stR a).1) : D x (stR a).2 v := by
  cases a <;> simp only [stR] at hp ⊢ <;> try exact h
  · simp only [D] at h ⊢
    exact h.1
  · simp only [D] at h
    exact h.1 hp
  · simp only [D] at h ⊢
    exact h.1
  · simp only [D] at h ⊢
    exact h.2
def nilsA (az : List A) : A := match hasNil az with
  | true => packA az
  | false => .agg az
def st : A → Prop × A
  | .cond p a => (p, a)
  | .nn xs => (True, .dat (.sl xs))
  | .clip xs => (True, .dat (.sl xs))
  | .owd _ xs => (True, .dat (.sl xs))
  | .agg az => (True, nilsA az)
  | a => (True, a)
theorem st_ok {x : X} {a : A} {v : Value} (h : D x a v) (hp : (st a).1) : D x (st a).2 v := by
  cases a <;> simp only [st] at hp ⊢ <;> try exact h
  · simp only [D] at h ⊢
    exact h.1
  · unfold nilsA
    split
    · simp only [D] at h
      obtain ⟨vs, rfl, h2⟩ := h
      exact packA_ok h2
    · exact h
  · simp only [D] at h
    exact h.1 hp
  · simp only [D] at h ⊢
    exact h.1
  · simp only [D] at h ⊢
    exact h.2

def inR (k : IntKind) (n : Int) : Prop := k.wrap n = n

def loadA (P : Program) (t : TypeId) : A → Option (Prop × A)
  | .rptr ls => match tk P t with
    | 2 => some (szT P t ≤ ls.length, .record (ls.take (szT P t)))
    | 1 => match ls with
      | l :: _ => some (True, .dat l)
      | [] => none
    | _ => none
  | _ => none

theorem loadA_ok {t : TypeId} {a a' : A} {p : Prop} (h : loadA P t a = some (p, a')) (hp : p) {x : X} {v : Value} (hv : D x a v) :
    ∃ u, (Instr.loadAt t v).run P x.w = .ok u x.w ∧ D x a' u := by
  unfold loadA at h
  split at h <;> try (simp at h; done)
  rename_i ls
  simp only [D] at hv
  obtain ⟨b, off, rfl, hr⟩ := hv
  split at h
  · rename_i ht
    simp only [Option.some.injEq, Prod.mk.injEq] at h
    obtain ⟨rfl, rfl⟩ := h
    obtain ⟨vs, h1, h2⟩ := (hr.take (szT P t)).vals
    refine ⟨.agg vs.toArray, ?_, ?_⟩
    · have hl : vs.length = szT P t := by rw [h1.length, List.length_take]; omega
      simp [Instr.loadAt, Instr.sureAddr, run_loadVar2 ht hl h2]
    · simp only [D]; exact ⟨_, rfl, by simpa using h1⟩
  · rename_i ht
    split at h <;> try (simp at h; done)
    simp only [Option.some.injEq, Prod.mk.injEq] at h
    obtain ⟨_, rfl⟩ := h
    simp only [RdCells] at hr
    obtain ⟨⟨_, u, hc, hu⟩, _⟩ := hr
    exact ⟨u, by simp [Instr.loadAt, Instr.sureAddr, run_loadVar1 ht hc], by simpa [D] using hu⟩
  · simp at h

def fieldA (P : Program) (t : TypeId) (k : Nat) : A → Option (Prop × A)
  | .rptr ls => match foff P t k with
    | some (o, ft) => some (tk P ft ≠ 0 ∧ szT P ft ≠ 0, .rptr (ls.drop o))
    | none => none
  | .ptr g b off => match foff P t k with
    | some (o, ft) => some (tk P ft ≠ 0 ∧ szT P ft ≠ 0, .ptr g b (off + o))
    | none => none
  | .eptr g h sz i j => match foff P t k with
    | some (o, ft) => some (tk P ft ≠ 0 ∧ szT P ft ≠ 0, .eptr g h sz i (j + o))
    | none => none
  | _ => none

theorem run_fieldAt {t k o ft : Nat} (h : foff P t k = some (o, ft)) (h1 : tk P ft ≠ 0) (h2 : szT P ft ≠ 0) (w : World) (b off : Nat) :
    (Instr.fieldAt t (.pointer (some ⟨b, off, none⟩)) k).run P w = .ok (.pointer (some ⟨b, off + o, none⟩)) w := by
  obtain ⟨fs, f, hu, hf, rfl, rfl⟩ := foff_und h
  simp [Instr.fieldAt, run_underlying hu, hf, Instr.sureAddr, fieldPlace, run_sizeOf' h1, h2, add_none]

theorem fieldA_ok {t k : Nat} {a a' : A} {p : Prop} (h : fieldA P t k a = some (p, a')) (hp : p) {x : X} {v : Value} (hv : D x a v) :
    ∃ u, (Instr.fieldAt t v k).run P x.w = .ok u x.w ∧ D x a' u := by
  unfold fieldA at h
  split at h <;> try (simp at h; done)
  all_goals
    split at h <;> try (simp at h; done)
    rename_i o ft hf
    simp only [Option.some.injEq, Prod.mk.injEq] at h
    obtain ⟨rfl, rfl⟩ := h
    simp only [D] at hv
  · obtain ⟨b, off, rfl, hr⟩ := hv
    exact ⟨_, run_fieldAt hf hp.1 hp.2 x.w b off, by simp only [D]; exact ⟨b, off + o, rfl, hr.drop o⟩⟩
  · subst hv
    exact ⟨_, run_fieldAt hf hp.1 hp.2 x.w _ _, by simp only [D]⟩
  · obtain ⟨b, off, n, cap, e, rfl⟩ := hv
    exact ⟨_, run_fieldAt hf hp.1 hp.2 x.w _ _, by simp only [D]; exact ⟨b, off, n, cap, e, by simp [Nat.add_assoc]⟩⟩

/-- All rows are of one length. -/
def rl (xs : List (List L)) (n : Nat) : Prop := ∀ r ∈ xs, r.length = n
theorem rl_map {α : Type} {f : α → List L} {n : Nat} (h : ∀ a, (f a).length = n) (xs : List α) : rl (xs.map f) n = True := by
  simp only [rl, eq_iff_iff, iff_true]
  intro r hr
  obtain ⟨a, _, rfl⟩ := List.mem_map.1 hr
  exact h a
theorem rl_take {xs : List (List L)} {n k : Nat} (h : rl xs n = True) : rl (xs.take k) n = True := by
  simp only [eq_iff_iff, iff_true] at h ⊢
  exact fun r hr => h r (List.mem_of_mem_take hr)
theorem rl_drop {xs : List (List L)} {n k : Nat} (h : rl xs n = True) : rl (xs.drop k) n = True := by
  simp only [eq_iff_iff, iff_true] at h ⊢
  exact fun r hr => h r (List.mem_of_mem_drop hr)
theorem rl_app {xs ys : List (List L)} {n : Nat} (h : rl xs n = True) (k : rl ys n = True) : rl (xs ++ ys) n = True := by
  simp only [eq_iff_iff, iff_true] at h k ⊢
  intro r hr
  rcases List.mem_append.1 hr with hr | hr
  · exact h r hr
  · exact k r hr
theorem rl_nil (n : Nat) : rl [] n = True := by simp [rl]
theorem rl_cons (r : List L) (rs : List (List L)) (n : Nat) : rl (r :: rs) n = (r.length = n ∧ rl rs n) := by simp [rl]

def indexA (P : Program) (t : TypeId) : A → A → Option (Prop × A)
  | .dat (.sl xs), .dat (.int _ n) => match slT P t with
    | some e => some (tk P e ≠ 0 ∧ rl xs (szT P e) ∧ 0 ≤ n ∧ n < xs.length, .rptr ((xs[n.toNat]?).getD []))
    | none => none
  | .rptr ls, .dat (.int _ n) => match arT P t with
    | some (len, e) => some (tk P e ≠ 0 ∧ 0 ≤ n ∧ n < len, .rptr (ls.drop (n.toNat * szT P e)))
    | none => none
  | .ptr g b off, .dat (.int _ n) => match arT P t with
    | some (len, e) => some (tk P e ≠ 0 ∧ 0 ≤ n ∧ n < len, .ptr g b (off + n.toNat * szT P e))
    | none => none
  | _, _ => none

theorem indexA_ok {t : Nat} {a i a' : A} {p : Prop} (h : indexA P t a i = some (p, a')) (hp : p) {x : X} {v u : Value} (hv : D x a v) (hu : D x i u) :
    ∃ r, (Instr.indexAt t v u).run P x.w = .ok r x.w ∧ D x a' r := by
  unfold indexA at h
  split at h <;> try (simp at h; done)
  all_goals
    simp only [D, RdL] at hu
    subst hu
    split at h <;> try (simp at h; done)
    simp only [Option.some.injEq, Prod.mk.injEq] at h
    obtain ⟨rfl, rfl⟩ := h
  · rename_i xs kk n o e he
    obtain ⟨h1, h2, h3, h4⟩ := hp
    simp only [D, RdL] at hv
    rcases hv with ⟨_, rfl⟩ | ⟨b, off, cap, rfl, _, hr⟩ | ⟨a, _, rfl⟩
    rotate_right
    · simp at h4; omega
    · simp at h4; omega
    · have hn : n.toNat < xs.length := by omega
      obtain ⟨r, hr1⟩ : ∃ r, xs[n.toNat]? = some r := ⟨_, List.getElem?_eq_getElem hn⟩
      have := RdRows.get n.toNat xs b off r h2 hr hr1
      refine ⟨.pointer (some ⟨b, off + n.toNat * szT P e, none⟩), ?_, ?_⟩
      · simp [Instr.indexAt, asIntOf, run_underlying (slT_und he), h3, h4, run_sizeOf' h1, add_none]
      · simp only [D, hr1, Option.getD_some]; exact ⟨b, _, rfl, this⟩
  · rename_i ls kk n o len e he
    obtain ⟨h1, h3, h4⟩ := hp
    simp only [D] at hv
    obtain ⟨b, off, rfl, hr⟩ := hv
    refine ⟨.pointer (some ⟨b, off + n.toNat * szT P e, none⟩), ?_, ?_⟩
    · simp [Instr.indexAt, asIntOf, run_underlying (arT_und he), Instr.sureAddr, h3, h4, run_sizeOf' h1, add_none]
    · simp only [D]; exact ⟨b, _, rfl, hr.drop _⟩
  · rename_i g b off kk n o len e he
    obtain ⟨h1, h3, h4⟩ := hp
    simp only [D] at hv
    subst hv
    refine ⟨.pointer (some ⟨b, off + n.toNat * szT P e, none⟩), ?_, by simp only [D]⟩
    simp [Instr.indexAt, asIntOf, run_underlying (arT_und he), Instr.sureAddr, h3, h4, run_sizeOf' h1, add_none]

def lenA (P : Program) (t : TypeId) : A → Option (Prop × A)
  | .dat (.sl xs) => some ((slT P t).isSome = true, .dat (.int .i64 xs.length))
  | .nils => some ((slT P t).isSome = true, .dat (.int .i64 0))
  | .dat (.str s) => some (isStr P t = true, .dat (.int .i64 s.length))
  | _ => none

theorem lenA_ok {t ty : Nat} {ts : Array TypeId} {a a' : A} {p : Prop} (h : lenA P t a = some (p, a')) (hp : p) {x : X} {v : Value} (hv : D x a v) (ht : ts[0]? = some t) :
    ∃ u, (Builtin.len_ ts ty #[v]).run P x.w = .ok u x.w ∧ D x a' u := by
  unfold lenA at h
  split at h <;> try (simp at h; done)
  all_goals
    simp only [Option.some.injEq, Prod.mk.injEq] at h
    obtain ⟨rfl, rfl⟩ := h
    simp only [D, RdL] at hv
  · obtain ⟨e, he⟩ := Option.isSome_iff_exists.1 hp
    rcases hv with ⟨rfl, rfl⟩ | ⟨b, off, cap, rfl, _, hr⟩ | ⟨a, rfl, rfl⟩
    rotate_right
    · exact ⟨.int .i64 0, by simp [Builtin.len_, ht, run_underlying (slT_und he), goInt], by simp [D, RdL]⟩
    · exact ⟨.int .i64 0, by simp [Builtin.len_, ht, run_underlying (slT_und he), goInt], by simp [D, RdL]⟩
    · rename_i xs _
      exact ⟨.int .i64 xs.length, by simp [Builtin.len_, ht, run_underlying (slT_und he), goInt], by simp [D, RdL]⟩
  · obtain ⟨e, he⟩ := Option.isSome_iff_exists.1 hp
    subst hv
    exact ⟨.int .i64 0, by simp [Builtin.len_, ht, run_underlying (slT_und he), goInt], by simp [D, RdL]⟩
  · rename_i s
    subst hv
    refine ⟨.int .i64 s.length, ?_, by simp [D, RdL]⟩
    have hs : (ByteArray.mk s.toArray).size = s.length := by simp [ByteArray.size]
    simp [Builtin.len_, ht, run_underlying (isStr_und hp), goInt, hs]

/-- Shifts and bits. -/
def shlI (k : IntKind) (a b : Int) : Int := k.wrap (a * 2 ^ (min b.toNat k.bits))
def shrI (k : IntKind) (a b : Int) : Int := a.fdiv (2 ^ (min b.toNat k.bits))
def andI (k : IntKind) (a b : Int) : Int := k.wrap ((BitVec.ofInt k.bits a) &&& (BitVec.ofInt k.bits b)).toNat
def orI (k : IntKind) (a b : Int) : Int := k.wrap ((BitVec.ofInt k.bits a) ||| (BitVec.ofInt k.bits b)).toNat
def xorI (k : IntKind) (a b : Int) : Int := k.wrap ((BitVec.ofInt k.bits a) ^^^ (BitVec.ofInt k.bits b)).toNat
def binA (P : Program) (op : BinOp) (t : TypeId) : A → A → Option (Prop × A)
  | .dat (.int k a), .dat (.int k' b) => match op with
    | .shl => some (0 ≤ b, .dat (.int k (shlI k a b)))
    | .shr => some (0 ≤ b, .dat (.int k (shrI k a b)))
    | .and => some (k = k', .dat (.int k (andI k a b)))
    | .or => some (k = k', .dat (.int k (orI k a b)))
    | .xor => some (k = k', .dat (.int k (xorI k a b)))
    | .add => some (k = k' ∧ inR k (a + b), .dat (.int k (a + b)))
    | .sub => some (k = k' ∧ inR k (a - b), .dat (.int k (a - b)))
    | .mul => some (k = k' ∧ inR k (a * b), .dat (.int k (a * b)))
    | .quo => some (k = k' ∧ b ≠ 0 ∧ inR k (a.tdiv b), .dat (.int k (a.tdiv b)))
    | .rem => some (k = k' ∧ b ≠ 0, .dat (.int k (a.tmod b)))
    | .eql => some (k = k', .dat (.bool (a == b)))
    | .neq => some (k = k', .dat (.bool (a != b)))
    | .lss => some (k = k', .dat (.bool (decide (a < b))))
    | .leq => some (k = k', .dat (.bool (decide (a ≤ b))))
    | .gtr => some (k = k', .dat (.bool (decide (b < a))))
    | .geq => some (k = k', .dat (.bool (decide (b ≤ a))))
    | _ => none
  | .dat (.bool a), .dat (.bool b) => match op with
    | .eql => some (isBool P t = true, .dat (.bool (a == b)))
    | .neq => some (isBool P t = true, .dat (.bool (a != b)))
    | _ => none
  | .dat (.str a), .dat (.str b) => match op with
    | .eql => some (True, .dat (.bool (a == b)))
    | .neq => some (True, .dat (.bool (a != b)))
    | .add => some (((a.length + b.length : Nat) : Int) ≤ 9223372036854775807, .dat (.str (a ++ b)))
    | _ => none
  | .record xs, .record ys => match cmpT P t with
    | some ks => match op with
      | .eql => some (fitLs ks xs = true ∧ fitLs ks ys = true, .dat (.bool (leqs xs ys)))
      | .neq => some (fitLs ks xs = true ∧ fitLs ks ys = true, .dat (.bool (!leqs xs ys)))
      | _ => none
    | none => none
  | _, _ => none

theorem str_toList (s : List UInt8) : (ByteArray.mk s.toArray).toList = s := by
  rw [ByteArray.toList_eq]
theorem run_equal_bool {t : TypeId} (hu : P.underlying t = some .bool) (a b : Bool) (w : World) : (Op.equal t (.bool a) (.bool b)).run P w = .ok (a == b) w := by
  show (Op.equalIn (9999 + 1) t (.bool a) (.bool b)).run P w = _
  rw [Op.equalIn, Sem.run_bind, run_underlying hu]
  rfl
theorem str_append (a b : List UInt8) : (ByteArray.mk a.toArray) ++ (ByteArray.mk b.toArray) = ByteArray.mk (a ++ b).toArray := by
  apply ByteArray.ext
  simp [ByteArray.data_append]

theorem binA_ok {op : BinOp} {t : Nat} {a b c : A} {p : Prop} (h : binA P op t a b = some (p, c)) (hp : p) {x : X} {v u : Value} (hv : D x a v) (hu : D x b u) (ox oy : Operand) :
    ∃ r, (do eqGuard op t ox oy v u; binOp op t v u : Sem Value).run P x.w = .ok r x.w ∧ D x c r := by
  unfold binA at h
  split at h <;> try (simp at h; done)
  · simp only [D, RdL] at hv hu
    subst hv; subst hu
    split at h <;> try (simp at h; done)
    all_goals
      simp only [Option.some.injEq, Prod.mk.injEq] at h
      obtain ⟨rfl, rfl⟩ := h
      simp only [D, RdL]
    · refine ⟨_, ?_, rfl⟩; simp [eqGuard, binOp, Op.shift, Int.not_lt.2 hp, shlI]
    · refine ⟨_, ?_, rfl⟩; simp [eqGuard, binOp, Op.shift, Int.not_lt.2 hp, shrI]
    · subst hp; refine ⟨_, ?_, rfl⟩; simp [eqGuard, binOp, Op.intBits, andI]
    · subst hp; refine ⟨_, ?_, rfl⟩; simp [eqGuard, binOp, Op.intBits, orI]
    · subst hp; refine ⟨_, ?_, rfl⟩; simp [eqGuard, binOp, Op.intBits, xorI]
    · obtain ⟨rfl, h2⟩ := hp; refine ⟨_, ?_, rfl⟩; simp [eqGuard, binOp, Op.intArith]; exact h2
    · obtain ⟨rfl, h2⟩ := hp; refine ⟨_, ?_, rfl⟩; simp [eqGuard, binOp, Op.intArith]; exact h2
    · obtain ⟨rfl, h2⟩ := hp; refine ⟨_, ?_, rfl⟩; simp [eqGuard, binOp, Op.intArith]; exact h2
    · obtain ⟨rfl, h1, h2⟩ := hp; refine ⟨_, ?_, rfl⟩; simp [eqGuard, binOp, Op.intDiv, h1]; exact h2
    · obtain ⟨rfl, h1⟩ := hp; refine ⟨_, ?_, rfl⟩; simp [eqGuard, binOp, Op.intDiv, h1]
    all_goals subst hp; refine ⟨_, ?_, rfl⟩; simp [eqGuard, binOp, Op.intCmp]
  · simp only [D, RdL] at hv hu
    subst hv; subst hu
    split at h <;> try (simp at h; done)
    all_goals
      simp only [Option.some.injEq, Prod.mk.injEq] at h
      obtain ⟨rfl, rfl⟩ := h
      simp only [D, RdL]
      refine ⟨_, ?_, rfl⟩
      simp [eqGuard, binOp, run_equal_bool (isBool_und hp), bne]
  · simp only [D, RdL] at hv hu
    subst hv; subst hu
    split at h <;> try (simp at h; done)
    all_goals
      simp only [Option.some.injEq, Prod.mk.injEq] at h
      obtain ⟨rfl, rfl⟩ := h
      simp only [D, RdL]
    · refine ⟨_, ?_, rfl⟩; simp [eqGuard, binOp, Op.stringOp, str_toList]
    · refine ⟨_, ?_, rfl⟩; simp [eqGuard, binOp, Op.stringOp, str_toList, bne]
    · rename_i a b _
      refine ⟨_, ?_, rfl⟩
      have hs : ¬ ((((ByteArray.mk a.toArray).size + (ByteArray.mk b.toArray).size : Nat) : Int) > IntKind.i64.max) := by
        simp only [ByteArray.size, List.size_toArray, IntKind.max]
        simp [IntKind.signed, IntKind.bits]
        omega
      simp only [eqGuard, binOp, Op.stringOp, hs, if_false, str_append]
      simp
  · simp only [D] at hv hu
    obtain ⟨vs, rfl, hv⟩ := hv
    obtain ⟨us, rfl, hu⟩ := hu
    split at h <;> try (simp at h; done)
    rename_i ks hks
    split at h <;> try (simp at h; done)
    all_goals
      simp only [Option.some.injEq, Prod.mk.injEq] at h
      obtain ⟨rfl, rfl⟩ := h
      simp only [D, RdL]
      have hq := struct_eq hks hp.1 hp.2 hv hu ox oy
    · exact ⟨_, hq.1, rfl⟩
    · exact ⟨_, hq.2, rfl⟩

end Go.Proofs.YtakndgpdolfenaaGreat
end

/- The other operations that only read or make immutable memory; all of them in one function; calls. -/
section
namespace Go.Proofs.YtakndgpdolfenaaGreat
variable {P : Program}

theorem newVar_ok {x : X} (hb : ∀ b, x.ok b → b < x.w.heap.size) {ls : List L} {cells : Array Value} (h : RdLs x ls cells.toList) (ty : TypeId) :
    (newRow ty cells).run P x.w = .ok ⟨x.w.heap.size, 0, none⟩ (x.new (.cells cells ty)).w ∧ Grow x (x.new (.cells cells ty)) ∧
      RdCells (x.new (.cells cells ty)) ls x.w.heap.size 0 := by
  refine ⟨by simp [newRow, X.new], X.new_grow x _ hb, ?_⟩
  refine rdCells_new (x := x.new (.cells cells ty)) (c := cells) (ty := ty) (fr := (0, 0)) (Or.inr rfl) (heap_alloc_new _ _) ls cells.toList 0 (RdLs.mono (X.new_grow x _ hb).le _ _ h) ?_
  intro j v hj
  simpa using hj

def boxA (a : A) : Option (Prop × A) :=
  match a with
  | .nils => none
  | a => match asL a with
    | some ls => some (True, .rptr ls)
    | none => none

theorem boxA_ok {t : TypeId} {a a' : A} {p : Prop} (h : boxA a = some (p, a')) {x : X} (hb : ∀ b, x.ok b → b < x.w.heap.size) {v : Value} (hv : D x a v) :
    ∃ u y, (Instr.box t v).run P x.w = .ok u y.w ∧ Grow x y ∧ D y a' u := by
  unfold boxA at h
  split at h <;> try (simp at h; done)
  split at h <;> try (simp at h; done)
  rename_i ls hl
  simp only [Option.some.injEq, Prod.mk.injEq] at h
  obtain ⟨_, rfl⟩ := h
  obtain ⟨h1, h2, h3⟩ := newVar_ok (P := P) hb (asL_ok hl hv) t
  refine ⟨.pointer (some ⟨x.w.heap.size, 0, none⟩), _, ?_, h2, by simp only [D]; exact ⟨_, _, rfl, h3⟩⟩
  simp [Instr.box, newVar, h1]

/-- The flat cells of a value. -/
def flatA : A → Option (List A)
  | .dat l => some [.dat l]
  | .record ls => some (ls.map .dat)
  | .agg az => some az
  | .any => none
  | .undef => none
  | .tuple _ => none
  | .cond _ _ => none
  | .nn _ => none
  | .clip _ => none
  | a => some [a]

theorem flatA_ok {x : X} {a : A} {cs : List A} {v : Value} (h : flatA a = some cs) (hv : D x a v) : Ds x cs v.cells.toList := by
  cases a <;> simp only [flatA, Option.some.injEq, reduceCtorEq] at h <;> subst h
  · simp only [D] at hv
    rw [hv.cells]
    simpa [Ds, D] using hv
  · simp only [D] at hv
    obtain ⟨vs, rfl, hr⟩ := hv
    exact Ds.of_ls hr
  · simp only [D] at hv
    obtain ⟨vs, rfl, hr⟩ := hv
    exact hr
  all_goals
    have hc : v.cells = #[v] := by
      first
        | (simp only [D] at hv; subst hv; rfl)
        | (simp only [D] at hv; obtain ⟨rfl, _, _, _, rfl⟩ := hv; rfl)
        | (simp only [D] at hv; exact hv.2.cells)
        | (simp only [D] at hv; obtain ⟨_, _, rfl, _⟩ := hv; rfl)
        | (simp only [D] at hv; obtain ⟨_, _, _, _, _, rfl⟩ := hv; rfl)
        | skip
    rw [hc]
    simpa [Ds] using hv

/-! ### Making structs and arrays -/
def bldT (P : Program) (t : TypeId) : Option (List Value × List (Nat × Nat)) :=
  match P.info? t, P.underlying t with
  | some it, some (.array n e) =>
    match it.zero, P.info? e with
    | some z, some ie => some (z.cells.toList, (List.range n).map fun i => (i * ie.size, ie.size))
    | _, _ => none
  | some it, some (.struct fields) =>
    match it.zero, fields.toList.mapM (fun f => (P.info? f.type).map fun i => (f.offset, i.size)) with
    | some z, some places => some (z.cells.toList, places)
    | _, _ => none
  | _, _ => none

def splice {α : Type} (cs : List α) (off : Nat) (us : List α) : List α := cs.take off ++ (us ++ cs.drop (off + us.length))

def fillA (pl : List (Nat × Nat)) (cells : List A) : List (Nat × A) → Option (List A)
  | [] => some cells
  | (i, a) :: r => match pl[i]?, flatA a with
    | some (off, size), some cs => if cs.length = size ∧ off + size ≤ cells.length then fillA pl (splice cells off cs) r else none
    | _, _ => none

theorem foldl_splice : ∀ (us : List Value) (k : Nat) (off : Nat) (cs : Array Value), off + k + us.length ≤ cs.size →
    ((us.zipIdx k).foldl (fun cs (c, j) => cs.setIfInBounds (off + j) c) cs).toList = splice cs.toList (off + k) us
  | [], k, off, cs, h => by simp [splice]
  | u :: us, k, off, cs, h => by
    simp only [List.length_cons] at h
    simp only [List.zipIdx_cons, List.foldl_cons]
    have ih := foldl_splice us (k + 1) off (cs.setIfInBounds (off + k) u) (by simp; omega)
    rw [ih]
    have hm : off + k < cs.toList.length := by simp; omega
    have hl : (cs.toList.take (off + k)).length = off + k := by simp; omega
    simp only [splice, Array.toList_setIfInBounds]
    rw [List.set_eq_take_append_cons_drop, if_pos hm, show off + (k + 1) = (cs.toList.take (off + k)).length + 1 by omega, Nat.add_assoc, List.take_length_add_append,
      Nat.add_assoc, List.drop_length_add_append]
    have e2 : off + (k + (u :: us).length) = off + (k + 1) + us.length := by simp; omega
    have e1 : 1 + us.length = us.length + 1 := by omega
    rw [e1, List.drop_succ_cons, List.drop_drop, Nat.add_assoc off k (u :: us).length, e2]
    simp [Nat.add_assoc]

theorem Ds.splice {x : X} {cs us : List A} {vs ws : List Value} {off : Nat} (h : Ds x cs vs) (k : Ds x us ws) : Ds x (splice cs off us) (splice vs off ws) := by
  unfold Go.Proofs.YtakndgpdolfenaaGreat.splice
  rw [k.length]
  exact (h.take _).append (k.append (h.drop _))

/-- Parts by their abstract values. -/
def PartsOK (x : X) : List (Nat × A) → List (Nat × Value) → Prop
  | [], [] => True
  | (i, a) :: r, (j, v) :: s => i = j ∧ D x a v ∧ PartsOK x r s
  | [], _ :: _ => False
  | _ :: _, [] => False

theorem fillA_ok {x : X} {pl : List (Nat × Nat)} {place : Nat → Option (Nat × Nat)} (hpl : ∀ i o s, pl[i]? = some (o, s) → place i = some (o, s)) :
    ∀ (ps : List (Nat × A)) (qs : List (Nat × Value)) (cells out : List A) (cv : Array Value), PartsOK x ps qs → Ds x cells cv.toList → fillA pl cells ps = some out →
      ∃ ov, Instr.fill place cv qs = some ov ∧ Ds x out ov.toList
  | [], [], cells, out, cv, _, hd, h => by
    simp only [fillA, Option.some.injEq] at h; subst h
    exact ⟨cv, rfl, hd⟩
  | [], _ :: _, _, _, _, hp, _, _ => by simp [PartsOK] at hp
  | _ :: _, [], _, _, _, hp, _, _ => by simp [PartsOK] at hp
  | (i, a) :: r, (j, v) :: s, cells, out, cv, hp, hd, h => by
    simp only [PartsOK] at hp
    obtain ⟨rfl, hv, hr⟩ := hp
    simp only [fillA] at h
    split at h <;> try (simp at h; done)
    rename_i o sz cs hi hf
    split at h <;> try (simp at h; done)
    rename_i hc
    have hcs := flatA_ok hf hv
    have hl := hcs.length
    have hl2 := hd.length
    simp only [Array.length_toList] at hl hl2
    simp only [Instr.fill, hpl i o sz hi]
    rw [if_neg (by simp; omega)]
    refine fillA_ok hpl r s _ out _ hr ?_ h
    have := foldl_splice v.cells.toList 0 o cv (by simp; omega)
    rw [← Array.foldl_toList]
    simp only [Array.toList_zipIdx]
    rw [this]
    simpa using hd.splice (off := o + 0) hcs

def evs (E : Env) (ps : List (Nat × Operand)) : List (Nat × A) := ps.map fun (i, o) => (i, (st (ev E o)).2)
def evp (E : Env) (ps : List (Nat × Operand)) : Prop := ∀ p ∈ ps, (st (ev E p.2)).1

theorem parts_ok {n : Nat} {ds : List Deferred} {x : X} {act : Act} {E : Env} (he : EnvOK n ds x act E) : ∀ (ps : List (Nat × Operand)), evp E ps → PartsOK x (evs E ps) (ps.map fun (i, o) => (i, act.eval o))
  | [], _ => by simp [PartsOK, evs]
  | (i, o) :: r, hp => by
    simp only [evs, List.map_cons, PartsOK]
    exact ⟨trivial, st_ok (ev_ok he o) (hp (i, o) (by simp)), parts_ok he r fun p hp' => hp p (by simp [hp'])⟩

theorem Ds_kA (x : X) : ∀ (vs : List Value), Ds x (vs.map kA) vs
  | [] => by simp [Ds]
  | v :: vs => by simp only [List.map_cons, Ds]; exact ⟨kA_ok x v, Ds_kA x vs⟩

def buildA (P : Program) (t : TypeId) (ps : List (Nat × A)) : Option A :=
  match bldT P t with
  | some (zs, pl) => (fillA pl (zs.map kA) ps).map packB
  | none => none

theorem buildA_ok {t : TypeId} {ps : List (Nat × A)} {qs : Array (Nat × Value)} {a : A} (h : buildA P t ps = some a) {x : X} (hp : PartsOK x ps qs.toList) :
    ∃ u, (Instr.build t qs).run P x.w = .ok u x.w ∧ D x a u := by
  unfold buildA at h
  split at h <;> try (simp at h; done)
  rename_i zs pl hb
  simp only [Option.map_eq_some_iff] at h
  obtain ⟨out, h1, rfl⟩ := h
  unfold bldT at hb
  split at hb <;> try (simp at hb; done)
  · rename_i it n e hi hu
    split at hb <;> try (simp at hb; done)
    rename_i z ie hz hie
    simp only [Option.some.injEq, Prod.mk.injEq] at hb
    obtain ⟨rfl, rfl⟩ := hb
    obtain ⟨ov, h2, h3⟩ := fillA_ok (place := fun i => some (i * ie.size, ie.size)) (by
      intro i o s hi
      simp only [List.getElem?_map, Option.map_eq_some_iff] at hi
      obtain ⟨j, hj, e⟩ := hi
      have hji : j = i := by
        have hlt : i < n := by
          rcases Nat.lt_or_ge i n with h | h
          · exact h
          · rw [List.getElem?_eq_none (by simpa using h)] at hj; cases hj
        rw [List.getElem?_range hlt] at hj
        simpa using hj.symm
      subst hji; rw [← e]) ps qs.toList _ out z.cells hp (Ds_kA x _) h1
    exact ⟨_, run_build x.w t qs ov (by simp only [Program.built, hi, hu, hz, hie]; exact h2), packB_ok h3⟩
  · rename_i it fs hi hu
    split at hb <;> try (simp at hb; done)
    rename_i z places hz hpl
    simp only [Option.some.injEq, Prod.mk.injEq] at hb
    obtain ⟨rfl, rfl⟩ := hb
    obtain ⟨ov, h2, h3⟩ := fillA_ok (place := (places.toArray[·]?)) (by intro i o s hi; simpa using hi) ps qs.toList _ out z.cells hp (Ds_kA x _) h1
    exact ⟨_, run_build x.w t qs ov (by simp only [Program.built, hi, hu, hz, hpl]; exact h2), packB_ok h3⟩

end Go.Proofs.YtakndgpdolfenaaGreat
end

/- The rest of the operations that only read or make immutable memory; all of them in one function, 'pureA'. -/
section
namespace Go.Proofs.YtakndgpdolfenaaGreat
variable {P : Program}

def pickA (c a b : A) : Option (Prop × A) :=
  match st c, st a, st b with
  | (pc, .dat (.bool t)), (pa, .dat (.bool u)), (pb, .dat (.bool v)) => some (pc ∧ (t = true → pa) ∧ (t = false → pb), .dat (.bool (cond t u v)))
  | (pc, .dat (.bool t)), (pa, .dat (.bool u)), _ => some (pc ∧ t = true ∧ pa, .dat (.bool u))
  | (pc, .dat (.bool t)), _, (pb, .dat (.bool v)) => some (pc ∧ t = false ∧ pb, .dat (.bool v))
  | _, _, _ => none

theorem pickA_ok {c a b a' : A} {p : Prop} (h : pickA c a b = some (p, a')) (hp : p) {x : X} {vc va vb : Value} (hc : D x c vc) (ha : D x a va) (hb : D x b vb) (w : World) :
    ∃ u, (do pure (Next.value (if ← asBool vc then va else vb)) : Sem Next).run P w = .ok (.value u) w ∧ D x a' u := by
  unfold pickA at h
  split at h <;> try (simp at h; done)
  · rename_i pc t pa u pb v e1 e2 e3
    simp only [Option.some.injEq, Prod.mk.injEq] at h
    obtain ⟨rfl, rfl⟩ := h
    obtain ⟨h1, h2, h3⟩ := hp
    have k1 := st_ok hc (by rw [e1]; exact h1)
    rw [e1] at k1
    simp only [D, RdL] at k1
    subst k1
    cases t
    · have k2 := st_ok hb (by rw [e3]; exact h3 rfl)
      rw [e3] at k2
      simp only [D, RdL] at k2
      subst k2
      exact ⟨_, by simp [asBool]; rfl, by simp [D, RdL]⟩
    · have k2 := st_ok ha (by rw [e2]; exact h2 rfl)
      rw [e2] at k2
      simp only [D, RdL] at k2
      subst k2
      exact ⟨_, by simp [asBool]; rfl, by simp [D, RdL]⟩
  · rename_i pc t pa u e1 e2 _
    simp only [Option.some.injEq, Prod.mk.injEq] at h
    obtain ⟨rfl, rfl⟩ := h
    obtain ⟨h1, rfl, h3⟩ := hp
    have k1 := st_ok hc (by rw [e1]; exact h1)
    rw [e1] at k1
    simp only [D, RdL] at k1
    subst k1
    have k2 := st_ok ha (by rw [e2]; exact h3)
    rw [e2] at k2
    simp only [D, RdL] at k2
    subst k2
    exact ⟨_, by simp [asBool]; rfl, by simp [D, RdL]⟩
  · rename_i pc t pb v e1 e3 _
    simp only [Option.some.injEq, Prod.mk.injEq] at h
    obtain ⟨rfl, rfl⟩ := h
    obtain ⟨h1, rfl, h3⟩ := hp
    have k1 := st_ok hc (by rw [e1]; exact h1)
    rw [e1] at k1
    simp only [D, RdL] at k1
    subst k1
    have k2 := st_ok hb (by rw [e3]; exact h3)
    rw [e3] at k2
    simp only [D, RdL] at k2
    subst k2
    exact ⟨_, by simp [asBool]; rfl, by simp [D, RdL]⟩

def unA (op : UnOp) : A → Option (Prop × A)
  | .dat (.bool b) => match op with
    | .not => some (True, .dat (.bool (!b)))
    | _ => none
  | .dat (.int k n) => match op with
    | .neg => some (inR k (-n), .dat (.int k (-n)))
    | _ => none
  | _ => none

theorem unA_ok {op : UnOp} {a a' : A} {p : Prop} (h : unA op a = some (p, a')) (hp : p) {x : X} {v : Value} (hv : D x a v) :
    ∃ u, (Op.unary op v).run P x.w = .ok u x.w ∧ D x a' u := by
  unfold unA at h
  split at h <;> try (simp at h; done)
  all_goals
    split at h <;> try (simp at h; done)
    simp only [Option.some.injEq, Prod.mk.injEq] at h
    obtain ⟨rfl, rfl⟩ := h
    simp only [D, RdL] at hv
    subst hv
  · exact ⟨_, rfl, by simp [D, RdL]⟩
  · rename_i k n _
    refine ⟨.int k (-n), ?_, by simp only [D, RdL]⟩
    simp only [Op.unary, Op.intArith, Int.zero_sub, Sem.run_pure]
    rw [hp]

/-- A part of an aggregate. -/
def partA (P : Program) (t : TypeId) (off : Nat) : A → Option (Prop × A)
  | .record ls => match tk P t with
    | 2 => some (off + szT P t ≤ ls.length, .record ((ls.drop off).take (szT P t)))
    | 1 => match ls[off]? with
      | some l => some (True, .dat l)
      | none => none
    | _ => none
  | .agg az => match tk P t with
    | 2 => some (off + szT P t ≤ az.length, packA ((az.drop off).take (szT P t)))
    | 1 => match az[off]? with
      | some a => some (True, a)
      | none => none
    | _ => none
  | _ => none

theorem partA_ok {t off : Nat} {a a' : A} {p : Prop} (h : partA P t off a = some (p, a')) (hp : p) {x : X} {v : Value} (hv : D x a v) :
    ∃ cs u, v = .agg cs ∧ (part t cs off).run P x.w = .ok u x.w ∧ D x a' u := by
  unfold partA at h
  split at h <;> try (simp at h; done)
  all_goals
    simp only [D] at hv
    obtain ⟨vs, rfl, hr⟩ := hv
    refine ⟨vs, ?_⟩
    split at h
  · rename_i ht
    simp only [Option.some.injEq, Prod.mk.injEq] at h
    obtain ⟨rfl, rfl⟩ := h
    refine ⟨.agg (vs.extract off (off + szT P t)), rfl, ?_, ?_⟩
    · simp [part, run_isAgg2 ht, run_sizeOf' (show tk P t ≠ 0 by omega)]
    · simp only [D]; exact ⟨_, rfl, by simpa [Array.toList_extract, List.extract_eq_drop_take'] using (hr.drop off).take (szT P t)⟩
  · rename_i ht
    split at h <;> try (simp at h; done)
    rename_i l hl
    simp only [Option.some.injEq, Prod.mk.injEq] at h
    obtain ⟨_, rfl⟩ := h
    obtain ⟨u, h1, h2⟩ := hr.at off hl
    refine ⟨u, rfl, ?_, by simpa [D] using h2⟩
    simp only [Array.getElem?_toList] at h1
    simp [part, run_isAgg1 ht, h1]
  · simp at h
  · rename_i ht
    simp only [Option.some.injEq, Prod.mk.injEq] at h
    obtain ⟨rfl, rfl⟩ := h
    refine ⟨.agg (vs.extract off (off + szT P t)), rfl, ?_, ?_⟩
    · simp [part, run_isAgg2 ht, run_sizeOf' (show tk P t ≠ 0 by omega)]
    · exact packA_ok (by simpa [Array.toList_extract, List.extract_eq_drop_take'] using (hr.drop off).take (szT P t))
  · rename_i ht
    split at h <;> try (simp at h; done)
    rename_i l hl
    simp only [Option.some.injEq, Prod.mk.injEq] at h
    obtain ⟨_, rfl⟩ := h
    obtain ⟨u, h1, h2⟩ := hr.at hl
    refine ⟨u, rfl, ?_, h2⟩
    simp only [Array.getElem?_toList] at h1
    simp [part, run_isAgg1 ht, h1]
  · simp at h

def fldA (P : Program) (t : TypeId) (k : Nat) (a : A) : Option (Prop × A) :=
  match foff P t k with
  | some (o, ft) => partA P ft o a
  | none => none
theorem fldA_ok {t k : Nat} {a a' : A} {p : Prop} (h : fldA P t k a = some (p, a')) (hp : p) {x : X} {v : Value} (hv : D x a v) :
    ∃ u, (Instr.field t v k).run P x.w = .ok u x.w ∧ D x a' u := by
  unfold fldA at h
  split at h <;> try (simp at h; done)
  rename_i o ft hf
  obtain ⟨fs, f, hu, hfk, rfl, rfl⟩ := foff_und hf
  obtain ⟨cs, u, rfl, h1, h2⟩ := partA_ok h hp hv
  exact ⟨u, by simp [Instr.field, run_underlying hu, hfk, asAgg, h1], h2⟩

def idxA (P : Program) (t : TypeId) : A → A → Option (Prop × A)
  | .dat (.str s), .dat (.int _ n) => some (isStr P t = true ∧ 0 ≤ n ∧ n < s.length, .dat (.int .u8 (((s[n.toNat]?).getD 0).toNat : Int)))
  | a, .dat (.int _ n) => match arT P t with
    | some (len, e) => match partA P e (n.toNat * szT P e) a with
      | some (p, a') => some (tk P e ≠ 0 ∧ 0 ≤ n ∧ n < len ∧ p, a')
      | none => none
    | none => none
  | _, _ => none

theorem idxA_ok {t : Nat} {a i a' : A} {p : Prop} (h : idxA P t a i = some (p, a')) (hp : p) {x : X} {v u : Value} (hv : D x a v) (hu : D x i u) :
    ∃ r, (Instr.index t v u).run P x.w = .ok r x.w ∧ D x a' r := by
  unfold idxA at h
  split at h <;> try (simp at h; done)
  · rename_i s k n
    have hidx : ∀ m : Nat, m < s.length → (ByteArray.mk s.toArray)[m]? = s[m]? := by
      intro m hm
      have hsz : m < (ByteArray.mk s.toArray).size := by simpa [ByteArray.size] using hm
      have h1 := getElem?_pos (ByteArray.mk s.toArray) m hsz
      rw [h1, List.getElem?_eq_getElem hm]
      rfl
    simp only [Option.some.injEq, Prod.mk.injEq] at h
    obtain ⟨rfl, rfl⟩ := h
    obtain ⟨h1, h2, h3⟩ := hp
    simp only [D, RdL] at hv hu
    subst hv; subst hu
    have hn : n.toNat < s.length := by omega
    refine ⟨.int .u8 (((s[n.toNat]?).getD 0).toNat : Int), ?_, by simp only [D, RdL]⟩
    have hg := hidx n.toNat hn
    rw [List.getElem?_eq_getElem hn] at hg
    simp [Instr.index, asIntOf, run_underlying (isStr_und h1), h2, hg, hn]
  · rename_i k n _
    split at h <;> try (simp at h; done)
    rename_i len e he
    split at h <;> try (simp at h; done)
    rename_i p' a'' hpa
    simp only [Option.some.injEq, Prod.mk.injEq] at h
    obtain ⟨rfl, rfl⟩ := h
    obtain ⟨h1, h2, h3, h4⟩ := hp
    simp only [D, RdL] at hu
    subst hu
    obtain ⟨cs, r, rfl, k1, k2⟩ := partA_ok hpa h4 hv
    refine ⟨r, ?_, k2⟩
    simp [Instr.index, asIntOf, run_underlying (arT_und he), h2, h3, run_sizeOf' h1]
    exact k1

def extA (i : Nat) : A → Option (Prop × A)
  | .tuple az => match az[i]? with
    | some a => some (True, a)
    | none => none
  | _ => none
theorem extA_ok {i : Nat} {a a' : A} {p : Prop} (h : extA i a = some (p, a')) {x : X} {v : Value} (hv : D x a v) :
    ∃ u, (Instr.extract v i).run P x.w = .ok u x.w ∧ D x a' u := by
  unfold extA at h
  split at h <;> try (simp at h; done)
  split at h <;> try (simp at h; done)
  rename_i a hl
  simp only [Option.some.injEq, Prod.mk.injEq] at h
  obtain ⟨_, rfl⟩ := h
  simp only [D] at hv
  obtain ⟨vs, rfl, hr⟩ := hv
  obtain ⟨u, h1, h2⟩ := hr.at hl
  simp only [Array.getElem?_toList] at h1
  exact ⟨u, by simp [Instr.extract, h1], h2⟩

def nilA : A → Option (Prop × A)
  | .fn f a b => some (True, .fn f a b)
  | .ptr t b o => some (True, .ptr t b o)
  | .rptr ls => some (True, .rptr ls)
  | .eptr a b c d e => some (True, .eptr a b c d e)
  | .yld l => some (True, .yld l)
  | _ => none

def maxA (a b : A) : Option (Prop × A) :=
  match a, b with
  | .dat (.int k x), .dat (.int k' y) => some (k = k', .dat (.int k (if y > x then y else x)))
  | _, _ => none
def minA (a b : A) : Option (Prop × A) :=
  match a, b with
  | .dat (.int k x), .dat (.int k' y) => some (k = k', .dat (.int k (if y < x then y else x)))
  | _, _ => none

def encU (n : Int) : List UInt8 := (Utf8.encode n).data.toList

def convA (P : Program) (src dst : TypeId) : A → Option (Prop × A)
  | .dat (.int _ n) => match intT P dst with
    | some k => some ((P.underlying src).isSome = true ∧ inR k n, .dat (.int k n))
    | none => if isStr P dst then some ((intT P src).isSome = true, .dat (.str (encU n))) else none
  | .dat (.str s) => if isStr P src && isStr P dst then some (True, .dat (.str s)) else none
  | _ => none

theorem convA_ok {s d : Nat} {a a' : A} {p : Prop} (h : convA P s d a = some (p, a')) (hp : p) {x : X} {v : Value} (hv : D x a v) :
    ∃ u, (convert s d v).run P x.w = .ok u x.w ∧ D x a' u := by
  unfold convA at h
  split at h <;> try (simp at h; done)
  · rename_i k n
    simp only [D, RdL] at hv
    subst hv
    split at h
    · rename_i k' hk
      simp only [Option.some.injEq, Prod.mk.injEq] at h
      obtain ⟨rfl, rfl⟩ := h
      obtain ⟨h1, h2⟩ := hp
      obtain ⟨ud, hud⟩ := Option.isSome_iff_exists.1 h1
      refine ⟨.int k' n, ?_, by simp only [D, RdL]⟩
      have : (Conv.intToInt k' n).run P x.w = .ok (.int k' n) x.w := by simp only [Conv.intToInt, Sem.run_pure]; rw [h2]
      simp only [convert, Sem.run_bind, run_underlying hud, run_underlying (intT_und hk), Result.andThen_ok]
      exact this
    · split at h <;> try (simp at h; done)
      rename_i hs
      simp only [Option.some.injEq, Prod.mk.injEq] at h
      obtain ⟨rfl, rfl⟩ := h
      obtain ⟨k', hk⟩ := Option.isSome_iff_exists.1 hp
      refine ⟨.string (Utf8.encode n), ?_, by simp [D, RdL, encU]⟩
      simp only [convert, Sem.run_bind, run_underlying (intT_und hk), run_underlying (isStr_und hs), Result.andThen_ok]
      rfl
  · rename_i str
    split at h <;> try (simp at h; done)
    rename_i hs
    simp only [Bool.and_eq_true] at hs
    simp only [Option.some.injEq, Prod.mk.injEq] at h
    obtain ⟨_, rfl⟩ := h
    simp only [D, RdL] at hv
    subst hv
    refine ⟨.string ⟨str.toArray⟩, ?_, by simp [D, RdL]⟩
    simp only [convert, Sem.run_bind, run_underlying (isStr_und hs.1), run_underlying (isStr_und hs.2), Result.andThen_ok]
    rfl

/-! ### Parts of strings and slices -/
def boundA (d : Nat) : Option A → Option (Prop × Nat)
  | none => some (True, d)
  | some (.dat (.int _ n)) => some (0 ≤ n, n.toNat)
  | some _ => none

def sliceA (P : Program) (t : TypeId) (lo hi : Option A) : A → Option (Prop × A)
  | .dat (.str s) => match boundA 0 lo, boundA s.length hi with
    | some (p, l), some (q, h) => some (isStr P t = true ∧ p ∧ q ∧ l ≤ h ∧ h ≤ s.length, .dat (.str ((s.take h).drop l)))
    | _, _ => none
  | .dat (.sl xs) => match boundA 0 lo, boundA xs.length hi with
    | some (p, l), some (q, h) => match slT P t with
      | some e => some (tk P e ≠ 0 ∧ rl xs (szT P e) ∧ p ∧ q ∧ l ≤ h ∧ h ≤ xs.length, .dat (.sl ((xs.take h).drop l)))
      | none => none
    | _, _ => none
  | .nils => match boundA 0 lo, boundA 0 hi with
    | some (p, l), some (q, h) => match slT P t with
      | some e => some (tk P e ≠ 0 ∧ p ∧ q ∧ l = 0 ∧ h = 0, .nils)
      | none => none
    | _, _ => none
  | _ => none

/-- Optional operands. -/
def OptOK (x : X) : Option A → Option Value → Prop
  | none, none => True
  | some a, some v => D x a v
  | _, _ => False

theorem boundA_ok {d : Nat} {o : Option A} {p : Prop} {l : Nat} (h : boundA d o = some (p, l)) (hp : p) {x : X} {v : Option Value} (hv : OptOK x o v) :
    (v = none ∧ l = d) ∨ ∃ k, v = some (.int k l) := by
  unfold boundA at h
  split at h <;> try (simp at h; done)
  · simp only [Option.some.injEq, Prod.mk.injEq] at h
    cases v with
    | none => exact .inl ⟨rfl, h.2.symm⟩
    | some v => simp [OptOK] at hv
  · rename_i k n
    simp only [Option.some.injEq, Prod.mk.injEq] at h
    obtain ⟨rfl, rfl⟩ := h
    cases v with
    | none => simp [OptOK] at hv
    | some v =>
      simp only [OptOK, D, RdL] at hv
      subst hv
      exact .inr ⟨k, by rw [Int.toNat_of_nonneg hp]⟩

theorem run_sliceBounds {isS : Bool} {len cap l h : Nat} {lo hi : Option Value} (w : World) (hl : (lo = none ∧ l = 0) ∨ ∃ k, lo = some (.int k l)) (hh : (hi = none ∧ h = len) ∨ ∃ k, hi = some (.int k h))
    (h1 : l ≤ h) (h2 : h ≤ cap) : (Instr.sliceBounds isS len cap lo hi none).run P w = .ok (l, h, cap) w := by
  rcases hh with ⟨rfl, rfl⟩ | ⟨k, rfl⟩
  · rcases hl with ⟨rfl, rfl⟩ | ⟨k', rfl⟩
    · simp [Instr.sliceBounds]
    · have : (l : Int) ≤ h := by omega
      simp [Instr.sliceBounds, Instr.sliceBound, asIntOf, h1]
  · have hc : (h : Int) ≤ cap := by omega
    rcases hl with ⟨rfl, rfl⟩ | ⟨k', rfl⟩
    · simp [Instr.sliceBounds, Instr.sliceBound, asIntOf, h2]
    · have : (l : Int) ≤ h := by omega
      simp [Instr.sliceBounds, Instr.sliceBound, asIntOf, h1, h2]

theorem sliceA_ok {t : Nat} {a a' : A} {lo hi : Option A} {p : Prop} (h : sliceA P t lo hi a = some (p, a')) (hp : p) {x : X} {v : Value} {vl vh : Option Value} (hv : D x a v)
    (hl : OptOK x lo vl) (hh : OptOK x hi vh) : ∃ u, (Instr.sliceAt t v vl vh none).run P x.w = .ok u x.w ∧ D x a' u := by
  unfold sliceA at h
  split at h <;> try (simp at h; done)
  · rename_i s
    split at h <;> try (simp at h; done)
    rename_i p1 l q h' e1 e2
    simp only [Option.some.injEq, Prod.mk.injEq] at h
    obtain ⟨rfl, rfl⟩ := h
    obtain ⟨h1, h2, h3, h4, h5⟩ := hp
    simp only [D, RdL] at hv
    subst hv
    have b1 := boundA_ok e1 h2 hl
    have b2 := boundA_ok e2 h3 hh
    refine ⟨.string ((ByteArray.mk s.toArray).extract l h'), ?_, ?_⟩
    · have hs : (ByteArray.mk s.toArray).size = s.length := by simp [ByteArray.size]
      simp only [Instr.sliceAt, Instr.slice, Sem.run_bind, run_underlying (isStr_und h1), Result.andThen_ok, Option.isSome_none, Bool.false_eq_true, if_false]
      rw [hs]
      simp only [Sem.run_pure, Result.andThen_ok, Sem.run_bind, run_sliceBounds x.w b1 b2 h4 h5]
    · simp only [D, RdL]
      congr 1
      apply ByteArray.ext
      have hll : l + (h' - l) = h' := by omega
      simp [ByteArray.data_extract, List.extract_eq_drop_take', List.take_drop, hll]
  · rename_i xs
    split at h <;> try (simp at h; done)
    rename_i p1 l q h' e1 e2
    split at h <;> try (simp at h; done)
    rename_i e he
    simp only [Option.some.injEq, Prod.mk.injEq] at h
    obtain ⟨rfl, rfl⟩ := h
    obtain ⟨h0, h1, h2, h3, h4, h5⟩ := hp
    have b1 := boundA_ok e1 h2 hl
    have b2 := boundA_ok e2 h3 hh
    simp only [D, RdL] at hv
    rcases hv with ⟨rfl, rfl⟩ | ⟨b, off, cap, rfl, hc, hr⟩ | ⟨a, rfl, rfl⟩
    rotate_right
    · simp only [List.length_nil, Nat.le_zero] at h5
      subst h5
      simp only [Nat.le_zero] at h4
      subst h4
      refine ⟨.slice (some a) 0 0, ?_, by simp [D, RdL]⟩
      simp only [Instr.sliceAt, Instr.slice, Sem.run_bind, run_underlying (slT_und he), Result.andThen_ok]
      rw [run_sliceBounds x.w b1 (show (vh = none ∧ 0 = 0) ∨ _ from b2) (Nat.le_refl 0) (Nat.le_refl 0)]
      simp [run_sizeOf' h0]
    · simp only [List.length_nil, Nat.le_zero] at h5
      subst h5
      simp only [Nat.le_zero] at h4
      subst h4
      refine ⟨.slice none 0 0, ?_, by simp [D, RdL]⟩
      simp only [Instr.sliceAt, Instr.slice, Sem.run_bind, run_underlying (slT_und he), Result.andThen_ok]
      rw [run_sliceBounds x.w b1 (show (vh = none ∧ 0 = 0) ∨ _ from b2) (Nat.le_refl 0) (Nat.le_refl 0)]
      simp [run_sizeOf' h0]
    · refine ⟨.slice (some (if cap = l then ⟨b, off, none⟩ else ⟨b, off + l * szT P e, none⟩)) (h' - l) (cap - l), ?_, ?_⟩
      · simp only [Instr.sliceAt, Instr.slice, Sem.run_bind, run_underlying (slT_und he), Result.andThen_ok]
        rw [run_sliceBounds x.w b1 b2 h4 (Nat.le_trans h5 hc)]
        simp only [Result.andThen_ok, run_sizeOf' h0, Sem.run_pure]
        split <;> simp [add_none]
      · simp only [D, RdL]
        have hlen : ((xs.take h').drop l).length = h' - l := by simp; omega
        refine .inr (.inl ⟨b, (if cap = l then off else off + l * szT P e), cap - l, ?_, by omega, ?_⟩)
        · rw [hlen]; split <;> rfl
        · split
          · have : (xs.take h').drop l = [] := by
              apply List.eq_nil_of_length_eq_zero; rw [hlen]; omega
            rw [this]; simp [RdRows]
          · exact RdRows.drop l _ b off (fun r hr => h1 r (List.mem_of_mem_take hr)) (hr.take h')
  · split at h <;> try (simp at h; done)
    rename_i p1 l q h' e1 e2
    split at h <;> try (simp at h; done)
    rename_i e he
    simp only [Option.some.injEq, Prod.mk.injEq] at h
    obtain ⟨rfl, rfl⟩ := h
    obtain ⟨h0, h2, h3, rfl, rfl⟩ := hp
    have b1 := boundA_ok e1 h2 hl
    have b2 := boundA_ok e2 h3 hh
    simp only [D] at hv
    subst hv
    refine ⟨.slice none 0 0, ?_, by simp [D]⟩
    simp only [Instr.sliceAt, Instr.slice, Sem.run_bind, run_underlying (slT_und he), Result.andThen_ok]
    rw [run_sliceBounds x.w b1 b2 (Nat.le_refl 0) (Nat.le_refl 0)]
    simp [run_sizeOf' h0]

end Go.Proofs.YtakndgpdolfenaaGreat
end

/- All pure operations in one function; calls; regions; the conditions of a whole code. -/
section
namespace Go.Proofs.YtakndgpdolfenaaGreat
variable {P : Program}

/-! ### Slices that are written out -/
theorem fill_seq (sz : Nat) : ∀ (vs : List Value) (k : Nat) (cv : Array Value), (∀ v ∈ vs, v.cells.size = sz) → cv.size = (k + vs.length) * sz →
    ∃ ov, Instr.fill (fun i => some (i * sz, sz)) cv ((vs.zipIdx k).map fun (v, i) => (i, v)) = some ov ∧ ov.toList = cv.toList.take (k * sz) ++ (vs.map (·.cells.toList)).flatten
  | [], k, cv, _, hs => by
    refine ⟨cv, rfl, ?_⟩
    simp at hs
    simp only [← hs, List.map_nil, List.flatten_nil, List.append_nil]
    rw [List.take_of_length_le (by simp)]
  | v :: vs, k, cv, hv, hs => by
    have h0 := hv v (by simp)
    have e1 : (k + (v :: vs).length) * sz = k * sz + sz + vs.length * sz := by
      simp only [List.length_cons, Nat.add_mul, Nat.one_mul]; omega
    rw [e1] at hs
    simp only [List.zipIdx_cons, List.map_cons, Instr.fill]
    rw [if_neg (by simp [h0]; omega)]
    have hfold := foldl_splice v.cells.toList 0 (k * sz) cv (by simp [h0]; omega)
    have hsz : ∀ (l : List (Value × Nat)) (c : Array Value), (l.foldl (fun cs x => match x with | (c, j) => cs.setIfInBounds (k * sz + j) c) c).size = c.size := by
      intro l
      induction l with
      | nil => intro c; rfl
      | cons x l ih => intro c; simp [ih]
    obtain ⟨ov, h1, h2⟩ := fill_seq sz vs (k + 1) (v.cells.zipIdx.foldl (fun cs x => match x with | (c, j) => cs.setIfInBounds (k * sz + j) c) cv) (fun u hu => hv u (by simp [hu]))
      (by rw [← Array.foldl_toList, hsz, hs]; simp only [Nat.add_mul, Nat.one_mul])
    refine ⟨ov, h1, ?_⟩
    rw [h2, ← Array.foldl_toList]
    simp only [Array.toList_zipIdx]
    rw [hfold]
    have hl1 : (cv.toList.take (k * sz)).length = k * sz := by simp; omega
    have hl2 : v.cells.toList.length = sz := by simpa using h0
    simp only [splice, Nat.add_zero, List.map_cons, List.flatten_cons]
    rw [Nat.add_mul, Nat.one_mul, List.take_append, hl1, List.take_append, hl2]
    have t1 : List.take (k * sz + sz) (List.take (k * sz) cv.toList) = List.take (k * sz) cv.toList := List.take_of_length_le (by rw [hl1]; omega)
    have t2 : List.take sz v.cells.toList = v.cells.toList := List.take_of_length_le (by rw [hl2]; exact Nat.le_refl _)
    simp [hl2, t1, t2]

theorem RdCells.append {x : X} : ∀ (az bz : List L) (b off : Nat), RdCells x (az ++ bz) b off → RdCells x az b off ∧ RdCells x bz b (off + az.length)
  | [], _, _, _, h => ⟨by simp [RdCells], by simpa using h⟩
  | a :: az, bz, b, off, h => by
    simp only [List.cons_append, RdCells] at h
    obtain ⟨h1, h2⟩ := RdCells.append az bz b (off + 1) h.2
    refine ⟨by simp only [RdCells]; exact ⟨h.1, h1⟩, ?_⟩
    rw [List.length_cons, Nat.add_comm az.length 1, ← Nat.add_assoc]; exact h2

theorem rdRows_of_cells {x : X} : ∀ (rows : List (List L)) (b off : Nat), RdCells x rows.flatten b off → RdRows x rows b off
  | [], _, _, _ => by simp [RdRows]
  | r :: rs, b, off, h => by
    simp only [List.flatten_cons] at h
    obtain ⟨h1, h2⟩ := RdCells.append r rs.flatten b off h
    simp only [RdRows]
    exact ⟨h1, rdRows_of_cells rs b _ h2⟩

/-- The rows of parts that stand in order. -/
def rowsA (sz : Nat) : Nat → List (Nat × A) → Option (List (List L))
  | _, [] => some []
  | k, (i, a) :: r => if i = k then (match asL a with
      | some ls => if ls.length = sz then (rowsA sz (k + 1) r).map (ls :: ·) else none
      | none => none) else none

def bslA (P : Program) (t : TypeId) (len : Nat) (ps : List (Nat × A)) : Option (Prop × A) :=
  match slT P t with
  | some e => if len = ps.length ∧ 0 < len then (match rowsA (szT P e) 0 ps with
      | some rows => some (tk P e ≠ 0 ∧ len * szT P e ≤ 16777216 ∧ ((P.info? e).bind (·.zero)).isSome = true, .dat (.sl rows))
      | none => none) else none
  | none => none

theorem rowsA_ok {x : X} {sz : Nat} : ∀ (ps : List (Nat × A)) (qs : List (Nat × Value)) (k : Nat) (rows : List (List L)), rowsA sz k ps = some rows → PartsOK x ps qs →
    ∃ vs : List Value, qs = (vs.zipIdx k).map (fun (v, i) => (i, v)) ∧ vs.length = ps.length ∧ rows.length = ps.length ∧ (∀ v ∈ vs, v.cells.size = sz) ∧ RdLs x rows.flatten (vs.map (·.cells.toList)).flatten
  | [], [], k, rows, h, _ => by
    simp only [rowsA, Option.some.injEq] at h; subst h
    exact ⟨[], by simp, by simp, by simp, by simp, by simp [RdLs]⟩
  | [], _ :: _, _, _, _, h => by simp [PartsOK] at h
  | _ :: _, [], _, _, _, h => by simp [PartsOK] at h
  | (i, a) :: r, (j, v) :: s, k, rows, h, hp => by
    simp only [PartsOK] at hp
    obtain ⟨rfl, hv, hr⟩ := hp
    simp only [rowsA] at h
    split at h <;> try (simp at h; done)
    rename_i hk
    subst hk
    split at h <;> try (simp at h; done)
    rename_i ls hl
    split at h <;> try (simp at h; done)
    rename_i hls
    simp only [Option.map_eq_some_iff] at h
    obtain ⟨rows', h1, rfl⟩ := h
    obtain ⟨vs, e, k1, k2, k3, k4⟩ := rowsA_ok r s (i + 1) rows' h1 hr
    have hrd := asL_ok hl hv
    refine ⟨v :: vs, by simp [e], by simp [k1], by simp [k2], ?_, ?_⟩
    · intro u hu
      rcases List.mem_cons.1 hu with rfl | hu
      · have := hrd.length; simpa [hls] using this
      · exact k3 u hu
    · simp only [List.flatten_cons, List.map_cons]
      exact hrd.append k4

theorem bslA_ok' {t len : Nat} {ps : List (Nat × A)} {qs : Array (Nat × Value)} {a : A} {p : Prop} (h : bslA P t len ps = some (p, a)) (hp : p) {x : X}
    (hb : ∀ b, x.ok b → b < x.w.heap.size) (hq : PartsOK x ps qs.toList) : ∃ u y, (Instr.buildSlice t len qs).run P x.w = .ok u y.w ∧ Grow x y ∧ D y a u ∧ ∃ ad, u = .slice ad len len := by
  unfold bslA at h
  split at h <;> try (simp at h; done)
  rename_i e he
  split at h <;> try (simp at h; done)
  rename_i hlen
  split at h <;> try (simp at h; done)
  rename_i rows hrows
  simp only [Option.some.injEq, Prod.mk.injEq] at h
  obtain ⟨rfl, rfl⟩ := h
  obtain ⟨h1, h2, h3⟩ := hp
  obtain ⟨vs, e1, e2, e3, e4, e5⟩ := rowsA_ok ps qs.toList 0 rows hrows hq
  obtain ⟨z, hz⟩ := Option.isSome_iff_exists.1 h3
  obtain ⟨i, hi⟩ := tk_info h1
  rw [hi] at hz
  simp only [Option.bind_some] at hz
  have hzv : ∀ w, (zeroValue e).run P w = .ok z w := fun w => by simp [zeroValue, run_typeInfo w hi, hz]
  let z0 : Array Value := if len * szT P e = 0 then #[] else z.cells
  let cv : Array Value := (Array.range (len * szT P e)).map (z0[· % z0.size]!)
  obtain ⟨ov, k1, k2⟩ := fill_seq (szT P e) vs 0 cv e4 (by simp [cv, e2, hlen.1])
  simp only [Nat.zero_mul, List.take_zero, List.nil_append] at k2
  have hov : RdLs x rows.flatten ov.toList := by rw [k2]; exact e5
  obtain ⟨g1, g2, g3⟩ := newVar_ok (P := P) hb hov e
  refine ⟨.slice (some ⟨x.w.heap.size, 0, none⟩) len len, _, ?_, g2, ?_⟩
  · rw [← e1] at k1
    have hlim : ¬ len * szT P e > 2 ^ 24 := by omega
    simp only [Instr.buildSlice, Sem.run_bind, run_underlying (slT_und he), Result.andThen_ok, run_sizeOf' h1, hlim, if_false, Sem.run_pure]
    have k1' : Instr.fill (fun i => some (i * szT P e, szT P e)) ((Array.range (len * szT P e)).map (z0[· % z0.size]!)) qs.toList = some ov := k1
    by_cases hc : len * szT P e = 0
    · simp only [z0, hc, if_true] at k1'
      simp only [hc, if_true, Sem.run_bind, Sem.run_pure, Result.andThen_ok, k1', g1]
    · simp only [z0, hc, if_false] at k1'
      simp only [hc, if_false, Sem.run_bind, Sem.run_pure, hzv, Result.andThen_ok, k1', g1]
  · simp only [D, RdL]
    refine ⟨.inr (.inl ⟨x.w.heap.size, 0, len, by rw [e3, ← hlen.1], by rw [e3, ← hlen.1]; exact Nat.le_refl _, rdRows_of_cells rows _ _ g3⟩), _, rfl⟩

theorem bslA_ok {t len : Nat} {ps : List (Nat × A)} {qs : Array (Nat × Value)} {a : A} {p : Prop} (h : bslA P t len ps = some (p, a)) (hp : p) {x : X}
    (hb : ∀ b, x.ok b → b < x.w.heap.size) (hq : PartsOK x ps qs.toList) : ∃ u y, (Instr.buildSlice t len qs).run P x.w = .ok u y.w ∧ Grow x y ∧ D y a u := by
  obtain ⟨u, y, h1, h2, h3, _⟩ := bslA_ok' h hp hb hq
  exact ⟨u, y, h1, h2, h3⟩
/-! ### All of them -/
def an (p : Prop) : Option (Prop × A) → Option (Prop × A)
  | some (q, a) => some (p ∧ q, a)
  | none => none
def an1 (a : A) (f : A → Option (Prop × A)) : Option (Prop × A) := an (st a).1 (f (st a).2)
def an2 (a b : A) (f : A → A → Option (Prop × A)) : Option (Prop × A) := an ((st a).1 ∧ (st b).1) (f (st a).2 (st b).2)
theorem an_some {p q : Prop} {r : Option (Prop × A)} {a : A} (h : an p r = some (q, a)) : ∃ q', r = some (q', a) ∧ q = (p ∧ q') := by
  unfold an at h
  split at h
  · rename_i q' a'
    simp only [Option.some.injEq, Prod.mk.injEq] at h
    obtain ⟨rfl, rfl⟩ := h
    exact ⟨q', rfl, rfl⟩
  · simp at h

def evl (E : Env) (ps : List Operand) : List A := ps.map fun o => (st (ev E o)).2
def evlp (E : Env) (ps : List Operand) : Prop := ∀ o ∈ ps, (st (ev E o)).1
theorem evl_ok {n : Nat} {ds : List Deferred} {x : X} {act : Act} {E : Env} (he : EnvOK n ds x act E) : ∀ (ps : List Operand), evlp E ps → Ds x (evl E ps) (ps.map act.eval)
  | [], _ => by simp [Ds, evl]
  | o :: r, hp => by
    simp only [evl, List.map_cons, Ds]
    exact ⟨st_ok (ev_ok he o) (hp o (by simp)), evl_ok he r fun p hp' => hp p (by simp [hp'])⟩

def opt (E : Env) (o : Option Operand) : Option A := o.map fun o => (st (ev E o)).2
def optp (E : Env) : Option Operand → Prop
  | some o => (st (ev E o)).1
  | none => True
theorem opt_ok {n : Nat} {ds : List Deferred} {x : X} {act : Act} {E : Env} (he : EnvOK n ds x act E) (o : Option Operand) (hp : optp E o) : OptOK x (opt E o) (o.map act.eval) := by
  cases o with
  | none => simp [OptOK, opt]
  | some o => simp only [opt, Option.map_some, OptOK]; exact st_ok (ev_ok he o) hp

def builtinA (P : Program) (b : Builtin) (ts : Array TypeId) (az : List A) : Option (Prop × A) :=
  match b, az with
  | .len, [a] => match ts[0]? with
    | some t => lenA P t a
    | none => none
  | .cap, [a] => match a, ts[0]? with
    | .nils, some t => some ((slT P t).isSome = true, .dat (.int .i64 0))
    | _, _ => none
  | .max, [a, b] => maxA a b
  | .min, [a, b] => minA a b
  | _, _ => none

/-- Moves keep what is known of nil. -/
def mvA : A → Prop × A
  | .nn xs => (True, .nn xs)
  | a => st a
theorem mvA_ok {x : X} {a : A} {v : Value} (h : D x a v) (hp : (mvA a).1) : D x (mvA a).2 v := by
  cases a <;> first | exact h | exact st_ok h hp
/-- Slices against nil. -/
def nilcA (op : BinOp) : A → A → Option (Prop × A)
  | .nn _, .nils => match op with
    | .eql => some (True, .dat (.bool false))
    | .neq => some (True, .dat (.bool true))
    | _ => none
  | .nils, .nils => match op with
    | .eql => some (True, .dat (.bool true))
    | .neq => some (True, .dat (.bool false))
    | _ => none
  | .dat (.sl xs), .nils => match op with
    | .eql => some (xs ≠ [], .dat (.bool false))
    | .neq => some (xs ≠ [], .dat (.bool true))
    | _ => none
  | _, _ => none
theorem run_equal_slice {t e : TypeId} (hu : P.underlying t = some (.slice e)) (a : Option Addr) (n c : Nat) (w : World) : (Op.equal t (.slice a n c) (.slice none 0 0)).run P w = .ok a.isNone w := by
  show (Op.equalIn (9999 + 1) t (.slice a n c) (.slice none 0 0)).run P w = _
  rw [Op.equalIn, Sem.run_bind, run_underlying hu]
  cases a <;> rfl
theorem nilcA_ok {op : BinOp} {t e : TypeId} (ht : slT P t = some e) {a b c : A} {p : Prop} (h : nilcA op a b = some (p, c)) (hp : p) {x : X} {v u : Value} (hv : D x a v) (hu : D x b u) (ox oy : Operand) :
    ∃ r, (do eqGuard op t ox oy v u; binOp op t v u : Sem Value).run P x.w = .ok r x.w ∧ D x c r := by
  have key : ∀ {a : Option Addr} {n c : Nat}, (op = .eql → (do eqGuard op t ox oy (.slice a n c) (.slice none 0 0); binOp op t (.slice a n c) (.slice none 0 0) : Sem Value).run P x.w = .ok (.bool a.isNone) x.w) ∧
      (op = .neq → (do eqGuard op t ox oy (.slice a n c) (.slice none 0 0); binOp op t (.slice a n c) (.slice none 0 0) : Sem Value).run P x.w = .ok (.bool (!a.isNone)) x.w) := by
    intro a n c
    constructor
    · rintro rfl; simp [eqGuard, binOp, run_equal_slice (slT_und ht)]
    · rintro rfl; simp [eqGuard, binOp, run_equal_slice (slT_und ht)]
  have nn : ∀ {xs : List (List L)}, RdL x (.sl xs) v → v ≠ .slice none 0 0 → ∃ ad n c, v = .slice (some ad) n c := by
    intro xs h1 h2
    simp only [RdL] at h1
    rcases h1 with ⟨h1, _⟩ | ⟨b, off, cap, h1, _⟩ | ⟨a, h1, _⟩
    · exact absurd h1 h2
    · exact ⟨_, _, _, h1⟩
    · exact ⟨_, _, _, h1⟩
  unfold nilcA at h
  split at h <;> try (simp at h; done)
  · simp only [D] at hv hu
    subst hu
    obtain ⟨ad, n, cc, rfl⟩ := nn hv.1 hv.2
    split at h <;> try (simp at h; done)
    all_goals
      simp only [Option.some.injEq, Prod.mk.injEq] at h
      obtain ⟨_, rfl⟩ := h
    · exact ⟨_, key.1 rfl, by simp [D, RdL]⟩
    · exact ⟨_, key.2 rfl, by simp [D, RdL]⟩
  · simp only [D] at hv hu
    subst hu; subst hv
    split at h <;> try (simp at h; done)
    all_goals
      simp only [Option.some.injEq, Prod.mk.injEq] at h
      obtain ⟨_, rfl⟩ := h
    · exact ⟨_, key.1 rfl, by simp [D, RdL]⟩
    · exact ⟨_, key.2 rfl, by simp [D, RdL]⟩
  · rename_i xs
    simp only [D] at hv hu
    subst hu
    have hne : xs ≠ [] → v ≠ .slice none 0 0 := by
      intro hx e
      subst e
      simp only [RdL] at hv
      rcases hv with ⟨_, h1⟩ | ⟨b, off, cap, h1, _⟩ | ⟨a, h1, _⟩
      · exact hx h1
      · cases h1
      · cases h1
    split at h <;> try (simp at h; done)
    all_goals
      simp only [Option.some.injEq, Prod.mk.injEq] at h
      obtain ⟨rfl, rfl⟩ := h
      obtain ⟨ad, n, cc, rfl⟩ := nn hv (hne hp)
    · exact ⟨_, key.1 rfl, by simp [D, RdL]⟩
    · exact ⟨_, key.2 rfl, by simp [D, RdL]⟩
def cmpA (P : Program) (op : BinOp) (t : TypeId) (a b : A) : Option (Prop × A) := match slT P t with
  | some _ => match a with
    | .cond q a' => match nilcA op a' b with
      | some (p, c) => some (q ∧ p, c)
      | none => none
    | _ => nilcA op a b
  | none => an2 a b (binA P op t)

def pureA (P : Program) (E : Env) : Op → Option (Prop × A)
  | .move x => some (mvA (ev E x))
  | .assign x => some (mvA (ev E x))
  | .pick c a b => pickA (ev E c) (ev E a) (ev E b)
  | .box _ x => an1 (ev E x) boxA
  | .build t ps => match buildA P t (evs E ps.toList) with
    | some a => some (evp E ps.toList, a)
    | none => none
  | .buildSlice t n ps => an (evp E ps.toList) (bslA P t n (evs E ps.toList))
  | .load t x => an1 (ev E x) (loadA P t)
  | .nilCheck x => an1 (ev E x) nilA
  | .binOp op t x y _ => cmpA P op t (ev E x) (ev E y)
  | .unOp op _ x => an1 (ev E x) (unA op)
  | .convert s d x => an1 (ev E x) (convA P s d)
  | .makeFunc (.func f) first caps => some (evlp E first.toList ∧ evlp E caps.toList, .fn f (evl E first.toList) (evl E caps.toList))
  | .slice t x lo hi none => an (optp E lo ∧ optp E hi) (an1 (ev E x) (sliceA P t (opt E lo) (opt E hi)))
  | .fieldAddr t x k => an1 (ev E x) (fieldA P t k)
  | .field t x k => an1 (ev E x) (fldA P t k)
  | .indexAddr t x i => an2 (ev E x) (ev E i) (indexA P t)
  | .index t x i => an2 (ev E x) (ev E i) (idxA P t)
  | .extract x i => an1 (ev E x) (extA i)
  | .call c => match c.callee with
    | .builtin b => an (evlp E c.args.toList) (builtinA P b c.argTypes (evl E c.args.toList))
    | _ => none
  | _ => none

def PureOK (P : Program) (o : Oper) (E : Env) (a : A) : Prop :=
  ∀ n ds x act, EnvOK n ds x act E → (∀ b, x.ok b → b < x.w.heap.size) →
    ∃ u y, (execOp act.eval o).run P x.w = .ok (.value u) y.w ∧ Grow x y ∧ D y a u

theorem Ds.two {x : X} {a b : A} {vs : List Value} (h : Ds x [a, b] vs) : ∃ v u, vs = [v, u] ∧ D x a v ∧ D x b u := by
  match vs, h with
  | [v, u], h => simp only [Ds] at h; exact ⟨v, u, rfl, h.1, h.2.1⟩
  | [], h => simp [Ds] at h
  | [_], h => simp [Ds] at h
  | _ :: _ :: _ :: _, h => simp [Ds] at h
theorem Ds.one {x : X} {a : A} {vs : List Value} (h : Ds x [a] vs) : ∃ v, vs = [v] ∧ D x a v := by
  match vs, h with
  | [v], h => simp only [Ds] at h; exact ⟨v, rfl, h.1⟩
  | [], h => simp [Ds] at h
  | _ :: _ :: _, h => simp [Ds] at h

theorem builtinA_ok {b : Builtin} {ts : Array TypeId} {az : List A} {a : A} {p : Prop} (h : builtinA P b ts az = some (p, a)) (hp : p) {x : X} {vs : Array Value} (hv : Ds x az vs.toList)
    (ty : TypeId) (cs : Array Bool) : ∃ u, (builtin b ts ty cs vs).run P x.w = .ok (.value u) x.w ∧ D x a u := by
  unfold builtinA at h
  split at h <;> try (simp at h; done)
  · split at h <;> try (simp at h; done)
    rename_i t ht
    obtain ⟨v, e, hd⟩ := hv.one
    obtain rfl : vs = #[v] := by apply Array.ext'; simpa using e
    obtain ⟨u, h1, h2⟩ := lenA_ok (ty := ty) h hp hd ht
    exact ⟨u, by simp [builtin, h1], h2⟩
  · split at h <;> try (simp at h; done)
    rename_i t ht
    simp only [Option.some.injEq, Prod.mk.injEq] at h
    obtain ⟨rfl, rfl⟩ := h
    obtain ⟨v, e, hd⟩ := hv.one
    obtain rfl : vs = #[v] := by apply Array.ext'; simpa using e
    simp only [D] at hd
    subst hd
    obtain ⟨el, hel⟩ := Option.isSome_iff_exists.1 hp
    exact ⟨.int .i64 0, by simp [builtin, Builtin.cap_, ht, run_underlying (slT_und hel), goInt], by simp [D, RdL]⟩
  · obtain ⟨v, u, e, hd1, hd2⟩ := hv.two
    obtain rfl : vs = #[v, u] := by apply Array.ext'; simpa using e
    unfold maxA at h
    split at h <;> try (simp at h; done)
    simp only [Option.some.injEq, Prod.mk.injEq] at h
    obtain ⟨rfl, rfl⟩ := h
    subst hp
    simp only [D, RdL] at hd1 hd2
    subst hd1; subst hd2
    exact ⟨_, by simp [builtin, Builtin.max_, Builtin.max2]; rfl, by simp [D, RdL]⟩
  · obtain ⟨v, u, e, hd1, hd2⟩ := hv.two
    obtain rfl : vs = #[v, u] := by apply Array.ext'; simpa using e
    unfold minA at h
    split at h <;> try (simp at h; done)
    simp only [Option.some.injEq, Prod.mk.injEq] at h
    obtain ⟨rfl, rfl⟩ := h
    subst hp
    simp only [D, RdL] at hd1 hd2
    subst hd1; subst hd2
    exact ⟨_, by simp [builtin, Builtin.min_, Builtin.min2]; rfl, by simp [D, RdL]⟩

theorem nilA_ok {a a' : A} {p : Prop} (h : nilA a = some (p, a')) {x : X} {v : Value} (hv : D x a v) :
    D x a' v ∧ ((∃ ad, v = .pointer (some ad)) ∨ (∃ f fs cs, v = .func (.func f) fs cs) ∨ ∃ l, v = .func (.yield l) #[] #[]) := by
  unfold nilA at h
  split at h <;> try (simp at h; done)
  all_goals
    simp only [Option.some.injEq, Prod.mk.injEq] at h
    obtain ⟨_, rfl⟩ := h
    refine ⟨hv, ?_⟩
    simp only [D] at hv
  · obtain ⟨fs, cs, rfl, _⟩ := hv; exact .inr (.inl ⟨_, _, _, rfl⟩)
  · exact .inl ⟨_, hv⟩
  · obtain ⟨b, off, rfl, _⟩ := hv; exact .inl ⟨_, rfl⟩
  · obtain ⟨b, off, n, cap, _, rfl⟩ := hv; exact .inl ⟨_, rfl⟩
  · exact .inr (.inr ⟨_, hv⟩)

theorem pureA_ok {o : Oper} {E : Env} {p : Prop} {a : A} (h : pureA P E o.op = some (p, a)) (hp : p) : PureOK P o E a := by
  intro n ds x act he hb
  obtain ⟨dst, op, type, pos, after, guard⟩ := o
  have v1 : ∀ {s : Sem Value} {u : Value} {y : X}, s.run P x.w = .ok u y.w → (do pure (Next.value (← s)) : Sem Next).run P x.w = .ok (.value u) y.w := by
    intro s u y hs; simp [hs]
  have q1 : ∀ (o : Operand) {a' : A} {p : Prop} {f : A → Option (Prop × A)}, an1 (ev E o) f = some (p, a') → p → ∃ q, f (st (ev E o)).2 = some (q, a') ∧ q ∧ D x (st (ev E o)).2 (act.eval o) := by
    intro o a' p f h hp
    obtain ⟨q, h1, rfl⟩ := an_some h
    exact ⟨q, h1, hp.2, st_ok (ev_ok he o) hp.1⟩
  cases op <;> simp only [pureA] at h <;> try (simp at h; done)
  case move y =>
    simp only [Option.some.injEq] at h
    have hd := mvA_ok (ev_ok he y) (by rw [h]; exact hp)
    rw [h] at hd
    exact ⟨_, x, rfl, .refl x, hd⟩
  case assign y =>
    simp only [Option.some.injEq] at h
    have hd := mvA_ok (ev_ok he y) (by rw [h]; exact hp)
    rw [h] at hd
    exact ⟨_, x, rfl, .refl x, hd⟩
  case pick c b d =>
    obtain ⟨u, h1, h2⟩ := pickA_ok (P := P) h hp (ev_ok he c) (ev_ok he b) (ev_ok he d) x.w
    exact ⟨u, x, h1, .refl x, h2⟩
  case box t y =>
    obtain ⟨q, h1, _, h3⟩ := q1 y h hp
    obtain ⟨u, z, k1, k2, k3⟩ := boxA_ok (P := P) (t := t) h1 hb h3
    exact ⟨u, z, v1 k1, k2, k3⟩
  case build t ps =>
    split at h <;> try (simp at h; done)
    rename_i b hbld
    simp only [Option.some.injEq, Prod.mk.injEq] at h
    obtain ⟨rfl, rfl⟩ := h
    obtain ⟨u, k1, k2⟩ := buildA_ok (qs := ps.map fun (i, x) => (i, act.eval x)) hbld (x := x) (by simpa using parts_ok he ps.toList hp)
    exact ⟨u, x, v1 k1, .refl x, k2⟩
  case buildSlice t len ps =>
    obtain ⟨q, h1, rfl⟩ := an_some h
    obtain ⟨u, y, k1, k2, k3⟩ := bslA_ok (qs := ps.map fun (i, x) => (i, act.eval x)) h1 hp.2 hb (by simpa using parts_ok he ps.toList hp.1)
    exact ⟨u, y, v1 k1, k2, k3⟩
  case load t y =>
    obtain ⟨q, h1, h2, h3⟩ := q1 y h hp
    obtain ⟨u, k1, k2⟩ := loadA_ok h1 h2 h3
    exact ⟨u, x, v1 k1, .refl x, k2⟩
  case nilCheck y =>
    obtain ⟨q, h1, h2, h3⟩ := q1 y h hp
    obtain ⟨k1, k2⟩ := nilA_ok h1 h3
    refine ⟨act.eval y, x, ?_, .refl x, k1⟩
    rcases k2 with ⟨ad, e⟩ | ⟨f, fs, cs, e⟩ | ⟨l, e⟩ <;> simp [execOp, e]
  case binOp op t y z ty =>
    unfold cmpA at h
    split at h
    · rename_i e hsl
      split at h
      · rename_i q a' ha
        split at h <;> try (simp at h; done)
        rename_i p' c hn
        simp only [Option.some.injEq, Prod.mk.injEq] at h
        obtain ⟨rfl, rfl⟩ := h
        have hy := ev_ok he y
        rw [ha] at hy
        simp only [D] at hy
        obtain ⟨u, k1, k2⟩ := nilcA_ok hsl hn hp.2 (hy.1 hp.1) (ev_ok he z) y z
        exact ⟨u, x, v1 k1, .refl x, k2⟩
      · obtain ⟨u, k1, k2⟩ := nilcA_ok hsl h hp (ev_ok he y) (ev_ok he z) y z
        exact ⟨u, x, v1 k1, .refl x, k2⟩
    · obtain ⟨q, h1, rfl⟩ := an_some h
      obtain ⟨u, k1, k2⟩ := binA_ok h1 hp.2 (st_ok (ev_ok he y) hp.1.1) (st_ok (ev_ok he z) hp.1.2) y z
      exact ⟨u, x, v1 k1, .refl x, k2⟩
  case unOp op t y =>
    obtain ⟨q, h1, h2, h3⟩ := q1 y h hp
    obtain ⟨u, k1, k2⟩ := unA_ok (P := P) h1 h2 h3
    exact ⟨u, x, v1 k1, .refl x, k2⟩
  case convert s d y =>
    obtain ⟨q, h1, h2, h3⟩ := q1 y h hp
    obtain ⟨u, k1, k2⟩ := convA_ok h1 h2 h3
    exact ⟨u, x, v1 k1, .refl x, k2⟩
  case makeFunc fn first caps =>
    cases fn <;> simp only [reduceCtorEq, Option.some.injEq, Prod.mk.injEq] at h
    obtain ⟨rfl, rfl⟩ := h
    rename_i f
    refine ⟨.func (.func f) (first.map act.eval) (caps.map act.eval), x, by simp [execOp, Instr.makeFunc], .refl x, ?_⟩
    simp only [D]
    exact ⟨_, _, rfl, by simpa using evl_ok he first.toList hp.1, by simpa using evl_ok he caps.toList hp.2⟩
  case slice t y lo hi mx =>
    cases mx <;> simp only [reduceCtorEq] at h
    obtain ⟨q, h1, rfl⟩ := an_some h
    obtain ⟨q', h2, h3, h4⟩ := q1 y h1 hp.2
    obtain ⟨u, k1, k2⟩ := sliceA_ok h2 h3 h4 (opt_ok he lo hp.1.1) (opt_ok he hi hp.1.2)
    exact ⟨u, x, v1 k1, .refl x, k2⟩
  case fieldAddr t y k =>
    obtain ⟨q, h1, h2, h3⟩ := q1 y h hp
    obtain ⟨u, k1, k2⟩ := fieldA_ok h1 h2 h3
    exact ⟨u, x, v1 k1, .refl x, k2⟩
  case field t y k =>
    obtain ⟨q, h1, h2, h3⟩ := q1 y h hp
    obtain ⟨u, k1, k2⟩ := fldA_ok h1 h2 h3
    exact ⟨u, x, v1 k1, .refl x, k2⟩
  case indexAddr t y i =>
    obtain ⟨q, h1, rfl⟩ := an_some h
    obtain ⟨u, k1, k2⟩ := indexA_ok h1 hp.2 (st_ok (ev_ok he y) hp.1.1) (st_ok (ev_ok he i) hp.1.2)
    exact ⟨u, x, v1 k1, .refl x, k2⟩
  case index t y i =>
    obtain ⟨q, h1, rfl⟩ := an_some h
    obtain ⟨u, k1, k2⟩ := idxA_ok h1 hp.2 (st_ok (ev_ok he y) hp.1.1) (st_ok (ev_ok he i) hp.1.2)
    exact ⟨u, x, v1 k1, .refl x, k2⟩
  case extract y i =>
    obtain ⟨q, h1, h2, h3⟩ := q1 y h hp
    obtain ⟨u, k1, k2⟩ := extA_ok (P := P) h1 h3
    exact ⟨u, x, v1 k1, .refl x, k2⟩
  case call c =>
    split at h <;> try (simp at h; done)
    rename_i b hcb
    obtain ⟨q, h1, rfl⟩ := an_some h
    obtain ⟨u, k1, k2⟩ := builtinA_ok h1 hp.2 (vs := c.args.map act.eval) (by simpa using evl_ok he c.args.toList hp.1) type (c.args.map fun | .const _ => true | _ => false)
    refine ⟨u, x, ?_, .refl x, k2⟩
    simp only [execOp, resolve, hcb, Sem.run_bind, Sem.run_pure, Result.andThen_ok, invoke]
    exact k1

end Go.Proofs.YtakndgpdolfenaaGreat
end

/- Calls, operations on owned memory, and regions in the order of the text. -/
section
namespace Go.Proofs.YtakndgpdolfenaaGreat
variable {P : Program}

/-- A function with a Go body. -/
def Callable (P : Program) (g : FuncId) : Prop := ∃ fn, P.funcs[g]? = some fn ∧ fn.body.isSome = true ∧ (fn.name == "runtime.NumGoroutine") = false

/-- What a call comes to, with owned memory handed over and back; whatever else is owned stays. -/
def CallS (P : Program) (g : FuncId) (az : List A) (H : Heap) (K : A → Heap → Prop) : Prop :=
  Callable P g ∧ ∀ x args H0, Inv x (H ++ H0) → Ds x az args.toList →
    Calls P g args x.w fun e w' => ∃ y v r H', e = .returned v ∧ y.w = w' ∧ x.le y ∧ Inv y (H' ++ H0) ∧ D y r v ∧ K r H'

/-- A call that only reads (and makes memory): its result. -/
def CallFn (P : Program) (g : FuncId) (az : List A) (r : A) : Prop := CallS P g az [] fun r' H' => r' = r ∧ H' = []

theorem CallS.mono {g : FuncId} {az : List A} {H : Heap} {K K' : A → Heap → Prop} (h : CallS P g az H K) (hk : ∀ r H', K r H' → K' r H') : CallS P g az H K' :=
  ⟨h.1, fun x args H0 hi hd => (h.2 x args H0 hi hd).mono fun _ _ ⟨y, v, r, H', a, b, c, d, e, f⟩ => ⟨y, v, r, H', a, b, c, d, e, hk _ _ f⟩⟩
theorem CallS.frame {g : FuncId} {az : List A} {H H1 : Heap} {K : A → Heap → Prop} (h : CallS P g az H K) : CallS P g az (H ++ H1) fun r H' => ∃ H2, K r H2 ∧ H' = H2 ++ H1 := by
  refine ⟨h.1, fun x args H0 hi hd => ?_⟩
  rw [List.append_assoc] at hi
  exact (h.2 x args (H1 ++ H0) hi hd).mono fun _ _ ⟨y, v, r, H', a, b, c, d, e, f⟩ => ⟨y, v, r, H' ++ H1, a, b, c, by rw [List.append_assoc]; exact d, e, H', f, rfl⟩
theorem CallFn.s {g : FuncId} {az : List A} {r : A} (h : CallFn P g az r) {H : Heap} {K : A → Heap → Prop} (hk : K r H) : CallS P g az H K :=
  (CallS.frame (H1 := H) h).mono fun _ _ ⟨_, ⟨e1, e2⟩, e⟩ => by rw [e, e1, e2]; exact hk

theorem Calls.run {g : FuncId} (h : Callable P g) (args : Array Value) (w : World) : (callFunc g args).run P w = .ok (.enter g args) w := by
  obtain ⟨fn, h1, h2, h3⟩ := h
  have h4 : fn.body.isNone = false := by cases hb : fn.body <;> simp_all
  simp only [callFunc, Sem.run_bind, run_program, Result.andThen_ok, h1, h3, h4, Bool.false_eq_true, if_false, Sem.run_pure]

def callA (E : Env) : Op → Option (Prop × FuncId × List A)
  | .call c => match c.callee with
    | .value f => match st (ev E f) with
      | (p, .fn g first caps) => some (p ∧ evlp E c.args.toList, g, first ++ evl E c.args.toList ++ caps)
      | _ => none
    | _ => none
  | _ => none

theorem callA_ok {E : Env} {o : Oper} {p : Prop} {g : FuncId} {az : List A} (h : callA E o.op = some (p, g, az)) (hp : p) {n : Nat} {ds : List Deferred} {x : X} {act : Act}
    (he : EnvOK n ds x act E) (hg : Callable P g) : ∃ args, (execOp act.eval o).run P x.w = .ok (.enter g args) x.w ∧ Ds x az args.toList := by
  obtain ⟨dst, op, type, pos, after, guard⟩ := o
  cases op <;> simp only [callA, reduceCtorEq] at h
  rename_i c
  split at h <;> try (simp at h; done)
  rename_i f hf
  split at h <;> try (simp at h; done)
  rename_i q g' first caps hst
  simp only [Option.some.injEq, Prod.mk.injEq] at h
  obtain ⟨rfl, rfl, rfl⟩ := h
  have hd := st_ok (ev_ok he f) (by rw [hst]; exact hp.1)
  rw [hst] at hd
  simp only [D] at hd
  obtain ⟨fs, cs, e, h1, h2⟩ := hd
  refine ⟨(fs ++ c.args.map act.eval) ++ cs, ?_, ?_⟩
  · simp only [execOp, resolve, hf, Sem.run_bind, Deferred.ofValue, e, Sem.run_pure, Result.andThen_ok, invoke]
    exact Calls.run hg _ _
  · simp only [Array.toList_append, Array.toList_map]
    exact (h1.append (evl_ok he c.args.toList hp.2)).append h2

/-- A call of yield, with owned memory handed over and back. -/
def CallY (P : Program) (l : Nat) (az : List A) (H : Heap) (K : A → Heap → Prop) : Prop :=
  ∀ (x : X) (args : Array Value) (H0 : Heap), Inv x (H ++ H0) → Ds x az args.toList →
    ∃ f tmps asg body, (Instr.yield l args).run P x.w = .ok (.round l f tmps asg body) x.w ∧
      RoundIn (fw none) 0 P l f tmps asg body x.w fun e w' => ∃ y v r H', e = .returned v ∧ y.w = w' ∧ x.le y ∧ Inv y (H' ++ H0) ∧ D y r v ∧ K r H'
theorem CallY.mono {l : Nat} {az : List A} {H : Heap} {K K' : A → Heap → Prop} (h : CallY P l az H K) (hk : ∀ r H', K r H' → K' r H') : CallY P l az H K' := by
  intro x args H0 hi hd
  obtain ⟨f, t, a, b, h1, h2⟩ := h x args H0 hi hd
  exact ⟨f, t, a, b, h1, h2.mono fun _ _ ⟨y, v, r, H', a, b, c, d, e, f⟩ => ⟨y, v, r, H', a, b, c, d, e, hk _ _ f⟩⟩
theorem CallY.frame {l : Nat} {az : List A} {H H1 : Heap} {K : A → Heap → Prop} (h : CallY P l az H K) : CallY P l az (H ++ H1) fun r H' => ∃ H2, K r H2 ∧ H' = H2 ++ H1 := by
  intro x args H0 hi hd
  rw [List.append_assoc] at hi
  obtain ⟨f, t, a, b, h1, h2⟩ := h x args (H1 ++ H0) hi hd
  exact ⟨f, t, a, b, h1, h2.mono fun _ _ ⟨y, v, r, H', a, b, c, d, e, f⟩ => ⟨y, v, r, H' ++ H1, a, b, c, by rw [List.append_assoc]; exact d, e, H', f, rfl⟩⟩
theorem CallY.perm {l : Nat} {az : List A} {H H1 : Heap} {K : A → Heap → Prop} (h : CallY P l az H K) (hp : H.Perm H1) : CallY P l az H1 K := by
  intro x args H0 hi hd
  exact h x args H0 (hi.perm (hp.append_right H0)) hd
theorem CallS.perm {g : FuncId} {az : List A} {H H1 : Heap} {K : A → Heap → Prop} (h : CallS P g az H K) (hp : H.Perm H1) : CallS P g az H1 K :=
  ⟨h.1, fun x args H0 hi hd => h.2 x args H0 (hi.perm (hp.append_right H0)) hd⟩
/-- Owned memory ahead of what a call is handed stays, too. -/
theorem CallS.frameL {g : FuncId} {az : List A} {H H1 : Heap} {K : A → Heap → Prop} (h : CallS P g az H K) : CallS P g az (H1 ++ H) fun r H' => ∃ H2, K r H2 ∧ H' = H1 ++ H2 := by
  refine ⟨h.1, fun x args H0 hi hd => ?_⟩
  refine ((h.frame (H1 := H1)).2 x args H0 (hi.perm (List.perm_append_comm.append_right H0)) hd).mono ?_
  rintro _ _ ⟨y, v, r, H', a, b, c, d, e, H2, f, rfl⟩
  exact ⟨y, v, r, H1 ++ H2, a, b, c, d.perm (List.perm_append_comm.append_right H0), e, H2, f, rfl⟩
theorem CallY.frameL {l : Nat} {az : List A} {H H1 : Heap} {K : A → Heap → Prop} (h : CallY P l az H K) : CallY P l az (H1 ++ H) fun r H' => ∃ H2, K r H2 ∧ H' = H1 ++ H2 := by
  intro x args H0 hi hd
  obtain ⟨f, t, a, b, h1, h2⟩ := (h.frame (H1 := H1)) x args H0 (hi.perm (List.perm_append_comm.append_right H0)) hd
  refine ⟨f, t, a, b, h1, h2.mono ?_⟩
  rintro _ _ ⟨y, v, r, H', a, b, c, d, e, H2, f, rfl⟩
  exact ⟨y, v, r, H1 ++ H2, a, b, c, d.perm (List.perm_append_comm.append_right H0), e, H2, f, rfl⟩

def yldA (E : Env) : Op → Option (Prop × Nat × List A)
  | .call c => match c.callee with
    | .value f => match st (ev E f) with
      | (p, .yld l) => some (p ∧ evlp E c.args.toList, l, evl E c.args.toList)
      | _ => none
    | _ => none
  | _ => none

theorem yldA_ok {E : Env} {o : Oper} {p : Prop} {l : Nat} {az : List A} (h : yldA E o.op = some (p, l, az)) (hp : p) {n : Nat} {ds : List Deferred} {x : X} {act : Act}
    (he : EnvOK n ds x act E) : ∃ args, (execOp act.eval o).run P x.w = (Instr.yield l args).run P x.w ∧ Ds x az args.toList := by
  obtain ⟨dst, op, type, pos, after, guard⟩ := o
  cases op <;> simp only [yldA, reduceCtorEq] at h
  rename_i c
  split at h <;> try (simp at h; done)
  rename_i f hf
  split at h <;> try (simp at h; done)
  rename_i q l' hst
  simp only [Option.some.injEq, Prod.mk.injEq] at h
  obtain ⟨rfl, rfl, rfl⟩ := h
  have hd := st_ok (ev_ok he f) (by rw [hst]; exact hp.1)
  rw [hst] at hd
  simp only [D] at hd
  refine ⟨#[] ++ c.args.map act.eval, ?_, ?_⟩
  · simp only [execOp, resolve, hf, Sem.run_bind, Deferred.ofValue, hd, Sem.run_pure, Result.andThen_ok, invoke]
  · simpa using evl_ok he c.args.toList hp.2

/-! ### Owned memory -/
def hget (g : Nat) : Heap → Option Ent
  | [] => none
  | (t, e) :: r => if t = g then some e else hget g r
def hset (g : Nat) (e : Ent) : Heap → Heap
  | [] => []
  | (t, e') :: r => if t = g then (t, e) :: r else (t, e') :: hset g e r
def hdel (g : Nat) : Heap → Heap
  | [] => []
  | (t, e') :: r => if t = g then r else (t, e') :: hdel g r
def nx : Heap → Nat
  | [] => 0
  | (t, _) :: r => if nx r ≤ t then t + 1 else nx r

theorem hget_mem {g : Nat} {e : Ent} : ∀ {H : Heap}, hget g H = some e → (g, e) ∈ H
  | [], h => by simp [hget] at h
  | (t, e') :: r, h => by
    simp only [hget] at h
    split at h
    · rename_i ht; subst ht; simp at h; subst h; simp
    · simp [hget_mem h]
theorem hdel_perm {g : Nat} {e : Ent} : ∀ {H : Heap}, hget g H = some e → H.Perm ((g, e) :: hdel g H)
  | [], h => by simp [hget] at h
  | (t, e') :: r, h => by
    simp only [hget] at h
    simp only [hdel]
    split at h
    · rename_i ht; subst ht; simp at h; subst h; simp
    · rename_i ht
      rw [if_neg ht]
      exact ((hdel_perm h).cons _).trans (List.Perm.swap _ _ _)
theorem hset_perm {g : Nat} {e e' : Ent} : ∀ {H : Heap}, hget g H = some e → ((g, e') :: hdel g H).Perm (hset g e' H)
  | [], h => by simp [hget] at h
  | (t, e1) :: r, h => by
    simp only [hget] at h
    simp only [hdel, hset]
    split at h
    · rename_i ht; subst ht; simp
    · rename_i ht
      rw [if_neg ht, if_neg ht]
      exact (List.Perm.swap _ _ _).trans ((hset_perm h).cons _)

/-- One entry turns into another in the same blocks (or new ones). -/
theorem Inv.turn {x y : X} {H : Heap} {g g' : Nat} {e e' : Ent} (h : Inv x ((g, e) :: H)) (le : x.le y) (hbd : ∀ b, y.ok b → b < y.w.heap.size)
    (hn : ∀ b, y.ok b → x.ok b ∨ x.w.heap.size ≤ b) (hs : e'.sat y)
    (hown : ∀ b, e'.own b → (e.own b ∨ (x.w.heap.size ≤ b ∧ ¬ y.ok b)) ∧ b < y.w.heap.size)
    (hold : ∀ b, b < x.w.heap.size → ¬ e.own b → y.w.heap[b]? = x.w.heap[b]?) : Inv y ((g', e') :: H) := by
  have hap := List.pairwise_cons.1 h.apart
  have hH : Inv y H := (h.sub (List.sublist_cons_self _ _)).step le hbd hn fun p hp b ho =>
    hold b (h.own p (by simp [hp]) b ho).1 fun ho' => hap.1 p hp b ho' ho
  refine ⟨hbd, ?_, ?_, List.pairwise_cons.2 ⟨?_, hH.apart⟩⟩
  · intro p hp
    rcases List.mem_cons.1 hp with rfl | hp
    · exact hs
    · exact hH.sat p hp
  · intro p hp b ho
    rcases List.mem_cons.1 hp with rfl | hp
    · refine ⟨(hown b ho).2, ?_⟩
      rcases (hown b ho).1 with h1 | h1
      · have h2 := h.own (g, e) (by simp) b h1
        intro hk
        rcases hn b hk with h3 | h3
        · exact h2.2 h3
        · have := h2.1; omega
      · exact h1.2
    · exact hH.own p hp b ho
  · intro p hp b ho hp'
    rcases (hown b ho).1 with h1 | h1
    · exact hap.1 p hp b h1 hp'
    · have := (h.own p (by simp [hp]) b hp').1
      omega

/-- A new entry in new blocks. -/
theorem Inv.fresh {x y : X} {H : Heap} {g : Nat} {e : Ent} (h : Inv x H) (le : x.le y) (hbd : ∀ b, y.ok b → b < y.w.heap.size)
    (hn : ∀ b, y.ok b → x.ok b ∨ x.w.heap.size ≤ b) (hs : e.sat y) (hown : ∀ b, e.own b → x.w.heap.size ≤ b ∧ ¬ y.ok b ∧ b < y.w.heap.size)
    (hold : ∀ b, b < x.w.heap.size → y.w.heap[b]? = x.w.heap[b]?) : Inv y ((g, e) :: H) := by
  have hH : Inv y H := h.step le hbd hn fun p hp b ho => hold b (h.own p hp b ho).1
  refine ⟨hbd, ?_, ?_, List.pairwise_cons.2 ⟨?_, hH.apart⟩⟩
  · intro p hp
    rcases List.mem_cons.1 hp with rfl | hp
    · exact hs
    · exact hH.sat p hp
  · intro p hp b ho
    rcases List.mem_cons.1 hp with rfl | hp
    · exact ⟨(hown b ho).2.2, (hown b ho).2.1⟩
    · exact hH.own p hp b ho
  · intro p hp b ho hp'
    have := (h.own p hp b hp').1
    have := (hown b ho).1
    omega

/-- A new owned block. -/
def X.mk' (x : X) (o : Obj) : X := ⟨x.w.alloc o, x.ok⟩
theorem X.mk'_le (x : X) (o : Obj) (hb : ∀ b, x.ok b → b < x.w.heap.size) : x.le (x.mk' o) :=
  ⟨fun b h => ⟨h, heap_alloc_old _ _ (hb b h)⟩, rfl, rfl, rfl, by simp [X.mk'], Nat.le_refl _⟩
theorem Inv.box {x : X} {H : Heap} (h : Inv x H) (g : Nat) {cs : List A} {c : Array Value} (ty : TypeId) (hd : Ds x cs c.toList) :
    Inv (x.mk' (.cells c ty)) ((g, .box x.w.heap.size cs) :: H) := by
  have le := X.mk'_le x (.cells c ty) h.bd
  refine h.fresh le (fun b hb => Nat.lt_of_lt_of_le (h.bd b hb) le.size) (fun b hb => .inl hb) ⟨c, ty, heap_alloc_new _ _, hd.mono le⟩ ?_ fun b hb => heap_alloc_old _ _ hb
  intro b hb
  simp only [Ent.own] at hb
  subst hb
  exact ⟨Nat.le_refl _, fun hk => absurd (h.bd _ hk) (Nat.lt_irrefl _), by simp [X.mk']⟩

end Go.Proofs.YtakndgpdolfenaaGreat
end

/- Operations on owned memory. -/
section
namespace Go.Proofs.YtakndgpdolfenaaGreat
variable {P : Program}

def StepOK (P : Program) (o : Oper) (E : Env) (H : Heap) (K : A → Heap → Prop) : Prop :=
  ∀ n ds x act H0, Inv x (H ++ H0) → EnvOK n ds x act E →
    ∃ u y a H', ((execOp act.eval o).run P x.w = .ok (.value u) y.w ∨ ((execOp act.eval o).run P x.w = .ok .skip y.w ∧ u = Go.undef)) ∧
      x.le y ∧ Inv y (H' ++ H0) ∧ D y a u ∧ K a H'

/-- The cells of a variable of a type, out of owned cells. -/
def cellsA (P : Program) (t : TypeId) (off : Nat) (cs : List A) : Option (Prop × A) := partA P t off (.agg cs)

theorem loadCells_ok {x : X} {b off : Nat} {cs : List A} {c : Array Value} {ty : TypeId} {fr : Nat × Nat} (hh : x.w.heap[b]? = some (.cells c ty fr)) {k : Nat}
    {l : List Value} (hd : Ds x cs l) (hlc : ∀ j v, l[j]? = some v → c[k + j]? = some v) {t : TypeId} {a : A} {p : Prop} (h : cellsA P t off cs = some (p, a)) (hp : p) :
    ∃ u, (loadVar t ⟨b, k + off, none⟩).run P x.w = .ok u x.w ∧ D x a u := by
  unfold cellsA partA at h
  simp only at h
  have hc : ∀ j v, l[j]? = some v → x.w.cell? ⟨b, k + j, none⟩ = some v := by
    intro j v hj
    simp [World.cell?, hh, hlc j v hj]
  split at h
  · rename_i ht
    simp only [Option.some.injEq, Prod.mk.injEq] at h
    obtain ⟨rfl, rfl⟩ := h
    have hd' := (hd.drop off).take (szT P t)
    have hl : ((l.drop off).take (szT P t)).length = szT P t := by
      rw [hd'.length]; simp; omega
    refine ⟨.agg ((l.drop off).take (szT P t)).toArray, ?_, packA_ok (by simpa using hd')⟩
    refine run_loadVar2 ht hl fun j v hj => ?_
    have hjl : j < szT P t := by
      rw [← hl]
      rcases Nat.lt_or_ge j ((l.drop off).take (szT P t)).length with h | h
      · exact h
      · rw [List.getElem?_eq_none h] at hj; cases hj
    rw [List.getElem?_take, if_pos hjl, List.getElem?_drop] at hj
    have := hc (off + j) v hj
    rw [Nat.add_assoc]; exact this
  · rename_i ht
    split at h <;> try (simp at h; done)
    rename_i l hl
    simp only [Option.some.injEq, Prod.mk.injEq] at h
    obtain ⟨_, rfl⟩ := h
    obtain ⟨u, h1, h2⟩ := hd.at hl
    exact ⟨u, run_loadVar1 ht (hc off u h1), h2⟩
  · simp at h

/-- An abstract value that is one cell. -/
def one1 : A → Bool
  | .any | .undef | .record _ | .agg _ | .tuple _ | .cond _ _ | .nn _ | .clip _ => false
  | _ => true
theorem one1_ok {x : X} {a : A} {v : Value} (h : one1 a = true) (hv : D x a v) : v.oneCell' = true := by
  cases a <;> simp only [one1, Bool.false_eq_true] at h <;> simp only [D] at hv
  · rename_i l
    cases l <;> simp only [RdL] at hv
    · subst hv; rfl
    · subst hv; rfl
    · subst hv; rfl
    · rcases hv with ⟨rfl, _⟩ | ⟨_, _, _, rfl, _⟩ | ⟨_, rfl, _⟩ <;> rfl
  · subst hv; rfl
  · obtain ⟨_, _, rfl, _⟩ := hv; rfl
  · subst hv; rfl
  · subst hv; rfl
  · obtain ⟨rfl, _, _, _, rfl⟩ := hv; rfl
  · obtain ⟨_, _, rfl, _⟩ := hv; rfl
  · subst hv; rfl
  · subst hv; rfl
  · subst hv; rfl
  · obtain ⟨_, _, _, _, _, rfl⟩ := hv; rfl
  · obtain ⟨_, h2⟩ := hv
    simp only [RdL] at h2
    rcases h2 with ⟨rfl, _⟩ | ⟨_, _, _, rfl, _⟩ | ⟨_, rfl, _⟩ <;> rfl
theorem ones_ok {x : X} : ∀ {az : List A} {vs : List Value}, az.all one1 = true → Ds x az vs → ∀ v ∈ vs, v.oneCell' = true
  | [], [], _, _ => by simp
  | a :: az, v :: vs, h, hd => by
    simp only [List.all_cons, Bool.and_eq_true] at h
    simp only [Ds] at hd
    intro u hu
    rcases List.mem_cons.1 hu with rfl | hu
    · exact one1_ok h.1 hd.1
    · exact ones_ok h.2 hd.2 u hu
  | [], _ :: _, _, h => by simp [Ds] at h
  | _ :: _, [], _, h => by simp [Ds] at h

/-- The world behind a store into an owned block. -/
def X.row (x : X) (b : Nat) (c : Array Value) : X := ⟨x.w.setRow b c, x.ok⟩
theorem X.row_le {x : X} {b : Nat} (c : Array Value) (hb : ¬ x.ok b) : x.le (x.row b c) :=
  ⟨fun k h => ⟨h, setRow_other _ _ _ _ (fun e => hb (e ▸ h))⟩, rfl, rfl, rfl, by simp [X.row], Nat.le_refl _⟩

theorem run_storeVar' {t : TypeId} (ht : tk P t ≠ 0) {w : World} {b off : Nat} {c : Array Value} {ty : TypeId} (hh : w.heap[b]? = some (.cells c ty (0, 0))) {v : Value}
    (hl : v.cells.toList.length = szT P t) (hr : off + v.cells.toList.length ≤ c.size) (h1 : ∀ u ∈ v.cells.toList, u.oneCell' = true) :
    (storeVar t ⟨b, off, none⟩ v).run P w = .ok () (w.setRow b (splice c.toList off v.cells.toList).toArray) := by
  have := run_storeCells_at P b off ty v.cells.toList 0 c w hh (by simpa using hr) h1
  unfold storeVar
  simp only [Array.length_toList] at hl
  simp only [Sem.run_bind, run_sizeOf' ht, Result.andThen_ok, hl, ne_eq, not_true, if_false]
  rw [this]
  simp [splice]

theorem Ent.own_box {b k : Nat} {cs : List A} (h : (Ent.box b cs).own k) : k = b := h

theorem store_box {x : X} {H : Heap} {g b off : Nat} {cs us : List A} {t : TypeId} {v : Value} (hi : Inv x H) (hg : hget g H = some (.box b cs)) (ht : tk P t ≠ 0)
    (hu : Ds x us v.cells.toList) (h1 : us.all one1 = true) (hl : us.length = szT P t) (hr : off + us.length ≤ cs.length) :
    ∃ y : X, (storeVar t ⟨b, off, none⟩ v).run P x.w = .ok () y.w ∧ x.le y ∧ Inv y (hset g (.box b (splice cs off us)) H) := by
  have hi1 := hi.perm (hdel_perm hg).symm
  obtain ⟨c, ty, hh, hd⟩ := hi1.sat (g, .box b cs) (by simp)
  have hb := hi1.own (g, .box b cs) (by simp) b rfl
  have hcl := hd.length
  simp only [Array.length_toList] at hcl
  have hul := hu.length
  refine ⟨x.row b (splice c.toList off v.cells.toList).toArray, ?_, X.row_le _ hb.2, ?_⟩
  · exact run_storeVar' ht hh (by rw [hul]; exact hl) (by rw [hul]; omega) (ones_ok h1 hu)
  · have hle := X.row_le (x := x) (b := b) (splice c.toList off v.cells.toList).toArray hb.2
    refine (hi1.turn (g' := g) (e' := .box b (splice cs off us)) hle (fun k hk => by simpa [X.row] using hi.bd k hk) (fun k hk => .inl hk) ?_ ?_ ?_).perm (hset_perm hg).symm
    · exact ⟨_, ty, setRow_heap _ _ _ _ _ _ hh, by simpa using (hd.splice hu).mono hle⟩
    · intro k hk
      obtain rfl := Ent.own_box hk
      exact ⟨.inl rfl, by simpa [X.row] using hb.1⟩
    · intro k _ hk
      exact setRow_other _ _ _ _ hk

theorem rdCells_of_rows {x : X} : ∀ (rows : List (List L)) (b off : Nat), RdRows x rows b off → RdCells x rows.flatten b off
  | [], _, _, _ => by simp [RdCells]
  | r :: rs, b, off, h => by
    simp only [RdRows] at h
    have ih := rdCells_of_rows rs b _ h.2
    simp only [List.flatten_cons]
    have app : ∀ (p q : List L) (b off : Nat), RdCells x p b off → RdCells x q b (off + p.length) → RdCells x (p ++ q) b off := by
      intro p
      induction p with
      | nil => intro q b off _ h; simpa using h
      | cons a p ih => intro q b off h k; simp only [RdCells] at h; simp only [List.cons_append, RdCells]; exact ⟨h.1, ih q b (off + 1) h.2 (by rw [Nat.add_assoc, Nat.add_comm 1]; exact k)⟩
    exact app r _ b off h.1 ih

/-- An element type that append and make know. -/
def elOK (P : Program) (e : TypeId) : Prop :=
  ∃ i z, P.info? e = some i ∧ i.zero = some z ∧ z.cells.size = i.size ∧ 0 < i.size ∧ i.bytes ≤ 4096
def zrT (P : Program) (e : TypeId) : List Value := match P.info? e with
  | some i => match i.zero with
    | some z => z.cells.toList
    | none => []
  | none => []

theorem elOK_sz {e : TypeId} {i : TypeInfo} (h : P.info? e = some i) : szT P e = i.size := by simp [szT, Program.cellsOf, h]

theorem Inv.ofOwn {x : X} {y : X} {H : Heap} {g g' : Nat} {h h' : Value} {e sz : Nat} {rows rows' : List (List A)} (hi : Inv x ((g, .seq h e sz rows) :: H)) (hok : y.ok = x.ok)
    (hs : Ent.sat y (.seq h' e sz rows')) (hg : x.w.grownBy y.w h.ownBlock) (hdr : x.w.drawn ≤ y.w.drawn) (hb : ∀ k, h'.ownBlock = some k → (h.ownBlock = some k ∨ x.w.heap.size ≤ k) ∧ k < y.w.heap.size) :
    x.le y ∧ Inv y ((g', .seq h' e sz rows') :: H) := by
  have hle : x.le y := by
    refine ⟨fun b hbk => ⟨by rw [hok]; exact hbk, hg.block b (hi.bd b hbk) fun ee => ?_⟩, hg.os, hg.output, hg.tape, hg.size, hdr⟩
    exact (hi.own (g, .seq h e sz rows) (by simp) b ee.symm).2 hbk
  refine ⟨hle, hi.turn hle (fun b hbk => ?_) (fun b hbk => .inl (by rw [← hok]; exact hbk)) hs (fun b hob => ?_) fun b hbs hno => hg.block b hbs fun ee => hno ee.symm⟩
  · rw [hok] at hbk; exact Nat.lt_of_lt_of_le (hi.bd b hbk) hg.size
  · have := hb b hob
    refine ⟨?_, this.2⟩
    rcases this.1 with h1 | h1
    · exact .inl h1
    · exact .inr ⟨h1, fun hk => by rw [hok] at hk; have := hi.bd b hk; omega⟩

theorem seq_own {x : X} {h : Value} {e sz : Nat} {rows : List (List A)} (hs : Ent.sat x (.seq h e sz rows)) : ∀ k, h.ownBlock = some k → k < x.w.heap.size := by
  obtain ⟨xs, ho, _⟩ := hs
  intro k hk
  exact (ho.lt k hk).2

theorem seq_hdr {x : X} {h : Value} {e sz : Nat} {rows : List (List A)} (hs : Ent.sat x (.seq h e sz rows)) : ∃ a c, h = .slice a rows.length c := by
  obtain ⟨xs, ⟨_, h2⟩, _⟩ := hs
  rcases h2 with ⟨rfl, h0⟩ | ⟨g, cap, cur, rfl, _⟩
  · exact ⟨none, 0, by rw [h0]⟩
  · exact ⟨_, _, rfl⟩

/-- append onto an owned slice. -/
theorem append_own {x : X} {H : Heap} {g g' : Nat} {h v : Value} {t e : TypeId} {rows ys : List (List A)} (ty : TypeId) (ht : slT P t = some e) (he : elOK P e)
    (hi : Inv x ((g, .seq h e (szT P e) rows) :: H)) (hy : ∀ r ∈ ys, r.length = szT P e) (hy1 : ys.flatten.all one1 = true)
    (hv : ((∃ ad c, v = .slice ad 0 c) ∧ ys = []) ∨ ∃ b off cap news, v = .slice (some ⟨b, off, none⟩) ys.length cap ∧ Ds x ys.flatten news ∧ ∀ j u, news[j]? = some u → x.w.cell? ⟨b, off + j, none⟩ = some u) (hb : rows.length + ys.length ≤ 4294967296) :
    ∃ u y, (Builtin.append_ #[t, t] ty #[h, v]).run P x.w = .ok u y.w ∧ x.le y ∧ (∃ a n c, u = .slice a n c) ∧
      Inv y ((g', .seq u e (szT P e) (rows ++ ys)) :: H) := by
  obtain ⟨i, z, hinf, hz, hzs, hsz, hby⟩ := he
  have hs := hi.sat (g, .seq h e (szT P e) rows) (by simp)
  obtain ⟨xs, ho, hrl, hd⟩ := hs
  have hsi : szT P e = i.size := elOK_sz hinf
  have hrows : ∀ r ∈ rows ++ ys, r.length = szT P e := by
    intro r hr
    rcases List.mem_append.1 hr with hr | hr
    · exact hrl r hr
    · exact hy r hr
  have hnilcase : ys = [] → (∃ ad c, v = .slice ad 0 c) → ∃ u y, (Builtin.append_ #[t, t] ty #[h, v]).run P x.w = .ok u y.w ∧ x.le y ∧ (∃ a n c, u = .slice a n c) ∧
      Inv y ((g', .seq u e (szT P e) (rows ++ ys)) :: H) := by
    rintro rfl ⟨ad, c, rfl⟩
    obtain ⟨ah, ch, rfl⟩ := seq_hdr (x := x) (h := h) (e := e) (sz := szT P e) (rows := rows) ⟨xs, ho, hrl, hd⟩
    have hroom : rows.length ≤ ch := by
      rcases ho.2 with ⟨e1, h0⟩ | ⟨g, cap, cur, e1, _, _, h5, _⟩
      · rw [h0]; exact Nat.zero_le _
      · cases e1; exact h5
    refine ⟨.slice ah rows.length ch, x, ?_, .refl x, ⟨_, _, _, rfl⟩, ?_⟩
    · have hfc : ∀ w, (Builtin.firstCells i.size 0 (.slice ad 0 c)).run P w = .ok #[] w := by
        intro w; cases ad <;> simp [Builtin.firstCells, loadCells, loadCellsFrom]
      cases ah <;> simp [Builtin.append_, run_underlying (slT_und ht), sizeOf, run_typeInfo _ hinf, Builtin.lenOf, hroom, hfc, storeCells]
    · simp only [List.append_nil]
      have := hi
      refine ⟨hi.bd, ?_, ?_, ?_⟩
      · intro p hp
        rcases List.mem_cons.1 hp with rfl | hp
        · exact ⟨xs, ho, hrl, hd⟩
        · exact hi.sat p (by simp [hp])
      · intro p hp b hob
        rcases List.mem_cons.1 hp with rfl | hp
        · exact hi.own (g, .seq _ e (szT P e) rows) (by simp) b hob
        · exact hi.own p (by simp [hp]) b hob
      · have hap := List.pairwise_cons.1 hi.apart
        exact List.pairwise_cons.2 ⟨fun p hp b hob => hap.1 p hp b hob, hap.2⟩
  rcases hv with ⟨hw, hy0⟩ | ⟨b, off, cap, news, rfl, hn1, hn2⟩
  · exact hnilcase hy0 hw
  · by_cases hy0 : ys = []
    · exact hnilcase hy0 ⟨_, cap, by rw [hy0]; rfl⟩
    · have hflen : ∀ (l : List (List A)), (∀ r ∈ l, r.length = szT P e) → l.flatten.length = l.length * szT P e := by
        intro l
        induction l with
        | nil => intro _; simp
        | cons r l ih => intro hl; simp only [List.flatten_cons, List.length_append, List.length_cons, ih (fun r hr => hl r (by simp [hr])), hl r (by simp), Nat.add_mul]; omega
      have hnl : news.length = ys.length * szT P e := by rw [hn1.length, hflen ys hy]
      have hones : ∀ u ∈ news, u.oneCell' = true := by
        exact ones_ok (x := x) (az := ys.flatten) hy1 hn1
      have hmax : (4294967296 : Nat) ≤ maxLen := by simp [maxLen]
      obtain ⟨u, w', k1, k2, k3, k4⟩ := run_append_own (P := P) x.w 0 t ty e i z (szT P e) i.bytes (slT_und ht) hinf hz hsi.symm rfl (by rw [hzs, hsi]) (by omega) h rows.length xs ho
        ⟨b, off, none⟩ ys.length cap news hnl (fun j u hj => by rw [add_none]; exact hn2 j u hj) hones (by omega)
        (by have := Nat.mul_le_mul (show rows.length + ys.length ≤ 4294967296 by omega) hby; omega) (Nat.zero_le _)
      let y : X := ⟨w', x.ok⟩
      have hlen : (rows ++ ys).length = rows.length + ys.length := by simp
      have hle0 : x.le y := by
        refine ⟨fun b hbk => ⟨hbk, k3.block b (hi.bd b hbk) fun ee => ?_⟩, k3.os, k3.output, k3.tape, k3.size, Sem.run_drawn _ _ k1⟩
        exact (hi.own (g, .seq h e (szT P e) rows) (by simp) b ee.symm).2 hbk
      have hsat : Ent.sat y (.seq u e (szT P e) (rows ++ ys)) := by
        refine ⟨xs ++ news, by rw [hlen]; exact k2, hrows, ?_⟩
        rw [List.flatten_append]
        exact (hd.mono hle0).append (hn1.mono hle0)
      obtain ⟨hle, hinv⟩ := hi.ofOwn (y := y) (g' := g') rfl hsat k3 (Sem.run_drawn _ _ k1) (fun k hk => by
        refine ⟨?_, seq_own hsat k hk⟩
        by_cases hc : h.ownBlock = some k
        · exact .inl hc
        · right
          have hn' : news.length = ys.length * i.size := by rw [hnl, hsi]
          have hnews : ∀ j u, news[j]? = some u → x.w.cell? ((⟨b, off, none⟩ : Addr).add j) = some u := fun j u hj => by rw [add_none]; exact hn2 j u hj
          have hpos : 0 < ys.length := List.length_pos_iff.2 hy0
          have hbb := Nat.mul_le_mul (show rows.length + ys.length ≤ 4294967296 by omega) hby
          rcases ho.2 with ⟨rfl, h0⟩ | ⟨g1, cap1, cur, rfl, _, hg1, hle1, hcm, hcs, htake⟩
          · have hb2 := Nat.mul_le_mul (show ys.length ≤ 4294967296 by omega) hby
            have hr2 := run_append_nil (P := P) x.w t ty e i z (slT_und ht) hinf hz ⟨b, off, none⟩ ys.length cap news hn' hnews hpos (by omega) (by omega)
            rw [hr2] at k1
            simp only [Result.ok.injEq] at k1
            rw [← k1.1] at hk
            simp only [Value.ownBlock, Option.some.injEq] at hk
            omega
          · by_cases hroom : rows.length + ys.length ≤ cap1
            · have hfit : rows.length * i.size + news.length ≤ cur.size := by rw [hn', hcs, hsi, ← Nat.add_mul]; exact Nat.mul_le_mul_right _ hroom
              have hr2 := run_append_room (P := P) x.w t ty e i (slT_und ht) hinf g1 rows.length cap1 cur hg1 ⟨b, off, none⟩ ys.length cap news hn' hnews hones hroom hfit
              rw [hr2] at k1
              simp only [Result.ok.injEq] at k1
              rw [← k1.1] at hk
              exact absurd hk hc
            · have holds : ∀ j u, xs[j]? = some u → x.w.cell? ((⟨g1, 0, none⟩ : Addr).add j) = some u := ho.cells (g := g1) rfl
              have hr2 := run_append_grow (P := P) x.w t ty e i z (slT_und ht) hinf hz ⟨g1, 0, none⟩ rows.length cap1 xs (by rw [ho.1, hsi]) holds ⟨b, off, none⟩ ys.length cap news hn' hnews
                (by omega) (by omega) (growslice_fits (by omega) (by omega))
              rw [hr2] at k1
              simp only [Result.ok.injEq] at k1
              rw [← k1.1] at hk
              simp only [Value.ownBlock, Option.some.injEq] at hk
              omega)
      obtain ⟨ah, ch, e1⟩ := seq_hdr hsat
      exact ⟨u, y, k1, hle, ⟨_, _, _, e1⟩, hinv⟩

/-- The cells of data that is appended. -/
theorem cells_data {x : X} {ys : List (List L)} {v : Value} (hv : RdL x (.sl ys) v) : ((∃ ad c, v = .slice ad 0 c) ∧ ys.map (·.map A.dat) = []) ∨
    ∃ b off cap news, v = .slice (some ⟨b, off, none⟩) (ys.map (·.map A.dat)).length cap ∧ Ds x (ys.map (·.map A.dat)).flatten news ∧ ∀ j u, news[j]? = some u → x.w.cell? ⟨b, off + j, none⟩ = some u := by
  simp only [RdL] at hv
  rcases hv with ⟨rfl, rfl⟩ | ⟨b, off, cap, rfl, _, hr⟩ | ⟨a, rfl, rfl⟩
  rotate_right
  · exact .inl ⟨⟨_, _, rfl⟩, rfl⟩
  · exact .inl ⟨⟨_, _, rfl⟩, rfl⟩
  · obtain ⟨news, h1, h2⟩ := (rdCells_of_rows ys b off hr).vals
    refine .inr ⟨b, off, cap, news, by simp, ?_, h2⟩
    have : (ys.map (·.map A.dat)).flatten = ys.flatten.map A.dat := by rw [List.map_flatten]
    rw [this]
    exact Ds.of_ls h1
theorem ones_data (ys : List (List L)) : (ys.map (·.map A.dat)).flatten.all one1 = true := by
  simp [one1]
/-- The cells of an owned slice that is appended. -/
theorem cells_own {x : X} {h : Value} {e sz : Nat} {rows : List (List A)} (hs : Ent.sat x (.seq h e sz rows)) : (h = .slice none 0 0 ∧ rows = []) ∨
    ∃ b off cap news, h = .slice (some ⟨b, off, none⟩) rows.length cap ∧ Ds x rows.flatten news ∧ ∀ j u, news[j]? = some u → x.w.cell? ⟨b, off + j, none⟩ = some u := by
  obtain ⟨xs, ho, hrl, hd⟩ := hs
  rcases ho.2 with ⟨rfl, h0⟩ | ⟨g, cap, cur, rfl, _⟩
  · exact .inl ⟨rfl, List.length_eq_zero_iff.1 h0⟩
  · refine .inr ⟨g, 0, cap, xs, rfl, hd, fun j u hj => ?_⟩
    have := ho.cells (g := g) rfl j u hj
    rwa [add_none] at this

end Go.Proofs.YtakndgpdolfenaaGreat
end

/- Maps whose keys are structs and whose values are slices: as they lie. -/
section
namespace Go.Proofs.YtakndgpdolfenaaGreat
variable {P : Program}

def keyBs (P : Program) (kt : TypeId) (v : Value) : Option (List UInt8) := match keyOf P kt v with
  | some (.string s) => some s
  | _ => none
/-- A key that the map's type knows. -/
def goodK (P : Program) (kt : TypeId) (v : Value) : Prop := (keyBs P kt v).isSome = true
def findM (P : Program) (kt : TypeId) (ms : List MapEntry) (key : Value) : Option MapEntry := ms.find? fun m => decide (keyBs P kt m.key = keyBs P kt key)
def putM (P : Program) (kt : TypeId) (ms : Array MapEntry) (c : Nat) (key v : Value) : Array MapEntry × Nat := match ms.toList.findIdx? fun m => decide (keyBs P kt m.key = keyBs P kt key) with
  | some j => (ms.modify j fun e => { e with key := key, val := v }, c)
  | none => (ms.push { key := key, val := v, born := c }, c + 1)
/-- A map that is in order. -/
def goodM (P : Program) (kt : TypeId) (ms : Array MapEntry) (c : Nat) : Prop := MapKept.Stamped ms c ∧ ∀ m ∈ ms.toList, goodK P kt m.key
/-- A map's type, with a struct as its key and a slice as its value: the key's type. -/
def rmT (P : Program) (t : TypeId) : Option TypeId := match P.underlying t with
  | some (.map kt et) => match P.underlying kt, P.info? et with
    | some (.struct _), some i => match i.zero with
      | some (.slice none 0 0) => if P.keyTypeAt 4 kt && P.tiled 4 kt then some kt else none
      | _ => none
    | _, _ => none
  | _ => none
theorem rmT_und {t kt : TypeId} (h : rmT P t = some kt) : ∃ et i fs, P.underlying t = some (.map kt et) ∧ P.underlying kt = some (.struct fs) ∧ P.info? et = some i ∧ i.zero = some (.slice none 0 0) ∧ WideMaps.KeyLaw P kt := by
  unfold rmT at h
  split at h <;> try (simp at h; done)
  rename_i kt' et hu
  split at h <;> try (simp at h; done)
  rename_i fs i hk hi
  split at h <;> try (simp at h; done)
  rename_i hz
  split at h <;> try (simp at h; done)
  rename_i hkt
  simp only [Option.some.injEq] at h
  subst h
  simp only [Bool.and_eq_true] at hkt
  exact ⟨et, i, fs, hu, hk, hi, hz, deep_law (m := 4) (by omega) hkt.1 hkt.2 (by rw [hk])⟩
theorem goodK_of {kt : TypeId} {v : Value} (h : goodK P kt v) : ∃ s, keyOf P kt v = some (.string s) ∧ keyBs P kt v = some s := by
  unfold goodK keyBs at h
  unfold keyBs
  split at h
  · rename_i s hs
    exact ⟨s, hs, rfl⟩
  · cases h
theorem keyBs_eq {kt : TypeId} (K : WideMaps.KeyLaw P kt) {a b : Value} (ha : goodK P kt a) (hb : goodK P kt b) : keyBs P kt a = keyBs P kt b ↔ a = b := by
  obtain ⟨s, h1, h2⟩ := goodK_of ha
  obtain ⟨t, h3, h4⟩ := goodK_of hb
  constructor
  · intro h
    rw [h2, h4] at h
    cases h
    exact K.inj h1 h3
  · rintro rfl; rfl
theorem find_raw {kt : TypeId} (K : WideMaps.KeyLaw P kt) (w : World) {ms : Array MapEntry} {c : Nat} {key : Value} (hm : goodM P kt ms c) (hk : goodK P kt key) :
    ((Instr.findKey kt key ms.toList).run P w = .ok none w ∧ (∀ e ∈ ms.toList, e.key ≠ key) ∧ findM P kt ms.toList key = none ∧ (ms.toList.findIdx? fun m => decide (keyBs P kt m.key = keyBs P kt key)) = none) ∨
    ∃ j e, (Instr.findKey kt key ms.toList).run P w = .ok (some (j, e.val)) w ∧ ms[j]? = some e ∧ e.key = key ∧ findM P kt ms.toList key = some e ∧ (ms.toList.findIdx? fun m => decide (keyBs P kt m.key = keyBs P kt key)) = some j := by
  obtain ⟨s, h1, h2⟩ := goodK_of hk
  rcases K.find w h1 ms.toList (fun e he => by obtain ⟨s, h3, _⟩ := goodK_of (hm.2 e he); exact ⟨_, h3⟩) with ⟨h3, h4⟩ | ⟨j, e, h3, h4, h5⟩
  · refine .inl ⟨h3, h4, ?_, ?_⟩
    · unfold findM
      rw [List.find?_eq_none]
      intro m hmm
      simp only [decide_eq_true_eq]
      exact fun e => h4 m hmm ((keyBs_eq K (hm.2 m hmm) hk).1 e)
    · rw [List.findIdx?_eq_none_iff]
      intro m hmm
      simp only [decide_eq_false_iff_not]
      exact fun e => h4 m hmm ((keyBs_eq K (hm.2 m hmm) hk).1 e)
  · obtain ⟨hj, hje⟩ := List.getElem?_eq_some_iff.1 h4
    have hnd := hm.1.2.2
    have hidx : (ms.toList.findIdx? fun m => decide (keyBs P kt m.key = keyBs P kt key)) = some j := by
      rw [List.findIdx?_eq_some_iff_getElem]
      refine ⟨hj, ?_, ?_⟩
      · rw [hje, h5]; simp
      · intro i hij
        simp only [decide_eq_true_eq]
        intro e1
        have h6 := (keyBs_eq K (hm.2 _ (List.getElem_mem (by omega))) hk).1 e1
        have h7 : (ms.toList.map (·.key))[i]'(by simp at hj ⊢; omega) = (ms.toList.map (·.key))[j]'(by simpa using hj) := by
          rw [List.getElem_map, List.getElem_map, h6, hje, h5]
        exact List.pairwise_iff_getElem.1 hnd i j (by simp at hj ⊢; omega) (by simpa using hj) hij h7
    refine .inr ⟨j, e, h3, by simpa using h4, h5, ?_, hidx⟩
    unfold findM
    rw [List.find?_eq_some_iff_getElem]
    refine ⟨by rw [h5]; simp, j, hj, hje, fun i hij => ?_⟩
    have := (List.findIdx?_eq_some_iff_getElem.1 hidx).2.2 i hij
    simpa using this
theorem lookup_raw {w : World} {b t kt : Nat} {ms : Array MapEntry} {c : Nat} {key : Value} (ht : rmT P t = some kt) (hb : w.heap[b]? = some (.map ms c)) (hm : goodM P kt ms c) (hk : goodK P kt key) :
    (Instr.lookup t (.map (some b)) key false).run P w = .ok (match findM P kt ms.toList key with
      | some e => e.val
      | none => .slice none 0 0) w := by
  obtain ⟨et, i, fs, h1, h2, h3, h4, K⟩ := rmT_und ht
  obtain ⟨s, k1, k2⟩ := goodK_of hk
  have hzv : (zeroValue et).run P w = .ok (.slice none 0 0) w := by simp [zeroValue, run_typeInfo w h3, h4]
  rcases find_raw K w hm hk with ⟨e1, e2, e3, e4⟩ | ⟨j, e, e1, e2, e3, e4, e5⟩
  · rw [e3]
    simp [Instr.lookup, run_underlying h1, MapKept.run_getObj_map hb, K.check w _ k1, e1, hzv, Result.andThen]
  · rw [e4]
    simp [Instr.lookup, run_underlying h1, MapKept.run_getObj_map hb, K.check w _ k1, e1, Result.andThen]
theorem update_raw {w : World} {b t kt : Nat} {ms : Array MapEntry} {c : Nat} {key v : Value} (ht : rmT P t = some kt) (hb : w.heap[b]? = some (.map ms c)) (hm : goodM P kt ms c) (hk : goodK P kt key) :
    (Instr.mapUpdate t (.map (some b)) key v).run P w = .ok () { w with heap := w.heap.setIfInBounds b (.map (putM P kt ms c key v).1 (putM P kt ms c key v).2) } := by
  obtain ⟨et, i, fs, h1, h2, h3, h4, K⟩ := rmT_und ht
  obtain ⟨s, k1, k2⟩ := goodK_of hk
  rcases find_raw K w hm hk with ⟨e1, e2, e3, e4⟩ | ⟨j, e, e1, e2, e3, e4, e5⟩
  · unfold putM
    rw [e4]
    simp [Instr.mapUpdate, run_underlying h1, MapKept.run_getObj_map hb, K.check w false k1, e1, MapKept.run_setObj_map _ hb, Result.andThen]
  · unfold putM
    rw [e5]
    simp [Instr.mapUpdate, run_underlying h1, MapKept.run_getObj_map hb, K.check w false k1, e1, e2, e3, K.stays w k1, MapKept.run_setObj_map _ hb, Result.andThen]

/-- The entry of a key, made if there is none: the map, its clock, the value, the entry's stamp. -/
def entM (P : Program) (kt : TypeId) (ms : Array MapEntry) (c : Nat) (key : Value) : Array MapEntry × Nat × Value × Nat := match findM P kt ms.toList key with
  | some e => (ms, c, e.val, e.born)
  | none => (ms.push { key := key, val := .slice none 0 0, born := c }, c + 1, .slice none 0 0, c)
def hasB (ms : Array MapEntry) (n : Int) : Prop := (ms.findIdx? fun e => (e.born : Int) == n).isSome = true
def setB (ms : Array MapEntry) (n : Int) (v : Value) : Array MapEntry := match ms.findIdx? fun e => (e.born : Int) == n with
  | some i => ms.modify i fun e => { e with val := v }
  | none => ms
theorem modify_same {ms : Array MapEntry} {j : Nat} {e : MapEntry} (h : ms[j]? = some e) : (ms.modify j fun e' => { e' with key := e.key }) = ms := by
  apply Array.ext_getElem?
  intro i
  rw [Array.getElem?_modify]
  split
  · rename_i hij
    subst hij
    rw [h]
    rfl
  · rfl
theorem entry_raw {w : World} {b t kt : Nat} {ms : Array MapEntry} {c : Nat} {key : Value} (ht : rmT P t = some kt) (hb : w.heap[b]? = some (.map ms c)) (hm : goodM P kt ms c) (hk : goodK P kt key) :
    (Instr.mapEntry t (.map (some b)) key).run P w = .ok (.tuple #[(entM P kt ms c key).2.2.1, .int .i64 ((entM P kt ms c key).2.2.2 : Nat)]) { w with heap := w.heap.setIfInBounds b (.map (entM P kt ms c key).1 (entM P kt ms c key).2.1) } := by
  obtain ⟨et, i, fs, h1, h2, h3, h4, K⟩ := rmT_und ht
  obtain ⟨s, k1, k2⟩ := goodK_of hk
  have hzv : (zeroValue et).run P w = .ok (.slice none 0 0) w := by simp [zeroValue, run_typeInfo w h3, h4]
  rcases find_raw K w hm hk with ⟨e1, e2, e3, e4⟩ | ⟨j, e, e1, e2, e3, e4, e5⟩
  · unfold entM
    rw [e3]
    simp [Instr.mapEntry, run_underlying h1, MapKept.run_getObj_map hb, K.check w false k1, e1, hzv, MapKept.run_setObj_map _ hb, Result.andThen, goInt]
  · unfold entM
    rw [e4]
    have hsame := modify_same e2
    rw [e3] at hsame
    simp [Instr.mapEntry, run_underlying h1, MapKept.run_getObj_map hb, K.check w false k1, e1, e2, e3, K.stays w k1, MapKept.run_setObj_map _ hb, Result.andThen, goInt, hsame]
theorem store_raw {w : World} {b t : Nat} {ms : Array MapEntry} {c : Nat} {n : Int} {k : IntKind} {v : Value} (hb : w.heap[b]? = some (.map ms c)) (hn : hasB ms n) :
    (Instr.entryStore t (.map (some b)) (.int k n) v).run P w = .ok () { w with heap := w.heap.setIfInBounds b (.map (setB ms n v) c) } := by
  unfold hasB at hn
  obtain ⟨i, hi⟩ := Option.isSome_iff_exists.1 hn
  unfold setB
  rw [hi]
  simp [Instr.entryStore, MapKept.run_getObj_map hb, asInt, asIntOf, hi, MapKept.run_setObj_map _ hb, Result.andThen]

/-- The entry at which an iterator stands. -/
def standM (ms : Array MapEntry) (seen : Array Nat) : Option MapEntry := match seen.back? with
  | some s => ms.find? (·.born == s)
  | none => none
def vL : Value → Option L
  | .int k n => some (.int k n)
  | .bool b => some (.bool b)
  | _ => none
theorem vL_ok {x : X} {v : Value} {l : L} (h : vL v = some l) : RdL x l v := by
  cases v <;> simp only [vL, Option.some.injEq, reduceCtorEq] at h <;> subst h <;> simp [RdL]
theorem entry_run {w : World} {b m since last c : Nat} {seen : Array Nat} {ms : Array MapEntry} {e : MapEntry} (h1 : w.heap[b]? = some (.mapIter (some m) since seen last)) (h2 : w.heap[m]? = some (.map ms c)) (hc : c = last) (he : standM ms seen = some e) :
    (Instr.entry (.pointer (some ⟨b, 0, none⟩))).run P w = .ok (.tuple #[e.key, e.val]) w := by
  subst hc
  unfold standM at he
  split at he
  · rename_i s hs
    simp [Instr.entry, getObj, Sem.run, h1, h2, hs, he]
  · cases he

/-- A key, as a value. -/
def cellV : L → Option Value
  | .int k n => some (.int k n)
  | .bool b => some (.bool b)
  | .str s => some (.string ⟨s.toArray⟩)
  | .sl _ => none
def cellVs : List L → Option (List Value)
  | [] => some []
  | l :: r => match cellV l, cellVs r with
    | some v, some vs => some (v :: vs)
    | _, _ => none
def datLs : List A → Option (List L)
  | [] => some []
  | .dat l :: r => (datLs r).map (l :: ·)
  | _ :: _ => none
def keyA : A → Option Value
  | .record ls => (cellVs ls).map fun vs => .agg vs.toArray
  | .agg az => match datLs az with
    | some ls => (cellVs ls).map fun vs => .agg vs.toArray
    | none => none
  | _ => none
theorem cellVs_ok {x : X} : ∀ {ls : List L} {vs us : List Value}, cellVs ls = some vs → RdLs x ls us → us = vs
  | [], vs, us, h, hr => by
    simp only [cellVs, Option.some.injEq] at h
    subst h
    cases us with
    | nil => rfl
    | cons _ _ => simp [RdLs] at hr
  | l :: r, vs, us, h, hr => by
    simp only [cellVs] at h
    split at h <;> try (simp at h; done)
    rename_i v vs' h1 h2
    simp only [Option.some.injEq] at h
    subst h
    cases us with
    | nil => simp [RdLs] at hr
    | cons u us =>
      simp only [RdLs] at hr
      rw [cellVs_ok h2 hr.2]
      congr 1
      cases l <;> simp only [cellV, Option.some.injEq, reduceCtorEq] at h1 <;> subst h1 <;> simpa [RdL] using hr.1
theorem datLs_ok {x : X} : ∀ {az : List A} {ls : List L} {us : List Value}, datLs az = some ls → Ds x az us → RdLs x ls us
  | [], ls, us, h, hd => by
    simp only [datLs, Option.some.injEq] at h
    subst h
    cases us with
    | nil => simp [RdLs]
    | cons _ _ => simp [Ds] at hd
  | a :: az, ls, us, h, hd => by
    cases a <;> simp only [datLs, reduceCtorEq] at h
    simp only [Option.map_eq_some_iff] at h
    obtain ⟨ls', h1, rfl⟩ := h
    cases us with
    | nil => simp [Ds] at hd
    | cons u us =>
      simp only [Ds, D] at hd
      simp only [RdLs]
      exact ⟨hd.1, datLs_ok h1 hd.2⟩
theorem keyA_ok {x : X} {a : A} {k v : Value} (h : keyA a = some k) (hd : D x a v) : v = k := by
  cases a <;> simp only [keyA, reduceCtorEq] at h
  · simp only [Option.map_eq_some_iff] at h
    obtain ⟨vs, h1, rfl⟩ := h
    simp only [D] at hd
    obtain ⟨us, rfl, hr⟩ := hd
    rw [← cellVs_ok h1 hr]
  · split at h <;> try (simp at h; done)
    rename_i ls hls
    simp only [Option.map_eq_some_iff] at h
    obtain ⟨vs, h1, rfl⟩ := h
    simp only [D] at hd
    obtain ⟨us, rfl, hr⟩ := hd
    rw [← cellVs_ok h1 (datLs_ok hls hr)]
/-- A slice's header, as a value. -/
def hdrA : A → Option Value
  | .own _ h => some h
  | .nils => some (.slice none 0 0)
  | _ => none
theorem hdrA_ok {x : X} {a : A} {h v : Value} (ha : hdrA a = some h) (hd : D x a v) : v = h := by
  cases a <;> simp only [hdrA, Option.some.injEq, reduceCtorEq] at ha <;> subst ha <;> simp only [D] at hd
  · exact hd
  · exact hd.1

end Go.Proofs.YtakndgpdolfenaaGreat
end

/- The steps on owned memory as conditions; regions in the order of the text; the conditions of a whole code; functions. -/
section
namespace Go.Proofs.YtakndgpdolfenaaGreat
variable {P : Program}

/-! ### Maps with plain keys -/
def zL : Value → Option L
  | .int k n => some (.int k n)
  | .bool b => some (.bool b)
  | .string s => some (.str s.data.toList)
  | .slice none 0 0 => some (.sl [])
  | _ => none
def plainK : TypeDesc → Bool
  | .int _ => true
  | .bool => true
  | .string => true
  | _ => false
def mpT (P : Program) (t : TypeId) : Option (TypeDesc × L) :=
  match P.underlying t with
  | some (.map kt et) => match P.underlying kt, P.info? et with
    | some d, some i => match i.zero.bind zL, plainK d with
      | some l, true => some (d, l)
      | _, _ => none
    | _, _ => none
  | _ => none
def isKL : TypeDesc → L → Bool
  | .int k, .int k' _ => k' == k
  | .bool, .bool _ => true
  | .string, .str _ => true
  | _, _ => false
def leq : L → L → Bool
  | .int k a, .int k' b => k == k' && a == b
  | .bool a, .bool b => a == b
  | .str a, .str b => a == b
  | _, _ => false
def mget : List (L × L) → L → Option L
  | [], _ => none
  | (k, v) :: r, q => if leq k q then some v else mget r q
def mput : List (L × L) → L → L → List (L × L)
  | [], q, v => [(q, v)]
  | (k, u) :: r, q, v => if leq k q then (k, v) :: r else (k, u) :: mput r q v

theorem mpT_und {t : TypeId} {d : TypeDesc} {l : L} (h : mpT P t = some (d, l)) : ∃ kt et i z, P.underlying t = some (.map kt et) ∧ P.underlying kt = some d ∧ P.info? et = some i ∧ i.zero = some z ∧ zL z = some l ∧ plainK d = true := by
  unfold mpT at h
  split at h <;> try (simp at h; done)
  rename_i kt et hu
  split at h <;> try (simp at h; done)
  rename_i d' i hk hi
  split at h <;> try (simp at h; done)
  rename_i l' hz hp
  simp only [Option.some.injEq, Prod.mk.injEq] at h
  obtain ⟨rfl, rfl⟩ := h
  cases hzz : i.zero with
  | none => simp [hzz] at hz
  | some z => exact ⟨kt, et, i, z, hu, hk, hi, hzz, by simpa [hzz] using hz, hp⟩
theorem zL_ok {x : X} {z : Value} {l : L} (h : zL z = some l) : RdL x l z := by
  unfold zL at h
  split at h <;> simp only [Option.some.injEq, reduceCtorEq] at h <;> subst h <;> simp [RdL]
theorem isKL_key {d : TypeDesc} {l : L} (h : isKL d l = true) : MapKept.IsKey d (kv l) := by
  unfold isKL at h
  split at h <;> simp_all [MapKept.IsKey, kv]
theorem isKL_val {x : X} {d : TypeDesc} {l : L} (h : isKL d l = true) {v : Value} (hv : RdL x l v) : v = kv l := by
  unfold isKL at h
  split at h <;> first | (simp only [RdL] at hv; subst hv; rfl) | simp at h
theorem leq_kv {d : TypeDesc} {a b : L} (ha : MapKept.IsKey d (kv a)) (hb : isKL d b = true) : leq a b = true ↔ kv a = kv b := by
  cases d <;> cases a <;> simp only [MapKept.IsKey, kv] at ha <;> cases b <;> simp only [isKL, Bool.false_eq_true, beq_iff_eq] at hb <;> simp_all [leq, kv]
theorem mget_find {x : X} {d : TypeDesc} {q : L} (hq : isKL d q = true) : ∀ (es : List (L × L)) (ms : List MapEntry) (i : Nat), MapOK x es ms → (∀ m ∈ ms, MapKept.IsKey d m.key) →
    (mget es q = none ∧ Instr.findNow d (kv q) ms i = some none ∧ ∀ m ∈ ms, m.key ≠ kv q) ∨ ∃ j m l, mget es q = some l ∧ Instr.findNow d (kv q) ms i = some (some (i + j, m.val)) ∧ ms[j]? = some m ∧ m.key = kv q ∧ RdL x l m.val
  | [], [], _, _, _ => .inl ⟨rfl, rfl, by simp⟩
  | [], _ :: _, _, h, _ => by simp [MapOK] at h
  | _ :: _, [], _, h, _ => by simp [MapOK] at h
  | (k, l) :: r, m :: ms, i, h, hk => by
    simp only [MapOK] at h
    have hk0 := hk m (by simp)
    have hiff := leq_kv (d := d) (a := k) (by rw [← h.1]; exact hk0) hq
    obtain ⟨b, hb, hbiff⟩ := MapKept.sameNow_of_keys (isKL_key hq) hk0
    cases b with
    | true =>
      have e := hbiff.1 rfl
      refine .inr ⟨0, m, l, ?_, by simp [Instr.findNow, hb], rfl, e.symm, h.2.1⟩
      simp only [mget]
      rw [if_pos (hiff.2 (by rw [← h.1]; exact e.symm))]
    | false =>
      have hne : m.key ≠ kv q := fun e => by have := hbiff.2 e.symm; cases this
      have hl : ¬ leq k q = true := fun e => hne (by rw [h.1]; exact hiff.1 e)
      rcases mget_find hq r ms (i + 1) h.2.2 (fun m hm => hk m (by simp [hm])) with ⟨h1, h2, h3⟩ | ⟨j, m', l', h1, h2, h3, h4, h5⟩
      · refine .inl ⟨by simp [mget, hl, h1], by simp [Instr.findNow, hb, h2], fun m' hm' => ?_⟩
        rcases List.mem_cons.1 hm' with rfl | hm'
        · exact hne
        · exact h3 m' hm'
      · exact .inr ⟨j + 1, m', l', by simp [mget, hl, h1], by simp [Instr.findNow, hb, h2]; omega, by simpa using h3, h4, h5⟩

theorem lookup_map {x : X} {b t : Nat} {d : TypeDesc} {z q : L} {es : List (L × L)} {ok : Bool} (ht : mpT P t = some (d, z)) (hq : isKL d q = true) (hs : Ent.sat x (.map b d es)) :
    ∃ u, (Instr.lookup t (.map (some b)) (kv q) ok).run P x.w = .ok u x.w ∧ D x (match ok with
      | true => .tuple [.dat ((mget es q).getD z), .dat (.bool (mget es q).isSome)]
      | false => .dat ((mget es q).getD z)) u := by
  obtain ⟨kt, et, i, zv, h1, h2, h3, h4, h5, h6⟩ := mpT_und ht
  obtain ⟨ms, c, k1, k2, k3, k4⟩ := hs
  have hzv : ∀ w, (zeroValue et).run P w = .ok zv w := fun w => by simp [zeroValue, run_typeInfo w h3, h4]
  rcases mget_find hq es ms.toList 0 k2 k4 with ⟨g1, g2, _⟩ | ⟨j, m, l, g1, g2, _, _, g5⟩
  · refine ⟨if ok then .tuple #[zv, .bool false] else zv, ?_, ?_⟩
    · cases ok <;> simp [Instr.lookup, run_underlying h1, MapKept.run_getObj_map k1, MapKept.run_checkKey h2 (isKL_key hq), MapKept.run_findKey h2 g2, hzv]
    · rw [g1]
      cases ok
      · simpa [D] using zL_ok h5
      · simp only [D, if_true]
        exact ⟨_, rfl, by simp [Ds, D, RdL]; exact zL_ok h5⟩
  · refine ⟨if ok then .tuple #[m.val, .bool true] else m.val, ?_, ?_⟩
    · cases ok <;> simp [Instr.lookup, run_underlying h1, MapKept.run_getObj_map k1, MapKept.run_checkKey h2 (isKL_key hq), MapKept.run_findKey h2 g2]
    · rw [g1]
      cases ok
      · simpa [D] using g5
      · simp only [D, if_true]
        exact ⟨_, rfl, by simp [Ds, D, RdL]; exact g5⟩

theorem MapOK.push {x : X} {q l : L} {v : Value} {c : Nat} (hl : RdL x l v) : ∀ {es : List (L × L)} {ms : List MapEntry}, MapOK x es ms → mget es q = none → MapOK x (mput es q l) (ms ++ [{ key := kv q, val := v, born := c }])
  | [], [], _, _ => by simp [mput, MapOK]; exact hl
  | [], _ :: _, h, _ => by simp [MapOK] at h
  | _ :: _, [], h, _ => by simp [MapOK] at h
  | (k, u) :: r, m :: ms, h, hg => by
    simp only [mget] at hg
    split at hg
    · cases hg
    · rename_i hk
      simp only [MapOK] at h
      simp only [mput]
      rw [if_neg hk]
      simp only [List.cons_append, MapOK]
      exact ⟨h.1, h.2.1, MapOK.push hl h.2.2 hg⟩
theorem MapOK.put {x : X} {d : TypeDesc} {q l : L} {v : Value} (hq : isKL d q = true) (hl : RdL x l v) : ∀ {es : List (L × L)} {ms : List MapEntry} {j : Nat} {m : MapEntry}, MapOK x es ms → (∀ m ∈ ms, MapKept.IsKey d m.key) → (ms.map (·.key)).Nodup → ms[j]? = some m → m.key = kv q →
    MapOK x (mput es q l) (ms.modify j fun e => { e with key := kv q, val := v })
  | [], [], _, _, _, _, _, h, _ => by simp at h
  | [], _ :: _, _, _, h, _, _, _, _ => by simp [MapOK] at h
  | _ :: _, [], _, _, h, _, _, _, _ => by simp [MapOK] at h
  | (k, u) :: r, m0 :: ms, 0, m, h, hk, _, hj, hm => by
    simp at hj; subst hj
    simp only [MapOK] at h
    have : leq k q = true := (leq_kv (d := d) (by rw [← h.1]; exact hk m0 (by simp)) hq).2 (by rw [← h.1]; exact hm)
    simp only [mput]
    rw [if_pos this]
    simp only [List.modify_zero_cons, MapOK]
    exact ⟨by rw [← h.1]; exact hm.symm, hl, h.2.2⟩
  | (k, u) :: r, m0 :: ms, j + 1, m, h, hk, hn, hj, hm => by
    simp only [MapOK] at h
    simp at hj
    simp only [List.map_cons, List.nodup_cons] at hn
    have hne : ¬ leq k q = true := fun e => by
      have e1 := (leq_kv (d := d) (by rw [← h.1]; exact hk m0 (by simp)) hq).1 e
      rw [← h.1, ← hm] at e1
      exact hn.1 (e1 ▸ List.mem_map.2 ⟨m, List.mem_of_getElem? hj, rfl⟩)
    simp only [mput]
    rw [if_neg hne]
    simp only [List.modify_succ_cons, MapOK]
    exact ⟨h.1, h.2.1, MapOK.put hq hl h.2.2 (fun m hm => hk m (by simp [hm])) hn.2 hj hm⟩

theorem update_map {x : X} {H : Heap} {g b t : Nat} {d : TypeDesc} {z q l : L} {v : Value} {es : List (L × L)} (ht : mpT P t = some (d, z)) (hq : isKL d q = true) (hi : Inv x ((g, .map b d es) :: H)) (hl : RdL x l v) :
    ∃ y : X, (Instr.mapUpdate t (.map (some b)) (kv q) v).run P x.w = .ok () y.w ∧ x.le y ∧ Inv y ((g, .map b d (mput es q l)) :: H) := by
  obtain ⟨kt, et, i, zv, h1, h2, h3, h4, h5, h6⟩ := mpT_und ht
  have hs := hi.sat (g, .map b d es) (by simp)
  have hown := hi.own (g, .map b d es) (by simp) b rfl
  obtain ⟨ms, c, k1, k2, k3, k4⟩ := hs
  have fin : ∀ (ms' : Array MapEntry) (c' : Nat), MapOK x (mput es q l) ms'.toList → MapKept.Stamped ms' c' → (∀ m ∈ ms'.toList, MapKept.IsKey d m.key) →
      ∃ y : X, y.w = { x.w with heap := x.w.heap.setIfInBounds b (.map ms' c') } ∧ x.le y ∧ Inv y ((g, .map b d (mput es q l)) :: H) := by
    intro ms' c' e1 e2 e3
    have hle : x.le ⟨{ x.w with heap := x.w.heap.setIfInBounds b (.map ms' c') }, x.ok⟩ :=
      ⟨fun k hk => ⟨hk, by simp [Array.getElem?_setIfInBounds_ne (show b ≠ k from fun e => hown.2 (e ▸ hk))]⟩, rfl, rfl, rfl, by simp, Nat.le_refl _⟩
    refine ⟨⟨_, x.ok⟩, rfl, hle, hi.turn (g' := g) (e' := .map b d (mput es q l)) hle (fun k hk => by simpa using hi.bd k hk) (fun k hk => .inl hk) ?_ ?_ ?_⟩
    · exact ⟨ms', c', (MapKept.heap_set k1).1, e1.mono hle, e2, e3⟩
    · intro k hk
      simp only [Ent.own] at hk
      subst hk
      exact ⟨.inl rfl, by simpa using hown.1⟩
    · intro k _ hk
      exact (MapKept.heap_set k1).2 k fun e => hk e
  rcases mget_find hq es ms.toList 0 k2 k4 with ⟨g1, g2, g3⟩ | ⟨j, m, l', g1, g2, g3, g4, g5⟩
  · obtain ⟨y, e1, e2, e3⟩ := fin (ms.push { key := kv q, val := v, born := c }) (c + 1) (by simpa using MapOK.push hl k2 g1) (MapKept.stamped_push k3 g3) (by
      intro m hm
      simp only [Array.toList_push, List.mem_append, List.mem_singleton] at hm
      rcases hm with hm | rfl
      · exact k4 m hm
      · exact isKL_key hq)
    refine ⟨y, ?_, e2, e3⟩
    rw [e1]
    simp [Instr.mapUpdate, run_underlying h1, MapKept.run_getObj_map k1, MapKept.run_checkKey h2 (isKL_key hq), MapKept.run_findKey h2 g2, MapKept.run_setObj_map _ k1]
  · have hj : ms[j]? = some m := by simpa using g3
    have hkey : ∀ e', ms[j]? = some e' → ({ e' with key := kv q, val := v } : MapEntry).key = e'.key := fun e' he' => by rw [hj] at he'; cases he'; exact g4.symm
    obtain ⟨y, e1, e2, e3⟩ := fin (ms.modify j fun e => { e with key := kv q, val := v }) c (by
      have := MapOK.put hq hl k2 k4 k3.2.2 g3 g4
      simpa [Array.toList_modify] using this) (MapKept.stamped_modify k3 _ _ (fun _ _ => rfl) (fun e' _ he' => hkey e' he')) (MapKept.isKey_modify k4 _ _ hkey)
    refine ⟨y, ?_, e2, e3⟩
    rw [e1]
    simp [Instr.mapUpdate, run_underlying h1, MapKept.run_getObj_map k1, MapKept.run_checkKey h2 (isKL_key hq), MapKept.run_findKey h2 g2, hj, g4, MapKept.run_keyThatStays (isKL_key hq), MapKept.run_setObj_map _ k1]

theorem MapOK.length {x : X} : ∀ {es : List (L × L)} {ms : List MapEntry}, MapOK x es ms → ms.length = es.length
  | [], [], _ => rfl
  | _ :: _, _ :: _, h => by simp only [MapOK] at h; simp [MapOK.length h.2.2]
  | [], _ :: _, h => by simp [MapOK] at h
  | _ :: _, [], h => by simp [MapOK] at h

def valM : Option MapEntry → Value
  | some e => e.val
  | none => .slice none 0 0
def isHd (v : Value) : Prop := ∃ a n c, v = .slice a n c
/-- A step on owned memory: its condition, its value, and the entry that it changes. 'u', 'b': what is new (a header, a block); 'τ': the mark of what is new. -/
def heapF (P : Program) (u : Value) (b : Nat) (τ : Nat) (E : Env) (G : Nat → Option Ent) : Op → Option (Prop × A × Option (Nat × Ent))
  | .load t x => match st (ev E x) with
    | (p, .ptr g b off) => match G g with
      | some (.box b' cs) => match cellsA P t off cs with
        | some (q, a) => some (p ∧ b' = b ∧ q, a, none)
        | none => none
      | _ => none
    | (p, .eptr g h sz i j) => match G g with
      | some (.seq h' _ sz' rows) => match rows[i]? with
        | some r => match cellsA P t j r with
          | some (q, a) => some (p ∧ h' = h ∧ sz' = sz ∧ q, a, none)
          | none => none
        | none => none
      | _ => none
    | _ => none
  | .store t x v => match st (ev E x), stR (ev E v) with
    | (p, .ptr g b off), (q, a) => match G g, flatA a with
      | some (.box b' cs), some us => some (p ∧ q ∧ b' = b ∧ tk P t ≠ 0 ∧ us.length = szT P t ∧ off + us.length ≤ cs.length ∧ us.all one1 = true, .undef,
          some (g, .box b (splice cs off us)))
      | _, _ => none
    | (p, .eptr g h sz i j), (q, a) => match G g, flatA a with
      | some (.seq h' e sz' rows), some us => match rows[i]? with
        | some r => some (p ∧ q ∧ h' = h ∧ sz' = sz ∧ tk P t ≠ 0 ∧ us.length = szT P t ∧ j + us.length ≤ sz ∧ us.all one1 = true, .undef,
            some (g, .seq h e sz (rows.set i (splice r j us))))
        | none => none
      | _, _ => none
    | _, _ => none
  | .alloc t => some ((P.info? t).any (·.zero.isSome) = true, .ptr τ b 0, some (τ, .box b ((zrT P t).map kA)))
  | .box _ x => match st (ev E x) with
    | (p, a) => match flatA a with
      | some cs => some (p, .ptr τ b 0, some (τ, .box b cs))
      | none => none
  | .buildSlice t n ps => match slT P t with
    | some e => some (n = 0 ∧ ps.toList = [] ∧ elOK P e, .own τ u, some (τ, .seq u e (szT P e) []))
    | none => none
  | .makeSlice t l c => match slT P t, st (ev E l), st (ev E c) with
    | some e, (p, .dat (.int _ n)), (q, .dat (.int _ m)) => some (p ∧ q ∧ elOK P e ∧ n = m ∧ 0 ≤ n ∧ n ≤ 4294967296, .own τ u,
        some (τ, .seq u e (szT P e) (List.replicate n.toNat ((zrT P e).map kA))))
    | _, _, _ => none
  | .indexAddr t x i => match st (ev E x), st (ev E i), slT P t with
    | (p, .own g h), (q, .dat (.int _ n)), some e => match G g with
      | some (.seq h' _ sz rows) => some (p ∧ q ∧ h' = h ∧ tk P e ≠ 0 ∧ szT P e = sz ∧ 0 ≤ n ∧ n < rows.length, .eptr g h sz n.toNat 0, none)
      | _ => none
    | _, _, _ => none
  | .makeMap t none => match mpT P t with
    | some (d, _) => some (True, .map τ b, some (τ, .map b d []))
    | none => some ((rmT P t).isSome = true, .map τ b, some (τ, .raw b (.map #[] 0)))
  | .lookup t x i ok => match mpT P t, st (ev E x), st (ev E i) with
    | some (d, z), (p, .map g r), (q, .dat l) => match G g with
      | some (.map b' d' es) => some (p ∧ q ∧ b' = r ∧ d' = d ∧ isKL d l = true, (match ok with
        | true => .tuple [.dat ((mget es l).getD z), .dat (.bool (mget es l).isSome)]
        | false => .dat ((mget es l).getD z)), none)
      | _ => none
    | none, (p, .map g r), (q, a) => match G g, keyA a, rmT P t, ok with
      | some (.raw b' (.map ms c)), some key, some kt, false => some (p ∧ q ∧ b' = r ∧ goodM P kt ms c ∧ goodK P kt key ∧ isHd (valM (findM P kt ms.toList key)), .own 90 (valM (findM P kt ms.toList key)), none)
      | _, _, _, _ => none
    | _, _, _ => none
  | .mapUpdate t m k v => match mpT P t, st (ev E m), st (ev E k) with
    | some (d, _), (p, .map g r), (q, .dat l) => match G g, st (ev E v) with
      | some (.map b' d' es), (q2, av) => match asL av with
        | some [lv] => some (p ∧ q ∧ q2 ∧ b' = r ∧ d' = d ∧ isKL d l = true ∧ one1 av = true, .undef, some (g, .map b' d' (mput es l lv)))
        | _ => none
      | _, _ => none
    | none, (p, .map g r), (q, a) => match G g, keyA a, rmT P t, st (ev E v) with
      | some (.raw b' (.map ms c)), some key, some kt, (q2, av) => match hdrA av with
        | some h => some (p ∧ q ∧ q2 ∧ b' = r ∧ goodM P kt ms c ∧ goodK P kt key, .undef, some (g, .raw b' (.map (putM P kt ms c key h).1 (putM P kt ms c key h).2)))
        | none => none
      | _, _, _, _ => none
    | _, _, _ => none
  | .insert t m k v => match mpT P t, st (ev E m), st (ev E k) with
    | some (d, _), (p, .map g r), (q, .dat l) => match G g, st (ev E v) with
      | some (.map b' d' es), (q2, av) => match asL av with
        | some [lv] => some (p ∧ q ∧ q2 ∧ b' = r ∧ d' = d ∧ isKL d l = true ∧ one1 av = true, .undef, some (g, .map b' d' (mput es l lv)))
        | _ => none
      | _, _ => none
    | _, _, _ => none
  | .mapEntry t m k => match mpT P t, st (ev E m), st (ev E k) with
    | none, (p, .map g r), (q, a) => match G g, keyA a, rmT P t with
      | some (.raw b' (.map ms c)), some key, some kt => some (p ∧ q ∧ b' = r ∧ goodM P kt ms c ∧ goodK P kt key ∧ isHd (entM P kt ms c key).2.2.1, .tuple [.own 90 (entM P kt ms c key).2.2.1, .dat (.int .i64 ((entM P kt ms c key).2.2.2 : Nat))],
          some (g, .raw b' (.map (entM P kt ms c key).1 (entM P kt ms c key).2.1)))
      | _, _, _ => none
    | _, _, _ => none
  | .entryStore _ m s v => match st (ev E m), st (ev E s) with
    | (p, .map g r), (q, .dat (.int _ n)) => match G g, st (ev E v) with
      | some (.raw b' (.map ms c)), (q2, av) => match hdrA av with
        | some h => some (p ∧ q ∧ q2 ∧ b' = r ∧ hasB ms n, .undef, some (g, .raw b' (.map (setB ms n h) c)))
        | none => none
      | _, _ => none
    | _, _ => none
  | .range t x => match st (ev E x) with
    | (p, .dat (.str s)) => some (p ∧ isStr P t = true, .ptr τ b 0, some (τ, .raw b (.stringIter ⟨s.toArray⟩ 0)))
    | (p, .map g r) => match G g with
      | some (.raw b' (.map _ c)) => some (p ∧ b' = r ∧ (mpT P t).isSome = true, .ptr τ b 0, some (τ, .raw b (.mapIter (some r) c #[] c)))
      | _ => none
    | _ => none
  | .entry x => match st (ev E x) with
    | (p, .ptr g b1 0) => match G g, G 89 with
      | some (.raw b' (.mapIter (some m) _ seen last)), some (.raw b2 (.map ms c)) => match standM ms seen with
        | some e => match vL e.key, vL e.val with
          | some k, some v => some (p ∧ b' = b1 ∧ b2 = m ∧ c = last, .tuple [.dat k, .dat v], none)
          | _, _ => none
        | none => none
      | _, _ => none
    | _ => none
  | .next x isS => match st (ev E x) with
    | (p, .ptr g b1 0) => match G g with
      | some (.raw b' (.stringIter s pos)) => if pos < s.size then some (p ∧ b' = b1 ∧ isS = true, .tuple [.dat (.bool true), .dat (.int .i64 pos), .dat (.int .i32 (Utf8.decode s pos).1)], some (g, .raw b' (.stringIter s (pos + (Utf8.decode s pos).2))))
        else some (p ∧ b' = b1 ∧ isS = true, .tuple [.dat (.bool false)], none)
      | _ => none
    | _ => none
  | .slice t x lo hi none => match st (ev E x), slT P t with
    | (p, .own g h), some e => match G g with
      | some (.seq h' e' sz rows) => match boundA 0 (opt E lo), boundA rows.length (opt E hi) with
        | some (q1, l), some (q2, k) => some (p ∧ optp E lo ∧ optp E hi ∧ q1 ∧ q2 ∧ h' = h ∧ e' = e ∧ sz = szT P e ∧ tk P e ≠ 0 ∧ szT P e ≠ 0 ∧ l = 0 ∧ k ≤ rows.length, .own g u, some (g, .seq u e (szT P e) (rows.take k)))
        | _, _ => none
      | _ => none
    | _, _ => none
  | .call c => match c.callee, c.args.toList, c.argTypes.toList with
    | .builtin .len, [x], [t] => match st (ev E x), slT P t with
      | (p, .own g h), some _ => match G g with
        | some (.seq h' _ _ rows) => some (p ∧ h' = h, .dat (.int .i64 rows.length), none)
        | _ => none
      | (p, .map g r), none => match G g with
        | some (.map b' _ es) => some (p ∧ b' = r ∧ (mpT P t).isSome = true, .dat (.int .i64 es.length), none)
        | _ => none
      | _, _ => none
    | .builtin .append, [x, y], [t, t'] => match slT P t, st (ev E x), st (ev E y) with
      | some e, (p, .nils), (q, .dat (.sl ys)) => some (p ∧ q ∧ t' = t ∧ elOK P e ∧ rl ys (szT P e) ∧ ys.length ≤ 4294967296, .own τ u,
          some (τ, .seq u e (szT P e) (ys.map (·.map .dat))))
      | some e, (p, .nils), (q, .dat (.int k n)) => some (p ∧ q ∧ (intT P t').isSome = true ∧ k = .i64 ∧ elOK P e ∧ 0 < n ∧ n ≤ 4294967296, .own τ u,
          some (τ, .seq u e (szT P e) (List.replicate n.toNat ((zrT P e).map kA))))
      | some e, (p, .nils), (q, .own g' h1) => match G g' with
        | some (.seq h1' e1 sz1 rows1) => some (p ∧ q ∧ t' = t ∧ h1' = h1 ∧ e1 = e ∧ sz1 = szT P e ∧ elOK P e ∧ rows1.flatten.all one1 = true ∧ rows1.length ≤ 4294967296, .own τ u,
          some (τ, .seq u e (szT P e) rows1))
        | _ => none
      | some e, (p, .own g h), (q, .own g' h1) => match G g, G g' with
        | some (.seq h' e' sz rows), some (.seq h1' e1 sz1 rows1) => some (p ∧ q ∧ g ≠ g' ∧ t' = t ∧ h' = h ∧ e' = e ∧ sz = szT P e ∧ h1' = h1 ∧ e1 = e ∧ sz1 = szT P e ∧ elOK P e ∧ rows1.flatten.all one1 = true ∧ rows.length + rows1.length ≤ 4294967296, .own g u,
          some (g, .seq u e (szT P e) (rows ++ rows1)))
        | _, _ => none
      | some e, (p, .own g h), (q, .dat (.sl ys)) => match G g with
        | some (.seq h' e' sz rows) => some (p ∧ q ∧ t' = t ∧ h' = h ∧ e' = e ∧ sz = szT P e ∧ elOK P e ∧ rl ys (szT P e) ∧ rows.length + ys.length ≤ 4294967296, .own g u,
            some (g, .seq u e (szT P e) (rows ++ ys.map (·.map .dat))))
        | _ => none
      | _, _, _ => none
    | _, _, _ => none
  | _ => none

/-- A heap with one entry changed, or one more. -/
def happ : Option (Nat × Ent) → Heap → Heap
  | none, H => H
  | some (t, e), H => match hget t H with
    | some _ => hset t e H
    | none => (t, e) :: H

theorem loadRow {x : X} {h : Value} {e sz i j t : Nat} {rows : List (List A)} {r : List A} {a : A} {q : Prop} (hs : Ent.sat x (.seq h e sz rows)) (hr : rows[i]? = some r)
    (hc : cellsA P t j r = some (q, a)) (hq : q) {v : Value} (hv : D x (.eptr 0 h sz i j) v) : ∃ u, (Instr.loadAt t v).run P x.w = .ok u x.w ∧ D x a u := by
  simp only [D] at hv
  obtain ⟨b, off, n, cap, rfl, rfl⟩ := hv
  obtain ⟨xs, ho, hrl, hd⟩ := hs
  obtain ⟨h1, h2⟩ := ho
  rcases h2 with ⟨e1, _⟩ | ⟨g, cap1, cur, e1, _, hg, h5, _, h7, htake⟩
  · cases e1
  · cases e1
    -- the row's cells lie at i * sz
    have hi : i < rows.length := by
      rcases Nat.lt_or_ge i rows.length with h | h
      · exact h
      · rw [List.getElem?_eq_none h] at hr; cases hr
    have hflat : ∀ (l : List (List A)) (k : Nat) (r : List A), (∀ r ∈ l, r.length = sz) → l[k]? = some r → ∃ tl, l.flatten.drop (k * sz) = r ++ tl := by
      intro l
      induction l with
      | nil => intro k r _ h; simp at h
      | cons a l ih =>
        intro k r hl hk
        have ha := hl a (by simp)
        cases k with
        | zero => simp at hk; subst hk; exact ⟨l.flatten, by simp⟩
        | succ k =>
          simp at hk
          obtain ⟨tl, h⟩ := ih k r (fun r hr => hl r (by simp [hr])) hk
          refine ⟨tl, ?_⟩
          rw [List.flatten_cons, Nat.succ_mul, Nat.add_comm, ← ha, List.drop_length_add_append, ha]
          exact h
    obtain ⟨tl, hfl⟩ := hflat rows i r hrl hr
    have hdd := hd.drop (i * sz)
    rw [hfl, ← htake] at hdd
    have hrlen : r.length = sz := hrl r (List.mem_of_getElem? hr)
    have htk : Ds x r (((cur.toList.drop (i * sz))).take sz) := by
      have := hdd.take sz
      rw [← hrlen, List.take_left, hrlen, List.drop_take, List.take_take] at this
      rw [Nat.min_eq_left] at this
      · exact this
      · have := Nat.mul_le_mul_right sz (show i + 1 ≤ rows.length from hi)
        rw [Nat.add_mul, Nat.one_mul] at this
        omega
    obtain ⟨u, k1, k2⟩ := loadCells_ok hg (k := i * sz) htk (fun j v hj => by
      rw [List.getElem?_take] at hj
      split at hj
      · simpa using hj
      · cases hj) hc hq
    exact ⟨u, by simpa [Instr.loadAt, Instr.sureAddr] using k1, k2⟩

theorem hget_sat {x : X} {H H0 : Heap} {g : Nat} {e : Ent} (hi : Inv x (H ++ H0)) (h : hget g H = some e) : e.sat x :=
  hi.sat (g, e) (List.mem_append.2 (.inl (hget_mem h)))

theorem hget_app {H H0 : Heap} {g : Nat} {e : Ent} : hget g H = some e → hget g (H ++ H0) = some e := by
  induction H with
  | nil => intro h; simp [hget] at h
  | cons p r ih =>
    obtain ⟨t, e'⟩ := p
    simp only [hget, List.cons_append]
    split
    · exact id
    · exact ih
theorem hset_app {H H0 : Heap} {g : Nat} {e e' : Ent} : hget g H = some e → hset g e' (H ++ H0) = hset g e' H ++ H0 := by
  induction H with
  | nil => intro h; simp [hget] at h
  | cons p r ih =>
    obtain ⟨t, e1⟩ := p
    simp only [hget, hset, List.cons_append]
    split
    · intro _; rfl
    · intro h; simp [ih h]

theorem splice_left {α : Type} {a b us : List α} {j : Nat} (h : j + us.length ≤ a.length) : splice (a ++ b) j us = splice a j us ++ b := by
  unfold splice
  rw [List.take_append_of_le_length (by omega), List.drop_append_of_le_length (by omega)]
  simp
theorem splice_right {α : Type} {a b us : List α} {m : Nat} : splice (a ++ b) (a.length + m) us = a ++ splice b m us := by
  unfold splice
  rw [List.take_length_add_append, Nat.add_assoc, List.drop_length_add_append]
  simp
theorem splice_length {α : Type} {a us : List α} {j : Nat} (h : j + us.length ≤ a.length) : (splice a j us).length = a.length := by
  unfold splice
  simp
  omega
theorem splice_take {α : Type} {l us : List α} {off N : Nat} (h1 : off + us.length ≤ N) (h2 : N ≤ l.length) : (splice l off us).take N = splice (l.take N) off us := by
  have e : l = l.take N ++ l.drop N := (List.take_append_drop N l).symm
  have hl : (l.take N).length = N := by simp; omega
  have hs := splice_left (a := l.take N) (b := l.drop N) (us := us) (j := off) (by rw [hl]; exact h1)
  rw [← e] at hs
  rw [hs]
  have hl2 : (splice (l.take N) off us).length = N := by rw [splice_length (by rw [hl]; exact h1), hl]
  rw [List.take_append_of_le_length (by omega), List.take_of_length_le (by omega)]
theorem flatten_set {us r : List A} {sz j : Nat} (hj : j + us.length ≤ sz) : ∀ (rows : List (List A)) (i : Nat), (∀ r ∈ rows, r.length = sz) → rows[i]? = some r →
    splice rows.flatten (i * sz + j) us = (rows.set i (splice r j us)).flatten
  | [], _, _, h => by simp at h
  | a :: l, 0, hl, h => by
    simp at h; subst h
    have ha := hl a (by simp)
    simp only [Nat.zero_mul, Nat.zero_add, List.flatten_cons, List.set_cons_zero]
    exact splice_left (by omega)
  | a :: l, i + 1, hl, h => by
    simp at h
    have ha := hl a (by simp)
    have ih := flatten_set hj l i (fun r hr => hl r (by simp [hr])) h
    simp only [List.flatten_cons, List.set_cons_succ]
    rw [← ih, Nat.succ_mul, show i * sz + sz + j = a.length + (i * sz + j) by omega]
    exact splice_right

theorem store_row {x : X} {H : Heap} {g i j e sz : Nat} {h : Value} {rows : List (List A)} {r us : List A} {t : TypeId} {v pv : Value} (hi : Inv x H) (hg : hget g H = some (.seq h e sz rows))
    (hr : rows[i]? = some r) (ht : tk P t ≠ 0) (hp : D x (.eptr g h sz i j) pv) (hu : Ds x us v.cells.toList) (h1s : us.all one1 = true) (hl : us.length = szT P t) (hjl : j + us.length ≤ sz) :
    ∃ y : X, (Instr.storeAt t pv v).run P x.w = .ok () y.w ∧ x.le y ∧ Inv y (hset g (.seq h e sz (rows.set i (splice r j us))) H) := by
  simp only [D] at hp
  obtain ⟨b, off, nn, cap, e1, e2⟩ := hp
  have hi1 := hi.perm (hdel_perm hg).symm
  obtain ⟨xs, ⟨ho1, ho2⟩, hrl, hdx⟩ := hi1.sat (g, .seq h e sz rows) (by simp)
  subst e1
  rcases ho2 with ⟨e3, _⟩ | ⟨g1, cap1, cur, e3, hb0, hg1, h5, h6, h7, htake⟩
  · cases e3
  · cases e3
    have hown := hi1.own (g, .seq (.slice (some ⟨b, 0, none⟩) rows.length cap) e sz rows) (by simp) b rfl
    have hil : i < rows.length := by
      rcases Nat.lt_or_ge i rows.length with h | h
      · exact h
      · rw [List.getElem?_eq_none h] at hr; cases hr
    have hrlen : r.length = sz := hrl r (List.mem_of_getElem? hr)
    have hmul := Nat.mul_le_mul_right sz (show i + 1 ≤ rows.length from hil)
    have hmul2 := Nat.mul_le_mul_right sz h5
    rw [Nat.add_mul, Nat.one_mul] at hmul
    have hul := hu.length
    have hcs : i * sz + j + us.length ≤ rows.length * sz := by omega
    have hcl : cur.toList.length = cap * sz := by simpa using h7
    have hrun := run_storeVar' ht hg1 (v := v) (off := i * sz + j) (by rw [hul]; exact hl) (by rw [hul, h7]; omega) (ones_ok h1s hu)
    have hle := X.row_le (x := x) (b := b) (splice cur.toList (i * sz + j) v.cells.toList).toArray hown.2
    have hsp := flatten_set hjl rows i hrl hr
    have hlen' : (rows.set i (splice r j us)).length = rows.length := by simp
    have hspl : (splice r j us).length = sz := by rw [splice_length (by omega), hrlen]
    refine ⟨x.row b (splice cur.toList (i * sz + j) v.cells.toList).toArray, ?_, hle, ?_⟩
    · rw [e2]
      simp only [Instr.storeAt, Instr.sureAddr, Sem.run_bind, Sem.run_pure, Result.andThen_ok]
      rw [show 0 + i * sz + j = i * sz + j by omega]
      exact hrun
    · refine (hi1.turn (g' := g) (e' := .seq (.slice (some ⟨b, 0, none⟩) rows.length cap) e sz (rows.set i (splice r j us))) hle (fun k hk => by simpa [X.row] using hi.bd k hk) (fun k hk => .inl hk) ?_ ?_ ?_).perm (hset_perm hg).symm
      · refine ⟨splice xs (i * sz + j) v.cells.toList, ⟨?_, .inr ⟨b, cap, (splice cur.toList (i * sz + j) v.cells.toList).toArray, by rw [hlen'], hb0, setRow_heap _ _ _ _ _ _ hg1, by rw [hlen']; exact h5, h6, ?_, ?_⟩⟩, ?_, ?_⟩
        · rw [splice_length (by rw [ho1, hul]; exact hcs), ho1, hlen']
        · simp only [List.size_toArray]
          rw [splice_length (by rw [hul, hcl]; omega), hcl]
        · rw [hlen']
          simp only []
          rw [splice_take (by rw [hul]; exact hcs) (by rw [hcl]; exact hmul2), htake]
        · intro r' hr'
          rcases List.mem_or_eq_of_mem_set hr' with h | h
          · exact hrl r' h
          · rw [h]; exact hspl
        · rw [← hsp]
          exact (hdx.splice hu).mono hle
      · intro k hk
        exact ⟨.inl hk, by
          simp only [Ent.own, Value.ownBlock, Option.some.injEq] at hk
          subst hk
          simpa [X.row] using hown.1⟩
      · intro k _ hk
        refine setRow_other _ _ _ _ fun ee => hk ?_
        subst ee
        rfl

theorem madeCells_rows (z : Array Value) (hz : 0 < z.size) : ∀ n : Nat, (madeCells z (n * z.size)).toList = (List.replicate n z.toList).flatten
  | 0 => by simp [madeCells]
  | n + 1 => by
    have ih := madeCells_rows z hz n
    simp only [madeCells, Array.toList_map, Array.toList_range] at ih ⊢
    rw [Nat.succ_mul, List.range_add, List.map_append, ih, List.replicate_succ', List.flatten_append]
    congr 1
    simp only [List.map_map, List.flatten_cons, List.flatten_nil, List.append_nil]
    apply List.ext_getElem
    · simp
    · intro j h1 h2
      simp only [List.length_map, List.length_range] at h1
      simp only [List.getElem_map, List.getElem_range, Function.comp, Array.getElem_toList]
      rw [show (n * z.size + j) % z.size = j by rw [Nat.mul_comm, Nat.mul_add_mod]; exact Nat.mod_eq_of_lt h1]
      simp [h1]

/-- A new entry, whatever stood under its mark. -/
theorem happ_new {x : X} {H H0 : Heap} {t : Nat} {e : Ent} (h : Inv x ((t, e) :: (H ++ H0))) : Inv x (happ (some (t, e)) H ++ H0) := by
  unfold happ
  simp only
  cases hg : hget t H with
  | none => exact h
  | some e' =>
    simp only []
    have hp := hset_perm (e' := e) (hget_app (H0 := H0) hg)
    rw [hset_app hg] at hp
    refine (h.sub ?_).perm hp.symm
    have : ∀ {K : Heap}, hget t K = some e' → (hdel t K).Sublist K := by
      intro K
      induction K with
      | nil => intro h; simp [hget] at h
      | cons p r ih =>
        obtain ⟨s, e1⟩ := p
        simp only [hget, hdel]
        split
        · intro _; exact List.sublist_cons_self _ _
        · intro h; exact (ih h).cons_cons _
    exact (this (hget_app hg)).cons_cons _
theorem happ_set {H : Heap} {t : Nat} {e e' : Ent} (h : hget t H = some e') : happ (some (t, e)) H = hset t e H := by
  simp [happ, h]

theorem raw_turn {x : X} {H H0 : Heap} {g b : Nat} {o o' : Obj} (hi : Inv x (H ++ H0)) (hg : hget g H = some (.raw b o)) :
    x.le ⟨{ x.w with heap := x.w.heap.setIfInBounds b o' }, x.ok⟩ ∧ Inv ⟨{ x.w with heap := x.w.heap.setIfInBounds b o' }, x.ok⟩ (happ (some (g, .raw b o')) H ++ H0) := by
  have hs : x.w.heap[b]? = some o := hget_sat hi hg
  have hi1 := hi.perm (hdel_perm (hget_app (H0 := H0) hg)).symm
  have hown := hi1.own (g, .raw b o) (by simp) b rfl
  have hle : x.le ⟨{ x.w with heap := x.w.heap.setIfInBounds b o' }, x.ok⟩ :=
    ⟨fun k hk => ⟨hk, by simp [Array.getElem?_setIfInBounds_ne (show b ≠ k from fun e => hown.2 (e ▸ hk))]⟩, rfl, rfl, rfl, by simp, Nat.le_refl _⟩
  have k3 : Inv ⟨{ x.w with heap := x.w.heap.setIfInBounds b o' }, x.ok⟩ ((g, .raw b o') :: hdel g (H ++ H0)) := by
    refine hi1.turn (g' := g) hle (fun k hk => by simpa using hi.bd k hk) (fun k hk => .inl hk) ?_ ?_ ?_
    · exact (MapKept.heap_set hs).1
    · intro k hk
      simp only [Ent.own] at hk
      subst hk
      exact ⟨.inl rfl, by simpa using hown.1⟩
    · intro k _ hk
      exact (MapKept.heap_set hs).2 k fun e => hk e
  have k4 := k3.perm (hset_perm (hget_app (H0 := H0) hg)).symm
  rw [hset_app hg, ← happ_set hg] at k4
  exact ⟨hle, k4⟩
theorem heapF_ok {o : Oper} {E : Env} {G : Nat → Option Ent} {τ : Nat} (h : ∀ u b, ∃ p a ch, heapF P u b τ E G o.op = some (p, a, ch) ∧ p) {n : Nat} {ds : List Deferred} {x : X} {act : Act} {H H0 : Heap}
    (hG : ∀ t, G t = hget t H) (hi : Inv x (H ++ H0)) (he : EnvOK n ds x act E) :
    ∃ u b v y p a ch, heapF P u b τ E G o.op = some (p, a, ch) ∧ p ∧ ((execOp act.eval o).run P x.w = .ok (.value v) y.w ∨ ((execOp act.eval o).run P x.w = .ok .skip y.w ∧ v = Go.undef)) ∧
      x.le y ∧ Inv y (happ ch H ++ H0) ∧ D y a v := by
  obtain ⟨dst, op, type, pos, after, guard⟩ := o
  have v1 : ∀ {s : Sem Value} {u : Value} {w : World}, s.run P x.w = .ok u w → (do pure (Next.value (← s)) : Sem Next).run P x.w = .ok (.value u) w := by
    intro s u w hs; simp [hs]
  obtain ⟨p0, a0, c0, hh, hp0⟩ := h .nilIface 0
  have done : ∀ {v : Value} {y : X}, heapF P .nilIface 0 τ E G op = some (p0, a0, c0) → ((execOp act.eval { dst, op, type, pos, after, guard }).run P x.w = .ok (.value v) y.w ∨ ((execOp act.eval { dst, op, type, pos, after, guard }).run P x.w = .ok .skip y.w ∧ v = Go.undef)) →
      x.le y → Inv y (happ c0 H ++ H0) → D y a0 v → ∃ u b v y p a ch, heapF P u b τ E G op = some (p, a, ch) ∧ p ∧ ((execOp act.eval { dst, op, type, pos, after, guard }).run P x.w = .ok (.value v) y.w ∨ ((execOp act.eval { dst, op, type, pos, after, guard }).run P x.w = .ok .skip y.w ∧ v = Go.undef)) ∧
      x.le y ∧ Inv y (happ ch H ++ H0) ∧ D y a v := fun h1 h2 h3 h4 h5 => ⟨_, _, _, _, _, _, _, h1, hp0, h2, h3, h4, h5⟩
  have hh0 := hh
  cases op <;> simp only [heapF, reduceCtorEq] at hh
  case load t y =>
    split at hh <;> try (simp at hh; done)
    · rename_i p g b off hst
      split at hh <;> try (simp at hh; done)
      rename_i b' cs hg
      split at hh <;> try (simp at hh; done)
      rename_i q a hc
      simp only [Option.some.injEq, Prod.mk.injEq] at hh
      obtain ⟨rfl, rfl, rfl⟩ := hh
      obtain ⟨hp, rfl, hq⟩ := hp0
      rw [hG] at hg
      have hd := st_ok (ev_ok he y) (by rw [hst]; exact hp)
      rw [hst] at hd
      simp only [D] at hd
      obtain ⟨c, ty, hhc, hdc⟩ := hget_sat hi hg
      obtain ⟨u, k1, k2⟩ := loadCells_ok hhc (k := 0) hdc (fun j v hj => by simpa using hj) hc hq
      exact done hh0 (.inl (v1 (by rw [hd]; simpa [Instr.loadAt, Instr.sureAddr] using k1))) (.refl x) hi k2
    · rename_i p g h' sz i j hst
      split at hh <;> try (simp at hh; done)
      rename_i h1 e sz' rows hg
      split at hh <;> try (simp at hh; done)
      rename_i r hr
      split at hh <;> try (simp at hh; done)
      rename_i q a hc
      simp only [Option.some.injEq, Prod.mk.injEq] at hh
      obtain ⟨rfl, rfl, rfl⟩ := hh
      obtain ⟨hp, rfl, rfl, hq⟩ := hp0
      rw [hG] at hg
      have hd := st_ok (ev_ok he y) (by rw [hst]; exact hp)
      rw [hst] at hd
      obtain ⟨u, k1, k2⟩ := loadRow (hget_sat hi hg) hr hc hq (v := act.eval y) (by simpa only [D] using hd)
      exact done hh0 (.inl (v1 k1)) (.refl x) hi k2
  case store t y z =>
    split at hh <;> try (simp at hh; done)
    · rename_i p g b off q a hst1 hst2
      split at hh <;> try (simp at hh; done)
      rename_i b' cs us hg hf
      simp only [Option.some.injEq, Prod.mk.injEq] at hh
      obtain ⟨rfl, rfl, rfl⟩ := hh
      obtain ⟨hp, hq, rfl, ht, hl, hr, h1⟩ := hp0
      rw [hG] at hg
      have hd := st_ok (ev_ok he y) (by rw [hst1]; exact hp)
      rw [hst1] at hd
      simp only [D] at hd
      have hd2 := stR_ok (ev_ok he z) (by rw [hst2]; exact hq)
      rw [hst2] at hd2
      obtain ⟨w', k1, k2, k3⟩ := store_box hi (hget_app hg) ht (flatA_ok hf hd2) h1 hl hr
      rw [hset_app hg, ← happ_set hg] at k3
      exact done hh0 (.inr ⟨by simp [execOp, hd, Instr.storeAt, Instr.sureAddr, k1], rfl⟩) k2 k3 (by simp [D])
    · rename_i p g h' sz i j q a hst1 hst2
      split at hh <;> try (simp at hh; done)
      rename_i h1 e sz' rows us hg hf
      split at hh <;> try (simp at hh; done)
      rename_i r hr
      simp only [Option.some.injEq, Prod.mk.injEq] at hh
      obtain ⟨rfl, rfl, rfl⟩ := hh
      obtain ⟨hp, hq, rfl, rfl, ht, hl, hjl, h1s⟩ := hp0
      rw [hG] at hg
      have hd := st_ok (ev_ok he y) (by rw [hst1]; exact hp)
      rw [hst1] at hd
      have hd2 := stR_ok (ev_ok he z) (by rw [hst2]; exact hq)
      rw [hst2] at hd2
      obtain ⟨y', k1, k2, k3⟩ := store_row hi (hget_app hg) hr ht hd (flatA_ok hf hd2) h1s hl hjl
      rw [hset_app hg, ← happ_set hg] at k3
      exact done hh0 (.inr ⟨by simp [execOp, k1], rfl⟩) k2 k3 (by simp [D])
  case alloc t =>
    simp only [Option.some.injEq, Prod.mk.injEq] at hh
    obtain ⟨rfl, _, _⟩ := hh
    obtain ⟨i, hinf, hz⟩ : ∃ i, P.info? t = some i ∧ i.zero.isSome = true := by
      cases hh : P.info? t with
      | none => simp [hh] at hp0
      | some i => exact ⟨i, rfl, by simpa [hh] using hp0⟩
    obtain ⟨z, hz⟩ := Option.isSome_iff_exists.1 hz
    have hzr : zrT P t = z.cells.toList := by simp [zrT, hinf, hz]
    have hinv := hi.box τ (cs := (zrT P t).map kA) t (c := z.cells) (by rw [hzr]; exact Ds_kA x _)
    refine ⟨.nilIface, x.w.heap.size, .pointer (some ⟨x.w.heap.size, 0, none⟩), x.mk' (.cells z.cells t), _, _, _, rfl, hp0, .inl (v1 ?_), X.mk'_le _ _ hi.bd, happ_new hinv, by simp [D]⟩
    simp [Instr.alloc, zeroValue, run_typeInfo _ hinf, hz, newVar, newRow, X.mk']
  case box t y =>
    split at hh <;> try (simp at hh; done)
    rename_i cs hf
    simp only [Option.some.injEq, Prod.mk.injEq] at hh
    obtain ⟨rfl, _, _⟩ := hh
    have hd := st_ok (ev_ok he y) hp0
    have hinv := hi.box τ (cs := cs) t (c := (act.eval y).cells) (flatA_ok hf hd)
    refine ⟨.nilIface, x.w.heap.size, .pointer (some ⟨x.w.heap.size, 0, none⟩), x.mk' (.cells (act.eval y).cells t), _, _, _, by simp only [heapF, hf]; rfl, hp0, .inl (v1 ?_), X.mk'_le _ _ hi.bd, happ_new hinv, by simp [D]⟩
    simp [Instr.box, newVar, newRow, X.mk']
  case buildSlice t len ps =>
    split at hh <;> try (simp at hh; done)
    rename_i e hsl
    simp only [Option.some.injEq, Prod.mk.injEq] at hh
    obtain ⟨rfl, _, _⟩ := hh
    obtain ⟨rfl, hps, hel⟩ := hp0
    have hel0 := hel
    obtain rfl : ps = #[] := by apply Array.ext'; simpa using hps
    obtain ⟨i, z, hinf, hz, hzs, hsz, hby⟩ := hel
    have htk : ∀ w, (sizeOf e).run P w = .ok i.size w := fun w => by simp [sizeOf, run_typeInfo w hinf]
    refine ⟨.slice (some ⟨x.w.heap.size, 0, none⟩) 0 0, 0, .slice (some ⟨x.w.heap.size, 0, none⟩) 0 0, x.mk' (.cells #[] e), _, _, _, by simp only [heapF, hsl]; rfl, (show 0 = 0 ∧ (#[] : Array (Nat × Operand)).toList = [] ∧ elOK P e from ⟨rfl, hps, hel0⟩), .inl (v1 ?_), X.mk'_le _ _ hi.bd, happ_new ?_, ?_⟩
    · have h00 : Array.range 0 = #[] := rfl
      simp [Instr.buildSlice, run_underlying (slT_und hsl), htk, Instr.fill, newRow, X.mk', h00]
    · have le := X.mk'_le x (.cells #[] e) hi.bd
      refine hi.fresh le (fun b hb => Nat.lt_of_lt_of_le (hi.bd b hb) le.size) (fun b hb => .inl hb) ?_ ?_ fun b hb => heap_alloc_old _ _ hb
      · refine ⟨[], ⟨by simp, .inr ⟨x.w.heap.size, 0, #[], rfl, Nat.zero_le _, heap_alloc_new _ _, Nat.le_refl _, by simp [maxLen], by simp, by simp⟩⟩, by simp, by simp [Ds]⟩
      · intro b hb
        simp only [Ent.own, Value.ownBlock, Option.some.injEq] at hb
        subst hb
        exact ⟨Nat.le_refl _, fun hk => absurd (hi.bd _ hk) (Nat.lt_irrefl _), by simp [X.mk']⟩
    · simp [D]
  case makeSlice t l c =>
    split at hh <;> try (simp at hh; done)
    rename_i e p kl nn q kc m hsl hst1 hst2
    simp only [Option.some.injEq, Prod.mk.injEq] at hh
    obtain ⟨rfl, _, _⟩ := hh
    have hp00 := hp0
    obtain ⟨hp, hq, hel, rfl, h0, hmax⟩ := hp0
    obtain ⟨i, z, hinf, hz, hzs, hsz, hby⟩ := hel
    have hd := st_ok (ev_ok he l) (by rw [hst1]; exact hp)
    rw [hst1] at hd
    have hd2 := st_ok (ev_ok he c) (by rw [hst2]; exact hq)
    rw [hst2] at hd2
    simp only [D, RdL] at hd hd2
    obtain ⟨N, rfl⟩ := Int.eq_ofNat_of_zero_le h0
    have hN : N ≤ 4294967296 := by omega
    have hmx : N ≤ maxLen := by simp only [maxLen]; omega
    obtain ⟨w', k1, k2, k3⟩ := run_make_full (P := P) x.w 0 t e i z (szT P e) (slT_und hsl) hinf hz (elOK_sz hinf).symm kl kc N
      (by have := Nat.mul_le_mul hby hN; omega) hmx (Nat.zero_le _)
    have hle : x.le ⟨w', x.ok⟩ := ⟨fun b hb => ⟨hb, k3.block b (hi.bd b hb) (by simp)⟩, k3.os, k3.output, k3.tape, k3.size, Sem.run_drawn _ _ k1⟩
    have hzr : zrT P e = z.cells.toList := by simp [zrT, hinf, hz]
    refine ⟨.slice (some ⟨x.w.heap.size, 0, none⟩) N N, 0, _, ⟨w', x.ok⟩, _, _, _, by simp only [heapF, hsl, hst1, hst2]; rfl, hp00, .inl (v1 (by rw [hd, hd2]; exact k1)), hle, happ_new ?_, by simp [D]⟩
    refine hi.fresh hle (fun b hb => Nat.lt_of_lt_of_le (hi.bd b hb) hle.size) (fun b hb => .inl hb) ?_ ?_ fun b hb => k3.block b hb (by simp)
    · refine ⟨(madeCells z.cells (N * szT P e)).toList, by simpa using k2, ?_, ?_⟩
      · intro r hr
        rw [List.eq_of_mem_replicate hr]
        simp [hzr, hzs, elOK_sz hinf]
      · rw [hzr, elOK_sz hinf]
        rw [← hzs, madeCells_rows z.cells (by omega) N]
        have hrep : ∀ n : Nat, Ds ⟨w', x.ok⟩ (List.replicate n (z.cells.toList.map kA)).flatten (List.replicate n z.cells.toList).flatten := by
          intro n
          induction n with
          | zero => simp [Ds]
          | succ n ih => simp only [List.replicate_succ, List.flatten_cons]; exact (Ds_kA _ _).append ih
        simpa using hrep N
    · intro b hb
      simp only [Ent.own, Value.ownBlock, Option.some.injEq] at hb
      subst hb
      refine ⟨Nat.le_refl _, fun hk => absurd (hi.bd _ hk) (Nat.lt_irrefl _), ?_⟩
      exact (k2.lt _ rfl).2
  case indexAddr t y i =>
    split at hh <;> try (simp at hh; done)
    rename_i p g hv q k nn e hst1 hst2 hsl
    split at hh <;> try (simp at hh; done)
    rename_i h1 e' sz rows hg
    simp only [Option.some.injEq, Prod.mk.injEq] at hh
    obtain ⟨rfl, rfl, rfl⟩ := hh
    obtain ⟨hp, hq, rfl, ht, rfl, hn0, hn1⟩ := hp0
    rw [hG] at hg
    have hd := st_ok (ev_ok he y) (by rw [hst1]; exact hp)
    rw [hst1] at hd
    have hd2 := st_ok (ev_ok he i) (by rw [hst2]; exact hq)
    rw [hst2] at hd2
    simp only [D, RdL] at hd hd2
    obtain ⟨xs, ⟨ho1, ho2⟩, hrl, hdx⟩ := hget_sat hi hg
    rcases ho2 with ⟨rfl, h0⟩ | ⟨g1, cap1, cur, rfl, _⟩
    · omega
    · refine done (v := .pointer (some ⟨g1, nn.toNat * szT P e, none⟩)) (y := x) hh0 (.inl (v1 ?_)) (.refl x) hi ?_
      · rw [hd.1, hd2]
        simp [Instr.indexAt, asIntOf, run_underlying (slT_und hsl), hn0, hn1, run_sizeOf' ht, add_none]
      · simp only [D]
        exact ⟨g1, 0, rows.length, cap1, rfl, by simp⟩
  case makeMap t r =>
    cases r <;> simp only [reduceCtorEq] at hh
    split at hh
    rotate_left
    · rename_i hm
      simp only [Option.some.injEq, Prod.mk.injEq] at hh
      obtain ⟨rfl, _, _⟩ := hh
      have le := X.mk'_le x (.map #[] 0) hi.bd
      refine ⟨.nilIface, x.w.heap.size, .map (some x.w.heap.size), x.mk' (.map #[] 0), _, _, _, by simp only [heapF, hm]; rfl, hp0, .inl (v1 ?_), le, happ_new ?_, by simp [D]⟩
      · simp [Instr.makeMap, X.mk']
      · refine hi.fresh le (fun b hb => Nat.lt_of_lt_of_le (hi.bd b hb) le.size) (fun b hb => .inl hb) (heap_alloc_new _ _) ?_ fun b hb => heap_alloc_old _ _ hb
        intro b hb
        simp only [Ent.own] at hb
        subst hb
        exact ⟨Nat.le_refl _, fun hk => absurd (hi.bd _ hk) (Nat.lt_irrefl _), by simp [X.mk']⟩
    rename_i d z hm
    simp only [Option.some.injEq, Prod.mk.injEq] at hh
    obtain ⟨rfl, _, _⟩ := hh
    have le := X.mk'_le x (.map #[] 0) hi.bd
    refine ⟨.nilIface, x.w.heap.size, .map (some x.w.heap.size), x.mk' (.map #[] 0), _, _, _, by simp only [heapF, hm]; rfl, trivial, .inl (v1 ?_), le, happ_new ?_, by simp [D]⟩
    · simp [Instr.makeMap, X.mk']
    · refine hi.fresh le (fun b hb => Nat.lt_of_lt_of_le (hi.bd b hb) le.size) (fun b hb => .inl hb) ⟨#[], 0, heap_alloc_new _ _, by simp [MapOK], MapKept.stamped_empty 0, by simp⟩ ?_ fun b hb => heap_alloc_old _ _ hb
      intro b hb
      simp only [Ent.own] at hb
      subst hb
      exact ⟨Nat.le_refl _, fun hk => absurd (hi.bd _ hk) (Nat.lt_irrefl _), by simp [X.mk']⟩
  case lookup t y i ok =>
    split at hh <;> try (simp at hh; done)
    rotate_left
    · rename_i p g r q a hm hst1 hst2
      split at hh <;> try (simp at hh; done)
      rename_i b' ms c key kt hg hka hkt
      simp only [Option.some.injEq, Prod.mk.injEq] at hh
      obtain ⟨rfl, rfl, rfl⟩ := hh
      obtain ⟨hp, hq, rfl, hm1, hk1, hsl⟩ := hp0
      rw [hG] at hg
      have hd := st_ok (ev_ok he y) (by rw [hst1]; exact hp)
      rw [hst1] at hd
      have hd2 := st_ok (ev_ok he i) (by rw [hst2]; exact hq)
      rw [hst2] at hd2
      simp only [D] at hd
      have hkv := keyA_ok hka hd2
      have hs := hget_sat hi hg
      refine done (v := valM (findM P kt ms.toList key)) (y := x) hh0 (.inl (v1 ?_)) (.refl x) hi ?_
      · rw [hd, hkv]
        exact lookup_raw hkt hs hm1 hk1
      · simp only [D, true_and]
        exact hsl
    rename_i d z p g r q l hm hst1 hst2
    split at hh <;> try (simp at hh; done)
    rename_i b' d' es hg
    simp only [Option.some.injEq, Prod.mk.injEq] at hh
    obtain ⟨rfl, rfl, rfl⟩ := hh
    obtain ⟨hp, hq, rfl, rfl, hk⟩ := hp0
    rw [hG] at hg
    have hd := st_ok (ev_ok he y) (by rw [hst1]; exact hp)
    rw [hst1] at hd
    have hd2 := st_ok (ev_ok he i) (by rw [hst2]; exact hq)
    rw [hst2] at hd2
    simp only [D] at hd hd2
    have hkv := isKL_val hk hd2
    obtain ⟨u, k1, k2⟩ := lookup_map (ok := ok) hm hk (hget_sat hi hg)
    exact done hh0 (.inl (v1 (by rw [hd, hkv]; exact k1))) (.refl x) hi k2
  case mapUpdate t m k v =>
    split at hh <;> try (simp at hh; done)
    rotate_left
    · rename_i p g r q a hm hst1 hst2
      split at hh <;> try (simp at hh; done)
      rename_i b' ms c key kt q2 av hg hka hkt hst3
      split at hh <;> try (simp at hh; done)
      rename_i hv hav
      simp only [Option.some.injEq, Prod.mk.injEq] at hh
      obtain ⟨rfl, rfl, rfl⟩ := hh
      obtain ⟨hp, hq, hq2, rfl, hm1, hk1⟩ := hp0
      rw [hG] at hg
      have hd := st_ok (ev_ok he m) (by rw [hst1]; exact hp)
      rw [hst1] at hd
      have hd2 := st_ok (ev_ok he k) (by rw [hst2]; exact hq)
      rw [hst2] at hd2
      have hd3 := st_ok (ev_ok he v) (by rw [hst3]; exact hq2)
      rw [hst3] at hd3
      simp only [D] at hd
      have hkv := keyA_ok hka hd2
      have hvv := hdrA_ok hav hd3
      have hs : x.w.heap[b']? = some (.map ms c) := hget_sat hi hg
      have hi1 := hi.perm (hdel_perm (hget_app (H0 := H0) hg)).symm
      have hown := hi1.own (g, .raw b' (.map ms c)) (by simp) b' rfl
      have hle : x.le ⟨{ x.w with heap := x.w.heap.setIfInBounds b' (.map (putM P kt ms c key hv).1 (putM P kt ms c key hv).2) }, x.ok⟩ :=
        ⟨fun k hk => ⟨hk, by simp [Array.getElem?_setIfInBounds_ne (show b' ≠ k from fun e => hown.2 (e ▸ hk))]⟩, rfl, rfl, rfl, by simp, Nat.le_refl _⟩
      have k3 : Inv ⟨{ x.w with heap := x.w.heap.setIfInBounds b' (.map (putM P kt ms c key hv).1 (putM P kt ms c key hv).2) }, x.ok⟩ ((g, .raw b' (.map (putM P kt ms c key hv).1 (putM P kt ms c key hv).2)) :: hdel g (H ++ H0)) := by
        refine hi1.turn (g' := g) hle (fun k hk => by simpa using hi.bd k hk) (fun k hk => .inl hk) ?_ ?_ ?_
        · exact (MapKept.heap_set hs).1
        · intro k hk
          simp only [Ent.own] at hk
          subst hk
          exact ⟨.inl rfl, by simpa using hown.1⟩
        · intro k _ hk
          exact (MapKept.heap_set hs).2 k fun e => hk e
      have k4 := k3.perm (hset_perm (hget_app (H0 := H0) hg)).symm
      rw [hset_app hg, ← happ_set hg] at k4
      exact done hh0 (.inr ⟨by simp [execOp, hd, hkv, hvv, update_raw hkt hs hm1 hk1], rfl⟩) hle k4 (by simp [D])
    rename_i d z p g r q l hm hst1 hst2
    split at hh <;> try (simp at hh; done)
    rename_i b' d' es q2 av hg hst3
    split at hh <;> try (simp at hh; done)
    rename_i lv hav
    simp only [Option.some.injEq, Prod.mk.injEq] at hh
    obtain ⟨rfl, rfl, rfl⟩ := hh
    obtain ⟨hp, hq, hq2, rfl, rfl, hk, h1⟩ := hp0
    rw [hG] at hg
    have hd := st_ok (ev_ok he m) (by rw [hst1]; exact hp)
    rw [hst1] at hd
    have hd2 := st_ok (ev_ok he k) (by rw [hst2]; exact hq)
    rw [hst2] at hd2
    have hd3 := st_ok (ev_ok he v) (by rw [hst3]; exact hq2)
    rw [hst3] at hd3
    simp only [D] at hd hd2
    have hkv := isKL_val hk hd2
    have hlv := asL_ok hav hd3
    have hone := one1_ok h1 hd3
    have hcl : (act.eval v).cells.toList = [act.eval v] := by
      cases hvv : act.eval v <;> first | rfl | (rw [hvv] at hone; simp [Value.oneCell'] at hone)
    rw [hcl] at hlv
    simp only [RdLs] at hlv
    obtain ⟨y', k1, k2, k3⟩ := update_map (H := hdel g (H ++ H0)) hm hk (hi.perm (hdel_perm (hget_app hg)).symm) hlv.1
    have k4 := k3.perm (hset_perm (hget_app (H0 := H0) hg)).symm
    rw [hset_app hg, ← happ_set hg] at k4
    exact done hh0 (.inr ⟨by simp [execOp, hd, hkv, k1], rfl⟩) k2 k4 (by simp [D])
  case mapEntry t m k =>
    split at hh <;> try (simp at hh; done)
    rename_i p g r q a hm hst1 hst2
    split at hh <;> try (simp at hh; done)
    rename_i b' ms c key kt hg hka hkt
    simp only [Option.some.injEq, Prod.mk.injEq] at hh
    obtain ⟨rfl, rfl, rfl⟩ := hh
    obtain ⟨hp, hq, rfl, hm1, hk1, hsl⟩ := hp0
    rw [hG] at hg
    have hd := st_ok (ev_ok he m) (by rw [hst1]; exact hp)
    rw [hst1] at hd
    have hd2 := st_ok (ev_ok he k) (by rw [hst2]; exact hq)
    rw [hst2] at hd2
    simp only [D] at hd
    have hkv := keyA_ok hka hd2
    have hs : x.w.heap[b']? = some (.map ms c) := hget_sat hi hg
    obtain ⟨hle, k4⟩ := raw_turn (o' := .map (entM P kt ms c key).1 (entM P kt ms c key).2.1) hi hg
    refine done hh0 (.inl (v1 (by rw [hd, hkv]; exact entry_raw hkt hs hm1 hk1))) hle k4 ?_
    simp only [D]
    exact ⟨_, rfl, by simp only [Ds, D, RdL, true_and, and_true]; exact hsl⟩
  case entryStore t m s v =>
    split at hh <;> try (simp at hh; done)
    rename_i p g r q kk n hst1 hst2
    split at hh <;> try (simp at hh; done)
    rename_i b' ms c q2 av hg hst3
    split at hh <;> try (simp at hh; done)
    rename_i hv hav
    simp only [Option.some.injEq, Prod.mk.injEq] at hh
    obtain ⟨rfl, rfl, rfl⟩ := hh
    obtain ⟨hp, hq, hq2, rfl, hn⟩ := hp0
    rw [hG] at hg
    have hd := st_ok (ev_ok he m) (by rw [hst1]; exact hp)
    rw [hst1] at hd
    have hd2 := st_ok (ev_ok he s) (by rw [hst2]; exact hq)
    rw [hst2] at hd2
    have hd3 := st_ok (ev_ok he v) (by rw [hst3]; exact hq2)
    rw [hst3] at hd3
    simp only [D, RdL] at hd hd2
    have hvv := hdrA_ok hav hd3
    have hs : x.w.heap[b']? = some (.map ms c) := hget_sat hi hg
    obtain ⟨hle, k4⟩ := raw_turn (o' := .map (setB ms n hv) c) hi hg
    exact done hh0 (.inr ⟨by simp [execOp, hd, hd2, hvv, store_raw hs hn], rfl⟩) hle k4 (by simp [D])
  case insert t m k v =>
    split at hh <;> try (simp at hh; done)
    rename_i d z p g r q l hm hst1 hst2
    split at hh <;> try (simp at hh; done)
    rename_i b' d' es q2 av hg hst3
    split at hh <;> try (simp at hh; done)
    rename_i lv hav
    simp only [Option.some.injEq, Prod.mk.injEq] at hh
    obtain ⟨rfl, rfl, rfl⟩ := hh
    obtain ⟨hp, hq, hq2, rfl, rfl, hk, h1⟩ := hp0
    rw [hG] at hg
    have hd := st_ok (ev_ok he m) (by rw [hst1]; exact hp)
    rw [hst1] at hd
    have hd2 := st_ok (ev_ok he k) (by rw [hst2]; exact hq)
    rw [hst2] at hd2
    have hd3 := st_ok (ev_ok he v) (by rw [hst3]; exact hq2)
    rw [hst3] at hd3
    simp only [D] at hd hd2
    have hkv := isKL_val hk hd2
    have hlv := asL_ok hav hd3
    have hone := one1_ok h1 hd3
    have hcl : (act.eval v).cells.toList = [act.eval v] := by
      cases hvv : act.eval v <;> first | rfl | (rw [hvv] at hone; simp [Value.oneCell'] at hone)
    rw [hcl] at hlv
    simp only [RdLs] at hlv
    obtain ⟨y', k1, k2, k3⟩ := update_map (H := hdel g (H ++ H0)) hm hk (hi.perm (hdel_perm (hget_app hg)).symm) hlv.1
    have k4 := k3.perm (hset_perm (hget_app (H0 := H0) hg)).symm
    rw [hset_app hg, ← happ_set hg] at k4
    exact done hh0 (.inr ⟨by simp [execOp, hd, hkv, k1], rfl⟩) k2 k4 (by simp [D])
  case range t y =>
    split at hh <;> try (simp at hh; done)
    rotate_left
    · rename_i p g r hst
      split at hh <;> try (simp at hh; done)
      rename_i b' ms c hg
      simp only [Option.some.injEq, Prod.mk.injEq] at hh
      obtain ⟨rfl, _, _⟩ := hh
      have hp00 := hp0
      obtain ⟨hp, rfl, hmp⟩ := hp0
      have hg0 := hg
      rw [hG] at hg
      have hd := st_ok (ev_ok he y) (by rw [hst]; exact hp)
      rw [hst] at hd
      simp only [D] at hd
      have hs : x.w.heap[b']? = some (.map ms c) := hget_sat hi hg
      obtain ⟨dz, hdz⟩ := Option.isSome_iff_exists.1 hmp
      obtain ⟨kt, et, ii, zz, hu, _⟩ := mpT_und (d := dz.1) (l := dz.2) (by rw [hdz])
      have le := X.mk'_le x (.mapIter (some b') c #[] c) hi.bd
      refine ⟨.nilIface, x.w.heap.size, .pointer (some ⟨x.w.heap.size, 0, none⟩), x.mk' (.mapIter (some b') c #[] c), _, _, _, by simp only [heapF, hst, hg0]; rfl, hp00, .inl (v1 ?_), le, happ_new ?_, by simp [D]⟩
      · simp [Instr.range, run_underlying hu, hd, MapKept.run_getObj_map hs, X.mk']
      · refine hi.fresh le (fun b hb => Nat.lt_of_lt_of_le (hi.bd b hb) le.size) (fun b hb => .inl hb) (heap_alloc_new _ _) ?_ fun b hb => heap_alloc_old _ _ hb
        intro b hb
        simp only [Ent.own] at hb
        subst hb
        exact ⟨Nat.le_refl _, fun hk => absurd (hi.bd _ hk) (Nat.lt_irrefl _), by simp [X.mk']⟩
    rename_i p s hst
    simp only [Option.some.injEq, Prod.mk.injEq] at hh
    obtain ⟨rfl, _, _⟩ := hh
    have hp00 := hp0
    obtain ⟨hp, hs⟩ := hp0
    have hd := st_ok (ev_ok he y) (by rw [hst]; exact hp)
    rw [hst] at hd
    simp only [D, RdL] at hd
    have le := X.mk'_le x (.stringIter ⟨s.toArray⟩ 0) hi.bd
    refine ⟨.nilIface, x.w.heap.size, .pointer (some ⟨x.w.heap.size, 0, none⟩), x.mk' (.stringIter ⟨s.toArray⟩ 0), _, _, _, by simp only [heapF, hst]; rfl, hp00, .inl (v1 ?_), le, happ_new ?_, by simp [D]⟩
    · simp [Instr.range, run_underlying (isStr_und hs), hd, X.mk']
    · refine hi.fresh le (fun b hb => Nat.lt_of_lt_of_le (hi.bd b hb) le.size) (fun b hb => .inl hb) (heap_alloc_new _ _) ?_ fun b hb => heap_alloc_old _ _ hb
      intro b hb
      simp only [Ent.own] at hb
      subst hb
      exact ⟨Nat.le_refl _, fun hk => absurd (hi.bd _ hk) (Nat.lt_irrefl _), by simp [X.mk']⟩
  case entry y =>
    split at hh <;> try (simp at hh; done)
    rename_i p g b1 hst
    split at hh <;> try (simp at hh; done)
    rename_i b' m since seen last b2 ms c hg1 hg2
    split at hh <;> try (simp at hh; done)
    rename_i e hse
    split at hh <;> try (simp at hh; done)
    rename_i k v hk hv
    simp only [Option.some.injEq, Prod.mk.injEq] at hh
    obtain ⟨rfl, rfl, rfl⟩ := hh
    obtain ⟨hp, rfl, rfl, hc⟩ := hp0
    rw [hG] at hg1 hg2
    have hd := st_ok (ev_ok he y) (by rw [hst]; exact hp)
    rw [hst] at hd
    simp only [D] at hd
    have hs1 : x.w.heap[b']? = some (.mapIter (some b2) since seen last) := hget_sat hi hg1
    have hs2 : x.w.heap[b2]? = some (.map ms c) := hget_sat hi hg2
    refine done hh0 (.inl (v1 (by rw [hd]; exact entry_run hs1 hs2 hc hse))) (.refl x) hi ?_
    simp only [D]
    exact ⟨_, rfl, by simp only [Ds, D, and_true]; exact ⟨vL_ok hk, vL_ok hv⟩⟩
  case next y isS =>
    split at hh <;> try (simp at hh; done)
    rename_i p g b1 hst
    split at hh <;> try (simp at hh; done)
    rename_i b' s pos hg
    rw [hG] at hg
    have hsat := hget_sat hi hg
    simp only [Ent.sat] at hsat
    have hgo : (getObj b').run P x.w = .ok (.stringIter s pos) x.w := by simp [getObj, Sem.run, hsat]
    split at hh
    · rename_i hlt
      simp only [Option.some.injEq, Prod.mk.injEq] at hh
      obtain ⟨rfl, rfl, rfl⟩ := hh
      obtain ⟨hp, rfl, rfl⟩ := hp0
      have hd := st_ok (ev_ok he y) (by rw [hst]; exact hp)
      rw [hst] at hd
      simp only [D] at hd
      have hi1 := hi.perm (hdel_perm (hget_app (H0 := H0) hg)).symm
      have hown := hi1.own (g, .raw b' (.stringIter s pos)) (by simp) b' rfl
      have hle : x.le ⟨{ x.w with heap := x.w.heap.setIfInBounds b' (.stringIter s (pos + (Utf8.decode s pos).2)) }, x.ok⟩ :=
        ⟨fun k hk => ⟨hk, by simp [Array.getElem?_setIfInBounds_ne (show b' ≠ k from fun e => hown.2 (e ▸ hk))]⟩, rfl, rfl, rfl, by simp, Nat.le_refl _⟩
      have k3 := hi1.turn (g' := g) (e' := .raw b' (.stringIter s (pos + (Utf8.decode s pos).2))) hle (fun k hk => by simpa using hi.bd k hk) (fun k hk => .inl hk) (MapKept.heap_set hsat).1
        (by intro k hk; simp only [Ent.own] at hk; subst hk; exact ⟨.inl rfl, by simpa using hown.1⟩) (fun k _ hk => (MapKept.heap_set hsat).2 k fun e => hk e)
      have k4 := k3.perm (hset_perm (hget_app (H0 := H0) hg)).symm
      rw [hset_app hg, ← happ_set hg] at k4
      refine done (v := .tuple #[.bool true, goInt pos, .int .i32 (Utf8.decode s pos).1]) hh0 (.inl (v1 ?_)) hle k4 ?_
      · have hso : (setObj b' (.stringIter s (pos + (Utf8.decode s pos).2))).run P x.w = .ok () { x.w with heap := x.w.heap.setIfInBounds b' (.stringIter s (pos + (Utf8.decode s pos).2)) } := by simp [setObj, Sem.run, hsat]
        rw [hd]
        simp [Instr.next, hgo, hlt, hso]
      · simp [D, Ds, RdL, goInt]
    · rename_i hlt
      simp only [Option.some.injEq, Prod.mk.injEq] at hh
      obtain ⟨rfl, rfl, rfl⟩ := hh
      obtain ⟨hp, rfl, rfl⟩ := hp0
      have hd := st_ok (ev_ok he y) (by rw [hst]; exact hp)
      rw [hst] at hd
      simp only [D] at hd
      refine done (v := .tuple #[.bool false]) hh0 (.inl (v1 ?_)) (.refl x) hi ?_
      · rw [hd]
        simp [Instr.next, hgo, hlt]
      · simp [D, Ds, RdL]
  case slice t y lo hiO mx =>
    cases mx <;> simp only [reduceCtorEq] at hh
    split at hh <;> try (simp at hh; done)
    rename_i p g hv e hst hsl
    split at hh <;> try (simp at hh; done)
    rename_i h1 e1 sz rows hg
    have hgG := hg
    split at hh <;> try (simp at hh; done)
    rename_i q1 l q2 k eb1 eb2
    simp only [Option.some.injEq, Prod.mk.injEq] at hh
    obtain ⟨rfl, _, _⟩ := hh
    have hp00 := hp0
    obtain ⟨hp, hplo, hphi, hq1, hq2, rfl, rfl, rfl, ht, htz, rfl, hkl⟩ := hp0
    rw [hG] at hg
    have hd := st_ok (ev_ok he y) (by rw [hst]; exact hp)
    rw [hst] at hd
    simp only [D] at hd
    have b1 := boundA_ok eb1 hq1 (opt_ok he lo hplo)
    have b2 := boundA_ok eb2 hq2 (opt_ok he hiO hphi)
    have hi1 := hi.perm (hdel_perm (hget_app (H0 := H0) hg)).symm
    obtain ⟨xs, ⟨ho1, ho2⟩, hrl, hdx⟩ := hi1.sat (g, .seq h1 e1 (szT P e1) rows) (by simp)
    have hlen' : (rows.take k).length = k := by simp; omega
    have hflat : ∀ (l : List (List A)) (k : Nat), (∀ r ∈ l, r.length = szT P e1) → k ≤ l.length → (l.take k).flatten = l.flatten.take (k * szT P e1) := by
      intro l
      induction l with
      | nil => intro k _ hk; simp at hk; subst hk; simp
      | cons a l ih =>
        intro k hl hk
        cases k with
        | zero => simp
        | succ k =>
          have ha := hl a (by simp)
          simp only [List.take_succ_cons, List.flatten_cons]
          rw [ih k (fun r hr => hl r (by simp [hr])) (by simpa using hk), Nat.succ_mul, Nat.add_comm, ← ha, List.take_length_add_append]
    have fin : ∀ u : Value, u.ownBlock = h1.ownBlock → Ent.sat x (.seq u e1 (szT P e1) (rows.take k)) → (∃ a n c, u = .slice a n c) → (Instr.sliceAt t h1 (lo.map act.eval) (hiO.map act.eval) none).run P x.w = .ok u x.w →
        ∃ u' b v y' p a ch, heapF P u' b τ E G (.slice t y lo hiO none) = some (p, a, ch) ∧ p ∧ ((execOp act.eval { dst, op := .slice t y lo hiO none, type, pos, after, guard }).run P x.w = .ok (.value v) y'.w ∨ ((execOp act.eval { dst, op := .slice t y lo hiO none, type, pos, after, guard }).run P x.w = .ok .skip y'.w ∧ v = Go.undef)) ∧
          x.le y' ∧ Inv y' (happ ch H ++ H0) ∧ D y' a v := by
      intro u hob hsat hsl' hrun
      have k3 := hi1.turn (y := x) (g' := g) (e' := .seq u e1 (szT P e1) (rows.take k)) (.refl x) hi.bd (fun b hb => .inl hb) hsat (by
        intro b hb
        have hb' : (Ent.seq h1 e1 (szT P e1) rows).own b := by simp only [Ent.own] at hb ⊢; rw [← hob]; exact hb
        exact ⟨.inl hb', (hi1.own (g, .seq h1 e1 (szT P e1) rows) (by simp) b hb').1⟩) (fun b _ _ => rfl)
      have k4 := k3.perm (hset_perm (hget_app (H0 := H0) hg)).symm
      rw [hset_app hg, ← happ_set hg] at k4
      exact ⟨u, 0, u, x, _, _, _, by simp only [heapF, hst, hsl, hgG, eb1, eb2]; rfl, hp00, .inl (v1 (by rw [hd.1]; exact hrun)), .refl x, k4, by simp only [D, true_and]; exact hsl'⟩
    rcases ho2 with ⟨rfl, h0⟩ | ⟨b0, cap0, cur, rfl, hb0, hg1, h5, h6, h7, htake⟩
    · have hk0 : k = 0 := by omega
      subst hk0
      have hr0 : rows = [] := List.length_eq_zero_iff.1 h0
      subst hr0
      refine fin (.slice none 0 0) rfl ⟨[], World.ownsRow_nil _ _ _ _, by simp, by simp [Ds]⟩ ⟨_, _, _, rfl⟩ ?_
      simp only [Instr.sliceAt, Instr.slice, Sem.run_bind, run_underlying (slT_und hsl), Result.andThen_ok]
      rw [run_sliceBounds x.w b1 (show (hiO.map act.eval = none ∧ 0 = 0) ∨ _ from b2) (Nat.le_refl 0) (Nat.le_refl 0)]
      simp [run_sizeOf' ht]
    · refine fin (.slice (some ⟨b0, 0, none⟩) k cap0) rfl ⟨xs.take (k * szT P e1), ⟨by simp only [List.length_take, ho1, hlen']; have := Nat.mul_le_mul_right (szT P e1) hkl; omega, .inr ⟨b0, cap0, cur, by rw [hlen'], hb0, hg1, by rw [hlen']; omega, h6, h7, ?_⟩⟩, fun r hr => hrl r (List.mem_of_mem_take hr), ?_⟩ ⟨_, _, _, rfl⟩ ?_
      · rw [hlen', ← htake, List.take_take, Nat.min_eq_left (Nat.mul_le_mul_right _ hkl)]
      · rw [hflat rows k hrl hkl]
        exact hdx.take _
      · simp only [Instr.sliceAt, Instr.slice, Sem.run_bind, run_underlying (slT_und hsl), Result.andThen_ok]
        rw [run_sliceBounds x.w b1 b2 (Nat.zero_le _) (Nat.le_trans hkl h5)]
        simp only [Result.andThen_ok, run_sizeOf' ht, Sem.run_pure]
        split <;> simp [add_none]
  case call c =>
    split at hh <;> try (simp at hh; done)
    · rename_i xo t hcal hargs htys
      split at hh <;> try (simp at hh; done)
      · rename_i p g hv e hst hsl
        split at hh <;> try (simp at hh; done)
        rename_i h1 e1 sz1 rows hg
        simp only [Option.some.injEq, Prod.mk.injEq] at hh
        obtain ⟨rfl, rfl, rfl⟩ := hh
        obtain ⟨hp, rfl⟩ := hp0
        rw [hG] at hg
        have hd := st_ok (ev_ok he xo) (by rw [hst]; exact hp)
        rw [hst] at hd
        simp only [D] at hd
        obtain ⟨a, cc, e2⟩ := seq_hdr (hget_sat hi hg)
        have ha : c.args = #[xo] := by apply Array.ext'; simpa using hargs
        have hty : c.argTypes = #[t] := by apply Array.ext'; simpa using htys
        refine done (v := .int .i64 rows.length) (y := x) hh0 (.inl ?_) (.refl x) hi (by simp [D, RdL])
        simp [execOp, resolve, hcal, invoke, ha, hty, builtin, Builtin.len_, hd.1, e2, run_underlying (slT_und hsl), goInt]
      · rename_i p g r hst hsl
        split at hh <;> try (simp at hh; done)
        rename_i b' d' es hg
        simp only [Option.some.injEq, Prod.mk.injEq] at hh
        obtain ⟨rfl, rfl, rfl⟩ := hh
        obtain ⟨hp, rfl, hm⟩ := hp0
        rw [hG] at hg
        have hd := st_ok (ev_ok he xo) (by rw [hst]; exact hp)
        rw [hst] at hd
        simp only [D] at hd
        obtain ⟨ms, cc, k1, k2, _⟩ := hget_sat hi hg
        obtain ⟨⟨d, z⟩, hm⟩ := Option.isSome_iff_exists.1 hm
        obtain ⟨kt, et, _, _, hu, _⟩ := mpT_und hm
        have hll := k2.length
        simp only [Array.length_toList] at hll
        have ha : c.args = #[xo] := by apply Array.ext'; simpa using hargs
        have hty : c.argTypes = #[t] := by apply Array.ext'; simpa using htys
        refine done (v := .int .i64 es.length) (y := x) hh0 (.inl ?_) (.refl x) hi (by simp [D, RdL])
        simp [execOp, resolve, hcal, invoke, ha, hty, builtin, Builtin.len_, hd, run_underlying hu, MapKept.run_getObj_map k1, goInt, hll]
    · rename_i xo yo t t' hcal hargs htys
      have ha : c.args = #[xo, yo] := by apply Array.ext'; simpa using hargs
      have hty : c.argTypes = #[t, t'] := by apply Array.ext'; simpa using htys
      split at hh <;> try (simp at hh; done)
      · rename_i e p q ys hsl hst1 hst2
        simp only [Option.some.injEq, Prod.mk.injEq] at hh
        obtain ⟨rfl, _, _⟩ := hh
        have hp00 := hp0
        obtain ⟨hp, hq, rfl, hel, hyl, hyn⟩ := hp0
        have hd := st_ok (ev_ok he xo) (by rw [hst1]; exact hp)
        rw [hst1] at hd
        have hd2 := st_ok (ev_ok he yo) (by rw [hst2]; exact hq)
        rw [hst2] at hd2
        simp only [D] at hd hd2
        have hi1 : Inv x ((τ, .seq (.slice none 0 0) e (szT P e) []) :: (H ++ H0)) := by
          refine ⟨hi.bd, ?_, ?_, List.pairwise_cons.2 ⟨?_, hi.apart⟩⟩
          · intro r hr
            rcases List.mem_cons.1 hr with rfl | hr
            · exact ⟨[], World.ownsRow_nil _ _ _ _, by simp, by simp [Ds]⟩
            · exact hi.sat r hr
          · intro r hr b hb
            rcases List.mem_cons.1 hr with rfl | hr
            · simp [Ent.own, Value.ownBlock] at hb
            · exact hi.own r hr b hb
          · intro r _ b hb
            simp [Ent.own, Value.ownBlock] at hb
        obtain ⟨u, y, k1, k2, k3, k4⟩ := append_own (g' := τ) (ys := ys.map (·.map A.dat)) type hsl hel hi1 (by intro r hr; obtain ⟨r', hr', rfl⟩ := List.mem_map.1 hr; simpa using hyl r' hr') (ones_data ys) (cells_data hd2) (by simpa using hyn)
        simp only [List.nil_append] at k4
        refine ⟨u, 0, u, y, _, _, _, by simp only [heapF, hcal, hargs, htys, hsl, hst1, hst2]; rfl, hp00, .inl ?_, k2, happ_new k4, by simp only [D, true_and]; exact k3⟩
        simp [execOp, resolve, hcal, invoke, ha, hty, builtin, hd, k1]
      · rename_i e p q kk nn hsl hst1 hst2
        simp only [Option.some.injEq, Prod.mk.injEq] at hh
        obtain ⟨rfl, _, _⟩ := hh
        have hp00 := hp0
        obtain ⟨hp, hq, hint, rfl, hel, h0, hmax⟩ := hp0
        obtain ⟨i, z, hinf, hz, hzs, hsz, hby⟩ := hel
        obtain ⟨kn, hkn⟩ := Option.isSome_iff_exists.1 hint
        have hd := st_ok (ev_ok he xo) (by rw [hst1]; exact hp)
        rw [hst1] at hd
        have hd2 := st_ok (ev_ok he yo) (by rw [hst2]; exact hq)
        rw [hst2] at hd2
        simp only [D, RdL] at hd hd2
        obtain ⟨N, rfl⟩ := Int.eq_ofNat_of_zero_le (show 0 ≤ nn by omega)
        have hN : N ≤ 4294967296 := by omega
        have hb48 := Nat.mul_le_mul hN hby
        have hrun := Lib.run_append_nil_zeros (P := P) x.w t t' type e i z .i64 kn (slT_und hsl) (intT_und hkn) hinf hz N (by omega) hsz (by omega) (by omega)
        have hzr : zrT P e = z.cells.toList := by simp [zrT, hinf, hz]
        have hsi : szT P e = z.cells.size := by rw [elOK_sz hinf, hzs]
        have hge := grownCap_ge x.w N 0 e
        have hle0 : x.le x.drew := (X.drew_grow x).le
        let o : Obj := .cells (Builtin.zeroCells z.cells N ++ Builtin.zeroCells z.cells (grownCap x.w N 0 e - N)) e
        have hi2 : Inv x.drew (H ++ H0) := hi.grow (X.drew_grow x)
        have le := X.mk'_le x.drew o hi2.bd
        refine ⟨.slice (some ⟨x.w.heap.size, 0, none⟩) N (grownCap x.w N 0 e), 0, .slice (some ⟨x.w.heap.size, 0, none⟩) N (grownCap x.w N 0 e), x.drew.mk' o, _, _, _, by simp only [heapF, hcal, hargs, htys, hsl, hst1, hst2]; rfl, hp00, .inl ?_, hle0.trans le, happ_new ?_, by simp [D]⟩
        · simp [execOp, resolve, hcal, invoke, ha, hty, builtin, hd, hd2]
          rw [hrun]
          rfl
        · refine hi2.fresh le (fun b hb => Nat.lt_of_lt_of_le (hi2.bd b hb) le.size) (fun b hb => .inl hb) ?_ ?_ fun b hb => heap_alloc_old _ _ hb
          · have hzc : (Builtin.zeroCells z.cells N).toList = (List.replicate N z.cells.toList).flatten := madeCells_rows z.cells (by omega) N
            refine ⟨(Builtin.zeroCells z.cells N).toList, ⟨by simp [size_zeroCells, hsi], .inr ⟨x.w.heap.size, grownCap x.w N 0 e, _, by simp, Nat.zero_le _, heap_alloc_new _ _, by simpa using hge, grownCap_le_maxLen _ _ _ _ (by simp only [maxLen]; omega), ?_, ?_⟩⟩, ?_, ?_⟩
            · simp only [Array.size_append, size_zeroCells, hsi, ← Nat.add_mul]
              congr 1
              omega
            · simp only [Array.toList_append, List.length_replicate, Int.toNat_natCast]
              exact List.take_left' (by simp [size_zeroCells, hsi])
            · intro r hr
              rw [List.eq_of_mem_replicate hr]
              simp [hzr, hsi]
            · rw [hzc, hzr]
              have hrep : ∀ n : Nat, Ds (x.drew.mk' o) (List.replicate n (z.cells.toList.map kA)).flatten (List.replicate n z.cells.toList).flatten := by
                intro n
                induction n with
                | zero => simp [Ds]
                | succ n ih => simp only [List.replicate_succ, List.flatten_cons]; exact (Ds_kA _ _).append ih
              simpa using hrep N
          · intro b hb
            simp only [Ent.own, Value.ownBlock, Option.some.injEq] at hb
            subst hb
            exact ⟨Nat.le_refl _, fun hk => absurd (hi2.bd _ hk) (Nat.lt_irrefl _), by simp [X.mk', X.drew]⟩
      · rename_i e p q g' h1 hsl hst1 hst2
        split at hh <;> try (simp at hh; done)
        rename_i h1' e1 sz1 rows1 hg
        have hgG := hg
        simp only [Option.some.injEq, Prod.mk.injEq] at hh
        obtain ⟨rfl, _, _⟩ := hh
        have hp00 := hp0
        obtain ⟨hp, hq, rfl, rfl, rfl, rfl, hel, hr1, hrn⟩ := hp0
        rw [hG] at hg
        have hd := st_ok (ev_ok he xo) (by rw [hst1]; exact hp)
        rw [hst1] at hd
        have hd2 := st_ok (ev_ok he yo) (by rw [hst2]; exact hq)
        rw [hst2] at hd2
        simp only [D] at hd hd2
        have hsat := hget_sat hi hg
        have hrl := hsat
        obtain ⟨_, _, hrl, _⟩ := hrl
        have hi1 : Inv x ((τ, .seq (.slice none 0 0) e1 (szT P e1) []) :: (H ++ H0)) := by
          refine ⟨hi.bd, ?_, ?_, List.pairwise_cons.2 ⟨?_, hi.apart⟩⟩
          · intro r hr
            rcases List.mem_cons.1 hr with rfl | hr
            · exact ⟨[], World.ownsRow_nil _ _ _ _, by simp, by simp [Ds]⟩
            · exact hi.sat r hr
          · intro r hr b hb
            rcases List.mem_cons.1 hr with rfl | hr
            · simp [Ent.own, Value.ownBlock] at hb
            · exact hi.own r hr b hb
          · intro r _ b hb
            simp [Ent.own, Value.ownBlock] at hb
        obtain ⟨u, y, k1, k2, k3, k4⟩ := append_own (g' := τ) type hsl hel hi1 hrl hr1 ((cells_own hsat).imp (fun h => ⟨⟨none, 0, h.1⟩, h.2⟩) id) (by simpa using hrn)
        simp only [List.nil_append] at k4
        refine ⟨u, 0, u, y, _, _, _, by simp only [heapF, hcal, hargs, htys, hsl, hst1, hst2, hgG]; rfl, hp00, .inl ?_, k2, happ_new k4, by simp only [D, true_and]; exact k3⟩
        simp [execOp, resolve, hcal, invoke, ha, hty, builtin, hd, hd2.1, k1]
      · rename_i e p g hv q g' h1 hsl hst1 hst2
        split at hh <;> try (simp at hh; done)
        rename_i h0 e0 sz0 rows h1' e1 sz1 rows1 hg hg1
        have hgG := hg
        have hgG1 := hg1
        simp only [Option.some.injEq, Prod.mk.injEq] at hh
        obtain ⟨rfl, _, _⟩ := hh
        have hp00 := hp0
        obtain ⟨hp, hq, hne, rfl, rfl, rfl, rfl, rfl, rfl, rfl, hel, hr1, hrn⟩ := hp0
        rw [hG] at hg hg1
        have hd := st_ok (ev_ok he xo) (by rw [hst1]; exact hp)
        rw [hst1] at hd
        have hd2 := st_ok (ev_ok he yo) (by rw [hst2]; exact hq)
        rw [hst2] at hd2
        simp only [D] at hd hd2
        have hsat := hget_sat hi hg1
        have hrl := hsat
        obtain ⟨_, _, hrl, _⟩ := hrl
        have hi1 := hi.perm (hdel_perm (hget_app (H0 := H0) hg)).symm
        obtain ⟨u, y, k1, k2, k3, k4⟩ := append_own (g' := g) type hsl hel hi1 hrl hr1 ((cells_own hsat).imp (fun h => ⟨⟨none, 0, h.1⟩, h.2⟩) id) hrn
        have k5 := k4.perm (hset_perm (hget_app (H0 := H0) hg)).symm
        rw [hset_app hg, ← happ_set hg] at k5
        refine ⟨u, 0, u, y, _, _, _, by simp only [heapF, hcal, hargs, htys, hsl, hst1, hst2, hgG, hgG1]; rfl, hp00, .inl ?_, k2, k5, by simp only [D, true_and]; exact k3⟩
        simp [execOp, resolve, hcal, invoke, ha, hty, builtin, hd.1, hd2.1, k1]
      · rename_i e p g hv q ys hsl hst1 hst2
        split at hh <;> try (simp at hh; done)
        rename_i h1 e1 sz1 rows hg
        simp only [Option.some.injEq, Prod.mk.injEq] at hh
        obtain ⟨rfl, _, _⟩ := hh
        have hp00 := hp0
        have hgG := hg
        obtain ⟨hp, hq, rfl, rfl, rfl, rfl, hel, hyl, hyn⟩ := hp0
        rw [hG] at hg
        have hd := st_ok (ev_ok he xo) (by rw [hst1]; exact hp)
        rw [hst1] at hd
        have hd2 := st_ok (ev_ok he yo) (by rw [hst2]; exact hq)
        rw [hst2] at hd2
        simp only [D] at hd hd2
        have hi1 := hi.perm (hdel_perm (hget_app (H0 := H0) hg)).symm
        obtain ⟨u, y, k1, k2, k3, k4⟩ := append_own (g' := g) (ys := ys.map (·.map A.dat)) type hsl hel hi1 (by intro r hr; obtain ⟨r', hr', rfl⟩ := List.mem_map.1 hr; simpa using hyl r' hr') (ones_data ys) (cells_data hd2) (by simpa using hyn)
        have k5 := k4.perm (hset_perm (hget_app (H0 := H0) hg)).symm
        rw [hset_app hg, ← happ_set hg] at k5
        refine ⟨u, 0, u, y, _, _, _, by simp only [heapF, hcal, hargs, htys, hsl, hst1, hst2, hgG]; rfl, hp00, .inl ?_, k2, k5, by simp only [D, true_and]; exact k3⟩
        simp [execOp, resolve, hcal, invoke, ha, hty, builtin, hd.1, k1]

end Go.Proofs.YtakndgpdolfenaaGreat
end
