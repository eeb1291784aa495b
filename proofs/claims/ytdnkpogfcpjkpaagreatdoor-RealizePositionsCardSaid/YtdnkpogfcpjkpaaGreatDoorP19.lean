/- Texts joined by a program: Ho, Sx, Sxa, Sl, Hk, Hla, Fxj. -/
import Derived.Lib.Bytealg
import Derived.Shelf.SlSortCmp.WholeK
import Derived.Shelf.SlSortCmp.NoneTotal
import Derived.Test.YtdnkpogfcpjkpaaGreatDoorProg
import Derived.KernelRfl
import Derived.Test.YtdnkpogfcpjkpaaGreatDoorP18
import Derived.Test.YtdnkpogfcpjkpaaGreatDoorP13
import Derived.Test.YtdnkpogfcpjkpaaGreatDoorP12
import Derived.Test.YtdnkpogfcpjkpaaGreatDoorP17
import Derived.Test.YtdnkpogfcpjkpaaGreatDoorP14
set_option linter.unusedSimpArgs false
set_option linter.unusedVariables false
set_option linter.unnecessarySimpa false

section
namespace Go.Proofs.YtdnkpogfcpjkpaaGreatDoor
set_option maxHeartbeats 1000000
abbrev ltB (a b : List UInt8) : Bool := Go.Op.bytesLess a b
theorem ltB_irrefl : ∀ a, ltB a a = false
  | [] => rfl
  | a :: x => by simp [ltB, Go.Op.bytesLess, UInt8.lt_irrefl, ltB_irrefl x]
theorem ltB_trans : ∀ {a b c}, ltB a b = true → ltB b c = true → ltB a c = true
  | _, _, [], _, h => by simp [ltB, Go.Op.bytesLess] at h
  | [], _, _ :: _, _, _ => rfl
  | _ :: _, [], _ :: _, h, _ => by simp [ltB, Go.Op.bytesLess] at h
  | a :: x, b :: y, c :: z, h1, h2 => by
    simp only [ltB, Go.Op.bytesLess, Bool.or_eq_true, decide_eq_true_eq, Bool.and_eq_true, beq_iff_eq] at h1 h2 ⊢
    rcases h1 with h1 | ⟨rfl, h1⟩
    · rcases h2 with h2 | ⟨rfl, h2⟩
      · exact .inl (UInt8.lt_trans h1 h2)
      · exact .inl h1
    · rcases h2 with h2 | ⟨rfl, h2⟩
      · exact .inl h2
      · exact .inr ⟨rfl, ltB_trans h1 h2⟩
theorem ltB_total : ∀ {a b}, ltB a b = false → ltB b a = false → a = b
  | [], [], _, _ => rfl
  | [], _ :: _, h, _ => by simp [ltB, Go.Op.bytesLess] at h
  | _ :: _, [], _, h => by simp [ltB, Go.Op.bytesLess] at h
  | a :: x, b :: y, h1, h2 => by
    simp only [ltB, Go.Op.bytesLess, Bool.or_eq_false_iff, decide_eq_false_iff_not, Bool.and_eq_false_iff, beq_eq_false_iff_ne] at h1 h2
    have e : a = b := UInt8.le_antisymm (UInt8.not_lt.1 h2.1) (UInt8.not_lt.1 h1.1)
    subst e
    rw [ltB_total (a := x) (b := y) (h1.2.resolve_left fun h => h rfl) (h2.2.resolve_left fun h => h rfl)]
theorem ltB_asymm {a b : List UInt8} (h : ltB a b = true) : ltB b a = false := by
  cases h2 : ltB b a with
  | false => rfl
  | true => have := ltB_trans h h2; rw [ltB_irrefl] at this; cases this
theorem cmpT_eq : ∀ a b : List UInt8, Go.Lib.compareBytes a b = if ltB a b = true then -1 else if ltB b a = true then 1 else 0
  | [], [] => rfl
  | [], _ :: _ => rfl
  | _ :: _, [] => rfl
  | a :: x, b :: y => by
    rw [Go.Lib.compareBytes, cmpT_eq x y]
    by_cases h1 : a < b
    · have : ltB (a :: x) (b :: y) = true := by simp [ltB, Go.Op.bytesLess, h1]
      rw [if_pos h1, if_pos this]
    · by_cases h2 : b < a
      · have e1 : ltB (a :: x) (b :: y) = false := by
          simp only [ltB, Go.Op.bytesLess, Bool.or_eq_false_iff, decide_eq_false_iff_not, Bool.and_eq_false_iff, beq_eq_false_iff_ne]
          exact ⟨h1, .inl fun e => by subst e; exact h1 h2⟩
        have e2 : ltB (b :: y) (a :: x) = true := by simp [ltB, Go.Op.bytesLess, h2]
        rw [if_neg h1, if_pos h2, if_neg (by simp [e1]), if_pos e2]
      · have e : a = b := UInt8.le_antisymm (UInt8.not_lt.1 h2) (UInt8.not_lt.1 h1)
        subst e
        have e1 : ltB (a :: x) (a :: y) = ltB x y := by simp [ltB, Go.Op.bytesLess, UInt8.lt_irrefl]
        have e2 : ltB (a :: y) (a :: x) = ltB y x := by simp [ltB, Go.Op.bytesLess, UInt8.lt_irrefl]
        rw [if_neg h1, if_neg h2, e1, e2]
theorem cmpT_lt (a b : List UInt8) : Go.Lib.compareBytes a b < 0 ↔ ltB a b = true := by
  rw [cmpT_eq]
  split
  · rename_i h; simp [h]
  · rename_i h
    split
    · simp [h]
    · simp [h]
theorem cmpT_zero (a b : List UInt8) : Go.Lib.compareBytes a b = 0 ↔ a = b := by
  rw [cmpT_eq]
  split
  · rename_i h
    constructor
    · intro e; omega
    · rintro rfl; rw [ltB_irrefl] at h; cases h
  · rename_i h
    split
    · rename_i h2
      constructor
      · intro e; omega
      · rintro rfl; rw [ltB_irrefl] at h2; cases h2
    · rename_i h2
      simp only [true_iff]
      exact ltB_total (by simpa using h) (by simpa using h2)
section sort
variable {α : Type}
def insB (lt : α → α → Bool) (g : α) (l : List α) : List α := l.takeWhile (fun x => lt x g) ++ g :: l.dropWhile (fun x => lt x g)
def sortB (lt : α → α → Bool) (l : List α) : List α := l.foldl (fun out g => insB lt g out) []
theorem insB_perm (lt : α → α → Bool) (g : α) (l : List α) : (insB lt g l).Perm (l ++ [g]) := by
  have h : l.takeWhile (fun x => lt x g) ++ l.dropWhile (fun x => lt x g) = l := List.takeWhile_append_dropWhile
  unfold insB
  refine List.perm_middle.trans ?_
  rw [h]
  exact (List.perm_append_singleton g l).symm
theorem sortB_gen (lt : α → α → Bool) : ∀ (l out : List α), (l.foldl (fun out g => insB lt g out) out).Perm (out ++ l)
  | [], out => by simp
  | g :: l, out => by
    rw [List.foldl_cons]
    refine (sortB_gen lt l _).trans ?_
    refine ((insB_perm lt g out).append_right l).trans ?_
    simp
theorem sortB_perm (lt : α → α → Bool) (l : List α) : (sortB lt l).Perm l := by simpa [sortB] using sortB_gen lt l []
structure OrdB (lt : α → α → Bool) : Prop where
  asymm : ∀ a b, lt a b = true → lt b a = false
  ntrans : ∀ a b c, lt b a = false → lt c b = false → lt c a = false
theorem insB_sorted {lt : α → α → Bool} (ho : OrdB lt) (g : α) : ∀ {l : List α}, l.Pairwise (fun a b => lt b a = false) → (insB lt g l).Pairwise (fun a b => lt b a = false)
  | [], _ => by simp [insB]
  | a :: l, h => by
    obtain ⟨h1, h2⟩ := List.pairwise_cons.1 h
    cases hc : lt a g with
    | true =>
      have e : insB lt g (a :: l) = a :: insB lt g l := by simp [insB, hc]
      rw [e, List.pairwise_cons]
      refine ⟨fun b hb => ?_, insB_sorted ho g h2⟩
      rcases List.mem_append.1 ((insB_perm lt g l).mem_iff.1 hb) with hb | hb
      · exact h1 b hb
      · rw [List.mem_singleton.1 hb]
        exact ho.asymm _ _ hc
    | false =>
      have e : insB lt g (a :: l) = g :: a :: l := by simp [insB, hc]
      rw [e, List.pairwise_cons]
      refine ⟨fun b hb => ?_, h⟩
      rcases List.mem_cons.1 hb with rfl | hb
      · exact hc
      · exact ho.ntrans _ _ _ hc (h1 b hb)
theorem sortB_sorted {lt : α → α → Bool} (ho : OrdB lt) (l : List α) : (sortB lt l).Pairwise (fun a b => lt b a = false) := by
  have : ∀ (l out : List α), out.Pairwise (fun a b => lt b a = false) → (l.foldl (fun out g => insB lt g out) out).Pairwise (fun a b => lt b a = false) := by
    intro l
    induction l with
    | nil => intro out h; exact h
    | cons g l ih => intro out h; exact ih _ (insB_sorted ho g h)
  exact this l [] .nil
theorem sorted_same {R : α → α → Prop} : ∀ {l m : List α}, (∀ a b, a ∈ l → b ∈ l → R a b → R b a → a = b) → l.Pairwise R → m.Pairwise R → l.Perm m → l = m
  | [], m, _, _, _, hp => by simpa using hp.symm
  | a :: l, [], _, _, _, hp => by simp at hp
  | a :: l, b :: m, hx, hl, hm, hp => by
    obtain ⟨l1, l2⟩ := List.pairwise_cons.1 hl
    obtain ⟨m1, m2⟩ := List.pairwise_cons.1 hm
    have e : a = b := by
      have ha : a ∈ b :: m := hp.mem_iff.1 (by simp)
      have hb : b ∈ a :: l := hp.mem_iff.2 (by simp)
      rcases List.mem_cons.1 ha with e | ha
      · exact e
      · rcases List.mem_cons.1 hb with e | hb
        · exact e.symm
        · exact hx a b (by simp) (by simp [hb]) (l1 b hb) (m1 a ha)
    subst e
    rw [sorted_same (fun x y hx1 hy1 => hx x y (by simp [hx1]) (by simp [hy1])) l2 m2 ((List.perm_cons a).1 hp)]
end sort
theorem ltB_ord {α : Type} (f : α → List UInt8) : OrdB fun a b : α => ltB (f a) (f b) := by
  refine ⟨fun a b h => ltB_asymm h, fun a b c h1 h2 => ?_⟩
  cases h : ltB (f c) (f a) with
  | false => rfl
  | true =>
    exfalso
    cases h3 : ltB (f b) (f c) with
    | true => rw [ltB_trans h3 h] at h1; cases h1
    | false =>
      rw [ltB_total h3 h2] at h1
      rw [h] at h1
      cases h1
def byName (a b : Made) : Bool := ltB a.name b.name
def partsL (l : List Made) : List Made := sortB byName l
theorem parts_same {l m : List Made} (hn : (l.map Made.name).Nodup) (hp : l.Perm m) {l' : List Made} (hp' : l'.Perm l) (hs : l'.Pairwise fun a b => byName b a = false) : l' = partsL m := by
  refine sorted_same (fun a b ha hb h1 h2 => ?_) hs (sortB_sorted (ltB_ord Made.name) m) (hp'.trans (hp.trans (sortB_perm _ m).symm))
  have e := ltB_total h2 h1
  obtain ⟨i, hi, rfl⟩ := List.getElem_of_mem (hp'.mem_iff.1 ha)
  obtain ⟨j, hj, rfl⟩ := List.getElem_of_mem (hp'.mem_iff.1 hb)
  have hij : i = j := by
    rw [List.Nodup, List.pairwise_iff_getElem] at hn
    rcases Nat.lt_trichotomy i j with h | h | h
    · exact absurd (by rw [List.getElem_map, List.getElem_map]; exact e) (hn i j (by simpa using hi) (by simpa using hj) h)
    · exact h
    · exact absurd (by rw [List.getElem_map, List.getElem_map]; exact e.symm) (hn j i (by simpa using hj) (by simpa using hi) h)
  subst hij
  rfl
end Go.Proofs.YtdnkpogfcpjkpaaGreatDoor
end

section
namespace Go.Proofs.YtdnkpogfcpjkpaaGreatDoor
open Go.Sort
variable {P : Program} {ρ : Go.Shelf.Ren}
noncomputable def restR (x : X) : Heap := by
  classical
  exact ((List.range x.w.heap.size).filter fun b => decide (¬ x.ok b)).map fun b => (0, .raw b ((x.w.heap[b]?).getD (.deferred none)))
theorem restR_mem {x : X} {b : Nat} (h : b < x.w.heap.size) (hn : ¬ x.ok b) : ((0, .raw b ((x.w.heap[b]?).getD (.deferred none))) : Nat × Ent) ∈ restR x := by
  classical
  unfold restR
  refine List.mem_map.2 ⟨b, List.mem_filter.2 ⟨List.mem_range.2 h, by simpa using hn⟩, rfl⟩
theorem restR_inv {x : X} (hb : Bdx x) : Inv x (restR x) := by
  classical
  have hm : ∀ p ∈ restR x, ∃ b, b < x.w.heap.size ∧ ¬ x.ok b ∧ p = (0, .raw b ((x.w.heap[b]?).getD (.deferred none))) := by
    intro p hp
    unfold restR at hp
    obtain ⟨b, h1, rfl⟩ := List.mem_map.1 hp
    obtain ⟨h2, h3⟩ := List.mem_filter.1 h1
    exact ⟨b, List.mem_range.1 h2, by simpa using h3, rfl⟩
  refine ⟨hb, ?_, ?_, ?_⟩
  · intro p hp
    obtain ⟨b, h1, h2, rfl⟩ := hm p hp
    show x.w.heap[b]? = some _
    rw [Array.getElem?_eq_getElem h1]
    rfl
  · intro p hp k hk
    obtain ⟨b, h1, h2, rfl⟩ := hm p hp
    have : k = b := hk
    subst this
    exact ⟨h1, h2⟩
  · unfold restR
    rw [List.pairwise_map]
    refine List.Pairwise.imp ?_ ((List.nodup_range (n := x.w.heap.size)).sublist List.filter_sublist)
    intro a b hab k h1 h2
    have e1 : k = a := h1
    have e2 : k = b := h2
    exact hab (e1.symm.trans e2)
theorem CallFn.quiet {g : FuncId} {az : List A} {r : A} (h : CallFn P g az r) {x : X} (hb : Bdx x) {args : Array Value} (hd : Ds x az args.toList) :
    Calls P g args x.w fun e w' => ∃ v q os, e = .returned v ∧ w' = grow (x.w.drewN q) os ∧ ∃ y : X, y.w = w' ∧ D y r v := by
  have hi : Inv x ([] ++ restR x) := restR_inv hb
  refine (h.2 x args (restR x) hi hd).mono ?_
  rintro e _ ⟨y, v, r', H', rfl, rfl, hle, hiy, hv, rfl, rfl⟩
  refine ⟨v, y.w.drawn - x.w.drawn, y.w.heap.extract x.w.heap.size y.w.heap.size, rfl, ?_, y, rfl, hv⟩
  have hheap : y.w.heap = x.w.heap ++ y.w.heap.extract x.w.heap.size y.w.heap.size := by
    apply Array.ext_getElem?
    intro k
    by_cases hk : k < x.w.heap.size
    · rw [Array.getElem?_append_left hk]
      by_cases ho : x.ok k
      · exact (hle.keep k ho).2
      · have h1 : y.w.heap[k]? = some ((x.w.heap[k]?).getD (.deferred none)) := hiy.sat _ (List.mem_append.2 (.inr (restR_mem hk ho)))
        rw [h1, Array.getElem?_eq_getElem hk]
        rfl
    · rw [Array.getElem?_append_right (by omega), Array.getElem?_extract]
      have hs := hle.size
      by_cases hk2 : k < y.w.heap.size
      · rw [if_pos (by omega)]
        congr 1
        omega
      · rw [if_neg (by omega), Array.getElem?_eq_none (by omega)]
  have hdr := hle.drawn
  have h1 := hle.os
  have h2 := hle.output
  have h3 := hle.tape
  cases hy : y.w with
  | mk heap tape drawn os output =>
    rw [hy] at hheap h1 h2 h3 hdr
    dsimp only at hheap h1 h2 h3 hdr
    unfold grow World.drewN
    dsimp only
    rw [← hheap, h1, h2, h3]
    congr 1
    omega
theorem putRowId_block {w : World} {g n : Nat} {cur : Array Value} {e : TypeId} (h5 : w.heap[g]? = some (.cells cur e (0, 0))) (F : Array Value) (os : Array Obj) :
    (grow (putRow id (Sort.ahead w n) g 0 F) os).heap[g]? = some (.cells (putCells id 0 F cur) e (0, 0)) ∧ ∀ k, k < w.heap.size → k ≠ g → (grow (putRow id (Sort.ahead w n) g 0 F) os).heap[k]? = w.heap[k]? := by
  have hlt := (Array.getElem?_eq_some_iff.1 h5).1
  have hsz : (putRow id (Sort.ahead w n) g 0 F).heap.size = w.heap.size := by simp [putRow, mapBlock, Sort.ahead]
  have hgr : ∀ k, k < w.heap.size → (grow (putRow id (Sort.ahead w n) g 0 F) os).heap[k]? = (putRow id (Sort.ahead w n) g 0 F).heap[k]? := by
    intro k hk
    simp only [grow]
    rw [Array.getElem?_append_left (by rw [hsz]; exact hk)]
  constructor
  · rw [hgr g hlt]
    simp [putRow, mapBlock, Sort.ahead, Array.getElem?_modify, h5, onCells]
  · intro k hk hne
    rw [hgr k hk]
    simp [putRow, mapBlock, Sort.ahead, Array.getElem?_modify, Ne.symm hne]
theorem putId_take (F cur : Array Value) (hF : F.size ≤ cur.size) : (putCells id 0 F cur).toList.take F.size = F.toList := by
  apply List.ext_getElem?
  intro k
  rw [List.getElem?_take]
  split
  · rename_i hk
    have h1 : k < cur.size := by omega
    simp [putCells, h1, hk]
  · rename_i hk
    rw [List.getElem?_eq_none (by simpa using hk)]
theorem flatK_list {α : Type} [Inhabited α] (enc : α → List Value) (k : Nat) (hk : ∀ a, (enc a).length = k) (d : Array α) : (flatK enc k d).toList = (d.toList.map enc).flatten := by
  rcases Nat.eq_zero_or_pos k with h0 | hpos
  · subst h0
    have e1 : (d.toList.map enc).flatten = [] := by
      rw [List.flatten_eq_nil_iff]
      intro l hl
      obtain ⟨a, _, rfl⟩ := List.mem_map.1 hl
      exact List.eq_nil_of_length_eq_zero (hk a)
    rw [e1]
    apply List.eq_nil_of_length_eq_zero
    simp [flatK]
  apply List.ext_getElem?
  intro t
  have hlen : (d.toList.map enc).flatten.length = d.size * k := by
    have : ∀ l : List α, (l.map enc).flatten.length = l.length * k := by
      intro l
      induction l with
      | nil => simp
      | cons a l ih => simp only [List.map_cons, List.flatten_cons, List.length_append, hk, ih, List.length_cons, Nat.add_mul]; omega
    rw [this, Array.length_toList]
  by_cases ht : t < d.size * k
  · have hq : t / k < d.size := (Nat.div_lt_iff_lt_mul hpos).2 ht
    have hr : t % k < k := Nat.mod_lt _ hpos
    have e1 : (flatK enc k d).toList[t]? = some ((enc d[t / k]!)[t % k]!) := by
      rw [List.getElem?_eq_getElem (by simpa using ht)]
      simp [flatK]
    have e2 : ∀ (l : List α) (t : Nat), t < l.length * k → ((l.map enc).flatten)[t]? = (l[t / k]?).bind fun a => (enc a)[t % k]? := by
      intro l
      induction l with
      | nil => intro t h; simp at h
      | cons a l ih =>
        intro t h
        simp only [List.map_cons, List.flatten_cons]
        by_cases h1 : t < k
        · rw [List.getElem?_append_left (by rw [hk]; exact h1), Nat.div_eq_of_lt h1, Nat.mod_eq_of_lt h1]
          rfl
        · rw [List.getElem?_append_right (by rw [hk]; omega), hk]
          have h2 : t - k < l.length * k := by
            simp only [List.length_cons, Nat.add_mul, Nat.one_mul] at h
            omega
          rw [ih (t - k) h2]
          have h3 : t / k = (t - k) / k + 1 := by
            rw [Nat.div_eq_sub_div hpos (by omega)]
          have h4 : t % k = (t - k) % k := (Nat.mod_eq_sub_mod (by omega))
          rw [h3, h4]
          rfl
    rw [e1, e2 d.toList t (by rw [Array.length_toList]; exact ht)]
    have e3 : d.toList[t / k]? = some d[t / k] := by simp [hq]
    rw [e3]
    simp only [Option.bind_some]
    have hl : t % k < (enc d[t / k]).length := by rw [hk]; exact hr
    rw [List.getElem?_eq_getElem hl]
    simp [hq, hl]
  · rw [List.getElem?_eq_none (by simp; omega), List.getElem?_eq_none (by rw [hlen]; omega)]
structure OrdOK {β : Type} (good : β → Prop) (cmp : β → β → Int) : Prop where
  irrefl : ∀ x, good x → ¬ cmp x x < 0
  trans : ∀ x y z, good x → good y → good z → cmp x y < 0 → cmp y z < 0 → cmp x z < 0
  ntrans : ∀ x y z, good x → good y → good z → ¬ cmp x y < 0 → ¬ cmp y z < 0 → ¬ cmp x z < 0
theorem Ds_two {x : X} {t : Nat} {h : Value} {g : FuncId} {args : Array Value} (hd : Ds x [.own t h, .fn g [] []] args.toList) : args = #[h, .func (.func g) #[] #[]] := by
  have hl := hd.length
  obtain ⟨a, b, rfl⟩ : ∃ a b, args = #[a, b] := by
    rcases args with ⟨l⟩
    match l, hl with
    | [a, b], _ => exact ⟨a, b, rfl⟩
  simp only [Ds, D] at hd
  obtain ⟨⟨rfl, _⟩, ⟨fs, cs, rfl, h1, h2⟩, _⟩ := hd
  have e1 : fs = #[] := by
    have := h1.length
    exact Array.eq_empty_of_size_eq_zero (by simpa using this)
  have e2 : cs = #[] := by
    have := h2.length
    exact Array.eq_empty_of_size_eq_zero (by simpa using this)
  rw [e1, e2]
end Go.Proofs.YtdnkpogfcpjkpaaGreatDoor
end

section
namespace Go.Proofs.YtdnkpogfcpjkpaaGreatDoor
open Go.Sort
variable {P : Program} {ρ : Go.Shelf.Ren}
theorem chunk_ds {x : X} {β : Type} {encA : β → List A} {k : Nat} (hkl : ∀ b, (encA b).length = k) : ∀ {rows : List β} {vs : List Value}, Ds x (rows.map encA).flatten vs → ∀ {j : Nat} {b : β}, rows[j]? = some b → Ds x (encA b) ((vs.drop (j * k)).take k)
  | [], _, _, j, b, h => by simp at h
  | r :: rows, vs, h, 0, b, hj => by
    simp only [List.getElem?_cons_zero, Option.some.injEq] at hj
    subst hj
    simp only [List.map_cons, List.flatten_cons] at h
    have h1 := (Ds_app h).1
    rw [hkl] at h1
    simpa using h1
  | r :: rows, vs, h, j + 1, b, hj => by
    simp only [List.getElem?_cons_succ] at hj
    simp only [List.map_cons, List.flatten_cons] at h
    have h1 := (Ds_app h).2
    rw [hkl] at h1
    have h2 := chunk_ds hkl h1 hj
    rw [List.drop_drop] at h2
    rwa [show (j + 1) * k = k + j * k by rw [Nat.add_mul, Nat.one_mul, Nat.add_comm]]
theorem ds_chunks {x : X} {β : Type} {encA : β → List A} : ∀ {l : List (β × List Value)}, (∀ p ∈ l, Ds x (encA p.1) p.2) → Ds x ((l.map (·.1)).map encA).flatten (l.map (·.2)).flatten
  | [], _ => by simp [Ds]
  | p :: l, h => by
    simp only [List.map_cons, List.flatten_cons]
    exact (h p (by simp)).append (ds_chunks fun q hq => h q (by simp [hq]))
theorem sortA_s (Ly : SlLaysF0.n6 P ρ) (k : Nat) (aE : ∀ w, (isAgg (ρ.t 24)).run P w = .ok true w) (zE : ∀ w, (Go.sizeOf (ρ.t 24)).run P w = .ok k w) (hc : Callable P (ρ.f 6)) {g : FuncId} (hg : Callable P g) {β : Type} (encA : β → List A) (hkl : ∀ b, (encA b).length = k) (hone : ∀ b, (encA b).all one1 = true)
    (good : β → Prop) (cmp : β → β → Int) (hcmp : ∀ a b, good a → good b → CallFn P g [.agg (encA a), .agg (encA b)] (.dat (.int .i64 (cmp a b)))) (hO : OrdOK good cmp) (rows : List β) (hgood : ∀ b ∈ rows, good b) (hz : rows.length < 4611686018427387904) {t e : Nat} {h : Value} :
    CallS P (ρ.f 6) [.own t h, .fn g [] []] [(t, .seq h e k (rows.map encA))] fun r H' => r = .tuple [] ∧ ∃ rows' : List β, rows'.Perm rows ∧ rows'.Pairwise (fun a b => ¬ cmp b a < 0) ∧ H' = [(t, .seq h e k (rows'.map encA))] := by
  classical
  refine ⟨hc, fun x args H0 hi hd => ?_⟩
  obtain rfl := Ds_two hd
  have hs := hi.sat (t, .seq h e k (rows.map encA)) (by simp)
  obtain ⟨xs, ⟨hx1, hx2⟩, hrl, hxs⟩ := hs
  rw [List.length_map] at hx1 hx2
  by_cases h00 : rows = []
  · subst h00
    obtain ⟨p, cap, rfl⟩ : ∃ p cap, h = .slice p 0 cap := by
      rcases hx2 with ⟨rfl, _⟩ | ⟨g', cap, cur, rfl, _⟩
      · exact ⟨_, _, rfl⟩
      · exact ⟨_, _, rfl⟩
    refine (AnyF.slices_SortFunc_none Ly p cap _ x.w).mono ?_
    rintro _ _ ⟨rfl, rfl⟩
    exact ⟨x, _, .tuple [], _, rfl, rfl, .refl x, hi, unit_D x, rfl, [], List.Perm.refl _, List.Pairwise.nil, rfl⟩
  · have hpos : 0 < rows.length := List.length_pos_iff.2 h00
    obtain ⟨b0, hb0⟩ : ∃ b0, rows[0]? = some b0 := ⟨_, List.getElem?_eq_getElem hpos⟩
    obtain ⟨blk, cap, cur, rfl, h5, h6, h7, h8, h9⟩ : ∃ blk cap cur, h = .slice (some ⟨blk, 0, none⟩) rows.length cap ∧ x.w.heap[blk]? = some (.cells cur e (0, 0)) ∧ rows.length ≤ cap ∧ cap ≤ maxLen ∧ cur.size = cap * k ∧ cur.toList.take (rows.length * k) = xs := by
      rcases hx2 with ⟨_, h0⟩ | ⟨g', cap, cur, rfl, _, a1, a2, a3, a4, a5⟩
      · omega
      · exact ⟨g', cap, cur, rfl, a1, a2, a3, a4, a5⟩
    have hchunk := fun {j : Nat} {b : β} (hj : rows[j]? = some b) => chunk_ds (x := x) hkl hxs hj
    let α := { p : β × List Value // good p.1 ∧ Ds x (encA p.1) p.2 }
    let a0 : α := ⟨(b0, (xs.drop (0 * k)).take k), hgood b0 (List.mem_of_getElem? hb0), hchunk hb0⟩
    letI : Inhabited α := ⟨a0⟩
    let enc : α → List Value := fun a => a.1.2
    have hk : ∀ a : α, (enc a).length = k := fun a => by rw [show enc a = a.1.2 from rfl, a.2.2.length, hkl]
    have h1 : ∀ a : α, ∀ v ∈ enc a, v.oneCell' = true := fun a => ones_ok (x := x) (az := encA a.1.1) (hone _) a.2.2
    let dl : List α := (List.range rows.length).attach.map fun j => ⟨(rows[j.1]'(List.mem_range.1 j.2), (xs.drop (j.1 * k)).take k), hgood _ (List.getElem_mem _), hchunk (List.getElem?_eq_getElem (List.mem_range.1 j.2))⟩
    have hdl : dl.length = rows.length := by simp [dl]
    have hd1 : dl.map (·.1.1) = rows := by
      apply List.ext_getElem
      · simp [hdl]
      · intro j a1 a2
        simp [dl]
    have hd2 : (dl.map enc).flatten = xs := by
      have e1 : dl.map enc = (List.range rows.length).map fun j => (xs.drop (j * k)).take k := by
        apply List.ext_getElem
        · simp [hdl]
        · intro j a1 a2
          simp [dl, enc]
      rw [e1]
      have : ∀ n, n * k ≤ xs.length → ((List.range n).map fun j => (xs.drop (j * k)).take k).flatten = xs.take (n * k) := by
        intro n
        induction n with
        | zero => intro _; simp
        | succ n ih =>
          intro hn
          rw [List.range_succ, List.map_append, List.flatten_append, ih (by rw [Nat.add_mul] at hn; omega)]
          simp only [List.map_cons, List.map_nil, List.flatten_cons, List.flatten_nil, List.append_nil]
          rw [Nat.add_mul, Nat.one_mul, List.take_add]
      rw [this _ (by omega), List.take_of_length_le (by omega)]
    let d : Array α := dl.toArray
    have hds : d.size = rows.length := by simp [d, hdl]
    have hflat : (flatK enc k d).toList = xs := by rw [flatK_list enc k hk]; exact hd2
    have hblk : blk < x.w.heap.size := (Array.getElem?_eq_some_iff.1 h5).1
    have hnok : ¬ x.ok blk := (hi.own (t, .seq (.slice (some ⟨blk, 0, none⟩) rows.length cap) e k (rows.map encA)) (by simp) blk (by simp [Ent.own, Value.ownBlock])).2
    have hH : HoldsK enc k x.w blk 0 d := by
      intro j hj
      have hj' : j < xs.length := by
        rw [← hflat, Array.length_toList]
        exact hj
      have e1 : (flatK enc k d)[j]! = xs[j] := by
        have : (flatK enc k d).toList[j]? = some xs[j] := by rw [hflat]; exact List.getElem?_eq_getElem hj'
        rw [Array.getElem?_toList] at this
        obtain ⟨q1, q2⟩ := Array.getElem?_eq_some_iff.1 this
        rw [getElem!_pos _ j q1]
        exact q2
      rw [e1]
      have hc : cur[j]? = some xs[j] := by
        have : (cur.toList.take (rows.length * k))[j]? = some xs[j] := by rw [h9]; exact List.getElem?_eq_getElem hj'
        rw [List.getElem?_take] at this
        split at this
        · simpa using this
        · cases this
      refine ⟨?_, by simp [World.frozen?, h5]⟩
      simp [World.cell?, h5, hc]
    let cf : α → α → Int := fun a b => cmp a.1.1 b.1.1
    have hSWO : SWO (ltOf cf) := by
      refine ⟨fun a => ?_, fun a b c h1 h2 => ?_, fun a b c h1 h2 => ?_⟩
      · unfold ltOf
        simpa using hO.irrefl _ a.2.1
      · exact decide_eq_true (hO.trans _ _ _ a.2.1 b.2.1 c.2.1 (of_decide_eq_true h1) (of_decide_eq_true h2))
      · exact decide_eq_false (hO.ntrans _ _ _ a.2.1 b.2.1 c.2.1 (of_decide_eq_false h1) (of_decide_eq_false h2))
    have hworld : ∀ (m : Nat) (os : Array Obj) (dk : Array α), ∃ y : X, y.w = sortWorldK enc k x.w blk 0 m dk os ∧ x.le y ∧ y.ok = x.ok := by
      intro m os dk
      obtain ⟨b1, b2⟩ := putRowId_block (n := m) h5 (flatK enc k dk) os
      refine ⟨⟨sortWorldK enc k x.w blk 0 m dk os, x.ok⟩, rfl, ⟨fun b hb => ⟨hb, b2 b (hi.bd b hb) fun ee => hnok (ee ▸ hb)⟩, rfl, rfl, rfl, ?_, ?_⟩, rfl⟩
      · show x.w.heap.size ≤ (grow (putRow id (Sort.ahead x.w m) blk 0 (flatK enc k dk)) os).heap.size
        simp [grow, putRow, mapBlock, Sort.ahead]
      · show x.w.drawn ≤ (grow (putRow id (Sort.ahead x.w m) blk 0 (flatK enc k dk)) os).drawn
        simp [grow, putRow, mapBlock, Sort.ahead]
    have hlays : CmpLays P g #[] enc k cf blk 0 d.size x.w := by
      intro m os dk _ a b
      obtain ⟨y, hyw, hyle, hyok⟩ := hworld m os dk
      have hbd : Bdx y := ⟨fun b hb => Nat.lt_of_lt_of_le (hi.bd b (by rw [← hyok]; exact hb)) hyle.size, hi.bd.tab.mono hyle⟩
      have hq := (hcmp a.1.1 b.1.1 a.2.1 b.2.1).quiet hbd (args := #[.agg (enc a).toArray, .agg (enc b).toArray]) (by
        refine ⟨?_, ?_, trivial⟩
        · simp only [D]
          exact ⟨_, rfl, by simpa using a.2.2.mono hyle⟩
        · simp only [D]
          exact ⟨_, rfl, by simpa using b.2.2.mono hyle⟩)
      rw [hyw] at hq
      refine hq.mono ?_
      rintro e' w' ⟨v, q, os', rfl, rfl, z, _, hv⟩
      simp only [D, RdL] at hv
      subst hv
      exact ⟨rfl, q, os', rfl⟩
    have heg : ∀ args w, (callFunc g args).run P w = .ok (.enter g args) w := Calls.run hg
    have hres := AnyQ.slices_SortFunc Ly k aE zE enc hk h1 cf hSWO g #[] blk 0 cap d x.w heg hlays hH hblk (by rw [hds]; exact hz)
    rw [hds] at hres
    refine hres.mono ?_
    rintro _ _ ⟨rfl, d', n, os, ⟨hp1, hp2, hp3⟩, hsrt, rfl⟩
    have hd's : d'.size = rows.length := by rw [hp1, hds]
    have hperm : d'.toList.Perm d.toList := by
      have e1 : d'.extract 0 rows.length = d' := by rw [← hd's]; exact Array.extract_size
      have e2 : d.extract 0 rows.length = d := by rw [← hds]; exact Array.extract_size
      rwa [e1, e2] at hp3
    obtain ⟨y, hyw, hyle, hyok⟩ := hworld n os d'
    obtain ⟨b1, b2⟩ := putRowId_block (n := n) h5 (flatK enc k d') os
    have hlen' : (d'.toList.map (·.1.1)).length = rows.length := by simp [hd's]
    have hsz' : (flatK enc k d').size = rows.length * k := by rw [size_flatK, hd's]
    have hfin : x.le y ∧ Inv y ((t, .seq (.slice (some ⟨blk, 0, none⟩) rows.length cap) e k ((d'.toList.map (·.1.1)).map encA)) :: H0) := by
      have hi' : Inv x ((t, .seq (.slice (some ⟨blk, 0, none⟩) rows.length cap) e k (rows.map encA)) :: H0) := by simpa using hi
      refine hi'.ofOwn (y := y) (g' := t) (h' := .slice (some ⟨blk, 0, none⟩) rows.length cap) hyok ?_ ?_ hyle.drawn ?_
      · refine ⟨(d'.toList.map enc).flatten, ⟨?_, .inr ⟨blk, cap, _, by rw [List.length_map, hlen'], Nat.zero_le _, by rw [hyw]; exact b1, by rw [List.length_map, hlen']; exact h6, h7, by simp [putCells, h8], ?_⟩⟩, ?_, ?_⟩
        · rw [← flatK_list enc k hk, Array.length_toList, hsz', List.length_map, hlen']
        · rw [List.length_map, hlen', ← hsz', putId_take _ _ (by rw [hsz', h8]; exact Nat.mul_le_mul_right _ h6), flatK_list enc k hk]
        · intro r hr
          obtain ⟨b, _, rfl⟩ := List.mem_map.1 hr
          rw [hkl]
        · have := ds_chunks (x := x) (encA := encA) (l := d'.toList.map (·.1)) (fun p hp => by
            obtain ⟨a, _, rfl⟩ := List.mem_map.1 hp
            exact a.2.2)
          simp only [List.map_map] at this ⊢
          exact this.mono hyle
      · refine ⟨by rw [hyw]; rfl, by rw [hyw]; rfl, by rw [hyw]; rfl, hyle.size, ?_⟩
        intro b hb hne
        rw [hyw]
        exact b2 b hb fun ee => hne (by simp [Value.ownBlock, ee])
      · intro b hb
        simp only [Value.ownBlock, Option.some.injEq] at hb
        subst hb
        exact ⟨.inl rfl, Nat.lt_of_lt_of_le hblk hyle.size⟩
    refine ⟨y, _, .tuple [], [(t, .seq (.slice (some ⟨blk, 0, none⟩) rows.length cap) e k ((d'.toList.map (·.1.1)).map encA))], rfl, hyw, hfin.1, by simpa using hfin.2, unit_D y, rfl, d'.toList.map (·.1.1), ?_, ?_, rfl⟩
    · have := hperm.map (fun a : α => a.1.1)
      rwa [show d.toList.map (fun a : α => a.1.1) = rows by simpa [d] using hd1] at this
    · rw [List.pairwise_iff_getElem]
      intro i j hi1 hj1 hij
      have hi2 : i < d'.size := by simpa using hi1
      have hj2 : j < d'.size := by simpa using hj1
      have := hsrt i j (Nat.zero_le _) hij (by omega)
      unfold ltOf at this
      simp only [decide_eq_false_iff_not] at this
      simpa [cf, hi2, hj2] using this
end Go.Proofs.YtdnkpogfcpjkpaaGreatDoor
end

section
namespace Go.Proofs.YtdnkpogfcpjkpaaGreatDoor
set_option maxRecDepth 100000
set_option maxHeartbeats 4000000
def sfrealizemadeRen : Go.Shelf.Ren := ⟨fun | 6 => 65 | 14 => 111 | 15 => 112 | 20 => 146 | 21 => 147 | 22 => 148 | 23 => 149 | 24 => 150 | 25 => 151 | 26 => 152 | 27 => 153 | 28 => 154 | 29 => 155 | 46 => 196 | 47 => 197 | 48 => 198 | 49 => 199 | 50 => 200 | 57 => 222 | n => n, fun | 0 => 0 | 3 => 3 | 4 => 4 | 5 => 5 | 9 => 9 | 22 => 86 | 24 => 107 | 25 => 131 | 39 => 182 | 45 => 212 | 46 => 213 | 50 => 143 | 53 => 219 | 55 => 221 | 66 => 258 | 70 => 262 | 76 => 283 | 77 => 40 | n => n, fun n => n⟩
theorem sfrealizemadeLays : Go.Proofs.SlLaysF0.n6 Tryz.prog sfrealizemadeRen := { 
  mixed := by kernel_rfl,
  f6 := ⟨ "slices.SortFunc[[]pneumatic/realize.made,pneumatic/realize.made]", by kernel_rfl, by kernel_rfl⟩,
  f14 := ⟨ "slices.pdqsortCmpFunc[pneumatic/realize.made]", by kernel_rfl, by kernel_rfl⟩,
  f15 := by kernel_rfl,
  f20 := ⟨ "slices.insertionSortCmpFunc[pneumatic/realize.made]", by kernel_rfl, by kernel_rfl⟩,
  f21 := ⟨ "slices.heapSortCmpFunc[pneumatic/realize.made]", by kernel_rfl, by kernel_rfl⟩,
  f22 := ⟨ "slices.breakPatternsCmpFunc[pneumatic/realize.made]", by kernel_rfl, by kernel_rfl⟩,
  f23 := ⟨ "slices.choosePivotCmpFunc[pneumatic/realize.made]", by kernel_rfl, by kernel_rfl⟩,
  f24 := ⟨ "slices.reverseRangeCmpFunc[pneumatic/realize.made]", by kernel_rfl, by kernel_rfl⟩,
  f25 := ⟨ "slices.partialInsertionSortCmpFunc[pneumatic/realize.made]", by kernel_rfl, by kernel_rfl⟩,
  f26 := ⟨ "slices.partitionEqualCmpFunc[pneumatic/realize.made]", by kernel_rfl, by kernel_rfl⟩,
  f27 := ⟨ "slices.partitionCmpFunc[pneumatic/realize.made]", by kernel_rfl, by kernel_rfl⟩,
  f28 := by kernel_rfl,
  f29 := by kernel_rfl,
  f46 := ⟨ "slices.siftDownCmpFunc[pneumatic/realize.made]", by kernel_rfl, by kernel_rfl⟩,
  f47 := by kernel_rfl,
  f48 := by kernel_rfl,
  f49 := ⟨ "slices.medianAdjacentCmpFunc[pneumatic/realize.made]", by kernel_rfl, by kernel_rfl⟩,
  f50 := ⟨ "slices.medianCmpFunc[pneumatic/realize.made]", by kernel_rfl, by kernel_rfl⟩,
  f57 := ⟨ "slices.order2CmpFunc[pneumatic/realize.made]", by kernel_rfl, by kernel_rfl⟩,
  t0 := Tryz.underlying0,
  a0 := Tryz.isAgg0,
  z0 := Tryz.sizeOf0,
  v0 := Tryz.zeroValue0,
  t3 := Tryz.underlying3,
  a3 := Tryz.isAgg3,
  z3 := Tryz.sizeOf3,
  v3 := Tryz.zeroValue3,
  t4 := Tryz.underlying4,
  a4 := Tryz.isAgg4,
  z4 := Tryz.sizeOf4,
  v4 := Tryz.zeroValue4,
  t5 := Tryz.underlying5,
  a5 := Tryz.isAgg5,
  z5 := Tryz.sizeOf5,
  v5 := Tryz.zeroValue5,
  t9 := Tryz.underlying9,
  a9 := Tryz.isAgg9,
  z9 := Tryz.sizeOf9,
  v9 := Tryz.zeroValue9,
  t22 := Tryz.underlying86,
  a22 := Tryz.isAgg86,
  z22 := Tryz.sizeOf86,
  v22 := Tryz.zeroValue86,
  t25 := Tryz.underlying131,
  a25 := Tryz.isAgg131,
  z25 := Tryz.sizeOf131,
  v25 := Tryz.zeroValue131,
  t39 := Tryz.underlying182,
  a39 := Tryz.isAgg182,
  z39 := Tryz.sizeOf182,
  v39 := Tryz.zeroValue182,
  t45 := Tryz.underlying212,
  a45 := Tryz.isAgg212,
  z45 := Tryz.sizeOf212,
  v45 := Tryz.zeroValue212,
  t46 := Tryz.underlying213,
  a46 := Tryz.isAgg213,
  z46 := Tryz.sizeOf213,
  v46 := Tryz.zeroValue213,
  t50 := Tryz.underlying143,
  a50 := Tryz.isAgg143,
  z50 := Tryz.sizeOf143,
  v50 := Tryz.zeroValue143,
  t53 := Tryz.underlying219,
  a53 := Tryz.isAgg219,
  z53 := Tryz.sizeOf219,
  v53 := Tryz.zeroValue219,
  t55 := Tryz.underlying221,
  a55 := Tryz.isAgg221,
  z55 := Tryz.sizeOf221,
  v55 := Tryz.zeroValue221,
  t66 := Tryz.underlying258,
  a66 := Tryz.isAgg258,
  z66 := Tryz.sizeOf258,
  v66 := Tryz.zeroValue258,
  t70 := Tryz.underlying262,
  a70 := Tryz.isAgg262,
  z70 := Tryz.sizeOf262,
  v70 := Tryz.zeroValue262,
  t76 := Tryz.underlying283,
  a76 := Tryz.isAgg283,
  z76 := Tryz.sizeOf283,
  v76 := Tryz.zeroValue283,
  t77 := Tryz.underlying40,
  a77 := Tryz.isAgg40,
  z77 := Tryz.sizeOf40,
  v77 := Tryz.zeroValue40 }
end Go.Proofs.YtdnkpogfcpjkpaaGreatDoor
end

section
namespace Go.Proofs.YtdnkpogfcpjkpaaGreatDoor
open Go.Sort
set_option maxHeartbeats 8000000
set_option maxRecDepth 10000
section gen
variable {P : Program}
theorem CallS.res {g : FuncId} {az : List A} {H : Heap} {K K' : A → Heap → Prop} (h : CallS P g az H K)
    (hk : ∀ r H', K r H' → ∃ r' H'', (∀ x H0, Inv x (H' ++ H0) → Inv x (H'' ++ H0)) ∧ (∀ x v, D x r v → D x r' v) ∧ K' r' H'') : CallS P g az H K' := by
  refine ⟨h.1, fun x args H0 hi hd => (h.2 x args H0 hi hd).mono ?_⟩
  rintro _ _ ⟨y, v, r, H', rfl, rfl, hle, hiy, hv, hkr⟩
  obtain ⟨r', H'', a1, a2, a3⟩ := hk r H' hkr
  exact ⟨y, v, r', H'', rfl, rfl, hle, a1 y H0 hiy, a2 y v hv, a3⟩
theorem sets_D {x : X} {tv : Nat → Value} : ∀ (l : List (Nat × A)) (F : Env), (∀ p ∈ l, D x p.2 (tv p.1)) → (∀ t, D x (F t) (tv t)) → ∀ t, D x (sets l F t) (tv t)
  | [], _, _, hF => hF
  | p :: l, F, hl, hF => by
    intro t
    obtain ⟨s, a⟩ := p
    show D x (upd (sets l F) s a t) (tv t)
    unfold upd
    by_cases h : t = s
    · rw [if_pos h, h]
      exact hl (s, a) (by simp)
    · rw [if_neg h]
      exact sets_D l F (fun q hq => hl q (by simp [hq])) hF t
theorem V.cutI {C : Cfg} {c : Code} {E : Env} {H Hs : Heap} {Q : PostQ} (kv : List (Nat × A)) (hE : ∀ p ∈ kv, ∀ x v, D x (E p.1) v → D x p.2 v) (hi : ∀ x H0, Inv x (H ++ H0) → Inv x (Hs ++ H0)) (h : vcC C c (hdE kv []) Hs Q) : V C c E H Q := by
  intro hf x act H0 ms hinv he
  refine vcC_ok c _ _ _ hf h x act H0 ms (hi x _ hinv) ⟨he.defers, he.size, ?_⟩
  refine sets_D [] _ (by simp) (sets_D kv _ (fun p hp => hE p hp x _ (he.slot p.1)) fun t => ?_)
  simp [anyE, D]
end gen
theorem joined_s {t b : Nat} (kind : Int) (letter : List UInt8) : CallS Tryz.prog 62 [.ptr t b 0, aI kind, .dat (.str letter)] [] fun r H' => ∃ b4, r = .fn 109 [] [.ptr 3 b4 0, .rptr [.int .i64 kind], .rptr [.str letter]] ∧ H' = [(3, .box b4 [.ptr t b 0])] := by
  refine callS_of Tryz.func62 rfl Tryz.ntmps62 (rs := [.tmp 6]) rfl (by kernel_rfl) (by simp) (by kernel_rfl) ?_
  simp
theorem Ds_c {x : X} {a a' : A} {az az' : List A} (h1 : ∀ v, D x a v → D x a' v) (h2 : ∀ vs, Ds x az vs → Ds x az' vs) : ∀ vs, Ds x (a :: az) vs → Ds x (a' :: az') vs
  | [], h => by simp [Ds] at h
  | v :: vs, h => by simp only [Ds] at h ⊢; exact ⟨h1 v h.1, h2 vs h.2⟩
theorem D_fn {x : X} {f : FuncId} {fs fs' cs cs' : List A} (h1 : ∀ vs, Ds x fs vs → Ds x fs' vs) (h2 : ∀ vs, Ds x cs vs → Ds x cs' vs) : ∀ v, D x (.fn f fs cs) v → D x (.fn f fs' cs') v := by
  intro v hv
  simp only [D] at hv ⊢
  obtain ⟨a, b, e, k1, k2⟩ := hv
  exact ⟨a, b, e, h1 _ k1, h2 _ k2⟩
theorem D_tag {x : X} {t t' b o : Nat} : ∀ v, D x (.ptr t b o) v → D x (.ptr t' b o) v := fun v hv => by simpa only [D] using hv
theorem D_mtag {x : X} {t t' b : Nat} : ∀ v, D x (.map t b) v → D x (.map t' b) v := fun v hv => by simpa only [D] using hv
theorem D_nilo {x : X} {t : Nat} : ∀ v, D x .nils v → D x (.own t (.slice none 0 0)) v := fun v hv => by
  simp only [D] at hv ⊢
  exact ⟨hv, none, 0, 0, rfl⟩
theorem Ds_i {x : X} {az : List A} : ∀ vs, Ds x az vs → Ds x az vs := fun _ h => h
theorem D_i {x : X} {a : A} : ∀ v, D x a v → D x a v := fun _ h => h
theorem box_sat {x : X} {b : Nat} {cs cs' : List A} (h : ∀ vs, Ds x cs vs → Ds x cs' vs) : Ent.sat x (.box b cs) → Ent.sat x (.box b cs') := by
  rintro ⟨c, ty, h1, h2⟩
  exact ⟨c, ty, h1, h _ h2⟩
theorem maker_inv {c : Control} {b12 b14 b4 b5 : Nat} {x : X} {H0 : Heap} (hi : Inv x ([(75, Ent.box b5 [A.ptr 14 b14 0]), (74, .box b4 [.ptr 14 b14 0]),
      (14, .box b14 [.dat (.int .i64 c.actuators), .dat (.sl (c.inputs.map encT)), .dat (.sl (c.signals.map encS)), .dat (.sl (c.plus.map encI)), .dat (.sl (c.minus.map encI)), .nils, .nils, .dat (.int .i64 0), .dat (.int .i64 0), .map 12 b12,
        .fn 59 [.ptr 14 b14 0] [], .fn 60 [.ptr 14 b14 0] [], .fn 61 [.ptr 14 b14 0] [],
        .fn 109 [] [.ptr 74 b4 0, .rptr [.int .i64 9], .rptr [.str [80]]], .fn 109 [] [.ptr 75 b5 0, .rptr [.int .i64 8], .rptr [.str [81]]]]),
      (12, .mapS b12 (.int .i64) [])] ++ H0)) : Inv x (mkrH c b14 b4 b5 b12 (.slice none 0 0) (.slice none 0 0) mk0 ++ H0) := by
  have tg : ∀ vs, Ds x [A.ptr 14 b14 0] vs → Ds x [A.ptr 70 b14 0] vs := Ds_c D_tag Ds_i
  have h1 := Inv.swap (g := 75) (e' := .box b5 [.ptr 70 b14 0]) rfl (box_sat tg) (fun _ h => h) hi
  simp only [hset, if_true] at h1
  have h2 := Inv.swap (g := 74) (e' := .box b4 [.ptr 70 b14 0]) rfl (box_sat tg) (fun _ h => h) h1
  simp only [hset, show ¬ (75 : Nat) = 74 by omega, if_true, if_false] at h2
  have h3 := Inv.swap (g := 14) (e' := .box b14 (mkrC c b14 b4 b5 b12 (.slice none 0 0) (.slice none 0 0) mk0)) rfl (box_sat (Ds_c D_i (Ds_c D_i (Ds_c D_i (Ds_c D_i (Ds_c D_i (Ds_c D_nilo (Ds_c D_nilo (Ds_c D_i (Ds_c D_i (Ds_c D_mtag
    (Ds_c (D_fn tg Ds_i) (Ds_c (D_fn tg Ds_i) (Ds_c (D_fn tg Ds_i) Ds_i)))))))))))))) (fun _ h => h) h2
  simp only [hset, show ¬ (75 : Nat) = 14 by omega, show ¬ (74 : Nat) = 14 by omega, if_true, if_false] at h3
  have h4 := Inv.nil (t := 72) (e := .seq (.slice none 0 0) 132 4 []) (Inv.nil (t := 71) (e := .seq (.slice none 0 0) 107 7 []) h3 ⟨rfl, rfl⟩) ⟨rfl, rfl⟩
  have h5 : Inv x ([(72, Ent.seq (.slice none 0 0) 132 4 []), (71, .seq (.slice none 0 0) 107 7 []), (75, .box b5 [.ptr 70 b14 0]), (74, .box b4 [.ptr 70 b14 0]), (70, .box b14 (mkrC c b14 b4 b5 b12 (.slice none 0 0) (.slice none 0 0) mk0)), (73, .mapS b12 (.int .i64) [])] ++ H0) := h4.ents (by simp)
  refine h5.perm ?_
  exact (perm_at [_, _, _, _, _, _] (0, .box 0 []) 6 rfl [4, 1, 0, 5, 3, 2] (by decide)).append_right H0
theorem joinedR {t b : Nat} (τ : Nat) (kind : Int) (letter : List UInt8) (H : Heap) : CallS Tryz.prog 62 [.ptr t b 0, aI kind, .dat (.str letter)] H fun r H' => ∃ b4, r = .fn 109 [] [.ptr τ b4 0, .rptr [.int .i64 kind], .rptr [.str letter]] ∧ H' = (τ, .box b4 [.ptr t b 0]) :: H := by
  refine (CallS.frame (H := []) (H1 := H) (joined_s kind letter)).res ?_
  rintro r H' ⟨_, ⟨b4, rfl, rfl⟩, rfl⟩
  refine ⟨_, _, fun x H0 hi => hi.ents (by simp), fun x v hv => ?_, b4, rfl, rfl⟩
  exact D_fn Ds_i (Ds_c D_tag Ds_i) v hv
theorem Compare_fnT (a b : List UInt8) : CallFn Tryz.prog 67 [.dat (.str a), .dat (.str b)] (aI (Go.Lib.compareBytes a b)) := by
  refine ⟨⟨_, Tryz.func67, by kernel_rfl, by kernel_rfl⟩, fun x args H0 hi hd => ?_⟩
  obtain ⟨u, v, e, hu, hv⟩ := Ds.two hd
  simp only [D, RdL] at hu hv
  subst hu hv
  have ha : args = #[.string ⟨a.toArray⟩, .string ⟨b.toArray⟩] := by
    rcases args with ⟨l⟩
    simp only at e
    rw [e]
  subst ha
  refine (Any.strings_Compare scLays ⟨a.toArray⟩ ⟨b.toArray⟩ x.w).mono ?_
  rintro _ _ ⟨rfl, rfl⟩
  refine ⟨x, _, _, [], rfl, rfl, .refl x, by simpa using hi, ?_, rfl, rfl⟩
  simp only [D, RdL]
theorem drawn1_fn (a b : Made) : CallFn Tryz.prog 66 [.agg (rMade a), .agg (rMade b)] (aI (Go.Lib.compareBytes a.name b.name)) := by
  obtain ⟨ak, an, ad, asg, aa, av, al⟩ := a
  obtain ⟨bk, bn, bd, bs, ba, bv, bl⟩ := b
  refine callFz_of Tryz.func66 rfl Tryz.ntmps66 (rs := [.tmp 4]) rfl (by kernel_rfl) (by simp) (by kernel_rfl) ?_
  cases aa <;> cases ba
  all_goals
    simp [argA]
    intros
    refine (Compare_fnT an bn).s ?_
    simp
theorem few_whole {c : Control} (hc : OkR c) : FewM (wholeM c) 60000 := by
  have f0 := few_start hc
  have f1 := few_gates hc f0 c.signals.length (Nat.le_refl _)
  have f2 := few_sigs hc f1 c.signals.length
  have hlen := hc.len
  have hact := hc.act
  have f4 : FewM (wholeM c) (200 + 256 * c.signals.length + 520 * c.signals.length + 2 * c.actuators.toNat) := few_fold (fun m n i h => few_pil h i) f2.1 _
  exact f4.mono (by omega)
theorem made_ord : OrdOK (fun _ : Made => True) fun a b => Go.Lib.compareBytes a.name b.name := by
  have ho := ltB_ord Made.name
  refine ⟨fun a _ => ?_, fun a b c _ _ _ h1 h2 => ?_, fun a b c _ _ _ h1 h2 => ?_⟩
  · rw [cmpT_lt, ltB_irrefl]
    simp
  · rw [cmpT_lt] at *
    exact ltB_trans h1 h2
  · rw [cmpT_lt] at *
    have := ho.ntrans c b a (by simpa using h2) (by simpa using h1)
    simpa using this
theorem sortM_s (l : List Made) (hl : l.length ≤ 1000000) {t : Nat} {h : Value} : CallS Tryz.prog 65 [.own t h, .fn 66 [] []] [(t, .seq h 107 7 (l.map rMade))] fun r H' => r = .tuple [] ∧ ∃ l' : List Made, l'.Perm l ∧ l'.Pairwise (fun a b => byName b a = false) ∧ H' = [(t, .seq h 107 7 (l'.map rMade))] := by
  refine (sortA_s sfrealizemadeLays 7 (by exact Tryz.isAgg107) (by exact Tryz.sizeOf107) ⟨_, Tryz.func65, by kernel_rfl, by kernel_rfl⟩
    ⟨_, Tryz.func66, by kernel_rfl, by kernel_rfl⟩ rMade (fun _ => rfl) (fun p => ?_) (fun _ => True) (fun a b => Go.Lib.compareBytes a.name b.name) (fun a b _ _ => drawn1_fn a b) made_ord l (fun _ _ => trivial) (by omega)).mono ?_
  · unfold rMade argA
    cases p.arg <;> rfl
  · rintro r H' ⟨rfl, l', h1, h2, rfl⟩
    refine ⟨rfl, l', h1, h2.imp fun {a b} hab => ?_, rfl⟩
    rw [cmpT_lt] at hab
    unfold byName
    simpa using hab
theorem drawn_s (c : Control) (hc : OkC c) : CallS Tryz.prog 28 [aC c] [] fun r H' => (checkC c ≠ 0 ∧ r = .tuple [.nilp, aI (checkC c)]) ∨
    (checkC c = 0 ∧ ∃ b b4 b5 bg hp hj ps, r = .tuple [.ptr 70 b 0, aI 0] ∧ ps.Perm (wholeM c).parts ∧ ps.Pairwise (fun a b => byName b a = false) ∧ H' = mkrH c b b4 b5 bg hp hj { wholeM c with parts := ps }) := by
  refine callS_cut 4 Tryz.func28 rfl Tryz.ntmps28 (rs := [.tmp 2, .tmp 3]) rfl (by kernel_rfl) (by simp) (by kernel_rfl) ?_
  have hck := Check_fn c hc
  simp
  refine hck.s ?_
  simp
  intro hz b12 b14
  refine (joinedR 74 9 [80] _).mono ?_
  rintro _ _ ⟨b4, rfl, rfl⟩
  simp
  refine (joinedR 75 8 [81] _).mono ?_
  rintro _ _ ⟨b5, rfl, rfl⟩
  simp
  refine V.cutI (Hs := mkrH c b14 b4 b5 b12 (.slice none 0 0) (.slice none 0 0) mk0) [(5, .ptr 70 b14 0)] ?_ ?_ ?_
  · simp [D]
  · exact fun x H0 hi => maker_inv hi
  · have hR := okR_of hz
    have hact := hR.act
    have hinp := hR.inp
    simp
    refine ((machine37_s hR.sm ⟨by omega, by omega⟩ (by omega)).on0 rfl).mono ?_
    rintro _ _ ⟨rfl, hp1, hj1, rfl⟩
    simp
    refine ((signals37_s hR).on0 rfl).mono ?_
    rintro _ _ ⟨rfl, hp2, hj2, rfl⟩
    simp
    have hfw := few_whole hR
    refine ((sortM_s (wholeM c).parts (by have := hfw.1; omega)).frame.c1).mono ?_
    rintro _ _ ⟨_, ⟨_, ⟨rfl, ps, hps1, hps2, rfl⟩, rfl⟩, rfl⟩
    simp
    exact ⟨hz, b4, b5, b12, hp2, hj2, ps, hps1, hps2, ⟨rfl, rfl, rfl, rfl, rfl⟩, ⟨rfl, rfl⟩, rfl, rfl, rfl, rfl⟩
def countR (c : Control) : Int × Int := if checkC c ≠ 0 then (0, checkC c) else (countM c, 0)
theorem Count37_fn (c : Control) (hc : OkC c) : CallFn Tryz.prog 11 [aC c] (.tuple [aI (countR c).1, aI (countR c).2]) := by
  have hd := drawn_s c hc
  unfold countR
  refine callFz_of Tryz.func11 rfl Tryz.ntmps11 (rs := [.tmp 2, .tmp 3]) rfl (by kernel_rfl) (by simp) (by kernel_rfl) ?_
  simp
  refine hd.mono ?_
  rintro r H' (⟨hz, rfl⟩ | ⟨hz, b, b4, b5, bg, hp, hj, ps, rfl, hperm, -, rfl⟩)
  · simp [hz]
  · have hl := hperm.length_eq
    rw [whole_len] at hl
    simp [hz, hl]
end Go.Proofs.YtdnkpogfcpjkpaaGreatDoor
end

section
namespace Go.Proofs.YtdnkpogfcpjkpaaGreatDoor
set_option maxHeartbeats 8000000
set_option maxRecDepth 10000
def lnX (n : Int) : Expr := ⟨1, n, []⟩
def backC : Control := ⟨1, [[115, 116, 97, 114, 116]], [⟨[103, 111], 1, ⟨3, 0, [lnX 2, lnX 0]⟩, lnX 1, 0, false⟩, ⟨[98, 97, 99, 107], 0, ⟨2, 0, [lnX 3]⟩, ⟨0, 0, []⟩, 0, false⟩], [3], [4]⟩
theorem lnX_ok {n : Int} (h : inR .i64 n) : OkE (lnX n) := .mk _ (by simp [lnX]) (by simp [lnX]) h (by simp [lnX])
theorem backC_ok : OkC backC := ⟨by decide, by decide, by decide, by decide, by
  intro s hs
  simp only [backC, List.mem_cons, List.not_mem_nil, or_false] at hs
  rcases hs with rfl | rfl
  · exact ⟨by decide, by decide, .mk _ (by simp) (by simp) (by simp) (by
      intro a ha
      simp only [List.mem_cons, List.not_mem_nil, or_false] at ha
      rcases ha with rfl | rfl
      · exact lnX_ok (by simp)
      · exact lnX_ok (by simp)), lnX_ok (by simp), by decide⟩
  · exact ⟨by decide, by decide, .mk _ (by simp) (by simp) (by simp) (by
      intro a ha
      simp only [List.mem_cons, List.not_mem_nil, or_false] at ha
      rw [ha]
      exact lnX_ok (by simp)), .mk _ (by simp) (by simp) (by simp) (by simp), by decide⟩, by decide, by decide, by decide, by decide⟩
theorem backC_check : checkC backC = 0 := by decide +kernel
theorem backC_count : countM backC = 9 := by decide +kernel
theorem Back1_fn (n : Int) : CallFn Tryz.prog 57 [aI n] (aE (lnX n)) := by
  refine callFz_of Tryz.func57 rfl Tryz.ntmps57 (rs := [.cell 2 68]) rfl (by kernel_rfl) (by simp) (by kernel_rfl) ?_
  simp [lnX]
theorem Back_fn : CallFn Tryz.prog 26 [] (aC backC) := by
  have b0 := Back1_fn 0
  have b1 := Back1_fn 1
  have b2 := Back1_fn 2
  have b3 := Back1_fn 3
  refine callFz_of Tryz.func26 rfl Tryz.ntmps26 (rs := [.cell 0 26]) rfl (by kernel_rfl) (by simp) (by kernel_rfl) ?_
  simp
  intro c0
  refine b2.s ?_
  simp
  refine b0.s ?_
  simp
  refine b1.s ?_
  simp
  refine b3.s ?_
  simp [backC, lnX, encE]
end Go.Proofs.YtdnkpogfcpjkpaaGreatDoor
end

section
namespace Go.Proofs.YtdnkpogfcpjkpaaGreatDoor
variable {P : Program}
def Sees (a b : A) : Prop := ∀ x v, D x a v → D x b v
theorem Sees.agg : ∀ {l m : List A}, l.length = m.length → (∀ (i : Nat) (a b : A), l[i]? = some a → m[i]? = some b → wk a b) → Sees (.agg l) (.agg m) := by
  intro l m hl h x v hv
  simp only [D] at hv ⊢
  obtain ⟨vs, e, hd⟩ := hv
  refine ⟨vs, e, ?_⟩
  generalize vs.toList = us at hd
  induction l generalizing m us with
  | nil =>
    cases m with
    | nil => exact hd
    | cons b m => simp at hl
  | cons a l ih =>
    cases m with
    | nil => simp at hl
    | cons b m =>
      cases us with
      | nil => simp [Ds] at hd
      | cons u us =>
        simp only [Ds] at hd ⊢
        exact ⟨wk_ok (h 0 a b rfl rfl) hd.1, ih (by simpa using hl) (fun i a b ha hb => h (i + 1) a b (by simpa using ha) (by simpa using hb)) us hd.2⟩
def swA (sw : Nat → Option A) (o : Oper) (a : A) : A := (sw (o.dst.getD 0)).getD a
def swP (sw : Nat → Option A) (o : Oper) (a : A) : Prop := match sw (o.dst.getD 0) with
  | some b => Sees a b
  | none => True
theorem sw_ok {sw : Nat → Option A} {o : Oper} {a : A} (h : swP sw o a) {x : X} {v : Value} (hv : D x a v) : D x (swA sw o a) v := by
  unfold swA
  unfold swP at h
  split at h
  · rename_i b hb
    rw [hb]
    exact h x v hv
  · rename_i hb
    rw [hb]
    exact hv
def vcS (P : Program) (ρ : Nat → Option CR) (T : List Nat) (sw : Nat → Option A) (ops : List Oper) : List Oper → Env → Heap → (Env → Heap → Prop) → Prop
  | [], E, H, K => K E H
  | o :: rest, E, H, K => ∀ u b, match T.contains (o.dst.getD 0) && o.guard.isNone with
    | true => match heapF P u b (o.dst.getD 0) E (fun t => hget t H) o.op with
      | some (p, a, ch) => p ∧ swP sw o a ∧ vcS P ρ T sw ops rest (put E o.dst (swA sw o a)) (happ ch H) K
      | none => False
    | false => match fStep P ρ u b ops o E (fun t => hget t H) with
      | some (p, a, ch) => p ∧ swP sw o a ∧ vcS P ρ T sw ops rest (put E o.dst (swA sw o a)) (happ ch H) K
      | none => False
@[congr] theorem vcS_congr {P : Program} {ρ : Nat → Option CR} {T : List Nat} {sw : Nat → Option A} {ops : List Oper} {l : List Oper} {E : Env} {H H' : Heap} {K : Env → Heap → Prop} {z : Prop} (_ : (True ∧ True) = z)
    (h : H = H') : vcS P ρ T sw ops l E H K = vcS P ρ T sw ops l E H' K := by rw [h]
theorem vcS_ok {ρ : Nat → Option CR} {T : List Nat} {sw : Nat → Option A} {ops : List Oper} {n : Nat} {ds : List Deferred} {H0 : Heap} {x0 : X} {Q : Exit → Act → World → Prop} : ∀ (l : List Oper) (k : Nat) (E : Env) (H : Heap) (K : Env → Heap → Prop), ops.drop k = l → (∀ o ∈ l, fits n o.dst) → vcS P ρ T sw ops l E H K →
    (∀ E H x act, K E H → x0.le x → Inv x (H ++ H0) → EnvOK n ds x act E → Q .normal act x.w) → ∀ x act, x0.le x → Inv x (H ++ H0) → EnvOK n ds x act E → wpOps P ops.toArray Q ((List.range' k l.length)) act x.w
  | [], k, E, H, K, _, _, h, hq, x, act, hle, hi, he => by
    simp only [List.length_nil, List.range'_zero, wpOps]
    exact hq _ _ x act h hle hi he
  | o :: rest, k, E, H, K, hk, hf, h, hq, x, act, hle, hi, he => by
    have ho : ops[k]? = some o := by
      have := congrArg (·[0]?) hk
      simpa [List.getElem?_drop] using this
    have hk' : ops.drop (k + 1) = rest := by
      rw [← List.drop_drop, hk]
      rfl
    simp only [List.length_cons, List.range'_succ]
    rw [wpOps_cons]
    simp only [vcS] at h
    cases hT : (T.contains (o.dst.getD 0) && o.guard.isNone) with
    | true =>
      rw [hT] at h
      dsimp only at h
      have hg : o.guard = none := by
        have := (Bool.and_eq_true_iff.1 hT).2
        cases hgd : o.guard with
        | none => rfl
        | some _ => rw [hgd] at this; simp at this
      have hw : Region.wanted o (yielded ops.toArray act.tmps) = true := by simp [Region.wanted, hg]
      obtain ⟨u, b, v, y, p, a, ch, h1, h2, h3, h4, h5, h6⟩ := heapF_ok (P := P) (o := o) (E := E) (τ := o.dst.getD 0) (fun u b => by
        have := h u b
        split at this
        · rename_i p a ch hh; exact ⟨p, a, ch, hh, this.1⟩
        · exact this.elim) (fun t => rfl) hi he
      have hk2 := h u b
      rw [h1] at hk2
      have fin : ∀ v, D y a v → wpOps P ops.toArray Q (List.range' (k + 1) rest.length) (act.put o.dst v) y.w := fun v hd =>
        vcS_ok rest (k + 1) _ _ K hk' (fun o ho => hf o (by simp [ho])) hk2.2.2 hq y _ (hle.trans h4) h5 ((he.mono h4).put (hf o (by simp)) (sw_ok hk2.2.1 hd))
      unfold wpOp
      rw [show ops.toArray[k]? = some o by simpa using ho]
      simp only
      rw [if_pos hw]
      left
      show o.upon P act _ Q _
      rcases h3 with h3 | ⟨h3, rfl⟩
      · rw [h3]; exact fin v h6
      · rw [h3]; exact fin Go.undef h6
    | false =>
      rw [hT] at h
      dsimp only at h
      refine fStep_ok (ρ := ρ) (fun u b => ?_) (fun t => rfl) hi he (by simpa using ho) ?_
      · have := h u b
        split at this
        · rename_i p a ch hh; exact ⟨p, a, ch, hh, this.1⟩
        · exact this.elim
      · intro u b p a ch v y hh hle2 hi2 hd
        have := h u b
        rw [hh] at this
        exact vcS_ok rest (k + 1) _ _ K hk' (fun o ho => hf o (by simp [ho])) this.2.2 hq y _ (hle.trans hle2) hi2 ((he.mono hle2).put (hf o (by simp)) (sw_ok this.2.1 hd))
theorem V.regS {n : Nat} {id : Nat} {ops : Array Oper} {E : Env} {H : Heap} {Q : PostQ} (ρ : Nat → Option CR) (T : List Nat) (sw : Nat → Option A) (h : vcS P ρ T sw ops.toList ops.toList E H fun E' H' => Q .normal E' H') : V ⟨P, none, n⟩ (.region id ops false) E H Q := by
  intro hf x act H0 ms hi he
  refine wpIn_wide.2 (wp_region ?_)
  have := vcS_ok (P := P) (ρ := ρ) (T := T) (sw := sw) (n := n) (ds := ms.map mk) (x0 := x) (Q := Post n H0 Q x) ops.toList 0 E H _ rfl (fitsOps_ok hf) h (fun E H y act hK hle hi he => ⟨y, E, H, ms, rfl, hle, hi, he, hK⟩) x act (.refl x) hi he
  rw [List.range_eq_range']
  simpa using this
theorem V.seqV {C : Cfg} {a b : Code} {E : Env} {H : Heap} {Q : PostQ} (h : V C a E H fun e E' H' => match e with
    | .normal => V C b E' H' Q
    | .exit i => Q (.exit i) E' H'
    | .ret => Q .ret E' H'
    | _ => False) : V C (.seq a b) E H Q := by
  intro hf
  simp only [fitsC, Bool.and_eq_true] at hf
  refine W.seq ((h hf.1).mono ?_)
  intro e E' H' hq
  cases e with
  | normal => exact hq hf.2
  | exit i => exact hq
  | ret => exact hq
  | goto l => exact hq
  | panic c => exact hq
  | outgrown => exact hq
attribute [simp] vcS swA swP
end Go.Proofs.YtdnkpogfcpjkpaaGreatDoor
end
