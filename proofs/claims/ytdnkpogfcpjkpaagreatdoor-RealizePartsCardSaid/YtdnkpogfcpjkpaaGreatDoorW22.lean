/- Texts joined by a program: Je, Id, Ia, Ie, Sm, If, Ig, Ih. -/
import Derived.Shelf.SlSortCmp.WholeK
import Derived.Shelf.SlSortCmp.NoneTotal
import Derived.Test.YtdnkpogfcpjkpaaGreatDoorProg
import Derived.KernelRfl
import Derived.Test.YtdnkpogfcpjkpaaGreatDoorW21
import Derived.Test.YtdnkpogfcpjkpaaGreatDoorW17
import Derived.Test.YtdnkpogfcpjkpaaGreatDoorW15
import Derived.Test.YtdnkpogfcpjkpaaGreatDoorW20
import Derived.Test.YtdnkpogfcpjkpaaGreatDoorW16
set_option linter.unusedSimpArgs false
set_option linter.unusedVariables false
set_option linter.unnecessarySimpa false

section
namespace Go.Proofs.YtdnkpogfcpjkpaaGreatDoor
set_option maxHeartbeats 8000000
set_option maxRecDepth 10000
theorem growT_o (n : Int) (h0 : 0 ≤ n) (h1 : n ≤ 4294967296) : CallOwn Tryz.prog 217 [.nils, aI n] 9 1 [] := by
  refine callO_of Tryz.func217 rfl Tryz.ntmps217 (rs := [.tmp 4]) rfl (by kernel_rfl) (by simp) (by kernel_rfl) ?_
  by_cases hn : 0 < n
  · simp [hn, Int.not_lt.2 h0]
    omega
  · have e : n = 0 := by omega
    subst e
    simp
def sumT (xss : List (List (List UInt8))) : Nat := (xss.map List.length).sum
theorem concatT_o (xss : List (List (List UInt8))) (h : sumT xss ≤ 4294967296) (h1 : xss.length ≤ 4294967296) : CallOwn Tryz.prog 184 [.dat (.sl (xss.map fun xs => [.sl (xs.map encT)]))] 9 1 (xss.flatten.map rT) := by
  refine callO_of Tryz.func184 rfl Tryz.ntmps184 (rs := [.tmp 2]) rfl (by kernel_rfl) (by simp) (by kernel_rfl) ?_
  have hle : ∀ i, (xss.take i).flatten.length ≤ sumT xss := by
    intro i
    have e : xss = xss.take i ++ xss.drop i := (List.take_append_drop i xss).symm
    have : sumT xss = sumT (xss.take i) + sumT (xss.drop i) := by
      unfold sumT
      conv => lhs; rw [e]
      rw [List.map_append, List.sum_append]
    rw [List.length_flatten]
    unfold sumT at this ⊢
    omega
  have hst : ∀ i y, xss[i]? = some y → (xss.take (i + 1)).flatten = (xss.take i).flatten ++ y := by
    intro i y hy
    rw [List.take_add_one, hy]
    simp
  obtain ⟨L, hL⟩ : ∃ L : Nat → Nat, ∀ i, L i = (xss.take i).flatten.length := ⟨_, fun _ => rfl⟩
  have hL0 : L 0 = 0 := by simp [hL]
  have hLs : ∀ i y, xss[i]? = some y → L (i + 1) = L i + y.length := by
    intro i y hy
    rw [hL, hL, hst i y hy, List.length_append]
  have hLm : ∀ i, L i ≤ sumT xss := fun i => by rw [hL]; exact hle i
  simp
  refine V.forI (σ := Unit) xss.length [0, 2, 9, 10] (by simp; exact rfl) (fun i _ => [(11, aI i), (3, aI (L i))]) (fun _ _ => []) (fun _ _ => True) () (by simp) (by simp [hL0]) ⟨by simp; exact rfl, by simp⟩ ?_ ?_
  · rintro i - hi -
    have hy := List.getElem?_eq_getElem hi
    have hs := hLs i _ hy
    have hl := hLm (i + 1)
    simp [hi, hs]
    omega
  · rintro - -
    have hl := hLm xss.length
    simp
    refine (growT_o _ (by omega) (by omega)).s 50 ?_
    intro hd
    simp
    refine V.forL (γ := Value) xss [2, 25, 26] (by simp; exact rfl) (fun i _ g => [(27, aI i), (6, .own 50 g)]) (fun i _ g => [(50, .seq g 9 1 ((xss.take i).flatten.map rT))]) (fun (_ : Unit) (_ : List (List UInt8)) => (Except.ok () : Except Unit Unit)) (fun _ _ => True) () hd trivial (by simp) ⟨by simp; exact rfl, by simp⟩ ?_ ?_
    · rintro i - g y hi hy - -
      have hy' : xss[i]? = some y := by rw [List.getElem?_eq_getElem hi, hy]
      have hs := hst i _ hy'
      have hl2 := hle (i + 1)
      rw [hs, List.length_append] at hl2
      rw [hs]
      generalize (xss.take i).flatten = zs at hl2
      simp [hi, hy]
      omega
    · rintro - g - -
      simp
theorem rowsD_T (xs : List (List UInt8)) : rowsD (xs.map rT) = xs.map encT := by unfold rowsD; rw [List.map_map]; rfl
theorem allD_T (xs : List (List UInt8)) : allD (xs.map rT) = true := by simp [allD, isD]
attribute [simp] rowsD_T allD_T
theorem Values_fn (xs : List (List UInt8)) : CallFn Tryz.prog 135 [aTs xs] (.fn 187 [] [.rptr [.sl (xs.map encT)]]) := by
  refine callFz_of Tryz.func135 rfl Tryz.ntmps135 (rs := [.tmp 2]) rfl (by kernel_rfl) (by simp) (by kernel_rfl) ?_
  simp
theorem values_iter {I : Nat → Heap → Prop} {l : Nat} (xs : List (List UInt8)) (hx : xs.length ≤ 1000) (hy : ∀ i v H, xs[i]? = some v → I i H → CallY Tryz.prog l [aT v] H fun r H' => r = .dat (.bool true) ∧ I (i + 1) H') (H : Heap) (h0 : I 0 H) :
    CallS Tryz.prog 187 [.yld l, .rptr [.sl (xs.map encT)]] H fun _ H' => I xs.length H' := by
  have h : CallS Tryz.prog 187 [.yld l, .rptr [.sl (xs.map encT)]] (rt 1000 H) fun _ H' => ∃ H1, I xs.length H1 ∧ subP (rt 1000 H1) H' := by
    refine callS_of Tryz.func187 rfl Tryz.ntmps187 (rs := []) rfl (by kernel_rfl) (by simp) (by kernel_rfl) ?_
    simp
    refine V.for' [0, 5, 6] (fun p => [(7, .dat (.int .i64 (p.1 : Nat)))]) (fun p => rt 1000 p.2)
      (fun p : Nat × Heap => p.1 ≤ xs.length ∧ I p.1 p.2) (fun p => xs.length - p.1) (0, H) ⟨by simp [h0], by simp, subP.refl _⟩ ?_
    rintro ⟨i, H2⟩ ⟨hi, hinv⟩
    simp only at hi hinv
    by_cases hlt : i < xs.length
    · obtain ⟨y, hy1⟩ : ∃ y, xs[i]'hlt = y := ⟨_, rfl⟩
      have hy0 : xs[i]? = some y := by rw [List.getElem?_eq_getElem hlt, hy1]
      simp [hlt, hy1]
      refine (hy i y H2 hy0 hinv).rt.mono ?_
      rintro r H' ⟨H1, rfl, rfl, hk⟩
      simp
      exact ⟨by omega, i + 1, H1, ⟨hlt, hk⟩, by omega, by simp, subP.refl _⟩
    · have hie : i = xs.length := by omega
      subst hie
      simp
      exact ⟨H2, hinv, subP.refl _⟩
  exact CallS.rt (k := 1000) (CallS.dropP h fun r H' ⟨H1, h1, h2⟩ => ⟨_, h2, _, rfl, h1⟩)
theorem values_apd (xs : List (List UInt8)) (hx : xs ≠ []) (hl : xs.length ≤ 1000) {l b2 : Nat} {e0 : Ent} {K : A → Heap → Prop}
    (h1 : ∀ v, CallY Tryz.prog l [aT v] [(99, e0), (2, .box b2 [.nils])] fun r H' => r = .dat (.bool true) ∧ ∃ g, H' = [(99, e0), (11, .seq g 9 1 [rT v]), (2, .box b2 [.own 11 g])])
    (h2 : ∀ (zs : List (List UInt8)) (g : Value) (v : List UInt8), zs.length < 1000 → CallY Tryz.prog l [aT v] [(99, e0), (11, .seq g 9 1 (zs.map rT)), (2, .box b2 [.own 11 g])] fun r H' => r = .dat (.bool true) ∧ ∃ g, H' = [(99, e0), (11, .seq g 9 1 ((zs ++ [v]).map rT)), (2, .box b2 [.own 11 g])])
    (hk : ∀ r g, K r [(99, e0), (11, .seq g 9 1 (xs.map rT)), (2, .box b2 [.own 11 g])]) :
    CallS Tryz.prog 187 [.yld l, .rptr [.sl (xs.map encT)]] [(99, e0), (2, .box b2 [.nils])] K := by
  refine (values_iter (I := fun i H => (i = 0 ∧ H = [(99, e0), (2, .box b2 [.nils])]) ∨ (0 < i ∧ ∃ g, H = [(99, e0), (11, .seq g 9 1 ((xs.take i).map rT)), (2, .box b2 [.own 11 g])])) xs hl ?_ _ (.inl ⟨rfl, rfl⟩)).mono ?_
  · rintro i v H hv (⟨rfl, rfl⟩ | ⟨hi, g, rfl⟩)
    · have htk : xs.take (0 + 1) = [v] := by rw [List.take_add_one, hv]; rfl
      rw [htk]
      exact (h1 v).mono fun r H' ⟨a, g, b⟩ => ⟨a, .inr ⟨by omega, g, b⟩⟩
    · have hil : i < xs.length := (List.getElem?_eq_some_iff.1 hv).1
      have htk : xs.take (i + 1) = xs.take i ++ [v] := by rw [List.take_add_one, hv]; rfl
      have htl : (xs.take i).length = i := by rw [List.length_take]; omega
      rw [htk]
      exact (h2 (xs.take i) g v (by omega)).mono fun r H' ⟨a, g, b⟩ => ⟨a, .inr ⟨by omega, g, b⟩⟩
  · rintro r H' (⟨h0, _⟩ | ⟨_, g, rfl⟩)
    · exact absurd (List.length_eq_zero_iff.1 h0) hx
    · rw [List.take_length]
      exact hk r g
theorem appseq_s (xs : List (List UInt8)) (hx : xs ≠ []) (hl : xs.length ≤ 1000) : CallOwn Tryz.prog 219 [.nils, .fn 187 [] [.rptr [.sl (xs.map encT)]]] 9 1 (xs.map rT) := by
  refine callO_of Tryz.func219 rfl Tryz.ntmps219 (rs := [.tmp 4]) rfl (by kernel_rfl) (by simp) (by kernel_rfl) ?_
  simp
  intro b2
  refine V.rangeFunc 99 (p := True) (first := []) (caps := [.rptr [.sl (xs.map encT)]]) (f := 187) (by simp) trivial fun l => ?_
  refine values_apd xs hx hl (fun v => callY_of rfl (by kernel_rfl) ?_) (fun zs g v hz => callY_of rfl (by kernel_rfl) ?_) (fun r g => .inl ⟨_, rfl, ?_⟩)
  · simp
  · simp
    omega
  · simp
theorem collect_o (xs : List (List UInt8)) (hx : xs ≠ []) (hl : xs.length ≤ 1000) : CallOwn Tryz.prog 186 [.fn 187 [] [.rptr [.sl (xs.map encT)]]] 9 1 (xs.map rT) := by
  refine callO_of Tryz.func186 rfl Tryz.ntmps186 (rs := [.tmp 2]) rfl (by kernel_rfl) (by simp) (by kernel_rfl) ?_
  simp
  refine (appseq_s xs hx hl).s 50 ?_
  intro hd
  simp
theorem sortT_call : Callable Tryz.prog 185 := ⟨_, Tryz.func185, by kernel_rfl, by kernel_rfl⟩
theorem sortT_c {t : Nat} {h : Value} {zs : List (List UInt8)} (hz : zs.length < 4611686018427387904) : CallS Tryz.prog 185 [.own t h] [(t, .seq h 9 1 (zs.map rT))] fun r H' => r = .tuple [] ∧ H' = [(t, .seq h 9 1 ((sortT zs).map rT))] :=
  sortT_s sortTLays sortT_call hz
theorem sorted_o (xs : List (List UInt8)) (hx : xs ≠ []) (hl : xs.length ≤ 1000) : CallOwn Tryz.prog 134 [.fn 187 [] [.rptr [.sl (xs.map encT)]]] 9 1 ((sortT xs).map rT) := by
  refine callO_of Tryz.func134 rfl Tryz.ntmps134 (rs := [.tmp 2]) rfl (by kernel_rfl) (by simp) (by kernel_rfl) ?_
  simp
  refine (collect_o xs hx hl).s 50 ?_
  intro hd
  simp
  refine (sortT_c (by omega)).mono ?_
  rintro _ _ ⟨rfl, rfl⟩
  simp
def rowLs (k : Nat) : List L := ((rowOf k).take 10).map cellL
theorem rowLs_split : ∀ k, k < 14 → ∃ rest, rowOf k = (rowLs k).map A.dat ++ rest := cat_cases ⟨⟨_, rfl⟩, ⟨_, rfl⟩, ⟨_, rfl⟩, ⟨_, rfl⟩, ⟨_, rfl⟩, ⟨_, rfl⟩, ⟨_, rfl⟩, ⟨_, rfl⟩, ⟨_, rfl⟩, ⟨_, rfl⟩, ⟨_, rfl⟩, ⟨_, rfl⟩, ⟨_, rfl⟩, ⟨_, rfl⟩⟩
theorem rowLs_len : ∀ k, k < 14 → (rowLs k).length = 10 := cat_cases ⟨rfl, rfl, rfl, rfl, rfl, rfl, rfl, rfl, rfl, rfl, rfl, rfl, rfl, rfl⟩
def cellT : L → List UInt8
  | .str s => s
  | _ => []
def cellTs : L → List (List UInt8)
  | .sl r => r.map fun x => cellT (x.headD (.int .i64 0))
  | _ => []
def rowTs (k : Nat) : List (List (List UInt8)) := (((rowLs k).drop 2).take 5).map cellTs
theorem rowTs_eq : ∀ k, k < 14 → (((rowLs k).drop 2).take 5).map (fun l => [l]) = (rowTs k).map fun xs => [.sl (xs.map encT)] := cat_cases ⟨rfl, rfl, rfl, rfl, rfl, rfl, rfl, rfl, rfl, rfl, rfl, rfl, rfl, rfl⟩
theorem rowTs_sum : ∀ k, k < 14 → sumT (rowTs k) ≤ 7 ∧ (rowTs k).length = 5 ∧ 1 ≤ (rowTs k).flatten.length ∧ (rowTs k).flatten.length ≤ 7 := by
  refine cat_cases ⟨?_, ?_, ?_, ?_, ?_, ?_, ?_, ?_, ?_, ?_, ?_, ?_, ?_, ?_⟩
  all_goals decide
def portT (k : Nat) : List (List UInt8) := sortT (rowTs k).flatten
theorem Ports_fn (k : Nat) (hk : k < 14) : CallFn Tryz.prog 133 [aI k] (.tuple [aTs (portT k), aI 0]) := by
  have hf := find_fn k hk
  have hl := row_len k hk
  have hcell := row_cell k hk
  obtain ⟨rest, hsp⟩ := rowLs_split k hk
  have hll := rowLs_len k hk
  have hts := rowTs_eq k hk
  obtain ⟨hs1, hs2, hs3, hs4⟩ := rowTs_sum k hk
  have hcon := concatT_o (rowTs k) (by omega) (by omega)
  unfold portT
  generalize rowTs k = T at *
  obtain ⟨F, hF⟩ : ∃ F, T.flatten = F := ⟨_, rfl⟩
  rw [hF] at hcon hs3 hs4 ⊢
  generalize rowLs k = ls at *
  refine callFz_cut 3 Tryz.func133 rfl Tryz.ntmps133 (rs := [.tmp 2, .tmp 3]) rfl (by kernel_rfl) (by simp) (by kernel_rfl) ?_
  simp
  refine hf.s ?_
  generalize rowOf k = R at *
  simp
  intro b4
  refine ⟨⟨hl, by omega, fun x hx => ?_⟩, ?_⟩
  · have hx2 := List.all_eq_true.1 hcell x hx
    cases x <;> exact hx2
  · rw [hl]
    simp only [List.drop_succ_cons, List.drop_zero, List.append_nil]
    rw [hsp]
    refine V.cutV [(4, .ptr 4 b4 0), (3, aI 0)] (Hs := [(4, .box b4 (ls.map A.dat ++ rest))]) (by simp) (by simp) ?_
    refine V.ofG (Gh.frzPre 4 (τ := 4) (b := b4) (ls := ls) (rest := rest) rfl rfl (Gh.here ?_))
    refine V.seq (V.regD (fun t => if t = 17 then some (.own 9 1 (F.map rT)) else none) [] (fun t => if t = 16 then some (.dat (.sl (((ls.drop 2).take 5).map fun l => [l]))) else none) ?_)
    dsimp only [List.append, List.toList_toArray]
    have hts2 : List.take 5 (List.drop 2 (List.map (fun l => [l]) ls)) = T.map fun xs => [.sl (xs.map encT)] := by rw [← hts, List.map_take, List.map_drop]
    have har : arT Tryz.prog 155 = some (5, 22) := by kernel_rfl
    have htk0 : tk Tryz.prog 22 = 1 := by kernel_rfl
    have htk : tk Tryz.prog 22 ≠ 0 := by rw [htk0]; decide
    simp
    refine ⟨?_, ?_⟩
    · have e : List.take 5 (List.drop 2 (List.map (fun l => [l]) ls)) = ((ls.drop 2).take 5).map fun l => [l] := by simp
      rw [e]
      exact sliceArr_ok (t := 155) (x := .tmp 15) (ls := ls.drop 2) (n := 5) rfl har htk rfl (by simp; omega)
    rw [hts2]
    refine fun h => ⟨hcon, (sortT_c (by omega)).mono ?_⟩
    rintro _ _ ⟨rfl, rfl⟩
    simp
theorem ports_fn (k : Nat) (hk : k < 14) (name : List UInt8) (d : Int) : CallFn Tryz.prog 102 [.record [.int .i64 k, .str name, .int .i64 d]] (aTs (sortT (portT k))) := by
  have hp := Ports_fn k hk
  obtain ⟨hs1, hs2, hs3, hs4⟩ := rowTs_sum k hk
  have hl : (portT k).length = (rowTs k).flatten.length := sortT_len _
  generalize rowTs k = T at *
  refine callFz_of Tryz.func102 rfl Tryz.ntmps102 (rs := [.tmp 2]) rfl (by kernel_rfl) (by simp) (by kernel_rfl) ?_
  generalize portT k = F at *
  simp
  refine hp.s ?_
  simp
  refine (Values_fn F).s ?_
  simp
  refine (sorted_o F (by rintro rfl; rw [← hl] at hs3; simp at hs3) (by omega)).s 50 ?_
  intro hd
  simp
end Go.Proofs.YtdnkpogfcpjkpaaGreatDoor
end

section
namespace Go.Proofs.YtdnkpogfcpjkpaaGreatDoor
set_option maxHeartbeats 4000000
structure TotB {α : Type} (lt : α → α → Bool) : Prop where
  irr : ∀ a, lt a a = false
  trans : ∀ a b c, lt a b = true → lt b c = true → lt a c = true
  tot : ∀ a b, lt a b = false → lt b a = false → a = b
theorem TotB.asymm {α : Type} {lt : α → α → Bool} (h : TotB lt) {a b : α} (h1 : lt a b = true) : lt b a = false := by
  cases h2 : lt b a with
  | false => rfl
  | true => have := h.trans _ _ _ h1 h2; rw [h.irr] at this; cases this
theorem TotB.ord {α : Type} {lt : α → α → Bool} (h : TotB lt) : OrdB lt := by
  refine ⟨fun a b h1 => h.asymm h1, fun a b c h1 h2 => ?_⟩
  cases h3 : lt c a with
  | false => rfl
  | true =>
    exfalso
    cases h4 : lt a b with
    | true => rw [h.trans _ _ _ h3 h4] at h2; cases h2
    | false =>
      obtain rfl := h.tot _ _ h4 h1
      rw [h3] at h2
      cases h2
def lexB {α β : Type} [DecidableEq α] (lt1 : α → α → Bool) (lt2 : β → β → Bool) (a b : α × β) : Bool := if a.1 = b.1 then lt2 a.2 b.2 else lt1 a.1 b.1
theorem lexB_tot {α β : Type} [DecidableEq α] {lt1 : α → α → Bool} {lt2 : β → β → Bool} (h1 : TotB lt1) (h2 : TotB lt2) : TotB (lexB lt1 lt2) := by
  refine ⟨fun a => ?_, fun a b c ha hb => ?_, fun a b ha hb => ?_⟩
  · unfold lexB
    rw [if_pos rfl, h2.irr]
  · unfold lexB at *
    by_cases e1 : a.1 = b.1
    · rw [if_pos e1] at ha
      by_cases e2 : b.1 = c.1
      · rw [if_pos e2] at hb
        rw [if_pos (e1.trans e2)]
        exact h2.trans _ _ _ ha hb
      · rw [if_neg e2] at hb
        rw [if_neg (by rw [e1]; exact e2), e1]
        exact hb
    · rw [if_neg e1] at ha
      by_cases e2 : b.1 = c.1
      · rw [if_neg (by rw [← e2]; exact e1), ← e2]
        exact ha
      · rw [if_neg e2] at hb
        have h3 := h1.trans _ _ _ ha hb
        rw [if_neg (fun e => by rw [e, h1.irr] at h3; cases h3)]
        exact h3
  · unfold lexB at *
    by_cases e1 : a.1 = b.1
    · rw [if_pos e1] at ha
      rw [if_pos e1.symm] at hb
      exact Prod.ext e1 (h2.tot _ _ ha hb)
    · rw [if_neg e1] at ha
      rw [if_neg (fun e => e1 e.symm)] at hb
      exact absurd (h1.tot _ _ ha hb) e1
theorem nat_tot : TotB fun a b : Nat => decide (a < b) := ⟨fun a => by simp, fun a b c h1 h2 => by simp at *; omega, fun a b h1 h2 => by simp at *; omega⟩
theorem ltB_tot : TotB ltB := ⟨ltB_irrefl, fun _ _ _ => ltB_trans, fun _ _ => ltB_total⟩
theorem sort_unique {α : Type} {lt : α → α → Bool} (h : TotB lt) {l m l' : List α} (hp : l.Perm m) (hl : l'.Perm l) (hs : l'.Pairwise fun a b => lt b a = false) : l' = sortB lt m :=
  sorted_same (fun a b _ _ h1 h2 => h.tot a b h2 h1) hs (sortB_sorted h.ord m) (hl.trans (hp.trans (sortB_perm lt m).symm))
abbrev PortP := Nat × List UInt8
def beforeP : PortP → PortP → Bool := lexB (fun a b => decide (a < b)) ltB
def earlierP : PortP × PortP → PortP × PortP → Bool := lexB beforeP beforeP
theorem before_tot : TotB beforeP := lexB_tot nat_tot ltB_tot
theorem earlier_tot : TotB earlierP := lexB_tot before_tot before_tot
def pipeN (a b : PortP) : PortP × PortP := if beforeP b a = true then (b, a) else (a, b)
def portL (ps : List Made) (p : Pin) : PortP := (posL ps p.part, p.port)
theorem inC_of {c : Control} (h : checkC c = 0) : InC c := by
  have hf := fine_of h
  have hR := okR_of h
  refine ⟨hR.act.1, fun i x hx => ?_, fun a ha => ?_⟩
  · obtain ⟨h1, h2, _⟩ := hR.sig i x hx
    exact ⟨h1, vars_right _ _ (Nat.lt_succ_self _) h2.1, (occ_off hf hx).2⟩
  · have hpl := hR.pil.1
    have hml := hR.pil.2.1
    have g1 : c.plus[a]? = some c.plus[a] := List.getElem?_eq_getElem (by omega)
    have g2 : c.minus[a]? = some c.minus[a] := List.getElem?_eq_getElem (by omega)
    have r1 := hR.pil.2.2.1 _ (List.mem_of_getElem? g1)
    have r2 := hR.pil.2.2.2 _ (List.mem_of_getElem? g2)
    rw [List.getD_eq_getElem?_getD, List.getD_eq_getElem?_getD, g1, g2]
    exact ⟨r1, r2⟩
end Go.Proofs.YtdnkpogfcpjkpaaGreatDoor
end

section
namespace Go.Proofs.YtdnkpogfcpjkpaaGreatDoor
set_option maxHeartbeats 4000000
set_option maxRecDepth 10000
theorem find1_fn (a : Made) (t : List UInt8) : CallFn Tryz.prog 82 [.agg (rMade a), .dat (.str t)] (aI (Go.Lib.compareBytes a.name t)) := by
  obtain ⟨ak, an, ad, asg, aa, av, al⟩ := a
  refine callFz_of Tryz.func82 rfl Tryz.ntmps82 (rs := [.tmp 4]) rfl (by kernel_rfl) (by simp) (by kernel_rfl) ?_
  cases aa
  all_goals
    simp [argA]
    intros
    refine (Compare_fnT an t).s ?_
    simp
theorem inR_u64' {n : Int} (h : 0 ≤ n) (h2 : n ≤ 18446744073709551615) : inR .u64 n := by
  unfold inR
  simp only [IntKind.wrap, IntKind.signed, IntKind.bits]
  simp
  omega
def metL (ps : List Made) (t : List UInt8) : Bool := match ps[posL ps t]? with
  | some q => Go.Lib.compareBytes q.name t == 0
  | none => false
theorem bsf_s {ps : List Made} {hp : Value} {t : List UInt8} (hs : ps.Pairwise (fun a b => byName b a = false)) (hl : ps.length ≤ 1000000) :
    CallS Tryz.prog 81 [.own 171 hp, .dat (.str t), .fn 82 [] []] [(171, .seq hp 107 7 (ps.map rMade))]
      fun r H' => r = .tuple [aI (posL ps t), aB (metL ps t)] ∧ H' = [(171, .seq hp 107 7 (ps.map rMade))] := by
  have hpl := posL_le ps t
  refine callS_of Tryz.func81 rfl Tryz.ntmps81 (rs := [.tmp 6, .tmp 7]) rfl (by kernel_rfl) (by simp) (by kernel_rfl) ?_
  simp
  refine V.for' [0, 1, 2, 6, 7, 8] (fun q : Nat × Nat => [(9, aI q.1), (10, aI q.2)]) (fun _ => [(171, .seq hp 107 7 (ps.map rMade))])
    (fun q => q.1 ≤ posL ps t ∧ posL ps t ≤ q.2 ∧ q.2 ≤ ps.length) (fun q => q.2 - q.1) (0, ps.length) ⟨⟨Nat.zero_le _, hpl, Nat.le_refl _⟩, by simp, subP.refl _⟩ ?_
  rintro ⟨lo, hi⟩ ⟨h1, h2, h3⟩
  simp only at h1 h2 h3
  by_cases hlt : lo < hi
  · obtain ⟨m, hmm⟩ : ∃ m, (lo + hi) / 2 = m := ⟨_, rfl⟩
    have hsh : shrI .u64 ((lo : Int) + hi) 1 = (m : Int) := by
      rw [← hmm]
      unfold shrI
      simp [IntKind.bits]
      rw [Int.fdiv_eq_ediv_of_nonneg _ (by omega)]
    have hin : inR .u64 ((lo : Int) + hi) := inR_u64' (by omega) (by omega)
    have hml : m < ps.length := by omega
    obtain ⟨q, hq⟩ : ∃ q, ps[m] = q := ⟨_, rfl⟩
    have hqo : ps[m]? = some q := by rw [List.getElem?_eq_getElem hml, hq]
    have hpi := pos_iff (t := t) hs hml
    rw [hq, ← cmpT_lt] at hpi
    have hf := find1_fn q t
    obtain ⟨ak, an, ad, asg, aa, av, al⟩ := q
    simp only at hpi hf
    simp [hlt, hsh, hin, hqo]
    refine ⟨by omega, by omega, by omega, ?_⟩
    cases aa
    all_goals
      simp [argA]
      refine hf.s ?_
      by_cases hc : Go.Lib.compareBytes an t < 0
      · have hc2 := hpi.1 hc
        simp [hc]
        refine ⟨by omega, m + 1, hi, ⟨by omega, by omega, by omega⟩, by omega, by simp, subP.refl _⟩
      · have hc2 := fun h => hc (hpi.2 h)
        simp [hc]
        refine ⟨lo, m, ⟨by omega, by omega, by omega⟩, by omega, by simp, subP.refl _⟩
  · obtain rfl : lo = posL ps t := by omega
    unfold metL
    cases hq : ps[posL ps t]? with
    | none =>
      have hge : ¬ posL ps t < ps.length := Nat.not_lt.2 (List.getElem?_eq_none_iff.1 hq)
      simp [hlt, hq, hge]
      refine GCall.fn (aI 0) (fun h => h.elim) ?_
      simp
    | some q =>
      obtain ⟨hlt2, hqe⟩ := List.getElem?_eq_some_iff.1 hq
      have hf := find1_fn q t
      obtain ⟨ak, an, ad, asg, aa, av, al⟩ := q
      simp only at hf
      cases aa
      all_goals
        simp [hlt, hq, hqe, hlt2, argA]
        refine GCall.fn _ (fun _ => ⟨trivial, hf⟩) ?_
        simp
abbrev fkC (c : Control) (bg : Nat) (hp hj : Value) (m : Mk) : List A :=
  [aI c.actuators, .dat (.sl (c.inputs.map encT)), .dat (.sl (c.signals.map encS)), .dat (.sl (c.plus.map encI)), .dat (.sl (c.minus.map encI)), .own 171 hp, .own 172 hj, aI m.number, aI m.signal, .map 173 bg, .any, .any, .any, .any, .any]
abbrev fkH (c : Control) (b bg : Nat) (hp hj : Value) (m : Mk) : Heap :=
  [(170, .box b (fkC c bg hp hj m)), (171, .seq hp 107 7 (m.parts.map rMade)), (172, .seq hj 132 4 (m.joins.map rJoin)), (173, .mapS bg (.int .i64) (m.gates.map eGate))]
theorem D_own {x : X} {t t' : Nat} {h : Value} : ∀ v, D x (.own t h) v → D x (.own t' h) v := fun v hv => by simpa only [D] using hv
theorem D_any {x : X} {a : A} : ∀ v, D x a v → D x .any v := fun v _ => by simp only [D]
theorem fk_inv {c : Control} {b b4 b5 bg : Nat} {hp hj : Value} {m : Mk} {x : X} {H0 : Heap} (hi : Inv x (mkrH c b b4 b5 bg hp hj m ++ H0)) : Inv x (fkH c b bg hp hj m ++ H0) := by
  have h1 := Inv.swap (g := 70) (e := .box b (mkrC c b b4 b5 bg hp hj m)) (e' := .box b (fkC c bg hp hj m)) rfl (box_sat (Ds_c D_i (Ds_c D_i (Ds_c D_i (Ds_c D_i (Ds_c D_i (Ds_c D_own (Ds_c D_own (Ds_c D_i (Ds_c D_i (Ds_c D_mtag
    (Ds_c D_any (Ds_c D_any (Ds_c D_any (Ds_c D_any (Ds_c D_any Ds_i)))))))))))))))) (fun _ h => h) hi
  simp only [hset, if_true] at h1
  have h2 : Inv x ([(70, .box b (fkC c bg hp hj m)), (71, .seq hp 107 7 (m.parts.map rMade)), (72, .seq hj 132 4 (m.joins.map rJoin)), (73, .mapS bg (.int .i64) (m.gates.map eGate))] ++ H0) :=
    Inv.sub h1 (List.Sublist.append_right (List.Sublist.cons_cons _ (List.Sublist.cons_cons _ (List.Sublist.cons_cons _ (List.Sublist.cons_cons _ (List.nil_sublist _))))) H0)
  exact h2.ents (by simp)
theorem drawnF_s (c : Control) (hc : OkC c) : CallS Tryz.prog 28 [aC c] [] fun r H' => (checkC c ≠ 0 ∧ r = .tuple [.nilp, aI (checkC c)] ∧ H' = []) ∨
    (checkC c = 0 ∧ ∃ b bg hp hj, r = .tuple [.ptr 170 b 0, aI 0] ∧ H' = fkH c b bg hp hj { wholeM c with parts := partsL (wholeR c).gears }) := by
  refine (drawn_s c hc).res ?_
  rintro r H' (⟨hz, rfl⟩ | ⟨hz, b, b4, b5, bg, hp, hj, ps, rfl, hperm, hs, rfl⟩)
  · exact ⟨_, [], fun _ _ h => h.sub (List.sublist_append_right _ _), fun _ _ h => h, .inl ⟨hz, rfl, rfl⟩⟩
  · have hr := (whole_rel (inC_of hz)).parts
    rw [List.append_nil] at hr
    obtain rfl := parts_same (whole_names hz) hr hperm hs
    refine ⟨.tuple [.ptr 170 b 0, aI 0], _, fun x H0 hi => fk_inv hi, fun x v hv => ?_, .inr ⟨hz, b, bg, hp, hj, rfl, rfl⟩⟩
    simp only [D] at hv ⊢
    obtain ⟨vs, e, hd⟩ := hv
    exact ⟨vs, e, Ds_c D_tag Ds_i _ hd⟩
section
variable {c : Control} {b bg : Nat} {hp hj : Value} {m : Mk}
theorem firstF_s (hc : Sm c) : CallS Tryz.prog 34 [.ptr 170 b 0] (fkH c b bg hp hj m) fun r H' => r = aI (firstC c) ∧ H' = fkH c b bg hp hj m := by
  obtain ⟨h1, h2, h3⟩ := hc
  refine callS_of Tryz.func34 rfl Tryz.ntmps34 (rs := [.tmp 2]) rfl (by kernel_rfl) (by simp) (by kernel_rfl) ?_
  simp
  refine V.drawX (fun _ => none) (by kernel_rfl) (by kernel_rfl) (by simp) ?_
  simp
  unfold firstC
  omega
theorem findF_s (p : Pin) (hs : m.parts.Pairwise (fun a b => byName b a = false)) (hl : m.parts.length ≤ 1000000) :
    CallS Tryz.prog 36 [.ptr 170 b 0, .record (encPin p)] (fkH c b bg hp hj m) fun r H' => r = .record [.int .i64 (posL m.parts p.part), .str p.port] ∧ H' = fkH c b bg hp hj m := by
  obtain ⟨p1, p2⟩ := p
  have hb := bsf_s (hp := hp) (t := p1) hs hl
  refine CallS.dropP (callS_of Tryz.func36 rfl Tryz.ntmps36 (rs := [.cell 4 44]) rfl (by kernel_rfl) (by simp) (by kernel_rfl) (K := fun r H' => r = .record [.int .i64 (posL m.parts p1), .str p2] ∧ subP (fkH c b bg hp hj m) H') ?_) (fun r H' ⟨e, h⟩ => ⟨_, h, e, rfl⟩)
  simp
  intro b4
  refine V.drawX (fun t => if t = 14 then some (.ro (.tuple [aI (posL m.parts p1), aB (metL m.parts p1)])) else none) (by kernel_rfl) (by kernel_rfl) (by simp) ?_
  simp
  exact ⟨hb, subP.c (subP.refl _) _⟩
end
end Go.Proofs.YtdnkpogfcpjkpaaGreatDoor
end

section
namespace Go.Proofs.YtdnkpogfcpjkpaaGreatDoor
set_option maxHeartbeats 4000000
set_option maxRecDepth 10000
theorem cmpOr_fn (a b : Int) : CallFn Tryz.prog 71 [aIs [a, b]] (aI (if a ≠ 0 then a else b)) := by
  refine callFz_of Tryz.func71 rfl Tryz.ntmps71 (rs := [.tmp 2]) rfl (by kernel_rfl) (by simp) (by kernel_rfl) ?_
  simp
  refine V.forI (σ := Unit) 2 [3, 6, 7] (by simp; exact rfl) (fun i _ => [(2, aI 0), (8, aI i)]) (fun _ _ => []) (fun i _ => (1 ≤ i → a = 0) ∧ (2 ≤ i → b = 0)) () (by simp) (by simp) ⟨by simp; exact rfl, by simp⟩ ?_ ?_
  · rintro i - hi ⟨h1, h2⟩
    have hc : i = 0 ∨ i = 1 := by omega
    rcases hc with rfl | rfl
    · simp
      by_cases h : a = 0 <;> simp [h]
    · have := h1 (by omega)
      simp
      by_cases h : b = 0 <;> simp [h, this]
  · rintro - ⟨h1, h2⟩
    have := h1 (by omega)
    have := h2 (by omega)
    simp [*]
theorem nanI_fn (a : Int) : CallFn Tryz.prog 136 [aI a] (aB false) := by
  refine callFz_of Tryz.func136 rfl Tryz.ntmps136 (rs := [.tmp 2]) rfl (by kernel_rfl) (by simp) (by kernel_rfl) ?_
  simp
def cmpI (a b : Int) : Int := if a < b then -1 else if b < a then 1 else 0
theorem cmpI_fn (a b : Int) : CallFn Tryz.prog 103 [aI a, aI b] (aI (cmpI a b)) := by
  have n1 := nanI_fn a
  have n2 := nanI_fn b
  refine callFz_of Tryz.func103 rfl Tryz.ntmps103 (rs := [.tmp 4]) rfl (by kernel_rfl) (by simp) (by kernel_rfl) ?_
  simp
  refine n1.s ?_
  simp
  refine n2.s ?_
  simp
  unfold cmpI
  by_cases h : a < b
  · simp [h]
    omega
  · by_cases h2 : b < a <;> simp [h, h2]
abbrev encPort (p : PortP) : List L := [.int .i64 p.1, .str p.2]
abbrev encPipe (p : PortP × PortP) : List L := [.int .i64 p.1.1, .str p.1.2, .int .i64 p.2.1, .str p.2.2]
def cmpP (a b : PortP) : Int := if cmpI a.1 b.1 ≠ 0 then cmpI a.1 b.1 else Go.Lib.compareBytes a.2 b.2
def cmpPP (a b : PortP × PortP) : Int := if cmpP a.1 b.1 ≠ 0 then cmpP a.1 b.1 else cmpP a.2 b.2
theorem compareP_fn (a b : PortP) : CallFn Tryz.prog 68 [.record (encPort a), .record (encPort b)] (aI (cmpP a b)) := by
  obtain ⟨a1, a2⟩ := a
  obtain ⟨b1, b2⟩ := b
  have h1 := cmpI_fn a1 b1
  have h2 := Compare_fnT a2 b2
  have h3 := cmpOr_fn (cmpI a1 b1) (Go.Lib.compareBytes a2 b2)
  refine callFz_of Tryz.func68 rfl Tryz.ntmps68 (rs := [.tmp 4]) rfl (by kernel_rfl) (by simp) (by kernel_rfl) ?_
  simp
  refine V.drawX (fun t => if t = 9 then some (.fn (aI (cmpI a1 b1))) else if t = 14 then some (.fn (aI (Go.Lib.compareBytes a2 b2))) else if t = 16 then some (.fn (aI (cmpP (a1, a2) (b1, b2)))) else none) (by kernel_rfl) (by kernel_rfl) (by simp) ?_
  simp
  exact ⟨h1, h2, h3⟩
theorem cmpI_lt (a b : Nat) : cmpI a b < 0 ↔ a < b := by
  unfold cmpI
  split
  · omega
  · split <;> omega
theorem cmpP_lt (a b : PortP) : cmpP a b < 0 ↔ beforeP a b = true := by
  unfold cmpP beforeP lexB
  by_cases h : a.1 = b.1
  · rw [if_pos h, if_neg (by rw [h]; simp [cmpI]), cmpT_lt]
  · have h0 : cmpI a.1 b.1 ≠ 0 := by unfold cmpI; split <;> (try split) <;> omega
    rw [if_neg h, if_pos h0, cmpI_lt]
    simp
theorem cmpP_zero (a b : PortP) : cmpP a b = 0 ↔ a = b := by
  unfold cmpP
  by_cases h : a.1 = b.1
  · rw [if_neg (by rw [h]; simp [cmpI]), cmpT_zero]
    exact ⟨fun h2 => Prod.ext h h2, fun h2 => by rw [h2]⟩
  · have h0 : cmpI a.1 b.1 ≠ 0 := by unfold cmpI; split <;> (try split) <;> omega
    rw [if_pos h0]
    exact ⟨fun h2 => absurd h2 h0, fun h2 => absurd (by rw [h2]) h⟩
theorem cmpPP_lt (a b : PortP × PortP) : cmpPP a b < 0 ↔ earlierP a b = true := by
  unfold cmpPP earlierP lexB
  by_cases h : a.1 = b.1
  · rw [if_pos h, if_neg (by rw [h]; simp [cmpP_zero]), cmpP_lt]
  · rw [if_neg h, if_pos (by rw [ne_eq, cmpP_zero]; exact h), cmpP_lt]
theorem cmpP_gt (a b : PortP) : 0 < cmpP a b ↔ beforeP b a = true := by
  unfold cmpP beforeP lexB
  by_cases h : a.1 = b.1
  · rw [if_pos h.symm, if_neg (by rw [h]; simp [cmpI]), cmpT_eq]
    cases h1 : ltB a.2 b.2 with
    | true => rw [if_pos rfl, ltB_asymm h1]; simp
    | false => cases h2 : ltB b.2 a.2 <;> simp
  · have h0 : cmpI a.1 b.1 ≠ 0 := by unfold cmpI; split <;> (try split) <;> omega
    rw [if_pos h0, if_neg (fun e : b.1 = a.1 => h e.symm)]
    simp only [decide_eq_true_eq]
    unfold cmpI
    split <;> (try split) <;> omega
theorem pipe_ord : OrdOK (fun _ : PortP × PortP => True) cmpPP := by
  have ho := earlier_tot.ord
  refine ⟨fun a _ => ?_, fun a b c _ _ _ h1 h2 => ?_, fun a b c _ _ _ h1 h2 => ?_⟩
  · rw [cmpPP_lt, earlier_tot.irr]
    simp
  · rw [cmpPP_lt] at *
    exact earlier_tot.trans _ _ _ h1 h2
  · rw [cmpPP_lt] at *
    have := ho.ntrans c b a (by simpa using h2) (by simpa using h1)
    simpa using this
end Go.Proofs.YtdnkpogfcpjkpaaGreatDoor
end

section
namespace Go.Proofs.YtdnkpogfcpjkpaaGreatDoor
set_option maxRecDepth 100000
set_option maxHeartbeats 4000000
def sfapiPipeRen : Go.Shelf.Ren := ⟨fun | 6 => 69 | 14 => 114 | 15 => 112 | 20 => 157 | 21 => 158 | 22 => 159 | 23 => 160 | 24 => 161 | 25 => 162 | 26 => 163 | 27 => 164 | 28 => 154 | 29 => 155 | 46 => 201 | 47 => 197 | 48 => 198 | 49 => 202 | 50 => 203 | 57 => 223 | n => n, fun | 0 => 0 | 3 => 3 | 4 => 4 | 5 => 5 | 9 => 9 | 22 => 30 | 24 => 95 | 25 => 123 | 39 => 182 | 45 => 212 | 46 => 213 | 50 => 143 | 53 => 219 | 55 => 221 | 66 => 258 | 70 => 262 | 76 => 283 | 77 => 40 | n => n, fun n => n⟩
theorem sfapiPipeLays : Go.Proofs.SlLaysF0.n6 Tryz.prog sfapiPipeRen := { 
  mixed := by kernel_rfl,
  f6 := ⟨ "slices.SortFunc[[]pneumatic/api.Pipe,pneumatic/api.Pipe]", by kernel_rfl, by kernel_rfl⟩,
  f14 := ⟨ "slices.pdqsortCmpFunc[pneumatic/api.Pipe]", by kernel_rfl, by kernel_rfl⟩,
  f15 := by kernel_rfl,
  f20 := ⟨ "slices.insertionSortCmpFunc[pneumatic/api.Pipe]", by kernel_rfl, by kernel_rfl⟩,
  f21 := ⟨ "slices.heapSortCmpFunc[pneumatic/api.Pipe]", by kernel_rfl, by kernel_rfl⟩,
  f22 := ⟨ "slices.breakPatternsCmpFunc[pneumatic/api.Pipe]", by kernel_rfl, by kernel_rfl⟩,
  f23 := ⟨ "slices.choosePivotCmpFunc[pneumatic/api.Pipe]", by kernel_rfl, by kernel_rfl⟩,
  f24 := ⟨ "slices.reverseRangeCmpFunc[pneumatic/api.Pipe]", by kernel_rfl, by kernel_rfl⟩,
  f25 := ⟨ "slices.partialInsertionSortCmpFunc[pneumatic/api.Pipe]", by kernel_rfl, by kernel_rfl⟩,
  f26 := ⟨ "slices.partitionEqualCmpFunc[pneumatic/api.Pipe]", by kernel_rfl, by kernel_rfl⟩,
  f27 := ⟨ "slices.partitionCmpFunc[pneumatic/api.Pipe]", by kernel_rfl, by kernel_rfl⟩,
  f28 := by kernel_rfl,
  f29 := by kernel_rfl,
  f46 := ⟨ "slices.siftDownCmpFunc[pneumatic/api.Pipe]", by kernel_rfl, by kernel_rfl⟩,
  f47 := by kernel_rfl,
  f48 := by kernel_rfl,
  f49 := ⟨ "slices.medianAdjacentCmpFunc[pneumatic/api.Pipe]", by kernel_rfl, by kernel_rfl⟩,
  f50 := ⟨ "slices.medianCmpFunc[pneumatic/api.Pipe]", by kernel_rfl, by kernel_rfl⟩,
  f57 := ⟨ "slices.order2CmpFunc[pneumatic/api.Pipe]", by kernel_rfl, by kernel_rfl⟩,
  t0 := Tryz.underlying0,
  a0 := Tryz.isAgg0,
  z0 := Tryz.sizeOf0,
  v0 := Tryz.zeroValue0,
  t3 := Tryz.underlying3,
  a3 := Tryz.isAgg3,
  z3 := Tryz.sizeOf3,
  v3 := Tryz.zeroValue3,
  t4 := Tryz.underlying4,
  a4 := Tryz.isAgg4,
  z4 := Tryz.sizeOf4,
  v4 := Tryz.zeroValue4,
  t5 := Tryz.underlying5,
  a5 := Tryz.isAgg5,
  z5 := Tryz.sizeOf5,
  v5 := Tryz.zeroValue5,
  t9 := Tryz.underlying9,
  a9 := Tryz.isAgg9,
  z9 := Tryz.sizeOf9,
  v9 := Tryz.zeroValue9,
  t22 := Tryz.underlying30,
  a22 := Tryz.isAgg30,
  z22 := Tryz.sizeOf30,
  v22 := Tryz.zeroValue30,
  t25 := Tryz.underlying123,
  a25 := Tryz.isAgg123,
  z25 := Tryz.sizeOf123,
  v25 := Tryz.zeroValue123,
  t39 := Tryz.underlying182,
  a39 := Tryz.isAgg182,
  z39 := Tryz.sizeOf182,
  v39 := Tryz.zeroValue182,
  t45 := Tryz.underlying212,
  a45 := Tryz.isAgg212,
  z45 := Tryz.sizeOf212,
  v45 := Tryz.zeroValue212,
  t46 := Tryz.underlying213,
  a46 := Tryz.isAgg213,
  z46 := Tryz.sizeOf213,
  v46 := Tryz.zeroValue213,
  t50 := Tryz.underlying143,
  a50 := Tryz.isAgg143,
  z50 := Tryz.sizeOf143,
  v50 := Tryz.zeroValue143,
  t53 := Tryz.underlying219,
  a53 := Tryz.isAgg219,
  z53 := Tryz.sizeOf219,
  v53 := Tryz.zeroValue219,
  t55 := Tryz.underlying221,
  a55 := Tryz.isAgg221,
  z55 := Tryz.sizeOf221,
  v55 := Tryz.zeroValue221,
  t66 := Tryz.underlying258,
  a66 := Tryz.isAgg258,
  z66 := Tryz.sizeOf258,
  v66 := Tryz.zeroValue258,
  t70 := Tryz.underlying262,
  a70 := Tryz.isAgg262,
  z70 := Tryz.sizeOf262,
  v70 := Tryz.zeroValue262,
  t76 := Tryz.underlying283,
  a76 := Tryz.isAgg283,
  z76 := Tryz.sizeOf283,
  v76 := Tryz.zeroValue283,
  t77 := Tryz.underlying40,
  a77 := Tryz.isAgg40,
  z77 := Tryz.sizeOf40,
  v77 := Tryz.zeroValue40 }
end Go.Proofs.YtdnkpogfcpjkpaaGreatDoor
end

section
namespace Go.Proofs.YtdnkpogfcpjkpaaGreatDoor
set_option maxHeartbeats 8000000
set_option maxRecDepth 10000
abbrev rPart (p : Made) : List A := [aI p.kind, .dat (.str p.name), aI p.delay]
abbrev rPipe (q : PortP × PortP) : List A := [aI q.1.1, .dat (.str q.1.2), aI q.2.1, .dat (.str q.2.2)]
theorem circuit1_agg (a b : PortP × PortP) : CallFn Tryz.prog 70 [.agg (rPipe a), .agg (rPipe b)] (aI (cmpPP a b)) := by
  obtain ⟨⟨a1, a2⟩, a3, a4⟩ := a
  obtain ⟨⟨b1, b2⟩, b3, b4⟩ := b
  have h1 := compareP_fn (a1, a2) (b1, b2)
  have h2 := compareP_fn (a3, a4) (b3, b4)
  have h3 := cmpOr_fn (cmpP (a1, a2) (b1, b2)) (cmpP (a3, a4) (b3, b4))
  refine callFz_of Tryz.func70 rfl Tryz.ntmps70 (rs := [.tmp 4]) rfl (by kernel_rfl) (by simp) (by kernel_rfl) ?_
  simp
  intros
  refine V.drawX (fun t => if t = 9 then some (.fn (aI (cmpP (a1, a2) (b1, b2)))) else if t = 14 then some (.fn (aI (cmpP (a3, a4) (b3, b4)))) else if t = 16 then some (.fn (aI (cmpPP ((a1, a2), a3, a4) ((b1, b2), b3, b4)))) else none) (by kernel_rfl) (by kernel_rfl) (by simp) ?_
  simp
  exact ⟨h1, h2, h3⟩
theorem sortP_s (l : List (PortP × PortP)) (hl : l.length ≤ 1000000) {h : Value} : CallS Tryz.prog 69 [.own 61 h, .fn 70 [] []] [(61, .seq h 95 4 (l.map rPipe))] fun r H' => r = .tuple [] ∧ H' = [(61, .seq h 95 4 ((sortB earlierP l).map rPipe))] := by
  refine (sortA_s sfapiPipeLays 4 (by exact Tryz.isAgg95) (by exact Tryz.sizeOf95) ⟨_, Tryz.func69, by kernel_rfl, by kernel_rfl⟩
    ⟨_, Tryz.func70, by kernel_rfl, by kernel_rfl⟩ rPipe (fun _ => rfl) (fun p => rfl) (fun _ => True) cmpPP (fun a b _ _ => circuit1_agg a b) pipe_ord l (fun _ _ => trivial) (by omega)).mono ?_
  rintro r H' ⟨rfl, l', h1, h2, rfl⟩
  refine ⟨rfl, ?_⟩
  rw [sort_unique earlier_tot (List.Perm.refl l) h1 (h2.imp fun {a b} hab => by rw [cmpPP_lt] at hab; simpa using hab)]
abbrev ciH (c : Control) (b bg : Nat) (hp hj : Value) (m : Mk) (b2 b4 : Nat) (g1 g2 : Value) (xs : List Made) (l : List (PortP × PortP)) : Heap :=
  (61, .seq g2 95 4 (l.map rPipe)) :: (60, .seq g1 65 3 (xs.map rPart)) :: (4, .box b4 [.own 60 g1, .own 61 g2]) :: (2, .box b2 [.nils, .nils]) :: fkH c b bg hp hj m
abbrev outH (c : Control) (b bg : Nat) (hp hj : Value) (m : Mk) (g1 g2 : Value) (xs : List Made) (l : List (PortP × PortP)) : Heap :=
  (61, .seq g2 95 4 (l.map rPipe)) :: (60, .seq g1 65 3 (xs.map rPart)) :: fkH c b bg hp hj m
section
variable {c : Control} {b bg : Nat} {hp hj : Value} {m : Mk}
theorem cir_c {K : A → Heap → Prop} {b2 b4 : Nat} {g1 g2 : Value} {xs : List Made} {l : List (PortP × PortP)} (hl : l.length ≤ 1000000) (hK : ∀ H', subP (outH c b bg hp hj m g1 g2 xs (sortB earlierP l)) H' → K (.tuple [.agg [.own 60 g1, .own 61 g2], aI 0]) H') :
    vcC ⟨Tryz.prog, none, 79⟩ (restC Tryz.f29 5) (hdE [(2, .ptr 2 b2 0), (3, aI 0), (4, .ptr 4 b4 0)] []) (ciH c b bg hp hj m b2 b4 g1 g2 xs l)
      (RetV Tryz.prog [.cell 2 32, .tmp 3] K) := by
  refine vc_rest rfl ?_
  simp
  refine ((sortP_s l hl).frame).mono ?_
  rintro _ _ ⟨_, ⟨rfl, rfl⟩, rfl⟩
  simp
  exact hK _ (subP.cc (subP.cc (subP.c (subP.c (subP.refl _) _) _) _) _)
theorem cir_b {K : A → Heap → Prop} {b2 b4 : Nat} {g1 : Value} {xs : List Made} (hs : m.parts.Pairwise (fun a b => byName b a = false)) (hl : m.parts.length ≤ 1000000) (hl2 : m.joins.length ≤ 1000000)
    (hK : ∀ g2 H', subP (outH c b bg hp hj m g1 g2 xs (sortB earlierP (m.joins.map fun j => pipeN (portL m.parts j.1) (portL m.parts j.2)))) H' → K (.tuple [.agg [.own 60 g1, .own 61 g2], aI 0]) H') :
    vcN ⟨Tryz.prog, none, 79⟩ 1 (restC Tryz.f29 4) (hdE [(0, .ptr 170 b 0), (2, .ptr 2 b2 0), (3, aI 0), (4, .ptr 4 b4 0)] []) (ciH c b bg hp hj m b2 b4 g1 (.slice none 0 0) xs [])
      (RetV Tryz.prog [.cell 2 32, .tmp 3] K) := by
  refine vcN_rest rfl ?_
  simp
  refine V.forI (σ := Value) m.joins.length [0, 2, 3, 4, 46, 47] (by simp; exact rfl) (fun i _ => [(48, aI i)])
    (fun i g => [(61, .seq g 95 4 (((m.joins.take i).map fun j => pipeN (portL m.parts j.1) (portL m.parts j.2)).map rPipe)), (4, .box b4 [.own 60 g1, .own 61 g])]) (fun _ _ => True) (.slice none 0 0) trivial (by simp) ⟨by simp; exact rfl, by simp⟩ ?_ ?_
  · rintro i g hi -
    obtain ⟨j, hj1⟩ : ∃ j, m.joins[i] = j := ⟨_, rfl⟩
    have hjo : m.joins[i]? = some j := by rw [List.getElem?_eq_getElem hi, hj1]
    have f1 := findF_s (c := c) (b := b) (bg := bg) (hp := hp) (hj := hj) (m := m) j.1 hs hl
    have f2 := findF_s (c := c) (b := b) (bg := bg) (hp := hp) (hj := hj) (m := m) j.2 hs hl
    obtain ⟨⟨p1, p2⟩, q1, q2⟩ := j
    have hst : ((m.joins.take (i + 1)).map fun j => pipeN (portL m.parts j.1) (portL m.parts j.2)).map rPipe = ((m.joins.take i).map fun j => pipeN (portL m.parts j.1) (portL m.parts j.2)).map rPipe ++ [rPipe (pipeN (posL m.parts p1, p2) (posL m.parts q1, q2))] := by
      rw [List.take_add_one, hjo]
      simp [portL]
    rw [hst]
    have hpn : pipeN (posL m.parts p1, p2) (posL m.parts q1, q2) = if 0 < cmpP (posL m.parts p1, p2) (posL m.parts q1, q2) then ((posL m.parts q1, q2), posL m.parts p1, p2) else ((posL m.parts p1, p2), posL m.parts q1, q2) := by
      unfold pipeN
      by_cases h : 0 < cmpP (posL m.parts p1, p2) (posL m.parts q1, q2)
      · rw [if_pos h, if_pos ((cmpP_gt _ _).1 h)]
      · rw [if_neg h, if_neg (fun h2 => h ((cmpP_gt _ _).2 h2))]
    simp [hi, hj1, hjo]
    intro b8
    refine V.drawX (fun t => if t = 55 then some (.ro (.record [.int .i64 (posL m.parts p1), .str p2])) else if t = 59 then some (.ro (.record [.int .i64 (posL m.parts q1), .str q2])) else none) (by kernel_rfl) (by kernel_rfl) (by simp) ?_
    simp
    refine ⟨f1, f2, ?_⟩
    intro u1 u2
    refine ⟨by kernel_rfl, (compareP_fn (posL m.parts p1, p2) (posL m.parts q1, q2)).s ?_⟩
    by_cases hc : 0 < cmpP (posL m.parts p1, p2) (posL m.parts q1, q2)
    · rw [if_pos hc] at hpn
      rw [hpn]
      simp [hc]
      omega
    · rw [if_neg hc] at hpn
      rw [hpn]
      simp [hc]
      omega
  · rintro g -
    simp
    exact V.cut [(2, .ptr 2 b2 0), (3, aI 0), (4, .ptr 4 b4 0)] (Hs := ciH c b bg hp hj m b2 b4 g1 g xs (m.joins.map fun j => pipeN (portL m.parts j.1) (portL m.parts j.2))) (by simp) (by simp) (vc_of_rest rfl (cir_c (by simp; omega) fun H' h => hK g H' h))
theorem cir_a {K : A → Heap → Prop} {b2 b4 : Nat} (hs : m.parts.Pairwise (fun a b => byName b a = false)) (hl : m.parts.length ≤ 1000000) (hl2 : m.joins.length ≤ 1000000)
    (hK : ∀ g1 g2 H', subP (outH c b bg hp hj m g1 g2 m.parts (sortB earlierP (m.joins.map fun j => pipeN (portL m.parts j.1) (portL m.parts j.2)))) H' → K (.tuple [.agg [.own 60 g1, .own 61 g2], aI 0]) H') :
    vcN ⟨Tryz.prog, none, 79⟩ 1 (restC Tryz.f29 3) (hdE [(0, .ptr 170 b 0), (2, .ptr 2 b2 0), (3, aI 0), (4, .ptr 4 b4 0)] []) (ciH c b bg hp hj m b2 b4 (.slice none 0 0) (.slice none 0 0) [] [])
      (RetV Tryz.prog [.cell 2 32, .tmp 3] K) := by
  refine vcN_rest rfl ?_
  simp
  refine V.forI (σ := Value) m.parts.length [0, 2, 3, 4, 29, 30] (by simp; exact rfl) (fun i _ => [(31, aI i)])
    (fun i g => [(60, .seq g 65 3 ((m.parts.take i).map rPart)), (4, .box b4 [.own 60 g, .own 61 (.slice none 0 0)])]) (fun _ _ => True) (.slice none 0 0) trivial (by simp) ⟨by simp; exact rfl, by simp⟩ ?_ ?_
  · rintro i g hi -
    obtain ⟨p, hp1⟩ : ∃ p, m.parts[i] = p := ⟨_, rfl⟩
    have hpo : m.parts[i]? = some p := by rw [List.getElem?_eq_getElem hi, hp1]
    obtain ⟨ak, an, ad, asg, aa, av, al⟩ := p
    have hst : (m.parts.take (i + 1)).map rPart = (m.parts.take i).map rPart ++ [rPart ⟨ak, an, ad, asg, aa, av, al⟩] := by rw [List.take_add_one, hpo]; simp
    rw [hst]
    cases aa
    all_goals
      simp [hi, hp1, hpo, argA]
      omega
  · rintro g -
    simp
    exact V.cutN 1 [(0, .ptr 170 b 0), (2, .ptr 2 b2 0), (3, aI 0), (4, .ptr 4 b4 0)] (Hs := ciH c b bg hp hj m b2 b4 g (.slice none 0 0) m.parts []) (by simp) (by simp) (vcN_of_rest rfl (cir_b hs hl hl2 fun g2 H' h => hK g g2 H' h))
end
end Go.Proofs.YtdnkpogfcpjkpaaGreatDoor
end

section
namespace Go.Proofs.YtdnkpogfcpjkpaaGreatDoor
set_option maxHeartbeats 4000000
set_option maxRecDepth 10000
theorem ownF_s {c : Control} (hc : Sm c) {i : Nat} (hi : i < c.signals.length) {b bg : Nat} {hp hj : Value} {m : Mk} : CallS Tryz.prog 80 [.ptr 170 b 0, aI i] (fkH c b bg hp hj m) fun r H' => r = .dat (.str (ownT c i)) ∧ H' = fkH c b bg hp hj m := by
  obtain ⟨h1, h2, h3⟩ := hc
  have hit := Itoa_fn i (by omega)
  obtain ⟨x, hx⟩ : ∃ x, c.signals[i] = x := ⟨_, rfl⟩
  have hxo : c.signals[i]? = some x := by rw [List.getElem?_eq_getElem hi, hx]
  have hk : kindAt c i = x.kind := by simp [kindAt, hxo]
  have hnl := numT_len i
  refine callS_of Tryz.func80 rfl Tryz.ntmps80 (rs := [.tmp 4]) rfl (by kernel_rfl) (by simp) (by kernel_rfl) ?_
  simp [hi, hx]
  refine ⟨fun e => hit.s ?_, fun e => hit.s ?_⟩
  · simp [ownT, hk, e]
    omega
  · simp [ownT, hk, e]
    omega
theorem portF_s {c : Control} (hc : Sm c) (h0 : 0 ≤ c.actuators ∧ c.actuators ≤ 12) {line : Int} (hl : 0 ≤ line ∧ line < countC c) {b bg : Nat} {hp' hj : Value} {m : Mk} :
    CallS Tryz.prog 35 [.ptr 170 b 0, aI line] (fkH c b bg hp' hj m) fun r H' => r = .record (encPin (portM c m.gates line)) ∧ H' = fkH c b bg hp' hj m := by
  have hfs := firstF_s (b := b) (bg := bg) (hp := hp') (hj := hj) (m := m) hc
  obtain ⟨h1, h2, h3⟩ := hc
  have hcn : countC c = firstC c + c.signals.length := rfl
  have hfc : firstC c = 2 * c.actuators + c.inputs.length := rfl
  refine CallS.dropP (callS_of Tryz.func35 rfl Tryz.ntmps35 (rs := [.cell 4 98]) rfl (by kernel_rfl) (by simp) (by kernel_rfl) (K := fun r H' => r = .record (encPin (portM c m.gates line)) ∧ subP (fkH c b bg hp' hj m) H') ?_) (fun r H' ⟨e, h⟩ => ⟨_, h, e, rfl⟩)
  have hc : Sm c := ⟨h1, h2, h3⟩
  simp
  intro b4'
  refine hfs.c1.mono ?_
  rintro _ _ ⟨_, ⟨rfl, rfl⟩, rfl⟩
  obtain ⟨l, rfl⟩ : ∃ l : Nat, line = l := ⟨line.toNat, by omega⟩
  have e1 : ((l : Int).tdiv 2) = ((l / 2 : Nat) : Int) := by rw [Int.tdiv_eq_ediv_of_nonneg (by omega)]; rfl
  have e2 : ((l : Int).tmod 2) = ((l % 2 : Nat) : Int) := by rw [Int.tmod_eq_emod_of_nonneg (by omega)]; rfl
  by_cases hA : (l : Int) < 2 * c.actuators
  · have hp : portM c m.gates l = ⟨letterT (l / 2) ++ numT (l % 2), [50]⟩ := by
      unfold portM
      rw [if_pos hA, Int.toNat_natCast]
    have hn1 := numT_len (l % 2)
    rw [hp]
    simp [hA]
    refine ⟨by omega, by omega, by omega, ?_⟩
    rw [show ((l : Int) / 2) = ((l / 2 : Nat) : Int) from rfl]
    refine (letter_fn (l / 2) (by omega)).s ?_
    simp
    rw [e2]
    refine (Itoa_fn (l % 2) (by omega)).s ?_
    simp
    refine ⟨?_, subP.c (subP.refl _) _⟩
    simp [letterT]
    omega
  · by_cases hB : (l : Int) < firstC c
    · have hp : portM c m.gates l = ⟨c.inputs.getD (l - 2 * c.actuators).toNat [], [50]⟩ := by
        unfold portM
        rw [if_neg hA, if_pos hB]
      have hi : ((l : Int) - 2 * c.actuators).toNat < c.inputs.length := by omega
      rw [hp, List.getD_eq_getElem?_getD, List.getElem?_eq_getElem hi]
      have hB2 : (l : Int) - firstC c < 0 := by omega
      simp [hA, hB2]
      refine ⟨by omega, by omega, ?_⟩
      refine V.drawX (fun _ => none) (by kernel_rfl) (by kernel_rfl) (by simp) ?_
      simp [hi]
      exact ⟨by omega, by omega, by omega, subP.c (subP.refl _) _⟩
    · have hi : ((l : Int) - firstC c).toNat < c.signals.length := by omega
      obtain ⟨x, hx⟩ : ∃ x, c.signals[((l : Int) - firstC c).toNat] = x := ⟨_, rfl⟩
      have hxo : c.signals[((l : Int) - firstC c).toNat]? = some x := by rw [List.getElem?_eq_getElem hi, hx]
      have hk : kindAt c ((l : Int) - firstC c) = x.kind := by simp [kindAt, hxo]
      have hB2 : ¬ (l : Int) - firstC c < 0 := by omega
      have hown := ownF_s (b := b) (bg := bg) (hp := hp') (hj := hj) (m := m) hc hi
      rw [show ((((l : Int) - firstC c).toNat : Nat) : Int) = l - firstC c by omega] at hown
      have hp : portM c m.gates l = if x.kind = 1 then ⟨ownT c ((l : Int) - firstC c).toNat, [52]⟩ else if x.kind = 2 then ⟨ownT c ((l : Int) - firstC c).toNat, [50]⟩ else (getG m.gates l).getD noPin := by
        unfold portM
        rw [if_neg hA, if_neg hB, hk]
      rw [hp]
      simp [hA, hB2, hi, hx, hxo]
      have hsub : ∀ l, subP (fkH c b bg hp' hj m) ((4, .box b4' l) :: fkH c b bg hp' hj m) := fun l => subP.c (subP.refl _) _
      refine ⟨by omega, by omega, by omega, fun h => ?_, fun h => ⟨by omega, fun h2 => ?_, fun h2 => ?_⟩⟩
      · refine hown.c1.mono ?_
        rintro _ _ ⟨_, ⟨rfl, rfl⟩, rfl⟩
        simp [h]
        exact hsub _
      · refine hown.c1.mono ?_
        rintro _ _ ⟨_, ⟨rfl, rfl⟩, rfl⟩
        simp [h, h2]
        exact hsub _
      · rw [if_neg h, if_neg h2]
        have hg := get_gate l m.gates
        cases hgg : getG m.gates l with
        | none =>
          rw [hgg] at hg
          simp at hg
          simp [hg]
          exact hsub _
        | some q =>
          rw [hgg] at hg
          simp at hg
          simp [hg]
          exact hsub _
end Go.Proofs.YtdnkpogfcpjkpaaGreatDoor
end

section
namespace Go.Proofs.YtdnkpogfcpjkpaaGreatDoor
set_option maxHeartbeats 8000000
set_option maxRecDepth 10000
theorem V.cutIN {C : Cfg} (k : Nat) {c : Code} {E : Env} {H Hs : Heap} {Q : PostQ} (kv : List (Nat × A)) (hE : ∀ p ∈ kv, ∀ x v, D x (E p.1) v → D x p.2 v) (hi : ∀ x H0, Inv x (H ++ H0) → Inv x (Hs ++ H0)) (h : vcN C k c (hdE kv []) Hs Q) : V C c E H Q := by
  intro hf x act H0 ms hinv he
  refine vcN_ok k c _ _ _ hf h x act H0 ms (hi x _ hinv) ⟨he.defers, he.size, ?_⟩
  refine sets_D [] _ (by simp) (sets_D kv _ (fun p hp => hE p hp x _ (he.slot p.1)) fun t => ?_)
  simp [anyE, D]
def manyM (m : Mk) : Bool := decide (64 < m.parts.length) || decide (256 < m.joins.length)
theorem circuit_s {c : Control} {b bg : Nat} {hp hj : Value} {m : Mk} (hs : m.parts.Pairwise (fun a b => byName b a = false)) (hl : m.parts.length ≤ 1000000) (hl2 : m.joins.length ≤ 1000000) :
    CallS Tryz.prog 29 [.ptr 170 b 0] (fkH c b bg hp hj m) fun r H' => (manyM m = true ∧ r = .tuple [.record [.sl [], .sl []], aI 5] ∧ H' = fkH c b bg hp hj m) ∨
      (manyM m = false ∧ ∃ g1 g2, r = .tuple [.agg [.own 60 g1, .own 61 g2], aI 0] ∧ H' = outH c b bg hp hj m g1 g2 m.parts (sortB earlierP (m.joins.map fun j => pipeN (portL m.parts j.1) (portL m.parts j.2)))) := by
  refine CallS.dropP (callS_cut 3 Tryz.func29 rfl Tryz.ntmps29 (rs := [.cell 2 32, .tmp 3]) rfl (by kernel_rfl) (by simp) (by kernel_rfl) (K := fun r H' => (manyM m = true ∧ r = .tuple [.record [.sl [], .sl []], aI 5] ∧ subP (fkH c b bg hp hj m) H') ∨
      (manyM m = false ∧ ∃ g1 g2, r = .tuple [.agg [.own 60 g1, .own 61 g2], aI 0] ∧ subP (outH c b bg hp hj m g1 g2 m.parts (sortB earlierP (m.joins.map fun j => pipeN (portL m.parts j.1) (portL m.parts j.2)))) H')) ?_) ?_
  · simp
    intro b2
    refine ⟨fun h => ⟨?_, subP.c (subP.refl _) _⟩, fun h1 h2 b4 => ?_⟩
    · unfold manyM
      rw [Bool.or_eq_true, decide_eq_true_eq, decide_eq_true_eq]
      omega
    · refine V.cutIN 1 (Hs := ciH c b bg hp hj m b2 b4 (.slice none 0 0) (.slice none 0 0) [] []) [(0, .ptr 170 b 0), (2, .ptr 2 b2 0), (3, aI 0), (4, .ptr 4 b4 0)] ?_ ?_ ?_
      · simp [D]
      · intro x H0 hi
        have k1 := Inv.swap (g := 4) (e := .box b4 [.nils, .nils]) (e' := .box b4 [.own 60 (.slice none 0 0), .own 61 (.slice none 0 0)]) rfl (box_sat (Ds_c D_nilo (Ds_c D_nilo Ds_i))) (fun _ h => h) hi
        simp only [hset, if_true] at k1
        exact Inv.nil (t := 61) (e := .seq (.slice none 0 0) 95 4 []) (Inv.nil (t := 60) (e := .seq (.slice none 0 0) 65 3 []) k1 ⟨rfl, rfl⟩) ⟨rfl, rfl⟩
      · refine vcN_of_rest rfl (cir_a hs hl hl2 fun g1 g2 H' h => .inr ⟨?_, g1, g2, rfl, h⟩)
        unfold manyM
        rw [Bool.or_eq_false_iff, decide_eq_false_iff_not, decide_eq_false_iff_not]
        omega
  · rintro r H' (⟨h, rfl, h2⟩ | ⟨h, g1, g2, rfl, h2⟩)
    · exact ⟨_, h2, .inl ⟨h, rfl, rfl⟩⟩
    · exact ⟨_, h2, .inr ⟨h, g1, g2, rfl, rfl⟩⟩
end Go.Proofs.YtdnkpogfcpjkpaaGreatDoor
end
