/- Texts joined by a program: Sq, Sj, Sx, Si. -/
import Derived.Shelf.Strings.Builder1
import Derived.Test.YtakndgpdolfenaaGreatProg
import Derived.KernelRfl
import Derived.Shelf.SlSortCmp.WholeK
import Derived.Shelf.SlSortCmp.NoneTotal
import Derived.Test.YtakndgpdolfenaaGreatGX
import Derived.Test.YtakndgpdolfenaaGreatG3
set_option linter.unusedSimpArgs false
set_option linter.unusedVariables false

/- Contracts out of the kit's shelf: strings.Builder, on memory of one's own. -/
section
namespace Go.Proofs.YtakndgpdolfenaaGreat
variable {P : Program} {ρ : Go.Shelf.Ren}

/-- A variable that is made and known as it lies. -/
theorem V.allocRaw {n id : Nat} {o : Oper} {t : TypeId} {d : Nat} (ho : o.op = .alloc t) (hd : o.dst = some d) (hg : o.guard = none) {z : Value} (hiz : ((P.info? t).bind (·.zero)) = some z) {E : Env} {H : Heap} {Q : PostQ}
    (h : ∀ b, Q .normal (put E (some d) (.ptr d b 0)) ((d, .raw b (.cells z.cells t (0, 0))) :: H)) : V ⟨P, none, n⟩ (.region id #[o] false) E H Q := by
  obtain ⟨i, hi, hz⟩ := Option.bind_eq_some_iff.1 hiz
  intro hf x act H0 ms hI he
  have hfo : fits n o.dst := fitsOps_ok (n := n) (ops := [o]) (by simpa [fitsC] using hf) o (by simp)
  have hw : Region.wanted o (yielded #[o] act.tmps) = true := by simp [Region.wanted, hg]
  refine wpIn_wide.2 (wp_region ?_)
  show wpOps P #[o] _ (List.range 1) act x.w
  rw [show List.range 1 = [0] from rfl]
  rw [wpOps_cons]
  unfold wpOp
  simp only [List.getElem?_toArray, List.getElem?_cons_zero]
  rw [if_pos hw]
  left
  show o.upon P act _ _ _
  have hrun : (execOp act.eval o).run P x.w = .ok (.value (.pointer (some ⟨x.w.heap.size, 0, none⟩))) (x.mk' (.cells z.cells t (0, 0))).w := by
    obtain ⟨dst, op, type, pos, after, guard⟩ := o
    simp only at ho
    subst ho
    simp [execOp, Instr.alloc, zeroValue, run_typeInfo _ hi, hz, newVar, newRow, X.mk']
  rw [hrun]
  have h1 := hI.new d (o := .cells z.cells t (0, 0)) (e := .raw x.w.heap.size (.cells z.cells t (0, 0))) (fun b hb => hb) (heap_alloc_new _ _)
  have hle := X.mk'_le x (.cells z.cells t (0, 0)) hI.bd
  refine ⟨_, _, _, ms, rfl, hle, ?_, ?_, h x.w.heap.size⟩
  · simpa using h1
  · rw [hd]
    exact (he.mono hle).put (by rw [hd] at hfo; exact hfo) (by simp [D])
theorem setCell_put {w : World} {b o : Nat} {c : Array Value} {T : TypeId} {fr : Nat × Nat} (h : w.heap[b]? = some (.cells c T fr)) (v : Value) : w.setCell ⟨b, o, none⟩ v = w.putObj b (.cells (c.setIfInBounds o v) T fr) := by
  unfold World.setCell World.putObj
  congr 1
  apply Array.ext_getElem?
  intro k
  rw [Array.getElem?_modify, Array.getElem?_setIfInBounds]
  by_cases hk : b = k
  · subst hk
    have hlt := (Array.getElem?_eq_some_iff.1 h).1
    have h2 := (Array.getElem?_eq_some_iff.1 h).2
    simp [hlt, h2]
  · simp [hk]
theorem Ds_ptr {x : X} {t b : Nat} {args : Array Value} (hd : Ds x [.ptr t b 0] args.toList) : args = #[.pointer (some ⟨b, 0, none⟩)] := by
  rcases args with ⟨l⟩
  rcases l with _ | ⟨a, _ | ⟨b, l⟩⟩ <;> simp [Ds, D] at hd
  rw [hd]
/-- copyCheck of a builder that is new. -/
theorem ccNew_s (L : Go.Proofs.Lays.n240 P ρ) (B : Go.Proofs.Builder.X72 P ρ) (hc : Callable P (ρ.f 240)) {t b : Nat} :
    CallS P (ρ.f 240) [.ptr t b 0] [(t, .raw b (.cells #[.pointer none, .slice none 0 0] (ρ.t 72) (0, 0)))] fun r H' => r = .tuple [] ∧ H' = [(t, .box b [.ptr t b 0, .nils])] := by
  refine ⟨hc, fun x args H0 hi hd => ?_⟩
  obtain rfl := Ds_ptr hd
  have hb : x.w.heap[b]? = some (.cells #[.pointer none, .slice none 0 0] (ρ.t 72) (0, 0)) := hi.sat (t, .raw b _) (by simp)
  refine (Any.Builder_copyCheck_fresh L B b x.w (by rw [Lib.cell_of_heap hb]; rfl) (by simp [World.shape?, hb]) (Lib.frozen_of_heap hb 0)).mono ?_
  rintro _ _ ⟨rfl, rfl⟩
  have hi' : Inv x ((t, .raw b (.cells #[.pointer none, .slice none 0 0] (ρ.t 72) (0, 0))) :: H0) := by simpa using hi
  have e := setCell_put (o := 0) hb (.pointer (some ⟨b, 0, none⟩))
  refine ⟨x.set b _, _, .tuple [], _, rfl, e.symm, hi'.set_le rfl _, hi'.reset (e' := .box b [.ptr t b 0, .nils]) rfl _ (fun k hk => hk) ?_, unit_D _, rfl, rfl⟩
  have hlt := (Array.getElem?_eq_some_iff.1 hb).1
  exact ⟨_, (ρ.t 72), World.putObj_heap_same hlt, by simp [Ds, D]⟩
/-- copyCheck of a builder that was written. -/
theorem ccUsed_s (L : Go.Proofs.Lays.n240 P ρ) (B : Go.Proofs.Builder.X72 P ρ) (hc : Callable P (ρ.f 240)) {t b : Nat} {a : A} :
    CallS P (ρ.f 240) [.ptr t b 0] [(t, .box b [.ptr t b 0, a])] fun r H' => r = .tuple [] ∧ H' = [(t, .box b [.ptr t b 0, a])] := by
  refine ⟨hc, fun x args H0 hi hd => ?_⟩
  obtain rfl := Ds_ptr hd
  obtain ⟨c, ty, hb, hds⟩ := hi.sat (t, .box b [.ptr t b 0, a]) (by simp)
  have h0 : x.w.cell? ⟨b, 0, none⟩ = some (.pointer (some ⟨b, 0, none⟩)) := by
    rw [Lib.cell_of_heap hb, ← Array.getElem?_toList]
    obtain ⟨v, h1, h2⟩ := hds.at (i := 0) (a := .ptr t b 0) rfl
    simp only [D] at h2
    rw [h1, h2]
  refine (Any.Builder_copyCheck_used L B b x.w h0).mono ?_
  rintro _ _ ⟨rfl, rfl⟩
  exact ⟨x, _, .tuple [], _, rfl, rfl, .refl x, hi, unit_D x, rfl, rfl⟩

set_option maxHeartbeats 1000000 in
set_option maxRecDepth 100000 in
/-- String, to the world. -/
theorem string_at (L : Go.Proofs.Lays.n169 P ρ) (cb : P.cellsOf (ρ.t 5) = 1) (b g cap : Nat) (cur c : Array Value) (T : TypeId) (l : List UInt8) (w : World) (hbk : w.heap[b]? = some (.cells c T (0, 0))) (hc1 : c[1]? = some (.slice (some ⟨g, 0, none⟩) l.length cap))
    (hg : w.heap[g]? = some (.cells cur (ρ.t 5) (0, 0))) (hnc : l.length ≤ cap) (hcm : cap ≤ maxLen) (hcs : cur.size = cap * 1) (htake : cur.toList.take (l.length * 1) = Lib.byteCells l) (h0 : l ≠ []) :
    Calls P (ρ.f 169) #[.pointer (some ⟨b, 0, none⟩)] w fun e w' => e = .returned (.string ⟨l.toArray⟩) ∧ w' = w.drew.freeze ⟨g, 0, none⟩ l.length := by
  have hl0 : l.length ≠ 0 := by simpa using h0
  have c1 : w.drew.cell? ⟨b, 1, none⟩ = some (.slice (some ⟨g, 0, none⟩) l.length cap) := by
    have : w.drew.heap[b]? = some (.cells c T (0, 0)) := hbk
    rw [Lib.cell_of_heap this]; exact hc1
  have hSD : (Builtin.unsafeSliceData_ #[(ρ.t 37)] (ρ.t 127) #[.slice (some ⟨g, 0, none⟩) l.length cap]).run P w.drew = .ok (.pointer (some ⟨g, 0, none⟩)) w.drew :=
    Lib.run_unsafeSliceData_row _ _ _ _ _ _ (by omega)
  have hUS : (Builtin.unsafeString_ #[(ρ.t 127), (ρ.t 3)] (ρ.t 9) #[.pointer (some ⟨g, 0, none⟩), .int .i64 l.length]).run P w.drew = .ok (.string ⟨l.toArray⟩) (w.drew.freeze ⟨g, 0, none⟩ l.length) := by
    refine Lib.run_unsafeString_row w.drew (ρ.t 127) (ρ.t 3) (ρ.t 9) (ρ.t 5) L.t127 cb g cur.size (by have hg' : w.drew.heap[g]? = some (.cells cur (ρ.t 5) (0, 0)) := hg; simp [World.shape?, hg']) l h0 (by omega) (by unfold maxLen at hcm; omega) ?_
    intro j x hx
    have hlen : j < l.length := (List.getElem?_eq_some_iff.1 hx).1
    have hg' : w.drew.heap[g]? = some (.cells cur (ρ.t 5) (0, 0)) := hg
    have : (cur.toList.take (l.length * 1))[j]? = some (.int .u8 x.toNat) := by rw [htake]; simp [Lib.byteCells, hx]
    rw [List.getElem?_take_of_lt (by omega)] at this
    rw [add_none, Lib.cell_of_heap hg']
    simpa using this
  have mixed := L.mixed
  have t72 := L.t72; have a72 := L.a72; have z72 := L.z72; have v72 := L.v72; have u72 := run_underlying L.t72
  have t70 := L.t70; have a70 := L.a70; have z70 := L.z70; have v70 := L.v70; have u70 := run_underlying L.t70
  have t37 := L.t37; have a37 := L.a37; have z37 := L.z37; have v37 := L.v37; have u37 := run_underlying L.t37
  have t127 := L.t127; have a127 := L.a127; have z127 := L.z127; have v127 := L.v127; have u127 := run_underlying L.t127
  have t3 := L.t3; have a3 := L.a3; have z3 := L.z3; have v3 := L.v3; have u3 := run_underlying L.t3
  have t9 := L.t9; have a9 := L.a9; have z9 := L.z9; have v9 := L.v9; have u9 := run_underlying L.t9
  go_enter L.f169, Go.Proofs.Body.n169_ntmps ρ
  go_wp2
  go_region_o
  all_goals (go_wp2; go_ret; exact ⟨rfl, rfl⟩)
set_option maxHeartbeats 1000000 in
set_option maxRecDepth 100000 in
theorem string_no (L : Go.Proofs.Lays.n169 P ρ) (b : Nat) (c : Array Value) (T : TypeId) (w : World) (hbk : w.heap[b]? = some (.cells c T (0, 0))) (hc1 : c[1]? = some (.slice none 0 0)) :
    Calls P (ρ.f 169) #[.pointer (some ⟨b, 0, none⟩)] w fun e w' => e = .returned (.string ⟨#[]⟩) ∧ w' = w.drew := by
  have hUS : ∀ (W : World) (q : Option Addr), (Builtin.unsafeString_ #[(ρ.t 127), (ρ.t 3)] (ρ.t 9) #[.pointer q, .int .i64 0]).run P W = .ok (.string .empty) W := fun W q => Lib.run_unsafeString_none W _ _ _ q
  have c1 : w.drew.cell? ⟨b, 1, none⟩ = some (.slice none 0 0) := by
    have : w.drew.heap[b]? = some (.cells c T (0, 0)) := hbk
    rw [Lib.cell_of_heap this]; exact hc1
  have hSD : (Builtin.unsafeSliceData_ #[(ρ.t 37)] (ρ.t 127) #[.slice none 0 0]).run P w.drew = .ok (.pointer none) w.drew := rfl
  have mixed := L.mixed
  have t72 := L.t72; have a72 := L.a72; have z72 := L.z72; have v72 := L.v72; have u72 := run_underlying L.t72
  have t70 := L.t70; have a70 := L.a70; have z70 := L.z70; have v70 := L.v70; have u70 := run_underlying L.t70
  have t37 := L.t37; have a37 := L.a37; have z37 := L.z37; have v37 := L.v37; have u37 := run_underlying L.t37
  have t127 := L.t127; have a127 := L.a127; have z127 := L.z127; have v127 := L.v127; have u127 := run_underlying L.t127
  have t3 := L.t3; have a3 := L.a3; have z3 := L.z3; have v3 := L.v3; have u3 := run_underlying L.t3
  have t9 := L.t9; have a9 := L.a9; have z9 := L.z9; have v9 := L.v9; have u9 := run_underlying L.t9
  go_enter L.f169, Go.Proofs.Body.n169_ntmps ρ
  go_wp2
  go_region_o
  all_goals (go_wp2; go_ret; exact ⟨rfl, rfl⟩)
/-- Owned bytes. -/
abbrev rU (n : UInt8) : List A := [.dat (.int .u8 n.toNat)]
theorem rU_vals {x : X} : ∀ {l : List UInt8} {vs : List Value}, Ds x (l.map rU).flatten vs → vs = Lib.byteCells l
  | [], [], _ => rfl
  | z :: zs, v :: vs, h => by
    simp only [List.map_cons, List.flatten_cons, List.cons_append, List.nil_append, rU, Ds, D, RdL] at h
    have ih := rU_vals h.2
    simp only [Lib.byteCells, List.map_cons] at ih ⊢
    rw [h.1, ih]
  | [], _ :: _, h => by simp [Ds] at h
  | _ :: _, [], h => by simp [Ds, rU] at h
/-- String of a builder that was written. -/
theorem string_s (L : Go.Proofs.Lays.n169 P ρ) (cb : P.cellsOf (ρ.t 5) = 1) (hc : Callable P (ρ.f 169)) {t τ b : Nat} {a0 : A} {h : Value} {l : List UInt8} (h0 : l ≠ []) :
    CallS P (ρ.f 169) [.ptr t b 0] [(t, .box b [a0, .own τ h]), (τ, .seq h (ρ.t 5) 1 (l.map rU))] fun r H' => r = .dat (.str l) ∧ H' = [] := by
  refine ⟨hc, fun x args H0 hi hd => ?_⟩
  obtain rfl := Ds_ptr hd
  obtain ⟨c, ty, hb, hds⟩ := hi.sat (t, .box b [a0, .own τ h]) (by simp)
  obtain ⟨xs, ⟨h1, h2⟩, h3, h4⟩ := hi.sat (τ, .seq h (ρ.t 5) 1 (l.map rU)) (by simp)
  have hx := rU_vals h4
  subst hx
  obtain ⟨g, cap, cur, rfl, hg, hnc, hcm, hcs, htake⟩ : ∃ g cap cur, h = .slice (some ⟨g, 0, none⟩) l.length cap ∧ x.w.heap[g]? = some (.cells cur (ρ.t 5) (0, 0)) ∧ l.length ≤ cap ∧ cap ≤ maxLen ∧ cur.size = cap * 1 ∧ cur.toList.take (l.length * 1) = Lib.byteCells l := by
    rcases h2 with ⟨_, hz⟩ | ⟨g, cap, cur, rfl, _, h5, h6, h7, h8, h9⟩
    · exact absurd (by simpa using hz) h0
    · exact ⟨g, cap, cur, by simp, h5, by simpa using h6, h7, h8, by simpa using h9⟩
  have hc1 : c[1]? = some (.slice (some ⟨g, 0, none⟩) l.length cap) := by
    obtain ⟨v, k1, k2⟩ := hds.at (i := 1) (a := .own τ _) rfl
    simp only [D] at k2
    rw [← Array.getElem?_toList, k1, k2.1]
  refine (string_at L cb b g cap cur c ty l x.w hb hc1 hg hnc hcm hcs htake h0).mono ?_
  rintro _ _ ⟨rfl, rfl⟩
  have hnok : ¬ x.ok g := (hi.own (τ, .seq (.slice (some ⟨g, 0, none⟩) l.length cap) (ρ.t 5) 1 (l.map rU)) (by simp) g (by simp [Ent.own, Value.ownBlock])).2
  have hold : ∀ k, k ≠ g → (x.w.drew.freeze ⟨g, 0, none⟩ l.length).heap[k]? = x.w.heap[k]? := by
    intro k hk
    unfold World.freeze
    split
    · rfl
    · simp only [Array.getElem?_modify]
      rw [if_neg (Ne.symm hk)]
      rfl
  have hsz : (x.w.drew.freeze ⟨g, 0, none⟩ l.length).heap.size = x.w.heap.size := by
    unfold World.freeze
    split <;> simp
  have hos : (x.w.drew.freeze ⟨g, 0, none⟩ l.length).os = x.w.os ∧ (x.w.drew.freeze ⟨g, 0, none⟩ l.length).output = x.w.output ∧ (x.w.drew.freeze ⟨g, 0, none⟩ l.length).tape = x.w.tape := by
    unfold World.freeze
    split <;> exact ⟨rfl, rfl, rfl⟩
  let y : X := ⟨x.w.drew.freeze ⟨g, 0, none⟩ l.length, x.ok⟩
  have hle : x.le y := ⟨fun k hk => ⟨hk, hold k (fun ee => hnok (ee ▸ hk))⟩, hos.1, hos.2.1, hos.2.2, by show x.w.heap.size ≤ (x.w.drew.freeze ⟨g, 0, none⟩ l.length).heap.size; omega, by show x.w.drawn ≤ (x.w.drew.freeze ⟨g, 0, none⟩ l.length).drawn; unfold World.freeze; split <;> exact Nat.le_succ _⟩
  have hi0 : Inv x H0 := hi.sub (by simp)
  refine ⟨y, _, .dat (.str l), [], rfl, rfl, hle, ?_, by simp [D, RdL], rfl, rfl⟩
  refine hi0.step hle (fun b hb => by show b < (x.w.drew.freeze ⟨g, 0, none⟩ l.length).heap.size; rw [hsz]; exact hi0.bd b hb) (fun b hb => .inl hb) ?_
  intro p hp k hk
  refine hold k ?_
  rintro rfl
  have h5 : Inv x ([(t, .box b [a0, .own τ (.slice (some ⟨k, 0, none⟩) l.length cap)])] ++ ((τ, .seq (.slice (some ⟨k, 0, none⟩) l.length cap) (ρ.t 5) 1 (l.map rU)) :: H0)) := by simpa using hi
  have h6 := (List.pairwise_append.1 h5.apart).2.1
  exact (List.pairwise_cons.1 h6).1 p hp k (by simp [Ent.own, Value.ownBlock]) hk
/-- String of a builder that is new. -/
theorem stringNew_s (L : Go.Proofs.Lays.n169 P ρ) (hc : Callable P (ρ.f 169)) {t b : Nat} {T : TypeId} {p : Value} :
    CallS P (ρ.f 169) [.ptr t b 0] [(t, .raw b (.cells #[p, .slice none 0 0] T (0, 0)))] fun r H' => r = .dat (.str []) ∧ H' = [] := by
  refine ⟨hc, fun x args H0 hi hd => ?_⟩
  obtain rfl := Ds_ptr hd
  have hb : x.w.heap[b]? = some (.cells #[p, .slice none 0 0] T (0, 0)) := hi.sat (t, .raw b _) (by simp)
  refine (string_no L b _ T x.w hb rfl).mono ?_
  rintro _ _ ⟨rfl, rfl⟩
  have hi0 : Inv x H0 := hi.sub (by simp)
  exact ⟨x.drew, _, .dat (.str []), [], rfl, rfl, (X.drew_grow x).le, hi0.grow (X.drew_grow x), by simp [D, RdL], rfl, rfl⟩
end Go.Proofs.YtakndgpdolfenaaGreat
end

/- Contracts of the kit's shelf at this program: the tables of numbers. Written by a program (wip/gen_shelf2.py). -/
section
namespace Go.Proofs.YtakndgpdolfenaaGreat
set_option maxRecDepth 100000
set_option maxHeartbeats 4000000
def strRen : Go.Shelf.Ren := ⟨fun | 169 => 159 | n => n, fun | 0 => 0 | 3 => 3 | 9 => 9 | 37 => 194 | 5 => 5 | 70 => 193 | 72 => 196 | 127 => 228 | n => n, fun n => n⟩
theorem strLays : Go.Proofs.Lays.n169 Tryz.prog strRen := {
  mixed := by kernel_rfl,
  f169 := by kernel_rfl,
  t0 := Tryz.underlying0,
  a0 := Tryz.isAgg0,
  z0 := Tryz.sizeOf0,
  v0 := Tryz.zeroValue0,
  t3 := Tryz.underlying3,
  a3 := Tryz.isAgg3,
  z3 := Tryz.sizeOf3,
  v3 := Tryz.zeroValue3,
  t9 := Tryz.underlying9,
  a9 := Tryz.isAgg9,
  z9 := Tryz.sizeOf9,
  v9 := Tryz.zeroValue9,
  t37 := Tryz.underlying194,
  a37 := Tryz.isAgg194,
  z37 := Tryz.sizeOf194,
  v37 := Tryz.zeroValue194,
  t70 := Tryz.underlying193,
  a70 := Tryz.isAgg193,
  z70 := Tryz.sizeOf193,
  v70 := Tryz.zeroValue193,
  t72 := Tryz.underlying196,
  a72 := Tryz.isAgg196,
  z72 := Tryz.sizeOf196,
  v72 := Tryz.zeroValue196,
  t127 := Tryz.underlying228,
  a127 := Tryz.isAgg228,
  z127 := Tryz.sizeOf228,
  v127 := Tryz.zeroValue228 }
def ccRen : Go.Shelf.Ren := ⟨fun | 240 => 193 | 276 => 206 | n => n, fun | 0 => 0 | 4 => 4 | 9 => 9 | 20 => 20 | 70 => 193 | 72 => 196 | 37 => 194 | 164 => 239 | n => n, fun n => n⟩
theorem ccLays : Go.Proofs.Lays.n240 Tryz.prog ccRen := {
  mixed := by kernel_rfl,
  f240 := by kernel_rfl,
  f276 := by kernel_rfl,
  t0 := Tryz.underlying0,
  a0 := Tryz.isAgg0,
  z0 := Tryz.sizeOf0,
  v0 := Tryz.zeroValue0,
  t4 := Tryz.underlying4,
  a4 := Tryz.isAgg4,
  z4 := Tryz.sizeOf4,
  v4 := Tryz.zeroValue4,
  t9 := Tryz.underlying9,
  a9 := Tryz.isAgg9,
  z9 := Tryz.sizeOf9,
  v9 := Tryz.zeroValue9,
  t20 := Tryz.underlying20,
  a20 := Tryz.isAgg20,
  z20 := Tryz.sizeOf20,
  v20 := Tryz.zeroValue20,
  t70 := Tryz.underlying193,
  a70 := Tryz.isAgg193,
  z70 := Tryz.sizeOf193,
  v70 := Tryz.zeroValue193,
  t72 := Tryz.underlying196,
  a72 := Tryz.isAgg196,
  z72 := Tryz.sizeOf196,
  v72 := Tryz.zeroValue196,
  t164 := Tryz.underlying239,
  a164 := Tryz.isAgg239,
  z164 := Tryz.sizeOf239,
  v164 := Tryz.zeroValue239 }
theorem bldX : Go.Proofs.Builder.X72 Tryz.prog ccRen := {
  sizeBuilder := by kernel_rfl,
  liesBuilder := by kernel_rfl }
end Go.Proofs.YtakndgpdolfenaaGreat
end

/- Contracts out of the kit's shelf: slices.SortFunc on owned rows of data, by a function that only reads. -/
section
namespace Go.Proofs.YtakndgpdolfenaaGreat
open Go.Sort
variable {P : Program} {ρ : Go.Shelf.Ren}

/-- All that is not immutable, as it lies. -/
noncomputable def restR (x : X) : Heap := by
  classical
  exact ((List.range x.w.heap.size).filter fun b => decide (¬ x.ok b)).map fun b => (0, .raw b ((x.w.heap[b]?).getD (.deferred none)))
theorem restR_mem {x : X} {b : Nat} (h : b < x.w.heap.size) (hn : ¬ x.ok b) : ((0, .raw b ((x.w.heap[b]?).getD (.deferred none))) : Nat × Ent) ∈ restR x := by
  classical
  unfold restR
  refine List.mem_map.2 ⟨b, List.mem_filter.2 ⟨List.mem_range.2 h, by simpa using hn⟩, rfl⟩
theorem restR_inv {x : X} (hb : ∀ b, x.ok b → b < x.w.heap.size) : Inv x (restR x) := by
  classical
  have hm : ∀ p ∈ restR x, ∃ b, b < x.w.heap.size ∧ ¬ x.ok b ∧ p = (0, .raw b ((x.w.heap[b]?).getD (.deferred none))) := by
    intro p hp
    unfold restR at hp
    obtain ⟨b, h1, rfl⟩ := List.mem_map.1 hp
    obtain ⟨h2, h3⟩ := List.mem_filter.1 h1
    exact ⟨b, List.mem_range.1 h2, by simpa using h3, rfl⟩
  refine ⟨hb, ?_, ?_, ?_⟩
  · intro p hp
    obtain ⟨b, h1, h2, rfl⟩ := hm p hp
    show x.w.heap[b]? = some _
    rw [Array.getElem?_eq_getElem h1]
    rfl
  · intro p hp k hk
    obtain ⟨b, h1, h2, rfl⟩ := hm p hp
    have : k = b := hk
    subst this
    exact ⟨h1, h2⟩
  · unfold restR
    rw [List.pairwise_map]
    refine List.Pairwise.imp ?_ ((List.nodup_range (n := x.w.heap.size)).sublist List.filter_sublist)
    intro a b hab k h1 h2
    have e1 : k = a := h1
    have e2 : k = b := h2
    exact hab (e1.symm.trans e2)
/-- What a call that only reads leaves: the world, grown and drawn. -/
theorem CallFn.quiet {g : FuncId} {az : List A} {r : A} (h : CallFn P g az r) {x : X} (hb : ∀ b, x.ok b → b < x.w.heap.size) {args : Array Value} (hd : Ds x az args.toList) :
    Calls P g args x.w fun e w' => ∃ v q os, e = .returned v ∧ w' = grow (x.w.drewN q) os ∧ ∃ y : X, y.w = w' ∧ D y r v := by
  have hi : Inv x ([] ++ restR x) := restR_inv hb
  refine (h.2 x args (restR x) hi hd).mono ?_
  rintro e _ ⟨y, v, r', H', rfl, rfl, hle, hiy, hv, rfl, rfl⟩
  refine ⟨v, y.w.drawn - x.w.drawn, y.w.heap.extract x.w.heap.size y.w.heap.size, rfl, ?_, y, rfl, hv⟩
  have hheap : y.w.heap = x.w.heap ++ y.w.heap.extract x.w.heap.size y.w.heap.size := by
    apply Array.ext_getElem?
    intro k
    by_cases hk : k < x.w.heap.size
    · rw [Array.getElem?_append_left hk]
      by_cases ho : x.ok k
      · exact (hle.keep k ho).2
      · have h1 : y.w.heap[k]? = some ((x.w.heap[k]?).getD (.deferred none)) := hiy.sat _ (List.mem_append.2 (.inr (restR_mem hk ho)))
        rw [h1, Array.getElem?_eq_getElem hk]
        rfl
    · rw [Array.getElem?_append_right (by omega), Array.getElem?_extract]
      have hs := hle.size
      by_cases hk2 : k < y.w.heap.size
      · rw [if_pos (by omega)]
        congr 1
        omega
      · rw [if_neg (by omega), Array.getElem?_eq_none (by omega)]
  have hdr := hle.drawn
  have h1 := hle.os
  have h2 := hle.output
  have h3 := hle.tape
  cases hy : y.w with
  | mk heap tape drawn os output =>
    rw [hy] at hheap h1 h2 h3 hdr
    dsimp only at hheap h1 h2 h3 hdr
    unfold grow World.drewN
    dsimp only
    rw [← hheap, h1, h2, h3]
    congr 1
    omega
theorem putRowId_block {w : World} {g n : Nat} {cur : Array Value} {e : TypeId} (h5 : w.heap[g]? = some (.cells cur e (0, 0))) (F : Array Value) (os : Array Obj) :
    (grow (putRow id (Sort.ahead w n) g 0 F) os).heap[g]? = some (.cells (putCells id 0 F cur) e (0, 0)) ∧ ∀ k, k < w.heap.size → k ≠ g → (grow (putRow id (Sort.ahead w n) g 0 F) os).heap[k]? = w.heap[k]? := by
  have hlt := (Array.getElem?_eq_some_iff.1 h5).1
  have hsz : (putRow id (Sort.ahead w n) g 0 F).heap.size = w.heap.size := by simp [putRow, mapBlock, Sort.ahead]
  have hgr : ∀ k, k < w.heap.size → (grow (putRow id (Sort.ahead w n) g 0 F) os).heap[k]? = (putRow id (Sort.ahead w n) g 0 F).heap[k]? := by
    intro k hk
    simp only [grow]
    rw [Array.getElem?_append_left (by rw [hsz]; exact hk)]
  constructor
  · rw [hgr g hlt]
    simp [putRow, mapBlock, Sort.ahead, Array.getElem?_modify, h5, onCells]
  · intro k hk hne
    rw [hgr k hk]
    simp [putRow, mapBlock, Sort.ahead, Array.getElem?_modify, Ne.symm hne]
theorem putId_take (F cur : Array Value) (hF : F.size ≤ cur.size) : (putCells id 0 F cur).toList.take F.size = F.toList := by
  apply List.ext_getElem?
  intro k
  rw [List.getElem?_take]
  split
  · rename_i hk
    have h1 : k < cur.size := by omega
    simp [putCells, h1, hk]
  · rename_i hk
    rw [List.getElem?_eq_none (by simpa using hk)]
/-- The cells of rows of data, one row after the other. -/
theorem chunk_rd {x : X} {β : Type} {encL : β → List L} {k : Nat} (hkl : ∀ b, (encL b).length = k) : ∀ {rows : List β} {vs : List Value}, Ds x (rows.map fun b => (encL b).map A.dat).flatten vs → ∀ {j : Nat} {b : β}, rows[j]? = some b → RdLs x (encL b) ((vs.drop (j * k)).take k)
  | [], _, _, j, b, h => by simp at h
  | r :: rows, vs, h, 0, b, hj => by
    simp only [List.getElem?_cons_zero, Option.some.injEq] at hj
    subst hj
    simp only [List.map_cons, List.flatten_cons] at h
    have h1 := (Ds_app h).1
    rw [List.length_map, hkl] at h1
    simpa using Ds_ls h1
  | r :: rows, vs, h, j + 1, b, hj => by
    simp only [List.getElem?_cons_succ] at hj
    simp only [List.map_cons, List.flatten_cons] at h
    have h1 := (Ds_app h).2
    rw [List.length_map, hkl] at h1
    have h2 := chunk_rd hkl h1 hj
    rw [List.drop_drop] at h2
    rwa [show (j + 1) * k = k + j * k by rw [Nat.add_mul, Nat.one_mul, Nat.add_comm]]
theorem rd_chunks {x : X} {β : Type} {encL : β → List L} : ∀ {l : List (β × List Value)}, (∀ p ∈ l, RdLs x (encL p.1) p.2) → Ds x ((l.map (·.1)).map fun b => (encL b).map A.dat).flatten (l.map (·.2)).flatten
  | [], _ => by simp [Ds]
  | p :: l, h => by
    simp only [List.map_cons, List.flatten_cons]
    exact (rdLs_Ds' (h p (by simp))).append (rd_chunks fun q hq => h q (by simp [hq]))
theorem flatK_list {α : Type} [Inhabited α] (enc : α → List Value) (k : Nat) (hk : ∀ a, (enc a).length = k) (d : Array α) : (flatK enc k d).toList = (d.toList.map enc).flatten := by
  rcases Nat.eq_zero_or_pos k with h0 | hpos
  · subst h0
    have e1 : (d.toList.map enc).flatten = [] := by
      rw [List.flatten_eq_nil_iff]
      intro l hl
      obtain ⟨a, _, rfl⟩ := List.mem_map.1 hl
      exact List.eq_nil_of_length_eq_zero (hk a)
    rw [e1]
    apply List.eq_nil_of_length_eq_zero
    simp [flatK]
  apply List.ext_getElem?
  intro t
  have hlen : (d.toList.map enc).flatten.length = d.size * k := by
    have : ∀ l : List α, (l.map enc).flatten.length = l.length * k := by
      intro l
      induction l with
      | nil => simp
      | cons a l ih => simp only [List.map_cons, List.flatten_cons, List.length_append, hk, ih, List.length_cons, Nat.add_mul]; omega
    rw [this, Array.length_toList]
  by_cases ht : t < d.size * k
  · have hq : t / k < d.size := (Nat.div_lt_iff_lt_mul hpos).2 ht
    have hr : t % k < k := Nat.mod_lt _ hpos
    have e1 : (flatK enc k d).toList[t]? = some ((enc d[t / k]!)[t % k]!) := by
      rw [List.getElem?_eq_getElem (by simpa using ht)]
      simp [flatK]
    have e2 : ∀ (l : List α) (t : Nat), t < l.length * k → ((l.map enc).flatten)[t]? = (l[t / k]?).bind fun a => (enc a)[t % k]? := by
      intro l
      induction l with
      | nil => intro t h; simp at h
      | cons a l ih =>
        intro t h
        simp only [List.map_cons, List.flatten_cons]
        by_cases h1 : t < k
        · rw [List.getElem?_append_left (by rw [hk]; exact h1), Nat.div_eq_of_lt h1, Nat.mod_eq_of_lt h1]
          rfl
        · rw [List.getElem?_append_right (by rw [hk]; omega), hk]
          have h2 : t - k < l.length * k := by
            simp only [List.length_cons, Nat.add_mul, Nat.one_mul] at h
            omega
          rw [ih (t - k) h2]
          have h3 : t / k = (t - k) / k + 1 := by
            rw [Nat.div_eq_sub_div hpos (by omega)]
          have h4 : t % k = (t - k) % k := (Nat.mod_eq_sub_mod (by omega))
          rw [h3, h4]
          rfl
    rw [e1, e2 d.toList t (by rw [Array.length_toList]; exact ht)]
    have e3 : d.toList[t / k]? = some d[t / k] := by simp [hq]
    rw [e3]
    simp only [Option.bind_some]
    have hl : t % k < (enc d[t / k]).length := by rw [hk]; exact hr
    rw [List.getElem?_eq_getElem hl]
    simp [hq, hl]
  · rw [List.getElem?_eq_none (by simp; omega), List.getElem?_eq_none (by rw [hlen]; omega)]
/-- A function that orders: what a sort asks of it. -/
structure OrdOK {β : Type} (good : β → Prop) (cmp : β → β → Int) : Prop where
  irrefl : ∀ x, good x → ¬ cmp x x < 0
  trans : ∀ x y z, good x → good y → good z → cmp x y < 0 → cmp y z < 0 → cmp x z < 0
  ntrans : ∀ x y z, good x → good y → good z → ¬ cmp x y < 0 → ¬ cmp y z < 0 → ¬ cmp x z < 0
theorem Ds_two {x : X} {t : Nat} {h : Value} {g : FuncId} {args : Array Value} (hd : Ds x [.own t h, .fn g [] []] args.toList) : args = #[h, .func (.func g) #[] #[]] := by
  have hl := hd.length
  obtain ⟨a, b, rfl⟩ : ∃ a b, args = #[a, b] := by
    rcases args with ⟨l⟩
    match l, hl with
    | [a, b], _ => exact ⟨a, b, rfl⟩
  simp only [Ds, D] at hd
  obtain ⟨⟨rfl, _⟩, ⟨fs, cs, rfl, h1, h2⟩, _⟩ := hd
  have e1 : fs = #[] := by
    have := h1.length
    exact Array.eq_empty_of_size_eq_zero (by simpa using this)
  have e2 : cs = #[] := by
    have := h2.length
    exact Array.eq_empty_of_size_eq_zero (by simpa using this)
  rw [e1, e2]
theorem sortF_s (Ly : SlLaysF0.n6 P ρ) (k : Nat) (aE : ∀ w, (isAgg (ρ.t 24)).run P w = .ok true w) (zE : ∀ w, (Go.sizeOf (ρ.t 24)).run P w = .ok k w) (hc : Callable P (ρ.f 6)) {g : FuncId} (hg : Callable P g) {β : Type} (encL : β → List L) (hkl : ∀ b, (encL b).length = k)
    (good : β → Prop) (cmp : β → β → Int) (hcmp : ∀ a b, good a → good b → CallFn P g [.record (encL a), .record (encL b)] (.dat (.int .i64 (cmp a b)))) (hO : OrdOK good cmp) (rows : List β) (hgood : ∀ b ∈ rows, good b) (hz : rows.length < 4611686018427387904) {t e : Nat} {h : Value} :
    CallS P (ρ.f 6) [.own t h, .fn g [] []] [(t, .seq h e k (rows.map fun b => (encL b).map A.dat))] fun r H' => r = .tuple [] ∧ ∃ rows' : List β, rows'.Perm rows ∧ rows'.Pairwise (fun a b => ¬ cmp b a < 0) ∧ H' = [(t, .seq h e k (rows'.map fun b => (encL b).map A.dat))] := by
  classical
  refine ⟨hc, fun x args H0 hi hd => ?_⟩
  obtain rfl := Ds_two hd
  have hs := hi.sat (t, .seq h e k (rows.map fun b => (encL b).map A.dat)) (by simp)
  obtain ⟨xs, ⟨hx1, hx2⟩, hrl, hxs⟩ := hs
  rw [List.length_map] at hx1 hx2
  by_cases h00 : rows = []
  · subst h00
    obtain ⟨p, cap, rfl⟩ : ∃ p cap, h = .slice p 0 cap := by
      rcases hx2 with ⟨rfl, _⟩ | ⟨g', cap, cur, rfl, _⟩
      · exact ⟨_, _, rfl⟩
      · exact ⟨_, _, rfl⟩
    refine (AnyF.slices_SortFunc_none Ly p cap _ x.w).mono ?_
    rintro _ _ ⟨rfl, rfl⟩
    exact ⟨x, _, .tuple [], _, rfl, rfl, .refl x, hi, unit_D x, rfl, [], List.Perm.refl _, List.Pairwise.nil, rfl⟩
  · have hpos : 0 < rows.length := List.length_pos_iff.2 h00
    obtain ⟨b0, hb0⟩ : ∃ b0, rows[0]? = some b0 := ⟨_, List.getElem?_eq_getElem hpos⟩
    obtain ⟨blk, cap, cur, rfl, h5, h6, h7, h8, h9⟩ : ∃ blk cap cur, h = .slice (some ⟨blk, 0, none⟩) rows.length cap ∧ x.w.heap[blk]? = some (.cells cur e (0, 0)) ∧ rows.length ≤ cap ∧ cap ≤ maxLen ∧ cur.size = cap * k ∧ cur.toList.take (rows.length * k) = xs := by
      rcases hx2 with ⟨_, h0⟩ | ⟨g', cap, cur, rfl, _, a1, a2, a3, a4, a5⟩
      · omega
      · exact ⟨g', cap, cur, rfl, a1, a2, a3, a4, a5⟩
    have hchunk := fun {j : Nat} {b : β} (hj : rows[j]? = some b) => chunk_rd (x := x) hkl hxs hj
    let α := { p : β × List Value // good p.1 ∧ RdLs x (encL p.1) p.2 }
    let a0 : α := ⟨(b0, (xs.drop (0 * k)).take k), hgood b0 (List.mem_of_getElem? hb0), hchunk hb0⟩
    letI : Inhabited α := ⟨a0⟩
    let enc : α → List Value := fun a => a.1.2
    have hk : ∀ a : α, (enc a).length = k := fun a => by rw [show enc a = a.1.2 from rfl, a.2.2.length, hkl]
    have h1 : ∀ a : α, ∀ v ∈ enc a, v.oneCell' = true := fun a => ones_ok (x := x) (az := (encL a.1.1).map A.dat) (by simp [one1]) (rdLs_Ds' a.2.2)
    let dl : List α := (List.range rows.length).attach.map fun j => ⟨(rows[j.1]'(List.mem_range.1 j.2), (xs.drop (j.1 * k)).take k), hgood _ (List.getElem_mem _), hchunk (List.getElem?_eq_getElem (List.mem_range.1 j.2))⟩
    have hdl : dl.length = rows.length := by simp [dl]
    have hd1 : dl.map (·.1.1) = rows := by
      apply List.ext_getElem
      · simp [hdl]
      · intro j a1 a2
        simp [dl]
    have hd2 : (dl.map enc).flatten = xs := by
      have e1 : dl.map enc = (List.range rows.length).map fun j => (xs.drop (j * k)).take k := by
        apply List.ext_getElem
        · simp [hdl]
        · intro j a1 a2
          simp [dl, enc]
      rw [e1]
      have : ∀ n, n * k ≤ xs.length → ((List.range n).map fun j => (xs.drop (j * k)).take k).flatten = xs.take (n * k) := by
        intro n
        induction n with
        | zero => intro _; simp
        | succ n ih =>
          intro hn
          rw [List.range_succ, List.map_append, List.flatten_append, ih (by rw [Nat.add_mul] at hn; omega)]
          simp only [List.map_cons, List.map_nil, List.flatten_cons, List.flatten_nil, List.append_nil]
          rw [Nat.add_mul, Nat.one_mul, List.take_add]
      rw [this _ (by omega), List.take_of_length_le (by omega)]
    let d : Array α := dl.toArray
    have hds : d.size = rows.length := by simp [d, hdl]
    have hflat : (flatK enc k d).toList = xs := by rw [flatK_list enc k hk]; exact hd2
    have hblk : blk < x.w.heap.size := (Array.getElem?_eq_some_iff.1 h5).1
    have hnok : ¬ x.ok blk := (hi.own (t, .seq (.slice (some ⟨blk, 0, none⟩) rows.length cap) e k (rows.map fun b => (encL b).map A.dat)) (by simp) blk (by simp [Ent.own, Value.ownBlock])).2
    have hH : HoldsK enc k x.w blk 0 d := by
      intro j hj
      have hj' : j < xs.length := by
        rw [← hflat, Array.length_toList]
        exact hj
      have e1 : (flatK enc k d)[j]! = xs[j] := by
        have : (flatK enc k d).toList[j]? = some xs[j] := by rw [hflat]; exact List.getElem?_eq_getElem hj'
        rw [Array.getElem?_toList] at this
        obtain ⟨q1, q2⟩ := Array.getElem?_eq_some_iff.1 this
        rw [getElem!_pos _ j q1]
        exact q2
      rw [e1]
      have hc : cur[j]? = some xs[j] := by
        have : (cur.toList.take (rows.length * k))[j]? = some xs[j] := by rw [h9]; exact List.getElem?_eq_getElem hj'
        rw [List.getElem?_take] at this
        split at this
        · simpa using this
        · cases this
      refine ⟨?_, by simp [World.frozen?, h5]⟩
      simp [World.cell?, h5, hc]
    let cf : α → α → Int := fun a b => cmp a.1.1 b.1.1
    have hSWO : SWO (ltOf cf) := by
      refine ⟨fun a => ?_, fun a b c h1 h2 => ?_, fun a b c h1 h2 => ?_⟩
      · unfold ltOf
        simpa using hO.irrefl _ a.2.1
      · exact decide_eq_true (hO.trans _ _ _ a.2.1 b.2.1 c.2.1 (of_decide_eq_true h1) (of_decide_eq_true h2))
      · exact decide_eq_false (hO.ntrans _ _ _ a.2.1 b.2.1 c.2.1 (of_decide_eq_false h1) (of_decide_eq_false h2))
    have hworld : ∀ (m : Nat) (os : Array Obj) (dk : Array α), ∃ y : X, y.w = sortWorldK enc k x.w blk 0 m dk os ∧ x.le y ∧ y.ok = x.ok := by
      intro m os dk
      obtain ⟨b1, b2⟩ := putRowId_block (n := m) h5 (flatK enc k dk) os
      refine ⟨⟨sortWorldK enc k x.w blk 0 m dk os, x.ok⟩, rfl, ⟨fun b hb => ⟨hb, b2 b (hi.bd b hb) fun ee => hnok (ee ▸ hb)⟩, rfl, rfl, rfl, ?_, ?_⟩, rfl⟩
      · show x.w.heap.size ≤ (grow (putRow id (Sort.ahead x.w m) blk 0 (flatK enc k dk)) os).heap.size
        simp [grow, putRow, mapBlock, Sort.ahead]
      · show x.w.drawn ≤ (grow (putRow id (Sort.ahead x.w m) blk 0 (flatK enc k dk)) os).drawn
        simp [grow, putRow, mapBlock, Sort.ahead]
    have hlays : CmpLays P g #[] enc k cf blk 0 d.size x.w := by
      intro m os dk _ a b
      obtain ⟨y, hyw, hyle, hyok⟩ := hworld m os dk
      have hbd : ∀ b, y.ok b → b < y.w.heap.size := fun b hb => Nat.lt_of_lt_of_le (hi.bd b (by rw [← hyok]; exact hb)) hyle.size
      have hq := (hcmp a.1.1 b.1.1 a.2.1 b.2.1).quiet hbd (args := #[.agg (enc a).toArray, .agg (enc b).toArray]) (by
        refine ⟨?_, ?_, trivial⟩
        · simp only [D]
          exact ⟨_, rfl, by simpa using a.2.2.mono hyle⟩
        · simp only [D]
          exact ⟨_, rfl, by simpa using b.2.2.mono hyle⟩)
      rw [hyw] at hq
      refine hq.mono ?_
      rintro e' w' ⟨v, q, os', rfl, rfl, z, _, hv⟩
      simp only [D, RdL] at hv
      subst hv
      exact ⟨rfl, q, os', rfl⟩
    have heg : ∀ args w, (callFunc g args).run P w = .ok (.enter g args) w := Calls.run hg
    have hres := AnyQ.slices_SortFunc Ly k aE zE enc hk h1 cf hSWO g #[] blk 0 cap d x.w heg hlays hH hblk (by rw [hds]; exact hz)
    rw [hds] at hres
    refine hres.mono ?_
    rintro _ _ ⟨rfl, d', n, os, ⟨hp1, hp2, hp3⟩, hsrt, rfl⟩
    have hd's : d'.size = rows.length := by rw [hp1, hds]
    have hperm : d'.toList.Perm d.toList := by
      have e1 : d'.extract 0 rows.length = d' := by rw [← hd's]; exact Array.extract_size
      have e2 : d.extract 0 rows.length = d := by rw [← hds]; exact Array.extract_size
      rwa [e1, e2] at hp3
    obtain ⟨y, hyw, hyle, hyok⟩ := hworld n os d'
    obtain ⟨b1, b2⟩ := putRowId_block (n := n) h5 (flatK enc k d') os
    have hlen' : (d'.toList.map (·.1.1)).length = rows.length := by simp [hd's]
    have hsz' : (flatK enc k d').size = rows.length * k := by rw [size_flatK, hd's]
    have hfin : x.le y ∧ Inv y ((t, .seq (.slice (some ⟨blk, 0, none⟩) rows.length cap) e k ((d'.toList.map (·.1.1)).map fun b => (encL b).map A.dat)) :: H0) := by
      have hi' : Inv x ((t, .seq (.slice (some ⟨blk, 0, none⟩) rows.length cap) e k (rows.map fun b => (encL b).map A.dat)) :: H0) := by simpa using hi
      refine hi'.ofOwn (y := y) (g' := t) (h' := .slice (some ⟨blk, 0, none⟩) rows.length cap) hyok ?_ ?_ hyle.drawn ?_
      · refine ⟨(d'.toList.map enc).flatten, ⟨?_, .inr ⟨blk, cap, _, by rw [List.length_map, hlen'], Nat.zero_le _, by rw [hyw]; exact b1, by rw [List.length_map, hlen']; exact h6, h7, by simp [putCells, h8], ?_⟩⟩, ?_, ?_⟩
        · rw [← flatK_list enc k hk, Array.length_toList, hsz', List.length_map, hlen']
        · rw [List.length_map, hlen', ← hsz', putId_take _ _ (by rw [hsz', h8]; exact Nat.mul_le_mul_right _ h6), flatK_list enc k hk]
        · intro r hr
          obtain ⟨b, _, rfl⟩ := List.mem_map.1 hr
          rw [List.length_map, hkl]
        · have := rd_chunks (x := x) (encL := encL) (l := d'.toList.map (·.1)) (fun p hp => by
            obtain ⟨a, _, rfl⟩ := List.mem_map.1 hp
            exact a.2.2)
          simp only [List.map_map] at this ⊢
          exact this.mono hyle
      · refine ⟨by rw [hyw]; rfl, by rw [hyw]; rfl, by rw [hyw]; rfl, hyle.size, ?_⟩
        intro b hb hne
        rw [hyw]
        exact b2 b hb fun ee => hne (by simp [Value.ownBlock, ee])
      · intro b hb
        simp only [Value.ownBlock, Option.some.injEq] at hb
        subst hb
        exact ⟨.inl rfl, Nat.lt_of_lt_of_le hblk hyle.size⟩
    refine ⟨y, _, .tuple [], [(t, .seq (.slice (some ⟨blk, 0, none⟩) rows.length cap) e k ((d'.toList.map (·.1.1)).map fun b => (encL b).map A.dat))], rfl, hyw, hfin.1, by simpa using hfin.2, unit_D y, rfl, d'.toList.map (·.1.1), ?_, ?_, rfl⟩
    · have := hperm.map (fun a : α => a.1.1)
      rwa [show d.toList.map (fun a : α => a.1.1) = rows by simpa [d] using hd1] at this
    · rw [List.pairwise_iff_getElem]
      intro i j hi1 hj1 hij
      have hi2 : i < d'.size := by simpa using hi1
      have hj2 : j < d'.size := by simpa using hj1
      have := hsrt i j (Nat.zero_le _) hij (by omega)
      unfold ltOf at this
      simp only [decide_eq_false_iff_not] at this
      simpa [cf, hi2, hj2] using this
end Go.Proofs.YtakndgpdolfenaaGreat
end

/- Contracts of the kit's shelf at this program: the tables of numbers. Written by a program (wip/gen_shelf2.py). -/
section
namespace Go.Proofs.YtakndgpdolfenaaGreat
set_option maxRecDepth 100000
set_option maxHeartbeats 4000000
def sfapiStateRen : Go.Shelf.Ren := ⟨fun | 6 => 102 | 14 => 127 | 15 => 128 | 20 => 160 | 21 => 161 | 22 => 162 | 23 => 163 | 24 => 164 | 25 => 165 | 26 => 166 | 27 => 167 | 28 => 168 | 29 => 169 | 46 => 194 | 47 => 195 | 48 => 196 | 49 => 197 | 50 => 198 | 57 => 207 | n => n, fun | 0 => 0 | 3 => 3 | 4 => 4 | 5 => 5 | 9 => 9 | 22 => 40 | 24 => 29 | 25 => 114 | 39 => 165 | 45 => 202 | 46 => 203 | 50 => 162 | 53 => 209 | 55 => 211 | 66 => 229 | 70 => 233 | 76 => 241 | 77 => 64 | n => n, fun n => n⟩
theorem sfapiStateLays : Go.Proofs.SlLaysF0.n6 Tryz.prog sfapiStateRen := {
  mixed := by kernel_rfl,
  f6 := ⟨ "slices.SortFunc[[]pneumatic/api.State,pneumatic/api.State]", by kernel_rfl, by kernel_rfl⟩,
  f14 := ⟨ "slices.pdqsortCmpFunc[pneumatic/api.State]", by kernel_rfl, by kernel_rfl⟩,
  f15 := by kernel_rfl,
  f20 := ⟨ "slices.insertionSortCmpFunc[pneumatic/api.State]", by kernel_rfl, by kernel_rfl⟩,
  f21 := ⟨ "slices.heapSortCmpFunc[pneumatic/api.State]", by kernel_rfl, by kernel_rfl⟩,
  f22 := ⟨ "slices.breakPatternsCmpFunc[pneumatic/api.State]", by kernel_rfl, by kernel_rfl⟩,
  f23 := ⟨ "slices.choosePivotCmpFunc[pneumatic/api.State]", by kernel_rfl, by kernel_rfl⟩,
  f24 := ⟨ "slices.reverseRangeCmpFunc[pneumatic/api.State]", by kernel_rfl, by kernel_rfl⟩,
  f25 := ⟨ "slices.partialInsertionSortCmpFunc[pneumatic/api.State]", by kernel_rfl, by kernel_rfl⟩,
  f26 := ⟨ "slices.partitionEqualCmpFunc[pneumatic/api.State]", by kernel_rfl, by kernel_rfl⟩,
  f27 := ⟨ "slices.partitionCmpFunc[pneumatic/api.State]", by kernel_rfl, by kernel_rfl⟩,
  f28 := by kernel_rfl,
  f29 := by kernel_rfl,
  f46 := ⟨ "slices.siftDownCmpFunc[pneumatic/api.State]", by kernel_rfl, by kernel_rfl⟩,
  f47 := by kernel_rfl,
  f48 := by kernel_rfl,
  f49 := ⟨ "slices.medianAdjacentCmpFunc[pneumatic/api.State]", by kernel_rfl, by kernel_rfl⟩,
  f50 := ⟨ "slices.medianCmpFunc[pneumatic/api.State]", by kernel_rfl, by kernel_rfl⟩,
  f57 := ⟨ "slices.order2CmpFunc[pneumatic/api.State]", by kernel_rfl, by kernel_rfl⟩,
  t0 := Tryz.underlying0,
  a0 := Tryz.isAgg0,
  z0 := Tryz.sizeOf0,
  v0 := Tryz.zeroValue0,
  t3 := Tryz.underlying3,
  a3 := Tryz.isAgg3,
  z3 := Tryz.sizeOf3,
  v3 := Tryz.zeroValue3,
  t4 := Tryz.underlying4,
  a4 := Tryz.isAgg4,
  z4 := Tryz.sizeOf4,
  v4 := Tryz.zeroValue4,
  t5 := Tryz.underlying5,
  a5 := Tryz.isAgg5,
  z5 := Tryz.sizeOf5,
  v5 := Tryz.zeroValue5,
  t9 := Tryz.underlying9,
  a9 := Tryz.isAgg9,
  z9 := Tryz.sizeOf9,
  v9 := Tryz.zeroValue9,
  t22 := Tryz.underlying40,
  a22 := Tryz.isAgg40,
  z22 := Tryz.sizeOf40,
  v22 := Tryz.zeroValue40,
  t25 := Tryz.underlying114,
  a25 := Tryz.isAgg114,
  z25 := Tryz.sizeOf114,
  v25 := Tryz.zeroValue114,
  t39 := Tryz.underlying165,
  a39 := Tryz.isAgg165,
  z39 := Tryz.sizeOf165,
  v39 := Tryz.zeroValue165,
  t45 := Tryz.underlying202,
  a45 := Tryz.isAgg202,
  z45 := Tryz.sizeOf202,
  v45 := Tryz.zeroValue202,
  t46 := Tryz.underlying203,
  a46 := Tryz.isAgg203,
  z46 := Tryz.sizeOf203,
  v46 := Tryz.zeroValue203,
  t50 := Tryz.underlying162,
  a50 := Tryz.isAgg162,
  z50 := Tryz.sizeOf162,
  v50 := Tryz.zeroValue162,
  t53 := Tryz.underlying209,
  a53 := Tryz.isAgg209,
  z53 := Tryz.sizeOf209,
  v53 := Tryz.zeroValue209,
  t55 := Tryz.underlying211,
  a55 := Tryz.isAgg211,
  z55 := Tryz.sizeOf211,
  v55 := Tryz.zeroValue211,
  t66 := Tryz.underlying229,
  a66 := Tryz.isAgg229,
  z66 := Tryz.sizeOf229,
  v66 := Tryz.zeroValue229,
  t70 := Tryz.underlying233,
  a70 := Tryz.isAgg233,
  z70 := Tryz.sizeOf233,
  v70 := Tryz.zeroValue233,
  t76 := Tryz.underlying241,
  a76 := Tryz.isAgg241,
  z76 := Tryz.sizeOf241,
  v76 := Tryz.zeroValue241,
  t77 := Tryz.underlying64,
  a77 := Tryz.isAgg64,
  z77 := Tryz.sizeOf64,
  v77 := Tryz.zeroValue64 }
end Go.Proofs.YtakndgpdolfenaaGreat
end
