/- Texts joined by a program: Sa, Sb, Sc, Ss, Ta, St, Ua, Ub, Uc, Ud, Sd, Se, Sf, Ue, Uf, Su, Sv, Sw, Ug. -/
import Derived.Test.YtakndgpdolfenaaGreatG2
import Derived.Test.YtakndgpdolfenaaGreatG3
import Derived.Test.YtakndgpdolfenaaGreatG1
import Derived.Test.YtakndgpdolfenaaGreatGZ
set_option linter.unusedSimpArgs false
set_option linter.unusedVariables false

/- Contracts: settle's machine. -/
section
namespace Go.Proofs.YtakndgpdolfenaaGreat
set_option maxHeartbeats 4000000
set_option maxRecDepth 10000

/-! ### Values of expressions -/
/-! ### Rules -/
abbrev aCh (v : Bool) (t : Int) (b : Bool) : A := .record [.bool v, .int .i64 t, .bool b]
abbrev rulesA : List A := [.fn 136 [] [], .fn 137 [] [], .fn 138 [] []]
/-! ### Slices of bools, one behind the other -/
def sumB (xss : List (List Bool)) : Nat := (xss.map List.length).sum
/-! ### The machine -/
/-- The machine's cells, as data. -/
abbrev encM (c : Control) (s : State) : List L := encC c ++ (encSt s ++ [.int .i64 (firstC c)])
end Go.Proofs.YtakndgpdolfenaaGreat
end

/- Contracts: settle's machine, its methods. -/
section
namespace Go.Proofs.YtakndgpdolfenaaGreat
set_option maxHeartbeats 4000000
set_option maxRecDepth 10000

/-- The machine of one's own. -/
abbrev mcA (c : Control) (g : Nat → Value) : List A := [.dat (.int .i64 c.actuators), .dat (.sl (c.inputs.map encT)), .dat (.sl (c.signals.map encS)), .dat (.sl (c.plus.map encI)), .dat (.sl (c.minus.map encI)), .own 60 (g 0), .own 61 (g 1), .own 62 (g 2), .own 63 (g 3), .own 64 (g 4), aI (firstC c)]
abbrev mcH (bm : Nat) (c : Control) (g : Nat → Value) (s : State) : Heap := [(70, .box bm (mcA c g)), (60, .seq (g 0) 3 1 (s.ends.map rI)), (61, .seq (g 1) 4 1 (s.valves.map rB)), (62, .seq (g 2) 4 1 (s.inputs.map rB)), (63, .seq (g 3) 4 1 (s.values.map rB)), (64, .seq (g 4) 3 1 (s.timers.map rI))]

theorem CallSt.sts {g : FuncId} {az : List A} {s : State} (h : CallSt g az s) : CallSts Tryz.prog g az [(3, 1, s.ends.map rI), (4, 1, s.valves.map rB), (4, 1, s.inputs.map rB), (4, 1, s.values.map rB), (3, 1, s.timers.map rI)] := by
  refine CallS.mono h ?_
  rintro r H' ⟨hh, rfl, rfl⟩
  exact ⟨.agg #[hh 0, hh 1, hh 2, hh 3, hh 4], rfl, rfl⟩

/-! ### The gates of a machine -/
end Go.Proofs.YtakndgpdolfenaaGreat
end

/- Contracts: a round of settle's machine. -/
section
namespace Go.Proofs.YtakndgpdolfenaaGreat
set_option maxHeartbeats 8000000
set_option maxRecDepth 10000

theorem sigStep_at {c : Control} {s : State} {L : List Bool} {i : Nat} {x : Signal} {v : Bool} {t : Int} (hx : c.signals[i]? = some x) (hv : s.values[i]? = some v) (ht : s.timers[i]? = some t) :
    sigStep c s L i = stepV x.kind v t (evalE x.on L) (x.kind == 1 && evalE x.off L) := by simp only [sigStep, hx, hv, ht]
theorem off_ok {c : Control} {i : Nat} {x : Signal} (hf : Fine c) (hxo : c.signals[i]? = some x) (hk : x.kind = 1) : checkE x.off (countC c) = 0 := by
  have h := hf.sigs i x hxo
  unfold signalE at h
  split at h
  · rename_i h1; exact absurd h h1
  · split at h
    · cases h
    · split at h
      · rename_i h1; exact absurd h h1
      · simp only [hk] at h
        simp [memE] at h
        by_cases h3 : checkE x.off (countC c) = 0
        · exact h3
        · simp [h3] at h

/-- What the round's loop keeps. -/
abbrev rkE (bm b4 b6 : Nat) (h5 : Value) (c : Control) : List (Nat × A) := [(0, .ptr 70 bm 0), (2, .dat (.bool false)), (3, .nils), (4, .ptr 4 b4 0), (5, .own 71 h5), (6, .ptr 6 b6 0), (25, .dat (.sl (c.signals.map encS))), (26, .dat (.int .i64 c.signals.length))]
abbrev rkH (bm b4 b6 : Nat) (g h4 : Nat → Value) (h5 : Value) (c : Control) (s G : State) : Heap := [(6, .box b6 rulesA), (71, .seq h5 4 1 ((valuesOf G).map rB)), (70, .box bm (mcA c g)), (60, .seq (g 0) 3 1 (G.ends.map rI)), (61, .seq (g 1) 4 1 (G.valves.map rB)), (62, .seq (g 2) 4 1 (G.inputs.map rB)), (4, .box b4 [.own 80 (h4 0), .own 81 (h4 1), .own 82 (h4 2), .own 83 (h4 3), .own 84 (h4 4)]), (80, .seq (h4 0) 3 1 (s.ends.map rI)), (81, .seq (h4 1) 4 1 (s.valves.map rB)), (82, .seq (h4 2) 4 1 (s.inputs.map rB)), (83, .seq (h4 3) 4 1 (s.values.map rB)), (84, .seq (h4 4) 3 1 (s.timers.map rI))]
abbrev rsE (i : Nat) (h7 : Value) : List (Nat × A) := [(27, aI i), (7, .own 72 h7)]
abbrev rsH (g : Nat → Value) (c : Control) (G : State) (i : Nat) (h7 : Value) : Heap := [(72, .seq h7 3 1 ((onceB c G i).map rI)), (63, .seq (g 3) 4 1 (((newV c G).take i ++ G.values.drop i).map rB)), (64, .seq (g 4) 3 1 (((newT c G).take i ++ G.timers.drop i).map rI))]

end Go.Proofs.YtakndgpdolfenaaGreat
end

/- Contracts: the reference's rounds: Line, Asked, Turned. -/
section
namespace Go.Proofs.YtakndgpdolfenaaGreat
set_option maxHeartbeats 4000000
set_option maxRecDepth 10000

theorem Line28_fn (c : Control) (i : Int) (h : Sm c) (hi : 0 ≤ i ∧ i ≤ 1000000) : CallFn Tryz.prog 78 [aC c, aI i] (aI (firstC c + i)) := by
  have h1 := h.act
  have h2 := h.inp
  refine callFz_of Tryz.func78 rfl Tryz.ntmps78 (rs := [.tmp 4]) rfl (by kernel_rfl) (by simp) (by kernel_rfl) ?_
  simp
  refine (signals_fn c h).s ?_
  simp
  unfold firstC
  omega
theorem Asked_fn (x : Signal) (vs : List Bool) (hx : OkS x) (hv : vs.length ≤ 256) (hon : RightE vs.length x.on) (hoff : x.kind = 1 → RightE vs.length x.off) :
    CallFn Tryz.prog 109 [aS x, aBs vs] (.tuple [aB (evalE x.on vs), aB (x.kind == 1 && evalE x.off vs)]) := by
  have c1 := holds_fn (SizeOf.sizeOf x.on + 1) x.on (by omega) hx.on vs hv hon
  refine callFz_of Tryz.func109 rfl Tryz.ntmps109 (rs := [.tmp 4, .tmp 5]) rfl (by kernel_rfl) (by simp) (by kernel_rfl) ?_
  by_cases hk : x.kind = 1
  · have c2 := holds_fn (SizeOf.sizeOf x.off + 1) x.off (by omega) hx.off vs hv (hoff hk)
    generalize evalE x.on vs = b1 at *
    generalize evalE x.off vs = b2 at *
    simp
    refine V.drawX (fun q => if q = 9 then some (.fn (aB b1)) else if q = 17 then some (.fn (aB b2)) else none) (by kernel_rfl) (by kernel_rfl) (by simp) ?_
    simp [hk]
    exact ⟨c1, c2⟩
  · generalize evalE x.on vs = b1 at *
    simp
    refine V.drawX (fun q => if q = 9 then some (.fn (aB b1)) else if q = 17 then some (.fn (aB false)) else none) (by kernel_rfl) (by kernel_rfl) (by simp) ?_
    simp [hk]
    exact c1

theorem set_same {α : Type} {l : List α} {i : Nat} {a : α} (h : l[i]? = some a) : l.set i a = l := by
  obtain ⟨h1, h2⟩ := List.getElem?_eq_some_iff.1 h
  subst h2
  exact List.set_getElem_self h1

theorem allD_setB (l : List Bool) (i : Nat) (b : Bool) : allD ((l.map rB).set i [A.dat (L.bool b)]) = true := by
  rw [show [A.dat (L.bool b)] = rB b from rfl, ← List.map_set]
  exact allD_B _
theorem rowsD_setB (l : List Bool) (i : Nat) (b : Bool) : rowsD ((l.map rB).set i [A.dat (L.bool b)]) = (l.map encB).set i (encB b) := by
  rw [show [A.dat (L.bool b)] = rB b from rfl, ← List.map_set, ← List.map_set]
  exact rowsD_B _
theorem allD_setI (l : List Int) (i : Nat) (b : Int) : allD ((l.map rI).set i [A.dat (L.int .i64 b)]) = true := by
  rw [show [A.dat (L.int .i64 b)] = rI b from rfl, ← List.map_set]
  exact allD_I _
theorem rowsD_setI (l : List Int) (i : Nat) (b : Int) : rowsD ((l.map rI).set i [A.dat (L.int .i64 b)]) = (l.map encI).set i (encI b) := by
  rw [show [A.dat (L.int .i64 b)] = rI b from rfl, ← List.map_set, ← List.map_set]
  exact rowsD_I _
theorem Turned_fn (c : Control) (s : State) (i : Nat) (hc : OkC c) (hf : Fine c) (hsh : shapeS c s) (hi : i < c.signals.length) :
    CallFn Tryz.prog 80 [aC c, aSt s, aI i] (.tuple [aSt (turnS c s i), aB (wantAt c s i)]) := by
  have hsm := sm_of hf hsh
  have ha := hf.act
  have hin := hf.inp
  have hsg := hf.sig
  have hL := valuesOf_length hsh
  have hv2 := ValuesR_fn c s hsm (by rw [hsh.1])
  obtain ⟨j1, j2, j3, j4, j5⟩ := hsh
  obtain ⟨x, hxo⟩ : ∃ x, c.signals[i]? = some x := ⟨_, List.getElem?_eq_getElem hi⟩
  obtain ⟨v, hv⟩ : ∃ v, s.values[i]? = some v := ⟨_, List.getElem?_eq_getElem (by omega)⟩
  obtain ⟨t, ht⟩ : ∃ t, s.timers[i]? = some t := ⟨_, List.getElem?_eq_getElem (by omega)⟩
  have hx := (List.getElem?_eq_some_iff.1 hxo).2
  have hox := hc.sigs x (List.mem_of_getElem? hxo)
  have hon := hf.on hxo
  have hask := Asked_fn x (valuesOf s) hox (by have : countC c = 2 * c.actuators + c.inputs.length + c.signals.length := rfl; omega) (by rw [hL]; exact (right_of_check hon.1).1) (fun hk => by rw [hL]; exact (right_of_check (off_ok hf hxo hk)).1)
  have e1 : sigStep c s (valuesOf s) i = stepV x.kind v t (evalE x.on (valuesOf s)) (x.kind == 1 && evalE x.off (valuesOf s)) := sigStep_at hxo hv ht
  have e2 : wantAt c s i = wantV x.kind v t (evalE x.on (valuesOf s)) (x.kind == 1 && evalE x.off (valuesOf s)) := by simp only [wantAt, hxo, hv, ht]
  unfold turnS
  rw [e1, e2]
  clear e1 e2
  have lV : i < s.values.length := (List.getElem?_eq_some_iff.1 hv).1
  have lT : i < s.timers.length := (List.getElem?_eq_some_iff.1 ht).1
  have hvs := set_same hv
  have hts := set_same ht
  have hvm : (s.values.map encB).set i (encB v) = s.values.map encB := by rw [← List.map_set, hvs]
  have htm : (s.timers.map encI).set i (encI t) = s.timers.map encI := by rw [← List.map_set, hts]
  have aV2 := (List.getElem?_eq_some_iff.1 hv).2
  have aT2 := (List.getElem?_eq_some_iff.1 ht).2
  have hst := (copyR_o s hsm).sts
  generalize evalE x.on (valuesOf s) = bon at *
  generalize (x.kind == 1 && evalE x.off (valuesOf s)) = boff at *
  refine callFz_of Tryz.func80 rfl Tryz.ntmps80 (rs := [.cell 6 29, .tmp 7]) rfl (by kernel_rfl) (by simp) (by kernel_rfl) ?_
  simp
  intro b6
  refine V.drawXS (fun q => if q = 13 then some (.sts [(3, 1, s.ends.map rI), (4, 1, s.valves.map rB), (4, 1, s.inputs.map rB), (4, 1, s.values.map rB), (3, 1, s.timers.map rI)]) else none) (by kernel_rfl) (by kernel_rfl) (by simp) ?_
  simp [hi, hx]
  intro u
  refine ⟨hst, fun b8 b9 => ⟨by kernel_rfl, ?_⟩⟩
  refine V.drawX (fun q => if q = 23 then some (.fn (aBs (valuesOf s))) else if q = 24 then some (.fn (.tuple [aB bon, aB boff])) else none) (by kernel_rfl) (by kernel_rfl) (by simp) ?_
  simp
  refine ⟨hv2, hask, ?_⟩
  obtain hk | hk | hk : x.kind = 0 ∨ x.kind = 1 ∨ x.kind = 2 := by omega
  · simp [hk, stepV, wantV, hvs, hts, hvm, htm, packA, encSt, hv, ht, lV, lT, aV2, aT2, rB, rI, allD_setB, rowsD_setB, allD_setI, rowsD_setI]
  · cases bon <;> cases boff
    · simp [hk, stepV, wantV, hvs, hts, hvm, htm, packA, encSt, hv, ht, lV, lT, aV2, aT2, rB, rI, allD_setB, rowsD_setB, allD_setI, rowsD_setI]
    · simp [hk, stepV, wantV, hvs, hts, hvm, htm, packA, encSt, hv, ht, lV, lT, aV2, aT2, rB, rI, allD_setB, rowsD_setB, allD_setI, rowsD_setI]
      refine V.drawX (fun _ => none) (by kernel_rfl) (by kernel_rfl) (by simp) ?_
      simp [hk, stepV, wantV, hvs, hts, hvm, htm, packA, encSt, hv, ht, lV, lT, aV2, aT2, rB, rI, allD_setB, rowsD_setB, allD_setI, rowsD_setI]
    · simp [hk, stepV, wantV, hvs, hts, hvm, htm, packA, encSt, hv, ht, lV, lT, aV2, aT2, rB, rI, allD_setB, rowsD_setB, allD_setI, rowsD_setI]
      refine V.drawX (fun _ => none) (by kernel_rfl) (by kernel_rfl) (by simp) ?_
      simp [hk, stepV, wantV, hvs, hts, hvm, htm, packA, encSt, hv, ht, lV, lT, aV2, aT2, rB, rI, allD_setB, rowsD_setB, allD_setI, rowsD_setI]
    · simp [hk, stepV, wantV, hvs, hts, hvm, htm, packA, encSt, hv, ht, lV, lT, aV2, aT2, rB, rI, allD_setB, rowsD_setB, allD_setI, rowsD_setI]
  · cases bon
    · simp [hk, stepV, wantV, hvs, hts, hvm, htm, packA, encSt, hv, ht, lV, lT, aV2, aT2, rB, rI, allD_setB, rowsD_setB, allD_setI, rowsD_setI]
      refine V.drawX (fun _ => none) (by kernel_rfl) (by kernel_rfl) (by simp) ?_
      simp [hk, stepV, wantV, hvs, hts, hvm, htm, packA, encSt, hv, ht, lV, lT, aV2, aT2, rB, rI, allD_setB, rowsD_setB, allD_setI, rowsD_setI]
      refine ⟨by kernel_rfl, ?_⟩
      refine V.drawX (fun _ => none) (by kernel_rfl) (by kernel_rfl) (by simp) ?_
      simp [hk, stepV, wantV, hvs, hts, hvm, htm, packA, encSt, hv, ht, lV, lT, aV2, aT2, rB, rI, allD_setB, rowsD_setB, allD_setI, rowsD_setI]
      by_cases h : t = 0 <;> simp [h]
    · by_cases h0 : t = 0
      · simp [hk, stepV, wantV, hvs, hts, hvm, htm, packA, encSt, hv, ht, lV, lT, aV2, aT2, rB, rI, allD_setB, rowsD_setB, allD_setI, rowsD_setI, h0]
      · simp [hk, stepV, wantV, hvs, hts, hvm, htm, packA, encSt, hv, ht, lV, lT, aV2, aT2, rB, rI, allD_setB, rowsD_setB, allD_setI, rowsD_setI, h0]

end Go.Proofs.YtakndgpdolfenaaGreat
end

/- Plain: values 0, 1 and 2. -/
section
namespace Go.Proofs.YtakndgpdolfenaaGreat
set_option maxHeartbeats 1000000

def thF (strong : Int) (vs : List Int) : Int := if vs.any (· == strong) then strong else if vs.any (· == 2) then 2 else 1 - strong
mutual
def thE : Expr → List Int → Int
  | ⟨op, ix, args⟩, l => if op = 0 then ix else if op = 1 then l.getD ix.toNat 0
      else if op = 2 then (match thL args l with | [] => 0 | v :: _ => if v = 2 then 2 else 1 - v)
      else thF (if op = 4 then 1 else 0) (thL args l)
def thL : List Expr → List Int → List Int
  | [], _ => []
  | x :: xs, l => thE x l :: thL xs l
end
def T3 (n : Int) : Prop := n = 0 ∨ n = 1 ∨ n = 2
def A3 (l : List Int) : Prop := ∀ n ∈ l, T3 n
def joinL : List Int → Int
  | [] => 0
  | v :: r => if r.all (· == v) then v else 2
def knownL (v : Int) : List Int := if v = 2 then [0, 1] else [v]
def mightL (x : Signal) (own : Int) (l : List Int) : List Int :=
  if x.kind = 2 then (knownL (thE x.on l)).map fun on => if on = 0 then 0 else own
  else (knownL (thE x.on l)).flatMap fun on => (knownL (thE x.off l)).map fun off => if on ≠ off then on else own
def mightP (x : Signal) (own : Int) (l : List Int) : Int := joinL (mightL x own l)
/-- The place of a signal's line. -/
def atP (c : Control) (i : Nat) : Nat := (firstC c).toNat + i
def gateT (c : Control) (l : List Int) : Nat → List Int
  | 0 => l
  | i + 1 => match c.signals[i]? with
    | some x => if x.kind = 0 then (gateT c l i).set (atP c i) (thE x.on (gateT c l i)) else gateT c l i
    | none => gateT c l i
def nextT (c : Control) (l : List Int) : Nat → List Int
  | 0 => l
  | i + 1 => match c.signals[i]? with
    | some x => if x.kind ≠ 0 then (nextT c l i).set (atP c i) (joinL [l.getD (atP c i) 0, mightP x (l.getD (atP c i) 0) l]) else nextT c l i
    | none => nextT c l i
def againP (c : Control) (l : List Int) : List Int := nextT c (gateT c l c.signals.length) c.signals.length
def itP (c : Control) (l : List Int) : Nat → List Int
  | 0 => l
  | k + 1 => againP c (itP c l k)
def finalP (c : Control) (l : List Int) : List Int := itP c l (2 * c.signals.length + 2)

/-- Is a line not that of a gate? -/
def stillK (c : Control) (k : Nat) : Prop := (k : Int) < firstC c ∨ kindAt c (k - firstC c) ≠ 0 ∨ firstC c + c.signals.length ≤ k
/-! ### The values come to rest -/
/-- How many memories and timers are unknown. -/
def cntU (c : Control) (l : List Int) : Nat := (List.range c.signals.length).countP fun i : Nat => kindAt c i != 0 && l.getD (atP c i) 0 == 2
end Go.Proofs.YtakndgpdolfenaaGreat
end

/- Contracts: values 0, 1 and 2. -/
section
namespace Go.Proofs.YtakndgpdolfenaaGreat
set_option maxHeartbeats 4000000
set_option maxRecDepth 10000

/-- What a row of values comes to, so far. -/
def ovP (s : Int) (vs : List Int) : Int := if vs.any (· == 2) then 2 else 1 - s
def joinI (a b : Int) : Int := if a = b then a else 2
end Go.Proofs.YtakndgpdolfenaaGreat
end

/- Contracts: settle.might, ref28.might. -/
section
namespace Go.Proofs.YtakndgpdolfenaaGreat
set_option maxHeartbeats 4000000
set_option maxRecDepth 10000

/-- What a signal might get where On is on and Off is one of bs. -/
def mgP (k own : Int) (bs : List Int) (on : Int) : List Int := if k = 2 then [if on = 0 then 0 else own] else bs.map fun off => if on ≠ off then on else own
end Go.Proofs.YtakndgpdolfenaaGreat
end

/- Contracts: ref28.might. -/
section
namespace Go.Proofs.YtakndgpdolfenaaGreat
set_option maxHeartbeats 4000000
set_option maxRecDepth 10000

def jst : List Int → Int × Bool
  | [] => (0, true)
  | v :: r => (r.foldl joinI v, false)
def vlP (k own on off : Int) : Int := if k = 2 then (if on = 0 then 0 else own) else if on ≠ off then on else own
end Go.Proofs.YtakndgpdolfenaaGreat
end

/- Contracts: ref28.again, Final. -/
section
namespace Go.Proofs.YtakndgpdolfenaaGreat
set_option maxHeartbeats 4000000
set_option maxRecDepth 10000

theorem A3.set {l : List Int} (h : A3 l) {i : Nat} {v : Int} (hv : T3 v) : A3 (l.set i v) := by
  intro n hn
  rcases List.mem_or_eq_of_mem_set hn with h1 | h1
  · exact h n h1
  · rw [h1]; exact hv
end Go.Proofs.YtakndgpdolfenaaGreat
end

/- Contracts: ref28.Final, ref28.Unknown. -/
section
namespace Go.Proofs.YtakndgpdolfenaaGreat
set_option maxHeartbeats 4000000
set_option maxRecDepth 10000

def numL (vs : List Bool) : List Int := vs.map fun b => if b then 1 else 0
def setU (c : Control) (l : List Int) (ks : List Int) : List Int := ks.foldl (fun l k => l.set (2 * c.actuators + k).toNat 2) l
def startU (c : Control) (s : State) (ks : List Int) : List Int := setU c (numL (valuesOf s)) ks

/-! ### Unknown -/
/-- What is wrong with the unknown inputs: 0 for nothing. -/
def inputsE (n : Int) : Int → List Int → Int
  | _, [] => 0
  | p, k :: ks => if k < 0 ∨ n ≤ k then 6 else if k ≤ p then 9 else inputsE n k ks
def unknownR (c : Control) (s : State) (ks : List Int) : List Int × Int := if rightC c s ≠ 0 then ([], rightC c s) else if 16 < ks.length then ([], 5)
  else if inputsE c.inputs.length (-1) ks ≠ 0 then ([], inputsE c.inputs.length (-1) ks) else (finalP c (startU c s ks), 0)
def prevK (ks : List Int) (i : Nat) : Int := if i = 0 then -1 else ks.getD (i - 1) 0
end Go.Proofs.YtakndgpdolfenaaGreat
end

/- Contracts: a round of settle's machine, the whole. -/
section
namespace Go.Proofs.YtakndgpdolfenaaGreat
set_option maxHeartbeats 8000000
set_option maxRecDepth 10000

end Go.Proofs.YtakndgpdolfenaaGreat
end

/- Contracts: settle's machine comes to rest. -/
section
namespace Go.Proofs.YtakndgpdolfenaaGreat
set_option maxHeartbeats 4000000
set_option maxRecDepth 10000

end Go.Proofs.YtakndgpdolfenaaGreat
end

/- Contracts: Round, Rounds, Settle, Rests. -/
section
namespace Go.Proofs.YtakndgpdolfenaaGreat
set_option maxHeartbeats 4000000
set_option maxRecDepth 10000

def roundR (c : Control) (s : State) : State × List Int × Int := if rightC c s ≠ 0 then (noSt, [], rightC c s) else (roundS c s, roundB c s, 0)
def restsR (c : Control) (s : State) : Bool × Int := if rightC c s ≠ 0 then (false, rightC c s) else (decide (roundS c s = s), 0)
def courseR (c : Control) (s : State) : State × List Int × Int × Int := match courseP c 65 0 s [] with
  | some (x, bad, n) => (x, compI (sortI bad), n, 0)
  | none => (noSt, [], 0, 21)
def settleR (c : Control) (s : State) : State × List Int × Int := if rightC c s ≠ 0 then (noSt, [], rightC c s) else ((courseR c s).1, (courseR c s).2.1, (courseR c s).2.2.2)
def roundsR (c : Control) (s : State) : Int × Int := if rightC c s ≠ 0 then (0, rightC c s) else ((courseR c s).2.2.1, (courseR c s).2.2.2)

end Go.Proofs.YtakndgpdolfenaaGreat
end

/- Contracts: settle.Unknown, its rounds. -/
section
namespace Go.Proofs.YtakndgpdolfenaaGreat
set_option maxHeartbeats 4000000
set_option maxRecDepth 10000

abbrev ukE (bm : Nat) (c : Control) : List (Nat × A) := [(3, .rptr (encC c)), (8, .ptr 70 bm 0)]
abbrev ukH (bm : Nat) (g : Nat → Value) (h7 : Value) (c : Control) (s : State) : Heap := (71, .seq h7 4 1 ((valuesOf s).map rB)) :: mcH bm c g s

end Go.Proofs.YtakndgpdolfenaaGreat
end

/- Contracts: settle.Unknown. -/
section
namespace Go.Proofs.YtakndgpdolfenaaGreat
set_option maxHeartbeats 4000000
set_option maxRecDepth 10000

end Go.Proofs.YtakndgpdolfenaaGreat
end

/- Contracts: the reference's rounds: Once. -/
section
namespace Go.Proofs.YtakndgpdolfenaaGreat
set_option maxHeartbeats 4000000
set_option maxRecDepth 10000

end Go.Proofs.YtakndgpdolfenaaGreat
end

/- Contracts: the reference's rounds: course. -/
section
namespace Go.Proofs.YtakndgpdolfenaaGreat
set_option maxHeartbeats 4000000
set_option maxRecDepth 10000

def insM (ns : List Int) (n : Int) : List Int := if n ∈ ns then ns else ns ++ [n]
def addM (ns bad : List Int) : List Int := bad.foldl insM ns
def courseB (c : Control) (s : State) : A := match courseP c 65 0 s [] with
  | some (x, bad, n) => .tuple [aSt x, aIs (compI (sortI bad)), aI n, aB true]
  | none => .tuple [aSt noSt, aIs [], aI 0, aB false]
end Go.Proofs.YtakndgpdolfenaaGreat
end

/- Contracts: the reference's Round, Rests, Rounds, Settle. -/
section
namespace Go.Proofs.YtakndgpdolfenaaGreat
set_option maxHeartbeats 4000000
set_option maxRecDepth 10000

end Go.Proofs.YtakndgpdolfenaaGreat
end

/- Contracts: law 28: Lamp, awake, Few, right. -/
section
namespace Go.Proofs.YtakndgpdolfenaaGreat
set_option maxHeartbeats 4000000
set_option maxRecDepth 10000

def notX (a : Int) : Expr := ⟨2, 0, [onX a]⟩
def lampC : Control := ⟨1, [[115, 116, 97, 114, 116], [115, 116, 111, 112]], [⟨[103, 111], 1, onX 2, onX 3, 0, false⟩, ⟨[108, 97, 109, 112], 0, notX 4, noX, 0, false⟩], [4], [5]⟩
def lampS (a b : Bool) : State := ⟨[0], [false], [a, b], [false, true], [0, 0]⟩
theorem Few28_fn (c : Control) (s : State) (hc : OkC c) (hs : OkSt s) : CallFn Tryz.prog 37 [aC c, aSt s] (aB (fewC c && fewS s)) := by
  refine callFz_of Tryz.func37 rfl Tryz.ntmps37 (rs := [.tmp 4]) rfl (by kernel_rfl) (by simp) (by kernel_rfl) ?_
  simp
  refine (Few_fn c hc).s ?_
  simp
  refine GCall.fn (aB (fewS s)) (fun h => ⟨by first | trivial | exact h, FewStates_fn s hs⟩) ?_
  simp
end Go.Proofs.YtakndgpdolfenaaGreat
end
