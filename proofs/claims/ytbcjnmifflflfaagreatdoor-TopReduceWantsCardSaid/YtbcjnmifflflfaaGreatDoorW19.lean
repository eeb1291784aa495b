/- Texts joined by a program: Fxf, Fxc, Fxd, Ym, Zi, Zj, Sr, Aa. -/
import Derived.Test.YtbcjnmifflflfaaGreatDoorW17
import Derived.Test.YtbcjnmifflflfaaGreatDoorW3
import Derived.Test.YtbcjnmifflflfaaGreatDoorW18
import Derived.Test.YtbcjnmifflflfaaGreatDoorW15
import Derived.Test.YtbcjnmifflflfaaGreatDoorW16
set_option linter.unusedSimpArgs false
set_option linter.unusedVariables false

section
namespace Go.Proofs.YtbcjnmifflflfaaGreatDoor
variable {P : Program}
theorem ready_all {ops : List Oper} (hd : depB ops = true) {listed : Array Bool} (hsz : listed.size = ops.length) (hr : Region.ready .any ops.toArray listed = []) : ∀ k, k < ops.length → listed.getD k false = true := by
  intro k
  induction k using Nat.strongRecOn with
  | _ k ih =>
    intro hk
    cases hl : listed.getD k false with
    | true => rfl
    | false =>
      exfalso
      have hmem : k ∈ Region.ready .any ops.toArray listed := by
        refine mem_ready.2 ⟨?_, ops[k], by simp [hk], fun e he hb => ih e.on ?_ ?_⟩
        · rw [Array.getD_eq_getD_getElem?] at hl ⊢
          rw [Array.getElem?_eq_getElem (by omega)] at hl ⊢
          simpa using hl
        · exact depB_edge hd (List.getElem?_eq_getElem hk) he hb
        · exact Nat.lt_trans (depB_edge hd (List.getElem?_eq_getElem hk) he hb) hk
      rw [hr] at hmem
      cases hmem
theorem push_getD {l : Array Bool} {k : Nat} {b : Bool} : (l.push b).getD k false = if k = l.size then b else l.getD k false := by
  simp only [Array.getD_eq_getD_getElem?, Array.getElem?_push]
  split <;> simp
theorem push_getT {l : Array Bool} {k : Nat} {b : Bool} : (l.push b).getD k true = if k = l.size then b else l.getD k true := by
  simp only [Array.getD_eq_getD_getElem?, Array.getElem?_push]
  split <;> simp
theorem set_push {l : Array Bool} {i : Nat} {b : Bool} (h : i < l.size) : (l.push b).setIfInBounds i true = (l.setIfInBounds i true).push b := by
  apply Array.ext_getElem?
  intro k
  simp only [Array.getElem?_setIfInBounds, Array.getElem?_push, Array.size_push, Array.size_setIfInBounds]
  by_cases h1 : i = k
  · subst h1
    have h2 : ¬ i = l.size := by omega
    simp [h, h2]
    omega
  · simp [h1]
theorem getD_lt {l : Array Bool} {k : Nat} (h : k < l.size) : l.getD k true = l.getD k false := by
  simp only [Array.getD_eq_getD_getElem?, Array.getElem?_eq_getElem h, Option.getD_some]
theorem Oper.wp_mono2 {o : Oper} {a : Act} {w : World} {K K' : Act → World → Prop} {Q Q' : Exit → Act → World → Prop} (h : ∀ a w, K a w → K' a w) (hq : ∀ e a w, e ≠ .normal → Q e a w → Q' e a w)
    (hh : o.wp P a w K Q) : o.wp P a w K' Q' := by
  have hl : LetsOut Q → LetsOut Q' := fun ⟨a, w, h⟩ => ⟨a, w, hq _ _ _ (by simp) h⟩
  unfold Oper.wp at *
  generalize (execOp a.eval o).run P w = r at *
  cases r with
  | ok n w' =>
    cases n <;> simp only [Oper.upon] at hh ⊢ <;>
      first
        | exact h _ _ hh
        | exact Calls.mono hh (fun e w'' he => by cases e <;> first | exact h _ _ he | exact hq _ _ _ (by simp) he | exact hl he)
        | exact Rows.mono hh (fun _ _ he => h _ _ he)
  | halt x w' => cases x <;> simp only [Oper.upon] at hh ⊢ <;> exact hq _ _ _ (by simp) hh
theorem wpAny_last {pre : List Oper} {last : Oper} (hd : depB (pre ++ [last]) = true) (hrel : ∀ k, k < pre.length → relB (pre ++ [last]) pre.length k = true) (hg : ∀ o ∈ pre, o.guard = none)
    {Q Q' : Exit → Act → World → Prop} (hQ : ∀ e a w, e ≠ .normal → Q' e a w → Q e a w) (hQ' : ∀ a w, Q' .normal a w → wpOp P (pre ++ [last]).toArray Q pre.length (fun a w => Q .normal a w) a w) :
    ∀ (fuel : Nat) (listed : Array Bool) (a : Act) (w : World) (l : List Nat), listed.size = pre.length → Closed (pre ++ [last]) (fun k => (listed.push false).getD k false) → l.Nodup →
      (∀ k, k ∈ l ↔ k < pre.length ∧ listed.getD k false = false) → l.length = fuel → wpAny P .any pre.toArray Q' fuel listed a w → wpAny P .any (pre ++ [last]).toArray Q (fuel + 1) (listed.push false) a w := by
  have hlen : (pre ++ [last]).length = pre.length + 1 := by simp
  have hat : (pre ++ [last])[pre.length]? = some last := by simp
  have hrl : ∀ (listed : Array Bool), listed.size = pre.length → Closed (pre ++ [last]) (fun k => (listed.push false).getD k false) → pre.length ∈ Region.ready .any (pre ++ [last]).toArray (listed.push false) → ∀ k, k < pre.length → listed.getD k false = true := by
    intro listed hsz hc hm k hk
    obtain ⟨_, o, ho, h2⟩ := mem_ready.1 hm
    have ho' : (pre ++ [last])[pre.length]? = some o := by simpa using ho
    have := hc.ready (i := pre.length) (fun k hk => by
      obtain ⟨o', e, q1, q2, q3, q4⟩ := dirB_edge hk
      rw [ho'] at q1
      cases q1
      rw [← q4]
      exact h2 e q2 q3) (hrel k hk)
    simp only [push_getD, hsz] at this
    rwa [if_neg (by omega)] at this
  have hin : ∀ (listed : Array Bool), listed.size = pre.length → ∀ i, i ≠ pre.length → i ∈ Region.ready .any (pre ++ [last]).toArray (listed.push false) → i < pre.length ∧ i ∈ Region.ready .any pre.toArray listed := by
    intro listed hsz i hne hm
    obtain ⟨h1, o, ho, h2⟩ := mem_ready.1 hm
    have ho' : (pre ++ [last])[i]? = some o := by simpa using ho
    have hi : i < pre.length := by
      have := (List.getElem?_eq_some_iff.1 ho').1
      omega
    refine ⟨hi, mem_ready.2 ⟨?_, o, ?_, fun e he hb => ?_⟩⟩
    · rw [push_getT, if_neg (by omega)] at h1
      exact h1
    · rw [List.getElem?_append_left hi] at ho'
      simpa using ho'
    · have h3 := h2 e he hb
      have h4 := depB_edge hd ho' he hb
      rw [push_getD, if_neg (by omega)] at h3
      exact h3
  intro fuel
  induction fuel with
  | zero =>
    intro listed a w l hsz hc hnd hl hlen2 h
    have hnil : l = [] := List.eq_nil_of_length_eq_zero hlen2
    subst hnil
    have hall : ∀ k, k < pre.length → listed.getD k false = true := by
      intro k hk
      cases hh : listed.getD k false with
      | true => rfl
      | false => exact absurd ((hl k).2 ⟨hk, hh⟩) (by simp)
    refine ⟨fun hr => ?_, fun i hi => ?_⟩
    · have := ready_all hd (by simp [hsz]) hr pre.length (by simp)
      rw [push_getD, if_pos hsz.symm] at this
      cases this
    · have hin2 : i = pre.length := by
        rcases Nat.lt_or_ge i pre.length with h1 | h1
        · obtain ⟨_, h2⟩ := hin listed hsz i (by omega) hi
          have h3 := (mem_ready.1 h2).1
          rw [getD_lt (by omega), hall i h1] at h3
          cases h3
        · rcases Nat.lt_or_ge pre.length i with h2 | h2
          · obtain ⟨h3, _⟩ := hin listed hsz i (by omega) hi
            omega
          · omega
      subst hin2
      refine wpOp_mono (fun a w hq => ?_) (hQ' a w h.2)
      refine ⟨?_, hq⟩
      cases hr : Region.ready .any (pre ++ [last]).toArray ((listed.push false).setIfInBounds pre.length true) with
      | nil => rfl
      | cons k r =>
        have hm : k ∈ Region.ready .any (pre ++ [last]).toArray ((listed.push false).setIfInBounds pre.length true) := by rw [hr]; simp
        obtain ⟨h1, o, ho, _⟩ := mem_ready.1 hm
        have hk : k < pre.length + 1 := by
          have ho' : (pre ++ [last])[k]? = some o := by simpa using ho
          have := (List.getElem?_eq_some_iff.1 ho').1
          omega
        exfalso
        rw [Array.getD_eq_getD_getElem?, Array.getElem?_setIfInBounds] at h1
        by_cases hk2 : pre.length = k
        · subst hk2
          simp [hsz] at h1
        · rw [if_neg hk2, ← Array.getD_eq_getD_getElem?, push_getT, if_neg (by omega), getD_lt (by omega), hall k (by omega)] at h1
          cases h1
  | succ fuel ih =>
    intro listed a w l hsz hc hnd hl hlen2 h
    have hex : ∃ k, k < pre.length ∧ listed.getD k false = false := by
      cases l with
      | nil => simp at hlen2
      | cons k l => exact ⟨k, (hl k).1 (by simp)⟩
    obtain ⟨k0, hk0, hk1⟩ := hex
    refine ⟨fun hr => ?_, fun i hi => ?_⟩
    · have := ready_all hd (by simp [hsz]) hr pre.length (by simp)
      rw [push_getD, if_pos hsz.symm] at this
      cases this
    · have hne : i ≠ pre.length := by
        rintro rfl
        have := hrl listed hsz hc hi k0 hk0
        rw [hk1] at this
        cases this
      obtain ⟨hil, hir⟩ := hin listed hsz i hne hi
      have hSi : listed.getD i false = false := by
        have := (mem_ready.1 hir).1
        rwa [getD_lt (by omega)] at this
      have h1 := h.2 i hir
      have hS' : ∀ k, (listed.setIfInBounds i true).getD k false = (listed.getD k false || decide (k = i)) := by
        intro k
        by_cases hk : k = i
        · subst hk
          have : k < listed.size := by omega
          simp [Array.getD_eq_getD_getElem?, this]
        · simp [Array.getD_eq_getD_getElem?, Array.getElem?_setIfInBounds_ne (Ne.symm hk), hk]
      have hK : ∀ a w, wpAny P .any pre.toArray Q' fuel (listed.setIfInBounds i true) a w → wpAny P .any (pre ++ [last]).toArray Q (fuel + 1) ((listed.push false).setIfInBounds i true) a w := by
        intro a w h
        rw [set_push (by omega)]
        refine ih (listed.setIfInBounds i true) a w (l.erase i) (by simpa using hsz) ?_ (hnd.erase i) ?_ ?_ h
        · intro j m hj hm
          simp only [push_getD, hS', Array.size_setIfInBounds, hsz] at hj ⊢
          have hjl : j < pre.length := by
            rcases Nat.lt_or_ge j pre.length with h2 | h2
            · exact h2
            · exfalso
              by_cases h3 : j = pre.length
              · rw [if_pos h3] at hj; cases hj
              · unfold dirB at hm
                rw [List.getElem?_eq_none (by simp; omega)] at hm
                cases hm
          rw [if_neg (by omega)] at hj
          obtain ⟨o', e, q1, q2, q3, q4⟩ := dirB_edge hm
          have hml : m < j := by
            rw [← q4]
            exact depB_edge hd q1 q2 q3
          rw [if_neg (by omega)]
          simp only [Bool.or_eq_true, decide_eq_true_eq] at hj ⊢
          rcases hj with hj | hj
          · have := hc j m (by simp only [push_getD, hsz]; rw [if_neg (by omega)]; exact hj) hm
            simp only [push_getD, hsz] at this
            rw [if_neg (by omega)] at this
            exact .inl this
          · subst hj
            obtain ⟨_, o, ho, h2⟩ := mem_ready.1 hir
            have ho' : (pre ++ [last])[j]? = some o := by
              rw [List.getElem?_append_left hjl]
              simpa using ho
            rw [ho'] at q1
            cases q1
            rw [← q4]
            exact .inl (h2 e q2 q3)
        · intro k
          rw [hnd.mem_erase_iff, hl k, hS' k]
          by_cases hk : k = i
          · subst hk; simp
          · simp [hk]
        · rw [List.length_erase_of_mem ((hl i).2 ⟨hil, hSi⟩)]
          omega
      have hoe : (pre ++ [last]).toArray[i]? = pre.toArray[i]? := by
        simp [List.getElem?_append_left hil]
      unfold wpOp at h1 ⊢
      rw [hoe]
      have hoi : pre.toArray[i]? = some pre[i] := by simp [hil]
      rw [hoi] at h1 ⊢
      simp only at h1 ⊢
      have hgi := hg pre[i] (List.getElem_mem hil)
      have hw : ∀ y, Region.wanted pre[i] y = true := by intro y; simp [Region.wanted, hgi]
      rw [if_pos (hw _)] at h1 ⊢
      rcases h1 with h1 | ⟨h1, a', w', h2⟩
      · exact .inl (Oper.wp_mono2 hK hQ h1)
      · exact .inr ⟨h1, a', w', hQ _ _ _ (by simp) h2⟩
def endC (P : Program) (o : Oper) (E : Env) (H : Heap) (K : Env → Heap → Prop) : Prop := match callA E o.op with
  | some (p, g, az) => p ∧ CallS P g az H fun r H' => K (put E o.dst r) H'
  | none => False
theorem V.drawEnd {n : Nat} {id : Nat} {ops : Array Oper} {E : Env} {H : Heap} {Q : PostQ} (pre : List Oper) (last : Oper) (hops : ops.toList = pre ++ [last]) (ρ : Nat → Option CR) (hm : P.follows .mixedOrders = true) (hd : (depB pre && depB (pre ++ [last]) && ((List.range pre.length).all fun k => relB (pre ++ [last]) pre.length k) && ((pre ++ [last]).all fun o => o.guard.isNone)) = true)
    (hn : (H.map (·.1)).Nodup) (h : vcD P ρ pre 0 [] pre E H fun E' H' => endC P last E' H' fun E' H' => Q .normal E' H') : V ⟨P, none, n⟩ (.region id ops true) E H Q := by
  intro hf x act H00 ms hi he
  simp only [Bool.and_eq_true, List.all_eq_true, List.mem_range] at hd
  obtain ⟨⟨⟨hd1, hd2⟩, hd3⟩, hd4⟩ := hd
  have hg : ∀ o ∈ pre ++ [last], o.guard = none := fun o ho => by simpa using hd4 o ho
  have hops2 : ops = (pre ++ [last]).toArray := by rw [← hops]
  have hfit := fitsOps_ok hf
  rw [hops] at hfit
  generalize hH0 : marks ms ++ H00 = H0 at hi
  generalize hds : ms.map mk = ds at he
  have hlex := fun ν => vcD_lex (P := P) (E0 := E) (G0 := fun t => hget t H) (ν := ν) pre 0 [] E H (by simp) h rfl hn (fun k o hk => by omega)
  have L : LexOK P ρ pre E (fun t => hget t H) := ⟨hd1, fun ν i o ho => (hlex ν).1 i o (Nat.zero_le _) ho,
    fun ν i j oi oj t hij hoi hoj hc => (hlex ν).2.1 i j oi oj t (Nat.zero_le _) hij hoi hoj hc⟩
  refine wpIn_wide.2 (wp_region_any hm ?_)
  have hi' : Inv x.drew (H ++ H0) := hi.grow (X.drew_grow x)
  have he' : EnvOK n ds x.drew act E := he.mono (X.drew_grow x).le
  have hsz : ∀ m k, (Array.replicate m false).getD k false = false := by
    intro m k
    rw [Array.getD_eq_getD_getElem?]
    by_cases hk : k < m
    · simp [Array.getElem?_replicate, hk]
    · simp [Array.getElem?_replicate, hk]
  have hfun : ∀ m, (fun k => (Array.replicate m false).getD k false) = fun _ => false := fun m => funext (hsz m)
  have hee : ∀ (r : Nat → Option (Prop × A × Option (Nat × Ent))) m, eeS pre E r (fun _ => false) m = E := by
    intro r m
    induction m with
    | zero => rfl
    | succ m ih => simp [eeS, ih]
  have hgg : ∀ (r : Nat → Option (Prop × A × Option (Nat × Ent))) m, ggS pre (fun t => hget t H) r (fun _ => false) m = fun t => hget t H := by
    intro r m
    induction m with
    | zero => rfl
    | succ m ih => simp [ggS, ih]
  let Qf : Exit → Act → World → Prop := Post n H00 Q x
  let Qm : Exit → Act → World → Prop := fun e a w => match e with
    | .normal => wpOp P (pre ++ [last]).toArray Qf pre.length (fun a w => Qf .normal a w) a w
    | e => Qf e a w
  have key := region_any (H0 := H0) (x0 := x) (n := n) (ds := ds) (Q := Qm) L (fun o ho => hfit o (by simp [ho])) (by
      intro ν y a Hc hle hy hey hgt
      obtain ⟨Hn, q1, q2, q3⟩ := (hlex ν).2.2
      have hsub : ∀ t e, hget t Hn = some e → hget t Hc = some e := fun t e ht => by rw [hgt t, q2]; exact ht
      have hyn := subH_inv (subH_of q3 hsub) hy
      show wpOp P (pre ++ [last]).toArray Qf pre.length (fun a w => Qf .normal a w) a y.w
      have hlo : (pre ++ [last]).toArray[pre.length]? = some last := by simp
      unfold wpOp
      rw [hlo]
      simp only
      have hw : ∀ z, Region.wanted last z = true := by
        intro z
        have := hg last (by simp)
        simp [Region.wanted, this]
      rw [if_pos (hw _)]
      refine .inl ?_
      unfold endC at q1
      split at q1
      · rename_i p g az hca
        obtain ⟨hp, hc⟩ := q1
        obtain ⟨args, h1, h2⟩ := callA_ok (P := P) hca hp hey hc.1
        unfold Oper.wp
        rw [h1]
        show Calls P g args y.w _
        refine (hc.2 y args H0 hyn h2).mono ?_
        rintro _ _ ⟨z, v, r, H', rfl, rfl, hz, hiz, hrv, hk⟩
        refine ⟨z, _, H', ms, rfl, hle.trans hz, by rw [hH0]; exact hiz, ?_, hk⟩
        rw [hds]
        exact (hey.mono hz).put (hfit last (by simp)) hrv
      · exact q1.elim)
    pre.length (Array.replicate pre.length false) (fun _ => (.nilIface, 0)) x.drew act H (List.range pre.length) (by simp) List.nodup_range (by intro k; rw [hsz]; simp) (by simp) (by
      rw [hfun]; intro j i hj; cases hj) (X.drew_grow x).le hi' (by rw [hfun, hee]; exact he') (by intro t; rw [hfun, hgg])
  have key2 := wpAny_last (P := P) (Q := Qf) (Q' := Qm) hd2 (fun k hk => hd3 k hk) (fun o ho => hg o (by simp [ho])) (fun e a w hne hq => by
    cases e with
    | normal => exact absurd rfl hne
    | _ => exact hq) (fun a w hq => hq)
    pre.length (Array.replicate pre.length false) act x.drew.w (List.range pre.length) (by simp) (by
      intro j i hj
      simp only [push_getD, hsz] at hj
      split at hj <;> cases hj) List.nodup_range (by intro k; rw [hsz]; simp) (by simp) key
  have e1 : (Array.replicate pre.length false).push false = Array.replicate (pre.length + 1) false := by simp [Array.replicate_succ]
  have e2 : ops.size = pre.length + 1 := by rw [hops2]; simp
  rw [e1] at key2
  show wpAny P .any ops (Post n H00 Q x) ops.size (Array.replicate ops.size false) act x.drew.w
  rw [e2, hops2]
  exact key2
theorem V.drawEndK {n : Nat} {id : Nat} {ops : Array Oper} {E : Env} {H : Heap} {Q : PostQ} (k : Nat) {pre : List Oper} {last : Oper} (hp : ops.toList.take k = pre) (hl : ops.toList.drop k = [last]) (ρ : Nat → Option CR) (hm : P.follows .mixedOrders = true)
    (hd : (depB (ops.toList.take k) && depB ops.toList && ((List.range k).all fun j => relB ops.toList k j) && (ops.toList.all fun o => o.guard.isNone) && decide ((ops.toList.take k).length = k)) = true)
    (hn : (H.map (·.1)).Nodup) (h : vcD P ρ pre 0 [] pre E H fun E' H' => endC P last E' H' fun E' H' => Q .normal E' H') : V ⟨P, none, n⟩ (.region id ops true) E H Q := by
  have e : ops.toList = pre ++ [last] := by rw [← hp, ← hl, List.take_append_drop]
  simp only [Bool.and_eq_true, decide_eq_true_eq] at hd
  obtain ⟨h1, h2⟩ := hd
  rw [hp] at h1 h2
  rw [e] at h1
  refine V.drawEnd pre last e ρ hm ?_ hn h
  simp only [Bool.and_eq_true]
  rw [h2]
  exact h1
attribute [simp] endC
end Go.Proofs.YtbcjnmifflflfaaGreatDoor
end

section
namespace Go.Proofs.YtbcjnmifflflfaaGreatDoor
variable {P : Program}
theorem next_run {w : World} {b m c : Nat} {seen : Array Nat} {ms : Array MapEntry} (h1 : w.heap[b]? = some (.mapIter (some m) c seen c)) (h2 : w.heap[m]? = some (.map ms c)) (hst : ∀ e ∈ ms.toList, e.born < c) (ty : TypeId) :
    ((∀ e ∈ ms.toList, seen.contains e.born = true) ∧ ∃ d, (Instr.next (.pointer (some ⟨b, 0, none⟩)) false ty).run P w = .ok (.tuple #[.bool false]) { w with drawn := d }) ∨
    ∃ e d, e ∈ ms.toList ∧ seen.contains e.born = false ∧ (Instr.next (.pointer (some ⟨b, 0, none⟩)) false ty).run P w = .ok (.tuple #[.bool true, e.key, e.val]) { w with drawn := d, heap := w.heap.setIfInBounds b (.mapIter (some m) c (seen.push e.born) c) } := by
  have hno : (!seen.isEmpty && !ms.isEmpty && ms.all (·.born ≥ c)) = false := by
    by_cases hm : ms.isEmpty = true
    · simp [hm]
    · have : ∃ e, e ∈ ms.toList := by
        cases hl : ms.toList with
        | nil => exact absurd (by simpa [Array.isEmpty_iff] using hl) hm
        | cons e r => exact ⟨e, by simp⟩
      obtain ⟨e, he⟩ := this
      have hb := hst e he
      have : ms.all (fun e => decide (e.born ≥ c)) = false := by
        rw [Bool.eq_false_iff]
        intro hall
        rw [Array.all_eq_true'] at hall
        have := hall e (by simpa using he)
        simp at this
        omega
      simp [this]
  have hold : (ms.filter fun e => !seen.contains e.born).filter (·.born < c) = ms.filter fun e => !seen.contains e.born := by
    rw [Array.filter_eq_self]
    intro e he
    have := (Array.mem_filter.1 he).1
    simpa using hst e (by simpa using this)
  have hnew : (ms.filter fun e => !seen.contains e.born).filter (·.born ≥ c) = #[] := by
    rw [Array.filter_eq_empty_iff]
    intro e he
    have := (Array.mem_filter.1 he).1
    have := hst e (by simpa using this)
    simp
    omega
  obtain ⟨lf, hl⟩ : ∃ lf, lf = ms.filter fun e => !seen.contains e.born := ⟨_, rfl⟩
  rw [← hl] at hold hnew
  have hob : (getObj b).run P w = .ok (.mapIter (some m) c seen c) w := by simp [getObj, Sem.run, h1]
  have hom : (getObj m).run P w = .ok (.map ms c) w := MapKept.run_getObj_map h2
  by_cases hle : lf.isEmpty = true
  · refine .inl ⟨?_, w.drawn, ?_⟩
    · intro e he
      have h3 : lf = #[] := by simpa [Array.isEmpty_iff] using hle
      rw [h3] at hl
      have := Array.filter_eq_empty_iff.1 hl.symm e (by simpa using he)
      simpa using this
    · simp only [Instr.next, Sem.run_bind, hob, Result.andThen_ok, hom]
      rw [hno]
      simp only [Bool.false_eq_true, if_false, ← hl, hold, hnew, hle, if_true, Sem.run_bind, Sem.run_pure, Result.andThen_ok]
      have h3 : lf = #[] := by simpa [Array.isEmpty_iff] using hle
      rw [h3]
      simp [Question.forced]
  · have hne : 0 < lf.size := by
      rcases Nat.eq_zero_or_pos lf.size with h | h
      · exact absurd (by simpa [Array.isEmpty] using h) hle
      · exact h
    have hin : ∀ i (hi : i < lf.size), lf[i] ∈ ms.toList ∧ seen.contains lf[i].born = false := by
      intro i hi
      have h3 : lf[i] ∈ ms.filter fun e => !seen.contains e.born := by
        have := Array.getElem_mem hi
        generalize lf[i] = z at *
        rw [hl] at this
        exact this
      have h4 := Array.mem_filter.1 h3
      exact ⟨by simpa using h4.1, by simpa using h4.2⟩
    have hpart : ∀ i (hi : i < lf.size) d, (∀ k : Nat → Sem Value, (choose (.mapNext lf.size) >>= k).run P w = (k i).run P { w with drawn := d }) →
        (Instr.next (.pointer (some ⟨b, 0, none⟩)) false ty).run P w = .ok (.tuple #[.bool true, lf[i].key, lf[i].val]) { w with drawn := d, heap := w.heap.setIfInBounds b (.mapIter (some m) c (seen.push lf[i].born) c) } := by
      intro i hi d hk
      simp only [Instr.next, Sem.run_bind, hob, Result.andThen_ok, hom]
      rw [hno]
      simp only [Bool.false_eq_true, if_false, ← hl, hold, hnew]
      rw [if_neg (by simpa using hle)]
      simp only [Array.append_empty, Array.empty_append, Array.size_map]
      refine (hk _).trans ?_
      simp [hi, setObj, Sem.run, h1]
    by_cases h1s : lf.size ≤ 1
    · obtain ⟨a1, a2⟩ := hin 0 hne
      refine .inr ⟨lf[0], w.drawn, a1, a2, hpart 0 hne w.drawn fun k => ?_⟩
      simp [choose, Sem.run, Question.forced, h1s, bind, Sem.bind]
    · have hi := Nat.mod_lt (w.tape w.drawn (.mapNext lf.size)) hne
      obtain ⟨a1, a2⟩ := hin _ hi
      refine .inr ⟨_, w.drawn + 1, a1, a2, hpart _ hi (w.drawn + 1) fun k => ?_⟩
      simp [choose, Sem.run, Question.forced, h1s, Question.cut, bind, Sem.bind]
end Go.Proofs.YtbcjnmifflflfaaGreatDoor
end

section
namespace Go.Proofs.YtbcjnmifflflfaaGreatDoor
variable {P : Program}
theorem drew_le {x y : X} (h1 : y.w.heap = x.w.heap) (h2 : y.w.os = x.w.os) (h3 : y.w.output = x.w.output) (h4 : y.w.tape = x.w.tape) (h5 : y.ok = x.ok) (h6 : x.w.drawn ≤ y.w.drawn) {H : Heap} (hi : Inv x H) : x.le y ∧ Inv y H := by
  have hle : x.le y := ⟨fun b hb => ⟨by rw [h5]; exact hb, by rw [h1]⟩, h2, h3, h4, by rw [h1]; exact Nat.le_refl _, h6⟩
  refine ⟨hle, hi.step hle (fun b hb => ?_) (fun b hb => .inl (by rw [← h5]; exact hb)) (fun p _ b _ => by rw [h1])⟩
  rw [h5] at hb
  rw [h1]
  exact hi.bd b hb
theorem W.nextMap {C : Cfg} {id : Nat} {ops : Array Oper} {o : Oper} {rest : List Oper} (hops : ops.toList = o :: rest) {t0 : Nat} (ho : o.op = .next (.tmp t0) false) (hg : o.guard = none)
    {E : Env} {R : Heap} {Q : PostQ} {g b1 m c : Nat} {seen : Array Nat} {ms : Array MapEntry} (hms : ∀ e ∈ ms.toList, e.born < c) (hE : E t0 = .ptr g b1 0) (hf : fitsOps C.n ops.toList = true)
    (h1 : (∀ e ∈ ms.toList, seen.contains e.born = true) → vcOps C.P ops.toList rest (put E o.dst (.tuple [.dat (.bool false)])) ((g, .raw b1 (.mapIter (some m) c seen c)) :: (89, .raw m (.map ms c)) :: R) fun E' H' => Q .normal E' H')
    (h2 : ∀ e ∈ ms.toList, seen.contains e.born = false → vcOps C.P ops.toList rest (put E o.dst (.tuple [.dat (.bool true), .any, .any])) ((g, .raw b1 (.mapIter (some m) c (seen.push e.born) c)) :: (89, .raw m (.map ms c)) :: R) fun E' H' => Q .normal E' H') :
    W C (.region id ops false) E ((g, .raw b1 (.mapIter (some m) c seen c)) :: (89, .raw m (.map ms c)) :: R) Q := by
  intro x act H0 mks hi he
  have hfo := fitsOps_ok hf
  have hf0 : fits C.n o.dst := hfo o (by rw [hops]; simp)
  have hfr : ∀ o' ∈ rest, fits C.n o'.dst := fun o' ho' => hfo o' (by rw [hops]; simp [ho'])
  have key : wpListIn (fw C.r) 0 C.P ops.toList.toArray (Post C.n H0 Q x) ops.toList act x.w := by
    conv => arg 6; rw [hops]
    simp only [wpListIn]
    have hw : Region.wanted o (yielded ops.toList.toArray act.tmps) = true := by simp [Region.wanted, hg]
    rw [if_pos hw]
    refine ⟨fun _ _ => trivial, ?_⟩
    have hdf : isDefer o.op = false := by rw [ho]; rfl
    rw [semAt_exec _ _ hdf]
    have hs1 : x.w.heap[b1]? = some (.mapIter (some m) c seen c) := hi.sat (g, .raw b1 (.mapIter (some m) c seen c)) (by simp)
    have hs2 : x.w.heap[m]? = some (.map ms c) := hi.sat (89, .raw m (.map ms c)) (by simp)
    have hd := he.slot t0
    rw [hE] at hd
    simp only [D] at hd
    have hx : ∀ {v : Value} {w' : World}, (Instr.next (.pointer (some ⟨b1, 0, none⟩)) false o.type).run C.P x.w = .ok v w' → (execOp act.eval o).run C.P x.w = .ok (.value v) w' := by
      intro v w' h
      have hev : act.eval (.tmp t0) = .pointer (some ⟨b1, 0, none⟩) := hd
      obtain ⟨dst, op, type, pos, after, guard⟩ := o
      simp only at ho
      subst ho
      simp only [execOp, hev]
      simp [h]
    rcases next_run (P := C.P) hs1 hs2 hms o.type with ⟨ha, d, hr⟩ | ⟨e, d, hem, hes, hr⟩
    · rw [hx hr]
      obtain ⟨hle, hiy⟩ := drew_le (x := x) (y := ⟨{ x.w with drawn := d }, x.ok⟩) rfl rfl rfl rfl rfl (Sem.run_drawn _ _ hr) hi
      exact vcOps_ok (C := C) (ops := ops.toList) (Q := Post C.n H0 Q x) (x0 := x) (H0 := marks mks ++ H0) rest _ _ _ hfr (h1 ha)
        (fun E' H' y a hk hle' hi' he' => ⟨y, E', H', mks, rfl, hle', hi', he', hk⟩) ⟨{ x.w with drawn := d }, x.ok⟩ _ hle hiy ((he.mono hle).put hf0 (by simp only [D]; exact ⟨_, rfl, by simp [Ds, D, RdL]⟩))
    · rw [hx hr]
      obtain ⟨hle1, hi1⟩ := raw_turn (H := (g, .raw b1 (.mapIter (some m) c seen c)) :: (89, .raw m (.map ms c)) :: R) (H0 := marks mks ++ H0) (g := g) (b := b1) (o := .mapIter (some m) c seen c) (o' := .mapIter (some m) c (seen.push e.born) c) hi (by simp [hget])
      obtain ⟨hle2, hi2⟩ := drew_le (x := ⟨{ x.w with heap := x.w.heap.setIfInBounds b1 (.mapIter (some m) c (seen.push e.born) c) }, x.ok⟩) (y := ⟨{ x.w with drawn := d, heap := x.w.heap.setIfInBounds b1 (.mapIter (some m) c (seen.push e.born) c) }, x.ok⟩) rfl rfl rfl rfl rfl (show x.w.drawn ≤ d from Sem.run_drawn _ _ hr) hi1
      have hle := hle1.trans hle2
      rw [show happ (some (g, .raw b1 (.mapIter (some m) c (seen.push e.born) c))) ((g, .raw b1 (.mapIter (some m) c seen c)) :: (89, .raw m (.map ms c)) :: R) = (g, .raw b1 (.mapIter (some m) c (seen.push e.born) c)) :: (89, .raw m (.map ms c)) :: R by simp [happ, hget, hset]] at hi2
      exact vcOps_ok (C := C) (ops := ops.toList) (Q := Post C.n H0 Q x) (x0 := x) (H0 := marks mks ++ H0) rest _ _ _ hfr (h2 e hem hes)
        (fun E' H' y a hk hle' hi' he' => ⟨y, E', H', mks, rfl, hle', hi', he', hk⟩) ⟨{ x.w with drawn := d, heap := x.w.heap.setIfInBounds b1 (.mapIter (some m) c (seen.push e.born) c) }, x.ok⟩ _ hle hi2 ((he.mono hle).put hf0 (by simp only [D]; exact ⟨_, rfl, by simp [Ds, D, RdL]⟩))
  exact wpIn_region_list (by simpa using key)
theorem unseen_lt {ms : List MapEntry} {seen : Array Nat} {e : MapEntry} (he : e ∈ ms) (hs : seen.contains e.born = false) :
    (ms.filter fun x => !(seen.push e.born).contains x.born).length < (ms.filter fun x => !seen.contains x.born).length := by
  have hsub : ∀ l : List MapEntry, (l.filter fun x => !(seen.push e.born).contains x.born).length ≤ (l.filter fun x => !seen.contains x.born).length := by
    intro l
    induction l with
    | nil => simp
    | cons a l ih =>
      by_cases h1 : seen.contains a.born = true
      · have h2 : (seen.push e.born).contains a.born = true := by
          simp only [Array.contains_iff_mem] at h1 ⊢
          simp [h1]
        simp only [List.filter_cons, h1, h2, Bool.not_true, Bool.false_eq_true, if_false]
        exact ih
      · have h1' : seen.contains a.born = false := by simpa using h1
        cases h2 : (seen.push e.born).contains a.born <;> simp only [List.filter_cons, h1', h2, Bool.not_false, Bool.not_true, if_true, Bool.false_eq_true, if_false, List.length_cons] <;> omega
  induction ms with
  | nil => cases he
  | cons a l ih =>
    rcases List.mem_cons.1 he with rfl | he
    · have h2 : (seen.push e.born).contains e.born = true := by simp [Array.contains_iff_mem]
      simp only [List.filter_cons, hs, h2, Bool.not_true, Bool.false_eq_true, if_false, Bool.not_false, if_true, List.length_cons]
      have := hsub l
      omega
    · have ih := ih he
      by_cases h1 : seen.contains a.born = true
      · have h2 : (seen.push e.born).contains a.born = true := by
          simp only [Array.contains_iff_mem] at h1 ⊢
          simp [h1]
        simp only [List.filter_cons, h1, h2, Bool.not_true, Bool.false_eq_true, if_false]
        exact ih
      · have h1' : seen.contains a.born = false := by simpa using h1
        cases h2 : (seen.push e.born).contains a.born <;> simp only [List.filter_cons, h1', h2, Bool.not_false, Bool.not_true, if_true, Bool.false_eq_true, if_false, List.length_cons] <;> omega
theorem V.rangeMap {C : Cfg} {id : Nat} {ops : Array Oper} {o : Oper} {rest : List Oper} {b : Code} (hops : ops.toList = o :: rest) {t0 : Nat} (ho : o.op = .next (.tmp t0) false) (hg : o.guard = none)
    {E : Env} {H kh : Heap} {Q : PostQ} {σ : Type} {kv : List (Nat × A)} (Lv : List Nat) (hkv : kv = Lv.map fun t => (t, E t)) (sl : σ → List (Nat × A)) (Hs : σ → Heap) (I : Array Nat → σ → Prop)
    {g b1 m c : Nat} {ms : Array MapEntry} (hst : ∀ e ∈ ms.toList, e.born < c) (ht0 : ∀ s, hdE kv (sl s) t0 = .ptr g b1 0) (s0 : σ)
    (h0 : I #[] s0) (hE0 : ∀ p ∈ sl s0, wk (E p.1) p.2) (hH0 : subN ((g, .raw b1 (.mapIter (some m) c #[] c)) :: (89, .raw m (.map ms c)) :: hcat (Hs s0) kh) H)
    (hr : ∀ seen s e, I seen s → e ∈ ms.toList → seen.contains e.born = false → vcOps C.P ops.toList rest (put (hdE kv (sl s)) o.dst (.tuple [.dat (.bool true), .any, .any]))
      ((g, .raw b1 (.mapIter (some m) c (seen.push e.born) c)) :: (89, .raw m (.map ms c)) :: hcat (Hs s) kh) fun E' H' => vcC C b E' H' (LoopQ Q fun E' H' =>
        ∃ s', I (seen.push e.born) s' ∧ (∀ p ∈ sl s', wk (E' p.1) p.2) ∧ (∀ p ∈ kv, E' p.1 = p.2) ∧ subN ((g, .raw b1 (.mapIter (some m) c (seen.push e.born) c)) :: (89, .raw m (.map ms c)) :: hcat (Hs s') kh) H'))
    (he : ∀ seen s, I seen s → (∀ e ∈ ms.toList, seen.contains e.born = true) → vcOps C.P ops.toList rest (put (hdE kv (sl s)) o.dst (.tuple [.dat (.bool false)]))
      ((g, .raw b1 (.mapIter (some m) c seen c)) :: (89, .raw m (.map ms c)) :: hcat (Hs s) kh) fun E' H' => vcC C b E' H' (LoopQ Q fun _ _ => False)) :
    V C (.loop (.seq (.region id ops false) b)) E H Q := by
  intro hf x act H0 mks hi hen
  have hf2 : fitsOps C.n ops.toList = true ∧ fitsC C.n b = true := by
    simp only [fitsC, Bool.and_eq_true] at hf
    exact hf
  have hhead : ∀ {s : σ} {E' : Env} {y : X} {a : Act} {ds : List Deferred}, EnvOK C.n ds y a E' → (∀ p ∈ sl s, wk (E' p.1) p.2) → (∀ p ∈ kv, E' p.1 = p.2) → EnvOK C.n ds y a (hdE kv (sl s)) := by
    intro s E' y a ds h h1 h2
    refine ⟨h.defers, h.size, sets_wk h.slot _ _ h1 (sets_wk h.slot _ _ ?_ fun t => by simp [anyE, D])⟩
    intro p hp
    rw [h2 p hp]
    simp
  have h00 : ∀ p ∈ kv, E p.1 = p.2 := by
    intro p hp
    rw [hkv] at hp
    obtain ⟨t, _, rfl⟩ := List.mem_map.1 hp
    rfl
  let HH : Array Nat → σ → Heap := fun seen s => (g, .raw b1 (.mapIter (some m) c seen c)) :: (89, .raw m (.map ms c)) :: hcat (Hs s) kh
  have key : W C (.loop (.seq (.region id ops false) b)) (hdE kv (sl s0)) (HH #[] s0) Q := by
    refine W.loop (fun n E' H' => ∃ seen s, I seen s ∧ (ms.toList.filter fun x => !seen.contains x.born).length = n ∧ E' = hdE kv (sl s) ∧ H' = HH seen s) _ ⟨#[], s0, h0, rfl, rfl, rfl⟩ ?_
    rintro n _ _ ⟨seen, s, hI, rfl, rfl, rfl⟩
    have hbody : W C (.seq (.region id ops false) b) (hdE kv (sl s)) (HH seen s) (LoopQ Q fun E' H' =>
        ∃ e s', e ∈ ms.toList ∧ seen.contains e.born = false ∧ I (seen.push e.born) s' ∧ (∀ p ∈ sl s', wk (E' p.1) p.2) ∧ (∀ p ∈ kv, E' p.1 = p.2) ∧ subN (HH (seen.push e.born) s') H') := by
      refine W.seq ?_
      refine W.nextMap hops ho hg hst (ht0 s) hf2.1 (fun ha => ?_) (fun e hem hes => ?_)
      · refine vcOps_mono rest (fun E' H' hq => ?_) (he seen s hI ha)
        refine (vcC_ok b E' H' _ hf2.2 hq).mono ?_
        intro ex E2 H2 h
        cases ex <;> first | exact h | exact h.elim
      · refine vcOps_mono rest (fun E' H' hq => ?_) (hr seen s e hI hem hes)
        refine (vcC_ok b E' H' _ hf2.2 hq).mono ?_
        intro ex E2 H2 h
        cases ex <;> first | exact h | exact h.elim | (obtain ⟨s', k1, k2, k3, k4⟩ := h; exact ⟨e, s', hem, hes, k1, k2, k3, k4⟩)
    intro x act H0 mks hi hen
    refine wpIn_mono (hbody x act H0 mks hi hen) ?_
    rintro ex a' w' ⟨y, E', H', ms', rfl, hle, hi', he', hq⟩
    cases ex with
    | normal =>
      obtain ⟨e, s', h1, h2, h3, h4, h5, h6⟩ := hq
      exact ⟨y, _, _, ms', rfl, hle, subN_inv h6 hi', hhead he' h4 h5, _, unseen_lt h1 h2, seen.push e.born, s', h3, rfl, rfl, rfl⟩
    | exit k => exact ⟨y, E', H', ms', rfl, hle, hi', he', hq⟩
    | ret => exact ⟨y, E', H', ms', rfl, hle, hi', he', hq⟩
    | goto k => exact hq.elim
    | panic k => exact hq.elim
    | outgrown => exact hq.elim
  exact key x act H0 mks (subN_inv hH0 hi) (hhead hen hE0 h00)
end Go.Proofs.YtbcjnmifflflfaaGreatDoor
end

section
namespace Go.Proofs.YtbcjnmifflflfaaGreatDoor
set_option maxHeartbeats 8000000
set_option maxRecDepth 10000
theorem V.ex {P : Program} {C : Cfg} {c : Code} {E : Env} {H : Heap} {Q : PostQ} {ι : Type} (Hs : ι → Heap) (hi : ∀ x H0, Inv x (H ++ H0) → ∃ i, Inv x (Hs i ++ H0)) (h : ∀ i, V C c E (Hs i) Q) : V C c E H Q := by
  intro hf x act H0 ms hx he
  obtain ⟨i, hi⟩ := hi x _ hx
  exact h i hf x act H0 ms hi he
structure RawK (ns : List Int) (ms : Array MapEntry) (c : Nat) : Prop where
  keys : ms.toList.map (·.key) = ns.map (Value.int .i64)
  vals : ∀ e ∈ ms.toList, e.val = .bool true
  st : MapKept.Stamped ms c
theorem mapOK_keys {x : X} : ∀ {ns : List Int} {ms : List MapEntry}, MapOK x (mapK ns) ms → ms.map (·.key) = ns.map (Value.int .i64) ∧ ∀ e ∈ ms, e.val = .bool true
  | [], [], _ => by simp
  | [], _ :: _, h => by simp [mapK, MapP] at h
  | _ :: _, [], h => by simp [mapK, MapP] at h
  | n :: ns, m :: ms, h => by
    have h' : MapOK x ((.int .i64 n, .bool true) :: mapK ns) (m :: ms) := h
    simp only [MapP] at h'
    obtain ⟨h1, h2, h3⟩ := h'
    obtain ⟨k1, k2⟩ := mapOK_keys h3
    have h4 : m.key = .int .i64 n := by simpa [kv] using h1
    have h5 : m.val = .bool true := by simpa [RdL] using h2
    refine ⟨by simp [h4, k1], fun e he => ?_⟩
    rcases List.mem_cons.1 he with rfl | he
    · exact h5
    · exact k2 e he
theorem rot3 {α : Type} (a b c : α) (R : List α) : (c :: a :: b :: R).Perm (a :: b :: c :: R) := (List.perm_middle (l₁ := [a, b])).symm
theorem rawK_open {x : X} {c : Control} {b5 b6 r : Nat} {ns : List Int} {H0 : Heap} (h : Inv x (mkH c b5 b6 r ns ++ H0)) : ∃ p : {p : Array MapEntry × Nat // RawK ns p.1 p.2}, Inv x ([(6, .box b6 [.fn 109 [] (capM c b5 b6)]), (5, .box b5 [.map 89 r]), (89, .raw r (.map p.1.1 p.1.2))] ++ H0) := by
  have h1 : Inv x ((10, .map r (.int .i64) (mapK ns)) :: (6, .box b6 [.fn 109 [] (capM c b5 b6)]) :: (5, .box b5 [.map 10 r]) :: H0) := h.perm (rot3 _ _ _ _)
  obtain ⟨ms, cl, k1, k2, k3, k4⟩ := h1.sat (10, .map r (.int .i64) (mapK ns)) (by simp)
  obtain ⟨e1, e2⟩ := mapOK_keys k2
  refine ⟨⟨(ms, cl), e1, e2, k3⟩, ?_⟩
  have h2 : Inv x ((10, .raw r (.map ms cl)) :: (6, .box b6 [.fn 109 [] (capM c b5 b6)]) :: (5, .box b5 [.map 10 r]) :: H0) := h1.same (fun _ h => h) fun _ => k1
  have h3 := h2.perm (rot3 _ _ _ _)
  have h4 : Inv x ((5, .box b5 [.map 89 r]) :: (10, .raw r (.map ms cl)) :: (6, .box b6 [.fn 109 [] (capM c b5 b6)]) :: H0) := h3.same (fun _ h => h) (by
    rintro ⟨cc, ty, j1, j2⟩
    refine ⟨cc, ty, j1, ?_⟩
    generalize cc.toList = l at j2 ⊢
    rcases l with _ | ⟨v, _ | ⟨w, l⟩⟩ <;> simp [Ds, D] at j2 ⊢
    exact j2)
  have h5 : Inv x ((5, .box b5 [.map 89 r]) :: (89, .raw r (.map ms cl)) :: (6, .box b6 [.fn 109 [] (capM c b5 b6)]) :: H0) := h4.ents (by simp)
  exact h5.perm (rot3 _ _ _ _)
theorem born_eq {ms : List MapEntry} (h : (ms.map (·.born)).Nodup) {a b : MapEntry} (ha : a ∈ ms) (hb : b ∈ ms) (e : a.born = b.born) : a = b := by
  induction ms with
  | nil => cases ha
  | cons m ms ih =>
    simp only [List.map_cons, List.nodup_cons] at h
    rcases List.mem_cons.1 ha with h1 | h1 <;> rcases List.mem_cons.1 hb with h2 | h2
    · rw [h1, h2]
    · exact absurd (List.mem_map.2 ⟨b, h2, by rw [← e, h1]⟩) h.1
    · exact absurd (List.mem_map.2 ⟨a, h1, by rw [e, h2]⟩) h.1
    · exact ih h.2 h1 h2
theorem key_eq {ms : List MapEntry} (h : (ms.map (·.key)).Nodup) {a b : MapEntry} (ha : a ∈ ms) (hb : b ∈ ms) (e : a.key = b.key) : a = b := by
  induction ms with
  | nil => cases ha
  | cons m ms ih =>
    simp only [List.map_cons, List.nodup_cons] at h
    rcases List.mem_cons.1 ha with h1 | h1 <;> rcases List.mem_cons.1 hb with h2 | h2
    · rw [h1, h2]
    · exact absurd (List.mem_map.2 ⟨b, h2, by rw [← e, h1]⟩) h.1
    · exact absurd (List.mem_map.2 ⟨a, h1, by rw [e, h2]⟩) h.1
    · exact ih h.2 h1 h2
theorem stand_at {ms : Array MapEntry} {seen : Array Nat} {e : MapEntry} (h : (ms.toList.map (·.born)).Nodup) (he : e ∈ ms.toList) : standM ms (seen.push e.born) = some e := by
  unfold standM
  rw [Array.back?_push]
  simp only
  rw [← Array.find?_toList]
  cases hf : ms.toList.find? (fun x => x.born == e.born) with
  | none =>
    rw [List.find?_eq_none] at hf
    exact absurd (hf e he) (by simp)
  | some e' =>
    have h1 := List.find?_some hf
    have h2 := List.mem_of_find?_eq_some hf
    rw [born_eq h h2 he (by simpa using h1)]
structure Seen (ns : List Int) (ms : Array MapEntry) (seen : Array Nat) (out : List Int) : Prop where
  nodup : out.Nodup
  mem : ∀ n : Int, n ∈ out ↔ ∃ e ∈ ms.toList, e.key = .int .i64 n ∧ seen.contains e.born = true
theorem Seen.step {ns : List Int} {ms : Array MapEntry} {cl : Nat} (hR : RawK ns ms cl) {seen : Array Nat} {out : List Int} (h : Seen ns ms seen out) {e : MapEntry} (he : e ∈ ms.toList) (hs : seen.contains e.born = false) :
    ∃ n, e.key = .int .i64 n ∧ e.val = .bool true ∧ n ∈ ns ∧ Seen ns ms (seen.push e.born) (out ++ [n]) := by
  have hk : e.key ∈ ms.toList.map (·.key) := List.mem_map.2 ⟨e, he, rfl⟩
  rw [hR.keys] at hk
  obtain ⟨n, hn, hkn⟩ := List.mem_map.1 hk
  refine ⟨n, hkn.symm, hR.vals e he, hn, ?_, ?_⟩
  · refine List.nodup_append.2 ⟨h.nodup, by simp, ?_⟩
    intro a ha b hb
    simp at hb
    subst hb
    rintro rfl
    obtain ⟨e', h1, h2, h3⟩ := (h.mem a).1 ha
    have := key_eq hR.st.2.2 h1 he (h2.trans hkn)
    subst this
    rw [hs] at h3
    cases h3
  · intro m
    rw [List.mem_append, h.mem m]
    constructor
    · rintro (⟨e', h1, h2, h3⟩ | h1)
      · exact ⟨e', h1, h2, by simp only [Array.contains_iff_mem] at h3 ⊢; simp [h3]⟩
      · simp at h1
        subst h1
        exact ⟨e, he, hkn.symm, by simp [Array.contains_iff_mem]⟩
    · rintro ⟨e', h1, h2, h3⟩
      by_cases h4 : e'.born = e.born
      · have := born_eq hR.st.2.1 h1 he h4
        subst this
        rw [← hkn] at h2
        injection h2 with _ h2
        exact .inr (by simp [h2])
      · refine .inl ⟨e', h1, h2, ?_⟩
        simp only [Array.contains_iff_mem] at h3 ⊢
        simp only [Array.mem_push] at h3
        rcases h3 with h3 | h3
        · exact h3
        · exact absurd h3 h4
theorem Seen.all {ns : List Int} {ms : Array MapEntry} {cl : Nat} (hR : RawK ns ms cl) {seen : Array Nat} {out : List Int} (h : Seen ns ms seen out) (ha : ∀ e ∈ ms.toList, seen.contains e.born = true) : ∀ n, n ∈ out ↔ n ∈ ns := by
  intro n
  rw [h.mem n]
  have hk : Value.int .i64 n ∈ ms.toList.map (·.key) ↔ n ∈ ns := by
    rw [hR.keys]
    simp
  rw [← hk]
  constructor
  · rintro ⟨e, h1, h2, _⟩; exact List.mem_map.2 ⟨e, h1, h2⟩
  · intro h1
    obtain ⟨e, h2, h3⟩ := List.mem_map.1 h1
    exact ⟨e, h2, h3, ha e h2⟩
theorem sort_need {c : Control} (hf : Fine c) (hp : PilC c) {out : List Int} (h1 : out.Nodup) (h2 : ∀ v, v ∈ out ↔ Need c v) : sortI out = needL c := by
  refine lt_ext ?_ (need_sorted c) ?_
  · have hs := sortI_sorted out
    have hp : (sortI out).Perm out := List.mergeSort_perm _ _
    have hn : (sortI out).Nodup := hp.nodup_iff.2 h1
    have := hs.and hn
    refine this.imp ?_
    intro a b ⟨h3, h4⟩
    have : a ≠ b := h4
    omega
  · intro z
    have hp : (sortI out).Perm out := List.mergeSort_perm _ _
    rw [hp.mem_iff, h2 z, mem_need hf ‹PilC c›]
theorem needed_fn (c : Control) (hf : Fine c) (hc : OkC c) (hp : PilC c) (hz : checkC c = 0) : CallFn Tryz.prog 54 [aC c, aIs (alikeC c)] (aIs (needL c)) := by
  have hact := hf.act
  obtain ⟨M, hM⟩ : ∃ M : Nat, c.actuators = M := ⟨c.actuators.toNat, by omega⟩
  have hpl := hp.1
  have hml := hp.2.1
  refine callFz_cut 5 Tryz.func54 rfl Tryz.ntmps54 (rs := [.tmp 4]) rfl (by kernel_rfl) (by simp) (by kernel_rfl) ?_
  simp
  intro r b5 b6
  refine V.forI (σ := List Int) M [2, 4, 5, 6, 13] (by simp; exact rfl) (fun i _ => [(14, aI i)]) (fun _ ns => mkH c b5 b6 r ns) (fun i ns => Grown c [] ns ∧ ∀ p, p ∈ c.plus.take i ∨ p ∈ c.minus.take i → firstC c ≤ clsL c p → clsL c p ∈ ns) [] ⟨.refl (by simp) (by simp), by simp⟩ (by simp) ⟨by simp [mapK]; exact rfl, by simp [mapK]⟩ ?_ ?_
  · rintro i ns hi ⟨hG, hI⟩
    have hip : i < c.plus.length := by omega
    have him : i < c.minus.length := by omega
    obtain ⟨p, hp1⟩ : ∃ p, c.plus[i]'hip = p := ⟨_, rfl⟩
    obtain ⟨m, hm1⟩ : ∃ m, c.minus[i]'him = m := ⟨_, rfl⟩
    have hpo : c.plus[i]? = some p := by rw [List.getElem?_eq_getElem hip, hp1]
    have hmo : c.minus[i]? = some m := by rw [List.getElem?_eq_getElem him, hm1]
    have hpm := List.mem_of_getElem? hpo
    have hmm := List.mem_of_getElem? hmo
    have hi2 : (i : Int) < c.actuators := by omega
    simp [hi2, hM, hi]
    refine V.drawEndK 6 (by simp; exact rfl) (by simp; exact rfl) (fun _ => none) (by kernel_rfl) (by kernel_rfl) (by simp) ?_
    simp [hip, hp1]
    have k1 := mark_s c hf hc hp hz b5 b6 r ((needL c).length + 1) ns p (by omega) (hp.2.2.1 p hpm) hG.nodup hG.need (fun h => .pilot (.inl hpm) h)
    refine k1.mono ?_
    rintro z H' ⟨ns1, rfl, rfl, hG1, hI1⟩
    have hG2 := hG.trans hG1
    have k2 := mark_s c hf hc hp hz b5 b6 r ((needL c).length + 1) ns1 m (by omega) (hp.2.2.2 m hmm) hG2.nodup hG2.need (fun h => .pilot (.inr hmm) h)
    simp
    refine V.drawEndK 6 (by simp; exact rfl) (by simp; exact rfl) (fun _ => none) (by kernel_rfl) (by kernel_rfl) (by simp) ?_
    simp [him, hm1]
    refine k2.mono ?_
    rintro z H' ⟨ns2, rfl, rfl, hG3, hI3⟩
    simp
    refine ⟨by omega, ns2, ⟨hG2.trans hG3, ?_⟩, by simp⟩
    intro w hw hw1
    rw [List.take_add_one, List.take_add_one, hpo, hmo] at hw
    rcases hw with hw | hw
    · rcases List.mem_append.1 hw with hw | hw
      · exact hG3.sub _ (hG1.sub _ (hI w (.inl hw) hw1))
      · simp at hw
        subst hw
        exact hG3.sub _ (hI1 hw1)
    · rcases List.mem_append.1 hw with hw | hw
      · exact hG3.sub _ (hG1.sub _ (hI w (.inr hw) hw1))
      · simp at hw
        subst hw
        exact hI3 hw1
  · rintro ns ⟨hG, hI⟩
    have hall := grown_all hG fun p hp1 => hI p (by rw [List.take_of_length_le (by omega), List.take_of_length_le (by omega)]; exact hp1)
    have hlt : ¬ ((M : Int) < c.actuators) := by omega
    have hnl : ns.length ≤ 1000 := by
      have h1 := nodup_len hG.nodup fun v hv => (mem_need hf hp).2 (hG.need v hv)
      have h2 := need_len hf hp
      have := hf.sig
      omega
    simp [hlt]
    refine V.ex (P := Tryz.prog) (fun p : {p : Array MapEntry × Nat // RawK ns p.1 p.2} => [(6, .box b6 [.fn 109 [] (capM c b5 b6)]), (5, .box b5 [.map 89 r]), (89, .raw r (.map p.1.1 p.1.2))]) (fun x H0 h => rawK_open h) ?_
    rintro ⟨⟨ms, cl⟩, hR⟩
    simp only at hR
    refine V.cut [(4, .nils), (5, .ptr 5 b5 0)] (by simp) (Hs := [(5, .box b5 [.map 89 r]), (89, .raw r (.map ms cl))]) (by simp) ?_
    simp
    intro b
    refine V.rangeMap (σ := Value × List Int) (kh := []) rfl rfl rfl [4, 33] (by simp; exact rfl) (fun s => [(8, .own 41 s.1)]) (fun s => [(41, .seq s.1 3 1 (s.2.map rI))]) (fun seen s => Seen ns ms seen s.2) (g := 33) (b1 := b) (m := r) (c := cl) (ms := ms) hR.st.1 (by simp) (.slice none 0 0, []) ⟨by simp, by simp⟩ (by simp) (by simp) ?_ ?_
    · rintro seen ⟨h0, out⟩ e hS he hes
      simp only at hS
      obtain ⟨n, hk, hv, hn, hS2⟩ := hS.step hR he hes
      have hst := stand_at (seen := seen) hR.st.2.1 he
      have hol : out.length ≤ 1000 := by
        have := nodup_len hS2.nodup (m := ns) (fun v hv => by
          obtain ⟨e', h1, h2, h3⟩ := (hS2.mem v).1 hv
          have hk : e'.key ∈ ms.toList.map (·.key) := List.mem_map.2 ⟨e', h1, rfl⟩
          rw [hR.keys] at hk
          obtain ⟨n', hn', hkn⟩ := List.mem_map.1 hk
          rw [h2] at hkn
          injection hkn with _ hkn
          rw [← hkn]
          exact hn')
        simp at this
        omega
      simp [hst, hk, hv, vL]
      exact fun u => ⟨by omega, u, out ++ [n], hS2, rfl, by simp⟩
    · rintro seen ⟨h0, out⟩ hS ha
      simp only at hS
      have hso := sort_need hf hp hS.nodup fun v => (hS.all hR ha v).trans (hall v).symm
      simp
      have hol : out.length < 4611686018427387904 := by
        have := nodup_len hS.nodup (m := ns) fun v hv => (hS.all hR ha v).1 hv
        omega
      refine (((sort_c (t := 41) (e := 3) (h := h0) (zs := out) hol).frame (H1 := [(33, _), (89, _)])).perm (rot3 _ _ _ [])).mono ?_
      rintro z H' ⟨_, ⟨rfl, rfl⟩, rfl⟩
      simp [hso]
theorem pil_of {c : Control} (h : checkC c = 0) : PilC c := by
  unfold checkC at h
  split at h
  · cases h
  · split at h
    · cases h
    · split at h
      · rename_i h1; exact absurd h h1
      · split at h
        · rename_i h1; exact absurd h h1
        · unfold pilotE at h
          split at h
          · cases h
          · split at h
            · cases h
            · rename_i h1 h2
              simp only [List.any_append, Bool.or_eq_true, List.any_eq_true, decide_eq_true_eq, not_or, not_exists, not_and] at h2
              refine ⟨by omega, by omega, fun p hp => ?_, fun p hp => ?_⟩
              · have := h2.1 p hp
                omega
              · have := h2.2 p hp
                omega
end Go.Proofs.YtbcjnmifflflfaaGreatDoor
end

section
namespace Go.Proofs.YtbcjnmifflflfaaGreatDoor
set_option maxHeartbeats 1000000
set_option maxRecDepth 10000
structure CarB (a b : Control) (ks : List Int) (s : State) (n : Nat) (p : CarT) : Prop where
  fits : ∀ (i : Nat) (x : Signal), i < n → a.signals[i]? = some x → x.kind ≠ 0 → ∀ j : Nat, carryJ a b ks i = j → p.1.getD j false = true ∧ p.2.1.getD j false = s.values.getD i false ∧ p.2.2.getD j 0 = s.timers.getD i 0
  known : ∀ j : Nat, p.1.getD j false = true → ∃ (i : Nat) (x : Signal), i < n ∧ a.signals[i]? = some x ∧ x.kind ≠ 0 ∧ carryJ a b ks i = j
theorem carry_char {a b : Control} {ks : List Int} {s : State} (hv : verifyQ a b ks = 0) (hr : rightC a s = 0) : ∀ n, n ≤ a.signals.length → ∀ {p}, carryP a b ks s n = some p → CarB a b ks s n p
  | 0, _, p, h => by
    obtain ⟨q, h1, h2⟩ := carry_zero a b ks s
    refine ⟨fun i x hi => absurd hi (Nat.not_lt_zero i), fun j hj => ?_⟩
    have : p = (List.replicate b.signals.length false, List.replicate b.signals.length false, List.replicate b.signals.length 0) := (Option.some.inj h).symm
    rw [this] at hj
    simp only [List.getD_eq_getElem?_getD, List.getElem?_replicate] at hj
    split at hj <;> cases hj
  | n + 1, hn, p, h => by
    cases hq : carryP a b ks s n with
    | none => rw [carryP, hq] at h; cases h
    | some q =>
      have ih := carry_char hv hr n (by omega) hq
      have hok := carry_ok hv hr n (by omega) hq
      rw [carryP_succ hq] at h
      have hx : a.signals[n]? = some a.signals[n] := List.getElem?_eq_getElem (by omega)
      rcases carry_step hv hr hx hok with ⟨k1, k⟩ | ⟨k1, j, t, v, hj, hks, hv0, ht0, k, k2⟩
      · rw [k] at h
        cases h
        refine ⟨fun i x hi hxi hk j hcj => ?_, fun j hj => ?_⟩
        · by_cases e : i = n
          · subst e
            rw [hx] at hxi
            cases hxi
            rcases k1 with k1 | k1
            · exact absurd k1 hk
            · unfold carryJ at hcj
              have := none_neg
              have := (fine_of (verify_zero hv).2.1).f0
              omega
          · exact ih.fits i x (by omega) hxi hk j hcj
        · obtain ⟨i, x, h1, h2⟩ := ih.known j hj
          exact ⟨i, x, by omega, h2⟩
      · rw [k] at h
        split at h
        · cases h
        rename_i hno
        cases h
        have hcj : carryJ a b ks n = j := by
          unfold carryJ
          rw [List.getD_eq_getElem?_getD, hks]
          show firstC b + (j : Int) - firstC b = j
          omega
        have hvd : s.values.getD n false = v := by rw [List.getD_eq_getElem?_getD, hv0]; rfl
        have htd : s.timers.getD n 0 = t := by rw [List.getD_eq_getElem?_getD, ht0]; rfl
        have hl1 := hok.l1
        have hl2 := hok.l2
        have hl3 := hok.l3
        have e1 : (q.1.set j true).getD j false = true := by rw [List.getD_eq_getElem?_getD, List.getElem?_set_self (by omega)]; rfl
        have e2 : (q.2.1.set j v).getD j false = v := by rw [List.getD_eq_getElem?_getD, List.getElem?_set_self (by omega)]; rfl
        have e3 : (q.2.2.set j t).getD j 0 = t := by rw [List.getD_eq_getElem?_getD, List.getElem?_set_self (by omega)]; rfl
        have g1 : ∀ m, j ≠ m → (q.1.set j true).getD m false = q.1.getD m false := fun m h => by rw [List.getD_eq_getElem?_getD, List.getElem?_set_ne h, ← List.getD_eq_getElem?_getD]
        have g2 : ∀ m, j ≠ m → (q.2.1.set j v).getD m false = q.2.1.getD m false := fun m h => by rw [List.getD_eq_getElem?_getD, List.getElem?_set_ne h, ← List.getD_eq_getElem?_getD]
        have g3 : ∀ m, j ≠ m → (q.2.2.set j t).getD m 0 = q.2.2.getD m 0 := fun m h => by rw [List.getD_eq_getElem?_getD, List.getElem?_set_ne h, ← List.getD_eq_getElem?_getD]
        refine ⟨fun i x hi hxi hk m hcm => ?_, fun m hm => ?_⟩
        · show (q.1.set j true).getD m false = true ∧ (q.2.1.set j v).getD m false = _ ∧ (q.2.2.set j t).getD m 0 = _
          by_cases e : i = n
          · subst e
            obtain rfl : j = m := by rw [hcj] at hcm; omega
            exact ⟨e1, by rw [e2, hvd], by rw [e3, htd]⟩
          · obtain ⟨f1, f2, f3⟩ := ih.fits i x (by omega) hxi hk m hcm
            by_cases hjm : j = m
            · subst hjm
              rw [f1, f2, f3, Bool.true_and, Bool.not_eq_true, Bool.or_eq_false_iff, bne_eq_false_iff_eq, bne_eq_false_iff_eq] at hno
              exact ⟨e1, by rw [e2, hno.1], by rw [e3, hno.2]⟩
            · exact ⟨by rw [g1 m hjm]; exact f1, by rw [g2 m hjm]; exact f2, by rw [g3 m hjm]; exact f3⟩
        · by_cases hjm : j = m
          · subst hjm
            exact ⟨n, _, by omega, hx, k1, hcj⟩
          · have hm2 : q.1.getD m false = true := by rw [← g1 m hjm]; exact hm
            obtain ⟨i, x, h1, h2⟩ := ih.known m hm2
            exact ⟨i, x, by omega, h2⟩
section red
variable {c : Control} (hz : checkC c = 0)
include hz
theorem car_at {i : Nat} {x : Signal} (hx : c.signals[i]? = some x) : carryJ c (redC c) (keepP c) i = keepL c (firstC c + i) - firstC c := by
  have hi : i < c.signals.length := (List.getElem?_eq_some_iff.1 hx).1
  have h0 := (fine_of hz).f0
  unfold carryJ
  rw [keep_getD ⟨by omega, by rw [count_first]; omega⟩, red_first]
theorem carry_bel {s : State} (hr : rightC c s = 0) {p : CarT} (h : carryP c (redC c) (keepP c) s c.signals.length = some p) : Bel c s (carrySt s p) := by
  have hp := pil_of hz
  have hv := red_proves hz hp
  have hc := carry_char hv hr _ (Nat.le_refl _) h
  have hk := carry_ok hv hr _ (Nat.le_refl _) h
  obtain ⟨z1, z2, z3⟩ := right_zero hr
  refine ⟨z2, (right_zero (carry_right hv hr hk)).2.1, rfl, rfl, rfl, fun i y hy h1 h2 => ?_⟩
  have hi : i < c.signals.length := (List.getElem?_eq_some_iff.1 hy).1
  obtain ⟨w, -, hw, hw2⟩ := carry_in hv hy h1
  have hcj := car_at hz hy
  have hkd := keep_getD (c := c) (k := firstC c + i) ⟨by have := (fine_of hz).f0; omega, by rw [count_first]; omega⟩
  rw [hkd] at hw
  subst hw
  rcases hw2 with hw2 | ⟨j, z, hw2, -⟩
  · exact absurd hw2 h2
  · rw [red_first] at hw2
    exact (hc.fits i y hi hy h1 (keepL c (firstC c + i) - firstC c).toNat (by omega)).2
theorem red_src {j : Nat} {z : Signal} (hj : (redC c).signals[j]? = some z) : ∃ (i : Nat) (x : Signal), c.signals[i]? = some x ∧ z = redX c x ∧ keepL c (firstC c + i) = firstC c + j ∧ keepL c (firstC c + i) ≠ noneV := by
  have hf := fine_of hz
  have hp := pil_of hz
  have hj2 : ((needL c).map fun k => redX c (sigAt c k))[j]? = some z := hj
  rw [List.getElem?_map] at hj2
  cases hk : (needL c)[j]? with
  | none => rw [hk] at hj2; cases hj2
  | some k =>
    rw [hk] at hj2
    have hn := (mem_need hf hp).1 (List.mem_of_getElem? hk)
    obtain ⟨i, x, e, hx, -, hs, -⟩ := need_sig hf hp hn
    obtain ⟨k1, k2⟩ := keep_self hz hp hn
    have hpj := pos_at hk
    rw [hpj] at k1
    subst e
    refine ⟨i, x, hx, ?_, k1, k2⟩
    rw [Option.map_some, hs] at hj2
    exact (Option.some.inj hj2).symm
theorem carry_err {s : State} (hr : rightC c s = 0) (h : (carryQ c (redC c) (keepP c) s).2 ≠ 0) : (carryQ c (redC c) (keepP c) s).2 = 16 := by
  have hv := red_proves hz (pil_of hz)
  rw [carryQ, if_neg (by simp [hv]), if_neg (by simp [hr])] at h ⊢
  split
  · rfl
  · rename_i hp
    rw [hp] at h
    exact absurd rfl h
theorem carry_some {s t : State} (h : carryQ c (redC c) (keepP c) s = (t, 0)) (hr : rightC c s = 0) : ∃ p, Bel c s (carrySt s p) ∧ rightC (redC c) (carrySt s p) = 0 ∧ t = gatesP (redC c) (carrySt s p) := by
  have hv := red_proves hz (pil_of hz)
  rw [carryQ, if_neg (by simp [hv]), if_neg (by simp [hr])] at h
  split at h
  · cases h
  · rename_i p hp
    have hok := carry_ok hv hr _ (Nat.le_refl _) hp
    exact ⟨p, carry_bel hz hr hp, carry_right hv hr hok, (congrArg Prod.fst h).symm⟩
theorem carry_vals {s t : State} (h : carryQ c (redC c) (keepP c) s = (t, 0)) (hr : rightC c s = 0) : rightC (redC c) t = 0 ∧ ∀ k : Int, 0 ≤ k ∧ k < countC c → keepL c k = noneV ∨ 0 ≤ keepL c k ∧ keepL c k < (valuesOf t).length ∧ (valuesOf t).getD (keepL c k).toNat false = (valuesOf (gatesP c s)).getD k.toNat false := by
  have hp := pil_of hz
  obtain ⟨p, B, h2, rfl⟩ := carry_some hz h hr
  have h3 := gates_right h2
  refine ⟨h3, fun k hk => ?_⟩
  by_cases hn : keepL c k = noneV
  · exact .inl hn
  · have hl := valuesOf_length (right_zero h3).2.1
    have hkk := keep_kept hz hp hk hn
    exact .inr ⟨hkk.1, by omega, val_kept hz hp B hk hn⟩
end red
end Go.Proofs.YtbcjnmifflflfaaGreatDoor
end

section
namespace Go.Proofs.YtbcjnmifflflfaaGreatDoor
set_option maxHeartbeats 1000000
set_option maxRecDepth 10000
section red
variable {c : Control} (hz : checkC c = 0)
include hz
end red
end Go.Proofs.YtbcjnmifflflfaaGreatDoor
end

section
namespace Go.Proofs.YtbcjnmifflflfaaGreatDoor
set_option maxHeartbeats 1000000
set_option maxRecDepth 10000
def wantV (k : Int) (v : Bool) (t : Int) (on off : Bool) : Bool :=
  if k = 1 then (on != off) && (v != on) else if k = 2 then (if on = false then decide (t ≠ 0) else decide (t = 0)) else false
def wantAt (c : Control) (s : State) (i : Nat) : Bool := match c.signals[i]?, s.values[i]?, s.timers[i]? with
  | some x, some v, some t => wantV x.kind v t (evalE x.on (valuesOf s)) (x.kind == 1 && evalE x.off (valuesOf s))
  | _, _, _ => false
end Go.Proofs.YtbcjnmifflflfaaGreatDoor
end

section
namespace Go.Proofs.YtbcjnmifflflfaaGreatDoor
set_option maxHeartbeats 1000000
set_option maxRecDepth 10000
def wantsL (c : Control) (s : State) : List Nat := (List.range c.signals.length).filter (wantAt c s)
structure Calm (c : Control) (s : State) : Prop where
  right : rightC c s = 0
  gates : gatesP c s = s
theorem Calm.shape {c : Control} {s : State} (h : Calm c s) : shapeS c s := (right_zero h.right).2.1
theorem Calm.fine {c : Control} {s : State} (h : Calm c s) : Fine c := fine_of (right_zero h.right).1
theorem calm_of {c : Control} {s : State} (h : rightC c s = 0) : Calm c (gatesP c s) := ⟨gates_right h, gates_twice (fine_of (right_zero h).1) (right_zero h).2.1⟩
theorem sigS_at {c : Control} {s : State} {L : List Bool} {i : Nat} {x : Signal} {v : Bool} {t : Int} (hx : c.signals[i]? = some x) (hv : s.values[i]? = some v) (ht : s.timers[i]? = some t) :
    sigStep c s L i = stepV x.kind v t (evalE x.on L) (x.kind == 1 && evalE x.off L) := by simp only [sigStep, hx, hv, ht]
theorem sig_have {c : Control} {s : State} (h : shapeS c s) {i : Nat} (hi : i < c.signals.length) : ∃ x v t, c.signals[i]? = some x ∧ s.values[i]? = some v ∧ s.timers[i]? = some t :=
  ⟨_, _, _, List.getElem?_eq_getElem hi, List.getElem?_eq_getElem (by rw [h.2.2.2.1]; exact hi), List.getElem?_eq_getElem (by rw [h.2.2.2.2]; exact hi)⟩
theorem mem_wants {c : Control} {s : State} {i : Nat} : i ∈ wantsL c s ↔ i < c.signals.length ∧ wantAt c s i = true := by
  unfold wantsL
  rw [List.mem_filter, List.mem_range]
end Go.Proofs.YtbcjnmifflflfaaGreatDoor
end
