/- Texts joined by a program: Wr,Ws. -/
import Derived.Test.YtpadinblmjlggaaGreatDoorP28
set_option linter.unusedSimpArgs false
set_option linter.unusedVariables false

section
namespace Go.Proofs.YtpadinblmjlggaaGreatDoor
set_option maxHeartbeats 1000000
set_option maxRecDepth 10000
theorem net_has {nets : List (List PortZ)} {p : PortZ} (h : nets.getD (netW nets p) [] ≠ []) : nets[netW nets p]? = some (nets.getD (netW nets p) []) ∧ p ∈ nets.getD (netW nets p) []:=by
 rw [List.getD_eq_getElem?_getD] at h ⊢
 have hlt : netW nets p < nets.length:=by
  rcases Nat.lt_or_ge (netW nets p) nets.length with h1 | h1
  ·exact h1
  ·rw [List.getElem?_eq_none h1] at h
   exact absurd rfl h
 rw [List.getElem?_eq_getElem hlt]
 refine ⟨rfl,?_⟩
 have:=List.findIdx_getElem (w:=(hlt : List.findIdx _ nets < nets.length))
 obtain ⟨q,hq,he⟩:=List.any_eq_true.1 this
 show p ∈ nets[netW nets p]
 have e:=eq_of_beq he
 exact e ▸ hq
theorem pair_mem {c : Cir} {a b : Nat} {t : List UInt8} (h : pairZ (netsZ c) a b t = true) : ∃ (n : Nat) (l : List PortZ),(netsZ c)[n]? = some l ∧ l.length = 2 ∧ ((a : Int),t) ∈ l ∧ ((b : Int),t) ∈ l:=by
 unfold pairZ at h
 rw [Bool.and_eq_true,decide_eq_true_eq] at h
 obtain ⟨h1,h2⟩:=h
 have hne : (netsZ c).getD (netW (netsZ c) ((a : Int),t)) [] ≠ []:=fun e=>by rw [e] at h1; cases h1
 obtain ⟨g1,g2⟩:=net_has hne
 obtain ⟨q,hq,he⟩:=List.any_eq_true.1 h2
 exact ⟨_,_,g1,h1,g2,by rw [eq_of_beq he]; exact hq⟩
theorem two_mem {α : Type} {l : List α} {a b c : α} (hl : l.length = 2) (ha : a ∈ l) (hb : b ∈ l) (hc : c ∈ l) (h1 : a ≠ b) (h2 : c ≠ b) : a = c:=by
 rcases l with _ | ⟨x,_ | ⟨y,_ | ⟨z,l⟩⟩⟩ <;> simp only [List.length_nil,List.length_cons] at hl <;> try omega
 simp only [List.mem_cons,List.not_mem_nil,or_false] at ha hb hc
 rcases ha with rfl | rfl <;> rcases hb with rfl | rfl <;> rcases hc with rfl | rfl <;> first | rfl | exact absurd rfl h1 | exact absurd rfl h2
theorem drv_inj {c : Cir} (hd : drvE c.parts (netsZ c) = 0) {d e : Drv} (h1 : d ∈ (planZ c).drives) (h2 : e ∈ (planZ c).drives) (h : d.2 = e.2) : d.1 = e.1:=by
 obtain ⟨_,k1,_,_,b1⟩:=mem_drvN hd h1
 obtain ⟨_,k2,_,_,b2⟩:=mem_drvN hd h2
 have hv:=drvB_kind b1
 unfold drvB at b1 b2
 simp only [Bool.and_eq_true] at b1 b2
 obtain ⟨n,l,g1,g2,g3,g4⟩:=pair_mem b1.2.1
 obtain ⟨m,l2,f1,f2,f3,f4⟩:=pair_mem b2.2.1
 rw [← h] at f4
 obtain rfl:=netsZ_same g1 f1 g4 f4
 rw [g1] at f1
 simp only [Option.some.injEq] at f1
 subst f1
 have:=two_mem g2 g3 g4 f3 (fun e=>by
  simp only [Prod.mk.injEq] at e
  have : d.1 = d.2:=by omega
  rw [this] at k1
  omega) (fun e2=>by
  simp only [Prod.mk.injEq] at e2
  have : e.1 = d.2:=by omega
  rw [this] at k2
  omega)
 simp only [Prod.mk.injEq] at this
 omega
theorem driven_at {c : Cir} (hd : drvE c.parts (netsZ c) = 0) {k : Nat} {d : Drv} (hk : (planZ c).drives[k]? = some d) : drivenZ (planZ c).drives d.2 = some k:=by
 obtain ⟨hkl,hke⟩:=List.getElem?_eq_some_iff.1 hk
 unfold drivenZ
 rw [List.findIdx?_eq_some_iff_getElem]
 refine ⟨hkl,by rw [hke]; simp,fun j hj=>?_⟩
 simp only [Bool.not_eq_true,beq_eq_false_iff_ne]
 intro e
 have hin:=drv_inj hd (List.getElem_mem (by omega : j < (planZ c).drives.length)) (List.mem_of_getElem? hk) e
 have hnd : ((planZ c).drives.map (·.1)).Nodup:=by
  show ((drvN c.parts (netsZ c) c.parts.length).map (·.1)).Nodup
  unfold drvN
  rw [List.map_map,show ((fun x : Drv=>x.1) ∘ fun i=>(i,(valveZ c.parts (netsZ c) i).getD 0)) = id from rfl,List.map_id]
  exact List.Nodup.sublist List.filter_sublist (nodup_range _)
 refine List.pairwise_iff_getElem.1 hnd j k (by rw [List.length_map]; omega) (by rw [List.length_map]; omega) hj ?_
 rw [List.getElem_map,List.getElem_map,hke]
 exact hin
theorem onP_pos {p : Pln} {s : State} {i : Nat} (hi : i < p.ps.length) : onP (p.pos s) i = p.posB s i:=by
 unfold onP Pln.pos
 rw [List.getD_eq_getElem?_getD,List.getElem?_map,List.getElem?_range hi]
 simp only [Option.map_some,Option.getD_some]
 cases p.posB s i <;> rfl
theorem set_same {α : Type} {l m : List α} {k n : Nat} {v : α} (h : l[n]? = m[n]? ∨ n = k) (hv : m[k]? = some v) (hl : l.length = m.length) : (l.set k v)[n]? = m[n]?:=by
 rw [List.getElem?_set]
 by_cases e : k = n
 ·subst e
  obtain ⟨hk,_⟩:=List.getElem?_eq_some_iff.1 hv
  rw [if_pos rfl,if_pos (by omega),hv]
 ·rw [if_neg e]
  rcases h with h | h
  ·exact h
  ·exact absurd h.symm e
structure RtJ (p : Pln) (s t : State) (i : Nat) : Prop where
 val : ∀ j k,j < i → drivenZ p.drives j = some k → t.valves[k]? = s.valves[k]?
 inp : ∀ j,j < i → j ∈ p.butt → t.inputs[p.butt.idxOf j]? = s.inputs[p.butt.idxOf j]?
 vs : ∀ j,j < i → j ∈ p.valv → t.values[p.order.length + p.valv.idxOf j]? = s.values[p.order.length + p.valv.idxOf j]?
theorem vals_at {s : State} {nd nb : Nat} (he : s.ends.length = nd) (hb : s.inputs.length = nb) : (∀ n,n < 2 * nd → (valuesOf s)[n]? = (endsV s.ends)[n]?) ∧ (∀ n,n < nb → (valuesOf s)[2 * nd + n]? = s.inputs[n]?) ∧ ∀ n,(valuesOf s)[2 * nd + nb + n]? = s.values[n]?:=by
 have hl:=endsV_length s.ends
 unfold valuesOf
 refine ⟨fun n hn=>?_,fun n hn=>?_,fun n=>?_⟩
 ·rw [List.getElem?_append_left (by rw [List.length_append]; omega),List.getElem?_append_left (by omega)]
 ·rw [List.getElem?_append_left (by rw [List.length_append]; omega),List.getElem?_append_right (by omega)]
  congr 1
  omega
 ·rw [List.getElem?_append_right (by rw [List.length_append]; omega)]
  congr 1
  rw [List.length_append]
  omega
theorem valv_line {p : Pln} {j : Nat} (h : j ∈ p.valv) : p.line j = some (p.first + p.order.length + p.valv.idxOf j):=by
 rw [Pln.line_eq,valv_lineB h]
 simp only [h,if_true]
theorem butt_line {p : Pln} {j : Nat} (h : j ∈ p.butt) : p.line j = some (2 * p.drives.length + p.butt.idxOf j):=by
 obtain ⟨h1,h2⟩:=mem_buttN.1 h
 unfold Pln.line
 obtain ⟨x,hx⟩ : ∃ x,p.ps[j]? = some x:=⟨_,List.getElem?_eq_getElem h1⟩
 rw [hx]
 have hk:=kindOf_at hx
 simp only
 rw [if_pos (by omega)]
theorem driven_kind {p : Pln} (hD : p.D) {i k : Nat} (h : drivenZ p.drives i = some k) : kindOf p.ps i = 2 ∨ kindOf p.ps i = 3:=by
 obtain ⟨h1,h2,_⟩:=List.findIdx?_eq_some_iff_getElem.1 h
 have:=hD.val _ (List.getElem_mem h1)
 rwa [eq_of_beq h2] at this
theorem RtJ.step {p : Pln} {ct : Control} (hlim : ∀ x ∈ p.ps,x.kind = 6 → (∃ q b,x.name = q ++ [b] ∧ (b = 48 ∨ b = 49) ∧ ∃ k,p.drives.findIdx? (fun d=>(p.ps.getD d.1 x).name == q) = some k))
  {s t : State} {i : Nat} (hs : s.ends.length = p.drives.length ∧ s.valves.length = p.drives.length ∧ s.inputs.length = p.butt.length ∧ s.values.length = ct.signals.length)
  (hsig : p.order.length + p.valv.length ≤ ct.signals.length) (hD : p.D) (hi : i < p.ps.length) (h : RtJ p s t i) (ht : StS p ct s.ends t) :
  ∃ t',p.stStep ct (p.pos s) s.ends t i = .ok t' ∧ RtJ p s t' (i + 1):=by
 obtain ⟨g1,g2,g3,g4⟩:=hs
 obtain ⟨z1,z2,z3,z4,z5⟩:=ht
 obtain ⟨v1,v2,v3⟩:=vals_at g1 g3
 have hon:=onP_pos (s:=s) hi
 unfold Pln.stStep
 rw [hon]
 cases hz : drivenZ p.drives i with
 | some k=>
  have hkl:=drivenZ_lt hz
  have hv : s.valves[k]? = some (p.posB s i):=by
   unfold Pln.posB
   rw [hz]
   simp only
   rw [List.getD_eq_getElem?_getD,List.getElem?_eq_getElem (by omega)]
   rfl
  have hnb : ∀ j,j = i → j ∉ p.valv:=fun j hj hm=>by
   subst hj
   have:=(mem_valvN.1 hm).2.2
   rw [hz] at this
   cases this
  refine ⟨_,rfl,⟨fun j m hj hm=>?_,fun j hj hm=>?_,fun j hj hm=>?_⟩⟩
  ·refine set_same ?_ hv (by omega)
   by_cases e : j = i
   ·subst e
    rw [hz] at hm
    cases hm
    exact .inr rfl
   ·exact .inl (h.val j m (by omega) hm)
  ·by_cases e : j = i
   ·subst e
    have h1:=(mem_buttN.1 hm).2
    have h2:=driven_kind hD hz
    omega
   ·exact h.inp j (by omega) hm
  ·by_cases e : j = i
   ·exact absurd hm (hnb j e)
   ·exact h.vs j (by omega) hm
 | none=>
  simp only
  cases hn : p.line i with
  | none=>
   refine ⟨_,rfl,⟨fun j m hj hm=>?_,fun j hj hm=>?_,fun j hj hm=>?_⟩⟩
   ·by_cases e : j = i
    ·subst e; rw [hz] at hm; cases hm
    ·exact h.val j m (by omega) hm
   ·by_cases e : j = i
    ·subst e
     rw [butt_line hm] at hn
     cases hn
    ·exact h.inp j (by omega) hm
   ·by_cases e : j = i
    ·subst e
     rw [valv_line hm] at hn
     cases hn
    ·exact h.vs j (by omega) hm
  | some n=>
   simp only
   have hpB : p.posB s i = (valuesOf s)[n]?.getD false:=by
    unfold Pln.posB
    rw [hz]
    simp only
    rw [hn]
   have hval : ∀ j m,j < i + 1 → drivenZ p.drives j = some m → t.valves[m]? = s.valves[m]?:=fun j m hj hm=>by
    by_cases e : j = i
    ·subst e; rw [hz] at hm; cases hm
    ·exact h.val j m (by omega) hm
   rcases line_cases hlim hn with ⟨hk,hm,hne⟩ | ⟨hk,hne⟩ | ⟨hk7,hk6,hm,hne⟩
   ·rw [if_pos hk]
    have hil:=List.idxOf_lt_length_of_mem hm
    have hv : s.inputs[n - 2 * p.drives.length]? = some (p.posB s i):=by
     rw [hpB,hne,v2 _ (by omega),show 2 * p.drives.length + p.butt.idxOf i - 2 * p.drives.length = p.butt.idxOf i by omega,List.getElem?_eq_getElem (by omega)]
     rfl
    refine ⟨_,rfl,⟨hval,fun j hj hm2=>?_,fun j hj hm2=>?_⟩⟩
    ·refine set_same ?_ hv (by omega)
     by_cases e : j = i
     ·subst e
      exact .inr (by omega)
     ·exact .inl (h.inp j (by omega) hm2)
    ·by_cases e : j = i
     ·subst e
      have:=(mem_valvN.1 hm2).2.1
      rw [hk] at this
      exact absurd rfl this
     ·exact h.vs j (by omega) hm2
   ·rw [if_neg (by omega),if_pos hk,if_pos]
    ·refine ⟨_,rfl,⟨hval,fun j hj hm2=>?_,fun j hj hm2=>?_⟩⟩
     ·by_cases e : j = i
      ·subst e
       have:=(mem_buttN.1 hm2).2
       omega
      ·exact h.inp j (by omega) hm2
     ·by_cases e : j = i
      ·subst e
       have:=(mem_valvN.1 hm2).2.1
       rw [hk] at this
       exact absurd rfl this
      ·exact h.vs j (by omega) hm2
    ·rw [hpB,v1 n hne,endsV_get _ n (by omega)]
     rfl
   ·rw [if_neg hk7,if_neg hk6]
    have hil:=List.idxOf_lt_length_of_mem hm
    have hfst : p.first = 2 * p.drives.length + p.butt.length:=rfl
    have hv : s.values[n - p.first]? = some (p.posB s i):=by
     rw [hpB,hne,hfst,show 2 * p.drives.length + p.butt.length + p.order.length + p.valv.idxOf i = 2 * p.drives.length + p.butt.length + (p.order.length + p.valv.idxOf i) by omega,v3,show 2 * p.drives.length + p.butt.length + (p.order.length + p.valv.idxOf i) - (2 * p.drives.length + p.butt.length) = p.order.length + p.valv.idxOf i by omega,List.getElem?_eq_getElem (by omega)]
     rfl
    refine ⟨_,rfl,⟨hval,fun j hj hm2=>?_,fun j hj hm2=>?_⟩⟩
    ·by_cases e : j = i
     ·subst e
      exact absurd (mem_buttN.1 hm2).2 hk7
     ·exact h.inp j (by omega) hm2
    ·refine set_same ?_ hv (by omega)
     by_cases e : j = i
     ·subst e
      exact .inr (by omega)
     ·exact .inl (h.vs j (by omega) hm2)
theorem RtJ.fold {p : Pln} {ct : Control} (hlim : ∀ x ∈ p.ps,x.kind = 6 → (∃ q b,x.name = q ++ [b] ∧ (b = 48 ∨ b = 49) ∧ ∃ k,p.drives.findIdx? (fun d=>(p.ps.getD d.1 x).name == q) = some k))
  {s s0 : State} (hs : s.ends.length = p.drives.length ∧ s.valves.length = p.drives.length ∧ s.inputs.length = p.butt.length ∧ s.values.length = ct.signals.length)
  (hsig : p.order.length + p.valv.length ≤ ct.signals.length) (hD : p.D) (h0 : StS p ct s.ends s0) : ∀ i,i ≤ p.ps.length → ∃ t,p.stFold ct (p.pos s) s.ends s0 i = .ok t ∧ RtJ p s t i ∧ StS p ct s.ends t
 | 0,_=>⟨s0,rfl,⟨fun j k hj=>by omega,fun j hj=>by omega,fun j hj=>by omega⟩,h0⟩
 | i + 1,hi=>by
  obtain ⟨t,h1,h2,h3⟩:=RtJ.fold hlim hs hsig hD h0 i (by omega)
  obtain ⟨u,h4,h5⟩:=h2.step hlim hs hsig hD (by omega) h3
  exact ⟨u,by simp only [Pln.stFold,h1,h4],h5,h3.step h4⟩
theorem pil_kind (p : Pln) : ∀ n,∃ X : List Signal,(p.pil n).2.2 = p.sig0 ++ X ∧ ∀ x ∈ X,x.kind = 0
 | 0=>⟨[],by simp [Pln.pil],by simp⟩
 | n + 1=>by
  obtain ⟨X,h1,h2⟩:=pil_kind p n
  cases hd : p.drives[n]? with
  | none=>
   refine ⟨X,?_,h2⟩
   rw [← h1]
   unfold Pln.pil
   rw [List.take_of_length_le (List.getElem?_eq_none_iff.1 hd),List.take_of_length_le (Nat.le_trans (List.getElem?_eq_none_iff.1 hd) (by omega))]
  | some d=>
   rw [Pln.pil_succ p hd]
   unfold Pln.drvS
   by_cases hk : kindOf p.ps d.2 = 2
   ·exact ⟨X,by simp only [hk,if_true]; exact h1,h2⟩
   ·refine ⟨X ++ [p.sprS d.2],by simp only [hk,if_false]; rw [h1,List.append_assoc],fun x hx=>?_⟩
    rcases List.mem_append.1 hx with h | h
    ·exact h2 x h
    ·rw [List.mem_singleton.1 h]; rfl
theorem kind_valv {p : Pln} {k : Nat} (h : kindAt p.ctl k ≠ 0) : ∃ j,j ∈ p.valv ∧ k = p.order.length + p.valv.idxOf j:=by
 obtain ⟨X,h1,h2⟩:=pil_kind p p.drives.length
 have hsg : p.ctl.signals = p.order.map p.netS ++ p.valv.map p.movS ++ X:=h1
 unfold kindAt at h
 rw [hsg,Int.toNat_natCast] at h
 rcases Nat.lt_or_ge k p.order.length with a | a
 ·rw [List.append_assoc,List.getElem?_append_left (by simpa using a),List.getElem?_map,List.getElem?_eq_getElem a] at h
  exact absurd rfl h
 ·rcases Nat.lt_or_ge (k - p.order.length) p.valv.length with b | b
  ·refine ⟨p.valv[k - p.order.length],List.getElem_mem b,?_⟩
   rw [List.Nodup.idxOf_getElem (valv_nodup p)]
   omega
  ·rw [List.getElem?_append_right (by simp; omega)] at h
   cases hx : X[k - (List.map p.netS p.order ++ List.map p.movS p.valv).length]? with
   | none=>rw [hx] at h; exact absurd rfl h
   | some x=>
    rw [hx] at h
    exact absurd (h2 x (List.mem_of_getElem? hx)) h
theorem valv_kind {p : Pln} {j : Nat} (hj : j ∈ p.valv) : kindAt p.ctl (p.order.length + p.valv.idxOf j) ≠ 0:=by
 obtain ⟨X,h1,h2⟩:=pil_kind p p.drives.length
 have hsg : p.ctl.signals = p.order.map p.netS ++ p.valv.map p.movS ++ X:=h1
 have hil:=List.idxOf_lt_length_of_mem hj
 unfold kindAt
 rw [hsg,show ((p.order.length : Int) + (p.valv.idxOf j : Int)).toNat = p.order.length + p.valv.idxOf j by omega,List.getElem?_append_left (by simp; omega),List.getElem?_append_right (by simp),List.getElem?_map]
 simp only [List.length_map,Nat.add_sub_cancel_left]
 rw [List.getElem?_eq_getElem hil]
 simp only [Option.map_some,Option.getD_some,Pln.movS]
 split <;> decide
def offT (t : Int) : Int:=if t = 1 then 0 else t
def offS (s : State) : State:={ s with timers:=s.timers.map offT }
theorem gvals_tm (c : Control) (s : State) (tm : List Int) : ∀ j,gvals c { s with timers:=tm } j = gvals c s j
 | 0=>rfl
 | j + 1=>by
  simp only [gvals,gvals_tm c s tm j]
  rfl
theorem gates_tm (c : Control) (s : State) (tm : List Int) : gatesP c { s with timers:=tm } = { gatesP c s with timers:=tm }:=by
 unfold gatesP
 rw [gvals_tm]
theorem fits_zero {c : Control} {s : State} (h : fitsSt c s = 0) : shapeS c s ∧ s.ends.any (outR 4) = false ∧ s.timers.any (outR 3) = false ∧ ∀ i,i < s.timers.length → tsE c s i = 0:=by
 unfold fitsSt at h
 split at h
 ·cases h
 ·rename_i h1
  split at h
  ·cases h
  ·rename_i h2
   simp only [Bool.or_eq_true,not_or,Bool.not_eq_true] at h2
   exact ⟨by simpa using h1,h2.1,h2.2,fun i hi=>firstErr_zero h i hi⟩
theorem posB_many {c : Cir} (hr : CirR c) (hd : drvE c.parts (netsZ c) = 0) (s : State) (i : Nat) (h : (planZ c).posB s i = true) : manyK (kindOf c.parts i) = 2:=by
 unfold Pln.posB at h
 cases hz : drivenZ (planZ c).drives i with
 | some k=>
  rcases driven_kind (planZ_D hd) hz with e | e
  ·have e2 : kindOf c.parts i = 2:=e
   rw [e2]; rfl
  ·have e2 : kindOf c.parts i = 3:=e
   rw [e2]; rfl
 | none=>
  rw [hz] at h
  simp only at h
  cases hn : (planZ c).line i with
  | none=>rw [hn] at h; simp at h
  | some n=>
   rcases line_cases (planZ_lim hr) hn with ⟨hk,_,_⟩ | ⟨hk,_⟩ | ⟨_,_,hm,_⟩
   ·have e2 : kindOf c.parts i = 7:=hk
    rw [e2]; rfl
   ·have e2 : kindOf c.parts i = 6:=hk
    rw [e2]; rfl
   ·have:=(mem_valvN.1 hm).2.1
    have e2 : plusK (kindOf c.parts i) ≠ []:=this
    unfold plusK at e2
    unfold manyK
    split at e2 <;> first | simp_all | (exfalso; exact e2 rfl)
theorem returns_plain {c : Cir} (hb : buildE c = 0) {s : State} (hR : rightC (planZ c).ctl s = 0) :
  stateQ c ((planZ c).pos s) s.ends = (offS (gatesP (planZ c).ctl s),0) ∧ rightC (planZ c).ctl (offS (gatesP (planZ c).ctl s)) = 0 ∧ (planZ c).pos (offS (gatesP (planZ c).ctl s)) = (planZ c).pos s:=by
 obtain ⟨hr,hd,hch,_,hc0⟩:=build_zero hb
 obtain ⟨_,hsh,hfit⟩:=right_zero hR
 obtain ⟨_,hE,hT3,hts⟩:=fits_zero hfit
 have hf:=fine_of hch
 have hact : (planZ c).ctl.actuators = (planZ c).drives.length:=rfl
 have hinp : (planZ c).ctl.inputs.length = (planZ c).butt.length:=by
  show ((planZ c).butt.map _).length = _
  rw [List.length_map]
 have hps : (planZ c).ps = c.parts:=rfl
 obtain ⟨g1,g2,g3,g4,g5⟩:=id hsh
 have hsg : (planZ c).order.length + (planZ c).valv.length ≤ (planZ c).ctl.signals.length:=(pil_sig (planZ_B hr) (planZ_D hd)).2
 have hst : StS (planZ c) (planZ c).ctl s.ends { firstSt (planZ c).ctl with ends:=s.ends }:=by
  obtain ⟨q1,q2,q3,q4,q5⟩:=gatesP_shape (newSt_shape (fine_of hch))
  exact ⟨by simp only [firstSt]; omega,by simp only [firstSt]; omega,by simp only [firstSt]; omega,by simp only [firstSt]; omega,rfl⟩
 obtain ⟨T,hT,hJ,hS⟩:=RtJ.fold (planZ_lim hr) (s:=s) ⟨by omega,by omega,by omega,by omega⟩ hsg (planZ_D hd) hst c.parts.length (Nat.le_refl _)
 obtain ⟨hTm,_⟩:=stFold_tm (planZ_lim hr) (first_tm s.ends) hst c.parts.length T hT
 obtain ⟨z1,z2,z3,z4,z5⟩:=id hS
 have eV : T.valves = s.valves:=by
  refine List.ext_getElem? fun k=>?_
  rcases Nat.lt_or_ge k (planZ c).drives.length with h | h
  ·obtain ⟨d,hdk⟩ : ∃ d,(planZ c).drives[k]? = some d:=⟨_,List.getElem?_eq_getElem h⟩
   have hm:=mem_drvN hd (List.mem_of_getElem? hdk)
   exact hJ.val d.2 k hm.2.2.2.1 (driven_at hd hdk)
  ·rw [List.getElem?_eq_none (by omega),List.getElem?_eq_none (by omega)]
 have eI : T.inputs = s.inputs:=by
  refine List.ext_getElem? fun k=>?_
  rcases Nat.lt_or_ge k (planZ c).butt.length with h | h
  ·have hm:=List.getElem_mem h
   have hnd : (planZ c).butt.Nodup:=List.Nodup.sublist List.filter_sublist (nodup_range _)
   have:=hJ.inp _ (mem_buttN.1 hm).1 hm
   rwa [List.Nodup.idxOf_getElem hnd] at this
  ·rw [List.getElem?_eq_none (by omega),List.getElem?_eq_none (by omega)]
 have eK : ∀ k : Nat,kindAt (planZ c).ctl k ≠ 0 → T.values[k]? = s.values[k]?:=fun k hk=>by
  obtain ⟨j,hj,e⟩:=kind_valv hk
  rw [e]
  exact hJ.vs j (mem_valvN.1 hj).1 hj
 have eT : T.timers = s.timers.map offT:=by
  refine List.ext_getElem? fun k=>?_
  rw [List.getElem?_map]
  rcases Nat.lt_or_ge k (planZ c).ctl.signals.length with h | h
  ·obtain ⟨x,hx⟩ : ∃ x,(planZ c).ctl.signals[k]? = some x:=⟨_,List.getElem?_eq_getElem h⟩
   obtain ⟨v,hv⟩ : ∃ v,T.values[k]? = some v:=⟨_,List.getElem?_eq_getElem (by omega)⟩
   obtain ⟨w,hw⟩ : ∃ w,s.values[k]? = some w:=⟨_,List.getElem?_eq_getElem (by omega)⟩
   obtain ⟨t,ht⟩ : ∃ t,T.timers[k]? = some t:=⟨_,List.getElem?_eq_getElem (by omega)⟩
   obtain ⟨u,hu⟩ : ∃ u,s.timers[k]? = some u:=⟨_,List.getElem?_eq_getElem (by omega)⟩
   have h1:=hTm.ok.vals k x v t hx hv ht
   have h2:=hTm.ok.rng t (List.mem_of_getElem? ht)
   have h3:=hts k (by omega)
   unfold tsE at h3
   rw [hx,hw,hu] at h3
   simp only at h3
   unfold tstE at h3
   have h4 : ¬ ((x.kind ≠ 2 ∧ u ≠ 0) ∨ (x.kind = 2 ∧ w ≠ (u == 2))):=fun h=>by rw [if_pos h] at h3; cases h3
   have h5 : outR 3 u = false:=by
    have:=List.any_eq_false.1 hT3 u (List.mem_of_getElem? hu)
    simpa using this
   rw [ht,hu]
   simp only [Option.map_some,Option.some.injEq]
   by_cases hk : x.kind = 2
   ·have hk0 : kindAt (planZ c).ctl k ≠ 0:=by
     unfold kindAt
     rw [Int.toNat_natCast,hx]
     simp [hk]
    have e1:=eK k hk0
    rw [hv,hw] at e1
    simp only [Option.some.injEq] at e1
    have e2:=h1.2 hk
    have e3 : w = (u == 2):=Decidable.byContradiction fun h=>h4 (.inr ⟨hk,h⟩)
    rw [e1,e3] at e2
    unfold offT
    unfold outR at h5
    simp only [Bool.or_eq_false_iff,decide_eq_false_iff_not] at h5
    by_cases hu2 : u = 2
    ·rw [hu2] at e2 ⊢
     rcases h2 with rfl | rfl
     ·cases e2
     ·rfl
    ·have : (u == 2) = false:=by simpa using hu2
     rw [this] at e2
     rcases h2 with rfl | rfl
     ·split
      ·rfl
      ·omega
     ·cases e2
   ·have e1:=h1.1 hk
    have e2 : u = 0:=Decidable.byContradiction fun h=>h4 (.inl ⟨hk,h⟩)
    rw [e1,e2]
    rfl
  ·rw [List.getElem?_eq_none (by omega),List.getElem?_eq_none (by omega)]
   rfl
 have hTR : rightC (planZ c).ctl T = 0:=by
  unfold rightC
  rw [if_neg (by simp [hch])]
  refine fits_tm ⟨by rw [z5]; omega,by omega,by omega,z3,z4⟩ (by rw [z5]; exact hE) hTm.ok
 have hTsh:=(right_zero hTR).2.1
 have hG : gatesP (planZ c).ctl T = offS (gatesP (planZ c).ctl s):=by
  have h1 : shapeS (planZ c).ctl { s with timers:=T.timers }:=⟨g1,g2,g3,g4,z4⟩
  rw [gates_same hf h1 hTsh z5 eV eI rfl eK,gates_tm]
  unfold offS
  rw [eT]
  rfl
 refine ⟨?_,?_,?_⟩
 ·unfold stateQ
  rw [if_neg (by simp [hb]),if_neg,if_neg (by omega),if_neg (by simp [hE])]
  ·unfold stEnd
   rw [hT]
   simp only
   unfold gatesR
   rw [if_neg (by simp [hTR]),hG]
  ·have hpl : ((planZ c).pos s).length = c.parts.length:=by
    unfold Pln.pos
    rw [List.length_map,List.length_range,hps]
   rw [presE_good hc0 hpl fun i hi=>?_]
   ·simp
   ·unfold posOkB
    have e : ((planZ c).pos s).getD i 0 = numB ((planZ c).posB s i):=by
     unfold Pln.pos
     rw [List.getD_eq_getElem?_getD,List.getElem?_map,List.getElem?_range (by rw [hps]; exact hi)]
     rfl
    rw [e]
    cases hB : (planZ c).posB s i with
    | true=>
     rw [posB_many hr hd s i hB]
     rfl
    | false=>
     have : 0 < manyK (kindOf c.parts i):=by unfold manyK; split <;> omega
     simp [numB]
     omega
 ·rw [← hG]
  exact gates_right hTR
 ·have hGv : ∀ k : Nat,kindAt (planZ c).ctl k ≠ 0 → (gvals (planZ c).ctl s (planZ c).ctl.signals.length)[k]? = s.values[k]?:=fun k hk=>gvals_keep _ (.inl hk)
  obtain ⟨v1,v2,v3⟩:=vals_at (s:=s) (nd:=(planZ c).drives.length) (nb:=(planZ c).butt.length) (by omega) (by omega)
  obtain ⟨w1,w2,w3⟩:=vals_at (s:=offS (gatesP (planZ c).ctl s)) (nd:=(planZ c).drives.length) (nb:=(planZ c).butt.length) (by show s.ends.length = _; omega) (by show s.inputs.length = _; omega)
  have hB : ∀ i,(planZ c).posB (offS (gatesP (planZ c).ctl s)) i = (planZ c).posB s i:=fun i=>by
   unfold Pln.posB
   cases hz : drivenZ (planZ c).drives i with
   | some k=>rfl
   | none=>
    simp only
    cases hn : (planZ c).line i with
    | none=>rfl
    | some n=>
     simp only
     have e : (valuesOf (offS (gatesP (planZ c).ctl s)))[n]? = (valuesOf s)[n]?:=by
      rcases line_cases (planZ_lim hr) hn with ⟨_,hm,hne⟩ | ⟨_,hne⟩ | ⟨_,_,hm,hne⟩
      ·have hil:=List.idxOf_lt_length_of_mem hm
       rw [hne,v2 _ (by omega),w2 _ (by omega)]
       rfl
      ·rw [v1 n hne,w1 n hne]
       rfl
      ·have hfst : (planZ c).first = 2 * (planZ c).drives.length + (planZ c).butt.length:=rfl
       rw [hne,hfst,show 2 * (planZ c).drives.length + (planZ c).butt.length + (planZ c).order.length + (planZ c).valv.idxOf i = 2 * (planZ c).drives.length + (planZ c).butt.length + ((planZ c).order.length + (planZ c).valv.idxOf i) by omega,v3,w3]
       exact hGv _ (valv_kind hm)
     rw [e]
  unfold Pln.pos
  exact List.map_congr_left fun i _=>by rw [hB i]
end Go.Proofs.YtpadinblmjlggaaGreatDoor
end

section
namespace Go.Proofs.YtpadinblmjlggaaGreatDoor
set_option maxHeartbeats 4000000
set_option maxRecDepth 10000
theorem Gates_o (c : Control) (s : State) (hc : OkC c) (hs : SmS s) (hz : rightC c s = 0) : CallS Tryz.prog 18 [aC c,aSt s] [] fun r H'=>∃ hd,r = .tuple [stA 60 hd,aI 0] ∧ H' = stH 60 hd (gatesP c s):=by
 refine CallS.dropP (callS_of Tryz.func18 rfl Tryz.ntmps18 (rs:=[.cell 4 31,.tmp 5]) rfl (by kernel_rfl) (by simp) (by kernel_rfl) (K:=fun r H'=>∃ hd,r = .tuple [stA 60 hd,aI 0] ∧ subP (stH 60 hd (gatesP c s)) H') ?_) (fun r H' ⟨hd,h1,h2⟩=>⟨_,h2,hd,h1,rfl⟩)
 simp
 intro b4
 refine (Right_fn c s hc hs).s ?_
 simp
 obtain ⟨z1,z2,z3⟩:=right_zero hz
 simp [hz]
 refine (gates_o c s hc (fine_of z1) hs z2).s 60 fun hd=>?_
 simp [stA,stH,hget,packA,encSt]
 exact ⟨hd,⟨rfl,rfl,rfl,rfl,rfl⟩,⟨_,List.sublist_append_left [_,_,_,_,_] _,List.Perm.refl _⟩⟩
def goodB (c : Cir) : Bool:=fewB c && (buildE c == 0)
theorem controlQ_e (c : Cir) : (controlQ c).2 = buildE c:=by
 unfold controlQ
 split
 ·rename_i h; rw [h]
 ·rfl
theorem good_fn (c : Cir) (hl : Sh c.parts) (hl2 : Sh c.pipes) : CallFn Tryz.prog 13 [aCi c] (aB (goodB c)):=by
 have hf:=CirFew_fn c hl hl2
 unfold goodB
 cases hF : fewB c with
 | false=>
  rw [hF] at hf
  refine callFz_of Tryz.func13 rfl Tryz.ntmps13 (rs:=[.tmp 2]) rfl (by kernel_rfl) (by simp) (by kernel_rfl) ?_
  simp
  refine hf.s ?_
  simp
 | true=>
  rw [hF] at hf
  obtain ⟨hok,_⟩:=few_ok hF
  have hc:=ControlR30_fn c hok
  rw [controlQ_e] at hc
  generalize (controlQ c).1 = ct at hc
  generalize buildE c = e at hc ⊢
  refine callFz_of Tryz.func13 rfl Tryz.ntmps13 (rs:=[.tmp 2]) rfl (by kernel_rfl) (by simp) (by kernel_rfl) ?_
  simp
  refine hf.s ?_
  simp
  refine hc.s ?_
  simp
def tmI (l : List Int) (i : Nat) : List Int:=(l.take i).map offT ++ l.drop i
theorem tmI_zero (l : List Int) : tmI l 0 = l:=rfl
theorem tmI_all (l : List Int) : tmI l l.length = l.map offT:=by simp [tmI]
theorem tmI_len (l : List Int) (i : Nat) : (tmI l i).length = l.length:=by
 unfold tmI
 rw [List.length_append,List.length_map,List.length_take,List.length_drop]
 omega
theorem tmI_get {l : List Int} {i : Nat} (h : i < l.length) : (tmI l i)[i]? = l[i]?:=by
 unfold tmI
 rw [List.getElem?_append_right (by simp; omega)]
 simp only [List.length_map,List.length_take,Nat.min_eq_left (Nat.le_of_lt h),Nat.sub_self]
 rw [List.getElem?_drop]
 rfl
theorem tmI_set {l : List Int} {i : Nat} {z : Int} (h : l[i]? = some z) : (tmI l i).set i (offT z) = tmI l (i + 1):=by
 obtain ⟨hi,hz⟩:=List.getElem?_eq_some_iff.1 h
 unfold tmI
 rw [List.set_append_right _ _ (by simp; omega),List.take_add_one,h]
 simp only [List.length_map,List.length_take,Nat.min_eq_left (Nat.le_of_lt hi),Nat.sub_self,Option.toList_some,List.map_append,List.map_cons,List.map_nil,List.append_assoc,List.singleton_append]
 congr 1
 rw [List.drop_eq_getElem_cons hi]
 rfl
theorem tmI_same {l : List Int} {i : Nat} {z : Int} (h : l[i]? = some z) (hz : offT z = z) : tmI l (i + 1) = tmI l i:=by
 rw [← tmI_set h,hz]
 refine List.ext_getElem? fun k=>?_
 rw [List.getElem?_set]
 split
 ·rename_i e
  subst e
  have hi:=(List.getElem?_eq_some_iff.1 h).1
  rw [if_pos (by rw [tmI_len]; exact hi),tmI_get hi,h]
 ·rfl
abbrev rtE (c : Cir) (p : List Int) (b9 b11 : Nat) : List (Nat × A):=[(2,.rptr (encCi c)),(4,aB false),(7,aIs p),(8,aI 0),(9,.ptr 9 b9 0),(11,.ptr 11 b11 0)]
abbrev stL (hd : Nat → Value) (s : State) : Heap:=[(60,.seq (hd 0) 3 1 (s.ends.map rI)),(61,.seq (hd 1) 4 1 (s.valves.map rB)),(62,.seq (hd 2) 4 1 (s.inputs.map rB)),(63,.seq (hd 3) 4 1 (s.values.map rB)),(64,.seq (hd 4) 3 1 (s.timers.map rI))]
abbrev rtH (ct : Control) (T G : State) (b5 b9 b11 : Nat) (hd : Nat → Value) : Heap:=(11,.box b11 [.own 60 (hd 0),.own 61 (hd 1),.own 62 (hd 2),.own 63 (hd 3),.own 64 (hd 4)]) :: (9,.box b9 ((encSt T).map A.dat)) :: (5,.box b5 ((encC ct).map A.dat)) :: stL hd G
theorem returns_b {c : Cir} (hok : OkCir c) {ct : Control} {p : List Int} {U : State} (hp : Sh p) (hU : SmS U) (hq : positionsQ c U = (p,0)) (b5 b9 b11 : Nat) (hd : Nat → Value) :
  V ⟨Tryz.prog,none,109⟩ (restC Tryz.f4 9) (hdE (rtE c p b9 b11) []) (rtH ct U U b5 b9 b11 hd) (RetV Tryz.prog [.tmp 4] fun r' H'=>(frz H' r').1 ∧ (frz H' r').2 = aB true):=by
 have haw:=awake30_fn
 have h1:=Positions_fn c hok U hU
 rw [hq] at h1
 have h2:=SameStatesR_m U U hU hU
 rw [sameSt_self] at h2
 have h3:=eqI_fn p p hp hp
 simp only [decide_true] at h3
 refine V.rest rfl ?_
 refine V.of_vc ?_
 simp
 refine h1.s ?_
 simp
 refine GCall.sure ⟨by first | trivial | assumption,h2.lend (by simp [frzs,frz,hget,hdel,encSt]) rfl ?_⟩ (by first | trivial | assumption)
 simp
 refine GCall.fn (aB true) (fun h=>⟨h,h3⟩) ?_
 simp
 refine GCall.fn (aB true) (fun h=>⟨h,haw⟩) ?_
 simp
theorem returns_a {c : Cir} (hok : OkCir c) {ct : Control} {p : List Int} {G : State} (hp : Sh p) (hU : SmS (offS G)) (hq : positionsQ c (offS G) = (p,0)) (b5 b9 b11 : Nat) (hd : Nat → Value) :
  V ⟨Tryz.prog,none,109⟩ (restC Tryz.f4 8) (hdE (rtE c p b9 b11) []) (rtH ct (offS G) G b5 b9 b11 hd) (RetV Tryz.prog [.tmp 4] fun r' H'=>(frz H' r').1 ∧ (frz H' r').2 = aB true):=by
 have hb:=returns_b hok (ct:=ct) hp hU hq b5 b9 b11 hd
 have htl : G.timers.length ≤ 1000000:=by have:=hU.timers; simpa [offS] using this
 refine V.rest rfl ?_
 refine V.of_vcN 1 ?_
 simp
 refine V.forI (σ:=Unit) G.timers.length [2,4,7,8,9,11,74,75] (by simp; exact rfl) (fun i _=>[(76,aI i)]) (fun i _=>rtH ct (offS G) { G with timers:=tmI G.timers i } b5 b9 b11 hd) (fun _ _=>True) () trivial (by simp) ⟨by simp; exact rfl,by simp [tmI_zero]⟩ ?_ ?_
 ·rintro i - hi -
  obtain ⟨z,hz⟩ : ∃ z,G.timers[i]? = some z:=⟨_,List.getElem?_eq_getElem hi⟩
  have h1:=tmI_get hi
  rw [hz] at h1
  have h2:=tmI_set hz
  have h3:=fun e=>tmI_same hz e
  have hl:=tmI_len G.timers i
  generalize tmI G.timers i = W at *
  have hiW : i < W.length:=by omega
  have h4 : W[i] = z:=(List.getElem?_eq_some_iff.1 h1).2
  simp [hi,hiW,h1,h4]
  refine ⟨fun e=>⟨⟨by omega,by omega⟩,?_⟩,fun e=>⟨⟨by omega,by omega⟩,?_⟩⟩
  ·subst e
   rw [← h2,List.map_set]
   rfl
  ·rw [h3 (by unfold offT; rw [if_neg e])]
 ·rintro - -
  simp
  rw [tmI_all]
  exact V.cutV (Hs:=rtH ct (offS G) (offS G) b5 b9 b11 hd) (rtE c p b9 b11) (by simp) (by simp [offS]) (V.of_rest rfl hb)
theorem ExtractReturns_fn (c : Cir) (s : State) (hl : Sh c.parts) (hl2 : Sh c.pipes) (hs : OkSt s) : CallFn Tryz.prog 4 [aCi c,aSt s] (aB true):=by
 have haw:=awake30_fn
 have hgd:=good_fn c hl hl2
 have hfs:=FewStates_fn s hs
 cases hf : goodB c with
 | false=>
  rw [hf] at hgd
  refine callFz_of Tryz.func4 rfl Tryz.ntmps4 (rs:=[.tmp 4]) rfl (by kernel_rfl) (by simp) (by kernel_rfl) ?_
  simp
  refine hgd.s ?_
  simp
  refine GCall.never (fun h=>h) (aB false) ?_
  simp
  refine haw.s ?_
  simp
 | true=>
  rw [hf] at hgd
  unfold goodB at hf
  rw [Bool.and_eq_true,beq_iff_eq] at hf
  obtain ⟨hf1,hb⟩:=hf
  obtain ⟨hok,_⟩:=few_ok hf1
  cases hf2 : fewS s with
  | false=>
   rw [hf2] at hfs
   refine callFz_of Tryz.func4 rfl Tryz.ntmps4 (rs:=[.tmp 4]) rfl (by kernel_rfl) (by simp) (by kernel_rfl) ?_
   simp
   refine hgd.s ?_
   simp
   refine GCall.fn (aB false) (fun h=>⟨h,hfs⟩) ?_
   simp
   refine haw.s ?_
   simp
  | true=>
   rw [hf2] at hfs
   have hsm:=few_sm hf2
   obtain ⟨hr,hd,hch,hpl,hc0⟩:=build_zero hb
   obtain ⟨hpp,hpm,hoc⟩:=ctl_sizes (plR_of hpl)
   have hct:=ControlR30_fn c hok
   have hcq : controlQ c = ((planZ c).ctl,0):=by unfold controlQ; rw [if_pos hb]
   rw [hcq] at hct
   have hrt:=RightR_fn (planZ c).ctl s hoc hpp hpm hsm
   by_cases hz : rightC (planZ c).ctl s = 0
   ·obtain ⟨k1,k2,k3⟩:=returns_plain hb hz
    have hp1:=Positions_fn c hok s hsm
    have hpq : positionsQ c s = ((planZ c).pos s,0):=by
     unfold positionsQ
     rw [if_neg (by simp [hb]),if_neg (by simp [hz])]
    have hpq2 : positionsQ c (offS (gatesP (planZ c).ctl s)) = ((planZ c).pos s,0):=by
     unfold positionsQ
     rw [if_neg (by simp [hb]),if_neg (by simp [k2]),k3]
    have hpsh:=positionsQ_sh c s hl
    rw [hpq] at hp1 hpsh
    have hst:=State_fn c hok ((planZ c).pos s) s.ends hpsh hsm.ends
    rw [k1] at hst
    have hgo:=Gates_o (planZ c).ctl s hoc hsm hz
    obtain ⟨g1,g2,g3,g4,g5⟩:=hsm
    have hU : SmS (offS (gatesP (planZ c).ctl s)):=⟨g1,g2,g3,by show (gvals _ _ _).length ≤ _; rw [gvals_length]; exact g4,by show (s.timers.map offT).length ≤ _; rw [List.length_map]; exact g5⟩
    have hG : SmS (gatesP (planZ c).ctl s):=⟨g1,g2,g3,by show (gvals _ _ _).length ≤ _; rw [gvals_length]; exact g4,g5⟩
    have hr1:=RightR_fn (planZ c).ctl _ hoc hpp hpm hU
    have hr2:=RightR_fn (planZ c).ctl _ hoc hpp hpm hG
    rw [gates_right hz] at hr2
    rw [k2] at hr1
    rw [hz] at hrt
    have ha:=fun b5 b9 b11 hd=>returns_a hok (ct:=(planZ c).ctl) (p:=(planZ c).pos s) hpsh hU hpq2 b5 b9 b11 hd
    generalize (planZ c).pos s = p at *
    generalize hGs : gatesP (planZ c).ctl s = G at *
    generalize (planZ c).ctl = ct at *
    refine callFz_cut 8 Tryz.func4 rfl Tryz.ntmps4 (rs:=[.tmp 4]) rfl (by kernel_rfl) (by simp) (by kernel_rfl) ?_
    simp
    refine hgd.s ?_
    simp
    refine GCall.fn (aB true) (fun h=>⟨h,hfs⟩) ?_
    simp
    refine hct.s ?_
    simp
    intro b5
    refine hrt.s ?_
    simp
    refine hp1.s ?_
    simp
    refine hst.s ?_
    simp
    intro b9
    refine (hgo.frame (H1:=_)).mono ?_
    rintro r H' ⟨_,⟨hd,rfl,rfl⟩,rfl⟩
    simp [stA,stH]
    intro b11
    refine GCall.sure ⟨trivial,hr1.s ?_⟩ trivial
    simp
    refine GCall.sure ⟨trivial,hr2.lend (by simp [frzs,frz,hget,hdel,encSt]) rfl ?_⟩ trivial
    simp
    exact V.cutV (Hs:=rtH ct (offS G) G b5 b9 b11 hd) (rtE c p b9 b11) (by simp) (by simp [offS]) (V.of_rest rfl (ha b5 b9 b11 hd))
   ·refine callFz_of Tryz.func4 rfl Tryz.ntmps4 (rs:=[.tmp 4]) rfl (by kernel_rfl) (by simp) (by kernel_rfl) ?_
    simp
    refine hgd.s ?_
    simp
    refine GCall.fn (aB true) (fun h=>⟨h,hfs⟩) ?_
    simp
    refine hct.s ?_
    simp
    intro b5
    refine hrt.s ?_
    simp [hz]
    refine haw.s ?_
    simp
end Go.Proofs.YtpadinblmjlggaaGreatDoor
end
