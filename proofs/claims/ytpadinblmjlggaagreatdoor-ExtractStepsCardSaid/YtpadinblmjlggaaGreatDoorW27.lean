/- Texts joined by a program: Wq,Vca,Wr,Oa,Oc,Ob. -/
import Derived.Test.YtpadinblmjlggaaGreatDoorW26
import Derived.Test.YtpadinblmjlggaaGreatDoorW25
import Derived.Test.YtpadinblmjlggaaGreatDoorW15
set_option linter.unusedSimpArgs false
set_option linter.unusedVariables false
set_option maxHeartbeats 8000000
set_option maxRecDepth 100000
namespace Go.Proofs.YtpadinblmjlggaaGreatDoor
theorem few_ok {c:Cir}(h:fewB c=true):OkCir c∧c.parts.length<128:=by
 unfold fewB at h
 simp only[Bool.and_eq_true,Bool.or_eq_true,decide_eq_true_eq]at h
 obtain⟨⟨⟨h1,h2⟩,h3⟩,h4⟩:=h
 refine⟨⟨fun h64 p hp=>?_,by unfold Sh;omega,by unfold Sh;omega⟩,by omega⟩
 have h12:c.parts.length<=12:=by omega
 rw[List.take_of_length_le h12]at h1
 have:=List.all_eq_true.1 h1 p hp
 simp only[decide_eq_true_eq]at this
 omega
theorem positionsQ_sh (c:Cir) (s:State) (h:Sh c.parts):Sh (positionsQ c s).1:=by
 unfold positionsQ
 by_cases h0:buildE c=0
 ·by_cases h1:rightC (planZ c).ctl s=0
  ·simp only[h0,h1,ne_eq,not_true_eq_false,if_false]
   unfold Sh Pln.pos
   rw[List.length_map,List.length_range]
   exact h
  ·simp only[h0,h1,ne_eq,not_true_eq_false,if_false,not_false_iff,if_true]
   unfold Sh
   simp
 ·simp only[h0,ne_eq,not_false_iff,if_true]
  unfold Sh
  simp

theorem net_has {nets:List (List PortZ)}{p:PortZ}(h:nets.getD (netW nets p) []≠[]):nets[netW nets p]?=some (nets.getD (netW nets p) [])∧p∈nets.getD (netW nets p) []:=by
 rw[List.getD_eq_getElem?_getD]at h ⊢
 have hlt:netW nets p<nets.length:=by
  rcases Nat.lt_or_ge (netW nets p) nets.length with h1 | h1
  ·exact h1
  ·rw[List.getElem?_eq_none h1]at h
   exact absurd rfl h
 rw[List.getElem?_eq_getElem hlt]
 refine⟨rfl,?_⟩
 have:=List.findIdx_getElem (w:=(hlt:List.findIdx _ nets<nets.length))
 obtain⟨q,hq,he⟩:=List.any_eq_true.1 this
 show p∈nets[netW nets p]
 have e:=eq_of_beq he
 exact e▸hq
theorem pair_mem {c:Cir}{a b:Nat}{t:List UInt8}(h:pairZ (netsZ c) a b t=true):∃(n:Nat) (l:List PortZ),(netsZ c)[n]?=some l∧l.length=2∧((a:Int),t)∈l∧((b:Int),t)∈l:=by
 unfold pairZ at h
 rw[Bool.and_eq_true,decide_eq_true_eq]at h
 obtain⟨h1,h2⟩:=h
 have hne:(netsZ c).getD (netW (netsZ c) ((a:Int),t)) []≠[]:=fun e=>by rw[e]at h1;cases h1
 obtain⟨g1,g2⟩:=net_has hne
 obtain⟨q,hq,he⟩:=List.any_eq_true.1 h2
 exact⟨_,_,g1,h1,g2,by rw[eq_of_beq he];exact hq⟩
theorem two_mem {α:Type}{l:List α}{a b c:α}(hl:l.length=2) (ha:a∈l) (hb:b∈l) (hc:c∈l) (h1:a≠b) (h2:c≠b):a=c:=by
 rcases l with _ | ⟨x,_ | ⟨y,_ | ⟨z,l⟩⟩⟩<;>simp only[List.length_nil,List.length_cons]at hl<;>try omega
 simp only[List.mem_cons,List.not_mem_nil,or_false]at ha hb hc
 rcases ha with rfl | rfl<;>rcases hb with rfl | rfl<;>rcases hc with rfl | rfl<;>first | rfl | exact absurd rfl h1 | exact absurd rfl h2
structure RtJ (p:Pln) (s t:State) (i:Nat):Prop where
 val:∀j k,j<i->drivenZ p.drives j=some k->t.valves[k]?=s.valves[k]?
 inp:∀j,j<i->j∈p.butt->t.inputs[p.butt.idxOf j]?=s.inputs[p.butt.idxOf j]?
 vs:∀j,j<i->j∈p.valv->t.values[p.order.length+p.valv.idxOf j]?=s.values[p.order.length+p.valv.idxOf j]?
theorem vals_at {s:State}{nd nb:Nat}(he:s.ends.length=nd) (hb:s.inputs.length=nb):(∀n,n<2*nd->(valuesOf s)[n]?=(endsV s.ends)[n]?)∧(∀n,n<nb->(valuesOf s)[2*nd+n]?=s.inputs[n]?)∧∀n,(valuesOf s)[2*nd+nb+n]?=s.values[n]?:=by
 have hl:=endsV_length s.ends
 unfold valuesOf
 refine⟨fun n hn=>?_,fun n hn=>?_,fun n=>?_⟩
 ·rw[List.getElem?_append_left (by rw[List.length_append];omega),List.getElem?_append_left (by omega)]
 ·rw[List.getElem?_append_left (by rw[List.length_append];omega),List.getElem?_append_right (by omega)]
  congr 1
  omega
 ·rw[List.getElem?_append_right (by rw[List.length_append];omega)]
  congr 1
  rw[List.length_append]
  omega
theorem valv_line {p:Pln}{j:Nat}(h:j∈p.valv):p.line j=some (p.first+p.order.length+p.valv.idxOf j):=by
 rw[Pln.line_eq,valv_lineB h]
 simp only[h,if_true]
theorem driven_kind {p:Pln}(hD:p.D) {i k:Nat}(h:drivenZ p.drives i=some k):kindOf p.ps i=2∨kindOf p.ps i=3:=by
 obtain⟨h1,h2,_⟩:=List.findIdx?_eq_some_iff_getElem.1 h
 have:=hD.val _ (List.getElem_mem h1)
 rwa [eq_of_beq h2]at this
theorem pil_kind (p:Pln):∀n,∃X:List Signal,(p.pil n).2.2=p.sig0++X∧∀x∈X,x.kind=0
 | 0=>⟨[],by simp[Pln.pil],by simp⟩
 | n+1=>by
  obtain⟨X,h1,h2⟩:=pil_kind p n
  cases hd:p.drives[n]? with
  | none=>
   refine⟨X,?_,h2⟩
   rw[<- h1]
   unfold Pln.pil
   rw[List.take_of_length_le (List.getElem?_eq_none_iff.1 hd),List.take_of_length_le (Nat.le_trans (List.getElem?_eq_none_iff.1 hd) (by omega))]
  | some d=>
   rw[Pln.pil_succ p hd]
   unfold Pln.drvS
   by_cases hk:kindOf p.ps d.2=2
   ·exact⟨X,by simp only[hk,if_true];exact h1,h2⟩
   ·refine⟨X++[p.sprS d.2],by simp only[hk,if_false];rw[h1,List.append_assoc],fun x hx=>?_⟩
    rcases List.mem_append.1 hx with h | h
    ·exact h2 x h
    ·rw[List.mem_singleton.1 h];rfl
theorem valv_kind {p:Pln}{j:Nat}(hj:j∈p.valv):kindAt p.ctl (p.order.length+p.valv.idxOf j)≠0:=by
 obtain⟨X,h1,h2⟩:=pil_kind p p.drives.length
 have hsg:p.ctl.signals=p.order.map p.netS++p.valv.map p.movS++X:=h1
 have hil:=List.idxOf_lt_length_of_mem hj
 unfold kindAt
 rw[hsg,show ((p.order.length:Int)+(p.valv.idxOf j:Int)).toNat=p.order.length+p.valv.idxOf j by omega,List.getElem?_append_left (by simp;omega),List.getElem?_append_right (by simp),List.getElem?_map]
 simp only[List.length_map,Nat.add_sub_cancel_left]
 rw[List.getElem?_eq_getElem hil]
 simp only[Option.map_some,Option.getD_some,Pln.movS]
 split<;>decide
theorem posB_many {c:Cir}(hr:CirR c) (hd:drvE c.parts (netsZ c)=0) (s:State) (i:Nat) (h:(planZ c).posB s i=true):manyK (kindOf c.parts i)=2:=by
 unfold Pln.posB at h
 cases hz:drivenZ (planZ c).drives i with
 | some k=>
  rcases driven_kind (planZ_D hd) hz with e | e
  ·have e2:kindOf c.parts i=2:=e
   rw[e2];rfl
  ·have e2:kindOf c.parts i=3:=e
   rw[e2];rfl
 | none=>
  rw[hz]at h
  simp only at h
  cases hn:(planZ c).line i with
  | none=>rw[hn]at h;simp at h
  | some n=>
   rcases line_cases (planZ_lim hr) hn with⟨hk,_,_⟩|⟨hk,_⟩|⟨_,_,hm,_⟩
   ·have e2:kindOf c.parts i=7:=hk
    rw[e2];rfl
   ·have e2:kindOf c.parts i=6:=hk
    rw[e2];rfl
   ·have:=(mem_valvN.1 hm).2.1
    have e2:plusK (kindOf c.parts i)≠[]:=this
    unfold plusK at e2
    unfold manyK
    split at e2<;>first | simp_all | (exfalso;exact e2 rfl)
def posN (pos:List Int) (i:Nat):Nat:=(pos.getD i 0).toNat
inductive Prs (ps:List Prt) (nets:List (List PortZ)) (pos:List Int):Nat->Prop
 | sup (i:Nat) (hi:i<ps.length) (hk:kindOf ps i=0):Prs ps nets pos (netW nets ((i:Int),[49]))
 | all (i:Nat) (y:PassP) (hi:i<ps.length) (hy:y∈passK (kindOf ps i) (posN pos i)) (ha:y.all=true) (h:∀t∈y.src,Prs ps nets pos (netW nets ((i:Int),t))):Prs ps nets pos (netW nets ((i:Int),y.to))
 | any (i:Nat) (y:PassP) (t:List UInt8) (hi:i<ps.length) (hy:y∈passK (kindOf ps i) (posN pos i)) (ht:t∈y.src) (ha:y.all=false) (h:Prs ps nets pos (netW nets ((i:Int),t))):Prs ps nets pos (netW nets ((i:Int),y.to))
theorem pass_to {k n:Nat}{y:PassP}(h:y∈passK k n):(y.to=[50]∨y.to=[52])∧y.src≠[]∧(∀t∈y.src,t=[49]∨t=[49,49])∧k≠0∧k≠1∧k<14:=by
 unfold passK at h
 split at h
 ·rename_i hk
  rw[List.mem_singleton]at h
  subst h
  refine⟨?_,by simp,by simp,by omega,by omega,by omega⟩
  simp only
  split
  ·exact .inr rfl
  ·exact .inl rfl
 ·split at h
  ·split at h
   ·rw[List.mem_singleton]at h
    subst h
    exact⟨.inl rfl,by simp,by simp,by omega,by omega,by omega⟩
   ·simp at h
  ·split at h
   ·split at h
    ·simp at h
    ·rw[List.mem_singleton]at h
     subst h
     exact⟨.inl rfl,by simp,by simp,by omega,by omega,by omega⟩
   ·split at h
    ·rw[List.mem_singleton]at h
     subst h
     exact⟨.inl rfl,by simp,by simp,by omega,by omega,by omega⟩
    ·split at h
     ·rw[List.mem_singleton]at h
      subst h
      exact⟨.inl rfl,by simp,by simp,by omega,by omega,by omega⟩
     ·simp at h
theorem pass_port:∀k,k<14->∀n,n<2->∀y∈passK k n,y.to∈portsK k:=by decide
theorem eval_or (l:List Expr) (vs:List Bool):evalE (sevE 4 l) vs=l.any (evalE · vs):=by
 unfold sevE
 split
 ·simp[evalE,nulE]
 ·simp
 ·rw[evalE_eq]
  simp only[evalL_map,List.any_map,List.all_map]
  simp[List.any_eq_not_all_not,Function.comp_def]
theorem eval_and {l:List Expr}(h:l≠[]) (vs:List Bool):evalE (sevE 3 l) vs=l.all (evalE · vs):=by
 unfold sevE
 split
 ·exact absurd rfl h
 ·simp
 ·rw[evalE_eq]
  simp only[evalL_map,List.all_map]
  simp[Function.comp_def]
theorem order_ready (ps:List Prt) (d:List Drv) (nets:List (List PortZ)):∀n m k,(orderN ps d nets n)[m]?=some k->readyZ ps d nets ((orderN ps d nets n).take m) k=true
 | 0,m,k,h=>by simp[orderN]at h
 | n+1,m,k,h=>by
  simp only[orderN]at h ⊢
  split at h
  ·rename_i i hi
   rcases Nat.lt_or_ge m (orderN ps d nets n).length with hm | hm
   ·rw[List.getElem?_append_left hm]at h
    rw[List.take_append_of_le_length (by omega)]
    exact order_ready ps d nets n m k h
   ·have hlt:=(List.getElem?_eq_some_iff.1 h).1
    rw[List.length_append,List.length_singleton]at hlt
    obtain rfl:m=(orderN ps d nets n).length:=by omega
    rw[List.getElem?_append_right (Nat.le_refl _),Nat.sub_self]at h
    simp only[List.getElem?_cons_zero,Option.some.injEq]at h
    subst h
    rw[List.take_left]
    exact (nextZ_mem hi).2.2.2
  ·exact order_ready ps d nets n m k h
def Btw (d:List Drv) (l:List PortZ):Prop:=l.length=2∧(∀p∈l,∀q∈l,p.2=q.2)∧∃e∈d,(∃p∈l,p.1=(e.1:Int))∧∃p∈l,p.1=(e.2:Int)
structure PgI (c:Cir) (s:State):Prop where
 right:CirR c
 drv:drvE c.parts (netsZ c)=0
 full:∀k,k<(netsZ c).length->countsI c.parts (netsZ c) k=true->k∈(planZ c).order
 gate:∀m k,(planZ c).order[m]?=some k->(valuesOf (gatesP (planZ c).ctl s)).getD ((planZ c).first+m) false=evalE ((planZ c).fed k) (valuesOf (gatesP (planZ c).ctl s))
 line:∀i,i<c.parts.length->1<manyK (kindOf c.parts i)->drivenZ (planZ c).drives i=none->(valuesOf (gatesP (planZ c).ctl s)).getD (((planZ c).line i).getD 0) false=(planZ c).posB s i
theorem PgI.of {c:Cir}(hb:buildE c=0) {s:State}(hR:rightC (planZ c).ctl s=0):PgI c s:=by
 obtain⟨hr,hd,hch,hpl,_⟩:=build_zero hb
 obtain⟨_,hsh,_⟩:=right_zero hR
 have hf:=fine_of hch
 have hact:(planZ c).ctl.actuators=(planZ c).drives.length:=rfl
 have hinp:(planZ c).ctl.inputs.length=(planZ c).butt.length:=by
  show ((planZ c).butt.map _).length=_
  rw[List.length_map]
 obtain⟨g1,g2,g3,g4,g5⟩:=id hsh
 obtain⟨v1,v2,v3⟩:=vals_at (s:=s) (nd:=(planZ c).drives.length) (nb:=(planZ c).butt.length) (by omega) (by omega)
 obtain⟨w1,w2,w3⟩:=vals_at (s:=gatesP (planZ c).ctl s) (nd:=(planZ c).drives.length) (nb:=(planZ c).butt.length) (by show s.ends.length=_;omega) (by show s.inputs.length=_;omega)
 have hfst:(planZ c).first=2*(planZ c).drives.length+(planZ c).butt.length:=rfl
 refine⟨hr,hd,fun k hk hc=>?_,fun m k hm=>?_,fun i hi hk hz=>?_⟩
 ·have h1:=order_rest c.parts (drvN c.parts (netsZ c) c.parts.length) (netsZ c) (manyC c.parts (netsZ c))
  have h2:(orderN c.parts (drvN c.parts (netsZ c) c.parts.length) (netsZ c) (manyC c.parts (netsZ c))).length=manyC c.parts (netsZ c):=by
   unfold planE at hpl
   split at hpl
   ·rename_i h;exact absurd hpl h
   ·split at hpl
    ·rename_i h;exact absurd hpl h
    ·split at hpl
     ·rename_i h;exact h
     ·cases hpl
  have h3:restZ c.parts (netsZ c) (planZ c).order=[]:=List.length_eq_zero_iff.1 (by show (restZ c.parts (netsZ c) (orderN _ _ _ _)).length=0;omega)
  refine Classical.byContradiction fun hn=>?_
  have h4:k∈restZ c.parts (netsZ c) (planZ c).order:=by
   unfold restZ
   rw[List.mem_filter,List.mem_range]
   refine⟨hk,?_⟩
   rw[hc,Bool.true_and,Bool.not_eq_true',List.any_eq_false]
   intro x hx
   simp only[beq_iff_eq]
   rintro rfl
   exact hn hx
  rw[h3]at h4
  cases h4
 ·obtain⟨X,h1,_⟩:=pil_kind (planZ c) (planZ c).drives.length
  have hsg:(planZ c).ctl.signals=(planZ c).order.map (planZ c).netS++(planZ c).valv.map (planZ c).movS++X:=h1
  obtain⟨hml,_⟩:=List.getElem?_eq_some_iff.1 hm
  have hx:(planZ c).ctl.signals[m]?=some ((planZ c).netS k):=by
   rw[hsg,List.append_assoc,List.getElem?_append_left (by simpa using hml),List.getElem?_map,hm]
   rfl
  have hg:=gates_gate hf hsh hx rfl
  rw[List.getD_eq_getElem?_getD,hfst,w3,hg]
  rfl
 ·have hB:(planZ c).posB s i=(valuesOf s).getD (((planZ c).line i).getD 0) false∧(∃n,(planZ c).line i=some n):=by
   obtain⟨n,hn⟩:∃n,(planZ c).line i=some n:=by
    obtain⟨x,hx⟩:∃x,c.parts[i]?=some x:=⟨_,List.getElem?_eq_getElem hi⟩
    have hx2:(planZ c).ps[i]?=some x:=hx
    have hkx:=kindOf_at hx
    unfold Pln.line
    rw[hx2]
    simp only
    split
    ·exact⟨_,rfl⟩
    ·split
     ·exact⟨_,rfl⟩
     ·rename_i h7 h6
      rw[if_pos]
      ·exact⟨_,rfl⟩
      ·refine mem_valvN.2 ⟨hi,?_,hz⟩
       show plusK (kindOf c.parts i)≠[]
       have hpx:=part_kind (hr.part x (List.mem_of_getElem? hx))
       rw[hkx]at hk ⊢
       have key:∀q,q<14->1<manyK q->q≠7->q≠6->plusK q≠[]:=by decide
       exact key _ (by omega) hk (by omega) (by omega)
   refine⟨?_,n,hn⟩
   unfold Pln.posB
   rw[hz,hn]
   simp only[Option.getD_some]
   rw[List.getD_eq_getElem?_getD]
  obtain⟨hB,n,hn⟩:=hB
  rw[hB,hn]
  simp only[Option.getD_some]
  rw[List.getD_eq_getElem?_getD,List.getD_eq_getElem?_getD]
  rcases line_cases (planZ_lim hr) hn with⟨_,hm,hne⟩|⟨_,hne⟩|⟨_,_,hm,hne⟩
  ·have hil:=List.idxOf_lt_length_of_mem hm
   rw[hne,v2 _ (by omega),w2 _ (by omega)]
   rfl
  ·rw[v1 n hne,w1 n hne]
   rfl
  ·rw[hne,hfst,show 2*(planZ c).drives.length+(planZ c).butt.length+(planZ c).order.length+(planZ c).valv.idxOf i=2*(planZ c).drives.length+(planZ c).butt.length+((planZ c).order.length+(planZ c).valv.idxOf i) by omega,v3,w3,gates_keep (valv_kind hm)]
theorem posN_at {p:Pln}{s:State}{i:Nat}(hi:i<p.ps.length):posN (p.pos s) i=if p.posB s i=true then 1 else 0:=by
 unfold posN Pln.pos
 rw[List.getD_eq_getElem?_getD,List.getElem?_map,List.getElem?_range hi]
 simp only[Option.map_some,Option.getD_some,numB]
 cases p.posB s i<;>rfl
theorem posN_many {c:Cir}{s:State}(h:PgI c s) {i:Nat}(hi:i<c.parts.length):posN ((planZ c).pos s) i<manyK (kindOf c.parts i):=by
 rw[posN_at (p:=planZ c) hi]
 cases hB:(planZ c).posB s i with
 | true=>rw[posB_many h.right h.drv s i hB];simp
 | false=>
  have:0<manyK (kindOf c.parts i):=by unfold manyK;split<;>omega
  simpa using this
theorem many_two (k:Nat):manyK k=1∨manyK k=2:=by unfold manyK;split<;>simp
theorem term_eval {c:Cir}{s:State}(h:PgI c s) {x:PortZ}(hx:x∈allP c.parts) {g:Gift}(hg:g∈giftsZ c.parts (planZ c).drives x) :
  evalE ((planZ c).term g) (valuesOf (gatesP (planZ c).ctl s))=true↔g.pos=posN ((planZ c).pos s) g.part∧(if g.pass.all=true then ∀t∈g.pass.src,evalE ((planZ c).gate g.part t) (valuesOf (gatesP (planZ c).ctl s))=true else ∃t∈g.pass.src,evalE ((planZ c).gate g.part t) (valuesOf (gatesP (planZ c).ctl s))=true):=by
 obtain⟨a1,a2,a3⟩:=given_mem (gifts_mem hg)
 have hsrc:=(pass_to a3).2.1
 obtain⟨i,p,hi,hp,hx1,_⟩:=mem_allN.1 hx
 have hdn:drivenZ (planZ c).drives g.part=none:=by
  unfold giftsZ at hg
  split at hg
  ·cases hg
  ·rename_i hn
   rw[<- a1]at hn
   simpa using hn
 have hgi:g.part<c.parts.length:=by omega
 rw[<- a1]at a2 a3
 have hps:(planZ c).ps=c.parts:=rfl
 have hmany:=posN_many h hgi
 unfold Pln.term
 rw[eval_and (by
  intro e
  have:=(List.append_eq_nil_iff.1 e).2
  split at this
  ·exact hsrc (List.map_eq_nil_iff.1 this)
  ·cases this),List.all_append,Bool.and_eq_true]
 refine and_congr ?_ ?_
 ·rw[hps]
  rcases many_two (kindOf c.parts g.part) with e | e
  ·rw[e]at a2 hmany ⊢
   simp
   omega
  ·have hl:=h.line g.part hgi (by omega) hdn
   have hpn:=posN_at (p:=planZ c) (s:=s) (i:=g.part) hgi
   rw[e]at a2
   rw[hpn,e,if_pos (by omega)]
   by_cases h0:g.pos=0
   ·rw[if_pos h0,h0]
    simp only[List.all_cons,List.all_nil,Bool.and_true,notE,varE,evalE,evalL]
    simp only[Int.toNat_natCast,hl]
    cases (planZ c).posB s g.part<;>simp
   ·have h1:g.pos=1:=by omega
    rw[if_neg h0,h1]
    simp only[List.all_cons,List.all_nil,Bool.and_true,varE,evalE]
    simp only[Int.toNat_natCast,hl]
    cases (planZ c).posB s g.part<;>simp
 ·by_cases ha:g.pass.all=true
  ·rw[if_pos ha,if_pos ha,List.all_map,List.all_eq_true]
   rfl
  ·rw[if_neg ha,if_neg ha]
   simp only[List.all_cons,List.all_nil,Bool.and_true]
   rw[eval_or,List.any_map,List.any_eq_true]
   rfl
theorem order_nodup (c:Cir):(planZ c).order.Nodup:=orderN_nodup _ _ _ _
theorem order_inj {c:Cir}{m n k:Nat}(h1:(planZ c).order[m]?=some k) (h2:(planZ c).order[n]?=some k):m=n:=by
 obtain⟨a1,a2⟩:=List.getElem?_eq_some_iff.1 h1
 obtain⟨b1,b2⟩:=List.getElem?_eq_some_iff.1 h2
 exact (List.getElem_inj (order_nodup c)).1 (a2.trans b2.symm)
theorem gate_eval {c:Cir}(i:Nat) (t:List UInt8) (vs:List Bool):evalE ((planZ c).gate i t) vs=true↔∃m,(planZ c).order[m]?=some (netW (netsZ c) ((i:Int),t))∧vs.getD ((planZ c).first+m) false=true:=by
 have hn:(planZ c).nets=netsZ c:=rfl
 unfold Pln.gate
 rw[hn]
 cases hf:(planZ c).order.findIdx? (netW (netsZ c) ((i:Int),t)==·) with
 | some k=>
  obtain⟨h1,h2,_⟩:=List.findIdx?_eq_some_iff_getElem.1 hf
  have hk:(planZ c).order[k]?=some (netW (netsZ c) ((i:Int),t)):=by
   rw[List.getElem?_eq_getElem h1]
   exact congrArg some (eq_of_beq h2).symm
  simp only[varE,evalE]
  simp only[Int.toNat_natCast]
  constructor
  ·intro h
   exact⟨k,hk,by simpa using h⟩
  ·rintro⟨m,h3,h4⟩
   rw[order_inj h3 hk]at h4
   simpa using h4
 | none=>
  constructor
  ·intro h
   simp[nulE,evalE]at h
  ·rintro⟨m,h3,_⟩
   have:=List.findIdx?_eq_none_iff.1 hf _ (List.mem_of_getElem? h3)
   simp at this
theorem fed_eval {c:Cir}(k:Nat) (vs:List Bool):evalE ((planZ c).fed k) vs=true↔∃x∈(netsZ c).getD k [],kindOf c.parts x.1.toNat=0∨∃g∈giftsZ c.parts (planZ c).drives x,evalE ((planZ c).term g) vs=true:=by
 have hn:(planZ c).nets=netsZ c:=rfl
 have hps:(planZ c).ps=c.parts:=rfl
 unfold Pln.fed
 rw[eval_or,List.any_eq_true]
 unfold Pln.fedL
 rw[hn,hps]
 constructor
 ·rintro⟨a,ha,he⟩
  obtain⟨x,hx,h2⟩:=List.mem_flatMap.1 ha
  refine⟨x,hx,?_⟩
  rcases List.mem_append.1 h2 with h3 | h3
  ·split at h3
   ·rename_i h4;exact .inl h4
   ·cases h3
  ·obtain⟨g,hg,rfl⟩:=List.mem_map.1 h3
   exact .inr ⟨g,hg,he⟩
 ·rintro⟨x,hx,h1 | ⟨g,hg,he⟩⟩
  ·exact⟨⟨0,1,[]⟩,List.mem_flatMap.2 ⟨x,hx,List.mem_append_left _ (by rw[if_pos h1];simp)⟩,by simp[evalE]⟩
  ·exact⟨_,List.mem_flatMap.2 ⟨x,hx,List.mem_append_right _ (List.mem_map.2 ⟨g,hg,rfl⟩)⟩,he⟩
theorem net_getD {c:Cir}{k:Nat}{l:List PortZ}(h:(netsZ c)[k]?=some l):(netsZ c).getD k []=l:=by rw[List.getD_eq_getElem?_getD,h];rfl
theorem drives_kind {c:Cir}(hd:drvE c.parts (netsZ c)=0) {e:Drv}(h:e∈(planZ c).drives):kindOf c.parts e.1=1∧(kindOf c.parts e.2=2∨kindOf c.parts e.2=3)∧(drivenZ (planZ c).drives e.2).isSome=true:=by
 obtain⟨_,h2,_,_,h5⟩:=mem_drvN hd h
 refine⟨h2,drvB_kind h5,?_⟩
 unfold drivenZ
 rw[List.findIdx?_isSome,List.any_eq_true]
 exact⟨e,h,by simp⟩
theorem btw_two {c:Cir}(hd:drvE c.parts (netsZ c)=0) {l:List PortZ}(h:Btw (planZ c).drives l) {x:PortZ}(hx:x∈l):∃e∈(planZ c).drives,x.1=(e.1:Int)∨x.1=(e.2:Int):=by
 obtain⟨h1,_,e,he,⟨p,hp,hpe⟩,q,hq,hqe⟩:=h
 obtain⟨k1,k2,_⟩:=drives_kind hd he
 have hne:p≠q:=by
  rintro rfl
  have:e.1=e.2:=by omega
  rw[this]at k1
  omega
 refine⟨e,he,?_⟩
 by_cases a:x=q
 ·rw[a];exact .inr hqe
 ·rw[two_mem h1 hx hq hp a hne]
  exact .inl hpe
theorem btw_fed {c:Cir}(hd:drvE c.parts (netsZ c)=0) {k:Nat}(h:Btw (planZ c).drives ((netsZ c).getD k [])) (vs:List Bool):evalE ((planZ c).fed k) vs=false:=by
 rw[<- Bool.not_eq_true]
 intro hf
 obtain⟨x,hx,hg⟩:=(fed_eval k vs).1 hf
 obtain⟨e,he,hxe⟩:=btw_two hd h hx
 obtain⟨k1,k2,k3⟩:=drives_kind hd he
 rcases hxe with a | a<;>rw[a,Int.toNat_natCast]at hg
 ·rcases hg with g0 | ⟨g,hg,_⟩
  ·omega
  ·obtain⟨_,_,a3⟩:=given_mem (gifts_mem hg)
   rw[a,Int.toNat_natCast,k1]at a3
   exact absurd rfl (pass_to a3).2.2.2.2.1
 ·rcases hg with g0 | ⟨g,hg,_⟩
  ·omega
  ·unfold giftsZ at hg
   rw[a,Int.toNat_natCast,if_pos k3]at hg
   cases hg
theorem gate_sound {c:Cir}{s:State}(h:PgI c s):∀N m,m<N->∀k,(planZ c).order[m]?=some k->(valuesOf (gatesP (planZ c).ctl s)).getD ((planZ c).first+m) false=true->Prs c.parts (netsZ c) ((planZ c).pos s) k
 | 0,m,hm,_,_,_=>absurd hm (Nat.not_lt_zero _)
 | N+1,m,hm,k,hk,hv=>by
  rw[h.gate m k hk]at hv
  obtain⟨hkn,_⟩:=orderN_mem _ _ _ _ _ (List.mem_of_getElem? hk)
  have hnk:(netsZ c)[k]?=some ((netsZ c)[k]):=List.getElem?_eq_getElem hkn
  obtain⟨x,hx,hg⟩:=(fed_eval k _).1 hv
  rw[net_getD hnk]at hx
  have hxa:=(netsZ_net h.right _ (List.getElem_mem hkn)).2.2 x hx
  obtain⟨i,p,hi,hp,hx1,hx2⟩:=mem_allN.1 hxa
  have hki:=kindOf_at hp
  have hxi:x.1.toNat=i:=by omega
  have hw:=netW_at hnk hx
  rw[hxi]at hg
  rcases hg with g0 | ⟨g,hg,he⟩
  ·rw[<- hki,g0]at hx2
   have e:x=((i:Int),[49]):=Prod.ext hx1 (by simpa [portsK]using hx2)
   rw[<- hw,e]
   exact .sup i hi g0
  ·have hrd:=order_ready c.parts (drvN c.parts (netsZ c) c.parts.length) (netsZ c) _ m k hk
   obtain⟨a1,a2,a3⟩:=given_mem (gifts_mem hg)
   have hto:g.pass.to=x.2:=by
    have:=gifts_mem hg
    unfold givenZ at this
    obtain⟨n,_,h2⟩:=List.mem_flatMap.1 this
    obtain⟨y,hy,rfl⟩:=List.mem_map.1 h2
    exact eq_of_beq (List.mem_filter.1 hy).2
   have hx0:x=((i:Int),g.pass.to):=Prod.ext hx1 hto.symm
   rw[hxi]at a1 a2 a3
   obtain⟨e1,e2⟩:=(term_eval h hxa hg).1 he
   rw[a1]at e1 e2
   rw[e1]at a3
   have hin:∀t∈g.pass.src,evalE ((planZ c).gate i t) (valuesOf (gatesP (planZ c).ctl s))=true->Prs c.parts (netsZ c) ((planZ c).pos s) (netW (netsZ c) ((i:Int),t)):=fun t ht hgt=>by
    obtain⟨q,hq,hvq⟩:=(gate_eval i t _).1 hgt
    refine gate_sound h N q ?_ _ hq hvq
    unfold readyZ at hrd
    rw[net_getD hnk]at hrd
    have h1:=List.all_eq_true.1 hrd x hx
    have h2:=List.all_eq_true.1 (List.all_eq_true.1 h1 g hg) t ht
    unfold takesZ at h2
    rw[a1]at h2
    have hct:=(orderN_mem _ _ _ _ _ (List.mem_of_getElem? hq)).2
    unfold countsI at hct
    rw[hct]at h2
    simp only[Bool.true_and,Bool.not_not,List.any_eq_true,beq_iff_eq]at h2
    obtain⟨z,hz,rfl⟩:=h2
    obtain⟨j,hj,hje⟩:=List.getElem_of_mem hz
    rw[List.length_take]at hj
    rw[List.getElem_take]at hje
    have:(planZ c).order[j]?=some (netW (netsZ c) ((i:Int),t)):=by
     rw[List.getElem?_eq_getElem (by show j<(orderN _ _ _ _).length;omega)]
     exact congrArg some hje
    rw[order_inj hq this]
    omega
   rw[<- hw,hx0]
   by_cases ha:g.pass.all=true
   ·rw[if_pos ha]at e2
    exact .all i g.pass hi a3 ha fun t ht=>hin t ht (e2 t ht)
   ·rw[if_neg ha]at e2
    obtain⟨t,ht,h3⟩:=e2
    exact .any i g.pass t hi a3 ht (by simpa using ha) (hin t ht h3)
theorem Prs.port {c:Cir}(hr:CirR c) {pos:List Int}(hps:∀i,i<c.parts.length->posN pos i<2) {k:Nat}(h:Prs c.parts (netsZ c) pos k):∃(j:Nat) (u:List UInt8),((j:Int),u)∈allP c.parts∧k=netW (netsZ c) ((j:Int),u)∧(kindOf c.parts j=0∨u=[50]∨u=[52]):=by
 cases h with
 | sup i hi hk=>exact⟨i,[49],port_of hi (by rw[hk];simp[portsK]),rfl,.inl hk⟩
 | all i y hi hy=>exact⟨i,y.to,port_of hi (pass_port _ (pass_to hy).2.2.2.2.2 _ (hps i hi) y hy),rfl,.inr (pass_to hy).1⟩
 | any i y t hi hy=>exact⟨i,y.to,port_of hi (pass_port _ (pass_to hy).2.2.2.2.2 _ (hps i hi) y hy),rfl,.inr (pass_to hy).1⟩
theorem prs_order {c:Cir}{s:State}(h:PgI c s) {i:Nat}{y:PassP}{t:List UInt8}(hi:i<c.parts.length) (hy:y∈passK (kindOf c.parts i) (posN ((planZ c).pos s) i)) (ht:t∈y.src)
  (hp:Prs c.parts (netsZ c) ((planZ c).pos s) (netW (netsZ c) ((i:Int),t))):∃m:Nat,(planZ c).order[m]?=some (netW (netsZ c) ((i:Int),t)):=by
 have hp2:∀j,j<c.parts.length->posN ((planZ c).pos s) j<2:=fun j hj=>by
  have:=posN_many h hj
  rcases many_two (kindOf c.parts j) with e | e<;>omega
 obtain⟨b1,b2,b3,b4,b5,b6⟩:=pass_to hy
 have hpt:=port_of (t:=t) hi (passK_src b6 (hp2 i hi) hy ht)
 obtain⟨l,hl,hml⟩:=netW_some h.right hpt
 obtain⟨j,u,hju,hnk,hk⟩:=hp.port h.right hp2
 obtain⟨l2,hl2,hml2⟩:=netW_some h.right hju
 rw[<- hnk,hl]at hl2
 simp only[Option.some.injEq]at hl2
 subst hl2
 have hne:((i:Int),t)≠((j:Int),u):=by
  intro e
  simp only[Prod.mk.injEq]at e
  obtain⟨e1,rfl⟩:=e
  have e1:i=j:=by omega
  subst e1
  rcases hk with e | rfl | rfl
  ·exact b4 e
  ·rcases b3 _ ht with e | e<;>cases e
  ·rcases b3 _ ht with e | e<;>cases e
 have hlen:1<l.length:=by
  rcases l with _ | ⟨a,_ | ⟨b,l⟩⟩
  ·cases hml
  ·rw[List.mem_singleton]at hml hml2
   exact absurd (hml.trans hml2.symm) hne
  ·simp
 have hc:countsI c.parts (netsZ c) (netW (netsZ c) ((i:Int),t))=true:=by
  unfold countsI countsZ
  rw[net_getD hl]
  simp[hlen]
 obtain⟨m,hm,hme⟩:=List.getElem_of_mem (h.full _ (List.getElem?_eq_some_iff.1 hl).1 hc)
 exact⟨m,by rw[List.getElem?_eq_getElem hm,hme]⟩
theorem gate_complete {c:Cir}{s:State}(h:PgI c s) {k:Nat}(hp:Prs c.parts (netsZ c) ((planZ c).pos s) k):¬Btw (planZ c).drives ((netsZ c).getD k [])->∀m,(planZ c).order[m]?=some k->(valuesOf (gatesP (planZ c).ctl s)).getD ((planZ c).first+m) false=true:=by
 have hp2:∀j,j<c.parts.length->posN ((planZ c).pos s) j<2:=fun j hj=>by
  have:=posN_many h hj
  rcases many_two (kindOf c.parts j) with e | e<;>omega
 -- a net from which a part takes that drives nothing is not between
 have hnb:∀(i:Nat) (y:PassP) (t:List UInt8),i<c.parts.length->y∈passK (kindOf c.parts i) (posN ((planZ c).pos s) i)->t∈y.src->drivenZ (planZ c).drives i=none->¬Btw (planZ c).drives ((netsZ c).getD (netW (netsZ c) ((i:Int),t)) []):=fun i y t hi hy ht hdn hb=>by
  obtain⟨b1,b2,b3,b4,b5,b6⟩:=pass_to hy
  obtain⟨l,hl,hml⟩:=netW_some h.right (port_of (t:=t) hi (passK_src b6 (hp2 i hi) hy ht))
  rw[net_getD hl]at hb
  obtain⟨e,he,hxe⟩:=btw_two h.drv hb hml
  obtain⟨k1,k2,k3⟩:=drives_kind h.drv he
  rcases hxe with a | a
  ·have a:(i:Int)=e.1:=a
   have:i=e.1:=by omega
   rw[this]at b5
   exact b5 k1
  ·have a:(i:Int)=e.2:=a
   have:i=e.2:=by omega
   rw[this]at hdn
   rw[hdn]at k3
   cases k3
 -- a pass of a part that drives nothing
 have hgive:∀(i:Nat) (y:PassP),i<c.parts.length->y∈passK (kindOf c.parts i) (posN ((planZ c).pos s) i)->¬Btw (planZ c).drives ((netsZ c).getD (netW (netsZ c) ((i:Int),y.to)) []) ->
   (drivenZ (planZ c).drives i=none->if y.all=true then ∀t∈y.src,evalE ((planZ c).gate i t) (valuesOf (gatesP (planZ c).ctl s))=true else ∃t∈y.src,evalE ((planZ c).gate i t) (valuesOf (gatesP (planZ c).ctl s))=true) ->
   ∀m,(planZ c).order[m]?=some (netW (netsZ c) ((i:Int),y.to))->(valuesOf (gatesP (planZ c).ctl s)).getD ((planZ c).first+m) false=true:=fun i y hi hy hb hs m hm=>by
  obtain⟨b1,b2,b3,b4,b5,b6⟩:=pass_to hy
  have hport:=port_of (t:=y.to) hi (pass_port _ b6 _ (hp2 i hi) y hy)
  obtain⟨l,hl,hml⟩:=netW_some h.right hport
  cases hdn:drivenZ (planZ c).drives i with
  | some q=>
   exfalso
   apply hb
   obtain⟨h1,h2,_⟩:=List.findIdx?_eq_some_iff_getElem.1 hdn
   have hem:=List.getElem_mem h1
   obtain⟨_,k1,_,_,hbb⟩:=mem_drvN h.drv hem
   obtain⟨_,k2,_⟩:=drives_kind h.drv hem
   have he2:=eq_of_beq h2
   generalize (planZ c).drives[q]=e at *
   unfold drvB at hbb
   simp only[Bool.and_eq_true]at hbb
   have hpz:pairZ (netsZ c) e.1 e.2 y.to=true:=by
    rcases b1 with e' | e'<;>rw[e']
    ·exact hbb.2.1
    ·exact hbb.2.2
   obtain⟨n,l2,f1,f2,f3,f4⟩:=pair_mem hpz
   rw[he2]at f4
   have hnn:=netW_at f1 f4
   rw[hnn]at hl ⊢
   rw[f1]at hl
   simp only[Option.some.injEq]at hl
   subst hl
   rw[net_getD f1]
   have hne:((e.1:Int),y.to)≠((i:Int),y.to):=fun e'=>by
    simp only[Prod.mk.injEq,and_true]at e'
    have:e.1=e.2:=by omega
    rw[this]at k1
    omega
   have hall:∀p∈l2,p.2=y.to:=fun p hp=>by
    by_cases e':p=((i:Int),y.to)
    ·rw[e']
    ·rw[two_mem f2 hp f4 f3 e' hne]
   exact⟨f2,fun p hp q hq=>by rw[hall p hp,hall q hq],e,hem,⟨_,f3,rfl⟩,_,f4,by simp only;omega⟩
  | none=>
   rw[h.gate m _ hm,fed_eval,net_getD hl]
   have hgm:(⟨i,posN ((planZ c).pos s) i,y⟩:Gift)∈giftsZ c.parts (planZ c).drives ((i:Int),y.to):=by
    unfold giftsZ
    simp only[Int.toNat_natCast]
    rw[if_neg (by rw[hdn];simp)]
    unfold givenZ
    simp only[Int.toNat_natCast]
    exact List.mem_flatMap.2 ⟨_,List.mem_range.2 (posN_many h hi),List.mem_map.2 ⟨y,List.mem_filter.2 ⟨hy,by simp⟩,rfl⟩⟩
   exact⟨_,hml,.inr ⟨_,hgm,(term_eval h hport hgm).2 ⟨rfl,hs hdn⟩⟩⟩
 induction hp with
 | sup i hi hk=>
  intro hb m hm
  have hport:=port_of (t:=[49]) hi (by rw[hk];simp[portsK])
  obtain⟨l,hl,hml⟩:=netW_some h.right hport
  rw[h.gate m _ hm,fed_eval,net_getD hl]
  exact⟨_,hml,.inl (by simpa using hk)⟩
 | all i y hi hy ha hsub ih=>
  intro hb m hm
  refine hgive i y hi hy hb (fun hdn=>?_) m hm
  rw[if_pos ha]
  intro t ht
  obtain⟨q,hq⟩:=prs_order h hi hy ht (hsub t ht)
  exact (gate_eval i t _).2 ⟨q,hq,ih t ht (hnb i y t hi hy ht hdn) q hq⟩
 | any i y t hi hy ht ha hsub ih=>
  intro hb m hm
  refine hgive i y hi hy hb (fun hdn=>?_) m hm
  rw[if_neg (by simp[ha])]
  obtain⟨q,hq⟩:=prs_order h hi hy ht hsub
  exact⟨t,ht,(gate_eval i t _).2 ⟨q,hq,ih (hnb i y t hi hy ht hdn) q hq⟩⟩
theorem gate_prs {c:Cir}{s:State}(h:PgI c s) {m k:Nat}(hk:(planZ c).order[m]?=some k) :
  (valuesOf (gatesP (planZ c).ctl s)).getD ((planZ c).first+m) false=true↔Prs c.parts (netsZ c) ((planZ c).pos s) k∧¬Btw (planZ c).drives ((netsZ c).getD k []):=by
 constructor
 ·intro hv
  refine⟨gate_sound h (m+1) m (by omega) k hk hv,fun hb=>?_⟩
  rw[h.gate m k hk,btw_fed h.drv hb]at hv
  cases hv
 ·rintro⟨h1,h2⟩
  exact gate_complete h h1 h2 m hk
def exhK (k:Nat):List (List UInt8):=(portsK k).filter fun t=>roleK k t==some 2
def vntK (k pos:Nat):List (List UInt8):=
 if k=2∨k=3 then [if pos=1 then [50] else [52]]
 else if k=4∨k=6∨k=7∨k=12∨k=13 then (if pos=1 then [] else [[50]])
 else if k=5 then (if pos=0 then [] else [[50]])
 else []
def openK (k pos:Nat):List (List UInt8):=vntK k pos++exhK k
theorem shut_fn (n:Nat):CallFn Tryz.prog 267 [aI n] (aTs []):=by
 refine callFz_of Tryz.func267 rfl Tryz.ntmps267 (rs:=[.tmp 2]) rfl (by kernel_rfl) (by simp) (by kernel_rfl) ?_
 simp
theorem changeVents_fn (n:Nat) (hn:n<2):CallFn Tryz.prog 269 [aI n] (aTs [if n=1 then [50] else [52]]):=by
 have:n=0∨n=1:=by omega
 refine callFz_of Tryz.func269 rfl Tryz.ntmps269 (rs:=[.tmp 2]) rfl (by kernel_rfl) (by simp) (by kernel_rfl) ?_
 rcases this with rfl | rfl
 ·simp
 ·simp
theorem gateVents1_fn (n:Nat) (o:Nat):CallFn Tryz.prog 301 [aI n,.rptr [.int .i64 o]] (aTs (if n=o then [] else [[50]])):=by
 refine callFz_of Tryz.func301 rfl Tryz.ntmps301 (rs:=[.tmp 3]) rfl (by kernel_rfl) (by simp) (by kernel_rfl) ?_
 by_cases e:n=o
 ·subst e
  simp
 ·have e2:¬(n:Int)=o:=by omega
  simp[e,e2]
theorem row_vent:∀k,k<14->∃f caps,(rowOf k)[11]?=some (.fn f [] caps)∧∀n:Nat,n<2->CallFn Tryz.prog f (aI n::caps) (aTs (vntK k n)):=by
 refine cat_cases ⟨?_,?_,?_,?_,?_,?_,?_,?_,?_,?_,?_,?_,?_,?_⟩
 ·exact⟨_,_,rfl,fun n hn=>shut_fn n⟩
 ·exact⟨_,_,rfl,fun n hn=>shut_fn n⟩
 ·exact⟨_,_,rfl,fun n hn=>changeVents_fn n hn⟩
 ·exact⟨_,_,rfl,fun n hn=>changeVents_fn n hn⟩
 ·exact⟨_,_,rfl,fun n hn=>gateVents1_fn n 1⟩
 ·exact⟨_,_,rfl,fun n hn=>gateVents1_fn n 0⟩
 ·exact⟨_,_,rfl,fun n hn=>gateVents1_fn n 1⟩
 ·exact⟨_,_,rfl,fun n hn=>gateVents1_fn n 1⟩
 ·exact⟨_,_,rfl,fun n hn=>shut_fn n⟩
 ·exact⟨_,_,rfl,fun n hn=>shut_fn n⟩
 ·exact⟨_,_,rfl,fun n hn=>shut_fn n⟩
 ·exact⟨_,_,rfl,fun n hn=>shut_fn n⟩
 ·exact⟨_,_,rfl,fun n hn=>gateVents1_fn n 1⟩
 ·exact⟨_,_,rfl,fun n hn=>gateVents1_fn n 1⟩
theorem Vents_k (k:Nat) (hk:k<14) (n:Nat) (hn:n<manyK k):CallFn Tryz.prog 178 [aI k,aI n] (.tuple [aTs (vntK k n),aI 0]):=by
 have hf:=placed_k k hk n hn
 have hl:=row_len k hk
 have hc:=row_cell k hk
 have hm:manyK k<=2:=by revert k;exact fun k hk=>by intros;exact (show ∀k,k<14->manyK k<=2 by decide) k hk
 obtain⟨f,caps,h10,hp⟩:=row_vent k hk
 have hp:=hp n (by omega)
 obtain⟨h10l,h101⟩:=List.getElem?_eq_some_iff.1 h10
 refine callFz_of Tryz.func178 rfl Tryz.ntmps178 (rs:=[.tmp 4,.tmp 5]) rfl (by kernel_rfl) (by simp) (by kernel_rfl) ?_
 simp
 refine hf.s ?_
 generalize rowOf k=R at *
 simp
 intro b6
 refine⟨cells_ok hl hc,?_⟩
 simp[hl,h10,h101]
 refine hp.s ?_
 simp
structure Psg where
 part:Nat
 to:Nat
 src:List Nat
 all:Bool
 deriving DecidableEq
def psgsI (ps:List Prt) (nets:List (List PortZ)) (pos:List Int) (i:Nat):List Psg:=(passK (kindOf ps i) (posN pos i)).map fun y=>⟨i,netW nets ((i:Int),y.to),y.src.map fun t=>netW nets ((i:Int),t),y.all⟩
def psgsN (ps:List Prt) (nets:List (List PortZ)) (pos:List Int) (n:Nat):List Psg:=(List.range n).flatMap (psgsI ps nets pos)
def flowsZ (st:List Int) (y:Psg):Bool:=if y.all=true then y.src.all fun n=>st.getD n 0==2 else y.src.any fun n=>st.getD n 0==2
def airZ (st:List Int) (y:Psg):Bool:=y.src.any fun n=>st.getD n 0==1
def swStep (v:Int) (tk:List Int->Psg->Bool) (q:List Int×Bool) (y:Psg):List Int×Bool:=if q.1.getD y.to 0=0∧tk q.1 y=true then (q.1.set y.to v,true) else q
def sweep (v:Int) (tk:List Int->Psg->Bool) (l:List Psg) (st:List Int):List Int×Bool:=l.foldl (swStep v tk) (st,false)
def closeZ (v:Int) (tk:List Int->Psg->Bool) (l:List Psg):Nat->List Int->List Int
 | 0,st=>st
 | n+1,st=>if (sweep v tk l st).2=true then closeZ v tk l n (sweep v tk l st).1 else (sweep v tk l st).1
def zeros (st:List Int):Nat:=st.countP (·==0)
def supStep (ps:List Prt) (nets:List (List PortZ)) (st:List Int) (i:Nat):List Int:=if kindOf ps i=0 then st.set (netW nets ((i:Int),[49])) 2 else st
def supN (ps:List Prt) (nets:List (List PortZ)) (n:Nat):List Int:=(List.range n).foldl (supStep ps nets) (List.replicate nets.length 0)
def opStep (nets:List (List PortZ)) (i:Nat) (st:List Int) (t:List UInt8):List Int:=if st.getD (netW nets ((i:Int),t)) 0=0 then st.set (netW nets ((i:Int),t)) 1 else st
def opN (ps:List Prt) (nets:List (List PortZ)) (pos:List Int) (st:List Int) (n:Nat):List Int:=(List.range n).foldl (fun s i=>(openK (kindOf ps i) (posN pos i)).foldl (opStep nets i) s) st
def pressedZ (ps:List Prt) (nets:List (List PortZ)) (pos:List Int):List Int:=closeZ 2 flowsZ (psgsN ps nets pos ps.length) (nets.length+1) (supN ps nets ps.length)
def statesZ (ps:List Prt) (nets:List (List PortZ)) (pos:List Int):List Int:=closeZ 1 airZ (psgsN ps nets pos ps.length) (nets.length+1) (opN ps nets pos (pressedZ ps nets pos) ps.length)
theorem getD_set {st:List Int}{i n:Nat}{v:Int}:(st.set i v).getD n 0=if i=n∧i<st.length then v else st.getD n 0:=by
 rw[List.getD_eq_getElem?_getD,List.getD_eq_getElem?_getD,List.getElem?_set]
 by_cases h:i=n
 ·subst h
  by_cases h2:i<st.length
  ·simp[h2]
  ·simp[h2]
 ·simp[h]
theorem sw_true (v:Int) (tk:List Int->Psg->Bool):∀(l:List Psg) (st:List Int),(l.foldl (swStep v tk) (st,true)).2=true
 | [],_=>rfl
 | y::l,st=>by
  rw[List.foldl_cons]
  unfold swStep
  split
  ·exact sw_true v tk l _
  ·exact sw_true v tk l _
theorem sw_false (v:Int) (tk:List Int->Psg->Bool):∀(l:List Psg) (st:List Int),(sweep v tk l st).2=false->(sweep v tk l st).1=st∧∀y∈l,¬(st.getD y.to 0=0∧tk st y=true)
 | [],st,_=>⟨rfl,by simp⟩
 | y::l,st,h=>by
  unfold sweep at h ⊢
  rw[List.foldl_cons]at h ⊢
  by_cases hc:st.getD y.to 0=0∧tk st y=true
  ·have e:swStep v tk (st,false) y=(st.set y.to v,true):=by unfold swStep;rw[if_pos hc]
   rw[e,sw_true]at h
   cases h
  ·have e:swStep v tk (st,false) y=(st,false):=by unfold swStep;rw[if_neg hc]
   rw[e]at h ⊢
   obtain⟨h1,h2⟩:=sw_false v tk l st h
   refine⟨h1,fun z hz=>?_⟩
   rcases List.mem_cons.1 hz with rfl | hz
   ·exact hc
   ·exact h2 z hz
theorem sw_inv {v:Int}{tk:List Int->Psg->Bool}(P:List Int->Prop):∀(l:List Psg) (q:List Int×Bool),(∀st y,y∈l->P st->st.getD y.to 0=0->tk st y=true->P (st.set y.to v))->P q.1->P (l.foldl (swStep v tk) q).1
 | [],_,_,h=>h
 | y::l,q,hs,h=>by
  rw[List.foldl_cons]
  refine sw_inv P l _ (fun st z hz=>hs st z (List.mem_cons_of_mem _ hz)) ?_
  unfold swStep
  split
  ·rename_i hc
   exact hs q.1 y (by simp) h hc.1 hc.2
  ·exact h
theorem close_inv {v:Int}{tk:List Int->Psg->Bool}(P:List Int->Prop) {l:List Psg}(hs:∀st y,y∈l->P st->st.getD y.to 0=0->tk st y=true->P (st.set y.to v)):∀(n:Nat) (st:List Int),P st->P (closeZ v tk l n st)
 | 0,_,h=>h
 | n+1,st,h=>by
  have h1:P (sweep v tk l st).1:=sw_inv P l (st,false) hs h
  unfold closeZ
  split
  ·exact close_inv P hs n _ h1
  ·exact h1
theorem zeros_set {st:List Int}{i:Nat}{v:Int}(hi:i<st.length) (h0:st.getD i 0=0) (hv:v≠0):zeros (st.set i v)+1=zeros st:=by
 unfold zeros
 induction st generalizing i with
 | nil=>simp at hi
 | cons x l ih=>
  cases i with
  | zero=>
   have h0:x=0:=by simpa using h0
   subst h0
   simp[hv]
  | succ i=>
   have hi:i<l.length:=by simpa using hi
   have h0:l.getD i 0=0:=by simpa using h0
   have:=ih hi h0
   rw[List.set_cons_succ,List.countP_cons,List.countP_cons]
   omega
theorem sw_zeros {v:Int}(hv:v≠0) {tk:List Int->Psg->Bool}{N:Nat}:∀(l:List Psg) (q:List Int×Bool),(∀y∈l,y.to<N)->q.1.length=N->(l.foldl (swStep v tk) q).1.length=N∧zeros (l.foldl (swStep v tk) q).1+(if (l.foldl (swStep v tk) q).2=true then 1 else 0)<=zeros q.1+(if q.2=true then 1 else 0)
 | [],q,_,h=>⟨h,Nat.le_refl _⟩
 | y::l,q,hl,h=>by
  rw[List.foldl_cons]
  have hq:(swStep v tk q y).1.length=N∧zeros (swStep v tk q y).1+(if (swStep v tk q y).2=true then 1 else 0)<=zeros q.1+(if q.2=true then 1 else 0):=by
   unfold swStep
   split
   ·rename_i hc
    have:=zeros_set (by rw[h];exact hl y (by simp)) hc.1 hv
    refine⟨by rw[List.length_set];exact h,?_⟩
    simp only[if_true]
    omega
   ·exact⟨h,Nat.le_refl _⟩
  obtain⟨h1,h2⟩:=sw_zeros hv l _ (fun z hz=>hl z (List.mem_cons_of_mem _ hz)) hq.1
  exact⟨h1,Nat.le_trans h2 hq.2⟩
theorem sweep_zeros {v:Int}(hv:v≠0) {tk:List Int->Psg->Bool}{N:Nat}{l:List Psg}{st:List Int}(hl:∀y∈l,y.to<N) (h:st.length=N):(sweep v tk l st).1.length=N∧zeros (sweep v tk l st).1+(if (sweep v tk l st).2=true then 1 else 0)<=zeros st:=by
 exact sw_zeros hv (tk:=tk) l (st,false) hl h
theorem close_len {v:Int}{tk:List Int->Psg->Bool}{l:List Psg}(n:Nat) (st:List Int):(closeZ v tk l n st).length=st.length:=
 close_inv (fun s=>s.length=st.length) (fun s y _ h _ _=>by rw[List.length_set];exact h) n st rfl
theorem close_end {v:Int}(hv:v≠0) {tk:List Int->Psg->Bool}{N:Nat}{l:List Psg}(hl:∀y∈l,y.to<N):∀(n:Nat) (st:List Int),st.length=N->zeros st<n->∀y∈l,¬((closeZ v tk l n st).getD y.to 0=0∧tk (closeZ v tk l n st) y=true)
 | 0,_,_,h=>absurd h (Nat.not_lt_zero _)
 | n+1,st,hN,h=>by
  obtain⟨h1,h2⟩:=sweep_zeros hv (tk:=tk) hl hN
  unfold closeZ
  cases e:(sweep v tk l st).2 with
  | true=>
   rw[e]at h2
   simp only[if_true]at h2 ⊢
   exact close_end hv hl n _ h1 (by omega)
  | false=>
   obtain⟨h3,h4⟩:=sw_false v tk l st e
   simp only[Bool.false_eq_true,if_false]
   rw[h3]
   exact h4
theorem zeros_le (st:List Int):zeros st<=st.length:=List.countP_le_length
theorem mem_psgs {ps:List Prt}{nets:List (List PortZ)}{pos:List Int}{n:Nat}{z:Psg}:z∈psgsN ps nets pos n↔∃i y,i<n∧y∈passK (kindOf ps i) (posN pos i)∧z=⟨i,netW nets ((i:Int),y.to),y.src.map fun t=>netW nets ((i:Int),t),y.all⟩:=by
 unfold psgsN psgsI
 constructor
 ·intro h
  obtain⟨i,hi,h2⟩:=List.mem_flatMap.1 h
  obtain⟨y,hy,rfl⟩:=List.mem_map.1 h2
  exact⟨i,y,List.mem_range.1 hi,hy,rfl⟩
 ·rintro⟨i,y,hi,hy,rfl⟩
  exact List.mem_flatMap.2 ⟨i,List.mem_range.2 hi,List.mem_map.2 ⟨y,hy,rfl⟩⟩
theorem net_lt {c:Cir}(hr:CirR c) {i:Nat}{t:List UInt8}(hi:i<c.parts.length) (ht:t∈portsK (kindOf c.parts i)):netW (netsZ c) ((i:Int),t)<(netsZ c).length:=by
 obtain⟨l,hl,_⟩:=netW_some hr (port_of hi ht)
 exact (List.getElem?_eq_some_iff.1 hl).1
theorem psgs_lt {c:Cir}(hr:CirR c) {pos:List Int}(hp:∀i,i<c.parts.length->posN pos i<2):∀z∈psgsN c.parts (netsZ c) pos c.parts.length,z.to<(netsZ c).length∧∀n∈z.src,n<(netsZ c).length:=fun z hz=>by
 obtain⟨i,y,hi,hy,rfl⟩:=mem_psgs.1 hz
 have hk:=(pass_to hy).2.2.2.2.2
 refine⟨net_lt hr hi (pass_port _ hk _ (hp i hi) y hy),fun n hn=>?_⟩
 obtain⟨t,ht,rfl⟩:=List.mem_map.1 hn
 exact net_lt hr hi (passK_src hk (hp i hi) hy ht)
theorem supN_succ (ps:List Prt) (nets:List (List PortZ)) (n:Nat):supN ps nets (n+1)=supStep ps nets (supN ps nets n) n:=by
 unfold supN
 rw[List.range_succ,List.foldl_append]
 rfl
theorem supN_len (ps:List Prt) (nets:List (List PortZ)):∀n,(supN ps nets n).length=nets.length
 | 0=>by simp[supN]
 | n+1=>by
  rw[supN_succ]
  unfold supStep
  split
  ·rw[List.length_set];exact supN_len ps nets n
  ·exact supN_len ps nets n
theorem supN_at {c:Cir}(hr:CirR c):∀n,n<=c.parts.length->(∀k,(supN c.parts (netsZ c) n).getD k 0=0∨(supN c.parts (netsZ c) n).getD k 0=2)∧(∀k,(supN c.parts (netsZ c) n).getD k 0=2↔∃i,i<n∧kindOf c.parts i=0∧k=netW (netsZ c) ((i:Int),[49]))
 | 0,_=>by
  have e:∀k,(supN c.parts (netsZ c) 0).getD k 0=0:=fun k=>by
   unfold supN
   rw[List.range_zero,List.foldl_nil,List.getD_eq_getElem?_getD,List.getElem?_replicate]
   split<;>rfl
  exact⟨fun k=>.inl (e k),fun k=>⟨fun h=>(by rw[e k]at h;cases h),fun ⟨i,hi,_⟩=>(by omega)⟩⟩
 | n+1,hn=>by
  obtain⟨h1,h2⟩:=supN_at hr n (by omega)
  rw[supN_succ]
  unfold supStep
  by_cases hk:kindOf c.parts n=0
  ·rw[if_pos hk]
   have hlt:=net_lt hr (i:=n) (t:=[49]) (by omega) (by rw[hk];simp[portsK])
   rw[<- supN_len c.parts (netsZ c) n]at hlt
   refine⟨fun k=>?_,fun k=>?_⟩
   ·rw[getD_set]
    split
    ·exact .inr rfl
    ·exact h1 k
   ·rw[getD_set]
    by_cases e:netW (netsZ c) ((n:Int),[49])=k
    ·rw[if_pos ⟨e,hlt⟩]
     exact⟨fun _=>⟨n,by omega,hk,e.symm⟩,fun _=>rfl⟩
    ·rw[if_neg (fun h=>e h.1),h2 k]
     constructor
     ·rintro⟨i,hi,h3⟩
      exact⟨i,by omega,h3⟩
     ·rintro⟨i,hi,h3,h4⟩
      by_cases e2:i=n
      ·subst e2
       exact absurd h4.symm e
      ·exact⟨i,by omega,h3,h4⟩
  ·rw[if_neg hk]
   refine⟨h1,fun k=>?_⟩
   rw[h2 k]
   constructor
   ·rintro⟨i,hi,h3⟩
    exact⟨i,by omega,h3⟩
   ·rintro⟨i,hi,h3,h4⟩
    by_cases e2:i=n
    ·subst e2
     exact absurd h3 hk
    ·exact⟨i,by omega,h3,h4⟩
theorem pressed_prs {c:Cir}(hr:CirR c) {pos:List Int}(hp:∀i,i<c.parts.length->posN pos i<2):∀k,(pressedZ c.parts (netsZ c) pos).getD k 0=2↔Prs c.parts (netsZ c) pos k:=by
 have hlt:=psgs_lt hr hp
 obtain⟨s1,s2⟩:=supN_at hr c.parts.length (Nat.le_refl _)
 have sl:=supN_len c.parts (netsZ c) c.parts.length
 have hsnd:∀k,(pressedZ c.parts (netsZ c) pos).getD k 0=2->Prs c.parts (netsZ c) pos k:=by
  unfold pressedZ
  refine close_inv (fun st=>∀k,st.getD k 0=2->Prs c.parts (netsZ c) pos k) (fun st z hz h h0 ht k hk=>?_) _ _ fun k hk=>?_
  ·rw[getD_set]at hk
   split at hk
   ·rename_i e
    rw[<- e.1]
    obtain⟨i,y,hi,hy,rfl⟩:=mem_psgs.1 hz
    unfold flowsZ at ht
    simp only at ht ⊢
    by_cases ha:y.all=true
    ·rw[if_pos ha,List.all_map,List.all_eq_true]at ht
     exact .all i y hi hy ha fun t ht2=>h _ (by simpa using ht t ht2)
    ·rw[if_neg ha,List.any_map,List.any_eq_true]at ht
     obtain⟨t,ht2,h3⟩:=ht
     exact .any i y t hi hy ht2 (by simpa using ha) (h _ (by simpa using h3))
   ·exact h k hk
  ·obtain⟨i,hi,h3,rfl⟩:=(s2 k).1 hk
   exact .sup i hi h3
 have hstay:∀k,(supN c.parts (netsZ c) c.parts.length).getD k 0=2->(pressedZ c.parts (netsZ c) pos).getD k 0=2:=fun k hk=>by
  unfold pressedZ
  refine close_inv (fun st=>st.getD k 0=2) (fun st z hz h h0 ht=>?_) _ _ hk
  rw[getD_set]
  split
  ·rfl
  ·exact h
 have htwo:∀k,(pressedZ c.parts (netsZ c) pos).getD k 0=0∨(pressedZ c.parts (netsZ c) pos).getD k 0=2:=by
  unfold pressedZ
  refine close_inv (fun st=>∀k,st.getD k 0=0∨st.getD k 0=2) (fun st z hz h h0 ht k=>?_) _ _ s1
  rw[getD_set]
  split
  ·exact .inr rfl
  ·exact h k
 have hend:∀z∈psgsN c.parts (netsZ c) pos c.parts.length,¬((pressedZ c.parts (netsZ c) pos).getD z.to 0=0∧flowsZ (pressedZ c.parts (netsZ c) pos) z=true):=by
  unfold pressedZ
  exact close_end (by decide) (fun z hz=>(hlt z hz).1) _ _ sl (by have:=zeros_le (supN c.parts (netsZ c) c.parts.length);omega)
 refine fun k=>⟨hsnd k,fun h=>?_⟩
 induction h with
 | sup i hi hk=>exact hstay _ ((s2 _).2 ⟨i,hi,hk,rfl⟩)
 | all i y hi hy ha hs ih=>
  rcases htwo (netW (netsZ c) ((i:Int),y.to)) with e | e
  ·exact absurd ⟨e,by
    unfold flowsZ
    simp only
    rw[if_pos ha,List.all_map,List.all_eq_true]
    exact fun t ht=>by simpa using ih t ht⟩ (hend _ (mem_psgs.2 ⟨i,y,hi,hy,rfl⟩))
  ·exact e
 | any i y t hi hy ht ha hs ih=>
  rcases htwo (netW (netsZ c) ((i:Int),y.to)) with e | e
  ·exact absurd ⟨e,by
    unfold flowsZ
    simp only
    rw[if_neg (by simp[ha]),List.any_map,List.any_eq_true]
    exact⟨t,ht,by simpa using ih⟩⟩ (hend _ (mem_psgs.2 ⟨i,y,hi,hy,rfl⟩))
  ·exact e
theorem op_keep (nets:List (List PortZ)) (i k:Nat):∀(l:List (List UInt8)) (st:List Int),(l.foldl (opStep nets i) st).getD k 0=2↔st.getD k 0=2
 | [],_=>Iff.rfl
 | t::l,st=>by
  rw[List.foldl_cons,op_keep nets i k l]
  unfold opStep
  split
  ·rename_i h0
   rw[getD_set]
   split
   ·rename_i e
    rw[<- e.1,h0]
    decide
   ·rfl
  ·rfl
theorem opN_keep (ps:List Prt) (nets:List (List PortZ)) (pos st:List Int) (k:Nat):∀n,(opN ps nets pos st n).getD k 0=2↔st.getD k 0=2
 | 0=>Iff.rfl
 | n+1=>by
  unfold opN
  rw[List.range_succ,List.foldl_append,List.foldl_cons,List.foldl_nil,op_keep]
  exact opN_keep ps nets pos st k n
theorem states_prs {c:Cir}(hr:CirR c) {pos:List Int}(hp:∀i,i<c.parts.length->posN pos i<2) (k:Nat):(statesZ c.parts (netsZ c) pos).getD k 0=2↔Prs c.parts (netsZ c) pos k:=by
 refine Iff.trans ?_ ((opN_keep c.parts (netsZ c) pos (pressedZ c.parts (netsZ c) pos) k c.parts.length).trans (pressed_prs hr hp k))
 unfold statesZ
 refine close_inv (fun st=>st.getD k 0=2↔(opN c.parts (netsZ c) pos (pressedZ c.parts (netsZ c) pos) c.parts.length).getD k 0=2) (fun st z hz h h0 ht=>?_) _ _ Iff.rfl
 rw[<- h,getD_set]
 split
 ·rename_i e
  rw[<- e.1,h0]
  decide
 ·rfl
theorem op_len (nets:List (List PortZ)) (i:Nat):∀(l:List (List UInt8)) (st:List Int),(l.foldl (opStep nets i) st).length=st.length
 | [],_=>rfl
 | t::l,st=>by
  rw[List.foldl_cons,op_len nets i l]
  unfold opStep
  split
  ·rw[List.length_set]
  ·rfl
theorem opN_len (ps:List Prt) (nets:List (List PortZ)) (pos st:List Int):∀n,(opN ps nets pos st n).length=st.length
 | 0=>rfl
 | n+1=>by
  unfold opN
  rw[List.range_succ,List.foldl_append,List.foldl_cons,List.foldl_nil,op_len]
  exact opN_len ps nets pos st n
theorem pressed_len (ps:List Prt) (nets:List (List PortZ)) (pos:List Int):(pressedZ ps nets pos).length=nets.length:=by
 unfold pressedZ
 rw[close_len,supN_len]
theorem states_len (ps:List Prt) (nets:List (List PortZ)) (pos:List Int):(statesZ ps nets pos).length=nets.length:=by
 unfold statesZ
 rw[close_len,opN_len,pressed_len]
end Go.Proofs.YtpadinblmjlggaaGreatDoor
