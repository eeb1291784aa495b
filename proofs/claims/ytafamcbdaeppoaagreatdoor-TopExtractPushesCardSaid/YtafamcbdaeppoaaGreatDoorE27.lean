/- Texts joined by a program: Oa,Oe,Od,Ej,Ek,So,Sp,Sa,Gaa,Sb. -/
import Derived.Shelf.Sort.Plain
import Derived.Shelf.Slices.CompactI
import Derived.Shelf.Slices.In.SortNone
import Derived.Test.YtafamcbdaeppoaaGreatDoorE26
import Derived.Test.YtafamcbdaeppoaaGreatDoorE24
import Derived.Test.YtafamcbdaeppoaaGreatDoorE17
import Derived.Test.YtafamcbdaeppoaaGreatDoorE18
import Derived.Test.YtafamcbdaeppoaaGreatDoorE15
import Derived.Test.YtafamcbdaeppoaaGreatDoorE11
import Derived.Test.YtafamcbdaeppoaaGreatDoorE16
import Derived.Test.YtafamcbdaeppoaaGreatDoorE12
set_option linter.unusedSimpArgs false
set_option linter.unusedVariables false
set_option maxHeartbeats 8000000
set_option maxRecDepth 100000
namespace Go.Proofs.YtafamcbdaeppoaaGreatDoor
theorem eval_or (l:List Expr) (vs:List Bool):evalE (sevE 4 l) vs=l.any (evalE · vs):=by
 unfold sevE
 split
 ·simp[evalE,nulE]
 ·simp
 ·rw[evalE_eq]
  simp only[evalL_map,List.any_map,List.all_map]
  simp[List.any_eq_not_all_not,Function.comp_def]
theorem eval_and {l:List Expr}(h:l≠[]) (vs:List Bool):evalE (sevE 3 l) vs=l.all (evalE · vs):=by
 unfold sevE
 split
 ·exact absurd rfl h
 ·simp
 ·rw[evalE_eq]
  simp only[evalL_map,List.all_map]
  simp[Function.comp_def]
theorem order_ready (ps:List Prt) (d:List Drv) (nets:List (List PortZ)):∀n m k,(orderN ps d nets n)[m]?=some k->readyZ ps d nets ((orderN ps d nets n).take m) k=true
 | 0,m,k,h=>by simp[orderN]at h
 | n+1,m,k,h=>by
  simp only[orderN]at h ⊢
  split at h
  ·rename_i i hi
   rcases Nat.lt_or_ge m (orderN ps d nets n).length with hm | hm
   ·rw[List.getElem?_append_left hm]at h
    rw[List.take_append_of_le_length (by omega)]
    exact order_ready ps d nets n m k h
   ·have hlt:=(List.getElem?_eq_some_iff.1 h).1
    rw[List.length_append,List.length_singleton]at hlt
    obtain rfl:m=(orderN ps d nets n).length:=by omega
    rw[List.getElem?_append_right (Nat.le_refl _),Nat.sub_self]at h
    simp only[List.getElem?_cons_zero,Option.some.injEq]at h
    subst h
    rw[List.take_left]
    exact (nextZ_mem hi).2.2.2
  ·exact order_ready ps d nets n m k h
def Btw (d:List Drv) (l:List PortZ):Prop:=l.length=2∧(∀p∈l,∀q∈l,p.2=q.2)∧∃e∈d,(∃p∈l,p.1=(e.1:Int))∧∃p∈l,p.1=(e.2:Int)
structure PgI (c:Cir) (s:State):Prop where
 right:CirR c
 drv:drvE c.parts (netsZ c)=0
 full:∀k,k<(netsZ c).length->countsI c.parts (netsZ c) k=true->k∈(planZ c).order
 gate:∀m k,(planZ c).order[m]?=some k->(valuesOf (gatesP (planZ c).ctl s)).getD ((planZ c).first+m) false=evalE ((planZ c).fed k) (valuesOf (gatesP (planZ c).ctl s))
 line:∀i,i<c.parts.length->1<manyK (kindOf c.parts i)->drivenZ (planZ c).drives i=none->(valuesOf (gatesP (planZ c).ctl s)).getD (((planZ c).line i).getD 0) false=(planZ c).posB s i
theorem PgI.of {c:Cir}(hb:buildE c=0) {s:State}(hR:rightC (planZ c).ctl s=0):PgI c s:=by
 obtain⟨hr,hd,hch,hpl,_⟩:=build_zero hb
 obtain⟨_,hsh,_⟩:=right_zero hR
 have hf:=fine_of hch
 have hact:(planZ c).ctl.actuators=(planZ c).drives.length:=rfl
 have hinp:(planZ c).ctl.inputs.length=(planZ c).butt.length:=by
  show ((planZ c).butt.map _).length=_
  rw[List.length_map]
 obtain⟨g1,g2,g3,g4,g5⟩:=id hsh
 obtain⟨v1,v2,v3⟩:=vals_at (s:=s) (nd:=(planZ c).drives.length) (nb:=(planZ c).butt.length) (by omega) (by omega)
 obtain⟨w1,w2,w3⟩:=vals_at (s:=gatesP (planZ c).ctl s) (nd:=(planZ c).drives.length) (nb:=(planZ c).butt.length) (by show s.ends.length=_;omega) (by show s.inputs.length=_;omega)
 have hfst:(planZ c).first=2*(planZ c).drives.length+(planZ c).butt.length:=rfl
 refine⟨hr,hd,fun k hk hc=>?_,fun m k hm=>?_,fun i hi hk hz=>?_⟩
 ·have h1:=order_rest c.parts (drvN c.parts (netsZ c) c.parts.length) (netsZ c) (manyC c.parts (netsZ c))
  have h2:(orderN c.parts (drvN c.parts (netsZ c) c.parts.length) (netsZ c) (manyC c.parts (netsZ c))).length=manyC c.parts (netsZ c):=by
   unfold planE at hpl
   split at hpl
   ·rename_i h;exact absurd hpl h
   ·split at hpl
    ·rename_i h;exact absurd hpl h
    ·split at hpl
     ·rename_i h;exact h
     ·cases hpl
  have h3:restZ c.parts (netsZ c) (planZ c).order=[]:=List.length_eq_zero_iff.1 (by show (restZ c.parts (netsZ c) (orderN _ _ _ _)).length=0;omega)
  refine Classical.byContradiction fun hn=>?_
  have h4:k∈restZ c.parts (netsZ c) (planZ c).order:=by
   unfold restZ
   rw[List.mem_filter,List.mem_range]
   refine⟨hk,?_⟩
   rw[hc,Bool.true_and,Bool.not_eq_true',List.any_eq_false]
   intro x hx
   simp only[beq_iff_eq]
   rintro rfl
   exact hn hx
  rw[h3]at h4
  cases h4
 ·obtain⟨X,h1,_⟩:=pil_kind (planZ c) (planZ c).drives.length
  have hsg:(planZ c).ctl.signals=(planZ c).order.map (planZ c).netS++(planZ c).valv.map (planZ c).movS++X:=h1
  obtain⟨hml,_⟩:=List.getElem?_eq_some_iff.1 hm
  have hx:(planZ c).ctl.signals[m]?=some ((planZ c).netS k):=by
   rw[hsg,List.append_assoc,List.getElem?_append_left (by simpa using hml),List.getElem?_map,hm]
   rfl
  have hg:=gates_gate hf hsh hx rfl
  rw[List.getD_eq_getElem?_getD,hfst,w3,hg]
  rfl
 ·have hB:(planZ c).posB s i=(valuesOf s).getD (((planZ c).line i).getD 0) false∧(∃n,(planZ c).line i=some n):=by
   obtain⟨n,hn⟩:∃n,(planZ c).line i=some n:=by
    obtain⟨x,hx⟩:∃x,c.parts[i]?=some x:=⟨_,List.getElem?_eq_getElem hi⟩
    have hx2:(planZ c).ps[i]?=some x:=hx
    have hkx:=kindOf_at hx
    unfold Pln.line
    rw[hx2]
    simp only
    split
    ·exact⟨_,rfl⟩
    ·split
     ·exact⟨_,rfl⟩
     ·rename_i h7 h6
      rw[if_pos]
      ·exact⟨_,rfl⟩
      ·refine mem_valvN.2 ⟨hi,?_,hz⟩
       show plusK (kindOf c.parts i)≠[]
       have hpx:=part_kind (hr.part x (List.mem_of_getElem? hx))
       rw[hkx]at hk ⊢
       have key:∀q,q<14->1<manyK q->q≠7->q≠6->plusK q≠[]:=by decide
       exact key _ (by omega) hk (by omega) (by omega)
   refine⟨?_,n,hn⟩
   unfold Pln.posB
   rw[hz,hn]
   simp only[Option.getD_some]
   rw[List.getD_eq_getElem?_getD]
  obtain⟨hB,n,hn⟩:=hB
  rw[hB,hn]
  simp only[Option.getD_some]
  rw[List.getD_eq_getElem?_getD,List.getD_eq_getElem?_getD]
  rcases line_cases (planZ_lim hr) hn with⟨_,hm,hne⟩|⟨_,hne⟩|⟨_,_,hm,hne⟩
  ·have hil:=List.idxOf_lt_length_of_mem hm
   rw[hne,v2 _ (by omega),w2 _ (by omega)]
   rfl
  ·rw[v1 n hne,w1 n hne]
   rfl
  ·rw[hne,hfst,show 2*(planZ c).drives.length+(planZ c).butt.length+(planZ c).order.length+(planZ c).valv.idxOf i=2*(planZ c).drives.length+(planZ c).butt.length+((planZ c).order.length+(planZ c).valv.idxOf i) by omega,v3,w3,gates_keep (valv_kind hm)]
theorem posN_at {p:Pln}{s:State}{i:Nat}(hi:i<p.ps.length):posN (p.pos s) i=if p.posB s i=true then 1 else 0:=by
 unfold posN Pln.pos
 rw[List.getD_eq_getElem?_getD,List.getElem?_map,List.getElem?_range hi]
 simp only[Option.map_some,Option.getD_some,numB]
 cases p.posB s i<;>rfl
theorem posN_many {c:Cir}{s:State}(h:PgI c s) {i:Nat}(hi:i<c.parts.length):posN ((planZ c).pos s) i<manyK (kindOf c.parts i):=by
 rw[posN_at (p:=planZ c) hi]
 cases hB:(planZ c).posB s i with
 | true=>rw[posB_many h.right h.drv s i hB];simp
 | false=>
  have:0<manyK (kindOf c.parts i):=by unfold manyK;split<;>omega
  simpa using this
theorem term_eval {c:Cir}{s:State}(h:PgI c s) {x:PortZ}(hx:x∈allP c.parts) {g:Gift}(hg:g∈giftsZ c.parts (planZ c).drives x) :
  evalE ((planZ c).term g) (valuesOf (gatesP (planZ c).ctl s))=true↔g.pos=posN ((planZ c).pos s) g.part∧(if g.pass.all=true then ∀t∈g.pass.src,evalE ((planZ c).gate g.part t) (valuesOf (gatesP (planZ c).ctl s))=true else ∃t∈g.pass.src,evalE ((planZ c).gate g.part t) (valuesOf (gatesP (planZ c).ctl s))=true):=by
 obtain⟨a1,a2,a3⟩:=given_mem (gifts_mem hg)
 have hsrc:=(pass_to a3).2.1
 obtain⟨i,p,hi,hp,hx1,_⟩:=mem_allN.1 hx
 have hdn:drivenZ (planZ c).drives g.part=none:=by
  unfold giftsZ at hg
  split at hg
  ·cases hg
  ·rename_i hn
   rw[<- a1]at hn
   simpa using hn
 have hgi:g.part<c.parts.length:=by omega
 rw[<- a1]at a2 a3
 have hps:(planZ c).ps=c.parts:=rfl
 have hmany:=posN_many h hgi
 unfold Pln.term
 rw[eval_and (by
  intro e
  have:=(List.append_eq_nil_iff.1 e).2
  split at this
  ·exact hsrc (List.map_eq_nil_iff.1 this)
  ·cases this),List.all_append,Bool.and_eq_true]
 refine and_congr ?_ ?_
 ·rw[hps]
  rcases many_two (kindOf c.parts g.part) with e | e
  ·rw[e]at a2 hmany ⊢
   simp
   omega
  ·have hl:=h.line g.part hgi (by omega) hdn
   have hpn:=posN_at (p:=planZ c) (s:=s) (i:=g.part) hgi
   rw[e]at a2
   rw[hpn,e,if_pos (by omega)]
   by_cases h0:g.pos=0
   ·rw[if_pos h0,h0]
    simp only[List.all_cons,List.all_nil,Bool.and_true,notE,varE,evalE,evalL]
    simp only[Int.toNat_natCast,hl]
    cases (planZ c).posB s g.part<;>simp
   ·have h1:g.pos=1:=by omega
    rw[if_neg h0,h1]
    simp only[List.all_cons,List.all_nil,Bool.and_true,varE,evalE]
    simp only[Int.toNat_natCast,hl]
    cases (planZ c).posB s g.part<;>simp
 ·by_cases ha:g.pass.all=true
  ·rw[if_pos ha,if_pos ha,List.all_map,List.all_eq_true]
   rfl
  ·rw[if_neg ha,if_neg ha]
   simp only[List.all_cons,List.all_nil,Bool.and_true]
   rw[eval_or,List.any_map,List.any_eq_true]
   rfl
theorem order_nodup (c:Cir):(planZ c).order.Nodup:=orderN_nodup _ _ _ _
theorem order_inj {c:Cir}{m n k:Nat}(h1:(planZ c).order[m]?=some k) (h2:(planZ c).order[n]?=some k):m=n:=by
 obtain⟨a1,a2⟩:=List.getElem?_eq_some_iff.1 h1
 obtain⟨b1,b2⟩:=List.getElem?_eq_some_iff.1 h2
 exact (List.getElem_inj (order_nodup c)).1 (a2.trans b2.symm)
theorem gate_eval {c:Cir}(i:Nat) (t:List UInt8) (vs:List Bool):evalE ((planZ c).gate i t) vs=true↔∃m,(planZ c).order[m]?=some (netW (netsZ c) ((i:Int),t))∧vs.getD ((planZ c).first+m) false=true:=by
 have hn:(planZ c).nets=netsZ c:=rfl
 unfold Pln.gate
 rw[hn]
 cases hf:(planZ c).order.findIdx? (netW (netsZ c) ((i:Int),t)==·) with
 | some k=>
  obtain⟨h1,h2,_⟩:=List.findIdx?_eq_some_iff_getElem.1 hf
  have hk:(planZ c).order[k]?=some (netW (netsZ c) ((i:Int),t)):=by
   rw[List.getElem?_eq_getElem h1]
   exact congrArg some (eq_of_beq h2).symm
  simp only[varE,evalE]
  simp only[Int.toNat_natCast]
  constructor
  ·intro h
   exact⟨k,hk,by simpa using h⟩
  ·rintro⟨m,h3,h4⟩
   rw[order_inj h3 hk]at h4
   simpa using h4
 | none=>
  constructor
  ·intro h
   simp[nulE,evalE]at h
  ·rintro⟨m,h3,_⟩
   have:=List.findIdx?_eq_none_iff.1 hf _ (List.mem_of_getElem? h3)
   simp at this
theorem fed_eval {c:Cir}(k:Nat) (vs:List Bool):evalE ((planZ c).fed k) vs=true↔∃x∈(netsZ c).getD k [],kindOf c.parts x.1.toNat=0∨∃g∈giftsZ c.parts (planZ c).drives x,evalE ((planZ c).term g) vs=true:=by
 have hn:(planZ c).nets=netsZ c:=rfl
 have hps:(planZ c).ps=c.parts:=rfl
 unfold Pln.fed
 rw[eval_or,List.any_eq_true]
 unfold Pln.fedL
 rw[hn,hps]
 constructor
 ·rintro⟨a,ha,he⟩
  obtain⟨x,hx,h2⟩:=List.mem_flatMap.1 ha
  refine⟨x,hx,?_⟩
  rcases List.mem_append.1 h2 with h3 | h3
  ·split at h3
   ·rename_i h4;exact .inl h4
   ·cases h3
  ·obtain⟨g,hg,rfl⟩:=List.mem_map.1 h3
   exact .inr ⟨g,hg,he⟩
 ·rintro⟨x,hx,h1 | ⟨g,hg,he⟩⟩
  ·exact⟨⟨0,1,[]⟩,List.mem_flatMap.2 ⟨x,hx,List.mem_append_left _ (by rw[if_pos h1];simp)⟩,by simp[evalE]⟩
  ·exact⟨_,List.mem_flatMap.2 ⟨x,hx,List.mem_append_right _ (List.mem_map.2 ⟨g,hg,rfl⟩)⟩,he⟩
theorem drives_kind {c:Cir}(hd:drvE c.parts (netsZ c)=0) {e:Drv}(h:e∈(planZ c).drives):kindOf c.parts e.1=1∧(kindOf c.parts e.2=2∨kindOf c.parts e.2=3)∧(drivenZ (planZ c).drives e.2).isSome=true:=by
 obtain⟨_,h2,_,_,h5⟩:=mem_drvN hd h
 refine⟨h2,drvB_kind h5,?_⟩
 unfold drivenZ
 rw[List.findIdx?_isSome,List.any_eq_true]
 exact⟨e,h,by simp⟩
theorem btw_two {c:Cir}(hd:drvE c.parts (netsZ c)=0) {l:List PortZ}(h:Btw (planZ c).drives l) {x:PortZ}(hx:x∈l):∃e∈(planZ c).drives,x.1=(e.1:Int)∨x.1=(e.2:Int):=by
 obtain⟨h1,_,e,he,⟨p,hp,hpe⟩,q,hq,hqe⟩:=h
 obtain⟨k1,k2,_⟩:=drives_kind hd he
 have hne:p≠q:=by
  rintro rfl
  have:e.1=e.2:=by omega
  rw[this]at k1
  omega
 refine⟨e,he,?_⟩
 by_cases a:x=q
 ·rw[a];exact .inr hqe
 ·rw[two_mem h1 hx hq hp a hne]
  exact .inl hpe
theorem btw_fed {c:Cir}(hd:drvE c.parts (netsZ c)=0) {k:Nat}(h:Btw (planZ c).drives ((netsZ c).getD k [])) (vs:List Bool):evalE ((planZ c).fed k) vs=false:=by
 rw[<- Bool.not_eq_true]
 intro hf
 obtain⟨x,hx,hg⟩:=(fed_eval k vs).1 hf
 obtain⟨e,he,hxe⟩:=btw_two hd h hx
 obtain⟨k1,k2,k3⟩:=drives_kind hd he
 rcases hxe with a | a<;>rw[a,Int.toNat_natCast]at hg
 ·rcases hg with g0 | ⟨g,hg,_⟩
  ·omega
  ·obtain⟨_,_,a3⟩:=given_mem (gifts_mem hg)
   rw[a,Int.toNat_natCast,k1]at a3
   exact absurd rfl (pass_to a3).2.2.2.2.1
 ·rcases hg with g0 | ⟨g,hg,_⟩
  ·omega
  ·unfold giftsZ at hg
   rw[a,Int.toNat_natCast,if_pos k3]at hg
   cases hg
theorem gate_sound {c:Cir}{s:State}(h:PgI c s):∀N m,m<N->∀k,(planZ c).order[m]?=some k->(valuesOf (gatesP (planZ c).ctl s)).getD ((planZ c).first+m) false=true->Prs c.parts (netsZ c) ((planZ c).pos s) k
 | 0,m,hm,_,_,_=>absurd hm (Nat.not_lt_zero _)
 | N+1,m,hm,k,hk,hv=>by
  rw[h.gate m k hk]at hv
  obtain⟨hkn,_⟩:=orderN_mem _ _ _ _ _ (List.mem_of_getElem? hk)
  have hnk:(netsZ c)[k]?=some ((netsZ c)[k]):=List.getElem?_eq_getElem hkn
  obtain⟨x,hx,hg⟩:=(fed_eval k _).1 hv
  rw[net_getD hnk]at hx
  have hxa:=(netsZ_net h.right _ (List.getElem_mem hkn)).2.2 x hx
  obtain⟨i,p,hi,hp,hx1,hx2⟩:=mem_allN.1 hxa
  have hki:=kindOf_at hp
  have hxi:x.1.toNat=i:=by omega
  have hw:=netW_at hnk hx
  rw[hxi]at hg
  rcases hg with g0 | ⟨g,hg,he⟩
  ·rw[<- hki,g0]at hx2
   have e:x=((i:Int),[49]):=Prod.ext hx1 (by simpa [portsK]using hx2)
   rw[<- hw,e]
   exact .sup i hi g0
  ·have hrd:=order_ready c.parts (drvN c.parts (netsZ c) c.parts.length) (netsZ c) _ m k hk
   obtain⟨a1,a2,a3⟩:=given_mem (gifts_mem hg)
   have hto:g.pass.to=x.2:=by
    have:=gifts_mem hg
    unfold givenZ at this
    obtain⟨n,_,h2⟩:=List.mem_flatMap.1 this
    obtain⟨y,hy,rfl⟩:=List.mem_map.1 h2
    exact eq_of_beq (List.mem_filter.1 hy).2
   have hx0:x=((i:Int),g.pass.to):=Prod.ext hx1 hto.symm
   rw[hxi]at a1 a2 a3
   obtain⟨e1,e2⟩:=(term_eval h hxa hg).1 he
   rw[a1]at e1 e2
   rw[e1]at a3
   have hin:∀t∈g.pass.src,evalE ((planZ c).gate i t) (valuesOf (gatesP (planZ c).ctl s))=true->Prs c.parts (netsZ c) ((planZ c).pos s) (netW (netsZ c) ((i:Int),t)):=fun t ht hgt=>by
    obtain⟨q,hq,hvq⟩:=(gate_eval i t _).1 hgt
    refine gate_sound h N q ?_ _ hq hvq
    unfold readyZ at hrd
    rw[net_getD hnk]at hrd
    have h1:=List.all_eq_true.1 hrd x hx
    have h2:=List.all_eq_true.1 (List.all_eq_true.1 h1 g hg) t ht
    unfold takesZ at h2
    rw[a1]at h2
    have hct:=(orderN_mem _ _ _ _ _ (List.mem_of_getElem? hq)).2
    unfold countsI at hct
    rw[hct]at h2
    simp only[Bool.true_and,Bool.not_not,List.any_eq_true,beq_iff_eq]at h2
    obtain⟨z,hz,rfl⟩:=h2
    obtain⟨j,hj,hje⟩:=List.getElem_of_mem hz
    rw[List.length_take]at hj
    rw[List.getElem_take]at hje
    have:(planZ c).order[j]?=some (netW (netsZ c) ((i:Int),t)):=by
     rw[List.getElem?_eq_getElem (by show j<(orderN _ _ _ _).length;omega)]
     exact congrArg some hje
    rw[order_inj hq this]
    omega
   rw[<- hw,hx0]
   by_cases ha:g.pass.all=true
   ·rw[if_pos ha]at e2
    exact .all i g.pass hi a3 ha fun t ht=>hin t ht (e2 t ht)
   ·rw[if_neg ha]at e2
    obtain⟨t,ht,h3⟩:=e2
    exact .any i g.pass t hi a3 ht (by simpa using ha) (hin t ht h3)
theorem Prs.port {c:Cir}(hr:CirR c) {pos:List Int}(hps:∀i,i<c.parts.length->posN pos i<2) {k:Nat}(h:Prs c.parts (netsZ c) pos k):∃(j:Nat) (u:List UInt8),((j:Int),u)∈allP c.parts∧k=netW (netsZ c) ((j:Int),u)∧(kindOf c.parts j=0∨u=[50]∨u=[52]):=by
 cases h with
 | sup i hi hk=>exact⟨i,[49],port_of hi (by rw[hk];simp[portsK]),rfl,.inl hk⟩
 | all i y hi hy=>exact⟨i,y.to,port_of hi (pass_port _ (pass_to hy).2.2.2.2.2 _ (hps i hi) y hy),rfl,.inr (pass_to hy).1⟩
 | any i y t hi hy=>exact⟨i,y.to,port_of hi (pass_port _ (pass_to hy).2.2.2.2.2 _ (hps i hi) y hy),rfl,.inr (pass_to hy).1⟩
theorem prs_order {c:Cir}{s:State}(h:PgI c s) {i:Nat}{y:PassP}{t:List UInt8}(hi:i<c.parts.length) (hy:y∈passK (kindOf c.parts i) (posN ((planZ c).pos s) i)) (ht:t∈y.src)
  (hp:Prs c.parts (netsZ c) ((planZ c).pos s) (netW (netsZ c) ((i:Int),t))):∃m:Nat,(planZ c).order[m]?=some (netW (netsZ c) ((i:Int),t)):=by
 have hp2:∀j,j<c.parts.length->posN ((planZ c).pos s) j<2:=fun j hj=>by
  have:=posN_many h hj
  rcases many_two (kindOf c.parts j) with e | e<;>omega
 obtain⟨b1,b2,b3,b4,b5,b6⟩:=pass_to hy
 have hpt:=port_of (t:=t) hi (passK_src b6 (hp2 i hi) hy ht)
 obtain⟨l,hl,hml⟩:=netW_some h.right hpt
 obtain⟨j,u,hju,hnk,hk⟩:=hp.port h.right hp2
 obtain⟨l2,hl2,hml2⟩:=netW_some h.right hju
 rw[<- hnk,hl]at hl2
 simp only[Option.some.injEq]at hl2
 subst hl2
 have hne:((i:Int),t)≠((j:Int),u):=by
  intro e
  simp only[Prod.mk.injEq]at e
  obtain⟨e1,rfl⟩:=e
  have e1:i=j:=by omega
  subst e1
  rcases hk with e | rfl | rfl
  ·exact b4 e
  ·rcases b3 _ ht with e | e<;>cases e
  ·rcases b3 _ ht with e | e<;>cases e
 have hlen:1<l.length:=by
  rcases l with _ | ⟨a,_ | ⟨b,l⟩⟩
  ·cases hml
  ·rw[List.mem_singleton]at hml hml2
   exact absurd (hml.trans hml2.symm) hne
  ·simp
 have hc:countsI c.parts (netsZ c) (netW (netsZ c) ((i:Int),t))=true:=by
  unfold countsI countsZ
  rw[net_getD hl]
  simp[hlen]
 obtain⟨m,hm,hme⟩:=List.getElem_of_mem (h.full _ (List.getElem?_eq_some_iff.1 hl).1 hc)
 exact⟨m,by rw[List.getElem?_eq_getElem hm,hme]⟩
theorem gate_complete {c:Cir}{s:State}(h:PgI c s) {k:Nat}(hp:Prs c.parts (netsZ c) ((planZ c).pos s) k):¬Btw (planZ c).drives ((netsZ c).getD k [])->∀m,(planZ c).order[m]?=some k->(valuesOf (gatesP (planZ c).ctl s)).getD ((planZ c).first+m) false=true:=by
 have hp2:∀j,j<c.parts.length->posN ((planZ c).pos s) j<2:=fun j hj=>by
  have:=posN_many h hj
  rcases many_two (kindOf c.parts j) with e | e<;>omega
 -- a net from which a part takes that drives nothing is not between
 have hnb:∀(i:Nat) (y:PassP) (t:List UInt8),i<c.parts.length->y∈passK (kindOf c.parts i) (posN ((planZ c).pos s) i)->t∈y.src->drivenZ (planZ c).drives i=none->¬Btw (planZ c).drives ((netsZ c).getD (netW (netsZ c) ((i:Int),t)) []):=fun i y t hi hy ht hdn hb=>by
  obtain⟨b1,b2,b3,b4,b5,b6⟩:=pass_to hy
  obtain⟨l,hl,hml⟩:=netW_some h.right (port_of (t:=t) hi (passK_src b6 (hp2 i hi) hy ht))
  rw[net_getD hl]at hb
  obtain⟨e,he,hxe⟩:=btw_two h.drv hb hml
  obtain⟨k1,k2,k3⟩:=drives_kind h.drv he
  rcases hxe with a | a
  ·have a:(i:Int)=e.1:=a
   have:i=e.1:=by omega
   rw[this]at b5
   exact b5 k1
  ·have a:(i:Int)=e.2:=a
   have:i=e.2:=by omega
   rw[this]at hdn
   rw[hdn]at k3
   cases k3
 -- a pass of a part that drives nothing
 have hgive:∀(i:Nat) (y:PassP),i<c.parts.length->y∈passK (kindOf c.parts i) (posN ((planZ c).pos s) i)->¬Btw (planZ c).drives ((netsZ c).getD (netW (netsZ c) ((i:Int),y.to)) []) ->
   (drivenZ (planZ c).drives i=none->if y.all=true then ∀t∈y.src,evalE ((planZ c).gate i t) (valuesOf (gatesP (planZ c).ctl s))=true else ∃t∈y.src,evalE ((planZ c).gate i t) (valuesOf (gatesP (planZ c).ctl s))=true) ->
   ∀m,(planZ c).order[m]?=some (netW (netsZ c) ((i:Int),y.to))->(valuesOf (gatesP (planZ c).ctl s)).getD ((planZ c).first+m) false=true:=fun i y hi hy hb hs m hm=>by
  obtain⟨b1,b2,b3,b4,b5,b6⟩:=pass_to hy
  have hport:=port_of (t:=y.to) hi (pass_port _ b6 _ (hp2 i hi) y hy)
  obtain⟨l,hl,hml⟩:=netW_some h.right hport
  cases hdn:drivenZ (planZ c).drives i with
  | some q=>
   exfalso
   apply hb
   obtain⟨h1,h2,_⟩:=List.findIdx?_eq_some_iff_getElem.1 hdn
   have hem:=List.getElem_mem h1
   obtain⟨_,k1,_,_,hbb⟩:=mem_drvN h.drv hem
   obtain⟨_,k2,_⟩:=drives_kind h.drv hem
   have he2:=eq_of_beq h2
   generalize (planZ c).drives[q]=e at *
   unfold drvB at hbb
   simp only[Bool.and_eq_true]at hbb
   have hpz:pairZ (netsZ c) e.1 e.2 y.to=true:=by
    rcases b1 with e' | e'<;>rw[e']
    ·exact hbb.2.1
    ·exact hbb.2.2
   obtain⟨n,l2,f1,f2,f3,f4⟩:=pair_mem hpz
   rw[he2]at f4
   have hnn:=netW_at f1 f4
   rw[hnn]at hl ⊢
   rw[f1]at hl
   simp only[Option.some.injEq]at hl
   subst hl
   rw[net_getD f1]
   have hne:((e.1:Int),y.to)≠((i:Int),y.to):=fun e'=>by
    simp only[Prod.mk.injEq,and_true]at e'
    have:e.1=e.2:=by omega
    rw[this]at k1
    omega
   have hall:∀p∈l2,p.2=y.to:=fun p hp=>by
    by_cases e':p=((i:Int),y.to)
    ·rw[e']
    ·rw[two_mem f2 hp f4 f3 e' hne]
   exact⟨f2,fun p hp q hq=>by rw[hall p hp,hall q hq],e,hem,⟨_,f3,rfl⟩,_,f4,by simp only;omega⟩
  | none=>
   rw[h.gate m _ hm,fed_eval,net_getD hl]
   have hgm:(⟨i,posN ((planZ c).pos s) i,y⟩:Gift)∈giftsZ c.parts (planZ c).drives ((i:Int),y.to):=by
    unfold giftsZ
    simp only[Int.toNat_natCast]
    rw[if_neg (by rw[hdn];simp)]
    unfold givenZ
    simp only[Int.toNat_natCast]
    exact List.mem_flatMap.2 ⟨_,List.mem_range.2 (posN_many h hi),List.mem_map.2 ⟨y,List.mem_filter.2 ⟨hy,by simp⟩,rfl⟩⟩
   exact⟨_,hml,.inr ⟨_,hgm,(term_eval h hport hgm).2 ⟨rfl,hs hdn⟩⟩⟩
 induction hp with
 | sup i hi hk=>
  intro hb m hm
  have hport:=port_of (t:=[49]) hi (by rw[hk];simp[portsK])
  obtain⟨l,hl,hml⟩:=netW_some h.right hport
  rw[h.gate m _ hm,fed_eval,net_getD hl]
  exact⟨_,hml,.inl (by simpa using hk)⟩
 | all i y hi hy ha hsub ih=>
  intro hb m hm
  refine hgive i y hi hy hb (fun hdn=>?_) m hm
  rw[if_pos ha]
  intro t ht
  obtain⟨q,hq⟩:=prs_order h hi hy ht (hsub t ht)
  exact (gate_eval i t _).2 ⟨q,hq,ih t ht (hnb i y t hi hy ht hdn) q hq⟩
 | any i y t hi hy ht ha hsub ih=>
  intro hb m hm
  refine hgive i y hi hy hb (fun hdn=>?_) m hm
  rw[if_neg (by simp[ha])]
  obtain⟨q,hq⟩:=prs_order h hi hy ht hsub
  exact⟨t,ht,(gate_eval i t _).2 ⟨q,hq,ih (hnb i y t hi hy ht hdn) q hq⟩⟩
theorem gate_prs {c:Cir}{s:State}(h:PgI c s) {m k:Nat}(hk:(planZ c).order[m]?=some k) :
  (valuesOf (gatesP (planZ c).ctl s)).getD ((planZ c).first+m) false=true↔Prs c.parts (netsZ c) ((planZ c).pos s) k∧¬Btw (planZ c).drives ((netsZ c).getD k []):=by
 constructor
 ·intro hv
  refine⟨gate_sound h (m+1) m (by omega) k hk hv,fun hb=>?_⟩
  rw[h.gate m k hk,btw_fed h.drv hb]at hv
  cases hv
 ·rintro⟨h1,h2⟩
  exact gate_complete h h1 h2 m hk
theorem pos_two {c:Cir}{s:State}(h:PgI c s):∀j,j<c.parts.length->posN ((planZ c).pos s) j<2:=fun j hj=>by
 have:=posN_many h hj
 rcases many_two (kindOf c.parts j) with e | e<;>omega
def nextK (k n:Nat) (p m:Bool):Nat×Bool:=
 if plusK k=[] then (n,false) else if minusK k=[] then (if p=true then 1 else 0,false) else if p=true∧m=true then (n,true) else if p=true then (1,false) else if m=true then (0,false) else (n,false)
theorem Next_k (k:Nat) (hk:k<14) (n:Nat) (hn:n<manyK k) (p m:Bool):CallFn Tryz.prog 139 [aI k,aI n,aB p,aB m] (.tuple [aI ((nextK k n p m).1:Nat),aB (nextK k n p m).2,aI 0]):=by
 have hf:=placed_k k hk n hn
 have hl:=row_len k hk
 have hc:=row_cell k hk
 obtain⟨h7,h8,-⟩:=row_dat k hk
 obtain⟨h7l,h71⟩:=List.getElem?_eq_some_iff.1 h7
 obtain⟨h8l,h81⟩:=List.getElem?_eq_some_iff.1 h8
 unfold nextK
 refine callFz_of Tryz.func139 rfl Tryz.ntmps139 (rs:=[.tmp 8,.tmp 9,.tmp 10]) rfl (by kernel_rfl) (by simp) (by kernel_rfl) ?_
 simp
 refine hf.s ?_
 generalize rowOf k=R at *
 generalize plusK k=P at *
 generalize minusK k=M at *
 simp
 intro b6
 refine⟨cells_ok hl hc,?_⟩
 simp[hl,h7,h71,h8,h81]
 cases p<;>cases m<;>by_cases hP:P=[]<;>by_cases hM:M=[]<;>simp[hP,hM,h7,h71,h8,h81]


section
open Go.Sort
variable {P:Program}{ρ:Go.Shelf.Ren}
def sortI (zs:List Int):List Int:=zs.mergeSort fun x y=>decide (x<=y)
theorem sortI_len (zs:List Int):(sortI zs).length=zs.length:=by simp[sortI]
theorem sortI_s (Ly:Go.Proofs.Lays.n189 P ρ) (hc:Callable P (ρ.f 189)) {e t:Nat}{h:Value}{zs:List Int}(hz:zs.length<4611686018427387904) :
  CallS P (ρ.f 189) [.own t h] [(t,.seq h e 1 (zs.map rI))] fun r H'=>r=.tuple []∧H'=[(t,.seq h e 1 ((sortI zs).map rI))]:=by
 refine⟨hc,fun x args H0 hi hd=>?_⟩
 obtain rfl:=Ds_one hd
 have hs:=hi.sat _ (List.mem_cons_self)
 rcases ints_own hs with⟨rfl,rfl⟩|⟨g,cap,cur,rfl,h5,h6,h7,h8,h9⟩
 ·refine (Any.slices_Sort_int_none Ly none 0 x.w).mono ?_
  rintro _ _ ⟨rfl,rfl⟩
  exact⟨x,_,.tuple [],_,rfl,rfl,.refl x,by simpa [sortI]using hi,unit_D x,rfl,rfl⟩
 ·refine (Any.slices_Sort_int Ly g 0 cap zs x.w (ints_holds h5 h9) (Array.getElem?_eq_some_iff.1 h5).1 hz).mono ?_
  rintro _ _ ⟨rfl,n,os,rfl⟩
  obtain⟨y,k1,k2,k3⟩:=seq_putRow hi (q:=n) (sortI zs) (sortI_len zs) (sortI zs).length (Nat.le_refl _) os
  rw[List.take_length,sortI_len]at k3
  exact⟨y,_,.tuple [],_,rfl,k1,k2,k3,unit_D y,rfl,rfl⟩
def compI (zs:List Int):List Int:=Go.Lib.compact zs
theorem compI_le (zs:List Int):(compI zs).length<=zs.length:=by
 unfold compI Go.Lib.compact Go.Lib.compactUpTo
 rw[List.length_map]
 exact Nat.le_trans (List.length_filter_le _ _) (by simp)
theorem compI_s (Ly:Go.Proofs.Lays2.n20 P ρ) (hc:Callable P (ρ.f 20)) {e t:Nat}{h:Value}{zs:List Int}(hz:zs.length<=9223372036854775807) :
  CallS P (ρ.f 20) [.own t h] [(t,.seq h e 1 (zs.map rI))] fun r H'=>∃h2,r=.own t h2∧H'=[(t,.seq h2 e 1 ((compI zs).map rI))]:=by
 refine⟨hc,fun x args H0 hi hd=>?_⟩
 obtain rfl:=Ds_one hd
 have hs:=hi.sat _ (List.mem_cons_self)
 rcases ints_own hs with⟨rfl,rfl⟩|⟨g,cap,cur,rfl,h5,h6,h7,h8,h9⟩
 ·refine (Any.slices_Compact_int_empty Ly none 0 x.w).mono ?_
  rintro _ _ ⟨rfl,rfl⟩
  exact⟨x,_,.own t _,_,rfl,rfl,.refl x,hi,by simp only[D];exact⟨rfl,_,_,_,rfl⟩,_,rfl,by simp[compI,Go.Lib.compact,Go.Lib.compactUpTo]⟩
 ·refine (Any.slices_Compact_int Ly g 0 cap zs x.w (ints_holds h5 h9) hz h6).mono ?_
  rintro _ _ ⟨rfl,q,rfl⟩
  have hle:=compI_le zs
  obtain⟨y,k1,k2,k3⟩:=seq_putRow hi (q:=q) (compI zs++List.replicate (zs.length-(compI zs).length) 0) (by simp;omega) (compI zs).length (by simp) #[]
  rw[List.take_left]at k3
  refine⟨y,_,.own t (.slice (some ⟨g,0,none⟩) (compI zs).length cap),_,rfl,by rw[k1,grow_empty];rfl,k2,k3,by simp[D,compI],_,rfl,rfl⟩
end
def metB (M:Nat) (p:Nat->Bool):List Int:=((List.range M).filter p).map fun k:Nat=>(k:Int)
def stepV (k:Int) (v:Bool) (t:Int) (on off:Bool):Bool×Int×Bool:=
 if k=1 then (if on != off then on else v,t,on&&off)
 else if k=2 then (if on=false then (false,0,false) else (v,if t=0 then 1 else t,false))
 else (v,t,false)
def sigStep (c:Control) (s:State) (L:List Bool) (i:Nat):Bool×Int×Bool:=match c.signals[i]?,s.values[i]?,s.timers[i]? with
 | some x,some v,some t=>stepV x.kind v t (evalE x.on L) (x.kind==1&&evalE x.off L)
 | _,_,_=>(false,0,false)
def newV (c:Control) (s:State):List Bool:=(List.range c.signals.length).map fun i=>(sigStep c s (valuesOf s) i).1
def newT (c:Control) (s:State):List Int:=(List.range c.signals.length).map fun i=>(sigStep c s (valuesOf s) i).2.1
def onceS (c:Control) (s:State):State:={ s with values:=newV c s,timers:=newT c s }
def onceB (c:Control) (s:State) (n:Nat):List Int:=((List.range n).filter fun i=>(sigStep c s (valuesOf s) i).2.2).map fun i:Nat=>firstC c+i
def roundS (c:Control) (s:State):State:=onceS c (gatesP c s)
def roundB (c:Control) (s:State):List Int:=onceB c (gatesP c s) c.signals.length
def courseP (c:Control):Nat->Int->State->List Int->Option (State×List Int×Int)
 | 0,_,_,_=>none
 | k+1,n,s,acc=>if roundS c s=s then some (s,acc++roundB c s,n) else courseP c k (n+1) (roundS c s) (acc++roundB c s)
theorem once_shape {c:Control}{s:State}(h:shapeS c s):shapeS c (onceS c s):=by
 obtain⟨h1,h2,h3,h4,h5⟩:=h
 exact⟨h1,h2,h3,by simp[onceS,newV],by simp[onceS,newT]⟩
theorem round_shape {c:Control}{s:State}(h:shapeS c s):shapeS c (roundS c s):=once_shape (gates_shape h)
theorem onceB_succ (c:Control) (s:State) (n:Nat):onceB c s (n+1)=onceB c s n++(if (sigStep c s (valuesOf s) n).2.2 then [firstC c+n] else []):=by
 unfold onceB
 rw[List.range_succ,List.filter_append,List.map_append]
 congr 1
 by_cases h:(sigStep c s (valuesOf s) n).2.2=true<;>simp[h]
theorem onceB_len (c:Control) (s:State) (n:Nat):(onceB c s n).length<=n:=by
 unfold onceB
 rw[List.length_map]
 exact Nat.le_trans (List.length_filter_le _ _) (by simp)
theorem idxE_fn (xs:List Expr) (p:Expr->Bool) (f:FuncId) (first caps:List A) (hx:Sh xs) (hp:∀x∈xs,CallFn Tryz.prog f (first++[aE x]++caps) (aB (p x))) :
  CallFn Tryz.prog 361 [.dat (.sl (xs.map encE)),.fn f first caps] (aI (idxI (xs.findIdx? p))):=by
 refine callFz_of Tryz.func361 rfl Tryz.ntmps361 (rs:=[.tmp 4]) rfl (by kernel_rfl) (by simp) (by kernel_rfl) ?_
 simp
 refine V.forI (σ:=Unit) xs.length [0,1,7] (by simp;exact rfl) (fun i _=>[(8,aI i)]) (fun _ _=>[]) (fun i _=>NoF p (xs.take i)) () (by simp) (by simp) ⟨by simp;exact rfl,by simp⟩ ?_ ?_
 ·rintro i-hi hI
  obtain⟨y,hy⟩:∃y,xs[i]=y:=⟨_,rfl⟩
  have h1:xs[i]?=some y:=by rw[List.getElem?_eq_getElem hi,hy]
  have hs:=findIdx_step (p:=p) hI h1
  have hc:=hp y (List.mem_of_getElem? h1)
  simp at hc
  simp[hi,hy,encE_eq]
  refine hc.s ?_
  cases e:p y
  ·simp
   exact⟨by omega,hs.1 e⟩
  ·rw[hs.2 e]
   simp
 ·rintro-hI
  rw[findIdx_none hI]
  simp
theorem containsE_fn (xs:List Expr) (p:Expr->Bool) (f:FuncId) (first caps:List A) (hx:Sh xs) (hp:∀x∈xs,CallFn Tryz.prog f (first++[aE x]++caps) (aB (p x))) :
  CallFn Tryz.prog 306 [.dat (.sl (xs.map encE)),.fn f first caps] (aB (xs.any p)):=by
 refine callFz_of Tryz.func306 rfl Tryz.ntmps306 (rs:=[.tmp 4]) rfl (by kernel_rfl) (by simp) (by kernel_rfl) ?_
 simp
 refine (idxE_fn xs p f first caps hx hp).s ?_
 simp
 rw[idxI_ge,List.findIdx?_isSome]
theorem value_fn:∀(N:Nat) (x:Expr),SizeOf.sizeOf x<N->OkE x->∀vs:List Bool,vs.length<=256->RightE vs.length x->CallFn Tryz.prog 228 [aE x,aBs vs] (aB (evalE x vs))
 | 0,_,h,_,_,_,_=>absurd h (Nat.not_lt_zero _)
 | N+1,x,hN,hx,vs,hv,hr=>by
  have ih:∀a∈x.args,CallFn Tryz.prog 228 [aE a,aBs vs] (aB (evalE a vs)):=fun a ha=>value_fn N a (by have:=Expr.lt_of_mem ha;omega) (hx.args a ha) vs hv (hr.args a ha)
  have v1:∀a∈x.args,CallFn Tryz.prog 307 ([]++[aE a]++[.rptr [.sl (vs.map encB)]]) (aB (!evalE a vs)):=by
   intro a ha
   have c:=ih a ha
   generalize evalE a vs=b at *
   refine callFz_of Tryz.func307 rfl Tryz.ntmps307 (rs:=[.tmp 3]) rfl (by kernel_rfl) (by simp) (by kernel_rfl) ?_
   simp
   refine c.s ?_
   simp
  have v2:∀a∈x.args,CallFn Tryz.prog 308 ([]++[aE a]++[.rptr [.sl (vs.map encB)]]) (aB (evalE a vs)):=by
   intro a ha
   have c:=ih a ha
   generalize evalE a vs=b at *
   refine callFz_of Tryz.func308 rfl Tryz.ntmps308 (rs:=[.tmp 3]) rfl (by kernel_rfl) (by simp) (by kernel_rfl) ?_
   simp
   refine c.s ?_
   simp
  have k1:=containsE_fn x.args (fun a=>!evalE a vs) 307 [] [.rptr [.sl (vs.map encB)]] hx.len v1
  have k2:=containsE_fn x.args (fun a=>evalE a vs) 308 [] [.rptr [.sl (vs.map encB)]] hx.len v2
  have hn:=hr.node
  have hlen:=hx.len
  have hop:0<=x.op∧x.op<5:=by
   unfold nodeR at hn
   split at hn<;>omega
  obtain ho | ho | ho | ho | ho:x.op=0∨x.op=1∨x.op=2∨x.op=3∨x.op=4:=by omega
  ·refine callFz_of Tryz.func228 rfl Tryz.ntmps228 (rs:=[.tmp 4]) rfl (by kernel_rfl) (by simp) (by kernel_rfl) ?_
   simp[ho,evalE_eq x]
  ·have hix:0<=x.index∧x.index<vs.length:=by
    simp[nodeR,ho]at hn
    omega
   obtain⟨k,hk⟩:∃k:Nat,x.index=k:=⟨x.index.toNat,by omega⟩
   rw[hk]at hix
   have hkl:k<vs.length:=by omega
   refine callFz_of Tryz.func228 rfl Tryz.ntmps228 (rs:=[.tmp 4]) rfl (by kernel_rfl) (by simp) (by kernel_rfl) ?_
   simp[ho,hk,hkl,evalE_eq x]
  ·have hl:x.args.length=1:=by
    simp[nodeR,ho]at hn
    split at hn
    ·cases hn
    ·omega
   obtain⟨y,hy⟩:∃y,x.args=[y]:=List.length_eq_one_iff.1 hl
   have e:evalE x vs = !(evalE y vs):=by
    rw[evalE_eq,if_neg (by omega),if_neg (by omega),if_pos ho,hy]
    simp[evalL]
   have c:=ih y (by simp[hy])
   rw[e]
   generalize evalE y vs=b at *
   refine callFz_of Tryz.func228 rfl Tryz.ntmps228 (rs:=[.tmp 4]) rfl (by kernel_rfl) (by simp) (by kernel_rfl) ?_
   simp[ho,hy]
   refine V.draw (fun t=>if t=26 then some (.fn (aB b)) else none) (by kernel_rfl) (by kernel_rfl) (by simp) ?_
   simp[ho,hy,encE_eq]
   exact c
  ·have e:evalE x vs = !(x.args.any fun a=>!evalE a vs):=by
    rw[evalE_eq,if_neg (by omega),if_neg (by omega),if_neg (by omega),if_pos ho,evalL_all,allT]
    exact List.all_eq_not_any_not
   rw[e]
   generalize (x.args.any fun a=>!evalE a vs)=b at *
   refine callFz_of Tryz.func228 rfl Tryz.ntmps228 (rs:=[.tmp 4]) rfl (by kernel_rfl) (by simp) (by kernel_rfl) ?_
   simp[ho]
   refine k1.s ?_
   simp
  ·have e:evalE x vs=x.args.any fun a=>evalE a vs:=by
    rw[evalE_eq,if_neg (by omega),if_neg (by omega),if_neg (by omega),if_neg (by omega),evalL_any,anyT]
   rw[e]
   generalize (x.args.any fun a=>evalE a vs)=b at *
   refine callFz_of Tryz.func228 rfl Tryz.ntmps228 (rs:=[.tmp 4]) rfl (by kernel_rfl) (by simp) (by kernel_rfl) ?_
   simp[ho]
   refine k2.s ?_
   simp
abbrev aCh (v:Bool) (t:Int) (b:Bool):A:=.record [.bool v,.int .i64 t,.bool b]
theorem rule0_fn (v:Bool) (t:Int) (b on off:Bool):CallFn Tryz.prog 303 [aCh v t b,aB on,aB off] (aCh v t b):=by
 refine callFz_of Tryz.func303 rfl Tryz.ntmps303 (rs:=[.cell 6 304]) rfl (by kernel_rfl) (by simp) (by kernel_rfl) ?_
 simp
theorem rule1_fn (v:Bool) (t:Int) (b on off:Bool):CallFn Tryz.prog 304 [aCh v t b,aB on,aB off] (aCh (if on != off then on else v) t (on&&off)):=by
 refine CallS.agg (az:=[]) ?_
 refine callFz_of Tryz.func304 rfl Tryz.ntmps304 (rs:=[.cell 6 304]) rfl (by kernel_rfl) (by simp) (by kernel_rfl) ?_
 cases on<;>cases off<;>simp
theorem rule2_fn (v:Bool) (t:Int) (on off:Bool):CallFn Tryz.prog 305 [aCh v t false,aB on,aB off] (aCh (if on=false then false else v) (if on=false then 0 else if t=0 then 1 else t) false):=by
 refine CallS.agg (az:=[]) ?_
 refine callFz_of Tryz.func305 rfl Tryz.ntmps305 (rs:=[.cell 6 304]) rfl (by kernel_rfl) (by simp) (by kernel_rfl) ?_
 cases on
 ·simp
 ·by_cases ht:t=0<;>simp[ht]
abbrev rulesA:List A:=[.fn 303 [] [],.fn 304 [] [],.fn 305 [] []]
theorem rules_fn:CallFn Tryz.prog 227 [] (.agg rulesA):=by
 refine callFz_of Tryz.func227 rfl Tryz.ntmps227 (rs:=[.cell 0 301]) rfl (by kernel_rfl) (by simp) (by kernel_rfl) ?_
 simp
theorem growB_o (n:Int) (h0:0<=n) (h1:n<=4294967296):CallOwn Tryz.prog 360 [.nils,aI n] 4 1 []:=by
 refine callO_of Tryz.func360 rfl Tryz.ntmps360 (rs:=[.tmp 4]) rfl (by kernel_rfl) (by simp) (by kernel_rfl) ?_
 by_cases hn:0<n
 ·simp[hn,Int.not_lt.2 h0]
  omega
 ·have e:n=0:=by omega
  subst e
  simp
def sumB (xss:List (List Bool)):Nat:=(xss.map List.length).sum
theorem concatB_o (xss:List (List Bool)) (h:sumB xss<=4294967296) (h1:xss.length<=4294967296):CallOwn Tryz.prog 302 [.dat (.sl (xss.map fun xs=>[.sl (xs.map encB)]))] 4 1 (xss.flatten.map rB):=by
 refine callO_of Tryz.func302 rfl Tryz.ntmps302 (rs:=[.tmp 2]) rfl (by kernel_rfl) (by simp) (by kernel_rfl) ?_
 have hle:∀i,(xss.take i).flatten.length<=sumB xss:=by
  intro i
  have e:xss=xss.take i++xss.drop i:=(List.take_append_drop i xss).symm
  have:sumB xss=sumB (xss.take i)+sumB (xss.drop i):=by
   unfold sumB
   conv=>lhs;rw[e]
   rw[List.map_append,List.sum_append]
  rw[List.length_flatten]
  unfold sumB at this ⊢
  omega
 have hst:∀i y,xss[i]?=some y->(xss.take (i+1)).flatten=(xss.take i).flatten++y:=by
  intro i y hy
  rw[List.take_add_one,hy]
  simp
 obtain⟨L,hL⟩:∃L:Nat->Nat,∀i,L i=(xss.take i).flatten.length:=⟨_,fun _=>rfl⟩
 have hL0:L 0=0:=by simp[hL]
 have hLs:∀i y,xss[i]?=some y->L (i+1)=L i+y.length:=by
  intro i y hy
  rw[hL,hL,hst i y hy,List.length_append]
 have hLm:∀i,L i<=sumB xss:=fun i=>by rw[hL];exact hle i
 simp
 refine V.forI (σ:=Unit) xss.length [0,2,9,10] (by simp;exact rfl) (fun i _=>[(11,aI i),(3,aI (L i))]) (fun _ _=>[]) (fun _ _=>True) () (by simp) (by simp[hL0]) ⟨by simp;exact rfl,by simp⟩ ?_ ?_
 ·rintro i-hi -
  have hy:=List.getElem?_eq_getElem hi
  have hs:=hLs i _ hy
  have hl:=hLm (i+1)
  simp[hi,hs]
  omega
 ·rintro - -
  have hl:=hLm xss.length
  simp
  refine (growB_o _ (by omega) (by omega)).s 50 ?_
  intro hd
  simp
  refine V.forL (γ:=Value) xss [2,25,26] (by simp;exact rfl) (fun i _ g=>[(27,aI i),(6,.own 50 g)]) (fun i _ g=>[(50,.seq g 4 1 ((xss.take i).flatten.map rB))]) (fun (_:Unit) (_:List Bool)=>(Except.ok ():Except Unit Unit)) (fun _ _=>True) () hd trivial (by simp) ⟨by simp;exact rfl,by simp⟩ ?_ ?_
  ·rintro i-g y hi hy - -
   have hy':xss[i]?=some y:=by rw[List.getElem?_eq_getElem hi,hy]
   have hs:=hst i _ hy'
   have hl2:=hle (i+1)
   rw[hs,List.length_append]at hl2
   rw[hs]
   generalize (xss.take i).flatten=zs at hl2
   simp[hi,hy]
   omega
  ·rintro-g - -
   simp
abbrev encM (c:Control) (s:State):List L:=encC c++(encSt s++[.int .i64 (firstC c)])
theorem lines_d (c:Control) (s:State) (h:SmS s):CallOwn Tryz.prog 226 [.rptr (encM c s)] 4 1 ((valuesOf s).map rB):=by
 obtain⟨h1,h2,h3,h4,h5⟩:=h
 refine callO_of Tryz.func226 rfl Tryz.ntmps226 (rs:=[.tmp 2]) rfl (by kernel_rfl) (by simp) (by kernel_rfl) ?_
 simp
 refine V.forI (σ:=Value) s.ends.length [0,2,10,11] (by simp;exact rfl) (fun i g=>[(12,aI i),(3,.own 50 g)]) (fun i g=>[(50,.seq g 4 1 ((endsV (s.ends.take i)).map rB))]) (fun _ _=>True) (.slice none 0 0) trivial (by simp) ⟨by simp;exact rfl,by simp[endsV]⟩ ?_ ?_
 ·rintro i g hi -
  obtain⟨x,hx⟩:∃x,s.ends[i]=x:=⟨_,rfl⟩
  have hs:=endsV_take (show s.ends[i]?=some x by rw[List.getElem?_eq_getElem hi,hx])
  have hl:=endsV_length (s.ends.take i)
  rw[List.length_take]at hl
  rw[hs]
  generalize endsV (s.ends.take i)=zs at hl ⊢
  simp[hi,hx]
  omega
 ·rintro g -
  have hl:=endsV_length s.ends
  rw[List.take_length]
  have hv:valuesOf s=endsV s.ends++s.inputs++s.values:=rfl
  rw[hv]
  generalize endsV s.ends=zs at hl ⊢
  simp
  refine V.frz1 3 (τ:=50) (h:=g) (e:=4) (sz:=1) (rows:=zs.map rB) (by simp) (by simp[hget]) (by simp) ?_
  refine V.draw (fun t=>if t=36 then some (.own 4 1 ((zs++s.inputs++s.values).map rB)) else none) (by kernel_rfl) (by kernel_rfl) (by simp[hdel]) ?_
  have hcc:=concatB_o [zs,s.inputs,s.values] (by simp[sumB];omega) (by simp)
  simp at hcc
  simp[hdel]
  exact hcc
theorem Inv.same {x:X}{H:Heap}{t:Nat}{e e':Ent}(hi:Inv x ((t,e)::H)) (ho:∀b,e'.own b->e.own b) (hs:e.sat x->e'.sat x):Inv x ((t,e')::H):=by
 have hap:=List.pairwise_cons.1 hi.apart
 refine⟨hi.bd,?_,?_,List.pairwise_cons.2 ⟨fun p hp b h1 h2=>hap.1 p hp b (ho b h1) h2,hap.2⟩⟩
 ·intro p hp
  rcases List.mem_cons.1 hp with rfl | hp
  ·exact hs (hi.sat (t,e) (by simp))
  ·exact hi.sat p (by simp[hp])
 ·intro p hp b hb
  rcases List.mem_cons.1 hp with rfl | hp
  ·exact hi.own (t,e) (by simp) b (ho b hb)
  ·exact hi.own p (by simp[hp]) b hb
abbrev mcA (c:Control) (g:Nat->Value):List A:=[.dat (.int .i64 c.actuators),.dat (.sl (c.inputs.map encT)),.dat (.sl (c.signals.map encS)),.dat (.sl (c.plus.map encI)),.dat (.sl (c.minus.map encI)),.own 60 (g 0),.own 61 (g 1),.own 62 (g 2),.own 63 (g 3),.own 64 (g 4),aI (firstC c)]
abbrev mcH (bm:Nat) (c:Control) (g:Nat->Value) (s:State):Heap:=[(70,.box bm (mcA c g)),(60,.seq (g 0) 3 1 (s.ends.map rI)),(61,.seq (g 1) 4 1 (s.valves.map rB)),(62,.seq (g 2) 4 1 (s.inputs.map rB)),(63,.seq (g 3) 4 1 (s.values.map rB)),(64,.seq (g 4) 3 1 (s.timers.map rI))]
theorem lines_s {bm:Nat}{c:Control}{g:Nat->Value}{s:State}(hs:SmS s) (τ:Nat) {H:Heap}{K:A->Heap->Prop}(hH:∃R,H=mcH bm c g s++R) (hk:∀hd,K (.own τ hd) ((τ,.seq hd 4 1 ((valuesOf s).map rB))::H)) :
  CallS Tryz.prog 226 [.ptr 70 bm 0] H K:=by
 obtain⟨R,rfl⟩:=hH
 refine (lines_d c s hs).lendP τ (cs:=mcA c g) ?_ ?_ ?_ ?_ hk
 ·simp[hget]
 ·simp[hget,encC,encSt]
 ·simp
 ·intro h;simp
theorem copied_st (s:State) (h:SmS s):CallSt 153 [aSt s] s:=by
 obtain⟨h1,h2,h3,h4,h5⟩:=h
 refine CallSt.of (callS_of Tryz.func153 rfl Tryz.ntmps153 (rs:=[.cell 2 29]) rfl (by kernel_rfl) (by simp) (by kernel_rfl) ?_)
 simp
 intro b2
 refine V.draw (fun t=>if t=5 then some (.own 3 1 (s.ends.map rI)) else if t=8 then some (.own 4 1 (s.valves.map rB)) else if t=11 then some (.own 4 1 (s.inputs.map rB)) else if t=14 then some (.own 4 1 (s.values.map rB)) else if t=17 then some (.own 3 1 (s.timers.map rI)) else none) (by kernel_rfl) (by kernel_rfl) (by simp) ?_
 simp
 intro u0
 refine⟨cloneI_o s.ends (by omega),fun u1=>⟨cloneB_o s.valves (by omega),fun u2=>⟨cloneB_o s.inputs (by omega),fun u3=>⟨cloneB_o s.values (by omega),fun u4=>⟨cloneI_o s.timers (by omega),?_⟩⟩⟩⟩⟩
 simp[stAt,hget,hdel]
theorem CallSt.sts {g:FuncId}{az:List A}{s:State}(h:CallSt g az s):CallSts Tryz.prog g az [(3,1,s.ends.map rI),(4,1,s.valves.map rB),(4,1,s.inputs.map rB),(4,1,s.values.map rB),(3,1,s.timers.map rI)]:=by
 refine CallS.mono h ?_
 rintro r H' ⟨hh,rfl,rfl⟩
 exact⟨.agg #[hh 0,hh 1,hh 2,hh 3,hh 4],rfl,rfl⟩
theorem of_s (c:Control) (s:State) (hc:OkC c) (hs:SmS s):CallS Tryz.prog 81 [aC c,aSt s] [] fun r H'=>(rightC c s=0->∃bm g,r=.tuple [.ptr 70 bm 0,aI 0]∧H'=mcH bm c g s)∧(rightC c s≠0->r=.tuple [.nilp,aI (rightC c s)]∧H'=[]):=by
 have h:CallS Tryz.prog 81 [aC c,aSt s] [] fun r H'=>(rightC c s=0->∃bm u,r=.tuple [.ptr 24 bm 0,aI 0]∧subP ((24,.box bm ([.dat (.int .i64 c.actuators),.dat (.sl (c.inputs.map encT)),.dat (.sl (c.signals.map encS)),.dat (.sl (c.plus.map encI)),.dat (.sl (c.minus.map encI)),.own 100150 (uf u 0),.own 100151 (uf u 1),.own 100152 (uf u 2),.own 100153 (uf u 3),.own 100154 (uf u 4),aI (firstC c)]))::spreadL 100150 0 (hdrsL u 0 [(3,1,s.ends.map rI),(4,1,s.valves.map rB),(4,1,s.inputs.map rB),(4,1,s.values.map rB),(3,1,s.timers.map rI)])) H')∧(rightC c s≠0->r=.tuple [.nilp,aI (rightC c s)]):=by
  refine callS_of Tryz.func81 rfl Tryz.ntmps81 (rs:=[.tmp 4,.tmp 5]) rfl (by kernel_rfl) (by simp) (by kernel_rfl) ?_
  simp
  refine (Right_fn c s hc hs).s ?_
  simp
  by_cases hz:rightC c s=0
  ·obtain⟨z1,z2,z3⟩:=right_zero hz
   have hf:=fine_of z1
   have ha:=hf.act
   have hin:=hf.inp
   have hsg:=hf.sig
   simp[hz]
   refine V.drawS (fun t=>if t=15 then some (.sts [(3,1,s.ends.map rI),(4,1,s.valves.map rB),(4,1,s.inputs.map rB),(4,1,s.values.map rB),(3,1,s.timers.map rI)]) else none) (by kernel_rfl) (by kernel_rfl) (by simp) ?_
   simp
   exact fun u=>⟨(copied_st s hs).sts,by omega,by omega,fun b=>⟨fun _=>⟨u,subP.refl _⟩,hz⟩⟩
  ·simp[hz]
 have h2:=CallS.dropP (K':=fun r H'=>(rightC c s=0->∃bm u,r=.tuple [.ptr 24 bm 0,aI 0]∧H'=(24,Ent.box bm ([.dat (.int .i64 c.actuators),.dat (.sl (c.inputs.map encT)),.dat (.sl (c.signals.map encS)),.dat (.sl (c.plus.map encI)),.dat (.sl (c.minus.map encI)),.own 100150 (uf u 0),.own 100151 (uf u 1),.own 100152 (uf u 2),.own 100153 (uf u 3),.own 100154 (uf u 4),aI (firstC c)]))::spreadL 100150 0 (hdrsL u 0 [(3,1,s.ends.map rI),(4,1,s.valves.map rB),(4,1,s.inputs.map rB),(4,1,s.values.map rB),(3,1,s.timers.map rI)]))∧(rightC c s≠0->r=.tuple [.nilp,aI (rightC c s)]∧H'=[])) h (by
  rintro r H' ⟨k1,k2⟩
  by_cases hz:rightC c s=0
  ·obtain⟨bm,u,e1,e2⟩:=k1 hz
   exact⟨_,e2,fun _=>⟨bm,u,e1,rfl⟩,fun h=>absurd hz h⟩
  ·exact⟨[],⟨[],List.nil_sublist _,List.Perm.refl _⟩,fun h=>absurd h hz,fun _=>⟨k2 hz,rfl⟩⟩)
 refine⟨h2.1,fun x args H0 hi hd=>(h2.2 x args H0 hi hd).mono ?_⟩
 rintro _ _ ⟨y,v,r,H',rfl,rfl,hle,hi',hv,k1,k2⟩
 by_cases hz:rightC c s=0
 ·obtain⟨bm,u,rfl,rfl⟩:=k1 hz
  refine⟨y,v,.tuple [.ptr 70 bm 0,aI 0],mcH bm c (uf u) s,rfl,rfl,hle,?_,?_,fun _=>⟨bm,uf u,rfl,rfl⟩,fun h=>absurd hz h⟩
  ·have h3:=hi'.same (e':=.box bm (mcA c (uf u))) (fun _ h=>h) (by
    rintro⟨cs,ty,q1,q2⟩
    refine⟨cs,ty,q1,?_⟩
    generalize cs.toList=l at q2
    rcases l with _ | ⟨a0,_ | ⟨a1,_ | ⟨a2,_ | ⟨a3,_ | ⟨a4,_ | ⟨a5,_ | ⟨a6,_ | ⟨a7,_ | ⟨a8,_ | ⟨a9,_ | ⟨a10,l⟩⟩⟩⟩⟩⟩⟩⟩⟩⟩⟩<;>simp only[Ds,D]at q2 ⊢<;>exact q2)
   exact h3.ents (by simp)
  ·simp only[D]at hv ⊢
   obtain⟨vs,e,hds⟩:=hv
   refine⟨vs,e,?_⟩
   generalize vs.toList=l at hds
   rcases l with _ | ⟨a0,_ | ⟨a1,l⟩⟩<;>simp only[Ds,D]at hds ⊢<;>exact hds
 ·obtain⟨rfl,rfl⟩:=k2 hz
  exact⟨y,v,_,[],rfl,rfl,hle,hi',hv,fun h=>absurd h hz,fun _=>⟨rfl,rfl⟩⟩
theorem mgates_s {bm:Nat}{c:Control}{g:Nat->Value}{s:State}(hc:OkC c) (hf:Fine c) (hsh:shapeS c s):CallS Tryz.prog 225 [.ptr 70 bm 0] (mcH bm c g s) fun _ H'=>H'=mcH bm c g (gatesP c s):=by
 have hsm:=sm_of hf hsh
 have ha:=hf.act
 have hin:=hf.inp
 have hsg:=hf.sig
 have hpl:=preV_length hsh
 refine CallS.dropP (callS_of Tryz.func225 rfl Tryz.ntmps225 (rs:=[]) rfl (by kernel_rfl) (by simp) (by kernel_rfl) (K:=fun _ H'=>subP (mcH bm c g (gatesP c s)) H') ?_) (fun _ _ h=>⟨_,h,rfl⟩)
 simp[mcH]
 refine lines_s (bm:=bm) (c:=c) (g:=g) (s:=s) hsm 71 ⟨[],by simp⟩ fun h2=>?_
 simp
 refine V.forI (σ:=Unit) c.signals.length [0,2,12,13] (by simp;exact rfl) (fun i _=>[(14,aI i)]) (fun i _=>[(63,.seq (g 3) 4 1 ((gvals c s i).map rB)),(71,.seq h2 4 1 ((preV s++gvals c s i).map rB))]) (fun _ _=>True) () trivial (by simp) ⟨by simp;exact rfl,by simp[gvals,hget,hdel,valuesOf_eq]⟩ ?_ ?_
 ·rintro i-hi -
  obtain⟨x,hx⟩:∃x,c.signals[i]=x:=⟨_,rfl⟩
  have hxo:c.signals[i]?=some x:=by rw[List.getElem?_eq_getElem hi,hx]
  have hgl:=gvals_length c s i
  obtain⟨hon,-⟩:=hf.on hxo
  obtain⟨r1,r2,r3⟩:=right_of_check hon
  rw[gvals_at hxo]
  generalize gvals c s i=l at hgl ⊢
  have hil:i<l.length:=by obtain⟨_,_,_,h4,_⟩:=hsh;omega
  have hgi:l[i]?=some l[i]:=List.getElem?_eq_getElem hil
  have hl':((preV s++l).length:Int)=countC c:=by
   have:=valuesOf_length (c:=c) (s:={ s with values:=l }) ⟨hsh.1,hsh.2.1,hsh.2.2.1,hgl.trans hsh.2.2.2.1,hsh.2.2.2.2⟩
   exact this
  simp[hi,hx]
  intro b4
  by_cases hk:x.kind=0
  ·simp[hi,hx,hk]
   have ev:=value_fn (SizeOf.sizeOf x.on+1) x.on (by omega) (hc.sigs x (List.mem_of_getElem? hxo)).on (preV s++l) (by omega) (by rw[hl'];exact r1)
   refine ev.lend (by simp[hget,packA,encE_eq]) (by simp) ?_
   rw[valuesOf_with]
   generalize evalE x.on (preV s++l)=b
   simp
   have hpl2:(preV s).length<=10000000:=by unfold firstC at hpl;omega
   have ht:(((preV s).length:Int)+i).toNat=(preV s).length+i:=by omega
   have hA:(List.map rB (preV s)++List.map rB l)[(preV s).length+i]?=some [A.dat (L.bool l[i])]:=by
    rw[List.getElem?_append_right (by simp)]
    simp[hgi,rB,hil]
   have hS:∀r,(List.map rB (preV s)++List.map rB l).set ((preV s).length+i) r=List.map rB (preV s)++(List.map rB l).set i r:=by
    intro r
    rw[List.set_append_right _ _ (by simp)]
    simp
   refine V.draw (fun _=>none) (by kernel_rfl) (by kernel_rfl) (by simp) ?_
   simp[mcA,<- hpl,hi,hx,hk,hgi,hil,rB,ht,hA,hS]
   omega
  ·simp[hi,hx,hk]
   omega
 ·rintro - -
  simp
  exact⟨_,List.Sublist.cons_cons _ (List.Sublist.cons _ (List.Sublist.refl _)),(List.perm_middle (l₁:=[_,_,_,_]) (l₂:=[_]) (a:=_)).symm⟩
end Go.Proofs.YtafamcbdaeppoaaGreatDoor
